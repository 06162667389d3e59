/-
  The order of marks: the walks of sign, Cmp, Less and Of. Conditions: none.
-/
import Derived.Test.YtneglecglkibfaaChecked
import Derived.Test.YtneglecglkibfaaVers
import Derived.WalkKit
import Derived.Outline
namespace Go.Proofs.Ytneglecglkibfaa
open Go.RowKit
set_option linter.unusedVariables false

theorem ret_val {u v : Value} (h : u = v) : Ending.returned u = .returned v := by rw [h]

theorem mark_eq (a b c x y z : Int) (w : World) : (binOp .eql 61 (.agg #[.int .u64 a, .int .i64 b, .int .i64 c]) (.agg #[.int .u64 x, .int .i64 y, .int .i64 z])).run Try.prog w = .ok (.bool (a == x && (b == y && c == z))) w := by
  cases h1 : (a == x) <;> cases h2 : (b == y) <;> cases h3 : (c == z)
  all_goals go_simp

end Go.Proofs.Ytneglecglkibfaa
