/-
  The walk of great: has a list more than a statement goes through? Conditions: none.
-/
import Derived.Test.YtpiifgmegdphpaaChecked
import Derived.WalkKit
namespace Go.Proofs.Ytpiifgmegdphpaa
open Go.RowKit
set_option linter.unusedVariables false


theorem great_yes (A : Option Addr) (n c : Nat) (w : World) (h : 120 < n) : Calls Try.prog 19 #[.slice A n c] w fun e w' => e = .returned (.bool true) ∧ w = w' := by
  have h1 : (120 : Int) < (n : Int) := by omega
  go_enter Try.func19, Try.ntmps19
  go_wp2
  go_ret
  exact ⟨rfl, rfl⟩
theorem great_no (A : Option Addr) (n c : Nat) (w : World) (h : n ≤ 120) : Calls Try.prog 19 #[.slice A n c] w fun e w' => e = .returned (.bool false) ∧ w = w' := by
  have h1 : ¬ (120 : Int) < (n : Int) := by omega
  go_enter Try.func19, Try.ntmps19
  go_wp2
  go_ret
  exact ⟨rfl, rfl⟩
end Go.Proofs.Ytpiifgmegdphpaa
