/-
  The walk of the law HistIdeal: whatever data come in, the call returns true and leaves what was there. Conditions: the arguments' cells lie as the hypotheses say.
-/
import Derived.Test.YtiapolcpebilmaaIdealT
import Derived.Test.YtiapolcpebilmaaLiesP
import Derived.Test.YtiapolcpebilmaaCheckT
import Derived.Test.YtiapolcpebilmaaAwakeH
namespace Go.Proofs.Ytiapolcpebilmaa.lawHistIdeal
open Go.RowKit Go.ChangeShapes Go.WideShapes Go.Deep Go.Maps Go.ChangeAt
set_option linter.unusedVariables false

set_option maxRecDepth 100000 in
set_option maxHeartbeats 4000000 in
theorem walk (A : Option Addr) (n c : Nat) (l : List SI) (w : World) (hn : l.length = n) (hm : n ≤ 9223372036854775807) (hA : Cells w A (flatSI l)) (hall : ∀ x ∈ l, x.at w) : Calls Try.prog 6 #[.slice A n c] w fun e w' => e = .returned (.bool true) ∧ Below w.heap.size w w' := by
  have hchk := Lib.hid (ideal_check (l.map SI.p))
  go_enter Try.func6, Try.ntmps6
  go_wp2_with fail
  refine (ideal_any A n c l w hn hm hA hall (fun x hx => (hall x hx).wf)).mono ?_
  rintro e w1 ⟨D, cp, L, rfl, hown, hrows, hmap, b1⟩
  have hlen : L.length ≤ 30 := by have h := congrArg List.length hmap; rw [List.length_map] at h; unfold idealL at h; rw [idealTo_len _ _ (by omega)] at h; omega
  have HM := Lib.hid hmap
  clear hmap
  go_wp2_with fail
  refine (hcheck_any D L.length cp L w1 rfl (Cells.of_own hown) (by omega) hrows.ok).mono ?_
  rintro e w2 ⟨rfl, b2⟩
  rw [HM.out, hchk.out]
  go_wp2_with fail
  refine (awake_any _).mono ?_
  rintro e w3 ⟨rfl, b3⟩
  go_wp2
  go_ret
  exact ⟨rfl, below_own b1 (below_own b2 b3)⟩
end Go.Proofs.Ytiapolcpebilmaa.lawHistIdeal
