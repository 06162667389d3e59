/-
  The walk of the law ChainTrims: whatever data come in, the call returns true and leaves what was there. Conditions: the arguments' cells lie as the hypotheses say.
-/
import Derived.Test.YtpiifgmegdphpaaTrim
import Derived.Test.YtpiifgmegdphpaaChainAt2
import Derived.Test.YtpiifgmegdphpaaSame
namespace Go.Proofs.Ytpiifgmegdphpaa.lawChainTrims
open Go.ChangeShapes Go.WideShapes Go.ChangeAt Go.RowKit
set_option linter.unusedVariables false

set_option maxHeartbeats 1000000 in
theorem walk (A : Option Addr) (n c : Nat) (l : List V) (snap : Int) (w : World) (hn : l.length = n) (hm : n * 64 ≤ 140737488351232) (hA : Cells w A (flatV l)) :
    Calls Try.prog 4 #[.slice A n c, .int .u64 snap] w fun e w' => e = .returned (.bool true) ∧ Below w.heap.size w w' := by
  obtain ⟨out, ho⟩ : ∃ out, trimmed l (seen l snap n) = out := ⟨_, rfl⟩
  have hle : out.length ≤ n := by rw [← ho, ← hn]; exact trimmed_le _ _
  have HO := Lib.hid ho
  clear ho
  go_enter Try.func4, Try.ntmps4
  go_wp2_with (first
    | (go_at_call 15; refine (trim_is _ _ _ l _ _ hn hm hA).mono ?_; rintro e w1 ⟨D1, cp1, rfl, hown1, hb1⟩; rw [HO.out] at hown1 ⊢)
    | (go_at_call 16; refine (rtrim_is _ _ _ l _ _ hn hm (hA.on hb1)).mono ?_; rintro e w2 ⟨D2, cp2, rfl, hown2, hb2⟩; rw [HO.out] at hown2 ⊢)
    | (go_at_call 14; refine (awake_any _).mono ?_; rintro e w3 ⟨rfl, hb3⟩)
    | (go_at_call 17; refine (same_any _ _ _ _ _ out _ rfl (by omega) (Cells.of_own (own_on (own_on hown1 hb2) hb3)) (Cells.of_own (own_on hown2 hb3))).mono ?_; rintro e w4 ⟨rfl, hb4⟩))
  go_ret
  exact ⟨rfl, below_own (below_own (below_own hb1 hb2) hb3) hb4⟩
end Go.Proofs.Ytpiifgmegdphpaa.lawChainTrims
