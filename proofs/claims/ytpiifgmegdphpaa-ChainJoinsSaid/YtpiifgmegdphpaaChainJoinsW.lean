/-
  The walk of the law ChainJoins: whatever data come in, the call returns true and leaves what was there. Conditions: the arguments' cells lie as the hypotheses say.
-/
import Derived.Test.YtpiifgmegdphpaaJoin
import Derived.Test.YtpiifgmegdphpaaSame
import Derived.Test.YtpiifgmegdphpaaChainAt2
import Derived.Test.YtpiifgmegdphpaaGreat
namespace Go.Proofs.Ytpiifgmegdphpaa.lawChainJoins
open Go.ChangeShapes Go.WideShapes Go.ChangeAt Go.RowKit
set_option linter.unusedVariables false

set_option maxHeartbeats 1000000 in
theorem walk (A B : Option Addr) (n c m d : Nat) (a b : List V) (w : World) (ha : a.length = n) (hb : b.length = m) (hn : n ≤ 9223372036854775807) (hm : m ≤ 9223372036854775807) (hA : Cells w A (flatV a)) (hB : Cells w B (flatV b)) :
    Calls Try.prog 9 #[.slice A n c, .slice B m d] w fun e w' => e = .returned (.bool true) ∧ Below w.heap.size w w' := by
  by_cases hg : 120 < n
  · go_enter Try.func9, Try.ntmps9
    go_wp2_with (first
      | (go_at_call 19; refine (great_yes _ _ _ _ hg).mono ?_; rintro e w1 ⟨rfl, rfl⟩)
      | (go_at_call 14; refine (awake_any _).mono ?_; rintro e w2 ⟨rfl, hb2⟩))
    go_ret
    exact ⟨rfl, hb2⟩
  · have tok : True := trivial
    by_cases hg2 : 120 < m
    · go_enter Try.func9, Try.ntmps9
      go_wp2_with (first
        | (go_at_call 19; have _t := tok; refine (great_no _ _ _ _ (by omega)).mono ?_; rintro e w1 ⟨rfl, rfl⟩; clear tok)
        | (go_at_call 19; refine (great_yes _ _ _ _ hg2).mono ?_; rintro e w1 ⟨rfl, rfl⟩)
        | (go_at_call 14; refine (awake_any _).mono ?_; rintro e w2 ⟨rfl, hb2⟩))
      go_ret
      exact ⟨rfl, hb2⟩
    · obtain ⟨out, ho⟩ : ∃ out, joinL a b = out := ⟨_, rfl⟩
      have hle : out.length ≤ n + m := by
        rw [← ho]; unfold joinL
        cases hj : joinTo a b b.length with
        | none => simp
        | some o => have := joinTo_len _ _ hj; simp; omega
      have HO := Lib.hid ho
      clear ho
      go_enter Try.func9, Try.ntmps9
      go_wp2_with (first
        | (go_at_call 19; refine (great_no _ _ _ _ (by omega)).mono ?_; rintro e w1 ⟨rfl, rfl⟩)
        | (go_at_call 24; refine (join_any _ _ _ _ _ _ a b _ ha hb (by omega) (by omega) hA hB).mono ?_; rintro e w2 ⟨D2, cp2, rfl, hown2, hb2⟩; rw [HO.out] at hown2 ⊢)
        | (go_at_call 25; refine (rjoin_any _ _ _ _ _ _ a b _ ha hb (by omega) (by omega) (hA.on hb2) (hB.on hb2)).mono ?_; rintro e w3 ⟨D3, cp3, rfl, hown3, hb3⟩; rw [HO.out] at hown3 ⊢)
        | (go_at_call 14; refine (awake_any _).mono ?_; rintro e w4 ⟨rfl, hb4⟩)
        | (go_at_call 17; refine (same_any _ _ _ _ _ out _ rfl (by omega) (Cells.of_own (own_on (own_on hown2 hb3) hb4)) (Cells.of_own (own_on hown3 hb4))).mono ?_; rintro e w5 ⟨rfl, hb5⟩))
      go_ret
      exact ⟨rfl, below_own (below_own (below_own hb2 hb3) hb4) hb5⟩
end Go.Proofs.Ytpiifgmegdphpaa.lawChainJoins
