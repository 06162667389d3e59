/-
  The walk of the law ChainPuts: whatever data come in, the call returns true and leaves what was there. Conditions: the arguments' cells lie as the hypotheses say.
-/
import Derived.Test.YtpiifgmegdphpaaPut
import Derived.Test.YtpiifgmegdphpaaSame
import Derived.Test.YtpiifgmegdphpaaChainAt2
import Derived.Test.YtpiifgmegdphpaaGreat
namespace Go.Proofs.Ytpiifgmegdphpaa.lawChainPuts
open Go.ChangeShapes Go.WideShapes Go.ChangeAt Go.RowKit
set_option linter.unusedVariables false

set_option maxHeartbeats 1000000 in
theorem walk (A : Option Addr) (n c : Nat) (l : List V) (v : V) (w : World) (hn : l.length = n) (hm : n ≤ 9223372036854775807) (hk : n ≤ c) (hA : Cells w A (flatV l)) :
    Calls Try.prog 6 #[.slice A n c, .agg #[.string v.key, .string v.val, .bool v.gone, .int .u64 v.ts, .int .i64 v.dc, .int .i64 v.tx]] w fun e w' => e = .returned (.bool true) ∧ Below w.heap.size w w' := by
  by_cases hg : 120 < n
  · go_enter Try.func6, Try.ntmps6
    go_wp2_with (first
      | (go_at_call 19; refine (great_yes _ _ _ _ hg).mono ?_; rintro e w1 ⟨rfl, rfl⟩)
      | (go_at_call 14; refine (awake_any _).mono ?_; rintro e w2 ⟨rfl, hb2⟩))
    go_ret
    exact ⟨rfl, below_box hb2⟩
  · obtain ⟨out, ho⟩ : ∃ out, putL l v = out := ⟨_, rfl⟩
    have hle : out.length ≤ n + 1 := by rw [← ho, ← hn]; unfold putL; split; rw [ins_len]; exact Nat.le_refl _; simp
    have HO := Lib.hid ho
    clear ho
    have hA1 : Cells (w.alloc (.cells #[.string v.key, .string v.val, .bool v.gone, .int .u64 v.ts, .int .i64 v.dc, .int .i64 v.tx] 25)) A (flatV l) := hA.on (own_alloc (own_refl _) _)
    go_enter Try.func6, Try.ntmps6
    go_wp2_with (first
      | (go_at_call 19; refine (great_no _ _ _ _ (by omega)).mono ?_; rintro e w1 ⟨rfl, rfl⟩)
      | (go_at_call 20; refine (put_any _ _ _ l v _ hn (by omega) hk hA1).mono ?_; rintro e w2 ⟨D2, cp2, rfl, hown2, hb2⟩; rw [HO.out] at hown2 ⊢; have v0 : w2.cell? ⟨w.heap.size, 0, none⟩ = some (.string v.key) := (box_on hb2).1 0; have v1 : w2.cell? ⟨w.heap.size, 1, none⟩ = some (.string v.val) := (box_on hb2).1 1; have v2 : w2.cell? ⟨w.heap.size, 2, none⟩ = some (.bool v.gone) := (box_on hb2).1 2; have v3 : w2.cell? ⟨w.heap.size, 3, none⟩ = some (.int .u64 v.ts) := (box_on hb2).1 3; have v4 : w2.cell? ⟨w.heap.size, 4, none⟩ = some (.int .i64 v.dc) := (box_on hb2).1 4; have v5 : w2.cell? ⟨w.heap.size, 5, none⟩ = some (.int .i64 v.tx) := (box_on hb2).1 5)
      | (go_at_call 21; refine (rput_any _ _ _ l v _ hn (by omega) (hA1.on hb2)).mono ?_; rintro e w3 ⟨D3, cp3, rfl, hown3, hb3⟩; rw [HO.out] at hown3 ⊢)
      | (go_at_call 14; refine (awake_any _).mono ?_; rintro e w4 ⟨rfl, hb4⟩)
      | (go_at_call 17; refine (same_any _ _ _ _ _ out _ rfl (by omega) (Cells.of_own (own_on (own_on hown2 hb3) hb4)) (Cells.of_own (own_on hown3 hb4))).mono ?_; rintro e w5 ⟨rfl, hb5⟩))
    go_ret
    exact ⟨rfl, below_box (below_own (below_own (below_own hb2 hb3) hb4) hb5)⟩
end Go.Proofs.Ytpiifgmegdphpaa.lawChainPuts
