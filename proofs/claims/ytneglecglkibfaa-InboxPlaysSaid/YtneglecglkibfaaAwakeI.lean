/-
  The laws' awake: a box that takes a commit. Conditions: none.
-/
import Derived.Test.YtneglecglkibfaaBoxT
namespace Go.Proofs.Ytneglecglkibfaa
open Go.RowKit Go.Maps
set_option linter.unusedVariables false

theorem box0_ok (k : Int) (h : k ≤ 1152921504606846976) : (box0 k).ok := by
  refine ⟨?_, ?_, ?_, ?_, ?_, ?_, ?_, ?_, ?_, ?_⟩ <;> simp [box0] <;> omega
theorem awake_any (w : World) : Calls Try.prog 14 #[] w fun e w' => e = .returned (.bool true) ∧ Below w.heap.size w w' := by
  go_enter Try.func14, Try.ntmps14
  go_wp2_with (first
    | (go_at_call 8; refine (new_any _ _ (by omega)).mono ?_; rintro e w1 ⟨b, m, rfl, hb, hm, hB, hb1⟩)
    | (go_at_call 11; refine (put_ok _ _ b m _ _ [] (box0 3) hB ⟨5, 0, 0, []⟩ none 0 3 (by show (3 : Int) = max 3 0 + ((([] : List R).length : Nat) : Int); simp; omega) (box0_ok 3 (by omega)) (by simp [box0]) (by simp) (Cells.nil _ _) hb1.size).mono ?_; rintro e w2 ⟨vl', vd', q, rfl, hq, hB2, ht2, _, _, _⟩)
    | (go_at_call 17; refine (applied_any _ _ b m _ _ _ _ hB2).mono ?_; rintro e w3 ⟨rfl, rfl⟩; simp only [box0, show max (3 : Int) 0 = 3 from by omega]))
  go_ret
  · refine ⟨by simp, Turns.below ht2 hb1 (fun g hg => ?_)⟩
    rcases hg with rfl | rfl | e | e
    · exact hb
    · exact hm
    · cases e
    · cases e
  all_goals omega
end Go.Proofs.Ytneglecglkibfaa
