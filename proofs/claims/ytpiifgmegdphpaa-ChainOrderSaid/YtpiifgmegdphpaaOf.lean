/-
  The walk of the law's own Of: a chain of the versions of any list. Conditions: the list's cells lie as the hypotheses say.
-/
import Derived.Test.YtpiifgmegdphpaaRput
import Derived.Test.YtpiifgmegdphpaaSortP
namespace Go.Proofs.Ytpiifgmegdphpaa
open Go.RowKit
set_option linter.unusedVariables false


/-- what Of answers. -/
def OfIs (l : List V) (w : World) (e : Ending) (w' : World) : Prop := ∃ (D : Option Addr) (cp : Nat), e = .returned (.slice D (ofV l).length cp) ∧ w'.ownsRow w.heap.size 25 6 (.slice D (ofV l).length cp) (ofV l).length (flatV (ofV l)) ∧ Below w.heap.size w w'

set_option maxHeartbeats 1000000 in
theorem of_any (A : Option Addr) (n c : Nat) (l : List V) (w : World) (hn : l.length = n) (hm : n ≤ 9223372036854775807) (hA : Cells w A (flatV l)) :
    Calls Try.prog 18 #[.slice A n c] w (OfIs l w) := by
  go_enter Try.func18, Try.ntmps18
  go_wp2
  go_loopw [3, 4] (fun o i wr => ∃ (k : Nat) (D : Option Addr) (cp : Nat), k ≤ n ∧ k ≤ 40 ∧ i = .int .i64 k ∧ o = .slice D (ofTo l k).length cp ∧ wr.ownsRow w.heap.size 25 6 (.slice D (ofTo l k).length cp) (ofTo l k).length (flatV (ofTo l k)) ∧ Below w.heap.size w wr) (fun _ i _ => n - (intOf i).toNat)
  case atStart => exact ⟨0, none, 0, Nat.zero_le _, by omega, rfl, rfl, World.ownsRow_nil _ _ _ _, Below.refl _ _⟩
  case round =>
    obtain ⟨k, D, cp, hk, hk40, rfl, rfl, hown, hbel⟩ := hrel
    have hlen := ofTo_len l k
    have hsz := hbel.size
    by_cases hlt : k < n ∧ k < 40
    · obtain ⟨hlt, hlt40⟩ := hlt
      obtain ⟨x, hx⟩ : ∃ x, l[k]? = some x := ⟨_, List.getElem?_eq_getElem (by omega)⟩
      obtain ⟨b, off, rfl, hc⟩ := hA.ver hx
      obtain ⟨x0, x1, x2, x3, x4, x5⟩ := hc k x hx
      have x0' := cell_on hbel x0
      have x1' := cell_on hbel x1
      have x2' := cell_on hbel x2
      have x3' := cell_on hbel x3
      have x4' := cell_on hbel x4
      have x5' := cell_on hbel x5
      have g3 : (0 : Int) ≤ (k : Int) := by omega
      have g4 : (k : Int) < (n : Int) := by omega
      have g5 : (k : Int) < 40 := by omega
      clear hc
      cases hf : free (ofTo l k) x
      · have hq := ofTo_no hx hf
        have HQ := Lib.hid hq
        clear hq
        rcases putE_bad hf with he | he
        all_goals
          have HE := Lib.hid he
          clear he
          go_wp2_with (go_at_call 21; refine (rput_any D _ cp (ofTo l k) x _ rfl (by omega) (Cells.of_own hown)).mono ?_; rintro e w1 ⟨D1, cp1, rfl, hown1, hb1⟩; rw [HE.out])
          go_roundw
          case rel => exact ⟨k + 1, D, cp, by omega, by omega, by go_num, by rw [HQ.out], by rw [HQ.out]; exact own_on hown hb1, below_own hbel hb1⟩
          case measure => simp [intOf]; omega
      · have hq := ofTo_yes hx hf
        have hpl : putL (ofTo l k) x = ofTo l (k + 1) := by rw [hq]; unfold putL; rw [if_pos hf]
        have HPL := Lib.hid hpl
        have HE := Lib.hid (putE_ok hf)
        clear hq hpl
        go_wp2_with (go_at_call 21; refine (rput_any D _ cp (ofTo l k) x _ rfl (by omega) (Cells.of_own hown)).mono ?_; rintro e w1 ⟨D1, cp1, rfl, hown1, hb1⟩; rw [HE.out, HPL.out])
        go_roundw
        case rel => exact ⟨k + 1, D1, cp1, by omega, by omega, by go_num, rfl, by have h := own_weaken hown1 hsz; rwa [HPL.out] at h, below_own hbel hb1⟩
        case measure => simp [intOf]; omega
    · have he : ofTo l k = ofV l := by unfold ofV; congr 1; omega
      have HE := Lib.hid he
      clear he
      by_cases hkn : k < n
      · have hd : decide ((k : Int) < 40) = false := by simp; omega
        go_wp2
        go_ret
        exact ⟨D, cp, by rw [← HE.out]; rfl, by rw [← HE.out]; exact hown, hbel⟩
      · go_wp2
        go_ret
        exact ⟨D, cp, by rw [← HE.out]; rfl, by rw [← HE.out]; exact hown, hbel⟩
end Go.Proofs.Ytpiifgmegdphpaa
