/-
  The walks of the two joins. Conditions: the lists' cells lie as the hypotheses say, and they are short.
-/
import Derived.Test.YtpiifgmegdphpaaPut
import Derived.Test.YtpiifgmegdphpaaJoinP
namespace Go.Proofs.Ytpiifgmegdphpaa
open Go.RowKit
set_option linter.unusedVariables false


theorem own_cap {w : World} {base : Nat} {e : TypeId} {size n cp : Nat} {D : Option Addr} {xs : List Value} (h : w.ownsRow base e size (.slice D n cp) n xs) : n ≤ cp := by
  obtain ⟨_, ⟨hv, h0⟩ | ⟨g, cap, cur, hv, _, _, hc, _⟩⟩ := h
  · omega
  · injection hv with _ _ e; omega
theorem own_empty (w : World) : (w.alloc (.cells #[] 25)).ownsRow w.heap.size 25 6 (.slice (some ⟨w.heap.size, 0, none⟩) 0 0) 0 [] :=
  ⟨rfl, .inr ⟨w.heap.size, 0, #[], rfl, Nat.le_refl _, heap_alloc_new w _, Nat.le_refl _, Nat.zero_le _, rfl, rfl⟩⟩
/-- what Join answers. -/
def JoinIs (a b : List V) (w : World) (e : Ending) (w' : World) : Prop := ∃ (D : Option Addr) (cp : Nat), e = .returned (.tuple #[.slice D (joinL a b).length cp, .int .i64 (joinE a b)]) ∧
  w'.ownsRow w.heap.size 25 6 (.slice D (joinL a b).length cp) (joinL a b).length (flatV (joinL a b)) ∧ Below w.heap.size w w'

set_option maxHeartbeats 1000000 in
theorem join_any (A B : Option Addr) (n c m d : Nat) (a b : List V) (w : World) (ha : a.length = n) (hb : b.length = m) (hn : n ≤ 1000) (hm : m ≤ 1000) (hA : Cells w A (flatV a)) (hB : Cells w B (flatV b)) :
    Calls Try.prog 24 #[.slice A n c, .slice B m d] w (JoinIs a b w) := by
  obtain ⟨i0, hi0, hz0, hz1, hz2⟩ := info_parts infoVer
  go_enter Try.func24, Try.ntmps24
  go_wp2_with (at_builtin; refine wpList_append_cells _ rfl _ _ 22 rfl w.heap.size 25 i0 (.agg #[.string ⟨#[]⟩, .string ⟨#[]⟩, .bool false, .int .u64 0, .int .i64 0, .int .i64 0]) 6 64 Try.underlying22 hi0 hz0 hz1 hz2 rfl (by omega) _ _ _ rfl (World.ownsRow_nil w w.heap.size 25 6) _ n _ (flatV a) rfl (by rw [flatV_length, ha]) hA (one_flat _) (by unfold maxLen; omega) (by omega) ((own_refl w)).size ?_; intro D0 cp0 w1 hown1 hgrow1; simp only [Nat.zero_add, List.nil_append] at hown1)
  have hb1 : Below w.heap.size w w1 := below_grown (own_refl w) (World.ownsRow_nil w w.heap.size 25 6) (Nat.le_refl _) hgrow1
  have HG := Lib.hid hgrow1
  clear hgrow1
  subst ha
  go_loopw [6, 15] (fun o i wr => ∃ (k : Nat) (D : Option Addr) (cp : Nat) (out : List V), k ≤ m ∧ i = .int .i64 k ∧ joinTo a b k = some out ∧ o = .slice D out.length cp ∧ wr.ownsRow w.heap.size 25 6 (.slice D out.length cp) out.length (flatV out) ∧ Below w.heap.size w wr) (fun _ i _ => m - (intOf i).toNat)
  case atStart => exact ⟨0, D0, cp0, a, Nat.zero_le _, rfl, rfl, rfl, hown1, hb1⟩
  case round =>
    obtain ⟨k, D, cp, o, hk, rfl, hj, rfl, hown, hbel⟩ := hrel
    have hlen := joinTo_len k o hj
    have HJ := Lib.hid hj
    clear hj
    have hcap := own_cap hown
    have hsz := hbel.size
    by_cases hlt : k < m
    · obtain ⟨x, hx⟩ : ∃ x, b[k]? = some x := ⟨_, List.getElem?_eq_getElem (by omega)⟩
      obtain ⟨bb, off, rfl, hc⟩ := hB.ver hx
      obtain ⟨x0, x1, x2, x3, x4, x5⟩ := hc k x hx
      have x0' := cell_on hbel x0
      have x1' := cell_on hbel x1
      have x2' := cell_on hbel x2
      have x3' := cell_on hbel x3
      have x4' := cell_on hbel x4
      have x5' := cell_on hbel x5
      have g3 : (0 : Int) ≤ (k : Int) := by omega
      have g4 : (k : Int) < (m : Int) := by omega
      clear hc
      cases hf : free o x
      · have HF := Lib.hid hf
        clear hf
        rcases putE_bad HF.out with he | he
        · have HE := Lib.hid he
          clear he
          go_wp2_with (go_at_call 20; refine (put_any D _ cp o x _ rfl (by omega) hcap (Cells.of_own (hown.alloc _))).mono ?_; rintro e w2 ⟨D2, cp2, rfl, hown2, hb2⟩; rw [HE.out])
          go_roundw
          case rel => exact ⟨k + 1, D, cp, o, by omega, by go_num, joinTo_there HJ.out hx HF.out HE.out, rfl, own_on (hown.alloc _) hb2, below_own (own_alloc hbel _) hb2⟩
          case measure => simp [intOf]; omega
        · have HE := Lib.hid he
          clear he
          have hnone := joinTo_none (joinTo_form HJ.out hx HF.out HE.out) b.length (by omega)
          have HN := Lib.hid hnone
          clear hnone
          go_wp2_with (go_at_call 20; refine (put_any D _ cp o x _ rfl (by omega) hcap (Cells.of_own (hown.alloc _))).mono ?_; rintro e w2 ⟨D2, cp2, rfl, hown2, hb2⟩; rw [HE.out])
          go_ret2
          unfold JoinIs joinL joinE
          rw [HN.out]
          exact ⟨none, 0, rfl, World.ownsRow_nil _ _ _ _, below_own (own_alloc hbel _) hb2⟩
      · have HF := Lib.hid hf
        have hpl : putL o x = ins o x := by unfold putL; rw [if_pos hf]
        have HPL := Lib.hid hpl
        have HE := Lib.hid (putE_ok hf)
        clear hf hpl
        go_wp2_with (go_at_call 20; refine (put_any D _ cp o x _ rfl (by omega) hcap (Cells.of_own (hown.alloc _))).mono ?_; rintro e w2 ⟨D2, cp2, rfl, hown2, hb2⟩; rw [HE.out]; rw [HPL.out] at hown2 ⊢)
        go_roundw
        case rel => exact ⟨k + 1, D2, cp2, ins o x, by omega, by go_num, joinTo_put HJ.out hx HF.out, rfl, own_weaken hown2 (own_alloc hbel _).size, below_own (own_alloc hbel _) hb2⟩
        case measure => simp [intOf]; omega
    · obtain rfl : k = m := by omega
      have hjl : joinL a b = o := by unfold joinL; rw [hb, HJ.out]; rfl
      have hje : joinE a b = 0 := by unfold joinE; rw [hb, HJ.out]
      have HL := Lib.hid hjl
      have HE := Lib.hid hje
      clear hjl hje
      go_wp2
      go_ret2
      unfold JoinIs
      rw [HL.out, HE.out]
      exact ⟨D, cp, rfl, hown, hbel⟩

set_option maxHeartbeats 1000000 in
theorem rjoin_any (A B : Option Addr) (n c m d : Nat) (a b : List V) (w : World) (ha : a.length = n) (hb : b.length = m) (hn : n ≤ 1000) (hm : m ≤ 1000) (hA : Cells w A (flatV a)) (hB : Cells w B (flatV b)) :
    Calls Try.prog 25 #[.slice A n c, .slice B m d] w (JoinIs a b w) := by
  obtain ⟨i0, hi0, hz0, hz1, hz2⟩ := info_parts infoVer
  go_enter Try.func25, Try.ntmps25
  go_wp2_with (at_builtin; refine wpList_append_cells _ rfl _ _ 22 rfl w.heap.size 25 i0 (.agg #[.string ⟨#[]⟩, .string ⟨#[]⟩, .bool false, .int .u64 0, .int .i64 0, .int .i64 0]) 6 64 Try.underlying22 hi0 hz0 hz1 hz2 rfl (by omega) _ _ _ rfl (own_empty w) _ n _ (flatV a) rfl (by rw [flatV_length, ha]) (hA.on (own_alloc (own_refl _) _)) (one_flat _) (by unfold maxLen; omega) (by omega) ((own_alloc (own_refl w) _)).size ?_; intro D0 cp0 w1 hown1 hgrow1; simp only [Nat.zero_add, List.nil_append] at hown1)
  have hb1 : Below w.heap.size w w1 := below_grown (own_alloc (own_refl w) _) (own_empty w) (Nat.le_refl _) hgrow1
  have HG := Lib.hid hgrow1
  clear hgrow1
  subst ha
  go_loopw [6, 7] (fun o i wr => ∃ (k : Nat) (D : Option Addr) (cp : Nat) (out : List V), k ≤ m ∧ i = .int .i64 k ∧ joinTo a b k = some out ∧ o = .slice D out.length cp ∧ wr.ownsRow w.heap.size 25 6 (.slice D out.length cp) out.length (flatV out) ∧ Below w.heap.size w wr) (fun _ i _ => m - (intOf i).toNat)
  case atStart => exact ⟨0, D0, cp0, a, Nat.zero_le _, rfl, rfl, rfl, hown1, hb1⟩
  case round =>
    obtain ⟨k, D, cp, o, hk, rfl, hj, rfl, hown, hbel⟩ := hrel
    have hlen := joinTo_len k o hj
    have HJ := Lib.hid hj
    clear hj
    have hcap := own_cap hown
    have hsz := hbel.size
    by_cases hlt : k < m
    · obtain ⟨x, hx⟩ : ∃ x, b[k]? = some x := ⟨_, List.getElem?_eq_getElem (by omega)⟩
      obtain ⟨bb, off, rfl, hc⟩ := hB.ver hx
      obtain ⟨x0, x1, x2, x3, x4, x5⟩ := hc k x hx
      have x0' := cell_on hbel x0
      have x1' := cell_on hbel x1
      have x2' := cell_on hbel x2
      have x3' := cell_on hbel x3
      have x4' := cell_on hbel x4
      have x5' := cell_on hbel x5
      have g3 : (0 : Int) ≤ (k : Int) := by omega
      have g4 : (k : Int) < (m : Int) := by omega
      clear hc
      cases hf : free o x
      · have HF := Lib.hid hf
        clear hf
        rcases putE_bad HF.out with he | he
        · have HE := Lib.hid he
          clear he
          go_wp2_with (go_at_call 21; refine (rput_any D _ cp o x _ rfl (by omega) (Cells.of_own hown)).mono ?_; rintro e w2 ⟨D2, cp2, rfl, hown2, hb2⟩; rw [HE.out])
          go_roundw
          case rel => exact ⟨k + 1, D, cp, o, by omega, by go_num, joinTo_there HJ.out hx HF.out HE.out, rfl, own_on hown hb2, below_own (hbel) hb2⟩
          case measure => simp [intOf]; omega
        · have HE := Lib.hid he
          clear he
          have hnone := joinTo_none (joinTo_form HJ.out hx HF.out HE.out) b.length (by omega)
          have HN := Lib.hid hnone
          clear hnone
          go_wp2_with (go_at_call 21; refine (rput_any D _ cp o x _ rfl (by omega) (Cells.of_own hown)).mono ?_; rintro e w2 ⟨D2, cp2, rfl, hown2, hb2⟩; rw [HE.out])
          go_ret2
          unfold JoinIs joinL joinE
          rw [HN.out]
          exact ⟨none, 0, rfl, World.ownsRow_nil _ _ _ _, below_own (hbel) hb2⟩
      · have HF := Lib.hid hf
        have hpl : putL o x = ins o x := by unfold putL; rw [if_pos hf]
        have HPL := Lib.hid hpl
        have HE := Lib.hid (putE_ok hf)
        clear hf hpl
        go_wp2_with (go_at_call 21; refine (rput_any D _ cp o x _ rfl (by omega) (Cells.of_own hown)).mono ?_; rintro e w2 ⟨D2, cp2, rfl, hown2, hb2⟩; rw [HE.out]; rw [HPL.out] at hown2 ⊢)
        go_roundw
        case rel => exact ⟨k + 1, D2, cp2, ins o x, by omega, by go_num, joinTo_put HJ.out hx HF.out, rfl, own_weaken hown2 (hbel).size, below_own (hbel) hb2⟩
        case measure => simp [intOf]; omega
    · obtain rfl : k = m := by omega
      have hjl : joinL a b = o := by unfold joinL; rw [hb, HJ.out]; rfl
      have hje : joinE a b = 0 := by unfold joinE; rw [hb, HJ.out]
      have HL := Lib.hid hjl
      have HE := Lib.hid hje
      clear hjl hje
      go_wp2
      go_ret2
      unfold JoinIs
      rw [HL.out, HE.out]
      exact ⟨D, cp, rfl, hown, hbel⟩

end Go.Proofs.Ytpiifgmegdphpaa
