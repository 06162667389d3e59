/-
  The walk of the law ChainBoth: whatever data come in, the call returns true and leaves what was there. Conditions: the arguments' cells lie as the hypotheses say.
-/
import Derived.Test.YtpiifgmegdphpaaOf
import Derived.Test.YtpiifgmegdphpaaJoin
import Derived.Test.YtpiifgmegdphpaaUniteP
import Derived.Test.YtpiifgmegdphpaaSame
import Derived.Test.YtpiifgmegdphpaaChainAt2
import Derived.Test.YtpiifgmegdphpaaFrame
namespace Go.Proofs.Ytpiifgmegdphpaa.lawChainBoth
open Go.ChangeShapes Go.WideShapes Go.ChangeAt Go.RowKit
set_option linter.unusedVariables false

/-- what two sublists of the first k are: together all of them. -/
def Split (L : List V) (k : Nat) (A B : List V) : Prop := A.Sublist (L.take k) ∧ B.Sublist (L.take k) ∧ ∀ x ∈ L.take k, x ∈ A ∨ x ∈ B
theorem Split.left {L A B : List V} {k : Nat} {x : V} (h : Split L k A B) (hx : L[k]? = some x) : Split L (k + 1) (A ++ [x]) B := by
  obtain ⟨h1, h2, h3⟩ := h
  unfold Split
  rw [takeS hx]
  refine ⟨h1.append (List.Sublist.refl _), h2.trans (List.sublist_append_left _ _), fun y hy => ?_⟩
  rcases List.mem_append.1 hy with hy | hy
  · rcases h3 y hy with h | h
    · exact .inl (List.mem_append.2 (.inl h))
    · exact .inr h
  · exact .inl (List.mem_append.2 (.inr hy))
theorem Split.right {L A B : List V} {k : Nat} {x : V} (h : Split L k A B) (hx : L[k]? = some x) : Split L (k + 1) A (B ++ [x]) := by
  obtain ⟨h1, h2, h3⟩ := h
  unfold Split
  rw [takeS hx]
  refine ⟨h1.trans (List.sublist_append_left _ _), h2.append (List.Sublist.refl _), fun y hy => ?_⟩
  rcases List.mem_append.1 hy with hy | hy
  · rcases h3 y hy with h | h
    · exact .inl h
    · exact .inr (List.mem_append.2 (.inl h))
  · exact .inr (List.mem_append.2 (.inr hy))
theorem Split.both {L A B : List V} {k : Nat} {x : V} (h : Split L k A B) (hx : L[k]? = some x) : Split L (k + 1) (A ++ [x]) (B ++ [x]) := by
  obtain ⟨h1, h2, h3⟩ := h
  unfold Split
  rw [takeS hx]
  refine ⟨h1.append (List.Sublist.refl _), h2.append (List.Sublist.refl _), fun y hy => ?_⟩
  rcases List.mem_append.1 hy with hy | hy
  · rcases h3 y hy with h | h
    · exact .inl (List.mem_append.2 (.inl h))
    · exact .inr (List.mem_append.2 (.inl h))
  · exact .inl (List.mem_append.2 (.inr hy))
theorem joins_to {L a b : List V} (hL : Rising L) (ha : Rising a) (haL : ∀ x ∈ a, x ∈ L) (hbL : ∀ x ∈ b, x ∈ L) (hc : ∀ x ∈ L, x ∈ a ∨ x ∈ b) : joinL a b = L ∧ joinE a b = 0 := by
  obtain ⟨o, hj, hr, hm⟩ := join_unite hL ha haL hbL b.length (Nat.le_refl _)
  have e : o = L := rising_ext o L hr hL fun x => by
    rw [hm x, List.take_length]
    constructor
    · rintro (h | h)
      · exact haL x h
      · exact hbL x h
    · exact hc x
  subst e
  unfold joinL joinE
  rw [hj]
  exact ⟨rfl, rfl⟩
theorem split_joins {L a b : List V} (hL : Rising L) (h : Split L L.length a b) : (joinL a b = L ∧ joinE a b = 0) ∧ (joinL b a = L ∧ joinE b a = 0) ∧ (joinL L b = L ∧ joinE L b = 0) := by
  obtain ⟨h1, h2, h3⟩ := h
  rw [List.take_length] at h1 h2 h3
  have m1 : ∀ x ∈ a, x ∈ L := fun x hx => h1.subset hx
  have m2 : ∀ x ∈ b, x ∈ L := fun x hx => h2.subset hx
  exact ⟨joins_to hL (List.Pairwise.sublist h1 hL) m1 m2 h3, joins_to hL (List.Pairwise.sublist h2 hL) m2 m1 fun x hx => (h3 x hx).symm, joins_to hL hL (fun _ h => h) m2 fun _ h => .inl h⟩
/-- two rows of the call's own lie in two blocks. -/
def Apart (va vb : Value) : Prop := ∀ j, va.ownBlock = some j → vb.ownBlock ≠ some j
theorem Apart.symm {va vb : Value} (h : Apart va vb) : Apart vb va := fun j h1 h2 => h j h2 h1
theorem Apart.keeps {va vb : Value} (h : Apart va vb) : vb.ownBlock = none ∨ vb.ownBlock ≠ va.ownBlock := by
  cases hb : vb.ownBlock with
  | none => exact .inl rfl
  | some j => exact .inr fun e => h j e.symm hb
theorem Apart.grown {w : World} {va vb : Value} {base : Nat} {e : TypeId} {size n g m c : Nat} {xs : List Value} (h : Apart va vb) (hb : w.ownsRow base e size vb n xs) (hat : va.ownBlock = some g ∨ g = w.heap.size) : Apart (.slice (some ⟨g, 0, none⟩) m c) vb := by
  intro j h1 h2
  have e1 : some g = some j := h1
  injection e1 with e1
  subst e1
  rcases hat with ha | ha
  · exact h g ha h2
  · have := (hb.lt g h2).2
    omega
theorem box_past {w w' : World} {cs : Array Value} {t : TypeId} {o : Obj} {v : Value} {base : Nat} {e : TypeId} {size n : Nat} {xs : List Value} (hown : w.ownsRow base e size v n xs) (hg : ((w.alloc (.cells cs t)).alloc o).grownBy w' v.ownBlock) : ∀ j, w'.cell? ⟨w.heap.size, j, none⟩ = cs[j]? := by
  intro j
  have h1 : w'.heap[w.heap.size]? = ((w.alloc (.cells cs t)).alloc o).heap[w.heap.size]? := hg.block _ (by simp; omega) fun e => by
    have := (hown.lt _ e.symm).2
    omega
  have h2 : ((w.alloc (.cells cs t)).alloc o).heap[w.heap.size]? = some (.cells cs t) := ((World.grownBy_alloc (w.alloc (.cells cs t)) o none).block _ (by simp) (by simp)).trans (heap_alloc_new w _)
  exact cell_of_row _ _ _ _ _ _ (h1.trans h2)
theorem base_up {w X : World} (h : Below w.heap.size w X) : w.heap.size ≤ X.heap.size := h.size

set_option maxHeartbeats 2000000 in
theorem walk' (A I : Option Addr) (n c m d : Nat) (l L : List V) (zs : List Int) (w : World) (hn : l.length = n) (hm : n ≤ 9223372036854775807) (hA : Cells w A (flatV l)) (hz : zs.length = m) (hmm : m ≤ 9223372036854775807) (hI : Cells w I (zs.map (Value.int .i64)))
    (wz : ∀ z ∈ zs, -9223372036854775808 ≤ z ∧ z ≤ 9223372036854775807) (hL : ofV l = L) (hr : Rising L) (hL40 : L.length ≤ 40) :
    Calls Try.prog 10 #[.slice A n c, .slice I m d] w fun e w' => e = .returned (.bool true) ∧ Below w.heap.size w w' := by
  obtain ⟨i0, hi0, hz0, hz1, hz2⟩ := info_parts infoVer
  have HL := Lib.hid hL
  have HR := Lib.hid hr
  clear hL hr
  go_enter Try.func10, Try.ntmps10
  go_wp2_with (go_at_call 18; refine (of_any _ _ _ l _ hn hm hA).mono ?_; rintro e w1 ⟨D, cp, rfl, hown, hb1⟩; rw [HL.out] at hown ⊢)
  have hI1 := hI.on hb1
  go_loopw [5, 6, 20] (fun a b i wr => ∃ (k : Nat) (Da : Option Addr) (ca : Nat) (Db : Option Addr) (cb : Nat) (A' B' : List V), k ≤ L.length ∧ i = .int .i64 k ∧ a = .slice Da A'.length ca ∧ b = .slice Db B'.length cb ∧ wr.ownsRow w1.heap.size 25 6 (.slice Da A'.length ca) A'.length (flatV A') ∧ wr.ownsRow w1.heap.size 25 6 (.slice Db B'.length cb) B'.length (flatV B') ∧ Apart (.slice Da A'.length ca) (.slice Db B'.length cb) ∧ Split L k A' B' ∧ Below w1.heap.size w1 wr) (fun _ _ i _ => L.length - (intOf i).toNat)
  case atStart => exact ⟨0, none, 0, none, 0, [], [], Nat.zero_le _, rfl, rfl, rfl, World.ownsRow_nil _ _ _ _, World.ownsRow_nil _ _ _ _, (fun j h => by cases h), ⟨List.Sublist.refl _, List.Sublist.refl _, fun x hx => by simp at hx⟩, Below.refl _ _⟩
  case round =>
    obtain ⟨k, Da, ca, Db, cb, A', B', hk, rfl, rfl, rfl, hA, hB, hap, hsp, hbel⟩ := hrel
    have hlA : A'.length ≤ 40 := by have := hsp.1.length_le; rw [List.length_take] at this; omega
    have hlB : B'.length ≤ 40 := by have := hsp.2.1.length_le; rw [List.length_take] at this; omega
    have HSP := Lib.hid hsp
    clear hsp
    by_cases hlt : k < L.length
    · obtain ⟨x, hx⟩ : ∃ x, L[k]? = some x := ⟨_, List.getElem?_eq_getElem (by omega)⟩
      obtain ⟨bb, off, rfl, hc⟩ := (Cells.of_own (own_on hown hbel)).ver hx
      obtain ⟨x0, x1, x2, x3, x4, x5⟩ := hc k x hx
      clear hc
      have HX := Lib.hid hx
      clear hx
      have g3 : (0 : Int) ≤ (k : Int) := by omega
      have g4 : (k : Int) < (L.length : Int) := by omega
      by_cases hkm : k < m
      · obtain ⟨z, hzk⟩ : ∃ z, zs[k]? = some z := ⟨_, List.getElem?_eq_getElem (by omega)⟩
        obtain ⟨ib, ioff, rfl, hci⟩ := (hI1.on hbel).get (j := k) (by simpa [hz] using hkm)
        have hi1 : wr.cell? ⟨ib, ioff + k, none⟩ = some (.int .i64 z) := hci k _ (by simp [hzk])
        have hil : ib < wr.heap.size := World.block_lt_of_cell? _ _ hi1
        have hzb := wz z (List.mem_of_getElem? hzk)
        clear hci hzk
        have g5 : (k : Int) < (m : Int) := by omega
        clear hzb
        by_cases e1 : z.tmod 3 = 1
        · have m1 : (z.tmod 3 != 1) = false := by rw [e1]; rfl
          have m2 : (z.tmod 3 != 2) = true := by rw [e1]; rfl
          clear e1
          go_wp2_with (at_builtin; refine wpList_append_lies _ rfl _ _ 22 rfl w1.heap.size 25 i0 (.agg #[.string ⟨#[]⟩, .string ⟨#[]⟩, .bool false, .int .u64 0, .int .i64 0, .int .i64 0]) 6 64 Try.underlying22 hi0 hz0 hz1 hz2 rfl (by omega) _ _ _ rfl ((hB.alloc _).alloc _) _ 1 1 x.cells rfl rfl (news_at _ _ _ _ (by first | rfl | (show _ = (Array.push _ _).size; simp))) (one_ver x) (by omega) (by unfold maxLen; omega) (by omega) (by have := hbel.size; simp; omega) _ rfl ?_; intro g1 cap1 w21 hown21 hgrow21 hat21 hlt21)
          go_roundw
          case rel => exact ⟨k + 1, Da, ca, some ⟨g1, 0, none⟩, cap1, A', B' ++ [x], by omega, by go_num, rfl, by simp, (((hA.alloc _).alloc _).kept hgrow21 (Apart.keeps hap.symm)), by simp only [List.length_append, List.length_singleton, flatV_snoc]; exact hown21, by simpa using Apart.symm (Apart.grown hap.symm (((hA.alloc _).alloc _)) hat21), HSP.out.right HX.out, below_grown (own_alloc (own_alloc hbel _) _) ((hB.alloc _).alloc _) (Nat.le_refl _) hgrow21⟩
          case measure => simp [intOf]; omega
        · by_cases e2 : z.tmod 3 = 2
          · have m1 : (z.tmod 3 != 1) = true := by rw [e2]; rfl
            have m2 : (z.tmod 3 != 2) = false := by rw [e2]; rfl
            clear e1 e2
            go_wp2_with (at_builtin; refine wpList_append_lies _ rfl _ _ 22 rfl w1.heap.size 25 i0 (.agg #[.string ⟨#[]⟩, .string ⟨#[]⟩, .bool false, .int .u64 0, .int .i64 0, .int .i64 0]) 6 64 Try.underlying22 hi0 hz0 hz1 hz2 rfl (by omega) _ _ _ rfl ((hA.alloc _).alloc _) _ 1 1 x.cells rfl rfl (news_at _ _ _ _ (by first | rfl | (show _ = (Array.push _ _).size; simp))) (one_ver x) (by omega) (by unfold maxLen; omega) (by omega) (by have := hbel.size; simp; omega) _ rfl ?_; intro g1 cap1 w21 hown21 hgrow21 hat21 hlt21)
            go_roundw
            case rel => exact ⟨k + 1, some ⟨g1, 0, none⟩, cap1, Db, cb, A' ++ [x], B', by omega, by go_num, by simp, rfl, by simp only [List.length_append, List.length_singleton, flatV_snoc]; exact hown21, (((hB.alloc _).alloc _).kept hgrow21 (Apart.keeps hap)), by simpa using Apart.grown hap (((hB.alloc _).alloc _)) hat21, HSP.out.left HX.out, below_grown (own_alloc (own_alloc hbel _) _) ((hA.alloc _).alloc _) (Nat.le_refl _) hgrow21⟩
            case measure => simp [intOf]; omega
          · have m1 : (z.tmod 3 != 1) = true := by simpa using e1
            have m2 : (z.tmod 3 != 2) = true := by simpa using e2
            clear e1 e2
            have tok1 : True := trivial
            go_wp2_with (first | (at_builtin; have _t := tok1; refine wpList_append_lies _ rfl _ _ 22 rfl w1.heap.size 25 i0 (.agg #[.string ⟨#[]⟩, .string ⟨#[]⟩, .bool false, .int .u64 0, .int .i64 0, .int .i64 0]) 6 64 Try.underlying22 hi0 hz0 hz1 hz2 rfl (by omega) _ _ _ rfl ((hA.alloc _).alloc _) _ 1 1 x.cells rfl rfl (news_at _ _ _ _ (by first | rfl | (show _ = (Array.push _ _).size; simp))) (one_ver x) (by omega) (by unfold maxLen; omega) (by omega) (by have := hbel.size; simp; omega) _ rfl ?_; intro g1 cap1 w21 hown21 hgrow21 hat21 hlt21; clear tok1; have hB1 := ((hB.alloc _).alloc _).kept hgrow21 (Apart.keeps hap); have hap1 := Apart.grown (m := A'.length + 1) (c := cap1) hap ((hB.alloc _).alloc _) hat21; have hbel1 := below_grown (own_alloc (own_alloc hbel _) _) ((hA.alloc _).alloc _) (Nat.le_refl _) hgrow21; have hsz1 := hbel1.size; have y0 : w21.cell? ⟨wr.heap.size, 0, none⟩ = some (.string x.key) := box_past hA hgrow21 0; have y1 : w21.cell? ⟨wr.heap.size, 1, none⟩ = some (.string x.val) := box_past hA hgrow21 1; have y2 : w21.cell? ⟨wr.heap.size, 2, none⟩ = some (.bool x.gone) := box_past hA hgrow21 2; have y3 : w21.cell? ⟨wr.heap.size, 3, none⟩ = some (.int .u64 x.ts) := box_past hA hgrow21 3; have y4 : w21.cell? ⟨wr.heap.size, 4, none⟩ = some (.int .i64 x.dc) := box_past hA hgrow21 4; have y5 : w21.cell? ⟨wr.heap.size, 5, none⟩ = some (.int .i64 x.tx) := box_past hA hgrow21 5) | (at_builtin; refine wpList_append_lies _ rfl _ _ 22 rfl w1.heap.size 25 i0 (.agg #[.string ⟨#[]⟩, .string ⟨#[]⟩, .bool false, .int .u64 0, .int .i64 0, .int .i64 0]) 6 64 Try.underlying22 hi0 hz0 hz1 hz2 rfl (by omega) _ _ _ rfl (hB1.alloc _) _ 1 1 x.cells rfl rfl (news_at _ _ _ _ (by first | rfl | (show _ = (Array.push _ _).size; simp))) (one_ver x) (by omega) (by unfold maxLen; omega) (by omega) (by simp; omega) _ rfl ?_; intro g2 cap2 w22 hown22 hgrow22 hat22 hlt22))
            go_roundw
            case rel => exact ⟨k + 1, some ⟨g1, 0, none⟩, cap1, some ⟨g2, 0, none⟩, cap2, A' ++ [x], B' ++ [x], by omega, by go_num, by simp, by simp, by simp only [List.length_append, List.length_singleton, flatV_snoc]; exact ((hown21.alloc _).kept hgrow22 (Apart.keeps hap1.symm)), by simp only [List.length_append, List.length_singleton, flatV_snoc]; exact hown22, by simpa using Apart.symm (Apart.grown (m := B'.length + 1) (c := cap2) hap1.symm (hown21.alloc _) hat22), HSP.out.both HX.out, below_grown (own_alloc hbel1 _) (hB1.alloc _) (Nat.le_refl _) hgrow22⟩
            case measure => simp [intOf]; omega
      · have g5 : ¬ (k : Int) < (m : Int) := by omega
        have tok1 : True := trivial
        go_wp2_with (first | (at_builtin; have _t := tok1; refine wpList_append_lies _ rfl _ _ 22 rfl w1.heap.size 25 i0 (.agg #[.string ⟨#[]⟩, .string ⟨#[]⟩, .bool false, .int .u64 0, .int .i64 0, .int .i64 0]) 6 64 Try.underlying22 hi0 hz0 hz1 hz2 rfl (by omega) _ _ _ rfl ((hA.alloc _).alloc _) _ 1 1 x.cells rfl rfl (news_at _ _ _ _ (by first | rfl | (show _ = (Array.push _ _).size; simp))) (one_ver x) (by omega) (by unfold maxLen; omega) (by omega) (by have := hbel.size; simp; omega) _ rfl ?_; intro g1 cap1 w21 hown21 hgrow21 hat21 hlt21; clear tok1; have hB1 := ((hB.alloc _).alloc _).kept hgrow21 (Apart.keeps hap); have hap1 := Apart.grown (m := A'.length + 1) (c := cap1) hap ((hB.alloc _).alloc _) hat21; have hbel1 := below_grown (own_alloc (own_alloc hbel _) _) ((hA.alloc _).alloc _) (Nat.le_refl _) hgrow21; have hsz1 := hbel1.size; have y0 : w21.cell? ⟨wr.heap.size, 0, none⟩ = some (.string x.key) := box_past hA hgrow21 0; have y1 : w21.cell? ⟨wr.heap.size, 1, none⟩ = some (.string x.val) := box_past hA hgrow21 1; have y2 : w21.cell? ⟨wr.heap.size, 2, none⟩ = some (.bool x.gone) := box_past hA hgrow21 2; have y3 : w21.cell? ⟨wr.heap.size, 3, none⟩ = some (.int .u64 x.ts) := box_past hA hgrow21 3; have y4 : w21.cell? ⟨wr.heap.size, 4, none⟩ = some (.int .i64 x.dc) := box_past hA hgrow21 4; have y5 : w21.cell? ⟨wr.heap.size, 5, none⟩ = some (.int .i64 x.tx) := box_past hA hgrow21 5) | (at_builtin; refine wpList_append_lies _ rfl _ _ 22 rfl w1.heap.size 25 i0 (.agg #[.string ⟨#[]⟩, .string ⟨#[]⟩, .bool false, .int .u64 0, .int .i64 0, .int .i64 0]) 6 64 Try.underlying22 hi0 hz0 hz1 hz2 rfl (by omega) _ _ _ rfl (hB1.alloc _) _ 1 1 x.cells rfl rfl (news_at _ _ _ _ (by first | rfl | (show _ = (Array.push _ _).size; simp))) (one_ver x) (by omega) (by unfold maxLen; omega) (by omega) (by simp; omega) _ rfl ?_; intro g2 cap2 w22 hown22 hgrow22 hat22 hlt22))
        go_roundw
        case rel => exact ⟨k + 1, some ⟨g1, 0, none⟩, cap1, some ⟨g2, 0, none⟩, cap2, A' ++ [x], B' ++ [x], by omega, by go_num, by simp, by simp, by simp only [List.length_append, List.length_singleton, flatV_snoc]; exact ((hown21.alloc _).kept hgrow22 (Apart.keeps hap1.symm)), by simp only [List.length_append, List.length_singleton, flatV_snoc]; exact hown22, by simpa using Apart.symm (Apart.grown (m := B'.length + 1) (c := cap2) hap1.symm (hown21.alloc _) hat22), HSP.out.both HX.out, below_grown (own_alloc hbel1 _) (hB1.alloc _) (Nat.le_refl _) hgrow22⟩
        case measure => simp [intOf]; omega
    · obtain rfl : k = L.length := by omega
      obtain ⟨⟨j1, e1⟩, ⟨j2, e2⟩, j3, e3⟩ := split_joins HR.out HSP.out
      have J1 := Lib.hid j1
      have J2 := Lib.hid j2
      have J3 := Lib.hid j3
      have E1 := Lib.hid e1
      have E2 := Lib.hid e2
      have E3 := Lib.hid e3
      clear j1 j2 j3 e1 e2 e3
      have t1 : True := trivial
      have t2 : True := trivial
      have u1 : True := trivial
      have u2 : True := trivial
      have hownL := own_on hown hbel
      go_wp2_with (first
        | (go_at_call 24; have _t := t1; refine (join_any _ _ _ _ _ _ A' B' _ rfl rfl (by omega) (by omega) (Cells.of_own hA) (Cells.of_own hB)).mono ?_; rintro e w2 ⟨D2, cp2, rfl, hown2, hb2⟩; rw [J1.out] at hown2 ⊢; rw [E1.out]; clear t1)
        | (go_at_call 24; have _t := t2; refine (join_any _ _ _ _ _ _ B' A' _ rfl rfl (by omega) (by omega) (Cells.of_own (own_on hB hb2)) (Cells.of_own (own_on hA hb2))).mono ?_; rintro e w3 ⟨D3, cp3, rfl, hown3, hb3⟩; rw [J2.out] at hown3 ⊢; rw [E2.out]; clear t2)
        | (go_at_call 24; refine (join_any _ _ _ _ _ _ L B' _ rfl rfl (by omega) (by omega) (Cells.of_own (own_on hown2 hb3)) (Cells.of_own (own_on (own_on hB hb2) hb3))).mono ?_; rintro e w4 ⟨D4, cp4, rfl, hown4, hb4⟩; rw [J3.out] at hown4 ⊢; rw [E3.out])
        | (go_at_call 14; refine (awake_any _).mono ?_; rintro e w5 ⟨rfl, hb5⟩)
        | (go_at_call 17; have _t := u1; refine (same_any _ _ _ _ _ L _ rfl (by omega) (Cells.of_own (own_on (own_on (own_on hown2 hb3) hb4) hb5)) (Cells.of_own (own_on (own_on hown3 hb4) hb5))).mono ?_; rintro e w6 ⟨rfl, hb6⟩; clear u1)
        | (go_at_call 17; have _t := u2; refine (same_any _ _ _ _ _ L _ rfl (by omega) (Cells.of_own (own_on (own_on (own_on (own_on hown2 hb3) hb4) hb5) hb6)) (Cells.of_own (own_on (own_on hown4 hb5) hb6))).mono ?_; rintro e w7 ⟨rfl, hb7⟩; clear u2)
        | (go_at_call 17; refine (same_any _ _ _ _ _ L _ rfl (by omega) (Cells.of_own (own_on (own_on (own_on (own_on (own_on hown2 hb3) hb4) hb5) hb6) hb7)) (Cells.of_own (own_on (own_on (own_on (own_on (own_on (own_on hownL hb2) hb3) hb4) hb5) hb6) hb7))).mono ?_; rintro e w8 ⟨rfl, hb8⟩))
      go_ret
      exact ⟨rfl, below_own (below_own (below_own (below_own (below_own (below_own (below_own (below_own hb1 hbel) hb2) hb3) hb4) hb5) hb6) hb7) hb8⟩
theorem walk (A I : Option Addr) (n c m d : Nat) (l : List V) (zs : List Int) (w : World) (hn : l.length = n) (hm : n ≤ 9223372036854775807) (hA : Cells w A (flatV l)) (hz : zs.length = m) (hmm : m ≤ 9223372036854775807) (hI : Cells w I (zs.map (Value.int .i64)))
    (wz : ∀ z ∈ zs, (Lit.int .i64 z).wf = true) :
    Calls Try.prog 10 #[.slice A n c, .slice I m d] w fun e w' => e = .returned (.bool true) ∧ Below w.heap.size w w' :=
  walk' A I n c m d l _ zs w hn hm hA hz hmm hI (fun z h => bd_i64 (wz z h)) rfl (ofTo_rising _ _) (by have := ofTo_len l (min l.length 40); unfold ofV; omega)
end Go.Proofs.Ytpiifgmegdphpaa.lawChainBoth
