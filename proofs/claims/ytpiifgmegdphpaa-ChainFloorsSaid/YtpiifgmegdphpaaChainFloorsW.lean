/-
  The walk of the law ChainFloors: whatever data come in, the call returns true and leaves what was there. Conditions: the arguments' cells lie as the hypotheses say.
-/
import Derived.Test.YtpiifgmegdphpaaOf
import Derived.Test.YtpiifgmegdphpaaTrim
import Derived.Test.YtpiifgmegdphpaaChainAt2
import Derived.Test.YtpiifgmegdphpaaVerEq
namespace Go.Proofs.Ytpiifgmegdphpaa.lawChainFloors
open Go.ChangeShapes Go.WideShapes Go.ChangeAt Go.RowKit
set_option linter.unusedVariables false

set_option maxHeartbeats 1000000 in
theorem walk_some_snap (A : Option Addr) (n c : Nat) (l L M : List V) (floor snap s : Int) (w : World) (hn : l.length = n) (hm : n ≤ 9223372036854775807) (hA : Cells w A (flatV l)) (hL : ofV l = L) (hL40 : L.length ≤ 40)
    (hM : trimmed L (seen L floor L.length) = M) (hMM : trimmed M (seen M floor M.length) = M) (hML : M.length ≤ L.length) (hs : floor ≤ snap) (hse : s = snap) (b1 b2 : Nat) (x : V) (h1 : seen L s L.length = some b1) (hx1 : L[b1]? = some x) (h2 : seen M s M.length = some b2) (hx2 : M[b2]? = some x) :
    Calls Try.prog 5 #[.slice A n c, .int .u64 floor, .int .u64 snap] w fun e w' => e = .returned (.bool true) ∧ Below w.heap.size w w' := by
  subst hse
  have hq := ver_eq x x
  rw [veq_same] at hq
  have HL := Lib.hid hL
  have HM := Lib.hid hM
  have HMM := Lib.hid hMM
  have H1 := Lib.hid h1
  have H2 := Lib.hid h2
  clear hL hM hMM h1 h2
  have t1 : True := trivial
  have u1 : True := trivial
  go_enter Try.func5, Try.ntmps5
  go_wp2_with (first
    | (go_at_call 18; refine (of_any _ _ _ l _ hn hm hA).mono ?_; rintro e w1 ⟨D, cp, rfl, hown, hb1⟩; rw [HL.out] at hown ⊢)
    | (go_at_call 15; have _t := t1; refine (trim_is _ _ _ L _ _ rfl (by omega) (Cells.of_own hown)).mono ?_; rintro e w2 ⟨D2, cp2, rfl, hown2, hb2⟩; rw [HM.out] at hown2 ⊢; clear t1)
    | (go_at_call 15; refine (trim_is _ _ _ M _ _ rfl (by omega) (Cells.of_own hown2)).mono ?_; rintro e w3 ⟨D3, cp3, rfl, hown3, hb3⟩; rw [HMM.out])
    | (go_at_call 12; have _t := u1; refine (At_some _ _ _ L _ _ b1 x rfl (by omega) (Cells.of_own (own_on (own_on hown hb2) hb3)) H1.out hx1).mono ?_; rintro e w4 ⟨rfl, hb4⟩; clear u1)
    | (go_at_call 12; refine (At_some _ _ _ M _ _ b2 x rfl (by omega) (Cells.of_own (own_on (own_on (own_on hown2 hb3) hb4) (own_alloc (own_refl _) _))) H2.out hx2).mono ?_; rintro e w5 ⟨rfl, hb5⟩; have p0 : w5.cell? ⟨w4.heap.size, 0, none⟩ = some (.string x.key) := (box_on hb5).1 0; have p1 : w5.cell? ⟨w4.heap.size, 1, none⟩ = some (.string x.val) := (box_on hb5).1 1; have p2 : w5.cell? ⟨w4.heap.size, 2, none⟩ = some (.bool x.gone) := (box_on hb5).1 2; have p3 : w5.cell? ⟨w4.heap.size, 3, none⟩ = some (.int .u64 x.ts) := (box_on hb5).1 3; have p4 : w5.cell? ⟨w4.heap.size, 4, none⟩ = some (.int .i64 x.dc) := (box_on hb5).1 4; have p5 : w5.cell? ⟨w4.heap.size, 5, none⟩ = some (.int .i64 x.tx) := (box_on hb5).1 5)
    | (go_at_call 14; refine (awake_any _).mono ?_; rintro e w6 ⟨rfl, hb6⟩; have q0 : w6.cell? ⟨w5.heap.size, 0, none⟩ = some (.string x.key) := (box_on hb6).1 0; have q1 : w6.cell? ⟨w5.heap.size, 1, none⟩ = some (.string x.val) := (box_on hb6).1 1; have q2 : w6.cell? ⟨w5.heap.size, 2, none⟩ = some (.bool x.gone) := (box_on hb6).1 2; have q3 : w6.cell? ⟨w5.heap.size, 3, none⟩ = some (.int .u64 x.ts) := (box_on hb6).1 3; have q4 : w6.cell? ⟨w5.heap.size, 4, none⟩ = some (.int .i64 x.dc) := (box_on hb6).1 4; have q5 : w6.cell? ⟨w5.heap.size, 5, none⟩ = some (.int .i64 x.tx) := (box_on hb6).1 5; have p0' := cell_on hb6 (cell_on (own_alloc (own_refl _) _) p0); have p1' := cell_on hb6 (cell_on (own_alloc (own_refl _) _) p1); have p2' := cell_on hb6 (cell_on (own_alloc (own_refl _) _) p2); have p3' := cell_on hb6 (cell_on (own_alloc (own_refl _) _) p3); have p4' := cell_on hb6 (cell_on (own_alloc (own_refl _) _) p4); have p5' := cell_on hb6 (cell_on (own_alloc (own_refl _) _) p5)))
  go_ret
  exact ⟨rfl, below_own (own_alloc (below_own (own_alloc (below_own (below_own (below_own hb1 hb2) hb3) hb4) _) hb5) _) hb6⟩

set_option maxHeartbeats 1000000 in
theorem walk_some_floor (A : Option Addr) (n c : Nat) (l L M : List V) (floor snap s : Int) (w : World) (hn : l.length = n) (hm : n ≤ 9223372036854775807) (hA : Cells w A (flatV l)) (hL : ofV l = L) (hL40 : L.length ≤ 40)
    (hM : trimmed L (seen L floor L.length) = M) (hMM : trimmed M (seen M floor M.length) = M) (hML : M.length ≤ L.length) (hs : snap < floor) (hse : s = floor) (b1 b2 : Nat) (x : V) (h1 : seen L s L.length = some b1) (hx1 : L[b1]? = some x) (h2 : seen M s M.length = some b2) (hx2 : M[b2]? = some x) :
    Calls Try.prog 5 #[.slice A n c, .int .u64 floor, .int .u64 snap] w fun e w' => e = .returned (.bool true) ∧ Below w.heap.size w w' := by
  subst hse
  have hq := ver_eq x x
  rw [veq_same] at hq
  have HL := Lib.hid hL
  have HM := Lib.hid hM
  have HMM := Lib.hid hMM
  have H1 := Lib.hid h1
  have H2 := Lib.hid h2
  clear hL hM hMM h1 h2
  have t1 : True := trivial
  have u1 : True := trivial
  go_enter Try.func5, Try.ntmps5
  go_wp2_with (first
    | (go_at_call 18; refine (of_any _ _ _ l _ hn hm hA).mono ?_; rintro e w1 ⟨D, cp, rfl, hown, hb1⟩; rw [HL.out] at hown ⊢)
    | (go_at_call 15; have _t := t1; refine (trim_is _ _ _ L _ _ rfl (by omega) (Cells.of_own hown)).mono ?_; rintro e w2 ⟨D2, cp2, rfl, hown2, hb2⟩; rw [HM.out] at hown2 ⊢; clear t1)
    | (go_at_call 15; refine (trim_is _ _ _ M _ _ rfl (by omega) (Cells.of_own hown2)).mono ?_; rintro e w3 ⟨D3, cp3, rfl, hown3, hb3⟩; rw [HMM.out])
    | (go_at_call 12; have _t := u1; refine (At_some _ _ _ L _ _ b1 x rfl (by omega) (Cells.of_own (own_on (own_on hown hb2) hb3)) H1.out hx1).mono ?_; rintro e w4 ⟨rfl, hb4⟩; clear u1)
    | (go_at_call 12; refine (At_some _ _ _ M _ _ b2 x rfl (by omega) (Cells.of_own (own_on (own_on (own_on hown2 hb3) hb4) (own_alloc (own_refl _) _))) H2.out hx2).mono ?_; rintro e w5 ⟨rfl, hb5⟩; have p0 : w5.cell? ⟨w4.heap.size, 0, none⟩ = some (.string x.key) := (box_on hb5).1 0; have p1 : w5.cell? ⟨w4.heap.size, 1, none⟩ = some (.string x.val) := (box_on hb5).1 1; have p2 : w5.cell? ⟨w4.heap.size, 2, none⟩ = some (.bool x.gone) := (box_on hb5).1 2; have p3 : w5.cell? ⟨w4.heap.size, 3, none⟩ = some (.int .u64 x.ts) := (box_on hb5).1 3; have p4 : w5.cell? ⟨w4.heap.size, 4, none⟩ = some (.int .i64 x.dc) := (box_on hb5).1 4; have p5 : w5.cell? ⟨w4.heap.size, 5, none⟩ = some (.int .i64 x.tx) := (box_on hb5).1 5)
    | (go_at_call 14; refine (awake_any _).mono ?_; rintro e w6 ⟨rfl, hb6⟩; have q0 : w6.cell? ⟨w5.heap.size, 0, none⟩ = some (.string x.key) := (box_on hb6).1 0; have q1 : w6.cell? ⟨w5.heap.size, 1, none⟩ = some (.string x.val) := (box_on hb6).1 1; have q2 : w6.cell? ⟨w5.heap.size, 2, none⟩ = some (.bool x.gone) := (box_on hb6).1 2; have q3 : w6.cell? ⟨w5.heap.size, 3, none⟩ = some (.int .u64 x.ts) := (box_on hb6).1 3; have q4 : w6.cell? ⟨w5.heap.size, 4, none⟩ = some (.int .i64 x.dc) := (box_on hb6).1 4; have q5 : w6.cell? ⟨w5.heap.size, 5, none⟩ = some (.int .i64 x.tx) := (box_on hb6).1 5; have p0' := cell_on hb6 (cell_on (own_alloc (own_refl _) _) p0); have p1' := cell_on hb6 (cell_on (own_alloc (own_refl _) _) p1); have p2' := cell_on hb6 (cell_on (own_alloc (own_refl _) _) p2); have p3' := cell_on hb6 (cell_on (own_alloc (own_refl _) _) p3); have p4' := cell_on hb6 (cell_on (own_alloc (own_refl _) _) p4); have p5' := cell_on hb6 (cell_on (own_alloc (own_refl _) _) p5)))
  go_ret
  exact ⟨rfl, below_own (own_alloc (below_own (own_alloc (below_own (below_own (below_own hb1 hb2) hb3) hb4) _) hb5) _) hb6⟩

set_option maxHeartbeats 1000000 in
theorem walk_none_snap (A : Option Addr) (n c : Nat) (l L M : List V) (floor snap s : Int) (w : World) (hn : l.length = n) (hm : n ≤ 9223372036854775807) (hA : Cells w A (flatV l)) (hL : ofV l = L) (hL40 : L.length ≤ 40)
    (hM : trimmed L (seen L floor L.length) = M) (hMM : trimmed M (seen M floor M.length) = M) (hML : M.length ≤ L.length) (hs : floor ≤ snap) (hse : s = snap) (h1 : seen L s L.length = none) (h2 : seen M s M.length = none) :
    Calls Try.prog 5 #[.slice A n c, .int .u64 floor, .int .u64 snap] w fun e w' => e = .returned (.bool true) ∧ Below w.heap.size w w' := by
  subst hse
  have hq := ver_eq ⟨⟨#[]⟩, ⟨#[]⟩, false, 0, 0, 0⟩ ⟨⟨#[]⟩, ⟨#[]⟩, false, 0, 0, 0⟩
  rw [veq_same] at hq
  have HL := Lib.hid hL
  have HM := Lib.hid hM
  have HMM := Lib.hid hMM
  have H1 := Lib.hid h1
  have H2 := Lib.hid h2
  clear hL hM hMM h1 h2
  have t1 : True := trivial
  have u1 : True := trivial
  go_enter Try.func5, Try.ntmps5
  go_wp2_with (first
    | (go_at_call 18; refine (of_any _ _ _ l _ hn hm hA).mono ?_; rintro e w1 ⟨D, cp, rfl, hown, hb1⟩; rw [HL.out] at hown ⊢)
    | (go_at_call 15; have _t := t1; refine (trim_is _ _ _ L _ _ rfl (by omega) (Cells.of_own hown)).mono ?_; rintro e w2 ⟨D2, cp2, rfl, hown2, hb2⟩; rw [HM.out] at hown2 ⊢; clear t1)
    | (go_at_call 15; refine (trim_is _ _ _ M _ _ rfl (by omega) (Cells.of_own hown2)).mono ?_; rintro e w3 ⟨D3, cp3, rfl, hown3, hb3⟩; rw [HMM.out])
    | (go_at_call 12; have _t := u1; refine (At_none _ _ _ L _ _  rfl (by omega) (Cells.of_own (own_on (own_on hown hb2) hb3)) H1.out).mono ?_; rintro e w4 ⟨rfl, hb4⟩; clear u1)
    | (go_at_call 12; refine (At_none _ _ _ M _ _  rfl (by omega) (Cells.of_own (own_on (own_on (own_on hown2 hb3) hb4) (own_alloc (own_refl _) _))) H2.out).mono ?_; rintro e w5 ⟨rfl, hb5⟩; have p0 : w5.cell? ⟨w4.heap.size, 0, none⟩ = some (.string ⟨#[]⟩) := (box_on hb5).1 0; have p1 : w5.cell? ⟨w4.heap.size, 1, none⟩ = some (.string ⟨#[]⟩) := (box_on hb5).1 1; have p2 : w5.cell? ⟨w4.heap.size, 2, none⟩ = some (.bool false) := (box_on hb5).1 2; have p3 : w5.cell? ⟨w4.heap.size, 3, none⟩ = some (.int .u64 0) := (box_on hb5).1 3; have p4 : w5.cell? ⟨w4.heap.size, 4, none⟩ = some (.int .i64 0) := (box_on hb5).1 4; have p5 : w5.cell? ⟨w4.heap.size, 5, none⟩ = some (.int .i64 0) := (box_on hb5).1 5)
    | (go_at_call 14; refine (awake_any _).mono ?_; rintro e w6 ⟨rfl, hb6⟩; have q0 : w6.cell? ⟨w5.heap.size, 0, none⟩ = some (.string ⟨#[]⟩) := (box_on hb6).1 0; have q1 : w6.cell? ⟨w5.heap.size, 1, none⟩ = some (.string ⟨#[]⟩) := (box_on hb6).1 1; have q2 : w6.cell? ⟨w5.heap.size, 2, none⟩ = some (.bool false) := (box_on hb6).1 2; have q3 : w6.cell? ⟨w5.heap.size, 3, none⟩ = some (.int .u64 0) := (box_on hb6).1 3; have q4 : w6.cell? ⟨w5.heap.size, 4, none⟩ = some (.int .i64 0) := (box_on hb6).1 4; have q5 : w6.cell? ⟨w5.heap.size, 5, none⟩ = some (.int .i64 0) := (box_on hb6).1 5; have p0' := cell_on hb6 (cell_on (own_alloc (own_refl _) _) p0); have p1' := cell_on hb6 (cell_on (own_alloc (own_refl _) _) p1); have p2' := cell_on hb6 (cell_on (own_alloc (own_refl _) _) p2); have p3' := cell_on hb6 (cell_on (own_alloc (own_refl _) _) p3); have p4' := cell_on hb6 (cell_on (own_alloc (own_refl _) _) p4); have p5' := cell_on hb6 (cell_on (own_alloc (own_refl _) _) p5)))
  go_ret
  exact ⟨rfl, below_own (own_alloc (below_own (own_alloc (below_own (below_own (below_own hb1 hb2) hb3) hb4) _) hb5) _) hb6⟩

set_option maxHeartbeats 1000000 in
theorem walk_none_floor (A : Option Addr) (n c : Nat) (l L M : List V) (floor snap s : Int) (w : World) (hn : l.length = n) (hm : n ≤ 9223372036854775807) (hA : Cells w A (flatV l)) (hL : ofV l = L) (hL40 : L.length ≤ 40)
    (hM : trimmed L (seen L floor L.length) = M) (hMM : trimmed M (seen M floor M.length) = M) (hML : M.length ≤ L.length) (hs : snap < floor) (hse : s = floor) (h1 : seen L s L.length = none) (h2 : seen M s M.length = none) :
    Calls Try.prog 5 #[.slice A n c, .int .u64 floor, .int .u64 snap] w fun e w' => e = .returned (.bool true) ∧ Below w.heap.size w w' := by
  subst hse
  have hq := ver_eq ⟨⟨#[]⟩, ⟨#[]⟩, false, 0, 0, 0⟩ ⟨⟨#[]⟩, ⟨#[]⟩, false, 0, 0, 0⟩
  rw [veq_same] at hq
  have HL := Lib.hid hL
  have HM := Lib.hid hM
  have HMM := Lib.hid hMM
  have H1 := Lib.hid h1
  have H2 := Lib.hid h2
  clear hL hM hMM h1 h2
  have t1 : True := trivial
  have u1 : True := trivial
  go_enter Try.func5, Try.ntmps5
  go_wp2_with (first
    | (go_at_call 18; refine (of_any _ _ _ l _ hn hm hA).mono ?_; rintro e w1 ⟨D, cp, rfl, hown, hb1⟩; rw [HL.out] at hown ⊢)
    | (go_at_call 15; have _t := t1; refine (trim_is _ _ _ L _ _ rfl (by omega) (Cells.of_own hown)).mono ?_; rintro e w2 ⟨D2, cp2, rfl, hown2, hb2⟩; rw [HM.out] at hown2 ⊢; clear t1)
    | (go_at_call 15; refine (trim_is _ _ _ M _ _ rfl (by omega) (Cells.of_own hown2)).mono ?_; rintro e w3 ⟨D3, cp3, rfl, hown3, hb3⟩; rw [HMM.out])
    | (go_at_call 12; have _t := u1; refine (At_none _ _ _ L _ _  rfl (by omega) (Cells.of_own (own_on (own_on hown hb2) hb3)) H1.out).mono ?_; rintro e w4 ⟨rfl, hb4⟩; clear u1)
    | (go_at_call 12; refine (At_none _ _ _ M _ _  rfl (by omega) (Cells.of_own (own_on (own_on (own_on hown2 hb3) hb4) (own_alloc (own_refl _) _))) H2.out).mono ?_; rintro e w5 ⟨rfl, hb5⟩; have p0 : w5.cell? ⟨w4.heap.size, 0, none⟩ = some (.string ⟨#[]⟩) := (box_on hb5).1 0; have p1 : w5.cell? ⟨w4.heap.size, 1, none⟩ = some (.string ⟨#[]⟩) := (box_on hb5).1 1; have p2 : w5.cell? ⟨w4.heap.size, 2, none⟩ = some (.bool false) := (box_on hb5).1 2; have p3 : w5.cell? ⟨w4.heap.size, 3, none⟩ = some (.int .u64 0) := (box_on hb5).1 3; have p4 : w5.cell? ⟨w4.heap.size, 4, none⟩ = some (.int .i64 0) := (box_on hb5).1 4; have p5 : w5.cell? ⟨w4.heap.size, 5, none⟩ = some (.int .i64 0) := (box_on hb5).1 5)
    | (go_at_call 14; refine (awake_any _).mono ?_; rintro e w6 ⟨rfl, hb6⟩; have q0 : w6.cell? ⟨w5.heap.size, 0, none⟩ = some (.string ⟨#[]⟩) := (box_on hb6).1 0; have q1 : w6.cell? ⟨w5.heap.size, 1, none⟩ = some (.string ⟨#[]⟩) := (box_on hb6).1 1; have q2 : w6.cell? ⟨w5.heap.size, 2, none⟩ = some (.bool false) := (box_on hb6).1 2; have q3 : w6.cell? ⟨w5.heap.size, 3, none⟩ = some (.int .u64 0) := (box_on hb6).1 3; have q4 : w6.cell? ⟨w5.heap.size, 4, none⟩ = some (.int .i64 0) := (box_on hb6).1 4; have q5 : w6.cell? ⟨w5.heap.size, 5, none⟩ = some (.int .i64 0) := (box_on hb6).1 5; have p0' := cell_on hb6 (cell_on (own_alloc (own_refl _) _) p0); have p1' := cell_on hb6 (cell_on (own_alloc (own_refl _) _) p1); have p2' := cell_on hb6 (cell_on (own_alloc (own_refl _) _) p2); have p3' := cell_on hb6 (cell_on (own_alloc (own_refl _) _) p3); have p4' := cell_on hb6 (cell_on (own_alloc (own_refl _) _) p4); have p5' := cell_on hb6 (cell_on (own_alloc (own_refl _) _) p5)))
  go_ret
  exact ⟨rfl, below_own (own_alloc (below_own (own_alloc (below_own (below_own (below_own hb1 hb2) hb3) hb4) _) hb5) _) hb6⟩

theorem walk (A : Option Addr) (n c : Nat) (l : List V) (floor snap : Int) (w : World) (hn : l.length = n) (hm : n ≤ 9223372036854775807) (hA : Cells w A (flatV l)) :
    Calls Try.prog 5 #[.slice A n c, .int .u64 floor, .int .u64 snap] w fun e w' => e = .returned (.bool true) ∧ Below w.heap.size w w' := by
  have hr : Rising (ofV l) := ofTo_rising _ _
  have h40 : (ofV l).length ≤ 40 := by
    have := ofTo_len l (min l.length 40)
    unfold ofV; omega
  have hag := trim_again hr floor
  have hle := trimmed_le (ofV l) (seen (ofV l) floor (ofV l).length)
  obtain ⟨s, hs, hfs⟩ : ∃ s, ((floor ≤ snap ∧ s = snap) ∨ (snap < floor ∧ s = floor)) ∧ floor ≤ s := by
    rcases Int.lt_or_le snap floor with c | c
    · exact ⟨floor, .inr ⟨c, rfl⟩, Int.le_refl _⟩
    · exact ⟨snap, .inl ⟨c, rfl⟩, c⟩
  cases h1 : seen (ofV l) s (ofV l).length with
  | none =>
    have h2 := seen_of_none (trim_none_sees (f := floor) (none_of_seen h1))
    rcases hs with ⟨h, e⟩ | ⟨h, e⟩
    · exact walk_none_snap A n c l _ _ floor snap s w hn hm hA rfl h40 rfl hag hle h e h1 h2
    · exact walk_none_floor A n c l _ _ floor snap s w hn hm hA rfl h40 rfl hag hle h e h1 h2
  | some b1 =>
    obtain ⟨_, x, hx, _⟩ := seen_lt _ _ _ _ h1
    obtain ⟨b2, h2, hx2⟩ := seen_of_sees (trimmed_rising hr _) (trim_sees hfs (sees_of h1 hx))
    rcases hs with ⟨h, e⟩ | ⟨h, e⟩
    · exact walk_some_snap A n c l _ _ floor snap s w hn hm hA rfl h40 rfl hag hle h e b1 b2 x h1 hx h2 hx2
    · exact walk_some_floor A n c l _ _ floor snap s w hn hm hA rfl h40 rfl hag hle h e b1 b2 x h1 hx h2 hx2
end Go.Proofs.Ytpiifgmegdphpaa.lawChainFloors
