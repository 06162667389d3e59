/-
  The walks of the inbox: New, Put, Peek, Next, Applied, Got; and all calls of a nil box. Conditions: the box lies as the hypotheses say.
-/
import Derived.Test.YtneglecglkibfaaBoxP
import Derived.Deep.RegionHeld3
import Derived.Deep.QuietTactic
import Derived.BigQuiet
import Derived.Outline
import Derived.Lib.Hide
import Derived.IntWalk
import Derived.BigRegion
import Derived.Deep.RegionLaw
namespace Go.Proofs.Ytneglecglkibfaa
open Go.RowKit Go.Maps
set_option linter.unusedVariables false

def box0 (at' : Int) : Bx := ⟨max at' 0, [], 0, [], [], 0⟩
/-- what New answers. -/
def NewIs (w : World) (at' : Int) (e : Ending) (w' : World) : Prop := ∃ b m, e = .returned (.pointer (some ⟨b, 0, none⟩)) ∧ w.heap.size ≤ b ∧ w.heap.size ≤ m ∧ BoxAt w' w.heap.size b m (.slice none 0 0) (.slice none 0 0) [] (box0 at') ∧ Below w.heap.size w w'
theorem new_mk (w : World) (z : Int) (at' : Int) (h : max at' 0 = z) : BoxAt ((w.alloc (.map #[] 0)).alloc (.cells #[.int .i64 z, .slice none 0 0, .int .i64 0, .slice none 0 0, .map (some w.heap.size), .int .u64 0] 59)) w.heap.size (w.heap.size + 1) w.heap.size (.slice none 0 0) (.slice none 0 0) [] (box0 at') := by
  refine ⟨?_, OwnAt.nil _ _ _ _, OwnAt.nil _ _ _ _, (holds_made Try.prog 3 22 .i64 .u64 w).turn ((Turns.refl (one (w.heap.size + 1)) _).alloc _) (by show ¬ _ = _; omega), rfl, by simp, by omega, by simp [Value.ownBlock], by simp [Value.ownBlock], fun g hg => by cases hg⟩
  have hs : (w.alloc (.map #[] 0)).heap.size = w.heap.size + 1 := by simp
  rw [← hs, heap_alloc_new]
  unfold box0
  rw [h]
  rfl
theorem new_any (w : World) (at' : Int) (h1 : at' ≤ 1152921504606846976) : Calls Try.prog 8 #[.int .i64 at'] w (NewIs w at') := by
  have hmm := @run_makeMap Try.prog
  rcases (by omega : (at' < 0 ∧ max at' 0 = 0) ∨ (¬ at' < 0 ∧ max at' 0 = at')) with ⟨c, e⟩ | ⟨c, e⟩
  all_goals
    have E := Lib.hid e
    clear e
    go_enter Try.func8, Try.ntmps8
    go_wp2
    go_ret
    exact ⟨w.heap.size + 1, w.heap.size, rfl, by omega, Nat.le_refl _, new_mk w _ at' E.out, own_alloc (own_alloc (own_refl _) _) _⟩
theorem applied_any (w : World) (B b m : Nat) (vl vd : Value) (L : List Q) (x : Bx) (h : BoxAt w B b m vl vd L x) : Calls Try.prog 17 #[.pointer (some ⟨b, 0, none⟩)] w fun e w' => e = .returned (.int .i64 x.base) ∧ w = w' := by
  have c0 : w.cell? ⟨b, 0, none⟩ = some (.int .i64 x.base) := h.cell 0
  go_enter Try.func17, Try.ntmps17
  go_wp2
  go_ret
  exact ⟨rfl, rfl⟩
theorem got_any (w : World) (B b m : Nat) (vl vd : Value) (L : List Q) (x : Bx) (h : BoxAt w B b m vl vd L x) : Calls Try.prog 26 #[.pointer (some ⟨b, 0, none⟩)] w fun e w' => e = .returned (.int .u64 x.got) ∧ w = w' := by
  have c5 : w.cell? ⟨b, 5, none⟩ = some (.int .u64 x.got) := h.cell 5
  go_enter Try.func26, Try.ntmps26
  go_wp2
  go_ret
  exact ⟨rfl, rfl⟩
theorem Heart_none (t at' : Int) (w : World) : Calls Try.prog 22 #[.pointer none, .int .u64 t, .int .i64 at'] w fun e w' => e = .returned (.tuple #[]) ∧ w = w' := by
  go_enter Try.func22, Try.ntmps22
  go_wp2
  refine bodyPost_ret (results_none rfl _ _ _) rfl ?_
  exact ⟨rfl, rfl⟩
theorem Done_none (at' : Int) (w : World) : Calls Try.prog 16 #[.pointer none, .int .i64 at'] w fun e w' => e = .returned (.int .i64 1) ∧ w = w' := by
  go_enter Try.func16, Try.ntmps16
  go_wp2
  go_ret
  exact ⟨rfl, rfl⟩
theorem Applied_none (w : World) : Calls Try.prog 17 #[.pointer none] w fun e w' => e = .returned (.int .i64 0) ∧ w = w' := by
  go_enter Try.func17, Try.ntmps17
  go_wp2
  go_ret
  exact ⟨rfl, rfl⟩
theorem Got_none (w : World) : Calls Try.prog 26 #[.pointer none] w fun e w' => e = .returned (.int .u64 0) ∧ w = w' := by
  go_enter Try.func26, Try.ntmps26
  go_wp2
  go_ret
  exact ⟨rfl, rfl⟩
theorem Put_none (r : R) (D : Option Addr) (n c : Nat) (at' : Int) (w : World) : Calls Try.prog 11 #[.pointer none, .int .i64 at', .agg #[.int .u64 r.ts, .int .i64 r.dc, .int .i64 r.tx, .slice D n c]] w fun e w' => e = .returned (.int .i64 1) ∧ Below w.heap.size w w' := by
  go_enter Try.func11, Try.ntmps11
  go_wp2
  go_ret
  exact ⟨rfl, own_alloc (own_refl _) _⟩
theorem Peek_none (w : World) : Calls Try.prog 12 #[.pointer none] w fun e w' => e = .returned (.tuple #[.agg #[.int .u64 0, .int .i64 0, .int .i64 0, .slice none 0 0], .bool false]) ∧ Below w.heap.size w w' := by
  go_enter Try.func12, Try.ntmps12
  go_wp2_with fail
  go_quiet (fail)
  go_wp2
  refine bodyPost_ret (v := .tuple #[.agg #[.int .u64 0, .int .i64 0, .int .i64 0, .slice none 0 0], .bool false]) (by simp [results, Try.results12, go_sem]) rfl ⟨rfl, ?_⟩
  exact own_set (own_set (own_set (own_set (own_drewN (own_alloc (own_refl _) _) _) (Nat.le_refl _) _) (Nat.le_refl _) _) (Nat.le_refl _) _) (Nat.le_refl _) _
theorem Next_none (w : World) : Calls Try.prog 13 #[.pointer none] w fun e w' => e = .returned (.tuple #[.int .i64 0, .agg #[.int .u64 0, .int .i64 0, .int .i64 0, .slice none 0 0], .bool false]) ∧ Below w.heap.size w w' := by
  go_enter Try.func13, Try.ntmps13
  go_wp2_with (go_at_call 12; refine (Peek_none _).mono ?_; rintro e w1 ⟨rfl, hb1⟩; have z0 : w1.cell? ⟨w.heap.size, 0, none⟩ = some (.int .u64 0) := (box_on hb1).1 0; have z1 : w1.cell? ⟨w.heap.size, 1, none⟩ = some (.int .i64 0) := (box_on hb1).1 1; have z2 : w1.cell? ⟨w.heap.size, 2, none⟩ = some (.int .i64 0) := (box_on hb1).1 2; have z3 : w1.cell? ⟨w.heap.size, 3, none⟩ = some (.slice none 0 0) := (box_on hb1).1 3; have zf0 : w1.frozen? ⟨w.heap.size, 0, none⟩ = false := (box_on hb1).2.1 0; have zf1 : w1.frozen? ⟨w.heap.size, 1, none⟩ = false := (box_on hb1).2.1 1; have zf2 : w1.frozen? ⟨w.heap.size, 2, none⟩ = false := (box_on hb1).2.1 2; have zf3 : w1.frozen? ⟨w.heap.size, 3, none⟩ = false := (box_on hb1).2.1 3; have hsz := (box_on hb1).2.2)
  refine bodyPost_ret (v := .tuple #[.int .i64 0, .agg #[.int .u64 0, .int .i64 0, .int .i64 0, .slice none 0 0], .bool false]) (by simp [results, Try.results13, go_sem, z0, z1, z2, z3, hsz]) rfl ⟨rfl, ?_⟩
  exact own_alloc (own_set (own_set (own_set (own_set (below_own (own_alloc (own_refl _) _) hb1) (Nat.le_refl _) _) (Nat.le_refl _) _) (Nat.le_refl _) _) (Nat.le_refl _) _) _
/-- a struct of four cells that may be written. -/
def ResAt (b : Nat) (w : World) : Prop := (∃ v0 v1 v2 v3, w.cell? ⟨b, 0, none⟩ = some v0 ∧ w.cell? ⟨b, 1, none⟩ = some v1 ∧ w.cell? ⟨b, 2, none⟩ = some v2 ∧ w.cell? ⟨b, 3, none⟩ = some v3) ∧ ∀ j, w.frozen? ⟨b, j, none⟩ = false
theorem ResAt.on {b : Nat} {w w' : World} (h : ResAt b w) (hb : Below w.heap.size w w') : ResAt b w' := by
  obtain ⟨⟨v0, v1, v2, v3, h0, h1, h2, h3⟩, hf⟩ := h
  have hl : b < w.heap.size := World.block_lt_of_cell? _ _ h0
  exact ⟨⟨v0, v1, v2, v3, cell_on hb h0, cell_on hb h1, cell_on hb h2, cell_on hb h3⟩, fun j => (hb.frozen (p := ⟨b, j, none⟩) hl).trans (hf j)⟩
theorem ResAt.set {b : Nat} {w : World} (h : ResAt b w) (a : Addr) (v : Value) : ResAt b (w.setCell a v) := by
  obtain ⟨⟨v0, v1, v2, v3, h0, h1, h2, h3⟩, hf⟩ := h
  obtain ⟨u0, k0⟩ := cell?_setCell_some (p := a) (x := v) h0
  obtain ⟨u1, k1⟩ := cell?_setCell_some (p := a) (x := v) h1
  obtain ⟨u2, k2⟩ := cell?_setCell_some (p := a) (x := v) h2
  obtain ⟨u3, k3⟩ := cell?_setCell_some (p := a) (x := v) h3
  exact ⟨⟨u0, u1, u2, u3, k0, k1, k2, k3⟩, fun j => by rw [World.frozen?_setCell]; exact hf j⟩
theorem resAt_new {w W : World} {t : TypeId} {v0 v1 v2 v3 : Value} (h : Below (w.alloc (.cells #[v0, v1, v2, v3] t)).heap.size (w.alloc (.cells #[v0, v1, v2, v3] t)) W) : ResAt w.heap.size W :=
  ⟨⟨v0, v1, v2, v3, (box_on h).1 0, (box_on h).1 1, (box_on h).1 2, (box_on h).1 3⟩, (box_on h).2.1⟩
/-- what Peek answers where one is there. -/
def PeekIs (r : R) (w : World) (e : Ending) (w' : World) : Prop := ∃ D cp, e = .returned (.tuple #[.agg #[.int .u64 r.ts, .int .i64 r.dc, .int .i64 r.tx, .slice D r.vers.length cp], .bool true]) ∧ w'.ownsRow w.heap.size 32 6 (.slice D r.vers.length cp) r.vers.length (flatV r.vers) ∧ Below w.heap.size w w'
set_option maxHeartbeats 1000000 in
theorem Peek_no (w : World) (B b m : Nat) (vl vd : Value) (L : List Q) (x : Bx) (h : BoxAt w B b m vl vd L x) (hh : x.handed = x.list.length) : Calls Try.prog 12 #[.pointer (some ⟨b, 0, none⟩)] w fun e w' => e = .returned (.tuple #[.agg #[.int .u64 0, .int .i64 0, .int .i64 0, .slice none 0 0], .bool false]) ∧ Below w.heap.size w w' := by
  obtain ⟨Dl, cl, rfl, hcl⟩ := h.hl.form
  have he : ((x.handed : Int) == (x.list.length : Int)) = true := by simp; omega
  have c1 : w.cell? ⟨b, 1, none⟩ = some (.slice Dl x.list.length cl) := h.cell 1
  have c2 : w.cell? ⟨b, 2, none⟩ = some (.int .i64 x.handed) := h.cell 2
  have hbl := h.blt
  clear hh
  go_enter Try.func12, Try.ntmps12
  go_wp2_with fail
  go_quiet (fail)
  go_wp2
  refine bodyPost_ret (v := .tuple #[.agg #[.int .u64 0, .int .i64 0, .int .i64 0, .slice none 0 0], .bool false]) (by simp [results, Try.results12, go_sem]) rfl ⟨rfl, ?_⟩
  exact own_set (own_set (own_set (own_set (own_drewN (own_alloc (own_refl _) _) _) (Nat.le_refl _) _) (Nat.le_refl _) _) (Nat.le_refl _) _) (Nat.le_refl _) _
set_option maxHeartbeats 2000000 in
theorem Peek_yes (w : World) (B b m : Nat) (vl vd : Value) (L : List Q) (x : Bx) (h : BoxAt w B b m vl vd L x) (r : R) (hx : x.list[x.handed]? = some r) (hr : r.vers.length ≤ 1000) (hln : x.list.length ≤ 1000) : Calls Try.prog 12 #[.pointer (some ⟨b, 0, none⟩)] w (PeekIs r w) := by
  obtain ⟨Dl, cl, rfl, hcl⟩ := h.hl.form
  have hlt : x.handed < x.list.length := (List.getElem?_eq_some_iff.1 hx).1
  have he : ((x.handed : Int) == (x.list.length : Int)) = false := by simp; omega
  obtain ⟨⟨r', Dq, cq⟩, hq, hqr⟩ : ∃ q : Q, L[x.handed]? = some q ∧ q.r = r := by
    rw [← h.lr, List.getElem?_map, Option.map_eq_some_iff] at hx
    exact hx
  dsimp only at hqr
  subst hqr
  have hqm := List.mem_of_getElem? hq
  obtain ⟨g, off, hDl, q0, q1, q2, q3⟩ := get_q h.hl.cells hq
  dsimp only at q0 q1 q2 q3
  subst hDl
  have c1 : w.cell? ⟨b, 1, none⟩ = some (.slice (some ⟨g, off, none⟩) x.list.length cl) := h.cell 1
  have c2 : w.cell? ⟨b, 2, none⟩ = some (.int .i64 x.handed) := h.cell 2
  have hbl := h.blt
  have hgl : g < w.heap.size := (h.hl.lt g rfl).2
  have hQ : Cells w Dq (flatV r'.vers) := (h.rd _ hqm).1
  have h64 : r'.vers.length * 64 ≤ 140737488351232 := by omega
  have e1 : (0 : Int) ≤ (x.handed : Int) := by omega
  have e2 : (x.handed : Int) < (x.list.length : Int) := by omega
  have hz : (w.alloc (.cells #[.int .u64 0, .int .i64 0, .int .i64 0, .slice none 0 0] 25)).heap.size = w.heap.size + 1 := by simp
  clear hx hq
  go_enter Try.func12, Try.ntmps12
  go_wp2_with fail
  go_quiet (fail)
  go_wp2_with fail
  have hb0 : Below w.heap.size w ((w.alloc (.cells #[.int .u64 0, .int .i64 0, .int .i64 0, .slice none 0 0] 25)).drewN nq) := own_drewN (own_alloc (own_refl _) _) nq
  obtain ⟨W, hW⟩ : ∃ W, (w.alloc (.cells #[.int .u64 0, .int .i64 0, .int .i64 0, .slice none 0 0] 25)).drewN nq = W := ⟨_, rfl⟩
  have hbZ : Below (w.alloc (.cells #[.int .u64 0, .int .i64 0, .int .i64 0, .slice none 0 0] 25)).heap.size (w.alloc (.cells #[.int .u64 0, .int .i64 0, .int .i64 0, .slice none 0 0] 25)) W := hW ▸ own_drewN (own_refl _) nq
  rw [hW] at hb0 ⊢
  clear hW
  have c1' := cell_on hb0 c1
  have c2' := cell_on hb0 c2
  have q0' := cell_on hb0 q0
  have q1' := cell_on hb0 q1
  have q2' := cell_on hb0 q2
  have q3' := cell_on hb0 q3
  have hres : ResAt w.heap.size W := resAt_new hbZ
  have hwW : w.heap.size < W.heap.size := (box_on hbZ).2.2
  clear hbZ h c1 c2 q0 q1 q2 q3 hz
  go_region_held3 (fun w' => Below w.heap.size w w' ∧ ResAt w.heap.size w' ∧ w'.cell? ⟨b, 1, none⟩ = some (.slice (some ⟨g, off, none⟩) x.list.length cl) ∧ w'.cell? ⟨b, 2, none⟩ = some (.int .i64 x.handed) ∧ w'.cell? ⟨g, off + x.handed * 4, none⟩ = some (.int .u64 r'.ts) ∧ w'.cell? ⟨g, off + x.handed * 4 + 1, none⟩ = some (.int .i64 r'.dc) ∧ w'.cell? ⟨g, off + x.handed * 4 + 2, none⟩ = some (.int .i64 r'.tx) ∧ w'.cell? ⟨g, off + x.handed * 4 + 3, none⟩ = some (.slice Dq r'.vers.length cq))
    (first | (refine ⟨own_drew hb0, hres, ?_, ?_, ?_, ?_, ?_, ?_⟩ <;> (go_simp; done)) | (go_split_ands; refine ⟨below_own (by assumption) (by assumption), ResAt.on (by assumption) (by assumption), ?_, ?_, ?_, ?_, ?_, ?_⟩ <;> exact cell_on (by assumption) (by assumption)) | (go_split_ands; refine ⟨own_set (own_set (own_set (own_set (by assumption) (Nat.le_refl _) _) (Nat.le_refl _) _) (Nat.le_refl _) _) (Nat.le_refl _) _, ResAt.set (ResAt.set (ResAt.set (ResAt.set (by assumption) _ _) _ _) _ _) _ _, ?_, ?_, ?_, ?_, ?_, ?_⟩ <;> (go_simp; done)))
    (first | (go_at_call 27; (with_reducible refine (ocopy_any r' Dq _ cq _ rfl h64 (hQ.on (own_drew hb0))).mono ?_); rintro e w2 ⟨D2, cp2, rfl, hown2, hb2⟩; have hres2 : ResAt w.heap.size w2 := ResAt.on (w := W.drew) hres hb2; obtain ⟨⟨v0, v1, v2, v3, z0, z1, z2, z3⟩, hzf⟩ := hres2; have zf0 := hzf 0; have zf1 := hzf 1; have zf2 := hzf 2; have zf3 := hzf 3; clear hzf))
  all_goals
    rename_i hS
    obtain ⟨hbS, _⟩ := hS
    go_wp2
    refine bodyPost_ret (v := .tuple #[.agg #[.int .u64 r'.ts, .int .i64 r'.dc, .int .i64 r'.tx, .slice D2 r'.vers.length cp2], .bool true]) (by simp [results, Try.results12, go_sem, z0, z1, z2, z3]) rfl ?_
    unfold PeekIs
    refine ⟨D2, cp2, rfl, row_weaken (base := W.drew.heap.size) ?_ (Nat.le_of_lt hwW), hbS⟩
    exact Turns.row (S := two w.heap.size w.heap.size) (((((Turns.refl _ w2).set (fun _ => .inl rfl) _).set (fun _ => .inl rfl) _).set (fun _ => .inl rfl) _).set (fun _ => .inl rfl) _) hown2 (fun g hg e => by have h1 := (hown2.lt g hg).1; have h2 : W.drew.heap.size = W.heap.size := rfl; rcases e with e | e <;> omega)
theorem box_int {w : World} {B b m : Nat} {vl vd : Value} {L : List Q} {x : Bx} (h : BoxAt w B b m vl vd L x) (k : Nat) {z : Int} (hz : z = k) : BoxAt (w.setCell ⟨b, 2, none⟩ (.int .i64 z)) B b m vl vd L ⟨x.base, x.list, k, x.done, x.hearts, x.got⟩ := by
  subst hz
  have tt := (Turns.refl (one b) w).set (a := ⟨b, 2, none⟩) (fun _ => rfl) (.int .i64 k)
  have hv : ∀ g, VB w g → ¬ one b g := fun g hg e => h.noVB g hg (.inl e)
  exact ⟨by rw [heap_setCell_same w b 2 _ _ _ h.hb]; rfl, h.hl.turn tt (fun g hg e => h.nl (by rw [hg]; exact congrArg some e)), h.hd.turn tt (fun g hg e => h.nd (by rw [hg]; exact congrArg some e)), h.hm.turn tt (fun e => h.nb e.symm), h.lr, fun q hq => (h.rd q hq).turn tt hv, h.nb, h.nl, h.nd, h.nld⟩
/-- what Next answers where one is there. -/
def NextIs (r : R) (w : World) (B b m : Nat) (vl vd : Value) (L : List Q) (x : Bx) (e : Ending) (w' : World) : Prop := ∃ D cp, e = .returned (.tuple #[.int .i64 (x.base + x.handed), .agg #[.int .u64 r.ts, .int .i64 r.dc, .int .i64 r.tx, .slice D r.vers.length cp], .bool true]) ∧ w'.ownsRow w.heap.size 32 6 (.slice D r.vers.length cp) r.vers.length (flatV r.vers) ∧ BoxAt w' B b m vl vd L ⟨x.base, x.list, x.handed + 1, x.done, x.hearts, x.got⟩ ∧ Turns (one b) w w'
set_option maxHeartbeats 1000000 in
theorem Next_no (w : World) (B b m : Nat) (vl vd : Value) (L : List Q) (x : Bx) (h : BoxAt w B b m vl vd L x) (hh : x.handed = x.list.length) : Calls Try.prog 13 #[.pointer (some ⟨b, 0, none⟩)] w fun e w' => e = .returned (.tuple #[.int .i64 0, .agg #[.int .u64 0, .int .i64 0, .int .i64 0, .slice none 0 0], .bool false]) ∧ Below w.heap.size w w' := by
  have hZ : BoxAt (w.alloc (.cells #[.int .u64 0, .int .i64 0, .int .i64 0, .slice none 0 0] 25)) B b m vl vd L x := h.on (own_alloc (own_refl _) _)
  go_enter Try.func13, Try.ntmps13
  go_wp2_with (go_at_call 12; refine (Peek_no _ B b m vl vd L x hZ hh).mono ?_; rintro e w1 ⟨rfl, hb1⟩; have z0 : w1.cell? ⟨w.heap.size, 0, none⟩ = some (.int .u64 0) := (box_on hb1).1 0; have z1 : w1.cell? ⟨w.heap.size, 1, none⟩ = some (.int .i64 0) := (box_on hb1).1 1; have z2 : w1.cell? ⟨w.heap.size, 2, none⟩ = some (.int .i64 0) := (box_on hb1).1 2; have z3 : w1.cell? ⟨w.heap.size, 3, none⟩ = some (.slice none 0 0) := (box_on hb1).1 3; have zf0 : w1.frozen? ⟨w.heap.size, 0, none⟩ = false := (box_on hb1).2.1 0; have zf1 : w1.frozen? ⟨w.heap.size, 1, none⟩ = false := (box_on hb1).2.1 1; have zf2 : w1.frozen? ⟨w.heap.size, 2, none⟩ = false := (box_on hb1).2.1 2; have zf3 : w1.frozen? ⟨w.heap.size, 3, none⟩ = false := (box_on hb1).2.1 3; have hsz := (box_on hb1).2.2)
  refine bodyPost_ret (v := .tuple #[.int .i64 0, .agg #[.int .u64 0, .int .i64 0, .int .i64 0, .slice none 0 0], .bool false]) (by simp [results, Try.results13, go_sem, z0, z1, z2, z3, hsz]) rfl ⟨rfl, ?_⟩
  exact own_alloc (own_set (own_set (own_set (own_set (below_own (own_alloc (own_refl _) _) hb1) (Nat.le_refl _) _) (Nat.le_refl _) _) (Nat.le_refl _) _) (Nat.le_refl _) _) _
set_option maxHeartbeats 2000000 in
theorem Next_yes (w : World) (B b m : Nat) (vl vd : Value) (L : List Q) (x : Bx) (h : BoxAt w B b m vl vd L x) (r : R) (hx : x.list[x.handed]? = some r) (hr : r.vers.length ≤ 1000) (hln : x.list.length ≤ 1000) (hb0 : 0 ≤ x.base) (hb1 : x.base ≤ 2305843009213693952) : Calls Try.prog 13 #[.pointer (some ⟨b, 0, none⟩)] w (NextIs r w B b m vl vd L x) := by
  have hZ : BoxAt (w.alloc (.cells #[.int .u64 0, .int .i64 0, .int .i64 0, .slice none 0 0] 25)) B b m vl vd L x := h.on (own_alloc (own_refl _) _)
  have hbl := h.blt
  have hhl : x.handed < x.list.length := (List.getElem?_eq_some_iff.1 hx).1
  have HX := Lib.hid hx
  clear hx
  go_enter Try.func13, Try.ntmps13
  go_wp2_with (go_at_call 12; refine (Peek_yes _ B b m vl vd L x hZ r HX.out hr hln).mono ?_; rintro e w1 ⟨D1, cp1, rfl, hown1, hb1'⟩; have z0 : w1.cell? ⟨w.heap.size, 0, none⟩ = some (.int .u64 0) := (box_on hb1').1 0; have z1 : w1.cell? ⟨w.heap.size, 1, none⟩ = some (.int .i64 0) := (box_on hb1').1 1; have z2 : w1.cell? ⟨w.heap.size, 2, none⟩ = some (.int .i64 0) := (box_on hb1').1 2; have z3 : w1.cell? ⟨w.heap.size, 3, none⟩ = some (.slice none 0 0) := (box_on hb1').1 3; have zf0 : w1.frozen? ⟨w.heap.size, 0, none⟩ = false := (box_on hb1').2.1 0; have zf1 : w1.frozen? ⟨w.heap.size, 1, none⟩ = false := (box_on hb1').2.1 1; have zf2 : w1.frozen? ⟨w.heap.size, 2, none⟩ = false := (box_on hb1').2.1 2; have zf3 : w1.frozen? ⟨w.heap.size, 3, none⟩ = false := (box_on hb1').2.1 3; have hsz := (box_on hb1').2.2; have hB1 := hZ.on hb1'; have c0 : w1.cell? ⟨b, 0, none⟩ = some (.int .i64 x.base) := hB1.cell 0; have c2 : w1.cell? ⟨b, 2, none⟩ = some (.int .i64 x.handed) := hB1.cell 2; have f2 : w1.frozen? ⟨b, 2, none⟩ = false := hB1.frozen 2; have hb1l := hB1.blt)
  have i1 : IntKind.i64.wrap (x.base + ((x.handed : Int) + 1)) = x.base + ((x.handed : Int) + 1) := IntWalk.i64_in _ (by omega)
  go_region
  go_wp2
  refine bodyPost_ret (v := .tuple #[.int .i64 (x.base + ((x.handed : Int) + 1) - 1), .agg #[.int .u64 r.ts, .int .i64 r.dc, .int .i64 r.tx, .slice D1 r.vers.length cp1], .bool true]) (by simp [results, Try.results13, go_sem, z0, z1, z2, z3, hsz]) rfl ?_
  rw [show x.base + ((x.handed : Int) + 1) - 1 = x.base + x.handed from by omega]
  unfold NextIs
  have he := box_int hB1 (x.handed + 1) (z := (x.handed : Int) + 1) (by omega)
  have hbB : Below w.heap.size w w1 := below_own (own_alloc (own_refl _) _) hb1'
  have tB := (Turns.of_below (S := one b) hbB).set (a := ⟨b, 2, none⟩) (fun _ => rfl) (.int .i64 ((x.handed : Int) + 1))
  refine ⟨D1, cp1, rfl, ?_, ?_, ?_⟩
  · refine row_weaken (base := (w.alloc (.cells #[.int .u64 0, .int .i64 0, .int .i64 0, .slice none 0 0] 25)).heap.size) ?_ (by simp)
    refine Turns.row (S := two b w.heap.size) (w := w1) ?_ hown1 (fun g hg e => by have h1 := (hown1.lt g hg).1; simp at h1; rcases e with e | e <;> omega)
    exact (((((((Turns.refl _ w1).set (fun _ => .inl rfl) _).set (fun _ => .inr rfl) _).set (fun _ => .inr rfl) _).set (fun _ => .inr rfl) _).set (fun _ => .inr rfl) _).alloc _).drew
  · refine BoxAt.far (S := two w.heap.size w.heap.size) he h.under ?_ (fun g e => by rcases e with rfl | rfl <;> exact Nat.le_refl _)
    exact ((((((Turns.refl _ _).set (fun _ => .inl rfl) _).set (fun _ => .inl rfl) _).set (fun _ => .inl rfl) _).set (fun _ => .inl rfl) _).alloc _).drew
  · refine tB.on (S' := two w.heap.size w.heap.size) ?_ (fun j hj e => by rcases e with rfl | rfl <;> omega)
    exact ((((((Turns.refl _ _).set (fun _ => .inl rfl) _).set (fun _ => .inl rfl) _).set (fun _ => .inl rfl) _).set (fun _ => .inl rfl) _).alloc _).drew
theorem put_mk {w w' : World} {B b m n nd : Nat} {vl vd : Value} {L : List Q} {x : Bx} {q : Q} {D3 D5 : Option Addr} {cp3 cp5 : Nat} {S : Nat → Prop} (h : BoxAt w B b m vl vd L x) (ht : Turns S w w') (hS : ∀ g, S g → g = b ∨ vl.ownBlock = some g ∨ vd.ownBlock = some g)
    (hb : w'.heap[b]? = some (.cells #[.int .i64 x.base, .slice D3 n cp3, .int .i64 x.handed, .slice D5 nd cp5, .map (some m), .int .u64 x.got] 59 (0, 0)))
    (hl : OwnAt w' B 25 4 (.slice D3 n cp3) n (flatQ L ++ q.cells)) (hd : OwnAt w' B 4 1 (.slice D5 nd cp5) nd (x.done.map Value.bool ++ [.bool false])) (hn : n = x.list.length + 1) (hnd : nd = x.done.length + 1) (hq : QAt w' q)
    (nl : ∀ g, (Value.slice D3 n cp3).ownBlock = some g → vl.ownBlock = some g ∨ w.heap.size ≤ g) (nd' : ∀ g, (Value.slice D5 nd cp5).ownBlock = some g → vd.ownBlock = some g ∨ w.heap.size ≤ g)
    (nld : ∀ g, (Value.slice D3 n cp3).ownBlock = some g → (Value.slice D5 nd cp5).ownBlock ≠ some g) :
    BoxAt w' B b m (.slice D3 n cp3) (.slice D5 nd cp5) (L ++ [q]) ⟨x.base, x.list ++ [q.r], x.handed, x.done ++ [false], x.hearts, x.got⟩ := by
  subst hn hnd
  have hbl := h.blt
  have hm : ¬ S m := fun e => by
    rcases hS m e with e | e | e
    · exact h.nb e.symm
    · exact h.noVB' (.inr (.inl e))
    · exact h.noVB' (.inr (.inr e))
  refine ⟨hb, by simpa [flatQ] using hl, by simpa using hd, h.hm.turn ht hm, by simp [h.lr], fun q' hq' => ?_, h.nb, fun e => ?_, fun e => ?_, nld⟩
  · rcases List.mem_append.1 hq' with hq' | hq'
    · exact (h.rd q' hq').turn ht (fun g hg e => h.noVB g hg (by rcases hS g e with e | e | e; exact .inl e; exact .inr (.inr (.inl e)); exact .inr (.inr (.inr e))))
    · rw [List.mem_singleton] at hq'
      subst hq'
      exact hq
  · rcases nl b e with e | e
    · exact h.nl e
    · omega
  · rcases nd' b e with e | e
    · exact h.nd e
    · omega
/-- what Put leaves where it takes the commit. -/
def PutIs (r : R) (w : World) (B b m : Nat) (vl vd : Value) (L : List Q) (x : Bx) (e : Ending) (w' : World) : Prop := ∃ vl' vd' q, e = .returned (.int .i64 0) ∧ q.r = r ∧ BoxAt w' B b m vl' vd' (L ++ [q]) ⟨x.base, x.list ++ [r], x.handed, x.done ++ [false], x.hearts, x.got⟩ ∧ Turns (boxS b m vl vd) w w' ∧
  (∀ g, g < w.heap.size → vl'.ownBlock = some g → vl.ownBlock = some g) ∧ (∀ g, g < w.heap.size → vd'.ownBlock = some g → vd.ownBlock = some g) ∧ ∀ g, q.D.map Addr.block = some g → w.heap.size ≤ g
theorem put_old (w : World) (B b m : Nat) (vl vd : Value) (L : List Q) (x : Bx) (h : BoxAt w B b m vl vd L x) (r : R) (D : Option Addr) (n c : Nat) (at' : Int) (hlt : at' < x.base + x.list.length) (hx : x.ok) : Calls Try.prog 11 #[.pointer (some ⟨b, 0, none⟩), .int .i64 at', .agg #[.int .u64 r.ts, .int .i64 r.dc, .int .i64 r.tx, .slice D n c]] w fun e w' => e = .returned (.int .i64 11) ∧ Below w.heap.size w w' := by
  obtain ⟨Dl, cl, rfl, hcl⟩ := h.hl.form
  have c0 : w.cell? ⟨b, 0, none⟩ = some (.int .i64 x.base) := h.cell 0
  have c1 : w.cell? ⟨b, 1, none⟩ = some (.slice Dl x.list.length cl) := h.cell 1
  have hbl := h.blt
  have h1 := hx.b0
  have h2 := hx.b1
  have h3 := hx.l1
  have i1 : IntKind.i64.wrap (x.base + (x.list.length : Int)) = x.base + (x.list.length : Int) := IntWalk.i64_in _ (by omega)
  go_enter Try.func11, Try.ntmps11
  go_wp2_with fail
  go_quiet (fail)
  clear i1
  go_wp2
  go_ret
  exact ⟨rfl, own_drewN (own_alloc (own_refl _) _) _⟩
theorem put_far (w : World) (B b m : Nat) (vl vd : Value) (L : List Q) (x : Bx) (h : BoxAt w B b m vl vd L x) (r : R) (D : Option Addr) (n c : Nat) (at' : Int) (hlt : x.base + x.list.length < at') (hx : x.ok) : Calls Try.prog 11 #[.pointer (some ⟨b, 0, none⟩), .int .i64 at', .agg #[.int .u64 r.ts, .int .i64 r.dc, .int .i64 r.tx, .slice D n c]] w fun e w' => e = .returned (.int .i64 7) ∧ Below w.heap.size w w' := by
  obtain ⟨Dl, cl, rfl, hcl⟩ := h.hl.form
  have c0 : w.cell? ⟨b, 0, none⟩ = some (.int .i64 x.base) := h.cell 0
  have c1 : w.cell? ⟨b, 1, none⟩ = some (.slice Dl x.list.length cl) := h.cell 1
  have hbl := h.blt
  have h1 := hx.b0
  have h2 := hx.b1
  have h3 := hx.l1
  have k1 : ¬ at' < x.base + (x.list.length : Int) := by omega
  have i1 : IntKind.i64.wrap (x.base + (x.list.length : Int)) = x.base + (x.list.length : Int) := IntWalk.i64_in _ (by omega)
  go_enter Try.func11, Try.ntmps11
  go_wp2_with fail
  go_quiet (fail)
  go_wp2_with fail
  go_quiet (fail)
  clear i1
  go_wp2
  go_ret
  exact ⟨rfl, own_drewN (own_drewN (own_alloc (own_refl _) _) _) _⟩
theorem own_map {D : Option Addr} {n c : Nat} : (Value.slice D n c).ownBlock = D.map Addr.block := by cases D <;> rfl
theorem infoBool : (Try.prog.info? 4).map (fun i => (i.zero, i.size, i.bytes)) = some (some (.bool false), 1, 1) := by kernel_rfl
theorem put_fin {w w2 w3 w5 : World} {B b m : Nat} {vl vd : Value} {L : List Q} {x : Bx} {q : Q} {D3 D5 : Option Addr} {cp3 cp5 : Nat} {o2 o4 : Obj} (hbw : Below w.heap.size w w2) (hB0 : BoxAt w B b m vl vd L x) (hB2 : BoxAt w2 B b m vl vd L x) (hQ2 : QAt w2 q) (hlow : ∀ g, q.D.map Addr.block = some g → w.heap.size ≤ g)
    (hown3 : OwnAt w3 B 25 4 (.slice D3 (x.list.length + 1) cp3) (x.list.length + 1) (flatQ L ++ q.cells)) (hg3 : (w2.alloc o2).grownBy w3 vl.ownBlock) (hloc3 : ∀ g, (Value.slice D3 (x.list.length + 1) cp3).ownBlock = some g → vl.ownBlock = some g ∨ (w2.alloc o2).heap.size ≤ g)
    (hown5 : OwnAt w5 B 4 1 (.slice D5 (x.done.length + 1) cp5) (x.done.length + 1) (x.done.map Value.bool ++ [.bool false])) (hg5 : ((w3.setCell ⟨b, 1, none⟩ (.slice D3 (x.list.length + 1) cp3)).alloc o4).grownBy w5 vd.ownBlock) (hloc5 : ∀ g, (Value.slice D5 (x.done.length + 1) cp5).ownBlock = some g → vd.ownBlock = some g ∨ ((w3.setCell ⟨b, 1, none⟩ (.slice D3 (x.list.length + 1) cp3)).alloc o4).heap.size ≤ g) :
    PutIs q.r w B b m vl vd L x (.returned (.int .i64 0)) (w5.setCell ⟨b, 3, none⟩ (.slice D5 (x.done.length + 1) cp5)) := by
  have hbl := hB2.blt
  have hs2 : (w2.alloc o2).heap.size = w2.heap.size + 1 := by simp
  have hs3 := hg3.size
  have hs4 : ((w3.setCell ⟨b, 1, none⟩ (.slice D3 (x.list.length + 1) cp3)).alloc o4).heap.size = w3.heap.size + 1 := by simp [World.setCell]
  have hs5 := hg5.size
  have t3 : Turns (fun k => vl.ownBlock = some k) w2 w3 := ((Turns.refl _ w2).alloc o2).grown hg3 (fun _ _ e => e)
  have tS : Turns (fun k => k = b ∨ vl.ownBlock = some k ∨ vd.ownBlock = some k) w2 (w5.setCell ⟨b, 3, none⟩ (.slice D5 (x.done.length + 1) cp5)) :=
    ((((t3.weaken (fun _ _ e => .inr (.inl e))).set (a := ⟨b, 1, none⟩) (fun _ => .inl rfl) _).alloc o4).grown hg5 (fun _ _ e => .inr (.inr e))).set (a := ⟨b, 3, none⟩) (fun _ => .inl rfl) _
  have hb3 : w3.heap[b]? = some (.cells #[.int .i64 x.base, vl, .int .i64 x.handed, vd, .map (some m), .int .u64 x.got] 59 (0, 0)) := (t3.block b hbl hB2.nl).trans hB2.hb
  have hb4 := heap_setCell_same w3 b 1 _ _ (.slice D3 (x.list.length + 1) cp3) hb3
  have hb4' : ((w3.setCell ⟨b, 1, none⟩ (.slice D3 (x.list.length + 1) cp3)).alloc o4).heap[b]? = some (.cells #[.int .i64 x.base, .slice D3 (x.list.length + 1) cp3, .int .i64 x.handed, vd, .map (some m), .int .u64 x.got] 59 (0, 0)) := by
    rw [Below.heap_alloc _ _ _ (by simp [World.setCell]; omega), hb4]; rfl
  have hb5 : w5.heap[b]? = some (.cells #[.int .i64 x.base, .slice D3 (x.list.length + 1) cp3, .int .i64 x.handed, vd, .map (some m), .int .u64 x.got] 59 (0, 0)) := (hg5.block b (by omega) (fun e => hB2.nd e.symm)).trans hb4'
  have hb6 := heap_setCell_same w5 b 3 _ _ (.slice D5 (x.done.length + 1) cp5) hb5
  have n3 : ∀ g, (Value.slice D3 (x.list.length + 1) cp3).ownBlock = some g → vl.ownBlock = some g ∨ w2.heap.size ≤ g := fun g hg => (hloc3 g hg).imp id (fun e => by omega)
  have n5 : ∀ g, (Value.slice D5 (x.done.length + 1) cp5).ownBlock = some g → vd.ownBlock = some g ∨ w2.heap.size ≤ g := fun g hg => (hloc5 g hg).imp id (fun e => by omega)
  have l3 : ∀ g, (Value.slice D3 (x.list.length + 1) cp3).ownBlock = some g → g ≠ b ∧ g < w3.heap.size := fun g hg => ⟨fun e => by subst e; rcases n3 g hg with e | e; exact hB2.nl e; omega, (hown3.lt g hg).2⟩
  have nld : ∀ g, (Value.slice D3 (x.list.length + 1) cp3).ownBlock = some g → (Value.slice D5 (x.done.length + 1) cp5).ownBlock ≠ some g := fun g hg e => by
    have h1 := (l3 g hg).2
    rcases hloc5 g e with e2 | e2
    · rcases n3 g hg with e3 | e3
      · exact hB2.nld g e3 e2
      · have := (hB2.hd.lt g e2).2; omega
    · omega
  have own3 : OwnAt (w5.setCell ⟨b, 3, none⟩ (.slice D5 (x.done.length + 1) cp5)) B 25 4 (.slice D3 (x.list.length + 1) cp3) (x.list.length + 1) (flatQ L ++ q.cells) := by
    refine hown3.turn (S := fun k => k = b ∨ vd.ownBlock = some k) (((((Turns.refl _ w3).set (a := ⟨b, 1, none⟩) (fun _ => .inl rfl) _).alloc o4).grown hg5 (fun _ _ e => .inr e)).set (a := ⟨b, 3, none⟩) (fun _ => .inl rfl) _) (fun g hg e => ?_)
    rcases e with e | e
    · exact (l3 g hg).1 e
    · rcases n3 g hg with e3 | e3
      · exact hB2.nld g e3 e
      · have := (hB2.hd.lt g e).2; omega
  have own5 : OwnAt (w5.setCell ⟨b, 3, none⟩ (.slice D5 (x.done.length + 1) cp5)) B 4 1 (.slice D5 (x.done.length + 1) cp5) (x.done.length + 1) (x.done.map Value.bool ++ [.bool false]) := by
    refine hown5.turn (S := one b) ((Turns.refl (one b) w5).set (a := ⟨b, 3, none⟩) (fun _ => rfl) _) (fun g hg e => ?_)
    have e : g = b := e
    subst e
    rcases n5 g hg with e | e
    · exact hB2.nd e
    · omega
  have hq6 : QAt (w5.setCell ⟨b, 3, none⟩ (.slice D5 (x.done.length + 1) cp5)) q := hQ2.turn tS (fun g hg e => hB2.noVB g hg (by rcases e with e | e | e; exact .inl e; exact .inr (.inr (.inl e)); exact .inr (.inr (.inr e))))
  refine ⟨_, _, q, rfl, rfl, put_mk hB2 tS (fun _ e => e) (by rw [hb6]; rfl) own3 own5 rfl rfl hq6 n3 n5 nld, ?_, fun g hg e => ?_, fun g hg e => ?_, hlow⟩
  · exact (Turns.of_below hbw).on tS (fun j hj e => by rcases e with e | e | e; exact .inl e; exact .inr (.inr (.inl e)); exact .inr (.inr (.inr e)))
  · rcases n3 g e with e | e
    · exact e
    · have := hbw.size; omega
  · rcases n5 g e with e | e
    · exact e
    · have := hbw.size; omega
set_option maxRecDepth 100000 in
set_option maxHeartbeats 4000000 in
theorem put_ok (w : World) (B b m : Nat) (vl vd : Value) (L : List Q) (x : Bx) (h : BoxAt w B b m vl vd L x) (r : R) (D : Option Addr) (c : Nat) (at' : Int) (hat : at' = x.base + x.list.length) (hx : x.ok) (hl : x.list.length ≤ 150) (hr : r.vers.length ≤ 1000) (hD : Cells w D (flatV r.vers)) (hB : B ≤ w.heap.size) : Calls Try.prog 11 #[.pointer (some ⟨b, 0, none⟩), .int .i64 at', .agg #[.int .u64 r.ts, .int .i64 r.dc, .int .i64 r.tx, .slice D r.vers.length c]] w (PutIs r w B b m vl vd L x) := by
  obtain ⟨i0, hi0, hz0, hz1, hz2⟩ := info_parts infoRec
  obtain ⟨i2, hi2, hy0, hy1, hy2⟩ := info_parts infoBool
  obtain ⟨Dl, cl, rfl, hcl⟩ := h.hl.form
  obtain ⟨Dd, cd, rfl, hcd⟩ := h.hd.form
  have h1 := hx.b0
  have h2 := hx.b1
  have h3 := hx.dn
  have k1 : ¬ at' < x.base + (x.list.length : Int) := by omega
  have k2 : ¬ x.base + (x.list.length : Int) < at' := by omega
  have k3 : (x.list.length : Int) < 4096 := by omega
  have h64 : r.vers.length * 64 ≤ 140737488351232 := by omega
  have hdl : x.done.length ≤ 150 := by omega
  have i1 : IntKind.i64.wrap (x.base + (x.list.length : Int)) = x.base + (x.list.length : Int) := IntWalk.i64_in _ (by omega)
  clear hat h3
  have c0 : w.cell? ⟨b, 0, none⟩ = some (.int .i64 x.base) := h.cell 0
  have c1 : w.cell? ⟨b, 1, none⟩ = some (.slice Dl x.list.length cl) := h.cell 1
  have hbl := h.blt
  go_enter Try.func11, Try.ntmps11
  go_wp2_with fail
  go_quiet (fail)
  obtain ⟨W1, hW1⟩ : ∃ W1, (w.alloc (.cells #[.int .u64 r.ts, .int .i64 r.dc, .int .i64 r.tx, .slice D r.vers.length c] 25)).drewN nq = W1 := ⟨_, rfl⟩
  have hb1 : Below w.heap.size w W1 := hW1 ▸ own_drewN (own_alloc (own_refl _) _) nq
  have hx1 : Below (w.alloc (.cells #[.int .u64 r.ts, .int .i64 r.dc, .int .i64 r.tx, .slice D r.vers.length c] 25)).heap.size (w.alloc (.cells #[.int .u64 r.ts, .int .i64 r.dc, .int .i64 r.tx, .slice D r.vers.length c] 25)) W1 := hW1 ▸ own_drewN (own_refl _) nq
  rw [hW1]
  clear hW1
  have c0' := cell_on hb1 c0
  have c1' := cell_on hb1 c1
  go_wp2_with fail
  go_quiet (fail)
  obtain ⟨W, hW⟩ : ∃ W, W1.drewN nq = W := ⟨_, rfl⟩
  have hbW : Below w.heap.size w W := hW ▸ own_drewN hb1 nq
  have hxW : Below (w.alloc (.cells #[.int .u64 r.ts, .int .i64 r.dc, .int .i64 r.tx, .slice D r.vers.length c] 25)).heap.size (w.alloc (.cells #[.int .u64 r.ts, .int .i64 r.dc, .int .i64 r.tx, .slice D r.vers.length c] 25)) W := hW ▸ own_drewN hx1 nq
  rw [hW]
  clear hW c0' c1' hb1 hx1
  have hBW := h.on hbW
  have hBle : B ≤ W.heap.size := Nat.le_trans hB hbW.size
  have hDW := hD.on hbW
  have d1 : W.cell? ⟨b, 1, none⟩ = some (.slice Dl x.list.length cl) := cell_on hbW c1
  have y0 : W.cell? ⟨w.heap.size, 0, none⟩ = some (.int .u64 r.ts) := (box_on hxW).1 0
  have y1 : W.cell? ⟨w.heap.size, 1, none⟩ = some (.int .i64 r.dc) := (box_on hxW).1 1
  have y2 : W.cell? ⟨w.heap.size, 2, none⟩ = some (.int .i64 r.tx) := (box_on hxW).1 2
  have y3 : W.cell? ⟨w.heap.size, 3, none⟩ = some (.slice D r.vers.length c) := (box_on hxW).1 3
  go_wp2_with fail
  clear hxW
  go_region_law (first | (refine step_append_at _ (by rfl) _ _ 51 (by rfl) B 25 i0 (.agg #[.int .u64 0, .int .i64 0, .int .i64 0, .slice none 0 0]) 4 48 Try.underlying51 hi0 hz0 hz1 hz2 (by rfl) (by omega) _ _ _ (by rfl) (hB2.hl.on (own_alloc (own_refl _) _)) _ 1 _ [.int .u64 r.ts, .int .i64 r.dc, .int .i64 r.tx, .slice D2 r.vers.length cp2] (by rfl) rfl (Cells.new w2 #[.int .u64 r.ts, .int .i64 r.dc, .int .i64 r.tx, .slice D2 r.vers.length cp2] 25) (one_q ⟨r, D2, cp2⟩) (by unfold maxLen; omega) (by omega) (by have := hBle; have := hbW2.size; simp; omega) ?_; intro D3 cp3 w3 hown3 hgrow3 hloc3; have t3 := ((Turns.refl (fun k => (Value.slice Dl x.list.length cl).ownBlock = some k) w2).alloc _).grown hgrow3 (fun _ _ e => e); have c1'' : w3.cell? ⟨b, 1, none⟩ = some (.slice Dl x.list.length cl) := t3.cell c1' hB2.nl; have f1'' : w3.frozen? ⟨b, 1, none⟩ = false := t3.frozen (a := ⟨b, 1, none⟩) hbl2 hB2.nl (hB2.frozen 1); have c3'' : w3.cell? ⟨b, 3, none⟩ = some (.slice Dd x.done.length cd) := t3.cell (hB2.cell 3) hB2.nl; have f3'' : w3.frozen? ⟨b, 3, none⟩ = false := t3.frozen (a := ⟨b, 3, none⟩) hbl2 hB2.nl (hB2.frozen 3); have hd3 := hB2.hd.turn t3 (fun g hg e => hB2.nld g e hg)) | (go_simp; (go_at_call 27; (with_reducible refine (ocopy_any r D _ c _ rfl h64 (hDW.on (own_drew (own_refl _)))).mono ?_); rintro e w2 ⟨D2, cp2, rfl, hown2, hb2⟩; have hbW2 : Below W.heap.size W w2 := below_own (own_drew (own_refl _)) hb2; have hB2 := hBW.on hbW2; have c1' : w2.cell? ⟨b, 1, none⟩ = some (.slice Dl x.list.length cl) := hB2.cell 1; have hbl2 := hB2.blt)))
  all_goals
    have hd4 := hd3.turn ((Turns.refl (one b) w3).set (a := ⟨b, 1, none⟩) (fun _ => rfl) (.slice D3 (x.list.length + 1) cp3)) (fun g hg e => hB2.nd (by rw [hg]; exact congrArg some e))
    have hs3 : w2.heap.size + 1 ≤ w3.heap.size := by have := hgrow3.size; simpa using this
    have c4 : (w3.setCell ⟨b, 1, none⟩ (.slice D3 (x.list.length + 1) cp3)).cell? ⟨b, 3, none⟩ = some (.slice Dd x.done.length cd) := by go_simp
    have f4 : (w3.setCell ⟨b, 1, none⟩ (.slice D3 (x.list.length + 1) cp3)).frozen? ⟨b, 3, none⟩ = false := by go_simp
    have hnew : Cells ((w3.setCell ⟨b, 1, none⟩ (.slice D3 (x.list.length + 1) cp3)).alloc (.cells #[.bool false] 4)) (some ⟨(w3.setCell ⟨b, 1, none⟩ (.slice D3 (x.list.length + 1) cp3)).heap.size, 0, none⟩) [.bool false] := Cells.new (w3.setCell ⟨b, 1, none⟩ (.slice D3 (x.list.length + 1) cp3)) #[.bool false] 4
    rw [show (w3.setCell ⟨b, 1, none⟩ (.slice D3 (x.list.length + 1) cp3)).heap.size = w3.heap.size from by simp [World.setCell]] at hnew
    clear y0 y1 y2 y3 d1 c0 c1 i1
    go_wp2_with (at_builtin; go_loud (refine wpList_append_at _ rfl _ _ 52 rfl B 4 i2 (.bool false) 1 1 Try.underlying52 hi2 hy0 hy1 hy2 rfl (by omega) _ _ _ rfl (hd4.on (own_alloc (own_refl _) _)) _ 1 _ [.bool false] rfl rfl hnew (fun u hu => by rw [List.mem_singleton] at hu; subst hu; rfl) (by unfold maxLen; omega) (by omega) (by have := hBle; have := hbW2.size; simp; omega) ?_); intro D5 cp5 w5 hown5 hgrow5 hloc5; have t5 := ((Turns.refl (fun k => (Value.slice Dd x.done.length cd).ownBlock = some k) (w3.setCell ⟨b, 1, none⟩ (.slice D3 (x.list.length + 1) cp3))).alloc _).grown hgrow5 (fun _ _ e => e); have c5 : w5.cell? ⟨b, 3, none⟩ = some (.slice Dd x.done.length cd) := t5.cell c4 hB2.nd; have f5 : w5.frozen? ⟨b, 3, none⟩ = false := t5.frozen (a := ⟨b, 3, none⟩) (by simp; omega) hB2.nd f4)
    go_ret
    exact put_fin (q := ⟨r, D2, cp2⟩) (below_own hbW hbW2) h hB2 (qat_own hown2 rfl) (fun g hg => by have := (hown2.lt g (own_map.trans hg)).1; have h2 : W.drew.heap.size = W.heap.size := rfl; have := hbW.size; omega) hown3 hgrow3 hloc3 hown5 hgrow5 hloc5
end Go.Proofs.Ytneglecglkibfaa
