/-
  The walks of the document's answer for the inbox: Next, Peek, Complete, Heard. Conditions: its box lies as the hypotheses say.
-/
import Derived.Test.YtneglecglkibfaaRfT
namespace Go.Proofs.Ytneglecglkibfaa
open Go.RowKit Go.Maps
set_option linter.unusedVariables false

theorem rnext_no (w : World) (B b : Nat) (vc vd vh : Value) (L : List Q) (x : Rf) (h : RfAt w B b vc vd vh L x) (hh : x.handed = x.came.length) : Calls Try.prog 20 #[.pointer (some ⟨b, 0, none⟩)] w fun e w' => e = .returned (.tuple #[.int .i64 0, .agg #[.int .u64 0, .int .i64 0, .int .i64 0, .slice none 0 0], .bool false]) ∧ Below w.heap.size w w' := by
  obtain ⟨Dl, cl, rfl, hcl⟩ := h.hc.form
  have c1 : w.cell? ⟨b, 1, none⟩ = some (.slice Dl x.came.length cl) := h.cell 1
  have c2 : w.cell? ⟨b, 2, none⟩ = some (.int .i64 x.handed) := h.cell 2
  have hbl := h.blt
  have k1 : (x.came.length : Int) ≤ (x.handed : Int) := by omega
  have k2 : x.came.length ≤ x.handed := by omega
  clear hh
  go_enter Try.func20, Try.ntmps20
  go_wp2_with fail
  go_quiet (fail)
  go_wp2
  refine bodyPost_ret (v := .tuple #[.int .i64 0, .agg #[.int .u64 0, .int .i64 0, .int .i64 0, .slice none 0 0], .bool false]) (by simp [results, Try.results20, go_sem]) rfl ⟨rfl, ?_⟩
  exact own_set (own_set (own_set (own_set (own_drewN (own_alloc (own_refl _) _) _) (Nat.le_refl _) _) (Nat.le_refl _) _) (Nat.le_refl _) _) (Nat.le_refl _) _
theorem rpeek_no (w : World) (B b : Nat) (vc vd vh : Value) (L : List Q) (x : Rf) (h : RfAt w B b vc vd vh L x) (hh : x.handed = x.came.length) : Calls Try.prog 24 #[.pointer (some ⟨b, 0, none⟩)] w fun e w' => e = .returned (.tuple #[.agg #[.int .u64 0, .int .i64 0, .int .i64 0, .slice none 0 0], .bool false]) ∧ Below w.heap.size w w' := by
  obtain ⟨Dl, cl, rfl, hcl⟩ := h.hc.form
  have c1 : w.cell? ⟨b, 1, none⟩ = some (.slice Dl x.came.length cl) := h.cell 1
  have c2 : w.cell? ⟨b, 2, none⟩ = some (.int .i64 x.handed) := h.cell 2
  have hbl := h.blt
  have k1 : (x.came.length : Int) ≤ (x.handed : Int) := by omega
  have k2 : x.came.length ≤ x.handed := by omega
  clear hh
  go_enter Try.func24, Try.ntmps24
  go_wp2_with fail
  go_quiet (fail)
  go_wp2
  refine bodyPost_ret (v := .tuple #[.agg #[.int .u64 0, .int .i64 0, .int .i64 0, .slice none 0 0], .bool false]) (by simp [results, Try.results24, go_sem]) rfl ⟨rfl, ?_⟩
  exact own_set (own_set (own_set (own_set (own_drewN (own_alloc (own_refl _) _) _) (Nat.le_refl _) _) (Nat.le_refl _) _) (Nat.le_refl _) _) (Nat.le_refl _) _
set_option maxRecDepth 100000 in
set_option maxHeartbeats 2000000 in
theorem rpeek_yes (w : World) (B b : Nat) (vc vd vh : Value) (L : List Q) (x : Rf) (h : RfAt w B b vc vd vh L x) (q : Q) (hq : L[x.handed]? = some q) (hm : x.came.length ≤ 1000) : Calls Try.prog 24 #[.pointer (some ⟨b, 0, none⟩)] w fun e w' => e = .returned (.tuple #[.agg #[.int .u64 q.r.ts, .int .i64 q.r.dc, .int .i64 q.r.tx, .slice q.D q.r.vers.length q.c], .bool true]) ∧ Below w.heap.size w w' := by
  obtain ⟨Dl, cl, rfl, hcl⟩ := h.hc.form
  have c1 : w.cell? ⟨b, 1, none⟩ = some (.slice Dl x.came.length cl) := h.cell 1
  have c2 : w.cell? ⟨b, 2, none⟩ = some (.int .i64 x.handed) := h.cell 2
  have hbl := h.blt
  have hlt : x.handed < L.length := (List.getElem?_eq_some_iff.1 hq).1
  have hlen : L.length = x.came.length := by rw [← h.lr, List.length_map]
  have k1 : ¬ (x.came.length : Int) ≤ (x.handed : Int) := by omega
  have k2 : ¬ x.came.length ≤ x.handed := by omega
  have k3 : (0 : Int) ≤ (x.handed : Int) := by omega
  have k4 : (x.handed : Int) < (x.came.length : Int) := by omega
  obtain ⟨g, off, rfl, q0, q1, q2, q3⟩ := get_q h.hc.cells hq
  clear hlt hlen
  go_enter Try.func24, Try.ntmps24
  go_wp2_with fail
  go_quiet (fail)
  obtain ⟨W, hW⟩ : ∃ W, (w.alloc (.cells #[.int .u64 0, .int .i64 0, .int .i64 0, .slice none 0 0] 25)).drewN nq = W := ⟨_, rfl⟩
  have hxW : Below (w.alloc (.cells #[.int .u64 0, .int .i64 0, .int .i64 0, .slice none 0 0] 25)).heap.size (w.alloc (.cells #[.int .u64 0, .int .i64 0, .int .i64 0, .slice none 0 0] 25)) W := hW ▸ own_drewN (own_refl _) nq
  have hbW : Below w.heap.size w W := below_own (own_alloc (own_refl _) _) hxW
  rw [hW]
  clear hW
  have c1' := cell_on hbW c1
  have c2' := cell_on hbW c2
  have q0' := cell_on hbW q0
  have q1' := cell_on hbW q1
  have q2' := cell_on hbW q2
  have q3' := cell_on hbW q3
  have z0 : W.cell? ⟨w.heap.size, 0, none⟩ = some (.int .u64 0) := (box_on hxW).1 0
  have z1 : W.cell? ⟨w.heap.size, 1, none⟩ = some (.int .i64 0) := (box_on hxW).1 1
  have z2 : W.cell? ⟨w.heap.size, 2, none⟩ = some (.int .i64 0) := (box_on hxW).1 2
  have z3 : W.cell? ⟨w.heap.size, 3, none⟩ = some (.slice none 0 0) := (box_on hxW).1 3
  have zf0 : W.frozen? ⟨w.heap.size, 0, none⟩ = false := (box_on hxW).2.1 0
  have zf1 : W.frozen? ⟨w.heap.size, 1, none⟩ = false := (box_on hxW).2.1 1
  have zf2 : W.frozen? ⟨w.heap.size, 2, none⟩ = false := (box_on hxW).2.1 2
  have zf3 : W.frozen? ⟨w.heap.size, 3, none⟩ = false := (box_on hxW).2.1 3
  have hgl : g < w.heap.size := World.block_lt_of_cell? _ _ q0
  have hgn : g ≠ w.heap.size := by omega
  have hbn : b ≠ w.heap.size := by omega
  have hzs := (box_on hxW).2.2
  go_wp2_with fail
  go_region
  go_wp2
  refine bodyPost_ret (v := .tuple #[.agg #[.int .u64 q.r.ts, .int .i64 q.r.dc, .int .i64 q.r.tx, .slice q.D q.r.vers.length q.c], .bool true]) (by simp [results, Try.results24, go_sem, z0, z1, z2, z3]) rfl ⟨rfl, ?_⟩
  exact own_drew (own_set (own_set (own_set (own_set hbW (Nat.le_refl _) _) (Nat.le_refl _) _) (Nat.le_refl _) _) (Nat.le_refl _) _)
set_option maxRecDepth 100000 in
set_option maxHeartbeats 4000000 in
theorem rnext_yes (w : World) (B b : Nat) (vc vd vh : Value) (L : List Q) (x : Rf) (h : RfAt w B b vc vd vh L x) (hx : x.ok) (q : Q) (hq : L[x.handed]? = some q) : Calls Try.prog 20 #[.pointer (some ⟨b, 0, none⟩)] w fun e w' => e = .returned (.tuple #[.int .i64 (x.first + x.handed), .agg #[.int .u64 q.r.ts, .int .i64 q.r.dc, .int .i64 q.r.tx, .slice q.D q.r.vers.length q.c], .bool true]) ∧ RfAt w' B b vc vd vh L ⟨x.first, x.came, x.handed + 1, x.done, x.hearts, x.got⟩ ∧ Turns (one b) w w' := by
  obtain ⟨Dl, cl, rfl, hcl⟩ := h.hc.form
  have c0 : w.cell? ⟨b, 0, none⟩ = some (.int .i64 x.first) := h.cell 0
  have c1 : w.cell? ⟨b, 1, none⟩ = some (.slice Dl x.came.length cl) := h.cell 1
  have c2 : w.cell? ⟨b, 2, none⟩ = some (.int .i64 x.handed) := h.cell 2
  have hbl := h.blt
  have f2 : w.frozen? ⟨b, 2, none⟩ = false := h.frozen 2
  have hlt : x.handed < L.length := (List.getElem?_eq_some_iff.1 hq).1
  have hlen : L.length = x.came.length := by rw [← h.lr, List.length_map]
  have h0 := hx.f0
  have h1 := hx.f1
  have h2 := hx.l1
  have k1 : ¬ (x.came.length : Int) ≤ (x.handed : Int) := by omega
  have k2 : ¬ x.came.length ≤ x.handed := by omega
  have k3 : (0 : Int) ≤ (x.handed : Int) := by omega
  have k4 : (x.handed : Int) < (x.came.length : Int) := by omega
  have k5 : (x.handed : Int) ≤ 140 := by omega
  obtain ⟨g, off, rfl, q0, q1, q2, q3⟩ := get_q h.hc.cells hq
  clear hlt hlen h2
  go_enter Try.func20, Try.ntmps20
  go_wp2_with fail
  go_quiet (fail)
  obtain ⟨W, hW⟩ : ∃ W, (w.alloc (.cells #[.int .u64 0, .int .i64 0, .int .i64 0, .slice none 0 0] 25)).drewN nq = W := ⟨_, rfl⟩
  have hxW : Below (w.alloc (.cells #[.int .u64 0, .int .i64 0, .int .i64 0, .slice none 0 0] 25)).heap.size (w.alloc (.cells #[.int .u64 0, .int .i64 0, .int .i64 0, .slice none 0 0] 25)) W := hW ▸ own_drewN (own_refl _) nq
  have hbW : Below w.heap.size w W := below_own (own_alloc (own_refl _) _) hxW
  rw [hW]
  clear hW
  have c0' := cell_on hbW c0
  have c1' := cell_on hbW c1
  have c2' := cell_on hbW c2
  have q0' := cell_on hbW q0
  have q1' := cell_on hbW q1
  have q2' := cell_on hbW q2
  have q3' := cell_on hbW q3
  have z0 : W.cell? ⟨w.heap.size, 0, none⟩ = some (.int .u64 0) := (box_on hxW).1 0
  have z1 : W.cell? ⟨w.heap.size, 1, none⟩ = some (.int .i64 0) := (box_on hxW).1 1
  have z2 : W.cell? ⟨w.heap.size, 2, none⟩ = some (.int .i64 0) := (box_on hxW).1 2
  have z3 : W.cell? ⟨w.heap.size, 3, none⟩ = some (.slice none 0 0) := (box_on hxW).1 3
  have zf0 : W.frozen? ⟨w.heap.size, 0, none⟩ = false := (box_on hxW).2.1 0
  have zf1 : W.frozen? ⟨w.heap.size, 1, none⟩ = false := (box_on hxW).2.1 1
  have zf2 : W.frozen? ⟨w.heap.size, 2, none⟩ = false := (box_on hxW).2.1 2
  have zf3 : W.frozen? ⟨w.heap.size, 3, none⟩ = false := (box_on hxW).2.1 3
  have hgl : g < w.heap.size := World.block_lt_of_cell? _ _ q0
  have hgn : g ≠ w.heap.size := by omega
  have hbn : b ≠ w.heap.size := by omega
  have hzs := (box_on hxW).2.2
  have f2' : W.frozen? ⟨b, 2, none⟩ = false := (hbW.frozen (p := ⟨b, 2, none⟩) hbl).trans f2
  have hgb : g ≠ b := fun e => h.nc (by rw [← e]; rfl)
  go_wp2_with fail
  obtain ⟨W1, hW1⟩ : ∃ W1, W.setCell ⟨b, 2, none⟩ (.int .i64 ((x.handed : Int) + 1)) = W1 := ⟨_, rfl⟩
  have hR0 : RfAt W B b (.slice (some ⟨g, off, none⟩) x.came.length cl) vd vh L x := h.on hbW
  have hR1 : RfAt W1 B b (.slice (some ⟨g, off, none⟩) x.came.length cl) vd vh L ⟨x.first, x.came, x.handed + 1, x.done, x.hearts, x.got⟩ := hW1 ▸ hR0.row (by show _ = _; simp) rfl rfl rfl
  have t1 : Turns (one b) w W1 := hW1 ▸ (Turns.of_below (S := one b) hbW).set (a := ⟨b, 2, none⟩) (fun _ => rfl) _
  have e0 : W1.cell? ⟨b, 0, none⟩ = some (.int .i64 x.first) := hR1.cell 0
  have e1 : W1.cell? ⟨b, 1, none⟩ = some (.slice (some ⟨g, off, none⟩) x.came.length cl) := hR1.cell 1
  have e2 : W1.cell? ⟨b, 2, none⟩ = some (.int .i64 ((x.handed : Int) + 1)) := by rw [← hW1]; exact World.cell?_setCell_same' _ _ _ (by rw [c2']; rfl)
  have r0 := (show Turns (one b) W W1 from hW1 ▸ (Turns.refl (one b) W).set (a := ⟨b, 2, none⟩) (fun _ => rfl) _).cell q0' hgb
  have r1 := (show Turns (one b) W W1 from hW1 ▸ (Turns.refl (one b) W).set (a := ⟨b, 2, none⟩) (fun _ => rfl) _).cell q1' hgb
  have r2 := (show Turns (one b) W W1 from hW1 ▸ (Turns.refl (one b) W).set (a := ⟨b, 2, none⟩) (fun _ => rfl) _).cell q2' hgb
  have r3 := (show Turns (one b) W W1 from hW1 ▸ (Turns.refl (one b) W).set (a := ⟨b, 2, none⟩) (fun _ => rfl) _).cell q3' hgb
  rw [hW1]
  have t1' : Turns (one b) W W1 := hW1 ▸ (Turns.refl (one b) W).set (a := ⟨b, 2, none⟩) (fun _ => rfl) _
  have y0 := t1'.cell z0 (fun e => hbn (Eq.symm e))
  have y1 := t1'.cell z1 (fun e => hbn (Eq.symm e))
  have y2 := t1'.cell z2 (fun e => hbn (Eq.symm e))
  have y3 := t1'.cell z3 (fun e => hbn (Eq.symm e))
  have yf0 := t1'.frozen (a := ⟨w.heap.size, 0, none⟩) hzs (fun e => hbn (Eq.symm e)) zf0
  have yf1 := t1'.frozen (a := ⟨w.heap.size, 1, none⟩) hzs (fun e => hbn (Eq.symm e)) zf1
  have yf2 := t1'.frozen (a := ⟨w.heap.size, 2, none⟩) hzs (fun e => hbn (Eq.symm e)) zf2
  have yf3 := t1'.frozen (a := ⟨w.heap.size, 3, none⟩) hzs (fun e => hbn (Eq.symm e)) zf3
  have hzs1 : w.heap.size < W1.heap.size := by have := t1'.size; omega
  clear hW1 t1' c0' c1' c2' q0' q1' q2' q3' z0 z1 z2 z3 zf0 zf1 zf2 zf3 c0 c1 c2 q0 q1 q2 q3 f2 f2' hzs
  go_region
  go_wp2
  have tz : Turns (one w.heap.size) W1 ((((W1.setCell ⟨w.heap.size, 0, none⟩ (.int .u64 q.r.ts)).setCell ⟨w.heap.size, 1, none⟩ (.int .i64 q.r.dc)).setCell ⟨w.heap.size, 2, none⟩ (.int .i64 q.r.tx)).setCell ⟨w.heap.size, 3, none⟩ (.slice q.D q.r.vers.length q.c)).drew := (((((Turns.refl (one w.heap.size) W1).set (a := ⟨w.heap.size, 0, none⟩) (fun _ => rfl) _).set (a := ⟨w.heap.size, 1, none⟩) (fun _ => rfl) _).set (a := ⟨w.heap.size, 2, none⟩) (fun _ => rfl) _).set (a := ⟨w.heap.size, 3, none⟩) (fun _ => rfl) _).drew
  refine bodyPost_ret (v := .tuple #[.int .i64 (x.first + ((x.handed : Int) + 1) - 1), .agg #[.int .u64 q.r.ts, .int .i64 q.r.dc, .int .i64 q.r.tx, .slice q.D q.r.vers.length q.c], .bool true]) (by simp [results, Try.results20, go_sem, y0, y1, y2, y3]) rfl ⟨by rw [show x.first + ((x.handed : Int) + 1) - 1 = x.first + (x.handed : Int) from by omega], ?_, t1.on tz (fun j hj e => by have e : j = w.heap.size := e; omega)⟩
  refine hR1.apart tz (fun g' hg' e => ?_) (fun q' hq' g' hg' e => ?_)
  · have := h.lt g' hg'
    have e : g' = w.heap.size := e
    omega
  · have := ((h.rd q' hq').2 g' hg').lt
    have e : g' = w.heap.size := e
    omega
set_option maxHeartbeats 1000000 in
theorem rc_low (w : World) (B b : Nat) (vc vd vh : Value) (L : List Q) (x : Rf) (at' : Int) (h : RfAt w B b vc vd vh L x) (hx : x.ok) (hlt : at' < x.first) : Calls Try.prog 21 #[.pointer (some ⟨b, 0, none⟩), .int .i64 at'] w (fun e w' => e = .returned (.int .i64 7) ∧ Below w.heap.size w w') := by
  obtain ⟨Dd, cd, rfl, hcd⟩ := h.hd.form
  have c0 : w.cell? ⟨b, 0, none⟩ = some (.int .i64 x.first) := h.cell 0
  have c2 : w.cell? ⟨b, 2, none⟩ = some (.int .i64 x.handed) := h.cell 2
  have c3 : w.cell? ⟨b, 3, none⟩ = some (.slice Dd x.done.length cd) := h.cell 3
  have hbl := h.blt
  have h1 := hx.f0
  have h2 := hx.f1
  have h3 := hx.hd
  have h4 := hx.dn
  have h5 := hx.l1
  have d1 : decide (at' < x.first) = true := by simpa using hlt
  go_enter Try.func21, Try.ntmps21
  go_wp2_with fail
  go_quiet (fail)
  go_wp2
  go_ret
  exact ⟨rfl, own_drewN (own_refl _) _⟩
set_option maxHeartbeats 1000000 in
theorem rc_far (w : World) (B b : Nat) (vc vd vh : Value) (L : List Q) (x : Rf) (at' : Int) (h : RfAt w B b vc vd vh L x) (hx : x.ok) (k : Nat) (hk : at' = x.first + k) (wa : at' ≤ 9223372036854775807) (hlt : x.handed ≤ k) : Calls Try.prog 21 #[.pointer (some ⟨b, 0, none⟩), .int .i64 at'] w (fun e w' => e = .returned (.int .i64 7) ∧ Below w.heap.size w w') := by
  obtain ⟨Dd, cd, rfl, hcd⟩ := h.hd.form
  have c0 : w.cell? ⟨b, 0, none⟩ = some (.int .i64 x.first) := h.cell 0
  have c2 : w.cell? ⟨b, 2, none⟩ = some (.int .i64 x.handed) := h.cell 2
  have c3 : w.cell? ⟨b, 3, none⟩ = some (.slice Dd x.done.length cd) := h.cell 3
  have hbl := h.blt
  have h1 := hx.f0
  have h2 := hx.f1
  have h3 := hx.hd
  have h4 := hx.dn
  have h5 := hx.l1
  have i1 : IntKind.i64.wrap (at' - x.first) = (k : Int) := by rw [show at' - x.first = (k : Int) from by omega]; exact IntWalk.i64_in _ (by omega)
  have k1 : ¬ at' < x.first := by omega
  have k2 : decide (at' < x.first) = false := by simpa using k1
  have k3 : decide (x.handed ≤ k) = true := by simpa using hlt
  have k4 : ¬ k < x.handed := by omega
  clear hk wa h1 h2 h3 h4 h5 hx hcd h c3
  go_enter Try.func21, Try.ntmps21
  go_wp2_with fail
  go_quiet (fail)
  clear i1
  go_wp2
  go_ret
  exact ⟨rfl, own_drewN (own_refl _) _⟩
set_option maxHeartbeats 1000000 in
theorem rc_was (w : World) (B b : Nat) (vc vd vh : Value) (L : List Q) (x : Rf) (at' : Int) (h : RfAt w B b vc vd vh L x) (hx : x.ok) (k : Nat) (hk : at' = x.first + k) (hlt : k < x.handed) (hw : x.done[k]? = some true) : Calls Try.prog 21 #[.pointer (some ⟨b, 0, none⟩), .int .i64 at'] w (fun e w' => e = .returned (.int .i64 7) ∧ Below w.heap.size w w') := by
  obtain ⟨Dd, cd, rfl, hcd⟩ := h.hd.form
  have c0 : w.cell? ⟨b, 0, none⟩ = some (.int .i64 x.first) := h.cell 0
  have c2 : w.cell? ⟨b, 2, none⟩ = some (.int .i64 x.handed) := h.cell 2
  have c3 : w.cell? ⟨b, 3, none⟩ = some (.slice Dd x.done.length cd) := h.cell 3
  have hbl := h.blt
  have h1 := hx.f0
  have h2 := hx.f1
  have h3 := hx.hd
  have h4 := hx.dn
  have h5 := hx.l1
  have i1 : IntKind.i64.wrap (at' - x.first) = (k : Int) := by rw [show at' - x.first = (k : Int) from by omega]; exact IntWalk.i64_in _ (by omega)
  have k1 : ¬ at' < x.first := by omega
  have k2 : ¬ (x.handed : Int) ≤ (k : Int) := by omega
  have k3 : (0 : Int) ≤ (k : Int) := by omega
  have k4 : (k : Int) < (x.done.length : Int) := by omega
  have hcv : (x.done.map Value.bool)[k]? = some (.bool true) := by rw [List.getElem?_map, hw]; rfl
  obtain ⟨g, off, rfl, hc⟩ := h.hd.cells (fun e => by rw [e] at hcv; cases hcv)
  have cg := hc k _ hcv
  clear hk hc hcv hw h1 h2 h3 h4 h5 hx hcd h
  go_enter Try.func21, Try.ntmps21
  go_wp2_with fail
  go_quiet (fail)
  clear i1
  go_wp2
  go_ret
  exact ⟨rfl, own_drewN (own_refl _) _⟩
def rdoneX (x : Rf) (k : Nat) : Rf := ⟨x.first, x.came, x.handed, x.done.set k true, x.hearts, x.got⟩
def RDoneIs (w : World) (B b : Nat) (vc vd vh : Value) (L : List Q) (x : Rf) (k : Nat) (e : Ending) (w' : World) : Prop := e = .returned (.int .i64 0) ∧ RfAt w' B b vc vd vh L (rsettleX (rdoneX x k)) ∧ Turns (rfS b vc vd vh) w w'
theorem rdone_ok {x : Rf} (h : x.ok) (k : Nat) : (rdoneX x k).ok := ⟨h.f0, h.f1, h.l1, h.hd, by show (x.done.set k true).length = _; rw [List.length_set]; exact h.dn, h.few, h.g0, h.g1, h.h1, h.hv⟩
set_option maxRecDepth 100000 in
set_option maxHeartbeats 1000000 in
theorem rc_ok (w : World) (B b : Nat) (vc vd vh : Value) (L : List Q) (x : Rf) (at' : Int) (h : RfAt w B b vc vd vh L x) (hx : x.ok) (k : Nat) (hk : at' = x.first + k) (hlt : k < x.handed) (hw : x.done[k]? = some false) : Calls Try.prog 21 #[.pointer (some ⟨b, 0, none⟩), .int .i64 at'] w (RDoneIs w B b vc vd vh L x k) := by
  obtain ⟨Dd, cd, rfl, hcd⟩ := h.hd.form
  have c0 : w.cell? ⟨b, 0, none⟩ = some (.int .i64 x.first) := h.cell 0
  have c2 : w.cell? ⟨b, 2, none⟩ = some (.int .i64 x.handed) := h.cell 2
  have c3 : w.cell? ⟨b, 3, none⟩ = some (.slice Dd x.done.length cd) := h.cell 3
  have hbl := h.blt
  have h1 := hx.f0
  have h2 := hx.f1
  have h3 := hx.hd
  have h4 := hx.dn
  have h5 := hx.l1
  have i1 : IntKind.i64.wrap (at' - x.first) = (k : Int) := by rw [show at' - x.first = (k : Int) from by omega]; exact IntWalk.i64_in _ (by omega)
  have k1 : ¬ at' < x.first := by omega
  have k2 : ¬ (x.handed : Int) ≤ (k : Int) := by omega
  have k3 : (0 : Int) ≤ (k : Int) := by omega
  have k4 : (k : Int) < (x.done.length : Int) := by omega
  have hkd : k < x.done.length := by omega
  have hcv : (x.done.map Value.bool)[k]? = some (.bool false) := by rw [List.getElem?_map, hw]; rfl
  obtain ⟨g, off, rfl, hg1, hg2, cg, fg⟩ := h.hd.at' hcv
  have hok := rdone_ok hx k
  have HOK := Lib.hid hok
  clear hk hcv hw h1 h2 h3 h4 h5 hx hok
  go_enter Try.func21, Try.ntmps21
  go_wp2_with fail
  go_quiet (fail)
  obtain ⟨W, hW⟩ : ∃ W, w.drewN nq = W := ⟨_, rfl⟩
  have hbW : Below w.heap.size w W := hW ▸ own_drewN (own_refl _) nq
  rw [hW]
  clear hW
  have hBW := h.on hbW
  have c0' := cell_on hbW c0
  have c2' := cell_on hbW c2
  have c3' := cell_on hbW c3
  have cg' := cell_on hbW cg
  have fg' : W.frozen? ⟨g, off + k, none⟩ = false := (hbW.frozen (p := ⟨g, off + k, none⟩) hg2).trans fg
  clear c0 c2 c3 cg fg
  go_wp2_with fail
  go_region
  have t5 : Turns (one g) W ((W.setCell ⟨g, off + k, none⟩ (.bool true)).drew) := ((Turns.refl (one g) W).set (a := ⟨g, off + k, none⟩) (fun _ => rfl) _).drew
  have hR5 : RfAt ((W.setCell ⟨g, off + k, none⟩ (.bool true)).drew) B b vc (.slice (some ⟨g, off, none⟩) x.done.length cd) vh L (rdoneX x k) := by
    have hs := hBW.hd.set k (by omega) (.bool true)
    have hgr : rfS b vc (.slice (some ⟨g, off, none⟩) x.done.length cd) vh g := .inr (.inr (.inl rfl))
    refine ⟨(t5.block b hBW.blt (fun e => hBW.nd (by rw [show b = g from e]; rfl))).trans hBW.hb, hBW.hc.turn t5 (fun g' hg' e => hBW.ncd g' hg' (by rw [show g' = g from e]; rfl)), ?_, hBW.hh.turn t5 (fun g' hg' e => hBW.ndh g' (by rw [show g' = g from e]; rfl) hg'), hBW.lr, fun q hq => (hBW.rd q hq).turn t5 (fun g' hv e => hBW.noVB g' hv (by rw [show g' = g from e]; exact hgr))⟩
    show OwnAt _ B 4 1 _ (x.done.set k true).length ((x.done.set k true).map Value.bool)
    rw [List.map_set, List.length_set]
    exact hs.turn (S := none') (Turns.refl _ _).drew (fun _ _ => id)
  have hR : RfAt ((W.setCell ⟨g, off + k, none⟩ (.bool true)).drew) B b vc (.slice (some ⟨g, off, none⟩) (rdoneX x k).done.length cd) vh L (rdoneX x k) := by
    rw [show (rdoneX x k).done.length = x.done.length from List.length_set ..]; exact hR5
  have HR := Lib.hid hR5
  have HT := Lib.hid t5
  clear hR hR5 t5 c0' c2' c3' cg' fg'
  go_wp2_with (go_at_call 31; refine (rsettle_any _ B b _ _ _ _ _ HR.out HOK.out).mono ?_; rintro e w2 ⟨rfl, hB2, ht2⟩)
  go_ret
  exact ⟨rfl, hB2, ((Turns.of_below hbW).on HT.out (fun j _ e => .inr (.inr (.inl (by rw [show j = g from e]; rfl))))).on ht2 (fun j _ e => .inl e)⟩
def rheardX (x : Rf) (t at' : Int) : Rf := ⟨x.first, x.came, x.handed, x.done, x.hearts ++ [(at', t)], x.got⟩
def RHeardIs (w : World) (B b : Nat) (vc vd vh : Value) (L : List Q) (x : Rf) (t at' : Int) (e : Ending) (w' : World) : Prop := ∃ vh', e = .returned (.tuple #[]) ∧ RfAt w' B b vc vd vh' L (rsettleX (rheardX x t at')) ∧ Turns (rfS b vc vd vh) w w' ∧ ∀ g, g < w.heap.size → rfS b vc vd vh' g → rfS b vc vd vh g
theorem rheard_ok {x : Rf} (h : x.ok) (hl : x.hearts.length ≤ 130) {t at' : Int} (ht : 0 ≤ t ∧ t ≤ 18446744073709551615) (ha : -9223372036854775808 ≤ at' ∧ at' ≤ 9223372036854775807) : (rheardX x t at').ok := ⟨h.f0, h.f1, h.l1, h.hd, h.dn, h.few, h.g0, h.g1, by show (x.hearts ++ [(at', t)]).length ≤ _; simp; omega, fun p hp => by
  rcases List.mem_append.1 hp with e | e
  · exact h.hv p e
  · rw [List.mem_singleton] at e; subst e; exact ⟨ha, ht⟩⟩
set_option maxHeartbeats 2000000 in
theorem rheard_any (w : World) (B b : Nat) (vc vd vh : Value) (L : List Q) (x : Rf) (t at' : Int) (h : RfAt w B b vc vd vh L x) (hx : x.ok) (hl : x.hearts.length ≤ 130) (ht : 0 ≤ t ∧ t ≤ 18446744073709551615) (ha : -9223372036854775808 ≤ at' ∧ at' ≤ 9223372036854775807) (hB : B ≤ w.heap.size) : Calls Try.prog 23 #[.pointer (some ⟨b, 0, none⟩), .int .u64 t, .int .i64 at'] w (RHeardIs w B b vc vd vh L x t at') := by
  obtain ⟨i0, hi0, hz0, hz1, hz2⟩ := info_parts infoHeart
  obtain ⟨Dh, ch, rfl, hch⟩ := h.hh.form
  have c4 : w.cell? ⟨b, 4, none⟩ = some (.slice Dh x.hearts.length ch) := h.cell 4
  have f4 : w.frozen? ⟨b, 4, none⟩ = false := h.frozen 4
  have hbl := h.blt
  have HOK := Lib.hid (rheard_ok hx hl ht ha)
  have hone : ∀ u ∈ hcells (at', t), u.oneCell' = true := by
    intro u hu
    simp only [hcells, List.mem_cons, List.mem_nil_iff, or_false] at hu
    rcases hu with rfl | rfl <;> rfl
  clear hx
  go_enter Try.func23, Try.ntmps23
  go_wp2_with (first | (at_builtin; refine wpList_append_at _ rfl _ _ 53 rfl B 65 i0 (.agg #[.int .u64 0, .int .i64 0]) 2 16 Try.underlying53 hi0 hz0 hz1 hz2 rfl (by omega) _ _ _ rfl (h.hh.on (own_alloc (own_refl _) _)) _ 1 _ [.int .u64 t, .int .i64 at'] rfl rfl (Cells.new w #[.int .u64 t, .int .i64 at'] 65) hone (by unfold maxLen; omega) (by omega) (by simp; omega) ?_; intro D5 cp5 w5 hown5 hgrow5 hloc5; have t5 := ((Turns.refl (fun k => (Value.slice Dh x.hearts.length ch).ownBlock = some k) w).alloc _).grown hgrow5 (fun _ _ e => e); have c5 : w5.cell? ⟨b, 4, none⟩ = some (.slice Dh x.hearts.length ch) := t5.cell c4 h.nh; have f5 : w5.frozen? ⟨b, 4, none⟩ = false := t5.frozen (a := ⟨b, 4, none⟩) hbl h.nh f4) | fail)
  have hb5 : w5.heap[b]? = some (.cells #[.int .i64 x.first, vc, .int .i64 x.handed, vd, (.slice Dh x.hearts.length ch), .int .u64 x.got] 55 (0, 0)) := (t5.block b hbl h.nh).trans h.hb
  have hb9 := heap_setCell_same w5 b 4 _ _ (.slice D5 (x.hearts.length + 1) cp5) hb5
  have t9 : Turns (one b) w5 (w5.setCell ⟨b, 4, none⟩ (.slice D5 (x.hearts.length + 1) cp5)) := (Turns.refl (one b) w5).set (a := ⟨b, 4, none⟩) (fun _ => rfl) _
  have hR : RfAt (w5.setCell ⟨b, 4, none⟩ (.slice D5 (x.hearts.length + 1) cp5)) B b vc vd (.slice D5 (x.hearts.length + 1) cp5) L (rheardX x t at') := by
    refine ⟨by rw [hb9]; rfl, (h.hc.turn t5 (fun g hg e => h.nch g hg e)).turn t9 (fun g hg e => h.nc (by rw [hg, show g = b from e])), (h.hd.turn t5 (fun g hg e => h.ndh g hg e)).turn t9 (fun g hg e => h.nd (by rw [hg, show g = b from e])), ?_, h.lr, fun q hq => ((h.rd q hq).turn t5 (fun g hv e => h.noVB g hv (.inr (.inr (.inr e))))).turn t9 (fun g hv e => ?_)⟩
    · have := hown5.turn t9 (fun g hg e => own_ne_row hown5 hb5 (by decide) (by rw [hg, show g = b from e]))
      simpa [flatH, hcells, rheardX] using this
    · obtain ⟨cs, fz, hv⟩ := hv
      rw [show g = b from e, hb5] at hv
      simp at hv
  have hs5 := hgrow5.size
  have hsz : w.heap.size + 1 ≤ w5.heap.size := by simpa using hs5
  have HR := Lib.hid hR
  have HT : Hid (Turns (rfS b vc vd (.slice Dh x.hearts.length ch)) w (w5.setCell ⟨b, 4, none⟩ (.slice D5 (x.hearts.length + 1) cp5))) := Lib.hid ((t5.weaken (fun j _ e => .inr (.inr (.inr e)))).on t9 (fun j _ e => .inl e))
  have HL : Hid (∀ g, g < w.heap.size → rfS b vc vd (.slice D5 (x.hearts.length + 1) cp5) g → rfS b vc vd (.slice Dh x.hearts.length ch) g) := Lib.hid (fun g hg e => by
    rcases e with e | e | e | e
    · exact .inl e
    · exact .inr (.inl e)
    · exact .inr (.inr (.inl e))
    · refine .inr (.inr (.inr ((hloc5 g e).resolve_right ?_)))
      simp
      omega)
  clear hR hb5 hb9 t9 t5 hown5 hgrow5 hloc5 c5 f5
  refine (rsettle_any _ B b _ _ _ _ _ HR.out HOK.out).mono ?_
  rintro e w2 ⟨rfl, hB2, ht2⟩
  go_wp2
  refine bodyPost_ret (results_none rfl _ _ _) rfl ?_
  exact ⟨_, rfl, hB2, HT.out.on ht2 (fun j _ e => .inl e), HL.out⟩
end Go.Proofs.Ytneglecglkibfaa
