/-
  Done where it takes the place: under way. Conditions: the box lies as the hypotheses say.
-/
import Derived.Test.YtneglecglkibfaaDone
namespace Go.Proofs.Ytneglecglkibfaa
open Go.RowKit Go.Maps
set_option linter.unusedVariables false

/-- a slice cut at its front, as the machine spells it. -/
theorem OwnAt.cut {w : World} {base : Nat} {e : TypeId} {size n : Nat} {xs : List Value} {g off cp : Nat} (h : OwnAt w base e size (.slice (some ⟨g, off, none⟩) n cp) n xs) {k : Nat} (hk : k ≤ n) (hn : n ≤ cp) : OwnAt w base e size (.slice (if cp = k then some ⟨g, off, none⟩ else some ⟨g, off + k * size, none⟩) (n - k) (cp - k)) (n - k) (xs.drop (k * size)) := by
  by_cases c : cp = k
  · rw [if_pos c]
    obtain ⟨hl, _⟩ := id h
    have e1 : n - k = 0 := by omega
    have e2 : cp - k = 0 := by omega
    have e3 : xs.drop (k * size) = [] := List.drop_eq_nil_of_le (by rw [hl, show n = k from by omega]; omega)
    rw [e1, e2, e3]
    exact h.none_left
  · rw [if_neg c]
    exact h.tail hk
theorem ownBlock_if {p : Prop} [Decidable p] {g o1 o2 n c : Nat} : (Value.slice (if p then some ⟨g, o1, none⟩ else some ⟨g, o2, none⟩) n c).ownBlock = some g := by
  split <;> rfl
theorem flatQ_drop (L : List Q) (n : Nat) : (flatQ L).drop (n * 4) = flatQ (L.drop n) := by
  induction L generalizing n with
  | nil => simp [flatQ]
  | cons q L ih =>
    cases n with
    | zero => simp
    | succ n =>
      have h : flatQ (q :: L) = q.cells ++ flatQ L := rfl
      rw [h, List.drop_succ_cons, ← ih n, List.drop_append, show (n + 1) * 4 - q.cells.length = n * 4 from by show (n + 1) * 4 - 4 = _; omega, List.drop_eq_nil_of_le (by show 4 ≤ _; omega)]
      rfl
/-- what Done leaves, ahead of settle. -/
def doneX (x : Bx) (k n : Nat) : Bx := ⟨x.base + n, x.list.drop n, x.handed - n, (x.done.set k true).drop n, x.hearts, x.got⟩
def DoneIs (w : World) (B b m : Nat) (vl vd : Value) (L : List Q) (x : Bx) (k : Nat) (e : Ending) (w' : World) : Prop := ∃ n vl' vd', n ≤ x.handed ∧ (∀ j, j < n → (x.done.set k true)[j]? = some true) ∧ (n = x.handed ∨ (x.done.set k true)[n]? = some false) ∧ e = .returned (.int .i64 0) ∧
  BoxAt w' B b m vl' vd' (L.drop n) (settleB (doneX x k n)) ∧ Turns (boxS b m vl vd) w w' ∧ vl'.ownBlock = vl.ownBlock ∧ vd'.ownBlock = vd.ownBlock
theorem done_fin {W W5 W9 : World} {B b m : Nat} {vl vd vl' vd' : Value} {L : List Q} {x : Bx} {k n : Nat} {g : Nat} {z0 z2 : Int} (hx : x.ok) (hn : n ≤ x.handed) (hB : BoxAt W B b m vl vd L x) (hg : vd.ownBlock = some g) (t5 : Turns (one g) W W5) (t9 : Turns (one b) W5 W9)
    (h0 : z0 = x.base + (n : Int)) (h2 : z2 = ((x.handed - n : Nat) : Int)) (hb : W9.heap[b]? = some (.cells #[.int .i64 z0, vl', .int .i64 z2, vd', .map (some m), .int .u64 x.got] 59 (0, 0)))
    (ol : OwnAt W5 B 25 4 vl' (x.list.length - n) ((flatQ L).drop (n * 4))) (od : OwnAt W5 B 4 1 vd' (x.done.length - n) (((x.done.set k true).map Value.bool).drop (n * 1))) (el : vl'.ownBlock = vl.ownBlock) (ed : vd'.ownBlock = vd.ownBlock) : BoxAt W9 B b m vl' vd' (L.drop n) (doneX x k n) := by
  have hbg : b ≠ g := fun e => hB.nd (by rw [e]; exact hg)
  have hnl : vl'.ownBlock ≠ some b := by rw [el]; exact hB.nl
  have hnd : vd'.ownBlock ≠ some b := by rw [ed]; exact hB.nd
  have hmg : ¬ m = g := fun e => hB.noVB' (.inr (.inr (by rw [e]; exact hg)))
  refine ⟨?_, ?_, ?_, ?_, ?_, fun q hq => ?_, hB.nb, hnl, hnd, fun g' hg' => ?_⟩
  · rw [hb, h0, h2]; rfl
  · rw [flatQ_drop] at ol
    have := ol.turn t9 (fun g' hg' e => hnl (by rw [hg', show g' = b from e]))
    rwa [← List.length_drop] at this
  · have := od.turn t9 (fun g' hg' e => hnd (by rw [hg', show g' = b from e]))
    rw [Nat.mul_one, ← List.map_drop, show x.done.length - n = ((x.done.set k true).drop n).length from by simp] at this
    exact this
  · exact (hB.hm.turn t5 hmg).turn t9 (fun e => hB.nb e.symm)
  · show (L.drop n).map Q.r = x.list.drop n
    rw [List.map_drop, hB.lr]
  · have hq' := hB.rd q (List.mem_of_mem_drop hq)
    refine (hq'.turn t5 (fun g' hv e => ?_)).turn t9 (fun g' hv e => ?_)
    · exact hB.noVB g' hv (.inr (.inr (.inr (by rw [show g' = g from e]; exact hg))))
    · have e : g' = b := e
      subst e
      obtain ⟨cs, fz, hv⟩ := hv
      rw [t5.block g' hB.blt hbg, hB.hb] at hv
      simp at hv
  · rw [ed]; rw [el] at hg'; exact hB.nld g' hg'
set_option maxRecDepth 100000 in
set_option maxHeartbeats 1000000 in
theorem done_ok (w : World) (B b m : Nat) (vl vd : Value) (L : List Q) (x : Bx) (h : BoxAt w B b m vl vd L x) (at' : Int) (hx : x.ok) (k : Nat) (hk : at' = x.base + k) (hlt : k < x.handed) (hw : x.done[k]? = some false) : Calls Try.prog 16 #[.pointer (some ⟨b, 0, none⟩), .int .i64 at'] w (DoneIs w B b m vl vd L x k) := by
  obtain ⟨Dd, cd, rfl, hcd⟩ := h.hd.form
  have c0 : w.cell? ⟨b, 0, none⟩ = some (.int .i64 x.base) := h.cell 0
  have c2 : w.cell? ⟨b, 2, none⟩ = some (.int .i64 x.handed) := h.cell 2
  have c3 : w.cell? ⟨b, 3, none⟩ = some (.slice Dd x.done.length cd) := h.cell 3
  have hbl := h.blt
  have h1 := hx.b0
  have h2 := hx.b1
  have h3 := hx.hd
  have h4 := hx.dn
  have h5 := hx.l1
  have i1 : IntKind.i64.wrap (at' - x.base) = (k : Int) := by rw [show at' - x.base = (k : Int) from by omega]; exact IntWalk.i64_in _ (by omega)
  have k1 : ¬ at' < x.base := by omega
  have k2 : ¬ (x.handed : Int) ≤ (k : Int) := by omega
  have k3 : (0 : Int) ≤ (k : Int) := by omega
  have k4 : (k : Int) < (x.done.length : Int) := by omega
  have hcv : (x.done.map Value.bool)[k]? = some (.bool false) := by rw [List.getElem?_map, hw]; rfl
  obtain ⟨g, off, rfl, hg1, hg2, cg, fg⟩ := h.hd.at' hcv
  have HX := Lib.hid hx
  have HH := Lib.hid h3
  have HN := Lib.hid h4
  obtain ⟨Dl, cl, rfl, hcl⟩ := h.hl.form
  have hLn : x.list.length = L.length := by rw [← h.lr, List.length_map]
  obtain ⟨gl, offl, rfl⟩ : ∃ gl offl, Dl = some ⟨gl, offl, none⟩ := by
    obtain ⟨gl, offl, e, _⟩ := h.hl.cells (fun e => by have := congrArg List.length e; rw [flatQ_len] at this; simp at this; omega)
    exact ⟨gl, offl, e⟩
  clear hk hcv hw h1 h2 h3 h4 h5 hx hLn
  go_enter Try.func16, Try.ntmps16
  go_wp2_with fail
  go_quiet (fail)
  obtain ⟨W, hW⟩ : ∃ W, w.drewN nq = W := ⟨_, rfl⟩
  have hbW : Below w.heap.size w W := hW ▸ own_drewN (own_refl _) nq
  rw [hW]
  clear hW
  have hBW := h.on hbW
  have c0' := cell_on hbW c0
  have c2' := cell_on hbW c2
  have c3' := cell_on hbW c3
  have cg' := cell_on hbW cg
  have fg' : W.frozen? ⟨g, off + k, none⟩ = false := (hbW.frozen (p := ⟨g, off + k, none⟩) hg2).trans fg
  clear c0 c2 c3 cg fg h
  go_wp2_with fail
  go_region
  have hB5 : OwnAt (W.setCell ⟨g, off + k, none⟩ (.bool true)) B 4 1 (.slice (some ⟨g, off, none⟩) x.done.length cd) x.done.length ((x.done.set k true).map Value.bool) := by
    have h5 := hBW.hd.set k (by omega) (.bool true)
    rwa [List.map_set]
  obtain ⟨W5, hW5⟩ : ∃ W5, (W.setCell ⟨g, off + k, none⟩ (.bool true)).drew = W5 := ⟨_, rfl⟩
  have t5 : Turns (one g) W W5 := hW5 ▸ ((Turns.refl (one g) W).set (a := ⟨g, off + k, none⟩) (fun _ => rfl) _).drew
  have hO5 : OwnAt W5 B 4 1 (.slice (some ⟨g, off, none⟩) x.done.length cd) x.done.length ((x.done.set k true).map Value.bool) := hW5 ▸ hB5.turn (S := none') (Turns.refl _ _).drew (fun _ _ => id)
  have hgb : b ≠ g := fun e => hBW.nd (by rw [e]; rfl)
  have e0 : W5.cell? ⟨b, 0, none⟩ = some (.int .i64 x.base) := t5.cell c0' hgb
  have e2 : W5.cell? ⟨b, 2, none⟩ = some (.int .i64 x.handed) := t5.cell c2' hgb
  have e3 : W5.cell? ⟨b, 3, none⟩ = some (.slice (some ⟨g, off, none⟩) x.done.length cd) := t5.cell c3' hgb
  rw [hW5]
  clear hW5 hB5 c0' c2' c3' cg' fg'
  go_wp2_with fail
  go_loopw [5] (fun i wr => ∃ n : Nat, n ≤ x.handed ∧ i = .int .i64 n ∧ wr = W5 ∧ ∀ j, j < n → (x.done.set k true)[j]? = some true) (fun i _ => x.handed - (intOf i).toNat)
  case atStart => exact ⟨0, Nat.zero_le _, rfl, rfl, fun j hj => by omega⟩
  case round =>
    obtain ⟨n, hn, rfl, rfl, hall⟩ := hrel
    have hlen : (x.done.set k true).length = x.done.length := by simp
    have hhd := HX.out.hd
    have hdn := HX.out.dn
    have hsm : n < 1000 := by have := HX.out.l1; omega
    have hsh : (x.handed : Int) < 1000 := by have := HX.out.l1; omega
    rcases (by omega : n = x.handed ∨ n < x.handed) with hnh | hnh
    · have hge : ¬ (n : Int) < (x.handed : Int) := by omega
      have hend : n = x.handed ∨ (x.done.set k true)[n]? = some false := .inl hnh
      have hls := HX.out.l1
      have z0 := HX.out.b0
      have z1 := HX.out.b1
      have i5 : IntKind.i64.wrap (x.base + (n : Int)) = x.base + (n : Int) := IntWalk.i64_in _ (by omega)
      have e1 := t5.cell (a := ⟨b, 1, none⟩) (v := .slice (some ⟨gl, offl, none⟩) x.list.length cl) (hBW.cell 1) hgb
      have g0 := t5.frozen (a := ⟨b, 0, none⟩) hBW.blt hgb (hBW.frozen 0)
      have g1 := t5.frozen (a := ⟨b, 1, none⟩) hBW.blt hgb (hBW.frozen 1)
      have g2 := t5.frozen (a := ⟨b, 2, none⟩) hBW.blt hgb (hBW.frozen 2)
      have g3 := t5.frozen (a := ⟨b, 3, none⟩) hBW.blt hgb (hBW.frozen 3)
      have l0 : n ≤ x.done.length := by omega
      have l1 : (n : Int) ≤ (x.handed : Int) := by omega
      have l2 : (n : Int) ≤ (x.list.length : Int) := by omega
      have l3 : (n : Int) ≤ (x.done.length : Int) := by omega
      have HEND := Lib.hid hend
      have HALL := Lib.hid hall
      clear hhd hdn hlen z0 z1 hls hend hall hnh
      go_wp2_with fail
      go_region
      obtain ⟨Al, hAl⟩ : ∃ Al : Option Addr, (if cl = n then some ⟨gl, offl, none⟩ else some ⟨gl, offl + n * 4, none⟩) = Al := ⟨_, rfl⟩
      obtain ⟨Ad, hAd⟩ : ∃ Ad : Option Addr, (if cd = n then some ⟨g, off, none⟩ else some ⟨g, off + n, none⟩) = Ad := ⟨_, rfl⟩
      have hel : (Value.slice Al (x.list.length - n) (cl - n)).ownBlock = some gl := hAl ▸ ownBlock_if
      have hed : (Value.slice Ad (x.done.length - n) (cd - n)).ownBlock = some g := hAd ▸ ownBlock_if
      rw [hAl, hAd]
      have b0 : wr.heap[b]? = some (.cells #[.int .i64 x.base, (.slice (some ⟨gl, offl, none⟩) x.list.length cl), .int .i64 x.handed, (.slice (some ⟨g, off, none⟩) x.done.length cd), .map (some m), .int .u64 x.got] 59 (0, 0)) := (t5.block b hBW.blt hgb).trans hBW.hb
      have b1 := heap_setCell_same wr b 0 _ _ (.int .i64 (x.base + (n : Int))) b0
      have b2 := heap_setCell_same (wr.setCell ⟨b, 0, none⟩ (.int .i64 (x.base + (n : Int)))) b 1 _ _ (.slice Al (x.list.length - n) (cl - n)) b1
      have b3 := heap_setCell_same ((wr.setCell ⟨b, 0, none⟩ (.int .i64 (x.base + (n : Int)))).setCell ⟨b, 1, none⟩ (.slice Al (x.list.length - n) (cl - n))) b 3 _ _ (.slice Ad (x.done.length - n) (cd - n)) b2
      have b4 := heap_setCell_same (((wr.setCell ⟨b, 0, none⟩ (.int .i64 (x.base + (n : Int)))).setCell ⟨b, 1, none⟩ (.slice Al (x.list.length - n) (cl - n))).setCell ⟨b, 3, none⟩ (.slice Ad (x.done.length - n) (cd - n))) b 2 _ _ (.int .i64 ((x.handed : Int) - (n : Int))) b3
      have t9 : Turns (one b) wr ((((wr.setCell ⟨b, 0, none⟩ (.int .i64 (x.base + (n : Int)))).setCell ⟨b, 1, none⟩ (.slice Al (x.list.length - n) (cl - n))).setCell ⟨b, 3, none⟩ (.slice Ad (x.done.length - n) (cd - n))).setCell ⟨b, 2, none⟩ (.int .i64 ((x.handed : Int) - (n : Int)))).drew := (((((Turns.refl (one b) wr).set (a := ⟨b, 0, none⟩) (fun _ => rfl) _).set (a := ⟨b, 1, none⟩) (fun _ => rfl) _).set (a := ⟨b, 3, none⟩) (fun _ => rfl) _).set (a := ⟨b, 2, none⟩) (fun _ => rfl) _).drew
      have hol := (hBW.hl.turn t5 (fun g' hg' e => hBW.nld g' hg' (by rw [show g' = g from e]; rfl))).cut (k := n) (by omega) hcl
      rw [hAl] at hol
      have hod := hO5.cut (k := n) l0 hcd
      rw [show off + n * 1 = off + n from by omega, hAd] at hod
      have hB9 := done_fin (z0 := x.base + (n : Int)) (z2 := (x.handed : Int) - (n : Int)) HX.out hn hBW rfl t5 t9 rfl (by omega) (by show ((((wr.setCell ⟨b, 0, none⟩ (.int .i64 (x.base + (n : Int)))).setCell ⟨b, 1, none⟩ (.slice Al (x.list.length - n) (cl - n))).setCell ⟨b, 3, none⟩ (.slice Ad (x.done.length - n) (cd - n))).setCell ⟨b, 2, none⟩ (.int .i64 ((x.handed : Int) - (n : Int)))).heap[b]? = _; rw [b4]; rfl) hol hod hel hed
      have HB9 := Lib.hid hB9
      have tS : Turns (boxS b m (.slice (some ⟨gl, offl, none⟩) x.list.length cl) (.slice (some ⟨g, off, none⟩) x.done.length cd)) w ((((wr.setCell ⟨b, 0, none⟩ (.int .i64 (x.base + (n : Int)))).setCell ⟨b, 1, none⟩ (.slice Al (x.list.length - n) (cl - n))).setCell ⟨b, 3, none⟩ (.slice Ad (x.done.length - n) (cd - n))).setCell ⟨b, 2, none⟩ (.int .i64 ((x.handed : Int) - (n : Int)))).drew := ((Turns.of_below hbW).on t5 (fun j _ e => .inr (.inr (.inr (by rw [show j = g from e]; rfl))))).on t9 (fun j _ e => .inl e)
      have HTS := Lib.hid tS
      have HT9 := Lib.hid t9
      have HEL := Lib.hid hel
      have HED := Lib.hid hed
      clear b0 b1 b2 b3 b4 hol hod hB9 tS t9 hAl hAd hel hed
      go_wp2_with (go_at_call 30; refine (settle_any _ B b m _ _ _ _ HB9.out).mono ?_; rintro e w2 ⟨rfl, hB2, ht2⟩)
      go_ret
      exact ⟨n, _, _, hn, HALL.out, HEND.out, rfl, hB2, HTS.out.on ht2 (fun j _ e => by rcases e with e | e; exact .inl e; exact .inr (.inl e)), HEL.out, HED.out⟩
    · obtain ⟨v, hv⟩ : ∃ v, (x.done.set k true)[n]? = some v := ⟨_, List.getElem?_eq_getElem (by omega)⟩
      have hcv : ((x.done.set k true).map Value.bool)[n]? = some (.bool v) := by rw [List.getElem?_map, hv]; rfl
      obtain ⟨g2, off2, e, _, _, cv, _⟩ := hO5.at' hcv
      obtain ⟨rfl, rfl⟩ : g = g2 ∧ off = off2 := by injection e with e; injection e with e1 e2; exact ⟨e1, e2⟩
      have q1 : (0 : Int) ≤ (n : Int) := by omega
      have q2 : (n : Int) < (x.done.length : Int) := by omega
      clear hcv
      cases v with
      | true =>
        clear hhd hdn hlen
        go_wp2_with fail
        go_roundw
        case rel => exact ⟨n + 1, by omega, by go_num, trivial, fun j hj => by rcases (by omega : j < n ∨ j = n) with h | rfl; exact hall j h; exact hv⟩
        case measure => simp [intOf]; omega
      | false =>
        have hend : n = x.handed ∨ (x.done.set k true)[n]? = some false := .inr hv
        have hls := HX.out.l1
        have z0 := HX.out.b0
        have z1 := HX.out.b1
        have i5 : IntKind.i64.wrap (x.base + (n : Int)) = x.base + (n : Int) := IntWalk.i64_in _ (by omega)
        have e1 := t5.cell (a := ⟨b, 1, none⟩) (v := .slice (some ⟨gl, offl, none⟩) x.list.length cl) (hBW.cell 1) hgb
        have g0 := t5.frozen (a := ⟨b, 0, none⟩) hBW.blt hgb (hBW.frozen 0)
        have g1 := t5.frozen (a := ⟨b, 1, none⟩) hBW.blt hgb (hBW.frozen 1)
        have g2 := t5.frozen (a := ⟨b, 2, none⟩) hBW.blt hgb (hBW.frozen 2)
        have g3 := t5.frozen (a := ⟨b, 3, none⟩) hBW.blt hgb (hBW.frozen 3)
        have l0 : n ≤ x.done.length := by omega
        have l1 : (n : Int) ≤ (x.handed : Int) := by omega
        have l2 : (n : Int) ≤ (x.list.length : Int) := by omega
        have l3 : (n : Int) ≤ (x.done.length : Int) := by omega
        have HEND := Lib.hid hend
        have HALL := Lib.hid hall
        clear hhd hdn hlen z0 z1 hls hend hall
        go_wp2_with fail
        clear q2 hnh
        go_region
        obtain ⟨Al, hAl⟩ : ∃ Al : Option Addr, (if cl = n then some ⟨gl, offl, none⟩ else some ⟨gl, offl + n * 4, none⟩) = Al := ⟨_, rfl⟩
        obtain ⟨Ad, hAd⟩ : ∃ Ad : Option Addr, (if cd = n then some ⟨g, off, none⟩ else some ⟨g, off + n, none⟩) = Ad := ⟨_, rfl⟩
        have hel : (Value.slice Al (x.list.length - n) (cl - n)).ownBlock = some gl := hAl ▸ ownBlock_if
        have hed : (Value.slice Ad (x.done.length - n) (cd - n)).ownBlock = some g := hAd ▸ ownBlock_if
        rw [hAl, hAd]
        have b0 : wr.heap[b]? = some (.cells #[.int .i64 x.base, (.slice (some ⟨gl, offl, none⟩) x.list.length cl), .int .i64 x.handed, (.slice (some ⟨g, off, none⟩) x.done.length cd), .map (some m), .int .u64 x.got] 59 (0, 0)) := (t5.block b hBW.blt hgb).trans hBW.hb
        have b1 := heap_setCell_same wr b 0 _ _ (.int .i64 (x.base + (n : Int))) b0
        have b2 := heap_setCell_same (wr.setCell ⟨b, 0, none⟩ (.int .i64 (x.base + (n : Int)))) b 1 _ _ (.slice Al (x.list.length - n) (cl - n)) b1
        have b3 := heap_setCell_same ((wr.setCell ⟨b, 0, none⟩ (.int .i64 (x.base + (n : Int)))).setCell ⟨b, 1, none⟩ (.slice Al (x.list.length - n) (cl - n))) b 3 _ _ (.slice Ad (x.done.length - n) (cd - n)) b2
        have b4 := heap_setCell_same (((wr.setCell ⟨b, 0, none⟩ (.int .i64 (x.base + (n : Int)))).setCell ⟨b, 1, none⟩ (.slice Al (x.list.length - n) (cl - n))).setCell ⟨b, 3, none⟩ (.slice Ad (x.done.length - n) (cd - n))) b 2 _ _ (.int .i64 ((x.handed : Int) - (n : Int))) b3
        have t9 : Turns (one b) wr ((((wr.setCell ⟨b, 0, none⟩ (.int .i64 (x.base + (n : Int)))).setCell ⟨b, 1, none⟩ (.slice Al (x.list.length - n) (cl - n))).setCell ⟨b, 3, none⟩ (.slice Ad (x.done.length - n) (cd - n))).setCell ⟨b, 2, none⟩ (.int .i64 ((x.handed : Int) - (n : Int)))).drew := (((((Turns.refl (one b) wr).set (a := ⟨b, 0, none⟩) (fun _ => rfl) _).set (a := ⟨b, 1, none⟩) (fun _ => rfl) _).set (a := ⟨b, 3, none⟩) (fun _ => rfl) _).set (a := ⟨b, 2, none⟩) (fun _ => rfl) _).drew
        have hol := (hBW.hl.turn t5 (fun g' hg' e => hBW.nld g' hg' (by rw [show g' = g from e]; rfl))).cut (k := n) (by omega) hcl
        rw [hAl] at hol
        have hod := hO5.cut (k := n) l0 hcd
        rw [show off + n * 1 = off + n from by omega, hAd] at hod
        have hB9 := done_fin (z0 := x.base + (n : Int)) (z2 := (x.handed : Int) - (n : Int)) HX.out hn hBW rfl t5 t9 rfl (by omega) (by show ((((wr.setCell ⟨b, 0, none⟩ (.int .i64 (x.base + (n : Int)))).setCell ⟨b, 1, none⟩ (.slice Al (x.list.length - n) (cl - n))).setCell ⟨b, 3, none⟩ (.slice Ad (x.done.length - n) (cd - n))).setCell ⟨b, 2, none⟩ (.int .i64 ((x.handed : Int) - (n : Int)))).heap[b]? = _; rw [b4]; rfl) hol hod hel hed
        have HB9 := Lib.hid hB9
        have tS : Turns (boxS b m (.slice (some ⟨gl, offl, none⟩) x.list.length cl) (.slice (some ⟨g, off, none⟩) x.done.length cd)) w ((((wr.setCell ⟨b, 0, none⟩ (.int .i64 (x.base + (n : Int)))).setCell ⟨b, 1, none⟩ (.slice Al (x.list.length - n) (cl - n))).setCell ⟨b, 3, none⟩ (.slice Ad (x.done.length - n) (cd - n))).setCell ⟨b, 2, none⟩ (.int .i64 ((x.handed : Int) - (n : Int)))).drew := ((Turns.of_below hbW).on t5 (fun j _ e => .inr (.inr (.inr (by rw [show j = g from e]; rfl))))).on t9 (fun j _ e => .inl e)
        have HTS := Lib.hid tS
        have HT9 := Lib.hid t9
        have HEL := Lib.hid hel
        have HED := Lib.hid hed
        clear b0 b1 b2 b3 b4 hol hod hB9 tS t9 hAl hAd hel hed
        go_wp2_with (go_at_call 30; refine (settle_any _ B b m _ _ _ _ HB9.out).mono ?_; rintro e w2 ⟨rfl, hB2, ht2⟩)
        go_ret
        exact ⟨n, _, _, hn, HALL.out, HEND.out, rfl, hB2, HTS.out.on ht2 (fun j _ e => by rcases e with e | e; exact .inl e; exact .inr (.inl e)), HEL.out, HED.out⟩
end Go.Proofs.Ytneglecglkibfaa
