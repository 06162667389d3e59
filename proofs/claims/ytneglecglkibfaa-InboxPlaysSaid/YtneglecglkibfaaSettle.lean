/-
  The walk of settle: hearts whose place is reached are taken out. Conditions: the box lies as the hypotheses say.
-/
import Derived.Test.YtneglecglkibfaaBoxT
import Derived.Maps.RangeWalk
namespace Go.Proofs.Ytneglecglkibfaa
open Go.RowKit Go.Maps
set_option linter.unusedVariables false

theorem lawI : Keyed Try.prog 3 := int_keyed Try.underlying3
theorem keyI {x : Int} (h : (Lit.int .i64 x).wf = true) : keyOf Try.prog 3 (.int .i64 x) = some (.int .i64 x) := keyOf_int_mk Try.underlying3 h
theorem ranges_turn {S : Nat → Prop} {w w' : World} {P : Program} {k : TypeId} {R : Value → Option (DataW Unit × List MemPlace)} {b r n : Nat} {D : DataW Unit} {left : Lit → Bool} {cnt : Nat} (h : w.ranges P k R b r n D left cnt) (ht : Turns S w w') (hb : ¬ S b) (hr : ¬ S r) : w'.ranges P k R b r n D left cnt := by
  have h1 := h.owns.lt
  have h2 := h.lt
  obtain ⟨es, clock, since, seen, c0, hm, F, hs, hD, hi, rest⟩ := h
  exact ⟨es, clock, since, seen, c0, (ht.block b h1 hb).trans hm, F, hs, hD, (ht.block r h2 hr).trans hi, rest⟩
theorem entry_mem {qk qe : IntKind} {D : DataW Unit} {O : List (Int × Int)} (h : MapOf qk qe D O) {x c : Int} (hat : ∀ zd, D.atKey (.int qk x) zd = .lit (.int qe c)) : (x, c) ∈ O := by
  have hk : keyed O x = true := (h.has x).symm.trans (has_true_of_atKey hat)
  have hm := look_mem hk
  have h1 := h.look x
  rw [hat _] at h1
  injection h1 with h1
  injection h1 with _ h1
  rwa [← h1] at hm
/-- the hearts that stay, at a place. -/
def staysH (H : List (Int × Int)) (base : Int) : List (Int × Int) := H.filter (fun p => decide (base < p.1))
/-- the time that is known then. -/
def gotH (H : List (Int × Int)) (base g : Int) : Int := H.foldl (fun a p => if p.1 ≤ base then max a p.2 else a) g
theorem gotH_le (H : List (Int × Int)) (base : Int) : ∀ g, g ≤ gotH H base g ∧ ∀ p ∈ H, p.1 ≤ base → p.2 ≤ gotH H base g := by
  induction H with
  | nil => intro g; exact ⟨Int.le_refl _, by simp⟩
  | cons q H ih =>
    intro g
    obtain ⟨h1, h2⟩ := ih (if q.1 ≤ base then max g q.2 else g)
    have hs : gotH (q :: H) base g = gotH H base (if q.1 ≤ base then max g q.2 else g) := rfl
    rw [hs]
    refine ⟨Int.le_trans (by split <;> omega) h1, fun p hp hb => ?_⟩
    rcases List.mem_cons.1 hp with rfl | hp
    · rw [if_pos hb] at h1 ⊢
      omega
    · exact h2 p hp hb
theorem gotH_is (H : List (Int × Int)) (base : Int) : ∀ g, gotH H base g = g ∨ ∃ p ∈ H, p.1 ≤ base ∧ gotH H base g = p.2 := by
  induction H with
  | nil => intro g; exact .inl rfl
  | cons q H ih =>
    intro g
    have hs : gotH (q :: H) base g = gotH H base (if q.1 ≤ base then max g q.2 else g) := rfl
    rw [hs]
    rcases ih (if q.1 ≤ base then max g q.2 else g) with h | ⟨p, hp, hb, h⟩
    · rw [h]
      split
      · rename_i hq
        rcases (by omega : max g q.2 = g ∨ max g q.2 = q.2) with e | e
        · exact .inl e
        · exact .inr ⟨q, List.mem_cons_self .., hq, e⟩
      · exact .inl rfl
    · exact .inr ⟨p, List.mem_cons_of_mem _ hp, hb, h⟩
/-- settle under way: what is left of the hearts, and the time that is known. -/
structure Settling (H : List (Int × Int)) (base g0 : Int) (O : List (Int × Int)) (g : Int) (left : Lit → Bool) : Prop where
  o : O = H.filter (fun p => decide (base < p.1) || left (.int .i64 p.1))
  lo : g0 ≤ g
  up : ∀ p ∈ H, p.1 ≤ base → left (.int .i64 p.1) = false → p.2 ≤ g
  is : g = g0 ∨ ∃ p ∈ H, p.1 ≤ base ∧ g = p.2
theorem settling_end {H O : List (Int × Int)} {base g0 g : Int} {left : Lit → Bool} (h : Settling H base g0 O g left) (hl : ∀ k, left k = false) : O = staysH H base ∧ g = gotH H base g0 := by
  refine ⟨by rw [h.o]; unfold staysH; exact List.filter_congr fun p _ => by rw [hl]; simp, ?_⟩
  obtain ⟨h1, h2⟩ := gotH_le H base g0
  have hu := fun p hp hb => h.up p hp hb (hl _)
  have hlo := h.lo
  rcases gotH_is H base g0 with e | ⟨p, hp, hb, e⟩ <;> rcases h.is with e2 | ⟨q, hq, hb2, e2⟩
  · omega
  · have := h2 q hq hb2; omega
  · have := hu p hp hb; omega
  · have := h2 q hq hb2; have := hu p hp hb; omega
theorem settling_stay {H O : List (Int × Int)} {base g0 g x : Int} {left left' : Lit → Bool} (h : Settling H base g0 O g left) (hx : base < x) (hl : ∀ y : Int, left' (.int .i64 y) = (left (.int .i64 y) && !(decide (y = x)))) : Settling H base g0 O g left' := by
  refine ⟨?_, h.lo, fun p hp hb hf => h.up p hp hb ?_, h.is⟩
  · rw [h.o]
    refine List.filter_congr fun p _ => ?_
    rw [hl]
    by_cases e : p.1 = x
    · simp [e, hx]
    · simp [e]
  · rw [hl] at hf
    have : ¬ p.1 = x := by omega
    simpa [this] using hf
theorem settling_go {H O : List (Int × Int)} {base g0 g x c : Int} {left left' : Lit → Bool} (h : Settling H base g0 O g left) (hu : H.Pairwise (fun p q => p.1 ≠ q.1)) (hx : x ≤ base) (hm : (x, c) ∈ O) (hl : ∀ y : Int, left' (.int .i64 y) = (left (.int .i64 y) && !(decide (y = x)))) : Settling H base g0 (drop O x) (max g c) left' := by
  have hmH : (x, c) ∈ H := by have := h.o ▸ hm; exact (List.mem_filter.1 this).1
  refine ⟨?_, by have := h.lo; omega, fun p hp hb hf => ?_, ?_⟩
  · rw [h.o]
    unfold drop
    rw [List.filter_filter]
    refine List.filter_congr fun p _ => ?_
    rw [hl]
    by_cases e : p.1 = x
    · have : ¬ base < x := by omega
      simp [e, this]
    · simp [e]
  · rw [hl] at hf
    by_cases e : p.1 = x
    · have : p.2 = c := by
        obtain ⟨i, hi, e1⟩ := List.mem_iff_getElem.1 hp
        obtain ⟨j, hj, e2⟩ := List.mem_iff_getElem.1 hmH
        rcases Nat.lt_trichotomy i j with c1 | c1 | c1
        · have := List.pairwise_iff_getElem.1 hu i j hi hj c1
          rw [e1, e2] at this
          exact absurd e this
        · subst c1
          rw [e1] at e2
          rw [e2]
        · have := List.pairwise_iff_getElem.1 hu j i hj hi c1
          rw [e1, e2] at this
          exact absurd e.symm this
      omega
    · have := h.up p hp hb (by simpa [e] using hf)
      omega
  · rcases (by omega : max g c = g ∨ max g c = c) with e | e
    · rw [e]; exact h.is
    · exact .inr ⟨_, hmH, hx, e⟩
theorem same_int (x y : Int) : (Lit.int .i64 y).sameKey (.int .i64 x) = decide (y = x) := by
  by_cases e : y = x
  · subst e
    simp [Lit.sameKey]
  · cases hs : (Lit.int .i64 y).sameKey (.int .i64 x)
    · simp [e]
    · have := WideAt.sameKey_eq hs
      injection this with _ this
      exact absurd this e
/-- what settle leaves. -/
def settleB (x : Bx) : Bx := ⟨x.base, x.list, x.handed, x.done, staysH x.hearts x.base, gotH x.hearts x.base x.got⟩
theorem settle_mk {w w' : World} {B b m : Nat} {vl vd : Value} {L : List Q} {x : Bx} {S : Nat → Prop} {O : List (Int × Int)} {g : Int} (h : BoxAt w B b m vl vd L x) (ht : Turns S w w') (hS : ∀ j, S j → j = b ∨ j = m) (hb : w'.heap[b]? = some (.cells #[.int .i64 x.base, vl, .int .i64 x.handed, vd, .map (some m), .int .u64 g] 59 (0, 0))) (hm : Holds Try.prog 3 22 .i64 .u64 w' m O) :
    BoxAt w' B b m vl vd L ⟨x.base, x.list, x.handed, x.done, O, g⟩ := by
  have hnS : ∀ j, vl.ownBlock = some j ∨ vd.ownBlock = some j ∨ VB w j → ¬ S j := by
    intro j hj e
    rcases hS j e with rfl | rfl
    · rcases hj with e | e | e
      · exact h.nl e
      · exact h.nd e
      · exact h.noVB j e (.inl rfl)
    · rcases hj with e | e | e
      · exact h.noVB' (.inr (.inl e))
      · exact h.noVB' (.inr (.inr e))
      · exact h.noVB j e (.inr (.inl rfl))
  exact ⟨hb, h.hl.turn ht (fun g hg => hnS g (.inl hg)), h.hd.turn ht (fun g hg => hnS g (.inr (.inl hg))), hm, h.lr, fun q hq => (h.rd q hq).turn ht (fun g hg => hnS g (.inr (.inr hg))), h.nb, h.nl, h.nd, h.nld⟩
def SettleIs (w : World) (B b m : Nat) (vl vd : Value) (L : List Q) (x : Bx) (e : Ending) (w' : World) : Prop := e = .returned (.tuple #[]) ∧ BoxAt w' B b m vl vd L (settleB x) ∧ Turns (two b m) w w'
def bRow (x : Bx) (vl vd : Value) (m : Nat) (g : Int) : Obj := .cells #[.int .i64 x.base, vl, .int .i64 x.handed, vd, .map (some m), .int .u64 g] 59 (0, 0)
set_option maxHeartbeats 1000000 in
theorem settle_any (w : World) (B b m : Nat) (vl vd : Value) (L : List Q) (x : Bx) (h : BoxAt w B b m vl vd L x) : Calls Try.prog 30 #[.pointer (some ⟨b, 0, none⟩)] w (SettleIs w B b m vl vd L x) := by
  have c4 : w.cell? ⟨b, 4, none⟩ = some (.map (some m)) := h.cell 4
  have hbl := h.blt
  have hml := h.hm.lt
  have hnb := h.nb
  obtain ⟨D, hown, hD⟩ := h.hm
  go_enter Try.func30, Try.ntmps30
  go_wp2_with (at_range; refine wpList_range_own _ rfl _ 57 rfl 3 22 lawI Try.underlying57 _ m _ D rfl hown ?_; intro w0 hrg0 hg0 hs0; go_frame)
  go_loopw [2, 3] (fun _ _ wr => ∃ (left : Lit → Bool) (cnt : Nat) (D : DataW Unit) (O : List (Int × Int)) (g : Int), wr.ranges Try.prog 3 (plainElem Try.prog 22) m w.heap.size x.hearts.length D left cnt ∧ MapOf .i64 .u64 D O ∧ Settling x.hearts x.base x.got O g left ∧
      Turns (two b m) w wr ∧ wr.heap[b]? = some (bRow x vl vd m g)) (fun _ _ wr => wr.rangeLeft m w.heap.size)
  case atStart =>
    have tt := (Turns.refl (two b m) w).grown hg0 (fun _ _ e => by cases e)
    have t2 := (Turns.refl none' w).grown hg0 (fun _ _ e => by cases e)
    refine ⟨_, _, D, x.hearts, x.got, hrg0, hD, ⟨?_, Int.le_refl _, fun p hp hb hf => ?_, .inl rfl⟩, tt, (t2.block b hbl id).trans h.hb⟩
    · refine (List.filter_eq_self.2 fun p hp => ?_).symm
      have : keyed x.hearts p.1 = true := List.any_eq_true.2 ⟨p, hp, by simp⟩
      rw [hD.has p.1]
      exact Bool.or_eq_true_iff.2 (.inr this)
    · have : keyed x.hearts p.1 = true := List.any_eq_true.2 ⟨p, hp, by simp⟩
      rw [hD.has p.1] at hf
      rw [keyed, hf] at this
      cases this
  case round =>
    obtain ⟨left, cnt, D', O, g, hrg, hD', hI, htr, hrow⟩ := hrel
    have HI := Lib.hid hI
    clear hI
    go_wp2_with (first | (at_next; refine wpList_next_ranges_ii _ rfl _ rfl 3 22 .i64 .u64 lawI Try.underlying3 Try.underlying22 m w.heap.size x.hearts.length D' _ _ rfl hrg ?_ ?_) | go_in)
    · intro hc0 hl0
      have he := settling_end HI.out hl0
      have HE := Lib.hid he
      clear he hl0
      go_wp2
      refine bodyPost_ret (results_none rfl _ _ _) rfl ?_
      unfold SettleIs settleB
      rw [← HE.out.1, ← HE.out.2]
      exact ⟨rfl, settle_mk h htr (fun _ e => e) hrow (holds_of hrg.owns hD'), htr⟩
    · intro k c w1 cnt1 hwx hwc hlx hat hrg1 hlt hg1 hs1 hen
      have tg := (Turns.refl (one w.heap.size) _).grown hg1 (fun _ _ e => by injection e with e; exact e.symm)
      have hm' := entry_mem hD' hat
      have hbr : b ≠ w.heap.size := by omega
      have hmr : m ≠ w.heap.size := by omega
      have hrow1 := (tg.block b (Array.getElem?_eq_some_iff.1 hrow).1 hbr).trans hrow
      have htr1 := htr.on tg (S := two b m) (fun j hj e => by have : j = w.heap.size := e; omega)
      have d0 : w1.cell? ⟨b, 0, none⟩ = some (.int .i64 x.base) := cell_of_row _ _ _ _ _ _ hrow1
      have d4 : w1.cell? ⟨b, 4, none⟩ = some (.map (some m)) := cell_of_row _ _ _ _ _ _ hrow1
      have d5 : w1.cell? ⟨b, 5, none⟩ = some (.int .u64 g) := cell_of_row _ _ _ _ _ _ hrow1
      have f5 : w1.frozen? ⟨b, 5, none⟩ = false := by simp [World.frozen?, hrow1, bRow]
      have hx1 := hwx
      clear hat hrow htr
      rcases (by omega : x.base < k ∨ (¬ x.base < k ∧ g < c ∧ max g c = c) ∨ (¬ x.base < k ∧ ¬ g < c ∧ max g c = g)) with hk | ⟨hk, hgc, hmx⟩ | ⟨hk, hgc, hmx⟩
      · have hI' := settling_stay (left' := fun z => left z && !z.sameKey (.int .i64 k)) HI.out hk (fun y => by simp only [same_int])
        have HI' := Lib.hid hI'
        clear hI' 
        have hk' : ¬ k ≤ x.base := by omega
        go_wp2
        go_roundw
        case rel => exact ⟨_, cnt1, D', O, g, hrg1, hD', HI'.out, htr1, hrow1⟩
        case measure => rw [hrg1.left_eq, hrg.left_eq]; exact hlt
      all_goals
        have hI' := settling_go (left' := fun z => (left z && !z.sameKey (.int .i64 k)) && !z.sameKey (.int .i64 k)) HI.out hD.uniq (by omega) hm' (fun y => by simp only [same_int]; cases left (.int .i64 y) <;> simp)
        rw [hmx] at hI'
        have HI' := Lib.hid hI'
        have hk' : k ≤ x.base := by omega
        clear hI' hm' hmx
        go_wp2_with (first | (at_delete; refine wpList_delete_ranges _ rfl _ _ 57 3 rfl 22 lawI Try.underlying57 _ m w.heap.size x.hearts.length _ _ _ rfl (ranges_turn hrg1 ((Turns.refl (one b) w1).set (a := ⟨b, 5, none⟩) (fun _ => rfl) _) (fun e => hnb (Eq.symm e)) (fun e => hbr (Eq.symm e))) _ _ rfl (keyI hwx) ?_; intro w2 cnt2 hrg2 hle hturn; go_frame) | go_in)
        have tm := turned hturn
        have htr2 := (htr1.set (a := ⟨b, 5, none⟩) (fun _ => .inl rfl) _).on tm (S := two b m) (fun j hj e => .inr e)
        have hs5 := fun v => heap_setCell_same w1 b 5 _ _ v hrow1
        have hb1 := (Array.getElem?_eq_some_iff.1 hrow1).1
        have hrow2 := (tm.block b (by simpa [World.setCell] using hb1) hnb).trans (hs5 _)
        go_roundw
        case rel => exact ⟨_, cnt2, _, _, _, hrg2, hD'.del (hrg1.owns.tidy lawI) k, HI'.out, htr2, hrow2⟩
        case measure => rw [hrg2.left_eq, hrg.left_eq]; omega
end Go.Proofs.Ytneglecglkibfaa
