/-
  The walks of the reference's side: each answers what the plain function says, and turns the side's own blocks alone. Conditions: the side lies as the hypotheses say, its numbers are in their kinds.
-/
import Derived.Test.YtjnbdkkefdfiaaaPartT
import Derived.Test.YtjnbdkkefdfiaaaAppend
namespace Go.Proofs.Ytjnbdkkefdfiaaa
open Go.RowKit Go.Maps
set_option linter.unusedVariables false

def pairC (p : Int × Int) : List Value := [.int .u64 p.1, .int .u64 p.2]
def flatP (O : List (Int × Int)) : List Value := O.flatMap pairC
theorem pairC_len (p : Int × Int) : (pairC p).length = 2 := rfl
theorem flatP_len (O : List (Int × Int)) : (flatP O).length = O.length * 2 := flat_length pairC_len O
theorem one_pair (p : Int × Int) : ∀ u ∈ pairC p, u.oneCell' = true := by
  intro u hu
  simp only [pairC, List.mem_cons, List.mem_nil_iff, or_false] at hu
  rcases hu with rfl | rfl <;> rfl
theorem infoOpen : (Try.prog.info? 50).map (fun i => (i.zero, i.size, i.bytes)) = some (some (.agg #[.int .u64 0, .int .u64 0]), 2, 16) := by kernel_rfl
theorem Cells.pair {w : World} {A : Option Addr} {O : List (Int × Int)} (h : Cells w A (flatP O)) {k : Nat} {p : Int × Int} (hk : O[k]? = some p) :
    ∃ b off, A = some ⟨b, off, none⟩ ∧ w.cell? ⟨b, off + k * 2, none⟩ = some (.int .u64 p.1) ∧ w.cell? ⟨b, off + k * 2 + 1, none⟩ = some (.int .u64 p.2) := by
  have h0 := flat_get (cf := pairC) (C := 2) pairC_len O k p 0 hk (by omega)
  have h1 := flat_get (cf := pairC) (C := 2) pairC_len O k p 1 hk (by omega)
  obtain ⟨b, off, e, hc⟩ := h (fun e => by unfold flatP at e; rw [e] at h0; simp [pairC] at h0)
  refine ⟨b, off, e, ?_, ?_⟩
  · exact hc (k * 2) _ (by simpa [pairC, flatP] using h0)
  · rw [Nat.add_assoc]; exact hc (k * 2 + 1) _ (by simpa [pairC, flatP] using h1)

/-- the place of a key. -/
def place (O : List (Int × Int)) (x : Int) : Int := match O.findIdx? (fun p => p.1 == x) with
  | some i => i
  | none => -1
theorem place_none {O : List (Int × Int)} {x : Int} (h : keyed O x = false) : place O x = -1 := by
  unfold place
  rw [List.findIdx?_eq_none_iff.2 fun p hp => by simpa using List.any_eq_false.1 h p hp]
theorem place_some {O : List (Int × Int)} {x : Int} (h : keyed O x = true) : ∃ (i : Nat) (p : Int × Int), place O x = i ∧ O[i]? = some p ∧ p.1 = x ∧ look O x = p.2 ∧ i < O.length := by
  unfold place look
  cases hf : O.findIdx? (fun p => p.1 == x) with
  | none =>
    rw [List.findIdx?_eq_none_iff] at hf
    obtain ⟨p, hp, hx⟩ := List.any_eq_true.1 h
    rw [hf p hp] at hx
    cases hx
  | some i =>
    obtain ⟨hi, h1, h2⟩ := List.findIdx?_eq_some_iff_getElem.1 hf
    refine ⟨i, O[i], rfl, List.getElem?_eq_getElem hi, by simpa using h1, ?_, hi⟩
    have : O.find? (fun p => p.1 == x) = some O[i] := by
      rw [List.find?_eq_some_iff_getElem]
      exact ⟨h1, i, hi, rfl, fun j hj => by simpa using h2 j hj⟩
    rw [this]
theorem place_at {O : List (Int × Int)} {x : Int} {k : Nat} {p : Int × Int} (hk : O[k]? = some p) (hp : p.1 = x) (hn : ∀ q ∈ O.take k, q.1 ≠ x) : place O x = k := by
  unfold place
  have : O.findIdx? (fun p => p.1 == x) = some k := by
    rw [List.findIdx?_eq_some_iff_getElem]
    obtain ⟨h1, h2⟩ := List.getElem?_eq_some_iff.1 hk
    refine ⟨h1, by rw [h2]; simpa using hp, fun j hj => ?_⟩
    have := hn O[j] (List.mem_take_iff_getElem.2 ⟨j, by omega, rfl⟩)
    simpa using this
  rw [this]
theorem drop_split {O : List (Int × Int)} (hu : O.Pairwise (fun p q => p.1 ≠ q.1)) {i : Nat} {p : Int × Int} (hi : O[i]? = some p) : drop O p.1 = O.take i ++ O.drop (i + 1) := by
  obtain ⟨h1, h2⟩ := List.getElem?_eq_some_iff.1 hi
  have e : O = O.take i ++ p :: O.drop (i + 1) := by
    conv => lhs; rw [← List.take_append_drop i O, List.drop_eq_getElem_cons h1]
    rw [h2]
  have hu' := hu
  rw [e, List.pairwise_append, List.pairwise_cons] at hu'
  obtain ⟨_, ⟨u1, _⟩, u2⟩ := hu'
  unfold drop
  conv => lhs; rw [e]
  rw [List.filter_append, List.filter_cons, if_neg (by simp)]
  congr 1
  · rw [List.filter_eq_self]
    intro q hq
    have := u2 q hq p (by simp)
    simpa using this
  · rw [List.filter_eq_self]
    intro q hq
    have := u1 q hq
    simpa using Ne.symm this
/-- the reference's side lies in the struct of block b and in a row. -/
structure RefAt (w : World) (B b : Nat) (vo : Value) (s : Side) : Prop where
  c0 : w.cell? ⟨b, 0, none⟩ = some (.int .u64 s.clock)
  c1 : w.cell? ⟨b, 1, none⟩ = some vo
  f0 : w.frozen? ⟨b, 0, none⟩ = false
  f1 : w.frozen? ⟨b, 1, none⟩ = false
  row : w.ownsRow B 50 2 vo s.opens.length (flatP s.opens)
  ne : vo.ownBlock ≠ some b
def ownS (b : Nat) (vo : Value) : Nat → Prop := fun k => k = b ∨ vo.ownBlock = some k
theorem RefAt.turn {S : Nat → Prop} {w w' : World} {B b : Nat} {vo : Value} {s : Side} (h : RefAt w B b vo s) (ht : Turns S w w') (hb : ¬ S b) (hv : ∀ g, vo.ownBlock = some g → ¬ S g) : RefAt w' B b vo s :=
  ⟨ht.cell h.c0 hb, ht.cell h.c1 hb, ht.frozen (frozen_lt h.c0) hb h.f0, ht.frozen (frozen_lt h.c1) hb h.f1, ht.row h.row hv, h.ne⟩
theorem RefAt.blt {w : World} {B b : Nat} {vo : Value} {s : Side} (h : RefAt w B b vo s) : b < w.heap.size := frozen_lt h.c0
theorem RefAt.vlt {w : World} {B b : Nat} {vo : Value} {s : Side} (h : RefAt w B b vo s) : ∀ g, vo.ownBlock = some g → B ≤ g ∧ g < w.heap.size := fun g hg => h.row.lt g hg

set_option maxHeartbeats 1000000 in
theorem find_any (w : World) (B b : Nat) (vo : Value) (s : Side) (tx : Int) (h : RefAt w B b vo s) (hn : s.opens.length ≤ 1000) :
    Calls Try.prog 21 #[.pointer (some ⟨b, 0, none⟩), .int .u64 tx] w fun e w' => e = .returned (.int .i64 (place s.opens tx)) ∧ w = w' := by
  obtain ⟨c0, c1, f0, f1, hrow, hne⟩ := h
  obtain ⟨D, cp, rfl, hcp⟩ := row_form hrow
  obtain ⟨N, hN⟩ : ∃ N, s.opens.length = N := ⟨_, rfl⟩
  rw [hN] at hrow c1 hcp hn
  go_enter Try.func21, Try.ntmps21
  go_wp2
  go_loop [5] (fun i => ∃ k : Nat, k ≤ N ∧ i = .int .i64 k ∧ ∀ q ∈ s.opens.take k, q.1 ≠ tx) (fun i => N - (intOf i).toNat)
  case atStart => exact ⟨0, Nat.zero_le _, rfl, by simp⟩
  case round =>
    obtain ⟨k, hk, rfl, hno⟩ := hrel
    by_cases hlt : k < N
    · obtain ⟨p, hp⟩ : ∃ p, s.opens[k]? = some p := ⟨_, List.getElem?_eq_getElem (by omega)⟩
      obtain ⟨g, off, rfl, p0, p1⟩ := (Cells.of_own hrow).pair hp
      have g3 : (0 : Int) ≤ (k : Int) := by omega
      have g4 : (k : Int) < (N : Int) := by omega
      by_cases e : p.1 = tx
      · have he := place_at hp e hno
        have HE := Lib.hid he
        have e2 : (p.1 == tx) = true := by simpa using e
        clear he hno e
        go_wp2
        go_ret
        rw [HE.out]
        exact ⟨rfl, rfl⟩
      · have hno' : ∀ q ∈ s.opens.take (k + 1), q.1 ≠ tx := by
          intro q hq
          rw [List.take_add_one, hp] at hq
          rcases List.mem_append.1 hq with hq | hq
          · exact hno q hq
          · simp at hq; subst hq; exact e
        have HNO := Lib.hid hno'
        have e2 : (p.1 == tx) = false := by simpa using e
        clear hno hno' e
        go_wp2
        go_round
        case rel => exact ⟨k + 1, by omega, by go_num, HNO.out⟩
        case measure => simp [intOf]; omega
    · obtain rfl : k = N := by omega
      have he : place s.opens tx = -1 := place_none (List.any_eq_false.2 fun p hp => by
        have := hno p (by rw [← hN, List.take_length]; exact hp)
        simpa using this)
      have HE := Lib.hid he
      clear he hno
      go_wp2
      go_ret
      rw [HE.out]
      exact ⟨rfl, rfl⟩
theorem rsee_any (w : World) (B b : Nat) (vo : Value) (s : Side) (t : Int) (h : RefAt w B b vo s) :
    Calls Try.prog 16 #[.pointer (some ⟨b, 0, none⟩), .int .u64 t] w (fun e w' => e = .returned (.tuple #[]) ∧ RefAt w' B b vo (seeS s t) ∧ Turns (one b) w w') := by
  obtain ⟨c0, c1, f0, f1, hrow, hne⟩ := h
  by_cases hlt : s.clock < t
  · have hp : seeS s t = ⟨t, s.opens⟩ := by unfold seeS; rw [show max s.clock t = t from by omega]
    have HP := Lib.hid hp
    clear hp
    go_enter Try.func16, Try.ntmps16
    go_wp2
    go_end0
    rw [HP.out]
    have tt := (Turns.refl (one b) w).set (a := ⟨b, 0, none⟩) (fun _ => rfl) (.int .u64 t)
    exact ⟨rfl, ⟨by go_simp, by go_simp, by go_simp, by go_simp, tt.row hrow (fun g hg e => hne (by rw [hg]; exact congrArg some e)), hne⟩, tt⟩
  · have hp : seeS s t = s := by unfold seeS; rw [show max s.clock t = s.clock from by omega]
    have HP := Lib.hid hp
    clear hp
    go_enter Try.func16, Try.ntmps16
    go_wp2
    go_end0
    rw [HP.out]
    exact ⟨rfl, ⟨c0, c1, f0, f1, hrow, hne⟩, Turns.refl _ _⟩
/-- what a call of the reference's side leaves. -/
def RefIs (w : World) (B b : Nat) (vo : Value) (s' : Side) (r : Value) (e : Ending) (w' : World) : Prop :=
  ∃ vo', e = .returned r ∧ RefAt w' B b vo' s' ∧ Turns (ownS b vo) w w' ∧ ∀ k, k < w.heap.size → vo'.ownBlock = some k → vo.ownBlock = some k
set_option maxHeartbeats 1000000 in
theorem rprepare_any (w : World) (B b : Nat) (vo : Value) (s : Side) (tx low ms : Int) (h : RefAt w B b vo s) (hB : B ≤ w.heap.size) (hs : s.ok) (ht : 0 ≤ tx ∧ tx ≤ 18446744073709551615) (hl : 0 ≤ low ∧ low ≤ 18446744073709551615) (hn : s.opens.length ≤ 900) :
    Calls Try.prog 13 #[.pointer (some ⟨b, 0, none⟩), .int .u64 tx, .int .u64 low, .int .i64 ms] w (RefIs w B b vo (prepS s tx low ms) (.tuple #[.int .u64 (prepR s tx low ms).1, .int .i64 (prepR s tx low ms).2])) := by
  obtain ⟨i0, hi0, hz0, hz1, hz2⟩ := info_parts infoOpen
  have hR := h
  have hbl := h.blt
  obtain ⟨c0, c1, f0, f1, hrow, hne⟩ := h
  have hc0 := hs.c0
  have hc1 := hs.c1
  cases hk : keyed s.opens tx
  · have hpl := place_none hk
    have HPL := Lib.hid hpl
    clear hpl
    cases he : (aft (max s.clock low) ms).2 == 0
    · have hr : prepR s tx low ms = (0, (aft (max s.clock low) ms).2) := by unfold prepR; rw [if_neg (by rw [hk]; simp), if_neg (by simpa using he)]
      have hp : prepS s tx low ms = s := by unfold prepS; rw [if_neg (by rw [hk]; simp), if_neg (by simpa using he)]
      have he2 : ((aft (max s.clock low) ms).2 != 0) = true := by simpa using he
      have HR := Lib.hid hr
      have HP := Lib.hid hp
      clear hr hp hk he
      go_enter Try.func13, Try.ntmps13
      go_wp2_with (first | (go_at_call 21; refine (find_any _ B b vo s tx hR (by omega)).mono ?_; rintro e w1 ⟨rfl, rfl⟩; rw [HPL.out]) | (go_at_call 22; refine (rrecv_any _ _ _ _ hc0 hc1 hl.1 hl.2).mono ?_; rintro e w1 ⟨rfl, rfl⟩))
      go_ret2
      unfold RefIs
      rw [HR.out, HP.out]
      exact ⟨vo, rfl, ⟨c0, c1, f0, f1, hrow, hne⟩, Turns.refl _ _, fun k _ h => h⟩
    · have he1 : (aft (max s.clock low) ms).2 = 0 := by simpa using he
      obtain ⟨t, hat⟩ : ∃ t, aft (max s.clock low) ms = (t, 0) := ⟨(aft (max s.clock low) ms).1, by rw [← he1]⟩
      have hr : prepR s tx low ms = (t, 0) := by unfold prepR; rw [if_neg (by rw [hk]; simp), if_pos he1, hat]
      have hp : prepS s tx low ms = ⟨t, s.opens ++ [(tx, t)]⟩ := by unfold prepS; rw [if_neg (by rw [hk]; simp), if_pos he1, hat]
      have HR := Lib.hid hr
      have HP := Lib.hid hp
      have HA := Lib.hid hat
      clear hr hp hk he hat he1
      have tt := (Turns.refl (one b) w).set (a := ⟨b, 0, none⟩) (fun _ => rfl) (.int .u64 t)
      have hrow2 := tt.row hrow (fun g hg e => hne (by rw [hg]; exact congrArg some e))
      have hvlt := hrow.lt
      go_enter Try.func13, Try.ntmps13
      go_wp2_with (first | (go_at_call 21; refine (find_any _ B b vo s tx hR (by omega)).mono ?_; rintro e w1 ⟨rfl, rfl⟩; rw [HPL.out]) | (go_at_call 22; refine (rrecv_any _ _ _ _ hc0 hc1 hl.1 hl.2).mono ?_; rintro e w1 ⟨rfl, rfl⟩; rw [HA.out]) | (at_builtin; refine wpList_append_lies _ rfl _ _ 37 rfl B 50 i0 (.agg #[.int .u64 0, .int .u64 0]) 2 16 Try.underlying37 hi0 hz0 hz1 hz2 rfl (by omega) _ _ _ rfl (hrow2.alloc _) _ 1 1 [.int .u64 tx, .int .u64 t] rfl rfl (cells_new_at _ _ _ _ (by first | rfl | (simp [World.setCell]; done) | (show _ = (Array.push _ _).size; simp))) (one_pair (tx, t)) (by omega) (by unfold maxLen; omega) (by omega) (by have := hB; simp; omega) _ rfl ?_; intro g cap w2 hown2 hgrow2 hat2 hlt2; have t2 := (Turns.refl (fun k => vo.ownBlock = some k) _).grown hgrow2 (fun _ _ e => e); have k0 : w2.cell? ⟨b, 0, none⟩ = some (.int .u64 t) := t2.cell (by go_simp) hne; have k1 : w2.cell? ⟨b, 1, none⟩ = some vo := t2.cell (by go_simp) hne; have q0 : w2.frozen? ⟨b, 0, none⟩ = false := t2.frozen (a := ⟨b, 0, none⟩) (by simpa using Nat.lt_succ_of_lt hbl) hne (by go_simp); have q1 : w2.frozen? ⟨b, 1, none⟩ = false := t2.frozen (a := ⟨b, 1, none⟩) (by simpa using Nat.lt_succ_of_lt hbl) hne (by go_simp)))
      go_ret2
      unfold RefIs
      rw [HR.out, HP.out]
      have tb : Turns (ownS b vo) w w2 := (((Turns.refl (ownS b vo) w).set (a := ⟨b, 0, none⟩) (fun _ => .inl rfl) _).alloc _).grown hgrow2 (fun _ _ e => .inr e)
      have hat3 : vo.ownBlock = some g ∨ g = w.heap.size + 1 := by
        rcases hat2 with e | e
        · exact .inl e
        · exact .inr (by simpa [World.setCell] using e)
      have hgb : g ≠ b := by
        rcases hat3 with e | e
        · exact fun e2 => hne (by rw [e, e2])
        · omega
      have t3 := (Turns.refl (one b) w2).set (a := ⟨b, 1, none⟩) (fun _ => rfl) (.slice (some ⟨g, 0, none⟩) (s.opens.length + 1) cap)
      refine ⟨.slice (some ⟨g, 0, none⟩) (s.opens.length + 1) cap, rfl, ⟨by go_simp, by go_simp, by go_simp, by go_simp, ?_, fun e => hgb (by injection e)⟩, tb.set (fun _ => .inl rfl) _, fun k hk e => ?_⟩
      · have := t3.row hown2 (fun g' hg e => hgb (by have e : g' = b := e; have : some g = some g' := hg; injection this with this; omega))
        simpa [flatP, pairC, List.flatMap_append] using this
      · have e1 : some g = some k := e
        injection e1 with e1
        subst e1
        rcases hat3 with e | e
        · exact e
        · omega
  · obtain ⟨i, p, hpl, hi, hpx, hlk, hil⟩ := place_some hk
    have hr : prepR s tx low ms = (0, 8) := by unfold prepR; rw [if_pos hk]
    have hp : prepS s tx low ms = s := by unfold prepS; rw [if_pos hk]
    have HR := Lib.hid hr
    have HP := Lib.hid hp
    have HPL := Lib.hid hpl
    clear hr hp hk hpl hpx hlk
    have g3 : (0 : Int) ≤ (i : Int) := by omega
    go_enter Try.func13, Try.ntmps13
    go_wp2_with (first | (go_at_call 21; refine (find_any _ B b vo s tx hR (by omega)).mono ?_; rintro e w1 ⟨rfl, rfl⟩; rw [HPL.out]))
    go_ret2
    unfold RefIs
    rw [HR.out, HP.out]
    exact ⟨vo, rfl, ⟨c0, c1, f0, f1, hrow, hne⟩, Turns.refl _ _, fun k _ h => h⟩
theorem ref_mk {w w2 w3 : World} {B b n i : Nat} {vo : Value} {c : Int} {O : List (Int × Int)} {D3 : Option Addr} {cp3 : Nat} {D2 : Option Addr} {cp2 : Nat} {xs ys : List Value} (t2 : Turns none' w w2) (k0 : w2.cell? ⟨b, 0, none⟩ = some (.int .u64 c)) (k1 : w2.cell? ⟨b, 1, none⟩ = some vo)
    (q0 : w2.frozen? ⟨b, 0, none⟩ = false) (q1 : w2.frozen? ⟨b, 1, none⟩ = false) (hbl : b < w.heap.size) (hB : B ≤ w.heap.size) (hown2 : w2.ownsRow w.heap.size 50 2 (.slice D2 i cp2) i xs) (hgrow3 : w2.grownBy w3 (Value.slice D2 i cp2).ownBlock)
    (hown3 : w3.ownsRow w.heap.size 50 2 (.slice D3 n cp3) n ys) (hys : ys = flatP O) (hn : n = O.length) :
    RefAt (w3.setCell ⟨b, 1, none⟩ (.slice D3 n cp3)) B b (.slice D3 n cp3) ⟨c, O⟩ ∧ Turns (one b) w (w3.setCell ⟨b, 1, none⟩ (.slice D3 n cp3)) ∧ ∀ k, k < w.heap.size → (Value.slice D3 n cp3).ownBlock ≠ some k := by
  have t3 := (Turns.refl (fun k => (Value.slice D2 i cp2).ownBlock = some k) w2).grown hgrow3 (fun _ _ e => e)
  have hnb : ¬ (Value.slice D2 i cp2).ownBlock = some b := fun e => by have := (hown2.lt b e).1; omega
  have j0 := t3.cell k0 hnb
  have j1 := t3.cell k1 hnb
  have p0 := t3.frozen (frozen_lt k0) hnb q0
  have p1 := t3.frozen (frozen_lt k1) hnb q1
  have t4 := (Turns.refl (one b) w3).set (a := ⟨b, 1, none⟩) (fun _ => rfl) (.slice D3 n cp3)
  subst hn hys
  refine ⟨⟨by go_simp, by go_simp, by go_simp, by go_simp, row_weaken (t4.row hown3 (fun g hg e => by have := (hown3.lt g hg).1; have e : g = b := e; omega)) hB, fun e => by have := (hown3.lt b e).1; omega⟩, ?_, fun k hk e => by have := (hown3.lt k e).1; omega⟩
  exact ((t2.on t3 (fun j hj e => by have := (hown2.lt j e).1; omega)).weaken (fun _ _ e => e.elim)).on t4 (fun _ _ e => e)
theorem ref_set {w : World} {B b : Nat} {vo : Value} {s : Side} (h : RefAt w B b vo s) (c : Int) : RefAt (w.setCell ⟨b, 0, none⟩ (.int .u64 c)) B b vo ⟨c, s.opens⟩ := by
  obtain ⟨c0, c1, f0, f1, hrow, hne⟩ := h
  have tt := (Turns.refl (one b) w).set (a := ⟨b, 0, none⟩) (fun _ => rfl) (.int .u64 c)
  exact ⟨by go_simp, by go_simp, by go_simp, by go_simp, tt.row hrow (fun g hg e => hne (by rw [hg]; exact congrArg some e)), hne⟩
def CommR (w : World) (B b : Nat) (vo : Value) (s : Side) (tx at' ms : Int) : Ending → World → Prop := RefIs w B b vo (commS s tx at' ms) (.int .i64 (commE s tx at' ms))
set_option maxHeartbeats 1000000 in
theorem rcommit_any (w : World) (B b : Nat) (vo : Value) (s : Side) (tx at' ms : Int) (h : RefAt w B b vo s) (hB : B ≤ w.heap.size) (hs : s.ok) (ht : 0 ≤ tx ∧ tx ≤ 18446744073709551615) (hl : 0 ≤ at' ∧ at' ≤ 18446744073709551615) (hn : s.opens.length ≤ 900) :
    Calls Try.prog 14 #[.pointer (some ⟨b, 0, none⟩), .int .u64 tx, .int .u64 at', .int .i64 ms] w (CommR w B b vo s tx at' ms) := by
  obtain ⟨i0, hi0, hz0, hz1, hz2⟩ := info_parts infoOpen
  have hR := h
  have hbl := h.blt
  obtain ⟨c0, c1, f0, f1, hrow, hne⟩ := h
  have hc0 := hs.c0
  have hc1 := hs.c1
  by_cases hb : badMs ms
  · have he : commE s tx at' ms = 1 := if_pos hb
    have hp : commS s tx at' ms = s := by unfold commS; rw [he, if_neg (by decide)]
    have HE := Lib.hid he
    have HP := Lib.hid hp
    clear he hp
    go_enter Try.func14, Try.ntmps14
    go_wp2_with (go_at_call 23; refine (reads_no _ _ hb).mono ?_; rintro e w1 ⟨rfl, rfl⟩)
    go_ret
    unfold CommR RefIs
    rw [HE.out, HP.out]
    exact ⟨vo, rfl, ⟨c0, c1, f0, f1, hrow, hne⟩, Turns.refl _ _, fun k _ h => h⟩
  · have hb1 : 0 ≤ ms ∧ ms ≤ 281474976710655 := by unfold badMs at hb; omega
    cases hk : keyed s.opens tx
    · have hpl := place_none hk
      have he : commE s tx at' ms = 7 := by unfold commE; rw [if_neg hb, if_neg (by rw [hk]; simp)]
      have hp : commS s tx at' ms = s := by unfold commS; rw [he, if_neg (by decide)]
      have HPL := Lib.hid hpl
      have HE := Lib.hid he
      have HP := Lib.hid hp
      clear he hp hk hpl hb
      go_enter Try.func14, Try.ntmps14
      go_wp2_with (first | (go_at_call 23; refine (reads_yes _ _ hb1.1 hb1.2).mono ?_; rintro e w1 ⟨rfl, rfl⟩) | (go_at_call 21; refine (find_any _ B b vo s tx hR (by omega)).mono ?_; rintro e w1 ⟨rfl, rfl⟩; rw [HPL.out]))
      go_ret
      unfold CommR RefIs
      rw [HE.out, HP.out]
      exact ⟨vo, rfl, ⟨c0, c1, f0, f1, hrow, hne⟩, Turns.refl _ _, fun k _ h => h⟩
    · obtain ⟨i, p, hpl, hi, hpx, hlk, hil⟩ := place_some hk
      obtain ⟨D, cp, rfl, hcp⟩ := row_form hrow
      obtain ⟨N, hN⟩ : ∃ N, s.opens.length = N := ⟨_, rfl⟩
      obtain ⟨g, off, rfl, p0, p1⟩ := (Cells.of_own hrow).pair hi
      have hlow := hs.low p (List.mem_of_getElem? hi)
      have g3 : (0 : Int) ≤ (i : Int) := by omega
      have g4 : (i : Int) < (s.opens.length : Int) := by omega
      have HPL := Lib.hid hpl
      by_cases hlt : at' < p.2
      · have he : commE s tx at' ms = 11 := by unfold commE; rw [if_neg hb, if_pos hk, hlk, if_pos hlt]
        have hp : commS s tx at' ms = s := by unfold commS; rw [he, if_neg (by decide)]
        have HE := Lib.hid he
        have HP := Lib.hid hp
        clear he hp hk hpl hb hpx hlk hN
        go_enter Try.func14, Try.ntmps14
        go_wp2_with (first | (go_at_call 23; refine (reads_yes _ _ hb1.1 hb1.2).mono ?_; rintro e w1 ⟨rfl, rfl⟩) | (go_at_call 21; refine (find_any _ B b _ s tx hR (by omega)).mono ?_; rintro e w1 ⟨rfl, rfl⟩; rw [HPL.out]))
        go_ret
        unfold CommR RefIs
        rw [HE.out, HP.out]
        exact ⟨_, rfl, ⟨c0, c1, f0, f1, hrow, hne⟩, Turns.refl _ _, fun k _ h => h⟩
      · have he : commE s tx at' ms = 0 := by unfold commE; rw [if_neg hb, if_pos hk, hlk, if_neg hlt]
        have hp : commS s tx at' ms = ⟨(rai (max s.clock at') ms).1, drop s.opens tx⟩ := by unfold commS; rw [if_pos he]
        have hdr : drop s.opens tx = s.opens.take i ++ s.opens.drop (i + 1) := by rw [← hpx]; exact drop_split hs.uniq hi
        have hfl : (flatP (s.opens.take i)).length = i * 2 := by rw [flatP_len, List.length_take, Nat.min_eq_left (by omega)]
        have hfd : (flatP (s.opens.drop (i + 1))).length = (s.opens.length - (i + 1)) * 2 := by rw [flatP_len, List.length_drop]
        have HFL := Lib.hid hfl
        have HFD := Lib.hid hfd
        have HE := Lib.hid he
        have HP := Lib.hid hp
        have HDR := Lib.hid hdr
        clear he hp hk hpl hb hpx hlk hN hdr hfl hfd
        have hcells : Cells w (some ⟨g, off, none⟩) (flatP (s.opens.take i)) := (Cells.of_own hrow).takeG i
        have g6 : decide ((i : Int) < 0) = false := by simp
        have g7 : (i : Int) ≤ (cp : Int) := by omega
        have g8 : ¬ cp = i := by omega
        have g9 : (i : Int) + 1 ≤ (s.opens.length : Int) := by omega
        have g10 : (0 : Int) ≤ (i : Int) + 1 := by omega
        have tok : True := trivial
        by_cases hcl : cp = i + 1
        · subst hcl
          go_enter Try.func14, Try.ntmps14
          go_wp2_with (first | (go_at_call 23; refine (reads_yes _ _ hb1.1 hb1.2).mono ?_; rintro e w1 ⟨rfl, rfl⟩) | (go_at_call 21; refine (find_any _ B b _ s tx hR (by omega)).mono ?_; rintro e w1 ⟨rfl, rfl⟩; rw [HPL.out]) | (first | (at_builtin; have _t := tok; refine wpList_append_cells _ rfl _ _ 37 rfl w.heap.size 50 i0 (.agg #[.int .u64 0, .int .u64 0]) 2 16 Try.underlying37 hi0 hz0 hz1 hz2 rfl (by omega) _ _ _ rfl (own_empty w 50 2) _ i _ (flatP (s.opens.take i)) rfl HFL.out (hcells.on (own_alloc (own_refl _) _)) (one_cells one_pair) (by unfold maxLen; omega) (by omega) (by simp) ?_; intro D2 cp2 w2 hown2 hgrow2; simp only [Nat.zero_add, List.nil_append] at hown2; have t2 := ((Turns.refl none' w).alloc _).grown hgrow2 (fun j hj e => by have e : w.heap.size = j := Option.some.inj e; omega); have k0 := t2.cell c0 id; have k1 := t2.cell c1 id; have q0 := t2.frozen (frozen_lt c0) id f0; have q1 := t2.frozen (frozen_lt c1) id f1; have hrow2 := t2.row hrow (fun _ _ => id); have hcells2 := Cells.of_own hrow2; have hw2 := t2.size; clear tok) | (at_builtin; refine wpList_append_cells _ rfl _ _ 37 rfl w.heap.size 50 i0 (.agg #[.int .u64 0, .int .u64 0]) 2 16 Try.underlying37 hi0 hz0 hz1 hz2 rfl (by omega) _ _ _ rfl hown2 _ 0 _ [] rfl rfl (Cells.nil _ _) (by simp) (by unfold maxLen; omega) (by omega) (by omega) ?_; intro D3 cp3 w3 hown3 hgrow3; simp only [Nat.add_zero, List.append_nil] at hown3; have t3 := (Turns.refl (fun k => (Value.slice D2 i cp2).ownBlock = some k) w2).grown hgrow3 (fun _ _ e => e); have hnb : ¬ (Value.slice D2 i cp2).ownBlock = some b := fun e => absurd (hown2.lt b e).1 (by omega); have j1 := t3.cell k1 hnb; have p1 := t3.frozen (frozen_lt k1) hnb q1)))
          obtain ⟨hM, tM, hnew⟩ := ref_mk t2 k0 k1 q0 q1 hbl hB hown2 hgrow3 hown3 (show _ = flatP (drop s.opens tx) from by rw [HDR.out, List.drop_eq_nil_of_le (by omega)]; simp) (by rw [HDR.out, List.length_append, List.length_take, List.length_drop]; omega)
          go_wp2_with (first | (go_at_call 16; refine (rsee_any _ B b _ ⟨s.clock, drop s.opens tx⟩ at' hM).mono ?_; rintro e w4 ⟨rfl, hR4, t4⟩; have k4 : w4.cell? ⟨b, 0, none⟩ = some (.int .u64 (max s.clock at')) := hR4.c0; have q4 := hR4.f0) | (go_at_call 24; refine (rraise_any _ _ _ (by omega) (by omega)).mono ?_; rintro e w5 ⟨rfl, rfl⟩))
          go_ret
          unfold CommR RefIs
          rw [HE.out, HP.out]
          exact ⟨_, rfl, ref_set hR4 _, (((tM.trans t4).set (a := ⟨b, 0, none⟩) (fun _ => rfl) _).weaken (fun _ _ e => .inl e)), fun k hk e => absurd e (hnew k hk)⟩
        · have g11 : ¬ cp = i + 1 := hcl
          go_enter Try.func14, Try.ntmps14
          go_wp2_with (first | (go_at_call 23; refine (reads_yes _ _ hb1.1 hb1.2).mono ?_; rintro e w1 ⟨rfl, rfl⟩) | (go_at_call 21; refine (find_any _ B b _ s tx hR (by omega)).mono ?_; rintro e w1 ⟨rfl, rfl⟩; rw [HPL.out]) | (first | (at_builtin; have _t := tok; refine wpList_append_cells _ rfl _ _ 37 rfl w.heap.size 50 i0 (.agg #[.int .u64 0, .int .u64 0]) 2 16 Try.underlying37 hi0 hz0 hz1 hz2 rfl (by omega) _ _ _ rfl (own_empty w 50 2) _ i _ (flatP (s.opens.take i)) rfl HFL.out (hcells.on (own_alloc (own_refl _) _)) (one_cells one_pair) (by unfold maxLen; omega) (by omega) (by simp) ?_; intro D2 cp2 w2 hown2 hgrow2; simp only [Nat.zero_add, List.nil_append] at hown2; have t2 := ((Turns.refl none' w).alloc _).grown hgrow2 (fun j hj e => by have e : w.heap.size = j := Option.some.inj e; omega); have k0 := t2.cell c0 id; have k1 := t2.cell c1 id; have q0 := t2.frozen (frozen_lt c0) id f0; have q1 := t2.frozen (frozen_lt c1) id f1; have hrow2 := t2.row hrow (fun _ _ => id); have hcells2 := Cells.of_own hrow2; have hw2 := t2.size; clear tok) | (at_builtin; refine wpList_append_cells _ rfl _ _ 37 rfl w.heap.size 50 i0 (.agg #[.int .u64 0, .int .u64 0]) 2 16 Try.underlying37 hi0 hz0 hz1 hz2 rfl (by omega) _ _ _ rfl hown2 _ (s.opens.length - (i + 1)) _ (flatP (s.opens.drop (i + 1))) rfl HFD.out (Cells.dropG pairC_len hcells2 (i + 1) (by omega)) (one_cells one_pair) (by unfold maxLen; omega) (by omega) (by omega) ?_; intro D3 cp3 w3 hown3 hgrow3; have t3 := (Turns.refl (fun k => (Value.slice D2 i cp2).ownBlock = some k) w2).grown hgrow3 (fun _ _ e => e); have hnb : ¬ (Value.slice D2 i cp2).ownBlock = some b := fun e => absurd (hown2.lt b e).1 (by omega); have j1 := t3.cell k1 hnb; have p1 := t3.frozen (frozen_lt k1) hnb q1)))
          obtain ⟨hM, tM, hnew⟩ := ref_mk t2 k0 k1 q0 q1 hbl hB hown2 hgrow3 hown3 (show _ = flatP (drop s.opens tx) from by rw [HDR.out]; unfold flatP; rw [List.flatMap_append]) (by rw [HDR.out, List.length_append, List.length_take, List.length_drop]; omega)
          go_wp2_with (first | (go_at_call 16; refine (rsee_any _ B b _ ⟨s.clock, drop s.opens tx⟩ at' hM).mono ?_; rintro e w4 ⟨rfl, hR4, t4⟩; have k4 : w4.cell? ⟨b, 0, none⟩ = some (.int .u64 (max s.clock at')) := hR4.c0; have q4 := hR4.f0) | (go_at_call 24; refine (rraise_any _ _ _ (by omega) (by omega)).mono ?_; rintro e w5 ⟨rfl, rfl⟩))
          go_ret
          unfold CommR RefIs
          rw [HE.out, HP.out]
          exact ⟨_, rfl, ref_set hR4 _, (((tM.trans t4).set (a := ⟨b, 0, none⟩) (fun _ => rfl) _).weaken (fun _ _ e => .inl e)), fun k hk e => absurd e (hnew k hk)⟩
theorem least_snocs {O : List (Int × Int)} {k : Nat} {p : Int × Int} (h : O[k]? = some p) (t : Int) : leastTo (O.take (k + 1)) t = min (leastTo (O.take k) t) (p.2 - 1) := by
  rw [List.take_add_one, h]
  exact leastTo_snoc _ _ _
theorem least_bd {O : List (Int × Int)} {t : Int} (h0 : 0 ≤ t) (hO : ∀ p ∈ O, 1 ≤ p.2) : 0 ≤ leastTo O t ∧ leastTo O t ≤ t := by
  refine ⟨?_, (least_le O t).1⟩
  rcases least_is O t with e | ⟨p, hp, e⟩
  · omega
  · have := hO p hp; omega
set_option maxHeartbeats 1000000 in
theorem rstable_any (w : World) (B b : Nat) (vo : Value) (s : Side) (ms : Int) (h : RefAt w B b vo s) (hs : s.ok) (hn : s.opens.length ≤ 900) :
    Calls Try.prog 15 #[.pointer (some ⟨b, 0, none⟩), .int .i64 ms] w (fun e w' => e = .returned (.tuple #[.int .u64 (stabR s ms).1, .int .i64 (stabR s ms).2]) ∧ RefAt w' B b vo (stabS s ms) ∧ Turns (one b) w w') := by
  have hR := h
  have hbl := h.blt
  obtain ⟨c0, c1, f0, f1, hrow, hne⟩ := h
  have hc0 := hs.c0
  have hc1 := hs.c1
  by_cases hb : badMs ms
  · have hr : stabR s ms = (0, 1) := if_pos hb
    have hp : stabS s ms = s := if_pos hb
    have ha : rai s.clock ms = (0, 1) := if_pos hb
    have HR := Lib.hid hr
    have HP := Lib.hid hp
    have HA := Lib.hid ha
    clear hr hp ha hb
    go_enter Try.func15, Try.ntmps15
    go_wp2_with (go_at_call 24; refine (rraise_any _ _ _ hc0 hc1).mono ?_; rintro e w2 ⟨rfl, rfl⟩; rw [HA.out])
    go_ret2
    rw [HR.out, HP.out]
    exact ⟨rfl, hR, Turns.refl _ _⟩
  · obtain ⟨r1, r2, r3, r4⟩ := rai_ok hc0 hc1 hb
    obtain ⟨t, ht⟩ : ∃ t, rai s.clock ms = (t, 0) := ⟨(rai s.clock ms).1, by rw [← r3]⟩
    rw [ht] at r1 r2
    simp only at r1 r2
    have hr : stabR s ms = (leastTo s.opens t, 0) := by unfold stabR; rw [if_neg hb, ht]
    have hp : stabS s ms = ⟨t, s.opens⟩ := by unfold stabS; rw [if_neg hb, ht]
    have HR := Lib.hid hr
    have HP := Lib.hid hp
    have HT := Lib.hid ht
    clear hr hp ht hb r3 r4
    obtain ⟨D, cp, rfl, hcp⟩ := row_form hrow
    obtain ⟨k0, k1, q0, q1, krow, kne⟩ := ref_set hR t
    have hcl := Cells.of_own krow
    have tt := (Turns.refl (one b) w).set (a := ⟨b, 0, none⟩) (fun _ => rfl) (.int .u64 t)
    have hfin : RefAt (w.setCell ⟨b, 0, none⟩ (.int .u64 t)) B b (.slice D s.opens.length cp) ⟨t, s.opens⟩ := ref_set hR t
    have HFIN := Lib.hid hfin
    clear hfin
    simp only at krow hcl
    go_enter Try.func15, Try.ntmps15
    go_wp2_with (go_at_call 24; refine (rraise_any _ _ _ hc0 hc1).mono ?_; rintro e w2 ⟨rfl, rfl⟩; rw [HT.out])
    go_loop [6, 8] (fun t' i => ∃ (k : Nat) (z : Int), k ≤ s.opens.length ∧ i = .int .i64 k ∧ t' = .int .u64 z ∧ z = leastTo (s.opens.take k) t) (fun _ i => s.opens.length - (intOf i).toNat)
    case atStart => exact ⟨0, t, Nat.zero_le _, rfl, rfl, rfl⟩
    case round =>
      obtain ⟨k, z, hk, rfl, rfl, hz⟩ := hrel
      by_cases hlt : k < s.opens.length
      · obtain ⟨p, hp⟩ : ∃ p, s.opens[k]? = some p := ⟨_, List.getElem?_eq_getElem (by omega)⟩
        obtain ⟨g, off, rfl, p0, p1⟩ := hcl.pair hp
        have hlow := hs.low p (List.mem_of_getElem? hp)
        have g3 : (0 : Int) ≤ (k : Int) := by omega
        have g4 : (k : Int) < (s.opens.length : Int) := by omega
        obtain ⟨z0, z1⟩ := least_bd (O := s.opens.take k) (t := t) (by omega) (fun q hq => (hs.low q (List.mem_of_mem_take hq)).1)
        rw [← hz] at z0 z1
        have hst := least_snocs hp t
        rw [← hz] at hst
        rcases (by omega : (p.2 - 1 < z ∧ min z (p.2 - 1) = p.2 - 1) ∨ (¬ p.2 - 1 < z ∧ min z (p.2 - 1) = z)) with ⟨c1', c2'⟩ | ⟨c1', c2'⟩
        all_goals
          rw [c2'] at hst
          have HST := Lib.hid hst
          have HZ := Lib.hid hz
          clear hst hz c2'
          go_wp2
          go_round
          case rel => exact ⟨k + 1, _, by omega, by go_num, rfl, HST.out.symm⟩
          case measure => simp [intOf]; omega
      · obtain rfl : k = s.opens.length := by omega
        rw [List.take_length] at hz
        have HZ := Lib.hid hz
        clear hz
        go_wp2
        go_ret2
        rw [HR.out, HP.out, HZ.out]
        exact ⟨rfl, HFIN.out, tt⟩
end Go.Proofs.Ytjnbdkkefdfiaaa
