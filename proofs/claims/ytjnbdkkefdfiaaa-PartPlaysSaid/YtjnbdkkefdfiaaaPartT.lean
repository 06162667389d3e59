/-
  The walks of a side's functions: each answers what the plain function says, and turns the side's own blocks alone. Conditions: the side lies as the hypotheses say, its numbers are in their kinds.
-/
import Derived.Test.YtjnbdkkefdfiaaaHlcT
import Derived.Test.YtjnbdkkefdfiaaaEntry
import Derived.Test.YtjnbdkkefdfiaaaPartP
import Derived.Maps.RangeWalk
import Derived.Lib.Hide
import Derived.KernelRfl
namespace Go.Proofs.Ytjnbdkkefdfiaaa
open Go.RowKit Go.Maps
set_option linter.unusedVariables false

theorem lawU : Keyed Try.prog 25 := int_keyed Try.underlying25
theorem zeroU (w : World) : (zeroValue 25).run Try.prog w = .ok (.int .u64 0) w := by kernel_rfl
theorem wf_u64 {x : Int} (h : 0 ≤ x ∧ x ≤ 18446744073709551615) : (Lit.int .u64 x).wf = true := by
  simp [Lit.wf, IntKind.min, IntKind.max, IntKind.signed, IntKind.bits]; omega
theorem keyU {x : Int} (h : (Lit.int .u64 x).wf = true) : keyOf Try.prog 25 (.int .u64 x) = some (.int .u64 x) := keyOf_int_mk Try.underlying25 h
/-- the side s lies in the struct of block b and the map of block m. -/
structure SideAt (w : World) (b m : Nat) (s : Side) : Prop where
  c0 : w.cell? ⟨b, 0, none⟩ = some (.int .u64 s.clock)
  c1 : w.cell? ⟨b, 1, none⟩ = some (.map (some m))
  f0 : w.frozen? ⟨b, 0, none⟩ = false
  ne : b ≠ m
  map : Holds Try.prog 25 25 .u64 .u64 w m s.opens
theorem SideAt.turn {S : Nat → Prop} {w w' : World} {b m : Nat} {s : Side} (h : SideAt w b m s) (ht : Turns S w w') (hb : ¬ S b) (hm : ¬ S m) : SideAt w' b m s :=
  ⟨ht.cell h.c0 hb, ht.cell h.c1 hb, ht.frozen (frozen_lt h.c0) hb h.f0, h.ne, h.map.turn ht hm⟩
theorem SideAt.blt {w : World} {b m : Nat} {s : Side} (h : SideAt w b m s) : b < w.heap.size := frozen_lt h.c0
theorem SideAt.mlt {w : World} {b m : Nat} {s : Side} (h : SideAt w b m s) : m < w.heap.size := h.map.lt
/-- what New answers. -/
def NewIs (w : World) (e : Ending) (w' : World) : Prop := ∃ b m, e = .returned (.pointer (some ⟨b, 0, none⟩)) ∧ w.heap.size ≤ b ∧ w.heap.size ≤ m ∧ SideAt w' b m ⟨0, []⟩ ∧ Below w.heap.size w w'
theorem new_any (w : World) : Calls Try.prog 7 #[] w (NewIs w) := by
  have hmm := @run_makeMap Try.prog
  go_enter Try.func7, Try.ntmps7
  go_wp2
  go_ret
  refine ⟨w.heap.size + 1, w.heap.size, rfl, by omega, Nat.le_refl _, ⟨by go_simp, by go_simp, by go_simp, by omega, ?_⟩, own_alloc (own_alloc (own_refl _) _) _⟩
  exact (holds_made Try.prog 25 25 .u64 .u64 w).turn ((Turns.refl (one (w.heap.size + 1)) _).alloc _) (by show ¬ _ = _; omega)

/-- what Prepare answers. -/
def PrepIs (w : World) (b m : Nat) (s : Side) (tx low ms : Int) (e : Ending) (w' : World) : Prop :=
  e = .returned (.tuple #[.int .u64 (prepR s tx low ms).1, .int .i64 (prepR s tx low ms).2]) ∧ SideAt w' b m (prepS s tx low ms) ∧ Turns (two b m) w w'
set_option maxHeartbeats 1000000 in
theorem prepare_any (w : World) (b m : Nat) (s : Side) (tx low ms : Int) (h : SideAt w b m s) (hs : s.ok) (ht : 0 ≤ tx ∧ tx ≤ 18446744073709551615) (hl : 0 ≤ low ∧ low ≤ 18446744073709551615) (hn : s.opens.length ≤ 1000) :
    Calls Try.prog 8 #[.pointer (some ⟨b, 0, none⟩), .int .u64 tx, .int .u64 low, .int .i64 ms] w (PrepIs w b m s tx low ms) := by
  obtain ⟨c0, c1, f0, hne, D, hown, hD⟩ := h
  have hc0 := hs.c0
  have hc1 := hs.c1
  have wtx := wf_u64 ht
  cases hk : keyed s.opens tx
  · cases he : (aft (max s.clock low) ms).2 == 0
    · have hr : prepR s tx low ms = (0, (aft (max s.clock low) ms).2) := by unfold prepR; rw [if_neg (by rw [hk]; simp), if_neg (by simpa using he)]
      have hp : prepS s tx low ms = s := by unfold prepS; rw [if_neg (by rw [hk]; simp), if_neg (by simpa using he)]
      have he2 : ((aft (max s.clock low) ms).2 != 0) = true := by simpa using he
      have HR := Lib.hid hr
      have HP := Lib.hid hp
      have HK := Lib.hid hk
      clear hr hp hk he
      go_enter Try.func8, Try.ntmps8
      go_wp2_with (first | (at_lookup; refine wpList_lookup_own_ok_int _ rfl _ _ 43 rfl 25 25 .u64 lawU Try.underlying43 Try.underlying25 (zeroU _) m _ D rfl hown _ _ rfl (keyU wtx) ?_; intro c hat hwc; rw [hD.has tx, show s.opens.any (fun p => p.1 == tx) = false from HK.out]) | (go_at_call 19; refine (recv_any _ _ _ _ hc0 hc1 hl.1 hl.2).mono ?_; rintro e w1 ⟨rfl, rfl⟩))
      go_ret2
      unfold PrepIs
      rw [HR.out, HP.out]
      exact ⟨rfl, ⟨c0, c1, f0, hne, D, hown, hD⟩, Turns.refl _ _⟩
    · have he1 : (aft (max s.clock low) ms).2 = 0 := by simpa using he
      obtain ⟨t, hat⟩ : ∃ t, aft (max s.clock low) ms = (t, 0) := ⟨(aft (max s.clock low) ms).1, by rw [← he1]⟩
      have hr : prepR s tx low ms = (t, 0) := by unfold prepR; rw [if_neg (by rw [hk]; simp), if_pos he1, hat]
      have hp : prepS s tx low ms = ⟨t, s.opens ++ [(tx, t)]⟩ := by unfold prepS; rw [if_neg (by rw [hk]; simp), if_pos he1, hat]
      have hao := aft_ok (t := max s.clock low) (ms := ms) (by omega) (by omega) he1
      rw [hat] at hao
      have hwt : (Lit.int .u64 t).wf = true := wf_u64 ⟨by have := hao.1; simp only at this; omega, hao.2⟩
      have hdr : drop s.opens tx = s.opens := drop_none hk
      have HR := Lib.hid hr
      have HP := Lib.hid hp
      have HK := Lib.hid hk
      have HA := Lib.hid hat
      have HDR := Lib.hid hdr
      clear hr hp hk he hat he1 hao hdr
      go_enter Try.func8, Try.ntmps8
      go_wp2_with (first | (at_lookup; refine wpList_lookup_own_ok_int _ rfl _ _ 43 rfl 25 25 .u64 lawU Try.underlying43 Try.underlying25 (zeroU _) m _ D rfl hown _ _ rfl (keyU wtx) ?_; intro c hat hwc; rw [hD.has tx, show s.opens.any (fun p => p.1 == tx) = false from HK.out]) | (go_at_call 19; refine (recv_any _ _ _ _ hc0 hc1 hl.1 hl.2).mono ?_; rintro e w1 ⟨rfl, rfl⟩; rw [HA.out]) | (refine wpList_mapEntry_own _ rfl _ _ 43 rfl 25 25 lawU Try.underlying43 _ zeroU m _ D rfl (hown.setCell hne.symm _) (by unfold maxLen; omega) _ _ rfl (keyU wtx) ?_; intro v0 st w1 hf hmt) | (refine wpList_entryStore_own _ rfl _ _ _ 43 rfl 25 _ m _ D _ st w1 hf rfl rfl rfl _ rfl _ [] (plainElem_int Try.underlying25 hwt) ?_; intro w3 hown3 hmt3))
      go_ret2
      unfold PrepIs
      rw [HR.out, HP.out]
      have t1 : Turns (one m) (w.setCell ⟨b, 0, none⟩ (.int .u64 t)) w3 := (turned hmt).trans (turned hmt3)
      have hmp := hD.put (hown.tidy lawU) tx t
      rw [HDR.out] at hmp
      exact ⟨rfl, ⟨t1.cell (by go_simp) hne, t1.cell (by go_simp) hne, t1.frozen (a := ⟨b, 0, none⟩) (by simpa using frozen_lt c0) hne (by go_simp), hne, holds_of hown3 hmp⟩, ((Turns.refl (two b m) w).set (fun _ => .inl rfl) _).on t1 (fun _ _ e => .inr e)⟩
  · have hr : prepR s tx low ms = (0, 8) := by unfold prepR; rw [if_pos hk]
    have hp : prepS s tx low ms = s := by unfold prepS; rw [if_pos hk]
    have HR := Lib.hid hr
    have HP := Lib.hid hp
    have HK := Lib.hid hk
    clear hr hp hk
    go_enter Try.func8, Try.ntmps8
    go_wp2_with (first | (at_lookup; refine wpList_lookup_own_ok_int _ rfl _ _ 43 rfl 25 25 .u64 lawU Try.underlying43 Try.underlying25 (zeroU _) m _ D rfl hown _ _ rfl (keyU wtx) ?_; intro c hat hwc; rw [hD.has tx, show s.opens.any (fun p => p.1 == tx) = true from HK.out]))
    go_ret2
    unfold PrepIs
    rw [HR.out, HP.out]
    exact ⟨rfl, ⟨c0, c1, f0, hne, D, hown, hD⟩, Turns.refl _ _⟩
theorem look_val {qk qe : IntKind} {D : DataW Unit} {O : List (Int × Int)} {x c z : Int} (h : MapOf qk qe D O) (hat : D.atKey (.int qk x) (.lit (.int qe 0)) = .lit (.int qe c)) (hz : look O x = z) : c = z := by
  rw [h.look x, hz] at hat
  injection hat with hat
  injection hat with _ hat
  exact hat.symm
/-- what Commit answers. -/
def CommIs (w : World) (b m : Nat) (s : Side) (tx at' ms : Int) (e : Ending) (w' : World) : Prop :=
  e = .returned (.int .i64 (commE s tx at' ms)) ∧ SideAt w' b m (commS s tx at' ms) ∧ Turns (two b m) w w'
set_option maxHeartbeats 1000000 in
theorem commit_any (w : World) (b m : Nat) (s : Side) (tx at' ms : Int) (h : SideAt w b m s) (hs : s.ok) (ht : 0 ≤ tx ∧ tx ≤ 18446744073709551615) (hl : 0 ≤ at' ∧ at' ≤ 18446744073709551615) :
    Calls Try.prog 9 #[.pointer (some ⟨b, 0, none⟩), .int .u64 tx, .int .u64 at', .int .i64 ms] w (CommIs w b m s tx at' ms) := by
  obtain ⟨c0, c1, f0, hne, D, hown, hD⟩ := h
  have hc0 := hs.c0
  have hc1 := hs.c1
  have wtx := wf_u64 ht
  by_cases b1 : ms < 0
  · have he : commE s tx at' ms = 1 := if_pos (.inl b1)
    have HE := Lib.hid he
    have hp : commS s tx at' ms = s := by unfold commS; rw [he, if_neg (by decide)]
    have HP := Lib.hid hp
    clear he hp
    go_enter Try.func9, Try.ntmps9
    go_wp2_with (fail)
    go_ret
    unfold CommIs
    rw [HE.out, HP.out]
    exact ⟨rfl, ⟨c0, c1, f0, hne, D, hown, hD⟩, Turns.refl _ _⟩
  · by_cases b2 : 281474976710655 < ms
    · have he : commE s tx at' ms = 1 := if_pos (.inr b2)
      have HE := Lib.hid he
      have hp : commS s tx at' ms = s := by unfold commS; rw [he, if_neg (by decide)]
      have HP := Lib.hid hp
      clear he hp
      go_enter Try.func9, Try.ntmps9
      go_wp2_with (fail)
      go_ret
      unfold CommIs
      rw [HE.out, HP.out]
      exact ⟨rfl, ⟨c0, c1, f0, hne, D, hown, hD⟩, Turns.refl _ _⟩
    · have hb : ¬ badMs ms := by unfold badMs; omega
      cases hk : keyed s.opens tx
      · have he : commE s tx at' ms = 7 := by unfold commE; rw [if_neg hb, if_neg (by rw [hk]; simp)]
        have HK := Lib.hid hk
        clear hk hb
        have HE := Lib.hid he
        have hp : commS s tx at' ms = s := by unfold commS; rw [he, if_neg (by decide)]
        have HP := Lib.hid hp
        clear he hp
        go_enter Try.func9, Try.ntmps9
        go_wp2_with ((at_lookup; refine wpList_lookup_own_ok_int _ rfl _ _ 43 rfl 25 25 .u64 lawU Try.underlying43 Try.underlying25 (zeroU _) m _ D rfl hown _ _ rfl (keyU wtx) ?_; intro c hat hwc; rw [hD.has tx, show s.opens.any (fun p => p.1 == tx) = false from HK.out]))
        go_ret
        unfold CommIs
        rw [HE.out, HP.out]
        exact ⟨rfl, ⟨c0, c1, f0, hne, D, hown, hD⟩, Turns.refl _ _⟩
      · obtain ⟨z, hz⟩ : ∃ z, look s.opens tx = z := ⟨_, rfl⟩
        have hzb := (hs.low _ (look_mem hk)).1
        simp only [hz] at hzb
        by_cases hlt : at' < z
        · have he : commE s tx at' ms = 11 := by unfold commE; rw [if_neg hb, if_pos hk, hz, if_pos hlt]
          have HK := Lib.hid hk
          have HZ := Lib.hid hz
          clear hk hz hb
          have HE := Lib.hid he
          have hp : commS s tx at' ms = s := by unfold commS; rw [he, if_neg (by decide)]
          have HP := Lib.hid hp
          clear he hp
          go_enter Try.func9, Try.ntmps9
          go_wp2_with ((at_lookup; refine wpList_lookup_own_ok_int _ rfl _ _ 43 rfl 25 25 .u64 lawU Try.underlying43 Try.underlying25 (zeroU _) m _ D rfl hown _ _ rfl (keyU wtx) ?_; intro c hat hwc; obtain rfl : c = z := look_val hD hat HZ.out; rw [hD.has tx, show s.opens.any (fun p => p.1 == tx) = true from HK.out]))
          go_ret
          unfold CommIs
          rw [HE.out, HP.out]
          exact ⟨rfl, ⟨c0, c1, f0, hne, D, hown, hD⟩, Turns.refl _ _⟩
        · have he : commE s tx at' ms = 0 := by unfold commE; rw [if_neg hb, if_pos hk, hz, if_neg hlt]
          have hp : commS s tx at' ms = ⟨(rai (max s.clock at') ms).1, drop s.opens tx⟩ := by unfold commS; rw [if_pos he]
          have HE := Lib.hid he
          have HP := Lib.hid hp
          have HK := Lib.hid hk
          have HZ := Lib.hid hz
          clear hk hz hb he hp
          have hx : 0 ≤ max s.clock at' ∧ max s.clock at' ≤ 18446744073709551615 := by omega
          rcases (by omega : (s.clock < at' ∧ max s.clock at' = at') ∨ (¬ s.clock < at' ∧ max s.clock at' = s.clock)) with ⟨hle, hmx⟩ | ⟨hle, hmx⟩
          all_goals
            have HMX := Lib.hid hmx
            clear hmx hx
            go_enter Try.func9, Try.ntmps9
            go_wp2_with (first | (at_lookup; refine wpList_lookup_own_ok_int _ rfl _ _ 43 rfl 25 25 .u64 lawU Try.underlying43 Try.underlying25 (zeroU _) m _ D rfl hown _ _ rfl (keyU wtx) ?_; intro c hat hwc; obtain rfl : c = z := look_val hD hat HZ.out; rw [hD.has tx, show s.opens.any (fun p => p.1 == tx) = true from HK.out]) | (at_delete; refine wpList_delete_own _ rfl _ _ 43 25 rfl 25 lawU Try.underlying43 _ m _ D rfl hown _ _ rfl (keyU wtx) ?_; intro w1 hown1 hmt1; have t1 := turned hmt1; have c0' : w1.cell? ⟨b, 0, none⟩ = some (.int .u64 s.clock) := t1.cell c0 hne; have f0' : w1.frozen? ⟨b, 0, none⟩ = false := t1.frozen (a := ⟨b, 0, none⟩) (frozen_lt c0) hne f0) | (go_at_call 20; refine (raise_any _ _ _ (by omega) (by omega)).mono ?_; rintro e w2 ⟨rfl, rfl⟩))
            go_ret
            unfold CommIs
            rw [HE.out, HP.out, HMX.out]
            have c1' := t1.cell c1 hne
            exact ⟨rfl, ⟨by go_simp, by go_simp, by go_simp, hne, holds_of (hown1.setCell hne.symm _) (hD.del (hown.tidy lawU) tx)⟩, (t1.weaken (fun _ _ e => .inr e)).set (fun _ => .inl rfl) _⟩
theorem see_any (w : World) (b m : Nat) (s : Side) (t : Int) (h : SideAt w b m s) :
    Calls Try.prog 11 #[.pointer (some ⟨b, 0, none⟩), .int .u64 t] w (fun e w' => e = .returned (.tuple #[]) ∧ SideAt w' b m (seeS s t) ∧ Turns (two b m) w w') := by
  obtain ⟨c0, c1, f0, hne, D, hown, hD⟩ := h
  rcases (by omega : (s.clock < t ∧ max s.clock t = t) ∨ (¬ s.clock < t ∧ max s.clock t = s.clock)) with ⟨hle, hmx⟩ | ⟨hle, hmx⟩
  all_goals
    have hp : seeS s t = ⟨max s.clock t, s.opens⟩ := rfl
    rw [hmx] at hp
    have HP := Lib.hid hp
    clear hp hmx
    go_enter Try.func11, Try.ntmps11
    go_wp2
    go_end0
    rw [HP.out]
    exact ⟨rfl, ⟨by go_simp, by go_simp, by go_simp, hne, holds_of (hown.setCell hne.symm _) hD⟩, (Turns.refl (two b m) w).set (fun _ => .inl rfl) _⟩
theorem clock_any (w : World) (b m : Nat) (s : Side) (h : SideAt w b m s) :
    Calls Try.prog 18 #[.pointer (some ⟨b, 0, none⟩)] w (fun e w' => e = .returned (.int .u64 s.clock) ∧ w = w') := by
  obtain ⟨c0, c1, f0, hne, D, hown, hD⟩ := h
  go_enter Try.func18, Try.ntmps18
  go_wp2
  go_ret
  exact ⟨rfl, rfl⟩
theorem open_any (w : World) (b m : Nat) (s : Side) (h : SideAt w b m s) :
    Calls Try.prog 17 #[.pointer (some ⟨b, 0, none⟩)] w (fun e w' => e = .returned (.int .i64 s.opens.length) ∧ w = w') := by
  obtain ⟨c0, c1, f0, hne, D, hown, hD⟩ := h
  have hl := hD.len
  have HL := Lib.hid hl
  clear hl
  go_enter Try.func17, Try.ntmps17
  go_wp2_with (at_len; refine wpList_len_own _ rfl _ 43 rfl 25 25 Try.underlying43 _ m _ D rfl hown ?_; rw [HL.out])
  go_ret
  exact ⟨rfl, rfl⟩

/-- what the loop of Stable has found. -/
def Least (O : List (Int × Int)) (t z : Int) (left : Lit → Bool) : Prop := z ≤ t ∧ (∀ p ∈ O, left (.int .u64 p.1) = false → z ≤ p.2 - 1) ∧ (z = t ∨ ∃ p ∈ O, z = p.2 - 1)
theorem least_start {D : DataW Unit} {O : List (Int × Int)} (h : MapOf .u64 .u64 D O) (t : Int) : Least O t t (Maps.has D) :=
  ⟨Int.le_refl _, fun p hp hf => by rw [h.has p.1, List.any_eq_false] at hf; have := hf p hp; simp at this, .inl rfl⟩
theorem entry_mem {qk qe : IntKind} {D : DataW Unit} {O : List (Int × Int)} (h : MapOf qk qe D O) {x c : Int} (hat : ∀ zd, D.atKey (.int qk x) zd = .lit (.int qe c)) : (x, c) ∈ O := by
  have hk : keyed O x = true := (h.has x).symm.trans (has_true_of_atKey hat)
  have := look_mem hk
  rwa [← look_val h (hat _) rfl] at this
theorem least_step {D : DataW Unit} {O : List (Int × Int)} (h : MapOf .u64 .u64 D O) {t z x c z' : Int} {left : Lit → Bool} (hl : Least O t z left) (hat : ∀ zd, D.atKey (.int .u64 x) zd = .lit (.int .u64 c)) (hz : (c - 1 < z ∧ z' = c - 1) ∨ (¬ c - 1 < z ∧ z' = z)) : Least O t z' (fun k => left k && !k.sameKey (.int .u64 x)) := by
  obtain ⟨h1, h2, h3⟩ := hl
  have hm := entry_mem h hat
  refine ⟨by omega, fun p hp hf => ?_, ?_⟩
  · cases hlp : left (.int .u64 p.1)
    · have := h2 p hp hlp; omega
    · simp only [hlp, Bool.true_and, Bool.not_eq_false'] at hf
      have e1 := WideAt.sameKey_eq hf
      injection e1 with _ e1
      have e2 : p = (x, c) := by
        rcases Classical.em (p = (x, c)) with e | e
        · exact e
        · obtain ⟨i, hi⟩ := List.mem_iff_getElem?.1 hp
          obtain ⟨j, hj⟩ := List.mem_iff_getElem?.1 hm
          obtain ⟨i1, i2⟩ := List.getElem?_eq_some_iff.1 hi
          obtain ⟨j1, j2⟩ := List.getElem?_eq_some_iff.1 hj
          rcases Nat.lt_trichotomy i j with c1 | c1 | c1
          · have := List.pairwise_iff_getElem.1 h.uniq i j i1 j1 c1
            rw [i2, j2] at this
            exact absurd e1 this
          · subst c1; rw [i2] at j2; exact absurd j2 e
          · have := List.pairwise_iff_getElem.1 h.uniq j i j1 i1 c1
            rw [i2, j2] at this
            exact absurd e1.symm this
      subst e2
      show z' ≤ c - 1
      omega
  · rcases hz with ⟨_, rfl⟩ | ⟨_, rfl⟩
    · exact .inr ⟨_, hm, rfl⟩
    · exact h3
/-- what Stable answers. -/
def StabIs (w : World) (b m : Nat) (s : Side) (ms : Int) (e : Ending) (w' : World) : Prop :=
  e = .returned (.tuple #[.int .u64 (stabR s ms).1, .int .i64 (stabR s ms).2]) ∧ SideAt w' b m (stabS s ms) ∧ Turns (two b m) w w'
set_option maxHeartbeats 1000000 in
theorem stable_any (w : World) (b m : Nat) (s : Side) (ms : Int) (h : SideAt w b m s) (hs : s.ok) :
    Calls Try.prog 10 #[.pointer (some ⟨b, 0, none⟩), .int .i64 ms] w (StabIs w b m s ms) := by
  have hwlt := h.mlt
  obtain ⟨c0, c1, f0, hne, D, hown, hD⟩ := h
  have hc0 := hs.c0
  have hc1 := hs.c1
  by_cases hb : badMs ms
  · have hr : stabR s ms = (0, 1) := if_pos hb
    have hp : stabS s ms = s := if_pos hb
    have ha : rai s.clock ms = (0, 1) := if_pos hb
    have HR := Lib.hid hr
    have HP := Lib.hid hp
    have HA := Lib.hid ha
    clear hr hp ha hb
    go_enter Try.func10, Try.ntmps10
    go_wp2_with (go_at_call 20; refine (raise_any _ _ _ hc0 hc1).mono ?_; rintro e w2 ⟨rfl, rfl⟩; rw [HA.out])
    go_ret2
    unfold StabIs
    rw [HR.out, HP.out]
    exact ⟨rfl, ⟨c0, c1, f0, hne, D, hown, hD⟩, Turns.refl _ _⟩
  · obtain ⟨r1, r2, r3, r4⟩ := rai_ok hc0 hc1 hb
    obtain ⟨t, ht⟩ : ∃ t, rai s.clock ms = (t, 0) := ⟨(rai s.clock ms).1, by rw [← r3]⟩
    rw [ht] at r1 r2
    simp only at r1 r2
    have hr : stabR s ms = (leastTo s.opens t, 0) := by unfold stabR; rw [if_neg hb, ht]
    have hp : stabS s ms = ⟨t, s.opens⟩ := by unfold stabS; rw [if_neg hb, ht]
    have HR := Lib.hid hr
    have HP := Lib.hid hp
    have HT := Lib.hid ht
    have hbm : b < w.heap.size := frozen_lt c0
    have hsz : (w.setCell ⟨b, 0, none⟩ (.int .u64 t)).heap.size = w.heap.size := by simp [World.setCell]
    clear hr hp ht hb r3 r4
    go_enter Try.func10, Try.ntmps10
    go_wp2_with (first | (at_range; refine wpList_range_own _ rfl _ 43 rfl 25 25 lawU Try.underlying43 _ m _ D rfl (hown.setCell hne.symm _) ?_; intro w0 hrg0 hg0 hs0; go_frame) | (go_at_call 20; refine (raise_any _ _ _ hc0 hc1).mono ?_; rintro e w2 ⟨rfl, rfl⟩; rw [HT.out]))
    rw [hsz] at hrg0 hs0 ⊢
    go_loopw [6] (fun t' wr => ∃ (left : Lit → Bool) (cnt : Nat) (z : Int), t' = .int .u64 z ∧ wr.ranges Try.prog 25 (plainElem Try.prog 25) m w.heap.size s.opens.length D left cnt ∧ Least s.opens t z left ∧ 0 ≤ z ∧ z ≤ 18446744073709551615 ∧
        Turns (one b) w wr ∧ wr.cell? ⟨b, 0, none⟩ = some (.int .u64 t) ∧ wr.cell? ⟨b, 1, none⟩ = some (.map (some m)) ∧ wr.frozen? ⟨b, 0, none⟩ = false) (fun _ wr => wr.rangeLeft m w.heap.size)
    case atStart =>
      have tt := ((Turns.refl (one b) w).set (a := ⟨b, 0, none⟩) (fun _ => rfl) (.int .u64 t)).grown hg0 (fun _ _ e => by cases e)
      have t2 := (Turns.refl none' (w.setCell ⟨b, 0, none⟩ (.int .u64 t))).grown hg0 (fun _ _ e => by cases e)
      exact ⟨_, _, t, rfl, hrg0, least_start hD t, by omega, by omega, tt, t2.cell (by go_simp) id, t2.cell (by go_simp) id, t2.frozen (a := ⟨b, 0, none⟩) (by rw [hsz]; exact hbm) id (by go_simp)⟩
    case round =>
      obtain ⟨left, cnt, z, rfl, hrg, hL, hz0, hz1, htr, k0, k1, k2⟩ := hrel
      have HL := Lib.hid hL
      clear hL
      go_wp2_with (first | (at_next; refine wpList_next_ranges_ii _ rfl _ rfl 25 25 .u64 .u64 lawU Try.underlying25 Try.underlying25 m w.heap.size s.opens.length D _ _ rfl hrg ?_ ?_) | go_in)
      · intro hc0 hl0
        have hzz : z = leastTo s.opens t := least_unique HL.out.1 (fun p hp => HL.out.2.1 p hp (hl0 _)) HL.out.2.2
        have HZ := Lib.hid hzz
        clear hzz hl0
        go_wp2
        go_ret2
        unfold StabIs
        rw [HR.out, HP.out, HZ.out]
        exact ⟨rfl, ⟨k0, k1, k2, hne, holds_of hrg.owns hD⟩, htr.weaken (fun _ _ e => .inl e)⟩
      · intro x c w1 cnt1 hwx hwc hlx hat hrg1 hlt hg1 hs1 hen
        have hm := entry_mem hD hat
        have hcl := hs.low _ hm
        simp only at hcl
        have hne2 : m ≠ w.heap.size := by omega
        have hnb : b ≠ w.heap.size := by omega
        have tg := (Turns.refl (one w.heap.size) wr).grown hg1 (fun _ _ e => by injection e with e; exact e.symm)
        have k0' := tg.cell k0 hnb
        have k1' := tg.cell k1 hnb
        have k2' := tg.frozen (frozen_lt k0) hnb k2
        have ht2 : Turns (one b) w w1 := htr.on tg (fun j hj e => by have : j = w.heap.size := e; omega)
        rcases (by omega : (c - 1 < z ∨ ¬ c - 1 < z)) with hlz | hlz
        · have hL' := least_step hD HL.out hat (.inl ⟨hlz, rfl⟩)
          have HL' := Lib.hid hL'
          clear hL' hat
          go_wp2
          go_roundw
          case rel => exact ⟨_, cnt1, c - 1, rfl, hrg1, HL'.out, by omega, by omega, ht2, k0', k1', k2'⟩
          case measure => rw [hrg1.left_eq, hrg.left_eq]; exact hlt
        · have hL' := least_step hD HL.out hat (.inr ⟨hlz, rfl⟩)
          have HL' := Lib.hid hL'
          clear hL' hat
          go_wp2
          go_roundw
          case rel => exact ⟨_, cnt1, z, rfl, hrg1, HL'.out, by omega, by omega, ht2, k0', k1', k2'⟩
          case measure => rw [hrg1.left_eq, hrg.left_eq]; exact hlt
end Go.Proofs.Ytjnbdkkefdfiaaa
