/-
  A box and the document's answer go together: what each call does to both. Conditions: none of the program.
-/
import Derived.Test.YtneglecglkibfaaStep
import Derived.Test.YtneglecglkibfaaRfT2
namespace Go.Proofs.Ytneglecglkibfaa
open Go.RowKit
set_option linter.unusedVariables false

theorem keyed_iff {H : List (Int × Int)} {c : Int} : keyed H c = true ↔ ∃ v, (c, v) ∈ H := by
  unfold keyed
  rw [List.any_eq_true]
  constructor
  · rintro ⟨p, hp, e⟩
    have : p.1 = c := by simpa using e
    exact ⟨p.2, by rw [← this]; exact hp⟩
  · rintro ⟨v, hv⟩
    exact ⟨_, hv, by simp⟩
theorem look_filter {H : List (Int × Int)} {f : Int × Int → Bool} {c : Int} (h : ∀ p : Int × Int, p.1 = c → f p = true) : look (H.filter f) c = look H c := by
  unfold look
  have : (H.filter f).find? (fun p => p.1 == c) = H.find? (fun p => p.1 == c) := by
    rw [List.find?_filter]
    congr 1
    funext p
    by_cases e : p.1 = c
    · simp [e, h p e]
    · simp [e]
  rw [this]
theorem look_heard (H : List (Int × Int)) (t at' c : Int) : look (heardH H t at') c = if c = at' then max (look H at') t else look H c := by
  unfold heardH
  obtain ⟨v, hv⟩ : ∃ v, max (look H at') t = v := ⟨_, rfl⟩
  rw [hv]
  by_cases e : c = at'
  · subst e
    rw [if_pos rfl]
    have hk : (drop H c).find? (fun p => p.1 == c) = none := List.find?_eq_none.2 fun p hp => by simpa using (mem_drop.1 hp).2
    unfold look
    rw [List.find?_append, hk]
    simp
  · rw [if_neg e, ← look_filter (H := H) (f := fun p => p.1 != at') (c := c) (fun p hp => by simp [hp, e])]
    have h2 : List.find? (fun p : Int × Int => p.1 == c) [(at', v)] = none := by simp [Ne.symm e]
    unfold look drop
    rw [List.find?_append, h2]
    cases List.find? (fun p : Int × Int => p.1 == c) (List.filter (fun p => p.1 != at') H) <;> rfl
theorem look_stays {H : List (Int × Int)} {base c : Int} (h : base < c) : look (staysH H base) c = look H c := look_filter fun p hp => by simp [hp, h]
/-- p is told of in H, or is nothing above g. -/
theorem got_le {X Y : List (Int × Int)} {base g : Int} (h : ∀ p ∈ X, p.1 ≤ base → p.2 ≤ g ∨ ∃ q ∈ Y, q.1 ≤ base ∧ p.2 ≤ q.2) : gotH X base g ≤ gotH Y base g := by
  obtain ⟨h1, h2⟩ := gotH_le Y base g
  rcases gotH_is X base g with e | ⟨p, hp, hb, e⟩
  · omega
  · rcases h p hp hb with e2 | ⟨q, hq, hqb, e2⟩
    · omega
    · have := h2 q hq hqb; omega
structure Rel (x : Bx) (y : Rf) : Prop where
  base : x.base = y.first + lead y.done
  list : x.list = y.came.drop (lead y.done)
  hle : lead y.done ≤ y.handed
  hand : x.handed = y.handed - lead y.done
  done : x.done = y.done.drop (lead y.done)
  dlt : ∀ j : Nat, y.done[j]? = some true → j < y.handed
  got : x.got = y.got
  h1 : ∀ p ∈ x.hearts, p.2 = 0 ∨ p ∈ y.hearts
  h2 : ∀ q ∈ y.hearts, q.2 ≤ x.got ∨ q.2 ≤ look x.hearts q.1
structure YF (y : Rf) (k : Nat) : Prop where
  ok : y.ok
  c : y.came.length ≤ k
  h : y.hearts.length ≤ k
theorem YF.more {y : Rf} {k : Nat} (h : YF y k) : YF y (k + 1) := ⟨h.ok, Nat.le_succ_of_le h.c, Nat.le_succ_of_le h.h⟩
theorem Rel.new (at' : Int) : Rel (box0 at') (rf0 at') := ⟨by show max at' 0 = max at' 0 + ((0 : Nat) : Int); omega, rfl, Nat.le_refl _, rfl, rfl, fun j h => by simp [rf0] at h, rfl, by simp [box0], by simp [rf0]⟩
theorem YF.new (at' : Int) (h : at' ≤ 1152921504606846976) : YF (rf0 at') 0 := ⟨⟨by show 0 ≤ max at' 0; omega, by show max at' 0 ≤ _; omega, by simp [rf0], Nat.le_refl _, rfl, by simp [rf0], Int.le_refl _, by show (0 : Int) ≤ _; omega, by simp [rf0], by simp [rf0]⟩, Nat.le_refl _, Nat.le_refl _⟩
theorem Rel.len {x : Bx} {y : Rf} (h : Rel x y) (hy : y.ok) : x.base + x.list.length = y.first + y.came.length := by
  have h1 := h.hle
  have h2 := hy.hd
  rw [h.base, h.list, List.length_drop]
  omega
theorem Rel.settle {x : Bx} {y : Rf} (h : Rel x y) (hx : 0 ≤ x.got) : Rel (settleB x) (rsettleX y) := by
  have hb := h.base
  have e1 : gotH x.hearts x.base x.got = gotH y.hearts (y.first + lead y.done) y.got := by
    rw [← hb, ← h.got]
    apply Int.le_antisymm
    · exact got_le fun p hp hpb => (h.h1 p hp).elim (fun e => .inl (by omega)) (fun e => .inr ⟨p, e, hpb, Int.le_refl _⟩)
    · refine got_le fun q hq hqb => ?_
      rcases h.h2 q hq with e | e
      · exact .inl e
      · cases hk : keyed x.hearts q.1
        · rw [look_none hk] at e
          exact .inl (by omega)
        · exact .inr ⟨_, look_mem hk, hqb, e⟩
  refine ⟨h.base, h.list, h.hle, h.hand, h.done, h.dlt, e1, fun p hp => h.h1 p (List.mem_filter.1 hp).1, fun q hq => ?_⟩
  show q.2 ≤ gotH x.hearts x.base x.got ∨ q.2 ≤ look (staysH x.hearts x.base) q.1
  by_cases c : q.1 ≤ x.base
  · rw [e1]
    exact .inl ((gotH_le y.hearts (y.first + lead y.done) y.got).2 q hq (by rw [← hb]; exact c))
  · rw [look_stays (by omega)]
    exact (h.h2 q hq).imp (fun e => Int.le_trans e (gotH_le x.hearts x.base x.got).1) id
theorem lead_push (l : List Bool) : lead (l ++ [false]) = lead l := by
  induction l with
  | nil => rfl
  | cons v l ih =>
    cases v with
    | true => exact congrArg (· + 1) ih
    | false => rfl
theorem push_true {l : List Bool} {j : Nat} : (l ++ [false])[j]? = some true ↔ l[j]? = some true := by
  rcases Nat.lt_or_ge j l.length with c | c
  · rw [List.getElem?_append_left c]
  · rw [List.getElem?_append_right c, List.getElem?_eq_none (l := l) c]
    rcases Nat.eq_or_lt_of_le c with c | c
    · rw [← c]; simp
    · rw [List.getElem?_eq_none (by simp; omega)]
theorem Rel.put {x : Bx} {y : Rf} (h : Rel x y) (hy : y.ok) (r : R) : Rel ⟨x.base, x.list ++ [r], x.handed, x.done ++ [false], x.hearts, x.got⟩ ⟨y.first, y.came ++ [r], y.handed, y.done ++ [false], y.hearts, y.got⟩ := by
  have h1 := h.hle
  have h2 := hy.hd
  have h3 := hy.dn
  refine ⟨?_, ?_, ?_, ?_, ?_, fun j hj => h.dlt j (push_true.1 hj), h.got, h.h1, h.h2⟩
  · show x.base = y.first + lead (y.done ++ [false]); rw [lead_push]; exact h.base
  · show x.list ++ [r] = (y.came ++ [r]).drop (lead (y.done ++ [false])); rw [lead_push, List.drop_append_of_le_length (by omega), h.list]
  · show lead (y.done ++ [false]) ≤ y.handed; rw [lead_push]; exact h1
  · show x.handed = y.handed - lead (y.done ++ [false]); rw [lead_push]; exact h.hand
  · show x.done ++ [false] = (y.done ++ [false]).drop (lead (y.done ++ [false])); rw [lead_push, List.drop_append_of_le_length (by omega), h.done]
theorem Rel.next {x : Bx} {y : Rf} (h : Rel x y) : Rel ⟨x.base, x.list, x.handed + 1, x.done, x.hearts, x.got⟩ ⟨y.first, y.came, y.handed + 1, y.done, y.hearts, y.got⟩ :=
  ⟨h.base, h.list, Nat.le_succ_of_le h.hle, by have h1 := h.hle; have h2 := h.hand; show x.handed + 1 = y.handed + 1 - lead y.done; omega, h.done, fun j hj => Nat.lt_succ_of_lt (h.dlt j hj), h.got, h.h1, h.h2⟩
theorem set_drop (l : List Bool) (a k : Nat) : (l.drop a).set k true = (l.set (a + k) true).drop a := by
  apply List.ext_getElem?
  intro i
  rw [List.getElem?_drop, List.getElem?_set, List.getElem?_set, List.getElem?_drop, List.length_drop]
  by_cases e : k = i
  · subst e
    by_cases c : a + k < l.length
    · simp [c, show k < l.length - a from by omega]
    · simp [c, show ¬ k < l.length - a from by omega]
  · have e2 : ¬ a + k = a + i := by omega
    simp [e]
theorem Rel.taken {x : Bx} {y : Rf} (h : Rel x y) (hx : x.ok) (hy : y.ok) {k n : Nat} (hk : k < x.handed) (hf : x.done[k]? = some false) (hn : n ≤ x.handed) (ha : ∀ j, j < n → (x.done.set k true)[j]? = some true) (he : n = x.handed ∨ (x.done.set k true)[n]? = some false) :
    Rel (settleB (doneX x k n)) (rsettleX (rdoneX y (lead y.done + k))) := by
  have h1 := h.hle
  have h2 := h.hand
  have hsd : x.done.set k true = (y.done.set (lead y.done + k) true).drop (lead y.done) := by rw [h.done, set_drop]
  have hlead : lead (y.done.set (lead y.done + k) true) = lead y.done + n := by
    refine lead_is (fun j hj => ?_) (fun e => ?_)
    · rcases Nat.lt_or_ge j (lead y.done) with c | c
      · rw [List.getElem?_set, if_neg (by omega)]
        exact lead_lt _ _ c
      · have := ha (j - lead y.done) (by omega)
        rw [hsd, List.getElem?_drop, show lead y.done + (j - lead y.done) = j from by omega] at this
        exact this
    · rcases he with he | he
      · rw [List.getElem?_set, if_neg (by omega)] at e
        have := h.dlt _ e
        omega
      · rw [hsd, List.getElem?_drop, e] at he
        cases he
  refine Rel.settle ?_ hx.g0
  have hb := h.base
  refine ⟨?_, ?_, ?_, ?_, ?_, fun j hj => ?_, h.got, h.h1, h.h2⟩
  · show x.base + (n : Int) = y.first + (lead (y.done.set (lead y.done + k) true) : Int); rw [hlead]; omega
  · show x.list.drop n = y.came.drop (lead (y.done.set (lead y.done + k) true)); rw [hlead, h.list, List.drop_drop]
  · show lead (y.done.set (lead y.done + k) true) ≤ y.handed; rw [hlead]; omega
  · show x.handed - n = y.handed - lead (y.done.set (lead y.done + k) true); rw [hlead]; omega
  · show (x.done.set k true).drop n = (y.done.set (lead y.done + k) true).drop (lead (y.done.set (lead y.done + k) true)); rw [hlead, hsd, List.drop_drop]
  · have hj : (y.done.set (lead y.done + k) true)[j]? = some true := hj
    show j < y.handed
    rw [List.getElem?_set] at hj
    split at hj
    · omega
    · exact h.dlt j hj
theorem Rel.heart {x : Bx} {y : Rf} (h : Rel x y) (hx : x.ok) (t at' : Int) : Rel (heartB x t at') (rsettleX (rheardX y t at')) := by
  refine Rel.settle ⟨h.base, h.list, h.hle, h.hand, h.done, h.dlt, h.got, fun p hp => ?_, fun q hq => ?_⟩ hx.g0
  · show p.2 = 0 ∨ p ∈ y.hearts ++ [(at', t)]
    rcases List.mem_append.1 hp with e | e
    · exact (h.h1 p (mem_drop.1 e).1).imp id fun e => List.mem_append_left _ e
    · rw [List.mem_singleton] at e
      subst e
      show max (look x.hearts at') t = 0 ∨ (at', max (look x.hearts at') t) ∈ y.hearts ++ [(at', t)]
      rcases (by omega : max (look x.hearts at') t = look x.hearts at' ∨ max (look x.hearts at') t = t) with e | e
      · rw [e]
        cases hk : keyed x.hearts at'
        · exact .inl (look_none hk)
        · exact (h.h1 _ (look_mem hk)).imp id fun e => List.mem_append_left _ e
      · rw [e]; exact .inr (by simp)
  · show q.2 ≤ x.got ∨ q.2 ≤ look (heardH x.hearts t at') q.1
    rw [look_heard]
    rcases List.mem_append.1 hq with e | e
    · refine (h.h2 q e).imp id fun e => ?_
      split
      · rename_i c; rw [c] at e; omega
      · exact e
    · rw [List.mem_singleton] at e
      subst e
      rw [if_pos rfl]
      show t ≤ _ ∨ t ≤ _
      omega
theorem rsettle_ok {y : Rf} (h : y.ok) : (rsettleX y).ok := withGot_ok h (gotH_bd' h.g0 h.g1 h.hv).1 (gotH_bd' h.g0 h.g1 h.hv).2
theorem YF.put {y : Rf} {k : Nat} (h : YF y k) (hk : k ≤ 130) {r : R} (hr : r.vers.length ≤ 12) : YF ⟨y.first, y.came ++ [r], y.handed, y.done ++ [false], y.hearts, y.got⟩ (k + 1) := by
  have h1 := h.ok
  have h2 := h.c
  have h3 := h.h
  refine ⟨⟨h1.f0, h1.f1, ?_, ?_, ?_, ?_, h1.g0, h1.g1, h1.h1, h1.hv⟩, ?_, Nat.le_succ_of_le h3⟩
  · simp only [List.length_append, List.length_singleton]; omega
  · have := h1.hd; simp only [List.length_append, List.length_singleton]; omega
  · have := h1.dn; simp only [List.length_append, List.length_singleton]; omega
  · intro r' hr'
    rcases List.mem_append.1 hr' with e | e
    · exact h1.few r' e
    · rw [List.mem_singleton] at e; subst e; exact hr
  · simp only [List.length_append, List.length_singleton]; omega
theorem YF.next {y : Rf} {k : Nat} (h : YF y k) (hlt : y.handed < y.came.length) : YF ⟨y.first, y.came, y.handed + 1, y.done, y.hearts, y.got⟩ (k + 1) := by
  have h1 := h.ok
  exact ⟨⟨h1.f0, h1.f1, h1.l1, hlt, h1.dn, h1.few, h1.g0, h1.g1, h1.h1, h1.hv⟩, Nat.le_succ_of_le h.c, Nat.le_succ_of_le h.h⟩
theorem YF.done {y : Rf} {k : Nat} (h : YF y k) (j : Nat) : YF (rsettleX (rdoneX y j)) (k + 1) := ⟨rsettle_ok (rdone_ok h.ok j), Nat.le_succ_of_le h.c, Nat.le_succ_of_le h.h⟩
theorem YF.heart {y : Rf} {k : Nat} (h : YF y k) (hk : k ≤ 130) {t at' : Int} (ht : 0 ≤ t ∧ t ≤ 18446744073709551615) (ha : -9223372036854775808 ≤ at' ∧ at' ≤ 9223372036854775807) : YF (rsettleX (rheardX y t at')) (k + 1) :=
  ⟨rsettle_ok (rheard_ok h.ok (Nat.le_trans h.h hk) ht ha), Nat.le_succ_of_le h.c, by have := h.h; show (y.hearts ++ [(at', t)]).length ≤ _; simp; exact this⟩

/-- a call of the answer's box ends so. -/
def RStepIs (w : World) (B b : Nat) (vc vd vh : Value) (P : Ending → World → Rf → Prop) (e : Ending) (w' : World) : Prop :=
  ∃ vc' vd' vh' L' y', P e w' y' ∧ RfAt w' B b vc' vd' vh' L' y' ∧ Turns (rfS b vc vd vh) w w' ∧ ∀ g, g < w.heap.size → rfS b vc' vd' vh' g → rfS b vc vd vh g
theorem rput_plays (w w0 : World) (B b : Nat) (vc vd vh : Value) (L : List Q) (x x' : Bx) (y : Rf) (k : Nat) (h : RfAt w B b vc vd vh L y) (hr : Rel x y) (hx : x.ok) (hy : YF y k) (hk : k ≤ 130) (r : R) (D : Option Addr) (c : Nat) (at' : Int) (hlen : r.vers.length ≤ 12) (hD : Cells w D (flatV r.vers)) (hB : B ≤ w.heap.size) (er : Int) (hp : PutR x at' r (.returned (.int .i64 er)) w0 x') :
    Calls Try.prog 19 #[.pointer (some ⟨b, 0, none⟩), .int .i64 at', .agg #[.int .u64 r.ts, .int .i64 r.dc, .int .i64 r.tx, .slice D r.vers.length c]] w (RStepIs w B b vc vd vh fun e w' y' => e = .returned (.int .i64 er) ∧ Rel x' y' ∧ YF y' (k + 1)) := by
  have _u : x.ok ∧ k ≤ 130 ∧ YF y k := ⟨hx, hk, hy⟩
  have hl := hr.len hy.ok
  rcases hp with ⟨c1, e, ex⟩ | ⟨c1, e, ex⟩ | ⟨c1, e, ex⟩
  · rw [ex, e]
    exact (rput_old w B b vc vd vh L y h r D _ c at' (by omega) hy.ok).mono fun e w' ⟨he, hb⟩ => ⟨vc, vd, vh, L, y, ⟨he, hr, hy.more⟩, h.on hb, Turns.of_below hb, fun g _ e => e⟩
  · rw [ex, e]
    exact (rput_far w B b vc vd vh L y h r D _ c at' (by omega) hy.ok).mono fun e w' ⟨he, hb⟩ => ⟨vc, vd, vh, L, y, ⟨he, hr, hy.more⟩, h.on hb, Turns.of_below hb, fun g _ e => e⟩
  · rw [ex, e]
    exact (rput_ok w B b vc vd vh L y h r D c at' (by omega) hy.ok (by omega) hD hB).mono fun e w' ⟨vc', vd', q, he, hq, hR, ht, ho⟩ => ⟨vc', vd', vh, _, _, ⟨he, hr.put hy.ok r, hy.put hk hlen⟩, hR, ht, ho⟩
theorem rnext_stop (w : World) (B b : Nat) (vc vd vh : Value) (L : List Q) (x : Bx) (y : Rf) (k : Nat) (h : RfAt w B b vc vd vh L y) (hr : Rel x y) (hx : x.ok) (hy : YF y k) (hk : k ≤ 130) (hh : x.handed = x.list.length) : Calls Try.prog 20 #[.pointer (some ⟨b, 0, none⟩)] w (RStepIs w B b vc vd vh fun e w' y' => e = .returned (.tuple #[.int .i64 0, .agg #[.int .u64 0, .int .i64 0, .int .i64 0, .slice none 0 0], .bool false]) ∧ Rel x y' ∧ YF y' (k + 1)) := by
  have _u : x.ok ∧ k ≤ 130 ∧ YF y k := ⟨hx, hk, hy⟩
  have h1 := hr.hle
  have h2 := hr.hand
  have h3 := congrArg List.length hr.list
  rw [List.length_drop] at h3
  have h4 := hy.ok.hd
  exact (rnext_no w B b vc vd vh L y h (by omega)).mono fun e w' ⟨he, hb⟩ => ⟨vc, vd, vh, L, y, ⟨he, hr, hy.more⟩, h.on hb, Turns.of_below hb, fun g _ e => e⟩
theorem rpeek_stop (w : World) (B b : Nat) (vc vd vh : Value) (L : List Q) (x : Bx) (y : Rf) (k : Nat) (h : RfAt w B b vc vd vh L y) (hr : Rel x y) (hx : x.ok) (hy : YF y k) (hk : k ≤ 130) (hh : x.handed = x.list.length) : Calls Try.prog 24 #[.pointer (some ⟨b, 0, none⟩)] w fun e w' => e = .returned (.tuple #[.agg #[.int .u64 0, .int .i64 0, .int .i64 0, .slice none 0 0], .bool false]) ∧ Below w.heap.size w w' := by
  have _u : x.ok ∧ k ≤ 130 ∧ YF y k := ⟨hx, hk, hy⟩
  have h1 := hr.hle
  have h2 := hr.hand
  have h3 := congrArg List.length hr.list
  rw [List.length_drop] at h3
  have h4 := hy.ok.hd
  exact rpeek_no w B b vc vd vh L y h (by omega)
theorem rel_at (w : World) (B b : Nat) (vc vd vh : Value) (L : List Q) (x : Bx) (y : Rf) (k : Nat) (h : RfAt w B b vc vd vh L y) (hr : Rel x y) (hx : x.ok) (hy : YF y k) (hk : k ≤ 130) {r : R} (hh : x.list[x.handed]? = some r) : y.handed < y.came.length ∧ ∃ q, L[y.handed]? = some q ∧ q.r = r := by
  have _u : x.ok ∧ k ≤ 130 ∧ YF y k := ⟨hx, hk, hy⟩
  have h1 := hr.hle
  have h2 := hr.hand
  rw [hr.list, List.getElem?_drop, h2, show lead y.done + (y.handed - lead y.done) = y.handed from by omega] at hh
  refine ⟨(List.getElem?_eq_some_iff.1 hh).1, ?_⟩
  rw [← h.lr, List.getElem?_map, Option.map_eq_some_iff] at hh
  exact hh
theorem rnext_plays (w : World) (B b : Nat) (vc vd vh : Value) (L : List Q) (x : Bx) (y : Rf) (k : Nat) (h : RfAt w B b vc vd vh L y) (hr : Rel x y) (hx : x.ok) (hy : YF y k) (hk : k ≤ 130) (r : R) (hh : x.list[x.handed]? = some r) : Calls Try.prog 20 #[.pointer (some ⟨b, 0, none⟩)] w (RStepIs w B b vc vd vh fun e w' y' => (∃ D cp, e = .returned (.tuple #[.int .i64 (x.base + x.handed), .agg #[.int .u64 r.ts, .int .i64 r.dc, .int .i64 r.tx, .slice D r.vers.length cp], .bool true]) ∧ Cells w' D (flatV r.vers)) ∧ Rel ⟨x.base, x.list, x.handed + 1, x.done, x.hearts, x.got⟩ y' ∧ YF y' (k + 1)) := by
  have _u : x.ok ∧ k ≤ 130 ∧ YF y k := ⟨hx, hk, hy⟩
  obtain ⟨h1, q, hq, rfl⟩ := rel_at w B b vc vd vh L x y k h hr hx hy hk hh
  have h2 := hr.hle
  have h3 := hr.hand
  have h4 := hr.base
  exact (rnext_yes w B b vc vd vh L y h hy.ok q hq).mono fun e w' ⟨he, hR, ht⟩ => ⟨vc, vd, vh, L, _, ⟨⟨q.D, q.c, by rw [he, show y.first + (y.handed : Int) = x.base + (x.handed : Int) from by omega], (hR.rd q (List.mem_of_getElem? hq)).1⟩, hr.next, hy.next h1⟩, hR, ht.weaken fun j _ e => .inl e, fun g _ e => e⟩
theorem rpeek_plays (w : World) (B b : Nat) (vc vd vh : Value) (L : List Q) (x : Bx) (y : Rf) (k : Nat) (h : RfAt w B b vc vd vh L y) (hr : Rel x y) (hx : x.ok) (hy : YF y k) (hk : k ≤ 130) (r : R) (hh : x.list[x.handed]? = some r) : Calls Try.prog 24 #[.pointer (some ⟨b, 0, none⟩)] w fun e w' => (∃ D cp, e = .returned (.tuple #[.agg #[.int .u64 r.ts, .int .i64 r.dc, .int .i64 r.tx, .slice D r.vers.length cp], .bool true]) ∧ Cells w D (flatV r.vers)) ∧ Below w.heap.size w w' := by
  have _u : x.ok ∧ k ≤ 130 ∧ YF y k := ⟨hx, hk, hy⟩
  obtain ⟨h1, q, hq, rfl⟩ := rel_at w B b vc vd vh L x y k h hr hx hy hk hh
  have h2 := hy.ok.l1
  exact (rpeek_yes w B b vc vd vh L y h q hq (by omega)).mono fun e w' ⟨he, hb⟩ => ⟨⟨q.D, q.c, he, (h.rd q (List.mem_of_getElem? hq)).1⟩, hb⟩
theorem rdone_plays (w w0 : World) (B b : Nat) (vc vd vh : Value) (L : List Q) (x x' : Bx) (y : Rf) (k : Nat) (h : RfAt w B b vc vd vh L y) (hr : Rel x y) (hx : x.ok) (hy : YF y k) (hk : k ≤ 130) (at' : Int) (wa : at' ≤ 9223372036854775807) (er : Int) (hp : DoneR x at' (.returned (.int .i64 er)) w0 x') :
    Calls Try.prog 21 #[.pointer (some ⟨b, 0, none⟩), .int .i64 at'] w (RStepIs w B b vc vd vh fun e w' y' => e = .returned (.int .i64 er) ∧ Rel x' y' ∧ YF y' (k + 1)) := by
  have _u : x.ok ∧ k ≤ 130 ∧ YF y k := ⟨hx, hk, hy⟩
  have h1 := hr.hle
  have h2 := hr.hand
  have h3 := hr.base
  have keep : ∀ {P : Ending → World → Prop}, (∀ e w', P e w' → e = .returned (.int .i64 7) ∧ Below w.heap.size w w') → ∀ e w', P e w' → RStepIs w B b vc vd vh (fun e w' y' => e = .returned (.int .i64 7) ∧ Rel x y' ∧ YF y' (k + 1)) e w' :=
    fun hP e w' hp => ⟨vc, vd, vh, L, y, ⟨(hP e w' hp).1, hr, hy.more⟩, h.on (hP e w' hp).2, Turns.of_below (hP e w' hp).2, fun g _ e => e⟩
  rcases hp with ⟨hc, e, ex⟩ | ⟨j, n, rfl, hlt, hf, hn, ha, he, e, ex⟩
  · rw [ex, e]
    rcases (by omega : at' < y.first ∨ y.first ≤ at') with c1 | c1
    · exact (rc_low w B b vc vd vh L y at' h hy.ok c1).mono (keep fun e w' h => h)
    · obtain ⟨i, hi⟩ : ∃ i : Nat, at' = y.first + i := ⟨(at' - y.first).toNat, by omega⟩
      rcases Nat.lt_or_ge i y.handed with c2 | c2
      · refine (rc_was w B b vc vd vh L y at' h hy.ok i hi c2 ?_).mono (keep fun e w' h => h)
        rcases hc with hc | ⟨j, hj, hc | ⟨hc, hw⟩⟩
        · exact lead_lt _ _ (by omega)
        · omega
        · rw [hr.done, List.getElem?_drop, show lead y.done + j = i from by omega] at hw
          exact hw
      · exact (rc_far w B b vc vd vh L y at' h hy.ok i hi wa c2).mono (keep fun e w' h => h)
  · rw [ex, e]
    have hf' := hf
    rw [hr.done, List.getElem?_drop] at hf'
    exact (rc_ok w B b vc vd vh L y _ h hy.ok (lead y.done + j) (by omega) (by omega) hf').mono fun e w' ⟨e0, hR, ht⟩ => ⟨vc, vd, vh, L, _, ⟨e0, hr.taken hx hy.ok hlt hf hn ha he, hy.done _⟩, hR, ht, fun g _ e => e⟩
theorem rheard_plays (w : World) (B b : Nat) (vc vd vh : Value) (L : List Q) (x : Bx) (y : Rf) (k : Nat) (h : RfAt w B b vc vd vh L y) (hr : Rel x y) (hx : x.ok) (hy : YF y k) (hk : k ≤ 130) (t at' : Int) (ht : 0 ≤ t ∧ t ≤ 18446744073709551615) (ha : -9223372036854775808 ≤ at' ∧ at' ≤ 9223372036854775807) (hB : B ≤ w.heap.size) :
    Calls Try.prog 23 #[.pointer (some ⟨b, 0, none⟩), .int .u64 t, .int .i64 at'] w (RStepIs w B b vc vd vh fun e w' y' => e = .returned (.tuple #[]) ∧ Rel (heartB x t at') y' ∧ YF y' (k + 1)) :=
  (rheard_any w B b vc vd vh L y t at' h hy.ok (Nat.le_trans hy.h hk) ht ha hB).mono fun e w' ⟨vh', he, hR, hT, ho⟩ => ⟨vc, vd, vh', L, _, ⟨he, hr.heart hx t at', hy.heart hk ht ha⟩, hR, hT, ho⟩
theorem rapplied_plays (w : World) (B b : Nat) (vc vd vh : Value) (L : List Q) (x : Bx) (y : Rf) (k : Nat) (h : RfAt w B b vc vd vh L y) (hr : Rel x y) (hx : x.ok) (hy : YF y k) (hk : k ≤ 130) : Calls Try.prog 25 #[.pointer (some ⟨b, 0, none⟩)] w fun e w' => e = .returned (.int .i64 x.base) ∧ w = w' := by
  have _u : x.ok ∧ k ≤ 130 := ⟨hx, hk⟩
  rw [hr.base]
  exact rapplied_any w B b vc vd vh L y h hy.ok
end Go.Proofs.Ytneglecglkibfaa
