/-
  What a side of transactions computes, as plain functions of its clock and of what it has proposed; what holds of them. No program in sight; no condition.
-/
import Derived.Test.YtjnbdkkefdfiaaaMapO
import Derived.Test.YtjnbdkkefdfiaaaHlc
namespace Go.Proofs.Ytjnbdkkefdfiaaa
set_option linter.unusedVariables false

/-- the clock, and of each transaction that is prepared its stamp. -/
structure Side where
  clock : Int
  opens : List (Int × Int)
def MS : Int := 281474976710655
def badMs (ms : Int) : Prop := ms < 0 ∨ 281474976710655 < ms
instance (ms : Int) : Decidable (badMs ms) := inferInstanceAs (Decidable (_ ∨ _))
/-- what Prepare answers, and the side behind it. -/
def prepR (s : Side) (tx low ms : Int) : Int × Int := if keyed s.opens tx = true then (0, 8) else if (aft (max s.clock low) ms).2 = 0 then ((aft (max s.clock low) ms).1, 0) else (0, (aft (max s.clock low) ms).2)
def prepS (s : Side) (tx low ms : Int) : Side := if keyed s.opens tx = true then s else if (aft (max s.clock low) ms).2 = 0 then ⟨(aft (max s.clock low) ms).1, s.opens ++ [(tx, (aft (max s.clock low) ms).1)]⟩ else s
def commE (s : Side) (tx at' ms : Int) : Int := if badMs ms then 1 else if keyed s.opens tx = true then (if at' < look s.opens tx then 11 else 0) else 7
def commS (s : Side) (tx at' ms : Int) : Side := if commE s tx at' ms = 0 then ⟨(rai (max s.clock at') ms).1, drop s.opens tx⟩ else s
def seeS (s : Side) (t : Int) : Side := ⟨max s.clock t, s.opens⟩
/-- the least of a time and of what is below all that is prepared. -/
def leastTo (O : List (Int × Int)) (t : Int) : Int := O.foldl (fun t p => min t (p.2 - 1)) t
def stabR (s : Side) (ms : Int) : Int × Int := if badMs ms then (0, 1) else (leastTo s.opens (rai s.clock ms).1, 0)
def stabS (s : Side) (ms : Int) : Side := if badMs ms then s else ⟨(rai s.clock ms).1, s.opens⟩

theorem least_le (O : List (Int × Int)) (t : Int) : leastTo O t ≤ t ∧ ∀ p ∈ O, leastTo O t ≤ p.2 - 1 := by
  induction O generalizing t with
  | nil => exact ⟨Int.le_refl _, by simp⟩
  | cons q O ih =>
    obtain ⟨h1, h2⟩ := ih (min t (q.2 - 1))
    have e : leastTo (q :: O) t = leastTo O (min t (q.2 - 1)) := rfl
    rw [e]
    refine ⟨by omega, fun p hp => ?_⟩
    rcases List.mem_cons.1 hp with rfl | hp
    · omega
    · exact h2 p hp
theorem least_is (O : List (Int × Int)) (t : Int) : leastTo O t = t ∨ ∃ p ∈ O, leastTo O t = p.2 - 1 := by
  induction O generalizing t with
  | nil => exact .inl rfl
  | cons q O ih =>
    have e : leastTo (q :: O) t = leastTo O (min t (q.2 - 1)) := rfl
    rw [e]
    rcases ih (min t (q.2 - 1)) with h | ⟨p, hp, h⟩
    · rcases (by omega : min t (q.2 - 1) = t ∨ min t (q.2 - 1) = q.2 - 1) with c | c
      · exact .inl (h.trans c)
      · exact .inr ⟨q, by simp, h.trans c⟩
    · exact .inr ⟨p, by simp [hp], h⟩
theorem least_unique {O : List (Int × Int)} {t z : Int} (h1 : z ≤ t) (h2 : ∀ p ∈ O, z ≤ p.2 - 1) (h3 : z = t ∨ ∃ p ∈ O, z = p.2 - 1) : z = leastTo O t := by
  obtain ⟨a1, a2⟩ := least_le O t
  rcases h3 with rfl | ⟨p, hp, rfl⟩
  · rcases least_is O z with h | ⟨q, hq, h⟩
    · exact h.symm
    · have := h2 q hq; omega
  · have b1 := a2 p hp
    rcases least_is O t with h | ⟨q, hq, h⟩
    · omega
    · have := h2 q hq; omega
theorem leastTo_snoc (O : List (Int × Int)) (p : Int × Int) (t : Int) : leastTo (O ++ [p]) t = min (leastTo O t) (p.2 - 1) := by unfold leastTo; rw [List.foldl_append]; rfl

/-- the side's numbers are in their kinds; a stamp that is proposed is not above the clock. -/
structure Side.ok (s : Side) : Prop where
  c0 : 0 ≤ s.clock
  c1 : s.clock ≤ 18446744073709551615
  key : ∀ p ∈ s.opens, 0 ≤ p.1 ∧ p.1 ≤ 18446744073709551615
  low : ∀ p ∈ s.opens, 1 ≤ p.2 ∧ p.2 ≤ 18446744073709551615
  uniq : s.opens.Pairwise (fun p q => p.1 ≠ q.1)
theorem ok_new : (⟨0, []⟩ : Side).ok := ⟨by simp, by simp, by simp, by simp, List.Pairwise.nil⟩
theorem aft_ok {t ms : Int} (h0 : 0 ≤ t) (h1 : t ≤ 18446744073709551615) (h : (aft t ms).2 = 0) : t < (aft t ms).1 ∧ (aft t ms).1 ≤ 18446744073709551615 := by
  by_cases hb : ms < 0 ∨ 281474976710655 < ms
  · rw [aft_bad t ms hb] at h; simp at h
  · rcases aft_spec t ms h1 (by omega) (by omega) with ⟨e, c⟩ | ⟨e, c, d⟩ | ⟨e, c, d⟩
    · rw [e]; exact ⟨c, by show ms * 65536 ≤ _; omega⟩
    · rw [e] at h; simp at h
    · rw [e]; exact ⟨by show t < t + 1; omega, by show t + 1 ≤ _; omega⟩
theorem rai_ok {t ms : Int} (h0 : 0 ≤ t) (h1 : t ≤ 18446744073709551615) (h : ¬ badMs ms) : t ≤ (rai t ms).1 ∧ (rai t ms).1 ≤ 18446744073709551615 ∧ (rai t ms).2 = 0 ∧ ms * 65536 ≤ (rai t ms).1 := by
  unfold badMs at h
  unfold rai
  rw [if_neg h]
  exact ⟨by show t ≤ max t (ms * 65536); omega, by show max t (ms * 65536) ≤ _; omega, rfl, by show _ ≤ max t (ms * 65536); omega⟩
theorem prep_ok {s : Side} (h : s.ok) {tx low : Int} (ms : Int) (ht : 0 ≤ tx ∧ tx ≤ 18446744073709551615) (hl : 0 ≤ low ∧ low ≤ 18446744073709551615) : (prepS s tx low ms).ok := by
  unfold prepS
  split
  · exact h
  · next hk =>
    split
    · next he =>
      have := h.c0; have := h.c1
      obtain ⟨a, b⟩ := aft_ok (by omega) (by omega) he
      refine ⟨by show 0 ≤ (aft _ _).1; omega, b, fun p hp => ?_, fun p hp => ?_, ?_⟩
      · rcases List.mem_append.1 hp with hp | hp
        · exact h.key p hp
        · rw [List.mem_singleton] at hp; subst hp; exact ht
      · rcases List.mem_append.1 hp with hp | hp
        · exact h.low p hp
        · rw [List.mem_singleton] at hp; subst hp; exact ⟨by show 1 ≤ (aft _ _).1; omega, b⟩
      · rw [List.pairwise_append]
        refine ⟨h.uniq, by simp, fun p hp q hq => ?_⟩
        rw [List.mem_singleton] at hq
        subst hq
        intro e
        exact hk (List.any_eq_true.2 ⟨p, hp, by simpa using e⟩)
    · exact h
theorem comm_ok {s : Side} (h : s.ok) {tx at' : Int} (ms : Int) (ha : 0 ≤ at' ∧ at' ≤ 18446744073709551615) : (commS s tx at' ms).ok := by
  unfold commS
  split
  · next he =>
    have hb : ¬ badMs ms := by
      intro hb
      unfold commE at he
      rw [if_pos hb] at he
      cases he
    have := h.c0; have := h.c1
    obtain ⟨a, b, c, d⟩ := rai_ok (t := max s.clock at') (by omega) (by omega) hb
    exact ⟨by show 0 ≤ (rai _ _).1; omega, b, fun p hp => h.key p (mem_drop.1 hp).1, fun p hp => h.low p (mem_drop.1 hp).1, drop_uniq h.uniq _⟩
  · exact h
theorem see_ok {s : Side} (h : s.ok) {t : Int} (ha : 0 ≤ t ∧ t ≤ 18446744073709551615) : (seeS s t).ok := by
  have := h.c0; have := h.c1
  exact ⟨by show 0 ≤ max s.clock t; omega, by show max s.clock t ≤ _; omega, h.key, h.low, h.uniq⟩
theorem stab_ok {s : Side} (h : s.ok) (ms : Int) : (stabS s ms).ok := by
  unfold stabS
  split
  · exact h
  · next hb =>
    have := h.c0; have := h.c1
    obtain ⟨a, b, c, d⟩ := rai_ok (t := s.clock) (by omega) (by omega) hb
    exact ⟨by show 0 ≤ (rai _ _).1; omega, b, h.key, h.low, h.uniq⟩

/-- whatever was called stable is not above the clock, and below all that is prepared. -/
def Safe (s : Side) (st : Int) : Prop := st ≤ s.clock ∧ ∀ p ∈ s.opens, st < p.2
theorem safe_prep {s : Side} {st tx low ms : Int} (h : s.ok) (hs : Safe s st) (hl : 0 ≤ low ∧ low ≤ 18446744073709551615) : Safe (prepS s tx low ms) st ∧ ((prepR s tx low ms).2 = 0 → st < (prepR s tx low ms).1 ∧ low < (prepR s tx low ms).1) := by
  unfold prepS prepR
  split
  · exact ⟨hs, fun h => by cases h⟩
  · split
    · next he =>
      have := h.c0; have := h.c1; have := hs.1
      obtain ⟨a, b⟩ := aft_ok (by omega) (by omega) he
      refine ⟨⟨by show st ≤ (aft _ _).1; omega, fun p hp => ?_⟩, fun _ => ⟨by show st < (aft _ _).1; omega, by show low < (aft _ _).1; omega⟩⟩
      rcases List.mem_append.1 hp with hp | hp
      · exact hs.2 p hp
      · rw [List.mem_singleton] at hp; subst hp; show st < (aft _ _).1; omega
    · next he => exact ⟨hs, fun h => absurd h he⟩
theorem comm_zero {s : Side} {tx at' ms : Int} (h : commE s tx at' ms = 0) : ¬ badMs ms ∧ keyed s.opens tx = true ∧ look s.opens tx ≤ at' := by
  unfold commE at h
  split at h
  · cases h
  · next hb =>
    split at h
    · next hk =>
      split at h
      · cases h
      · exact ⟨hb, hk, by omega⟩
    · cases h
theorem safe_comm {s : Side} {st tx at' ms : Int} (h : s.ok) (hs : Safe s st) (ha : 0 ≤ at' ∧ at' ≤ 18446744073709551615) : Safe (commS s tx at' ms) st ∧ (commE s tx at' ms = 0 → st < at') := by
  constructor
  · unfold commS
    split
    · next he =>
      obtain ⟨hb, hk, hl⟩ := comm_zero he
      have := h.c0; have := h.c1; have := hs.1
      obtain ⟨a, b, c, d⟩ := rai_ok (t := max s.clock at') (by omega) (by omega) hb
      exact ⟨by show st ≤ (rai _ _).1; omega, fun p hp => hs.2 p (mem_drop.1 hp).1⟩
    · exact hs
  · intro he
    obtain ⟨hb, hk, hl⟩ := comm_zero he
    have := hs.2 _ (look_mem hk)
    simp only at this
    omega
theorem safe_see {s : Side} {st t : Int} (hs : Safe s st) : Safe (seeS s t) st := ⟨by have := hs.1; show st ≤ max s.clock t; omega, hs.2⟩
theorem safe_stab {s : Side} {st ms : Int} (h : s.ok) (hs : Safe s st) (hb : ¬ badMs ms) : st ≤ (stabR s ms).1 ∧ Safe (stabS s ms) (stabR s ms).1 := by
  unfold stabR stabS
  rw [if_neg hb, if_neg hb]
  have := h.c0; have := h.c1; have := hs.1
  obtain ⟨a, b, c, d⟩ := rai_ok (t := s.clock) (by omega) (by omega) hb
  obtain ⟨l1, l2⟩ := least_le s.opens (rai s.clock ms).1
  refine ⟨?_, l1, fun p hp => by have := l2 p hp; show leastTo _ _ < _; omega⟩
  rcases least_is s.opens (rai s.clock ms).1 with e | ⟨p, hp, e⟩
  · show st ≤ leastTo _ _; omega
  · have := hs.2 p hp; show st ≤ leastTo _ _; omega
/-- the clock never falls. -/
theorem clock_prep {s : Side} {tx low ms : Int} (h : s.ok) (hl : 0 ≤ low ∧ low ≤ 18446744073709551615) : s.clock ≤ (prepS s tx low ms).clock ∧ ((prepR s tx low ms).2 = 0 → s.clock < (prepR s tx low ms).1 ∧ (prepS s tx low ms).clock = (prepR s tx low ms).1) := by
  unfold prepS prepR
  split
  · exact ⟨Int.le_refl _, fun h => by cases h⟩
  · split
    · next he =>
      have := h.c0; have := h.c1
      obtain ⟨a, b⟩ := aft_ok (by omega) (by omega) he
      exact ⟨by show s.clock ≤ (aft _ _).1; omega, fun _ => ⟨by show s.clock < (aft _ _).1; omega, rfl⟩⟩
    · next he => exact ⟨Int.le_refl _, fun h => absurd h he⟩
theorem clock_comm {s : Side} {tx at' ms : Int} (h : s.ok) (ha : 0 ≤ at' ∧ at' ≤ 18446744073709551615) : s.clock ≤ (commS s tx at' ms).clock := by
  unfold commS
  split
  · next he =>
    obtain ⟨hb, hk, hl⟩ := comm_zero he
    have := h.c0; have := h.c1
    obtain ⟨a, b, c, d⟩ := rai_ok (t := max s.clock at') (by omega) (by omega) hb
    show s.clock ≤ (rai _ _).1
    omega
  · exact Int.le_refl _
theorem clock_stab {s : Side} {ms : Int} (h : s.ok) : s.clock ≤ (stabS s ms).clock := by
  unfold stabS
  split
  · exact Int.le_refl _
  · next hb =>
    have := h.c0; have := h.c1
    exact (rai_ok (t := s.clock) (by omega) (by omega) hb).1
theorem prep_len (s : Side) (tx low ms : Int) : (prepS s tx low ms).opens.length ≤ s.opens.length + 1 := by unfold prepS; split; omega; split; simp; omega
theorem comm_len (s : Side) (tx at' ms : Int) : (commS s tx at' ms).opens.length ≤ s.opens.length := by
  unfold commS
  split
  · exact List.length_filter_le _ _
  · exact Nat.le_refl _
theorem stab_len (s : Side) (ms : Int) : (stabS s ms).opens.length = s.opens.length := by unfold stabS; split <;> rfl
end Go.Proofs.Ytjnbdkkefdfiaaa
