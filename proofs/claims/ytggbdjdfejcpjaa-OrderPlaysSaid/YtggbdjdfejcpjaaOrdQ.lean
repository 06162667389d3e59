/-
  A log keeps its commits in the order of their marks. Conditions: none of the program.
-/
import Derived.Test.YtggbdjdfejcpjaaAwakeO
namespace Go.Proofs.Ytggbdjdfejcpjaa
open Go.RowKit
set_option linter.unusedVariables false

def rlt (a b : R) : Prop := klt a.k b.k = true
theorem klt_total {a b : K} (h : a ≠ b) (hn : klt a b = false) : klt b a = true := by
  unfold klt mlt at *
  simp only [decide_eq_true_eq, decide_eq_false_iff_not] at *
  obtain ⟨a1, a2, a3⟩ := a
  obtain ⟨b1, b2, b3⟩ := b
  simp only [ne_eq, K.mk.injEq, not_and] at h hn ⊢
  omega
theorem rlt_trans {a b c : R} (h : rlt a b) (k : rlt b c) : rlt a c := klt_trans h k
theorem rlt_of_ts {a b : R} {t : Int} (h1 : a.ts ≤ t) (h2 : t < b.ts) : rlt a b := by
  unfold rlt klt mlt
  simp only [decide_eq_true_eq]
  exact .inl (by show a.ts < b.ts; omega)
theorem atTo_spec (l : List R) (r : R) : ∀ k, k ≤ l.length → (atTo l r k = 0 ∨ ∃ x, l[atTo l r k - 1]? = some x ∧ rlt x r) ∧ ∀ j y, atTo l r k ≤ j → j < k → l[j]? = some y → klt y.k r.k = false := by
  intro k
  induction k with
  | zero => exact fun _ => ⟨.inl rfl, fun j y _ h => by omega⟩
  | succ k ih =>
    intro hk
    obtain ⟨h1, h2⟩ := ih (by omega)
    have hx := List.getElem?_eq_getElem (l := l) (i := k) (by omega)
    cases hc : klt l[k].k r.k with
    | true =>
      rw [atTo_yes hx hc]
      exact ⟨.inr ⟨_, hx, hc⟩, fun j y hj hj2 => by omega⟩
    | false =>
      rw [atTo_no hx hc]
      refine ⟨h1, fun j y hj hj2 hy => ?_⟩
      rcases (by omega : j < k ∨ j = k) with c | rfl
      · exact h2 j y hj c hy
      · rw [hx] at hy
        cases hy
        exact hc
theorem mem_putW {l : List R} {r a : R} : a ∈ putW l r ↔ a ∈ l ∨ a = r := by
  unfold putW
  rw [List.mem_append, List.mem_append, List.mem_singleton]
  have : a ∈ l ↔ a ∈ l.take (atTo l r l.length) ∨ a ∈ l.drop (atTo l r l.length) := by
    rw [← List.mem_append, List.take_append_drop]
  rw [this]
  constructor
  · rintro ((h | h) | h)
    · exact .inl (.inl h)
    · exact .inr h
    · exact .inl (.inr h)
  · rintro ((h | h) | h)
    · exact .inl (.inl h)
    · exact .inr h
    · exact .inl (.inr h)
theorem putW_len (l : List R) (r : R) : (putW l r).length = l.length + 1 := by
  have := atTo_le l r l.length
  unfold putW
  rw [List.length_append, List.length_append, List.length_take, List.length_drop, List.length_singleton]
  omega
theorem putW_perm (l : List R) (r : R) : (putW l r).Perm (l ++ [r]) := by
  unfold putW
  rw [List.append_assoc]
  have h1 : (l.take (atTo l r l.length) ++ ([r] ++ l.drop (atTo l r l.length))).Perm (l.take (atTo l r l.length) ++ (l.drop (atTo l r l.length) ++ [r])) := List.Perm.append_left _ List.perm_append_comm
  rwa [← List.append_assoc (l.take _) (l.drop _) [r], List.take_append_drop] at h1
theorem putW_rising {l : List R} {r : R} (h : l.Pairwise rlt) (hn : ∀ a ∈ l, a.k ≠ r.k) : (putW l r).Pairwise rlt := by
  obtain ⟨h1, h2⟩ := atTo_spec l r l.length (Nat.le_refl _)
  have hle := atTo_le l r l.length
  unfold putW
  obtain ⟨p, hp⟩ : ∃ p, atTo l r l.length = p := ⟨_, rfl⟩
  rw [hp] at h1 h2 hle ⊢
  have lo : ∀ a ∈ l.take p, rlt a r := by
    intro a ha
    obtain ⟨j, hj⟩ := List.mem_iff_getElem?.1 ha
    have hjp : j < p := by
      rcases Nat.lt_or_ge j p with c | c
      · exact c
      · rw [List.getElem?_eq_none (by rw [List.length_take]; omega)] at hj; cases hj
    rw [List.getElem?_take_of_lt hjp] at hj
    rcases h1 with h1 | ⟨x, hx, hxr⟩
    · omega
    · rcases (by omega : j = p - 1 ∨ j < p - 1) with c | c
      · subst c
        rw [hx] at hj
        cases hj
        exact hxr
      · obtain ⟨hj1, hj2⟩ := List.getElem?_eq_some_iff.1 hj
        obtain ⟨hx1, hx2⟩ := List.getElem?_eq_some_iff.1 hx
        have := List.pairwise_iff_getElem.1 h j (p - 1) hj1 hx1 c
        rw [hj2, hx2] at this
        exact rlt_trans this hxr
  have hi : ∀ a ∈ l.drop p, rlt r a := by
    intro a ha
    obtain ⟨j, hj⟩ := List.mem_iff_getElem?.1 ha
    rw [List.getElem?_drop] at hj
    have hjl := (List.getElem?_eq_some_iff.1 hj).1
    exact klt_total (hn a (List.mem_of_mem_drop ha)) (h2 (p + j) a (by omega) hjl hj)
  have hpw := h
  rw [← List.take_append_drop p l, List.pairwise_append] at hpw
  rw [List.append_assoc, List.pairwise_append]
  refine ⟨hpw.1, ?_, fun a ha b hb => ?_⟩
  · rw [List.singleton_append, List.pairwise_cons]
    exact ⟨hi, hpw.2.1⟩
  · rw [List.singleton_append] at hb
    rcases List.mem_cons.1 hb with rfl | hb
    · exact lo a ha
    · exact hpw.2.2 a ha b hb
/-- what a log keeps. -/
structure OrdI (x : Lg) : Prop where
  up : (x.list ++ x.wait).Pairwise rlt
  lo : ∀ r ∈ x.list, r.ts ≤ x.bound
  hi : ∀ r ∈ x.wait, x.bound < r.ts
structure LFine (x : Lg) (k : Nat) : Prop where
  ok : x.ok
  n : x.list.length + x.wait.length ≤ k
theorem OrdI.new : OrdI lg0 := ⟨List.Pairwise.nil, by simp [lg0], by simp [lg0]⟩
theorem LFine.new : LFine lg0 0 := ⟨lg0_ok, Nat.le_refl _⟩
theorem LFine.more {x : Lg} {k : Nat} (h : LFine x k) : LFine x (k + 1) := ⟨h.ok, Nat.le_succ_of_le h.n⟩
theorem OrdI.dec {x x' : Lg} {r : R} {e : Ending} {w' : World} (h : OrdI x) (hp : DecR x r e w' x') : OrdI x' ∧ x'.list = x.list := by
  rcases hp with ⟨_, _, rfl⟩ | ⟨_, _, _, rfl⟩ | ⟨hb, hn, _, rfl⟩
  · exact ⟨h, rfl⟩
  · exact ⟨h, rfl⟩
  · have hu := List.pairwise_append.1 h.up
    refine ⟨⟨?_, h.lo, fun a ha => ?_⟩, rfl⟩
    · show (x.list ++ putW x.wait r).Pairwise rlt
      rw [List.pairwise_append]
      refine ⟨hu.1, putW_rising hu.2.1 hn, fun a ha b hb' => ?_⟩
      rcases mem_putW.1 hb' with e | rfl
      · exact hu.2.2 a ha b e
      · exact rlt_of_ts (h.lo a ha) hb
    · rcases mem_putW.1 ha with e | rfl
      · exact h.hi a e
      · exact hb
theorem LFine.dec {x x' : Lg} {r : R} {k : Nat} {e : Ending} {w' : World} (h : LFine x k) (hk : k ≤ 190) (hr : r.vers.length ≤ 12) (ht : r.ts ≤ 18446744073709551615) (hp : DecR x r e w' x') : LFine x' (k + 1) := by
  rcases hp with ⟨_, _, rfl⟩ | ⟨_, _, _, rfl⟩ | ⟨hb, hn, _, rfl⟩
  · exact h.more
  · exact h.more
  · have h1 := h.ok
    have h2 := h.n
    have h3 := putW_len x.wait r
    refine ⟨⟨?_, ?_, h1.b0, h1.b1⟩, ?_⟩
    · show x.list.length + (putW x.wait r).length ≤ 200; omega
    · intro a ha
      rcases ha with e | e
      · exact h1.few a (.inl e)
      · rcases mem_putW.1 e with e | rfl
        · exact h1.few a (.inr e)
        · exact hr
    · show x.list.length + (putW x.wait r).length ≤ k + 1; omega
theorem relN_below {t : Int} : ∀ {l : List R} {a : R}, a ∈ l.take (relN t l) → a.ts ≤ t := fun {l a} ha => by
  obtain ⟨j, hj⟩ := List.mem_iff_getElem?.1 ha
  have hjp : j < relN t l := by
    rcases Nat.lt_or_ge j (relN t l) with c | c
    · exact c
    · rw [List.getElem?_eq_none (by rw [List.length_take]; omega)] at hj; cases hj
  rw [List.getElem?_take_of_lt hjp] at hj
  obtain ⟨r, hr, hle⟩ := relN_lt t l j hjp
  rw [hr] at hj
  cases hj
  exact hle
theorem relN_above {t : Int} {l : List R} (h : l.Pairwise rlt) {a : R} (ha : a ∈ l.drop (relN t l)) : t < a.ts := by
  obtain ⟨j, hj⟩ := List.mem_iff_getElem?.1 ha
  rw [List.getElem?_drop] at hj
  obtain ⟨hjl, hja⟩ := List.getElem?_eq_some_iff.1 hj
  rcases relN_end t l with e | ⟨r, hr, ht⟩
  · omega
  · rcases (by omega : j = 0 ∨ 0 < j) with rfl | c
    · rw [Nat.add_zero] at hj
      rw [hr] at hj
      cases hj
      exact ht
    · obtain ⟨hr1, hr2⟩ := List.getElem?_eq_some_iff.1 hr
      have := List.pairwise_iff_getElem.1 h (relN t l) (relN t l + j) hr1 hjl (by omega)
      rw [hr2, hja] at this
      unfold rlt klt mlt at this
      simp only [decide_eq_true_eq] at this
      have h5 : r.k.ts = r.ts := rfl
      have h6 : a.k.ts = a.ts := rfl
      omega
theorem OrdI.rel {x : Lg} (h : OrdI x) (t : Int) : OrdI (relX x t) := by
  have hu := List.pairwise_append.1 h.up
  refine ⟨?_, fun a ha => ?_, fun a ha => ?_⟩
  · show ((x.list ++ x.wait.take _) ++ x.wait.drop _).Pairwise rlt
    rw [List.append_assoc, List.take_append_drop]
    exact h.up
  · rcases List.mem_append.1 ha with e | e
    · have := h.lo a e
      show a.ts ≤ max x.bound t
      omega
    · exact relN_below e
  · exact relN_above hu.2.1 ha
theorem LFine.rel {x : Lg} {k : Nat} (h : LFine x k) {t : Int} (ht : 0 ≤ t ∧ t ≤ 18446744073709551615) : LFine (relX x t) (k + 1) := by
  have h1 := h.ok
  have h2 := h.n
  have h3 := relN_le (max x.bound t) x.wait
  have e1 : (relX x t).list.length = x.list.length + relN (max x.bound t) x.wait := by show (x.list ++ x.wait.take _).length = _; rw [List.length_append, List.length_take]; omega
  have e2 : (relX x t).wait.length = x.wait.length - relN (max x.bound t) x.wait := List.length_drop ..
  refine ⟨⟨?_, fun r hr => ?_, ?_, ?_⟩, ?_⟩
  · have := h1.l1; omega
  · refine h1.few r ?_
    rcases hr with e | e
    · exact (List.mem_append.1 e).imp id List.mem_of_mem_take
    · exact .inr (List.mem_of_mem_drop e)
  · have := h1.b0; show 0 ≤ max x.bound t; omega
  · have := h1.b1; show max x.bound t ≤ _; omega
  · omega
theorem relX_prefix (x : Lg) (t : Int) : x.list <+: (relX x t).list := ⟨_, rfl⟩
end Go.Proofs.Ytggbdjdfejcpjaa
