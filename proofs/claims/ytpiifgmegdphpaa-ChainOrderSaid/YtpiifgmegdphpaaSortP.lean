/-
  Chains as plain data: rising marks, what is seen, what a trim leaves. No program in sight; no condition.
-/
import Derived.Test.YtpiifgmegdphpaaPutP
namespace Go.Proofs.Ytpiifgmegdphpaa

/-- the marks rise. -/
def Rising (l : List V) : Prop := l.Pairwise fun x y => vlt x y = true
theorem rising_same {l : List V} (h : Rising l) {x y : V} (hx : x ∈ l) (hy : y ∈ l) (h1 : vlt x y = false) (h2 : vlt y x = false) : x = y := by
  induction l with
  | nil => simp at hx
  | cons z l ih =>
    unfold Rising at h
    rw [List.pairwise_cons] at h
    rcases List.mem_cons.1 hx with hx' | hx'
    · rcases List.mem_cons.1 hy with hy' | hy'
      · rw [hx', hy']
      · have := h.1 y hy'; rw [← hx', h1] at this; cases this
    · rcases List.mem_cons.1 hy with hy' | hy'
      · have := h.1 x hx'; rw [← hy', h2] at this; cases this
      · exact ih h.2 hx' hy'
theorem mem_ins (l : List V) (v x : V) : x ∈ ins l v ↔ x = v ∨ x ∈ l := by
  induction l with
  | nil => simp [ins]
  | cons y l ih =>
    unfold ins
    split
    · simp
    · rw [List.mem_cons, ih, List.mem_cons]
      constructor
      · rintro (h | h | h)
        · exact .inr (.inl h)
        · exact .inl h
        · exact .inr (.inr h)
      · rintro (h | h | h)
        · exact .inr (.inl h)
        · exact .inl h
        · exact .inr (.inr h)
theorem rising_ins {l : List V} {v : V} (h : Rising l) (hf : free l v = true) : Rising (ins l v) := by
  induction l with
  | nil => exact List.pairwise_singleton _ _
  | cons y l ih =>
    unfold Rising at h
    rw [List.pairwise_cons] at h
    unfold free at hf
    simp only [List.all_cons, Bool.and_eq_true] at hf
    unfold ins
    split
    · next hy =>
      refine List.pairwise_cons.2 ⟨fun z hz => ?_, List.pairwise_cons.2 h⟩
      rcases List.mem_cons.1 hz with rfl | hz
      · exact hy
      · exact vlt_trans hy (h.1 z hz)
    · next hy =>
      have hyv : vlt y v = true := by
        have h1 := hf.1
        have hy' : vlt v y = false := by simpa using hy
        unfold vsame at h1
        rw [hy'] at h1
        simpa using h1
      refine List.pairwise_cons.2 ⟨fun z hz => ?_, ih h.2 hf.2⟩
      rcases (mem_ins l v z).1 hz with rfl | hz
      · exact hyv
      · exact h.1 z hz
/-- of a list's first k, put one behind the other: of each mark the first. -/
def ofTo (l : List V) : Nat → List V
  | 0 => []
  | k + 1 => match l[k]? with
    | none => ofTo l k
    | some x => if free (ofTo l k) x = true then ins (ofTo l k) x else ofTo l k
theorem ofTo_yes {l : List V} {k : Nat} {x : V} (hx : l[k]? = some x) (h : free (ofTo l k) x = true) : ofTo l (k + 1) = ins (ofTo l k) x := by
  show (match l[k]? with | none => _ | some x => _) = _
  rw [hx]; simp only; rw [if_pos h]
theorem ofTo_no {l : List V} {k : Nat} {x : V} (hx : l[k]? = some x) (h : free (ofTo l k) x = false) : ofTo l (k + 1) = ofTo l k := by
  show (match l[k]? with | none => _ | some x => _) = _
  rw [hx]; simp only; rw [if_neg (by rw [h]; simp)]
theorem ofTo_len (l : List V) : ∀ k, (ofTo l k).length ≤ k := by
  intro k
  induction k with
  | zero => exact Nat.le_refl _
  | succ k ih =>
    cases hx : l[k]? with
    | none => have : ofTo l (k + 1) = ofTo l k := by show (match l[k]? with | none => _ | some x => _) = _; rw [hx]
              rw [this]; omega
    | some x =>
      cases hf : free (ofTo l k) x
      · rw [ofTo_no hx hf]; omega
      · rw [ofTo_yes hx hf, ins_len]; omega
theorem ofTo_rising (l : List V) : ∀ k, Rising (ofTo l k) := by
  intro k
  induction k with
  | zero => exact List.Pairwise.nil
  | succ k ih =>
    cases hx : l[k]? with
    | none => have : ofTo l (k + 1) = ofTo l k := by show (match l[k]? with | none => _ | some x => _) = _; rw [hx]
              rw [this]; exact ih
    | some x =>
      cases hf : free (ofTo l k) x
      · rw [ofTo_no hx hf]; exact ih
      · rw [ofTo_yes hx hf]; exact rising_ins ih hf
def ofV (l : List V) : List V := ofTo l (min l.length 40)
theorem putE_bad {l : List V} {v : V} (h : free l v = false) : putE l v = 8 ∨ putE l v = 3 := by
  unfold putE
  cases hc : clash l v with
  | none =>
    exfalso
    unfold clash at hc
    rw [List.find?_eq_none] at hc
    have : free l v = true := List.all_eq_true.2 fun x hx => by simpa using hc x hx
    rw [h] at this
    cases this
  | some x => simp only; split <;> simp
theorem putE_ok {l : List V} {v : V} (h : free l v = true) : putE l v = 0 := by unfold putE; rw [clash_none h]

/-- what is seen is the greatest of those that are not later. -/
theorem seen_max (l : List V) (s : Int) : ∀ k, (∀ b y, seen l s k = some b → l[b]? = some y → y.ts ≤ s ∧ ∀ j x, j < k → l[j]? = some x → x.ts ≤ s → vlt y x = false) ∧ (seen l s k = none → ∀ j x, j < k → l[j]? = some x → s < x.ts) := by
  intro k
  induction k with
  | zero => exact ⟨fun b y h => by simp [seen] at h, fun _ j x hj => by omega⟩
  | succ k ih =>
    cases hx : l[k]? with
    | none =>
      have e : seen l s (k + 1) = seen l s k := by show seenStep l s _ k = _; unfold seenStep; rw [hx]
      rw [e]
      refine ⟨fun b y hb hy => ⟨(ih.1 b y hb hy).1, fun j x hj hjx => ?_⟩, fun hb j x hj hjx => ?_⟩
      · rcases Nat.lt_or_ge j k with c | c
        · exact (ih.1 b y hb hy).2 j x c hjx
        · obtain rfl : j = k := by omega
          rw [hx] at hjx; cases hjx
      · rcases Nat.lt_or_ge j k with c | c
        · exact ih.2 hb j x c hjx
        · obtain rfl : j = k := by omega
          rw [hx] at hjx; cases hjx
    | some x =>
      rcases Int.lt_or_le s x.ts with c | c
      · rw [seen_late hx c]
        refine ⟨fun b y hb hy => ⟨(ih.1 b y hb hy).1, fun j z hj hjz hz => ?_⟩, fun hb j z hj hjz => ?_⟩
        · rcases Nat.lt_or_ge j k with c' | c'
          · exact (ih.1 b y hb hy).2 j z c' hjz hz
          · obtain rfl : j = k := by omega
            rw [hx] at hjz; injection hjz with e; subst e; omega
        · rcases Nat.lt_or_ge j k with c' | c'
          · exact ih.2 hb j z c' hjz
          · obtain rfl : j = k := by omega
            rw [hx] at hjz; injection hjz with e; subst e; exact c
      · cases hs : seen l s k with
        | none =>
          rw [seen_first hx c hs]
          refine ⟨fun b y hb hy => ?_, fun h => by cases h⟩
          injection hb with hb; subst hb
          rw [hx] at hy; injection hy with hy; subst hy
          refine ⟨c, fun j z hj hjz hz => ?_⟩
          rcases Nat.lt_or_ge j k with c' | c'
          · have := ih.2 hs j z c' hjz; omega
          · obtain rfl : j = k := by omega
            rw [hx] at hjz; injection hjz with e; subst e; exact vlt_irrefl _
        | some b =>
          obtain ⟨_, y, hy, _⟩ := seen_lt l s k b hs
          obtain ⟨h1, h2⟩ := ih.1 b y hs hy
          cases hv : vlt y x
          · rw [seen_keep hx c hs hy hv]
            refine ⟨fun b' y' hb hy' => ?_, fun h => by cases h⟩
            injection hb with hb; subst hb
            rw [hy] at hy'; injection hy' with e; subst e
            refine ⟨h1, fun j z hj hjz hz => ?_⟩
            rcases Nat.lt_or_ge j k with c' | c'
            · exact h2 j z c' hjz hz
            · obtain rfl : j = k := by omega
              rw [hx] at hjz; injection hjz with e; subst e; exact hv
          · rw [seen_next hx c hs hy hv]
            refine ⟨fun b' y' hb hy' => ?_, fun h => by cases h⟩
            injection hb with hb; subst hb
            rw [hx] at hy'; injection hy' with e; subst e
            refine ⟨c, fun j z hj hjz hz => ?_⟩
            rcases Nat.lt_or_ge j k with c' | c'
            · cases hxz : vlt x z
              · rfl
              · have := h2 j z c' hjz hz
                rw [vlt_trans hv hxz] at this
                cases this
            · obtain rfl : j = k := by omega
              rw [hx] at hjz; injection hjz with e; subst e; exact vlt_irrefl _

/-- y is what is seen of l at s. -/
def Sees (l : List V) (s : Int) (y : V) : Prop := y ∈ l ∧ y.ts ≤ s ∧ ∀ x ∈ l, x.ts ≤ s → vlt y x = false
theorem sees_of {l : List V} {s : Int} {b : Nat} {y : V} (h : seen l s l.length = some b) (hy : l[b]? = some y) : Sees l s y := by
  obtain ⟨h1, h2⟩ := (seen_max l s l.length).1 b y h hy
  refine ⟨List.mem_of_getElem? hy, h1, fun x hx hs => ?_⟩
  obtain ⟨j, hj⟩ := List.mem_iff_getElem?.1 hx
  exact h2 j x (List.getElem?_eq_some_iff.1 hj).1 hj hs
theorem none_of_seen {l : List V} {s : Int} (h : seen l s l.length = none) : ∀ x ∈ l, s < x.ts := by
  intro x hx
  obtain ⟨j, hj⟩ := List.mem_iff_getElem?.1 hx
  exact (seen_max l s l.length).2 h j x (List.getElem?_eq_some_iff.1 hj).1 hj
theorem sees_unique {l : List V} (h : Rising l) {s : Int} {x y : V} (hx : Sees l s x) (hy : Sees l s y) : x = y :=
  rising_same h hx.1 hy.1 (hx.2.2 y hy.1 hy.2.1) (hy.2.2 x hx.1 hx.2.1)
/-- what is seen, found again. -/
theorem seen_of_sees {l : List V} (h : Rising l) {s : Int} {y : V} (hy : Sees l s y) : ∃ b, seen l s l.length = some b ∧ l[b]? = some y := by
  cases hs : seen l s l.length with
  | none => have := none_of_seen hs y hy.1; have := hy.2.1; omega
  | some b =>
    obtain ⟨_, z, hz, _⟩ := seen_lt l s l.length b hs
    rw [sees_unique h hy (sees_of hs hz)]
    exact ⟨b, rfl, hz⟩
theorem seen_of_none {l : List V} {s : Int} (h : ∀ x ∈ l, s < x.ts) : seen l s l.length = none := by
  cases hs : seen l s l.length with
  | none => rfl
  | some b =>
    obtain ⟨_, z, hz, h2⟩ := seen_lt l s l.length b hs
    have := h z (List.mem_of_getElem? hz)
    omega
theorem rising_filter {l : List V} (h : Rising l) (p : V → Bool) : Rising (l.filter p) := List.Pairwise.filter p h
theorem trimmed_rising {l : List V} (h : Rising l) (r : Option Nat) : Rising (trimmed l r) := by
  unfold trimmed; split
  · exact h
  · exact rising_filter h _
/-- trimmed again nothing goes. -/
theorem trim_again {l : List V} (h : Rising l) (f : Int) : trimmed (trimmed l (seen l f l.length)) (seen (trimmed l (seen l f l.length)) f (trimmed l (seen l f l.length)).length) = trimmed l (seen l f l.length) := by
  cases hs : seen l f l.length with
  | none =>
    have e : trimmed l none = l := rfl
    rw [e, hs]
    exact e
  | some b =>
    obtain ⟨_, y, hy, hyf⟩ := seen_lt l f l.length b hs
    have hsee := sees_of hs hy
    have e : trimmed l (some b) = l.filter fun x => !vlt x y := by unfold trimmed; simp [hy]
    rw [e]
    have hm : Sees (l.filter fun x => !vlt x y) f y := ⟨List.mem_filter.2 ⟨hsee.1, by rw [vlt_irrefl]; rfl⟩, hsee.2.1, fun x hx hs' => hsee.2.2 x (List.mem_filter.1 hx).1 hs'⟩
    obtain ⟨b', hb', hy'⟩ := seen_of_sees (rising_filter h _) hm
    rw [hb']
    unfold trimmed
    simp only [Option.bind_some, hy']
    rw [List.filter_eq_self]
    intro x hx
    exact (List.mem_filter.1 hx).2
/-- from the floor on the same is seen of what is left. -/
theorem trim_sees {l : List V} {f s : Int} (hfs : f ≤ s) {y : V} (hy : Sees l s y) : Sees (trimmed l (seen l f l.length)) s y := by
  cases hs : seen l f l.length with
  | none => exact hy
  | some b =>
    obtain ⟨_, z, hz, hzf⟩ := seen_lt l f l.length b hs
    have e : trimmed l (some b) = l.filter fun x => !vlt x z := by unfold trimmed; simp [hz]
    rw [e]
    refine ⟨List.mem_filter.2 ⟨hy.1, ?_⟩, hy.2.1, fun x hx hs' => hy.2.2 x (List.mem_filter.1 hx).1 hs'⟩
    rw [hy.2.2 z (List.mem_of_getElem? hz) (by omega)]
    rfl
theorem trim_none_sees {l : List V} {f s : Int} (hy : ∀ x ∈ l, s < x.ts) : ∀ x ∈ trimmed l (seen l f l.length), s < x.ts := by
  intro x hx
  refine hy x ?_
  unfold trimmed at hx
  split at hx
  · exact hx
  · exact (List.mem_filter.1 hx).1
end Go.Proofs.Ytpiifgmegdphpaa
