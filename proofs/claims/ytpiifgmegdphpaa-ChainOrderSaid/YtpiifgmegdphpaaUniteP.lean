/-
  Rising lists with the same members are one; what comes of putting versions of a rising list one by one. No program in sight; no condition.
-/
import Derived.Test.YtpiifgmegdphpaaJoinP
namespace Go.Proofs.Ytpiifgmegdphpaa

theorem rising_ext : ∀ (l m : List V), Rising l → Rising m → (∀ x, x ∈ l ↔ x ∈ m) → l = m := by
  intro l
  induction l with
  | nil =>
    intro m _ _ h
    cases m with
    | nil => rfl
    | cons y m => exact absurd ((h y).2 (by simp)) (by simp)
  | cons x l ih =>
    intro m hl hm h
    cases m with
    | nil => exact absurd ((h x).1 (by simp)) (by simp)
    | cons y m =>
      unfold Rising at hl hm
      rw [List.pairwise_cons] at hl hm
      have hxy : x = y := by
        rcases List.mem_cons.1 ((h x).1 (by simp)) with e | e
        · exact e
        · rcases List.mem_cons.1 ((h y).2 (by simp)) with e' | e'
          · exact e'.symm
          · have h1 := hm.1 x e
            have h2 := hl.1 y e'
            rw [vlt_asymm h1] at h2
            cases h2
      subst hxy
      rw [ih m hl.2 hm.2 fun z => ?_]
      have hz := h z
      simp only [List.mem_cons] at hz
      constructor
      · intro hzl
        rcases hz.1 (.inr hzl) with e | e
        · subst e; have := hl.1 z hzl; rw [vlt_irrefl] at this; cases this
        · exact e
      · intro hzm
        rcases hz.2 (.inr hzm) with e | e
        · subst e; have := hm.1 z hzm; rw [vlt_irrefl] at this; cases this
        · exact e
theorem free_of_not_mem {L o : List V} {v : V} (hL : Rising L) (ho : ∀ x ∈ o, x ∈ L) (hv : v ∈ L) (hn : ¬ v ∈ o) : free o v = true := by
  refine List.all_eq_true.2 fun x hx => ?_
  cases hs : vsame x v
  · rfl
  · unfold vsame at hs
    simp only [Bool.and_eq_true, Bool.not_eq_true'] at hs
    rw [rising_same hL (ho x hx) hv hs.1 hs.2] at hx
    exact absurd hx hn
theorem there_of_mem {L o : List V} {v : V} (hL : Rising L) (ho : ∀ x ∈ o, x ∈ L) (hv : v ∈ o) : free o v = false ∧ putE o v = 8 := by
  obtain ⟨j, hj⟩ := List.mem_iff_getElem?.1 hv
  have hvv : vsame v v = true := by unfold vsame; rw [vlt_irrefl]; rfl
  refine ⟨not_free hj hvv, ?_⟩
  unfold putE
  cases hc : clash o v with
  | none =>
    unfold clash at hc
    rw [List.find?_eq_none] at hc
    exact absurd hvv (by simpa using hc v hv)
  | some x =>
    unfold clash at hc
    have hx := List.mem_of_find?_eq_some hc
    have hs := List.find?_some hc
    unfold vsame at hs
    simp only [Bool.and_eq_true, Bool.not_eq_true'] at hs
    have e := rising_same hL (ho x hx) (ho v hv) hs.1 hs.2
    subst e
    simp only
    rw [if_pos (veq_same x)]
/-- two lists out of one rising list, joined: all of both. -/
theorem join_unite {L a b : List V} (hL : Rising L) (ha : Rising a) (haL : ∀ x ∈ a, x ∈ L) (hbL : ∀ x ∈ b, x ∈ L) : ∀ k, k ≤ b.length → ∃ o, joinTo a b k = some o ∧ Rising o ∧ ∀ x, x ∈ o ↔ x ∈ a ∨ x ∈ b.take k := by
  intro k
  induction k with
  | zero => exact fun _ => ⟨a, rfl, ha, fun x => by simp⟩
  | succ k ih =>
    intro hk
    obtain ⟨o, hj, hr, hm⟩ := ih (by omega)
    obtain ⟨v, hv⟩ : ∃ v, b[k]? = some v := ⟨_, List.getElem?_eq_getElem (by omega)⟩
    have hvL := hbL v (List.mem_of_getElem? hv)
    have hoL : ∀ x ∈ o, x ∈ L := fun x hx => by
      rcases (hm x).1 hx with h | h
      · exact haL x h
      · exact hbL x (List.mem_of_mem_take h)
    by_cases hmem : v ∈ o
    · obtain ⟨h1, h2⟩ := there_of_mem hL hoL hmem
      refine ⟨o, joinTo_there hj hv h1 h2, hr, fun x => ?_⟩
      rw [hm x, takeS hv, List.mem_append]
      constructor
      · rintro (h | h)
        · exact .inl h
        · exact .inr (.inl h)
      · rintro (h | h | h)
        · exact .inl h
        · exact .inr h
        · rw [List.mem_singleton] at h
          subst h
          exact (hm x).1 hmem
    · have h1 := free_of_not_mem hL hoL hvL hmem
      refine ⟨ins o v, joinTo_put hj hv h1, rising_ins hr h1, fun x => ?_⟩
      rw [mem_ins, hm x, takeS hv, List.mem_append, List.mem_singleton]
      constructor
      · rintro (h | h | h)
        · exact .inr (.inr h)
        · exact .inl h
        · exact .inr (.inl h)
      · rintro (h | h | h)
        · exact .inr (.inl h)
        · exact .inr (.inr h)
        · exact .inl h
end Go.Proofs.Ytpiifgmegdphpaa
