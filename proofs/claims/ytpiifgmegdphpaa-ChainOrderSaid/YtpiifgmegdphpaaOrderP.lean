/-
  A rising list's versions, put one by one in any order, give the list. No program in sight; no condition.
-/
import Derived.Test.YtpiifgmegdphpaaUniteP
namespace Go.Proofs.Ytpiifgmegdphpaa

def putsTo (m : List V) : Nat → List V
  | 0 => []
  | k + 1 => match m[k]? with
    | some v => ins (putsTo m k) v
    | none => putsTo m k
theorem rising_nodup {L : List V} (h : Rising L) : L.Nodup := by
  unfold Rising at h
  exact h.imp fun {a b} hab e => by subst e; rw [vlt_irrefl] at hab; cases hab
theorem puts_all {L m : List V} (hL : Rising L) (hp : m.Perm L) : ∀ k, k ≤ m.length → Rising (putsTo m k) ∧ (∀ x, x ∈ putsTo m k ↔ x ∈ m.take k) := by
  intro k
  induction k with
  | zero => exact fun _ => ⟨List.Pairwise.nil, fun x => by simp [putsTo]⟩
  | succ k ih =>
    intro hk
    obtain ⟨hr, hm⟩ := ih (by omega)
    obtain ⟨v, hv⟩ : ∃ v, m[k]? = some v := ⟨_, List.getElem?_eq_getElem (by omega)⟩
    have e : putsTo m (k + 1) = ins (putsTo m k) v := by show (match m[k]? with | some v => _ | none => _) = _; rw [hv]
    have hvL : v ∈ L := hp.mem_iff.1 (List.mem_of_getElem? hv)
    have hnd := hp.nodup_iff.2 (rising_nodup hL)
    have hn : ¬ v ∈ putsTo m k := by
      rw [hm v]
      intro hmem
      have e2 : m = m.take k ++ v :: m.drop (k + 1) := by
        have hk' := (List.getElem?_eq_some_iff.1 hv).1
        conv => lhs; rw [← List.take_append_drop k m, List.drop_eq_getElem_cons hk']
        rw [(List.getElem?_eq_some_iff.1 hv).2]
      rw [e2] at hnd
      have := (List.nodup_append.1 hnd).2.2 v hmem v (by simp)
      exact this rfl
    have hf : free (putsTo m k) v = true := free_of_not_mem hL (fun x hx => hp.mem_iff.1 (List.mem_of_mem_take ((hm x).1 hx))) hvL hn
    refine ⟨by rw [e]; exact rising_ins hr hf, fun x => ?_⟩
    rw [e, mem_ins, hm x, takeS hv, List.mem_append, List.mem_singleton]
    constructor
    · rintro (h | h)
      · exact .inr h
      · exact .inl h
    · rintro (h | h)
      · exact .inr h
      · exact .inl h
theorem puts_free {L m : List V} (hL : Rising L) (hp : m.Perm L) {k : Nat} {v : V} (hv : m[k]? = some v) : free (putsTo m k) v = true ∧ putsTo m (k + 1) = ins (putsTo m k) v := by
  have hk' := (List.getElem?_eq_some_iff.1 hv).1
  obtain ⟨hr, hm⟩ := puts_all hL hp k (by omega)
  have e : putsTo m (k + 1) = ins (putsTo m k) v := by show (match m[k]? with | some v => _ | none => _) = _; rw [hv]
  have hvL : v ∈ L := hp.mem_iff.1 (List.mem_of_getElem? hv)
  have hnd := hp.nodup_iff.2 (rising_nodup hL)
  have hn : ¬ v ∈ putsTo m k := by
    rw [hm v]
    intro hmem
    have e2 : m = m.take k ++ v :: m.drop (k + 1) := by
      conv => lhs; rw [← List.take_append_drop k m, List.drop_eq_getElem_cons hk']
      rw [(List.getElem?_eq_some_iff.1 hv).2]
    rw [e2] at hnd
    have := (List.nodup_append.1 hnd).2.2 v hmem v (by simp)
    exact this rfl
  exact ⟨free_of_not_mem hL (fun x hx => hp.mem_iff.1 (List.mem_of_mem_take ((hm x).1 hx))) hvL hn, e⟩
theorem puts_end {L m : List V} (hL : Rising L) (hp : m.Perm L) : putsTo m m.length = L := by
  obtain ⟨hr, hm⟩ := puts_all hL hp m.length (Nat.le_refl _)
  refine rising_ext _ _ hr hL fun x => ?_
  rw [hm x, List.take_length]
  exact hp.mem_iff
theorem puts_len (m : List V) : ∀ k, (putsTo m k).length ≤ k := by
  intro k
  induction k with
  | zero => simp [putsTo]
  | succ k ih =>
    show (match m[k]? with | some v => ins (putsTo m k) v | none => putsTo m k).length ≤ _
    split
    · rw [ins_len]; omega
    · omega
/-- two places changed. -/
def swapV (m : List V) (i k : Nat) : List V := match m[i]?, m[k]? with
  | some x, some y => (m.set i y).set k x
  | _, _ => m
theorem swapV_perm (m : List V) (i k : Nat) : (swapV m i k).Perm m := by
  unfold swapV
  cases hi : m[i]? with
  | none => exact List.Perm.refl _
  | some x =>
    cases hk : m[k]? with
    | none => exact List.Perm.refl _
    | some y =>
      obtain ⟨h1, h2⟩ := List.getElem?_eq_some_iff.1 hi
      obtain ⟨h3, h4⟩ := List.getElem?_eq_some_iff.1 hk
      subst h2 h4
      exact List.set_set_perm h1 h3
theorem rising_step {L : List V} (h : Rising L) {i : Nat} {x y : V} (hx : L[i]? = some x) (hy : L[i + 1]? = some y) : vlt x y = true := by
  unfold Rising at h
  obtain ⟨h1, h2⟩ := List.getElem?_eq_some_iff.1 hx
  obtain ⟨h3, h4⟩ := List.getElem?_eq_some_iff.1 hy
  have := List.pairwise_iff_getElem.1 h i (i + 1) h1 h3 (by omega)
  rwa [h2, h4] at this
end Go.Proofs.Ytpiifgmegdphpaa
