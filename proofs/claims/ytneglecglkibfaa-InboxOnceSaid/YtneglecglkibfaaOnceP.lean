/-
  What the calls of a box come to, for the law InboxOnce. Conditions: none of the program.
-/
import Derived.Test.YtneglecglkibfaaStep
namespace Go.Proofs.Ytneglecglkibfaa
open Go.RowKit
set_option linter.unusedVariables false

/-- the box x, and the set S of the places that were applied, of a box that began at 'first'. -/
structure Once (x : Bx) (first : Int) (S : Int → Bool) : Prop where
  lo : first ≤ x.base
  z : 0 ≤ first
  s : ∀ p : Int, S p = true ↔ first ≤ p ∧ (p < x.base ∨ ∃ k : Nat, p = x.base + k ∧ x.done[k]? = some true)
  dn : ∀ k : Nat, x.done[k]? = some true → k < x.handed
  st : x.handed = 0 ∨ x.done[0]? = some false
theorem Once.new (at' : Int) : Once (box0 at') (max at' 0) (fun _ => false) :=
  ⟨Int.le_refl _, by omega, fun p => ⟨fun h => (by cases h), fun ⟨h, h2⟩ => by
    rcases h2 with h2 | ⟨k, _, h2⟩
    · have h2 : p < max at' 0 := h2
      omega
    · simp [box0] at h2⟩, fun k h => by simp [box0] at h, .inl rfl⟩
theorem Once.all {x : Bx} {first : Int} {S : Int → Bool} (h : Once x first S) (hx : x.ok) {a : Int} (h1 : first ≤ a) (h2 : a ≤ x.base) : S a = decide (a < x.base) := by
  by_cases c : a < x.base
  · rw [(h.s a).2 ⟨h1, .inl c⟩]; simp [c]
  · have e : a = x.base := by omega
    cases hs : S a
    · simp [c]
    · obtain ⟨_, h3 | ⟨k, h3, h4⟩⟩ := (h.s a).1 hs
      · exact absurd h3 c
      · have : k = 0 := by omega
        subst this
        have h5 := h.dn 0 h4
        rcases h.st with e | e
        · omega
        · rw [e] at h4; cases h4
theorem Once.put {x x' : Bx} {first at' : Int} {S : Int → Bool} {r : R} {e : Ending} {w' : World} (h : Once x first S) (hx : x.ok) (hp : PutR x at' r e w' x') : Once x' first S := by
  rcases hp with ⟨_, _, rfl⟩ | ⟨_, _, rfl⟩ | ⟨_, _, rfl⟩
  · exact h
  · exact h
  · have hg : ∀ k : Nat, (x.done ++ [false])[k]? = some true ↔ x.done[k]? = some true := by
      intro k
      rcases Nat.lt_or_ge k x.done.length with c | c
      · rw [List.getElem?_append_left c]
      · rw [List.getElem?_append_right c, List.getElem?_eq_none (l := x.done) c]
        rcases Nat.eq_or_lt_of_le c with c | c
        · rw [← c]; simp
        · rw [List.getElem?_eq_none (by simp; omega)]
    refine ⟨h.lo, h.z, fun p => (h.s p).trans ?_, fun k hk => h.dn k ((hg k).1 hk), ?_⟩
    · exact and_congr_right fun _ => or_congr Iff.rfl (exists_congr fun k => and_congr_right fun _ => (hg k).symm)
    · rcases h.st with e | e
      · exact .inl e
      · refine .inr ?_
        have hl : 0 < x.done.length := (List.getElem?_eq_some_iff.1 e).1
        show (x.done ++ [false])[0]? = _
        rw [List.getElem?_append_left hl, e]
theorem Once.next {x x' : Bx} {first : Int} {S : Int → Bool} {e : Ending} {w w' : World} (h : Once x first S) (hx : x.ok) (hp : NextR x w e w' x') : Once x' first S := by
  rcases hp with ⟨_, _, rfl⟩ | ⟨r, D, cp, hr, _, _, rfl⟩
  · exact h
  · have hlt : x.handed < x.list.length := (List.getElem?_eq_some_iff.1 hr).1
    refine ⟨h.lo, h.z, h.s, fun k hk => Nat.lt_succ_of_lt (h.dn k hk), ?_⟩
    rcases h.st with e | e
    · refine .inr ?_
      have hl : 0 < x.done.length := by rw [hx.dn]; omega
      cases hd : x.done[0]? with
      | none => rw [List.getElem?_eq_none_iff] at hd; omega
      | some v =>
        cases v with
        | false => rfl
        | true => have := h.dn 0 hd; omega
    · exact .inr e
/-- whether Done takes the place is what the law says. -/
theorem Once.takes {x x' : Bx} {first at' : Int} {S : Int → Bool} {e : Ending} {w' : World} (h : Once x first S) (hx : x.ok) (hp : DoneR x at' e w' x') :
    ∃ er : Int, e = .returned (.int .i64 er) ∧ (er == 0) = (decide (first ≤ at') && decide (at' < x.base + x.handed) && !S at') := by
  rcases hp with ⟨hc, rfl, _⟩ | ⟨k, n, rfl, hlt, hf, _, _, _, rfl, _⟩
  · refine ⟨7, rfl, ?_⟩
    symm
    show _ = false
    by_cases c1 : first ≤ at'
    · by_cases c2 : at' < x.base + x.handed
      · have hs : S at' = true := (h.s at').2 ⟨c1, by
          rcases hc with hc | ⟨k, rfl, hc | ⟨_, hc⟩⟩
          · exact .inl hc
          · omega
          · exact .inr ⟨k, rfl, hc⟩⟩
        simp [hs]
      · simp [c2]
    · simp [c1]
  · refine ⟨0, rfl, ?_⟩
    symm
    show _ = true
    have c1 : first ≤ x.base + k := by have := h.lo; omega
    have c2 : x.base + (k : Int) < x.base + x.handed := by omega
    have hs : S (x.base + k) = false := by
      cases hs : S (x.base + k)
      · rfl
      · obtain ⟨_, h3 | ⟨k', h3, h4⟩⟩ := (h.s _).1 hs
        · omega
        · have : k' = k := by omega
          subst this
          rw [hf] at h4; cases h4
    simp [hs, c1, c2]
theorem Once.done {x x' : Bx} {first at' : Int} {S : Int → Bool} {e : Ending} {w' : World} (h : Once x first S) (hx : x.ok) (hp : DoneR x at' e w' x') :
    (e = .returned (.int .i64 0) → x'.base + x'.handed = x.base + x.handed ∧ x'.base + x'.list.length = x.base + x.list.length ∧ Once x' first (fun y => if y = at' then true else S y)) ∧ (e ≠ .returned (.int .i64 0) → x' = x) := by
  rcases hp with ⟨hc, rfl, rfl⟩ | ⟨k, n, rfl, hlt, hf, hn, hall, hend, rfl, rfl⟩
  · exact ⟨fun e => by simp at e, fun _ => rfl⟩
  · have hd := hx.hd
    have e0 : (settleB (doneX x k n)).base = x.base + n := rfl
    have e1 : (settleB (doneX x k n)).handed = x.handed - n := rfl
    have e2 : (settleB (doneX x k n)).list.length = x.list.length - n := List.length_drop ..
    have e3 : ∀ j : Nat, (settleB (doneX x k n)).done[j]? = (x.done.set k true)[n + j]? := fun j => by show ((x.done.set k true).drop n)[j]? = _; rw [List.getElem?_drop]
    have hkl : k < x.done.length := by rw [hx.dn]; omega
    have hset : ∀ j : Nat, (x.done.set k true)[j]? = some true ↔ (j = k ∨ x.done[j]? = some true) := by
      intro j
      rw [List.getElem?_set]
      by_cases c : k = j
      · subst c; simp [hkl]
      · rw [if_neg c]
        exact ⟨.inr, fun h => h.resolve_left fun e => c e.symm⟩
    refine ⟨fun _ => ⟨by rw [e0, e1]; omega, by rw [e0, e2]; omega, ⟨by rw [e0]; have := h.lo; omega, h.z, fun p => ?_, fun j hj => ?_, ?_⟩⟩, fun hne => absurd rfl hne⟩
    · rw [e0]
      show (if p = x.base + k then true else S p) = true ↔ _
      have key : (∃ j : Nat, p = x.base + j ∧ (x.done.set k true)[j]? = some true) ↔ (p = x.base + k ∨ ∃ j : Nat, p = x.base + j ∧ x.done[j]? = some true) := by
        constructor
        · rintro ⟨j, hj, hh⟩
          rcases (hset j).1 hh with rfl | hh
          · exact .inl hj
          · exact .inr ⟨j, hj, hh⟩
        · rintro (hj | ⟨j, hj, hh⟩)
          · exact ⟨k, hj, (hset k).2 (.inl rfl)⟩
          · exact ⟨j, hj, (hset j).2 (.inr hh)⟩
      have key2 : (p < x.base ∨ ∃ j : Nat, p = x.base + j ∧ (x.done.set k true)[j]? = some true) ↔ (p < x.base + n ∨ ∃ j : Nat, p = x.base + n + j ∧ (settleB (doneX x k n)).done[j]? = some true) := by
        constructor
        · rintro (hj | ⟨j, hj, hh⟩)
          · exact .inl (by omega)
          · rcases Nat.lt_or_ge j n with c | c
            · exact .inl (by omega)
            · exact .inr ⟨j - n, by omega, by rw [e3, show n + (j - n) = j from by omega]; exact hh⟩
        · rintro (hj | ⟨j, hj, hh⟩)
          · rcases (by omega : p < x.base ∨ x.base ≤ p) with c | c
            · exact .inl c
            · obtain ⟨j, hj'⟩ : ∃ j : Nat, p = x.base + j := ⟨(p - x.base).toNat, by omega⟩
              exact .inr ⟨j, hj', hall j (by omega)⟩
          · rw [e3] at hh
            exact .inr ⟨n + j, by omega, hh⟩
      rw [← key2, key]
      have hs := h.s p
      have hlo := h.lo
      by_cases c : p = x.base + k
      · rw [if_pos c]
        exact ⟨fun _ => ⟨by omega, .inr (.inl c)⟩, fun _ => rfl⟩
      · rw [if_neg c, hs]
        exact ⟨fun ⟨h1, h2⟩ => ⟨h1, h2.imp id .inr⟩, fun ⟨h1, h2⟩ => ⟨h1, h2.imp id fun h3 => h3.resolve_left c⟩⟩
    · rw [e3] at hj
      rw [e1]
      rcases (hset _).1 hj with e | e
      · omega
      · have := h.dn _ e; omega
    · rcases hend with e | e
      · exact .inl (by rw [e1]; omega)
      · exact .inr (by rw [e3]; exact e)
end Go.Proofs.Ytneglecglkibfaa
