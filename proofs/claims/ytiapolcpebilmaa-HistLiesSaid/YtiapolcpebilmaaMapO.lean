/-
  Maps from integers to integers told by a list of their entries. Conditions: none.
-/
import Derived.Test.YtiapolcpebilmaaTurn
import Derived.Maps.Ext
import Derived.Maps.RangeWalk
namespace Go.Proofs.Ytiapolcpebilmaa
open Go.RowKit Go.Maps
set_option linter.unusedVariables false

/-- D holds just the entries of O, no key twice. -/
structure MapOf (qk qe : IntKind) (D : DataW Unit) (O : List (Int × Int)) : Prop where
  has : ∀ x : Int, Maps.has D (.int qk x) = O.any (fun p => p.1 == x)
  at' : ∀ p ∈ O, ∀ z, D.atKey (.int qk p.1) z = .lit (.int qe p.2)
  uniq : O.Pairwise (fun p q => p.1 ≠ q.1)
  len : Maps.size D = O.length
def keyed (O : List (Int × Int)) (x : Int) : Bool := O.any (fun p => p.1 == x)
def drop (O : List (Int × Int)) (x : Int) : List (Int × Int) := O.filter (fun p => p.1 != x)
def look (O : List (Int × Int)) (x : Int) : Int := match O.find? (fun p => p.1 == x) with | some p => p.2 | none => 0
theorem mapOf_empty (qk qe : IntKind) : MapOf qk qe (.map []) [] := ⟨fun _ => rfl, by simp, List.Pairwise.nil, rfl⟩
theorem key_inj {q : IntKind} {x y : Int} (h : x ≠ y) : (Lit.int q x) ≠ .int q y := fun e => h (by injection e)
theorem drop_none {O : List (Int × Int)} {x : Int} (h : keyed O x = false) : drop O x = O := by
  unfold drop
  rw [List.filter_eq_self]
  intro p hp
  have := List.any_eq_false.1 h p hp
  simpa using this
theorem drop_length {O : List (Int × Int)} (hu : O.Pairwise (fun p q => p.1 ≠ q.1)) (x : Int) : (drop O x).length + (if keyed O x = true then 1 else 0) = O.length := by
  induction O with
  | nil => rfl
  | cons p O ih =>
    rw [List.pairwise_cons] at hu
    have ih := ih hu.2
    by_cases e : p.1 = x
    · have hk : keyed O x = false := List.any_eq_false.2 fun q hq => by have := hu.1 q hq; simp; omega
      have h1 : drop (p :: O) x = drop O x := by unfold drop; rw [List.filter_cons, if_neg (by simp [e])]
      have h2 : keyed (p :: O) x = true := by unfold keyed; simp [e]
      rw [h1, h2, drop_none hk]
      simp
    · have h1 : drop (p :: O) x = p :: drop O x := by unfold drop; rw [List.filter_cons, if_pos (by simp [e])]
      have h2 : keyed (p :: O) x = keyed O x := by unfold keyed; rw [List.any_cons]; simp [e]
      rw [h1, h2]
      simp only [List.length_cons]
      omega
theorem drop_uniq {O : List (Int × Int)} (hu : O.Pairwise (fun p q => p.1 ≠ q.1)) (x : Int) : (drop O x).Pairwise (fun p q => p.1 ≠ q.1) := hu.filter _
theorem mem_drop {O : List (Int × Int)} {x : Int} {p : Int × Int} : p ∈ drop O x ↔ p ∈ O ∧ p.1 ≠ x := by unfold drop; rw [List.mem_filter]; simp
theorem look_mem {O : List (Int × Int)} {x : Int} (h : keyed O x = true) : (x, look O x) ∈ O := by
  unfold look
  cases hf : O.find? (fun p => p.1 == x) with
  | none =>
    unfold keyed at h
    obtain ⟨p, hp, hpx⟩ := List.any_eq_true.1 h
    exact absurd hpx (by simpa using List.find?_eq_none.1 hf p hp)
  | some p =>
    have h1 := List.mem_of_find?_eq_some hf
    have h2 := List.find?_some hf
    simp at h2
    subst h2
    exact h1
theorem look_none {O : List (Int × Int)} {x : Int} (h : keyed O x = false) : look O x = 0 := by
  unfold look
  rw [List.find?_eq_none.2 fun p hp => by have := List.any_eq_false.1 h p hp; simpa using this]
theorem MapOf.look {qk qe : IntKind} {D : DataW Unit} {O : List (Int × Int)} (h : MapOf qk qe D O) (x : Int) : D.atKey (.int qk x) (.lit (.int qe 0)) = .lit (.int qe (look O x)) := by
  cases hk : keyed O x
  · rw [look_none hk, atKey_of_not_has ((h.has x).trans hk)]
  · exact h.at' _ (look_mem hk) _
theorem MapOf.del {qk qe : IntKind} {D : DataW Unit} {O : List (Int × Int)} (h : MapOf qk qe D O) (hT : Tidy D) (x : Int) : MapOf qk qe (D.del (.int qk x)) (drop O x) := by
  refine ⟨fun y => ?_, fun p hp z => ?_, drop_uniq h.uniq x, ?_⟩
  · by_cases e : y = x
    · subst e
      rw [has_del_same]
      symm
      rw [List.any_eq_false]
      intro p hp
      simpa using (mem_drop.1 hp).2
    · rw [has_del_other (key_inj e), h.has y]
      rw [Bool.eq_iff_iff, List.any_eq_true, List.any_eq_true]
      constructor
      · rintro ⟨p, hp, hy⟩
        exact ⟨p, mem_drop.2 ⟨hp, by simp at hy; omega⟩, hy⟩
      · rintro ⟨p, hp, hy⟩
        exact ⟨p, (mem_drop.1 hp).1, hy⟩
  · obtain ⟨h1, h2⟩ := mem_drop.1 hp
    rw [atKey_del_other (key_inj h2)]
    exact h.at' p h1 z
  · have h1 := size_del (k := .int qk x) hT
    have h2 := drop_length h.uniq x
    rw [h.has x, h.len] at h1
    unfold keyed at h2
    split at h1
    · next h3 => rw [if_pos h3] at h2; omega
    · next h3 => rw [if_neg h3] at h2; omega
theorem MapOf.put {qk qe : IntKind} {D : DataW Unit} {O : List (Int × Int)} (h : MapOf qk qe D O) (hT : Tidy D) (x v : Int) : MapOf qk qe (D.put (.int qk x) (.lit (.int qe v))) (drop O x ++ [(x, v)]) := by
  have hk : WideAt.IsKeyLit (.int qk x) := trivial
  refine ⟨fun y => ?_, fun p hp z => ?_, ?_, ?_⟩
  · rw [List.any_append]
    by_cases e : y = x
    · subst e
      rw [has_put_same hT.isMap hk]
      simp
    · rw [has_put_other (key_inj e), h.has y, Bool.eq_iff_iff, Bool.or_eq_true, List.any_eq_true, List.any_eq_true]
      constructor
      · rintro ⟨p, hp, hy⟩
        exact .inl ⟨p, mem_drop.2 ⟨hp, by simp at hy; omega⟩, hy⟩
      · rintro (⟨p, hp, hy⟩ | hy)
        · exact ⟨p, (mem_drop.1 hp).1, hy⟩
        · simp at hy; omega
  · rcases List.mem_append.1 hp with hp | hp
    · obtain ⟨h1, h2⟩ := mem_drop.1 hp
      rw [atKey_put_other (key_inj h2)]
      exact h.at' p h1 z
    · rw [List.mem_singleton] at hp
      subst hp
      exact atKey_put_same hT.isMap hk _ _
  · rw [List.pairwise_append]
    refine ⟨drop_uniq h.uniq x, by simp, fun p hp q hq => ?_⟩
    rw [List.mem_singleton] at hq
    subst hq
    exact (mem_drop.1 hp).2
  · have h1 := size_put (k := .int qk x) hT (.lit (.int qe v) : DataW Unit)
    have h2 := drop_length h.uniq x
    rw [h1, h.has x, h.len, List.length_append, List.length_singleton]
    unfold keyed at h2
    split
    · next h3 => rw [if_pos h3] at h2; omega
    · next h3 => rw [if_neg h3] at h2; omega

/-- block b is a map that holds just the entries of O. -/
def Holds (P : Program) (tk te : TypeId) (qk qe : IntKind) (w : World) (b : Nat) (O : List (Int × Int)) : Prop := ∃ D : DataW Unit, w.ownsMap P tk (plainElem P te) b O.length D ∧ MapOf qk qe D O
theorem tight {P : Program} {k : TypeId} {R : Value → Option (DataW Unit × List MemPlace)} {w : World} {b n : Nat} {D : DataW Unit} (h : w.ownsMap P k R b n D) : w.ownsMap P k R b (Maps.size D) D := by
  obtain ⟨es, clock, hb, F, hs, hD⟩ := h
  refine ⟨es, clock, hb, F, ?_, hD⟩
  subst hD
  simp [Maps.size, length_sorted]
theorem holds_of {P : Program} {tk te : TypeId} {qk qe : IntKind} {w : World} {b n : Nat} {D : DataW Unit} {O : List (Int × Int)} (h : w.ownsMap P tk (plainElem P te) b n D) (hm : MapOf qk qe D O) : Holds P tk te qk qe w b O :=
  ⟨D, by have := tight h; rwa [hm.len] at this, hm⟩
theorem holds_made (P : Program) (tk te : TypeId) (qk qe : IntKind) (w : World) : Holds P tk te qk qe (w.alloc (.map #[] 0)) w.heap.size [] := ⟨.map [], World.ownsMap_made w P tk _, mapOf_empty qk qe⟩
theorem Holds.turn {P : Program} {tk te : TypeId} {qk qe : IntKind} {S : Nat → Prop} {w w' : World} {b : Nat} {O : List (Int × Int)} (h : Holds P tk te qk qe w b O) (ht : Turns S w w') (hn : ¬ S b) : Holds P tk te qk qe w' b O := by
  obtain ⟨D, h1, h2⟩ := h
  exact ⟨D, ht.map h1 hn, h2⟩
theorem Holds.lt {P : Program} {tk te : TypeId} {qk qe : IntKind} {w : World} {b : Nat} {O : List (Int × Int)} (h : Holds P tk te qk qe w b O) : b < w.heap.size := by
  obtain ⟨D, h1, _⟩ := h
  exact h1.lt
theorem turned {w w' : World} {b : Nat} (h : w.mapTurned w' b) : Turns (one b) w w' := (Turns.refl _ w).grown h.grown fun j _ e => by injection e with e; exact e.symm
end Go.Proofs.Ytiapolcpebilmaa
