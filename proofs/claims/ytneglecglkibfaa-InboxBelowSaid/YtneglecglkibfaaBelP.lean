/-
  What the calls of a box come to, for the law InboxBelow. Conditions: none of the program.
-/
import Derived.Test.YtneglecglkibfaaStep
import Derived.Test.YtneglecglkibfaaOpBox
namespace Go.Proofs.Ytneglecglkibfaa
open Go.RowKit
set_option linter.unusedVariables false

/-- one of the first k calls is a heart of that time, of a place for which Q holds. -/
def Told (l : List OB) (k : Nat) (t : Int) (Q : Int → Prop) : Prop := ∃ j o, j < k ∧ l[j]? = some o ∧ o.kind = 3 ∧ o.t = t ∧ Q o.pl
theorem Told.mono {l : List OB} {k k' : Nat} {t : Int} {Q Q' : Int → Prop} (h : Told l k t Q) (hk : k ≤ k') (hq : ∀ p, Q p → Q' p) : Told l k' t Q' := by
  obtain ⟨j, o, h1, h2, h3, h4, h5⟩ := h
  exact ⟨j, o, by omega, h2, h3, h4, hq _ h5⟩
structure Bel (l : List OB) (k : Nat) (x : Bx) : Prop where
  he : ∀ p ∈ x.hearts, p.2 = 0 ∨ Told l k p.2 (fun q => q = p.1)
  g : x.got = 0 ∨ Told l k x.got (fun q => q ≤ x.base)
theorem Bel.new (l : List OB) (at' : Int) : Bel l 0 (box0 at') := ⟨by simp [box0], .inl rfl⟩
theorem Bel.keep {l : List OB} {k : Nat} {x x' : Bx} (h : Bel l k x) (h1 : x'.hearts = x.hearts) (h2 : x'.got = x.got) (h3 : x.base ≤ x'.base) : Bel l (k + 1) x' :=
  ⟨fun p hp => (h.he p (h1 ▸ hp)).imp id fun t => t.mono (Nat.le_succ k) fun _ e => e, by rw [h2]; exact h.g.imp id fun t => t.mono (Nat.le_succ k) fun _ e => Int.le_trans e h3⟩
theorem Bel.settle {l : List OB} {k : Nat} {x : Bx} (h : Bel l k x) : Bel l k (settleB x) := by
  refine ⟨fun p hp => h.he p (List.mem_filter.1 hp).1, ?_⟩
  show gotH x.hearts x.base x.got = 0 ∨ Told l k (gotH x.hearts x.base x.got) (fun q => q ≤ x.base)
  rcases gotH_is x.hearts x.base x.got with e | ⟨p, hp, hb, e⟩
  · rw [e]; exact h.g
  · rw [e]
    exact (h.he p hp).imp id fun t => t.mono (Nat.le_refl k) fun q e => by rw [e]; exact hb
theorem Bel.put {l : List OB} {k : Nat} {x x' : Bx} {at' : Int} {r : R} {e : Ending} {w' : World} (h : Bel l k x) (hp : PutR x at' r e w' x') : Bel l (k + 1) x' ∧ x.got ≤ x'.got := by
  rcases hp with ⟨_, _, rfl⟩ | ⟨_, _, rfl⟩ | ⟨_, _, rfl⟩
  · exact ⟨h.keep rfl rfl (Int.le_refl _), Int.le_refl _⟩
  · exact ⟨h.keep rfl rfl (Int.le_refl _), Int.le_refl _⟩
  · exact ⟨h.keep rfl rfl (Int.le_refl _), Int.le_refl _⟩
theorem Bel.next {l : List OB} {k : Nat} {x x' : Bx} {e : Ending} {w w' : World} (h : Bel l k x) (hp : NextR x w e w' x') : Bel l (k + 1) x' ∧ x.got ≤ x'.got := by
  rcases hp with ⟨_, _, rfl⟩ | ⟨_, _, _, _, _, _, rfl⟩
  · exact ⟨h.keep rfl rfl (Int.le_refl _), Int.le_refl _⟩
  · exact ⟨h.keep rfl rfl (Int.le_refl _), Int.le_refl _⟩
theorem Bel.done {l : List OB} {k : Nat} {x x' : Bx} {at' : Int} {e : Ending} {w' : World} (h : Bel l k x) (hp : DoneR x at' e w' x') : Bel l (k + 1) x' ∧ x.got ≤ x'.got := by
  rcases hp with ⟨_, _, rfl⟩ | ⟨k', n, _, _, _, _, _, _, _, rfl⟩
  · exact ⟨h.keep rfl rfl (Int.le_refl _), Int.le_refl _⟩
  · exact ⟨(h.keep (x' := doneX x k' n) rfl rfl (by show x.base ≤ x.base + (n : Int); omega)).settle, (gotH_le (doneX x k' n).hearts (doneX x k' n).base x.got).1⟩
theorem Bel.heart {l : List OB} {k : Nat} {x x' : Bx} {o : OB} {e : Ending} {w' : World} (h : Bel l k x) (ho : l[k]? = some o) (hk : o.kind = 3) (ht : 0 ≤ o.t) (hp : HeartR x o.t o.pl e w' x') : Bel l (k + 1) x' ∧ x.got ≤ x'.got := by
  obtain ⟨_, rfl⟩ := hp
  refine ⟨Bel.settle ⟨fun p hp => ?_, h.g.imp id fun t => t.mono (Nat.le_succ k) fun _ e => e⟩, (gotH_le (heardH x.hearts o.t o.pl) x.base x.got).1⟩
  rcases List.mem_append.1 hp with e | e
  · exact (h.he p (mem_drop.1 e).1).imp id fun t => t.mono (Nat.le_succ k) fun _ e => e
  · rw [List.mem_singleton] at e
    subst e
    show max (look x.hearts o.pl) o.t = 0 ∨ Told l (k + 1) (max (look x.hearts o.pl) o.t) (fun q => q = o.pl)
    rcases (by omega : max (look x.hearts o.pl) o.t = look x.hearts o.pl ∨ max (look x.hearts o.pl) o.t = o.t) with e | e
    · rw [e]
      cases hk' : keyed x.hearts o.pl
      · exact .inl (look_none hk')
      · exact (h.he _ (look_mem hk')).imp id fun t => t.mono (Nat.le_succ k) fun _ e => e
    · rw [e]
      exact .inr ⟨k, o, Nat.lt_succ_self k, ho, hk, rfl, rfl⟩
/-- what the law asks of one call. -/
def saysO (x : Bx) (o : OB) : Bool := (o.kind == 3 && o.t == x.got) && decide (o.pl ≤ x.base)
def saysB (l : List OB) (x : Bx) (j : Nat) : Bool := (x.got == 0) || (l.take j).any (saysO x)
theorem saysB_succ {l : List OB} {x : Bx} {j : Nat} {o : OB} (h : l[j]? = some o) : saysB l x (j + 1) = (saysB l x j || saysO x o) := by
  unfold saysB
  obtain ⟨hj, rfl⟩ := List.getElem?_eq_some_iff.1 h
  rw [List.take_succ_eq_append_getElem hj, List.any_append, List.any_cons, List.any_nil, Bool.or_false, Bool.or_assoc]
theorem saysB_all {l : List OB} {x : Bx} {k : Nat} (h : Bel l k x) : saysB l x k = true := by
  unfold saysB
  rcases h.g with e | ⟨j, o, h1, h2, h3, h4, h5⟩
  · simp [e]
  · rw [Bool.or_eq_true]
    refine .inr (List.any_eq_true.2 ⟨o, ?_, ?_⟩)
    · exact List.mem_of_getElem? (i := j) (by rw [List.getElem?_take_of_lt h1]; exact h2)
    · simp [saysO, h3, h4, h5]
end Go.Proofs.Ytneglecglkibfaa
