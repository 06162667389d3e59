/-
  A region without defer statements in a round of a range over a function is walked as outside of one. Conditions: as the premises say.
-/
import Derived.RangeFuncCalls
import Derived.BigRegion
import Derived.BigRegionIn
namespace Go.Proofs.Ytiapolcpebilmaa
open Go
set_option linter.unusedVariables false

theorem upon_round {l n : Nat} {P : Program} {o : Oper} {a : Act} {K : Act → World → Prop} {Q : Exit → Act → World → Prop} (r : Result Next)
    (h : o.upon P a K Q r) : o.uponIn (Fence.wide.inRound l) n P a K Q r := by
  cases r with
  | ok x w' =>
    cases x with
    | enter f args => exact ⟨fun e => (by cases e), CallsIn.inRound l (callsIn_wide.2 h)⟩
    | row row args =>
      refine ⟨fun e => (by cases e), fun c cs _ => ?_⟩
      obtain ⟨v, w'', h1, h2⟩ := h c cs
      exact ⟨v, w'', h1, stepsIn_wide.2 h2⟩
    | round l f tmps assign body => exact False.elim h
    | _ => exact h
  | halt x w' => cases x <;> exact h
theorem op_round {l n : Nat} {P : Program} {ops : Array Oper} {Q : Exit → Act → World → Prop} (hnd : ∀ (j : Nat) (o : Oper), ops[j]? = some o → ∀ c, o.op ≠ .defer c) (hQ : ∀ a w, ¬ Q .outgrown a w)
    {i : Nat} {K K' : Act → World → Prop} (hK : ∀ a w, K a w → K' a w) {a : Act} {w : World} (h : wpOp P ops Q i K a w) : wpOpIn (Fence.wide.inRound l) n P ops Q i K' a w := by
  refine wpOpIn_mono hK ?_
  unfold wpOp at h
  unfold wpOpIn
  cases ho : ops[i]? with
  | none => rw [ho] at h; exact h
  | some o =>
    rw [ho] at h
    dsimp only at h ⊢
    by_cases hw : Region.wanted o (yielded ops a.tmps) = true
    · rw [if_pos hw] at h ⊢
      rcases h with h | ⟨_, a', w', h⟩
      · refine ⟨fun _ _ => trivial, ?_⟩
        rw [Oper.semAt_eq _ _ _ (hnd i o ho)]
        exact upon_round _ h
      · exact (hQ a' w' h).elim
    · rw [if_neg hw] at h ⊢
      exact ⟨fun _ _ => trivial, h⟩
theorem any_round {l n : Nat} {P : Program} {md : Region.Mode} {ops : Array Oper} {Q : Exit → Act → World → Prop} (hnd : ∀ (j : Nat) (o : Oper), ops[j]? = some o → ∀ c, o.op ≠ .defer c) (hQ : ∀ a w, ¬ Q .outgrown a w) :
    ∀ (fuel : Nat) (listed : Array Bool) (a : Act) (w : World), wpAny P md ops Q fuel listed a w → wpAnyIn (Fence.wide.inRound l) n P md ops Q fuel listed a w
  | 0, _, _, _, h => h
  | _ + 1, _, _, _, h => ⟨h.1, fun i hi => op_round hnd hQ (fun a w => any_round hnd hQ _ _ a w) (h.2 i hi)⟩
/-- Q at the normal exit alone. -/
def onlyN (Q : Exit → Act → World → Prop) : Exit → Act → World → Prop
  | .normal, a, w => Q .normal a w
  | _, _, _ => False
theorem only_out {Q : Exit → Act → World → Prop} (e : Exit) (a : Act) (w : World) (h : onlyN Q e a w) : Q e a w := by
  cases e <;> first | exact h | exact h.elim
/-- a region of a round by the plain laws. -/
theorem region_round {l n : Nat} {P : Program} {id : Nat} {ops : List Oper} {Q : Exit → Act → World → Prop} {a : Act} {w : World} {N : Nat} (hN : ops.length = N) (hm : P.follows .mixedOrders = true)
    (hnd : (ops.all fun o => match o.op with | .defer _ => false | _ => true) = true)
    (h : wpAny P .any ops.toArray (onlyN Q) N (Array.replicate N false) a w.drew) : (Code.region id ops.toArray true).wpIn (Fence.wide.inRound l) n P Q a w := by
  subst hN
  refine wpIn_mono (wpIn_region_any hm (any_round (fun j o ho c hc => ?_) (fun _ _ h => h) _ _ _ _ h)) only_out
  have hmem : o ∈ ops := by
    have := Array.mem_of_getElem? ho
    simpa using this
  have h1 := List.all_eq_true.1 hnd o hmem
  rw [hc] at h1
  cases h1
theorem region_plain {P : Program} {id : Nat} {ops : List Oper} {Q : Exit → Act → World → Prop} {a : Act} {w : World} {N : Nat} (hN : ops.length = N) (hm : P.follows .mixedOrders = true)
    (h : wpAny P .any ops.toArray (onlyN Q) N (Array.replicate N false) a w.drew) : (Code.region id ops.toArray true).wp P Q a w := by
  subst hN
  exact wp_mono (wp_region_any hm h) only_out
end Go.Proofs.Ytiapolcpebilmaa
