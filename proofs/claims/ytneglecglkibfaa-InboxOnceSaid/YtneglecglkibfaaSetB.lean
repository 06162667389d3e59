/-
  A map from integers to bools that the call made, told by a function. Conditions: none.
-/
import Derived.Test.YtneglecglkibfaaSettle
import Derived.Maps.OwnOps
namespace Go.Proofs.Ytneglecglkibfaa
open Go.RowKit Go.Maps
set_option linter.unusedVariables false

theorem plainElem_bool_inv {H : Type} {P : Program} {e : TypeId} (he : P.underlying e = some .bool) {v : Value} {z : DataW H × List MemPlace} (h : plainElem P e v = some z) : ∃ x, v = .bool x ∧ z = (.lit (.bool x), []) := by
  unfold plainElem at h
  rw [he] at h
  cases v <;> simp at h
  subst h
  exact ⟨_, rfl, rfl⟩
/-- block b is a map of at most n entries that answers S. -/
def SetB (w : World) (b n : Nat) (S : Int → Bool) : Prop := ∃ D : DataW Unit, w.ownsMap Try.prog 3 (plainElem Try.prog 4) b n D ∧ ∀ x : Int, D.atKey (.int .i64 x) (.lit (.bool false)) = .lit (.bool (S x))
theorem zeroB (w : World) : (zeroValue 4).run Try.prog w = .ok (.bool false) w := by kernel_rfl
theorem SetB.made (w : World) : SetB (w.alloc (.map #[] 0)) w.heap.size 0 (fun _ => false) := ⟨.map [], World.ownsMap_made w Try.prog _ _, fun _ => rfl⟩
theorem SetB.turn {T : Nat → Prop} {w w' : World} {b n : Nat} {S : Int → Bool} (h : SetB w b n S) (ht : Turns T w w') (hn : ¬ T b) : SetB w' b n S := by
  obtain ⟨D, h1, h2⟩ := h
  exact ⟨D, ht.map h1 hn, h2⟩
theorem SetB.lt {w : World} {b n : Nat} {S : Int → Bool} (h : SetB w b n S) : b < w.heap.size := by
  obtain ⟨D, h1, _⟩ := h
  exact h1.lt
theorem SetB.look {w : World} {b n : Nat} {S : Int → Bool} (h : SetB w b n S) {x : Int} (wx : (Lit.int .i64 x).wf = true) : (Instr.lookup 41 (.map (some b)) (.int .i64 x) false).run Try.prog w = .ok (.bool (S x)) w := by
  obtain ⟨D, h1, h2⟩ := h
  obtain ⟨v, ps, hrun, hv⟩ := h1.lookup lawI Try.underlying41 (zeroB w) (plainElem_bool Try.underlying4 false) (keyI wx)
  obtain ⟨y, rfl, hz⟩ := plainElem_bool_inv Try.underlying4 hv
  simp only [Prod.mk.injEq] at hz
  rw [h2 x] at hz
  have e := hz.1
  simp only [DataW.lit.injEq, Lit.bool.injEq] at e
  rw [hrun, e]
theorem SetB.put {w : World} {b n : Nat} {S : Int → Bool} (h : SetB w b n S) (hn : n ≤ 1000) {x : Int} (wx : (Lit.int .i64 x).wf = true) (v : Bool) :
    ∃ w', (Instr.mapUpdate 41 (.map (some b)) (.int .i64 x) (.bool v)).run Try.prog w = .ok () w' ∧ SetB w' b (n + 1) (fun y => if y = x then v else S y) ∧ w.mapTurned w' b := by
  obtain ⟨D, h1, h2⟩ := h
  obtain ⟨w1, hrun, hown1, hturn⟩ := h1.store lawI Try.underlying41 (by unfold maxLen; omega) (keyI wx) (plainElem_bool Try.underlying4 v)
  refine ⟨w1, hrun, ⟨_, hown1, fun y => ?_⟩, hturn⟩
  show _ = DataW.lit (.bool (if y = x then v else S y))
  by_cases e : y = x
  · subst e
    rw [if_pos rfl]
    exact atKey_put_same (k := .int .i64 y) (h1.tidy lawI).isMap trivial _ _
  · rw [if_neg e, atKey_put_other (key_inj e), h2]
end Go.Proofs.Ytneglecglkibfaa
