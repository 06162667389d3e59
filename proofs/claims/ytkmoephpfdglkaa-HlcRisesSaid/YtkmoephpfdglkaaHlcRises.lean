/-
  The statement of the law HlcRises: whatever the input, true; the input reads as it did. Conditions: none.
-/
import Derived.Test.YtkmoephpfdglkaaBase
import Derived.Test.YtkmoephpfdglkaaHlcRisesW
namespace Go.Proofs.Ytkmoephpfdglkaa.lawHlcRises
open Go.ChangeShapes Go.WideShapes Go.ChangeAt Go.RowKit

theorem law_calls {H : Type} (enc : TypeId × Value → H) (W : World) (base : Nat) (args : Array Value) (ds : List (DataW H)) (ps : List MemPlace)
    (hval : ∀ (j : Nat) t v, Try.f5.params[j]? = some t → args[j]? = some v → Value.okWide Try.prog W .any base t v)
    (hA : DataW.TrodAll enc Try.prog W 0 (fun _ => true) true Try.f5.params.toList args.toList ds ps)
    (_ : (DataW.weightsEach Try.prog Try.f5.params.toList ds).all (· ≤ reachBytes) = true) :
    Calls Try.prog 5 args W fun e W' => e = .returned (.bool true) ∧ Below W.heap.size W W' := by
  rw [Try.params5] at hA hval
  obtain ⟨v0, vs0, d0, ds0, p0, q0, hargs, rfl, rfl, h0, r0⟩ := trodAll_cons hA
  obtain ⟨v1, vs1, d1, ds1, p1, q1, rfl, rfl, rfl, h1, r1⟩ := trodAll_cons r0
  obtain ⟨rfl, rfl, rfl⟩ := trodAll_nil r1
  obtain rfl : args = #[v0, v1] := by cases args; simp_all
  obtain ⟨A, n, c, zs, rfl, hz, hn, hcA, wz⟩ := open_intslice Try.underlying30 Try.underlying3 (by kernel_rfl) (hval 0 30 v0 rfl rfl) h0
  obtain ⟨B, m, d, ys, rfl, hy, hm, hcB, wy⟩ := open_intslice Try.underlying31 Try.underlying22 (by kernel_rfl) (hval 1 31 v1 rfl rfl) h1
  exact (walk A n c zs B m d ys W hz hn hcA hy hm hcB wy).mono fun e W' ⟨he, hw⟩ => ⟨he, hw ▸ Below.refl _ _⟩

set_option maxRecDepth 100000 in
theorem lifted (os : Os) (started : os.Started) (H : Type) (enc : TypeId × Value → H) :
    ReturnsInHanded {} Try.checked os 5 .any (Rows.hlcRisesSpec.pre6 enc Try.prog Try.f5 Rows.hlcRisesRow.domain false) (Rows.hlcRisesSpec.post enc Try.prog Try.f5 false true false false) := by
  refine law_lift (C := Try.checked) (s := Rows.hlcRisesSpec) (tb := 4) own started (by kernel_rfl) Try.func5
    (ChangeSpec.witness6 (enc := enc) (C := Try.checked) false ⟨#[], #[.slice none 0 0, .slice none 0 0], []⟩ 8 (by kernel_rfl) (by kernel_rfl) (by kernel_rfl) (by kernel_rfl)) rfl ?_ rfl Try.underlying4 laidOut ?_ ?_
  · intro ds h
    match ds, h with
    | [_, _], _ => rfl
  · intro t ht
    have ht' : t ∈ [30, 31] := ht
    simp only [List.mem_cons, List.mem_nil_iff, or_false] at ht'
    rcases ht' with rfl | rfl <;> exact ⟨by kernel_rfl, of_decide_eq_true (by kernel_rfl)⟩
  · intro W base args ds ps hval hA hsz
    exact law_calls enc W base args ds ps hval hA hsz

theorem over : Rows.hlcRisesRow.holds Try.pinned (OpenSpec.ofChange Rows.hlcRisesSpec) :=
  OpenClaim.holds_of_wide 5 Try.f5 rfl rfl rfl rfl rfl rfl rfl ⟨rfl, rfl, rfl, rfl, rfl⟩ rfl rfl rfl rfl rfl (by kernel_rfl) Try.func5 (by kernel_rfl)
    (of_decide_eq_true (by kernel_rfl)) (by unfold Func.isWrapper; first | (rw [if_pos (by decide +kernel)]; kernel_rfl) | (rw [if_neg (by decide +kernel)]; exact ⟨rfl, rfl⟩))
    (fun os started H enc _ => lifted os started H enc)

/-- The given statement. -/
theorem proved : Rows.HlcRisesSaid := over
#print axioms proved
end Go.Proofs.Ytkmoephpfdglkaa.lawHlcRises
