/-
  The statement of the law OrderOwns: whatever the input, true; the input reads as it did. Conditions: none.
-/
import Derived.Test.YtggbdjdfejcpjaaBase
import Derived.Test.YtggbdjdfejcpjaaOrderOwnsW
import Derived.Test.YtggbdjdfejcpjaaOpenRec
namespace Go.Proofs.Ytggbdjdfejcpjaa.lawOrderOwns
open Go.ChangeShapes Go.WideShapes Go.ChangeAt Go.RowKit

theorem law_calls {H : Type} (enc : TypeId × Value → H) (W : World) (base : Nat) (args : Array Value) (ds : List (DataW H)) (ps : List MemPlace)
    (hval : ∀ (j : Nat) t v, Try.f6.params[j]? = some t → args[j]? = some v → Value.okWide Try.prog W .any base t v)
    (hA : DataW.TrodAll enc Try.prog W 0 (fun _ => true) true Try.f6.params.toList args.toList ds ps)
    (hsz : (DataW.weightsEach Try.prog Try.f6.params.toList ds).all (· ≤ reachBytes) = true) :
    Calls Try.prog 6 args W fun e W' => e = .returned (.bool true) ∧ Below W.heap.size W W' := by
  rw [Try.params6] at hA hval hsz
  obtain ⟨v0, vs0, d0, ds0, p0, q0, hargs, rfl, rfl, h0, r0⟩ := trodAll_cons hA
  obtain ⟨v1, vs1, d1, ds1, p1, q1, rfl, rfl, rfl, h1, r1⟩ := trodAll_cons r0
  obtain ⟨rfl, rfl, rfl⟩ := trodAll_nil r1
  obtain rfl : args = #[v0, v1] := by cases args; simp_all
  obtain ⟨x0, rfl, wx0⟩ := open_rec (hval 0 32 v0 rfl rfl) h0
  obtain ⟨a1, rfl, rfl, rfl, w1⟩ := open_int Try.underlying3 (hval 1 3 v1 rfl rfl) h1
  have b1 := bd_i64 w1
  exact lawOrderOwns.walk x0.r x0.D x0.c a1 _ wx0.le wx0.fit wx0.D wx0.nn wx0.ts

set_option maxRecDepth 100000 in
theorem lifted (os : Os) (started : os.Started) (H : Type) (enc : TypeId × Value → H) :
    ReturnsInHanded {} Try.checked os 6 .any (Rows.orderOwnsSpec.pre6 enc Try.prog Try.f6 Rows.orderOwnsRow.domain false) (Rows.orderOwnsSpec.post enc Try.prog Try.f6 false true false false) := by
  refine law_lift (C := Try.checked) (s := Rows.orderOwnsSpec) (tb := 4) own started (by kernel_rfl) Try.func6
    (ChangeSpec.witness6 (enc := enc) (C := Try.checked) false ⟨#[], #[.agg #[.int .u64 0, .int .i64 0, .int .i64 0, .slice none 0 0], .int .i64 0], []⟩ 8 (by kernel_rfl) (by kernel_rfl) (by kernel_rfl) (by kernel_rfl)) rfl ?_ rfl Try.underlying4 laidOut ?_ ?_
  · intro ds h
    match ds, h with
    | [_, _], _ => rfl
  · intro t ht
    have ht' : t ∈ [32, 3] := ht
    simp only [List.mem_cons, List.mem_nil_iff, or_false] at ht'
    rcases ht' with rfl | rfl <;> exact ⟨by kernel_rfl, of_decide_eq_true (by kernel_rfl)⟩
  · intro W base args ds ps hval hA hsz
    exact law_calls enc W base args ds ps hval hA hsz

theorem over : Rows.orderOwnsRow.holds Try.pinned (OpenSpec.ofChange Rows.orderOwnsSpec) :=
  OpenClaim.holds_of_wide 6 Try.f6 rfl rfl rfl rfl rfl rfl rfl ⟨rfl, rfl, rfl, rfl, rfl⟩ rfl rfl rfl rfl rfl (by kernel_rfl) Try.func6 (by kernel_rfl)
    (of_decide_eq_true (by kernel_rfl)) (by unfold Func.isWrapper; first | (rw [if_pos (by decide +kernel)]; kernel_rfl) | (rw [if_neg (by decide +kernel)]; exact ⟨rfl, rfl⟩))
    (fun os started H enc _ => lifted os started H enc)

/-- The given statement. -/
theorem proved : Rows.OrderOwnsSaid := over
#print axioms proved
end Go.Proofs.Ytggbdjdfejcpjaa.lawOrderOwns
