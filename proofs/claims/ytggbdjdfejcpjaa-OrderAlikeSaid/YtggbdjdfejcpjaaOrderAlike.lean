/-
  The statement of the law OrderAlike: whatever the input, true; the input reads as it did. Conditions: none.
-/
import Derived.Test.YtggbdjdfejcpjaaBase
import Derived.Test.YtggbdjdfejcpjaaOrderAlikeW
import Derived.Test.YtggbdjdfejcpjaaOpenAlike
namespace Go.Proofs.Ytggbdjdfejcpjaa.lawOrderAlike
open Go.ChangeShapes Go.WideShapes Go.ChangeAt Go.RowKit

theorem law_calls {H : Type} (enc : TypeId × Value → H) (W : World) (base : Nat) (args : Array Value) (ds : List (DataW H)) (ps : List MemPlace)
    (hval : ∀ (j : Nat) t v, Try.f5.params[j]? = some t → args[j]? = some v → Value.okWide Try.prog W .any base t v)
    (hA : DataW.TrodAll enc Try.prog W 0 (fun _ => true) true Try.f5.params.toList args.toList ds ps)
    (hsz : (DataW.weightsEach Try.prog Try.f5.params.toList ds).all (· ≤ reachBytes) = true) :
    Calls Try.prog 5 args W fun e W' => e = .returned (.bool true) ∧ Below W.heap.size W W' := by
  rw [Try.params5] at hA hval hsz
  obtain ⟨v0, vs0, d0, ds0, p0, q0, hargs, rfl, rfl, h0, r0⟩ := trodAll_cons hA
  obtain ⟨v1, vs1, d1, ds1, p1, q1, rfl, rfl, rfl, h1, r1⟩ := trodAll_cons r0
  obtain ⟨v2, vs2, d2, ds2, p2, q2, rfl, rfl, rfl, h2, r2⟩ := trodAll_cons r1
  obtain ⟨rfl, rfl, rfl⟩ := trodAll_nil r2
  obtain rfl : args = #[v0, v1, v2] := by cases args; simp_all
  obtain ⟨A0, n0, c0, l0, rfl, hl0, hn0, hc0, wf0⟩ := open_recs (hval 0 26 v0 rfl rfl) h0
  obtain ⟨A1, n1, c1, l1, rfl, hl1, hn1, hc1, wf1⟩ := open_p2s (hval 1 52 v1 rfl rfl) h1
  obtain ⟨a2, rfl, rfl, rfl, w2⟩ := open_int Try.underlying27 (hval 2 27 v2 rfl rfl) h2
  have b2 := bd_u64 w2
  exact lawOrderAlike.walk A0 A1 n0 c0 n1 c1 a2 l0 l1 W hl0 hn0 hc0 wf0 hl1 hn1 hc1 b2

set_option maxRecDepth 100000 in
theorem lifted (os : Os) (started : os.Started) (H : Type) (enc : TypeId × Value → H) :
    ReturnsInHanded {} Try.checked os 5 .any (Rows.orderAlikeSpec.pre6 enc Try.prog Try.f5 Rows.orderAlikeRow.domain false) (Rows.orderAlikeSpec.post enc Try.prog Try.f5 false true false false) := by
  refine law_lift (C := Try.checked) (s := Rows.orderAlikeSpec) (tb := 4) own started (by kernel_rfl) Try.func5
    (ChangeSpec.witness6 (enc := enc) (C := Try.checked) false ⟨#[], #[.slice none 0 0, .slice none 0 0, .int .u64 0], []⟩ 8 (by kernel_rfl) (by kernel_rfl) (by kernel_rfl) (by kernel_rfl)) rfl ?_ rfl Try.underlying4 laidOut ?_ ?_
  · intro ds h
    match ds, h with
    | [_, _, _], _ => rfl
  · intro t ht
    have ht' : t ∈ [26, 52, 27] := ht
    simp only [List.mem_cons, List.mem_nil_iff, or_false] at ht'
    rcases ht' with rfl | rfl | rfl <;> exact ⟨by kernel_rfl, of_decide_eq_true (by kernel_rfl)⟩
  · intro W base args ds ps hval hA hsz
    exact law_calls enc W base args ds ps hval hA hsz

theorem over : Rows.orderAlikeRow.holds Try.pinned (OpenSpec.ofChange Rows.orderAlikeSpec) :=
  OpenClaim.holds_of_wide 5 Try.f5 rfl rfl rfl rfl rfl rfl rfl ⟨rfl, rfl, rfl, rfl, rfl⟩ rfl rfl rfl rfl rfl (by kernel_rfl) Try.func5 (by kernel_rfl)
    (of_decide_eq_true (by kernel_rfl)) (by unfold Func.isWrapper; first | (rw [if_pos (by decide +kernel)]; kernel_rfl) | (rw [if_neg (by decide +kernel)]; exact ⟨rfl, rfl⟩))
    (fun os started H enc _ => lifted os started H enc)

/-- The given statement. -/
theorem proved : Rows.OrderAlikeSaid := over
#print axioms proved
end Go.Proofs.Ytggbdjdfejcpjaa.lawOrderAlike
