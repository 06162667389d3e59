/-
  The statement of the law HistChecks: whatever the input, true; the input reads as it did. Conditions: none.
-/
import Derived.Test.YtiapolcpebilmaaBase
import Derived.Test.YtiapolcpebilmaaHistChecksW
import Derived.Test.YtiapolcpebilmaaOpenHist
namespace Go.Proofs.Ytiapolcpebilmaa.lawHistChecks
open Go.ChangeShapes Go.WideShapes Go.ChangeAt Go.RowKit

theorem law_calls {H : Type} (enc : TypeId × Value → H) (W : World) (base : Nat) (args : Array Value) (ds : List (DataW H)) (ps : List MemPlace)
    (hval : ∀ (j : Nat) t v, Try.f3.params[j]? = some t → args[j]? = some v → Value.okWide Try.prog W .any base t v)
    (hA : DataW.TrodAll enc Try.prog W 0 (fun _ => true) true Try.f3.params.toList args.toList ds ps)
    (hsz : (DataW.weightsEach Try.prog Try.f3.params.toList ds).all (· ≤ reachBytes) = true) :
    Calls Try.prog 3 args W fun e W' => e = .returned (.bool true) ∧ Below W.heap.size W W' := by
  rw [Try.params3] at hA hval hsz
  obtain ⟨v0, vs0, d0, ds0, p0, q0, hargs, rfl, rfl, h0, r0⟩ := trodAll_cons hA
  obtain ⟨rfl, rfl, rfl⟩ := trodAll_nil r0
  obtain rfl : args = #[v0] := by cases args; simp_all
  obtain ⟨A0, n0, c0, l0, rfl, hl0, hn0, hc0, wf0⟩ := open_hist (hval 0 22 v0 rfl rfl) h0
  exact lawHistChecks.walk A0 n0 c0 l0 W hl0 hc0 hn0 wf0

set_option maxRecDepth 100000 in
theorem lifted (os : Os) (started : os.Started) (H : Type) (enc : TypeId × Value → H) :
    ReturnsInHanded {} Try.checked os 3 .any (Rows.histChecksSpec.pre6 enc Try.prog Try.f3 Rows.histChecksRow.domain false) (Rows.histChecksSpec.post enc Try.prog Try.f3 false true false false) := by
  refine law_lift (C := Try.checked) (s := Rows.histChecksSpec) (tb := 4) own started (by kernel_rfl) Try.func3
    (ChangeSpec.witness6 (enc := enc) (C := Try.checked) false ⟨#[], #[.slice none 0 0], []⟩ 8 (by kernel_rfl) (by kernel_rfl) (by kernel_rfl) (by kernel_rfl)) rfl ?_ rfl Try.underlying4 laidOut ?_ ?_
  · intro ds h
    match ds, h with
    | [_], _ => rfl
  · intro t ht
    have ht' : t ∈ [22] := ht
    simp only [List.mem_cons, List.mem_nil_iff, or_false] at ht'
    rcases ht' with rfl <;> exact ⟨by kernel_rfl, of_decide_eq_true (by kernel_rfl)⟩
  · intro W base args ds ps hval hA hsz
    exact law_calls enc W base args ds ps hval hA hsz

theorem over : Rows.histChecksRow.holds Try.pinned (OpenSpec.ofChange Rows.histChecksSpec) :=
  OpenClaim.holds_of_wide 3 Try.f3 rfl rfl rfl rfl rfl rfl rfl ⟨rfl, rfl, rfl, rfl, rfl⟩ rfl rfl rfl rfl rfl (by kernel_rfl) Try.func3 (by kernel_rfl)
    (of_decide_eq_true (by kernel_rfl)) (by unfold Func.isWrapper; first | (rw [if_pos (by decide +kernel)]; kernel_rfl) | (rw [if_neg (by decide +kernel)]; exact ⟨rfl, rfl⟩))
    (fun os started H enc _ => lifted os started H enc)

/-- The given statement. -/
theorem proved : Rows.HistChecksSaid := over
#print axioms proved
end Go.Proofs.Ytiapolcpebilmaa.lawHistChecks
