/-
  How two versions are compared by the model's ==. Conditions: none.
-/
import Derived.Test.YtiapolcpebilmaaChecked
import Derived.Test.YtiapolcpebilmaaVers
import Derived.WalkKit
namespace Go.Proofs.Ytiapolcpebilmaa
open Go.RowKit
set_option linter.unusedVariables false

theorem bytes_inj {a b : ByteArray} (h : a.toList = b.toList) : a = b := by
  rw [ByteArray.toList_eq, ByteArray.toList_eq] at h
  obtain ⟨⟨x⟩⟩ := a
  obtain ⟨⟨y⟩⟩ := b
  simp at h
  rw [h]
/-- are two versions the same, field by field, as the model asks. -/
def veq (x y : V) : Bool := x.key.toList == y.key.toList && (x.val.toList == y.val.toList && (x.gone == y.gone && (x.ts == y.ts && (x.dc == y.dc && x.tx == y.tx))))
theorem veq_iff (x y : V) : veq x y = true ↔ x = y := by
  unfold veq
  simp only [Bool.and_eq_true, beq_iff_eq]
  constructor
  · intro ⟨h1, h2, h3, h4, h5, h6⟩
    exact V.ext (bytes_inj h1) (bytes_inj h2) h3 h4 h5 h6
  · rintro rfl
    exact ⟨rfl, rfl, rfl, rfl, rfl, rfl⟩
set_option maxHeartbeats 1000000 in
theorem ver_eq (x y : V) (w : World) : (binOp .eql 35 (.agg #[.string x.key, .string x.val, .bool x.gone, .int .u64 x.ts, .int .i64 x.dc, .int .i64 x.tx]) (.agg #[.string y.key, .string y.val, .bool y.gone, .int .u64 y.ts, .int .i64 y.dc, .int .i64 y.tx])).run Try.prog w = .ok (.bool (veq x y)) w := by
  unfold veq
  cases h0 : (x.key.toList == y.key.toList) with
  | false => go_simp
  | true =>
    cases h1 : (x.val.toList == y.val.toList) with
    | false => go_simp
    | true =>
      cases h2 : (x.gone == y.gone) with
      | false => go_simp
      | true =>
        cases h3 : (x.ts == y.ts) with
        | false => go_simp
        | true =>
          cases h4 : (x.dc == y.dc) with
          | false => go_simp
          | true =>
            cases h5 : (x.tx == y.tx) with
            | false => go_simp
            | true =>
              go_simp
set_option maxHeartbeats 1000000 in
theorem ver_neq (x y : V) (w : World) : (binOp .neq 35 (.agg #[.string x.key, .string x.val, .bool x.gone, .int .u64 x.ts, .int .i64 x.dc, .int .i64 x.tx]) (.agg #[.string y.key, .string y.val, .bool y.gone, .int .u64 y.ts, .int .i64 y.dc, .int .i64 y.tx])).run Try.prog w = .ok (.bool (!veq x y)) w := by
  unfold veq
  cases h0 : (x.key.toList == y.key.toList) with
  | false => go_simp
  | true =>
    cases h1 : (x.val.toList == y.val.toList) with
    | false => go_simp
    | true =>
      cases h2 : (x.gone == y.gone) with
      | false => go_simp
      | true =>
        cases h3 : (x.ts == y.ts) with
        | false => go_simp
        | true =>
          cases h4 : (x.dc == y.dc) with
          | false => go_simp
          | true =>
            cases h5 : (x.tx == y.tx) with
            | false => go_simp
            | true =>
              go_simp
theorem veq_same (x : V) : veq x x = true := (veq_iff x x).2 rfl
end Go.Proofs.Ytiapolcpebilmaa
