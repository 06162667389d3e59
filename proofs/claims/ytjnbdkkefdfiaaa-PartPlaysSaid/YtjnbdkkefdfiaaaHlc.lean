/-
  What the clock's functions compute, as plain functions of integers. Conditions: none.
-/
import Derived.WalkKit
import Derived.Laws.BitsAllLaws
namespace Go.Proofs.Ytjnbdkkefdfiaaa

/-- the clock's next stamp, and the error. -/
def aft (t ms : Int) : Int × Int :=
  if ms < 0 ∨ 281474976710655 < ms then (0, 1) else if t < ms * 65536 then (ms * 65536, 0) else if t = 18446744073709551615 then (0, 10) else (t + 1, 0)
def rai (t ms : Int) : Int × Int :=
  if ms < 0 ∨ 281474976710655 < ms then (0, 1) else (max t (ms * 65536), 0)
def pck (ms lo : Int) : Int × Int :=
  if ms < 0 ∨ 281474976710655 < ms ∨ lo < 0 ∨ 65535 < lo then (0, 1) else (ms * 65536 + lo, 0)

theorem aft_spec (t z : Int) (h0 : t ≤ 18446744073709551615) (h1 : 0 ≤ z) (h2 : z ≤ 281474976710655) :
    (aft t z = (z * 65536, 0) ∧ t < z * 65536) ∨ (aft t z = (0, 10) ∧ t = 18446744073709551615 ∧ z * 65536 ≤ t) ∨ (aft t z = (t + 1, 0) ∧ t ≤ 18446744073709551614 ∧ z * 65536 ≤ t) := by
  unfold aft
  rw [if_neg (by omega)]
  by_cases h : t < z * 65536
  · exact .inl ⟨if_pos h, h⟩
  · rw [if_neg h]
    by_cases k : t = 18446744073709551615
    · exact .inr (.inl ⟨if_pos k, k, by omega⟩)
    · exact .inr (.inr ⟨if_neg k, by omega, by omega⟩)
theorem aft_bad (t z : Int) (h : z < 0 ∨ 281474976710655 < z) : aft t z = (0, 1) := if_pos h
theorem or_join (ms lo : Int) (a : 0 ≤ ms) (b : ms ≤ 281474976710655) (c : 0 ≤ lo) (d : lo ≤ 65535) : bits .or .u64 (ms * 65536) lo = ms * 65536 + lo := by
  rw [u64_or _ _ (by omega) (by omega) c (by omega), nat_join 16 _ _ (by omega) (by omega)]
  omega
theorem and_low (t : Int) (a : 0 ≤ t) (b : t ≤ 18446744073709551615) : bits .and .u64 t 65535 = t % 65536 := by
  rw [u64_and t 65535 a (by omega) (by omega) (by omega)]
  rw [show (65535 : Int).toNat = 2 ^ 16 - 1 from rfl, Nat.and_two_pow_sub_one_eq_mod]
  omega
end Go.Proofs.Ytjnbdkkefdfiaaa
