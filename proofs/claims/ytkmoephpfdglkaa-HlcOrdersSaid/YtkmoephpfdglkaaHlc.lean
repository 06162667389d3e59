/-
  What the clock's functions compute, as plain functions of integers. Conditions: none.
-/
import Derived.WalkKit
import Derived.Laws.BitsAllLaws
namespace Go.Proofs.Ytkmoephpfdglkaa

/-- the clock's next stamp, and the error. -/
def aft (t ms : Int) : Int × Int :=
  if ms < 0 ∨ 281474976710655 < ms then (0, 1) else if t < ms * 65536 then (ms * 65536, 0) else if t = 18446744073709551615 then (0, 10) else (t + 1, 0)
def rai (t ms : Int) : Int × Int :=
  if ms < 0 ∨ 281474976710655 < ms then (0, 1) else (max t (ms * 65536), 0)
def pck (ms lo : Int) : Int × Int :=
  if ms < 0 ∨ 281474976710655 < ms ∨ lo < 0 ∨ 65535 < lo then (0, 1) else (ms * 65536 + lo, 0)

theorem or_join (ms lo : Int) (a : 0 ≤ ms) (b : ms ≤ 281474976710655) (c : 0 ≤ lo) (d : lo ≤ 65535) : bits .or .u64 (ms * 65536) lo = ms * 65536 + lo := by
  rw [u64_or _ _ (by omega) (by omega) c (by omega), nat_join 16 _ _ (by omega) (by omega)]
  omega
theorem and_low (t : Int) (a : 0 ≤ t) (b : t ≤ 18446744073709551615) : bits .and .u64 t 65535 = t % 65536 := by
  rw [u64_and t 65535 a (by omega) (by omega) (by omega)]
  rw [show (65535 : Int).toNat = 2 ^ 16 - 1 from rfl, Nat.and_two_pow_sub_one_eq_mod]
  omega
end Go.Proofs.Ytkmoephpfdglkaa
