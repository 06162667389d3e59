/-
  Versions, marks, and lists of versions, as plain data: what the chain's functions compute. No program in sight; no condition.
-/
import Derived.RowKit
import Derived.Laws.StructEq
namespace Go.Proofs.Ytiapolcpebilmaa

/-- A version. -/
structure V where
  key : ByteArray
  val : ByteArray
  gone : Bool
  ts : Int
  dc : Int
  tx : Int

theorem V.ext {a b : V} (h1 : a.key = b.key) (h2 : a.val = b.val) (h3 : a.gone = b.gone) (h4 : a.ts = b.ts) (h5 : a.dc = b.dc) (h6 : a.tx = b.tx) : a = b := by
  cases a; cases b; simp_all

def V.cells (v : V) : List Value := [.string v.key, .string v.val, .bool v.gone, .int .u64 v.ts, .int .i64 v.dc, .int .i64 v.tx]
def V.v (v : V) : Value := .agg #[.string v.key, .string v.val, .bool v.gone, .int .u64 v.ts, .int .i64 v.dc, .int .i64 v.tx]
/-- The version's numbers are in their kinds. -/
def V.wf (v : V) : Prop := (0 ≤ v.ts ∧ v.ts < 18446744073709551616) ∧ (-9223372036854775808 ≤ v.dc ∧ v.dc < 9223372036854775808) ∧ (-9223372036854775808 ≤ v.tx ∧ v.tx < 9223372036854775808)

/-- A mark's order. -/
def mlt (a b c x y z : Int) : Bool := decide (a < x ∨ (a = x ∧ (b < y ∨ (b = y ∧ c < z))))
def mcmp (a b c x y z : Int) : Int := if mlt a b c x y z = true then -1 else if mlt x y z a b c = true then 1 else 0
def vlt (a b : V) : Bool := mlt a.ts a.dc a.tx b.ts b.dc b.tx

theorem vlt_irrefl (a : V) : vlt a a = false := by unfold vlt mlt; simp
theorem vlt_trans {a b c : V} (h : vlt a b = true) (k : vlt b c = true) : vlt a c = true := by
  unfold vlt mlt at *; simp only [decide_eq_true_eq] at *; omega
theorem vlt_asymm {a b : V} (h : vlt a b = true) : vlt b a = false := by
  unfold vlt mlt at *; simp only [decide_eq_true_eq, decide_eq_false_iff_not] at *; omega
/-- not below, and below: below. -/
theorem vlt_of_not {a b c : V} (h : vlt b a = false) (k : vlt b c = true) : vlt a c = true := by
  unfold vlt mlt at *; simp only [decide_eq_true_eq, decide_eq_false_iff_not] at *; omega
theorem vlt_of_not' {a b c : V} (h : vlt a b = true) (k : vlt c b = false) : vlt a c = true := by
  unfold vlt mlt at *; simp only [decide_eq_true_eq, decide_eq_false_iff_not] at *; omega
theorem not_vlt_trans {a b c : V} (h : vlt b a = false) (k : vlt c b = false) : vlt c a = false := by
  unfold vlt mlt at *; simp only [decide_eq_false_iff_not] at *; omega
theorem vlt_ts {a b : V} (h : vlt b a = false) : a.ts ≤ b.ts := by
  unfold vlt mlt at *; simp only [decide_eq_false_iff_not] at *; omega
/-- the marks are the same. -/
def vsame (a b : V) : Bool := !vlt a b && !vlt b a
theorem vsame_iff (a b : V) : vsame a b = true ↔ a.ts = b.ts ∧ a.dc = b.dc ∧ a.tx = b.tx := by
  unfold vsame vlt mlt; simp only [Bool.and_eq_true, Bool.not_eq_true', decide_eq_false_iff_not]; omega
theorem mcmp_zero (a b c x y z : Int) : mcmp a b c x y z = 0 ↔ a = x ∧ b = y ∧ c = z := by
  unfold mcmp mlt; simp only [decide_eq_true_eq]; repeat' split
  all_goals omega

/-! ### put -/
/-- the first of the list with the version's mark. -/
def clash (l : List V) (v : V) : Option V := l.find? fun x => vsame x v
/-- the version behind all that are not above it. -/
def ins : List V → V → List V
  | [], v => [v]
  | x :: l, v => if vlt v x then v :: x :: l else x :: ins l v

/-! ### at -/
/-- the place of what is seen at a time among the first k; none: nothing. -/
def seenTo (l : List V) (snap : Int) : Nat → Option Nat
  | 0 => none
  | k + 1 => match l[k]?, seenTo l snap k with
    | some x, none => if x.ts ≤ snap then some k else none
    | some x, some b => match l[b]? with
      | some y => if x.ts ≤ snap ∧ vlt y x = true then some k else some b
      | none => some b
    | none, r => r
end Go.Proofs.Ytiapolcpebilmaa
