/-
  How a history is judged, step by step. No program in sight; no condition.
-/
import Derived.Test.YtiapolcpebilmaaWantP
import Derived.Test.YtiapolcpebilmaaVerEq
namespace Go.Proofs.Ytiapolcpebilmaa
open Go.RowKit Go.ChangeShapes Go.WideShapes Go.Deep Go.Maps
set_option linter.unusedVariables false

def twin (a b : Txn) : Bool := a.ts == b.ts && (a.dc == b.dc && a.tx == b.tx)
/-- what is wrong between a transaction and one before it. -/
def pairF (a b : Txn) : Int := if (a.has && b.has && twin a b) = true then 1 else if (b.cl == a.cl && (decide (a.sn < b.sn) || (a.has && b.has && decide (a.ts ≤ b.ts)))) = true then 2 else 0
def rowF (l : List Txn) (a : Txn) : Nat → Int
  | 0 => 0
  | k + 1 => if rowF l a k ≠ 0 then rowF l a k else match l[k]? with | some b => pairF a b | none => 0
def ownF (a : Txn) : Int := if (a.has && decide (a.ts ≤ a.sn)) = true then 2 else 0
def txF (l : List Txn) (i : Nat) (a : Txn) : Int := if rowF l a i ≠ 0 then rowF l a i else ownF a
def markF (l : List Txn) : Nat → Option (Int × Nat)
  | 0 => none
  | i + 1 => match markF l i with
    | some r => some r
    | none => match l[i]? with | some a => if txF l i a ≠ 0 then some (txF l i a, i) else none | none => none
/-- is a read another than what is seen? -/
def bad (l : List Txn) (i : Nat) (r : Rd) : Bool := match want l i r.key with | none => r.fd | some v => !r.fd || !veq v r.v
def readF (l : List Txn) : Nat → Option Nat
  | 0 => none
  | i + 1 => match readF l i with
    | some r => some r
    | none => match l[i]? with | some a => if a.rds.any (bad l i) = true then some i else none | none => none
/-- the first fault, where. -/
def check (l : List Txn) : Int × Int := match markF l l.length with
  | some r => (r.1, (r.2 : Int))
  | none => match readF l l.length with | some i => (3, (i : Int)) | none => (0, -1)
theorem rowF_step {l : List Txn} {a b : Txn} {k : Nat} (hb : l[k]? = some b) (h : rowF l a k = 0) : rowF l a (k + 1) = pairF a b := by
  show (if rowF l a k ≠ 0 then rowF l a k else match l[k]? with | some b => pairF a b | none => 0) = _
  rw [h, hb]; simp
theorem rowF_stays {l : List Txn} {a : Txn} {c : Int} (hc : c ≠ 0) {k : Nat} (h : rowF l a k = c) : ∀ i, k ≤ i → rowF l a i = c := by
  intro i hi
  induction i with
  | zero => obtain rfl : k = 0 := by omega
            exact h
  | succ i ih =>
    by_cases e : k = i + 1
    · rw [← e]; exact h
    · have h' := ih (by omega)
      show (if rowF l a i ≠ 0 then rowF l a i else match l[i]? with | some b => pairF a b | none => 0) = _
      rw [h', if_pos hc]
theorem markF_step {l : List Txn} {a : Txn} {k : Nat} (ha : l[k]? = some a) (h : markF l k = none) : markF l (k + 1) = if txF l k a ≠ 0 then some (txF l k a, k) else none := by
  show (match markF l k with | some r => some r | none => match l[k]? with | some a => if txF l k a ≠ 0 then some (txF l k a, k) else none | none => none) = _
  rw [h, ha]
theorem markF_stays {l : List Txn} {r : Int × Nat} {k : Nat} (h : markF l k = some r) : ∀ i, k ≤ i → markF l i = some r := by
  intro i hi
  induction i with
  | zero => obtain rfl : k = 0 := by omega
            exact h
  | succ i ih =>
    by_cases e : k = i + 1
    · rw [← e]; exact h
    · have h' := ih (by omega)
      show (match markF l i with | some r => some r | none => match l[i]? with | some a => if txF l i a ≠ 0 then some (txF l i a, i) else none | none => none) = _
      rw [h']
theorem readF_step {l : List Txn} {a : Txn} {k : Nat} (ha : l[k]? = some a) (h : readF l k = none) : readF l (k + 1) = if a.rds.any (bad l k) = true then some k else none := by
  show (match readF l k with | some r => some r | none => match l[k]? with | some a => if a.rds.any (bad l k) = true then some k else none | none => none) = _
  rw [h, ha]
theorem readF_stays {l : List Txn} {r : Nat} {k : Nat} (h : readF l k = some r) : ∀ i, k ≤ i → readF l i = some r := by
  intro i hi
  induction i with
  | zero => obtain rfl : k = 0 := by omega
            exact h
  | succ i ih =>
    by_cases e : k = i + 1
    · rw [← e]; exact h
    · have h' := ih (by omega)
      show (match readF l i with | some r => some r | none => match l[i]? with | some a => if a.rds.any (bad l i) = true then some i else none | none => none) = _
      rw [h']
theorem check_mark {l : List Txn} {a : Txn} {k : Nat} {c : Int} (ha : l[k]? = some a) (h : markF l k = none) (hc : txF l k a = c) (h0 : c ≠ 0) : check l = (c, (k : Int)) := by
  have h1 := markF_step ha h
  rw [hc, if_pos h0] at h1
  unfold check
  rw [markF_stays h1 l.length (List.getElem?_eq_some_iff.1 ha).1]
theorem check_pair {l : List Txn} {a b : Txn} {k m : Nat} {c : Int} (ha : l[k]? = some a) (h : markF l k = none) (hb : l[m]? = some b) (hm : m < k) (h2 : rowF l a m = 0) (hc : pairF a b = c) (h0 : c ≠ 0) : check l = (c, (k : Int)) := by
  have h3 := rowF_step hb h2
  rw [hc] at h3
  have h4 := rowF_stays h0 h3 k hm
  exact check_mark ha h (by unfold txF; rw [h4, if_pos h0]) h0
theorem check_own {l : List Txn} {a : Txn} {k : Nat} (ha : l[k]? = some a) (h : markF l k = none) (h2 : rowF l a k = 0) (hc : (a.has && decide (a.ts ≤ a.sn)) = true) : check l = (2, (k : Int)) :=
  check_mark ha h (by unfold txF ownF; rw [h2, hc]; simp) (by omega)
theorem mark_none {l : List Txn} {a : Txn} {k : Nat} (ha : l[k]? = some a) (h : markF l k = none) (h2 : rowF l a k = 0) (hc : (a.has && decide (a.ts ≤ a.sn)) = false) : markF l (k + 1) = none := by
  rw [markF_step ha h]
  unfold txF ownF; rw [h2, hc]; simp
theorem check_read {l : List Txn} {a : Txn} {k m : Nat} {r : Rd} (h : markF l l.length = none) (h1 : readF l k = none) (ha : l[k]? = some a) (hr : a.rds[m]? = some r) (hb : bad l k r = true) : check l = (3, (k : Int)) := by
  have h2 := readF_step ha h1
  rw [if_pos (List.any_eq_true.2 ⟨r, List.mem_of_getElem? hr, hb⟩)] at h2
  unfold check
  rw [h, readF_stays h2 l.length (List.getElem?_eq_some_iff.1 ha).1]
theorem read_none {l : List Txn} {a : Txn} {k : Nat} (h1 : readF l k = none) (ha : l[k]? = some a) (h : ∀ m r, m < a.rds.length → a.rds[m]? = some r → bad l k r = false) : readF l (k + 1) = none := by
  rw [readF_step ha h1, if_neg]
  intro e
  obtain ⟨r, hr, hb⟩ := List.any_eq_true.1 e
  obtain ⟨m, hm⟩ := List.mem_iff_getElem?.1 hr
  rw [h m r (List.getElem?_eq_some_iff.1 hm).1 hm] at hb
  cases hb
theorem check_none {l : List Txn} (h : markF l l.length = none) (h1 : readF l l.length = none) : check l = (0, -1) := by
  unfold check; rw [h, h1]
/-- what a region leaves, told once. -/
theorem region_cut {P : Program} {c : Code} {Q : Exit → Act → World → Prop} {a : Act} {w : World} {fr : Act} (S : World → Prop) (main : (∀ W, S W → Q Exit.normal fr W) → Code.wp P c Q a w) (later : ∀ W, S W → Q Exit.normal fr W) : Code.wp P c Q a w := main later
theorem cut2 {G H : Prop} (main : H → G) (later : H) : G := main later
theorem wpAny_swap {P : Program} {md : Region.Mode} {ops : Array Oper} {Q : Exit → Act → World → Prop} {N : Nat} {D D' : Array Bool} {a : Act} {w : World} (h : wpAny P md ops Q N D a w) (e : D = D') : wpAny P md ops Q N D' a w := e ▸ h
end Go.Proofs.Ytiapolcpebilmaa
