/-
  Histories, as plain data and in memory. Conditions: none.
-/
import Derived.Test.YtiapolcpebilmaaVers
import Derived.Test.YtiapolcpebilmaaMem
import Derived.Test.YtiapolcpebilmaaAppend
import Derived.Test.YtiapolcpebilmaaAt
import Derived.Test.YtiapolcpebilmaaChain
import Derived.Test.YtiapolcpebilmaaMarks
import Derived.KernelRfl
namespace Go.Proofs.Ytiapolcpebilmaa
open Go.RowKit Go.ChangeShapes Go.WideShapes Go.Deep Go.Maps
set_option linter.unusedVariables false

/-- what a client was told of a key. -/
structure Rd where
  key : ByteArray
  fd : Bool
  v : V
def Rd.cells (x : Rd) : List Value := [.string x.key, .bool x.fd, .string x.v.key, .string x.v.val, .bool x.v.gone, .int .u64 x.v.ts, .int .i64 x.v.dc, .int .i64 x.v.tx]
/-- a transaction. -/
structure Txn where
  cl : Int
  sn : Int
  st : Int
  ts : Int
  dc : Int
  tx : Int
  rds : List Rd
  wrs : List V
/-- a transaction, and where its reads and writes lie. -/
structure TI where
  t : Txn
  R : Option Addr
  rc : Nat
  D : Option Addr
  dc : Nat
def TI.cells (x : TI) : List Value := [.int .i64 x.t.cl, .int .u64 x.t.sn, .int .i64 x.t.st, .int .u64 x.t.ts, .int .i64 x.t.dc, .int .i64 x.t.tx, .slice x.R x.t.rds.length x.rc, .slice x.D x.t.wrs.length x.dc]
def flatRd (l : List Rd) : List Value := l.flatMap Rd.cells
def flatTI (l : List TI) : List Value := l.flatMap TI.cells
structure TI.at (w : World) (x : TI) : Prop where
  r : Cells w x.R (flatRd x.t.rds)
  d : Cells w x.D (flatV x.t.wrs)
theorem TI.at.on {w w' : World} {x : TI} (h : x.at w) (hb : Below w.heap.size w w') : x.at w' := ⟨h.r.on hb, h.d.on hb⟩
theorem get_rd {w : World} {A : Option Addr} {l : List Rd} (h : Cells w A (flatRd l)) {k : Nat} {x : Rd} (hk : l[k]? = some x) :
    ∃ b off, A = some ⟨b, off, none⟩ ∧ w.cell? ⟨b, off + k * 8, none⟩ = some (.string x.key) ∧ w.cell? ⟨b, off + k * 8 + 1, none⟩ = some (.bool x.fd) ∧ w.cell? ⟨b, off + k * 8 + 2, none⟩ = some (.string x.v.key) ∧ w.cell? ⟨b, off + k * 8 + 3, none⟩ = some (.string x.v.val) ∧ w.cell? ⟨b, off + k * 8 + 4, none⟩ = some (.bool x.v.gone) ∧ w.cell? ⟨b, off + k * 8 + 5, none⟩ = some (.int .u64 x.v.ts) ∧ w.cell? ⟨b, off + k * 8 + 6, none⟩ = some (.int .i64 x.v.dc) ∧ w.cell? ⟨b, off + k * 8 + 7, none⟩ = some (.int .i64 x.v.tx) := by
  have h0 := flat_get (cf := Rd.cells) (C := 8) (fun _ => rfl) l k x 0 hk (by omega)
  have h1 := flat_get (cf := Rd.cells) (C := 8) (fun _ => rfl) l k x 1 hk (by omega)
  have h2 := flat_get (cf := Rd.cells) (C := 8) (fun _ => rfl) l k x 2 hk (by omega)
  have h3 := flat_get (cf := Rd.cells) (C := 8) (fun _ => rfl) l k x 3 hk (by omega)
  have h4 := flat_get (cf := Rd.cells) (C := 8) (fun _ => rfl) l k x 4 hk (by omega)
  have h5 := flat_get (cf := Rd.cells) (C := 8) (fun _ => rfl) l k x 5 hk (by omega)
  have h6 := flat_get (cf := Rd.cells) (C := 8) (fun _ => rfl) l k x 6 hk (by omega)
  have h7 := flat_get (cf := Rd.cells) (C := 8) (fun _ => rfl) l k x 7 hk (by omega)
  obtain ⟨b, off, e, hc⟩ := h (fun e => by unfold flatRd at e; rw [e] at h0; simp [Rd.cells] at h0)
  refine ⟨b, off, e, ?_, ?_, ?_, ?_, ?_, ?_, ?_, ?_⟩
  · exact hc (k * 8) _ (by simpa [Rd.cells, flatRd] using h0)
  · rw [Nat.add_assoc]; exact hc (k * 8 + 1) _ (by simpa [Rd.cells, flatRd] using h1)
  · rw [Nat.add_assoc]; exact hc (k * 8 + 2) _ (by simpa [Rd.cells, flatRd] using h2)
  · rw [Nat.add_assoc]; exact hc (k * 8 + 3) _ (by simpa [Rd.cells, flatRd] using h3)
  · rw [Nat.add_assoc]; exact hc (k * 8 + 4) _ (by simpa [Rd.cells, flatRd] using h4)
  · rw [Nat.add_assoc]; exact hc (k * 8 + 5) _ (by simpa [Rd.cells, flatRd] using h5)
  · rw [Nat.add_assoc]; exact hc (k * 8 + 6) _ (by simpa [Rd.cells, flatRd] using h6)
  · rw [Nat.add_assoc]; exact hc (k * 8 + 7) _ (by simpa [Rd.cells, flatRd] using h7)
theorem get_tx {w : World} {A : Option Addr} {l : List TI} (h : Cells w A (flatTI l)) {k : Nat} {x : TI} (hk : l[k]? = some x) :
    ∃ b off, A = some ⟨b, off, none⟩ ∧ w.cell? ⟨b, off + k * 8, none⟩ = some (.int .i64 x.t.cl) ∧ w.cell? ⟨b, off + k * 8 + 1, none⟩ = some (.int .u64 x.t.sn) ∧ w.cell? ⟨b, off + k * 8 + 2, none⟩ = some (.int .i64 x.t.st) ∧ w.cell? ⟨b, off + k * 8 + 3, none⟩ = some (.int .u64 x.t.ts) ∧ w.cell? ⟨b, off + k * 8 + 4, none⟩ = some (.int .i64 x.t.dc) ∧ w.cell? ⟨b, off + k * 8 + 5, none⟩ = some (.int .i64 x.t.tx) ∧ w.cell? ⟨b, off + k * 8 + 6, none⟩ = some (.slice x.R x.t.rds.length x.rc) ∧ w.cell? ⟨b, off + k * 8 + 7, none⟩ = some (.slice x.D x.t.wrs.length x.dc) := by
  have h0 := flat_get (cf := TI.cells) (C := 8) (fun _ => rfl) l k x 0 hk (by omega)
  have h1 := flat_get (cf := TI.cells) (C := 8) (fun _ => rfl) l k x 1 hk (by omega)
  have h2 := flat_get (cf := TI.cells) (C := 8) (fun _ => rfl) l k x 2 hk (by omega)
  have h3 := flat_get (cf := TI.cells) (C := 8) (fun _ => rfl) l k x 3 hk (by omega)
  have h4 := flat_get (cf := TI.cells) (C := 8) (fun _ => rfl) l k x 4 hk (by omega)
  have h5 := flat_get (cf := TI.cells) (C := 8) (fun _ => rfl) l k x 5 hk (by omega)
  have h6 := flat_get (cf := TI.cells) (C := 8) (fun _ => rfl) l k x 6 hk (by omega)
  have h7 := flat_get (cf := TI.cells) (C := 8) (fun _ => rfl) l k x 7 hk (by omega)
  obtain ⟨b, off, e, hc⟩ := h (fun e => by unfold flatTI at e; rw [e] at h0; simp [TI.cells] at h0)
  refine ⟨b, off, e, ?_, ?_, ?_, ?_, ?_, ?_, ?_, ?_⟩
  · exact hc (k * 8) _ (by simpa [TI.cells, flatTI] using h0)
  · rw [Nat.add_assoc]; exact hc (k * 8 + 1) _ (by simpa [TI.cells, flatTI] using h1)
  · rw [Nat.add_assoc]; exact hc (k * 8 + 2) _ (by simpa [TI.cells, flatTI] using h2)
  · rw [Nat.add_assoc]; exact hc (k * 8 + 3) _ (by simpa [TI.cells, flatTI] using h3)
  · rw [Nat.add_assoc]; exact hc (k * 8 + 4) _ (by simpa [TI.cells, flatTI] using h4)
  · rw [Nat.add_assoc]; exact hc (k * 8 + 5) _ (by simpa [TI.cells, flatTI] using h5)
  · rw [Nat.add_assoc]; exact hc (k * 8 + 6) _ (by simpa [TI.cells, flatTI] using h6)
  · rw [Nat.add_assoc]; exact hc (k * 8 + 7) _ (by simpa [TI.cells, flatTI] using h7)
/-- is it committed? -/
def Txn.has (t : Txn) : Bool := t.st == 2 || t.st == 3
/-- the one with place i sees the other, with place k. -/
def seesN (a b : Txn) (i k : Nat) : Bool := b.has && (decide (b.ts ≤ a.sn) || (decide (k < i) && b.cl == a.cl))
def sees (l : List Txn) (i k : Int) : Bool := if 0 ≤ i ∧ i < (l.length : Int) ∧ 0 ≤ k ∧ k < (l.length : Int) ∧ i ≠ k then match l[i.toNat]?, l[k.toNat]? with | some a, some b => seesN a b i.toNat k.toNat | _, _ => false else false
theorem sees_in {l : List Txn} {i k : Nat} {a b : Txn} (ha : l[i]? = some a) (hb : l[k]? = some b) (hne : i ≠ k) : sees l (i : Int) (k : Int) = seesN a b i k := by
  have h1 := (List.getElem?_eq_some_iff.1 ha).1
  have h2 := (List.getElem?_eq_some_iff.1 hb).1
  unfold sees
  rw [if_pos ⟨by omega, by omega, by omega, by omega, by omega⟩, Int.toNat_natCast, Int.toNat_natCast, ha, hb]
theorem sees_out {l : List Txn} {i k : Int} (h : ¬ (0 ≤ i ∧ i < (l.length : Int) ∧ 0 ≤ k ∧ k < (l.length : Int) ∧ i ≠ k)) : sees l i k = false := by
  unfold sees
  rw [if_neg h]
/-- the first write of a key. -/
def wrOf (t : Txn) (key : ByteArray) : Option V := t.wrs.find? fun v => v.key.toList == key.toList
/-- a write, with its transaction's mark. -/
def updV (t : Txn) (v : V) : V := { v with ts := t.ts, dc := t.dc, tx := t.tx }
/-- is the transaction's mark above what was found? -/
def better (b : Option V) (t : Txn) : Bool := match b with | none => true | some v => mlt v.ts v.dc v.tx t.ts t.dc t.tx
/-- one step of the search for what is seen of a key. -/
def wantStep (l : List Txn) (i : Nat) (key : ByteArray) (b : Option V) (k : Nat) (t : Txn) : Option V :=
  if (sees l (i : Int) (k : Int) && better b t) = true then (match wrOf t key with | some v => some (updV t v) | none => b) else b
def wantTo (l : List Txn) (i : Nat) (key : ByteArray) : Nat → Option V
  | 0 => none
  | k + 1 => match l[k]? with | some t => wantStep l i key (wantTo l i key k) k t | none => wantTo l i key k
/-- what the one with place i sees of a key. -/
def want (l : List Txn) (i : Nat) (key : ByteArray) : Option V := wantTo l i key l.length
def v0 : V := ⟨⟨#[]⟩, ⟨#[]⟩, false, 0, 0, 0⟩
end Go.Proofs.Ytiapolcpebilmaa
