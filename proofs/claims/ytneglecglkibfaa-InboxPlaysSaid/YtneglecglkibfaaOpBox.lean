/-
  The calls of a script of a box, as they came in, opened. Conditions: none.
-/
import Derived.Test.YtneglecglkibfaaOpenRec
import Derived.Test.YtneglecglkibfaaFrame
import Derived.KernelRfl
namespace Go.Proofs.Ytneglecglkibfaa
open Go.RowKit Go.Maps
set_option linter.unusedVariables false

open Go.ChangeShapes Go.WideShapes Go.Deep
structure OB where
  kind : Int
  pl : Int
  q : RI
  t : Int
def OB.cells (x : OB) : List Value := [.int .i64 x.kind, .int .i64 x.pl, .int .u64 x.q.r.ts, .int .i64 x.q.r.dc, .int .i64 x.q.r.tx, .slice x.q.D x.q.r.vers.length x.q.c, .int .u64 x.t]
structure OB.wf (w : World) (x : OB) : Prop where
  k : -9223372036854775808 ≤ x.kind ∧ x.kind ≤ 9223372036854775807
  a : -9223372036854775808 ≤ x.pl ∧ x.pl ≤ 9223372036854775807
  q : x.q.at w
  t : 0 ≤ x.t ∧ x.t ≤ 18446744073709551615
  wa : (Lit.int .i64 x.pl).wf = true
  wt : (Lit.int .u64 x.t).wf = true
theorem cellsOp : Try.prog.cellsOf 43 = 7 := by kernel_rfl
theorem dec_op {H : Type} {enc : TypeId × Value → H} {w : World} (n : Nat) (cs : List Value) (y : DataW H × List MemPlace) (h : DataW.trod enc Try.prog w 0 (fun _ => true) true n 43 cs = some y) :
    ∃ x : OB, cs = x.cells ∧ x.wf w := by
  obtain ⟨xs, m, _, _, hl, hlen, hf⟩ := DataW.trod_struct Try.underlying43 h
  rw [cellsOp] at hl
  match cs, hl, xs, hlen with
  | [c0, c1, c2, c3, c4, c5, c6], _, [y0, y1, y2, y3], _ =>
    have h0 : DataW.trod enc Try.prog w 0 (fun _ => true) true m 3 (([c0, c1, c2, c3, c4, c5, c6].drop 0).take (Try.prog.cellsOf 3)) = some y0 := hf 0 _ rfl
    rw [cells_int] at h0
    have h1 : DataW.trod enc Try.prog w 0 (fun _ => true) true m 3 (([c0, c1, c2, c3, c4, c5, c6].drop 1).take (Try.prog.cellsOf 3)) = some y1 := hf 1 _ rfl
    rw [cells_int] at h1
    have h2 : DataW.trod enc Try.prog w 0 (fun _ => true) true m 25 (([c0, c1, c2, c3, c4, c5, c6].drop 2).take (Try.prog.cellsOf 25)) = some y2 := hf 2 _ rfl
    rw [cellsRec] at h2
    have h3 : DataW.trod enc Try.prog w 0 (fun _ => true) true m 22 (([c0, c1, c2, c3, c4, c5, c6].drop 6).take (Try.prog.cellsOf 22)) = some y3 := hf 3 _ rfl
    rw [cells_u64] at h3
    clear hf
    obtain ⟨a, e0, _, w0⟩ := DataW.trod_int Try.underlying3 h0
    obtain ⟨b, e1, _, w1⟩ := DataW.trod_int Try.underlying3 h1
    obtain ⟨q, e2, w2⟩ := dec_rec _ _ _ h2
    obtain ⟨t, e3, _, w3⟩ := DataW.trod_int Try.underlying22 h3
    simp [RI.cells] at e0 e1 e2 e3
    obtain ⟨rfl, rfl, rfl, rfl⟩ := e2
    subst e0 e1 e3
    exact ⟨⟨a, b, q, t⟩, rfl, ⟨bd_i64 w0, bd_i64 w1, w2, bd_u64 w3, w1, w3⟩⟩
def flatOB (l : List OB) : List Value := l.flatMap OB.cells
theorem open_ops {H : Type} {enc : TypeId × Value → H} {w : World} {r : Reach} {b0 : Nat} {v : Value} {d : DataW H} {p : List MemPlace}
    (hv : Value.okWide Try.prog w r b0 40 v) (h : DataW.Trod enc Try.prog w 0 (fun _ => true) true 40 v d p) :
    ∃ (A : Option Addr) (n c : Nat) (l : List OB), v = .slice A n c ∧ l.length = n ∧ n ≤ 9223372036854775807 ∧ Cells w A (flatOB l) ∧ ∀ x ∈ l, x.wf w :=
  open_structs (cf := OB.cells) (ok := OB.wf w) (C := 7) (fun _ => rfl) (by omega) Try.underlying40 cellsOp (fun n cs y => dec_op n cs y) hv h
theorem Cells.ob {w : World} {A : Option Addr} {l : List OB} (h : Cells w A (flatOB l)) {k : Nat} {x : OB} (hk : l[k]? = some x) :
    ∃ b off, A = some ⟨b, off, none⟩ ∧ w.cell? ⟨b, off + k * 7, none⟩ = some (.int .i64 x.kind) ∧ w.cell? ⟨b, off + k * 7 + 1, none⟩ = some (.int .i64 x.pl) ∧ w.cell? ⟨b, off + k * 7 + 2, none⟩ = some (.int .u64 x.q.r.ts) ∧ w.cell? ⟨b, off + k * 7 + 3, none⟩ = some (.int .i64 x.q.r.dc) ∧ w.cell? ⟨b, off + k * 7 + 4, none⟩ = some (.int .i64 x.q.r.tx) ∧ w.cell? ⟨b, off + k * 7 + 5, none⟩ = some (.slice x.q.D x.q.r.vers.length x.q.c) ∧ w.cell? ⟨b, off + k * 7 + 6, none⟩ = some (.int .u64 x.t) := by
  have h0 := flat_get (cf := OB.cells) (C := 7) (fun _ => rfl) l k x 0 hk (by omega)
  have h1 := flat_get (cf := OB.cells) (C := 7) (fun _ => rfl) l k x 1 hk (by omega)
  have h2 := flat_get (cf := OB.cells) (C := 7) (fun _ => rfl) l k x 2 hk (by omega)
  have h3 := flat_get (cf := OB.cells) (C := 7) (fun _ => rfl) l k x 3 hk (by omega)
  have h4 := flat_get (cf := OB.cells) (C := 7) (fun _ => rfl) l k x 4 hk (by omega)
  have h5 := flat_get (cf := OB.cells) (C := 7) (fun _ => rfl) l k x 5 hk (by omega)
  have h6 := flat_get (cf := OB.cells) (C := 7) (fun _ => rfl) l k x 6 hk (by omega)
  obtain ⟨b, off, e, hc⟩ := h (fun e => by unfold flatOB at e; rw [e] at h0; simp [OB.cells] at h0)
  refine ⟨b, off, e, ?_, ?_, ?_, ?_, ?_, ?_, ?_⟩
  · exact hc (k * 7) _ (by simpa [OB.cells, flatOB] using h0)
  · rw [Nat.add_assoc]; exact hc (k * 7 + 1) _ (by simpa [OB.cells, flatOB] using h1)
  · rw [Nat.add_assoc]; exact hc (k * 7 + 2) _ (by simpa [OB.cells, flatOB] using h2)
  · rw [Nat.add_assoc]; exact hc (k * 7 + 3) _ (by simpa [OB.cells, flatOB] using h3)
  · rw [Nat.add_assoc]; exact hc (k * 7 + 4) _ (by simpa [OB.cells, flatOB] using h4)
  · rw [Nat.add_assoc]; exact hc (k * 7 + 5) _ (by simpa [OB.cells, flatOB] using h5)
  · rw [Nat.add_assoc]; exact hc (k * 7 + 6) _ (by simpa [OB.cells, flatOB] using h6)
end Go.Proofs.Ytneglecglkibfaa
