/-
  The calls of a script of a log, as they came in, opened. Conditions: none.
-/
import Derived.Test.YtggbdjdfejcpjaaOpenRec
import Derived.Test.YtggbdjdfejcpjaaFrame
import Derived.KernelRfl
namespace Go.Proofs.Ytggbdjdfejcpjaa
open Go.RowKit Go.Maps
set_option linter.unusedVariables false

open Go.ChangeShapes Go.WideShapes Go.Deep
structure OL where
  kind : Int
  q : RI
  t : Int
def OL.cells (x : OL) : List Value := [.int .i64 x.kind, .int .u64 x.q.r.ts, .int .i64 x.q.r.dc, .int .i64 x.q.r.tx, .slice x.q.D x.q.r.vers.length x.q.c, .int .u64 x.t]
structure OL.wf (w : World) (x : OL) : Prop where
  k : -9223372036854775808 ≤ x.kind ∧ x.kind ≤ 9223372036854775807
  q : x.q.at w
  t : 0 ≤ x.t ∧ x.t ≤ 18446744073709551615
  wt : (Lit.int .u64 x.t).wf = true
theorem cellsOp : Try.prog.cellsOf 34 = 6 := by kernel_rfl
theorem dec_op {H : Type} {enc : TypeId × Value → H} {w : World} (n : Nat) (cs : List Value) (y : DataW H × List MemPlace) (h : DataW.trod enc Try.prog w 0 (fun _ => true) true n 34 cs = some y) :
    ∃ x : OL, cs = x.cells ∧ x.wf w := by
  obtain ⟨xs, m, _, _, hl, hlen, hf⟩ := DataW.trod_struct Try.underlying34 h
  rw [cellsOp] at hl
  match cs, hl, xs, hlen with
  | [c0, c1, c2, c3, c4, c5], _, [y0, y2, y3], _ =>
    have h0 : DataW.trod enc Try.prog w 0 (fun _ => true) true m 3 (([c0, c1, c2, c3, c4, c5].drop 0).take (Try.prog.cellsOf 3)) = some y0 := hf 0 _ rfl
    rw [cells_int] at h0
    have h2 : DataW.trod enc Try.prog w 0 (fun _ => true) true m 32 (([c0, c1, c2, c3, c4, c5].drop 1).take (Try.prog.cellsOf 32)) = some y2 := hf 1 _ rfl
    rw [cellsRec] at h2
    have h3 : DataW.trod enc Try.prog w 0 (fun _ => true) true m 27 (([c0, c1, c2, c3, c4, c5].drop 5).take (Try.prog.cellsOf 27)) = some y3 := hf 2 _ rfl
    rw [cells_u64] at h3
    clear hf
    obtain ⟨a, e0, _, w0⟩ := DataW.trod_int Try.underlying3 h0
    obtain ⟨q, e2, w2⟩ := dec_rec _ _ _ h2
    obtain ⟨t, e3, _, w3⟩ := DataW.trod_int Try.underlying27 h3
    simp [RI.cells] at e0 e2 e3
    obtain ⟨rfl, rfl, rfl, rfl⟩ := e2
    subst e0 e3
    exact ⟨⟨a, q, t⟩, rfl, ⟨bd_i64 w0, w2, bd_u64 w3, w3⟩⟩
def flatOL (l : List OL) : List Value := l.flatMap OL.cells
theorem open_ops {H : Type} {enc : TypeId × Value → H} {w : World} {r : Reach} {b0 : Nat} {v : Value} {d : DataW H} {p : List MemPlace}
    (hv : Value.okWide Try.prog w r b0 22 v) (h : DataW.Trod enc Try.prog w 0 (fun _ => true) true 22 v d p) :
    ∃ (A : Option Addr) (n c : Nat) (l : List OL), v = .slice A n c ∧ l.length = n ∧ n ≤ 9223372036854775807 ∧ Cells w A (flatOL l) ∧ ∀ x ∈ l, x.wf w :=
  open_structs (cf := OL.cells) (ok := OL.wf w) (C := 6) (fun _ => rfl) (by omega) Try.underlying22 cellsOp (fun n cs y => dec_op n cs y) hv h
theorem Cells.ol {w : World} {A : Option Addr} {l : List OL} (h : Cells w A (flatOL l)) {k : Nat} {x : OL} (hk : l[k]? = some x) :
    ∃ b off, A = some ⟨b, off, none⟩ ∧ w.cell? ⟨b, off + k * 6, none⟩ = some (.int .i64 x.kind) ∧ w.cell? ⟨b, off + k * 6 + 1, none⟩ = some (.int .u64 x.q.r.ts) ∧ w.cell? ⟨b, off + k * 6 + 2, none⟩ = some (.int .i64 x.q.r.dc) ∧ w.cell? ⟨b, off + k * 6 + 3, none⟩ = some (.int .i64 x.q.r.tx) ∧ w.cell? ⟨b, off + k * 6 + 4, none⟩ = some (.slice x.q.D x.q.r.vers.length x.q.c) ∧ w.cell? ⟨b, off + k * 6 + 5, none⟩ = some (.int .u64 x.t) := by
  have h0 := flat_get (cf := OL.cells) (C := 6) (fun _ => rfl) l k x 0 hk (by omega)
  have h1 := flat_get (cf := OL.cells) (C := 6) (fun _ => rfl) l k x 1 hk (by omega)
  have h2 := flat_get (cf := OL.cells) (C := 6) (fun _ => rfl) l k x 2 hk (by omega)
  have h3 := flat_get (cf := OL.cells) (C := 6) (fun _ => rfl) l k x 3 hk (by omega)
  have h4 := flat_get (cf := OL.cells) (C := 6) (fun _ => rfl) l k x 4 hk (by omega)
  have h5 := flat_get (cf := OL.cells) (C := 6) (fun _ => rfl) l k x 5 hk (by omega)
  obtain ⟨b, off, e, hc⟩ := h (fun e => by unfold flatOL at e; rw [e] at h0; simp [OL.cells] at h0)
  refine ⟨b, off, e, ?_, ?_, ?_, ?_, ?_, ?_⟩
  · exact hc (k * 6) _ (by simpa [OL.cells, flatOL] using h0)
  · rw [Nat.add_assoc]; exact hc (k * 6 + 1) _ (by simpa [OL.cells, flatOL] using h1)
  · rw [Nat.add_assoc]; exact hc (k * 6 + 2) _ (by simpa [OL.cells, flatOL] using h2)
  · rw [Nat.add_assoc]; exact hc (k * 6 + 3) _ (by simpa [OL.cells, flatOL] using h3)
  · rw [Nat.add_assoc]; exact hc (k * 6 + 4) _ (by simpa [OL.cells, flatOL] using h4)
  · rw [Nat.add_assoc]; exact hc (k * 6 + 5) _ (by simpa [OL.cells, flatOL] using h5)
end Go.Proofs.Ytggbdjdfejcpjaa
