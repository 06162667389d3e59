/-
  Lists of commits and of pairs of places, as they came in, opened. Conditions: none.
-/
import Derived.Test.YtggbdjdfejcpjaaOpenRec
import Derived.Test.YtggbdjdfejcpjaaFrame
import Derived.KernelRfl
namespace Go.Proofs.Ytggbdjdfejcpjaa
open Go.RowKit Go.Maps
set_option linter.unusedVariables false

open Go.ChangeShapes Go.WideShapes Go.Deep
def flatRI (l : List RI) : List Value := l.flatMap RI.cells
theorem open_recs {H : Type} {enc : TypeId × Value → H} {w : World} {r : Reach} {b0 : Nat} {v : Value} {d : DataW H} {p : List MemPlace}
    (hv : Value.okWide Try.prog w r b0 26 v) (h : DataW.Trod enc Try.prog w 0 (fun _ => true) true 26 v d p) :
    ∃ (A : Option Addr) (n c : Nat) (l : List RI), v = .slice A n c ∧ l.length = n ∧ n ≤ 9223372036854775807 ∧ Cells w A (flatRI l) ∧ ∀ x ∈ l, x.at w :=
  open_structs (cf := RI.cells) (ok := RI.at w) (C := 4) (fun _ => rfl) (by omega) Try.underlying26 cellsRec (fun n cs y => dec_rec n cs y) hv h
theorem get_ri {w : World} {A : Option Addr} {L : List RI} (h : Cells w A (flatRI L)) {k : Nat} {q : RI} (hk : L[k]? = some q) :
    ∃ b off, A = some ⟨b, off, none⟩ ∧ w.cell? ⟨b, off + k * 4, none⟩ = some (.int .u64 q.r.ts) ∧ w.cell? ⟨b, off + k * 4 + 1, none⟩ = some (.int .i64 q.r.dc) ∧ w.cell? ⟨b, off + k * 4 + 2, none⟩ = some (.int .i64 q.r.tx) ∧ w.cell? ⟨b, off + k * 4 + 3, none⟩ = some (.slice q.D q.r.vers.length q.c) := by
  have h0 := flat_get (cf := RI.cells) (C := 4) (fun _ => rfl) L k q 0 hk (by omega)
  have h1 := flat_get (cf := RI.cells) (C := 4) (fun _ => rfl) L k q 1 hk (by omega)
  have h2 := flat_get (cf := RI.cells) (C := 4) (fun _ => rfl) L k q 2 hk (by omega)
  have h3 := flat_get (cf := RI.cells) (C := 4) (fun _ => rfl) L k q 3 hk (by omega)
  obtain ⟨b, off, e, hc⟩ := h (fun e => by unfold flatRI at e; rw [e] at h0; simp [RI.cells] at h0)
  refine ⟨b, off, e, ?_, ?_, ?_, ?_⟩
  · exact hc (k * 4) _ (by simpa [RI.cells, flatRI] using h0)
  · rw [Nat.add_assoc]; exact hc (k * 4 + 1) _ (by simpa [RI.cells, flatRI] using h1)
  · rw [Nat.add_assoc]; exact hc (k * 4 + 2) _ (by simpa [RI.cells, flatRI] using h2)
  · rw [Nat.add_assoc]; exact hc (k * 4 + 3) _ (by simpa [RI.cells, flatRI] using h3)
structure P2 where
  a : Int
  b : Int
def P2.cells (p : P2) : List Value := [.int .i64 p.a, .int .i64 p.b]
def P2.wf (p : P2) : Prop := (Lit.int .i64 p.a).wf = true ∧ (Lit.int .i64 p.b).wf = true
theorem cellsP2 : Try.prog.cellsOf 53 = 2 := by kernel_rfl
theorem dec_p2 {H : Type} {enc : TypeId × Value → H} {w : World} (n : Nat) (cs : List Value) (y : DataW H × List MemPlace) (h : DataW.trod enc Try.prog w 0 (fun _ => true) true n 53 cs = some y) : ∃ x : P2, cs = x.cells ∧ x.wf := by
  obtain ⟨xs, m, _, _, hl, hlen, hf⟩ := DataW.trod_array Try.underlying53 h
  rw [cellsP2] at hl
  match cs, hl, xs, hlen with
  | [c0, c1], _, [y0, y1], _ =>
    have h0 := hf 0 (by omega)
    have h1 := hf 1 (by omega)
    rw [cells_int] at h0 h1
    clear hf
    obtain ⟨a, e0, _, w0⟩ := DataW.trod_int Try.underlying3 h0
    obtain ⟨b, e1, _, w1⟩ := DataW.trod_int Try.underlying3 h1
    simp at e0 e1
    subst e0 e1
    exact ⟨⟨a, b⟩, rfl, w0, w1⟩
theorem open_p2s {H : Type} {enc : TypeId × Value → H} {w : World} {r : Reach} {b0 : Nat} {v : Value} {d : DataW H} {p : List MemPlace}
    (hv : Value.okWide Try.prog w r b0 52 v) (h : DataW.Trod enc Try.prog w 0 (fun _ => true) true 52 v d p) :
    ∃ (A : Option Addr) (n c : Nat) (l : List P2), v = .slice A n c ∧ l.length = n ∧ n ≤ 9223372036854775807 ∧ Cells w A (l.flatMap P2.cells) ∧ ∀ x ∈ l, x.wf :=
  open_structs (cf := P2.cells) (ok := P2.wf) (C := 2) (fun _ => rfl) (by omega) Try.underlying52 cellsP2 (fun n cs y => dec_p2 n cs y) hv h
theorem cells_p2 {w : World} {A : Option Addr} {l : List P2} (h : Cells w A (l.flatMap P2.cells)) {k : Nat} {x : P2} (hk : l[k]? = some x) :
    ∃ b off, A = some ⟨b, off, none⟩ ∧ w.cell? ⟨b, off + k * 2, none⟩ = some (.int .i64 x.a) ∧ w.cell? ⟨b, off + k * 2 + 1, none⟩ = some (.int .i64 x.b) := by
  have h0 := flat_get (cf := P2.cells) (C := 2) (fun _ => rfl) l k x 0 hk (by omega)
  have h1 := flat_get (cf := P2.cells) (C := 2) (fun _ => rfl) l k x 1 hk (by omega)
  obtain ⟨b, off, e, hc⟩ := h (fun e => by rw [e] at h0; simp [P2.cells] at h0)
  exact ⟨b, off, e, hc (k * 2) _ (by simpa [P2.cells] using h0), by rw [Nat.add_assoc]; exact hc (k * 2 + 1) _ (by simpa [P2.cells] using h1)⟩
end Go.Proofs.Ytggbdjdfejcpjaa
