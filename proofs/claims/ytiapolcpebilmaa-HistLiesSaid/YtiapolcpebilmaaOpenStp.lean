/-
  The steps of a run that came in, opened. Conditions: none.
-/
import Derived.Test.YtiapolcpebilmaaOpenHist
import Derived.Test.YtiapolcpebilmaaIdealP
namespace Go.Proofs.Ytiapolcpebilmaa
open Go.RowKit Go.ChangeShapes Go.WideShapes Go.Deep Go.Maps
set_option linter.unusedVariables false

/-- a step, and where its keys lie. -/
structure SI where
  p : Stp
  R : Option Addr
  rc : Nat
  K : Option Addr
  kc : Nat
def SI.cells (x : SI) : List Value := [.int .i64 x.p.who, .int .i64 x.p.late, .slice x.R x.p.reads.length x.rc, .slice x.K x.p.keys.length x.kc, .string x.p.val]
def flatSI (l : List SI) : List Value := l.flatMap SI.cells
def flatS (l : List ByteArray) : List Value := l.flatMap fun s => [Value.string s]
structure SI.at (w : World) (x : SI) : Prop where
  r : Cells w x.R (flatS x.p.reads)
  k : Cells w x.K (flatS x.p.keys)
  rfit : x.p.reads.length ≤ 9223372036854775807
  kfit : x.p.keys.length ≤ 9223372036854775807
  wf : (Lit.int .i64 x.p.who).wf = true
theorem SI.at.on {w w' : World} {x : SI} (h : x.at w) (hb : Below w.heap.size w w') : x.at w' := ⟨h.r.on hb, h.k.on hb, h.rfit, h.kfit, h.wf⟩
theorem get_si {w : World} {A : Option Addr} {l : List SI} (h : Cells w A (flatSI l)) {k : Nat} {x : SI} (hk : l[k]? = some x) :
    ∃ b off, A = some ⟨b, off, none⟩ ∧ w.cell? ⟨b, off + k * 5, none⟩ = some (.int .i64 x.p.who) ∧ w.cell? ⟨b, off + k * 5 + 1, none⟩ = some (.int .i64 x.p.late) ∧ w.cell? ⟨b, off + k * 5 + 2, none⟩ = some (.slice x.R x.p.reads.length x.rc) ∧ w.cell? ⟨b, off + k * 5 + 3, none⟩ = some (.slice x.K x.p.keys.length x.kc) ∧ w.cell? ⟨b, off + k * 5 + 4, none⟩ = some (.string x.p.val) := by
  have h0 := flat_get (cf := SI.cells) (C := 5) (fun _ => rfl) l k x 0 hk (by omega)
  have h1 := flat_get (cf := SI.cells) (C := 5) (fun _ => rfl) l k x 1 hk (by omega)
  have h2 := flat_get (cf := SI.cells) (C := 5) (fun _ => rfl) l k x 2 hk (by omega)
  have h3 := flat_get (cf := SI.cells) (C := 5) (fun _ => rfl) l k x 3 hk (by omega)
  have h4 := flat_get (cf := SI.cells) (C := 5) (fun _ => rfl) l k x 4 hk (by omega)
  obtain ⟨b, off, e, hc⟩ := h (fun e => by unfold flatSI at e; rw [e] at h0; simp [SI.cells] at h0)
  refine ⟨b, off, e, ?_, ?_, ?_, ?_, ?_⟩
  · exact hc (k * 5) _ (by simpa [SI.cells, flatSI] using h0)
  · rw [Nat.add_assoc]; exact hc (k * 5 + 1) _ (by simpa [SI.cells, flatSI] using h1)
  · rw [Nat.add_assoc]; exact hc (k * 5 + 2) _ (by simpa [SI.cells, flatSI] using h2)
  · rw [Nat.add_assoc]; exact hc (k * 5 + 3) _ (by simpa [SI.cells, flatSI] using h3)
  · rw [Nat.add_assoc]; exact hc (k * 5 + 4) _ (by simpa [SI.cells, flatSI] using h4)
theorem get_str {w : World} {A : Option Addr} {l : List ByteArray} (h : Cells w A (flatS l)) {k : Nat} {s : ByteArray} (hk : l[k]? = some s) : ∃ b off, A = some ⟨b, off, none⟩ ∧ w.cell? ⟨b, off + k, none⟩ = some (.string s) := by
  have h0 := flat_get (cf := fun s => [Value.string s]) (C := 1) (fun _ => rfl) l k s 0 hk (by omega)
  obtain ⟨b, off, e, hc⟩ := h (fun e => by unfold flatS at e; rw [e] at h0; simp at h0)
  exact ⟨b, off, e, hc k _ (by simpa [flatS] using h0)⟩
theorem cells_strings : Try.prog.cellsOf 63 = 1 := by kernel_rfl
theorem cellsStep : Try.prog.cellsOf 65 = 5 := by kernel_rfl
theorem dec_str {H : Type} {enc : TypeId × Value → H} {w : World} (n : Nat) (cs : List Value) (y : DataW H × List MemPlace) (h : DataW.trod enc Try.prog w 0 (fun _ => true) true n 9 cs = some y) : ∃ s : ByteArray, cs = [Value.string s] ∧ True := by
  obtain ⟨s, e, _, _⟩ := DataW.trod_string Try.underlying9 h
  exact ⟨s, e, trivial⟩
theorem dec_step {H : Type} {enc : TypeId × Value → H} {w : World} (n : Nat) (cs : List Value) (y : DataW H × List MemPlace) (h : DataW.trod enc Try.prog w 0 (fun _ => true) true n 65 cs = some y) :
    ∃ x : SI, cs = x.cells ∧ x.at w := by
  obtain ⟨xs, m, _, _, hl, hlen, hf⟩ := DataW.trod_struct Try.underlying65 h
  rw [cellsStep] at hl
  match cs, hl, xs, hlen with
  | [c0, c1, c2, c3, c4], _, [y0, y1, y2, y3, y4], _ =>
    have h0 : DataW.trod enc Try.prog w 0 (fun _ => true) true m 3 (([c0, c1, c2, c3, c4].drop 0).take (Try.prog.cellsOf 3)) = some y0 := hf 0 _ rfl
    rw [cells_int] at h0
    have h1 : DataW.trod enc Try.prog w 0 (fun _ => true) true m 3 (([c0, c1, c2, c3, c4].drop 1).take (Try.prog.cellsOf 3)) = some y1 := hf 1 _ rfl
    rw [cells_int] at h1
    have h2 : DataW.trod enc Try.prog w 0 (fun _ => true) true m 63 (([c0, c1, c2, c3, c4].drop 2).take (Try.prog.cellsOf 63)) = some y2 := hf 2 _ rfl
    rw [cells_strings] at h2
    have h3 : DataW.trod enc Try.prog w 0 (fun _ => true) true m 63 (([c0, c1, c2, c3, c4].drop 3).take (Try.prog.cellsOf 63)) = some y3 := hf 3 _ rfl
    rw [cells_strings] at h3
    have h4 : DataW.trod enc Try.prog w 0 (fun _ => true) true m 9 (([c0, c1, c2, c3, c4].drop 4).take (Try.prog.cellsOf 9)) = some y4 := hf 4 _ rfl
    rw [cells_string] at h4
    clear hf
    obtain ⟨a0, e0, _, w0⟩ := DataW.trod_int Try.underlying3 h0
    obtain ⟨a1, e1, _, w1⟩ := DataW.trod_int Try.underlying3 h1
    obtain ⟨A2, n2, k2, l2, e2, hl2, le2, nn2, fit2, hD2, hwf2⟩ := inner_structs (cf := fun s => [Value.string s]) (ok := fun _ => True) (C := 1) (fun _ => rfl) (by omega) Try.underlying63 cells_string (fun n cs y => dec_str n cs y) h2
    obtain ⟨A3, n3, k3, l3, e3, hl3, le3, nn3, fit3, hD3, hwf3⟩ := inner_structs (cf := fun s => [Value.string s]) (ok := fun _ => True) (C := 1) (fun _ => rfl) (by omega) Try.underlying63 cells_string (fun n cs y => dec_str n cs y) h3
    obtain ⟨a4, e4, _, _⟩ := DataW.trod_string Try.underlying9 h4
    simp at e0 e1 e2 e3 e4
    subst e0 e1 e2 e3 e4 hl2 hl3
    exact ⟨⟨⟨a0, a1, l2, l3, a4⟩, A2, k2, A3, k3⟩, rfl, ⟨hD2, hD3, fit2, fit3, w0⟩⟩
theorem open_steps {H : Type} {enc : TypeId × Value → H} {w : World} {r : Reach} {b0 : Nat} {v : Value} {d : DataW H} {p : List MemPlace}
    (hv : Value.okWide Try.prog w r b0 52 v) (h : DataW.Trod enc Try.prog w 0 (fun _ => true) true 52 v d p) :
    ∃ (A : Option Addr) (n c : Nat) (l : List SI), v = .slice A n c ∧ l.length = n ∧ n ≤ 9223372036854775807 ∧ Cells w A (flatSI l) ∧ ∀ x ∈ l, x.at w :=
  open_structs (cf := SI.cells) (ok := SI.at w) (C := 5) (fun _ => rfl) (by omega) Try.underlying52 cellsStep (fun n cs y => dec_step n cs y) hv h
end Go.Proofs.Ytiapolcpebilmaa
