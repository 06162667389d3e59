/-
  The calls of a script, as they came in, opened; the sentence that a side proposes. Conditions: none.
-/
import Derived.Test.YtjnbdkkefdfiaaaPartT
import Derived.Test.YtjnbdkkefdfiaaaFrame
import Derived.KernelRfl
namespace Go.Proofs.Ytjnbdkkefdfiaaa
open Go.RowKit Go.Maps
set_option linter.unusedVariables false

open Go.ChangeShapes Go.WideShapes Go.Deep
structure PO where
  kind : Int
  tx : Int
  t : Int
  ms : Int
def PO.cells (x : PO) : List Value := [.int .i64 x.kind, .int .u64 x.tx, .int .u64 x.t, .int .i64 x.ms]
structure PO.wf (x : PO) : Prop where
  k : -9223372036854775808 ≤ x.kind ∧ x.kind ≤ 9223372036854775807
  xx : 0 ≤ x.tx ∧ x.tx ≤ 18446744073709551615
  t : 0 ≤ x.t ∧ x.t ≤ 18446744073709551615
  m : -9223372036854775808 ≤ x.ms ∧ x.ms ≤ 9223372036854775807
theorem cells_int : Try.prog.cellsOf 3 = 1 := by kernel_rfl
theorem cells_u64 : Try.prog.cellsOf 25 = 1 := by kernel_rfl
theorem cellsOp : Try.prog.cellsOf 27 = 4 := by kernel_rfl
theorem dec_op {H : Type} {enc : TypeId × Value → H} {w : World} (n : Nat) (cs : List Value) (y : DataW H × List MemPlace) (h : DataW.trod enc Try.prog w 0 (fun _ => true) true n 27 cs = some y) :
    ∃ x : PO, cs = x.cells ∧ x.wf := by
  obtain ⟨xs, m, _, _, hl, hlen, hf⟩ := DataW.trod_struct Try.underlying27 h
  rw [cellsOp] at hl
  match cs, hl, xs, hlen with
  | [c0, c1, c2, c3], _, [y0, y1, y2, y3], _ =>
    have h0 : DataW.trod enc Try.prog w 0 (fun _ => true) true m 3 (([c0, c1, c2, c3].drop 0).take (Try.prog.cellsOf 3)) = some y0 := hf 0 _ rfl
    rw [cells_int] at h0
    have h1 : DataW.trod enc Try.prog w 0 (fun _ => true) true m 25 (([c0, c1, c2, c3].drop 1).take (Try.prog.cellsOf 25)) = some y1 := hf 1 _ rfl
    rw [cells_u64] at h1
    have h2 : DataW.trod enc Try.prog w 0 (fun _ => true) true m 25 (([c0, c1, c2, c3].drop 2).take (Try.prog.cellsOf 25)) = some y2 := hf 2 _ rfl
    rw [cells_u64] at h2
    have h3 : DataW.trod enc Try.prog w 0 (fun _ => true) true m 3 (([c0, c1, c2, c3].drop 3).take (Try.prog.cellsOf 3)) = some y3 := hf 3 _ rfl
    rw [cells_int] at h3
    clear hf
    obtain ⟨a0, e0, _, w0⟩ := DataW.trod_int Try.underlying3 h0
    obtain ⟨a1, e1, _, w1⟩ := DataW.trod_int Try.underlying25 h1
    obtain ⟨a2, e2, _, w2⟩ := DataW.trod_int Try.underlying25 h2
    obtain ⟨a3, e3, _, w3⟩ := DataW.trod_int Try.underlying3 h3
    simp at e0 e1 e2 e3
    subst e0 e1 e2 e3
    exact ⟨⟨a0, a1, a2, a3⟩, rfl, ⟨bd_i64 w0, bd_u64 w1, bd_u64 w2, bd_i64 w3⟩⟩
def flatO (l : List PO) : List Value := l.flatMap PO.cells
theorem open_ops {H : Type} {enc : TypeId × Value → H} {w : World} {r : Reach} {b0 : Nat} {v : Value} {d : DataW H} {p : List MemPlace}
    (hv : Value.okWide Try.prog w r b0 22 v) (h : DataW.Trod enc Try.prog w 0 (fun _ => true) true 22 v d p) :
    ∃ (A : Option Addr) (n c : Nat) (l : List PO), v = .slice A n c ∧ l.length = n ∧ n ≤ 9223372036854775807 ∧ Cells w A (flatO l) ∧ ∀ x ∈ l, x.wf :=
  open_structs (cf := PO.cells) (ok := PO.wf) (C := 4) (fun _ => rfl) (by omega) Try.underlying22 cellsOp (fun n cs y => dec_op n cs y) hv h
theorem open_op {H : Type} {enc : TypeId × Value → H} {w : World} {r : Reach} {b0 : Nat} {v : Value} {d : DataW H} {p : List MemPlace}
    (hv : Value.okWide Try.prog w r b0 27 v) (h : DataW.Trod enc Try.prog w 0 (fun _ => true) true 27 v d p) :
    ∃ x : PO, v = .agg #[.int .i64 x.kind, .int .u64 x.tx, .int .u64 x.t, .int .i64 x.ms] ∧ x.wf := by
  obtain ⟨cs, rfl, _⟩ := okWide_struct Try.underlying27 hv
  obtain ⟨fuel, hf⟩ := h
  obtain ⟨x, hx, hw⟩ := dec_op _ _ _ hf
  refine ⟨x, ?_, hw⟩
  obtain ⟨l⟩ := cs
  simp only [Value.cells] at hx
  subst hx
  rfl
theorem Cells.op {w : World} {A : Option Addr} {l : List PO} (h : Cells w A (flatO l)) {k : Nat} {x : PO} (hk : l[k]? = some x) :
    ∃ b off, A = some ⟨b, off, none⟩ ∧ w.cell? ⟨b, off + k * 4, none⟩ = some (.int .i64 x.kind) ∧ w.cell? ⟨b, off + k * 4 + 1, none⟩ = some (.int .u64 x.tx) ∧ w.cell? ⟨b, off + k * 4 + 2, none⟩ = some (.int .u64 x.t) ∧ w.cell? ⟨b, off + k * 4 + 3, none⟩ = some (.int .i64 x.ms) := by
  have h0 := flat_get (cf := PO.cells) (C := 4) (fun _ => rfl) l k x 0 hk (by omega)
  have h1 := flat_get (cf := PO.cells) (C := 4) (fun _ => rfl) l k x 1 hk (by omega)
  have h2 := flat_get (cf := PO.cells) (C := 4) (fun _ => rfl) l k x 2 hk (by omega)
  have h3 := flat_get (cf := PO.cells) (C := 4) (fun _ => rfl) l k x 3 hk (by omega)
  obtain ⟨b, off, e, hc⟩ := h (fun e => by unfold flatO at e; rw [e] at h0; simp [PO.cells] at h0)
  refine ⟨b, off, e, ?_, ?_, ?_, ?_⟩
  · exact hc (k * 4) _ (by simpa [PO.cells, flatO] using h0)
  · rw [Nat.add_assoc]; exact hc (k * 4 + 1) _ (by simpa [PO.cells, flatO] using h1)
  · rw [Nat.add_assoc]; exact hc (k * 4 + 2) _ (by simpa [PO.cells, flatO] using h2)
  · rw [Nat.add_assoc]; exact hc (k * 4 + 3) _ (by simpa [PO.cells, flatO] using h3)

theorem awake_any (w : World) : Calls Try.prog 12 #[] w fun e w' => e = .returned (.bool true) ∧ Below w.heap.size w w' := by
  have hr : prepR ⟨0, []⟩ 1 5 0 = (6, 0) := by decide
  have hp : prepS ⟨0, []⟩ 1 5 0 = ⟨6, [(1, 6)]⟩ := rfl
  have HR := Lib.hid hr
  have HP := Lib.hid hp
  clear hr hp
  go_enter Try.func12, Try.ntmps12
  go_wp2_with (first
    | (go_at_call 7; refine (new_any _).mono ?_; rintro e w1 ⟨b, m, rfl, hb, hm, hS, hb1⟩)
    | (go_at_call 8; refine (prepare_any _ _ _ _ _ _ _ hS ok_new (by omega) (by omega) (by simp)).mono ?_; rintro e w2 ⟨rfl, hS2, ht2⟩; rw [HR.out]; rw [HP.out] at hS2)
    | (go_at_call 17; refine (open_any _ _ _ _ hS2).mono ?_; rintro e w3 ⟨rfl, rfl⟩))
  go_ret
  exact ⟨rfl, ht2.below hb1 (fun j hj => by rcases hj with rfl | rfl <;> assumption)⟩
end Go.Proofs.Ytjnbdkkefdfiaaa
