/-
  Arguments that came in, opened: versions and lists of versions. Conditions: none.
-/
import Derived.Test.YtiapolcpebilmaaChecked
import Derived.Test.YtiapolcpebilmaaFrame
import Derived.Test.YtiapolcpebilmaaChain
import Derived.Test.YtiapolcpebilmaaMem
import Derived.KernelRfl
namespace Go.Proofs.Ytiapolcpebilmaa
open Go.RowKit Go.ChangeShapes Go.WideShapes Go.Deep

theorem cells_int : Try.prog.cellsOf 3 = 1 := by kernel_rfl
theorem cells_u64 : Try.prog.cellsOf 33 = 1 := by kernel_rfl
theorem cells_bool : Try.prog.cellsOf 4 = 1 := by kernel_rfl
theorem cells_string : Try.prog.cellsOf 9 = 1 := by kernel_rfl
theorem cellsVer : Try.prog.cellsOf 35 = 6 := by kernel_rfl
theorem dec_ver {H : Type} {enc : TypeId × Value → H} {w : World} (n : Nat) (cs : List Value) (y : DataW H × List MemPlace) (h : DataW.trod enc Try.prog w 0 (fun _ => true) true n 35 cs = some y) :
    ∃ x : V, cs = x.cells ∧ x.wf := by
  obtain ⟨xs, m, _, _, hl, hlen, hf⟩ := DataW.trod_struct Try.underlying35 h
  rw [cellsVer] at hl
  match cs, hl, xs, hlen with
  | [c0, c1, c2, c3, c4, c5], _, [y0, y1, y2, y3, y4, y5], _ =>
    have h0 : DataW.trod enc Try.prog w 0 (fun _ => true) true m 9 (([c0, c1, c2, c3, c4, c5].drop 0).take (Try.prog.cellsOf 9)) = some y0 := hf 0 _ rfl
    rw [cells_string] at h0
    have h1 : DataW.trod enc Try.prog w 0 (fun _ => true) true m 9 (([c0, c1, c2, c3, c4, c5].drop 1).take (Try.prog.cellsOf 9)) = some y1 := hf 1 _ rfl
    rw [cells_string] at h1
    have h2 : DataW.trod enc Try.prog w 0 (fun _ => true) true m 4 (([c0, c1, c2, c3, c4, c5].drop 2).take (Try.prog.cellsOf 4)) = some y2 := hf 2 _ rfl
    rw [cells_bool] at h2
    have h3 : DataW.trod enc Try.prog w 0 (fun _ => true) true m 33 (([c0, c1, c2, c3, c4, c5].drop 3).take (Try.prog.cellsOf 33)) = some y3 := hf 3 _ rfl
    rw [cells_u64] at h3
    have h4 : DataW.trod enc Try.prog w 0 (fun _ => true) true m 3 (([c0, c1, c2, c3, c4, c5].drop 4).take (Try.prog.cellsOf 3)) = some y4 := hf 4 _ rfl
    rw [cells_int] at h4
    have h5 : DataW.trod enc Try.prog w 0 (fun _ => true) true m 3 (([c0, c1, c2, c3, c4, c5].drop 5).take (Try.prog.cellsOf 3)) = some y5 := hf 5 _ rfl
    rw [cells_int] at h5
    clear hf
    obtain ⟨a, e0, _, _⟩ := DataW.trod_string Try.underlying9 h0
    obtain ⟨b, e1, _, _⟩ := DataW.trod_string Try.underlying9 h1
    obtain ⟨c, e2, _⟩ := DataW.trod_bool Try.underlying4 h2
    obtain ⟨d, e3, _, w3⟩ := DataW.trod_int Try.underlying33 h3
    obtain ⟨e, e4, _, w4⟩ := DataW.trod_int Try.underlying3 h4
    obtain ⟨f, e5, _, w5⟩ := DataW.trod_int Try.underlying3 h5
    simp at e0 e1 e2 e3 e4 e5
    subst e0 e1 e2 e3 e4 e5
    have b3 := bd_u64 w3
    have b4 := bd_i64 w4
    have b5 := bd_i64 w5
    exact ⟨⟨a, b, c, d, e, f⟩, rfl, ⟨b3.1, by show d < _; omega⟩, ⟨b4.1, by show e < _; omega⟩, ⟨b5.1, by show f < _; omega⟩⟩

theorem open_vers {H : Type} {enc : TypeId × Value → H} {w : World} {r : Reach} {b0 : Nat} {v : Value} {d : DataW H} {p : List MemPlace}
    (hv : Value.okWide Try.prog w r b0 43 v) (h : DataW.Trod enc Try.prog w 0 (fun _ => true) true 43 v d p) :
    ∃ (A : Option Addr) (n c : Nat) (l : List V), v = .slice A n c ∧ l.length = n ∧ n ≤ 9223372036854775807 ∧ Cells w A (flatV l) ∧ ∀ x ∈ l, x.wf :=
  open_structs (cf := V.cells) (ok := V.wf) (C := 6) (fun _ => rfl) (by omega) Try.underlying43 cellsVer (fun n cs y => dec_ver n cs y) hv h
theorem open_ver {H : Type} {enc : TypeId × Value → H} {w : World} {r : Reach} {b0 : Nat} {v : Value} {d : DataW H} {p : List MemPlace}
    (hv : Value.okWide Try.prog w r b0 35 v) (h : DataW.Trod enc Try.prog w 0 (fun _ => true) true 35 v d p) :
    ∃ x : V, v = .agg #[.string x.key, .string x.val, .bool x.gone, .int .u64 x.ts, .int .i64 x.dc, .int .i64 x.tx] ∧ x.wf := by
  obtain ⟨cs, rfl, _⟩ := okWide_struct Try.underlying35 hv
  obtain ⟨fuel, hf⟩ := h
  obtain ⟨x, hx, hw⟩ := dec_ver _ _ _ hf
  refine ⟨x, ?_, hw⟩
  obtain ⟨l⟩ := cs
  simp only [Value.cells] at hx
  subst hx
  rfl
end Go.Proofs.Ytiapolcpebilmaa
