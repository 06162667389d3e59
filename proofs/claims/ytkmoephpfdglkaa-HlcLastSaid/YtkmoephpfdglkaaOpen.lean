/-
  Arguments that came in, opened: marks. Conditions: none.
-/
import Derived.Test.YtkmoephpfdglkaaChecked
import Derived.Test.YtkmoephpfdglkaaMarks
import Derived.Test.YtkmoephpfdglkaaMem
import Derived.Lib.SmallJoins
import Derived.KernelRfl
namespace Go.Proofs.Ytkmoephpfdglkaa
open Go.RowKit Go.ChangeShapes Go.WideShapes Go.Deep Go.Joins

theorem cells_int : Try.prog.cellsOf 3 = 1 := by kernel_rfl
theorem cells_u64 : Try.prog.cellsOf 22 = 1 := by kernel_rfl
theorem cells_bool : Try.prog.cellsOf 4 = 1 := by kernel_rfl
theorem cells_string : Try.prog.cellsOf 9 = 1 := by kernel_rfl
theorem cellsMark : Try.prog.cellsOf 37 = 3 := by kernel_rfl
theorem dec_mark {H : Type} {enc : TypeId × Value → H} {w : World} (n : Nat) (cs : List Value) (y : DataW H × List MemPlace) (h : DataW.trod enc Try.prog w 0 (fun _ => true) true n 37 cs = some y) :
    ∃ x : K, cs = x.cells ∧ True := by
  obtain ⟨y0, y1, y2, m, hx, hl, h0, h1, h2⟩ := trod_struct3 Try.underlying37 h
  rw [cellsMark] at hl
  match cs, hl with
  | [c0, c1, c2], _ =>
    simp only [cells_u64, cells_int] at h0 h1 h2
    obtain ⟨a, e0, _, _⟩ := DataW.trod_int Try.underlying22 h0
    obtain ⟨b, e1, _, _⟩ := DataW.trod_int Try.underlying3 h1
    obtain ⟨c, e2, _, _⟩ := DataW.trod_int Try.underlying3 h2
    simp at e0 e1 e2
    subst e0 e1 e2
    exact ⟨⟨a, b, c⟩, rfl, trivial⟩

theorem open_marks {H : Type} {enc : TypeId × Value → H} {w : World} {r : Reach} {b0 : Nat} {v : Value} {d : DataW H} {p : List MemPlace}
    (hv : Value.okWide Try.prog w r b0 42 v) (h : DataW.Trod enc Try.prog w 0 (fun _ => true) true 42 v d p) :
    ∃ (A : Option Addr) (n c : Nat) (l : List K), v = .slice A n c ∧ l.length = n ∧ n ≤ 9223372036854775807 ∧ Cells w A (flatK l) ∧ ∀ x ∈ l, True :=
  open_structs (cf := K.cells) (ok := fun _ => True) (C := 3) (fun _ => rfl) (by omega) Try.underlying42 cellsMark (fun n cs y => dec_mark n cs y) hv h
end Go.Proofs.Ytkmoephpfdglkaa
