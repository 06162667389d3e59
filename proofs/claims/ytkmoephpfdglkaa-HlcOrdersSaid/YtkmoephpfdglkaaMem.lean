/-
  Small facts on memory that the walks use: what lay below the old heap's end reads as before. Conditions: none.
-/
import Derived.WalkKit
import Derived.WalkSpells
namespace Go.Proofs.Ytkmoephpfdglkaa
open Go.RowKit

theorem below_step {B : Nat} {w w1 w2 : World} (h : Below B w w1) (hB : B ≤ w1.heap.size) (hb : Below w1.heap.size w1 w2) : Below B w w2 := h.trans (hb.mono hB)
theorem below_own {w w1 w2 : World} (h : Below w.heap.size w w1) (hb : Below w1.heap.size w1 w2) : Below w.heap.size w w2 := h.trans (hb.mono h.size)
theorem cell_on {w w1 : World} {a : Addr} {v : Value} (hb : Below w.heap.size w w1) (h : w.cell? a = some v) : w1.cell? a = some v :=
  (hb.cell (World.block_lt_of_cell? _ _ h)).trans h
theorem own_alloc {w w1 : World} (h : Below w.heap.size w w1) (o : Obj) : Below w.heap.size w (w1.alloc o) := h.alloc h.size o
theorem own_drew {w w1 : World} (h : Below w.heap.size w w1) : Below w.heap.size w w1.drew := h.drew
theorem own_set {w w1 : World} (h : Below w.heap.size w w1) {a : Addr} (ha : w.heap.size ≤ a.block) (v : Value) : Below w.heap.size w (w1.setCell a v) := h.setCell ha v
theorem own_refl (w : World) : Below w.heap.size w w := Below.refl _ _
end Go.Proofs.Ytkmoephpfdglkaa
