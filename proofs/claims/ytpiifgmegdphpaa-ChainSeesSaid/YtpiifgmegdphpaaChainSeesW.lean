/-
  The walk of the law ChainSees: whatever data come in, the call returns true and leaves what was there. Conditions: the arguments' cells lie as the hypotheses say.
-/
import Derived.Test.YtpiifgmegdphpaaChainAt2
import Derived.Test.YtpiifgmegdphpaaVerEq
import Derived.Lib.Hide
namespace Go.Proofs.Ytpiifgmegdphpaa.lawChainSees
open Go.ChangeShapes Go.WideShapes Go.ChangeAt Go.RowKit
set_option linter.unusedVariables false

theorem walk_some (A : Option Addr) (n c : Nat) (l : List V) (snap : Int) (w : World) (hn : l.length = n) (hm : n ≤ 9223372036854775807) (hA : Cells w A (flatV l)) (a : Nat) (x : V) (hs : seen l snap n = some a) (hx : l[a]? = some x) :
    Calls Try.prog 3 #[.slice A n c, .int .u64 snap] w fun e w' => e = .returned (.bool true) ∧ Below w.heap.size w w' := by
  have hq := ver_eq x x
  rw [veq_same] at hq
  have HS := Lib.hid hs
  clear hs
  go_enter Try.func3, Try.ntmps3
  go_wp2_with (first
    | (go_at_call 12; refine (At_some _ _ _ l _ _ a x hn hm hA HS.out hx).mono ?_; rintro e w1 ⟨rfl, hb1⟩)
    | (go_at_call 13; refine (rAt_some _ _ _ l _ _ a x hn hm ((hA.on hb1).on (own_alloc (own_refl _) _)) HS.out hx).mono ?_; rintro e w2 ⟨rfl, hb2⟩; have p0 : w2.cell? ⟨w1.heap.size, 0, none⟩ = some (.string x.key) := (box_on hb2).1 0; have p1 : w2.cell? ⟨w1.heap.size, 1, none⟩ = some (.string x.val) := (box_on hb2).1 1; have p2 : w2.cell? ⟨w1.heap.size, 2, none⟩ = some (.bool x.gone) := (box_on hb2).1 2; have p3 : w2.cell? ⟨w1.heap.size, 3, none⟩ = some (.int .u64 x.ts) := (box_on hb2).1 3; have p4 : w2.cell? ⟨w1.heap.size, 4, none⟩ = some (.int .i64 x.dc) := (box_on hb2).1 4; have p5 : w2.cell? ⟨w1.heap.size, 5, none⟩ = some (.int .i64 x.tx) := (box_on hb2).1 5)
    | (go_at_call 14; refine (awake_any _).mono ?_; rintro e w3 ⟨rfl, hb3⟩; have q0 : w3.cell? ⟨w2.heap.size, 0, none⟩ = some (.string x.key) := (box_on hb3).1 0; have q1 : w3.cell? ⟨w2.heap.size, 1, none⟩ = some (.string x.val) := (box_on hb3).1 1; have q2 : w3.cell? ⟨w2.heap.size, 2, none⟩ = some (.bool x.gone) := (box_on hb3).1 2; have q3 : w3.cell? ⟨w2.heap.size, 3, none⟩ = some (.int .u64 x.ts) := (box_on hb3).1 3; have q4 : w3.cell? ⟨w2.heap.size, 4, none⟩ = some (.int .i64 x.dc) := (box_on hb3).1 4; have q5 : w3.cell? ⟨w2.heap.size, 5, none⟩ = some (.int .i64 x.tx) := (box_on hb3).1 5; have p0' := cell_on hb3 (cell_on (own_alloc (own_refl _) _) p0); have p1' := cell_on hb3 (cell_on (own_alloc (own_refl _) _) p1); have p2' := cell_on hb3 (cell_on (own_alloc (own_refl _) _) p2); have p3' := cell_on hb3 (cell_on (own_alloc (own_refl _) _) p3); have p4' := cell_on hb3 (cell_on (own_alloc (own_refl _) _) p4); have p5' := cell_on hb3 (cell_on (own_alloc (own_refl _) _) p5)))
  go_ret
  exact ⟨rfl, below_own (own_alloc (below_own (own_alloc hb1 _) hb2) _) hb3⟩

theorem walk_none (A : Option Addr) (n c : Nat) (l : List V) (snap : Int) (w : World) (hn : l.length = n) (hm : n ≤ 9223372036854775807) (hA : Cells w A (flatV l)) (hs : seen l snap n = none) :
    Calls Try.prog 3 #[.slice A n c, .int .u64 snap] w fun e w' => e = .returned (.bool true) ∧ Below w.heap.size w w' := by
  have hq := ver_eq ⟨⟨#[]⟩, ⟨#[]⟩, false, 0, 0, 0⟩ ⟨⟨#[]⟩, ⟨#[]⟩, false, 0, 0, 0⟩
  rw [veq_same] at hq
  have HS := Lib.hid hs
  clear hs
  go_enter Try.func3, Try.ntmps3
  go_wp2_with (first
    | (go_at_call 12; refine (At_none _ _ _ l _ _ hn hm hA HS.out).mono ?_; rintro e w1 ⟨rfl, hb1⟩)
    | (go_at_call 13; refine (rAt_none _ _ _ l _ _ hn hm ((hA.on hb1).on (own_alloc (own_refl _) _)) HS.out).mono ?_; rintro e w2 ⟨rfl, hb2⟩; have p0 : w2.cell? ⟨w1.heap.size, 0, none⟩ = some (.string ⟨#[]⟩) := (box_on hb2).1 0; have p1 : w2.cell? ⟨w1.heap.size, 1, none⟩ = some (.string ⟨#[]⟩) := (box_on hb2).1 1; have p2 : w2.cell? ⟨w1.heap.size, 2, none⟩ = some (.bool false) := (box_on hb2).1 2; have p3 : w2.cell? ⟨w1.heap.size, 3, none⟩ = some (.int .u64 0) := (box_on hb2).1 3; have p4 : w2.cell? ⟨w1.heap.size, 4, none⟩ = some (.int .i64 0) := (box_on hb2).1 4; have p5 : w2.cell? ⟨w1.heap.size, 5, none⟩ = some (.int .i64 0) := (box_on hb2).1 5)
    | (go_at_call 14; refine (awake_any _).mono ?_; rintro e w3 ⟨rfl, hb3⟩; have q0 : w3.cell? ⟨w2.heap.size, 0, none⟩ = some (.string ⟨#[]⟩) := (box_on hb3).1 0; have q1 : w3.cell? ⟨w2.heap.size, 1, none⟩ = some (.string ⟨#[]⟩) := (box_on hb3).1 1; have q2 : w3.cell? ⟨w2.heap.size, 2, none⟩ = some (.bool false) := (box_on hb3).1 2; have q3 : w3.cell? ⟨w2.heap.size, 3, none⟩ = some (.int .u64 0) := (box_on hb3).1 3; have q4 : w3.cell? ⟨w2.heap.size, 4, none⟩ = some (.int .i64 0) := (box_on hb3).1 4; have q5 : w3.cell? ⟨w2.heap.size, 5, none⟩ = some (.int .i64 0) := (box_on hb3).1 5; have p0' := cell_on hb3 (cell_on (own_alloc (own_refl _) _) p0); have p1' := cell_on hb3 (cell_on (own_alloc (own_refl _) _) p1); have p2' := cell_on hb3 (cell_on (own_alloc (own_refl _) _) p2); have p3' := cell_on hb3 (cell_on (own_alloc (own_refl _) _) p3); have p4' := cell_on hb3 (cell_on (own_alloc (own_refl _) _) p4); have p5' := cell_on hb3 (cell_on (own_alloc (own_refl _) _) p5)))
  go_ret
  exact ⟨rfl, below_own (own_alloc (below_own (own_alloc hb1 _) hb2) _) hb3⟩

theorem walk (A : Option Addr) (n c : Nat) (l : List V) (snap : Int) (w : World) (hn : l.length = n) (hm : n ≤ 9223372036854775807) (hA : Cells w A (flatV l)) :
    Calls Try.prog 3 #[.slice A n c, .int .u64 snap] w fun e w' => e = .returned (.bool true) ∧ Below w.heap.size w w' := by
  cases hs : seen l snap n with
  | none => exact walk_none A n c l snap w hn hm hA hs
  | some a =>
    obtain ⟨_, x, hx, _⟩ := seen_lt l snap n a hs
    exact walk_some A n c l snap w hn hm hA a x hs hx
end Go.Proofs.Ytpiifgmegdphpaa.lawChainSees
