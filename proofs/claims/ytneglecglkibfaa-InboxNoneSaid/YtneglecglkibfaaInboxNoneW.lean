/-
  The walk of the law InboxNone. Conditions: none.
-/
import Derived.Test.YtneglecglkibfaaAwakeI
namespace Go.Proofs.Ytneglecglkibfaa
open Go.RowKit Go.Maps
set_option linter.unusedVariables false

theorem none_walk (a t : Int) (r : R) (D : Option Addr) (n c : Nat) (w : World) : Calls Try.prog 7 #[.int .i64 a, .agg #[.int .u64 r.ts, .int .i64 r.dc, .int .i64 r.tx, .slice D n c], .int .u64 t] w fun e w' => e = .returned (.bool true) ∧ Below w.heap.size w w' := by
  go_enter Try.func7, Try.ntmps7
  go_wp2_with (first
    | (go_at_call 22; refine (Heart_none _ _ _).mono ?_; rintro e w0 ⟨rfl, rfl⟩)
    | (go_at_call 12; refine (Peek_none _).mono ?_; rintro e w1 ⟨rfl, hb1⟩; have hs1 := hb1.size)
    | (go_at_call 13; have _t := hs1; refine (Next_none _).mono ?_; rintro e w2 ⟨rfl, hb2⟩; have B2 : Below (w.alloc (.cells #[.int .u64 r.ts, .int .i64 r.dc, .int .i64 r.tx, .slice D n c] 25)).heap.size (w.alloc (.cells #[.int .u64 r.ts, .int .i64 r.dc, .int .i64 r.tx, .slice D n c] 25)) w2 := by { refine below_own ?_ hb2; exact (own_alloc hb1 _) }; have hs2 := B2.size)
    | (go_at_call 14; refine (awake_any _).mono ?_; rintro e w3 ⟨rfl, hb3⟩; have B3 : Below (w.alloc (.cells #[.int .u64 r.ts, .int .i64 r.dc, .int .i64 r.tx, .slice D n c] 25)).heap.size (w.alloc (.cells #[.int .u64 r.ts, .int .i64 r.dc, .int .i64 r.tx, .slice D n c] 25)) w3 := by { refine below_own ?_ hb3; exact (own_alloc B2 _) }; have v0 : w3.cell? ⟨w.heap.size, 0, none⟩ = some (.int .u64 r.ts) := (box_on B3).1 0; have v1 : w3.cell? ⟨w.heap.size, 1, none⟩ = some (.int .i64 r.dc) := (box_on B3).1 1; have v2 : w3.cell? ⟨w.heap.size, 2, none⟩ = some (.int .i64 r.tx) := (box_on B3).1 2; have v3 : w3.cell? ⟨w.heap.size, 3, none⟩ = some (.slice D n c) := (box_on B3).1 3; have x0 : w3.cell? ⟨w2.heap.size, 0, none⟩ = some (.int .u64 0) := (box_on hb3).1 0; have x1 : w3.cell? ⟨w2.heap.size, 1, none⟩ = some (.int .i64 0) := (box_on hb3).1 1; have x2 : w3.cell? ⟨w2.heap.size, 2, none⟩ = some (.int .i64 0) := (box_on hb3).1 2; have x3 : w3.cell? ⟨w2.heap.size, 3, none⟩ = some (.slice none 0 0) := (box_on hb3).1 3)
    | (go_at_call 11; refine (Put_none r D n c _ _).mono ?_; rintro e w4 ⟨rfl, hb4⟩; have B4 := below_own B3 hb4; have y0 : w4.cell? ⟨w2.heap.size, 0, none⟩ = some (.int .u64 0) := cell_on hb4 x0; have y1 : w4.cell? ⟨w2.heap.size, 1, none⟩ = some (.int .i64 0) := cell_on hb4 x1; have y2 : w4.cell? ⟨w2.heap.size, 2, none⟩ = some (.int .i64 0) := cell_on hb4 x2; have y3 : w4.cell? ⟨w2.heap.size, 3, none⟩ = some (.slice none 0 0) := cell_on hb4 x3)
    | (go_at_call 16; refine (Done_none _ _).mono ?_; rintro e w5 ⟨rfl, rfl⟩)
    | (go_at_call 15; refine (same_rec ⟨0, 0, 0, []⟩ none none 0 0 0 _ rfl (by omega) (Cells.nil _ _) (Cells.nil _ _)).mono ?_; rintro e w6 ⟨rfl, hb6⟩)
    | (go_at_call 17; refine (Applied_none _).mono ?_; rintro e w7 ⟨rfl, rfl⟩)
    | (go_at_call 26; refine (Got_none _).mono ?_; rintro e w8 ⟨rfl, rfl⟩))
  go_ret
  exact ⟨rfl, below_own (own_alloc (own_refl _) _) (below_own B4 hb6)⟩
end Go.Proofs.Ytneglecglkibfaa
