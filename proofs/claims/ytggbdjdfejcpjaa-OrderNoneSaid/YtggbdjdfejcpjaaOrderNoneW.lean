/-
  The walk of the law OrderNone: whatever data come in, the call returns true and leaves what was there. Conditions: the arguments' cells lie as the hypotheses say.
-/
import Derived.Test.YtggbdjdfejcpjaaAwakeO
namespace Go.Proofs.Ytggbdjdfejcpjaa.lawOrderNone
open Go.RowKit Go.Maps
set_option linter.unusedVariables false

theorem none_walk (r : R) (D : Option Addr) (c : Nat) (t a : Int) (w : World) : Calls Try.prog 7 #[.agg #[.int .u64 r.ts, .int .i64 r.dc, .int .i64 r.tx, .slice D r.vers.length c], .int .u64 t, .int .i64 a] w fun e w' => e = .returned (.bool true) ∧ Below w.heap.size w w' := by
  go_enter Try.func7, Try.ntmps7
  go_wp2_with (first
    | (go_at_call 17; refine (awake_any _).mono ?_; rintro e w1 ⟨rfl, hb1⟩; have y0 : w1.cell? ⟨w.heap.size, 0, none⟩ = some (.int .u64 r.ts) := (box_on hb1).1 0; have y1 : w1.cell? ⟨w.heap.size, 1, none⟩ = some (.int .i64 r.dc) := (box_on hb1).1 1; have y2 : w1.cell? ⟨w.heap.size, 2, none⟩ = some (.int .i64 r.tx) := (box_on hb1).1 2; have y3 : w1.cell? ⟨w.heap.size, 3, none⟩ = some (.slice D r.vers.length c) := (box_on hb1).1 3)
    | (go_at_call 9; refine (Decide_none r D _ c _).mono ?_; rintro e w2 ⟨rfl, hb2⟩)
    | (go_at_call 12; refine (Release_none _ _).mono ?_; rintro e w3 ⟨rfl, rfl⟩)
    | (go_at_call 14; refine (Len_none _).mono ?_; rintro e w4 ⟨rfl, rfl⟩)
    | (go_at_call 15; refine (Waiting_none _).mono ?_; rintro e w5 ⟨rfl, rfl⟩)
    | (go_at_call 19; refine (stable_nil _ _).mono ?_; rintro e w6 ⟨rfl, hb6⟩))
  go_ret
  exact ⟨rfl, below_own (below_own (below_own (own_alloc (own_refl _) _) hb1) hb2) hb6⟩
end Go.Proofs.Ytggbdjdfejcpjaa.lawOrderNone
