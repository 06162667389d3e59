/-
  The walk of the law PartNone: whatever data come in, the call returns true and leaves what was there. Conditions: the arguments' cells lie as the hypotheses say.
-/
import Derived.Test.YtjnbdkkefdfiaaaPartOp
namespace Go.Proofs.Ytjnbdkkefdfiaaa.lawPartNone
open Go.RowKit Go.Maps
set_option linter.unusedVariables false

theorem See_none (t : Int) (w : World) : Calls Try.prog 11 #[.pointer none, .int .u64 t] w fun e w' => e = .returned (.tuple #[]) ∧ w = w' := by
  go_enter Try.func11, Try.ntmps11
  go_wp2
  go_end0
  exact ⟨rfl, rfl⟩
theorem Prepare_none (tx low ms : Int) (w : World) : Calls Try.prog 8 #[.pointer none, .int .u64 tx, .int .u64 low, .int .i64 ms] w fun e w' => e = .returned (.tuple #[.int .u64 0, .int .i64 1]) ∧ w = w' := by
  go_enter Try.func8, Try.ntmps8
  go_wp2
  go_ret2
  exact ⟨rfl, rfl⟩
theorem Stable_none (ms : Int) (w : World) : Calls Try.prog 10 #[.pointer none, .int .i64 ms] w fun e w' => e = .returned (.tuple #[.int .u64 0, .int .i64 1]) ∧ w = w' := by
  go_enter Try.func10, Try.ntmps10
  go_wp2
  go_ret2
  exact ⟨rfl, rfl⟩
theorem Commit_none (tx low ms : Int) (w : World) : Calls Try.prog 9 #[.pointer none, .int .u64 tx, .int .u64 low, .int .i64 ms] w fun e w' => e = .returned (.int .i64 1) ∧ w = w' := by
  go_enter Try.func9, Try.ntmps9
  go_wp2
  go_ret
  exact ⟨rfl, rfl⟩
theorem Open_none  (w : World) : Calls Try.prog 17 #[.pointer none] w fun e w' => e = .returned (.int .i64 0) ∧ w = w' := by
  go_enter Try.func17, Try.ntmps17
  go_wp2
  go_ret
  exact ⟨rfl, rfl⟩
theorem Clock_none  (w : World) : Calls Try.prog 18 #[.pointer none] w fun e w' => e = .returned (.int .u64 0) ∧ w = w' := by
  go_enter Try.func18, Try.ntmps18
  go_wp2
  go_ret
  exact ⟨rfl, rfl⟩
theorem walk (x : PO) (w : World) : Calls Try.prog 6 #[.agg #[.int .i64 x.kind, .int .u64 x.tx, .int .u64 x.t, .int .i64 x.ms]] w fun e w' => e = .returned (.bool true) ∧ Below w.heap.size w w' := by
  go_enter Try.func6, Try.ntmps6
  go_wp2_with (first
    | (go_at_call 11; refine (See_none _ _).mono ?_; rintro e w9 ⟨rfl, rfl⟩)
    | (go_at_call 8; refine (Prepare_none _ _ _ _).mono ?_; rintro e w9 ⟨rfl, rfl⟩)
    | (go_at_call 10; refine (Stable_none _ _).mono ?_; rintro e w9 ⟨rfl, rfl⟩)
    | (go_at_call 9; refine (Commit_none _ _ _ _).mono ?_; rintro e w9 ⟨rfl, rfl⟩)
    | (go_at_call 17; refine (Open_none _).mono ?_; rintro e w9 ⟨rfl, rfl⟩)
    | (go_at_call 18; refine (Clock_none _).mono ?_; rintro e w9 ⟨rfl, rfl⟩)
    | (go_at_call 12; refine (awake_any _).mono ?_; rintro e w1 ⟨rfl, hb1⟩; have y0 : w1.cell? ⟨w.heap.size, 0, none⟩ = some (.int .i64 x.kind) := (box_on hb1).1 0; have y1 : w1.cell? ⟨w.heap.size, 1, none⟩ = some (.int .u64 x.tx) := (box_on hb1).1 1; have y2 : w1.cell? ⟨w.heap.size, 2, none⟩ = some (.int .u64 x.t) := (box_on hb1).1 2; have y3 : w1.cell? ⟨w.heap.size, 3, none⟩ = some (.int .i64 x.ms) := (box_on hb1).1 3))
  go_ret
  exact ⟨rfl, below_own (own_alloc (own_refl w) _) hb1⟩
end Go.Proofs.Ytjnbdkkefdfiaaa.lawPartNone
