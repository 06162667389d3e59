/-
  The walks of the two functions that answer what is seen at a time. Conditions: the list's cells lie as the hypotheses say.
-/
import Derived.Test.YtpiifgmegdphpaaChainAt
namespace Go.Proofs.Ytpiifgmegdphpaa
open Go.RowKit
set_option linter.unusedVariables false


set_option maxHeartbeats 1000000 in
theorem At_some (A : Option Addr) (n c : Nat) (l : List V) (snap : Int) (w : World) (a : Nat) (x : V) (hn : l.length = n) (hm : n ≤ 9223372036854775807) (hA : Cells w A (flatV l)) (hs : seen l snap n = some a) (hx : l[a]? = some x) :
    Calls Try.prog 12 #[.slice A n c, .int .u64 snap] w fun e w' => e = .returned (.tuple #[.agg #[.string x.key, .string x.val, .bool x.gone, .int .u64 x.ts, .int .i64 x.dc, .int .i64 x.tx], .bool true]) ∧ Below w.heap.size w w' := by
  obtain ⟨b, off, rfl, hc⟩ := hA.ver hx
  obtain ⟨x0, x1, x2, x3, x4, x5⟩ := hc a x hx
  have g1 : (0 : Int) ≤ (a : Int) := by omega
  have g2 : (a : Int) < (n : Int) := by have := (seen_lt l snap n a hs).1; omega
  have g3 : decide ((a : Int) < 0) = false := by simp
  have hq : idx (seen l snap n) = a := by rw [hs]; rfl
  go_enter Try.func12, Try.ntmps12
  go_wp2_with (go_at_call 26; refine (at_any _ _ _ l _ _ hn hm (hA.on (own_alloc (own_refl _) _))).mono ?_; rintro e w1 ⟨rfl, hb1⟩; rw [hq]; have z0 : w1.cell? ⟨w.heap.size, 0, none⟩ = some (.string ⟨#[]⟩) := (box_on hb1).1 0; have z1 : w1.cell? ⟨w.heap.size, 1, none⟩ = some (.string ⟨#[]⟩) := (box_on hb1).1 1; have z2 : w1.cell? ⟨w.heap.size, 2, none⟩ = some (.bool false) := (box_on hb1).1 2; have z3 : w1.cell? ⟨w.heap.size, 3, none⟩ = some (.int .u64 0) := (box_on hb1).1 3; have z4 : w1.cell? ⟨w.heap.size, 4, none⟩ = some (.int .i64 0) := (box_on hb1).1 4; have z5 : w1.cell? ⟨w.heap.size, 5, none⟩ = some (.int .i64 0) := (box_on hb1).1 5; have f0 := (box_on hb1).2.1 0; have f1 := (box_on hb1).2.1 1; have f2 := (box_on hb1).2.1 2; have f3 := (box_on hb1).2.1 3; have f4 := (box_on hb1).2.1 4; have f5 := (box_on hb1).2.1 5; have hsz := (box_on hb1).2.2; have x0' := cell_on hb1 (cell_on (own_alloc (own_refl _) _) x0); have x1' := cell_on hb1 (cell_on (own_alloc (own_refl _) _) x1); have x2' := cell_on hb1 (cell_on (own_alloc (own_refl _) _) x2); have x3' := cell_on hb1 (cell_on (own_alloc (own_refl _) _) x3); have x4' := cell_on hb1 (cell_on (own_alloc (own_refl _) _) x4); have x5' := cell_on hb1 (cell_on (own_alloc (own_refl _) _) x5))
  refine bodyPost_ret (v := .tuple #[.agg #[.string x.key, .string x.val, .bool x.gone, .int .u64 x.ts, .int .i64 x.dc, .int .i64 x.tx], .bool true]) (by simp [results, Try.results12, go_sem, z0, z1, z2, z3, z4, z5]) rfl ⟨rfl, own_set (own_set (own_set (own_set (own_set (own_set (below_own (own_alloc (own_refl _) _) hb1) (Nat.le_refl _) _) (Nat.le_refl _) _) (Nat.le_refl _) _) (Nat.le_refl _) _) (Nat.le_refl _) _) (Nat.le_refl _) _⟩

set_option maxHeartbeats 1000000 in
theorem At_none (A : Option Addr) (n c : Nat) (l : List V) (snap : Int) (w : World) (hn : l.length = n) (hm : n ≤ 9223372036854775807) (hA : Cells w A (flatV l)) (hs : seen l snap n = none) :
    Calls Try.prog 12 #[.slice A n c, .int .u64 snap] w fun e w' => e = .returned (.tuple #[.agg #[.string ⟨#[]⟩, .string ⟨#[]⟩, .bool false, .int .u64 0, .int .i64 0, .int .i64 0], .bool false]) ∧ Below w.heap.size w w' := by
  have hq : idx (seen l snap n) = -1 := by rw [hs]; rfl
  go_enter Try.func12, Try.ntmps12
  go_wp2_with (go_at_call 26; refine (at_any _ _ _ l _ _ hn hm (hA.on (own_alloc (own_refl _) _))).mono ?_; rintro e w1 ⟨rfl, hb1⟩; rw [hq]; have z0 : w1.cell? ⟨w.heap.size, 0, none⟩ = some (.string ⟨#[]⟩) := (box_on hb1).1 0; have z1 : w1.cell? ⟨w.heap.size, 1, none⟩ = some (.string ⟨#[]⟩) := (box_on hb1).1 1; have z2 : w1.cell? ⟨w.heap.size, 2, none⟩ = some (.bool false) := (box_on hb1).1 2; have z3 : w1.cell? ⟨w.heap.size, 3, none⟩ = some (.int .u64 0) := (box_on hb1).1 3; have z4 : w1.cell? ⟨w.heap.size, 4, none⟩ = some (.int .i64 0) := (box_on hb1).1 4; have z5 : w1.cell? ⟨w.heap.size, 5, none⟩ = some (.int .i64 0) := (box_on hb1).1 5; have f0 := (box_on hb1).2.1 0; have f1 := (box_on hb1).2.1 1; have f2 := (box_on hb1).2.1 2; have f3 := (box_on hb1).2.1 3; have f4 := (box_on hb1).2.1 4; have f5 := (box_on hb1).2.1 5; have hsz := (box_on hb1).2.2)
  refine bodyPost_ret (v := .tuple #[.agg #[.string ⟨#[]⟩, .string ⟨#[]⟩, .bool false, .int .u64 0, .int .i64 0, .int .i64 0], .bool false]) (by simp [results, Try.results12, go_sem, z0, z1, z2, z3, z4, z5]) rfl ⟨rfl, own_set (own_set (own_set (own_set (own_set (own_set (below_own (own_alloc (own_refl _) _) hb1) (Nat.le_refl _) _) (Nat.le_refl _) _) (Nat.le_refl _) _) (Nat.le_refl _) _) (Nat.le_refl _) _) (Nat.le_refl _) _⟩

set_option maxHeartbeats 1000000 in
theorem rAt_some (A : Option Addr) (n c : Nat) (l : List V) (snap : Int) (w : World) (a : Nat) (x : V) (hn : l.length = n) (hm : n ≤ 9223372036854775807) (hA : Cells w A (flatV l)) (hs : seen l snap n = some a) (hx : l[a]? = some x) :
    Calls Try.prog 13 #[.slice A n c, .int .u64 snap] w fun e w' => e = .returned (.tuple #[.agg #[.string x.key, .string x.val, .bool x.gone, .int .u64 x.ts, .int .i64 x.dc, .int .i64 x.tx], .bool true]) ∧ Below w.heap.size w w' := by
  obtain ⟨b, off, rfl, hc⟩ := hA.ver hx
  obtain ⟨x0, x1, x2, x3, x4, x5⟩ := hc a x hx
  have g1 : (0 : Int) ≤ (a : Int) := by omega
  have g2 : (a : Int) < (n : Int) := by have := (seen_lt l snap n a hs).1; omega
  have g3 : decide ((a : Int) < 0) = false := by simp
  have hq : idx (seen l snap n) = a := by rw [hs]; rfl
  go_enter Try.func13, Try.ntmps13
  go_wp2_with (go_at_call 27; refine (seen_any _ _ _ l _ _ hn hm (hA.on (own_alloc (own_refl _) _))).mono ?_; rintro e w1 ⟨rfl, hb1⟩; rw [hq]; have z0 : w1.cell? ⟨w.heap.size, 0, none⟩ = some (.string ⟨#[]⟩) := (box_on hb1).1 0; have z1 : w1.cell? ⟨w.heap.size, 1, none⟩ = some (.string ⟨#[]⟩) := (box_on hb1).1 1; have z2 : w1.cell? ⟨w.heap.size, 2, none⟩ = some (.bool false) := (box_on hb1).1 2; have z3 : w1.cell? ⟨w.heap.size, 3, none⟩ = some (.int .u64 0) := (box_on hb1).1 3; have z4 : w1.cell? ⟨w.heap.size, 4, none⟩ = some (.int .i64 0) := (box_on hb1).1 4; have z5 : w1.cell? ⟨w.heap.size, 5, none⟩ = some (.int .i64 0) := (box_on hb1).1 5; have f0 := (box_on hb1).2.1 0; have f1 := (box_on hb1).2.1 1; have f2 := (box_on hb1).2.1 2; have f3 := (box_on hb1).2.1 3; have f4 := (box_on hb1).2.1 4; have f5 := (box_on hb1).2.1 5; have hsz := (box_on hb1).2.2; have x0' := cell_on hb1 (cell_on (own_alloc (own_refl _) _) x0); have x1' := cell_on hb1 (cell_on (own_alloc (own_refl _) _) x1); have x2' := cell_on hb1 (cell_on (own_alloc (own_refl _) _) x2); have x3' := cell_on hb1 (cell_on (own_alloc (own_refl _) _) x3); have x4' := cell_on hb1 (cell_on (own_alloc (own_refl _) _) x4); have x5' := cell_on hb1 (cell_on (own_alloc (own_refl _) _) x5))
  refine bodyPost_ret (v := .tuple #[.agg #[.string x.key, .string x.val, .bool x.gone, .int .u64 x.ts, .int .i64 x.dc, .int .i64 x.tx], .bool true]) (by simp [results, Try.results13, go_sem, z0, z1, z2, z3, z4, z5]) rfl ⟨rfl, own_set (own_set (own_set (own_set (own_set (own_set (below_own (own_alloc (own_refl _) _) hb1) (Nat.le_refl _) _) (Nat.le_refl _) _) (Nat.le_refl _) _) (Nat.le_refl _) _) (Nat.le_refl _) _) (Nat.le_refl _) _⟩

set_option maxHeartbeats 1000000 in
theorem rAt_none (A : Option Addr) (n c : Nat) (l : List V) (snap : Int) (w : World) (hn : l.length = n) (hm : n ≤ 9223372036854775807) (hA : Cells w A (flatV l)) (hs : seen l snap n = none) :
    Calls Try.prog 13 #[.slice A n c, .int .u64 snap] w fun e w' => e = .returned (.tuple #[.agg #[.string ⟨#[]⟩, .string ⟨#[]⟩, .bool false, .int .u64 0, .int .i64 0, .int .i64 0], .bool false]) ∧ Below w.heap.size w w' := by
  have hq : idx (seen l snap n) = -1 := by rw [hs]; rfl
  go_enter Try.func13, Try.ntmps13
  go_wp2_with (go_at_call 27; refine (seen_any _ _ _ l _ _ hn hm (hA.on (own_alloc (own_refl _) _))).mono ?_; rintro e w1 ⟨rfl, hb1⟩; rw [hq]; have z0 : w1.cell? ⟨w.heap.size, 0, none⟩ = some (.string ⟨#[]⟩) := (box_on hb1).1 0; have z1 : w1.cell? ⟨w.heap.size, 1, none⟩ = some (.string ⟨#[]⟩) := (box_on hb1).1 1; have z2 : w1.cell? ⟨w.heap.size, 2, none⟩ = some (.bool false) := (box_on hb1).1 2; have z3 : w1.cell? ⟨w.heap.size, 3, none⟩ = some (.int .u64 0) := (box_on hb1).1 3; have z4 : w1.cell? ⟨w.heap.size, 4, none⟩ = some (.int .i64 0) := (box_on hb1).1 4; have z5 : w1.cell? ⟨w.heap.size, 5, none⟩ = some (.int .i64 0) := (box_on hb1).1 5; have f0 := (box_on hb1).2.1 0; have f1 := (box_on hb1).2.1 1; have f2 := (box_on hb1).2.1 2; have f3 := (box_on hb1).2.1 3; have f4 := (box_on hb1).2.1 4; have f5 := (box_on hb1).2.1 5; have hsz := (box_on hb1).2.2)
  refine bodyPost_ret (v := .tuple #[.agg #[.string ⟨#[]⟩, .string ⟨#[]⟩, .bool false, .int .u64 0, .int .i64 0, .int .i64 0], .bool false]) (by simp [results, Try.results13, go_sem, z0, z1, z2, z3, z4, z5]) rfl ⟨rfl, own_set (own_set (own_set (own_set (own_set (own_set (below_own (own_alloc (own_refl _) _) hb1) (Nat.le_refl _) _) (Nat.le_refl _) _) (Nat.le_refl _) _) (Nat.le_refl _) _) (Nat.le_refl _) _) (Nat.le_refl _) _⟩


def kV (t : Int) : V := ⟨⟨#[107]⟩, ⟨#[]⟩, false, t, 0, 0⟩
theorem awake_any (w : World) : Calls Try.prog 14 #[] w fun e w' => e = .returned (.bool true) ∧ Below w.heap.size w w' := by
  go_enter Try.func14, Try.ntmps14
  go_wp2_with (go_at_call 12; refine (At_some _ 2 2 [kV 3, kV 7] 5 _ 0 (kV 3) rfl (by omega) (Cells.new w _ _) rfl rfl).mono ?_; rintro e w1 ⟨rfl, hb1⟩)
  go_ret
  exact ⟨rfl, own_alloc (below_own (own_alloc (own_refl _) _) hb1) _⟩
end Go.Proofs.Ytpiifgmegdphpaa
