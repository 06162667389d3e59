/-
  The walks of the two functions that find what is seen at a time, and of those that answer it. Conditions: the list's cells lie as the hypotheses say.
-/
import Derived.Test.YtpiifgmegdphpaaMarkT
import Derived.Test.YtpiifgmegdphpaaChain
import Derived.Deep.RegionHeld3
import Derived.Deep.QuietTactic
import Derived.BigQuiet
import Derived.Outline
import Derived.Lib.Hide
namespace Go.Proofs.Ytpiifgmegdphpaa
open Go.RowKit
set_option linter.unusedVariables false


set_option maxHeartbeats 1000000 in
theorem at_any (A : Option Addr) (n c : Nat) (l : List V) (snap : Int) (w : World) (hn : l.length = n) (hm : n ≤ 9223372036854775807) (hA : Cells w A (flatV l)) :
    Calls Try.prog 26 #[.slice A n c, .int .u64 snap] w fun e w' => e = .returned (.int .i64 (idx (seen l snap n))) ∧ Below w.heap.size w w' := by
  go_enter Try.func26, Try.ntmps26
  go_wp2
  go_loopw [5, 10] (fun r i wr => ∃ (k : Nat) (z : Int), k ≤ n ∧ i = .int .i64 k ∧ r = .int .i64 z ∧ z = idx (seen l snap k) ∧ Below w.heap.size w wr) (fun _ i _ => n - (intOf i).toNat)
  case atStart => exact ⟨0, -1, Nat.zero_le _, rfl, rfl, rfl, Below.refl _ _⟩
  case round =>
    obtain ⟨k, z, hk, rfl, rfl, hz, hbel⟩ := hrel
    by_cases hlt : k < n
    · obtain ⟨x, hx⟩ : ∃ x, l[k]? = some x := ⟨_, List.getElem?_eq_getElem (by omega)⟩
      obtain ⟨b, off, rfl, hc⟩ := hA.ver hx
      obtain ⟨x0, x1, x2, x3, x4, x5⟩ := hc k x hx
      have x0' := cell_on hbel x0
      have x1' := cell_on hbel x1
      have x2' := cell_on hbel x2
      have x3' := cell_on hbel x3
      have x4' := cell_on hbel x4
      have x5' := cell_on hbel x5
      by_cases hs : x.ts ≤ snap
      · cases hb : seen l snap k with
        | none =>
          have he := seen_first hx hs hb
          rw [hb] at hz
          obtain rfl : z = -1 := hz
          have HE := Lib.hid he
          have HB := Lib.hid hb
          clear he hb
          go_wp2_with fail
          go_quiet (fail)
          go_wp2
          go_roundw
          case rel => exact ⟨k + 1, k, by omega, by go_num, rfl, by rw [HE.out]; rfl, own_drewN (own_alloc hbel _) _⟩
          case measure => simp [intOf]; omega
        | some a =>
          obtain ⟨hak, y, hy, _⟩ := seen_lt l snap k a hb
          rw [hb] at hz
          obtain rfl : z = a := hz
          obtain ⟨y0, y1, y2, y3, y4, y5⟩ := hc a y hy
          have y0' := cell_on hbel y0
          have y1' := cell_on hbel y1
          have y2' := cell_on hbel y2
          have y3' := cell_on hbel y3
          have y4' := cell_on hbel y4
          have y5' := cell_on hbel y5
          have hbl : b < wr.heap.size := World.block_lt_of_cell? _ _ x0'
          have g1 : (0 : Int) ≤ (a : Int) := by omega
          have g2 : (a : Int) < (n : Int) := by omega
          have g3 : decide ((a : Int) < 0) = false := by simp
          rcases hyx : vlt y x with _ | _
          all_goals
            first | have g4 := vcmp_pos hyx | have g4 := vcmp_neg hyx
            first | have he := seen_keep hx hs hb hy hyx | have he := seen_next hx hs hb hy hyx
            have HE := Lib.hid he
            have HB := Lib.hid hb
            clear he hb
            go_wp2_with fail
            go_region_held3 (fun w' => Below w.heap.size w w' ∧ w'.cell? ⟨wr.heap.size, 0, none⟩ = some (.string x.key) ∧ w'.cell? ⟨wr.heap.size, 1, none⟩ = some (.string x.val) ∧ w'.cell? ⟨wr.heap.size, 2, none⟩ = some (.bool x.gone) ∧ w'.cell? ⟨wr.heap.size, 3, none⟩ = some (.int .u64 x.ts) ∧ w'.cell? ⟨wr.heap.size, 4, none⟩ = some (.int .i64 x.dc) ∧ w'.cell? ⟨wr.heap.size, 5, none⟩ = some (.int .i64 x.tx) ∧ w'.cell? ⟨b, off + a * 6, none⟩ = some (.string y.key) ∧ w'.cell? ⟨b, off + a * 6 + 1, none⟩ = some (.string y.val) ∧ w'.cell? ⟨b, off + a * 6 + 2, none⟩ = some (.bool y.gone) ∧ w'.cell? ⟨b, off + a * 6 + 3, none⟩ = some (.int .u64 y.ts) ∧ w'.cell? ⟨b, off + a * 6 + 4, none⟩ = some (.int .i64 y.dc) ∧ w'.cell? ⟨b, off + a * 6 + 5, none⟩ = some (.int .i64 y.tx))
              (first | (refine ⟨own_drew (own_alloc (by assumption) _), ?_, ?_, ?_, ?_, ?_, ?_, ?_, ?_, ?_, ?_, ?_, ?_⟩ <;> (go_simp; done)) | (go_split_ands; refine ⟨below_own (by assumption) (by assumption), ?_, ?_, ?_, ?_, ?_, ?_, ?_, ?_, ?_, ?_, ?_, ?_⟩ <;> exact cell_on (by assumption) (by assumption)))
              (first | (go_at_call 29; refine (hof_any _ _ _ _ _ _ _).mono ?_; rintro e w1 ⟨rfl, hb1⟩) | (go_at_call 28; refine (cmp_any _ _ _ _ _ _ _).mono ?_; rintro e w1 ⟨rfl, hb1⟩))
            rename_i hS
            obtain ⟨hb', _⟩ := hS
            go_wp2
            go_roundw
            case rel => first
              | exact ⟨k + 1, a, by omega, by go_num, rfl, by rw [HE.out]; rfl, hb'⟩
              | exact ⟨k + 1, k, by omega, by go_num, rfl, by rw [HE.out]; rfl, hb'⟩
            case measure => simp [intOf]; omega
      · have he := seen_late (snap := snap) hx (by omega)
        have HE := Lib.hid he
        have HZ := Lib.hid hz
        clear he hz
        have hd : decide (x.ts ≤ snap) = false := by simp; omega
        go_wp2_with fail
        go_quiet (fail)
        go_wp2
        go_roundw
        case rel => exact ⟨k + 1, z, by omega, by go_num, rfl, by rw [HE.out, HZ.out], own_drewN (own_alloc hbel _) _⟩
        case measure => simp [intOf]; omega
    · obtain rfl : k = n := by omega
      have HZ := Lib.hid hz
      clear hz
      go_wp2
      go_ret
      exact ⟨ret_val (congrArg (Value.int .i64) HZ.out), hbel⟩

/-- less, of two versions. -/
theorem rless_any (x y : V) (w : World) :
    Calls Try.prog 30 #[.agg #[.string x.key, .string x.val, .bool x.gone, .int .u64 x.ts, .int .i64 x.dc, .int .i64 x.tx], .agg #[.string y.key, .string y.val, .bool y.gone, .int .u64 y.ts, .int .i64 y.dc, .int .i64 y.tx]] w fun e w' => e = .returned (.bool (vlt x y)) ∧ Below w.heap.size w w' := by
  go_enter Try.func30, Try.ntmps30
  go_wp2_with fail
  go_region_held3 (fun w' => Below w.heap.size w w' ∧ w'.cell? ⟨w.heap.size, 0, none⟩ = some (.string x.key) ∧ w'.cell? ⟨w.heap.size, 1, none⟩ = some (.string x.val) ∧ w'.cell? ⟨w.heap.size, 2, none⟩ = some (.bool x.gone) ∧ w'.cell? ⟨w.heap.size, 3, none⟩ = some (.int .u64 x.ts) ∧ w'.cell? ⟨w.heap.size, 4, none⟩ = some (.int .i64 x.dc) ∧ w'.cell? ⟨w.heap.size, 5, none⟩ = some (.int .i64 x.tx) ∧ w'.cell? ⟨w.heap.size + 1, 0, none⟩ = some (.string y.key) ∧ w'.cell? ⟨w.heap.size + 1, 1, none⟩ = some (.string y.val) ∧ w'.cell? ⟨w.heap.size + 1, 2, none⟩ = some (.bool y.gone) ∧ w'.cell? ⟨w.heap.size + 1, 3, none⟩ = some (.int .u64 y.ts) ∧ w'.cell? ⟨w.heap.size + 1, 4, none⟩ = some (.int .i64 y.dc) ∧ w'.cell? ⟨w.heap.size + 1, 5, none⟩ = some (.int .i64 y.tx))
    (first | (refine ⟨own_drew (own_alloc (own_alloc (own_refl _) _) _), ?_, ?_, ?_, ?_, ?_, ?_, ?_, ?_, ?_, ?_, ?_, ?_⟩ <;> (go_simp; done)) | (go_split_ands; refine ⟨below_own (by assumption) (by assumption), ?_, ?_, ?_, ?_, ?_, ?_, ?_, ?_, ?_, ?_, ?_, ?_⟩ <;> exact cell_on (by assumption) (by assumption)))
    (first | (go_at_call 23; refine (rof_any _ _ _ _ _ _ _).mono ?_; rintro e w1 ⟨rfl, hb1⟩) | (go_at_call 22; refine (less_any _ _ _ _ _ _ _).mono ?_; rintro e w1 ⟨rfl, hb1⟩))
  rename_i hS
  obtain ⟨hb', _⟩ := hS
  go_wp2
  go_ret
  exact ⟨rfl, hb'⟩

set_option maxHeartbeats 1000000 in
theorem seen_any (A : Option Addr) (n c : Nat) (l : List V) (snap : Int) (w : World) (hn : l.length = n) (hm : n ≤ 9223372036854775807) (hA : Cells w A (flatV l)) :
    Calls Try.prog 27 #[.slice A n c, .int .u64 snap] w fun e w' => e = .returned (.int .i64 (idx (seen l snap n))) ∧ Below w.heap.size w w' := by
  go_enter Try.func27, Try.ntmps27
  go_wp2
  go_loopw [5, 6] (fun r i wr => ∃ (k : Nat) (z : Int), k ≤ n ∧ i = .int .i64 k ∧ r = .int .i64 z ∧ z = idx (seen l snap k) ∧ Below w.heap.size w wr) (fun _ i _ => n - (intOf i).toNat)
  case atStart => exact ⟨0, -1, Nat.zero_le _, rfl, rfl, rfl, Below.refl _ _⟩
  case round =>
    obtain ⟨k, z, hk, rfl, rfl, hz, hbel⟩ := hrel
    by_cases hlt : k < n
    · obtain ⟨x, hx⟩ : ∃ x, l[k]? = some x := ⟨_, List.getElem?_eq_getElem (by omega)⟩
      obtain ⟨b, off, rfl, hc⟩ := hA.ver hx
      obtain ⟨x0, x1, x2, x3, x4, x5⟩ := hc k x hx
      have x0' := cell_on hbel x0
      have x1' := cell_on hbel x1
      have x2' := cell_on hbel x2
      have x3' := cell_on hbel x3
      have x4' := cell_on hbel x4
      have x5' := cell_on hbel x5
      have g3 : (0 : Int) ≤ (k : Int) := by omega
      have g4 : (k : Int) < (n : Int) := by omega
      by_cases hs : x.ts ≤ snap
      · cases hb : seen l snap k with
        | none =>
          have he := seen_first hx hs hb
          rw [hb] at hz
          obtain rfl : z = -1 := hz
          have HE := Lib.hid he
          have HB := Lib.hid hb
          clear he hb
          go_wp2_with fail
          go_quiet (fail)
          go_wp2
          go_roundw
          case rel => exact ⟨k + 1, k, by omega, by go_num, rfl, by rw [HE.out]; rfl, own_drewN hbel _⟩
          case measure => simp [intOf]; omega
        | some a =>
          obtain ⟨hak, y, hy, _⟩ := seen_lt l snap k a hb
          rw [hb] at hz
          obtain rfl : z = a := hz
          obtain ⟨y0, y1, y2, y3, y4, y5⟩ := hc a y hy
          have y0' := cell_on hbel y0
          have y1' := cell_on hbel y1
          have y2' := cell_on hbel y2
          have y3' := cell_on hbel y3
          have y4' := cell_on hbel y4
          have y5' := cell_on hbel y5
          have g1 : (0 : Int) ≤ (a : Int) := by omega
          have g2 : (a : Int) < (n : Int) := by omega
          have g5 : decide ((a : Int) < 0) = false := by simp
          rcases hyx : vlt y x with _ | _
          all_goals
            first | have he := seen_keep hx hs hb hy hyx | have he := seen_next hx hs hb hy hyx
            have HE := Lib.hid he
            have HB := Lib.hid hb
            clear he hb
            go_wp2_with fail
            go_region_held3 (fun w' => Below w.heap.size w w' ∧ w'.cell? ⟨b, off + k * 6, none⟩ = some (.string x.key) ∧ w'.cell? ⟨b, off + k * 6 + 1, none⟩ = some (.string x.val) ∧ w'.cell? ⟨b, off + k * 6 + 2, none⟩ = some (.bool x.gone) ∧ w'.cell? ⟨b, off + k * 6 + 3, none⟩ = some (.int .u64 x.ts) ∧ w'.cell? ⟨b, off + k * 6 + 4, none⟩ = some (.int .i64 x.dc) ∧ w'.cell? ⟨b, off + k * 6 + 5, none⟩ = some (.int .i64 x.tx) ∧ w'.cell? ⟨b, off + a * 6, none⟩ = some (.string y.key) ∧ w'.cell? ⟨b, off + a * 6 + 1, none⟩ = some (.string y.val) ∧ w'.cell? ⟨b, off + a * 6 + 2, none⟩ = some (.bool y.gone) ∧ w'.cell? ⟨b, off + a * 6 + 3, none⟩ = some (.int .u64 y.ts) ∧ w'.cell? ⟨b, off + a * 6 + 4, none⟩ = some (.int .i64 y.dc) ∧ w'.cell? ⟨b, off + a * 6 + 5, none⟩ = some (.int .i64 y.tx))
              (first | (refine ⟨own_drew (by assumption), ?_, ?_, ?_, ?_, ?_, ?_, ?_, ?_, ?_, ?_, ?_, ?_⟩ <;> (go_simp; done)) | (go_split_ands; refine ⟨below_own (by assumption) (by assumption), ?_, ?_, ?_, ?_, ?_, ?_, ?_, ?_, ?_, ?_, ?_, ?_⟩ <;> exact cell_on (by assumption) (by assumption)))
              (first | (go_at_call 30; refine (rless_any y x _).mono ?_; rintro e w1 ⟨rfl, hb1⟩; rw [hyx]))
            rename_i hS
            obtain ⟨hb', _⟩ := hS
            go_wp2
            go_roundw
            case rel => first
              | exact ⟨k + 1, a, by omega, by go_num, rfl, by rw [HE.out]; rfl, hb'⟩
              | exact ⟨k + 1, k, by omega, by go_num, rfl, by rw [HE.out]; rfl, hb'⟩
            case measure => simp [intOf]; omega
      · have he := seen_late (snap := snap) hx (by omega)
        have HE := Lib.hid he
        have HZ := Lib.hid hz
        clear he hz
        have hd : decide (x.ts ≤ snap) = false := by simp; omega
        go_wp2_with fail
        go_quiet (fail)
        go_wp2
        go_roundw
        case rel => exact ⟨k + 1, z, by omega, by go_num, rfl, by rw [HE.out, HZ.out], own_drewN hbel _⟩
        case measure => simp [intOf]; omega
    · obtain rfl : k = n := by omega
      have HZ := Lib.hid hz
      clear hz
      go_wp2
      go_ret
      exact ⟨ret_val (congrArg (Value.int .i64) HZ.out), hbel⟩
end Go.Proofs.Ytpiifgmegdphpaa
