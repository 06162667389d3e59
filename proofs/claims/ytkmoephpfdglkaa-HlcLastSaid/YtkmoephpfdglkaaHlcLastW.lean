/-
  The walk of the law HlcLast: whatever data come in, the call returns true and leaves what was there. Conditions: that the arguments' cells lie as the hypotheses say.
-/
import Derived.Test.YtkmoephpfdglkaaChecked
import Derived.Test.YtkmoephpfdglkaaFrame
import Derived.Test.YtkmoephpfdglkaaHlcT
import Derived.Test.YtkmoephpfdglkaaLastT
import Derived.WalkLawsBesides
import Derived.Outline
import Derived.Lib.Hide
namespace Go.Proofs.Ytkmoephpfdglkaa.lawHlcLast
open Go.ChangeShapes Go.WideShapes Go.ChangeAt Go.RowKit
set_option linter.unusedVariables false

theorem awake_any (w : World) : Calls Try.prog 12 #[] w fun e w' => e = .returned (.bool true) ∧ w = w' := by
  have hp : pck 1 2 = (65538, 0) := by decide
  go_enter Try.func12, Try.ntmps12
  go_wp2_with (go_at_call 9; refine (pack_any _ _ _).mono ?_; rintro e w' ⟨rfl, rfl⟩)
  go_ret
  exact ⟨rfl, rfl⟩

set_option maxHeartbeats 1000000 in
theorem walk_nil (A : Option Addr) (c : Nat) (l : List K) (w : World) (hn : l.length = 0) (hl : l = []) (hA : Cells w A (flatK l)) :
    Calls Try.prog 8 #[.slice A 0 c] w fun e w' => e = .returned (.bool true) ∧ Below w.heap.size w w' := by
  have hq := (mcmp_zero 7 1 2 7 1 2).2 ⟨rfl, rfl, rfl⟩
  go_enter Try.func8, Try.ntmps8
  go_wp2_with (first
    | (go_at_call 21; refine ((last_any _ _ _ l _ hn (by omega) hA).mono fun _ _ => LastIs.nil_ hl).mono ?_; rintro e w1 ⟨rfl, hb1⟩)
    | (go_at_call 22; refine ((rlast_any _ _ _ l _ hn (by omega) (hA.on hb1)).mono fun _ _ => LastIs.nil_ hl).mono ?_; rintro e w2 ⟨rfl, hb2⟩))
  go_loopw [22] (fun i wr => i = .int .i64 0 ∧ Below w.heap.size w wr) (fun i _ => 0)
  case atStart => exact ⟨rfl, below_own hb1 hb2⟩
  case round =>
    obtain ⟨rfl, hbel⟩ := hrel
    go_wp2_with (first
      | (go_at_call 12; refine (awake_any _).mono ?_; rintro e w4 ⟨rfl, rfl⟩)
      | (go_at_call 23; refine (hof_any _ _ _ _ _ _ _).mono ?_; rintro e w5 ⟨rfl, hb5⟩)
      | (go_at_call 15; refine (cmp_any _ _ _ _ _ _ _).mono ?_; rintro e w6 ⟨rfl, hb6⟩))
    go_ret
    exact ⟨rfl, below_own (below_own hbel hb5) hb6⟩
set_option maxHeartbeats 1000000 in
theorem walk_pos (A : Option Addr) (n c a : Nat) (l : List K) (w : World) (hn : l.length = n) (h0 : 0 < n) (hm : n ≤ 9223372036854775807) (hA : Cells w A (flatK l)) (ht : Top l l.length a) :
    Calls Try.prog 8 #[.slice A n c] w fun e w' => e = .returned (.bool true) ∧ Below w.heap.size w w' := by
  have HA := Lib.hid hA
  have h1 : ((n : Int) == 0) = false := by simp; omega
  go_enter Try.func8, Try.ntmps8
  go_wp2_with (first
    | (go_at_call 21; refine ((last_any _ _ _ l _ hn (by omega) hA).mono fun _ _ => LastIs.at_ ht).mono ?_; rintro e w1 ⟨rfl, hb1⟩)
    | (go_at_call 22; refine ((rlast_any _ _ _ l _ hn (by omega) (hA.on hb1)).mono fun _ _ => LastIs.at_ ht).mono ?_; rintro e w2 ⟨rfl, hb2⟩))
  go_loopw [22] (fun i wr => ∃ k : Nat, k ≤ n ∧ i = .int .i64 k ∧ Below w.heap.size w wr) (fun i _ => n - (intOf i).toNat)
  case atStart => exact ⟨0, by omega, rfl, below_own hb1 hb2⟩
  case round =>
    obtain ⟨k, hk, rfl, hbel⟩ := hrel
    by_cases hlt : k < n
    · obtain ⟨x, hx⟩ : ∃ x, l[k]? = some x := ⟨_, List.getElem?_eq_getElem (by omega)⟩
      obtain ⟨y, hy, ha, htop, _⟩ := id ht
      have g0 := mcmp_pos (htop k x (by omega) hx)
      obtain ⟨b, off, rfl, hc⟩ := hA.mark hx
      obtain ⟨x0, x1, x2⟩ := hc k x hx
      obtain ⟨y0, y1, y2⟩ := hc a y hy
      clear hc
      have x0' := cell_on hbel x0
      have x1' := cell_on hbel x1
      have x2' := cell_on hbel x2
      have y0' := cell_on hbel y0
      have y1' := cell_on hbel y1
      have y2' := cell_on hbel y2
      have hbl : b < wr.heap.size := World.block_lt_of_cell? _ _ x0'
      have g1 : (0 : Int) ≤ (a : Int) := by omega
      have g2 : (a : Int) < (n : Int) := by omega
      go_wp2_with fail
      go_region_held3 (fun w' => Below w.heap.size w w' ∧ w'.cell? ⟨wr.heap.size, 0, none⟩ = some (.int .u64 x.ts) ∧ w'.cell? ⟨wr.heap.size, 1, none⟩ = some (.int .i64 x.dc) ∧ w'.cell? ⟨wr.heap.size, 2, none⟩ = some (.int .i64 x.tx) ∧
          w'.cell? ⟨b, off + a * 3, none⟩ = some (.int .u64 y.ts) ∧ w'.cell? ⟨b, off + a * 3 + 1, none⟩ = some (.int .i64 y.dc) ∧ w'.cell? ⟨b, off + a * 3 + 2, none⟩ = some (.int .i64 y.tx))
        (first | (refine ⟨own_drew (own_alloc (by assumption) _), ?_, ?_, ?_, ?_, ?_, ?_⟩ <;> (go_simp; done)) | (go_split_ands; refine ⟨below_own (by assumption) (by assumption), ?_, ?_, ?_, ?_, ?_, ?_⟩ <;> exact cell_on (by assumption) (by assumption)))
        (first | (go_at_call 15; refine (cmp_any _ _ _ _ _ _ _).mono ?_; rintro e w3 ⟨rfl, hb3⟩))
      rename_i hS
      obtain ⟨hb', _⟩ := hS
      go_wp2
      go_roundw
      case rel => exact ⟨k + 1, by omega, by go_num, hb'⟩
      case measure => simp [intOf]; omega
    · obtain rfl : k = n := by omega
      go_wp2_with (first
        | (go_at_call 12; refine (awake_any _).mono ?_; rintro e w4 ⟨rfl, rfl⟩)
        | (go_at_call 23; refine (hof_any _ _ _ _ _ _ _).mono ?_; rintro e w5 ⟨rfl, hb5⟩)
        | (go_at_call 15; refine (cmp_any _ _ _ _ _ _ _).mono ?_; rintro e w6 ⟨rfl, hb6⟩))
      go_ret
      exact ⟨rfl, below_own (below_own hbel hb5) hb6⟩

theorem walk (A : Option Addr) (n c : Nat) (l : List K) (w : World) (hn : l.length = n) (hm : n ≤ 9223372036854775807) (hA : Cells w A (flatK l)) :
    Calls Try.prog 8 #[.slice A n c] w fun e w' => e = .returned (.bool true) ∧ Below w.heap.size w w' := by
  rcases Nat.eq_zero_or_pos n with h0 | h0
  · subst h0; exact walk_nil A c l w hn (List.eq_nil_of_length_eq_zero hn) hA
  · obtain ⟨a, ha⟩ := Top.exists_ l n h0 (by omega)
    exact walk_pos A n c a l w hn h0 hm hA (hn ▸ ha)
end Go.Proofs.Ytkmoephpfdglkaa.lawHlcLast
