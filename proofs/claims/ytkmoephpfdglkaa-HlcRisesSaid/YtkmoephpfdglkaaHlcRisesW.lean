/-
  The walk of the law HlcRises: whatever data come in, the call returns true and leaves what was there. Conditions: that the arguments' cells lie as the hypotheses say.
-/
import Derived.Test.YtkmoephpfdglkaaChecked
import Derived.Test.YtkmoephpfdglkaaFrame
import Derived.Test.YtkmoephpfdglkaaHlcT
import Derived.Test.YtkmoephpfdglkaaMem
import Derived.WalkLawsBesides
import Derived.Outline
namespace Go.Proofs.Ytkmoephpfdglkaa.lawHlcRises
open Go.ChangeShapes Go.WideShapes Go.ChangeAt Go.RowKit
set_option linter.unusedVariables false

theorem awake_any (w : World) : Calls Try.prog 12 #[] w fun e w' => e = .returned (.bool true) ∧ w = w' := by
  have hp : pck 1 2 = (65538, 0) := by decide
  go_enter Try.func12, Try.ntmps12
  go_wp2_with (go_at_call 9; refine (pack_any _ _ _).mono ?_; rintro e w' ⟨rfl, rfl⟩)
  go_ret
  exact ⟨rfl, rfl⟩

set_option maxRecDepth 100000 in
set_option maxHeartbeats 1600000 in
theorem walk (A : Option Addr) (n c : Nat) (zs : List Int) (B : Option Addr) (m d : Nat) (ys : List Int) (w : World) (hz : zs.length = n) (hn : n ≤ 9223372036854775807) (hA : Cells w A (zs.map (Value.int .i64)))
    (hy : ys.length = m) (hm : m ≤ 9223372036854775807) (hB : Cells w B (ys.map (Value.int .u64))) (wy : ∀ y ∈ ys, (Lit.int .u64 y).wf = true) :
    Calls Try.prog 5 #[.slice A n c, .slice B m d] w fun e w' => e = .returned (.bool true) ∧ w = w' := by
  go_enter Try.func5, Try.ntmps5
  go_wp2
  go_loop [5, 15] (fun t i => ∃ (k : Nat) (x : Int), k ≤ n ∧ i = .int .i64 k ∧ t = .int .u64 x ∧ 0 ≤ x ∧ x ≤ 18446744073709551615) (fun _ i => n - (intOf i).toNat)
  case atStart => exact ⟨0, 0, Nat.zero_le _, rfl, rfl, by omega, by omega⟩
  case round =>
    obtain ⟨k, x, hk, rfl, rfl, hx0, hx1⟩ := hrel
    by_cases hlt : k < n
    · obtain ⟨b, off, rfl, hc⟩ := hA.get (j := k) (by simpa [hz] using hlt)
      obtain ⟨z, hzk⟩ : ∃ z, zs[k]? = some z := ⟨_, List.getElem?_eq_getElem (by omega)⟩
      have hc1 : w.cell? ⟨b, off + k, none⟩ = some (.int .i64 z) := hc k _ (by simp [hzk])
      clear hc
      by_cases h4 : k < m
      · obtain ⟨b1, off1, rfl, hc2⟩ := hB.get (j := k) (by simpa [hy] using h4)
        obtain ⟨v, hyk⟩ : ∃ v, ys[k]? = some v := ⟨_, List.getElem?_eq_getElem (by omega)⟩
        have hc3 : w.cell? ⟨b1, off1 + k, none⟩ = some (.int .u64 v) := hc2 k _ (by simp [hyk])
        have hv := bd_u64 (wy v (List.mem_of_getElem? hyk))
        clear hc2
        by_cases h5 : v ≤ x
        · have hm1 : max x v = x := by omega
          by_cases h1 : z < 0 ∨ 281474976710655 < z
          · have h2 := aft_bad (x) z h1
            rcases h1 with h1 | h1
            · go_wp2_with (first | (go_at_call 14; refine (send_any _ _ _ hx0 hx1).mono ?_; rintro e w' ⟨rfl, rfl⟩) | (go_at_call 13; refine (recv_any _ _ _ _ hx0 hx1 (by omega) (by omega)).mono ?_; rintro e w' ⟨rfl, rfl⟩; rw [hm1, h2]))
              go_round
              case rel => exact ⟨k + 1, x, by omega, by go_num, rfl, hx0, hx1⟩
              case measure => simp [intOf]; omega
            · have h3 : decide (z ≤ 281474976710655) = false := by simp; omega
              go_wp2_with (first | (go_at_call 14; refine (send_any _ _ _ hx0 hx1).mono ?_; rintro e w' ⟨rfl, rfl⟩) | (go_at_call 13; refine (recv_any _ _ _ _ hx0 hx1 (by omega) (by omega)).mono ?_; rintro e w' ⟨rfl, rfl⟩; rw [hm1, h2]))
              go_round
              case rel => exact ⟨k + 1, x, by omega, by go_num, rfl, hx0, hx1⟩
              case measure => simp [intOf]; omega
          · have h2 : 0 ≤ z := by omega
            have h3 : z ≤ 281474976710655 := by omega
            clear h1
            rcases aft_spec (x) z (by omega) h2 h3 with ⟨h6, h7⟩ | ⟨h6, h7, h8⟩ | ⟨h6, h7, h8⟩
            · have hd : z * 65536 / 65536 = z := by omega
              go_wp2_with (first | (go_at_call 14; refine (send_any _ _ _ hx0 hx1).mono ?_; rintro e w' ⟨rfl, rfl⟩) | (go_at_call 13; refine (recv_any _ _ _ _ hx0 hx1 (by omega) (by omega)).mono ?_; rintro e w' ⟨rfl, rfl⟩; rw [hm1, h6]) | (go_at_call 11; refine (split_any _ _ (by omega) (by omega)).mono ?_; rintro e w' ⟨rfl, rfl⟩))
              go_round
              case rel => exact ⟨k + 1, _, by omega, by go_num, rfl, by omega, by omega⟩
              case measure => simp [intOf]; omega
            · have hb : (x != 18446744073709551615) = false := by simp; omega
              clear h7
              go_wp2_with (first | (go_at_call 14; refine (send_any _ _ _ hx0 hx1).mono ?_; rintro e w' ⟨rfl, rfl⟩) | (go_at_call 13; refine (recv_any _ _ _ _ hx0 hx1 (by omega) (by omega)).mono ?_; rintro e w' ⟨rfl, rfl⟩; rw [hm1, h6]))
              go_round
              case rel => exact ⟨k + 1, x, by omega, by go_num, rfl, hx0, hx1⟩
              case measure => simp [intOf]; omega
            · have hd : z ≤ (x + 1) / 65536 := by omega
              go_wp2_with (first | (go_at_call 14; refine (send_any _ _ _ hx0 hx1).mono ?_; rintro e w' ⟨rfl, rfl⟩) | (go_at_call 13; refine (recv_any _ _ _ _ hx0 hx1 (by omega) (by omega)).mono ?_; rintro e w' ⟨rfl, rfl⟩; rw [hm1, h6]) | (go_at_call 11; refine (split_any _ _ (by omega) (by omega)).mono ?_; rintro e w' ⟨rfl, rfl⟩))
              go_round
              case rel => exact ⟨k + 1, _, by omega, by go_num, rfl, by omega, by omega⟩
              case measure => simp [intOf]; omega
        · have hm1 : max x v = v := by omega
          by_cases h1 : z < 0 ∨ 281474976710655 < z
          · have h2 := aft_bad (v) z h1
            rcases h1 with h1 | h1
            · go_wp2_with (first | (go_at_call 14; refine (send_any _ _ _ hx0 hx1).mono ?_; rintro e w' ⟨rfl, rfl⟩) | (go_at_call 13; refine (recv_any _ _ _ _ hx0 hx1 (by omega) (by omega)).mono ?_; rintro e w' ⟨rfl, rfl⟩; rw [hm1, h2]))
              go_round
              case rel => exact ⟨k + 1, x, by omega, by go_num, rfl, hx0, hx1⟩
              case measure => simp [intOf]; omega
            · have h3 : decide (z ≤ 281474976710655) = false := by simp; omega
              go_wp2_with (first | (go_at_call 14; refine (send_any _ _ _ hx0 hx1).mono ?_; rintro e w' ⟨rfl, rfl⟩) | (go_at_call 13; refine (recv_any _ _ _ _ hx0 hx1 (by omega) (by omega)).mono ?_; rintro e w' ⟨rfl, rfl⟩; rw [hm1, h2]))
              go_round
              case rel => exact ⟨k + 1, x, by omega, by go_num, rfl, hx0, hx1⟩
              case measure => simp [intOf]; omega
          · have h2 : 0 ≤ z := by omega
            have h3 : z ≤ 281474976710655 := by omega
            clear h1
            rcases aft_spec (v) z (by omega) h2 h3 with ⟨h6, h7⟩ | ⟨h6, h7, h8⟩ | ⟨h6, h7, h8⟩
            · have hd : z * 65536 / 65536 = z := by omega
              go_wp2_with (first | (go_at_call 14; refine (send_any _ _ _ hx0 hx1).mono ?_; rintro e w' ⟨rfl, rfl⟩) | (go_at_call 13; refine (recv_any _ _ _ _ hx0 hx1 (by omega) (by omega)).mono ?_; rintro e w' ⟨rfl, rfl⟩; rw [hm1, h6]) | (go_at_call 11; refine (split_any _ _ (by omega) (by omega)).mono ?_; rintro e w' ⟨rfl, rfl⟩))
              go_round
              case rel => exact ⟨k + 1, _, by omega, by go_num, rfl, by omega, by omega⟩
              case measure => simp [intOf]; omega
            · have hb : (v != 18446744073709551615) = false := by simp; omega
              clear h7
              go_wp2_with (first | (go_at_call 14; refine (send_any _ _ _ hx0 hx1).mono ?_; rintro e w' ⟨rfl, rfl⟩) | (go_at_call 13; refine (recv_any _ _ _ _ hx0 hx1 (by omega) (by omega)).mono ?_; rintro e w' ⟨rfl, rfl⟩; rw [hm1, h6]))
              go_round
              case rel => exact ⟨k + 1, x, by omega, by go_num, rfl, hx0, hx1⟩
              case measure => simp [intOf]; omega
            · have hd : z ≤ (v + 1) / 65536 := by omega
              go_wp2_with (first | (go_at_call 14; refine (send_any _ _ _ hx0 hx1).mono ?_; rintro e w' ⟨rfl, rfl⟩) | (go_at_call 13; refine (recv_any _ _ _ _ hx0 hx1 (by omega) (by omega)).mono ?_; rintro e w' ⟨rfl, rfl⟩; rw [hm1, h6]) | (go_at_call 11; refine (split_any _ _ (by omega) (by omega)).mono ?_; rintro e w' ⟨rfl, rfl⟩))
              go_round
              case rel => exact ⟨k + 1, _, by omega, by go_num, rfl, by omega, by omega⟩
              case measure => simp [intOf]; omega
      · by_cases h1 : z < 0 ∨ 281474976710655 < z
        · have h2 := aft_bad (x) z h1
          rcases h1 with h1 | h1
          · go_wp2_with (first | (go_at_call 14; refine (send_any _ _ _ hx0 hx1).mono ?_; rintro e w' ⟨rfl, rfl⟩; rw [h2]))
            go_round
            case rel => exact ⟨k + 1, x, by omega, by go_num, rfl, hx0, hx1⟩
            case measure => simp [intOf]; omega
          · have h3 : decide (z ≤ 281474976710655) = false := by simp; omega
            go_wp2_with (first | (go_at_call 14; refine (send_any _ _ _ hx0 hx1).mono ?_; rintro e w' ⟨rfl, rfl⟩; rw [h2]))
            go_round
            case rel => exact ⟨k + 1, x, by omega, by go_num, rfl, hx0, hx1⟩
            case measure => simp [intOf]; omega
        · have h2 : 0 ≤ z := by omega
          have h3 : z ≤ 281474976710655 := by omega
          clear h1
          rcases aft_spec (x) z (by omega) h2 h3 with ⟨h6, h7⟩ | ⟨h6, h7, h8⟩ | ⟨h6, h7, h8⟩
          · have hd : z * 65536 / 65536 = z := by omega
            go_wp2_with (first | (go_at_call 14; refine (send_any _ _ _ hx0 hx1).mono ?_; rintro e w' ⟨rfl, rfl⟩; rw [h6]) | (go_at_call 11; refine (split_any _ _ (by omega) (by omega)).mono ?_; rintro e w' ⟨rfl, rfl⟩))
            go_round
            case rel => exact ⟨k + 1, _, by omega, by go_num, rfl, by omega, by omega⟩
            case measure => simp [intOf]; omega
          · have hb : (x != 18446744073709551615) = false := by simp; omega
            clear h7
            go_wp2_with (first | (go_at_call 14; refine (send_any _ _ _ hx0 hx1).mono ?_; rintro e w' ⟨rfl, rfl⟩; rw [h6]))
            go_round
            case rel => exact ⟨k + 1, x, by omega, by go_num, rfl, hx0, hx1⟩
            case measure => simp [intOf]; omega
          · have hd : z ≤ (x + 1) / 65536 := by omega
            go_wp2_with (first | (go_at_call 14; refine (send_any _ _ _ hx0 hx1).mono ?_; rintro e w' ⟨rfl, rfl⟩; rw [h6]) | (go_at_call 11; refine (split_any _ _ (by omega) (by omega)).mono ?_; rintro e w' ⟨rfl, rfl⟩))
            go_round
            case rel => exact ⟨k + 1, _, by omega, by go_num, rfl, by omega, by omega⟩
            case measure => simp [intOf]; omega
    · go_wp2_with (go_at_call 12; refine (awake_any _).mono ?_; rintro e w' ⟨rfl, rfl⟩)
      go_ret
      exact ⟨rfl, rfl⟩
end Go.Proofs.Ytkmoephpfdglkaa.lawHlcRises
