/-
  SameVers of two lists that read the same returns true. Conditions: the lists' cells lie as the hypotheses say.
-/
import Derived.Test.YtggbdjdfejcpjaaVerEq
import Derived.Test.YtggbdjdfejcpjaaChain
import Derived.Deep.RegionHeld3
import Derived.Deep.QuietTactic
import Derived.BigQuiet
import Derived.Outline
import Derived.Lib.Hide
namespace Go.Proofs.Ytggbdjdfejcpjaa
open Go.RowKit
set_option linter.unusedVariables false

set_option maxHeartbeats 1000000 in
theorem same_any (A B : Option Addr) (n c d : Nat) (l : List V) (w : World) (hn : l.length = n) (hm : n ≤ 9223372036854775807) (hA : Cells w A (flatV l)) (hB : Cells w B (flatV l)) :
    Calls Try.prog 28 #[.slice A n c, .slice B n d] w fun e w' => e = .returned (.bool true) ∧ Below w.heap.size w w' := by
  go_enter Try.func28, Try.ntmps28
  go_wp2
  go_loopw [5] (fun i wr => ∃ k : Nat, k ≤ n ∧ i = .int .i64 k ∧ Below w.heap.size w wr) (fun i _ => n - (intOf i).toNat)
  case atStart => exact ⟨0, Nat.zero_le _, rfl, Below.refl _ _⟩
  case round =>
    obtain ⟨k, hk, rfl, hbel⟩ := hrel
    by_cases hlt : k < n
    · obtain ⟨x, hx⟩ : ∃ x, l[k]? = some x := ⟨_, List.getElem?_eq_getElem (by omega)⟩
      obtain ⟨b, off, rfl, hc⟩ := hA.ver hx
      obtain ⟨x0, x1, x2, x3, x4, x5⟩ := hc k x hx
      have x0' := cell_on hbel x0
      have x1' := cell_on hbel x1
      have x2' := cell_on hbel x2
      have x3' := cell_on hbel x3
      have x4' := cell_on hbel x4
      have x5' := cell_on hbel x5
      obtain ⟨b2, off2, rfl, hc2⟩ := hB.ver hx
      obtain ⟨y0, y1, y2, y3, y4, y5⟩ := hc2 k x hx
      have y0' := cell_on hbel y0
      have y1' := cell_on hbel y1
      have y2' := cell_on hbel y2
      have y3' := cell_on hbel y3
      have y4' := cell_on hbel y4
      have y5' := cell_on hbel y5
      have g3 : (0 : Int) ≤ (k : Int) := by omega
      have g4 : (k : Int) < (n : Int) := by omega
      have hq := ver_neq x x
      rw [veq_same] at hq
      clear hc hc2
      go_wp2_with fail
      go_quiet (fail)
      go_wp2
      go_roundw
      case rel => exact ⟨k + 1, by omega, by go_num, own_drewN hbel _⟩
      case measure => simp [intOf]; omega
    · obtain rfl : k = n := by omega
      go_wp2
      go_ret
      exact ⟨rfl, hbel⟩
end Go.Proofs.Ytggbdjdfejcpjaa
