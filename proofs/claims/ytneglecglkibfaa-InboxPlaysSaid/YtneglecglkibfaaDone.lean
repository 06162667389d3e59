/-
  The walk of Done. Conditions: the box lies as the hypotheses say.
-/
import Derived.Test.YtneglecglkibfaaHeart
import Derived.Deep.QuietTactic
import Derived.BigQuiet
import Derived.IntWalk
import Derived.BigRegion
namespace Go.Proofs.Ytneglecglkibfaa
open Go.RowKit Go.Maps
set_option linter.unusedVariables false

set_option maxHeartbeats 1000000 in
theorem done_low (w : World) (B b m : Nat) (vl vd : Value) (L : List Q) (x : Bx) (h : BoxAt w B b m vl vd L x) (at' : Int) (hx : x.ok) (hlt : at' < x.base) : Calls Try.prog 16 #[.pointer (some ⟨b, 0, none⟩), .int .i64 at'] w (fun e w' => e = .returned (.int .i64 7) ∧ Below w.heap.size w w') := by
  obtain ⟨Dd, cd, rfl, hcd⟩ := h.hd.form
  have c0 : w.cell? ⟨b, 0, none⟩ = some (.int .i64 x.base) := h.cell 0
  have c2 : w.cell? ⟨b, 2, none⟩ = some (.int .i64 x.handed) := h.cell 2
  have c3 : w.cell? ⟨b, 3, none⟩ = some (.slice Dd x.done.length cd) := h.cell 3
  have hbl := h.blt
  have h1 := hx.b0
  have h2 := hx.b1
  have h3 := hx.hd
  have h4 := hx.dn
  have h5 := hx.l1
  go_enter Try.func16, Try.ntmps16
  go_wp2_with fail
  go_quiet (fail)
  go_wp2
  go_ret
  exact ⟨rfl, own_drewN (own_refl _) _⟩
set_option maxHeartbeats 1000000 in
theorem done_far (w : World) (B b m : Nat) (vl vd : Value) (L : List Q) (x : Bx) (h : BoxAt w B b m vl vd L x) (at' : Int) (hx : x.ok) (k : Nat) (hk : at' = x.base + k) (wa : at' ≤ 9223372036854775807) (hlt : x.handed ≤ k) : Calls Try.prog 16 #[.pointer (some ⟨b, 0, none⟩), .int .i64 at'] w (fun e w' => e = .returned (.int .i64 7) ∧ Below w.heap.size w w') := by
  obtain ⟨Dd, cd, rfl, hcd⟩ := h.hd.form
  have c0 : w.cell? ⟨b, 0, none⟩ = some (.int .i64 x.base) := h.cell 0
  have c2 : w.cell? ⟨b, 2, none⟩ = some (.int .i64 x.handed) := h.cell 2
  have c3 : w.cell? ⟨b, 3, none⟩ = some (.slice Dd x.done.length cd) := h.cell 3
  have hbl := h.blt
  have h1 := hx.b0
  have h2 := hx.b1
  have h3 := hx.hd
  have h4 := hx.dn
  have h5 := hx.l1
  have i1 : IntKind.i64.wrap (at' - x.base) = (k : Int) := by rw [show at' - x.base = (k : Int) from by omega]; exact IntWalk.i64_in _ (by omega)
  have k1 : ¬ at' < x.base := by omega
  have k2 : decide (at' < x.base) = false := by simpa using k1
  have k3 : decide (x.handed ≤ k) = true := by simpa using hlt
  have k4 : ¬ k < x.handed := by omega
  clear hk wa h1 h2 h3 h4 h5 hx hcd h c3
  go_enter Try.func16, Try.ntmps16
  go_wp2_with fail
  go_quiet (fail)
  clear i1
  go_wp2
  go_ret
  exact ⟨rfl, own_drewN (own_refl _) _⟩
set_option maxHeartbeats 1000000 in
theorem done_was (w : World) (B b m : Nat) (vl vd : Value) (L : List Q) (x : Bx) (h : BoxAt w B b m vl vd L x) (at' : Int) (hx : x.ok) (k : Nat) (hk : at' = x.base + k) (hlt : k < x.handed) (hw : x.done[k]? = some true) : Calls Try.prog 16 #[.pointer (some ⟨b, 0, none⟩), .int .i64 at'] w (fun e w' => e = .returned (.int .i64 7) ∧ Below w.heap.size w w') := by
  obtain ⟨Dd, cd, rfl, hcd⟩ := h.hd.form
  have c0 : w.cell? ⟨b, 0, none⟩ = some (.int .i64 x.base) := h.cell 0
  have c2 : w.cell? ⟨b, 2, none⟩ = some (.int .i64 x.handed) := h.cell 2
  have c3 : w.cell? ⟨b, 3, none⟩ = some (.slice Dd x.done.length cd) := h.cell 3
  have hbl := h.blt
  have h1 := hx.b0
  have h2 := hx.b1
  have h3 := hx.hd
  have h4 := hx.dn
  have h5 := hx.l1
  have i1 : IntKind.i64.wrap (at' - x.base) = (k : Int) := by rw [show at' - x.base = (k : Int) from by omega]; exact IntWalk.i64_in _ (by omega)
  have k1 : ¬ at' < x.base := by omega
  have k2 : ¬ (x.handed : Int) ≤ (k : Int) := by omega
  have k3 : (0 : Int) ≤ (k : Int) := by omega
  have k4 : (k : Int) < (x.done.length : Int) := by omega
  have hcv : (x.done.map Value.bool)[k]? = some (.bool true) := by rw [List.getElem?_map, hw]; rfl
  obtain ⟨g, off, rfl, hc⟩ := h.hd.cells (fun e => by rw [e] at hcv; cases hcv)
  have cg := hc k _ hcv
  clear hk hc hcv hw h1 h2 h3 h4 h5 hx hcd h
  go_enter Try.func16, Try.ntmps16
  go_wp2_with fail
  go_quiet (fail)
  clear i1
  go_wp2
  go_ret
  exact ⟨rfl, own_drewN (own_refl _) _⟩
end Go.Proofs.Ytneglecglkibfaa
