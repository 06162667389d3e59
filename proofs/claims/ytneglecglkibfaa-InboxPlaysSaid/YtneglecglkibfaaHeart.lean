/-
  The walk of Heart. Conditions: the box lies as the hypotheses say.
-/
import Derived.Test.YtneglecglkibfaaSettle
import Derived.BigRegion
namespace Go.Proofs.Ytneglecglkibfaa
open Go.RowKit Go.Maps
set_option linter.unusedVariables false

theorem zeroU (w : World) : (zeroValue 22).run Try.prog w = .ok (.int .u64 0) w := by kernel_rfl
/-- what Heart leaves, ahead of settle. -/
def heardH (H : List (Int × Int)) (t at' : Int) : List (Int × Int) := drop H at' ++ [(at', max (look H at') t)]
def heartB (x : Bx) (t at' : Int) : Bx := settleB ⟨x.base, x.list, x.handed, x.done, heardH x.hearts t at', x.got⟩
def HeartIs (w : World) (B b m : Nat) (vl vd : Value) (L : List Q) (x : Bx) (t at' : Int) (e : Ending) (w' : World) : Prop := e = .returned (.tuple #[]) ∧ BoxAt w' B b m vl vd L (heartB x t at') ∧ Turns (two b m) w w'
theorem BoxAt.hearts {w w' : World} {B b m : Nat} {vl vd : Value} {L : List Q} {x : Bx} {O : List (Int × Int)} (h : BoxAt w B b m vl vd L x) (ht : Turns (one m) w w') (hm : Holds Try.prog 3 22 .i64 .u64 w' m O) : BoxAt w' B b m vl vd L ⟨x.base, x.list, x.handed, x.done, O, x.got⟩ :=
  settle_mk h ht (fun j e => .inr e) ((ht.block b h.blt h.nb).trans h.hb) hm
set_option maxHeartbeats 1000000 in
theorem heart_any (w : World) (B b m : Nat) (vl vd : Value) (L : List Q) (x : Bx) (h : BoxAt w B b m vl vd L x) (hl : x.hearts.length ≤ 1000) (t at' : Int) (wt : (Lit.int .u64 t).wf = true) (wa : (Lit.int .i64 at').wf = true) : Calls Try.prog 22 #[.pointer (some ⟨b, 0, none⟩), .int .u64 t, .int .i64 at'] w (HeartIs w B b m vl vd L x t at') := by
  have c4 : w.cell? ⟨b, 4, none⟩ = some (.map (some m)) := h.cell 4
  have c4' : w.drew.cell? ⟨b, 4, none⟩ = some (.map (some m)) := c4
  have hd : BoxAt w.drew B b m vl vd L x := h.turn (S := none') (Turns.refl _ w).drew (fun _ _ => id) (fun _ _ => id)
  obtain ⟨D, hown, hD⟩ := hd.hm
  obtain ⟨c, hrun1, hat, hwc⟩ := hown.lookup_int lawI Try.underlying57 Try.underlying22 (zeroU _) (keyI wa)
  obtain ⟨v, hv⟩ : ∃ v, max c t = v := ⟨_, rfl⟩
  have hwv : (Lit.int .u64 v).wf = true := by rcases (by omega : v = c ∨ v = t) with rfl | rfl; exact hwc; exact wt
  obtain ⟨w1, hrun2, hown1, hturn⟩ := hown.store lawI Try.underlying57 (by unfold maxLen; omega) (keyI wa) (plainElem_int Try.underlying22 hwv)
  have hD1 := hD.put (hown.tidy lawI) at' v
  have hc : look x.hearts at' = c := by
    have h1 := hD.look at'
    rw [hat] at h1
    injection h1 with h1
    injection h1 with _ h1
    exact h1.symm
  have hB1 : BoxAt w1 B b m vl vd L ⟨x.base, x.list, x.handed, x.done, heardH x.hearts t at', x.got⟩ := by
    unfold heardH
    rw [hc, hv]
    exact hd.hearts (turned hturn) (holds_of hown1 hD1)
  have htt : Turns (two b m) w w1 := (Turns.refl (two b m) w).drew.on (turned hturn) (fun j hj e => .inr e)
  clear hD hD1 hown hown1 hturn hat hc hwv hwc hd
  rcases (by omega : (c < t ∧ v = t) ∨ (¬ c < t ∧ v = c)) with ⟨hct, rfl⟩ | ⟨hct, rfl⟩
  all_goals
    clear hv
    go_enter Try.func22, Try.ntmps22
    go_wp2_with fail
    go_region
    go_wp2_with (go_at_call 30; refine (settle_any _ B b m _ _ _ _ hB1).mono ?_; rintro e w2 ⟨rfl, hB2, ht2⟩)
    refine bodyPost_ret (results_none rfl _ _ _) rfl ?_
    exact ⟨rfl, hB2, htt.on ht2 (fun j hj e => e)⟩
end Go.Proofs.Ytneglecglkibfaa
