/-
  What the document fixes is answered so: the walk. Conditions: none.
-/
import Derived.Test.YtiapolcpebilmaaCheckT
import Derived.Test.YtiapolcpebilmaaFewT
namespace Go.Proofs.Ytiapolcpebilmaa
open Go.RowKit Go.ChangeShapes Go.WideShapes Go.Deep Go.Maps
set_option linter.unusedVariables false

def aw0 : Txn := ⟨0, 4, 3, 5, 0, 0, [], [⟨⟨#[107]⟩, ⟨#[]⟩, false, 0, 0, 0⟩]⟩
def aw1 : Txn := ⟨1, 5, 0, 0, 0, 0, [⟨⟨#[107]⟩, false, v0⟩], []⟩
theorem bytes_k : ByteArray.toList ⟨#[107]⟩ = [107] := by rw [ByteArray.toList_eq]
theorem aw_check : check [aw0, aw1] = (3, 1) := by
  have h1 : markF [aw0, aw1] 2 = none := by decide
  have h2 : sees [aw0, aw1] ((1 : Nat) : Int) ((0 : Nat) : Int) = true := by decide
  have h3 : sees [aw0, aw1] ((1 : Nat) : Int) ((1 : Nat) : Int) = false := by decide
  have hw : want [aw0, aw1] 1 ⟨#[107]⟩ = some ⟨⟨#[107]⟩, ⟨#[]⟩, false, 5, 0, 0⟩ := by
    show wantTo [aw0, aw1] 1 ⟨#[107]⟩ 2 = _
    rw [want_no (t := aw1) rfl h3, want_in (t := aw0) rfl h2, inner_all]
    simp [wantTo, better, wrOf, aw0, updV]
  exact check_read (a := aw1) (m := 0) (r := ⟨⟨#[107]⟩, false, v0⟩) h1 (by decide) rfl rfl (by unfold bad; rw [hw]; rfl)
def awL (H : Nat) : List TI := [⟨aw0, none, 0, some ⟨H, 0, none⟩, 1⟩, ⟨aw1, some ⟨H + 1, 0, none⟩, 1, none, 0⟩]
def awV : Array Value := #[.string ⟨#[107]⟩, .string ⟨#[]⟩, .bool false, .int .u64 0, .int .i64 0, .int .i64 0]
def awR : Array Value := #[.string ⟨#[107]⟩, .bool false, .string ⟨#[]⟩, .string ⟨#[]⟩, .bool false, .int .u64 0, .int .i64 0, .int .i64 0]
theorem awok (w : World) (t1 t2 : TypeId) (o : Obj) : ∀ x ∈ awL w.heap.size, x.ok (((w.alloc (.cells awV t1)).alloc (.cells awR t2)).alloc o) := by
  intro x hx
  simp only [awL, List.mem_cons, List.mem_nil_iff, or_false] at hx
  rcases hx with rfl | rfl
  · exact ⟨⟨Cells.nil _ _, (Cells.new w awV t1).on (own_alloc (own_alloc (own_refl _) _) _)⟩, (show aw0.rds.length ≤ 9223372036854775807 by decide), (show aw0.wrs.length ≤ 9223372036854775807 by decide)⟩
  · exact ⟨⟨(Cells.new_at (w.alloc (.cells awV t1)) awR t2 (w.heap.size + 1) (by simp)).on (own_alloc (own_refl _) _), Cells.nil _ _⟩, (show aw1.rds.length ≤ 9223372036854775807 by decide), (show aw1.wrs.length ≤ 9223372036854775807 by decide)⟩
set_option maxRecDepth 100000 in
set_option maxHeartbeats 1000000 in
theorem awake_any (w : World) : Calls Try.prog 12 #[] w fun e w' => e = .returned (.bool true) ∧ Below w.heap.size w w' := by
  have hch := Lib.hid (show check ((awL w.heap.size).map TI.t) = (3, 1) from aw_check)
  go_enter Try.func12, Try.ntmps12
  go_wp2_with (go_at_call 9; refine (hcheck_any (some ⟨w.heap.size + 1 + 1, 0, none⟩) 2 2 (awL w.heap.size) _ rfl (Cells.new_at _ _ _ _ (by simp)) (by omega) (awok w _ _ _)).mono ?_; rintro e w1 ⟨rfl, hb1⟩; rw [hch.out])
  go_ret
  exact ⟨rfl, below_own (own_alloc (own_alloc (own_alloc (own_refl _) _) _) _) hb1⟩
end Go.Proofs.Ytiapolcpebilmaa
