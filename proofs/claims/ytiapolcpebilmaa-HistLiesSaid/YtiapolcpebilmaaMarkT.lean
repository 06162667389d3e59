/-
  The order of marks: the walks of sign, Cmp, Less and Of. Conditions: none.
-/
import Derived.Test.YtiapolcpebilmaaChecked
import Derived.Test.YtiapolcpebilmaaVers
import Derived.WalkKit
import Derived.Outline
namespace Go.Proofs.Ytiapolcpebilmaa
open Go.RowKit
set_option linter.unusedVariables false

theorem ret_val {u v : Value} (h : u = v) : Ending.returned u = .returned v := by rw [h]

theorem less_any (a b c x y z : Int) (w : World) :
    Calls Try.prog 19 #[.agg #[.int .u64 a, .int .i64 b, .int .i64 c], .agg #[.int .u64 x, .int .i64 y, .int .i64 z]] w fun e w' => e = .returned (.bool (mlt a b c x y z)) ∧ Below w.heap.size w w' := by
  by_cases h1 : a = x
  · subst h1
    by_cases h2 : b = y
    · subst h2
      rw [show mlt a b c a b z = decide (c < z) from by unfold mlt; simp]
      have e1 : (a != a) = false := by simp
      have e2 : (b != b) = false := by simp
      go_enter Try.func19, Try.ntmps19
      go_wp2
      go_ret
      exact ⟨rfl, ((Below.refl _ _).alloc (Nat.le_refl _) _).alloc (by simp) _⟩
    · rw [show mlt a b c a y z = decide (b < y) from by unfold mlt; simp [h2]]
      have e1 : (a != a) = false := by simp
      have e2 : (b != y) = true := by simp [h2]
      clear h2
      go_enter Try.func19, Try.ntmps19
      go_wp2
      go_ret
      exact ⟨rfl, ((Below.refl _ _).alloc (Nat.le_refl _) _).alloc (by simp) _⟩
  · rw [show mlt a b c x y z = decide (a < x) from by unfold mlt; simp [h1]]
    have e1 : (a != x) = true := by simp [h1]
    clear h1
    go_enter Try.func19, Try.ntmps19
    go_wp2
    go_ret
    exact ⟨rfl, ((Below.refl _ _).alloc (Nat.le_refl _) _).alloc (by simp) _⟩

theorem hof_any (k v : ByteArray) (g : Bool) (t d x : Int) (w : World) :
    Calls Try.prog 22 #[.agg #[.string k, .string v, .bool g, .int .u64 t, .int .i64 d, .int .i64 x]] w fun e w' => e = .returned (.agg #[.int .u64 t, .int .i64 d, .int .i64 x]) ∧ Below w.heap.size w w' := by
  go_enter Try.func22, Try.ntmps22
  go_wp2
  refine bodyPost_ret (v := .agg #[.int .u64 t, .int .i64 d, .int .i64 x]) (by simp [results, Try.results22, go_sem]) rfl ⟨rfl, ?_⟩
  exact (((Below.refl _ _).alloc (Nat.le_refl _) _).alloc (by simp) _)

theorem mark_eq (a b c x y z : Int) (w : World) : (binOp .eql 41 (.agg #[.int .u64 a, .int .i64 b, .int .i64 c]) (.agg #[.int .u64 x, .int .i64 y, .int .i64 z])).run Try.prog w = .ok (.bool (a == x && (b == y && c == z))) w := by
  cases h1 : (a == x) <;> cases h2 : (b == y) <;> cases h3 : (c == z)
  all_goals go_simp

theorem sign_yes (w : World) : Calls Try.prog 23 #[.bool true] w fun e w' => e = .returned (.int .i64 (-1)) ∧ w = w' := by
  go_enter Try.func23, Try.ntmps23
  go_wp2
  go_ret
  exact ⟨rfl, rfl⟩
theorem sign_no (w : World) : Calls Try.prog 23 #[.bool false] w fun e w' => e = .returned (.int .i64 1) ∧ w = w' := by
  go_enter Try.func23, Try.ntmps23
  go_wp2
  go_ret
  exact ⟨rfl, rfl⟩
theorem mcmp_lt {a b c x y z : Int} (h : a < x ∨ (a = x ∧ (b < y ∨ (b = y ∧ c < z)))) : mcmp a b c x y z = -1 := by
  unfold mcmp mlt; rw [if_pos (by simpa using h)]
theorem mcmp_gt {a b c x y z : Int} (h : x < a ∨ (x = a ∧ (y < b ∨ (y = b ∧ z < c)))) : mcmp a b c x y z = 1 := by
  unfold mcmp mlt; rw [if_neg (by simp only [decide_eq_true_eq]; omega), if_pos (by simpa using h)]

theorem cmp_any (a b c x y z : Int) (w : World) :
    Calls Try.prog 21 #[.agg #[.int .u64 a, .int .i64 b, .int .i64 c], .agg #[.int .u64 x, .int .i64 y, .int .i64 z]] w fun e w' => e = .returned (.int .i64 (mcmp a b c x y z)) ∧ Below w.heap.size w w' := by
  by_cases h1 : a = x
  · subst h1
    have e1 : (a != a) = false := by simp
    by_cases h2 : b = y
    · subst h2
      have e2 : (b != b) = false := by simp
      by_cases h3 : c = z
      · subst h3
        have e3 : (c != c) = false := by simp
        rw [(mcmp_zero a b c a b c).2 ⟨rfl, rfl, rfl⟩]
        go_enter Try.func21, Try.ntmps21
        go_wp2
        go_ret
        exact ⟨rfl, ((Below.refl _ _).alloc (Nat.le_refl _) _).alloc (by simp) _⟩
      · have e3 : (c != z) = true := by simp [h3]
        rcases (by omega : c < z ∨ z < c) with h | h
        · rw [mcmp_lt (by omega)]
          have e : decide (c < z) = true := by simp; omega
          clear h h3
          go_enter Try.func21, Try.ntmps21
          go_wp2_with (go_at_call 23; refine (sign_yes _).mono ?_; rintro e w' ⟨rfl, rfl⟩)
          go_ret
          exact ⟨rfl, ((Below.refl _ _).alloc (Nat.le_refl _) _).alloc (by simp) _⟩
        · rw [mcmp_gt (by omega)]
          have e : decide (c < z) = false := by simp; omega
          clear h h3
          go_enter Try.func21, Try.ntmps21
          go_wp2_with (go_at_call 23; refine (sign_no _).mono ?_; rintro e w' ⟨rfl, rfl⟩)
          go_ret
          exact ⟨rfl, ((Below.refl _ _).alloc (Nat.le_refl _) _).alloc (by simp) _⟩
    · have e2 : (b != y) = true := by simp [h2]
      rcases (by omega : b < y ∨ y < b) with h | h
      · rw [mcmp_lt (by omega)]
        have e : decide (b < y) = true := by simp; omega
        clear h h2
        go_enter Try.func21, Try.ntmps21
        go_wp2_with (go_at_call 23; refine (sign_yes _).mono ?_; rintro e w' ⟨rfl, rfl⟩)
        go_ret
        exact ⟨rfl, ((Below.refl _ _).alloc (Nat.le_refl _) _).alloc (by simp) _⟩
      · rw [mcmp_gt (by omega)]
        have e : decide (b < y) = false := by simp; omega
        clear h h2
        go_enter Try.func21, Try.ntmps21
        go_wp2_with (go_at_call 23; refine (sign_no _).mono ?_; rintro e w' ⟨rfl, rfl⟩)
        go_ret
        exact ⟨rfl, ((Below.refl _ _).alloc (Nat.le_refl _) _).alloc (by simp) _⟩
  · have e1 : (a != x) = true := by simp [h1]
    rcases (by omega : a < x ∨ x < a) with h | h
    · rw [mcmp_lt (by omega)]
      have e : decide (a < x) = true := by simp; omega
      clear h h1
      go_enter Try.func21, Try.ntmps21
      go_wp2_with (go_at_call 23; refine (sign_yes _).mono ?_; rintro e w' ⟨rfl, rfl⟩)
      go_ret
      exact ⟨rfl, ((Below.refl _ _).alloc (Nat.le_refl _) _).alloc (by simp) _⟩
    · rw [mcmp_gt (by omega)]
      have e : decide (a < x) = false := by simp; omega
      clear h h1
      go_enter Try.func21, Try.ntmps21
      go_wp2_with (go_at_call 23; refine (sign_no _).mono ?_; rintro e w' ⟨rfl, rfl⟩)
      go_ret
      exact ⟨rfl, ((Below.refl _ _).alloc (Nat.le_refl _) _).alloc (by simp) _⟩
end Go.Proofs.Ytiapolcpebilmaa
