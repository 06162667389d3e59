/-
  The walks of the clock functions (hlc: after, Pack, Split, Send, Recv, Raise; the reference: Pack, Reads, Send, Recv, Raise): each returns what the plain function says. Conditions: stamps are in their kind.
-/
import Derived.Test.YtjnbdkkefdfiaaaChecked
import Derived.Test.YtjnbdkkefdfiaaaHlc
import Derived.WalkKit
import Derived.Outline
namespace Go.Proofs.Ytjnbdkkefdfiaaa
open Go.RowKit
set_option linter.unusedVariables false

theorem after_any (t ms : Int) (w : World) (h0 : 0 ≤ t) (h1 : t ≤ 18446744073709551615) :
    Calls Try.prog 25 #[.int .u64 t, .int .i64 ms] w fun e w' => e = .returned (.tuple #[.int .u64 (aft t ms).1, .int .i64 (aft t ms).2]) ∧ w = w' := by
  by_cases a : ms < 0
  · rw [show aft t ms = (0, 1) from if_pos (.inl a)]
    go_enter Try.func25, Try.ntmps25
    go_wp2
    go_ret2
    exact ⟨rfl, rfl⟩
  · by_cases b : 281474976710655 < ms
    · rw [show aft t ms = (0, 1) from if_pos (.inr b)]
      go_enter Try.func25, Try.ntmps25
      go_wp2
      go_ret2
      exact ⟨rfl, rfl⟩
    · by_cases c : t < ms * 65536
      · rw [show aft t ms = (ms * 65536, 0) from by unfold aft; rw [if_neg (by omega), if_pos c]]
        go_enter Try.func25, Try.ntmps25
        go_wp2
        go_ret2
        exact ⟨rfl, rfl⟩
      · by_cases d : t = 18446744073709551615
        · rw [show aft t ms = (0, 10) from by unfold aft; rw [if_neg (by omega), if_neg c, if_pos d]]
          have e : (IntKind.u64.wrap (t + 1) == 0) = true := by rw [d]; rfl
          clear d h0 h1
          go_enter Try.func25, Try.ntmps25
          go_wp2
          go_ret2
          exact ⟨rfl, rfl⟩
        · rw [show aft t ms = (t + 1, 0) from by unfold aft; rw [if_neg (by omega), if_neg c, if_neg d]]
          have e : ((t + 1 : Int) == 0) = false := by rw [beq_eq_false_iff_ne]; omega
          have k : t + 1 ≤ 18446744073709551615 := by omega
          go_enter Try.func25, Try.ntmps25
          go_wp2
          go_ret2
          exact ⟨rfl, rfl⟩

theorem recv_any (t got ms : Int) (w : World) (h0 : 0 ≤ t) (h1 : t ≤ 18446744073709551615) (h2 : 0 ≤ got) (h3 : got ≤ 18446744073709551615) :
    Calls Try.prog 19 #[.int .u64 t, .int .u64 got, .int .i64 ms] w fun e w' => e = .returned (.tuple #[.int .u64 (aft (max t got) ms).1, .int .i64 (aft (max t got) ms).2]) ∧ w = w' := by
  by_cases c : got ≤ t
  · rw [show max t got = t from by omega]
    go_enter Try.func19, Try.ntmps19
    go_wp2_with (go_at_call 25; refine (after_any _ _ _ h0 h1).mono ?_; rintro e w' ⟨rfl, rfl⟩)
    go_ret2
    exact ⟨rfl, rfl⟩
  · rw [show max t got = got from by omega]
    go_enter Try.func19, Try.ntmps19
    go_wp2_with (go_at_call 25; refine (after_any _ _ _ h2 h3).mono ?_; rintro e w' ⟨rfl, rfl⟩)
    go_ret2
    exact ⟨rfl, rfl⟩

theorem raise_any (t ms : Int) (w : World) (h0 : 0 ≤ t) (h1 : t ≤ 18446744073709551615) :
    Calls Try.prog 20 #[.int .u64 t, .int .i64 ms] w fun e w' => e = .returned (.tuple #[.int .u64 (rai t ms).1, .int .i64 (rai t ms).2]) ∧ w = w' := by
  by_cases a : ms < 0
  · rw [show rai t ms = (0, 1) from if_pos (.inl a)]
    go_enter Try.func20, Try.ntmps20
    go_wp2
    go_ret2
    exact ⟨rfl, rfl⟩
  · by_cases b : 281474976710655 < ms
    · rw [show rai t ms = (0, 1) from if_pos (.inr b)]
      go_enter Try.func20, Try.ntmps20
      go_wp2
      go_ret2
      exact ⟨rfl, rfl⟩
    · by_cases c : ms * 65536 ≤ t
      · rw [show rai t ms = (t, 0) from by unfold rai; rw [if_neg (by omega), Int.max_eq_left c]]
        go_enter Try.func20, Try.ntmps20
        go_wp2
        go_ret2
        exact ⟨rfl, rfl⟩
      · rw [show rai t ms = (ms * 65536, 0) from by unfold rai; rw [if_neg (by omega), Int.max_eq_right (by omega)]]
        go_enter Try.func20, Try.ntmps20
        go_wp2
        go_ret2
        exact ⟨rfl, rfl⟩

theorem reads_yes (ms : Int) (w : World) (a : 0 ≤ ms) (b : ms ≤ 281474976710655) :
    Calls Try.prog 23 #[.int .i64 ms] w fun e w' => e = .returned (.bool true) ∧ w = w' := by
  have c : decide (ms ≤ 281474976710655) = true := by simp; omega
  go_enter Try.func23, Try.ntmps23
  go_wp2
  go_ret
  exact ⟨rfl, rfl⟩
theorem reads_no (ms : Int) (w : World) (a : ms < 0 ∨ 281474976710655 < ms) :
    Calls Try.prog 23 #[.int .i64 ms] w fun e w' => e = .returned (.bool false) ∧ w = w' := by
  by_cases b : ms < 0
  · go_enter Try.func23, Try.ntmps23
    go_wp2
    go_ret
    exact ⟨rfl, rfl⟩
  · have c : decide (ms ≤ 281474976710655) = false := by simp; omega
    clear a
    go_enter Try.func23, Try.ntmps23
    go_wp2
    go_ret
    exact ⟨rfl, rfl⟩

theorem rsend_any (t ms : Int) (w : World) (h0 : 0 ≤ t) (h1 : t ≤ 18446744073709551615) :
    Calls Try.prog 26 #[.int .u64 t, .int .i64 ms] w fun e w' => e = .returned (.tuple #[.int .u64 (aft t ms).1, .int .i64 (aft t ms).2]) ∧ w = w' := by
  by_cases a : ms < 0
  · rw [show aft t ms = (0, 1) from if_pos (.inl a)]
    go_enter Try.func26, Try.ntmps26
    go_wp2_with (go_at_call 23; refine (reads_no _ _ (by omega)).mono ?_; rintro e w' ⟨rfl, rfl⟩)
    go_ret2
    exact ⟨rfl, rfl⟩
  · by_cases b : 281474976710655 < ms
    · rw [show aft t ms = (0, 1) from if_pos (.inr b)]
      go_enter Try.func26, Try.ntmps26
      go_wp2_with (go_at_call 23; refine (reads_no _ _ (by omega)).mono ?_; rintro e w' ⟨rfl, rfl⟩)
      go_ret2
      exact ⟨rfl, rfl⟩
    · by_cases c : t < ms * 65536
      · rw [show aft t ms = (ms * 65536, 0) from by unfold aft; rw [if_neg (by omega), if_pos c]]
        go_enter Try.func26, Try.ntmps26
        go_wp2_with (go_at_call 23; refine (reads_yes _ _ (by omega) (by omega)).mono ?_; rintro e w' ⟨rfl, rfl⟩)
        go_ret2
        exact ⟨rfl, rfl⟩
      · by_cases d : t = 18446744073709551615
        · rw [show aft t ms = (0, 10) from by unfold aft; rw [if_neg (by omega), if_neg c, if_pos d]]
          have e : (t == 18446744073709551615) = true := by rw [beq_iff_eq]; exact d
          clear d
          go_enter Try.func26, Try.ntmps26
          go_wp2_with (go_at_call 23; refine (reads_yes _ _ (by omega) (by omega)).mono ?_; rintro e w' ⟨rfl, rfl⟩)
          go_ret2
          exact ⟨rfl, rfl⟩
        · rw [show aft t ms = (t + 1, 0) from by unfold aft; rw [if_neg (by omega), if_neg c, if_neg d]]
          have e : (t == 18446744073709551615) = false := by rw [beq_eq_false_iff_ne]; exact d
          have k : t + 1 ≤ 18446744073709551615 := by omega
          clear d
          go_enter Try.func26, Try.ntmps26
          go_wp2_with (go_at_call 23; refine (reads_yes _ _ (by omega) (by omega)).mono ?_; rintro e w' ⟨rfl, rfl⟩)
          go_ret2
          exact ⟨rfl, rfl⟩

theorem rrecv_any (t got ms : Int) (w : World) (h0 : 0 ≤ t) (h1 : t ≤ 18446744073709551615) (h2 : 0 ≤ got) (h3 : got ≤ 18446744073709551615) :
    Calls Try.prog 22 #[.int .u64 t, .int .u64 got, .int .i64 ms] w fun e w' => e = .returned (.tuple #[.int .u64 (aft (max t got) ms).1, .int .i64 (aft (max t got) ms).2]) ∧ w = w' := by
  by_cases c : t < got
  · rw [show max t got = got from by omega]
    go_enter Try.func22, Try.ntmps22
    go_wp2_with (go_at_call 26; refine (rsend_any _ _ _ h2 h3).mono ?_; rintro e w' ⟨rfl, rfl⟩)
    go_ret2
    exact ⟨rfl, rfl⟩
  · rw [show max t got = t from by omega]
    go_enter Try.func22, Try.ntmps22
    go_wp2_with (go_at_call 26; refine (rsend_any _ _ _ h0 h1).mono ?_; rintro e w' ⟨rfl, rfl⟩)
    go_ret2
    exact ⟨rfl, rfl⟩

theorem rraise_any (t ms : Int) (w : World) (h0 : 0 ≤ t) (h1 : t ≤ 18446744073709551615) :
    Calls Try.prog 24 #[.int .u64 t, .int .i64 ms] w fun e w' => e = .returned (.tuple #[.int .u64 (rai t ms).1, .int .i64 (rai t ms).2]) ∧ w = w' := by
  by_cases a : ms < 0
  · rw [show rai t ms = (0, 1) from if_pos (.inl a)]
    go_enter Try.func24, Try.ntmps24
    go_wp2_with (go_at_call 23; refine (reads_no _ _ (by omega)).mono ?_; rintro e w' ⟨rfl, rfl⟩)
    go_ret2
    exact ⟨rfl, rfl⟩
  · by_cases b : 281474976710655 < ms
    · rw [show rai t ms = (0, 1) from if_pos (.inr b)]
      go_enter Try.func24, Try.ntmps24
      go_wp2_with (go_at_call 23; refine (reads_no _ _ (by omega)).mono ?_; rintro e w' ⟨rfl, rfl⟩)
      go_ret2
      exact ⟨rfl, rfl⟩
    · by_cases c : ms * 65536 ≤ t
      · rw [show rai t ms = (t, 0) from by unfold rai; rw [if_neg (by omega), Int.max_eq_left c]]
        go_enter Try.func24, Try.ntmps24
        go_wp2_with (go_at_call 23; refine (reads_yes _ _ (by omega) (by omega)).mono ?_; rintro e w' ⟨rfl, rfl⟩)
        go_ret2
        exact ⟨rfl, rfl⟩
      · rw [show rai t ms = (ms * 65536, 0) from by unfold rai; rw [if_neg (by omega), Int.max_eq_right (by omega)]]
        go_enter Try.func24, Try.ntmps24
        go_wp2_with (go_at_call 23; refine (reads_yes _ _ (by omega) (by omega)).mono ?_; rintro e w' ⟨rfl, rfl⟩)
        go_ret2
        exact ⟨rfl, rfl⟩

end Go.Proofs.Ytjnbdkkefdfiaaa
