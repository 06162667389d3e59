/-
  The walk of the law PartApart: whatever data come in, the call returns true and leaves what was there. Conditions: the arguments' cells lie as the hypotheses say.
-/
import Derived.Test.YtjnbdkkefdfiaaaPartOp
namespace Go.Proofs.Ytjnbdkkefdfiaaa.lawPartApart
open Go.RowKit Go.Maps
set_option linter.unusedVariables false

set_option maxRecDepth 100000 in
set_option maxHeartbeats 2000000 in
theorem walk (A : Option Addr) (n c : Nat) (l : List PO) (w : World) (hn : l.length = n) (hm : n ≤ 9223372036854775807) (hA : Cells w A (flatO l)) (wA : ∀ x ∈ l, x.wf) :
    Calls Try.prog 5 #[.slice A n c] w fun e w' => e = .returned (.bool true) ∧ Below w.heap.size w w' := by
  go_enter Try.func5, Try.ntmps5
  go_wp2_with (go_at_call 7; refine (new_any _).mono ?_; rintro e w1 ⟨b, m, rfl, hb, hm, hS0, hb1⟩)
  go_loopw [4, 5] (fun t i wr => ∃ (k : Nat) (la : Int) (s : Side), k ≤ n ∧ k ≤ 120 ∧ i = .int .i64 k ∧ t = .int .u64 la ∧ la ≤ s.clock ∧ s.ok ∧ SideAt wr b m s ∧ s.opens.length ≤ k ∧ Below w.heap.size w wr) (fun _ i _ => n - (intOf i).toNat)
  case atStart => exact ⟨0, 0, ⟨0, []⟩, Nat.zero_le _, by omega, rfl, rfl, Int.le_refl _, ok_new, hS0, by simp, hb1⟩
  case round =>
    obtain ⟨k, la, s, hk, hk120, rfl, rfl, hla, hok, hS, hlen, hbel⟩ := hrel
    by_cases hlt : k < n ∧ k < 120
    · obtain ⟨hlt, hlt120⟩ := hlt
      obtain ⟨x, hx⟩ : ∃ x, l[k]? = some x := ⟨_, List.getElem?_eq_getElem (by omega)⟩
      obtain ⟨ab, off, rfl, x0, x1, x2, x3⟩ := hA.op hx
      have x0' := cell_on hbel x0
      have x1' := cell_on hbel x1
      have x2' := cell_on hbel x2
      have x3' := cell_on hbel x3
      have hw := wA x (List.mem_of_getElem? hx)
      have g3 : (0 : Int) ≤ (k : Int) := by omega
      have g4 : (k : Int) < (n : Int) := by omega
      have g5 : (k : Int) < 120 := by omega
      have hblt := hS.blt
      have hmlt := hS.mlt
      have hSa : SideAt (wr.alloc (.cells #[.int .i64 x.kind, .int .u64 x.tx, .int .u64 x.t, .int .i64 x.ms] 27)) b m s := hS.turn ((Turns.refl none' _).alloc _) id id
      have hba : Below w.heap.size w (wr.alloc (.cells #[.int .i64 x.kind, .int .u64 x.tx, .int .u64 x.t, .int .i64 x.ms] 27)) := own_alloc hbel _
      have hnb : ¬ two b m wr.heap.size := by show ¬ (_ = _ ∨ _ = _); omega
      have y0 : (wr.alloc (.cells #[.int .i64 x.kind, .int .u64 x.tx, .int .u64 x.t, .int .i64 x.ms] 27)).cell? ⟨wr.heap.size, 0, none⟩ = some (.int .i64 x.kind) := cell_of_row _ _ 0 _ _ _ (heap_alloc_new wr _)
      have y1 : (wr.alloc (.cells #[.int .i64 x.kind, .int .u64 x.tx, .int .u64 x.t, .int .i64 x.ms] 27)).cell? ⟨wr.heap.size, 1, none⟩ = some (.int .u64 x.tx) := cell_of_row _ _ 1 _ _ _ (heap_alloc_new wr _)
      have y2 : (wr.alloc (.cells #[.int .i64 x.kind, .int .u64 x.tx, .int .u64 x.t, .int .i64 x.ms] 27)).cell? ⟨wr.heap.size, 2, none⟩ = some (.int .u64 x.t) := cell_of_row _ _ 2 _ _ _ (heap_alloc_new wr _)
      have y3 : (wr.alloc (.cells #[.int .i64 x.kind, .int .u64 x.tx, .int .u64 x.t, .int .i64 x.ms] 27)).cell? ⟨wr.heap.size, 3, none⟩ = some (.int .i64 x.ms) := cell_of_row _ _ 3 _ _ _ (heap_alloc_new wr _)
      by_cases k0 : x.kind = 0
      · have e0 : (x.kind == 0) = true := by simpa using k0
        clear k0
        obtain ⟨t, er, hr⟩ : ∃ t er, prepR s x.tx x.t x.ms = (t, er) := ⟨_, _, rfl⟩
        obtain ⟨hs2, hs3⟩ := clock_prep (tx := x.tx) (ms := x.ms) hok hw.t
        rw [hr] at hs3
        simp only at hs3
        have hok2 := prep_ok hok (tx := x.tx) (low := x.t) x.ms hw.xx hw.t
        have hl2 := prep_len s x.tx x.t x.ms
        have hc2 := hok2.c0
        obtain ⟨s2, hp⟩ : ∃ s2, prepS s x.tx x.t x.ms = s2 := ⟨_, rfl⟩
        rw [hp] at hs2 hs3 hok2 hl2 hc2
        have HR := Lib.hid hr
        have HP := Lib.hid hp
        clear hr hp
        have g11 : ¬ s2.clock < s.clock := by omega
        have g12 : decide (s2.clock < s.clock) = false := by simp; omega
        have tok : True := trivial
        by_cases ez : er = 0
        · subst ez
          obtain ⟨g6, g13⟩ := hs3 rfl
          have g7 : ¬ t ≤ la := by omega
          have g9 : decide (t ≤ la) = false := by simp; omega
          have g14 : (t != s2.clock) = false := by simp; omega
          have g15 : t ≤ s2.clock := by omega
          clear hs3 g13
          go_wp2_with (first | (go_at_call 8; refine (prepare_any _ b m s _ _ _ hSa hok hw.xx hw.t (by omega)).mono ?_; rintro e w2 ⟨rfl, hS2, ht1⟩; have y0' := ht1.cell y0 hnb; have y1' := ht1.cell y1 hnb; have y2' := ht1.cell y2 hnb; have y3' := ht1.cell y3 hnb; rw [HR.out]; rw [HP.out] at hS2) | (go_at_call 18; refine (clock_any _ b m _ hS2).mono ?_; rintro e w9 ⟨rfl, rfl⟩) | (go_at_call 18; refine (clock_any _ b m _ hSa).mono ?_; rintro e w9 ⟨rfl, rfl⟩))
          go_roundw
          case rel => exact ⟨k + 1, t, _, by omega, by omega, by go_num, rfl, by omega, hok2, hS2, by omega, ht1.below hba (fun j hj => by rcases hj with rfl | rfl <;> assumption)⟩
          case measure => simp [intOf]; omega
        · have ez' : (er == 0) = false := by simpa using ez
          clear hs3 ez
          go_wp2_with (first | (go_at_call 8; refine (prepare_any _ b m s _ _ _ hSa hok hw.xx hw.t (by omega)).mono ?_; rintro e w2 ⟨rfl, hS2, ht1⟩; have y0' := ht1.cell y0 hnb; have y1' := ht1.cell y1 hnb; have y2' := ht1.cell y2 hnb; have y3' := ht1.cell y3 hnb; rw [HR.out]; rw [HP.out] at hS2) | (go_at_call 18; refine (clock_any _ b m _ hS2).mono ?_; rintro e w9 ⟨rfl, rfl⟩) | (go_at_call 18; refine (clock_any _ b m _ hSa).mono ?_; rintro e w9 ⟨rfl, rfl⟩))
          go_roundw
          case rel => exact ⟨k + 1, la, _, by omega, by omega, by go_num, rfl, by omega, hok2, hS2, by omega, ht1.below hba (fun j hj => by rcases hj with rfl | rfl <;> assumption)⟩
          case measure => simp [intOf]; omega
      · have e0 : (x.kind == 0) = false := by simpa using k0
        by_cases k1 : x.kind = 1
        · have e1 : (x.kind == 1) = true := by simpa using k1
          clear k0 k1
          have hs2 := clock_comm (tx := x.tx) (ms := x.ms) hok hw.t
          have hok2 := comm_ok hok (tx := x.tx) x.ms hw.t
          have hl2 := comm_len s x.tx x.t x.ms
          have hc2 := hok2.c0
          obtain ⟨s2, hp⟩ : ∃ s2, commS s x.tx x.t x.ms = s2 := ⟨_, rfl⟩
          rw [hp] at hs2 hok2 hl2 hc2
          have HP := Lib.hid hp
          clear hp
          have g11 : ¬ s2.clock < s.clock := by omega
          have g12 : decide (s2.clock < s.clock) = false := by simp; omega
          go_wp2_with (first | (go_at_call 9; refine (commit_any _ b m s _ _ _ hSa hok hw.xx hw.t).mono ?_; rintro e w2 ⟨rfl, hS2, ht1⟩; have y0' := ht1.cell y0 hnb; have y1' := ht1.cell y1 hnb; have y2' := ht1.cell y2 hnb; have y3' := ht1.cell y3 hnb; rw [HP.out] at hS2) | (go_at_call 18; refine (clock_any _ b m _ hS2).mono ?_; rintro e w9 ⟨rfl, rfl⟩) | (go_at_call 18; refine (clock_any _ b m _ hSa).mono ?_; rintro e w9 ⟨rfl, rfl⟩))
          go_roundw
          case rel => exact ⟨k + 1, la, _, by omega, by omega, by go_num, rfl, by omega, hok2, hS2, by omega, ht1.below hba (fun j hj => by rcases hj with rfl | rfl <;> assumption)⟩
          case measure => simp [intOf]; omega
        · have e1 : (x.kind == 1) = false := by simpa using k1
          by_cases k2 : x.kind = 2
          · have e2 : (x.kind == 2) = true := by simpa using k2
            clear k0 k1 k2
            have hs2 := clock_stab (ms := x.ms) hok
            have hok2 := stab_ok hok x.ms
            have hl2 := Nat.le_of_eq (stab_len s x.ms)
            have hc2 := hok2.c0
            obtain ⟨s2, hp⟩ : ∃ s2, stabS s x.ms = s2 := ⟨_, rfl⟩
            rw [hp] at hs2 hok2 hl2 hc2
            have HP := Lib.hid hp
            clear hp
            have g11 : ¬ s2.clock < s.clock := by omega
            have g12 : decide (s2.clock < s.clock) = false := by simp; omega
            go_wp2_with (first | (go_at_call 10; refine (stable_any _ b m s _ hSa hok).mono ?_; rintro e w2 ⟨rfl, hS2, ht1⟩; have y0' := ht1.cell y0 hnb; have y1' := ht1.cell y1 hnb; have y2' := ht1.cell y2 hnb; have y3' := ht1.cell y3 hnb; rw [HP.out] at hS2) | (go_at_call 18; refine (clock_any _ b m _ hS2).mono ?_; rintro e w9 ⟨rfl, rfl⟩) | (go_at_call 18; refine (clock_any _ b m _ hSa).mono ?_; rintro e w9 ⟨rfl, rfl⟩))
            go_roundw
            case rel => exact ⟨k + 1, la, _, by omega, by omega, by go_num, rfl, by omega, hok2, hS2, by omega, ht1.below hba (fun j hj => by rcases hj with rfl | rfl <;> assumption)⟩
            case measure => simp [intOf]; omega
          · have e2 : (x.kind == 2) = false := by simpa using k2
            clear k0 k1 k2
            have hs2 := (show s.clock ≤ (seeS s x.t).clock from by show s.clock ≤ max s.clock x.t; omega)
            have hok2 := see_ok hok hw.t
            have hl2 := (show (seeS s x.t).opens.length ≤ s.opens.length from Nat.le_refl _)
            have hc2 := hok2.c0
            obtain ⟨s2, hp⟩ : ∃ s2, seeS s x.t = s2 := ⟨_, rfl⟩
            rw [hp] at hs2 hok2 hl2 hc2
            have HP := Lib.hid hp
            clear hp
            have g11 : ¬ s2.clock < s.clock := by omega
            have g12 : decide (s2.clock < s.clock) = false := by simp; omega
            go_wp2_with (first | (go_at_call 11; refine (see_any _ b m s _ hSa).mono ?_; rintro e w2 ⟨rfl, hS2, ht1⟩; have y0' := ht1.cell y0 hnb; have y1' := ht1.cell y1 hnb; have y2' := ht1.cell y2 hnb; have y3' := ht1.cell y3 hnb; rw [HP.out] at hS2) | (go_at_call 18; refine (clock_any _ b m _ hS2).mono ?_; rintro e w9 ⟨rfl, rfl⟩) | (go_at_call 18; refine (clock_any _ b m _ hSa).mono ?_; rintro e w9 ⟨rfl, rfl⟩))
            go_roundw
            case rel => exact ⟨k + 1, la, _, by omega, by omega, by go_num, rfl, by omega, hok2, hS2, by omega, ht1.below hba (fun j hj => by rcases hj with rfl | rfl <;> assumption)⟩
            case measure => simp [intOf]; omega
    · by_cases hkn : k < n
      · have hd : decide ((k : Int) < 120) = false := by simp; omega
        go_wp2_with (go_at_call 12; refine (awake_any _).mono ?_; rintro e w9 ⟨rfl, hb9⟩)
        go_ret
        exact ⟨rfl, below_own hbel hb9⟩
      · go_wp2_with (go_at_call 12; refine (awake_any _).mono ?_; rintro e w9 ⟨rfl, hb9⟩)
        go_ret
        exact ⟨rfl, below_own hbel hb9⟩
end Go.Proofs.Ytjnbdkkefdfiaaa.lawPartApart
