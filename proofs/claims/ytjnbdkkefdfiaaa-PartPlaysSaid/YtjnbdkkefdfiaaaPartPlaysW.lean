/-
  The walk of the law PartPlays: whatever data come in, the call returns true and leaves what was there. Conditions: the arguments' cells lie as the hypotheses say.
-/
import Derived.Test.YtjnbdkkefdfiaaaPartOp
import Derived.Test.YtjnbdkkefdfiaaaPartR
import Derived.Deep.RegionHeld3
import Derived.Deep.QuietTactic
import Derived.BigQuiet
namespace Go.Proofs.Ytjnbdkkefdfiaaa.lawPartPlays
open Go.RowKit Go.Maps
set_option linter.unusedVariables false

set_option maxRecDepth 100000 in
set_option maxHeartbeats 4000000 in
theorem walk (A : Option Addr) (n c : Nat) (l : List PO) (w : World) (hn : l.length = n) (hm : n ≤ 9223372036854775807) (hA : Cells w A (flatO l)) (wA : ∀ x ∈ l, x.wf) :
    Calls Try.prog 4 #[.slice A n c] w fun e w' => e = .returned (.bool true) ∧ Below w.heap.size w w' := by
  obtain ⟨B, hB⟩ : ∃ B, w.heap.size = B := ⟨_, rfl⟩
  have hBB : B ≤ w.heap.size := Nat.le_of_eq hB.symm
  have BEQ := Lib.hid hB
  clear hB
  go_enter Try.func4, Try.ntmps4
  go_wp2_with (go_at_call 7; refine (new_any _).mono ?_; rintro e w1 ⟨b, m, rfl, hb, hm, hS0, hb1⟩)
  have hbl0 := hS0.blt
  have hml0 := hS0.mlt
  obtain ⟨bq, hbq⟩ : ∃ bq, w1.heap.size = bq := ⟨_, rfl⟩
  have hq0 : bq ≠ b ∧ bq ≠ m ∧ w.heap.size ≤ bq := by have := hb1.size; omega
  have HBQ := Lib.hid hbq
  rw [hbq]
  go_loopw [5] (fun i wr => ∃ (k : Nat) (vo : Value) (s : Side), k ≤ n ∧ k ≤ 120 ∧ i = .int .i64 k ∧ s.ok ∧ SideAt wr b m s ∧ RefAt wr B bq vo s ∧ (∀ g, vo.ownBlock = some g → g ≠ b ∧ g ≠ m) ∧ s.opens.length ≤ k ∧ Below w.heap.size w wr) (fun i _ => n - (intOf i).toNat)
  case atStart => exact ⟨0, .slice none 0 0, ⟨0, []⟩, Nat.zero_le _, by omega, rfl, ok_new, hS0.turn ((Turns.refl none' _).alloc _) id id, by subst hbq; exact ⟨by go_simp, by go_simp, by go_simp, by go_simp, World.ownsRow_nil _ _ _ _, by simp [Value.ownBlock]⟩, (fun g hg => by cases hg), by simp, own_alloc hb1 _⟩
  case round =>
    obtain ⟨k, vo, s, hk, hk120, rfl, hok, hS, hR, hd, hlen, hbel⟩ := hrel
    clear hbq
    by_cases hlt : k < n ∧ k < 120
    · obtain ⟨hlt, hlt120⟩ := hlt
      obtain ⟨x, hx⟩ : ∃ x, l[k]? = some x := ⟨_, List.getElem?_eq_getElem (by omega)⟩
      obtain ⟨ab, off, rfl, x0, x1, x2, x3⟩ := hA.op hx
      have x0' := cell_on hbel x0
      have x1' := cell_on hbel x1
      have x2' := cell_on hbel x2
      have x3' := cell_on hbel x3
      have hw := wA x (List.mem_of_getElem? hx)
      have g3 : (0 : Int) ≤ (k : Int) := by omega
      have g4 : (k : Int) < (n : Int) := by omega
      have g5 : (k : Int) < 120 := by omega
      have hblt := hS.blt
      have hmlt := hS.mlt
      have hSa : SideAt (wr.alloc (.cells #[.int .i64 x.kind, .int .u64 x.tx, .int .u64 x.t, .int .i64 x.ms] 27)) b m s := hS.turn ((Turns.refl none' _).alloc _) id id
      have hba : Below w.heap.size w (wr.alloc (.cells #[.int .i64 x.kind, .int .u64 x.tx, .int .u64 x.t, .int .i64 x.ms] 27)) := own_alloc hbel _
      have hnb : ¬ two b m wr.heap.size := by show ¬ (_ = _ ∨ _ = _); omega
      have y0 : (wr.alloc (.cells #[.int .i64 x.kind, .int .u64 x.tx, .int .u64 x.t, .int .i64 x.ms] 27)).cell? ⟨wr.heap.size, 0, none⟩ = some (.int .i64 x.kind) := cell_of_row _ _ 0 _ _ _ (heap_alloc_new wr _)
      have y1 : (wr.alloc (.cells #[.int .i64 x.kind, .int .u64 x.tx, .int .u64 x.t, .int .i64 x.ms] 27)).cell? ⟨wr.heap.size, 1, none⟩ = some (.int .u64 x.tx) := cell_of_row _ _ 1 _ _ _ (heap_alloc_new wr _)
      have y2 : (wr.alloc (.cells #[.int .i64 x.kind, .int .u64 x.tx, .int .u64 x.t, .int .i64 x.ms] 27)).cell? ⟨wr.heap.size, 2, none⟩ = some (.int .u64 x.t) := cell_of_row _ _ 2 _ _ _ (heap_alloc_new wr _)
      have y3 : (wr.alloc (.cells #[.int .i64 x.kind, .int .u64 x.tx, .int .u64 x.t, .int .i64 x.ms] 27)).cell? ⟨wr.heap.size, 3, none⟩ = some (.int .i64 x.ms) := cell_of_row _ _ 3 _ _ _ (heap_alloc_new wr _)
      have hRa : RefAt (wr.alloc (.cells #[.int .i64 x.kind, .int .u64 x.tx, .int .u64 x.t, .int .i64 x.ms] 27)) B bq vo s := hR.turn ((Turns.refl none' _).alloc _) id (fun _ _ => id)
      have hvl := hR.vlt
      have hbql := hR.blt
      have hp1 : ¬ ownS bq vo b := fun e => by rcases e with e | e; exact hq0.1 e.symm; exact (hd b e).1 rfl
      have hp2 : ¬ ownS bq vo m := fun e => by rcases e with e | e; exact hq0.2.1 e.symm; exact (hd m e).2 rfl
      have hq1 : ¬ two b m bq := fun e => by rcases e with e | e; exact hq0.1 e; exact hq0.2.1 e
      have hq2 : ∀ g, vo.ownBlock = some g → ¬ two b m g := fun g hg e => by rcases e with e | e; exact (hd g hg).1 e; exact (hd g hg).2 e
      have hnq : ¬ ownS bq vo wr.heap.size := fun e => by rcases e with e | e; omega; have := (hvl _ e).2; omega
      have hlowq : ∀ j, ownS bq vo j → w.heap.size ≤ j := fun j e => by rcases e with rfl | e; exact hq0.2.2; exact Nat.le_trans (Nat.le_of_eq BEQ.out) (hvl _ e).1
      by_cases k0 : x.kind = 0
      · have e0 : (x.kind == 0) = true := by simpa using k0
        clear k0
        have hok2 := prep_ok hok (tx := x.tx) (low := x.t) x.ms hw.xx hw.t
        have hl2 := prep_len s x.tx x.t x.ms
        obtain ⟨s2, hp⟩ : ∃ s2, prepS s x.tx x.t x.ms = s2 := ⟨_, rfl⟩
        rw [hp] at hok2 hl2
        have HP := Lib.hid hp
        clear hp
        obtain ⟨t, er, hr⟩ : ∃ t er, prepR s x.tx x.t x.ms = (t, er) := ⟨_, _, rfl⟩
        have HR := Lib.hid hr
        clear hr
        go_wp2_with (first | (go_at_call 8; refine (prepare_any _ b m s _ _ _ hSa hok hw.xx hw.t (by omega)).mono ?_; rintro e w2 ⟨rfl, hS2, ht1⟩; have y0' := ht1.cell y0 hnb; have y1' := ht1.cell y1 hnb; have y2' := ht1.cell y2 hnb; have y3' := ht1.cell y3 hnb; rw [HR.out]; rw [HP.out] at hS2; have hR1 := hRa.turn ht1 hq1 hq2; have hBw : B ≤ w2.heap.size := Nat.le_trans (Nat.le_trans hBB hba.size) ht1.size) | (go_at_call 13; (with_reducible refine (rprepare_any _ B bq vo s _ _ _ hR1 hBw hok hw.xx hw.t (by omega)).mono ?_); rintro e w3 ⟨vo3, rfl, hR3, ht3, hfr3⟩; rw [HR.out]; rw [HP.out] at hR3))
        have ht3' := ht3.weaken (S' := ownS bq vo) (fun j _ e => e)
        have hSf : SideAt w3 b m s2 := hS2.turn ht3' hp1 hp2
        have hRf : RefAt w3 B bq vo3 s2 := hR3
        have hBf : Below w.heap.size w w3 := ht3'.below (ht1.below hba (fun j hj => by rcases hj with rfl | rfl <;> assumption)) hlowq
        have hsz2 := ht1.size
        have hdf : ∀ g, vo3.ownBlock = some g → g ≠ b ∧ g ≠ m := fun g hg => (Nat.lt_or_ge g w2.heap.size).elim (fun c => hd g (hfr3 g c hg)) (fun c => by have := hS2.blt; have := hS2.mlt; omega)
        obtain ⟨r0, r1, r2, r3, rrow, rne⟩ := hRf
        obtain ⟨DV, cpv, rfl, hcpv⟩ := row_form rrow
        have gq : ((s2.opens.length : Int) != (s2.opens.length : Int)) = false := by simp
        have gc : (s2.clock != s2.clock) = false := by simp
        have hSn : ∀ j, SideAt (w3.drewN j) b m s2 := fun j => hSf.turn ((Turns.refl none' _).drewN j) id id
        have HSN := Lib.hid hSn
        clear hSn
        go_wp2_with fail
        go_quiet ((first | (go_at_call 17; exact Calls.quiet_of_same ((open_any _ b m _ (HSN.out _)).mono fun e w' h => ⟨h.1, h.2.symm⟩)) | (go_at_call 18; exact Calls.quiet_of_same ((clock_any _ b m _ (HSN.out _)).mono fun e w' h => ⟨h.1, h.2.symm⟩))))
        go_wp2
        go_roundw
        case rel => exact ⟨k + 1, _, s2, by omega, by omega, by go_num, hok2, hSf.turn ((Turns.refl none' _).drewN _) id id, RefAt.turn ⟨r0, r1, r2, r3, rrow, rne⟩ ((Turns.refl none' _).drewN _) id (fun _ _ => id), hdf, by omega, own_drewN hBf _⟩
        case measure => simp [intOf]; omega
      · have e0 : (x.kind == 0) = false := by simpa using k0
        by_cases k1 : x.kind = 1
        · have e1 : (x.kind == 1) = true := by simpa using k1
          clear k0 k1
          have hok2 := comm_ok hok (tx := x.tx) x.ms hw.t
          have hl2 := Nat.le_succ_of_le (comm_len s x.tx x.t x.ms)
          obtain ⟨s2, hp⟩ : ∃ s2, commS s x.tx x.t x.ms = s2 := ⟨_, rfl⟩
          rw [hp] at hok2 hl2
          have HP := Lib.hid hp
          clear hp
          obtain ⟨er, hr⟩ : ∃ er, commE s x.tx x.t x.ms = er := ⟨_, rfl⟩
          have HR := Lib.hid hr
          clear hr
          have td := (Turns.refl none' (wr.alloc (.cells #[.int .i64 x.kind, .int .u64 x.tx, .int .u64 x.t, .int .i64 x.ms] 27))).drew
          have hSd : SideAt (wr.alloc (.cells #[.int .i64 x.kind, .int .u64 x.tx, .int .u64 x.t, .int .i64 x.ms] 27)).drew b m s := hSa.turn td id id
          have hRd : RefAt (wr.alloc (.cells #[.int .i64 x.kind, .int .u64 x.tx, .int .u64 x.t, .int .i64 x.ms] 27)).drew B bq vo s := hRa.turn td id (fun _ _ => id)
          have hbd : Below w.heap.size w (wr.alloc (.cells #[.int .i64 x.kind, .int .u64 x.tx, .int .u64 x.t, .int .i64 x.ms] 27)).drew := own_drew hba
          have gee : (er != er) = false := by simp
          go_wp2_with fail
          go_region_held3 (fun w' => w'.cell? ⟨wr.heap.size, 1, none⟩ = some (.int .u64 x.tx) ∧ w'.cell? ⟨wr.heap.size, 2, none⟩ = some (.int .u64 x.t) ∧ w'.cell? ⟨wr.heap.size, 3, none⟩ = some (.int .i64 x.ms))
            (first | (refine ⟨?_, ?_, ?_⟩ <;> (go_simp; done)) | (go_split_ands; refine ⟨?_, ?_, ?_⟩ <;> first | exact Turns.cell (by assumption) (by assumption) hnb | exact Turns.cell (by assumption) (by assumption) hnq))
            (first | (go_at_call 9; (with_reducible refine (commit_any (wr.alloc (.cells #[.int .i64 x.kind, .int .u64 x.tx, .int .u64 x.t, .int .i64 x.ms] 27)).drew b m s _ _ _ hSd hok hw.xx hw.t).mono ?_); rintro e w2 ⟨rfl, hS2, ht1⟩; rw [HR.out]; rw [HP.out] at hS2; have hR1 := hRd.turn ht1 hq1 hq2; have hBw : B ≤ w2.heap.size := Nat.le_trans (Nat.le_trans hBB hbd.size) ht1.size; have hb2 : Below w.heap.size w w2 := ht1.below hbd (fun j hj => by rcases hj with rfl | rfl <;> assumption)) | (go_at_call 14; (with_reducible refine (rcommit_any (wr.alloc (.cells #[.int .i64 x.kind, .int .u64 x.tx, .int .u64 x.t, .int .i64 x.ms] 27)).drew B bq vo s _ _ _ hRd (Nat.le_trans hBB hbd.size) hok hw.xx hw.t (by omega)).mono ?_); rintro e w2 ⟨vo3, rfl, hR3, ht3, hfr3⟩; rw [HR.out]; rw [HP.out] at hR3; have hS1 := hSd.turn ht3 hp1 hp2; have hb2 : Below w.heap.size w w2 := ht3.below hbd hlowq; have hd3 : ∀ g, vo3.ownBlock = some g → g ≠ b ∧ g ≠ m := fun g hg => (Nat.lt_or_ge g (wr.alloc (.cells #[.int .i64 x.kind, .int .u64 x.tx, .int .u64 x.t, .int .i64 x.ms] 27)).heap.size).elim (fun c => hd g (hfr3 g c hg)) (fun c => by have := hSd.blt; have := hSd.mlt; have e : (wr.alloc (.cells #[.int .i64 x.kind, .int .u64 x.tx, .int .u64 x.t, .int .i64 x.ms] 27)).drew.heap.size = (wr.alloc (.cells #[.int .i64 x.kind, .int .u64 x.tx, .int .u64 x.t, .int .i64 x.ms] 27)).heap.size := rfl; omega)) | (go_at_call 9; (with_reducible refine (commit_any w2 b m s _ _ _ hS1 hok hw.xx hw.t).mono ?_); rintro e w3 ⟨rfl, hS2, ht1⟩; rw [HR.out]; rw [HP.out] at hS2; have hSf : SideAt w3 b m s2 := hS2; have hRf : RefAt w3 B bq vo3 s2 := hR3.turn ht1 hq1 (fun g hg e => by have := hd3 g hg; rcases e with e | e <;> omega); have hBf : Below w.heap.size w w3 := ht1.below hb2 (fun j hj => by rcases hj with rfl | rfl <;> assumption); have hdf := hd3) | (go_at_call 14; (with_reducible refine (rcommit_any w2 B bq vo s _ _ _ hR1 hBw hok hw.xx hw.t (by omega)).mono ?_); rintro e w3 ⟨vo3, rfl, hR3, ht3, hfr3⟩; rw [HR.out]; rw [HP.out] at hR3; have hSf : SideAt w3 b m s2 := hS2.turn ht3 hp1 hp2; have hRf : RefAt w3 B bq vo3 s2 := hR3; have hBf : Below w.heap.size w w3 := ht3.below hb2 hlowq; have hdf : ∀ g, vo3.ownBlock = some g → g ≠ b ∧ g ≠ m := fun g hg => (Nat.lt_or_ge g w2.heap.size).elim (fun c => hd g (hfr3 g c hg)) (fun c => by have := hS2.blt; have := hS2.mlt; omega)))
          all_goals
            rename_i hSS
            clear hSS
            obtain ⟨r0, r1, r2, r3, rrow, rne⟩ := hRf
            obtain ⟨DV, cpv, rfl, hcpv⟩ := row_form rrow
            have gq : ((s2.opens.length : Int) != (s2.opens.length : Int)) = false := by simp
            have gc : (s2.clock != s2.clock) = false := by simp
            have hSn : ∀ j, SideAt (w3.drewN j) b m s2 := fun j => hSf.turn ((Turns.refl none' _).drewN j) id id
            have HSN := Lib.hid hSn
            clear hSn
            go_wp2_with fail
            go_quiet ((first | (go_at_call 17; exact Calls.quiet_of_same ((open_any _ b m _ (HSN.out _)).mono fun e w' h => ⟨h.1, h.2.symm⟩)) | (go_at_call 18; exact Calls.quiet_of_same ((clock_any _ b m _ (HSN.out _)).mono fun e w' h => ⟨h.1, h.2.symm⟩))))
            go_wp2
            go_roundw
            case rel => exact ⟨k + 1, _, s2, by omega, by omega, by go_num, hok2, hSf.turn ((Turns.refl none' _).drewN _) id id, RefAt.turn ⟨r0, r1, r2, r3, rrow, rne⟩ ((Turns.refl none' _).drewN _) id (fun _ _ => id), hdf, by omega, own_drewN hBf _⟩
            case measure => simp [intOf]; omega
        · have e1 : (x.kind == 1) = false := by simpa using k1
          by_cases k2 : x.kind = 2
          · have e2 : (x.kind == 2) = true := by simpa using k2
            clear k0 k1 k2
            have hok2 := stab_ok hok x.ms
            have hl2 := Nat.le_succ_of_le (Nat.le_of_eq (stab_len s x.ms))
            obtain ⟨s2, hp⟩ : ∃ s2, stabS s x.ms = s2 := ⟨_, rfl⟩
            rw [hp] at hok2 hl2
            have HP := Lib.hid hp
            clear hp
            obtain ⟨t, er, hr⟩ : ∃ t er, stabR s x.ms = (t, er) := ⟨_, _, rfl⟩
            have HR := Lib.hid hr
            clear hr
            go_wp2_with (first | (go_at_call 10; refine (stable_any _ b m s _ hSa hok).mono ?_; rintro e w2 ⟨rfl, hS2, ht1⟩; have y0' := ht1.cell y0 hnb; have y1' := ht1.cell y1 hnb; have y2' := ht1.cell y2 hnb; have y3' := ht1.cell y3 hnb; rw [HR.out]; rw [HP.out] at hS2; have hR1 := hRa.turn ht1 hq1 hq2; have hBw : B ≤ w2.heap.size := Nat.le_trans (Nat.le_trans hBB hba.size) ht1.size) | (go_at_call 15; refine (rstable_any _ B bq vo s _ hR1 hok (by omega)).mono ?_; rintro e w3 ⟨rfl, hR3, ht3⟩; rw [HR.out]; rw [HP.out] at hR3))
            have ht3' := ht3.weaken (S' := ownS bq vo) (fun j _ e => .inl e)
            have hSf : SideAt w3 b m s2 := hS2.turn ht3' hp1 hp2
            have hRf : RefAt w3 B bq vo s2 := hR3
            have hBf : Below w.heap.size w w3 := ht3'.below (ht1.below hba (fun j hj => by rcases hj with rfl | rfl <;> assumption)) hlowq
            have hsz2 := ht1.size
            have hdf : ∀ g, vo.ownBlock = some g → g ≠ b ∧ g ≠ m := hd
            obtain ⟨r0, r1, r2, r3, rrow, rne⟩ := hRf
            obtain ⟨DV, cpv, rfl, hcpv⟩ := row_form rrow
            have gq : ((s2.opens.length : Int) != (s2.opens.length : Int)) = false := by simp
            have gc : (s2.clock != s2.clock) = false := by simp
            have hSn : ∀ j, SideAt (w3.drewN j) b m s2 := fun j => hSf.turn ((Turns.refl none' _).drewN j) id id
            have HSN := Lib.hid hSn
            clear hSn
            go_wp2_with fail
            go_quiet ((first | (go_at_call 17; exact Calls.quiet_of_same ((open_any _ b m _ (HSN.out _)).mono fun e w' h => ⟨h.1, h.2.symm⟩)) | (go_at_call 18; exact Calls.quiet_of_same ((clock_any _ b m _ (HSN.out _)).mono fun e w' h => ⟨h.1, h.2.symm⟩))))
            go_wp2
            go_roundw
            case rel => exact ⟨k + 1, _, s2, by omega, by omega, by go_num, hok2, hSf.turn ((Turns.refl none' _).drewN _) id id, RefAt.turn ⟨r0, r1, r2, r3, rrow, rne⟩ ((Turns.refl none' _).drewN _) id (fun _ _ => id), hdf, by omega, own_drewN hBf _⟩
            case measure => simp [intOf]; omega
          · have e2 : (x.kind == 2) = false := by simpa using k2
            clear k0 k1 k2
            have hok2 := see_ok hok hw.t
            have hl2 := (show (seeS s x.t).opens.length ≤ s.opens.length + 1 from Nat.le_succ _)
            obtain ⟨s2, hp⟩ : ∃ s2, seeS s x.t = s2 := ⟨_, rfl⟩
            rw [hp] at hok2 hl2
            have HP := Lib.hid hp
            clear hp
            go_wp2_with (first | (go_at_call 11; refine (see_any _ b m s _ hSa).mono ?_; rintro e w2 ⟨rfl, hS2, ht1⟩; have y0' := ht1.cell y0 hnb; have y1' := ht1.cell y1 hnb; have y2' := ht1.cell y2 hnb; have y3' := ht1.cell y3 hnb; rw [HP.out] at hS2; have hR1 := hRa.turn ht1 hq1 hq2; have hBw : B ≤ w2.heap.size := Nat.le_trans (Nat.le_trans hBB hba.size) ht1.size) | (go_at_call 16; refine (rsee_any _ B bq vo s _ hR1).mono ?_; rintro e w3 ⟨rfl, hR3, ht3⟩; rw [HP.out] at hR3))
            have ht3' := ht3.weaken (S' := ownS bq vo) (fun j _ e => .inl e)
            have hSf : SideAt w3 b m s2 := hS2.turn ht3' hp1 hp2
            have hRf : RefAt w3 B bq vo s2 := hR3
            have hBf : Below w.heap.size w w3 := ht3'.below (ht1.below hba (fun j hj => by rcases hj with rfl | rfl <;> assumption)) hlowq
            have hsz2 := ht1.size
            have hdf : ∀ g, vo.ownBlock = some g → g ≠ b ∧ g ≠ m := hd
            obtain ⟨r0, r1, r2, r3, rrow, rne⟩ := hRf
            obtain ⟨DV, cpv, rfl, hcpv⟩ := row_form rrow
            have gq : ((s2.opens.length : Int) != (s2.opens.length : Int)) = false := by simp
            have gc : (s2.clock != s2.clock) = false := by simp
            have hSn : ∀ j, SideAt (w3.drewN j) b m s2 := fun j => hSf.turn ((Turns.refl none' _).drewN j) id id
            have HSN := Lib.hid hSn
            clear hSn
            go_wp2_with fail
            go_quiet ((first | (go_at_call 17; exact Calls.quiet_of_same ((open_any _ b m _ (HSN.out _)).mono fun e w' h => ⟨h.1, h.2.symm⟩)) | (go_at_call 18; exact Calls.quiet_of_same ((clock_any _ b m _ (HSN.out _)).mono fun e w' h => ⟨h.1, h.2.symm⟩))))
            go_wp2
            go_roundw
            case rel => exact ⟨k + 1, _, s2, by omega, by omega, by go_num, hok2, hSf.turn ((Turns.refl none' _).drewN _) id id, RefAt.turn ⟨r0, r1, r2, r3, rrow, rne⟩ ((Turns.refl none' _).drewN _) id (fun _ _ => id), hdf, by omega, own_drewN hBf _⟩
            case measure => simp [intOf]; omega
    · by_cases hkn : k < n
      · have hd : decide ((k : Int) < 120) = false := by simp; omega
        go_wp2_with (go_at_call 12; refine (awake_any _).mono ?_; rintro e w9 ⟨rfl, hb9⟩)
        go_ret
        exact ⟨rfl, below_own hbel hb9⟩
      · go_wp2_with (go_at_call 12; refine (awake_any _).mono ?_; rintro e w9 ⟨rfl, hb9⟩)
        go_ret
        exact ⟨rfl, below_own hbel hb9⟩
end Go.Proofs.Ytjnbdkkefdfiaaa.lawPartPlays
