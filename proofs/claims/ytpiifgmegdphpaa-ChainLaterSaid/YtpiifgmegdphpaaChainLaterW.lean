/-
  The walk of the law ChainLater: whatever data come in, the call returns true and leaves what was there. Conditions: the arguments' cells lie as the hypotheses say.
-/
import Derived.Test.YtpiifgmegdphpaaOf
import Derived.Test.YtpiifgmegdphpaaPut
import Derived.Test.YtpiifgmegdphpaaAtV
import Derived.Test.YtpiifgmegdphpaaVerEq
namespace Go.Proofs.Ytpiifgmegdphpaa.lawChainLater
open Go.ChangeShapes Go.WideShapes Go.ChangeAt Go.RowKit
set_option linter.unusedVariables false

theorem own_cap {w : World} {base : Nat} {e : TypeId} {size n cp : Nat} {D : Option Addr} {xs : List Value} (h : w.ownsRow base e size (.slice D n cp) n xs) : n ≤ cp := by
  obtain ⟨_, ⟨hv, h0⟩ | ⟨g, cap, cur, hv, _, _, hc, _⟩⟩ := h
  · omega
  · injection hv with _ _ e; omega
theorem wrap_over (a b : Int) (a0 : 0 ≤ a) (a1 : a ≤ 18446744073709551615) (b0 : 0 ≤ b) (b1 : b ≤ 18446744073709551615) (h : 18446744073709551615 < a + b) : IntKind.u64.wrap (a + b) = a + b - 18446744073709551616 := by
  simp [IntKind.wrap, IntKind.bits, IntKind.signed]
  omega

set_option maxRecDepth 100000 in
set_option maxHeartbeats 2000000 in
theorem walk_none (A : Option Addr) (n c : Nat) (l L : List V) (snap more t : Int) (v x y : V) (bb : Bool) (w : World) (hn : l.length = n) (hm : n ≤ 9223372036854775807) (hA : Cells w A (flatV l))
    (hs0 : 0 ≤ snap) (hs1 : snap ≤ 18446744073709551615) (hm0 : 0 ≤ more) (hm1 : more ≤ 18446744073709551615)
    (hL : ofV l = L) (hr : Rising L) (hL40 : L.length ≤ 40) (ht : (snap + more ≤ 18446744073709551615 ∧ t = snap + more) ∨ (18446744073709551615 < snap + more ∧ t = 18446744073709551615)) (h1 : AtV L snap x false) (h2 : AtV L t y bb) :
    Calls Try.prog 8 #[.slice A n c, .int .u64 snap, .int .u64 more, .agg #[.string v.key, .string v.val, .bool v.gone, .int .u64 v.ts, .int .i64 v.dc, .int .i64 v.tx]] w fun e w' => e = .returned (.bool true) ∧ Below w.heap.size w w' := by
  have HL := Lib.hid hL
  have HST := Lib.hid (show snap ≤ t from by omega)
  have H1 := Lib.hid h1
  have H2 := Lib.hid h2
  clear hL h1 h2
  rcases ht with ⟨ht, rfl⟩ | ⟨ht, rfl⟩
  · have u1 : True := trivial
    go_enter Try.func8, Try.ntmps8
    go_wp2_with (first
      | (go_at_call 18; refine (of_any _ _ _ l _ hn hm (hA.on (own_alloc (own_refl _) _))).mono ?_; rintro e w1 ⟨D, cp, rfl, hown, hb1⟩; rw [HL.out] at hown ⊢; have v0 : w1.cell? ⟨w.heap.size, 0, none⟩ = some (.string v.key) := (box_on hb1).1 0; have v1 : w1.cell? ⟨w.heap.size, 1, none⟩ = some (.string v.val) := (box_on hb1).1 1; have v2 : w1.cell? ⟨w.heap.size, 2, none⟩ = some (.bool v.gone) := (box_on hb1).1 2; have v3 : w1.cell? ⟨w.heap.size, 3, none⟩ = some (.int .u64 v.ts) := (box_on hb1).1 3; have v4 : w1.cell? ⟨w.heap.size, 4, none⟩ = some (.int .i64 v.dc) := (box_on hb1).1 4; have v5 : w1.cell? ⟨w.heap.size, 5, none⟩ = some (.int .i64 v.tx) := (box_on hb1).1 5)
      | (go_at_call 12; have _t := u1; refine (At_v _ _ _ L _ _ x false rfl (by omega) (Cells.of_own hown) H1.out).mono ?_; rintro e w2 ⟨rfl, hb2⟩; have va0 := cell_on hb2 v0; have va1 := cell_on hb2 v1; have va2 := cell_on hb2 v2; have va3 := cell_on hb2 v3; have va4 := cell_on hb2 v4; have va5 := cell_on hb2 v5; clear u1)
      | (go_at_call 12; refine (At_v _ _ _ L _ _ y bb rfl (by omega) (Cells.of_own (own_on (own_on hown hb2) (own_alloc (own_refl _) _))) H2.out).mono ?_; rintro e w3 ⟨rfl, hb3⟩; have p0 : w3.cell? ⟨w2.heap.size, 0, none⟩ = some (.string x.key) := (box_on hb3).1 0; have p1 : w3.cell? ⟨w2.heap.size, 1, none⟩ = some (.string x.val) := (box_on hb3).1 1; have p2 : w3.cell? ⟨w2.heap.size, 2, none⟩ = some (.bool x.gone) := (box_on hb3).1 2; have p3 : w3.cell? ⟨w2.heap.size, 3, none⟩ = some (.int .u64 x.ts) := (box_on hb3).1 3; have p4 : w3.cell? ⟨w2.heap.size, 4, none⟩ = some (.int .i64 x.dc) := (box_on hb3).1 4; have p5 : w3.cell? ⟨w2.heap.size, 5, none⟩ = some (.int .i64 x.tx) := (box_on hb3).1 5; have vb0 := cell_on hb3 (cell_on (own_alloc (own_refl _) _) va0); have vb1 := cell_on hb3 (cell_on (own_alloc (own_refl _) _) va1); have vb2 := cell_on hb3 (cell_on (own_alloc (own_refl _) _) va2); have vb3 := cell_on hb3 (cell_on (own_alloc (own_refl _) _) va3); have vb4 := cell_on hb3 (cell_on (own_alloc (own_refl _) _) va4); have vb5 := cell_on hb3 (cell_on (own_alloc (own_refl _) _) va5)))
    go_quiet (fail)
    have hbW : Below w3.heap.size w3 _ := own_drewN (own_alloc (own_refl _) (.cells #[.string y.key, .string y.val, .bool y.gone, .int .u64 y.ts, .int .i64 y.dc, .int .i64 y.tx] 25)) nq
    have vw0 := cell_on hbW vb0
    have vw1 := cell_on hbW vb1
    have vw2 := cell_on hbW vb2
    have vw3 := cell_on hbW vb3
    have vw4 := cell_on hbW vb4
    have vw5 := cell_on hbW vb5
    have pw0 := cell_on hbW p0
    have pw1 := cell_on hbW p1
    have pw2 := cell_on hbW p2
    have pw3 := cell_on hbW p3
    have pw4 := cell_on hbW p4
    have pw5 := cell_on hbW p5
    have ownW := own_on (own_on ((own_on hown hb2).alloc _) hb3) hbW
    have hcapW := own_cap ownW
    have hb0 := below_own (below_own (own_alloc (below_own (below_box hb1) hb2) _) hb3) hbW
    cases hf : free L v
    · have HF := Lib.hid hf
      clear hf
      rcases putE_bad HF.out with he | he
      all_goals
        have HPE := Lib.hid he
        clear he
        go_wp2_with (first | (go_at_call 20; refine (put_any D _ cp L v _ rfl (by omega) hcapW (Cells.of_own ownW)).mono ?_; rintro e w4 ⟨D4, cp4, rfl, hown4, hb4⟩; rw [HPE.out]; have vx0 := cell_on hb4 vw0; have vx1 := cell_on hb4 vw1; have vx2 := cell_on hb4 vw2; have vx3 := cell_on hb4 vw3; have vx4 := cell_on hb4 vw4; have vx5 := cell_on hb4 vw5; have px0 := cell_on hb4 pw0; have px1 := cell_on hb4 pw1; have px2 := cell_on hb4 pw2; have px3 := cell_on hb4 pw3; have px4 := cell_on hb4 pw4; have px5 := cell_on hb4 pw5) | (go_at_call 14; refine (awake_any _).mono ?_; rintro e w6 ⟨rfl, hb6⟩))
        go_ret
        exact ⟨rfl, below_own (below_own hb0 hb4) hb6⟩
    · have HF := Lib.hid hf
      have HPE := Lib.hid (putE_ok hf)
      have hpl : putL L v = ins L v := by unfold putL; rw [if_pos hf]
      have HPL := Lib.hid hpl
      clear hf hpl
      by_cases hv : v.ts ≤ snap
      · go_wp2_with (first | (go_at_call 20; refine (put_any D _ cp L v _ rfl (by omega) hcapW (Cells.of_own ownW)).mono ?_; rintro e w4 ⟨D4, cp4, rfl, hown4, hb4⟩; rw [HPE.out]; have vx0 := cell_on hb4 vw0; have vx1 := cell_on hb4 vw1; have vx2 := cell_on hb4 vw2; have vx3 := cell_on hb4 vw3; have vx4 := cell_on hb4 vw4; have vx5 := cell_on hb4 vw5; have px0 := cell_on hb4 pw0; have px1 := cell_on hb4 pw1; have px2 := cell_on hb4 pw2; have px3 := cell_on hb4 pw3; have px4 := cell_on hb4 pw4; have px5 := cell_on hb4 pw5) | (go_at_call 14; refine (awake_any _).mono ?_; rintro e w6 ⟨rfl, hb6⟩))
        go_ret
        exact ⟨rfl, below_own (below_own hb0 hb4) hb6⟩
      · have hv2 : decide (v.ts ≤ snap) = false := by simp; omega
        have HAT := Lib.hid (AtV.put hr HF.out (by omega) H1.out)
        have hil := ins_len L v
        have HIL := Lib.hid hil
        clear hil
        have hq := ver_eq x x
        rw [veq_same] at hq
        go_wp2_with (first | (go_at_call 20; refine (put_any D _ cp L v _ rfl (by omega) hcapW (Cells.of_own ownW)).mono ?_; rintro e w4 ⟨D4, cp4, rfl, hown4, hb4⟩; rw [HPE.out]; rw [HPL.out] at hown4 ⊢; have vx0 := cell_on hb4 vw0; have vx1 := cell_on hb4 vw1; have vx2 := cell_on hb4 vw2; have vx3 := cell_on hb4 vw3; have vx4 := cell_on hb4 vw4; have vx5 := cell_on hb4 vw5; have px0 := cell_on hb4 pw0; have px1 := cell_on hb4 pw1; have px2 := cell_on hb4 pw2; have px3 := cell_on hb4 pw3; have px4 := cell_on hb4 pw4; have px5 := cell_on hb4 pw5) | (go_at_call 12; refine (At_v _ _ _ (ins L v) _ _ x false rfl (by rw [HIL.out]; omega) (Cells.of_own hown4) HAT.out).mono ?_; rintro e w5 ⟨rfl, hb5⟩; have py0 := cell_on hb5 px0; have py1 := cell_on hb5 px1; have py2 := cell_on hb5 px2; have py3 := cell_on hb5 px3; have py4 := cell_on hb5 px4; have py5 := cell_on hb5 px5) | (go_at_call 14; refine (awake_any _).mono ?_; rintro e w6 ⟨rfl, hb6⟩; have q0 : w6.cell? ⟨w5.heap.size, 0, none⟩ = some (.string x.key) := (box_on hb6).1 0; have q1 : w6.cell? ⟨w5.heap.size, 1, none⟩ = some (.string x.val) := (box_on hb6).1 1; have q2 : w6.cell? ⟨w5.heap.size, 2, none⟩ = some (.bool x.gone) := (box_on hb6).1 2; have q3 : w6.cell? ⟨w5.heap.size, 3, none⟩ = some (.int .u64 x.ts) := (box_on hb6).1 3; have q4 : w6.cell? ⟨w5.heap.size, 4, none⟩ = some (.int .i64 x.dc) := (box_on hb6).1 4; have q5 : w6.cell? ⟨w5.heap.size, 5, none⟩ = some (.int .i64 x.tx) := (box_on hb6).1 5; have pz0 := cell_on hb6 (cell_on (own_alloc (own_refl _) _) py0); have pz1 := cell_on hb6 (cell_on (own_alloc (own_refl _) _) py1); have pz2 := cell_on hb6 (cell_on (own_alloc (own_refl _) _) py2); have pz3 := cell_on hb6 (cell_on (own_alloc (own_refl _) _) py3); have pz4 := cell_on hb6 (cell_on (own_alloc (own_refl _) _) py4); have pz5 := cell_on hb6 (cell_on (own_alloc (own_refl _) _) py5)))
        go_ret
        exact ⟨rfl, below_own (own_alloc (below_own (below_own hb0 hb4) hb5) _) hb6⟩
  · have hw1 : IntKind.u64.wrap (snap + more) = snap + more - 18446744073709551616 := by rw [wrap_over snap more hs0 hs1 hm0 hm1 ht]
    have hw2 : snap + more - 18446744073709551616 < snap := by omega
    have u1 : True := trivial
    go_enter Try.func8, Try.ntmps8
    go_wp2_with (first
      | (go_at_call 18; refine (of_any _ _ _ l _ hn hm (hA.on (own_alloc (own_refl _) _))).mono ?_; rintro e w1 ⟨D, cp, rfl, hown, hb1⟩; rw [HL.out] at hown ⊢; have v0 : w1.cell? ⟨w.heap.size, 0, none⟩ = some (.string v.key) := (box_on hb1).1 0; have v1 : w1.cell? ⟨w.heap.size, 1, none⟩ = some (.string v.val) := (box_on hb1).1 1; have v2 : w1.cell? ⟨w.heap.size, 2, none⟩ = some (.bool v.gone) := (box_on hb1).1 2; have v3 : w1.cell? ⟨w.heap.size, 3, none⟩ = some (.int .u64 v.ts) := (box_on hb1).1 3; have v4 : w1.cell? ⟨w.heap.size, 4, none⟩ = some (.int .i64 v.dc) := (box_on hb1).1 4; have v5 : w1.cell? ⟨w.heap.size, 5, none⟩ = some (.int .i64 v.tx) := (box_on hb1).1 5)
      | (go_at_call 12; have _t := u1; refine (At_v _ _ _ L _ _ x false rfl (by omega) (Cells.of_own hown) H1.out).mono ?_; rintro e w2 ⟨rfl, hb2⟩; have va0 := cell_on hb2 v0; have va1 := cell_on hb2 v1; have va2 := cell_on hb2 v2; have va3 := cell_on hb2 v3; have va4 := cell_on hb2 v4; have va5 := cell_on hb2 v5; clear u1)
      | (go_at_call 12; refine (At_v _ _ _ L _ _ y bb rfl (by omega) (Cells.of_own (own_on (own_on hown hb2) (own_alloc (own_refl _) _))) H2.out).mono ?_; rintro e w3 ⟨rfl, hb3⟩; have p0 : w3.cell? ⟨w2.heap.size, 0, none⟩ = some (.string x.key) := (box_on hb3).1 0; have p1 : w3.cell? ⟨w2.heap.size, 1, none⟩ = some (.string x.val) := (box_on hb3).1 1; have p2 : w3.cell? ⟨w2.heap.size, 2, none⟩ = some (.bool x.gone) := (box_on hb3).1 2; have p3 : w3.cell? ⟨w2.heap.size, 3, none⟩ = some (.int .u64 x.ts) := (box_on hb3).1 3; have p4 : w3.cell? ⟨w2.heap.size, 4, none⟩ = some (.int .i64 x.dc) := (box_on hb3).1 4; have p5 : w3.cell? ⟨w2.heap.size, 5, none⟩ = some (.int .i64 x.tx) := (box_on hb3).1 5; have vb0 := cell_on hb3 (cell_on (own_alloc (own_refl _) _) va0); have vb1 := cell_on hb3 (cell_on (own_alloc (own_refl _) _) va1); have vb2 := cell_on hb3 (cell_on (own_alloc (own_refl _) _) va2); have vb3 := cell_on hb3 (cell_on (own_alloc (own_refl _) _) va3); have vb4 := cell_on hb3 (cell_on (own_alloc (own_refl _) _) va4); have vb5 := cell_on hb3 (cell_on (own_alloc (own_refl _) _) va5)))
    go_quiet (fail)
    have hbW : Below w3.heap.size w3 _ := own_drewN (own_alloc (own_refl _) (.cells #[.string y.key, .string y.val, .bool y.gone, .int .u64 y.ts, .int .i64 y.dc, .int .i64 y.tx] 25)) nq
    have vw0 := cell_on hbW vb0
    have vw1 := cell_on hbW vb1
    have vw2 := cell_on hbW vb2
    have vw3 := cell_on hbW vb3
    have vw4 := cell_on hbW vb4
    have vw5 := cell_on hbW vb5
    have pw0 := cell_on hbW p0
    have pw1 := cell_on hbW p1
    have pw2 := cell_on hbW p2
    have pw3 := cell_on hbW p3
    have pw4 := cell_on hbW p4
    have pw5 := cell_on hbW p5
    have ownW := own_on (own_on ((own_on hown hb2).alloc _) hb3) hbW
    have hcapW := own_cap ownW
    have hb0 := below_own (below_own (own_alloc (below_own (below_box hb1) hb2) _) hb3) hbW
    cases hf : free L v
    · have HF := Lib.hid hf
      clear hf
      rcases putE_bad HF.out with he | he
      all_goals
        have HPE := Lib.hid he
        clear he
        go_wp2_with (first | (go_at_call 20; refine (put_any D _ cp L v _ rfl (by omega) hcapW (Cells.of_own ownW)).mono ?_; rintro e w4 ⟨D4, cp4, rfl, hown4, hb4⟩; rw [HPE.out]; have vx0 := cell_on hb4 vw0; have vx1 := cell_on hb4 vw1; have vx2 := cell_on hb4 vw2; have vx3 := cell_on hb4 vw3; have vx4 := cell_on hb4 vw4; have vx5 := cell_on hb4 vw5; have px0 := cell_on hb4 pw0; have px1 := cell_on hb4 pw1; have px2 := cell_on hb4 pw2; have px3 := cell_on hb4 pw3; have px4 := cell_on hb4 pw4; have px5 := cell_on hb4 pw5) | (go_at_call 14; refine (awake_any _).mono ?_; rintro e w6 ⟨rfl, hb6⟩))
        go_ret
        exact ⟨rfl, below_own (below_own hb0 hb4) hb6⟩
    · have HF := Lib.hid hf
      have HPE := Lib.hid (putE_ok hf)
      have hpl : putL L v = ins L v := by unfold putL; rw [if_pos hf]
      have HPL := Lib.hid hpl
      clear hf hpl
      by_cases hv : v.ts ≤ snap
      · go_wp2_with (first | (go_at_call 20; refine (put_any D _ cp L v _ rfl (by omega) hcapW (Cells.of_own ownW)).mono ?_; rintro e w4 ⟨D4, cp4, rfl, hown4, hb4⟩; rw [HPE.out]; have vx0 := cell_on hb4 vw0; have vx1 := cell_on hb4 vw1; have vx2 := cell_on hb4 vw2; have vx3 := cell_on hb4 vw3; have vx4 := cell_on hb4 vw4; have vx5 := cell_on hb4 vw5; have px0 := cell_on hb4 pw0; have px1 := cell_on hb4 pw1; have px2 := cell_on hb4 pw2; have px3 := cell_on hb4 pw3; have px4 := cell_on hb4 pw4; have px5 := cell_on hb4 pw5) | (go_at_call 14; refine (awake_any _).mono ?_; rintro e w6 ⟨rfl, hb6⟩))
        go_ret
        exact ⟨rfl, below_own (below_own hb0 hb4) hb6⟩
      · have hv2 : decide (v.ts ≤ snap) = false := by simp; omega
        have HAT := Lib.hid (AtV.put hr HF.out (by omega) H1.out)
        have hil := ins_len L v
        have HIL := Lib.hid hil
        clear hil
        have hq := ver_eq x x
        rw [veq_same] at hq
        go_wp2_with (first | (go_at_call 20; refine (put_any D _ cp L v _ rfl (by omega) hcapW (Cells.of_own ownW)).mono ?_; rintro e w4 ⟨D4, cp4, rfl, hown4, hb4⟩; rw [HPE.out]; rw [HPL.out] at hown4 ⊢; have vx0 := cell_on hb4 vw0; have vx1 := cell_on hb4 vw1; have vx2 := cell_on hb4 vw2; have vx3 := cell_on hb4 vw3; have vx4 := cell_on hb4 vw4; have vx5 := cell_on hb4 vw5; have px0 := cell_on hb4 pw0; have px1 := cell_on hb4 pw1; have px2 := cell_on hb4 pw2; have px3 := cell_on hb4 pw3; have px4 := cell_on hb4 pw4; have px5 := cell_on hb4 pw5) | (go_at_call 12; refine (At_v _ _ _ (ins L v) _ _ x false rfl (by rw [HIL.out]; omega) (Cells.of_own hown4) HAT.out).mono ?_; rintro e w5 ⟨rfl, hb5⟩; have py0 := cell_on hb5 px0; have py1 := cell_on hb5 px1; have py2 := cell_on hb5 px2; have py3 := cell_on hb5 px3; have py4 := cell_on hb5 px4; have py5 := cell_on hb5 px5) | (go_at_call 14; refine (awake_any _).mono ?_; rintro e w6 ⟨rfl, hb6⟩; have q0 : w6.cell? ⟨w5.heap.size, 0, none⟩ = some (.string x.key) := (box_on hb6).1 0; have q1 : w6.cell? ⟨w5.heap.size, 1, none⟩ = some (.string x.val) := (box_on hb6).1 1; have q2 : w6.cell? ⟨w5.heap.size, 2, none⟩ = some (.bool x.gone) := (box_on hb6).1 2; have q3 : w6.cell? ⟨w5.heap.size, 3, none⟩ = some (.int .u64 x.ts) := (box_on hb6).1 3; have q4 : w6.cell? ⟨w5.heap.size, 4, none⟩ = some (.int .i64 x.dc) := (box_on hb6).1 4; have q5 : w6.cell? ⟨w5.heap.size, 5, none⟩ = some (.int .i64 x.tx) := (box_on hb6).1 5; have pz0 := cell_on hb6 (cell_on (own_alloc (own_refl _) _) py0); have pz1 := cell_on hb6 (cell_on (own_alloc (own_refl _) _) py1); have pz2 := cell_on hb6 (cell_on (own_alloc (own_refl _) _) py2); have pz3 := cell_on hb6 (cell_on (own_alloc (own_refl _) _) py3); have pz4 := cell_on hb6 (cell_on (own_alloc (own_refl _) _) py4); have pz5 := cell_on hb6 (cell_on (own_alloc (own_refl _) _) py5)))
        go_ret
        exact ⟨rfl, below_own (own_alloc (below_own (below_own hb0 hb4) hb5) _) hb6⟩

set_option maxRecDepth 100000 in
set_option maxHeartbeats 2000000 in
theorem walk_some (A : Option Addr) (n c : Nat) (l L : List V) (snap more t : Int) (v x y : V) (bb : Bool) (w : World) (hn : l.length = n) (hm : n ≤ 9223372036854775807) (hA : Cells w A (flatV l))
    (hs0 : 0 ≤ snap) (hs1 : snap ≤ 18446744073709551615) (hm0 : 0 ≤ more) (hm1 : more ≤ 18446744073709551615)
    (hL : ofV l = L) (hr : Rising L) (hL40 : L.length ≤ 40) (ht : (snap + more ≤ 18446744073709551615 ∧ t = snap + more) ∨ (18446744073709551615 < snap + more ∧ t = 18446744073709551615)) (h1 : AtV L snap x true) (h2 : AtV L t y bb) :
    Calls Try.prog 8 #[.slice A n c, .int .u64 snap, .int .u64 more, .agg #[.string v.key, .string v.val, .bool v.gone, .int .u64 v.ts, .int .i64 v.dc, .int .i64 v.tx]] w fun e w' => e = .returned (.bool true) ∧ Below w.heap.size w w' := by
  have HL := Lib.hid hL
  have HST := Lib.hid (show snap ≤ t from by omega)
  have H1 := Lib.hid h1
  have H2 := Lib.hid h2
  clear hL h1 h2
  rcases ht with ⟨ht, rfl⟩ | ⟨ht, rfl⟩
  · have u1 : True := trivial
    go_enter Try.func8, Try.ntmps8
    go_wp2_with (first
      | (go_at_call 18; refine (of_any _ _ _ l _ hn hm (hA.on (own_alloc (own_refl _) _))).mono ?_; rintro e w1 ⟨D, cp, rfl, hown, hb1⟩; rw [HL.out] at hown ⊢; have v0 : w1.cell? ⟨w.heap.size, 0, none⟩ = some (.string v.key) := (box_on hb1).1 0; have v1 : w1.cell? ⟨w.heap.size, 1, none⟩ = some (.string v.val) := (box_on hb1).1 1; have v2 : w1.cell? ⟨w.heap.size, 2, none⟩ = some (.bool v.gone) := (box_on hb1).1 2; have v3 : w1.cell? ⟨w.heap.size, 3, none⟩ = some (.int .u64 v.ts) := (box_on hb1).1 3; have v4 : w1.cell? ⟨w.heap.size, 4, none⟩ = some (.int .i64 v.dc) := (box_on hb1).1 4; have v5 : w1.cell? ⟨w.heap.size, 5, none⟩ = some (.int .i64 v.tx) := (box_on hb1).1 5)
      | (go_at_call 12; have _t := u1; refine (At_v _ _ _ L _ _ x true rfl (by omega) (Cells.of_own hown) H1.out).mono ?_; rintro e w2 ⟨rfl, hb2⟩; have va0 := cell_on hb2 v0; have va1 := cell_on hb2 v1; have va2 := cell_on hb2 v2; have va3 := cell_on hb2 v3; have va4 := cell_on hb2 v4; have va5 := cell_on hb2 v5; clear u1)
      | (go_at_call 12; refine (At_v _ _ _ L _ _ y bb rfl (by omega) (Cells.of_own (own_on (own_on hown hb2) (own_alloc (own_refl _) _))) H2.out).mono ?_; rintro e w3 ⟨rfl, hb3⟩; have p0 : w3.cell? ⟨w2.heap.size, 0, none⟩ = some (.string x.key) := (box_on hb3).1 0; have p1 : w3.cell? ⟨w2.heap.size, 1, none⟩ = some (.string x.val) := (box_on hb3).1 1; have p2 : w3.cell? ⟨w2.heap.size, 2, none⟩ = some (.bool x.gone) := (box_on hb3).1 2; have p3 : w3.cell? ⟨w2.heap.size, 3, none⟩ = some (.int .u64 x.ts) := (box_on hb3).1 3; have p4 : w3.cell? ⟨w2.heap.size, 4, none⟩ = some (.int .i64 x.dc) := (box_on hb3).1 4; have p5 : w3.cell? ⟨w2.heap.size, 5, none⟩ = some (.int .i64 x.tx) := (box_on hb3).1 5; have vb0 := cell_on hb3 (cell_on (own_alloc (own_refl _) _) va0); have vb1 := cell_on hb3 (cell_on (own_alloc (own_refl _) _) va1); have vb2 := cell_on hb3 (cell_on (own_alloc (own_refl _) _) va2); have vb3 := cell_on hb3 (cell_on (own_alloc (own_refl _) _) va3); have vb4 := cell_on hb3 (cell_on (own_alloc (own_refl _) _) va4); have vb5 := cell_on hb3 (cell_on (own_alloc (own_refl _) _) va5)))
    obtain ⟨rfl, hyx, hxs⟩ := H1.out.later HST.out H2.out
    have hxs2 : decide (snap < x.ts) = false := by simp; omega
    go_region_held3 (fun w' => Below w3.heap.size w3 w' ∧ w'.cell? ⟨w3.heap.size, 0, none⟩ = some (.string y.key) ∧ w'.cell? ⟨w3.heap.size, 1, none⟩ = some (.string y.val) ∧ w'.cell? ⟨w3.heap.size, 2, none⟩ = some (.bool y.gone) ∧ w'.cell? ⟨w3.heap.size, 3, none⟩ = some (.int .u64 y.ts) ∧ w'.cell? ⟨w3.heap.size, 4, none⟩ = some (.int .i64 y.dc) ∧ w'.cell? ⟨w3.heap.size, 5, none⟩ = some (.int .i64 y.tx) ∧ w'.cell? ⟨w2.heap.size, 0, none⟩ = some (.string x.key) ∧ w'.cell? ⟨w2.heap.size, 1, none⟩ = some (.string x.val) ∧ w'.cell? ⟨w2.heap.size, 2, none⟩ = some (.bool x.gone) ∧ w'.cell? ⟨w2.heap.size, 3, none⟩ = some (.int .u64 x.ts) ∧ w'.cell? ⟨w2.heap.size, 4, none⟩ = some (.int .i64 x.dc) ∧ w'.cell? ⟨w2.heap.size, 5, none⟩ = some (.int .i64 x.tx)) (first | (refine ⟨own_drew (own_alloc (own_refl _) _), ?_, ?_, ?_, ?_, ?_, ?_, cell_on (own_drew (own_alloc (own_refl _) _)) p0, cell_on (own_drew (own_alloc (own_refl _) _)) p1, cell_on (own_drew (own_alloc (own_refl _) _)) p2, cell_on (own_drew (own_alloc (own_refl _) _)) p3, cell_on (own_drew (own_alloc (own_refl _) _)) p4, cell_on (own_drew (own_alloc (own_refl _) _)) p5⟩ <;> (go_simp; done)) | (go_split_ands; refine ⟨below_own (by assumption) (by assumption), ?_, ?_, ?_, ?_, ?_, ?_, ?_, ?_, ?_, ?_, ?_, ?_⟩ <;> exact cell_on (by assumption) (by assumption))) (first | (go_at_call 23; refine (rof_any _ _ _ _ _ _ _).mono ?_; rintro e w1' ⟨rfl, hb1'⟩) | (go_at_call 22; refine (less_any _ _ _ _ _ _ _).mono ?_; rintro e w1' ⟨rfl, hb1'⟩; rw [show mlt y.ts y.dc y.tx x.ts x.dc x.tx = false from hyx]))
    rename_i hS
    obtain ⟨hbW, _⟩ := hS
    have vw0 := cell_on hbW vb0
    have vw1 := cell_on hbW vb1
    have vw2 := cell_on hbW vb2
    have vw3 := cell_on hbW vb3
    have vw4 := cell_on hbW vb4
    have vw5 := cell_on hbW vb5
    have pw0 := cell_on hbW p0
    have pw1 := cell_on hbW p1
    have pw2 := cell_on hbW p2
    have pw3 := cell_on hbW p3
    have pw4 := cell_on hbW p4
    have pw5 := cell_on hbW p5
    have ownW := own_on (own_on ((own_on hown hb2).alloc _) hb3) hbW
    have hcapW := own_cap ownW
    have hb0 := below_own (below_own (own_alloc (below_own (below_box hb1) hb2) _) hb3) hbW
    cases hf : free L v
    · have HF := Lib.hid hf
      clear hf
      rcases putE_bad HF.out with he | he
      all_goals
        have HPE := Lib.hid he
        clear he
        go_wp2_with (first | (go_at_call 20; refine (put_any D _ cp L v _ rfl (by omega) hcapW (Cells.of_own ownW)).mono ?_; rintro e w4 ⟨D4, cp4, rfl, hown4, hb4⟩; rw [HPE.out]; have vx0 := cell_on hb4 vw0; have vx1 := cell_on hb4 vw1; have vx2 := cell_on hb4 vw2; have vx3 := cell_on hb4 vw3; have vx4 := cell_on hb4 vw4; have vx5 := cell_on hb4 vw5; have px0 := cell_on hb4 pw0; have px1 := cell_on hb4 pw1; have px2 := cell_on hb4 pw2; have px3 := cell_on hb4 pw3; have px4 := cell_on hb4 pw4; have px5 := cell_on hb4 pw5) | (go_at_call 14; refine (awake_any _).mono ?_; rintro e w6 ⟨rfl, hb6⟩))
        go_ret
        exact ⟨rfl, below_own (below_own hb0 hb4) hb6⟩
    · have HF := Lib.hid hf
      have HPE := Lib.hid (putE_ok hf)
      have hpl : putL L v = ins L v := by unfold putL; rw [if_pos hf]
      have HPL := Lib.hid hpl
      clear hf hpl
      by_cases hv : v.ts ≤ snap
      · go_wp2_with (first | (go_at_call 20; refine (put_any D _ cp L v _ rfl (by omega) hcapW (Cells.of_own ownW)).mono ?_; rintro e w4 ⟨D4, cp4, rfl, hown4, hb4⟩; rw [HPE.out]; have vx0 := cell_on hb4 vw0; have vx1 := cell_on hb4 vw1; have vx2 := cell_on hb4 vw2; have vx3 := cell_on hb4 vw3; have vx4 := cell_on hb4 vw4; have vx5 := cell_on hb4 vw5; have px0 := cell_on hb4 pw0; have px1 := cell_on hb4 pw1; have px2 := cell_on hb4 pw2; have px3 := cell_on hb4 pw3; have px4 := cell_on hb4 pw4; have px5 := cell_on hb4 pw5) | (go_at_call 14; refine (awake_any _).mono ?_; rintro e w6 ⟨rfl, hb6⟩))
        go_ret
        exact ⟨rfl, below_own (below_own hb0 hb4) hb6⟩
      · have hv2 : decide (v.ts ≤ snap) = false := by simp; omega
        have HAT := Lib.hid (AtV.put hr HF.out (by omega) H1.out)
        have hil := ins_len L v
        have HIL := Lib.hid hil
        clear hil
        have hq := ver_eq x x
        rw [veq_same] at hq
        go_wp2_with (first | (go_at_call 20; refine (put_any D _ cp L v _ rfl (by omega) hcapW (Cells.of_own ownW)).mono ?_; rintro e w4 ⟨D4, cp4, rfl, hown4, hb4⟩; rw [HPE.out]; rw [HPL.out] at hown4 ⊢; have vx0 := cell_on hb4 vw0; have vx1 := cell_on hb4 vw1; have vx2 := cell_on hb4 vw2; have vx3 := cell_on hb4 vw3; have vx4 := cell_on hb4 vw4; have vx5 := cell_on hb4 vw5; have px0 := cell_on hb4 pw0; have px1 := cell_on hb4 pw1; have px2 := cell_on hb4 pw2; have px3 := cell_on hb4 pw3; have px4 := cell_on hb4 pw4; have px5 := cell_on hb4 pw5) | (go_at_call 12; refine (At_v _ _ _ (ins L v) _ _ x true rfl (by rw [HIL.out]; omega) (Cells.of_own hown4) HAT.out).mono ?_; rintro e w5 ⟨rfl, hb5⟩; have py0 := cell_on hb5 px0; have py1 := cell_on hb5 px1; have py2 := cell_on hb5 px2; have py3 := cell_on hb5 px3; have py4 := cell_on hb5 px4; have py5 := cell_on hb5 px5) | (go_at_call 14; refine (awake_any _).mono ?_; rintro e w6 ⟨rfl, hb6⟩; have q0 : w6.cell? ⟨w5.heap.size, 0, none⟩ = some (.string x.key) := (box_on hb6).1 0; have q1 : w6.cell? ⟨w5.heap.size, 1, none⟩ = some (.string x.val) := (box_on hb6).1 1; have q2 : w6.cell? ⟨w5.heap.size, 2, none⟩ = some (.bool x.gone) := (box_on hb6).1 2; have q3 : w6.cell? ⟨w5.heap.size, 3, none⟩ = some (.int .u64 x.ts) := (box_on hb6).1 3; have q4 : w6.cell? ⟨w5.heap.size, 4, none⟩ = some (.int .i64 x.dc) := (box_on hb6).1 4; have q5 : w6.cell? ⟨w5.heap.size, 5, none⟩ = some (.int .i64 x.tx) := (box_on hb6).1 5; have pz0 := cell_on hb6 (cell_on (own_alloc (own_refl _) _) py0); have pz1 := cell_on hb6 (cell_on (own_alloc (own_refl _) _) py1); have pz2 := cell_on hb6 (cell_on (own_alloc (own_refl _) _) py2); have pz3 := cell_on hb6 (cell_on (own_alloc (own_refl _) _) py3); have pz4 := cell_on hb6 (cell_on (own_alloc (own_refl _) _) py4); have pz5 := cell_on hb6 (cell_on (own_alloc (own_refl _) _) py5)))
        go_ret
        exact ⟨rfl, below_own (own_alloc (below_own (below_own hb0 hb4) hb5) _) hb6⟩
  · have hw1 : IntKind.u64.wrap (snap + more) = snap + more - 18446744073709551616 := by rw [wrap_over snap more hs0 hs1 hm0 hm1 ht]
    have hw2 : snap + more - 18446744073709551616 < snap := by omega
    have u1 : True := trivial
    go_enter Try.func8, Try.ntmps8
    go_wp2_with (first
      | (go_at_call 18; refine (of_any _ _ _ l _ hn hm (hA.on (own_alloc (own_refl _) _))).mono ?_; rintro e w1 ⟨D, cp, rfl, hown, hb1⟩; rw [HL.out] at hown ⊢; have v0 : w1.cell? ⟨w.heap.size, 0, none⟩ = some (.string v.key) := (box_on hb1).1 0; have v1 : w1.cell? ⟨w.heap.size, 1, none⟩ = some (.string v.val) := (box_on hb1).1 1; have v2 : w1.cell? ⟨w.heap.size, 2, none⟩ = some (.bool v.gone) := (box_on hb1).1 2; have v3 : w1.cell? ⟨w.heap.size, 3, none⟩ = some (.int .u64 v.ts) := (box_on hb1).1 3; have v4 : w1.cell? ⟨w.heap.size, 4, none⟩ = some (.int .i64 v.dc) := (box_on hb1).1 4; have v5 : w1.cell? ⟨w.heap.size, 5, none⟩ = some (.int .i64 v.tx) := (box_on hb1).1 5)
      | (go_at_call 12; have _t := u1; refine (At_v _ _ _ L _ _ x true rfl (by omega) (Cells.of_own hown) H1.out).mono ?_; rintro e w2 ⟨rfl, hb2⟩; have va0 := cell_on hb2 v0; have va1 := cell_on hb2 v1; have va2 := cell_on hb2 v2; have va3 := cell_on hb2 v3; have va4 := cell_on hb2 v4; have va5 := cell_on hb2 v5; clear u1)
      | (go_at_call 12; refine (At_v _ _ _ L _ _ y bb rfl (by omega) (Cells.of_own (own_on (own_on hown hb2) (own_alloc (own_refl _) _))) H2.out).mono ?_; rintro e w3 ⟨rfl, hb3⟩; have p0 : w3.cell? ⟨w2.heap.size, 0, none⟩ = some (.string x.key) := (box_on hb3).1 0; have p1 : w3.cell? ⟨w2.heap.size, 1, none⟩ = some (.string x.val) := (box_on hb3).1 1; have p2 : w3.cell? ⟨w2.heap.size, 2, none⟩ = some (.bool x.gone) := (box_on hb3).1 2; have p3 : w3.cell? ⟨w2.heap.size, 3, none⟩ = some (.int .u64 x.ts) := (box_on hb3).1 3; have p4 : w3.cell? ⟨w2.heap.size, 4, none⟩ = some (.int .i64 x.dc) := (box_on hb3).1 4; have p5 : w3.cell? ⟨w2.heap.size, 5, none⟩ = some (.int .i64 x.tx) := (box_on hb3).1 5; have vb0 := cell_on hb3 (cell_on (own_alloc (own_refl _) _) va0); have vb1 := cell_on hb3 (cell_on (own_alloc (own_refl _) _) va1); have vb2 := cell_on hb3 (cell_on (own_alloc (own_refl _) _) va2); have vb3 := cell_on hb3 (cell_on (own_alloc (own_refl _) _) va3); have vb4 := cell_on hb3 (cell_on (own_alloc (own_refl _) _) va4); have vb5 := cell_on hb3 (cell_on (own_alloc (own_refl _) _) va5)))
    obtain ⟨rfl, hyx, hxs⟩ := H1.out.later HST.out H2.out
    have hxs2 : decide (snap < x.ts) = false := by simp; omega
    go_region_held3 (fun w' => Below w3.heap.size w3 w' ∧ w'.cell? ⟨w3.heap.size, 0, none⟩ = some (.string y.key) ∧ w'.cell? ⟨w3.heap.size, 1, none⟩ = some (.string y.val) ∧ w'.cell? ⟨w3.heap.size, 2, none⟩ = some (.bool y.gone) ∧ w'.cell? ⟨w3.heap.size, 3, none⟩ = some (.int .u64 y.ts) ∧ w'.cell? ⟨w3.heap.size, 4, none⟩ = some (.int .i64 y.dc) ∧ w'.cell? ⟨w3.heap.size, 5, none⟩ = some (.int .i64 y.tx) ∧ w'.cell? ⟨w2.heap.size, 0, none⟩ = some (.string x.key) ∧ w'.cell? ⟨w2.heap.size, 1, none⟩ = some (.string x.val) ∧ w'.cell? ⟨w2.heap.size, 2, none⟩ = some (.bool x.gone) ∧ w'.cell? ⟨w2.heap.size, 3, none⟩ = some (.int .u64 x.ts) ∧ w'.cell? ⟨w2.heap.size, 4, none⟩ = some (.int .i64 x.dc) ∧ w'.cell? ⟨w2.heap.size, 5, none⟩ = some (.int .i64 x.tx)) (first | (refine ⟨own_drew (own_alloc (own_refl _) _), ?_, ?_, ?_, ?_, ?_, ?_, cell_on (own_drew (own_alloc (own_refl _) _)) p0, cell_on (own_drew (own_alloc (own_refl _) _)) p1, cell_on (own_drew (own_alloc (own_refl _) _)) p2, cell_on (own_drew (own_alloc (own_refl _) _)) p3, cell_on (own_drew (own_alloc (own_refl _) _)) p4, cell_on (own_drew (own_alloc (own_refl _) _)) p5⟩ <;> (go_simp; done)) | (go_split_ands; refine ⟨below_own (by assumption) (by assumption), ?_, ?_, ?_, ?_, ?_, ?_, ?_, ?_, ?_, ?_, ?_, ?_⟩ <;> exact cell_on (by assumption) (by assumption))) (first | (go_at_call 23; refine (rof_any _ _ _ _ _ _ _).mono ?_; rintro e w1' ⟨rfl, hb1'⟩) | (go_at_call 22; refine (less_any _ _ _ _ _ _ _).mono ?_; rintro e w1' ⟨rfl, hb1'⟩; rw [show mlt y.ts y.dc y.tx x.ts x.dc x.tx = false from hyx]))
    rename_i hS
    obtain ⟨hbW, _⟩ := hS
    have vw0 := cell_on hbW vb0
    have vw1 := cell_on hbW vb1
    have vw2 := cell_on hbW vb2
    have vw3 := cell_on hbW vb3
    have vw4 := cell_on hbW vb4
    have vw5 := cell_on hbW vb5
    have pw0 := cell_on hbW p0
    have pw1 := cell_on hbW p1
    have pw2 := cell_on hbW p2
    have pw3 := cell_on hbW p3
    have pw4 := cell_on hbW p4
    have pw5 := cell_on hbW p5
    have ownW := own_on (own_on ((own_on hown hb2).alloc _) hb3) hbW
    have hcapW := own_cap ownW
    have hb0 := below_own (below_own (own_alloc (below_own (below_box hb1) hb2) _) hb3) hbW
    cases hf : free L v
    · have HF := Lib.hid hf
      clear hf
      rcases putE_bad HF.out with he | he
      all_goals
        have HPE := Lib.hid he
        clear he
        go_wp2_with (first | (go_at_call 20; refine (put_any D _ cp L v _ rfl (by omega) hcapW (Cells.of_own ownW)).mono ?_; rintro e w4 ⟨D4, cp4, rfl, hown4, hb4⟩; rw [HPE.out]; have vx0 := cell_on hb4 vw0; have vx1 := cell_on hb4 vw1; have vx2 := cell_on hb4 vw2; have vx3 := cell_on hb4 vw3; have vx4 := cell_on hb4 vw4; have vx5 := cell_on hb4 vw5; have px0 := cell_on hb4 pw0; have px1 := cell_on hb4 pw1; have px2 := cell_on hb4 pw2; have px3 := cell_on hb4 pw3; have px4 := cell_on hb4 pw4; have px5 := cell_on hb4 pw5) | (go_at_call 14; refine (awake_any _).mono ?_; rintro e w6 ⟨rfl, hb6⟩))
        go_ret
        exact ⟨rfl, below_own (below_own hb0 hb4) hb6⟩
    · have HF := Lib.hid hf
      have HPE := Lib.hid (putE_ok hf)
      have hpl : putL L v = ins L v := by unfold putL; rw [if_pos hf]
      have HPL := Lib.hid hpl
      clear hf hpl
      by_cases hv : v.ts ≤ snap
      · go_wp2_with (first | (go_at_call 20; refine (put_any D _ cp L v _ rfl (by omega) hcapW (Cells.of_own ownW)).mono ?_; rintro e w4 ⟨D4, cp4, rfl, hown4, hb4⟩; rw [HPE.out]; have vx0 := cell_on hb4 vw0; have vx1 := cell_on hb4 vw1; have vx2 := cell_on hb4 vw2; have vx3 := cell_on hb4 vw3; have vx4 := cell_on hb4 vw4; have vx5 := cell_on hb4 vw5; have px0 := cell_on hb4 pw0; have px1 := cell_on hb4 pw1; have px2 := cell_on hb4 pw2; have px3 := cell_on hb4 pw3; have px4 := cell_on hb4 pw4; have px5 := cell_on hb4 pw5) | (go_at_call 14; refine (awake_any _).mono ?_; rintro e w6 ⟨rfl, hb6⟩))
        go_ret
        exact ⟨rfl, below_own (below_own hb0 hb4) hb6⟩
      · have hv2 : decide (v.ts ≤ snap) = false := by simp; omega
        have HAT := Lib.hid (AtV.put hr HF.out (by omega) H1.out)
        have hil := ins_len L v
        have HIL := Lib.hid hil
        clear hil
        have hq := ver_eq x x
        rw [veq_same] at hq
        go_wp2_with (first | (go_at_call 20; refine (put_any D _ cp L v _ rfl (by omega) hcapW (Cells.of_own ownW)).mono ?_; rintro e w4 ⟨D4, cp4, rfl, hown4, hb4⟩; rw [HPE.out]; rw [HPL.out] at hown4 ⊢; have vx0 := cell_on hb4 vw0; have vx1 := cell_on hb4 vw1; have vx2 := cell_on hb4 vw2; have vx3 := cell_on hb4 vw3; have vx4 := cell_on hb4 vw4; have vx5 := cell_on hb4 vw5; have px0 := cell_on hb4 pw0; have px1 := cell_on hb4 pw1; have px2 := cell_on hb4 pw2; have px3 := cell_on hb4 pw3; have px4 := cell_on hb4 pw4; have px5 := cell_on hb4 pw5) | (go_at_call 12; refine (At_v _ _ _ (ins L v) _ _ x true rfl (by rw [HIL.out]; omega) (Cells.of_own hown4) HAT.out).mono ?_; rintro e w5 ⟨rfl, hb5⟩; have py0 := cell_on hb5 px0; have py1 := cell_on hb5 px1; have py2 := cell_on hb5 px2; have py3 := cell_on hb5 px3; have py4 := cell_on hb5 px4; have py5 := cell_on hb5 px5) | (go_at_call 14; refine (awake_any _).mono ?_; rintro e w6 ⟨rfl, hb6⟩; have q0 : w6.cell? ⟨w5.heap.size, 0, none⟩ = some (.string x.key) := (box_on hb6).1 0; have q1 : w6.cell? ⟨w5.heap.size, 1, none⟩ = some (.string x.val) := (box_on hb6).1 1; have q2 : w6.cell? ⟨w5.heap.size, 2, none⟩ = some (.bool x.gone) := (box_on hb6).1 2; have q3 : w6.cell? ⟨w5.heap.size, 3, none⟩ = some (.int .u64 x.ts) := (box_on hb6).1 3; have q4 : w6.cell? ⟨w5.heap.size, 4, none⟩ = some (.int .i64 x.dc) := (box_on hb6).1 4; have q5 : w6.cell? ⟨w5.heap.size, 5, none⟩ = some (.int .i64 x.tx) := (box_on hb6).1 5; have pz0 := cell_on hb6 (cell_on (own_alloc (own_refl _) _) py0); have pz1 := cell_on hb6 (cell_on (own_alloc (own_refl _) _) py1); have pz2 := cell_on hb6 (cell_on (own_alloc (own_refl _) _) py2); have pz3 := cell_on hb6 (cell_on (own_alloc (own_refl _) _) py3); have pz4 := cell_on hb6 (cell_on (own_alloc (own_refl _) _) py4); have pz5 := cell_on hb6 (cell_on (own_alloc (own_refl _) _) py5)))
        go_ret
        exact ⟨rfl, below_own (own_alloc (below_own (below_own hb0 hb4) hb5) _) hb6⟩

theorem walk (A : Option Addr) (n c : Nat) (l : List V) (snap more : Int) (v : V) (w : World) (hn : l.length = n) (hm : n ≤ 9223372036854775807) (hA : Cells w A (flatV l))
    (hs0 : 0 ≤ snap) (hs1 : snap ≤ 18446744073709551615) (hm0 : 0 ≤ more) (hm1 : more ≤ 18446744073709551615) :
    Calls Try.prog 8 #[.slice A n c, .int .u64 snap, .int .u64 more, .agg #[.string v.key, .string v.val, .bool v.gone, .int .u64 v.ts, .int .i64 v.dc, .int .i64 v.tx]] w fun e w' => e = .returned (.bool true) ∧ Below w.heap.size w w' := by
  have hr : Rising (ofV l) := ofTo_rising _ _
  have h40 : (ofV l).length ≤ 40 := by
    have := ofTo_len l (min l.length 40)
    unfold ofV; omega
  obtain ⟨t, ht⟩ : ∃ t, (snap + more ≤ 18446744073709551615 ∧ t = snap + more) ∨ (18446744073709551615 < snap + more ∧ t = 18446744073709551615) := by
    rcases Int.lt_or_le 18446744073709551615 (snap + more) with h | h
    · exact ⟨_, .inr ⟨h, rfl⟩⟩
    · exact ⟨_, .inl ⟨h, rfl⟩⟩
  obtain ⟨x, b1, h1⟩ := AtV.exists_ (ofV l) snap
  obtain ⟨y, b2, h2⟩ := AtV.exists_ (ofV l) t
  cases b1
  · exact walk_none A n c l _ snap more t v x y b2 w hn hm hA hs0 hs1 hm0 hm1 rfl hr h40 ht h1 h2
  · exact walk_some A n c l _ snap more t v x y b2 w hn hm hA hs0 hs1 hm0 hm1 rfl hr h40 ht h1 h2
end Go.Proofs.Ytpiifgmegdphpaa.lawChainLater
