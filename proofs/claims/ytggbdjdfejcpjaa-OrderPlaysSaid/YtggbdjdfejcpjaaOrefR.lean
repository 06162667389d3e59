/-
  The walk of the answer's Release. Conditions: the log lies as the hypotheses say.
-/
import Derived.Test.YtggbdjdfejcpjaaOrefT
import Derived.WalkMore
namespace Go.Proofs.Ytggbdjdfejcpjaa
open Go.RowKit Go.Maps
set_option linter.unusedVariables false

set_option maxRecDepth 100000 in
set_option maxHeartbeats 8000000 in
theorem rrel_any (w : World) (B b : Nat) (vl vw : Value) (L M : List Q) (x y : Lg) (h : RfAt w B b vl vw L M y) (hal : Alike x y) (hup : x.wait.Pairwise rlt) (hlen : x.list.length + x.wait.length ≤ 200) (t : Int) (hB : B ≤ w.heap.size) :
    Calls Try.prog 13 #[.pointer (some ⟨b, 0, none⟩), .int .u64 t] w (RStepIs w B b vl vw (fun e w' y' => e = .returned (.int .i64 (relN (max x.bound t) x.wait)) ∧ Alike (relX x t) y')) := by
  obtain ⟨i0, hi0, hz0, hz1, hz2⟩ := info_parts infoRec
  have hxb := hal.bound
  have c2 : w.cell? ⟨b, 2, none⟩ = some (.int .u64 y.bound) := h.cell 2
  have f2 : w.frozen? ⟨b, 2, none⟩ = false := h.frozen 2
  have HAL := Lib.hid hal
  have HUP := Lib.hid hup
  have HXB := Lib.hid hxb
  clear hal hup hxb
  by_cases hbt : y.bound < t
  · have hR := h.bnd t
    have tW : Turns (logS b vl vw) w (w.setCell ⟨b, 2, none⟩ (.int .u64 t)) := (Turns.refl _ w).set (a := ⟨b, 2, none⟩) (fun _ => .inl rfl) _
    have HMX : Hid (max x.bound t = t) := Lib.hid (by rw [← HXB.out]; omega)
    have d0 : decide (y.bound < t) = true := by simpa using hbt
    go_enter Try.func13, Try.ntmps13
    go_wp2_with fail
    obtain ⟨z, hz⟩ : ∃ z, t = z := ⟨_, rfl⟩
    have HMX : Hid (max x.bound t = z) := Lib.hid (by rw [HMX.out, hz])
    rw [hz] at hR tW ⊢
    obtain ⟨w0, hw0⟩ : ∃ w0, w.setCell ⟨b, 2, none⟩ (.int .u64 z) = w0 := ⟨_, rfl⟩
    rw [hw0] at hR tW ⊢
    clear hw0 d0 c2 f2 hbt
    have HZT := Lib.hid hz
    clear hz
    go_wp2_with fail
    go_loopw [5] (fun v5 wr => ∃ (n : Nat) (vl1 vw1 : Value) (L1 M1 : List Q) (y1 : Lg), v5 = .int .i64 n ∧ n ≤ relN z x.wait ∧ RfAt wr B b vl1 vw1 L1 M1 y1 ∧ y1.list = x.list ++ x.wait.take n ∧ y1.wait.Perm (x.wait.drop n) ∧ y1.bound = z ∧ Turns (logS b vl vw) w wr ∧ ∀ g, g < w.heap.size → logS b vl1 vw1 g → logS b vl vw g) (fun v5 _ => relN z x.wait - (intOf v5).toNat)
    case atStart => exact ⟨0, vl, vw, L, M, ⟨y.list, y.wait, z⟩, rfl, Nat.zero_le _, hR, by rw [List.take_zero, List.append_nil]; exact HAL.out.list, by rw [List.drop_zero]; exact HAL.out.wait, rfl, tW, fun _ _ e => e⟩
    case round =>
      obtain ⟨n, vl1, vw1, L1, M1, y1, rfl, hn, h1, hl1, hw1, hz1, ht1, hs1⟩ := hrel
      obtain ⟨W1, hW1⟩ : ∃ W1, wr = W1 := ⟨_, rfl⟩
      rw [hW1] at h1 ht1 ⊢
      clear hW1
      obtain ⟨Dw, cw, rfl, hcw⟩ := h1.hw.form
      obtain ⟨Dl, cl, rfl, hcl⟩ := h1.hl.form
      have c0 : W1.cell? ⟨b, 0, none⟩ = some (.slice Dl y1.list.length cl) := h1.cell 0
      have c1 : W1.cell? ⟨b, 1, none⟩ = some (.slice Dw y1.wait.length cw) := h1.cell 1
      have c2 : W1.cell? ⟨b, 2, none⟩ = some (.int .u64 z) := by have := h1.cell 2; rw [hz1] at this; exact this
      have f0 : W1.frozen? ⟨b, 0, none⟩ = false := h1.frozen 0
      have f1 : W1.frozen? ⟨b, 1, none⟩ = false := h1.frozen 1
      have hbl := h1.blt
      have HML := Lib.hid h1.ml
      have HMR := Lib.hid h1.mr
      have HL1 := Lib.hid hl1
      have HW1 := Lib.hid hw1
      have HZ1 := Lib.hid hz1
      have HS1 := Lib.hid hs1
      have hrl := relN_le z x.wait
      have hwl : y1.wait.length = x.wait.length - n := by rw [hw1.length_eq, List.length_drop]
      have hll : y1.list.length ≤ 200 := by rw [hl1, List.length_append, List.length_take]; omega
      have hwl2 : y1.wait.length ≤ 200 := by omega
      have hBW : B ≤ W1.heap.size := Nat.le_trans hB ht1.size
      have HWL := Lib.hid hwl
      clear hl1 hw1 hz1 hs1 hwl
      go_wp2_with fail
      go_loopw [6, 7] (fun v6 v7 wr => ∃ (k : Nat) (at' : Int), k ≤ y1.wait.length ∧ v7 = .int .i64 k ∧ v6 = .int .i64 at' ∧ PickAt y1.wait z k at' ∧ Below W1.heap.size W1 wr) (fun _ v7 _ => y1.wait.length - (intOf v7).toNat)
      case atStart => exact ⟨0, -1, Nat.zero_le _, rfl, rfl, PickAt.start _ _, own_refl _⟩
      case round =>
        obtain ⟨k, at', hk, rfl, rfl, hP, hbi⟩ := hrel
        have e1 : wr.cell? ⟨b, 1, none⟩ = some (.slice Dw y1.wait.length cw) := cell_on hbi c1
        have e2 : wr.cell? ⟨b, 2, none⟩ = some (.int .u64 z) := cell_on hbi c2
        by_cases hlt : k < y1.wait.length
        · obtain ⟨q, hq⟩ : ∃ q, M1[k]? = some q := ⟨_, List.getElem?_eq_getElem (by rw [HML.out]; exact hlt)⟩
          have hqr : y1.wait[k]? = some q.r := by rw [← HMR.out, List.getElem?_map, hq]; rfl
          obtain ⟨g, o, rfl, q0, q1, q2, q3⟩ := get_q h1.hw.cells hq
          have q0' := cell_on hbi q0
          have q1' := cell_on hbi q1
          have q2' := cell_on hbi q2
          have q3' := cell_on hbi q3
          have g3 : (0 : Int) ≤ (k : Int) := by omega
          have g4 : (k : Int) < (y1.wait.length : Int) := by omega
          have g5 : (k : Int) + 1 ≤ 9223372036854775807 := by omega
          have HQR := Lib.hid hqr
          have HP := Lib.hid hP
          clear q0 q1 q2 q3 hqr
          by_cases hz : q.r.ts ≤ z
          · rcases hP.cases with rfl | ⟨a, rfl⟩
            · have d1 : decide (q.r.ts ≤ z) = true := by simpa using hz
              have HPN := Lib.hid (hP.first HQR.out hz)
              clear hP hz hq
              go_wp2_with fail
              go_quiet (fail)
              go_wp2
              go_roundw
              case rel => exact ⟨k + 1, (k : Int), by omega, by go_num, rfl, HPN.out, own_drewN hbi _⟩
              case measure => simp [intOf]; omega
            · obtain ⟨hak, mr, hmr⟩ := hP.at_lt
              obtain ⟨m, hm, rfl⟩ : ∃ m, M1[a]? = some m ∧ m.r = mr := by rw [← HMR.out, List.getElem?_map, Option.map_eq_some_iff] at hmr; exact hmr
              obtain ⟨g', o', hgo, m0, m1, m2, m3⟩ := get_q h1.hw.cells hm
              obtain ⟨rfl, rfl⟩ : g = g' ∧ o = o' := by injection hgo with e; injection e with e1 e2; exact ⟨e1, e2⟩
              have m0' := cell_on hbi m0
              have m1' := cell_on hbi m1
              have m2' := cell_on hbi m2
              have m3' := cell_on hbi m3
              have g6 : (0 : Int) ≤ (a : Int) := by omega
              have g7 : (a : Int) < (y1.wait.length : Int) := by omega
              have d1 : decide (q.r.ts ≤ z) = true := by simpa using hz
              have d2 : decide ((a : Int) < 0) = false := by simp
              obtain ⟨u, hu⟩ : ∃ u, klt q.r.k m.r.k = u := ⟨_, rfl⟩
              have hlr : ∀ W, Calls Try.prog 20 #[.agg #[.int .u64 q.r.ts, .int .i64 q.r.dc, .int .i64 q.r.tx], .agg #[.int .u64 m.r.ts, .int .i64 m.r.dc, .int .i64 m.r.tx]] W fun e w' => e = .returned (.bool u) ∧ Below W.heap.size W w' := fun W => by
                have := less_any q.r.ts q.r.dc q.r.tx m.r.ts m.r.dc m.r.tx W
                rwa [show mlt q.r.ts q.r.dc q.r.tx m.r.ts m.r.dc m.r.tx = u from hu] at this
              have HLR := Lib.hid hlr
              have HU := Lib.hid hu
              have HMM := Lib.hid hmr
              have HZ := Lib.hid hz
              clear hlr hu hmr hz hq hm hgo m0 m1 m2 m3 hP
              cases u
              · go_wp2_with fail
                go_region_held3 (fun w' => Below wr.heap.size wr w' ∧ w'.cell? ⟨g, o + k * 4, none⟩ = some (.int .u64 q.r.ts) ∧ w'.cell? ⟨g, o + k * 4 + 1, none⟩ = some (.int .i64 q.r.dc) ∧ w'.cell? ⟨g, o + k * 4 + 2, none⟩ = some (.int .i64 q.r.tx) ∧ w'.cell? ⟨g, o + k * 4 + 3, none⟩ = some (.slice q.D q.r.vers.length q.c) ∧ w'.cell? ⟨g, o + a * 4, none⟩ = some (.int .u64 m.r.ts) ∧ w'.cell? ⟨g, o + a * 4 + 1, none⟩ = some (.int .i64 m.r.dc) ∧ w'.cell? ⟨g, o + a * 4 + 2, none⟩ = some (.int .i64 m.r.tx) ∧ w'.cell? ⟨g, o + a * 4 + 3, none⟩ = some (.slice m.D m.r.vers.length m.c) ∧ w'.cell? ⟨b, 1, none⟩ = some (.slice (some ⟨g, o, none⟩) y1.wait.length cw) ∧ w'.cell? ⟨b, 2, none⟩ = some (.int .u64 z))
                    (first | exact ⟨own_drew (own_refl _), q0', q1', q2', q3', m0', m1', m2', m3', e1, e2⟩ | (refine ⟨own_drew (own_refl _), ?_, ?_, ?_, ?_, ?_, ?_, ?_, ?_, ?_, ?_⟩ <;> (go_simp; done)) | (go_split_ands; refine ⟨below_own (by assumption) (by assumption), ?_, ?_, ?_, ?_, ?_, ?_, ?_, ?_, ?_, ?_⟩ <;> exact cell_on (by assumption) (by assumption)))
                    (first | (go_at_call 21; refine (mark_any _ _ _ _ _).mono ?_; rintro e w2 ⟨rfl, hb2⟩) | (go_at_call 20; refine (HLR.out _).mono ?_; rintro e w2 ⟨rfl, hb2⟩))
                rename_i hSS
                have hb3 := hSS.1
                clear hSS
                go_wp2
                go_roundw
                case rel => exact ⟨k + 1, (a : Int), by omega, by go_num, rfl, HP.out.keep HMM.out HQR.out HU.out, below_own hbi hb3⟩
                case measure => simp [intOf]; omega
              · go_wp2_with fail
                go_region_held3 (fun w' => Below wr.heap.size wr w' ∧ w'.cell? ⟨g, o + k * 4, none⟩ = some (.int .u64 q.r.ts) ∧ w'.cell? ⟨g, o + k * 4 + 1, none⟩ = some (.int .i64 q.r.dc) ∧ w'.cell? ⟨g, o + k * 4 + 2, none⟩ = some (.int .i64 q.r.tx) ∧ w'.cell? ⟨g, o + k * 4 + 3, none⟩ = some (.slice q.D q.r.vers.length q.c) ∧ w'.cell? ⟨g, o + a * 4, none⟩ = some (.int .u64 m.r.ts) ∧ w'.cell? ⟨g, o + a * 4 + 1, none⟩ = some (.int .i64 m.r.dc) ∧ w'.cell? ⟨g, o + a * 4 + 2, none⟩ = some (.int .i64 m.r.tx) ∧ w'.cell? ⟨g, o + a * 4 + 3, none⟩ = some (.slice m.D m.r.vers.length m.c) ∧ w'.cell? ⟨b, 1, none⟩ = some (.slice (some ⟨g, o, none⟩) y1.wait.length cw) ∧ w'.cell? ⟨b, 2, none⟩ = some (.int .u64 z))
                    (first | exact ⟨own_drew (own_refl _), q0', q1', q2', q3', m0', m1', m2', m3', e1, e2⟩ | (refine ⟨own_drew (own_refl _), ?_, ?_, ?_, ?_, ?_, ?_, ?_, ?_, ?_, ?_⟩ <;> (go_simp; done)) | (go_split_ands; refine ⟨below_own (by assumption) (by assumption), ?_, ?_, ?_, ?_, ?_, ?_, ?_, ?_, ?_, ?_⟩ <;> exact cell_on (by assumption) (by assumption)))
                    (first | (go_at_call 21; refine (mark_any _ _ _ _ _).mono ?_; rintro e w2 ⟨rfl, hb2⟩) | (go_at_call 20; refine (HLR.out _).mono ?_; rintro e w2 ⟨rfl, hb2⟩))
                rename_i hSS
                have hb3 := hSS.1
                clear hSS
                go_wp2
                go_roundw
                case rel => exact ⟨k + 1, (k : Int), by omega, by go_num, rfl, HP.out.less HMM.out HQR.out HZ.out HU.out, below_own hbi hb3⟩
                case measure => simp [intOf]; omega
          · have d1 : decide (q.r.ts ≤ z) = false := by simpa using hz
            have HPN := Lib.hid (hP.skip HQR.out (by omega))
            clear hP hz hq
            go_wp2_with fail
            go_quiet (fail)
            go_wp2
            go_roundw
            case rel => exact ⟨k + 1, at', by omega, by go_num, rfl, HPN.out, own_drewN hbi _⟩
            case measure => simp [intOf]; omega
        · obtain rfl : k = y1.wait.length := by omega
          have hcs := hP.cases
          have HP := Lib.hid hP
          clear hP hlt hk
          rcases hcs with rfl | ⟨a, rfl⟩
          · have hnn := pick_none HP.out HW1.out hn
            have HNN := Lib.hid hnn
            clear hnn
            go_wp2
            go_ret
            refine ⟨_, _, L1, M1, y1, ⟨by show Ending.returned (.int .i64 ((n : Nat) : Int)) = _; rw [HMX.out, ← HNN.out], ⟨?_, ?_, ?_⟩⟩, h1.on hbi, ht1.below' hbi, HS1.out⟩
            · rw [HL1.out, HNN.out]; unfold relX; rw [HMX.out]
            · have := HW1.out; rw [HNN.out] at this; unfold relX; rw [HMX.out]; exact this
            · rw [HZ1.out]; unfold relX; rw [HMX.out]
          · obtain ⟨hak, mr, hmr⟩ := HP.out.at_lt
            obtain ⟨q, hq, rfl⟩ : ∃ q, M1[a]? = some q ∧ q.r = mr := by rw [← HMR.out, List.getElem?_map, Option.map_eq_some_iff] at hmr; exact hmr
            have HPS := Lib.hid (pick_some HP.out hmr HW1.out HUP.out hn)
            obtain ⟨g, o, rfl, q0, q1, q2, q3⟩ := get_q (h1.on hbi).hw.cells hq
            have HQ := Lib.hid hq
            have g6 : (0 : Int) ≤ (a : Int) := by omega
            have g7 : (a : Int) < (y1.wait.length : Int) := by omega
            have g8 : (a : Int) ≤ (y1.wait.length : Int) := by omega
            have g9 : (a : Int) ≤ (cw : Int) := by omega
            have g10 : (a : Int) + 1 ≤ (y1.wait.length : Int) := by omega
            have g11 : (a : Int) + 1 ≤ (cw : Int) := by omega
            have d2 : decide ((a : Int) < 0) = false := by simp
            have hW := h1.on hbi
            have e0 : wr.cell? ⟨b, 0, none⟩ = some (.slice Dl y1.list.length cl) := cell_on hbi c0
            have j0 : wr.frozen? ⟨b, 0, none⟩ = false := hW.frozen 0
            have j1 : wr.frozen? ⟨b, 1, none⟩ = false := hW.frozen 1
            have hbl2 := hW.blt
            have hWa : RfAt (wr.drew.alloc (.cells #[.int .u64 q.r.ts, .int .i64 q.r.dc, .int .i64 q.r.tx, .slice q.D q.r.vers.length q.c] 32)) B b _ _ L1 M1 y1 := hW.on (own_alloc (own_drew (own_refl _)) _)
            have hBw : B ≤ wr.heap.size := Nat.le_trans hBW hbi.size
            clear hmr hq c0 c1 c2 f0 f1 HP
            go_wp2_with fail
            go_region_law ((refine step_append_at _ (by rfl) _ _ 26 (by rfl) B 32 i0 (.agg #[.int .u64 0, .int .i64 0, .int .i64 0, .slice none 0 0]) 4 48 Try.underlying26 hi0 hz0 hz1 hz2 (by rfl) (by omega) _ _ _ (by rfl) hWa.hl _ 1 _ [.int .u64 q.r.ts, .int .i64 q.r.dc, .int .i64 q.r.tx, .slice q.D q.r.vers.length q.c] (by rfl) rfl (Cells.new wr.drew #[.int .u64 q.r.ts, .int .i64 q.r.dc, .int .i64 q.r.tx, .slice q.D q.r.vers.length q.c] 32) (one_q q) (by unfold maxLen; omega) (by omega) (by have := hBw; simp; omega) ?_; intro D1 cp1 w1 own1 g1 loc1; have t1 : Turns (fun j => (Value.slice Dl y1.list.length cl).ownBlock = some j) (wr.drew.alloc (.cells #[.int .u64 q.r.ts, .int .i64 q.r.dc, .int .i64 q.r.tx, .slice q.D q.r.vers.length q.c] 32)) w1 := (Turns.refl _ _).grown g1 (fun _ _ e => e); have e0' := t1.cell (hWa.cell 0) hWa.nl; have j0' := t1.frozen (a := ⟨b, 0, none⟩) hWa.blt hWa.nl (hWa.frozen 0); have e1' := t1.cell (hWa.cell 1) hWa.nl; have j1' := t1.frozen (a := ⟨b, 1, none⟩) hWa.blt hWa.nl (hWa.frozen 1)))
            all_goals
              have hw1 := hWa.hw.turn t1 (fun g hg e => hWa.nlw g e hg)
              have b1 := (t1.block b hWa.blt hWa.nl).trans hWa.hb
              have hb1l := (Array.getElem?_eq_some_iff.1 b1).1
              have tS : Turns (one b) w1 (w1.setCell ⟨b, 0, none⟩ (.slice D1 (y1.list.length + 1) cp1)) := (Turns.refl (one b) w1).set (a := ⟨b, 0, none⟩) (fun _ => rfl) _
              have hw2 := hw1.turn tS (fun g hg e => own_ne_row hw1 b1 (by decide) (by rw [hg, show g = b from e]))
              have hsrc13 : Cells (w1.setCell ⟨b, 0, none⟩ (.slice D1 (y1.list.length + 1) cp1)) (some ⟨g, o, none⟩) (flatQ (M1.take a)) := Cells.takeG (cf := Q.cells) hw2.cells a
              have hl13 : (flatQ (M1.take a)).length = a * 4 := by rw [flatQ_len, List.length_take, HML.out]; omega
              obtain ⟨p, hp⟩ : ∃ p, a + 1 = p := ⟨_, rfl⟩
              have hap : (a : Int) + 1 = (p : Int) := by omega
              have hl14 : (flatQ (M1.drop p)).length = (y1.wait.length - p) * 4 := by rw [flatQ_len, List.length_drop, HML.out]
              have zS := tS.size
              have zw1 : wr.heap.size ≤ w1.heap.size := by have := t1.size; simp at this; omega
              have n1 : (0 : Int) ≤ (p : Int) := by omega
              have n2 : (p : Int) ≤ (y1.wait.length : Int) := by omega
              have n3 : (p : Int) ≤ (cw : Int) := by omega
              have n5 : p ≤ y1.wait.length := by omega
              have HPP := Lib.hid hp
              clear hp
              by_cases hcp : cw = p
              · obtain rfl : p = cw := hcp.symm
                clear hcp
                have hl14 : (flatQ (M1.drop p)).length = 0 * 4 := by rw [flatQ_len, List.length_drop, HML.out]; omega
                have hsrc14 : ∀ v, Cells v (some ⟨g, o, none⟩) (flatQ (M1.drop p)) := fun v => by rw [List.drop_eq_nil_of_le (by rw [HML.out]; omega)]; exact Cells.nil _ _
                have hE : OwnAt ((w1.setCell ⟨b, 0, none⟩ (.slice D1 (y1.list.length + 1) cp1)).alloc (.cells #[] 32)) w1.heap.size 32 4 (.slice (some ⟨w1.heap.size, 0, none⟩) 0 0) 0 [] := by
                  have h9 := OwnAt.of_row (own_empty (w1.setCell ⟨b, 0, none⟩ (.slice D1 (y1.list.length + 1) cp1)) 32 4)
                  rwa [show (w1.setCell ⟨b, 0, none⟩ (.slice D1 (y1.list.length + 1) cp1)).heap.size = w1.heap.size from by simp] at h9
                have hwa := hw2.on (own_alloc (own_refl _) (.cells #[] 32))
                have hbS := heap_setCell_same w1 b 0 _ _ (.slice D1 (y1.list.length + 1) cp1) b1
                have hbA := (Below.heap_alloc (w1.setCell ⟨b, 0, none⟩ (.slice D1 (y1.list.length + 1) cp1)) (.cells #[] 32) b (by simp; omega)).trans hbS
                go_wp2_with (first | (at_builtin; refine wpList_append_at _ rfl _ _ 26 rfl w1.heap.size 32 i0 (.agg #[.int .u64 0, .int .i64 0, .int .i64 0, .slice none 0 0]) 4 48 Try.underlying26 hi0 hz0 hz1 hz2 rfl (by omega) _ _ _ rfl hE _ _ _ (flatQ (M1.take a)) rfl hl13 (hsrc13.on (own_alloc (own_refl _) _)) (one_fq _) (by unfold maxLen; omega) (by omega) (by simp) ?_; intro D3 cp3 w3 own3 g3' loc3; simp only [Nat.zero_add, List.nil_append] at own3 loc3; (try simp only [Nat.zero_add]); have t3 : Turns (fun j => (Value.slice (some ⟨w1.heap.size, 0, none⟩) 0 0).ownBlock = some j) ((w1.setCell ⟨b, 0, none⟩ (.slice D1 (y1.list.length + 1) cp1)).alloc (.cells #[] 32)) w3 := (Turns.refl _ _).grown g3' (fun _ _ e => e); have hw3 := hwa.turn t3 (fun j hj e => by have e : w1.heap.size = j := Option.some.inj e; have := (hw1.lt j hj).2; omega); have hb3 := (t3.block b (by simp; omega) (fun e => by have e : w1.heap.size = b := Option.some.inj e; omega)).trans hbA; have e13 : w3.cell? ⟨b, 1, none⟩ = some (.slice (some ⟨g, o, none⟩) y1.wait.length p) := cell_of_row _ _ 1 _ _ _ hb3; have j13 : w3.frozen? ⟨b, 1, none⟩ = false := (by simp [World.frozen?, hb3]); have z3 : w1.heap.size + 1 ≤ w3.heap.size := (by have := t3.size; simp at this; omega)) | (at_builtin; refine wpList_append_at _ rfl _ _ 26 rfl w1.heap.size 32 i0 (.agg #[.int .u64 0, .int .i64 0, .int .i64 0, .slice none 0 0]) 4 48 Try.underlying26 hi0 hz0 hz1 hz2 rfl (by omega) _ _ _ rfl own3 _ _ _ (flatQ (M1.drop p)) rfl hl14 (hsrc14 _) (one_fq _) (by unfold maxLen; omega) (by omega) (by omega) ?_; intro D4 cp4 w4 own4 g4 loc4; have t4 : Turns (fun j => (Value.slice D3 a cp3).ownBlock = some j) w3 w4 := (Turns.refl _ _).grown g4 (fun _ _ e => e); have hl3 : ∀ j, (Value.slice D3 a cp3).ownBlock = some j → w1.heap.size ≤ j := (fun j hj => (loc3 j hj).elim (fun e => by have e : w1.heap.size = j := Option.some.inj e; omega) (fun e => by simp at e; omega)); have hb4 := (t4.block b (Array.getElem?_eq_some_iff.1 hb3).1 (fun e => by have := hl3 b e; omega)).trans hb3; have e14 : w4.cell? ⟨b, 1, none⟩ = some (.slice (some ⟨g, o, none⟩) y1.wait.length p) := cell_of_row _ _ 1 _ _ _ hb4; have j14 : w4.frozen? ⟨b, 1, none⟩ = false := (by simp [World.frozen?, hb4])))
                go_roundw
                case rel =>
                  have hp := HPP.out
                  subst hp
                  obtain ⟨r1, r2, r3⟩ := rrel_fin hW (own_alloc (own_drew (own_refl _)) _) HQ.out own1 rfl g1 loc1 rfl (fun j hj => by have e : w1.heap.size = j := Option.some.inj hj; omega) g3' loc3 g4 (own4.weaken (by omega)) (by rw [List.length_append, List.length_take, List.length_drop]; omega) loc4
                  exact ⟨n + 1, _, _, L1 ++ [q], M1.take a ++ M1.drop (a + 1), ⟨y1.list ++ [q.r], y1.wait.take a ++ y1.wait.drop (a + 1), y1.bound⟩, by go_num, HPS.out.1, r1, by rw [HPS.out.2.1, HL1.out, List.append_assoc], HPS.out.2.2, HZ1.out, (ht1.below' hbi).on r2 (fun j hj e => HS1.out j hj e), fun j hj e => HS1.out j hj (r3 j (by have := ht1.size; have := hbi.size; omega) e)⟩
                case measure => simp [intOf]; have := HPS.out.1; omega
              · have hne : ¬ cw = p := hcp
                have hE : OwnAt ((w1.setCell ⟨b, 0, none⟩ (.slice D1 (y1.list.length + 1) cp1)).alloc (.cells #[] 32)) w1.heap.size 32 4 (.slice (some ⟨w1.heap.size, 0, none⟩) 0 0) 0 [] := by
                  have h9 := OwnAt.of_row (own_empty (w1.setCell ⟨b, 0, none⟩ (.slice D1 (y1.list.length + 1) cp1)) 32 4)
                  rwa [show (w1.setCell ⟨b, 0, none⟩ (.slice D1 (y1.list.length + 1) cp1)).heap.size = w1.heap.size from by simp] at h9
                have hwa := hw2.on (own_alloc (own_refl _) (.cells #[] 32))
                have hbS := heap_setCell_same w1 b 0 _ _ (.slice D1 (y1.list.length + 1) cp1) b1
                have hbA := (Below.heap_alloc (w1.setCell ⟨b, 0, none⟩ (.slice D1 (y1.list.length + 1) cp1)) (.cells #[] 32) b (by simp; omega)).trans hbS
                go_wp2_with (first | (at_builtin; refine wpList_append_at _ rfl _ _ 26 rfl w1.heap.size 32 i0 (.agg #[.int .u64 0, .int .i64 0, .int .i64 0, .slice none 0 0]) 4 48 Try.underlying26 hi0 hz0 hz1 hz2 rfl (by omega) _ _ _ rfl hE _ _ _ (flatQ (M1.take a)) rfl hl13 (hsrc13.on (own_alloc (own_refl _) _)) (one_fq _) (by unfold maxLen; omega) (by omega) (by simp) ?_; intro D3 cp3 w3 own3 g3' loc3; simp only [Nat.zero_add, List.nil_append] at own3 loc3; (try simp only [Nat.zero_add]); have t3 : Turns (fun j => (Value.slice (some ⟨w1.heap.size, 0, none⟩) 0 0).ownBlock = some j) ((w1.setCell ⟨b, 0, none⟩ (.slice D1 (y1.list.length + 1) cp1)).alloc (.cells #[] 32)) w3 := (Turns.refl _ _).grown g3' (fun _ _ e => e); have hw3 := hwa.turn t3 (fun j hj e => by have e : w1.heap.size = j := Option.some.inj e; have := (hw1.lt j hj).2; omega); have hb3 := (t3.block b (by simp; omega) (fun e => by have e : w1.heap.size = b := Option.some.inj e; omega)).trans hbA; have e13 : w3.cell? ⟨b, 1, none⟩ = some (.slice (some ⟨g, o, none⟩) y1.wait.length cw) := cell_of_row _ _ 1 _ _ _ hb3; have j13 : w3.frozen? ⟨b, 1, none⟩ = false := (by simp [World.frozen?, hb3]); have z3 : w1.heap.size + 1 ≤ w3.heap.size := (by have := t3.size; simp at this; omega)) | (at_builtin; refine wpList_append_at _ rfl _ _ 26 rfl w1.heap.size 32 i0 (.agg #[.int .u64 0, .int .i64 0, .int .i64 0, .slice none 0 0]) 4 48 Try.underlying26 hi0 hz0 hz1 hz2 rfl (by omega) _ _ _ rfl own3 _ _ _ (flatQ (M1.drop p)) rfl hl14 (Cells.dropQ hw3.cells p) (one_fq _) (by unfold maxLen; omega) (by omega) (by omega) ?_; intro D4 cp4 w4 own4 g4 loc4; have t4 : Turns (fun j => (Value.slice D3 a cp3).ownBlock = some j) w3 w4 := (Turns.refl _ _).grown g4 (fun _ _ e => e); have hl3 : ∀ j, (Value.slice D3 a cp3).ownBlock = some j → w1.heap.size ≤ j := (fun j hj => (loc3 j hj).elim (fun e => by have e : w1.heap.size = j := Option.some.inj e; omega) (fun e => by simp at e; omega)); have hb4 := (t4.block b (Array.getElem?_eq_some_iff.1 hb3).1 (fun e => by have := hl3 b e; omega)).trans hb3; have e14 : w4.cell? ⟨b, 1, none⟩ = some (.slice (some ⟨g, o, none⟩) y1.wait.length cw) := cell_of_row _ _ 1 _ _ _ hb4; have j14 : w4.frozen? ⟨b, 1, none⟩ = false := (by simp [World.frozen?, hb4])))
                go_roundw
                case rel =>
                  have hp := HPP.out
                  subst hp
                  obtain ⟨r1, r2, r3⟩ := rrel_fin hW (own_alloc (own_drew (own_refl _)) _) HQ.out own1 rfl g1 loc1 rfl (fun j hj => by have e : w1.heap.size = j := Option.some.inj hj; omega) g3' loc3 g4 (own4.weaken (by omega)) (by rw [List.length_append, List.length_take, List.length_drop]; omega) loc4
                  exact ⟨n + 1, _, _, L1 ++ [q], M1.take a ++ M1.drop (a + 1), ⟨y1.list ++ [q.r], y1.wait.take a ++ y1.wait.drop (a + 1), y1.bound⟩, by go_num, HPS.out.1, r1, by rw [HPS.out.2.1, HL1.out, List.append_assoc], HPS.out.2.2, HZ1.out, (ht1.below' hbi).on r2 (fun j hj e => HS1.out j hj e), fun j hj e => HS1.out j hj (r3 j (by have := ht1.size; have := hbi.size; omega) e)⟩
                case measure => simp [intOf]; have := HPS.out.1; omega
  · have hR : RfAt w B b vl vw L M ⟨y.list, y.wait, y.bound⟩ := h
    have tW : Turns (logS b vl vw) w w := Turns.refl _ w
    have d0 : decide (y.bound < t) = false := by simpa using hbt
    go_enter Try.func13, Try.ntmps13
    go_wp2_with fail
    obtain ⟨z, hz⟩ : ∃ z, y.bound = z := ⟨_, rfl⟩
    have HMX : Hid (max x.bound t = z) := Lib.hid (by rw [← hz, ← HXB.out]; omega)
    rw [hz] at hR ⊢
    clear d0 c2 f2 hbt hz
    go_wp2_with fail
    go_loopw [5] (fun v5 wr => ∃ (n : Nat) (vl1 vw1 : Value) (L1 M1 : List Q) (y1 : Lg), v5 = .int .i64 n ∧ n ≤ relN z x.wait ∧ RfAt wr B b vl1 vw1 L1 M1 y1 ∧ y1.list = x.list ++ x.wait.take n ∧ y1.wait.Perm (x.wait.drop n) ∧ y1.bound = z ∧ Turns (logS b vl vw) w wr ∧ ∀ g, g < w.heap.size → logS b vl1 vw1 g → logS b vl vw g) (fun v5 _ => relN z x.wait - (intOf v5).toNat)
    case atStart => exact ⟨0, vl, vw, L, M, ⟨y.list, y.wait, z⟩, rfl, Nat.zero_le _, hR, by rw [List.take_zero, List.append_nil]; exact HAL.out.list, by rw [List.drop_zero]; exact HAL.out.wait, rfl, tW, fun _ _ e => e⟩
    case round =>
      obtain ⟨n, vl1, vw1, L1, M1, y1, rfl, hn, h1, hl1, hw1, hz1, ht1, hs1⟩ := hrel
      obtain ⟨W1, hW1⟩ : ∃ W1, wr = W1 := ⟨_, rfl⟩
      rw [hW1] at h1 ht1 ⊢
      clear hW1
      obtain ⟨Dw, cw, rfl, hcw⟩ := h1.hw.form
      obtain ⟨Dl, cl, rfl, hcl⟩ := h1.hl.form
      have c0 : W1.cell? ⟨b, 0, none⟩ = some (.slice Dl y1.list.length cl) := h1.cell 0
      have c1 : W1.cell? ⟨b, 1, none⟩ = some (.slice Dw y1.wait.length cw) := h1.cell 1
      have c2 : W1.cell? ⟨b, 2, none⟩ = some (.int .u64 z) := by have := h1.cell 2; rw [hz1] at this; exact this
      have f0 : W1.frozen? ⟨b, 0, none⟩ = false := h1.frozen 0
      have f1 : W1.frozen? ⟨b, 1, none⟩ = false := h1.frozen 1
      have hbl := h1.blt
      have HML := Lib.hid h1.ml
      have HMR := Lib.hid h1.mr
      have HL1 := Lib.hid hl1
      have HW1 := Lib.hid hw1
      have HZ1 := Lib.hid hz1
      have HS1 := Lib.hid hs1
      have hrl := relN_le z x.wait
      have hwl : y1.wait.length = x.wait.length - n := by rw [hw1.length_eq, List.length_drop]
      have hll : y1.list.length ≤ 200 := by rw [hl1, List.length_append, List.length_take]; omega
      have hwl2 : y1.wait.length ≤ 200 := by omega
      have hBW : B ≤ W1.heap.size := Nat.le_trans hB ht1.size
      have HWL := Lib.hid hwl
      clear hl1 hw1 hz1 hs1 hwl
      go_wp2_with fail
      go_loopw [6, 7] (fun v6 v7 wr => ∃ (k : Nat) (at' : Int), k ≤ y1.wait.length ∧ v7 = .int .i64 k ∧ v6 = .int .i64 at' ∧ PickAt y1.wait z k at' ∧ Below W1.heap.size W1 wr) (fun _ v7 _ => y1.wait.length - (intOf v7).toNat)
      case atStart => exact ⟨0, -1, Nat.zero_le _, rfl, rfl, PickAt.start _ _, own_refl _⟩
      case round =>
        obtain ⟨k, at', hk, rfl, rfl, hP, hbi⟩ := hrel
        have e1 : wr.cell? ⟨b, 1, none⟩ = some (.slice Dw y1.wait.length cw) := cell_on hbi c1
        have e2 : wr.cell? ⟨b, 2, none⟩ = some (.int .u64 z) := cell_on hbi c2
        by_cases hlt : k < y1.wait.length
        · obtain ⟨q, hq⟩ : ∃ q, M1[k]? = some q := ⟨_, List.getElem?_eq_getElem (by rw [HML.out]; exact hlt)⟩
          have hqr : y1.wait[k]? = some q.r := by rw [← HMR.out, List.getElem?_map, hq]; rfl
          obtain ⟨g, o, rfl, q0, q1, q2, q3⟩ := get_q h1.hw.cells hq
          have q0' := cell_on hbi q0
          have q1' := cell_on hbi q1
          have q2' := cell_on hbi q2
          have q3' := cell_on hbi q3
          have g3 : (0 : Int) ≤ (k : Int) := by omega
          have g4 : (k : Int) < (y1.wait.length : Int) := by omega
          have g5 : (k : Int) + 1 ≤ 9223372036854775807 := by omega
          have HQR := Lib.hid hqr
          have HP := Lib.hid hP
          clear q0 q1 q2 q3 hqr
          by_cases hz : q.r.ts ≤ z
          · rcases hP.cases with rfl | ⟨a, rfl⟩
            · have d1 : decide (q.r.ts ≤ z) = true := by simpa using hz
              have HPN := Lib.hid (hP.first HQR.out hz)
              clear hP hz hq
              go_wp2_with fail
              go_quiet (fail)
              go_wp2
              go_roundw
              case rel => exact ⟨k + 1, (k : Int), by omega, by go_num, rfl, HPN.out, own_drewN hbi _⟩
              case measure => simp [intOf]; omega
            · obtain ⟨hak, mr, hmr⟩ := hP.at_lt
              obtain ⟨m, hm, rfl⟩ : ∃ m, M1[a]? = some m ∧ m.r = mr := by rw [← HMR.out, List.getElem?_map, Option.map_eq_some_iff] at hmr; exact hmr
              obtain ⟨g', o', hgo, m0, m1, m2, m3⟩ := get_q h1.hw.cells hm
              obtain ⟨rfl, rfl⟩ : g = g' ∧ o = o' := by injection hgo with e; injection e with e1 e2; exact ⟨e1, e2⟩
              have m0' := cell_on hbi m0
              have m1' := cell_on hbi m1
              have m2' := cell_on hbi m2
              have m3' := cell_on hbi m3
              have g6 : (0 : Int) ≤ (a : Int) := by omega
              have g7 : (a : Int) < (y1.wait.length : Int) := by omega
              have d1 : decide (q.r.ts ≤ z) = true := by simpa using hz
              have d2 : decide ((a : Int) < 0) = false := by simp
              obtain ⟨u, hu⟩ : ∃ u, klt q.r.k m.r.k = u := ⟨_, rfl⟩
              have hlr : ∀ W, Calls Try.prog 20 #[.agg #[.int .u64 q.r.ts, .int .i64 q.r.dc, .int .i64 q.r.tx], .agg #[.int .u64 m.r.ts, .int .i64 m.r.dc, .int .i64 m.r.tx]] W fun e w' => e = .returned (.bool u) ∧ Below W.heap.size W w' := fun W => by
                have := less_any q.r.ts q.r.dc q.r.tx m.r.ts m.r.dc m.r.tx W
                rwa [show mlt q.r.ts q.r.dc q.r.tx m.r.ts m.r.dc m.r.tx = u from hu] at this
              have HLR := Lib.hid hlr
              have HU := Lib.hid hu
              have HMM := Lib.hid hmr
              have HZ := Lib.hid hz
              clear hlr hu hmr hz hq hm hgo m0 m1 m2 m3 hP
              cases u
              · go_wp2_with fail
                go_region_held3 (fun w' => Below wr.heap.size wr w' ∧ w'.cell? ⟨g, o + k * 4, none⟩ = some (.int .u64 q.r.ts) ∧ w'.cell? ⟨g, o + k * 4 + 1, none⟩ = some (.int .i64 q.r.dc) ∧ w'.cell? ⟨g, o + k * 4 + 2, none⟩ = some (.int .i64 q.r.tx) ∧ w'.cell? ⟨g, o + k * 4 + 3, none⟩ = some (.slice q.D q.r.vers.length q.c) ∧ w'.cell? ⟨g, o + a * 4, none⟩ = some (.int .u64 m.r.ts) ∧ w'.cell? ⟨g, o + a * 4 + 1, none⟩ = some (.int .i64 m.r.dc) ∧ w'.cell? ⟨g, o + a * 4 + 2, none⟩ = some (.int .i64 m.r.tx) ∧ w'.cell? ⟨g, o + a * 4 + 3, none⟩ = some (.slice m.D m.r.vers.length m.c) ∧ w'.cell? ⟨b, 1, none⟩ = some (.slice (some ⟨g, o, none⟩) y1.wait.length cw) ∧ w'.cell? ⟨b, 2, none⟩ = some (.int .u64 z))
                    (first | exact ⟨own_drew (own_refl _), q0', q1', q2', q3', m0', m1', m2', m3', e1, e2⟩ | (refine ⟨own_drew (own_refl _), ?_, ?_, ?_, ?_, ?_, ?_, ?_, ?_, ?_, ?_⟩ <;> (go_simp; done)) | (go_split_ands; refine ⟨below_own (by assumption) (by assumption), ?_, ?_, ?_, ?_, ?_, ?_, ?_, ?_, ?_, ?_⟩ <;> exact cell_on (by assumption) (by assumption)))
                    (first | (go_at_call 21; refine (mark_any _ _ _ _ _).mono ?_; rintro e w2 ⟨rfl, hb2⟩) | (go_at_call 20; refine (HLR.out _).mono ?_; rintro e w2 ⟨rfl, hb2⟩))
                rename_i hSS
                have hb3 := hSS.1
                clear hSS
                go_wp2
                go_roundw
                case rel => exact ⟨k + 1, (a : Int), by omega, by go_num, rfl, HP.out.keep HMM.out HQR.out HU.out, below_own hbi hb3⟩
                case measure => simp [intOf]; omega
              · go_wp2_with fail
                go_region_held3 (fun w' => Below wr.heap.size wr w' ∧ w'.cell? ⟨g, o + k * 4, none⟩ = some (.int .u64 q.r.ts) ∧ w'.cell? ⟨g, o + k * 4 + 1, none⟩ = some (.int .i64 q.r.dc) ∧ w'.cell? ⟨g, o + k * 4 + 2, none⟩ = some (.int .i64 q.r.tx) ∧ w'.cell? ⟨g, o + k * 4 + 3, none⟩ = some (.slice q.D q.r.vers.length q.c) ∧ w'.cell? ⟨g, o + a * 4, none⟩ = some (.int .u64 m.r.ts) ∧ w'.cell? ⟨g, o + a * 4 + 1, none⟩ = some (.int .i64 m.r.dc) ∧ w'.cell? ⟨g, o + a * 4 + 2, none⟩ = some (.int .i64 m.r.tx) ∧ w'.cell? ⟨g, o + a * 4 + 3, none⟩ = some (.slice m.D m.r.vers.length m.c) ∧ w'.cell? ⟨b, 1, none⟩ = some (.slice (some ⟨g, o, none⟩) y1.wait.length cw) ∧ w'.cell? ⟨b, 2, none⟩ = some (.int .u64 z))
                    (first | exact ⟨own_drew (own_refl _), q0', q1', q2', q3', m0', m1', m2', m3', e1, e2⟩ | (refine ⟨own_drew (own_refl _), ?_, ?_, ?_, ?_, ?_, ?_, ?_, ?_, ?_, ?_⟩ <;> (go_simp; done)) | (go_split_ands; refine ⟨below_own (by assumption) (by assumption), ?_, ?_, ?_, ?_, ?_, ?_, ?_, ?_, ?_, ?_⟩ <;> exact cell_on (by assumption) (by assumption)))
                    (first | (go_at_call 21; refine (mark_any _ _ _ _ _).mono ?_; rintro e w2 ⟨rfl, hb2⟩) | (go_at_call 20; refine (HLR.out _).mono ?_; rintro e w2 ⟨rfl, hb2⟩))
                rename_i hSS
                have hb3 := hSS.1
                clear hSS
                go_wp2
                go_roundw
                case rel => exact ⟨k + 1, (k : Int), by omega, by go_num, rfl, HP.out.less HMM.out HQR.out HZ.out HU.out, below_own hbi hb3⟩
                case measure => simp [intOf]; omega
          · have d1 : decide (q.r.ts ≤ z) = false := by simpa using hz
            have HPN := Lib.hid (hP.skip HQR.out (by omega))
            clear hP hz hq
            go_wp2_with fail
            go_quiet (fail)
            go_wp2
            go_roundw
            case rel => exact ⟨k + 1, at', by omega, by go_num, rfl, HPN.out, own_drewN hbi _⟩
            case measure => simp [intOf]; omega
        · obtain rfl : k = y1.wait.length := by omega
          have hcs := hP.cases
          have HP := Lib.hid hP
          clear hP hlt hk
          rcases hcs with rfl | ⟨a, rfl⟩
          · have hnn := pick_none HP.out HW1.out hn
            have HNN := Lib.hid hnn
            clear hnn
            go_wp2
            go_ret
            refine ⟨_, _, L1, M1, y1, ⟨by show Ending.returned (.int .i64 ((n : Nat) : Int)) = _; rw [HMX.out, ← HNN.out], ⟨?_, ?_, ?_⟩⟩, h1.on hbi, ht1.below' hbi, HS1.out⟩
            · rw [HL1.out, HNN.out]; unfold relX; rw [HMX.out]
            · have := HW1.out; rw [HNN.out] at this; unfold relX; rw [HMX.out]; exact this
            · rw [HZ1.out]; unfold relX; rw [HMX.out]
          · obtain ⟨hak, mr, hmr⟩ := HP.out.at_lt
            obtain ⟨q, hq, rfl⟩ : ∃ q, M1[a]? = some q ∧ q.r = mr := by rw [← HMR.out, List.getElem?_map, Option.map_eq_some_iff] at hmr; exact hmr
            have HPS := Lib.hid (pick_some HP.out hmr HW1.out HUP.out hn)
            obtain ⟨g, o, rfl, q0, q1, q2, q3⟩ := get_q (h1.on hbi).hw.cells hq
            have HQ := Lib.hid hq
            have g6 : (0 : Int) ≤ (a : Int) := by omega
            have g7 : (a : Int) < (y1.wait.length : Int) := by omega
            have g8 : (a : Int) ≤ (y1.wait.length : Int) := by omega
            have g9 : (a : Int) ≤ (cw : Int) := by omega
            have g10 : (a : Int) + 1 ≤ (y1.wait.length : Int) := by omega
            have g11 : (a : Int) + 1 ≤ (cw : Int) := by omega
            have d2 : decide ((a : Int) < 0) = false := by simp
            have hW := h1.on hbi
            have e0 : wr.cell? ⟨b, 0, none⟩ = some (.slice Dl y1.list.length cl) := cell_on hbi c0
            have j0 : wr.frozen? ⟨b, 0, none⟩ = false := hW.frozen 0
            have j1 : wr.frozen? ⟨b, 1, none⟩ = false := hW.frozen 1
            have hbl2 := hW.blt
            have hWa : RfAt (wr.drew.alloc (.cells #[.int .u64 q.r.ts, .int .i64 q.r.dc, .int .i64 q.r.tx, .slice q.D q.r.vers.length q.c] 32)) B b _ _ L1 M1 y1 := hW.on (own_alloc (own_drew (own_refl _)) _)
            have hBw : B ≤ wr.heap.size := Nat.le_trans hBW hbi.size
            clear hmr hq c0 c1 c2 f0 f1 HP
            go_wp2_with fail
            go_region_law ((refine step_append_at _ (by rfl) _ _ 26 (by rfl) B 32 i0 (.agg #[.int .u64 0, .int .i64 0, .int .i64 0, .slice none 0 0]) 4 48 Try.underlying26 hi0 hz0 hz1 hz2 (by rfl) (by omega) _ _ _ (by rfl) hWa.hl _ 1 _ [.int .u64 q.r.ts, .int .i64 q.r.dc, .int .i64 q.r.tx, .slice q.D q.r.vers.length q.c] (by rfl) rfl (Cells.new wr.drew #[.int .u64 q.r.ts, .int .i64 q.r.dc, .int .i64 q.r.tx, .slice q.D q.r.vers.length q.c] 32) (one_q q) (by unfold maxLen; omega) (by omega) (by have := hBw; simp; omega) ?_; intro D1 cp1 w1 own1 g1 loc1; have t1 : Turns (fun j => (Value.slice Dl y1.list.length cl).ownBlock = some j) (wr.drew.alloc (.cells #[.int .u64 q.r.ts, .int .i64 q.r.dc, .int .i64 q.r.tx, .slice q.D q.r.vers.length q.c] 32)) w1 := (Turns.refl _ _).grown g1 (fun _ _ e => e); have e0' := t1.cell (hWa.cell 0) hWa.nl; have j0' := t1.frozen (a := ⟨b, 0, none⟩) hWa.blt hWa.nl (hWa.frozen 0); have e1' := t1.cell (hWa.cell 1) hWa.nl; have j1' := t1.frozen (a := ⟨b, 1, none⟩) hWa.blt hWa.nl (hWa.frozen 1)))
            all_goals
              have hw1 := hWa.hw.turn t1 (fun g hg e => hWa.nlw g e hg)
              have b1 := (t1.block b hWa.blt hWa.nl).trans hWa.hb
              have hb1l := (Array.getElem?_eq_some_iff.1 b1).1
              have tS : Turns (one b) w1 (w1.setCell ⟨b, 0, none⟩ (.slice D1 (y1.list.length + 1) cp1)) := (Turns.refl (one b) w1).set (a := ⟨b, 0, none⟩) (fun _ => rfl) _
              have hw2 := hw1.turn tS (fun g hg e => own_ne_row hw1 b1 (by decide) (by rw [hg, show g = b from e]))
              have hsrc13 : Cells (w1.setCell ⟨b, 0, none⟩ (.slice D1 (y1.list.length + 1) cp1)) (some ⟨g, o, none⟩) (flatQ (M1.take a)) := Cells.takeG (cf := Q.cells) hw2.cells a
              have hl13 : (flatQ (M1.take a)).length = a * 4 := by rw [flatQ_len, List.length_take, HML.out]; omega
              obtain ⟨p, hp⟩ : ∃ p, a + 1 = p := ⟨_, rfl⟩
              have hap : (a : Int) + 1 = (p : Int) := by omega
              have hl14 : (flatQ (M1.drop p)).length = (y1.wait.length - p) * 4 := by rw [flatQ_len, List.length_drop, HML.out]
              have zS := tS.size
              have zw1 : wr.heap.size ≤ w1.heap.size := by have := t1.size; simp at this; omega
              have n1 : (0 : Int) ≤ (p : Int) := by omega
              have n2 : (p : Int) ≤ (y1.wait.length : Int) := by omega
              have n3 : (p : Int) ≤ (cw : Int) := by omega
              have n5 : p ≤ y1.wait.length := by omega
              have HPP := Lib.hid hp
              clear hp
              by_cases hcp : cw = p
              · obtain rfl : p = cw := hcp.symm
                clear hcp
                have hl14 : (flatQ (M1.drop p)).length = 0 * 4 := by rw [flatQ_len, List.length_drop, HML.out]; omega
                have hsrc14 : ∀ v, Cells v (some ⟨g, o, none⟩) (flatQ (M1.drop p)) := fun v => by rw [List.drop_eq_nil_of_le (by rw [HML.out]; omega)]; exact Cells.nil _ _
                have hE : OwnAt ((w1.setCell ⟨b, 0, none⟩ (.slice D1 (y1.list.length + 1) cp1)).alloc (.cells #[] 32)) w1.heap.size 32 4 (.slice (some ⟨w1.heap.size, 0, none⟩) 0 0) 0 [] := by
                  have h9 := OwnAt.of_row (own_empty (w1.setCell ⟨b, 0, none⟩ (.slice D1 (y1.list.length + 1) cp1)) 32 4)
                  rwa [show (w1.setCell ⟨b, 0, none⟩ (.slice D1 (y1.list.length + 1) cp1)).heap.size = w1.heap.size from by simp] at h9
                have hwa := hw2.on (own_alloc (own_refl _) (.cells #[] 32))
                have hbS := heap_setCell_same w1 b 0 _ _ (.slice D1 (y1.list.length + 1) cp1) b1
                have hbA := (Below.heap_alloc (w1.setCell ⟨b, 0, none⟩ (.slice D1 (y1.list.length + 1) cp1)) (.cells #[] 32) b (by simp; omega)).trans hbS
                go_wp2_with (first | (at_builtin; refine wpList_append_at _ rfl _ _ 26 rfl w1.heap.size 32 i0 (.agg #[.int .u64 0, .int .i64 0, .int .i64 0, .slice none 0 0]) 4 48 Try.underlying26 hi0 hz0 hz1 hz2 rfl (by omega) _ _ _ rfl hE _ _ _ (flatQ (M1.take a)) rfl hl13 (hsrc13.on (own_alloc (own_refl _) _)) (one_fq _) (by unfold maxLen; omega) (by omega) (by simp) ?_; intro D3 cp3 w3 own3 g3' loc3; simp only [Nat.zero_add, List.nil_append] at own3 loc3; (try simp only [Nat.zero_add]); have t3 : Turns (fun j => (Value.slice (some ⟨w1.heap.size, 0, none⟩) 0 0).ownBlock = some j) ((w1.setCell ⟨b, 0, none⟩ (.slice D1 (y1.list.length + 1) cp1)).alloc (.cells #[] 32)) w3 := (Turns.refl _ _).grown g3' (fun _ _ e => e); have hw3 := hwa.turn t3 (fun j hj e => by have e : w1.heap.size = j := Option.some.inj e; have := (hw1.lt j hj).2; omega); have hb3 := (t3.block b (by simp; omega) (fun e => by have e : w1.heap.size = b := Option.some.inj e; omega)).trans hbA; have e13 : w3.cell? ⟨b, 1, none⟩ = some (.slice (some ⟨g, o, none⟩) y1.wait.length p) := cell_of_row _ _ 1 _ _ _ hb3; have j13 : w3.frozen? ⟨b, 1, none⟩ = false := (by simp [World.frozen?, hb3]); have z3 : w1.heap.size + 1 ≤ w3.heap.size := (by have := t3.size; simp at this; omega)) | (at_builtin; refine wpList_append_at _ rfl _ _ 26 rfl w1.heap.size 32 i0 (.agg #[.int .u64 0, .int .i64 0, .int .i64 0, .slice none 0 0]) 4 48 Try.underlying26 hi0 hz0 hz1 hz2 rfl (by omega) _ _ _ rfl own3 _ _ _ (flatQ (M1.drop p)) rfl hl14 (hsrc14 _) (one_fq _) (by unfold maxLen; omega) (by omega) (by omega) ?_; intro D4 cp4 w4 own4 g4 loc4; have t4 : Turns (fun j => (Value.slice D3 a cp3).ownBlock = some j) w3 w4 := (Turns.refl _ _).grown g4 (fun _ _ e => e); have hl3 : ∀ j, (Value.slice D3 a cp3).ownBlock = some j → w1.heap.size ≤ j := (fun j hj => (loc3 j hj).elim (fun e => by have e : w1.heap.size = j := Option.some.inj e; omega) (fun e => by simp at e; omega)); have hb4 := (t4.block b (Array.getElem?_eq_some_iff.1 hb3).1 (fun e => by have := hl3 b e; omega)).trans hb3; have e14 : w4.cell? ⟨b, 1, none⟩ = some (.slice (some ⟨g, o, none⟩) y1.wait.length p) := cell_of_row _ _ 1 _ _ _ hb4; have j14 : w4.frozen? ⟨b, 1, none⟩ = false := (by simp [World.frozen?, hb4])))
                go_roundw
                case rel =>
                  have hp := HPP.out
                  subst hp
                  obtain ⟨r1, r2, r3⟩ := rrel_fin hW (own_alloc (own_drew (own_refl _)) _) HQ.out own1 rfl g1 loc1 rfl (fun j hj => by have e : w1.heap.size = j := Option.some.inj hj; omega) g3' loc3 g4 (own4.weaken (by omega)) (by rw [List.length_append, List.length_take, List.length_drop]; omega) loc4
                  exact ⟨n + 1, _, _, L1 ++ [q], M1.take a ++ M1.drop (a + 1), ⟨y1.list ++ [q.r], y1.wait.take a ++ y1.wait.drop (a + 1), y1.bound⟩, by go_num, HPS.out.1, r1, by rw [HPS.out.2.1, HL1.out, List.append_assoc], HPS.out.2.2, HZ1.out, (ht1.below' hbi).on r2 (fun j hj e => HS1.out j hj e), fun j hj e => HS1.out j hj (r3 j (by have := ht1.size; have := hbi.size; omega) e)⟩
                case measure => simp [intOf]; have := HPS.out.1; omega
              · have hne : ¬ cw = p := hcp
                have hE : OwnAt ((w1.setCell ⟨b, 0, none⟩ (.slice D1 (y1.list.length + 1) cp1)).alloc (.cells #[] 32)) w1.heap.size 32 4 (.slice (some ⟨w1.heap.size, 0, none⟩) 0 0) 0 [] := by
                  have h9 := OwnAt.of_row (own_empty (w1.setCell ⟨b, 0, none⟩ (.slice D1 (y1.list.length + 1) cp1)) 32 4)
                  rwa [show (w1.setCell ⟨b, 0, none⟩ (.slice D1 (y1.list.length + 1) cp1)).heap.size = w1.heap.size from by simp] at h9
                have hwa := hw2.on (own_alloc (own_refl _) (.cells #[] 32))
                have hbS := heap_setCell_same w1 b 0 _ _ (.slice D1 (y1.list.length + 1) cp1) b1
                have hbA := (Below.heap_alloc (w1.setCell ⟨b, 0, none⟩ (.slice D1 (y1.list.length + 1) cp1)) (.cells #[] 32) b (by simp; omega)).trans hbS
                go_wp2_with (first | (at_builtin; refine wpList_append_at _ rfl _ _ 26 rfl w1.heap.size 32 i0 (.agg #[.int .u64 0, .int .i64 0, .int .i64 0, .slice none 0 0]) 4 48 Try.underlying26 hi0 hz0 hz1 hz2 rfl (by omega) _ _ _ rfl hE _ _ _ (flatQ (M1.take a)) rfl hl13 (hsrc13.on (own_alloc (own_refl _) _)) (one_fq _) (by unfold maxLen; omega) (by omega) (by simp) ?_; intro D3 cp3 w3 own3 g3' loc3; simp only [Nat.zero_add, List.nil_append] at own3 loc3; (try simp only [Nat.zero_add]); have t3 : Turns (fun j => (Value.slice (some ⟨w1.heap.size, 0, none⟩) 0 0).ownBlock = some j) ((w1.setCell ⟨b, 0, none⟩ (.slice D1 (y1.list.length + 1) cp1)).alloc (.cells #[] 32)) w3 := (Turns.refl _ _).grown g3' (fun _ _ e => e); have hw3 := hwa.turn t3 (fun j hj e => by have e : w1.heap.size = j := Option.some.inj e; have := (hw1.lt j hj).2; omega); have hb3 := (t3.block b (by simp; omega) (fun e => by have e : w1.heap.size = b := Option.some.inj e; omega)).trans hbA; have e13 : w3.cell? ⟨b, 1, none⟩ = some (.slice (some ⟨g, o, none⟩) y1.wait.length cw) := cell_of_row _ _ 1 _ _ _ hb3; have j13 : w3.frozen? ⟨b, 1, none⟩ = false := (by simp [World.frozen?, hb3]); have z3 : w1.heap.size + 1 ≤ w3.heap.size := (by have := t3.size; simp at this; omega)) | (at_builtin; refine wpList_append_at _ rfl _ _ 26 rfl w1.heap.size 32 i0 (.agg #[.int .u64 0, .int .i64 0, .int .i64 0, .slice none 0 0]) 4 48 Try.underlying26 hi0 hz0 hz1 hz2 rfl (by omega) _ _ _ rfl own3 _ _ _ (flatQ (M1.drop p)) rfl hl14 (Cells.dropQ hw3.cells p) (one_fq _) (by unfold maxLen; omega) (by omega) (by omega) ?_; intro D4 cp4 w4 own4 g4 loc4; have t4 : Turns (fun j => (Value.slice D3 a cp3).ownBlock = some j) w3 w4 := (Turns.refl _ _).grown g4 (fun _ _ e => e); have hl3 : ∀ j, (Value.slice D3 a cp3).ownBlock = some j → w1.heap.size ≤ j := (fun j hj => (loc3 j hj).elim (fun e => by have e : w1.heap.size = j := Option.some.inj e; omega) (fun e => by simp at e; omega)); have hb4 := (t4.block b (Array.getElem?_eq_some_iff.1 hb3).1 (fun e => by have := hl3 b e; omega)).trans hb3; have e14 : w4.cell? ⟨b, 1, none⟩ = some (.slice (some ⟨g, o, none⟩) y1.wait.length cw) := cell_of_row _ _ 1 _ _ _ hb4; have j14 : w4.frozen? ⟨b, 1, none⟩ = false := (by simp [World.frozen?, hb4])))
                go_roundw
                case rel =>
                  have hp := HPP.out
                  subst hp
                  obtain ⟨r1, r2, r3⟩ := rrel_fin hW (own_alloc (own_drew (own_refl _)) _) HQ.out own1 rfl g1 loc1 rfl (fun j hj => by have e : w1.heap.size = j := Option.some.inj hj; omega) g3' loc3 g4 (own4.weaken (by omega)) (by rw [List.length_append, List.length_take, List.length_drop]; omega) loc4
                  exact ⟨n + 1, _, _, L1 ++ [q], M1.take a ++ M1.drop (a + 1), ⟨y1.list ++ [q.r], y1.wait.take a ++ y1.wait.drop (a + 1), y1.bound⟩, by go_num, HPS.out.1, r1, by rw [HPS.out.2.1, HL1.out, List.append_assoc], HPS.out.2.2, HZ1.out, (ht1.below' hbi).on r2 (fun j hj e => HS1.out j hj e), fun j hj e => HS1.out j hj (r3 j (by have := ht1.size; have := hbi.size; omega) e)⟩
                case measure => simp [intOf]; have := HPS.out.1; omega
end Go.Proofs.Ytggbdjdfejcpjaa
