/-
  The walk of the law HistOrder: whatever data come in, the call returns true and leaves what was there. Conditions: the arguments' cells lie as the hypotheses say.
-/
import Derived.Test.YtiapolcpebilmaaHordP
import Derived.Test.YtiapolcpebilmaaAwakeH
import Derived.Test.YtiapolcpebilmaaBridge
namespace Go.Proofs.Ytiapolcpebilmaa.lawHistOrder
open Go.RowKit Go.ChangeShapes Go.WideShapes Go.Deep Go.Maps Go.ChangeAt
set_option linter.unusedVariables false

set_option maxRecDepth 100000 in
set_option maxHeartbeats 8000000 in
theorem walk (A : Option Addr) (n c : Nat) (l : List TI) (w : World) (hn : l.length = n) (hA : Cells w A (flatTI l)) (hm : n ≤ 9223372036854775807) (hall : ∀ x ∈ l, x.wf w) : Calls Try.prog 5 #[.slice A n c] w fun e w' => e = .returned (.bool true) ∧ Below w.heap.size w w' := by
  have hokF : ∀ W, Below w.heap.size w W → ∀ x ∈ fewL l, (clr x).ok W := fun W hW => few_of fun x hx => clr_ok (hall x hx) hW
  have hlen40 := fewL_len l
  obtain ⟨F0, hF0⟩ : ∃ F0, fewL l = F0 := ⟨_, rfl⟩
  have HF0 := Lib.hid hF0
  rw [hF0] at hokF hlen40
  have HOKF := Lib.hid hokF
  clear hF0 hokF
  obtain ⟨N0, hN0⟩ : ∃ N0, F0.length = N0 := ⟨_, rfl⟩
  have HN0 := Lib.hid hN0
  rw [hN0] at hlen40
  by_cases h14 : N0 ≤ 14
  · have d14 : decide ((14 : Int) < (N0 : Int)) = false := by simp; omega
    have d14' : ¬ (14 : Int) < (N0 : Int) := by omega
    clear hN0
    go_enter Try.func5, Try.ntmps5
    go_wp2_with (go_at_call 8; refine (few_any A n c l w hn hA hm hall).mono ?_; rintro e w1 ⟨D, cp, rfl, hown, hbN1⟩; rw [HF0.out, HN0.out] at hown ⊢)
    go_loopw [18] (fun q wr => ∃ (i : Nat), i ≤ N0 ∧ q = .int .i64 i ∧ wr.ownsRow w.heap.size 45 8 (.slice D N0 cp) N0 (flatTI (clrTo F0 i)) ∧ Below w.heap.size w wr) (fun q _ => N0 - (intOf q).toNat)
    case atStart => exact ⟨0, Nat.zero_le _, rfl, hown, hbN1⟩
    case round =>
      obtain ⟨i, hi, rfl, hrow, hbN⟩ := hrel
      by_cases hlt : i < N0
      · obtain ⟨x, hx⟩ : ∃ x, F0[i]? = some x := ⟨_, List.getElem?_eq_getElem (by rw [HN0.out]; omega)⟩
        obtain ⟨g, rfl, hg0, hg1, hg2⟩ := row_some hrow (by omega)
        have hnew := clr_step hrow hx
        have c6 : wr.cell? ⟨g, i * 8 + 6, none⟩ = some (.slice x.R x.t.rds.length x.rc) := by
          obtain ⟨b, off, he, -, -, -, -, -, -, h6, -⟩ := get_tx (Cells.of_own hrow) (clrTo_step hx).1
          injection he with e
          injection e with e1 e2
          subst e1 e2
          simpa using h6
        have f6 : wr.frozen? ⟨g, i * 8 + 6, none⟩ = false := hrow.frozenAt _
        have g1' : (0 : Int) ≤ (i : Int) := by omega
        have g2' : (i : Int) < (N0 : Int) := by omega
        have HNEW := Lib.hid hnew
        clear hnew hrow hx
        go_wp2
        go_roundw
        case rel => exact ⟨i + 1, by omega, by go_num, HNEW.out, own_set hbN hg0 _⟩
        case measure => simp [intOf]; omega
      · obtain rfl : i = N0 := by omega
        have hrow' : wr.ownsRow w.heap.size 45 8 (.slice D i cp) i (flatTI (F0.map clr)) := by
          have h := hrow
          have e := clrTo_all F0
          rw [HN0.out] at e
          rw [e] at h
          exact h
        refine wp_from (fun W => W = wr) rfl ?_
        rintro wN rfl
        obtain ⟨A, rfl⟩ : ∃ A, A = D := ⟨_, rfl⟩
        obtain ⟨L, hL⟩ : ∃ L, F0.map clr = L := ⟨_, rfl⟩
        rw [hL] at hrow'
        obtain ⟨N, rfl⟩ : ∃ N, N = i := ⟨_, rfl⟩
        have hN : L.length = N := by rw [← hL, List.length_map, HN0.out]
        have HLC := Lib.hid (fun W (hW : Below wN.heap.size wN W) => (Cells.of_own hrow').on hW)
        have HOK := Lib.hid (show ∀ x ∈ L, x.ok _ from by
          intro x hx
          rw [← hL] at hx
          obtain ⟨y, hy, rfl⟩ := List.mem_map.1 hx
          exact HOKF.out _ hbN y hy)
        clear hL hrow hrow' hi hlt
        obtain ⟨ch, hch⟩ : ∃ ch, (check (L.map TI.t)).1 = ch := ⟨_, rfl⟩
        have HCH := Lib.hid hch
        by_cases hz : ch = 0
        · have hg := Lib.hid (good_of (mark_of_check (l := L.map TI.t) (by rw [hch]; exact hz)))
          subst hz
          clear hch
          go_wp2_with (go_at_call 9; refine (hcheck_any A N cp L _ hN (HLC.out _ (own_refl _)) (by omega) (HOK.out)).mono ?_; rintro e w2 ⟨rfl, hb2⟩; rw [HCH.out])
          go_loopw [36] (fun q wr => ∃ (i : Nat), i ≤ N ∧ q = .int .i64 i ∧ Below wN.heap.size wN wr) (fun q _ => N - (intOf q).toNat)
          case atStart => exact ⟨0, Nat.zero_le _, rfl, hb2⟩
          case round =>
            obtain ⟨i, hi, rfl, hbel⟩ := hrel
            by_cases hlt : i < N
            · have hbel0 := hbel
              have di1 : decide ((i : Int) < (N : Int)) = true := by simp; omega
              have di2 : decide (i < N) = true := by simp; omega
              go_wp2
              go_loopw [41] (fun q wr => ∃ (k : Nat), k ≤ N ∧ q = .int .i64 k ∧ Below wN.heap.size wN wr) (fun q _ => N - (intOf q).toNat)
              case atStart => exact ⟨0, Nat.zero_le _, rfl, hbel0⟩
              case round =>
                clear hbel hbel0 hb2
                obtain ⟨k, hk, rfl, hbel⟩ := hrel
                by_cases hlt2 : k < N
                · obtain ⟨x, hx⟩ : ∃ x, L[i]? = some x := ⟨_, List.getElem?_eq_getElem (by omega)⟩
                  obtain ⟨z, hz'⟩ : ∃ z, L[k]? = some z := ⟨_, List.getElem?_eq_getElem (by omega)⟩
                  have HX := Lib.hid (show (L.map TI.t)[i]? = some x.t by rw [List.getElem?_map, hx]; rfl)
                  have HZZ := Lib.hid (show (L.map TI.t)[k]? = some z.t by rw [List.getElem?_map, hz']; rfl)
                  have hxz : ∃ b off, A = some ⟨b, off, none⟩ ∧ ∀ W, Below wN.heap.size wN W → (W.cell? ⟨b, off + i * 8, none⟩ = some (.int .i64 x.t.cl) ∧ W.cell? ⟨b, off + i * 8 + 1, none⟩ = some (.int .u64 x.t.sn) ∧ W.cell? ⟨b, off + i * 8 + 2, none⟩ = some (.int .i64 x.t.st) ∧ W.cell? ⟨b, off + i * 8 + 3, none⟩ = some (.int .u64 x.t.ts) ∧ W.cell? ⟨b, off + i * 8 + 4, none⟩ = some (.int .i64 x.t.dc) ∧ W.cell? ⟨b, off + i * 8 + 5, none⟩ = some (.int .i64 x.t.tx) ∧ W.cell? ⟨b, off + i * 8 + 6, none⟩ = some (.slice x.R x.t.rds.length x.rc) ∧ W.cell? ⟨b, off + i * 8 + 7, none⟩ = some (.slice x.D x.t.wrs.length x.dc)) ∧ W.cell? ⟨b, off + k * 8, none⟩ = some (.int .i64 z.t.cl) ∧ W.cell? ⟨b, off + k * 8 + 1, none⟩ = some (.int .u64 z.t.sn) ∧ W.cell? ⟨b, off + k * 8 + 2, none⟩ = some (.int .i64 z.t.st) ∧ W.cell? ⟨b, off + k * 8 + 3, none⟩ = some (.int .u64 z.t.ts) ∧ W.cell? ⟨b, off + k * 8 + 4, none⟩ = some (.int .i64 z.t.dc) ∧ W.cell? ⟨b, off + k * 8 + 5, none⟩ = some (.int .i64 z.t.tx) ∧ W.cell? ⟨b, off + k * 8 + 6, none⟩ = some (.slice z.R z.t.rds.length z.rc) ∧ W.cell? ⟨b, off + k * 8 + 7, none⟩ = some (.slice z.D z.t.wrs.length z.dc) := by
                    obtain ⟨b, off, he, -⟩ := get_tx (HLC.out _ (own_refl _)) hx
                    refine ⟨b, off, he, fun W hW => ⟨?_, ?_⟩⟩
                    · obtain ⟨b', off', he', h⟩ := get_tx (HLC.out W hW) hx
                      rw [he] at he'
                      obtain ⟨rfl, rfl⟩ : b = b' ∧ off = off' := by injection he' with e; injection e with e1 e2; exact ⟨e1, e2⟩
                      exact h
                    · obtain ⟨b', off', he', h⟩ := get_tx (HLC.out W hW) hz'
                      rw [he] at he'
                      obtain ⟨rfl, rfl⟩ : b = b' ∧ off = off' := by injection he' with e; injection e with e1 e2; exact ⟨e1, e2⟩
                      exact h
                  obtain ⟨b, off, hAe, hxz⟩ := hxz
                  have HXZ := Lib.hid hxz
                  subst hAe
                  have g1 : (0 : Int) ≤ (i : Int) := by omega
                  have g2 : (i : Int) < (N : Int) := by omega
                  have g3 : (0 : Int) ≤ (k : Int) := by omega
                  have g4 : (k : Int) < (N : Int) := by omega
                  have dk1 : decide ((k : Int) < (N : Int)) = true := by simp; omega
                  have dk2 : decide (k < N) = true := by simp; omega
                  clear hx hz' hxz
                  obtain ⟨s, hs⟩ : ∃ s, sees (L.map TI.t) (i : Int) (k : Int) = s := ⟨_, rfl⟩
                  have HS := Lib.hid hs
                  clear hs
                  cases s
                  · go_wp2_with (go_at_call 13; refine (hsees_any _ N cp L _ hN (HLC.out _ hbel) i k).mono ?_; rintro e w3 ⟨rfl, hb3⟩; rw [HS.out])
                    have hbelx := below_own hbel hb3
                    clear hbel hb3
                    obtain ⟨wr, rfl⟩ : ∃ w0, w0 = w3 := ⟨_, rfl⟩
                    have hbel := hbelx
                    clear hbelx
                    obtain ⟨⟨x0, x1, x2, x3, x4, x5, x6, x7⟩, ⟨z0, z1, z2, z3, z4, z5, z6, z7⟩⟩ := HXZ.out wr hbel
                    by_cases hki : k < i
                    · have dk : decide ((k : Int) < (i : Int)) = true := by simp; omega
                      have dk' : (k : Int) < (i : Int) := by omega
                      obtain ⟨u, hu⟩ : ∃ u, z.t.has = u := ⟨_, rfl⟩
                      have HU := Lib.hid hu
                      cases u
                      · clear hu
                        go_wp2_with fail
                        apply region_cut (fun W' => Below wr.heap.size wr W')
                        · intro hK'
                          refine region_plain (N := 23) rfl (by kernel_rfl) ?_
                          refine wpAny_take (i := 0) (v := .int .i64 k) rfl (by kernel_rfl) (by kernel_rfl) (by kernel_rfl) (fun _ _ _ h => h) (Or.inl ⟨by kernel_rfl, fun W => by go_simp⟩) ?_
                          refine wpAny_take (i := 1) (v := .int .i64 i) rfl (by kernel_rfl) (by kernel_rfl) (by kernel_rfl) (fun _ _ _ h => h) (Or.inl ⟨by kernel_rfl, fun W => by go_simp⟩) ?_
                          refine wpAny_take (i := 2) (v := .bool true) rfl (by kernel_rfl) (by kernel_rfl) (by kernel_rfl) (fun _ _ _ h => h) (Or.inl ⟨by kernel_rfl, fun W => by go_simp⟩) ?_
                          refine wpAny_take (i := 3) (v := .bool true) rfl (by kernel_rfl) (by kernel_rfl) (by kernel_rfl) (fun _ _ _ h => h) (Or.inl ⟨by kernel_rfl, fun W => by go_simp⟩) ?_
                          refine wpAny_take (i := 4) (v := .slice (some ⟨b, off, none⟩) N cp) rfl (by kernel_rfl) (by kernel_rfl) (by kernel_rfl) (fun _ _ _ h => h) (Or.inl ⟨by kernel_rfl, fun W => by go_simp⟩) ?_
                          refine wpAny_take (i := 5) (v := .int .i64 k) rfl (by kernel_rfl) (by kernel_rfl) (by kernel_rfl) (fun _ _ _ h => h) (Or.inl ⟨by kernel_rfl, fun W => by go_simp⟩) ?_
                          refine wpAny_take (i := 6) (v := .pointer (some ⟨b, off + k * 8, none⟩)) rfl (by kernel_rfl) (by kernel_rfl) (by kernel_rfl) (fun _ _ _ h => h) (Or.inl ⟨by kernel_rfl, fun W => by go_simp⟩) ?_
                          refine wpAny_ready (rs := [7]) (by kernel_rfl) (by simp) (AllReady.cons rfl (fun K hK => ?_) AllReady.nil)
                          go_simp
                          refine hK _ _ ?_
                          clear hK K
                          refine wpAny_ready (rs := [8]) (by kernel_rfl) (by simp) (AllReady.cons rfl (fun K hK => ?_) AllReady.nil)
                          go_simp
                          refine (hhas_any z _).mono ?_
                          rintro e w1 ⟨rfl, hb1⟩
                          rw [HU.out]
                          have ho1 : Below wr.heap.size wr w1 := below_own (own_drew (own_refl _)) hb1
                          have x0_1 := cell_on ho1 x0
                          have x1_1 := cell_on ho1 x1
                          have x2_1 := cell_on ho1 x2
                          have x3_1 := cell_on ho1 x3
                          have x4_1 := cell_on ho1 x4
                          have x5_1 := cell_on ho1 x5
                          have x6_1 := cell_on ho1 x6
                          have x7_1 := cell_on ho1 x7
                          have z0_1 := cell_on ho1 z0
                          have z1_1 := cell_on ho1 z1
                          have z2_1 := cell_on ho1 z2
                          have z3_1 := cell_on ho1 z3
                          have z4_1 := cell_on ho1 z4
                          have z5_1 := cell_on ho1 z5
                          have z6_1 := cell_on ho1 z6
                          have z7_1 := cell_on ho1 z7
                          refine hK _ _ ?_
                          clear hK K
                          refine wpAny_take (i := 9) (v := .bool false) rfl (by kernel_rfl) (by kernel_rfl) (by kernel_rfl) (fun _ _ _ h => h) (Or.inl ⟨by kernel_rfl, fun W => by go_simp⟩) ?_
                          refine wpAny_take (i := 10) (v := .bool false) rfl (by kernel_rfl) (by kernel_rfl) (by kernel_rfl) (fun _ _ _ h => h) (Or.inl ⟨by kernel_rfl, fun W => by go_simp⟩) ?_
                          refine wpAny_take (i := 11) (v := undef) rfl (by kernel_rfl) (by kernel_rfl) (by kernel_rfl) (fun _ _ _ h => h) (Or.inr ⟨by kernel_rfl, rfl⟩) ?_
                          refine wpAny_take (i := 12) (v := undef) rfl (by kernel_rfl) (by kernel_rfl) (by kernel_rfl) (fun _ _ _ h => h) (Or.inr ⟨by kernel_rfl, rfl⟩) ?_
                          refine wpAny_take (i := 13) (v := undef) rfl (by kernel_rfl) (by kernel_rfl) (by kernel_rfl) (fun _ _ _ h => h) (Or.inr ⟨by kernel_rfl, rfl⟩) ?_
                          refine wpAny_take (i := 14) (v := undef) rfl (by kernel_rfl) (by kernel_rfl) (by kernel_rfl) (fun _ _ _ h => h) (Or.inr ⟨by kernel_rfl, rfl⟩) ?_
                          refine wpAny_take (i := 15) (v := undef) rfl (by kernel_rfl) (by kernel_rfl) (by kernel_rfl) (fun _ _ _ h => h) (Or.inr ⟨by kernel_rfl, rfl⟩) ?_
                          refine wpAny_take (i := 16) (v := undef) rfl (by kernel_rfl) (by kernel_rfl) (by kernel_rfl) (fun _ _ _ h => h) (Or.inr ⟨by kernel_rfl, rfl⟩) ?_
                          refine wpAny_take (i := 17) (v := undef) rfl (by kernel_rfl) (by kernel_rfl) (by kernel_rfl) (fun _ _ _ h => h) (Or.inr ⟨by kernel_rfl, rfl⟩) ?_
                          refine wpAny_take (i := 18) (v := undef) rfl (by kernel_rfl) (by kernel_rfl) (by kernel_rfl) (fun _ _ _ h => h) (Or.inr ⟨by kernel_rfl, rfl⟩) ?_
                          refine wpAny_take (i := 19) (v := undef) rfl (by kernel_rfl) (by kernel_rfl) (by kernel_rfl) (fun _ _ _ h => h) (Or.inr ⟨by kernel_rfl, rfl⟩) ?_
                          refine wpAny_take (i := 20) (v := undef) rfl (by kernel_rfl) (by kernel_rfl) (by kernel_rfl) (fun _ _ _ h => h) (Or.inr ⟨by kernel_rfl, rfl⟩) ?_
                          refine wpAny_take (i := 21) (v := undef) rfl (by kernel_rfl) (by kernel_rfl) (by kernel_rfl) (fun _ _ _ h => h) (Or.inr ⟨by kernel_rfl, rfl⟩) ?_
                          refine wpAny_take (i := 22) (v := .bool false) rfl (by kernel_rfl) (by kernel_rfl) (by kernel_rfl) (fun _ _ _ h => h) (Or.inl ⟨by kernel_rfl, fun W => by go_simp⟩) ?_
                          refine wpAny_done (by kernel_rfl) ?_ _
                          simp only [onlyN]
                          go_simp
                          exact hK' _ ho1
                        · intro wX hbX
                          go_wp2
                          go_roundw
                          case rel => exact ⟨k + 1, by omega, by go_num, below_own hbel hbX⟩
                          case measure => simp [intOf]; omega

                      · have hcl : (z.t.cl == x.t.cl) = false := not_seen HX.out HZZ.out HS.out hki hu
                        clear hu
                        go_wp2_with fail
                        apply region_cut (fun W' => Below wr.heap.size wr W')
                        · intro hK'
                          refine region_plain (N := 23) rfl (by kernel_rfl) ?_
                          refine wpAny_take (i := 0) (v := .int .i64 k) rfl (by kernel_rfl) (by kernel_rfl) (by kernel_rfl) (fun _ _ _ h => h) (Or.inl ⟨by kernel_rfl, fun W => by go_simp⟩) ?_
                          refine wpAny_take (i := 1) (v := .int .i64 i) rfl (by kernel_rfl) (by kernel_rfl) (by kernel_rfl) (fun _ _ _ h => h) (Or.inl ⟨by kernel_rfl, fun W => by go_simp⟩) ?_
                          refine wpAny_take (i := 2) (v := .bool true) rfl (by kernel_rfl) (by kernel_rfl) (by kernel_rfl) (fun _ _ _ h => h) (Or.inl ⟨by kernel_rfl, fun W => by go_simp⟩) ?_
                          refine wpAny_take (i := 3) (v := .bool true) rfl (by kernel_rfl) (by kernel_rfl) (by kernel_rfl) (fun _ _ _ h => h) (Or.inl ⟨by kernel_rfl, fun W => by go_simp⟩) ?_
                          refine wpAny_take (i := 4) (v := .slice (some ⟨b, off, none⟩) N cp) rfl (by kernel_rfl) (by kernel_rfl) (by kernel_rfl) (fun _ _ _ h => h) (Or.inl ⟨by kernel_rfl, fun W => by go_simp⟩) ?_
                          refine wpAny_take (i := 5) (v := .int .i64 k) rfl (by kernel_rfl) (by kernel_rfl) (by kernel_rfl) (fun _ _ _ h => h) (Or.inl ⟨by kernel_rfl, fun W => by go_simp⟩) ?_
                          refine wpAny_take (i := 6) (v := .pointer (some ⟨b, off + k * 8, none⟩)) rfl (by kernel_rfl) (by kernel_rfl) (by kernel_rfl) (fun _ _ _ h => h) (Or.inl ⟨by kernel_rfl, fun W => by go_simp⟩) ?_
                          refine wpAny_ready (rs := [7]) (by kernel_rfl) (by simp) (AllReady.cons rfl (fun K hK => ?_) AllReady.nil)
                          go_simp
                          refine hK _ _ ?_
                          clear hK K
                          refine wpAny_ready (rs := [8]) (by kernel_rfl) (by simp) (AllReady.cons rfl (fun K hK => ?_) AllReady.nil)
                          go_simp
                          refine (hhas_any z _).mono ?_
                          rintro e w1 ⟨rfl, hb1⟩
                          rw [HU.out]
                          have ho1 : Below wr.heap.size wr w1 := below_own (own_drew (own_refl _)) hb1
                          have x0_1 := cell_on ho1 x0
                          have x1_1 := cell_on ho1 x1
                          have x2_1 := cell_on ho1 x2
                          have x3_1 := cell_on ho1 x3
                          have x4_1 := cell_on ho1 x4
                          have x5_1 := cell_on ho1 x5
                          have x6_1 := cell_on ho1 x6
                          have x7_1 := cell_on ho1 x7
                          have z0_1 := cell_on ho1 z0
                          have z1_1 := cell_on ho1 z1
                          have z2_1 := cell_on ho1 z2
                          have z3_1 := cell_on ho1 z3
                          have z4_1 := cell_on ho1 z4
                          have z5_1 := cell_on ho1 z5
                          have z6_1 := cell_on ho1 z6
                          have z7_1 := cell_on ho1 z7
                          refine hK _ _ ?_
                          clear hK K
                          refine wpAny_take (i := 9) (v := .bool true) rfl (by kernel_rfl) (by kernel_rfl) (by kernel_rfl) (fun _ _ _ h => h) (Or.inl ⟨by kernel_rfl, fun W => by go_simp⟩) ?_
                          refine wpAny_take (i := 10) (v := .bool true) rfl (by kernel_rfl) (by kernel_rfl) (by kernel_rfl) (fun _ _ _ h => h) (Or.inl ⟨by kernel_rfl, fun W => by go_simp⟩) ?_
                          refine wpAny_take (i := 11) (v := .slice (some ⟨b, off, none⟩) N cp) rfl (by kernel_rfl) (by kernel_rfl) (by kernel_rfl) (fun _ _ _ h => h) (Or.inl ⟨by kernel_rfl, fun W => by go_simp⟩) ?_
                          refine wpAny_take (i := 12) (v := .int .i64 k) rfl (by kernel_rfl) (by kernel_rfl) (by kernel_rfl) (fun _ _ _ h => h) (Or.inl ⟨by kernel_rfl, fun W => by go_simp⟩) ?_
                          refine wpAny_take (i := 13) (v := .pointer (some ⟨b, off + k * 8, none⟩)) rfl (by kernel_rfl) (by kernel_rfl) (by kernel_rfl) (fun _ _ _ h => h) (Or.inl ⟨by kernel_rfl, fun W => by go_simp⟩) ?_
                          refine wpAny_take (i := 14) (v := .pointer (some ⟨b, off + k * 8, none⟩)) rfl (by kernel_rfl) (by kernel_rfl) (by kernel_rfl) (fun _ _ _ h => h) (Or.inl ⟨by kernel_rfl, fun W => by go_simp⟩) ?_
                          refine wpAny_take (i := 16) (v := .slice (some ⟨b, off, none⟩) N cp) rfl (by kernel_rfl) (by kernel_rfl) (by kernel_rfl) (fun _ _ _ h => h) (Or.inl ⟨by kernel_rfl, fun W => by go_simp⟩) ?_
                          refine wpAny_take (i := 17) (v := .int .i64 i) rfl (by kernel_rfl) (by kernel_rfl) (by kernel_rfl) (fun _ _ _ h => h) (Or.inl ⟨by kernel_rfl, fun W => by go_simp⟩) ?_
                          refine wpAny_take (i := 18) (v := .pointer (some ⟨b, off + i * 8, none⟩)) rfl (by kernel_rfl) (by kernel_rfl) (by kernel_rfl) (fun _ _ _ h => h) (Or.inl ⟨by kernel_rfl, fun W => by go_simp⟩) ?_
                          refine wpAny_take (i := 19) (v := .pointer (some ⟨b, off + i * 8, none⟩)) rfl (by kernel_rfl) (by kernel_rfl) (by kernel_rfl) (fun _ _ _ h => h) (Or.inl ⟨by kernel_rfl, fun W => by go_simp⟩) ?_
                          apply cut2
                          · intro hS
                            refine wpAny_ready (rs := [15, 20]) (by kernel_rfl) (by simp) (AllReady.cons rfl (fun K hK => ?_) (AllReady.cons rfl (fun K hK => ?_) AllReady.nil))
                            · go_simp
                              refine hK _ _ ?_
                              clear hK K
                              refine wpAny_ready (rs := [20]) (by kernel_rfl) (by simp) (AllReady.cons rfl (fun K hK => ?_) AllReady.nil)
                              go_simp
                              refine hK _ _ ?_
                              clear hK K
                              exact hS
                            · go_simp
                              refine hK _ _ ?_
                              clear hK K
                              refine wpAny_ready (rs := [15]) (by kernel_rfl) (by simp) (AllReady.cons rfl (fun K hK => ?_) AllReady.nil)
                              go_simp
                              refine hK _ _ ?_
                              clear hK K
                              exact wpAny_swap hS (by kernel_rfl)
                          · refine wpAny_take (i := 21) (v := .bool false) rfl (by kernel_rfl) (by kernel_rfl) (by kernel_rfl) (fun _ _ _ h => h) (Or.inl ⟨by kernel_rfl, fun W => by go_simp⟩) ?_
                            refine wpAny_take (i := 22) (v := .bool false) rfl (by kernel_rfl) (by kernel_rfl) (by kernel_rfl) (fun _ _ _ h => h) (Or.inl ⟨by kernel_rfl, fun W => by go_simp⟩) ?_
                            refine wpAny_done (by kernel_rfl) ?_ _
                            simp only [onlyN]
                            go_simp
                            exact hK' _ ho1
                        · intro wX hbX
                          go_wp2
                          go_roundw
                          case rel => exact ⟨k + 1, by omega, by go_num, below_own hbel hbX⟩
                          case measure => simp [intOf]; omega

                    · have dk : decide ((k : Int) < (i : Int)) = false := by simp; omega
                      have dk' : ¬ (k : Int) < (i : Int) := by omega
                      go_wp2_with fail
                      apply region_cut (fun W' => Below wr.heap.size wr W')
                      · intro hK'
                        refine region_plain (N := 23) rfl (by kernel_rfl) ?_
                        refine wpAny_take (i := 0) (v := .int .i64 k) rfl (by kernel_rfl) (by kernel_rfl) (by kernel_rfl) (fun _ _ _ h => h) (Or.inl ⟨by kernel_rfl, fun W => by go_simp⟩) ?_
                        refine wpAny_take (i := 1) (v := .int .i64 i) rfl (by kernel_rfl) (by kernel_rfl) (by kernel_rfl) (fun _ _ _ h => h) (Or.inl ⟨by kernel_rfl, fun W => by go_simp⟩) ?_
                        refine wpAny_take (i := 2) (v := .bool false) rfl (by kernel_rfl) (by kernel_rfl) (by kernel_rfl) (fun _ _ _ h => h) (Or.inl ⟨by kernel_rfl, fun W => by go_simp⟩) ?_
                        refine wpAny_take (i := 3) (v := .bool false) rfl (by kernel_rfl) (by kernel_rfl) (by kernel_rfl) (fun _ _ _ h => h) (Or.inl ⟨by kernel_rfl, fun W => by go_simp⟩) ?_
                        refine wpAny_take (i := 4) (v := undef) rfl (by kernel_rfl) (by kernel_rfl) (by kernel_rfl) (fun _ _ _ h => h) (Or.inr ⟨by kernel_rfl, rfl⟩) ?_
                        refine wpAny_take (i := 5) (v := undef) rfl (by kernel_rfl) (by kernel_rfl) (by kernel_rfl) (fun _ _ _ h => h) (Or.inr ⟨by kernel_rfl, rfl⟩) ?_
                        refine wpAny_take (i := 6) (v := undef) rfl (by kernel_rfl) (by kernel_rfl) (by kernel_rfl) (fun _ _ _ h => h) (Or.inr ⟨by kernel_rfl, rfl⟩) ?_
                        refine wpAny_take (i := 7) (v := undef) rfl (by kernel_rfl) (by kernel_rfl) (by kernel_rfl) (fun _ _ _ h => h) (Or.inr ⟨by kernel_rfl, rfl⟩) ?_
                        refine wpAny_take (i := 8) (v := undef) rfl (by kernel_rfl) (by kernel_rfl) (by kernel_rfl) (fun _ _ _ h => h) (Or.inr ⟨by kernel_rfl, rfl⟩) ?_
                        refine wpAny_take (i := 9) (v := .bool false) rfl (by kernel_rfl) (by kernel_rfl) (by kernel_rfl) (fun _ _ _ h => h) (Or.inl ⟨by kernel_rfl, fun W => by go_simp⟩) ?_
                        refine wpAny_take (i := 10) (v := .bool false) rfl (by kernel_rfl) (by kernel_rfl) (by kernel_rfl) (fun _ _ _ h => h) (Or.inl ⟨by kernel_rfl, fun W => by go_simp⟩) ?_
                        refine wpAny_take (i := 11) (v := undef) rfl (by kernel_rfl) (by kernel_rfl) (by kernel_rfl) (fun _ _ _ h => h) (Or.inr ⟨by kernel_rfl, rfl⟩) ?_
                        refine wpAny_take (i := 12) (v := undef) rfl (by kernel_rfl) (by kernel_rfl) (by kernel_rfl) (fun _ _ _ h => h) (Or.inr ⟨by kernel_rfl, rfl⟩) ?_
                        refine wpAny_take (i := 13) (v := undef) rfl (by kernel_rfl) (by kernel_rfl) (by kernel_rfl) (fun _ _ _ h => h) (Or.inr ⟨by kernel_rfl, rfl⟩) ?_
                        refine wpAny_take (i := 14) (v := undef) rfl (by kernel_rfl) (by kernel_rfl) (by kernel_rfl) (fun _ _ _ h => h) (Or.inr ⟨by kernel_rfl, rfl⟩) ?_
                        refine wpAny_take (i := 15) (v := undef) rfl (by kernel_rfl) (by kernel_rfl) (by kernel_rfl) (fun _ _ _ h => h) (Or.inr ⟨by kernel_rfl, rfl⟩) ?_
                        refine wpAny_take (i := 16) (v := undef) rfl (by kernel_rfl) (by kernel_rfl) (by kernel_rfl) (fun _ _ _ h => h) (Or.inr ⟨by kernel_rfl, rfl⟩) ?_
                        refine wpAny_take (i := 17) (v := undef) rfl (by kernel_rfl) (by kernel_rfl) (by kernel_rfl) (fun _ _ _ h => h) (Or.inr ⟨by kernel_rfl, rfl⟩) ?_
                        refine wpAny_take (i := 18) (v := undef) rfl (by kernel_rfl) (by kernel_rfl) (by kernel_rfl) (fun _ _ _ h => h) (Or.inr ⟨by kernel_rfl, rfl⟩) ?_
                        refine wpAny_take (i := 19) (v := undef) rfl (by kernel_rfl) (by kernel_rfl) (by kernel_rfl) (fun _ _ _ h => h) (Or.inr ⟨by kernel_rfl, rfl⟩) ?_
                        refine wpAny_take (i := 20) (v := undef) rfl (by kernel_rfl) (by kernel_rfl) (by kernel_rfl) (fun _ _ _ h => h) (Or.inr ⟨by kernel_rfl, rfl⟩) ?_
                        refine wpAny_take (i := 21) (v := undef) rfl (by kernel_rfl) (by kernel_rfl) (by kernel_rfl) (fun _ _ _ h => h) (Or.inr ⟨by kernel_rfl, rfl⟩) ?_
                        refine wpAny_take (i := 22) (v := .bool false) rfl (by kernel_rfl) (by kernel_rfl) (by kernel_rfl) (fun _ _ _ h => h) (Or.inl ⟨by kernel_rfl, fun W => by go_simp⟩) ?_
                        refine wpAny_done (by kernel_rfl) ?_ _
                        simp only [onlyN]
                        go_simp
                        exact hK' _ (own_drew (own_refl _))
                      · intro wX hbX
                        go_wp2
                        go_roundw
                        case rel => exact ⟨k + 1, by omega, by go_num, below_own hbel hbX⟩
                        case measure => simp [intOf]; omega

                  · go_wp2_with (go_at_call 13; refine (hsees_any _ N cp L _ hN (HLC.out _ hbel) i k).mono ?_; rintro e w3 ⟨rfl, hb3⟩; rw [HS.out])
                    have hbelx := below_own hbel hb3
                    clear hbel hb3
                    obtain ⟨wr, rfl⟩ : ∃ w0, w0 = w3 := ⟨_, rfl⟩
                    have hbel := hbelx
                    clear hbelx
                    obtain ⟨⟨x0, x1, x2, x3, x4, x5, x6, x7⟩, ⟨z0, z1, z2, z3, z4, z5, z6, z7⟩⟩ := HXZ.out wr hbel
                    have HNS := Lib.hid (seen_not hg.out HS.out)
                    obtain ⟨u, hu⟩ : ∃ u, x.t.has = u := ⟨_, rfl⟩
                    have HU := Lib.hid hu
                    cases u
                    · clear hu
                      go_wp2_with fail
                      apply region_cut (fun W' => Below wr.heap.size wr W')
                      · intro hK'
                        refine region_plain (N := 25) rfl (by kernel_rfl) ?_
                        refine wpAny_take (i := 0) (v := .slice (some ⟨b, off, none⟩) N cp) rfl (by kernel_rfl) (by kernel_rfl) (by kernel_rfl) (fun _ _ _ h => h) (Or.inl ⟨by kernel_rfl, fun W => by go_simp⟩) ?_
                        refine wpAny_take (i := 1) (v := .int .i64 i) rfl (by kernel_rfl) (by kernel_rfl) (by kernel_rfl) (fun _ _ _ h => h) (Or.inl ⟨by kernel_rfl, fun W => by go_simp⟩) ?_
                        refine wpAny_take (i := 2) (v := .pointer (some ⟨b, off + i * 8, none⟩)) rfl (by kernel_rfl) (by kernel_rfl) (by kernel_rfl) (fun _ _ _ h => h) (Or.inl ⟨by kernel_rfl, fun W => by go_simp⟩) ?_
                        refine wpAny_ready (rs := [3]) (by kernel_rfl) (by simp) (AllReady.cons rfl (fun K hK => ?_) AllReady.nil)
                        go_simp
                        refine hK _ _ ?_
                        clear hK K
                        refine wpAny_ready (rs := [4]) (by kernel_rfl) (by simp) (AllReady.cons rfl (fun K hK => ?_) AllReady.nil)
                        go_simp
                        refine (hhas_any x _).mono ?_
                        rintro e w1 ⟨rfl, hb1⟩
                        rw [HU.out]
                        have ho1 : Below wr.heap.size wr w1 := below_own (own_drew (own_refl _)) hb1
                        have x0_1 := cell_on ho1 x0
                        have x1_1 := cell_on ho1 x1
                        have x2_1 := cell_on ho1 x2
                        have x3_1 := cell_on ho1 x3
                        have x4_1 := cell_on ho1 x4
                        have x5_1 := cell_on ho1 x5
                        have x6_1 := cell_on ho1 x6
                        have x7_1 := cell_on ho1 x7
                        have z0_1 := cell_on ho1 z0
                        have z1_1 := cell_on ho1 z1
                        have z2_1 := cell_on ho1 z2
                        have z3_1 := cell_on ho1 z3
                        have z4_1 := cell_on ho1 z4
                        have z5_1 := cell_on ho1 z5
                        have z6_1 := cell_on ho1 z6
                        have z7_1 := cell_on ho1 z7
                        refine hK _ _ ?_
                        clear hK K
                        refine wpAny_take (i := 5) (v := .bool false) rfl (by kernel_rfl) (by kernel_rfl) (by kernel_rfl) (fun _ _ _ h => h) (Or.inl ⟨by kernel_rfl, fun W => by go_simp⟩) ?_
                        refine wpAny_take (i := 6) (v := undef) rfl (by kernel_rfl) (by kernel_rfl) (by kernel_rfl) (fun _ _ _ h => h) (Or.inr ⟨by kernel_rfl, rfl⟩) ?_
                        refine wpAny_take (i := 7) (v := undef) rfl (by kernel_rfl) (by kernel_rfl) (by kernel_rfl) (fun _ _ _ h => h) (Or.inr ⟨by kernel_rfl, rfl⟩) ?_
                        refine wpAny_take (i := 8) (v := undef) rfl (by kernel_rfl) (by kernel_rfl) (by kernel_rfl) (fun _ _ _ h => h) (Or.inr ⟨by kernel_rfl, rfl⟩) ?_
                        refine wpAny_take (i := 9) (v := undef) rfl (by kernel_rfl) (by kernel_rfl) (by kernel_rfl) (fun _ _ _ h => h) (Or.inr ⟨by kernel_rfl, rfl⟩) ?_
                        refine wpAny_take (i := 10) (v := undef) rfl (by kernel_rfl) (by kernel_rfl) (by kernel_rfl) (fun _ _ _ h => h) (Or.inr ⟨by kernel_rfl, rfl⟩) ?_
                        refine wpAny_take (i := 11) (v := undef) rfl (by kernel_rfl) (by kernel_rfl) (by kernel_rfl) (fun _ _ _ h => h) (Or.inr ⟨by kernel_rfl, rfl⟩) ?_
                        refine wpAny_take (i := 12) (v := undef) rfl (by kernel_rfl) (by kernel_rfl) (by kernel_rfl) (fun _ _ _ h => h) (Or.inr ⟨by kernel_rfl, rfl⟩) ?_
                        refine wpAny_take (i := 13) (v := undef) rfl (by kernel_rfl) (by kernel_rfl) (by kernel_rfl) (fun _ _ _ h => h) (Or.inr ⟨by kernel_rfl, rfl⟩) ?_
                        refine wpAny_take (i := 14) (v := undef) rfl (by kernel_rfl) (by kernel_rfl) (by kernel_rfl) (fun _ _ _ h => h) (Or.inr ⟨by kernel_rfl, rfl⟩) ?_
                        refine wpAny_take (i := 15) (v := undef) rfl (by kernel_rfl) (by kernel_rfl) (by kernel_rfl) (fun _ _ _ h => h) (Or.inr ⟨by kernel_rfl, rfl⟩) ?_
                        refine wpAny_take (i := 16) (v := undef) rfl (by kernel_rfl) (by kernel_rfl) (by kernel_rfl) (fun _ _ _ h => h) (Or.inr ⟨by kernel_rfl, rfl⟩) ?_
                        refine wpAny_take (i := 17) (v := undef) rfl (by kernel_rfl) (by kernel_rfl) (by kernel_rfl) (fun _ _ _ h => h) (Or.inr ⟨by kernel_rfl, rfl⟩) ?_
                        refine wpAny_take (i := 18) (v := .bool false) rfl (by kernel_rfl) (by kernel_rfl) (by kernel_rfl) (fun _ _ _ h => h) (Or.inl ⟨by kernel_rfl, fun W => by go_simp⟩) ?_
                        refine wpAny_take (i := 19) (v := .bool false) rfl (by kernel_rfl) (by kernel_rfl) (by kernel_rfl) (fun _ _ _ h => h) (Or.inl ⟨by kernel_rfl, fun W => by go_simp⟩) ?_
                        refine wpAny_take (i := 20) (v := .slice (some ⟨b, off, none⟩) N cp) rfl (by kernel_rfl) (by kernel_rfl) (by kernel_rfl) (fun _ _ _ h => h) (Or.inl ⟨by kernel_rfl, fun W => by go_simp⟩) ?_
                        refine wpAny_take (i := 21) (v := .int .i64 k) rfl (by kernel_rfl) (by kernel_rfl) (by kernel_rfl) (fun _ _ _ h => h) (Or.inl ⟨by kernel_rfl, fun W => by go_simp⟩) ?_
                        refine wpAny_take (i := 22) (v := .int .i64 i) rfl (by kernel_rfl) (by kernel_rfl) (by kernel_rfl) (fun _ _ _ h => h) (Or.inl ⟨by kernel_rfl, fun W => by go_simp⟩) ?_
                        refine wpAny_ready (rs := [23]) (by kernel_rfl) (by simp) (AllReady.cons rfl (fun K hK => ?_) AllReady.nil)
                        go_simp
                        refine (hsees_any _ N cp L _ hN (HLC.out _ (below_own hbel (ho1))) k i).mono ?_
                        rintro e w3 ⟨rfl, hb3⟩
                        rw [HNS.out]
                        have ho3 : Below wr.heap.size wr w3 := below_own ho1 hb3
                        refine hK _ _ ?_
                        clear hK K
                        refine wpAny_take (i := 24) (v := .bool false) rfl (by kernel_rfl) (by kernel_rfl) (by kernel_rfl) (fun _ _ _ h => h) (Or.inl ⟨by kernel_rfl, fun W => by go_simp⟩) ?_
                        refine wpAny_done (by kernel_rfl) ?_ _
                        simp only [onlyN]
                        go_simp
                        exact hK' _ ho3
                      · intro wX hbX
                        have hbelX := below_own hbel hbX
                        clear hbX hbel x0 x1 x2 x3 x4 x5 x6 x7 z0 z1 z2 z3 z4 z5 z6 z7
                        go_wp2
                        go_loopw [99] (fun q wr => ∃ (o : Nat), o ≤ N ∧ q = .int .i64 o ∧ Below wN.heap.size wN wr) (fun q _ => N - (intOf q).toNat)
                        case atStart => exact ⟨0, Nat.zero_le _, rfl, hbelX⟩
                        case round =>
                          clear hbelX
                          obtain ⟨o, ho, rfl, hbel⟩ := hrel
                          by_cases hlt3 : o < N
                          · have do1 : decide ((o : Int) < (N : Int)) = true := by simp; omega
                            have do2 : decide (o < N) = true := by simp; omega
                            cases hs2 : sees (L.map TI.t) (k : Int) (o : Int)
                            · have HS2 := Lib.hid hs2
                              clear hs2
                              go_wp2_with (go_at_call 13; refine (hsees_any _ N cp L _ hN (HLC.out _ hbel) k o).mono ?_; rintro e w5 ⟨rfl, hb5⟩; rw [HS2.out])
                              go_roundw
                              case rel => exact ⟨o + 1, by omega, by go_num, below_own hbel hb5⟩
                              case measure => simp [intOf]; omega
                            · have HS2 := Lib.hid hs2
                              by_cases hoi : o = i
                              · have dn : ((o : Int) != (i : Int)) = false := by simp [hoi]
                                have dn' : ((o : Int) == (i : Int)) = true := by simp [hoi]
                                clear hs2 hoi
                                go_wp2_with (go_at_call 13; refine (hsees_any _ N cp L _ hN (HLC.out _ hbel) k o).mono ?_; rintro e w5 ⟨rfl, hb5⟩; rw [HS2.out])
                                go_roundw
                                case rel => exact ⟨o + 1, by omega, by go_num, below_own hbel hb5⟩
                                case measure => simp [intOf]; omega
                              · have dn : ((o : Int) != (i : Int)) = true := by simp; omega
                                have dn' : ((o : Int) == (i : Int)) = false := by simp; omega
                                have HS3 := Lib.hid (seen_on hg.out HS.out hs2 hoi)
                                have t1 : True := trivial
                                clear hs2 hoi
                                go_wp2_with (first
                                  | (go_at_call 13; have _t := t1; refine (hsees_any _ N cp L _ hN (HLC.out _ hbel) k o).mono ?_; rintro e w5 ⟨rfl, hb5⟩; rw [HS2.out]; clear t1)
                                  | (go_at_call 13; refine (hsees_any _ N cp L _ hN (HLC.out _ (below_own hbel hb5)) i o).mono ?_; rintro e w6 ⟨rfl, hb6⟩; rw [HS3.out]))
                                go_roundw
                                case rel => exact ⟨o + 1, by omega, by go_num, below_own (below_own hbel hb5) hb6⟩
                                case measure => simp [intOf]; omega
                          · obtain rfl : o = N := by omega
                            go_wp2
                            go_roundw
                            case rel => exact ⟨k + 1, by omega, by go_num, hbel⟩
                            case measure => simp [intOf]; omega

                    · have HLE := Lib.hid (seen_less hg.out HX.out HZZ.out HS.out hu)
                      clear hu
                      go_wp2_with fail
                      apply region_cut (fun W' => Below wr.heap.size wr W')
                      · intro hK'
                        refine region_plain (N := 25) rfl (by kernel_rfl) ?_
                        refine wpAny_take (i := 0) (v := .slice (some ⟨b, off, none⟩) N cp) rfl (by kernel_rfl) (by kernel_rfl) (by kernel_rfl) (fun _ _ _ h => h) (Or.inl ⟨by kernel_rfl, fun W => by go_simp⟩) ?_
                        refine wpAny_take (i := 1) (v := .int .i64 i) rfl (by kernel_rfl) (by kernel_rfl) (by kernel_rfl) (fun _ _ _ h => h) (Or.inl ⟨by kernel_rfl, fun W => by go_simp⟩) ?_
                        refine wpAny_take (i := 2) (v := .pointer (some ⟨b, off + i * 8, none⟩)) rfl (by kernel_rfl) (by kernel_rfl) (by kernel_rfl) (fun _ _ _ h => h) (Or.inl ⟨by kernel_rfl, fun W => by go_simp⟩) ?_
                        refine wpAny_ready (rs := [3]) (by kernel_rfl) (by simp) (AllReady.cons rfl (fun K hK => ?_) AllReady.nil)
                        go_simp
                        refine hK _ _ ?_
                        clear hK K
                        refine wpAny_ready (rs := [4]) (by kernel_rfl) (by simp) (AllReady.cons rfl (fun K hK => ?_) AllReady.nil)
                        go_simp
                        refine (hhas_any x _).mono ?_
                        rintro e w1 ⟨rfl, hb1⟩
                        rw [HU.out]
                        have ho1 : Below wr.heap.size wr w1 := below_own (own_drew (own_refl _)) hb1
                        have x0_1 := cell_on ho1 x0
                        have x1_1 := cell_on ho1 x1
                        have x2_1 := cell_on ho1 x2
                        have x3_1 := cell_on ho1 x3
                        have x4_1 := cell_on ho1 x4
                        have x5_1 := cell_on ho1 x5
                        have x6_1 := cell_on ho1 x6
                        have x7_1 := cell_on ho1 x7
                        have z0_1 := cell_on ho1 z0
                        have z1_1 := cell_on ho1 z1
                        have z2_1 := cell_on ho1 z2
                        have z3_1 := cell_on ho1 z3
                        have z4_1 := cell_on ho1 z4
                        have z5_1 := cell_on ho1 z5
                        have z6_1 := cell_on ho1 z6
                        have z7_1 := cell_on ho1 z7
                        refine hK _ _ ?_
                        clear hK K
                        refine wpAny_take (i := 5) (v := .bool true) rfl (by kernel_rfl) (by kernel_rfl) (by kernel_rfl) (fun _ _ _ h => h) (Or.inl ⟨by kernel_rfl, fun W => by go_simp⟩) ?_
                        refine wpAny_take (i := 6) (v := .slice (some ⟨b, off, none⟩) N cp) rfl (by kernel_rfl) (by kernel_rfl) (by kernel_rfl) (fun _ _ _ h => h) (Or.inl ⟨by kernel_rfl, fun W => by go_simp⟩) ?_
                        refine wpAny_take (i := 7) (v := .int .i64 k) rfl (by kernel_rfl) (by kernel_rfl) (by kernel_rfl) (fun _ _ _ h => h) (Or.inl ⟨by kernel_rfl, fun W => by go_simp⟩) ?_
                        refine wpAny_take (i := 8) (v := .pointer (some ⟨b, off + k * 8, none⟩)) rfl (by kernel_rfl) (by kernel_rfl) (by kernel_rfl) (fun _ _ _ h => h) (Or.inl ⟨by kernel_rfl, fun W => by go_simp⟩) ?_
                        refine wpAny_take (i := 9) (v := .pointer (some ⟨b, off + k * 8 + 3, none⟩)) rfl (by kernel_rfl) (by kernel_rfl) (by kernel_rfl) (fun _ _ _ h => h) (Or.inl ⟨by kernel_rfl, fun W => by go_simp⟩) ?_
                        refine wpAny_take (i := 11) (v := .slice (some ⟨b, off, none⟩) N cp) rfl (by kernel_rfl) (by kernel_rfl) (by kernel_rfl) (fun _ _ _ h => h) (Or.inl ⟨by kernel_rfl, fun W => by go_simp⟩) ?_
                        refine wpAny_take (i := 12) (v := .int .i64 i) rfl (by kernel_rfl) (by kernel_rfl) (by kernel_rfl) (fun _ _ _ h => h) (Or.inl ⟨by kernel_rfl, fun W => by go_simp⟩) ?_
                        refine wpAny_take (i := 13) (v := .pointer (some ⟨b, off + i * 8, none⟩)) rfl (by kernel_rfl) (by kernel_rfl) (by kernel_rfl) (fun _ _ _ h => h) (Or.inl ⟨by kernel_rfl, fun W => by go_simp⟩) ?_
                        refine wpAny_take (i := 14) (v := .pointer (some ⟨b, off + i * 8 + 3, none⟩)) rfl (by kernel_rfl) (by kernel_rfl) (by kernel_rfl) (fun _ _ _ h => h) (Or.inl ⟨by kernel_rfl, fun W => by go_simp⟩) ?_
                        apply cut2
                        · intro hS
                          refine wpAny_ready (rs := [10, 15]) (by kernel_rfl) (by simp) (AllReady.cons rfl (fun K hK => ?_) (AllReady.cons rfl (fun K hK => ?_) AllReady.nil))
                          · go_simp
                            refine hK _ _ ?_
                            clear hK K
                            refine wpAny_ready (rs := [15]) (by kernel_rfl) (by simp) (AllReady.cons rfl (fun K hK => ?_) AllReady.nil)
                            go_simp
                            refine hK _ _ ?_
                            clear hK K
                            exact hS
                          · go_simp
                            refine hK _ _ ?_
                            clear hK K
                            refine wpAny_ready (rs := [10]) (by kernel_rfl) (by simp) (AllReady.cons rfl (fun K hK => ?_) AllReady.nil)
                            go_simp
                            refine hK _ _ ?_
                            clear hK K
                            exact wpAny_swap hS (by kernel_rfl)
                        · refine wpAny_ready (rs := [16]) (by kernel_rfl) (by simp) (AllReady.cons rfl (fun K hK => ?_) AllReady.nil)
                          go_simp
                          refine (less_any _ _ _ _ _ _ _).mono ?_
                          rintro e w2 ⟨rfl, hb2⟩
                          rw [HLE.out]
                          have ho2 : Below wr.heap.size wr w2 := below_own ho1 hb2
                          refine hK _ _ ?_
                          clear hK K
                          refine wpAny_take (i := 17) (v := .bool false) rfl (by kernel_rfl) (by kernel_rfl) (by kernel_rfl) (fun _ _ _ h => h) (Or.inl ⟨by kernel_rfl, fun W => by go_simp⟩) ?_
                          refine wpAny_take (i := 18) (v := .bool false) rfl (by kernel_rfl) (by kernel_rfl) (by kernel_rfl) (fun _ _ _ h => h) (Or.inl ⟨by kernel_rfl, fun W => by go_simp⟩) ?_
                          refine wpAny_take (i := 19) (v := .bool false) rfl (by kernel_rfl) (by kernel_rfl) (by kernel_rfl) (fun _ _ _ h => h) (Or.inl ⟨by kernel_rfl, fun W => by go_simp⟩) ?_
                          refine wpAny_take (i := 20) (v := .slice (some ⟨b, off, none⟩) N cp) rfl (by kernel_rfl) (by kernel_rfl) (by kernel_rfl) (fun _ _ _ h => h) (Or.inl ⟨by kernel_rfl, fun W => by go_simp⟩) ?_
                          refine wpAny_take (i := 21) (v := .int .i64 k) rfl (by kernel_rfl) (by kernel_rfl) (by kernel_rfl) (fun _ _ _ h => h) (Or.inl ⟨by kernel_rfl, fun W => by go_simp⟩) ?_
                          refine wpAny_take (i := 22) (v := .int .i64 i) rfl (by kernel_rfl) (by kernel_rfl) (by kernel_rfl) (fun _ _ _ h => h) (Or.inl ⟨by kernel_rfl, fun W => by go_simp⟩) ?_
                          refine wpAny_ready (rs := [23]) (by kernel_rfl) (by simp) (AllReady.cons rfl (fun K hK => ?_) AllReady.nil)
                          go_simp
                          refine (hsees_any _ N cp L _ hN (HLC.out _ (below_own hbel (ho2))) k i).mono ?_
                          rintro e w3 ⟨rfl, hb3⟩
                          rw [HNS.out]
                          have ho3 : Below wr.heap.size wr w3 := below_own ho2 hb3
                          refine hK _ _ ?_
                          clear hK K
                          refine wpAny_take (i := 24) (v := .bool false) rfl (by kernel_rfl) (by kernel_rfl) (by kernel_rfl) (fun _ _ _ h => h) (Or.inl ⟨by kernel_rfl, fun W => by go_simp⟩) ?_
                          refine wpAny_done (by kernel_rfl) ?_ _
                          simp only [onlyN]
                          go_simp
                          exact hK' _ ho3
                      · intro wX hbX
                        have hbelX := below_own hbel hbX
                        clear hbX hbel x0 x1 x2 x3 x4 x5 x6 x7 z0 z1 z2 z3 z4 z5 z6 z7
                        go_wp2
                        go_loopw [99] (fun q wr => ∃ (o : Nat), o ≤ N ∧ q = .int .i64 o ∧ Below wN.heap.size wN wr) (fun q _ => N - (intOf q).toNat)
                        case atStart => exact ⟨0, Nat.zero_le _, rfl, hbelX⟩
                        case round =>
                          clear hbelX
                          obtain ⟨o, ho, rfl, hbel⟩ := hrel
                          by_cases hlt3 : o < N
                          · have do1 : decide ((o : Int) < (N : Int)) = true := by simp; omega
                            have do2 : decide (o < N) = true := by simp; omega
                            cases hs2 : sees (L.map TI.t) (k : Int) (o : Int)
                            · have HS2 := Lib.hid hs2
                              clear hs2
                              go_wp2_with (go_at_call 13; refine (hsees_any _ N cp L _ hN (HLC.out _ hbel) k o).mono ?_; rintro e w5 ⟨rfl, hb5⟩; rw [HS2.out])
                              go_roundw
                              case rel => exact ⟨o + 1, by omega, by go_num, below_own hbel hb5⟩
                              case measure => simp [intOf]; omega
                            · have HS2 := Lib.hid hs2
                              by_cases hoi : o = i
                              · have dn : ((o : Int) != (i : Int)) = false := by simp [hoi]
                                have dn' : ((o : Int) == (i : Int)) = true := by simp [hoi]
                                clear hs2 hoi
                                go_wp2_with (go_at_call 13; refine (hsees_any _ N cp L _ hN (HLC.out _ hbel) k o).mono ?_; rintro e w5 ⟨rfl, hb5⟩; rw [HS2.out])
                                go_roundw
                                case rel => exact ⟨o + 1, by omega, by go_num, below_own hbel hb5⟩
                                case measure => simp [intOf]; omega
                              · have dn : ((o : Int) != (i : Int)) = true := by simp; omega
                                have dn' : ((o : Int) == (i : Int)) = false := by simp; omega
                                have HS3 := Lib.hid (seen_on hg.out HS.out hs2 hoi)
                                have t1 : True := trivial
                                clear hs2 hoi
                                go_wp2_with (first
                                  | (go_at_call 13; have _t := t1; refine (hsees_any _ N cp L _ hN (HLC.out _ hbel) k o).mono ?_; rintro e w5 ⟨rfl, hb5⟩; rw [HS2.out]; clear t1)
                                  | (go_at_call 13; refine (hsees_any _ N cp L _ hN (HLC.out _ (below_own hbel hb5)) i o).mono ?_; rintro e w6 ⟨rfl, hb6⟩; rw [HS3.out]))
                                go_roundw
                                case rel => exact ⟨o + 1, by omega, by go_num, below_own (below_own hbel hb5) hb6⟩
                                case measure => simp [intOf]; omega
                          · obtain rfl : o = N := by omega
                            go_wp2
                            go_roundw
                            case rel => exact ⟨k + 1, by omega, by go_num, hbel⟩
                            case measure => simp [intOf]; omega

                · obtain rfl : k = N := by omega
                  go_wp2
                  go_roundw
                  case rel => exact ⟨i + 1, by omega, by go_num, hbel⟩
                  case measure => simp [intOf]; omega
            · obtain rfl : i = N := by omega
              go_wp2_with (go_at_call 12; refine (awake_any _).mono ?_; rintro e w4 ⟨rfl, hb4⟩)
              go_ret
              exact ⟨rfl, below_own hbN (below_own hbel hb4)⟩
        · have hz1 : (ch != 0) = true := by simpa using hz
          have hz2 : (ch == 0) = false := by simpa using hz
          clear hch
          go_wp2_with (first | (go_at_call 9; refine (hcheck_any A N cp L _ hN (HLC.out _ (own_refl _)) (by omega) (HOK.out)).mono ?_; rintro e w2 ⟨rfl, hb2⟩; rw [HCH.out]) | (go_at_call 12; refine (awake_any _).mono ?_; rintro e w4 ⟨rfl, hb4⟩))
          go_ret
          exact ⟨rfl, below_own hbN (below_own hb2 hb4)⟩
  · have h14' : 14 < N0 := by omega
    have d14 : decide ((14 : Int) < (N0 : Int)) = true := by simp; omega
    have d14' : (14 : Int) < (N0 : Int) := by omega
    have hm14 : (F0.take 14).length = 14 := by rw [List.length_take]; omega
    have hokM : ∀ W, Below w.heap.size w W → ∀ x ∈ F0.take 14, (clr x).ok W := fun W hW x hx => HOKF.out W hW x (List.mem_of_mem_take hx)
    have htk : (flatTI F0).take (14 * 8) = flatTI (F0.take 14) := by
      have e : flatTI F0 = flatTI (F0.take 14) ++ flatTI (F0.drop 14) := by unfold flatTI; rw [← List.flatMap_append, List.take_append_drop]
      have hl : (flatTI (F0.take 14)).length = 14 * 8 := by unfold flatTI; rw [flat_length (C := 8) (fun _ => rfl), hm14]
      rw [e, List.take_append_of_le_length (by omega), List.take_of_length_le (by omega)]
    obtain ⟨M0, hM0⟩ : ∃ M0, F0.take 14 = M0 := ⟨_, rfl⟩
    rw [hM0] at hm14 hokM htk
    have HM0 := Lib.hid hm14
    have HOKM := Lib.hid hokM
    have HTK := Lib.hid htk
    clear hN0 hM0 hm14 hokM htk
    go_enter Try.func5, Try.ntmps5
    go_wp2_with (go_at_call 8; refine (few_any A n c l w hn hA hm hall).mono ?_; rintro e w1 ⟨D, cp, rfl, hown0, hbN1⟩; rw [HF0.out, HN0.out] at hown0 ⊢; obtain ⟨g0, rfl, hg00, hg01, hg02⟩ := row_some hown0 (by omega); have hc14 : (14 : Int) ≤ (cp : Int) := by omega)
    have hown : w1.ownsRow w.heap.size 45 8 (.slice (some ⟨g0, 0, none⟩) 14 cp) 14 (flatTI M0) := by rw [← HTK.out]; exact row_take hown0 (by omega) (by simp)
    clear hown0
    go_loopw [18] (fun q wr => ∃ (i : Nat), i ≤ 14 ∧ q = .int .i64 i ∧ wr.ownsRow w.heap.size 45 8 (.slice (some ⟨g0, 0, none⟩) 14 cp) 14 (flatTI (clrTo M0 i)) ∧ Below w.heap.size w wr) (fun q _ => 14 - (intOf q).toNat)
    case atStart => exact ⟨0, Nat.zero_le _, rfl, hown, hbN1⟩
    case round =>
      obtain ⟨i, hi, rfl, hrow, hbN⟩ := hrel
      by_cases hlt : i < 14
      · obtain ⟨x, hx⟩ : ∃ x, M0[i]? = some x := ⟨_, List.getElem?_eq_getElem (by rw [HM0.out]; omega)⟩
        have hg0 : w.heap.size ≤ g0 := hg00
        have hnew := clr_step hrow hx
        have c6 : wr.cell? ⟨g0, i * 8 + 6, none⟩ = some (.slice x.R x.t.rds.length x.rc) := by
          obtain ⟨b, off, he, -, -, -, -, -, -, h6, -⟩ := get_tx (Cells.of_own hrow) (clrTo_step hx).1
          injection he with e
          injection e with e1 e2
          subst e1 e2
          simpa using h6
        have f6 : wr.frozen? ⟨g0, i * 8 + 6, none⟩ = false := hrow.frozenAt _
        have g1' : (0 : Int) ≤ (i : Int) := by omega
        have g2' : (i : Int) < (14 : Int) := by omega
        have HNEW := Lib.hid hnew
        clear hnew hrow hx
        go_wp2
        go_roundw
        case rel => exact ⟨i + 1, by omega, by go_num, HNEW.out, own_set hbN hg0 _⟩
        case measure => simp [intOf]; omega
      · obtain rfl : i = 14 := by omega
        have hrow' : wr.ownsRow w.heap.size 45 8 (.slice (some ⟨g0, 0, none⟩) 14 cp) 14 (flatTI (M0.map clr)) := by
          have h := hrow
          have e := clrTo_all M0
          rw [HM0.out] at e
          rw [e] at h
          exact h
        refine wp_from (fun W => W = wr) rfl ?_
        rintro wN rfl
        obtain ⟨A, hA'⟩ : ∃ A : Option Addr, some ⟨g0, 0, none⟩ = A := ⟨_, rfl⟩
        rw [hA'] at hrow' ⊢
        obtain ⟨L, hL⟩ : ∃ L, M0.map clr = L := ⟨_, rfl⟩
        rw [hL] at hrow'
        have hN : L.length = 14 := by rw [← hL, List.length_map, HM0.out]
        have HLC := Lib.hid (fun W (hW : Below wN.heap.size wN W) => (Cells.of_own hrow').on hW)
        have HOK := Lib.hid (show ∀ x ∈ L, x.ok _ from by
          intro x hx
          rw [← hL] at hx
          obtain ⟨y, hy, rfl⟩ := List.mem_map.1 hx
          exact HOKM.out _ hbN y hy)
        clear hL hrow hrow' hi hlt
        obtain ⟨ch, hch⟩ : ∃ ch, (check (L.map TI.t)).1 = ch := ⟨_, rfl⟩
        have HCH := Lib.hid hch
        by_cases hz : ch = 0
        · have hg := Lib.hid (good_of (mark_of_check (l := L.map TI.t) (by rw [hch]; exact hz)))
          subst hz
          clear hch
          go_wp2_with (go_at_call 9; refine (hcheck_any A 14 cp L _ hN (HLC.out _ (own_refl _)) (by omega) (HOK.out)).mono ?_; rintro e w2 ⟨rfl, hb2⟩; rw [HCH.out])
          go_loopw [36] (fun q wr => ∃ (i : Nat), i ≤ 14 ∧ q = .int .i64 i ∧ Below wN.heap.size wN wr) (fun q _ => 14 - (intOf q).toNat)
          case atStart => exact ⟨0, Nat.zero_le _, rfl, hb2⟩
          case round =>
            obtain ⟨i, hi, rfl, hbel⟩ := hrel
            by_cases hlt : i < 14
            · have hbel0 := hbel
              have di1 : decide ((i : Int) < (14 : Int)) = true := by simp; omega
              have di2 : decide (i < 14) = true := by simp; omega
              go_wp2
              go_loopw [41] (fun q wr => ∃ (k : Nat), k ≤ 14 ∧ q = .int .i64 k ∧ Below wN.heap.size wN wr) (fun q _ => 14 - (intOf q).toNat)
              case atStart => exact ⟨0, Nat.zero_le _, rfl, hbel0⟩
              case round =>
                clear hbel hbel0 hb2
                obtain ⟨k, hk, rfl, hbel⟩ := hrel
                by_cases hlt2 : k < 14
                · obtain ⟨x, hx⟩ : ∃ x, L[i]? = some x := ⟨_, List.getElem?_eq_getElem (by omega)⟩
                  obtain ⟨z, hz'⟩ : ∃ z, L[k]? = some z := ⟨_, List.getElem?_eq_getElem (by omega)⟩
                  have HX := Lib.hid (show (L.map TI.t)[i]? = some x.t by rw [List.getElem?_map, hx]; rfl)
                  have HZZ := Lib.hid (show (L.map TI.t)[k]? = some z.t by rw [List.getElem?_map, hz']; rfl)
                  have hxz : ∃ b off, A = some ⟨b, off, none⟩ ∧ ∀ W, Below wN.heap.size wN W → (W.cell? ⟨b, off + i * 8, none⟩ = some (.int .i64 x.t.cl) ∧ W.cell? ⟨b, off + i * 8 + 1, none⟩ = some (.int .u64 x.t.sn) ∧ W.cell? ⟨b, off + i * 8 + 2, none⟩ = some (.int .i64 x.t.st) ∧ W.cell? ⟨b, off + i * 8 + 3, none⟩ = some (.int .u64 x.t.ts) ∧ W.cell? ⟨b, off + i * 8 + 4, none⟩ = some (.int .i64 x.t.dc) ∧ W.cell? ⟨b, off + i * 8 + 5, none⟩ = some (.int .i64 x.t.tx) ∧ W.cell? ⟨b, off + i * 8 + 6, none⟩ = some (.slice x.R x.t.rds.length x.rc) ∧ W.cell? ⟨b, off + i * 8 + 7, none⟩ = some (.slice x.D x.t.wrs.length x.dc)) ∧ W.cell? ⟨b, off + k * 8, none⟩ = some (.int .i64 z.t.cl) ∧ W.cell? ⟨b, off + k * 8 + 1, none⟩ = some (.int .u64 z.t.sn) ∧ W.cell? ⟨b, off + k * 8 + 2, none⟩ = some (.int .i64 z.t.st) ∧ W.cell? ⟨b, off + k * 8 + 3, none⟩ = some (.int .u64 z.t.ts) ∧ W.cell? ⟨b, off + k * 8 + 4, none⟩ = some (.int .i64 z.t.dc) ∧ W.cell? ⟨b, off + k * 8 + 5, none⟩ = some (.int .i64 z.t.tx) ∧ W.cell? ⟨b, off + k * 8 + 6, none⟩ = some (.slice z.R z.t.rds.length z.rc) ∧ W.cell? ⟨b, off + k * 8 + 7, none⟩ = some (.slice z.D z.t.wrs.length z.dc) := by
                    obtain ⟨b, off, he, -⟩ := get_tx (HLC.out _ (own_refl _)) hx
                    refine ⟨b, off, he, fun W hW => ⟨?_, ?_⟩⟩
                    · obtain ⟨b', off', he', h⟩ := get_tx (HLC.out W hW) hx
                      rw [he] at he'
                      obtain ⟨rfl, rfl⟩ : b = b' ∧ off = off' := by injection he' with e; injection e with e1 e2; exact ⟨e1, e2⟩
                      exact h
                    · obtain ⟨b', off', he', h⟩ := get_tx (HLC.out W hW) hz'
                      rw [he] at he'
                      obtain ⟨rfl, rfl⟩ : b = b' ∧ off = off' := by injection he' with e; injection e with e1 e2; exact ⟨e1, e2⟩
                      exact h
                  obtain ⟨b, off, hAe, hxz⟩ := hxz
                  have HXZ := Lib.hid hxz
                  subst hAe
                  have g1 : (0 : Int) ≤ (i : Int) := by omega
                  have g2 : (i : Int) < (14 : Int) := by omega
                  have g3 : (0 : Int) ≤ (k : Int) := by omega
                  have g4 : (k : Int) < (14 : Int) := by omega
                  have dk1 : decide ((k : Int) < (14 : Int)) = true := by simp; omega
                  have dk2 : decide (k < 14) = true := by simp; omega
                  clear hx hz' hxz
                  obtain ⟨s, hs⟩ : ∃ s, sees (L.map TI.t) (i : Int) (k : Int) = s := ⟨_, rfl⟩
                  have HS := Lib.hid hs
                  clear hs
                  cases s
                  · go_wp2_with (go_at_call 13; refine (hsees_any _ 14 cp L _ hN (HLC.out _ hbel) i k).mono ?_; rintro e w3 ⟨rfl, hb3⟩; rw [HS.out])
                    have hbelx := below_own hbel hb3
                    clear hbel hb3
                    obtain ⟨wr, rfl⟩ : ∃ w0, w0 = w3 := ⟨_, rfl⟩
                    have hbel := hbelx
                    clear hbelx
                    obtain ⟨⟨x0, x1, x2, x3, x4, x5, x6, x7⟩, ⟨z0, z1, z2, z3, z4, z5, z6, z7⟩⟩ := HXZ.out wr hbel
                    by_cases hki : k < i
                    · have dk : decide ((k : Int) < (i : Int)) = true := by simp; omega
                      have dk' : (k : Int) < (i : Int) := by omega
                      obtain ⟨u, hu⟩ : ∃ u, z.t.has = u := ⟨_, rfl⟩
                      have HU := Lib.hid hu
                      cases u
                      · clear hu
                        go_wp2_with fail
                        apply region_cut (fun W' => Below wr.heap.size wr W')
                        · intro hK'
                          refine region_plain (N := 23) rfl (by kernel_rfl) ?_
                          refine wpAny_take (i := 0) (v := .int .i64 k) rfl (by kernel_rfl) (by kernel_rfl) (by kernel_rfl) (fun _ _ _ h => h) (Or.inl ⟨by kernel_rfl, fun W => by go_simp⟩) ?_
                          refine wpAny_take (i := 1) (v := .int .i64 i) rfl (by kernel_rfl) (by kernel_rfl) (by kernel_rfl) (fun _ _ _ h => h) (Or.inl ⟨by kernel_rfl, fun W => by go_simp⟩) ?_
                          refine wpAny_take (i := 2) (v := .bool true) rfl (by kernel_rfl) (by kernel_rfl) (by kernel_rfl) (fun _ _ _ h => h) (Or.inl ⟨by kernel_rfl, fun W => by go_simp⟩) ?_
                          refine wpAny_take (i := 3) (v := .bool true) rfl (by kernel_rfl) (by kernel_rfl) (by kernel_rfl) (fun _ _ _ h => h) (Or.inl ⟨by kernel_rfl, fun W => by go_simp⟩) ?_
                          refine wpAny_take (i := 4) (v := .slice (some ⟨b, off, none⟩) 14 cp) rfl (by kernel_rfl) (by kernel_rfl) (by kernel_rfl) (fun _ _ _ h => h) (Or.inl ⟨by kernel_rfl, fun W => by go_simp⟩) ?_
                          refine wpAny_take (i := 5) (v := .int .i64 k) rfl (by kernel_rfl) (by kernel_rfl) (by kernel_rfl) (fun _ _ _ h => h) (Or.inl ⟨by kernel_rfl, fun W => by go_simp⟩) ?_
                          refine wpAny_take (i := 6) (v := .pointer (some ⟨b, off + k * 8, none⟩)) rfl (by kernel_rfl) (by kernel_rfl) (by kernel_rfl) (fun _ _ _ h => h) (Or.inl ⟨by kernel_rfl, fun W => by go_simp⟩) ?_
                          refine wpAny_ready (rs := [7]) (by kernel_rfl) (by simp) (AllReady.cons rfl (fun K hK => ?_) AllReady.nil)
                          go_simp
                          refine hK _ _ ?_
                          clear hK K
                          refine wpAny_ready (rs := [8]) (by kernel_rfl) (by simp) (AllReady.cons rfl (fun K hK => ?_) AllReady.nil)
                          go_simp
                          refine (hhas_any z _).mono ?_
                          rintro e w1 ⟨rfl, hb1⟩
                          rw [HU.out]
                          have ho1 : Below wr.heap.size wr w1 := below_own (own_drew (own_refl _)) hb1
                          have x0_1 := cell_on ho1 x0
                          have x1_1 := cell_on ho1 x1
                          have x2_1 := cell_on ho1 x2
                          have x3_1 := cell_on ho1 x3
                          have x4_1 := cell_on ho1 x4
                          have x5_1 := cell_on ho1 x5
                          have x6_1 := cell_on ho1 x6
                          have x7_1 := cell_on ho1 x7
                          have z0_1 := cell_on ho1 z0
                          have z1_1 := cell_on ho1 z1
                          have z2_1 := cell_on ho1 z2
                          have z3_1 := cell_on ho1 z3
                          have z4_1 := cell_on ho1 z4
                          have z5_1 := cell_on ho1 z5
                          have z6_1 := cell_on ho1 z6
                          have z7_1 := cell_on ho1 z7
                          refine hK _ _ ?_
                          clear hK K
                          refine wpAny_take (i := 9) (v := .bool false) rfl (by kernel_rfl) (by kernel_rfl) (by kernel_rfl) (fun _ _ _ h => h) (Or.inl ⟨by kernel_rfl, fun W => by go_simp⟩) ?_
                          refine wpAny_take (i := 10) (v := .bool false) rfl (by kernel_rfl) (by kernel_rfl) (by kernel_rfl) (fun _ _ _ h => h) (Or.inl ⟨by kernel_rfl, fun W => by go_simp⟩) ?_
                          refine wpAny_take (i := 11) (v := undef) rfl (by kernel_rfl) (by kernel_rfl) (by kernel_rfl) (fun _ _ _ h => h) (Or.inr ⟨by kernel_rfl, rfl⟩) ?_
                          refine wpAny_take (i := 12) (v := undef) rfl (by kernel_rfl) (by kernel_rfl) (by kernel_rfl) (fun _ _ _ h => h) (Or.inr ⟨by kernel_rfl, rfl⟩) ?_
                          refine wpAny_take (i := 13) (v := undef) rfl (by kernel_rfl) (by kernel_rfl) (by kernel_rfl) (fun _ _ _ h => h) (Or.inr ⟨by kernel_rfl, rfl⟩) ?_
                          refine wpAny_take (i := 14) (v := undef) rfl (by kernel_rfl) (by kernel_rfl) (by kernel_rfl) (fun _ _ _ h => h) (Or.inr ⟨by kernel_rfl, rfl⟩) ?_
                          refine wpAny_take (i := 15) (v := undef) rfl (by kernel_rfl) (by kernel_rfl) (by kernel_rfl) (fun _ _ _ h => h) (Or.inr ⟨by kernel_rfl, rfl⟩) ?_
                          refine wpAny_take (i := 16) (v := undef) rfl (by kernel_rfl) (by kernel_rfl) (by kernel_rfl) (fun _ _ _ h => h) (Or.inr ⟨by kernel_rfl, rfl⟩) ?_
                          refine wpAny_take (i := 17) (v := undef) rfl (by kernel_rfl) (by kernel_rfl) (by kernel_rfl) (fun _ _ _ h => h) (Or.inr ⟨by kernel_rfl, rfl⟩) ?_
                          refine wpAny_take (i := 18) (v := undef) rfl (by kernel_rfl) (by kernel_rfl) (by kernel_rfl) (fun _ _ _ h => h) (Or.inr ⟨by kernel_rfl, rfl⟩) ?_
                          refine wpAny_take (i := 19) (v := undef) rfl (by kernel_rfl) (by kernel_rfl) (by kernel_rfl) (fun _ _ _ h => h) (Or.inr ⟨by kernel_rfl, rfl⟩) ?_
                          refine wpAny_take (i := 20) (v := undef) rfl (by kernel_rfl) (by kernel_rfl) (by kernel_rfl) (fun _ _ _ h => h) (Or.inr ⟨by kernel_rfl, rfl⟩) ?_
                          refine wpAny_take (i := 21) (v := undef) rfl (by kernel_rfl) (by kernel_rfl) (by kernel_rfl) (fun _ _ _ h => h) (Or.inr ⟨by kernel_rfl, rfl⟩) ?_
                          refine wpAny_take (i := 22) (v := .bool false) rfl (by kernel_rfl) (by kernel_rfl) (by kernel_rfl) (fun _ _ _ h => h) (Or.inl ⟨by kernel_rfl, fun W => by go_simp⟩) ?_
                          refine wpAny_done (by kernel_rfl) ?_ _
                          simp only [onlyN]
                          go_simp
                          exact hK' _ ho1
                        · intro wX hbX
                          go_wp2
                          go_roundw
                          case rel => exact ⟨k + 1, by omega, by go_num, below_own hbel hbX⟩
                          case measure => simp [intOf]; omega

                      · have hcl : (z.t.cl == x.t.cl) = false := not_seen HX.out HZZ.out HS.out hki hu
                        clear hu
                        go_wp2_with fail
                        apply region_cut (fun W' => Below wr.heap.size wr W')
                        · intro hK'
                          refine region_plain (N := 23) rfl (by kernel_rfl) ?_
                          refine wpAny_take (i := 0) (v := .int .i64 k) rfl (by kernel_rfl) (by kernel_rfl) (by kernel_rfl) (fun _ _ _ h => h) (Or.inl ⟨by kernel_rfl, fun W => by go_simp⟩) ?_
                          refine wpAny_take (i := 1) (v := .int .i64 i) rfl (by kernel_rfl) (by kernel_rfl) (by kernel_rfl) (fun _ _ _ h => h) (Or.inl ⟨by kernel_rfl, fun W => by go_simp⟩) ?_
                          refine wpAny_take (i := 2) (v := .bool true) rfl (by kernel_rfl) (by kernel_rfl) (by kernel_rfl) (fun _ _ _ h => h) (Or.inl ⟨by kernel_rfl, fun W => by go_simp⟩) ?_
                          refine wpAny_take (i := 3) (v := .bool true) rfl (by kernel_rfl) (by kernel_rfl) (by kernel_rfl) (fun _ _ _ h => h) (Or.inl ⟨by kernel_rfl, fun W => by go_simp⟩) ?_
                          refine wpAny_take (i := 4) (v := .slice (some ⟨b, off, none⟩) 14 cp) rfl (by kernel_rfl) (by kernel_rfl) (by kernel_rfl) (fun _ _ _ h => h) (Or.inl ⟨by kernel_rfl, fun W => by go_simp⟩) ?_
                          refine wpAny_take (i := 5) (v := .int .i64 k) rfl (by kernel_rfl) (by kernel_rfl) (by kernel_rfl) (fun _ _ _ h => h) (Or.inl ⟨by kernel_rfl, fun W => by go_simp⟩) ?_
                          refine wpAny_take (i := 6) (v := .pointer (some ⟨b, off + k * 8, none⟩)) rfl (by kernel_rfl) (by kernel_rfl) (by kernel_rfl) (fun _ _ _ h => h) (Or.inl ⟨by kernel_rfl, fun W => by go_simp⟩) ?_
                          refine wpAny_ready (rs := [7]) (by kernel_rfl) (by simp) (AllReady.cons rfl (fun K hK => ?_) AllReady.nil)
                          go_simp
                          refine hK _ _ ?_
                          clear hK K
                          refine wpAny_ready (rs := [8]) (by kernel_rfl) (by simp) (AllReady.cons rfl (fun K hK => ?_) AllReady.nil)
                          go_simp
                          refine (hhas_any z _).mono ?_
                          rintro e w1 ⟨rfl, hb1⟩
                          rw [HU.out]
                          have ho1 : Below wr.heap.size wr w1 := below_own (own_drew (own_refl _)) hb1
                          have x0_1 := cell_on ho1 x0
                          have x1_1 := cell_on ho1 x1
                          have x2_1 := cell_on ho1 x2
                          have x3_1 := cell_on ho1 x3
                          have x4_1 := cell_on ho1 x4
                          have x5_1 := cell_on ho1 x5
                          have x6_1 := cell_on ho1 x6
                          have x7_1 := cell_on ho1 x7
                          have z0_1 := cell_on ho1 z0
                          have z1_1 := cell_on ho1 z1
                          have z2_1 := cell_on ho1 z2
                          have z3_1 := cell_on ho1 z3
                          have z4_1 := cell_on ho1 z4
                          have z5_1 := cell_on ho1 z5
                          have z6_1 := cell_on ho1 z6
                          have z7_1 := cell_on ho1 z7
                          refine hK _ _ ?_
                          clear hK K
                          refine wpAny_take (i := 9) (v := .bool true) rfl (by kernel_rfl) (by kernel_rfl) (by kernel_rfl) (fun _ _ _ h => h) (Or.inl ⟨by kernel_rfl, fun W => by go_simp⟩) ?_
                          refine wpAny_take (i := 10) (v := .bool true) rfl (by kernel_rfl) (by kernel_rfl) (by kernel_rfl) (fun _ _ _ h => h) (Or.inl ⟨by kernel_rfl, fun W => by go_simp⟩) ?_
                          refine wpAny_take (i := 11) (v := .slice (some ⟨b, off, none⟩) 14 cp) rfl (by kernel_rfl) (by kernel_rfl) (by kernel_rfl) (fun _ _ _ h => h) (Or.inl ⟨by kernel_rfl, fun W => by go_simp⟩) ?_
                          refine wpAny_take (i := 12) (v := .int .i64 k) rfl (by kernel_rfl) (by kernel_rfl) (by kernel_rfl) (fun _ _ _ h => h) (Or.inl ⟨by kernel_rfl, fun W => by go_simp⟩) ?_
                          refine wpAny_take (i := 13) (v := .pointer (some ⟨b, off + k * 8, none⟩)) rfl (by kernel_rfl) (by kernel_rfl) (by kernel_rfl) (fun _ _ _ h => h) (Or.inl ⟨by kernel_rfl, fun W => by go_simp⟩) ?_
                          refine wpAny_take (i := 14) (v := .pointer (some ⟨b, off + k * 8, none⟩)) rfl (by kernel_rfl) (by kernel_rfl) (by kernel_rfl) (fun _ _ _ h => h) (Or.inl ⟨by kernel_rfl, fun W => by go_simp⟩) ?_
                          refine wpAny_take (i := 16) (v := .slice (some ⟨b, off, none⟩) 14 cp) rfl (by kernel_rfl) (by kernel_rfl) (by kernel_rfl) (fun _ _ _ h => h) (Or.inl ⟨by kernel_rfl, fun W => by go_simp⟩) ?_
                          refine wpAny_take (i := 17) (v := .int .i64 i) rfl (by kernel_rfl) (by kernel_rfl) (by kernel_rfl) (fun _ _ _ h => h) (Or.inl ⟨by kernel_rfl, fun W => by go_simp⟩) ?_
                          refine wpAny_take (i := 18) (v := .pointer (some ⟨b, off + i * 8, none⟩)) rfl (by kernel_rfl) (by kernel_rfl) (by kernel_rfl) (fun _ _ _ h => h) (Or.inl ⟨by kernel_rfl, fun W => by go_simp⟩) ?_
                          refine wpAny_take (i := 19) (v := .pointer (some ⟨b, off + i * 8, none⟩)) rfl (by kernel_rfl) (by kernel_rfl) (by kernel_rfl) (fun _ _ _ h => h) (Or.inl ⟨by kernel_rfl, fun W => by go_simp⟩) ?_
                          apply cut2
                          · intro hS
                            refine wpAny_ready (rs := [15, 20]) (by kernel_rfl) (by simp) (AllReady.cons rfl (fun K hK => ?_) (AllReady.cons rfl (fun K hK => ?_) AllReady.nil))
                            · go_simp
                              refine hK _ _ ?_
                              clear hK K
                              refine wpAny_ready (rs := [20]) (by kernel_rfl) (by simp) (AllReady.cons rfl (fun K hK => ?_) AllReady.nil)
                              go_simp
                              refine hK _ _ ?_
                              clear hK K
                              exact hS
                            · go_simp
                              refine hK _ _ ?_
                              clear hK K
                              refine wpAny_ready (rs := [15]) (by kernel_rfl) (by simp) (AllReady.cons rfl (fun K hK => ?_) AllReady.nil)
                              go_simp
                              refine hK _ _ ?_
                              clear hK K
                              exact wpAny_swap hS (by kernel_rfl)
                          · refine wpAny_take (i := 21) (v := .bool false) rfl (by kernel_rfl) (by kernel_rfl) (by kernel_rfl) (fun _ _ _ h => h) (Or.inl ⟨by kernel_rfl, fun W => by go_simp⟩) ?_
                            refine wpAny_take (i := 22) (v := .bool false) rfl (by kernel_rfl) (by kernel_rfl) (by kernel_rfl) (fun _ _ _ h => h) (Or.inl ⟨by kernel_rfl, fun W => by go_simp⟩) ?_
                            refine wpAny_done (by kernel_rfl) ?_ _
                            simp only [onlyN]
                            go_simp
                            exact hK' _ ho1
                        · intro wX hbX
                          go_wp2
                          go_roundw
                          case rel => exact ⟨k + 1, by omega, by go_num, below_own hbel hbX⟩
                          case measure => simp [intOf]; omega

                    · have dk : decide ((k : Int) < (i : Int)) = false := by simp; omega
                      have dk' : ¬ (k : Int) < (i : Int) := by omega
                      go_wp2_with fail
                      apply region_cut (fun W' => Below wr.heap.size wr W')
                      · intro hK'
                        refine region_plain (N := 23) rfl (by kernel_rfl) ?_
                        refine wpAny_take (i := 0) (v := .int .i64 k) rfl (by kernel_rfl) (by kernel_rfl) (by kernel_rfl) (fun _ _ _ h => h) (Or.inl ⟨by kernel_rfl, fun W => by go_simp⟩) ?_
                        refine wpAny_take (i := 1) (v := .int .i64 i) rfl (by kernel_rfl) (by kernel_rfl) (by kernel_rfl) (fun _ _ _ h => h) (Or.inl ⟨by kernel_rfl, fun W => by go_simp⟩) ?_
                        refine wpAny_take (i := 2) (v := .bool false) rfl (by kernel_rfl) (by kernel_rfl) (by kernel_rfl) (fun _ _ _ h => h) (Or.inl ⟨by kernel_rfl, fun W => by go_simp⟩) ?_
                        refine wpAny_take (i := 3) (v := .bool false) rfl (by kernel_rfl) (by kernel_rfl) (by kernel_rfl) (fun _ _ _ h => h) (Or.inl ⟨by kernel_rfl, fun W => by go_simp⟩) ?_
                        refine wpAny_take (i := 4) (v := undef) rfl (by kernel_rfl) (by kernel_rfl) (by kernel_rfl) (fun _ _ _ h => h) (Or.inr ⟨by kernel_rfl, rfl⟩) ?_
                        refine wpAny_take (i := 5) (v := undef) rfl (by kernel_rfl) (by kernel_rfl) (by kernel_rfl) (fun _ _ _ h => h) (Or.inr ⟨by kernel_rfl, rfl⟩) ?_
                        refine wpAny_take (i := 6) (v := undef) rfl (by kernel_rfl) (by kernel_rfl) (by kernel_rfl) (fun _ _ _ h => h) (Or.inr ⟨by kernel_rfl, rfl⟩) ?_
                        refine wpAny_take (i := 7) (v := undef) rfl (by kernel_rfl) (by kernel_rfl) (by kernel_rfl) (fun _ _ _ h => h) (Or.inr ⟨by kernel_rfl, rfl⟩) ?_
                        refine wpAny_take (i := 8) (v := undef) rfl (by kernel_rfl) (by kernel_rfl) (by kernel_rfl) (fun _ _ _ h => h) (Or.inr ⟨by kernel_rfl, rfl⟩) ?_
                        refine wpAny_take (i := 9) (v := .bool false) rfl (by kernel_rfl) (by kernel_rfl) (by kernel_rfl) (fun _ _ _ h => h) (Or.inl ⟨by kernel_rfl, fun W => by go_simp⟩) ?_
                        refine wpAny_take (i := 10) (v := .bool false) rfl (by kernel_rfl) (by kernel_rfl) (by kernel_rfl) (fun _ _ _ h => h) (Or.inl ⟨by kernel_rfl, fun W => by go_simp⟩) ?_
                        refine wpAny_take (i := 11) (v := undef) rfl (by kernel_rfl) (by kernel_rfl) (by kernel_rfl) (fun _ _ _ h => h) (Or.inr ⟨by kernel_rfl, rfl⟩) ?_
                        refine wpAny_take (i := 12) (v := undef) rfl (by kernel_rfl) (by kernel_rfl) (by kernel_rfl) (fun _ _ _ h => h) (Or.inr ⟨by kernel_rfl, rfl⟩) ?_
                        refine wpAny_take (i := 13) (v := undef) rfl (by kernel_rfl) (by kernel_rfl) (by kernel_rfl) (fun _ _ _ h => h) (Or.inr ⟨by kernel_rfl, rfl⟩) ?_
                        refine wpAny_take (i := 14) (v := undef) rfl (by kernel_rfl) (by kernel_rfl) (by kernel_rfl) (fun _ _ _ h => h) (Or.inr ⟨by kernel_rfl, rfl⟩) ?_
                        refine wpAny_take (i := 15) (v := undef) rfl (by kernel_rfl) (by kernel_rfl) (by kernel_rfl) (fun _ _ _ h => h) (Or.inr ⟨by kernel_rfl, rfl⟩) ?_
                        refine wpAny_take (i := 16) (v := undef) rfl (by kernel_rfl) (by kernel_rfl) (by kernel_rfl) (fun _ _ _ h => h) (Or.inr ⟨by kernel_rfl, rfl⟩) ?_
                        refine wpAny_take (i := 17) (v := undef) rfl (by kernel_rfl) (by kernel_rfl) (by kernel_rfl) (fun _ _ _ h => h) (Or.inr ⟨by kernel_rfl, rfl⟩) ?_
                        refine wpAny_take (i := 18) (v := undef) rfl (by kernel_rfl) (by kernel_rfl) (by kernel_rfl) (fun _ _ _ h => h) (Or.inr ⟨by kernel_rfl, rfl⟩) ?_
                        refine wpAny_take (i := 19) (v := undef) rfl (by kernel_rfl) (by kernel_rfl) (by kernel_rfl) (fun _ _ _ h => h) (Or.inr ⟨by kernel_rfl, rfl⟩) ?_
                        refine wpAny_take (i := 20) (v := undef) rfl (by kernel_rfl) (by kernel_rfl) (by kernel_rfl) (fun _ _ _ h => h) (Or.inr ⟨by kernel_rfl, rfl⟩) ?_
                        refine wpAny_take (i := 21) (v := undef) rfl (by kernel_rfl) (by kernel_rfl) (by kernel_rfl) (fun _ _ _ h => h) (Or.inr ⟨by kernel_rfl, rfl⟩) ?_
                        refine wpAny_take (i := 22) (v := .bool false) rfl (by kernel_rfl) (by kernel_rfl) (by kernel_rfl) (fun _ _ _ h => h) (Or.inl ⟨by kernel_rfl, fun W => by go_simp⟩) ?_
                        refine wpAny_done (by kernel_rfl) ?_ _
                        simp only [onlyN]
                        go_simp
                        exact hK' _ (own_drew (own_refl _))
                      · intro wX hbX
                        go_wp2
                        go_roundw
                        case rel => exact ⟨k + 1, by omega, by go_num, below_own hbel hbX⟩
                        case measure => simp [intOf]; omega

                  · go_wp2_with (go_at_call 13; refine (hsees_any _ 14 cp L _ hN (HLC.out _ hbel) i k).mono ?_; rintro e w3 ⟨rfl, hb3⟩; rw [HS.out])
                    have hbelx := below_own hbel hb3
                    clear hbel hb3
                    obtain ⟨wr, rfl⟩ : ∃ w0, w0 = w3 := ⟨_, rfl⟩
                    have hbel := hbelx
                    clear hbelx
                    obtain ⟨⟨x0, x1, x2, x3, x4, x5, x6, x7⟩, ⟨z0, z1, z2, z3, z4, z5, z6, z7⟩⟩ := HXZ.out wr hbel
                    have HNS := Lib.hid (seen_not hg.out HS.out)
                    obtain ⟨u, hu⟩ : ∃ u, x.t.has = u := ⟨_, rfl⟩
                    have HU := Lib.hid hu
                    cases u
                    · clear hu
                      go_wp2_with fail
                      apply region_cut (fun W' => Below wr.heap.size wr W')
                      · intro hK'
                        refine region_plain (N := 25) rfl (by kernel_rfl) ?_
                        refine wpAny_take (i := 0) (v := .slice (some ⟨b, off, none⟩) 14 cp) rfl (by kernel_rfl) (by kernel_rfl) (by kernel_rfl) (fun _ _ _ h => h) (Or.inl ⟨by kernel_rfl, fun W => by go_simp⟩) ?_
                        refine wpAny_take (i := 1) (v := .int .i64 i) rfl (by kernel_rfl) (by kernel_rfl) (by kernel_rfl) (fun _ _ _ h => h) (Or.inl ⟨by kernel_rfl, fun W => by go_simp⟩) ?_
                        refine wpAny_take (i := 2) (v := .pointer (some ⟨b, off + i * 8, none⟩)) rfl (by kernel_rfl) (by kernel_rfl) (by kernel_rfl) (fun _ _ _ h => h) (Or.inl ⟨by kernel_rfl, fun W => by go_simp⟩) ?_
                        refine wpAny_ready (rs := [3]) (by kernel_rfl) (by simp) (AllReady.cons rfl (fun K hK => ?_) AllReady.nil)
                        go_simp
                        refine hK _ _ ?_
                        clear hK K
                        refine wpAny_ready (rs := [4]) (by kernel_rfl) (by simp) (AllReady.cons rfl (fun K hK => ?_) AllReady.nil)
                        go_simp
                        refine (hhas_any x _).mono ?_
                        rintro e w1 ⟨rfl, hb1⟩
                        rw [HU.out]
                        have ho1 : Below wr.heap.size wr w1 := below_own (own_drew (own_refl _)) hb1
                        have x0_1 := cell_on ho1 x0
                        have x1_1 := cell_on ho1 x1
                        have x2_1 := cell_on ho1 x2
                        have x3_1 := cell_on ho1 x3
                        have x4_1 := cell_on ho1 x4
                        have x5_1 := cell_on ho1 x5
                        have x6_1 := cell_on ho1 x6
                        have x7_1 := cell_on ho1 x7
                        have z0_1 := cell_on ho1 z0
                        have z1_1 := cell_on ho1 z1
                        have z2_1 := cell_on ho1 z2
                        have z3_1 := cell_on ho1 z3
                        have z4_1 := cell_on ho1 z4
                        have z5_1 := cell_on ho1 z5
                        have z6_1 := cell_on ho1 z6
                        have z7_1 := cell_on ho1 z7
                        refine hK _ _ ?_
                        clear hK K
                        refine wpAny_take (i := 5) (v := .bool false) rfl (by kernel_rfl) (by kernel_rfl) (by kernel_rfl) (fun _ _ _ h => h) (Or.inl ⟨by kernel_rfl, fun W => by go_simp⟩) ?_
                        refine wpAny_take (i := 6) (v := undef) rfl (by kernel_rfl) (by kernel_rfl) (by kernel_rfl) (fun _ _ _ h => h) (Or.inr ⟨by kernel_rfl, rfl⟩) ?_
                        refine wpAny_take (i := 7) (v := undef) rfl (by kernel_rfl) (by kernel_rfl) (by kernel_rfl) (fun _ _ _ h => h) (Or.inr ⟨by kernel_rfl, rfl⟩) ?_
                        refine wpAny_take (i := 8) (v := undef) rfl (by kernel_rfl) (by kernel_rfl) (by kernel_rfl) (fun _ _ _ h => h) (Or.inr ⟨by kernel_rfl, rfl⟩) ?_
                        refine wpAny_take (i := 9) (v := undef) rfl (by kernel_rfl) (by kernel_rfl) (by kernel_rfl) (fun _ _ _ h => h) (Or.inr ⟨by kernel_rfl, rfl⟩) ?_
                        refine wpAny_take (i := 10) (v := undef) rfl (by kernel_rfl) (by kernel_rfl) (by kernel_rfl) (fun _ _ _ h => h) (Or.inr ⟨by kernel_rfl, rfl⟩) ?_
                        refine wpAny_take (i := 11) (v := undef) rfl (by kernel_rfl) (by kernel_rfl) (by kernel_rfl) (fun _ _ _ h => h) (Or.inr ⟨by kernel_rfl, rfl⟩) ?_
                        refine wpAny_take (i := 12) (v := undef) rfl (by kernel_rfl) (by kernel_rfl) (by kernel_rfl) (fun _ _ _ h => h) (Or.inr ⟨by kernel_rfl, rfl⟩) ?_
                        refine wpAny_take (i := 13) (v := undef) rfl (by kernel_rfl) (by kernel_rfl) (by kernel_rfl) (fun _ _ _ h => h) (Or.inr ⟨by kernel_rfl, rfl⟩) ?_
                        refine wpAny_take (i := 14) (v := undef) rfl (by kernel_rfl) (by kernel_rfl) (by kernel_rfl) (fun _ _ _ h => h) (Or.inr ⟨by kernel_rfl, rfl⟩) ?_
                        refine wpAny_take (i := 15) (v := undef) rfl (by kernel_rfl) (by kernel_rfl) (by kernel_rfl) (fun _ _ _ h => h) (Or.inr ⟨by kernel_rfl, rfl⟩) ?_
                        refine wpAny_take (i := 16) (v := undef) rfl (by kernel_rfl) (by kernel_rfl) (by kernel_rfl) (fun _ _ _ h => h) (Or.inr ⟨by kernel_rfl, rfl⟩) ?_
                        refine wpAny_take (i := 17) (v := undef) rfl (by kernel_rfl) (by kernel_rfl) (by kernel_rfl) (fun _ _ _ h => h) (Or.inr ⟨by kernel_rfl, rfl⟩) ?_
                        refine wpAny_take (i := 18) (v := .bool false) rfl (by kernel_rfl) (by kernel_rfl) (by kernel_rfl) (fun _ _ _ h => h) (Or.inl ⟨by kernel_rfl, fun W => by go_simp⟩) ?_
                        refine wpAny_take (i := 19) (v := .bool false) rfl (by kernel_rfl) (by kernel_rfl) (by kernel_rfl) (fun _ _ _ h => h) (Or.inl ⟨by kernel_rfl, fun W => by go_simp⟩) ?_
                        refine wpAny_take (i := 20) (v := .slice (some ⟨b, off, none⟩) 14 cp) rfl (by kernel_rfl) (by kernel_rfl) (by kernel_rfl) (fun _ _ _ h => h) (Or.inl ⟨by kernel_rfl, fun W => by go_simp⟩) ?_
                        refine wpAny_take (i := 21) (v := .int .i64 k) rfl (by kernel_rfl) (by kernel_rfl) (by kernel_rfl) (fun _ _ _ h => h) (Or.inl ⟨by kernel_rfl, fun W => by go_simp⟩) ?_
                        refine wpAny_take (i := 22) (v := .int .i64 i) rfl (by kernel_rfl) (by kernel_rfl) (by kernel_rfl) (fun _ _ _ h => h) (Or.inl ⟨by kernel_rfl, fun W => by go_simp⟩) ?_
                        refine wpAny_ready (rs := [23]) (by kernel_rfl) (by simp) (AllReady.cons rfl (fun K hK => ?_) AllReady.nil)
                        go_simp
                        refine (hsees_any _ 14 cp L _ hN (HLC.out _ (below_own hbel (ho1))) k i).mono ?_
                        rintro e w3 ⟨rfl, hb3⟩
                        rw [HNS.out]
                        have ho3 : Below wr.heap.size wr w3 := below_own ho1 hb3
                        refine hK _ _ ?_
                        clear hK K
                        refine wpAny_take (i := 24) (v := .bool false) rfl (by kernel_rfl) (by kernel_rfl) (by kernel_rfl) (fun _ _ _ h => h) (Or.inl ⟨by kernel_rfl, fun W => by go_simp⟩) ?_
                        refine wpAny_done (by kernel_rfl) ?_ _
                        simp only [onlyN]
                        go_simp
                        exact hK' _ ho3
                      · intro wX hbX
                        have hbelX := below_own hbel hbX
                        clear hbX hbel x0 x1 x2 x3 x4 x5 x6 x7 z0 z1 z2 z3 z4 z5 z6 z7
                        go_wp2
                        go_loopw [99] (fun q wr => ∃ (o : Nat), o ≤ 14 ∧ q = .int .i64 o ∧ Below wN.heap.size wN wr) (fun q _ => 14 - (intOf q).toNat)
                        case atStart => exact ⟨0, Nat.zero_le _, rfl, hbelX⟩
                        case round =>
                          clear hbelX
                          obtain ⟨o, ho, rfl, hbel⟩ := hrel
                          by_cases hlt3 : o < 14
                          · have do1 : decide ((o : Int) < (14 : Int)) = true := by simp; omega
                            have do2 : decide (o < 14) = true := by simp; omega
                            cases hs2 : sees (L.map TI.t) (k : Int) (o : Int)
                            · have HS2 := Lib.hid hs2
                              clear hs2
                              go_wp2_with (go_at_call 13; refine (hsees_any _ 14 cp L _ hN (HLC.out _ hbel) k o).mono ?_; rintro e w5 ⟨rfl, hb5⟩; rw [HS2.out])
                              go_roundw
                              case rel => exact ⟨o + 1, by omega, by go_num, below_own hbel hb5⟩
                              case measure => simp [intOf]; omega
                            · have HS2 := Lib.hid hs2
                              by_cases hoi : o = i
                              · have dn : ((o : Int) != (i : Int)) = false := by simp [hoi]
                                have dn' : ((o : Int) == (i : Int)) = true := by simp [hoi]
                                clear hs2 hoi
                                go_wp2_with (go_at_call 13; refine (hsees_any _ 14 cp L _ hN (HLC.out _ hbel) k o).mono ?_; rintro e w5 ⟨rfl, hb5⟩; rw [HS2.out])
                                go_roundw
                                case rel => exact ⟨o + 1, by omega, by go_num, below_own hbel hb5⟩
                                case measure => simp [intOf]; omega
                              · have dn : ((o : Int) != (i : Int)) = true := by simp; omega
                                have dn' : ((o : Int) == (i : Int)) = false := by simp; omega
                                have HS3 := Lib.hid (seen_on hg.out HS.out hs2 hoi)
                                have t1 : True := trivial
                                clear hs2 hoi
                                go_wp2_with (first
                                  | (go_at_call 13; have _t := t1; refine (hsees_any _ 14 cp L _ hN (HLC.out _ hbel) k o).mono ?_; rintro e w5 ⟨rfl, hb5⟩; rw [HS2.out]; clear t1)
                                  | (go_at_call 13; refine (hsees_any _ 14 cp L _ hN (HLC.out _ (below_own hbel hb5)) i o).mono ?_; rintro e w6 ⟨rfl, hb6⟩; rw [HS3.out]))
                                go_roundw
                                case rel => exact ⟨o + 1, by omega, by go_num, below_own (below_own hbel hb5) hb6⟩
                                case measure => simp [intOf]; omega
                          · obtain rfl : o = 14 := by omega
                            go_wp2
                            go_roundw
                            case rel => exact ⟨k + 1, by omega, by go_num, hbel⟩
                            case measure => simp [intOf]; omega

                    · have HLE := Lib.hid (seen_less hg.out HX.out HZZ.out HS.out hu)
                      clear hu
                      go_wp2_with fail
                      apply region_cut (fun W' => Below wr.heap.size wr W')
                      · intro hK'
                        refine region_plain (N := 25) rfl (by kernel_rfl) ?_
                        refine wpAny_take (i := 0) (v := .slice (some ⟨b, off, none⟩) 14 cp) rfl (by kernel_rfl) (by kernel_rfl) (by kernel_rfl) (fun _ _ _ h => h) (Or.inl ⟨by kernel_rfl, fun W => by go_simp⟩) ?_
                        refine wpAny_take (i := 1) (v := .int .i64 i) rfl (by kernel_rfl) (by kernel_rfl) (by kernel_rfl) (fun _ _ _ h => h) (Or.inl ⟨by kernel_rfl, fun W => by go_simp⟩) ?_
                        refine wpAny_take (i := 2) (v := .pointer (some ⟨b, off + i * 8, none⟩)) rfl (by kernel_rfl) (by kernel_rfl) (by kernel_rfl) (fun _ _ _ h => h) (Or.inl ⟨by kernel_rfl, fun W => by go_simp⟩) ?_
                        refine wpAny_ready (rs := [3]) (by kernel_rfl) (by simp) (AllReady.cons rfl (fun K hK => ?_) AllReady.nil)
                        go_simp
                        refine hK _ _ ?_
                        clear hK K
                        refine wpAny_ready (rs := [4]) (by kernel_rfl) (by simp) (AllReady.cons rfl (fun K hK => ?_) AllReady.nil)
                        go_simp
                        refine (hhas_any x _).mono ?_
                        rintro e w1 ⟨rfl, hb1⟩
                        rw [HU.out]
                        have ho1 : Below wr.heap.size wr w1 := below_own (own_drew (own_refl _)) hb1
                        have x0_1 := cell_on ho1 x0
                        have x1_1 := cell_on ho1 x1
                        have x2_1 := cell_on ho1 x2
                        have x3_1 := cell_on ho1 x3
                        have x4_1 := cell_on ho1 x4
                        have x5_1 := cell_on ho1 x5
                        have x6_1 := cell_on ho1 x6
                        have x7_1 := cell_on ho1 x7
                        have z0_1 := cell_on ho1 z0
                        have z1_1 := cell_on ho1 z1
                        have z2_1 := cell_on ho1 z2
                        have z3_1 := cell_on ho1 z3
                        have z4_1 := cell_on ho1 z4
                        have z5_1 := cell_on ho1 z5
                        have z6_1 := cell_on ho1 z6
                        have z7_1 := cell_on ho1 z7
                        refine hK _ _ ?_
                        clear hK K
                        refine wpAny_take (i := 5) (v := .bool true) rfl (by kernel_rfl) (by kernel_rfl) (by kernel_rfl) (fun _ _ _ h => h) (Or.inl ⟨by kernel_rfl, fun W => by go_simp⟩) ?_
                        refine wpAny_take (i := 6) (v := .slice (some ⟨b, off, none⟩) 14 cp) rfl (by kernel_rfl) (by kernel_rfl) (by kernel_rfl) (fun _ _ _ h => h) (Or.inl ⟨by kernel_rfl, fun W => by go_simp⟩) ?_
                        refine wpAny_take (i := 7) (v := .int .i64 k) rfl (by kernel_rfl) (by kernel_rfl) (by kernel_rfl) (fun _ _ _ h => h) (Or.inl ⟨by kernel_rfl, fun W => by go_simp⟩) ?_
                        refine wpAny_take (i := 8) (v := .pointer (some ⟨b, off + k * 8, none⟩)) rfl (by kernel_rfl) (by kernel_rfl) (by kernel_rfl) (fun _ _ _ h => h) (Or.inl ⟨by kernel_rfl, fun W => by go_simp⟩) ?_
                        refine wpAny_take (i := 9) (v := .pointer (some ⟨b, off + k * 8 + 3, none⟩)) rfl (by kernel_rfl) (by kernel_rfl) (by kernel_rfl) (fun _ _ _ h => h) (Or.inl ⟨by kernel_rfl, fun W => by go_simp⟩) ?_
                        refine wpAny_take (i := 11) (v := .slice (some ⟨b, off, none⟩) 14 cp) rfl (by kernel_rfl) (by kernel_rfl) (by kernel_rfl) (fun _ _ _ h => h) (Or.inl ⟨by kernel_rfl, fun W => by go_simp⟩) ?_
                        refine wpAny_take (i := 12) (v := .int .i64 i) rfl (by kernel_rfl) (by kernel_rfl) (by kernel_rfl) (fun _ _ _ h => h) (Or.inl ⟨by kernel_rfl, fun W => by go_simp⟩) ?_
                        refine wpAny_take (i := 13) (v := .pointer (some ⟨b, off + i * 8, none⟩)) rfl (by kernel_rfl) (by kernel_rfl) (by kernel_rfl) (fun _ _ _ h => h) (Or.inl ⟨by kernel_rfl, fun W => by go_simp⟩) ?_
                        refine wpAny_take (i := 14) (v := .pointer (some ⟨b, off + i * 8 + 3, none⟩)) rfl (by kernel_rfl) (by kernel_rfl) (by kernel_rfl) (fun _ _ _ h => h) (Or.inl ⟨by kernel_rfl, fun W => by go_simp⟩) ?_
                        apply cut2
                        · intro hS
                          refine wpAny_ready (rs := [10, 15]) (by kernel_rfl) (by simp) (AllReady.cons rfl (fun K hK => ?_) (AllReady.cons rfl (fun K hK => ?_) AllReady.nil))
                          · go_simp
                            refine hK _ _ ?_
                            clear hK K
                            refine wpAny_ready (rs := [15]) (by kernel_rfl) (by simp) (AllReady.cons rfl (fun K hK => ?_) AllReady.nil)
                            go_simp
                            refine hK _ _ ?_
                            clear hK K
                            exact hS
                          · go_simp
                            refine hK _ _ ?_
                            clear hK K
                            refine wpAny_ready (rs := [10]) (by kernel_rfl) (by simp) (AllReady.cons rfl (fun K hK => ?_) AllReady.nil)
                            go_simp
                            refine hK _ _ ?_
                            clear hK K
                            exact wpAny_swap hS (by kernel_rfl)
                        · refine wpAny_ready (rs := [16]) (by kernel_rfl) (by simp) (AllReady.cons rfl (fun K hK => ?_) AllReady.nil)
                          go_simp
                          refine (less_any _ _ _ _ _ _ _).mono ?_
                          rintro e w2 ⟨rfl, hb2⟩
                          rw [HLE.out]
                          have ho2 : Below wr.heap.size wr w2 := below_own ho1 hb2
                          refine hK _ _ ?_
                          clear hK K
                          refine wpAny_take (i := 17) (v := .bool false) rfl (by kernel_rfl) (by kernel_rfl) (by kernel_rfl) (fun _ _ _ h => h) (Or.inl ⟨by kernel_rfl, fun W => by go_simp⟩) ?_
                          refine wpAny_take (i := 18) (v := .bool false) rfl (by kernel_rfl) (by kernel_rfl) (by kernel_rfl) (fun _ _ _ h => h) (Or.inl ⟨by kernel_rfl, fun W => by go_simp⟩) ?_
                          refine wpAny_take (i := 19) (v := .bool false) rfl (by kernel_rfl) (by kernel_rfl) (by kernel_rfl) (fun _ _ _ h => h) (Or.inl ⟨by kernel_rfl, fun W => by go_simp⟩) ?_
                          refine wpAny_take (i := 20) (v := .slice (some ⟨b, off, none⟩) 14 cp) rfl (by kernel_rfl) (by kernel_rfl) (by kernel_rfl) (fun _ _ _ h => h) (Or.inl ⟨by kernel_rfl, fun W => by go_simp⟩) ?_
                          refine wpAny_take (i := 21) (v := .int .i64 k) rfl (by kernel_rfl) (by kernel_rfl) (by kernel_rfl) (fun _ _ _ h => h) (Or.inl ⟨by kernel_rfl, fun W => by go_simp⟩) ?_
                          refine wpAny_take (i := 22) (v := .int .i64 i) rfl (by kernel_rfl) (by kernel_rfl) (by kernel_rfl) (fun _ _ _ h => h) (Or.inl ⟨by kernel_rfl, fun W => by go_simp⟩) ?_
                          refine wpAny_ready (rs := [23]) (by kernel_rfl) (by simp) (AllReady.cons rfl (fun K hK => ?_) AllReady.nil)
                          go_simp
                          refine (hsees_any _ 14 cp L _ hN (HLC.out _ (below_own hbel (ho2))) k i).mono ?_
                          rintro e w3 ⟨rfl, hb3⟩
                          rw [HNS.out]
                          have ho3 : Below wr.heap.size wr w3 := below_own ho2 hb3
                          refine hK _ _ ?_
                          clear hK K
                          refine wpAny_take (i := 24) (v := .bool false) rfl (by kernel_rfl) (by kernel_rfl) (by kernel_rfl) (fun _ _ _ h => h) (Or.inl ⟨by kernel_rfl, fun W => by go_simp⟩) ?_
                          refine wpAny_done (by kernel_rfl) ?_ _
                          simp only [onlyN]
                          go_simp
                          exact hK' _ ho3
                      · intro wX hbX
                        have hbelX := below_own hbel hbX
                        clear hbX hbel x0 x1 x2 x3 x4 x5 x6 x7 z0 z1 z2 z3 z4 z5 z6 z7
                        go_wp2
                        go_loopw [99] (fun q wr => ∃ (o : Nat), o ≤ 14 ∧ q = .int .i64 o ∧ Below wN.heap.size wN wr) (fun q _ => 14 - (intOf q).toNat)
                        case atStart => exact ⟨0, Nat.zero_le _, rfl, hbelX⟩
                        case round =>
                          clear hbelX
                          obtain ⟨o, ho, rfl, hbel⟩ := hrel
                          by_cases hlt3 : o < 14
                          · have do1 : decide ((o : Int) < (14 : Int)) = true := by simp; omega
                            have do2 : decide (o < 14) = true := by simp; omega
                            cases hs2 : sees (L.map TI.t) (k : Int) (o : Int)
                            · have HS2 := Lib.hid hs2
                              clear hs2
                              go_wp2_with (go_at_call 13; refine (hsees_any _ 14 cp L _ hN (HLC.out _ hbel) k o).mono ?_; rintro e w5 ⟨rfl, hb5⟩; rw [HS2.out])
                              go_roundw
                              case rel => exact ⟨o + 1, by omega, by go_num, below_own hbel hb5⟩
                              case measure => simp [intOf]; omega
                            · have HS2 := Lib.hid hs2
                              by_cases hoi : o = i
                              · have dn : ((o : Int) != (i : Int)) = false := by simp [hoi]
                                have dn' : ((o : Int) == (i : Int)) = true := by simp [hoi]
                                clear hs2 hoi
                                go_wp2_with (go_at_call 13; refine (hsees_any _ 14 cp L _ hN (HLC.out _ hbel) k o).mono ?_; rintro e w5 ⟨rfl, hb5⟩; rw [HS2.out])
                                go_roundw
                                case rel => exact ⟨o + 1, by omega, by go_num, below_own hbel hb5⟩
                                case measure => simp [intOf]; omega
                              · have dn : ((o : Int) != (i : Int)) = true := by simp; omega
                                have dn' : ((o : Int) == (i : Int)) = false := by simp; omega
                                have HS3 := Lib.hid (seen_on hg.out HS.out hs2 hoi)
                                have t1 : True := trivial
                                clear hs2 hoi
                                go_wp2_with (first
                                  | (go_at_call 13; have _t := t1; refine (hsees_any _ 14 cp L _ hN (HLC.out _ hbel) k o).mono ?_; rintro e w5 ⟨rfl, hb5⟩; rw [HS2.out]; clear t1)
                                  | (go_at_call 13; refine (hsees_any _ 14 cp L _ hN (HLC.out _ (below_own hbel hb5)) i o).mono ?_; rintro e w6 ⟨rfl, hb6⟩; rw [HS3.out]))
                                go_roundw
                                case rel => exact ⟨o + 1, by omega, by go_num, below_own (below_own hbel hb5) hb6⟩
                                case measure => simp [intOf]; omega
                          · obtain rfl : o = 14 := by omega
                            go_wp2
                            go_roundw
                            case rel => exact ⟨k + 1, by omega, by go_num, hbel⟩
                            case measure => simp [intOf]; omega

                · obtain rfl : k = 14 := by omega
                  go_wp2
                  go_roundw
                  case rel => exact ⟨i + 1, by omega, by go_num, hbel⟩
                  case measure => simp [intOf]; omega
            · obtain rfl : i = 14 := by omega
              go_wp2_with (go_at_call 12; refine (awake_any _).mono ?_; rintro e w4 ⟨rfl, hb4⟩)
              go_ret
              exact ⟨rfl, below_own hbN (below_own hbel hb4)⟩
        · have hz1 : (ch != 0) = true := by simpa using hz
          have hz2 : (ch == 0) = false := by simpa using hz
          clear hch
          go_wp2_with (first | (go_at_call 9; refine (hcheck_any A 14 cp L _ hN (HLC.out _ (own_refl _)) (by omega) (HOK.out)).mono ?_; rintro e w2 ⟨rfl, hb2⟩; rw [HCH.out]) | (go_at_call 12; refine (awake_any _).mono ?_; rintro e w4 ⟨rfl, hb4⟩))
          go_ret
          exact ⟨rfl, below_own hbN (below_own hb2 hb4)⟩
end Go.Proofs.Ytiapolcpebilmaa.lawHistOrder
