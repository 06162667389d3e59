/-
  The walk of the law HistLies: whatever data come in, the call returns true and leaves what was there. Conditions: the arguments' cells lie as the hypotheses say.
-/
import Derived.Test.YtiapolcpebilmaaIdealT
import Derived.Test.YtiapolcpebilmaaLiesP
import Derived.Test.YtiapolcpebilmaaCheckT
import Derived.Test.YtiapolcpebilmaaAwakeH
namespace Go.Proofs.Ytiapolcpebilmaa.lawHistLies
open Go.RowKit Go.ChangeShapes Go.WideShapes Go.Deep Go.Maps Go.ChangeAt
set_option linter.unusedVariables false

theorem rem_in (z : Int) {N : Nat} (h : 0 < N) (hN : N ≤ 1000) : ∃ i : Nat, wrap64 ((IntKind.u64.wrap z).tmod (N : Int)) = i ∧ i < N := by
  have hz : 0 ≤ IntKind.u64.wrap z := by simp [IntKind.wrap, IntKind.bits, IntKind.signed]; omega
  rw [Int.tmod_eq_emod_of_nonneg hz]
  have h0 : (0 : Int) ≤ IntKind.u64.wrap z % (N : Int) := Int.emod_nonneg _ (by omega)
  have h1 : IntKind.u64.wrap z % (N : Int) < N := Int.emod_lt_of_pos _ (by omega)
  exact ⟨(IntKind.u64.wrap z % (N : Int)).toNat, by unfold wrap64; omega, by omega⟩
/-- an entry's cells in a row of one's own. -/
theorem row_cells {w : World} {base g n cp i : Nat} {L : List TI} {y : TI} (h : w.ownsRow base 45 8 (.slice (some ⟨g, 0, none⟩) n cp) n (flatTI L)) (hy : L[i]? = some y) : w.cell? ⟨g, i * 8, none⟩ = some (.int .i64 y.t.cl) ∧ w.cell? ⟨g, i * 8 + 1, none⟩ = some (.int .u64 y.t.sn) ∧ w.cell? ⟨g, i * 8 + 2, none⟩ = some (.int .i64 y.t.st) ∧ w.cell? ⟨g, i * 8 + 3, none⟩ = some (.int .u64 y.t.ts) ∧ w.cell? ⟨g, i * 8 + 4, none⟩ = some (.int .i64 y.t.dc) ∧ w.cell? ⟨g, i * 8 + 5, none⟩ = some (.int .i64 y.t.tx) ∧ w.cell? ⟨g, i * 8 + 6, none⟩ = some (.slice y.R y.t.rds.length y.rc) ∧ w.cell? ⟨g, i * 8 + 7, none⟩ = some (.slice y.D y.t.wrs.length y.dc) := by
  obtain ⟨b, off, he, h0, h1, h2, h3, h4, h5, h6, h7⟩ := get_tx (Cells.of_own h) hy
  injection he with e
  injection e with e1 e2
  subst e1 e2
  exact ⟨by simpa using h0, by simpa using h1, by simpa using h2, by simpa using h3, by simpa using h4, by simpa using h5, by simpa using h6, by simpa using h7⟩
theorem row_rd {w : World} {base g n cp : Nat} {r : Rd} {rs : List Rd} (h : w.ownsRow base 57 8 (.slice (some ⟨g, 0, none⟩) n cp) n (flatRd (r :: rs))) : w.cell? ⟨g, 0, none⟩ = some (.string r.key) ∧ w.cell? ⟨g, 1, none⟩ = some (.bool r.fd) ∧ w.cell? ⟨g, 2, none⟩ = some (.string r.v.key) ∧ w.cell? ⟨g, 3, none⟩ = some (.string r.v.val) ∧ w.cell? ⟨g, 4, none⟩ = some (.bool r.v.gone) ∧ w.cell? ⟨g, 5, none⟩ = some (.int .u64 r.v.ts) ∧ w.cell? ⟨g, 6, none⟩ = some (.int .i64 r.v.dc) ∧ w.cell? ⟨g, 7, none⟩ = some (.int .i64 r.v.tx) := by
  obtain ⟨b, off, he, h0, h1, h2, h3, h4, h5, h6, h7⟩ := get_rd (k := 0) (x := r) (Cells.of_own h) rfl
  injection he with e
  injection e with e1 e2
  subst e1 e2
  exact ⟨by simpa using h0, by simpa using h1, by simpa using h2, by simpa using h3, by simpa using h4, by simpa using h5, by simpa using h6, by simpa using h7⟩
theorem set_row : ∀ (L : List TI) (i : Nat) (y y' : TI) (j : Nat) (u : Value), L[i]? = some y → j < 8 → y.cells.set j u = y'.cells → (flatTI L).set (i * 8 + j) u = flatTI (L.set i y') := by
  intro L
  induction L with
  | nil => intro i y y' j u h; simp at h
  | cons x L ih =>
    intro i y y' j u h hj he
    cases i with
    | zero =>
      simp at h; subst h
      show (x.cells ++ flatTI L).set (0 * 8 + j) u = y'.cells ++ flatTI L
      rw [Nat.zero_mul, Nat.zero_add, List.set_append_left _ _ (by show j < 8; omega), he]
    | succ i =>
      have e0 : (i + 1) * 8 + j = x.cells.length + (i * 8 + j) := by show _ = 8 + (i * 8 + j); omega
      show (x.cells ++ flatTI L).set _ _ = x.cells ++ flatTI (L.set i y')
      rw [← ih i y y' j u (by simpa using h) hj he, e0, List.set_append_right _ _ (Nat.le_add_right _ _), Nat.add_sub_cancel_left]
theorem set_rd (r r' : Rd) (rs : List Rd) (j : Nat) (u : Value) (hj : j < 8) (h : r.cells.set j u = r'.cells) : (flatRd (r :: rs)).set j u = flatRd (r' :: rs) := by
  show (r.cells ++ flatRd rs).set j u = r'.cells ++ flatRd rs
  rw [List.set_append_left _ _ (by show j < 8; omega), h]
theorem flat_ti (l : List TI) : ∀ u ∈ flatTI l, u.oneCell' = true := one_cells one_ti
theorem flat_rd (l : List Rd) : ∀ u ∈ flatRd l, u.oneCell' = true := one_cells one_rd
theorem set_map (L : List TI) (i : Nat) (y : TI) : (L.set i y).map TI.t = (L.map TI.t).set i y.t := List.map_set
set_option maxRecDepth 100000 in
set_option maxHeartbeats 3000000 in
theorem walk (A : Option Addr) (n c : Nat) (l : List SI) (w : World) (hn : l.length = n) (hm : n ≤ 9223372036854775807) (hA : Cells w A (flatSI l)) (hall : ∀ x ∈ l, x.at w) (at' : Int) : Calls Try.prog 7 #[.slice A n c, .int .i64 at'] w fun e w' => e = .returned (.bool true) ∧ Below w.heap.size w w' := by
  obtain ⟨i0, hi0, hz0, hz1, hz2⟩ := info_parts infoTx
  obtain ⟨i2, hi2, hq0, hq1, hq2⟩ := info_parts infoHrd
  have hinv := Lib.hid (inv_ideal (l.map SI.p) (min (l.map SI.p).length 30))
  go_enter Try.func7, Try.ntmps7
  go_wp2_with fail
  refine (ideal_any A n c l w hn hm hA hall (fun x hx => (hall x hx).wf)).mono ?_
  rintro e w1 ⟨D, cp, L, rfl, hown, hrows, hmap, b1⟩
  have hlen : L.length ≤ 30 := by have h := congrArg List.length hmap; rw [List.length_map] at h; unfold idealL at h; rw [idealTo_len _ _ (by omega)] at h; omega
  have HM := Lib.hid hmap
  clear hmap
  obtain ⟨N, hN⟩ : ∃ N, L.length = N := ⟨_, rfl⟩
  rw [hN] at hown hlen ⊢
  have HN := Lib.hid hN
  have HOWN := Lib.hid hown
  have HROWS := Lib.hid hrows
  by_cases hN0 : N = 0
  · subst hN0
    clear hrows hown hN
    go_wp2_with fail
    refine (awake_any _).mono ?_
    rintro e w9 ⟨rfl, b9⟩
    go_wp2
    go_ret
    exact ⟨rfl, below_own b1 b9⟩
  · have hNp : 0 < N := by omega
    have d0 : ((N : Int) == 0) = false := by simp; omega
    obtain ⟨g, rfl, hg0, hg1, hg2⟩ := row_some hown hNp
    obtain ⟨i, hi, hiN⟩ := rem_in at' hNp (by omega)
    obtain ⟨y, hy⟩ : ∃ y, L[i]? = some y := ⟨_, List.getElem?_eq_getElem (by omega)⟩
    have HY := Lib.hid hy
    have ha : (idealTo (l.map SI.p) (min (l.map SI.p).length 30)).L[i]? = some y.t := by
      have h : (L.map TI.t)[i]? = some y.t := by rw [List.getElem?_map, hy]; rfl
      rw [HM.out] at h
      exact h
    have HA := Lib.hid ha
    obtain ⟨y0, y1, y2, y3, y4, y5, y6, y7⟩ := row_cells hown hy
    have k1 : (0 : Int) ≤ (i : Int) := by omega
    have k2 : (i : Int) < (N : Int) := by omega
    have hfl : (flatTI L).length = N * 8 := by unfold flatTI; rw [flat_length (C := 8) (fun _ => rfl), hN]
    have HFL := Lib.hid hfl
    have htl : (flatTI (L.take (i + 1))).length = (i + 1) * 8 := by unfold flatTI; rw [flat_length (C := 8) (fun _ => rfl), List.length_take, hN]; congr 1; omega
    have HTL := Lib.hid htl
    have htg : (L.take (i + 1))[i]? = some y := by rw [List.getElem?_take, if_pos (by omega)]; exact hy
    have HTG := Lib.hid htg
    clear htl htg
    have HRR0 := Lib.hid (hrows y (List.mem_of_getElem? hy)).1
    obtain ⟨rn, hrn⟩ : ∃ rn, y.t.rds.length = rn := ⟨_, rfl⟩
    have hr4 : rn ≤ 4 := by rw [← hrn]; exact (hrows y (List.mem_of_getElem? hy)).2.2.1
    rw [hrn] at y6
    cases hrd : y.t.rds with
    | nil =>
      have hr0 : rn = 0 := by rw [← hrn, hrd]; rfl
      have dr : decide ((0 : Int) < (rn : Int)) = false := by simp; omega
      have dr2 : ¬ (0 : Int) < (rn : Int) := by omega
      rw [← hrn] at y6 dr dr2
      clear hr0
      obtain ⟨wc, hwc⟩ : ∃ wc, wc = w1 := ⟨_, rfl⟩
      have hbc0 : Below w1.heap.size w1 wc := by rw [hwc]; exact own_refl _
      rw [← hwc] at y0 y1 y2 y3 y4 y5 y6 y7 ⊢
      clear hrn hrd hfl ha hy hown hrows hN hwc
      obtain ⟨u, hu⟩ : ∃ u, y.t.has = u := ⟨_, rfl⟩
      have HU := Lib.hid hu
      obtain ⟨v0, v1, v2, v3, v4, v5, v6, v7⟩ := row_cells (own_on HOWN.out hbc0) HY.out
      cases u
      · clear hu
        go_wp2_with (go_at_call 17; refine (hhas_any y _).mono ?_; rintro e w5 ⟨rfl, b5⟩; rw [HU.out])
        have hbc5 := below_own hbc0 b5
        go_loopw [116] (fun q wr => ∃ (k : Nat), k ≤ i ∧ q = .int .i64 k ∧ Below w1.heap.size w1 wr) (fun q _ => i - (intOf q).toNat)
        case atStart => exact ⟨0, Nat.zero_le _, rfl, hbc5⟩
        case round =>
          obtain ⟨k, hk, rfl, hbl⟩ := hrel
          by_cases hlt : k < i
          · obtain ⟨z, hz⟩ : ∃ z, L[k]? = some z := ⟨_, List.getElem?_eq_getElem (by have := HN.out; omega)⟩
            obtain ⟨z0, z1, z2, z3, z4, z5, z6, z7⟩ := row_cells (own_on HOWN.out hbl) hz
            obtain ⟨x0, x1, x2, x3, x4, x5, x6, x7⟩ := row_cells (own_on HOWN.out hbl) HY.out
            have HZ := Lib.hid hz
            have m1 : (0 : Int) ≤ (k : Int) := by omega
            have m2 : (k : Int) < (N : Int) := by omega
            clear hz
            obtain ⟨uz, huz⟩ : ∃ uz, z.t.has = uz := ⟨_, rfl⟩
            have HUZ := Lib.hid huz
            clear huz
            cases uz
            · go_wp2_with (go_at_call 17; refine (hhas_any z _).mono ?_; rintro e w8 ⟨rfl, b8⟩; rw [HUZ.out]; have hb8 := below_own hbl b8)
              go_roundw
              case rel => exact ⟨k + 1, by omega, by go_num, hb8⟩
              case measure => simp [intOf]; omega
            · have t1 : True := trivial
              go_wp2_with (first
                | (go_at_call 17; have _t := t1; refine (hhas_any z _).mono ?_; rintro e w8 ⟨rfl, b8⟩; rw [HUZ.out]; have hb8 := below_own hbl b8; clear t1; have x0_w8 := cell_on b8 x0; have x1_w8 := cell_on b8 x1; have x2_w8 := cell_on b8 x2; have x3_w8 := cell_on b8 x3; have x4_w8 := cell_on b8 x4; have x5_w8 := cell_on b8 x5; have x6_w8 := cell_on b8 x6; have x7_w8 := cell_on b8 x7)
                | (go_at_call 17; refine (hhas_any y _).mono ?_; rintro e w9 ⟨rfl, b9⟩; rw [HU.out]; have hbc9 := below_own hb8 b9))
              go_roundw
              case rel => exact ⟨k + 1, by omega, by go_num, hbc9⟩
              case measure => simp [intOf]; omega
          · obtain rfl : k = i := by omega
            go_wp2_with (go_at_call 12; refine (awake_any _).mono ?_; rintro e wa ⟨rfl, ba⟩)
            go_ret
            exact ⟨rfl, below_own b1 (below_own hbl ba)⟩
      · have HUT := Lib.hid hu
        clear hu
        have k3 : (i : Int) + 1 ≤ (cp : Int) := by omega
        have k4 : (0 : Int) ≤ (i : Int) + 1 := by omega
        go_wp2_with (first
          | (go_at_call 17; refine (hhas_any y _).mono ?_; rintro e w5 ⟨rfl, b5⟩; rw [HU.out]; have hbc5 := below_own hbc0 b5; have hgl5 : g < w5.heap.size := Nat.lt_of_lt_of_le hg1 hbc5.size)
          | (at_builtin; refine wpList_append_cells _ rfl _ _ 22 rfl w5.heap.size 45 i0 (.agg #[.int .i64 0, .int .u64 0, .int .i64 0, .int .u64 0, .int .i64 0, .int .i64 0, .slice none 0 0, .slice none 0 0]) 8 96 Try.underlying22 hi0 hz0 hz1 hz2 rfl (by omega) _ _ _ rfl (own_empty w5 _ 8) _ (i + 1) _ (flatTI (L.take (i + 1))) rfl HTL.out ((Cells.takeG (cf := TI.cells) (Cells.of_own (own_on HOWN.out hbc5)) (i + 1)).on (own_alloc (own_refl _) _)) (flat_ti _) (by unfold maxLen; omega) (by omega) (by simp) ?_; intro D5 cp5 w6 hown6 hg_w6; simp only [Nat.zero_add, List.nil_append] at hown6; obtain ⟨g5, rfl, g5a, g5b, g5c⟩ := row_some hown6 (by omega); have bb : Below w5.heap.size w5 w6 := below_grown (own_alloc (own_refl w5) _) (own_empty w5 _ 8) (Nat.le_refl _) hg_w6; obtain ⟨e0, e1, e2, e3, e4, e5, e6, e7⟩ := row_cells hown6 HTG.out; have ef : ∀ q, w6.frozen? ⟨g5, q, none⟩ = false := (fun q => hown6.frozenAt q); have ef1 := ef (i * 8 + 1)))
        have hrowT : (w6.setCell ⟨g5, i * 8 + 1, none⟩ (.int .u64 y.t.ts)).ownsRow w5.heap.size 45 8 (.slice (some ⟨g5, 0, none⟩) (i + 1) cp5) (i + 1) (flatTI ((L.take (i + 1)).set i ⟨{ y.t with sn := y.t.ts }, y.R, y.rc, y.D, y.dc⟩)) := by
          have h := (hown6.stored (i * 8 + 1) (.int .u64 y.t.ts)).1
          rw [set_row (L.take (i + 1)) i y ⟨{ y.t with sn := y.t.ts }, y.R, y.rc, y.D, y.dc⟩ 1 _ HTG.out (by omega) rfl] at h
          exact h
        have hbX : Below w5.heap.size w5 (w6.setCell ⟨g5, i * 8 + 1, none⟩ (.int .u64 y.t.ts)) := own_set bb g5a _
        have hokX : ∀ z ∈ (L.take (i + 1)).set i ⟨{ y.t with sn := y.t.ts }, y.R, y.rc, y.D, y.dc⟩, z.ok (w6.setCell ⟨g5, i * 8 + 1, none⟩ (.int .u64 y.t.ts)) := by
          intro z hz
          have q0 := (((HROWS.out.ok y (List.mem_of_getElem? HY.out)).on hbc5).on hbX)
          rcases List.mem_or_eq_of_mem_set hz with h | rfl
          · exact ((HROWS.out.ok z (List.mem_of_mem_take h)).on hbc5).on hbX
          · exact ⟨⟨q0.at'.r, q0.at'.d⟩, q0.rfit, q0.dfit⟩
        have hch : check (((L.take (i + 1)).set i ⟨{ y.t with sn := y.t.ts }, y.R, y.rc, y.D, y.dc⟩).map TI.t) = (2, (i : Int)) := by rw [set_map, List.map_take, HM.out]; exact low_check hinv.out HA.out HUT.out
        have HCH := Lib.hid hch
        clear hch
        refine (hcheck_any (some ⟨g5, 0, none⟩) (i + 1) cp5 ((L.take (i + 1)).set i ⟨{ y.t with sn := y.t.ts }, y.R, y.rc, y.D, y.dc⟩) _ (by rw [List.length_set, List.length_take, HN.out]; omega) (Cells.of_own hrowT) (by omega) hokX).mono ?_
        rintro e w7 ⟨rfl, b7⟩
        rw [HCH.out]
        have hbc7 : Below w1.heap.size w1 w7 := below_own (below_own hbc5 hbX) b7
        clear e0 e1 e2 e3 e4 e5 e6 e7 ef ef1 hrowT hbX hokX b7 bb hown6 hg_w6 g5a g5b g5c
        go_wp2
        go_loopw [116] (fun q wr => ∃ (k : Nat), k ≤ i ∧ q = .int .i64 k ∧ Below w1.heap.size w1 wr) (fun q _ => i - (intOf q).toNat)
        case atStart => exact ⟨0, Nat.zero_le _, rfl, hbc7⟩
        case round =>
          obtain ⟨k, hk, rfl, hbl⟩ := hrel
          by_cases hlt : k < i
          · obtain ⟨z, hz⟩ : ∃ z, L[k]? = some z := ⟨_, List.getElem?_eq_getElem (by have := HN.out; omega)⟩
            obtain ⟨z0, z1, z2, z3, z4, z5, z6, z7⟩ := row_cells (own_on HOWN.out hbl) hz
            obtain ⟨x0, x1, x2, x3, x4, x5, x6, x7⟩ := row_cells (own_on HOWN.out hbl) HY.out
            have HZ := Lib.hid hz
            have m1 : (0 : Int) ≤ (k : Int) := by omega
            have m2 : (k : Int) < (N : Int) := by omega
            clear hz
            obtain ⟨uz, huz⟩ : ∃ uz, z.t.has = uz := ⟨_, rfl⟩
            have HUZ := Lib.hid huz
            clear huz
            cases uz
            · go_wp2_with (go_at_call 17; refine (hhas_any z _).mono ?_; rintro e w8 ⟨rfl, b8⟩; rw [HUZ.out]; have hb8 := below_own hbl b8)
              go_roundw
              case rel => exact ⟨k + 1, by omega, by go_num, hb8⟩
              case measure => simp [intOf]; omega
            · have t1 : True := trivial
              have hzt : (L.take (i + 1))[k]? = some z := by rw [List.getElem?_take, if_pos (by omega)]; exact HZ.out
              have HZT := Lib.hid hzt
              have hb' : (idealTo (l.map SI.p) (min (l.map SI.p).length 30)).L[k]? = some z.t := by
                have h : (L.map TI.t)[k]? = some z.t := by rw [List.getElem?_map, HZ.out]; rfl
                rw [HM.out] at h
                exact h
              have HB := Lib.hid hb'
              have m3 : (k : Int) < (i : Int) + 1 := by omega
              clear hzt hb'
              go_wp2_with (first
                | (go_at_call 17; have _t := t1; refine (hhas_any z _).mono ?_; rintro e w8 ⟨rfl, b8⟩; rw [HUZ.out]; have hb8 := below_own hbl b8; clear t1; have x0_w8 := cell_on b8 x0; have x1_w8 := cell_on b8 x1; have x2_w8 := cell_on b8 x2; have x3_w8 := cell_on b8 x3; have x4_w8 := cell_on b8 x4; have x5_w8 := cell_on b8 x5; have x6_w8 := cell_on b8 x6; have x7_w8 := cell_on b8 x7)
                | (go_at_call 17; refine (hhas_any y _).mono ?_; rintro e w9 ⟨rfl, b9⟩; rw [HU.out]; have hbc9 := below_own hb8 b9; have hgl9 : g < w9.heap.size := Nat.lt_of_lt_of_le hg1 hbc9.size)
                | (at_builtin; refine wpList_append_cells _ rfl _ _ 22 rfl w9.heap.size 45 i0 (.agg #[.int .i64 0, .int .u64 0, .int .i64 0, .int .u64 0, .int .i64 0, .int .i64 0, .slice none 0 0, .slice none 0 0]) 8 96 Try.underlying22 hi0 hz0 hz1 hz2 rfl (by omega) _ _ _ rfl (own_empty w9 _ 8) _ (i + 1) _ (flatTI (L.take (i + 1))) rfl HTL.out ((Cells.takeG (cf := TI.cells) (Cells.of_own (own_on HOWN.out hbc9)) (i + 1)).on (own_alloc (own_refl _) _)) (flat_ti _) (by unfold maxLen; omega) (by omega) (by simp) ?_; intro D5 cp6 w6 hown6 hg_w6; simp only [Nat.zero_add, List.nil_append] at hown6; obtain ⟨g6, rfl, g6a, g6b, g6c⟩ := row_some hown6 (by omega); have bb : Below w9.heap.size w9 w6 := below_grown (own_alloc (own_refl w9) _) (own_empty w9 _ 8) (Nat.le_refl _) hg_w6; obtain ⟨e0, e1, e2, e3, e4, e5, e6, e7⟩ := row_cells hown6 HTG.out; have ef : ∀ q, w6.frozen? ⟨g6, q, none⟩ = false := (fun q => hown6.frozenAt q); have ef3 := ef (i * 8 + 3); have ef4 := ef (i * 8 + 4); have ef5 := ef (i * 8 + 5); obtain ⟨f0, f1, f2, f3, f4, f5, f6, f7⟩ := row_cells hown6 HZT.out))
              have hrowT : (((w6.setCell ⟨g6, i * 8 + 3, none⟩ (.int .u64 z.t.ts)).setCell ⟨g6, i * 8 + 4, none⟩ (.int .i64 z.t.dc)).setCell ⟨g6, i * 8 + 5, none⟩ (.int .i64 z.t.tx)).ownsRow w9.heap.size 45 8 (.slice (some ⟨g6, 0, none⟩) (i + 1) cp6) (i + 1) (flatTI ((L.take (i + 1)).set i ⟨{ y.t with ts := z.t.ts, dc := z.t.dc, tx := z.t.tx }, y.R, y.rc, y.D, y.dc⟩)) := by
                have hli : i < (L.take (i + 1)).length := (List.getElem?_eq_some_iff.1 HTG.out).1
                have h := (((hown6.stored (i * 8 + 3) (.int .u64 z.t.ts)).1.stored (i * 8 + 4) (.int .i64 z.t.dc)).1.stored (i * 8 + 5) (.int .i64 z.t.tx)).1
                have e1 := set_row (L.take (i + 1)) i y ⟨{ y.t with ts := z.t.ts }, y.R, y.rc, y.D, y.dc⟩ 3 (.int .u64 z.t.ts) HTG.out (by omega) rfl
                have e2 := set_row ((L.take (i + 1)).set i ⟨{ y.t with ts := z.t.ts }, y.R, y.rc, y.D, y.dc⟩) i ⟨{ y.t with ts := z.t.ts }, y.R, y.rc, y.D, y.dc⟩ ⟨{ y.t with ts := z.t.ts, dc := z.t.dc }, y.R, y.rc, y.D, y.dc⟩ 4 (.int .i64 z.t.dc) (List.getElem?_set_self hli) (by omega) rfl
                rw [List.set_set] at e2
                have e3 := set_row ((L.take (i + 1)).set i ⟨{ y.t with ts := z.t.ts, dc := z.t.dc }, y.R, y.rc, y.D, y.dc⟩) i ⟨{ y.t with ts := z.t.ts, dc := z.t.dc }, y.R, y.rc, y.D, y.dc⟩ ⟨{ y.t with ts := z.t.ts, dc := z.t.dc, tx := z.t.tx }, y.R, y.rc, y.D, y.dc⟩ 5 (.int .i64 z.t.tx) (List.getElem?_set_self hli) (by omega) rfl
                rw [List.set_set] at e3
                rw [e1, e2, e3] at h
                exact h
              have hbX : Below w9.heap.size w9 (((w6.setCell ⟨g6, i * 8 + 3, none⟩ (.int .u64 z.t.ts)).setCell ⟨g6, i * 8 + 4, none⟩ (.int .i64 z.t.dc)).setCell ⟨g6, i * 8 + 5, none⟩ (.int .i64 z.t.tx)) := own_set (own_set (own_set bb g6a _) g6a _) g6a _
              have hokX : ∀ v ∈ (L.take (i + 1)).set i ⟨{ y.t with ts := z.t.ts, dc := z.t.dc, tx := z.t.tx }, y.R, y.rc, y.D, y.dc⟩, v.ok (((w6.setCell ⟨g6, i * 8 + 3, none⟩ (.int .u64 z.t.ts)).setCell ⟨g6, i * 8 + 4, none⟩ (.int .i64 z.t.dc)).setCell ⟨g6, i * 8 + 5, none⟩ (.int .i64 z.t.tx)) := by
                intro v hv
                have q0 := (((HROWS.out.ok y (List.mem_of_getElem? HY.out)).on hbc9).on hbX)
                rcases List.mem_or_eq_of_mem_set hv with h | rfl
                · exact ((HROWS.out.ok v (List.mem_of_mem_take h)).on hbc9).on hbX
                · exact ⟨⟨q0.at'.r, q0.at'.d⟩, q0.rfit, q0.dfit⟩
              have hch : check (((L.take (i + 1)).set i ⟨{ y.t with ts := z.t.ts, dc := z.t.dc, tx := z.t.tx }, y.R, y.rc, y.D, y.dc⟩).map TI.t) = (1, (i : Int)) := by rw [set_map, List.map_take, HM.out]; exact twin_check hinv.out HA.out HB.out hlt HUT.out HUZ.out
              have HCH2 := Lib.hid hch
              clear hch
              refine (hcheck_any (some ⟨g6, 0, none⟩) (i + 1) cp6 ((L.take (i + 1)).set i ⟨{ y.t with ts := z.t.ts, dc := z.t.dc, tx := z.t.tx }, y.R, y.rc, y.D, y.dc⟩) _ (by rw [List.length_set, List.length_take, HN.out]; omega) (Cells.of_own hrowT) (by omega) hokX).mono ?_
              rintro e wv ⟨rfl, bv⟩
              rw [HCH2.out]
              go_wp2_with (go_at_call 12; refine (awake_any _).mono ?_; rintro e wa ⟨rfl, ba⟩)
              go_ret
              exact ⟨rfl, below_own b1 (below_own (below_own (below_own hbc9 hbX) bv) ba)⟩
          · obtain rfl : k = i := by omega
            go_wp2_with (go_at_call 12; refine (awake_any _).mono ?_; rintro e wa ⟨rfl, ba⟩)
            go_ret
            exact ⟨rfl, below_own b1 (below_own hbl ba)⟩
    | cons r rs =>
      have hrp : 0 < rn := by rw [← hrn, hrd]; simp
      have dr : decide ((0 : Int) < (rn : Int)) = true := by simp; omega
      have dr2 : (0 : Int) < (rn : Int) := by omega
      have hrr : w1.ownsRow w.heap.size 57 8 (.slice y.R rn y.rc) rn (flatRd (r :: rs)) := by have h := HRR0.out; rw [hrn, hrd] at h; exact h
      obtain ⟨g1, hy1, hg1a, hg1b, hg1c⟩ := row_some hrr hrp
      rw [hy1] at y6 hrr
      have HRR := Lib.hid hrr
      have HRD := Lib.hid hrd
      have hrl : (flatRd (r :: rs)).length = rn * 8 := by unfold flatRd; rw [flat_length (C := 8) (fun _ => rfl), ← hrn, hrd]
      have HRL := Lib.hid hrl
      obtain ⟨wc, hwc⟩ : ∃ wc, wc = w1 := ⟨_, rfl⟩
      rw [← hwc] at y0 y1 y2 y3 y4 y5 y6 y7 ⊢
      have hbc : Below w1.heap.size w1 wc := by rw [hwc]; exact own_refl _
      have HRN := Lib.hid hrn
      clear hy1 hrn hrd hrr hrl hfl ha hy hown hrows hN hwc
      cases hfd : r.fd
      · have HFD := Lib.hid hfd
        clear hfd
        go_wp2_with (first
          | (at_builtin; refine wpList_append_cells _ rfl _ _ 22 rfl wc.heap.size 45 i0 (.agg #[.int .i64 0, .int .u64 0, .int .i64 0, .int .u64 0, .int .i64 0, .int .i64 0, .slice none 0 0, .slice none 0 0]) 8 96 Try.underlying22 hi0 hz0 hz1 hz2 rfl (by omega) _ _ _ rfl (own_empty wc _ 8) _ N _ (flatTI L) rfl HFL.out ((Cells.of_own (own_on HOWN.out hbc)).on (own_alloc (own_refl _) _)) (flat_ti _) (by unfold maxLen; omega) (by omega) (by simp) ?_; intro D2 cp2 w2 hown2 hg_w2; simp only [Nat.zero_add, List.nil_append] at hown2; obtain ⟨g2, rfl, hg2a, hg2b, hg2c⟩ := row_some hown2 hNp; have b2 : Below wc.heap.size wc w2 := below_grown (own_alloc (own_refl wc) _) (own_empty wc _ 8) (Nat.le_refl _) hg_w2; have y0b := cell_on b2 y0; have y1b := cell_on b2 y1; have y2b := cell_on b2 y2; have y3b := cell_on b2 y3; have y4b := cell_on b2 y4; have y5b := cell_on b2 y5; have y6b := cell_on b2 y6; have y7b := cell_on b2 y7; have hgl2 : g < w2.heap.size := World.block_lt_of_cell? _ _ y6b)
          | (at_builtin; refine wpList_append_cells _ rfl _ _ 42 rfl w2.heap.size 57 i2 (.agg #[.string ⟨#[]⟩, .bool false, .string ⟨#[]⟩, .string ⟨#[]⟩, .bool false, .int .u64 0, .int .i64 0, .int .i64 0]) 8 88 Try.underlying42 hi2 hq0 hq1 hq2 rfl (by omega) _ _ _ rfl (own_empty w2 _ 8) _ rn _ (flatRd (r :: rs)) rfl HRL.out ((Cells.of_own (own_on HRR.out (below_own hbc b2))).on (own_alloc (own_refl _) _)) (flat_rd _) (by unfold maxLen; omega) (by omega) (by simp) ?_; intro D3 cp3 w3 hown3 hg_w3; simp only [Nat.zero_add, List.nil_append] at hown3; obtain ⟨g3, rfl, hg3a, hg3b, hg3c⟩ := row_some hown3 hrp; have b3 : Below w2.heap.size w2 w3 := below_grown (own_alloc (own_refl w2) _) (own_empty w2 _ 8) (Nat.le_refl _) hg_w3; obtain ⟨e0, e1, e2, e3, e4, e5, e6, e7⟩ := row_rd hown3; have ef : ∀ q, w3.frozen? ⟨g3, q, none⟩ = false := (fun q => hown3.frozenAt q); have ef1 := ef 1; rw [HFD.out] at e1; obtain ⟨f0, f1, f2, f3, f4, f5, f6, f7⟩ := row_cells (own_on hown2 b3) HY.out; have ff : ∀ q, w3.frozen? ⟨g2, q, none⟩ = false := (fun q => (own_on hown2 b3).frozenAt q); have ff6 := ff (i * 8 + 6); have hne3 : ¬ g2 = g3 := (by omega)))
        have hrowR : (w3.setCell ⟨g3, 1, none⟩ (.bool true)).ownsRow w2.heap.size 57 8 (.slice (some ⟨g3, 0, none⟩) rn cp3) rn (flatRd (lieOf r :: rs)) := by
          have h := (hown3.stored 1 (.bool true)).1
          rw [set_rd r (lieOf r) rs 1 (.bool true) (by omega) (by unfold lieOf Rd.cells; rw [HFD.out]; rfl)] at h
          exact h
        have hsz2 := b2.size
        have hYE : y.cells.set 6 (.slice (some ⟨g3, 0, none⟩) rn cp3) = (⟨{ y.t with rds := lieOf r :: rs }, some ⟨g3, 0, none⟩, cp3, y.D, y.dc⟩ : TI).cells := by
          have hl : (lieOf r :: rs).length = rn := by rw [← HRN.out, HRD.out]; rfl
          show _ = ([.int .i64 y.t.cl, .int .u64 y.t.sn, .int .i64 y.t.st, .int .u64 y.t.ts, .int .i64 y.t.dc, .int .i64 y.t.tx, .slice (some ⟨g3, 0, none⟩) (lieOf r :: rs).length cp3, .slice y.D y.t.wrs.length y.dc] : List Value)
          rw [hl]; rfl
        have hrowR' : ((w3.setCell ⟨g3, 1, none⟩ (.bool true)).setCell ⟨g2, i * 8 + 6, none⟩ (.slice (some ⟨g3, 0, none⟩) rn cp3)).ownsRow w2.heap.size 57 8 (.slice (some ⟨g3, 0, none⟩) rn cp3) rn (flatRd (lieOf r :: rs)) :=
          ((Turns.refl (one g2) _).set (a := ⟨g2, i * 8 + 6, none⟩) (fun _ => rfl) _).row hrowR (fun q e e' => by have h1 : g3 = q := (by injection e); have h2 : q = g2 := e'; omega)
        have hrowT : ((w3.setCell ⟨g3, 1, none⟩ (.bool true)).setCell ⟨g2, i * 8 + 6, none⟩ (.slice (some ⟨g3, 0, none⟩) rn cp3)).ownsRow wc.heap.size 45 8 (.slice (some ⟨g2, 0, none⟩) N cp2) N (flatTI (L.set i ⟨{ y.t with rds := lieOf r :: rs }, some ⟨g3, 0, none⟩, cp3, y.D, y.dc⟩)) := by
          have h0 : (w3.setCell ⟨g3, 1, none⟩ (.bool true)).ownsRow wc.heap.size 45 8 (.slice (some ⟨g2, 0, none⟩) N cp2) N (flatTI L) := ((Turns.refl (one g3) w3).set (a := ⟨g3, 1, none⟩) (fun _ => rfl) _).row (own_on hown2 b3) (fun q e e' => by have h1 : g2 = q := (by injection e); have h2 : q = g3 := e'; omega)
          have h := (h0.stored (i * 8 + 6) (.slice (some ⟨g3, 0, none⟩) rn cp3)).1
          rw [set_row L i y ⟨{ y.t with rds := lieOf r :: rs }, some ⟨g3, 0, none⟩, cp3, y.D, y.dc⟩ 6 _ HY.out (by omega) hYE] at h
          exact h
        have hbX : Below wc.heap.size wc ((w3.setCell ⟨g3, 1, none⟩ (.bool true)).setCell ⟨g2, i * 8 + 6, none⟩ (.slice (some ⟨g3, 0, none⟩) rn cp3)) := own_set (own_set (below_own b2 b3) (show wc.heap.size ≤ g3 by omega) _) hg2a _
        have hokX : ∀ z ∈ L.set i ⟨{ y.t with rds := lieOf r :: rs }, some ⟨g3, 0, none⟩, cp3, y.D, y.dc⟩, z.ok ((w3.setCell ⟨g3, 1, none⟩ (.bool true)).setCell ⟨g2, i * 8 + 6, none⟩ (.slice (some ⟨g3, 0, none⟩) rn cp3)) := by
          intro z hz
          rcases List.mem_or_eq_of_mem_set hz with h | rfl
          · exact ((HROWS.out.ok z h).on hbc).on hbX
          · have hl : (lieOf r :: rs).length = rn := by rw [← HRN.out, HRD.out]; rfl
            have q := (((HROWS.out.ok y (List.mem_of_getElem? HY.out)).on hbc).on hbX)
            exact ⟨⟨Cells.of_own hrowR', q.at'.d⟩, by show (lieOf r :: rs).length ≤ _; omega, q.dfit⟩
        have hch : check ((L.set i ⟨{ y.t with rds := lieOf r :: rs }, some ⟨g3, 0, none⟩, cp3, y.D, y.dc⟩).map TI.t) = (3, (i : Int)) := by rw [set_map, HM.out]; exact lie_check hinv.out HA.out HRD.out
        have HCH := Lib.hid hch
        clear hch
        refine (hcheck_any (some ⟨g2, 0, none⟩) N cp2 (L.set i ⟨{ y.t with rds := lieOf r :: rs }, some ⟨g3, 0, none⟩, cp3, y.D, y.dc⟩) _ (by rw [List.length_set]; exact HN.out) (Cells.of_own hrowT) (by omega) hokX).mono ?_
        rintro e w4 ⟨rfl, b4⟩
        rw [HCH.out]
        have hbc4 : Below w1.heap.size w1 w4 := below_own (below_own hbc hbX) b4
        clear e0 f0 y0b e1 f1 y1b e2 f2 y2b e3 f3 y3b e4 f4 y4b e5 f5 y5b e6 f6 y6b e7 f7 y7b ef ef1 ff ff6 hne3 hrowR hrowR' hrowT hYE hbX hokX b4 b2 b3 hown2 hown3 hg_w2 hg_w3 hgl2 hsz2 hg2a hg2b hg2c hg3a hg3b hg3c
        obtain ⟨u, hu⟩ : ∃ u, y.t.has = u := ⟨_, rfl⟩
        have HU := Lib.hid hu
        obtain ⟨v0, v1, v2, v3, v4, v5, v6, v7⟩ := row_cells (own_on HOWN.out hbc4) HY.out
        cases u
        · clear hu
          go_wp2_with (go_at_call 17; refine (hhas_any y _).mono ?_; rintro e w5 ⟨rfl, b5⟩; rw [HU.out])
          have hbc5 := below_own hbc4 b5
          go_loopw [116] (fun q wr => ∃ (k : Nat), k ≤ i ∧ q = .int .i64 k ∧ Below w1.heap.size w1 wr) (fun q _ => i - (intOf q).toNat)
          case atStart => exact ⟨0, Nat.zero_le _, rfl, hbc5⟩
          case round =>
            obtain ⟨k, hk, rfl, hbl⟩ := hrel
            by_cases hlt : k < i
            · obtain ⟨z, hz⟩ : ∃ z, L[k]? = some z := ⟨_, List.getElem?_eq_getElem (by have := HN.out; omega)⟩
              obtain ⟨z0, z1, z2, z3, z4, z5, z6, z7⟩ := row_cells (own_on HOWN.out hbl) hz
              obtain ⟨x0, x1, x2, x3, x4, x5, x6, x7⟩ := row_cells (own_on HOWN.out hbl) HY.out
              have HZ := Lib.hid hz
              have m1 : (0 : Int) ≤ (k : Int) := by omega
              have m2 : (k : Int) < (N : Int) := by omega
              clear hz
              obtain ⟨uz, huz⟩ : ∃ uz, z.t.has = uz := ⟨_, rfl⟩
              have HUZ := Lib.hid huz
              clear huz
              cases uz
              · go_wp2_with (go_at_call 17; refine (hhas_any z _).mono ?_; rintro e w8 ⟨rfl, b8⟩; rw [HUZ.out]; have hb8 := below_own hbl b8)
                go_roundw
                case rel => exact ⟨k + 1, by omega, by go_num, hb8⟩
                case measure => simp [intOf]; omega
              · have t1 : True := trivial
                go_wp2_with (first
                  | (go_at_call 17; have _t := t1; refine (hhas_any z _).mono ?_; rintro e w8 ⟨rfl, b8⟩; rw [HUZ.out]; have hb8 := below_own hbl b8; clear t1; have x0_w8 := cell_on b8 x0; have x1_w8 := cell_on b8 x1; have x2_w8 := cell_on b8 x2; have x3_w8 := cell_on b8 x3; have x4_w8 := cell_on b8 x4; have x5_w8 := cell_on b8 x5; have x6_w8 := cell_on b8 x6; have x7_w8 := cell_on b8 x7)
                  | (go_at_call 17; refine (hhas_any y _).mono ?_; rintro e w9 ⟨rfl, b9⟩; rw [HU.out]; have hbc9 := below_own hb8 b9))
                go_roundw
                case rel => exact ⟨k + 1, by omega, by go_num, hbc9⟩
                case measure => simp [intOf]; omega
            · obtain rfl : k = i := by omega
              go_wp2_with (go_at_call 12; refine (awake_any _).mono ?_; rintro e wa ⟨rfl, ba⟩)
              go_ret
              exact ⟨rfl, below_own b1 (below_own hbl ba)⟩
        · have HUT := Lib.hid hu
          clear hu
          have k3 : (i : Int) + 1 ≤ (cp : Int) := by omega
          have k4 : (0 : Int) ≤ (i : Int) + 1 := by omega
          go_wp2_with (first
            | (go_at_call 17; refine (hhas_any y _).mono ?_; rintro e w5 ⟨rfl, b5⟩; rw [HU.out]; have hbc5 := below_own hbc4 b5; have hgl5 : g < w5.heap.size := Nat.lt_of_lt_of_le hg1 hbc5.size)
            | (at_builtin; refine wpList_append_cells _ rfl _ _ 22 rfl w5.heap.size 45 i0 (.agg #[.int .i64 0, .int .u64 0, .int .i64 0, .int .u64 0, .int .i64 0, .int .i64 0, .slice none 0 0, .slice none 0 0]) 8 96 Try.underlying22 hi0 hz0 hz1 hz2 rfl (by omega) _ _ _ rfl (own_empty w5 _ 8) _ (i + 1) _ (flatTI (L.take (i + 1))) rfl HTL.out ((Cells.takeG (cf := TI.cells) (Cells.of_own (own_on HOWN.out hbc5)) (i + 1)).on (own_alloc (own_refl _) _)) (flat_ti _) (by unfold maxLen; omega) (by omega) (by simp) ?_; intro D5 cp5 w6 hown6 hg_w6; simp only [Nat.zero_add, List.nil_append] at hown6; obtain ⟨g5, rfl, g5a, g5b, g5c⟩ := row_some hown6 (by omega); have bb : Below w5.heap.size w5 w6 := below_grown (own_alloc (own_refl w5) _) (own_empty w5 _ 8) (Nat.le_refl _) hg_w6; obtain ⟨e0, e1, e2, e3, e4, e5, e6, e7⟩ := row_cells hown6 HTG.out; have ef : ∀ q, w6.frozen? ⟨g5, q, none⟩ = false := (fun q => hown6.frozenAt q); have ef1 := ef (i * 8 + 1)))
          have hrowT : (w6.setCell ⟨g5, i * 8 + 1, none⟩ (.int .u64 y.t.ts)).ownsRow w5.heap.size 45 8 (.slice (some ⟨g5, 0, none⟩) (i + 1) cp5) (i + 1) (flatTI ((L.take (i + 1)).set i ⟨{ y.t with sn := y.t.ts }, y.R, y.rc, y.D, y.dc⟩)) := by
            have h := (hown6.stored (i * 8 + 1) (.int .u64 y.t.ts)).1
            rw [set_row (L.take (i + 1)) i y ⟨{ y.t with sn := y.t.ts }, y.R, y.rc, y.D, y.dc⟩ 1 _ HTG.out (by omega) rfl] at h
            exact h
          have hbX : Below w5.heap.size w5 (w6.setCell ⟨g5, i * 8 + 1, none⟩ (.int .u64 y.t.ts)) := own_set bb g5a _
          have hokX : ∀ z ∈ (L.take (i + 1)).set i ⟨{ y.t with sn := y.t.ts }, y.R, y.rc, y.D, y.dc⟩, z.ok (w6.setCell ⟨g5, i * 8 + 1, none⟩ (.int .u64 y.t.ts)) := by
            intro z hz
            have q0 := (((HROWS.out.ok y (List.mem_of_getElem? HY.out)).on hbc5).on hbX)
            rcases List.mem_or_eq_of_mem_set hz with h | rfl
            · exact ((HROWS.out.ok z (List.mem_of_mem_take h)).on hbc5).on hbX
            · exact ⟨⟨q0.at'.r, q0.at'.d⟩, q0.rfit, q0.dfit⟩
          have hch : check (((L.take (i + 1)).set i ⟨{ y.t with sn := y.t.ts }, y.R, y.rc, y.D, y.dc⟩).map TI.t) = (2, (i : Int)) := by rw [set_map, List.map_take, HM.out]; exact low_check hinv.out HA.out HUT.out
          have HCH := Lib.hid hch
          clear hch
          refine (hcheck_any (some ⟨g5, 0, none⟩) (i + 1) cp5 ((L.take (i + 1)).set i ⟨{ y.t with sn := y.t.ts }, y.R, y.rc, y.D, y.dc⟩) _ (by rw [List.length_set, List.length_take, HN.out]; omega) (Cells.of_own hrowT) (by omega) hokX).mono ?_
          rintro e w7 ⟨rfl, b7⟩
          rw [HCH.out]
          have hbc7 : Below w1.heap.size w1 w7 := below_own (below_own hbc5 hbX) b7
          clear e0 e1 e2 e3 e4 e5 e6 e7 ef ef1 hrowT hbX hokX b7 bb hown6 hg_w6 g5a g5b g5c
          go_wp2
          go_loopw [116] (fun q wr => ∃ (k : Nat), k ≤ i ∧ q = .int .i64 k ∧ Below w1.heap.size w1 wr) (fun q _ => i - (intOf q).toNat)
          case atStart => exact ⟨0, Nat.zero_le _, rfl, hbc7⟩
          case round =>
            obtain ⟨k, hk, rfl, hbl⟩ := hrel
            by_cases hlt : k < i
            · obtain ⟨z, hz⟩ : ∃ z, L[k]? = some z := ⟨_, List.getElem?_eq_getElem (by have := HN.out; omega)⟩
              obtain ⟨z0, z1, z2, z3, z4, z5, z6, z7⟩ := row_cells (own_on HOWN.out hbl) hz
              obtain ⟨x0, x1, x2, x3, x4, x5, x6, x7⟩ := row_cells (own_on HOWN.out hbl) HY.out
              have HZ := Lib.hid hz
              have m1 : (0 : Int) ≤ (k : Int) := by omega
              have m2 : (k : Int) < (N : Int) := by omega
              clear hz
              obtain ⟨uz, huz⟩ : ∃ uz, z.t.has = uz := ⟨_, rfl⟩
              have HUZ := Lib.hid huz
              clear huz
              cases uz
              · go_wp2_with (go_at_call 17; refine (hhas_any z _).mono ?_; rintro e w8 ⟨rfl, b8⟩; rw [HUZ.out]; have hb8 := below_own hbl b8)
                go_roundw
                case rel => exact ⟨k + 1, by omega, by go_num, hb8⟩
                case measure => simp [intOf]; omega
              · have t1 : True := trivial
                have hzt : (L.take (i + 1))[k]? = some z := by rw [List.getElem?_take, if_pos (by omega)]; exact HZ.out
                have HZT := Lib.hid hzt
                have hb' : (idealTo (l.map SI.p) (min (l.map SI.p).length 30)).L[k]? = some z.t := by
                  have h : (L.map TI.t)[k]? = some z.t := by rw [List.getElem?_map, HZ.out]; rfl
                  rw [HM.out] at h
                  exact h
                have HB := Lib.hid hb'
                have m3 : (k : Int) < (i : Int) + 1 := by omega
                clear hzt hb'
                go_wp2_with (first
                  | (go_at_call 17; have _t := t1; refine (hhas_any z _).mono ?_; rintro e w8 ⟨rfl, b8⟩; rw [HUZ.out]; have hb8 := below_own hbl b8; clear t1; have x0_w8 := cell_on b8 x0; have x1_w8 := cell_on b8 x1; have x2_w8 := cell_on b8 x2; have x3_w8 := cell_on b8 x3; have x4_w8 := cell_on b8 x4; have x5_w8 := cell_on b8 x5; have x6_w8 := cell_on b8 x6; have x7_w8 := cell_on b8 x7)
                  | (go_at_call 17; refine (hhas_any y _).mono ?_; rintro e w9 ⟨rfl, b9⟩; rw [HU.out]; have hbc9 := below_own hb8 b9; have hgl9 : g < w9.heap.size := Nat.lt_of_lt_of_le hg1 hbc9.size)
                  | (at_builtin; refine wpList_append_cells _ rfl _ _ 22 rfl w9.heap.size 45 i0 (.agg #[.int .i64 0, .int .u64 0, .int .i64 0, .int .u64 0, .int .i64 0, .int .i64 0, .slice none 0 0, .slice none 0 0]) 8 96 Try.underlying22 hi0 hz0 hz1 hz2 rfl (by omega) _ _ _ rfl (own_empty w9 _ 8) _ (i + 1) _ (flatTI (L.take (i + 1))) rfl HTL.out ((Cells.takeG (cf := TI.cells) (Cells.of_own (own_on HOWN.out hbc9)) (i + 1)).on (own_alloc (own_refl _) _)) (flat_ti _) (by unfold maxLen; omega) (by omega) (by simp) ?_; intro D5 cp6 w6 hown6 hg_w6; simp only [Nat.zero_add, List.nil_append] at hown6; obtain ⟨g6, rfl, g6a, g6b, g6c⟩ := row_some hown6 (by omega); have bb : Below w9.heap.size w9 w6 := below_grown (own_alloc (own_refl w9) _) (own_empty w9 _ 8) (Nat.le_refl _) hg_w6; obtain ⟨e0, e1, e2, e3, e4, e5, e6, e7⟩ := row_cells hown6 HTG.out; have ef : ∀ q, w6.frozen? ⟨g6, q, none⟩ = false := (fun q => hown6.frozenAt q); have ef3 := ef (i * 8 + 3); have ef4 := ef (i * 8 + 4); have ef5 := ef (i * 8 + 5); obtain ⟨f0, f1, f2, f3, f4, f5, f6, f7⟩ := row_cells hown6 HZT.out))
                have hrowT : (((w6.setCell ⟨g6, i * 8 + 3, none⟩ (.int .u64 z.t.ts)).setCell ⟨g6, i * 8 + 4, none⟩ (.int .i64 z.t.dc)).setCell ⟨g6, i * 8 + 5, none⟩ (.int .i64 z.t.tx)).ownsRow w9.heap.size 45 8 (.slice (some ⟨g6, 0, none⟩) (i + 1) cp6) (i + 1) (flatTI ((L.take (i + 1)).set i ⟨{ y.t with ts := z.t.ts, dc := z.t.dc, tx := z.t.tx }, y.R, y.rc, y.D, y.dc⟩)) := by
                  have hli : i < (L.take (i + 1)).length := (List.getElem?_eq_some_iff.1 HTG.out).1
                  have h := (((hown6.stored (i * 8 + 3) (.int .u64 z.t.ts)).1.stored (i * 8 + 4) (.int .i64 z.t.dc)).1.stored (i * 8 + 5) (.int .i64 z.t.tx)).1
                  have e1 := set_row (L.take (i + 1)) i y ⟨{ y.t with ts := z.t.ts }, y.R, y.rc, y.D, y.dc⟩ 3 (.int .u64 z.t.ts) HTG.out (by omega) rfl
                  have e2 := set_row ((L.take (i + 1)).set i ⟨{ y.t with ts := z.t.ts }, y.R, y.rc, y.D, y.dc⟩) i ⟨{ y.t with ts := z.t.ts }, y.R, y.rc, y.D, y.dc⟩ ⟨{ y.t with ts := z.t.ts, dc := z.t.dc }, y.R, y.rc, y.D, y.dc⟩ 4 (.int .i64 z.t.dc) (List.getElem?_set_self hli) (by omega) rfl
                  rw [List.set_set] at e2
                  have e3 := set_row ((L.take (i + 1)).set i ⟨{ y.t with ts := z.t.ts, dc := z.t.dc }, y.R, y.rc, y.D, y.dc⟩) i ⟨{ y.t with ts := z.t.ts, dc := z.t.dc }, y.R, y.rc, y.D, y.dc⟩ ⟨{ y.t with ts := z.t.ts, dc := z.t.dc, tx := z.t.tx }, y.R, y.rc, y.D, y.dc⟩ 5 (.int .i64 z.t.tx) (List.getElem?_set_self hli) (by omega) rfl
                  rw [List.set_set] at e3
                  rw [e1, e2, e3] at h
                  exact h
                have hbX : Below w9.heap.size w9 (((w6.setCell ⟨g6, i * 8 + 3, none⟩ (.int .u64 z.t.ts)).setCell ⟨g6, i * 8 + 4, none⟩ (.int .i64 z.t.dc)).setCell ⟨g6, i * 8 + 5, none⟩ (.int .i64 z.t.tx)) := own_set (own_set (own_set bb g6a _) g6a _) g6a _
                have hokX : ∀ v ∈ (L.take (i + 1)).set i ⟨{ y.t with ts := z.t.ts, dc := z.t.dc, tx := z.t.tx }, y.R, y.rc, y.D, y.dc⟩, v.ok (((w6.setCell ⟨g6, i * 8 + 3, none⟩ (.int .u64 z.t.ts)).setCell ⟨g6, i * 8 + 4, none⟩ (.int .i64 z.t.dc)).setCell ⟨g6, i * 8 + 5, none⟩ (.int .i64 z.t.tx)) := by
                  intro v hv
                  have q0 := (((HROWS.out.ok y (List.mem_of_getElem? HY.out)).on hbc9).on hbX)
                  rcases List.mem_or_eq_of_mem_set hv with h | rfl
                  · exact ((HROWS.out.ok v (List.mem_of_mem_take h)).on hbc9).on hbX
                  · exact ⟨⟨q0.at'.r, q0.at'.d⟩, q0.rfit, q0.dfit⟩
                have hch : check (((L.take (i + 1)).set i ⟨{ y.t with ts := z.t.ts, dc := z.t.dc, tx := z.t.tx }, y.R, y.rc, y.D, y.dc⟩).map TI.t) = (1, (i : Int)) := by rw [set_map, List.map_take, HM.out]; exact twin_check hinv.out HA.out HB.out hlt HUT.out HUZ.out
                have HCH2 := Lib.hid hch
                clear hch
                refine (hcheck_any (some ⟨g6, 0, none⟩) (i + 1) cp6 ((L.take (i + 1)).set i ⟨{ y.t with ts := z.t.ts, dc := z.t.dc, tx := z.t.tx }, y.R, y.rc, y.D, y.dc⟩) _ (by rw [List.length_set, List.length_take, HN.out]; omega) (Cells.of_own hrowT) (by omega) hokX).mono ?_
                rintro e wv ⟨rfl, bv⟩
                rw [HCH2.out]
                go_wp2_with (go_at_call 12; refine (awake_any _).mono ?_; rintro e wa ⟨rfl, ba⟩)
                go_ret
                exact ⟨rfl, below_own b1 (below_own (below_own (below_own hbc9 hbX) bv) ba)⟩
            · obtain rfl : k = i := by omega
              go_wp2_with (go_at_call 12; refine (awake_any _).mono ?_; rintro e wa ⟨rfl, ba⟩)
              go_ret
              exact ⟨rfl, below_own b1 (below_own hbl ba)⟩
      · have HFD := Lib.hid hfd
        clear hfd
        go_wp2_with (first
          | (at_builtin; refine wpList_append_cells _ rfl _ _ 22 rfl wc.heap.size 45 i0 (.agg #[.int .i64 0, .int .u64 0, .int .i64 0, .int .u64 0, .int .i64 0, .int .i64 0, .slice none 0 0, .slice none 0 0]) 8 96 Try.underlying22 hi0 hz0 hz1 hz2 rfl (by omega) _ _ _ rfl (own_empty wc _ 8) _ N _ (flatTI L) rfl HFL.out ((Cells.of_own (own_on HOWN.out hbc)).on (own_alloc (own_refl _) _)) (flat_ti _) (by unfold maxLen; omega) (by omega) (by simp) ?_; intro D2 cp2 w2 hown2 hg_w2; simp only [Nat.zero_add, List.nil_append] at hown2; obtain ⟨g2, rfl, hg2a, hg2b, hg2c⟩ := row_some hown2 hNp; have b2 : Below wc.heap.size wc w2 := below_grown (own_alloc (own_refl wc) _) (own_empty wc _ 8) (Nat.le_refl _) hg_w2; have y0b := cell_on b2 y0; have y1b := cell_on b2 y1; have y2b := cell_on b2 y2; have y3b := cell_on b2 y3; have y4b := cell_on b2 y4; have y5b := cell_on b2 y5; have y6b := cell_on b2 y6; have y7b := cell_on b2 y7; have hgl2 : g < w2.heap.size := World.block_lt_of_cell? _ _ y6b)
          | (at_builtin; refine wpList_append_cells _ rfl _ _ 42 rfl w2.heap.size 57 i2 (.agg #[.string ⟨#[]⟩, .bool false, .string ⟨#[]⟩, .string ⟨#[]⟩, .bool false, .int .u64 0, .int .i64 0, .int .i64 0]) 8 88 Try.underlying42 hi2 hq0 hq1 hq2 rfl (by omega) _ _ _ rfl (own_empty w2 _ 8) _ rn _ (flatRd (r :: rs)) rfl HRL.out ((Cells.of_own (own_on HRR.out (below_own hbc b2))).on (own_alloc (own_refl _) _)) (flat_rd _) (by unfold maxLen; omega) (by omega) (by simp) ?_; intro D3 cp3 w3 hown3 hg_w3; simp only [Nat.zero_add, List.nil_append] at hown3; obtain ⟨g3, rfl, hg3a, hg3b, hg3c⟩ := row_some hown3 hrp; have b3 : Below w2.heap.size w2 w3 := below_grown (own_alloc (own_refl w2) _) (own_empty w2 _ 8) (Nat.le_refl _) hg_w3; obtain ⟨e0, e1, e2, e3, e4, e5, e6, e7⟩ := row_rd hown3; have ef : ∀ q, w3.frozen? ⟨g3, q, none⟩ = false := (fun q => hown3.frozenAt q); have ef1 := ef 4; rw [HFD.out] at e1; obtain ⟨f0, f1, f2, f3, f4, f5, f6, f7⟩ := row_cells (own_on hown2 b3) HY.out; have ff : ∀ q, w3.frozen? ⟨g2, q, none⟩ = false := (fun q => (own_on hown2 b3).frozenAt q); have ff6 := ff (i * 8 + 6); have hne3 : ¬ g2 = g3 := (by omega)))
        have hrowR : (w3.setCell ⟨g3, 4, none⟩ (.bool (!r.v.gone))).ownsRow w2.heap.size 57 8 (.slice (some ⟨g3, 0, none⟩) rn cp3) rn (flatRd (lieOf r :: rs)) := by
          have h := (hown3.stored 4 (.bool (!r.v.gone))).1
          rw [set_rd r (lieOf r) rs 4 (.bool (!r.v.gone)) (by omega) (by unfold lieOf Rd.cells; rw [HFD.out]; rfl)] at h
          exact h
        have hsz2 := b2.size
        have hYE : y.cells.set 6 (.slice (some ⟨g3, 0, none⟩) rn cp3) = (⟨{ y.t with rds := lieOf r :: rs }, some ⟨g3, 0, none⟩, cp3, y.D, y.dc⟩ : TI).cells := by
          have hl : (lieOf r :: rs).length = rn := by rw [← HRN.out, HRD.out]; rfl
          show _ = ([.int .i64 y.t.cl, .int .u64 y.t.sn, .int .i64 y.t.st, .int .u64 y.t.ts, .int .i64 y.t.dc, .int .i64 y.t.tx, .slice (some ⟨g3, 0, none⟩) (lieOf r :: rs).length cp3, .slice y.D y.t.wrs.length y.dc] : List Value)
          rw [hl]; rfl
        have hrowR' : ((w3.setCell ⟨g3, 4, none⟩ (.bool (!r.v.gone))).setCell ⟨g2, i * 8 + 6, none⟩ (.slice (some ⟨g3, 0, none⟩) rn cp3)).ownsRow w2.heap.size 57 8 (.slice (some ⟨g3, 0, none⟩) rn cp3) rn (flatRd (lieOf r :: rs)) :=
          ((Turns.refl (one g2) _).set (a := ⟨g2, i * 8 + 6, none⟩) (fun _ => rfl) _).row hrowR (fun q e e' => by have h1 : g3 = q := (by injection e); have h2 : q = g2 := e'; omega)
        have hrowT : ((w3.setCell ⟨g3, 4, none⟩ (.bool (!r.v.gone))).setCell ⟨g2, i * 8 + 6, none⟩ (.slice (some ⟨g3, 0, none⟩) rn cp3)).ownsRow wc.heap.size 45 8 (.slice (some ⟨g2, 0, none⟩) N cp2) N (flatTI (L.set i ⟨{ y.t with rds := lieOf r :: rs }, some ⟨g3, 0, none⟩, cp3, y.D, y.dc⟩)) := by
          have h0 : (w3.setCell ⟨g3, 4, none⟩ (.bool (!r.v.gone))).ownsRow wc.heap.size 45 8 (.slice (some ⟨g2, 0, none⟩) N cp2) N (flatTI L) := ((Turns.refl (one g3) w3).set (a := ⟨g3, 4, none⟩) (fun _ => rfl) _).row (own_on hown2 b3) (fun q e e' => by have h1 : g2 = q := (by injection e); have h2 : q = g3 := e'; omega)
          have h := (h0.stored (i * 8 + 6) (.slice (some ⟨g3, 0, none⟩) rn cp3)).1
          rw [set_row L i y ⟨{ y.t with rds := lieOf r :: rs }, some ⟨g3, 0, none⟩, cp3, y.D, y.dc⟩ 6 _ HY.out (by omega) hYE] at h
          exact h
        have hbX : Below wc.heap.size wc ((w3.setCell ⟨g3, 4, none⟩ (.bool (!r.v.gone))).setCell ⟨g2, i * 8 + 6, none⟩ (.slice (some ⟨g3, 0, none⟩) rn cp3)) := own_set (own_set (below_own b2 b3) (show wc.heap.size ≤ g3 by omega) _) hg2a _
        have hokX : ∀ z ∈ L.set i ⟨{ y.t with rds := lieOf r :: rs }, some ⟨g3, 0, none⟩, cp3, y.D, y.dc⟩, z.ok ((w3.setCell ⟨g3, 4, none⟩ (.bool (!r.v.gone))).setCell ⟨g2, i * 8 + 6, none⟩ (.slice (some ⟨g3, 0, none⟩) rn cp3)) := by
          intro z hz
          rcases List.mem_or_eq_of_mem_set hz with h | rfl
          · exact ((HROWS.out.ok z h).on hbc).on hbX
          · have hl : (lieOf r :: rs).length = rn := by rw [← HRN.out, HRD.out]; rfl
            have q := (((HROWS.out.ok y (List.mem_of_getElem? HY.out)).on hbc).on hbX)
            exact ⟨⟨Cells.of_own hrowR', q.at'.d⟩, by show (lieOf r :: rs).length ≤ _; omega, q.dfit⟩
        have hch : check ((L.set i ⟨{ y.t with rds := lieOf r :: rs }, some ⟨g3, 0, none⟩, cp3, y.D, y.dc⟩).map TI.t) = (3, (i : Int)) := by rw [set_map, HM.out]; exact lie_check hinv.out HA.out HRD.out
        have HCH := Lib.hid hch
        clear hch
        refine (hcheck_any (some ⟨g2, 0, none⟩) N cp2 (L.set i ⟨{ y.t with rds := lieOf r :: rs }, some ⟨g3, 0, none⟩, cp3, y.D, y.dc⟩) _ (by rw [List.length_set]; exact HN.out) (Cells.of_own hrowT) (by omega) hokX).mono ?_
        rintro e w4 ⟨rfl, b4⟩
        rw [HCH.out]
        have hbc4 : Below w1.heap.size w1 w4 := below_own (below_own hbc hbX) b4
        clear e0 f0 y0b e1 f1 y1b e2 f2 y2b e3 f3 y3b e4 f4 y4b e5 f5 y5b e6 f6 y6b e7 f7 y7b ef ef1 ff ff6 hne3 hrowR hrowR' hrowT hYE hbX hokX b4 b2 b3 hown2 hown3 hg_w2 hg_w3 hgl2 hsz2 hg2a hg2b hg2c hg3a hg3b hg3c
        obtain ⟨u, hu⟩ : ∃ u, y.t.has = u := ⟨_, rfl⟩
        have HU := Lib.hid hu
        obtain ⟨v0, v1, v2, v3, v4, v5, v6, v7⟩ := row_cells (own_on HOWN.out hbc4) HY.out
        cases u
        · clear hu
          go_wp2_with (go_at_call 17; refine (hhas_any y _).mono ?_; rintro e w5 ⟨rfl, b5⟩; rw [HU.out])
          have hbc5 := below_own hbc4 b5
          go_loopw [116] (fun q wr => ∃ (k : Nat), k ≤ i ∧ q = .int .i64 k ∧ Below w1.heap.size w1 wr) (fun q _ => i - (intOf q).toNat)
          case atStart => exact ⟨0, Nat.zero_le _, rfl, hbc5⟩
          case round =>
            obtain ⟨k, hk, rfl, hbl⟩ := hrel
            by_cases hlt : k < i
            · obtain ⟨z, hz⟩ : ∃ z, L[k]? = some z := ⟨_, List.getElem?_eq_getElem (by have := HN.out; omega)⟩
              obtain ⟨z0, z1, z2, z3, z4, z5, z6, z7⟩ := row_cells (own_on HOWN.out hbl) hz
              obtain ⟨x0, x1, x2, x3, x4, x5, x6, x7⟩ := row_cells (own_on HOWN.out hbl) HY.out
              have HZ := Lib.hid hz
              have m1 : (0 : Int) ≤ (k : Int) := by omega
              have m2 : (k : Int) < (N : Int) := by omega
              clear hz
              obtain ⟨uz, huz⟩ : ∃ uz, z.t.has = uz := ⟨_, rfl⟩
              have HUZ := Lib.hid huz
              clear huz
              cases uz
              · go_wp2_with (go_at_call 17; refine (hhas_any z _).mono ?_; rintro e w8 ⟨rfl, b8⟩; rw [HUZ.out]; have hb8 := below_own hbl b8)
                go_roundw
                case rel => exact ⟨k + 1, by omega, by go_num, hb8⟩
                case measure => simp [intOf]; omega
              · have t1 : True := trivial
                go_wp2_with (first
                  | (go_at_call 17; have _t := t1; refine (hhas_any z _).mono ?_; rintro e w8 ⟨rfl, b8⟩; rw [HUZ.out]; have hb8 := below_own hbl b8; clear t1; have x0_w8 := cell_on b8 x0; have x1_w8 := cell_on b8 x1; have x2_w8 := cell_on b8 x2; have x3_w8 := cell_on b8 x3; have x4_w8 := cell_on b8 x4; have x5_w8 := cell_on b8 x5; have x6_w8 := cell_on b8 x6; have x7_w8 := cell_on b8 x7)
                  | (go_at_call 17; refine (hhas_any y _).mono ?_; rintro e w9 ⟨rfl, b9⟩; rw [HU.out]; have hbc9 := below_own hb8 b9))
                go_roundw
                case rel => exact ⟨k + 1, by omega, by go_num, hbc9⟩
                case measure => simp [intOf]; omega
            · obtain rfl : k = i := by omega
              go_wp2_with (go_at_call 12; refine (awake_any _).mono ?_; rintro e wa ⟨rfl, ba⟩)
              go_ret
              exact ⟨rfl, below_own b1 (below_own hbl ba)⟩
        · have HUT := Lib.hid hu
          clear hu
          have k3 : (i : Int) + 1 ≤ (cp : Int) := by omega
          have k4 : (0 : Int) ≤ (i : Int) + 1 := by omega
          go_wp2_with (first
            | (go_at_call 17; refine (hhas_any y _).mono ?_; rintro e w5 ⟨rfl, b5⟩; rw [HU.out]; have hbc5 := below_own hbc4 b5; have hgl5 : g < w5.heap.size := Nat.lt_of_lt_of_le hg1 hbc5.size)
            | (at_builtin; refine wpList_append_cells _ rfl _ _ 22 rfl w5.heap.size 45 i0 (.agg #[.int .i64 0, .int .u64 0, .int .i64 0, .int .u64 0, .int .i64 0, .int .i64 0, .slice none 0 0, .slice none 0 0]) 8 96 Try.underlying22 hi0 hz0 hz1 hz2 rfl (by omega) _ _ _ rfl (own_empty w5 _ 8) _ (i + 1) _ (flatTI (L.take (i + 1))) rfl HTL.out ((Cells.takeG (cf := TI.cells) (Cells.of_own (own_on HOWN.out hbc5)) (i + 1)).on (own_alloc (own_refl _) _)) (flat_ti _) (by unfold maxLen; omega) (by omega) (by simp) ?_; intro D5 cp5 w6 hown6 hg_w6; simp only [Nat.zero_add, List.nil_append] at hown6; obtain ⟨g5, rfl, g5a, g5b, g5c⟩ := row_some hown6 (by omega); have bb : Below w5.heap.size w5 w6 := below_grown (own_alloc (own_refl w5) _) (own_empty w5 _ 8) (Nat.le_refl _) hg_w6; obtain ⟨e0, e1, e2, e3, e4, e5, e6, e7⟩ := row_cells hown6 HTG.out; have ef : ∀ q, w6.frozen? ⟨g5, q, none⟩ = false := (fun q => hown6.frozenAt q); have ef1 := ef (i * 8 + 1)))
          have hrowT : (w6.setCell ⟨g5, i * 8 + 1, none⟩ (.int .u64 y.t.ts)).ownsRow w5.heap.size 45 8 (.slice (some ⟨g5, 0, none⟩) (i + 1) cp5) (i + 1) (flatTI ((L.take (i + 1)).set i ⟨{ y.t with sn := y.t.ts }, y.R, y.rc, y.D, y.dc⟩)) := by
            have h := (hown6.stored (i * 8 + 1) (.int .u64 y.t.ts)).1
            rw [set_row (L.take (i + 1)) i y ⟨{ y.t with sn := y.t.ts }, y.R, y.rc, y.D, y.dc⟩ 1 _ HTG.out (by omega) rfl] at h
            exact h
          have hbX : Below w5.heap.size w5 (w6.setCell ⟨g5, i * 8 + 1, none⟩ (.int .u64 y.t.ts)) := own_set bb g5a _
          have hokX : ∀ z ∈ (L.take (i + 1)).set i ⟨{ y.t with sn := y.t.ts }, y.R, y.rc, y.D, y.dc⟩, z.ok (w6.setCell ⟨g5, i * 8 + 1, none⟩ (.int .u64 y.t.ts)) := by
            intro z hz
            have q0 := (((HROWS.out.ok y (List.mem_of_getElem? HY.out)).on hbc5).on hbX)
            rcases List.mem_or_eq_of_mem_set hz with h | rfl
            · exact ((HROWS.out.ok z (List.mem_of_mem_take h)).on hbc5).on hbX
            · exact ⟨⟨q0.at'.r, q0.at'.d⟩, q0.rfit, q0.dfit⟩
          have hch : check (((L.take (i + 1)).set i ⟨{ y.t with sn := y.t.ts }, y.R, y.rc, y.D, y.dc⟩).map TI.t) = (2, (i : Int)) := by rw [set_map, List.map_take, HM.out]; exact low_check hinv.out HA.out HUT.out
          have HCH := Lib.hid hch
          clear hch
          refine (hcheck_any (some ⟨g5, 0, none⟩) (i + 1) cp5 ((L.take (i + 1)).set i ⟨{ y.t with sn := y.t.ts }, y.R, y.rc, y.D, y.dc⟩) _ (by rw [List.length_set, List.length_take, HN.out]; omega) (Cells.of_own hrowT) (by omega) hokX).mono ?_
          rintro e w7 ⟨rfl, b7⟩
          rw [HCH.out]
          have hbc7 : Below w1.heap.size w1 w7 := below_own (below_own hbc5 hbX) b7
          clear e0 e1 e2 e3 e4 e5 e6 e7 ef ef1 hrowT hbX hokX b7 bb hown6 hg_w6 g5a g5b g5c
          go_wp2
          go_loopw [116] (fun q wr => ∃ (k : Nat), k ≤ i ∧ q = .int .i64 k ∧ Below w1.heap.size w1 wr) (fun q _ => i - (intOf q).toNat)
          case atStart => exact ⟨0, Nat.zero_le _, rfl, hbc7⟩
          case round =>
            obtain ⟨k, hk, rfl, hbl⟩ := hrel
            by_cases hlt : k < i
            · obtain ⟨z, hz⟩ : ∃ z, L[k]? = some z := ⟨_, List.getElem?_eq_getElem (by have := HN.out; omega)⟩
              obtain ⟨z0, z1, z2, z3, z4, z5, z6, z7⟩ := row_cells (own_on HOWN.out hbl) hz
              obtain ⟨x0, x1, x2, x3, x4, x5, x6, x7⟩ := row_cells (own_on HOWN.out hbl) HY.out
              have HZ := Lib.hid hz
              have m1 : (0 : Int) ≤ (k : Int) := by omega
              have m2 : (k : Int) < (N : Int) := by omega
              clear hz
              obtain ⟨uz, huz⟩ : ∃ uz, z.t.has = uz := ⟨_, rfl⟩
              have HUZ := Lib.hid huz
              clear huz
              cases uz
              · go_wp2_with (go_at_call 17; refine (hhas_any z _).mono ?_; rintro e w8 ⟨rfl, b8⟩; rw [HUZ.out]; have hb8 := below_own hbl b8)
                go_roundw
                case rel => exact ⟨k + 1, by omega, by go_num, hb8⟩
                case measure => simp [intOf]; omega
              · have t1 : True := trivial
                have hzt : (L.take (i + 1))[k]? = some z := by rw [List.getElem?_take, if_pos (by omega)]; exact HZ.out
                have HZT := Lib.hid hzt
                have hb' : (idealTo (l.map SI.p) (min (l.map SI.p).length 30)).L[k]? = some z.t := by
                  have h : (L.map TI.t)[k]? = some z.t := by rw [List.getElem?_map, HZ.out]; rfl
                  rw [HM.out] at h
                  exact h
                have HB := Lib.hid hb'
                have m3 : (k : Int) < (i : Int) + 1 := by omega
                clear hzt hb'
                go_wp2_with (first
                  | (go_at_call 17; have _t := t1; refine (hhas_any z _).mono ?_; rintro e w8 ⟨rfl, b8⟩; rw [HUZ.out]; have hb8 := below_own hbl b8; clear t1; have x0_w8 := cell_on b8 x0; have x1_w8 := cell_on b8 x1; have x2_w8 := cell_on b8 x2; have x3_w8 := cell_on b8 x3; have x4_w8 := cell_on b8 x4; have x5_w8 := cell_on b8 x5; have x6_w8 := cell_on b8 x6; have x7_w8 := cell_on b8 x7)
                  | (go_at_call 17; refine (hhas_any y _).mono ?_; rintro e w9 ⟨rfl, b9⟩; rw [HU.out]; have hbc9 := below_own hb8 b9; have hgl9 : g < w9.heap.size := Nat.lt_of_lt_of_le hg1 hbc9.size)
                  | (at_builtin; refine wpList_append_cells _ rfl _ _ 22 rfl w9.heap.size 45 i0 (.agg #[.int .i64 0, .int .u64 0, .int .i64 0, .int .u64 0, .int .i64 0, .int .i64 0, .slice none 0 0, .slice none 0 0]) 8 96 Try.underlying22 hi0 hz0 hz1 hz2 rfl (by omega) _ _ _ rfl (own_empty w9 _ 8) _ (i + 1) _ (flatTI (L.take (i + 1))) rfl HTL.out ((Cells.takeG (cf := TI.cells) (Cells.of_own (own_on HOWN.out hbc9)) (i + 1)).on (own_alloc (own_refl _) _)) (flat_ti _) (by unfold maxLen; omega) (by omega) (by simp) ?_; intro D5 cp6 w6 hown6 hg_w6; simp only [Nat.zero_add, List.nil_append] at hown6; obtain ⟨g6, rfl, g6a, g6b, g6c⟩ := row_some hown6 (by omega); have bb : Below w9.heap.size w9 w6 := below_grown (own_alloc (own_refl w9) _) (own_empty w9 _ 8) (Nat.le_refl _) hg_w6; obtain ⟨e0, e1, e2, e3, e4, e5, e6, e7⟩ := row_cells hown6 HTG.out; have ef : ∀ q, w6.frozen? ⟨g6, q, none⟩ = false := (fun q => hown6.frozenAt q); have ef3 := ef (i * 8 + 3); have ef4 := ef (i * 8 + 4); have ef5 := ef (i * 8 + 5); obtain ⟨f0, f1, f2, f3, f4, f5, f6, f7⟩ := row_cells hown6 HZT.out))
                have hrowT : (((w6.setCell ⟨g6, i * 8 + 3, none⟩ (.int .u64 z.t.ts)).setCell ⟨g6, i * 8 + 4, none⟩ (.int .i64 z.t.dc)).setCell ⟨g6, i * 8 + 5, none⟩ (.int .i64 z.t.tx)).ownsRow w9.heap.size 45 8 (.slice (some ⟨g6, 0, none⟩) (i + 1) cp6) (i + 1) (flatTI ((L.take (i + 1)).set i ⟨{ y.t with ts := z.t.ts, dc := z.t.dc, tx := z.t.tx }, y.R, y.rc, y.D, y.dc⟩)) := by
                  have hli : i < (L.take (i + 1)).length := (List.getElem?_eq_some_iff.1 HTG.out).1
                  have h := (((hown6.stored (i * 8 + 3) (.int .u64 z.t.ts)).1.stored (i * 8 + 4) (.int .i64 z.t.dc)).1.stored (i * 8 + 5) (.int .i64 z.t.tx)).1
                  have e1 := set_row (L.take (i + 1)) i y ⟨{ y.t with ts := z.t.ts }, y.R, y.rc, y.D, y.dc⟩ 3 (.int .u64 z.t.ts) HTG.out (by omega) rfl
                  have e2 := set_row ((L.take (i + 1)).set i ⟨{ y.t with ts := z.t.ts }, y.R, y.rc, y.D, y.dc⟩) i ⟨{ y.t with ts := z.t.ts }, y.R, y.rc, y.D, y.dc⟩ ⟨{ y.t with ts := z.t.ts, dc := z.t.dc }, y.R, y.rc, y.D, y.dc⟩ 4 (.int .i64 z.t.dc) (List.getElem?_set_self hli) (by omega) rfl
                  rw [List.set_set] at e2
                  have e3 := set_row ((L.take (i + 1)).set i ⟨{ y.t with ts := z.t.ts, dc := z.t.dc }, y.R, y.rc, y.D, y.dc⟩) i ⟨{ y.t with ts := z.t.ts, dc := z.t.dc }, y.R, y.rc, y.D, y.dc⟩ ⟨{ y.t with ts := z.t.ts, dc := z.t.dc, tx := z.t.tx }, y.R, y.rc, y.D, y.dc⟩ 5 (.int .i64 z.t.tx) (List.getElem?_set_self hli) (by omega) rfl
                  rw [List.set_set] at e3
                  rw [e1, e2, e3] at h
                  exact h
                have hbX : Below w9.heap.size w9 (((w6.setCell ⟨g6, i * 8 + 3, none⟩ (.int .u64 z.t.ts)).setCell ⟨g6, i * 8 + 4, none⟩ (.int .i64 z.t.dc)).setCell ⟨g6, i * 8 + 5, none⟩ (.int .i64 z.t.tx)) := own_set (own_set (own_set bb g6a _) g6a _) g6a _
                have hokX : ∀ v ∈ (L.take (i + 1)).set i ⟨{ y.t with ts := z.t.ts, dc := z.t.dc, tx := z.t.tx }, y.R, y.rc, y.D, y.dc⟩, v.ok (((w6.setCell ⟨g6, i * 8 + 3, none⟩ (.int .u64 z.t.ts)).setCell ⟨g6, i * 8 + 4, none⟩ (.int .i64 z.t.dc)).setCell ⟨g6, i * 8 + 5, none⟩ (.int .i64 z.t.tx)) := by
                  intro v hv
                  have q0 := (((HROWS.out.ok y (List.mem_of_getElem? HY.out)).on hbc9).on hbX)
                  rcases List.mem_or_eq_of_mem_set hv with h | rfl
                  · exact ((HROWS.out.ok v (List.mem_of_mem_take h)).on hbc9).on hbX
                  · exact ⟨⟨q0.at'.r, q0.at'.d⟩, q0.rfit, q0.dfit⟩
                have hch : check (((L.take (i + 1)).set i ⟨{ y.t with ts := z.t.ts, dc := z.t.dc, tx := z.t.tx }, y.R, y.rc, y.D, y.dc⟩).map TI.t) = (1, (i : Int)) := by rw [set_map, List.map_take, HM.out]; exact twin_check hinv.out HA.out HB.out hlt HUT.out HUZ.out
                have HCH2 := Lib.hid hch
                clear hch
                refine (hcheck_any (some ⟨g6, 0, none⟩) (i + 1) cp6 ((L.take (i + 1)).set i ⟨{ y.t with ts := z.t.ts, dc := z.t.dc, tx := z.t.tx }, y.R, y.rc, y.D, y.dc⟩) _ (by rw [List.length_set, List.length_take, HN.out]; omega) (Cells.of_own hrowT) (by omega) hokX).mono ?_
                rintro e wv ⟨rfl, bv⟩
                rw [HCH2.out]
                go_wp2_with (go_at_call 12; refine (awake_any _).mono ?_; rintro e wa ⟨rfl, ba⟩)
                go_ret
                exact ⟨rfl, below_own b1 (below_own (below_own (below_own hbc9 hbX) bv) ba)⟩
            · obtain rfl : k = i := by omega
              go_wp2_with (go_at_call 12; refine (awake_any _).mono ?_; rintro e wa ⟨rfl, ba⟩)
              go_ret
              exact ⟨rfl, below_own b1 (below_own hbl ba)⟩
end Go.Proofs.Ytiapolcpebilmaa.lawHistLies
