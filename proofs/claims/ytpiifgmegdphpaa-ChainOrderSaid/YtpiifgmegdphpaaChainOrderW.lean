/-
  The walk of the law ChainOrder: whatever data come in, the call returns true and leaves what was there. Conditions: the arguments' cells lie as the hypotheses say.
-/
import Derived.Test.YtpiifgmegdphpaaOf
import Derived.Test.YtpiifgmegdphpaaPut
import Derived.Test.YtpiifgmegdphpaaJoin
import Derived.Test.YtpiifgmegdphpaaOrderP
import Derived.Test.YtpiifgmegdphpaaSame
import Derived.Test.YtpiifgmegdphpaaChainAt2
import Derived.Test.YtpiifgmegdphpaaOpenVer
import Derived.BigRegion
import Derived.IntWalk
namespace Go.Proofs.Ytpiifgmegdphpaa.lawChainOrder
open Go.ChangeShapes Go.WideShapes Go.ChangeAt Go.RowKit Go.Deep
set_option linter.unusedVariables false

structure P2 where
  a : Int
  b : Int
def P2.cells (p : P2) : List Value := [.int .i64 p.a, .int .i64 p.b]
def P2.wf (p : P2) : Prop := (Lit.int .i64 p.a).wf = true ∧ (Lit.int .i64 p.b).wf = true
theorem cellsP2 : Try.prog.cellsOf 41 = 2 := by kernel_rfl
theorem dec_p2 {H : Type} {enc : TypeId × Value → H} {w : World} (n : Nat) (cs : List Value) (y : DataW H × List MemPlace) (h : DataW.trod enc Try.prog w 0 (fun _ => true) true n 41 cs = some y) : ∃ x : P2, cs = x.cells ∧ x.wf := by
  obtain ⟨xs, m, _, _, hl, hlen, hf⟩ := DataW.trod_array Try.underlying41 h
  rw [cellsP2] at hl
  match cs, hl, xs, hlen with
  | [c0, c1], _, [y0, y1], _ =>
    have h0 := hf 0 (by omega)
    have h1 := hf 1 (by omega)
    rw [cells_int] at h0 h1
    clear hf
    obtain ⟨a, e0, _, w0⟩ := DataW.trod_int Try.underlying3 h0
    obtain ⟨b, e1, _, w1⟩ := DataW.trod_int Try.underlying3 h1
    simp at e0 e1
    subst e0 e1
    exact ⟨⟨a, b⟩, rfl, w0, w1⟩
theorem open_p2s {H : Type} {enc : TypeId × Value → H} {w : World} {r : Reach} {b0 : Nat} {v : Value} {d : DataW H} {p : List MemPlace}
    (hv : Value.okWide Try.prog w r b0 40 v) (h : DataW.Trod enc Try.prog w 0 (fun _ => true) true 40 v d p) :
    ∃ (A : Option Addr) (n c : Nat) (l : List P2), v = .slice A n c ∧ l.length = n ∧ n ≤ 9223372036854775807 ∧ Cells w A (l.flatMap P2.cells) ∧ ∀ x ∈ l, x.wf :=
  open_structs (cf := P2.cells) (ok := P2.wf) (C := 2) (fun _ => rfl) (by omega) Try.underlying40 cellsP2 (fun n cs y => dec_p2 n cs y) hv h
theorem cells_p2 {w : World} {A : Option Addr} {l : List P2} (h : Cells w A (l.flatMap P2.cells)) {k : Nat} {x : P2} (hk : l[k]? = some x) :
    ∃ b off, A = some ⟨b, off, none⟩ ∧ w.cell? ⟨b, off + k * 2, none⟩ = some (.int .i64 x.a) ∧ w.cell? ⟨b, off + k * 2 + 1, none⟩ = some (.int .i64 x.b) := by
  have h0 := flat_get (cf := P2.cells) (C := 2) (fun _ => rfl) l k x 0 hk (by omega)
  have h1 := flat_get (cf := P2.cells) (C := 2) (fun _ => rfl) l k x 1 hk (by omega)
  obtain ⟨b, off, e, hc⟩ := h (fun e => by rw [e] at h0; simp [P2.cells] at h0)
  exact ⟨b, off, e, hc (k * 2) _ (by simpa [P2.cells] using h0), by rw [Nat.add_assoc]; exact hc (k * 2 + 1) _ (by simpa [P2.cells] using h1)⟩
theorem rem_in (z : Int) {N : Nat} (h : 0 < N) (hN : N ≤ 1000) : ∃ i : Nat, wrap64 ((IntKind.u64.wrap z).tmod (N : Int)) = i ∧ i < N := by
  have hz : 0 ≤ IntKind.u64.wrap z := by simp [IntKind.wrap, IntKind.bits, IntKind.signed]; omega
  rw [Int.tmod_eq_emod_of_nonneg hz]
  have h0 : (0 : Int) ≤ IntKind.u64.wrap z % (N : Int) := Int.emod_nonneg _ (by omega)
  have h1 : IntKind.u64.wrap z % (N : Int) < N := Int.emod_lt_of_pos _ (by omega)
  exact ⟨(IntKind.u64.wrap z % (N : Int)).toNat, by unfold wrap64; omega, by omega⟩
theorem row_some {w : World} {base : Nat} {e : TypeId} {size n cp : Nat} {D : Option Addr} {xs : List Value} (h : w.ownsRow base e size (.slice D n cp) n xs) (hn : 0 < n) : ∃ g, D = some ⟨g, 0, none⟩ ∧ base ≤ g ∧ g < w.heap.size := by
  obtain ⟨hl, ⟨hv, h0⟩ | ⟨g, cap, cur, hv, hg, hh, r⟩⟩ := h
  · omega
  · injection hv with h1
    exact ⟨g, h1, hg, (Array.getElem?_eq_some_iff.1 hh).1⟩
theorem row_ver {w : World} {base : Nat} {g n cp : Nat} {l : List V} (h : w.ownsRow base 25 6 (.slice (some ⟨g, 0, none⟩) n cp) n (flatV l)) {k : Nat} {x : V} (hx : l[k]? = some x) (hk : k < n) : w.cell? ⟨g, k * 6, none⟩ = some (.string x.key) ∧ w.cell? ⟨g, k * 6 + 1, none⟩ = some (.string x.val) ∧ w.cell? ⟨g, k * 6 + 2, none⟩ = some (.bool x.gone) ∧ w.cell? ⟨g, k * 6 + 3, none⟩ = some (.int .u64 x.ts) ∧ w.cell? ⟨g, k * 6 + 4, none⟩ = some (.int .i64 x.dc) ∧ w.cell? ⟨g, k * 6 + 5, none⟩ = some (.int .i64 x.tx) := by
  refine ⟨?_, ?_, ?_, ?_, ?_, ?_⟩
  · rw [h.cellAt (k * 6) (by omega)]; exact (flatV_get l k x 0 hx (by omega)).trans rfl
  · rw [h.cellAt (k * 6 + 1) (by omega)]; exact (flatV_get l k x 1 hx (by omega)).trans rfl
  · rw [h.cellAt (k * 6 + 2) (by omega)]; exact (flatV_get l k x 2 hx (by omega)).trans rfl
  · rw [h.cellAt (k * 6 + 3) (by omega)]; exact (flatV_get l k x 3 hx (by omega)).trans rfl
  · rw [h.cellAt (k * 6 + 4) (by omega)]; exact (flatV_get l k x 4 hx (by omega)).trans rfl
  · rw [h.cellAt (k * 6 + 5) (by omega)]; exact (flatV_get l k x 5 hx (by omega)).trans rfl

theorem flatV_set : ∀ (M : List V) (k : Nat) (x : V), k < M.length → ((((((flatV M).set (k * 6) (.string x.key)).set (k * 6 + 1) (.string x.val)).set (k * 6 + 2) (.bool x.gone)).set (k * 6 + 3) (.int .u64 x.ts)).set (k * 6 + 4) (.int .i64 x.dc)).set (k * 6 + 5) (.int .i64 x.tx) = flatV (M.set k x) := by
  intro M
  induction M with
  | nil => intro k x h; simp at h
  | cons y M ih =>
    intro k x h
    cases k with
    | zero => rfl
    | succ k =>
      have h1 : ∀ (R : List Value) (q : Nat) (u : Value), (y.cells ++ R).set (y.cells.length + q) u = y.cells ++ R.set q u := fun R q u => by
        rw [List.set_append_right _ _ (Nat.le_add_right _ _), Nat.add_sub_cancel_left]
      have e0 : (k + 1) * 6 = y.cells.length + k * 6 := by rw [vlen]; omega
      show ((((((y.cells ++ flatV M).set _ _).set _ _).set _ _).set _ _).set _ _).set _ _ = y.cells ++ flatV (M.set k x)
      rw [← ih k x (by simpa using h), e0, h1]
      simp only [Nat.add_assoc, h1]
theorem six_row {w : World} {base g N cp : Nat} {M : List V} (h : w.ownsRow base 25 6 (.slice (some ⟨g, 0, none⟩) N cp) N (flatV M)) {k : Nat} (hk : k < M.length) (x : V) :
    (((((((w.setCell ⟨g, k * 6, none⟩ (.string x.key)).setCell ⟨g, k * 6 + 1, none⟩ (.string x.val)).setCell ⟨g, k * 6 + 2, none⟩ (.bool x.gone)).setCell ⟨g, k * 6 + 3, none⟩ (.int .u64 x.ts)).setCell ⟨g, k * 6 + 4, none⟩ (.int .i64 x.dc)).setCell ⟨g, k * 6 + 5, none⟩ (.int .i64 x.tx))).ownsRow base 25 6 (.slice (some ⟨g, 0, none⟩) N cp) N (flatV (M.set k x)) := by
  rw [← flatV_set M k x hk]
  exact ((((((h.stored (k * 6) _).1.stored (k * 6 + 1) _).1.stored (k * 6 + 2) _).1.stored (k * 6 + 3) _).1.stored (k * 6 + 4) _).1.stored (k * 6 + 5) _).1
theorem six_below {w0 w : World} {g k : Nat} (h : Below w0.heap.size w0 w) (hg : w0.heap.size ≤ g) (x : V) : Below w0.heap.size w0 (((((((w.setCell ⟨g, k * 6, none⟩ (.string x.key)).setCell ⟨g, k * 6 + 1, none⟩ (.string x.val)).setCell ⟨g, k * 6 + 2, none⟩ (.bool x.gone)).setCell ⟨g, k * 6 + 3, none⟩ (.int .u64 x.ts)).setCell ⟨g, k * 6 + 4, none⟩ (.int .i64 x.dc)).setCell ⟨g, k * 6 + 5, none⟩ (.int .i64 x.tx))) :=
  own_set (own_set (own_set (own_set (own_set (own_set h hg _) hg _) hg _) hg _) hg _) hg _
theorem swap_some {M : List V} {i j : Nat} {x y : V} (hx : M[i]? = some x) (hy : M[j]? = some y) : swapV M i j = (M.set i y).set j x := by unfold swapV; rw [hx, hy]
set_option maxRecDepth 100000 in
set_option maxHeartbeats 4000000 in
theorem walk' (A S : Option Addr) (n c m d : Nat) (l L : List V) (zs : List P2) (w : World) (hn : l.length = n) (hm : n ≤ 9223372036854775807) (hA : Cells w A (flatV l)) (hz : zs.length = m) (hmm : m ≤ 9223372036854775807) (hS : Cells w S (zs.flatMap P2.cells))
    (wz : ∀ z ∈ zs, z.wf) (hL : ofV l = L) (hr : Rising L) (hL40 : L.length ≤ 40) :
    Calls Try.prog 7 #[.slice A n c, .slice S m d] w fun e w' => e = .returned (.bool true) ∧ Below w.heap.size w w' := by
  obtain ⟨i0, hi0, hz0, hz1, hz2⟩ := info_parts infoVer
  obtain ⟨N, hN⟩ : ∃ N, L.length = N := ⟨_, rfl⟩
  rw [hN] at hL40
  have hfl : (flatV L).length = N * 6 := by rw [flatV_length, hN]
  have HFL := Lib.hid hfl
  have HN := Lib.hid hN
  have HL := Lib.hid hL
  have HR := Lib.hid hr
  clear hL hr hN hfl
  go_enter Try.func7, Try.ntmps7
  go_wp2_with (first
    | (go_at_call 18; refine (of_any _ _ _ l _ hn hm hA).mono ?_; rintro e w1 ⟨D, cp, rfl, hown, hb1⟩; rw [HL.out, HN.out] at hown ⊢)
    | (at_builtin; refine wpList_append_cells _ rfl _ _ 22 rfl w1.heap.size 25 i0 (.agg #[.string ⟨#[]⟩, .string ⟨#[]⟩, .bool false, .int .u64 0, .int .i64 0, .int .i64 0]) 6 64 Try.underlying22 hi0 hz0 hz1 hz2 rfl (by omega) _ _ _ rfl (own_empty w1) _ N _ (flatV L) rfl HFL.out ((Cells.of_own hown).on (own_alloc (own_refl _) _)) (one_flat _) (by unfold maxLen; omega) (by omega) (by simp) ?_; intro D0 cp0 w2 hown2 hgrow2; simp only [Nat.zero_add, List.nil_append] at hown2))
  have hb2 : Below w1.heap.size w1 w2 := below_grown (own_alloc (own_refl w1) _) (own_empty w1) (Nat.le_refl _) hgrow2
  have hS2 := (hS.on hb1).on hb2
  go_loopw [23] (fun i wr => ∃ (k : Nat) (M : List V), k ≤ m ∧ i = .int .i64 k ∧ M.Perm L ∧ wr.ownsRow w1.heap.size 25 6 (.slice D0 N cp0) N (flatV M) ∧ Below w1.heap.size w1 wr) (fun i _ => m - (intOf i).toNat)
  case atStart => exact ⟨0, L, Nat.zero_le _, rfl, List.Perm.refl _, hown2, hb2⟩
  case round =>
    obtain ⟨k, M, hk, rfl, hP, hM, hbel⟩ := hrel
    by_cases hlt : k < m
    · obtain ⟨p, hp⟩ : ∃ p, zs[k]? = some p := ⟨_, List.getElem?_eq_getElem (by omega)⟩
      obtain ⟨sb, so, rfl, p0, p1⟩ := cells_p2 ((hS.on hb1).on hbel) hp
      have g3 : (0 : Int) ≤ (k : Int) := by omega
      have g4 : (k : Int) < (m : Int) := by omega
      by_cases hpos : 0 < N
      · have g5 : (0 : Int) < (N : Int) := by omega
        obtain ⟨i, hi, hiN⟩ := rem_in p.a hpos (by omega)
        obtain ⟨j, hj, hjN⟩ := rem_in p.b hpos (by omega)
        obtain ⟨g, rfl, hg0, hg1⟩ := row_some hM hpos
        obtain ⟨x, hx⟩ : ∃ x, M[i]? = some x := ⟨_, List.getElem?_eq_getElem (by rw [hP.length_eq, HN.out]; exact hiN)⟩
        obtain ⟨y, hy⟩ : ∃ y, M[j]? = some y := ⟨_, List.getElem?_eq_getElem (by rw [hP.length_eq, HN.out]; exact hjN)⟩
        go_wp2_with fail
        go_quiet (fail)
        have hMq := row_drewN (hM.alloc (.cells #[.int .i64 p.a, .int .i64 p.b] 41)) nq
        have hbq := own_drewN (own_alloc hbel (.cells #[.int .i64 p.a, .int .i64 p.b] 41)) nq
        obtain ⟨wq, hwq⟩ : ∃ wq, (wr.alloc (.cells #[.int .i64 p.a, .int .i64 p.b] 41)).drewN nq = wq := ⟨_, rfl⟩
        rw [hwq] at hMq hbq ⊢
        have HI := Lib.hid hi
        have HJ := Lib.hid hj
        try rw [hi]
        try rw [hj]
        clear hwq hi hj
        have k1 : (0 : Int) ≤ (i : Int) := by omega
        have k2 : (i : Int) < (N : Int) := by omega
        have k3 : (0 : Int) ≤ (j : Int) := by omega
        have k4 : (j : Int) < (N : Int) := by omega
        obtain ⟨x0, x1, x2, x3, x4, x5⟩ := row_ver hMq hx hiN
        obtain ⟨y0, y1, y2, y3, y4, y5⟩ := row_ver hMq hy hjN
        have f : ∀ q, wq.frozen? ⟨g, q, none⟩ = false := fun q => hMq.frozenAt q
        have hiM : i < M.length := (List.getElem?_eq_some_iff.1 hx).1
        have hjM : j < M.length := (List.getElem?_eq_some_iff.1 hy).1
        have hsw := swap_some hx hy
        have HSW := Lib.hid hsw
        have HX := Lib.hid hx
        have HY := Lib.hid hy
        clear hsw hy hx
        by_cases hij : i = j
        · subst hij
          obtain rfl : x = y := by have := HY.out; rw [HX.out] at this; injection this
          clear y0 y1 y2 y3 y4 y5
          go_wp2_with fail
          go_region
          go_wp2
          go_roundw
          case rel => exact ⟨k + 1, swapV M i i, by omega, by go_num, (swapV_perm M i i).trans hP, by rw [HSW.out]; exact (six_row (six_row hMq hiM x) (by simpa using hiM) x).drew, own_drew (six_below (six_below hbq hg0 x) hg0 x)⟩
          case measure => simp [intOf]; omega
        · go_wp2_with fail
          go_region
          go_wp2
          go_roundw
          case rel => exact ⟨k + 1, swapV M i j, by omega, by go_num, (swapV_perm M i j).trans hP, by rw [HSW.out]; exact (six_row (six_row hMq hiM y) (by simpa using hjM) x).drew, own_drew (six_below (six_below hbq hg0 y) hg0 x)⟩
          case measure => simp [intOf]; omega
      · obtain rfl : N = 0 := by omega
        go_wp2
        go_roundw
        case rel => exact ⟨k + 1, M, by omega, by go_num, hP, hM.alloc _, own_alloc hbel _⟩
        case measure => simp [intOf]; omega
    · obtain rfl : k = m := by omega
      have hML : M.length = N := by rw [hP.length_eq, HN.out]
      have HML := Lib.hid hML
      have hBase := hbel.size
      clear hML
      go_wp2
      go_loopw [10, 63] (fun a i wq => ∃ (q : Nat) (Da : Option Addr) (ca : Nat), q ≤ N ∧ i = .int .i64 q ∧ a = .slice Da (putsTo M q).length ca ∧ wq.ownsRow w1.heap.size 25 6 (.slice Da (putsTo M q).length ca) (putsTo M q).length (flatV (putsTo M q)) ∧ wq.ownsRow w1.heap.size 25 6 (.slice D0 N cp0) N (flatV M) ∧ Below w1.heap.size w1 wq) (fun _ i _ => N - (intOf i).toNat)
      case atStart => exact ⟨0, none, 0, Nat.zero_le _, rfl, rfl, World.ownsRow_nil _ _ _ _, hM, hbel⟩
      case round =>
        obtain ⟨q, Da, ca, hq, rfl, rfl, hrow, hM2, hbq⟩ := hrel
        have hpl := puts_len M q
        have hcap := own_cap hrow
        by_cases hlt2 : q < N
        · obtain ⟨x, hx⟩ : ∃ x, M[q]? = some x := ⟨_, List.getElem?_eq_getElem (by rw [HML.out]; exact hlt2)⟩
          obtain ⟨g, rfl, hg0, hg1⟩ := row_some hM2 (by omega)
          obtain ⟨x0, x1, x2, x3, x4, x5⟩ := row_ver hM2 hx hlt2
          obtain ⟨hfree, hnext⟩ := puts_free HR.out hP hx
          have hpl2 : putL (putsTo M q) x = putsTo M (q + 1) := by rw [hnext]; unfold putL; rw [if_pos hfree]
          have HPL := Lib.hid hpl2
          have HPE := Lib.hid (putE_ok hfree)
          clear hfree hnext hpl2 hx
          have q1 : (0 : Int) ≤ (q : Int) := by omega
          have q2 : (q : Int) < (N : Int) := by omega
          go_wp2_with (go_at_call 20; refine (put_any Da _ ca (putsTo M q) x _ rfl (by omega) hcap (Cells.of_own (hrow.alloc _))).mono ?_; rintro e w4 ⟨D4, cp4, rfl, hown4, hb4⟩; rw [HPE.out]; rw [HPL.out] at hown4 ⊢)
          go_roundw
          case rel => exact ⟨q + 1, D4, cp4, by omega, by go_num, rfl, own_weaken hown4 (own_alloc hbq _).size, own_on (hM2.alloc _) hb4, below_own (own_alloc hbq _) hb4⟩
          case measure => simp [intOf]; omega
        · obtain rfl : q = N := by omega
          have hend : putsTo M q = L := by rw [← HML.out]; exact puts_end HR.out hP
          rw [hend, HN.out] at hrow ⊢
          clear hend hpl hcap
          go_wp2
          go_loopw [15] (fun i wz => ∃ t : Nat, t ≤ q ∧ i = .int .i64 ((t : Int) + 1) ∧ wz.ownsRow w1.heap.size 25 6 (.slice Da q ca) q (flatV L) ∧ Below w1.heap.size w1 wz) (fun i _ => q - (intOf i).toNat)
          case atStart => exact ⟨0, Nat.zero_le _, rfl, hrow, hbq⟩
          case round =>
            obtain ⟨t, ht, rfl, hrz, hbz⟩ := hrel
            by_cases hlt3 : t + 1 < q
            · obtain ⟨x, hx⟩ : ∃ x, L[t]? = some x := ⟨_, List.getElem?_eq_getElem (by rw [HN.out]; omega)⟩
              obtain ⟨y, hy⟩ : ∃ y, L[t + 1]? = some y := ⟨_, List.getElem?_eq_getElem (by rw [HN.out]; omega)⟩
              obtain ⟨g, rfl, hg0, hg1⟩ := row_some hrz (by omega)
              obtain ⟨x0, x1, x2, x3, x4, x5⟩ := row_ver hrz hx (by omega)
              obtain ⟨y0, y1, y2, y3, y4, y5⟩ := row_ver hrz hy (by omega)
              have hv : mlt x.ts x.dc x.tx y.ts y.dc y.tx = true := rising_step HR.out hx hy
              have HV := Lib.hid hv
              clear hx hy hv
              have r1 : (0 : Int) ≤ (t : Int) := by omega
              have r2 : (t : Int) + 1 < (q : Int) := by omega
              have r3 : (t : Int) < (q : Int) := by omega

              have r7 : IntKind.i64.wrap (t : Int) = (t : Int) := by rw [IntWalk.i64_in _ (by omega)]
              have r5 : ((t : Int) + 1).toNat = t + 1 := by omega
              have r6 : (0 : Int) ≤ (t : Int) + 1 := by omega
              go_wp2_with fail
              go_region_held3 (fun w' => Below wr.heap.size wr w' ∧ w'.cell? ⟨g, t * 6, none⟩ = some (.string x.key) ∧ w'.cell? ⟨g, t * 6 + 1, none⟩ = some (.string x.val) ∧ w'.cell? ⟨g, t * 6 + 2, none⟩ = some (.bool x.gone) ∧ w'.cell? ⟨g, t * 6 + 3, none⟩ = some (.int .u64 x.ts) ∧ w'.cell? ⟨g, t * 6 + 4, none⟩ = some (.int .i64 x.dc) ∧ w'.cell? ⟨g, t * 6 + 5, none⟩ = some (.int .i64 x.tx) ∧ w'.cell? ⟨g, (t + 1) * 6, none⟩ = some (.string y.key) ∧ w'.cell? ⟨g, (t + 1) * 6 + 1, none⟩ = some (.string y.val) ∧ w'.cell? ⟨g, (t + 1) * 6 + 2, none⟩ = some (.bool y.gone) ∧ w'.cell? ⟨g, (t + 1) * 6 + 3, none⟩ = some (.int .u64 y.ts) ∧ w'.cell? ⟨g, (t + 1) * 6 + 4, none⟩ = some (.int .i64 y.dc) ∧ w'.cell? ⟨g, (t + 1) * 6 + 5, none⟩ = some (.int .i64 y.tx))
                (first | (refine ⟨own_drew (own_refl _), ?_, ?_, ?_, ?_, ?_, ?_, ?_, ?_, ?_, ?_, ?_, ?_⟩ <;> (go_simp; done)) | (go_split_ands; refine ⟨below_own (by assumption) (by assumption), ?_, ?_, ?_, ?_, ?_, ?_, ?_, ?_, ?_, ?_, ?_, ?_⟩ <;> exact cell_on (by assumption) (by assumption)))
                (first | (go_at_call 23; refine (rof_any _ _ _ _ _ _ _).mono ?_; rintro e w5 ⟨rfl, hb5⟩) | (go_at_call 22; refine (less_any _ _ _ _ _ _ _).mono ?_; rintro e w5 ⟨rfl, hb5⟩; rw [HV.out]))
              rename_i hS
              obtain ⟨hb', _⟩ := hS
              clear r7 r5
              go_wp2
              go_roundw
              case rel => exact ⟨t + 1, by omega, by first | go_num | (congr 1; omega), own_on hrz hb', below_own hbz hb'⟩
              case measure => simp [intOf]; omega
            · go_wp2_with (first
                | (go_at_call 14; refine (awake_any _).mono ?_; rintro e w5 ⟨rfl, hb5⟩)
                | (go_at_call 17; refine (same_any _ _ _ _ _ L _ HN.out (by omega) ((Cells.of_own hrz).on hb5) (((Cells.of_own hown).on hbz).on hb5)).mono ?_; rintro e w6 ⟨rfl, hb6⟩))
              go_ret
              exact ⟨rfl, below_own (below_own (below_own hb1 hbz) hb5) hb6⟩
theorem walk (A S : Option Addr) (n c m d : Nat) (l : List V) (zs : List P2) (w : World) (hn : l.length = n) (hm : n ≤ 9223372036854775807) (hA : Cells w A (flatV l)) (hz : zs.length = m) (hmm : m ≤ 9223372036854775807) (hS : Cells w S (zs.flatMap P2.cells))
    (wz : ∀ z ∈ zs, z.wf) :
    Calls Try.prog 7 #[.slice A n c, .slice S m d] w fun e w' => e = .returned (.bool true) ∧ Below w.heap.size w w' :=
  walk' A S n c m d l _ zs w hn hm hA hz hmm hS wz rfl (ofTo_rising _ _) (by have := ofTo_len l (min l.length 40); unfold ofV; omega)
end Go.Proofs.Ytpiifgmegdphpaa.lawChainOrder
