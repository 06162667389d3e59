/-
  A history as the document has it: the walk. Conditions: the history lies as the hypotheses say.
-/
import Derived.Test.YtiapolcpebilmaaFewT
namespace Go.Proofs.Ytiapolcpebilmaa
open Go.RowKit Go.ChangeShapes Go.WideShapes Go.Deep Go.Maps
set_option linter.unusedVariables false

theorem infoRtx : (Try.prog.info? 49).map (fun i => (i.zero, i.size, i.bytes)) = some (some (.agg #[.int .i64 0, .int .u64 0, .int .i64 0, .int .u64 0, .int .i64 0, .int .i64 0, .slice none 0 0, .slice none 0 0]), 8, 96) := by kernel_rfl
theorem infoRrd : (Try.prog.info? 59).map (fun i => (i.zero, i.size, i.bytes)) = some (some (.agg #[.string ⟨#[]⟩, .bool false, .string ⟨#[]⟩, .string ⟨#[]⟩, .bool false, .int .u64 0, .int .i64 0, .int .i64 0]), 8, 88) := by kernel_rfl
theorem one_rd (x : Rd) : ∀ u ∈ x.cells, u.oneCell' = true := by
  intro u hu
  simp only [Rd.cells, List.mem_cons, List.mem_nil_iff, or_false] at hu
  rcases hu with rfl | rfl | rfl | rfl | rfl | rfl | rfl | rfl <;> rfl
theorem rows_apart {w : World} {B B' : Nat} {e e' : TypeId} {s s' n n' : Nat} {v v' : Value} {xs xs' : List Value} (h : w.ownsRow B e s v n xs) (h' : w.ownsRow B' e' s' v' n' xs') (hne : e ≠ e') : ∀ g, v.ownBlock = some g → ¬ v'.ownBlock = some g := by
  intro g hg hg'
  obtain ⟨_, ⟨h1, _⟩ | ⟨g1, cap, cur, h1, _, hh, _⟩⟩ := h
  · rw [h1] at hg; cases hg
  · obtain ⟨_, ⟨h2, _⟩ | ⟨g2, cap', cur', h2, _, hh', _⟩⟩ := h'
    · rw [h2] at hg'; cases hg'
    · rw [h1] at hg; rw [h2] at hg'
      injection hg with hg; injection hg' with hg'
      have e1 : g1 = g := hg
      have e2 : g2 = g := hg'
      subst e1; subst e2
      rw [hh] at hh'
      injection hh' with q; injection q with _ q
      exact hne q
theorem BoxT.turn {S : Nat → Prop} {w w' : World} {b : Nat} {x : TI} (h : BoxT w b x) (ht : Turns S w w') (hn : ¬ S b) : BoxT w' b x := by
  obtain ⟨⟨c0, c1, c2, c3, c4, c5, c6, c7⟩, hf, hl⟩ := h
  exact ⟨⟨ht.cell c0 hn, ht.cell c1 hn, ht.cell c2 hn, ht.cell c3 hn, ht.cell c4 hn, ht.cell c5 hn, ht.cell c6 hn, ht.cell c7 hn⟩, fun j => ht.frozen (a := ⟨b, j, none⟩) hl hn (hf j), Nat.lt_of_lt_of_le hl ht.size⟩
theorem BoxT.new2 (w : World) (o : Obj) (x : TI) (t : TypeId) : BoxT ((w.alloc o).alloc (.cells #[.int .i64 x.t.cl, .int .u64 x.t.sn, .int .i64 x.t.st, .int .u64 x.t.ts, .int .i64 x.t.dc, .int .i64 x.t.tx, .slice x.R x.t.rds.length x.rc, .slice x.D x.t.wrs.length x.dc] t)) (w.heap.size + 1) x := by
  have h := BoxT.new (w.alloc o) x t
  have e : (w.alloc o).heap.size = w.heap.size + 1 := by simp
  rw [e] at h
  exact h
/-- the reads told so far. -/
def tld (x : TI) (m : Nat) (R : Option Addr) (rc : Nat) : TI := ⟨{ x.t with rds := x.t.rds.take m }, R, rc, x.D, x.dc⟩
theorem BoxT.put6 {w : World} {b m m' rc rc' : Nat} {x : TI} {R R' : Option Addr} (h : BoxT w b (tld x m R rc)) (hm : m' ≤ x.t.rds.length) : BoxT (w.setCell ⟨b, 6, none⟩ (.slice R' m' rc')) b (tld x m' R' rc') := by
  obtain ⟨⟨c0, c1, c2, c3, c4, c5, c6, c7⟩, hf, hl⟩ := h
  have f6 := hf 6
  have hlen : (tld x m' R' rc').t.rds.length = m' := by show (x.t.rds.take m').length = _; rw [List.length_take]; omega
  refine ⟨⟨?_, ?_, ?_, ?_, ?_, ?_, ?_, ?_⟩, fun j => by rw [World.frozen?_setCell]; exact hf j, by simpa [World.setCell] using hl⟩
  all_goals try rw [hlen]
  all_goals simp only [tld] at *
  all_goals go_simp
theorem flatRd_step {l : List Rd} {m : Nat} {r : Rd} (h : l[m]? = some r) : flatRd (l.take (m + 1)) = flatRd (l.take m) ++ r.cells := by
  unfold flatRd
  rw [List.take_add_one, h, List.flatMap_append]
  simp
theorem flatTI_snoc (l : List TI) (x : TI) : flatTI (l ++ [x]) = flatTI l ++ x.cells := by unfold flatTI; rw [List.flatMap_append]; simp
/-- what was told lies in memory of its own, by rows. -/
def Rows (base : Nat) (w0 w : World) (L : List TI) : Prop := ∀ y ∈ L, w.ownsRow base 59 8 (.slice y.R y.t.rds.length y.rc) y.t.rds.length (flatRd y.t.rds) ∧ Cells w0 y.D (flatV y.t.wrs) ∧ y.t.rds.length ≤ 9223372036854775807 ∧ y.t.wrs.length ≤ 9223372036854775807
theorem Rows.on {base : Nat} {w0 w w' : World} {L : List TI} (h : Rows base w0 w L) (hb : Below w.heap.size w w') : Rows base w0 w' L := fun y hy => ⟨own_on (h y hy).1 hb, (h y hy).2⟩
theorem Rows.grown {base B : Nat} {w0 w w' : World} {L : List TI} {e : TypeId} {s n : Nat} {v : Value} {xs : List Value} (h : Rows base w0 w L) (ho : w.ownsRow B e s v n xs) (he : 59 ≠ e) (hg : w.grownBy w' v.ownBlock) : Rows base w0 w' L := fun y hy =>
  ⟨((Turns.refl (fun g => v.ownBlock = some g) w).grown hg (fun j _ e => e)).row (h y hy).1 (rows_apart (h y hy).1 ho he), (h y hy).2⟩
/-- what Told answers. -/
def ToldIs (l : List TI) (w : World) (e : Ending) (w' : World) : Prop := ∃ (D : Option Addr) (cp : Nat) (L : List TI), e = .returned (.slice D L.length cp) ∧ Cells w' D (flatTI L) ∧ (∀ x ∈ L, x.ok w') ∧ L.map TI.t = l.map TI.t ∧ Below w.heap.size w w'
set_option maxRecDepth 100000 in
set_option maxHeartbeats 2000000 in
theorem told_any (A : Option Addr) (n c : Nat) (l : List TI) (w : World) (hn : l.length = n) (hA : Cells w A (flatTI l)) (hm : n ≤ 1000) (hall : ∀ x ∈ l, x.ok w) (hrd : ∀ x ∈ l, x.t.rds.length ≤ 1000) : Calls Try.prog 11 #[.slice A n c] w (ToldIs l w) := by
  obtain ⟨i0, hi0, hz0, hz1, hz2⟩ := info_parts infoRtx
  obtain ⟨i2, hi2, hy0, hy1, hy2⟩ := info_parts infoRrd
  go_enter Try.func11, Try.ntmps11
  go_wp2
  go_loopw [3, 11] (fun o q wr => ∃ (k : Nat) (D : Option Addr) (cp : Nat) (L : List TI), k ≤ n ∧ q = .int .i64 k ∧ o = .slice D k cp ∧ wr.ownsRow w.heap.size 49 8 (.slice D k cp) k (flatTI L) ∧ L.length = k ∧ L.map TI.t = (l.map TI.t).take k ∧ Rows w.heap.size w wr L ∧ Below w.heap.size w wr) (fun _ q _ => n - (intOf q).toNat)
  case atStart => exact ⟨0, none, 0, [], Nat.zero_le _, rfl, rfl, World.ownsRow_nil _ _ _ _, rfl, by simp, (fun y hy => by cases hy), Below.refl _ _⟩
  case round =>
    obtain ⟨k, D, cp, L, hk, rfl, rfl, hown, hL, hmap, hrows, hbel⟩ := hrel
    have HMAP := Lib.hid hmap
    have HROWS := Lib.hid hrows
    clear hmap hrows
    by_cases hlt : k < n
    · obtain ⟨x, hx⟩ : ∃ x, l[k]? = some x := ⟨_, List.getElem?_eq_getElem (by omega)⟩
      have hxa := hall x (List.mem_of_getElem? hx)
      have HRD := Lib.hid (hrd x (List.mem_of_getElem? hx))
      have HXT := Lib.hid (show (l.map TI.t)[k]? = some x.t by rw [List.getElem?_map, hx]; rfl)
      obtain ⟨b, off, hAe, x0, x1, x2, x3, x4, x5, x6, x7⟩ := get_tx (hA.on hbel) hx
      subst hAe
      have HXA := Lib.hid hxa
      have g3 : (0 : Int) ≤ (k : Int) := by omega
      have g4 : (k : Int) < (n : Int) := by omega
      clear hxa hx
      go_wp2
      refine wp_from (fun W => Below wr.heap.size wr W ∧ BoxT W (wr.heap.size + 1) (tld x 0 none 0)) ⟨own_alloc (own_alloc (own_refl _) _) _, BoxT.new2 _ _ (tld x 0 none 0) _⟩ ?_
      intro W1 ⟨hW1, hbx⟩
      have hbxl := hbx.lt
      obtain ⟨bx, hbxe⟩ : ∃ bx, wr.heap.size + 1 = bx := ⟨_, rfl⟩
      rw [hbxe] at hbx hbxl ⊢
      have hge : wr.heap.size ≤ bx := by omega
      clear hbxe x0 x1 x2 x3 x4 x5 x6 x7
      obtain ⟨wo, hwo⟩ : ∃ wo : World, wo = wr := ⟨_, rfl⟩
      rw [← hwo] at hbel hW1 hge
      have HROWS' := Lib.hid (show Rows w.heap.size w wo L by rw [hwo]; exact HROWS.out)
      have hown' : wo.ownsRow w.heap.size 49 8 (.slice D k cp) k (flatTI L) := by rw [hwo]; exact hown
      clear hown HROWS hwo
      go_loopw [29] (fun q wq => ∃ (m : Nat) (R : Option Addr) (rc : Nat), m ≤ x.t.rds.length ∧ q = .int .i64 m ∧ wq.ownsRow W1.heap.size 59 8 (.slice R m rc) m (flatRd (x.t.rds.take m)) ∧ BoxT wq bx (tld x m R rc) ∧ Turns (one bx) W1 wq) (fun q _ => x.t.rds.length - (intOf q).toNat)
      case atStart => exact ⟨0, none, 0, Nat.zero_le _, rfl, World.ownsRow_nil _ _ _ _, hbx, Turns.refl _ _⟩
      case round =>
        clear hbx
        obtain ⟨m, R, rc, hmm, rfl, hrow, hbx, htu⟩ := hrel
        obtain ⟨wq, rfl⟩ : ∃ w0, w0 = wr := ⟨_, rfl⟩
        have hbw : Below wo.heap.size wo wq := htu.below hW1 (fun j e => by have e : j = bx := e; omega)
        have hrdl := HRD.out
        by_cases hlt2 : m < x.t.rds.length
        · obtain ⟨r, hr⟩ : ∃ r, x.t.rds[m]? = some r := ⟨_, List.getElem?_eq_getElem hlt2⟩
          obtain ⟨rb, ro, hRe, r0, r1, r2, r3, r4, r5, r6, r7⟩ := get_rd ((HXA.out.at'.r.on hbel).on hbw) hr
          have HST := Lib.hid (flatRd_step hr)
          rw [hRe]
          have HRE := Lib.hid hRe
          clear hRe
          have hbl := hbx.lt
          obtain ⟨⟨c0, c1, c2, c3, c4, c5, c6, c7⟩, cf, -⟩ := id hbx
          have hlm : (tld x m R rc).t.rds.length = m := by show (x.t.rds.take m).length = m; rw [List.length_take]; omega
          rw [hlm] at c6
          have f6 := cf 6
          have hWlt : bx < W1.heap.size := hbxl
          have hnb : ∀ g, (Value.slice R m rc).ownBlock = some g → W1.heap.size ≤ g := fun g e => (hrow.lt g e).1
          have HRR := Lib.hid hrow
          have HBX := Lib.hid hbx
          have HTU := Lib.hid htu
          have HNB := Lib.hid hnb
          have HBW := Lib.hid hbw
          clear hr hrow hbx htu hnb hbw
          go_wp2_with (at_builtin; refine wpList_append_cells _ rfl _ _ 47 rfl W1.heap.size 59 i2 (.agg #[.string ⟨#[]⟩, .bool false, .string ⟨#[]⟩, .string ⟨#[]⟩, .bool false, .int .u64 0, .int .i64 0, .int .i64 0]) 8 88 Try.underlying47 hi2 hy0 hy1 hy2 rfl (by omega) _ _ _ rfl (own_on HRR.out (by repeat (first | exact own_refl _ | apply own_alloc))) _ 1 _ [.string r.key, .bool r.fd, .string r.v.key, .string r.v.val, .bool r.v.gone, .int .u64 r.v.ts, .int .i64 r.v.dc, .int .i64 r.v.tx] rfl rfl (Cells.new_at _ #[.string r.key, .bool r.fd, .string r.v.key, .string r.v.val, .bool r.v.gone, .int .u64 r.v.ts, .int .i64 r.v.dc, .int .i64 r.v.tx] 59 _ (by simp)) (one_rd r) (by unfold maxLen; omega) (by omega) (by have := HTU.out.size; simp only [World.size_alloc]; omega) ?_; intro D5 cp5 w5 hown5 hgrow5; have hbx5 : BoxT w5 bx (tld x m R rc) := (HBX.out.on (by repeat (first | exact own_refl _ | apply own_alloc))).turn ((Turns.refl (fun g => (Value.slice R m rc).ownBlock = some g) _).grown hgrow5 (fun j _ e => e)) (fun e => by have := HNB.out bx e; omega); obtain ⟨⟨d0, d1, d2, d3, d4, d5, d6, d7⟩, df, -⟩ := id hbx5; rw [hlm] at d6; have h6 := df 6)
          go_roundw
          case rel => exact ⟨m + 1, D5, cp5, by omega, by go_num, by rw [HST.out]; exact ((Turns.refl (one bx) w5).set (a := ⟨bx, 6, none⟩) (fun _ => rfl) _).row hown5 (fun g e e' => by have h1 := (hown5.lt g e).1; have h2 : g = bx := e'; omega), hbx5.put6 (by omega), ((HTU.out.below' (by repeat (first | exact own_refl _ | apply own_alloc))).grown hgrow5 (fun j hj e => by have := HNB.out j e; omega)).set (a := ⟨bx, 6, none⟩) (fun _ => rfl) _⟩
          case measure => simp [intOf]; omega
        · obtain rfl : m = x.t.rds.length := by omega
          have hbl := hbx.lt
          have hbx2 : BoxT wq bx ⟨x.t, R, rc, x.D, x.dc⟩ := by
            have h := hbx
            unfold tld at h
            rw [List.take_length] at h
            exact h
          rw [List.take_length] at hrow
          obtain ⟨⟨c0, c1, c2, c3, c4, c5, c6, c7⟩, -, -⟩ := id hbx2
          have hall2 : Rows w.heap.size w wq (L ++ [⟨x.t, R, rc, x.D, x.dc⟩]) := by
            intro y hy
            rcases List.mem_append.1 hy with h | h
            · exact (HROWS'.out.on hbw) y h
            · rw [List.mem_singleton.1 h]
              have q1 := hbel.size
              have q2 := hW1.size
              exact ⟨row_weaken hrow (by omega), HXA.out.at'.d, HXA.out.rfit, HXA.out.dfit⟩
          have HALL2 := Lib.hid hall2
          have HBW := Lib.hid hbw
          clear hall2 hbx hbx2 hrow htu hbw
          go_wp2_with (at_builtin; refine wpList_append_cells _ rfl _ _ 27 rfl w.heap.size 49 i0 (.agg #[.int .i64 0, .int .u64 0, .int .i64 0, .int .u64 0, .int .i64 0, .int .i64 0, .slice none 0 0, .slice none 0 0]) 8 96 Try.underlying27 hi0 hz0 hz1 hz2 rfl (by omega) _ _ _ rfl (own_on (own_on hown' HBW.out) (by repeat (first | exact own_refl _ | apply own_alloc))) _ 1 _ [.int .i64 x.t.cl, .int .u64 x.t.sn, .int .i64 x.t.st, .int .u64 x.t.ts, .int .i64 x.t.dc, .int .i64 x.t.tx, .slice R x.t.rds.length rc, .slice x.D x.t.wrs.length x.dc] rfl rfl (Cells.new_at _ #[.int .i64 x.t.cl, .int .u64 x.t.sn, .int .i64 x.t.st, .int .u64 x.t.ts, .int .i64 x.t.dc, .int .i64 x.t.tx, .slice R x.t.rds.length rc, .slice x.D x.t.wrs.length x.dc] 49 _ (by simp)) (one_ti ⟨x.t, R, rc, x.D, x.dc⟩) (by unfold maxLen; omega) (by omega) (by have := hbel.size; have := HBW.out.size; simp only [World.size_alloc]; omega) ?_; intro D5 cp5 w5 hown5 hgrow5)
          go_roundw
          case rel => exact ⟨k + 1, D5, cp5, L ++ [⟨x.t, R, rc, x.D, x.dc⟩], by omega, by go_num, rfl, by rw [flatTI_snoc]; exact hown5, by rw [List.length_append, hL]; rfl, by rw [List.map_append, HMAP.out, List.take_add_one, HXT.out]; rfl, (HALL2.out.on (by repeat (first | exact own_refl _ | apply own_alloc))).grown (own_on (own_on hown' HBW.out) (by repeat (first | exact own_refl _ | apply own_alloc))) (by decide) hgrow5, below_grown (below_own (below_own hbel HBW.out) (by repeat (first | exact own_refl _ | apply own_alloc))) (own_on (own_on hown' HBW.out) (by repeat (first | exact own_refl _ | apply own_alloc))) (Nat.le_refl _) hgrow5⟩
          case measure => simp [intOf]; omega
    · obtain rfl : k = n := by omega
      go_wp2
      go_ret
      refine ⟨D, cp, L, by rw [hL]; rfl, Cells.of_own (own_on hown (own_refl _)), fun y hy => ?_, ?_, hbel⟩
      · have h := HROWS.out y hy
        exact ⟨⟨Cells.of_own h.1, h.2.1.on hbel⟩, h.2.2.1, h.2.2.2⟩
      · rw [HMAP.out, List.take_of_length_le (by rw [List.length_map, hn]; omega)]
end Go.Proofs.Ytiapolcpebilmaa
