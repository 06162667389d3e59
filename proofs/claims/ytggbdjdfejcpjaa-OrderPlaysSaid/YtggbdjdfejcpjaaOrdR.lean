/-
  The walk of Release. Conditions: the log lies as the hypotheses say.
-/
import Derived.Test.YtggbdjdfejcpjaaOrdT
namespace Go.Proofs.Ytggbdjdfejcpjaa
open Go.RowKit Go.Maps
set_option linter.unusedVariables false

/-- how many of those that wait are up to a time. -/
def relN (t : Int) : List R → Nat
  | [] => 0
  | r :: l => if r.ts ≤ t then relN t l + 1 else 0
theorem relN_le (t : Int) : ∀ l : List R, relN t l ≤ l.length
  | [] => Nat.le_refl _
  | r :: l => by unfold relN; have := relN_le t l; split <;> simp <;> omega
theorem relN_lt (t : Int) : ∀ (l : List R) (j : Nat), j < relN t l → ∃ r, l[j]? = some r ∧ r.ts ≤ t
  | [], j, h => by cases h
  | r :: l, j, h => by
    unfold relN at h
    split at h
    · cases j with
      | zero => exact ⟨r, rfl, by assumption⟩
      | succ j => exact relN_lt t l j (by omega)
    · cases h
theorem relN_end (t : Int) : ∀ l : List R, relN t l = l.length ∨ ∃ r, l[relN t l]? = some r ∧ t < r.ts
  | [] => .inl rfl
  | r :: l => by
    unfold relN
    split
    · exact (relN_end t l).imp (congrArg (· + 1)) id
    · exact .inr ⟨r, rfl, by omega⟩
def relX (x : Lg) (t : Int) : Lg := ⟨x.list ++ x.wait.take (relN (max x.bound t) x.wait), x.wait.drop (relN (max x.bound t) x.wait), max x.bound t⟩
def RelR (x : Lg) (t : Int) (e : Ending) (w' : World) (x' : Lg) : Prop := e = .returned (.int .i64 (relN (max x.bound t) x.wait)) ∧ x' = relX x t
theorem flatQ_drop (L : List Q) (n : Nat) : (flatQ L).drop (n * 4) = flatQ (L.drop n) := by
  induction L generalizing n with
  | nil => simp [flatQ]
  | cons q L ih =>
    cases n with
    | zero => simp
    | succ n =>
      have h : flatQ (q :: L) = q.cells ++ flatQ L := rfl
      rw [h, List.drop_succ_cons, ← ih n, List.drop_append, show (n + 1) * 4 - q.cells.length = n * 4 from by show (n + 1) * 4 - 4 = _; omega, List.drop_eq_nil_of_le (by show 4 ≤ _; omega)]
      rfl
theorem rel_fin {W w1 W9 : World} {B b n1 nw n : Nat} {vl vw vl' vw' : Value} {L M : List Q} {x : Lg} (h : LogAt W B b vl vw L M x) (own1 : OwnAt w1 B 32 4 vl' n1 (flatQ L ++ flatQ (M.take n))) (g1 : W.grownBy w1 vl.ownBlock)
    (loc1 : ∀ g, vl'.ownBlock = some g → vl.ownBlock = some g ∨ W.heap.size ≤ g) (t9 : Turns (one b) w1 W9) (hb9 : W9.heap[b]? = some (.cells #[vl', vw', .int .u64 x.bound] 62 (0, 0)))
    (ow : OwnAt w1 B 32 4 vw' nw (flatQ (M.drop n))) (ew : ∀ g, vw'.ownBlock = some g → vw.ownBlock = some g) (hn1 : n1 = (x.list ++ x.wait.take n).length) (hnw : nw = (x.wait.drop n).length) :
    LogAt W9 B b vl' vw' (L ++ M.take n) (M.drop n) ⟨x.list ++ x.wait.take n, x.wait.drop n, x.bound⟩ ∧ Turns (logS b vl vw) W W9 ∧ ∀ g, g < W.heap.size → logS b vl' vw' g → logS b vl vw g := by
  have t1 : Turns (fun k => vl.ownBlock = some k) W w1 := (Turns.refl _ W).grown g1 (fun _ _ e => e)
  have hb1 : w1.heap[b]? = some (.cells #[vl, vw, .int .u64 x.bound] 62 (0, 0)) := (t1.block b h.blt h.nl).trans h.hb
  have vb1 : ∀ q, QAt W q → QAt W9 q := fun q hq => (hq.turn t1 (fun g hv e => vb_ne_own h.hl hv e)).turn t9 (fun g hv e => by
    obtain ⟨cs, fz, hg⟩ := hv
    rw [show g = b from e, hb1] at hg
    simp at hg)
  subst hn1 hnw
  refine ⟨⟨hb9, ?_, ow.turn t9 (fun g hg e => own_ne_row ow hb1 (by decide) (by rw [hg, show g = b from e])), by simp [h.lr, ← h.mr, List.map_take], by rw [List.map_drop, h.mr], fun q hq => ?_, fun q hq => vb1 q (h.rm q (List.mem_of_mem_drop hq)), fun g hg e => ?_⟩, (t1.weaken (fun _ _ e => .inr (.inl e))).on t9 (fun _ _ e => .inl e), fun g hg e => ?_⟩
  · rw [flatQ_app]
    exact own1.turn t9 (fun g hg e => own_ne_row own1 hb1 (by decide) (by rw [hg, show g = b from e]))
  · rcases List.mem_append.1 hq with e | e
    · exact vb1 q (h.rl q e)
    · exact vb1 q (h.rm q (List.mem_of_mem_take e))
  · rcases loc1 g hg with e2 | e2
    · exact h.nlw g e2 (ew g e)
    · have := (h.hw.lt g (ew g e)).2; omega
  · rcases e with e | e | e
    · exact .inl e
    · exact .inr (.inl ((loc1 g e).resolve_right (by omega)))
    · exact .inr (.inr (ew g e))
theorem LogAt.bnd {w : World} {B b : Nat} {vl vw : Value} {L M : List Q} {x : Lg} (h : LogAt w B b vl vw L M x) (z : Int) : LogAt (w.setCell ⟨b, 2, none⟩ (.int .u64 z)) B b vl vw L M ⟨x.list, x.wait, z⟩ := by
  have t : Turns (one b) w (w.setCell ⟨b, 2, none⟩ (.int .u64 z)) := (Turns.refl (one b) w).set (a := ⟨b, 2, none⟩) (fun _ => rfl) _
  exact ⟨by rw [heap_setCell_same w b 2 _ _ _ h.hb]; rfl, h.hl.turn t (fun g hg e => h.nl (by rw [hg, show g = b from e])), h.hw.turn t (fun g hg e => h.nw (by rw [hg, show g = b from e])), h.lr, h.mr, fun q hq => (h.rl q hq).turn t (fun g hv e => h.noVB g hv (.inl e)), fun q hq => (h.rm q hq).turn t (fun g hv e => h.noVB g hv (.inl e)), h.nlw⟩
set_option maxRecDepth 100000 in
set_option maxHeartbeats 8000000 in
theorem release_any (w : World) (B b : Nat) (vl vw : Value) (L M : List Q) (x : Lg) (h : LogAt w B b vl vw L M x) (hx : x.list.length + x.wait.length ≤ 200) (t : Int) (hB : B ≤ w.heap.size) : Calls Try.prog 12 #[.pointer (some ⟨b, 0, none⟩), .int .u64 t] w (LStepIs w B b vl vw (RelR x t)) := by
  obtain ⟨i0, hi0, hz0, hz1, hz2⟩ := info_parts infoRec
  obtain ⟨z, hz⟩ : ∃ z : Int, (if x.bound < t then t else x.bound) = z := ⟨_, rfl⟩
  have hmz : max x.bound t = z := by rw [← hz]; split <;> omega
  have h2 : w.cell? ⟨b, 2, none⟩ = some (.int .u64 x.bound) := h.cell 2
  have f2 : w.frozen? ⟨b, 2, none⟩ = false := h.frozen 2
  have hR := h.bnd z
  obtain ⟨W, hW⟩ : ∃ W, w.setCell ⟨b, 2, none⟩ (.int .u64 z) = W := ⟨_, rfl⟩
  have tW : Turns (one b) w W := hW ▸ (Turns.refl (one b) w).set (a := ⟨b, 2, none⟩) (fun _ => rfl) _
  have HMZ := Lib.hid hmz
  clear hmz
  go_enter Try.func12, Try.ntmps12
  go_wp2_with fail
  rw [hW] at hR
  obtain ⟨Dw, cw, rfl, hcw⟩ := h.hw.form
  obtain ⟨Dl, cl, rfl, hcl⟩ := h.hl.form
  have hml := hR.ml
  have HML := Lib.hid hml
  have hll := hR.ll
  have HLL := Lib.hid hll
  have c0 : W.cell? ⟨b, 0, none⟩ = some (.slice Dl x.list.length cl) := hR.cell 0
  have c1 : W.cell? ⟨b, 1, none⟩ = some (.slice Dw x.wait.length cw) := hR.cell 1
  have c2 : W.cell? ⟨b, 2, none⟩ = some (.int .u64 z) := hR.cell 2
  have f0 : W.frozen? ⟨b, 0, none⟩ = false := hR.frozen 0
  have f1 : W.frozen? ⟨b, 1, none⟩ = false := hR.frozen 1
  have hbl := hR.blt
  clear hml hll hz hW h2 f2
  go_loopw [5] (fun i wr => ∃ k : Nat, k ≤ relN z x.wait ∧ i = .int .i64 k ∧ ∃ m, wr = W.drewN m) (fun i _ => x.wait.length - (intOf i).toNat)
  case atStart => exact ⟨0, Nat.zero_le _, rfl, 0, rfl⟩
  case round =>
    obtain ⟨k, hk, rfl, m, rfl⟩ := hrel
    have hrl := relN_le z x.wait
    have hbm : Below W.heap.size W (W.drewN m) := own_drewN (own_refl _) m
    have d0 := cell_on hbm c0
    have d1 := cell_on hbm c1
    have d2 := cell_on hbm c2
    by_cases hlt : k < relN z x.wait
    · obtain ⟨r, hr, hle⟩ := relN_lt z x.wait k hlt
      obtain ⟨q, hq, rfl⟩ : ∃ q, M[k]? = some q ∧ q.r = r := by rw [← hR.mr, List.getElem?_map, Option.map_eq_some_iff] at hr; exact hr
      obtain ⟨g, off, rfl, q0, q1, q2, q3⟩ := get_q hR.hw.cells hq
      have g3 : (0 : Int) ≤ (k : Int) := by omega
      have g4 : (k : Int) < (x.wait.length : Int) := by omega
      have g5 : decide ((k : Int) < (x.wait.length : Int)) = true := by simp; omega
      have g6 : decide (q.r.ts ≤ z) = true := by simpa using hle
      have g7 : decide (k < x.wait.length) = true := by simp; omega
      clear hq hr
      go_wp2_with fail
      go_quiet (fail)
      go_wp2
      go_roundw
      case rel => exact ⟨k + 1, by omega, by go_num, _, rfl⟩
      case measure => simp [intOf]; omega
    · obtain rfl : k = relN z x.wait := by omega
      obtain ⟨n, hn⟩ : ∃ n, relN z x.wait = n := ⟨_, rfl⟩
      have he := relN_end z x.wait
      have HN := Lib.hid hn
      rw [hn] at he hrl ⊢
      clear hlt hk hn
      have hQ : ∀ {Q' : Prop}, (n = x.wait.length → Q') → (∀ q : Q, M[n]? = some q → z < q.r.ts → Q') → Q' := fun h1 h2 => by
        rcases he with e | ⟨r, hr, ht⟩
        · exact h1 e
        · rw [← hR.mr, List.getElem?_map, Option.map_eq_some_iff] at hr
          obtain ⟨q, hq, rfl⟩ := hr
          exact h2 q hq ht
      rcases (by omega : n = x.wait.length ∨ n < x.wait.length) with hnl | hnl
      · have g5 : decide ((n : Int) < (x.wait.length : Int)) = false := by simp; omega
        have g7 : decide (n < x.wait.length) = false := by simp; omega
        have g8 : x.wait.length ≤ n := by omega
        clear hnl hQ he
        go_wp2_with fail
        go_quiet (fail)
        obtain ⟨V, hVe⟩ : ∃ V, (W.drewN m).drewN nq = V := ⟨_, rfl⟩
        have tV : Turns none' W V := hVe ▸ ((Turns.refl none' W).drewN m).drewN nq
        have tVd : Turns none' W V.drew := tV.drew
        have hVd : LogAt V.drew B b (.slice Dl x.list.length cl) (.slice Dw x.wait.length cw) L M ⟨x.list, x.wait, z⟩ := hR.turn tVd (fun _ _ => id) (fun _ _ => id)
        have d0' : V.cell? ⟨b, 0, none⟩ = some (.slice Dl x.list.length cl) := hVd.cell 0
        have d1' : V.cell? ⟨b, 1, none⟩ = some (.slice Dw x.wait.length cw) := hVd.cell 1
        have hBle : B ≤ V.heap.size := Nat.le_trans (Nat.le_trans hB tW.size) tV.size
        have hVs : w.heap.size ≤ V.drew.heap.size := Nat.le_trans tW.size tV.size
        rw [hVe]
        clear hVe d0 d1 d2
        go_wp2_with fail
        rcases hVd.hw.form3 with ⟨rfl, hn0, rfl⟩ | ⟨bw, ow, rfl⟩
        · obtain rfl : n = 0 := by have hn0 : x.wait.length = 0 := hn0; omega
          have d1' : V.cell? ⟨b, 1, none⟩ = some (.slice none 0 0) := by rw [d1', show x.wait.length = 0 from hn0]
          rw [show ((0 : Nat) : Int) = 0 from rfl]
          have HN0 := Lib.hid (show x.wait.length = 0 from hn0)
          clear hn0
          have hl1 : (flatQ (M.take 0)).length = 0 * 4 := by rw [flatQ_len, List.length_take, HML.out]; omega
          have hVl : OwnAt V.drew B 32 4 (.slice Dl x.list.length cl) x.list.length (flatQ L) := hVd.hl
          have hsrc : Cells V.drew none (flatQ (M.take 0)) := Cells.takeG (cf := Q.cells) hVd.hw.cells 0

          go_region_law ((refine step_append_at _ (by rfl) _ _ 26 (by rfl) B 32 i0 (.agg #[.int .u64 0, .int .i64 0, .int .i64 0, .slice none 0 0]) 4 48 Try.underlying26 hi0 hz0 hz1 hz2 (by rfl) (by omega) _ _ _ (by rfl) hVl _ 0 _ (flatQ (M.take 0)) (by rfl) hl1 hsrc (one_fq _) (by unfold maxLen; omega) (by omega) (by first | exact hBle | (simp; exact hBle)) ?_; intro D1 cp1 w1 own1 g1 loc1; have t1 : Turns (fun k => (Value.slice Dl x.list.length cl).ownBlock = some k) V.drew w1 := (Turns.refl _ V.drew).grown g1 (fun _ _ e => e); have e0 := t1.cell d0' hVd.nl; have e1 := t1.cell d1' hVd.nl; have z0 := t1.frozen (a := ⟨b, 0, none⟩) hVd.blt hVd.nl (hVd.frozen 0); have z1 := t1.frozen (a := ⟨b, 1, none⟩) hVd.blt hVd.nl (hVd.frozen 1)))
          all_goals
            go_wp2_with fail
            have hw1 := hVd.hw.turn t1 (fun g hg e => hVd.nlw g e hg)
            have hcut : OwnAt w1 B 32 4 (.slice none 0 0) 0 (flatQ (M.drop 0)) := by rw [List.drop_zero, List.eq_nil_of_length_eq_zero (l := M) (by rw [HML.out]; exact HN0.out)]; exact OwnAt.nil _ _ _ _
            have b1 : w1.heap[b]? = some (.cells #[.slice Dl x.list.length cl, .slice none x.wait.length 0, .int .u64 z] 62 (0, 0)) := (t1.block b hVd.blt hVd.nl).trans hVd.hb
            have b2 := heap_setCell_same w1 b 0 _ _ (.slice D1 x.list.length cp1) b1
            have b3 := heap_setCell_same (w1.setCell ⟨b, 0, none⟩ (.slice D1 x.list.length cp1)) b 1 _ _ (.slice none 0 0) b2
            have t9 : Turns (one b) w1 ((w1.setCell ⟨b, 0, none⟩ (.slice D1 x.list.length cp1)).setCell ⟨b, 1, none⟩ (.slice none 0 0)) := ((Turns.refl (one b) w1).set (a := ⟨b, 0, none⟩) (fun _ => rfl) _).set (a := ⟨b, 1, none⟩) (fun _ => rfl) _
            obtain ⟨r1, r2, r3⟩ := rel_fin (n := 0) hVd own1 g1 loc1 t9 (by rw [b3]; rfl) hcut (fun g hg => by cases hg) (by show _ = (x.list ++ x.wait.take 0).length; rw [List.length_append, List.length_take]; omega) (by show _ = (x.wait.drop 0).length; rw [List.length_drop]; rw [HN0.out])
            go_ret
            refine ⟨_, _, L ++ M.take 0, M.drop 0, relX x t, ⟨by rw [HMZ.out, HN.out]; rfl, rfl⟩, ?_, ((tW.weaken (fun _ _ e => .inl e)).on tVd (fun _ _ e => e.elim)).on r2 (fun _ _ e => e), fun g hg e => r3 g (Nat.lt_of_lt_of_le hg hVs) e⟩
            rw [show relX x t = ⟨x.list ++ x.wait.take 0, x.wait.drop 0, z⟩ from by unfold relX; rw [HMZ.out, HN.out]]
            exact r1
        · have n1 : (0 : Int) ≤ (n : Int) := by omega
          have n2 : (n : Int) ≤ (x.wait.length : Int) := by omega
          by_cases hcp : cw = n
          · obtain rfl : n = cw := hcp.symm
            clear hcp
            have n3 : (n : Int) ≤ (n : Int) := by omega
            have hl1 : (flatQ (M.take n)).length = n * 4 := by rw [flatQ_len, List.length_take, HML.out]; omega
            have hVl : OwnAt V.drew B 32 4 (.slice Dl x.list.length cl) x.list.length (flatQ L) := hVd.hl
            have hsrc : Cells V.drew (some ⟨bw, ow, none⟩) (flatQ (M.take n)) := Cells.takeG (cf := Q.cells) hVd.hw.cells n
            have n2' : n ≤ x.wait.length := by omega
            go_region_law ((refine step_append_at _ (by rfl) _ _ 26 (by rfl) B 32 i0 (.agg #[.int .u64 0, .int .i64 0, .int .i64 0, .slice none 0 0]) 4 48 Try.underlying26 hi0 hz0 hz1 hz2 (by rfl) (by omega) _ _ _ (by rfl) hVl _ n _ (flatQ (M.take n)) (by rfl) hl1 hsrc (one_fq _) (by unfold maxLen; omega) (by omega) (by first | exact hBle | (simp; exact hBle)) ?_; intro D1 cp1 w1 own1 g1 loc1; have t1 : Turns (fun k => (Value.slice Dl x.list.length cl).ownBlock = some k) V.drew w1 := (Turns.refl _ V.drew).grown g1 (fun _ _ e => e); have e0 := t1.cell d0' hVd.nl; have e1 := t1.cell d1' hVd.nl; have z0 := t1.frozen (a := ⟨b, 0, none⟩) hVd.blt hVd.nl (hVd.frozen 0); have z1 := t1.frozen (a := ⟨b, 1, none⟩) hVd.blt hVd.nl (hVd.frozen 1)))
            all_goals
              go_wp2_with fail
              have hw1 := hVd.hw.turn t1 (fun g hg e => hVd.nlw g e hg)
              have hcut : OwnAt w1 B 32 4 (.slice (some ⟨bw, ow, none⟩) 0 0) 0 (flatQ (M.drop n)) := by
                rw [List.drop_eq_nil_of_le (by rw [HML.out]; exact g8)]
                exact hw1.none_left
              have b1 : w1.heap[b]? = some (.cells #[.slice Dl x.list.length cl, .slice (some ⟨bw, ow, none⟩) x.wait.length n, .int .u64 z] 62 (0, 0)) := (t1.block b hVd.blt hVd.nl).trans hVd.hb
              have b2 := heap_setCell_same w1 b 0 _ _ (.slice D1 (x.list.length + n) cp1) b1
              have b3 := heap_setCell_same (w1.setCell ⟨b, 0, none⟩ (.slice D1 (x.list.length + n) cp1)) b 1 _ _ (.slice (some ⟨bw, ow, none⟩) 0 0) b2
              have t9 : Turns (one b) w1 ((w1.setCell ⟨b, 0, none⟩ (.slice D1 (x.list.length + n) cp1)).setCell ⟨b, 1, none⟩ (.slice (some ⟨bw, ow, none⟩) 0 0)) := ((Turns.refl (one b) w1).set (a := ⟨b, 0, none⟩) (fun _ => rfl) _).set (a := ⟨b, 1, none⟩) (fun _ => rfl) _
              obtain ⟨r1, r2, r3⟩ := rel_fin (n := n) hVd own1 g1 loc1 t9 (by rw [b3]; rfl) hcut (fun g hg => hg) (by show _ = (x.list ++ x.wait.take n).length; rw [List.length_append, List.length_take]; omega) (by show _ = (x.wait.drop n).length; rw [List.length_drop]; omega)
              go_ret
              refine ⟨_, _, L ++ M.take n, M.drop n, relX x t, ⟨by rw [HMZ.out, HN.out]; rfl, rfl⟩, ?_, ((tW.weaken (fun _ _ e => .inl e)).on tVd (fun _ _ e => e.elim)).on r2 (fun _ _ e => e), fun g hg e => r3 g (Nat.lt_of_lt_of_le hg hVs) e⟩
              rw [show relX x t = ⟨x.list ++ x.wait.take n, x.wait.drop n, z⟩ from by unfold relX; rw [HMZ.out, HN.out]]
              exact r1
          · have n4 : ¬ cw = n := hcp
            have n3 : (n : Int) ≤ (cw : Int) := by omega
            have hl1 : (flatQ (M.take n)).length = n * 4 := by rw [flatQ_len, List.length_take, HML.out]; omega
            have hVl : OwnAt V.drew B 32 4 (.slice Dl x.list.length cl) x.list.length (flatQ L) := hVd.hl
            have hsrc : Cells V.drew (some ⟨bw, ow, none⟩) (flatQ (M.take n)) := Cells.takeG (cf := Q.cells) hVd.hw.cells n
            have n2' : n ≤ x.wait.length := by omega
            go_region_law ((refine step_append_at _ (by rfl) _ _ 26 (by rfl) B 32 i0 (.agg #[.int .u64 0, .int .i64 0, .int .i64 0, .slice none 0 0]) 4 48 Try.underlying26 hi0 hz0 hz1 hz2 (by rfl) (by omega) _ _ _ (by rfl) hVl _ n _ (flatQ (M.take n)) (by rfl) hl1 hsrc (one_fq _) (by unfold maxLen; omega) (by omega) (by first | exact hBle | (simp; exact hBle)) ?_; intro D1 cp1 w1 own1 g1 loc1; have t1 : Turns (fun k => (Value.slice Dl x.list.length cl).ownBlock = some k) V.drew w1 := (Turns.refl _ V.drew).grown g1 (fun _ _ e => e); have e0 := t1.cell d0' hVd.nl; have e1 := t1.cell d1' hVd.nl; have z0 := t1.frozen (a := ⟨b, 0, none⟩) hVd.blt hVd.nl (hVd.frozen 0); have z1 := t1.frozen (a := ⟨b, 1, none⟩) hVd.blt hVd.nl (hVd.frozen 1)))
            all_goals
              go_wp2_with fail
              have hw1 := hVd.hw.turn t1 (fun g hg e => hVd.nlw g e hg)
              have hcut : OwnAt w1 B 32 4 (.slice (some ⟨bw, ow + n * 4, none⟩) 0 (cw - n)) 0 (flatQ (M.drop n)) := by
                have h9 := hw1.tail n2'
                rw [flatQ_drop, show x.wait.length - n = 0 from by omega] at h9
                exact h9
              have b1 : w1.heap[b]? = some (.cells #[.slice Dl x.list.length cl, .slice (some ⟨bw, ow, none⟩) x.wait.length cw, .int .u64 z] 62 (0, 0)) := (t1.block b hVd.blt hVd.nl).trans hVd.hb
              have b2 := heap_setCell_same w1 b 0 _ _ (.slice D1 (x.list.length + n) cp1) b1
              have b3 := heap_setCell_same (w1.setCell ⟨b, 0, none⟩ (.slice D1 (x.list.length + n) cp1)) b 1 _ _ (.slice (some ⟨bw, ow + n * 4, none⟩) 0 (cw - n)) b2
              have t9 : Turns (one b) w1 ((w1.setCell ⟨b, 0, none⟩ (.slice D1 (x.list.length + n) cp1)).setCell ⟨b, 1, none⟩ (.slice (some ⟨bw, ow + n * 4, none⟩) 0 (cw - n))) := ((Turns.refl (one b) w1).set (a := ⟨b, 0, none⟩) (fun _ => rfl) _).set (a := ⟨b, 1, none⟩) (fun _ => rfl) _
              obtain ⟨r1, r2, r3⟩ := rel_fin (n := n) hVd own1 g1 loc1 t9 (by rw [b3]; rfl) hcut (fun g hg => hg) (by show _ = (x.list ++ x.wait.take n).length; rw [List.length_append, List.length_take]; omega) (by show _ = (x.wait.drop n).length; rw [List.length_drop]; omega)
              go_ret
              refine ⟨_, _, L ++ M.take n, M.drop n, relX x t, ⟨by rw [HMZ.out, HN.out]; rfl, rfl⟩, ?_, ((tW.weaken (fun _ _ e => .inl e)).on tVd (fun _ _ e => e.elim)).on r2 (fun _ _ e => e), fun g hg e => r3 g (Nat.lt_of_lt_of_le hg hVs) e⟩
              rw [show relX x t = ⟨x.list ++ x.wait.take n, x.wait.drop n, z⟩ from by unfold relX; rw [HMZ.out, HN.out]]
              exact r1
      · refine hQ (fun e => by omega) (fun q hq hlt => ?_)
        obtain ⟨g, off, hgo, q0, q1, q2, q3⟩ := get_q hR.hw.cells hq
        subst hgo
        have g5 : decide ((n : Int) < (x.wait.length : Int)) = true := by simp; omega
        have g7 : decide (n < x.wait.length) = true := by simp; omega
        have g3 : (0 : Int) ≤ (n : Int) := by omega
        have g4 : (n : Int) < (x.wait.length : Int) := by omega
        have g6 : decide (q.r.ts ≤ z) = false := by simp; omega
        have hcw' : x.wait.length ≤ cw := hcw
        clear hQ he hq
        go_wp2_with fail
        go_quiet (fail)
        clear g6 q0 q1 q2 q3 g5 g7
        obtain ⟨V, hVe⟩ : ∃ V, (W.drewN m).drewN nq = V := ⟨_, rfl⟩
        have tV : Turns none' W V := hVe ▸ ((Turns.refl none' W).drewN m).drewN nq
        have tVd : Turns none' W V.drew := tV.drew
        have hVd : LogAt V.drew B b (.slice Dl x.list.length cl) (.slice (some ⟨g, off, none⟩) x.wait.length cw) L M ⟨x.list, x.wait, z⟩ := hR.turn tVd (fun _ _ => id) (fun _ _ => id)
        have d0' : V.cell? ⟨b, 0, none⟩ = some (.slice Dl x.list.length cl) := hVd.cell 0
        have d1' : V.cell? ⟨b, 1, none⟩ = some (.slice (some ⟨g, off, none⟩) x.wait.length cw) := hVd.cell 1
        have hBle : B ≤ V.heap.size := Nat.le_trans (Nat.le_trans hB tW.size) tV.size
        have hVs : w.heap.size ≤ V.drew.heap.size := Nat.le_trans tW.size tV.size
        rw [hVe]
        clear hVe d0 d1 d2
        go_wp2_with fail
        rcases hVd.hw.form3 with ⟨hno, _⟩ | ⟨bw, ow, hbo⟩
        · cases hno
        · obtain ⟨rfl, rfl⟩ : bw = g ∧ ow = off := by injection hbo with e; injection e with e1 e2; exact ⟨e1.symm, e2.symm⟩
          have n1 : (0 : Int) ≤ (n : Int) := by omega
          have n2 : (n : Int) ≤ (x.wait.length : Int) := by omega
          by_cases hcp : cw = n
          · omega
          · have n4 : ¬ cw = n := hcp
            have n3 : (n : Int) ≤ (cw : Int) := by omega
            have hl1 : (flatQ (M.take n)).length = n * 4 := by rw [flatQ_len, List.length_take, HML.out]; omega
            have hVl : OwnAt V.drew B 32 4 (.slice Dl x.list.length cl) x.list.length (flatQ L) := hVd.hl
            have hsrc : Cells V.drew (some ⟨bw, ow, none⟩) (flatQ (M.take n)) := Cells.takeG (cf := Q.cells) hVd.hw.cells n
            have n2' : n ≤ x.wait.length := by omega
            go_region_law ((refine step_append_at _ (by rfl) _ _ 26 (by rfl) B 32 i0 (.agg #[.int .u64 0, .int .i64 0, .int .i64 0, .slice none 0 0]) 4 48 Try.underlying26 hi0 hz0 hz1 hz2 (by rfl) (by omega) _ _ _ (by rfl) hVl _ n _ (flatQ (M.take n)) (by rfl) hl1 hsrc (one_fq _) (by unfold maxLen; omega) (by omega) (by first | exact hBle | (simp; exact hBle)) ?_; intro D1 cp1 w1 own1 g1 loc1; have t1 : Turns (fun k => (Value.slice Dl x.list.length cl).ownBlock = some k) V.drew w1 := (Turns.refl _ V.drew).grown g1 (fun _ _ e => e); have e0 := t1.cell d0' hVd.nl; have e1 := t1.cell d1' hVd.nl; have z0 := t1.frozen (a := ⟨b, 0, none⟩) hVd.blt hVd.nl (hVd.frozen 0); have z1 := t1.frozen (a := ⟨b, 1, none⟩) hVd.blt hVd.nl (hVd.frozen 1)))
            all_goals
              go_wp2_with fail
              have hw1 := hVd.hw.turn t1 (fun g hg e => hVd.nlw g e hg)
              have hcut : OwnAt w1 B 32 4 (.slice (some ⟨bw, ow + n * 4, none⟩) (x.wait.length - n) (cw - n)) (x.wait.length - n) (flatQ (M.drop n)) := by
                have h9 := hw1.tail n2'
                rw [flatQ_drop] at h9
                exact h9
              have b1 : w1.heap[b]? = some (.cells #[.slice Dl x.list.length cl, .slice (some ⟨bw, ow, none⟩) x.wait.length cw, .int .u64 z] 62 (0, 0)) := (t1.block b hVd.blt hVd.nl).trans hVd.hb
              have b2 := heap_setCell_same w1 b 0 _ _ (.slice D1 (x.list.length + n) cp1) b1
              have b3 := heap_setCell_same (w1.setCell ⟨b, 0, none⟩ (.slice D1 (x.list.length + n) cp1)) b 1 _ _ (.slice (some ⟨bw, ow + n * 4, none⟩) (x.wait.length - n) (cw - n)) b2
              have t9 : Turns (one b) w1 ((w1.setCell ⟨b, 0, none⟩ (.slice D1 (x.list.length + n) cp1)).setCell ⟨b, 1, none⟩ (.slice (some ⟨bw, ow + n * 4, none⟩) (x.wait.length - n) (cw - n))) := ((Turns.refl (one b) w1).set (a := ⟨b, 0, none⟩) (fun _ => rfl) _).set (a := ⟨b, 1, none⟩) (fun _ => rfl) _
              obtain ⟨r1, r2, r3⟩ := rel_fin (n := n) hVd own1 g1 loc1 t9 (by rw [b3]; rfl) hcut (fun g hg => hg) (by show _ = (x.list ++ x.wait.take n).length; rw [List.length_append, List.length_take]; omega) (by show _ = (x.wait.drop n).length; rw [List.length_drop])
              go_ret
              refine ⟨_, _, L ++ M.take n, M.drop n, relX x t, ⟨by rw [HMZ.out, HN.out]; rfl, rfl⟩, ?_, ((tW.weaken (fun _ _ e => .inl e)).on tVd (fun _ _ e => e.elim)).on r2 (fun _ _ e => e), fun g hg e => r3 g (Nat.lt_of_lt_of_le hg hVs) e⟩
              rw [show relX x t = ⟨x.list ++ x.wait.take n, x.wait.drop n, z⟩ from by unfold relX; rw [HMZ.out, HN.out]]
              exact r1
end Go.Proofs.Ytggbdjdfejcpjaa
