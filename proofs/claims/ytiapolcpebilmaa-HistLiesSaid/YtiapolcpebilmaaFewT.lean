/-
  A history cut to what a statement goes through: the walk. Conditions: the history lies as the hypotheses say.
-/
import Derived.Test.YtiapolcpebilmaaWantP
import Derived.Test.YtiapolcpebilmaaHistP
import Derived.Test.YtiapolcpebilmaaOpenHist
import Derived.Test.YtiapolcpebilmaaAppend
import Derived.Test.YtiapolcpebilmaaTurn
import Derived.Deep.RegionHeld3
import Derived.Deep.QuietTactic
import Derived.BigQuiet
import Derived.Outline
import Derived.Lib.Hide
import Derived.IntWalk
import Derived.BigRegion
import Derived.OwnWalk
namespace Go.Proofs.Ytiapolcpebilmaa
open Go.RowKit Go.ChangeShapes Go.WideShapes Go.Deep Go.Maps
set_option linter.unusedVariables false

theorem infoTx : (Try.prog.info? 45).map (fun i => (i.zero, i.size, i.bytes)) = some (some (.agg #[.int .i64 0, .int .u64 0, .int .i64 0, .int .u64 0, .int .i64 0, .int .i64 0, .slice none 0 0, .slice none 0 0]), 8, 96) := by kernel_rfl
theorem one_ti (x : TI) : ∀ u ∈ x.cells, u.oneCell' = true := by
  intro u hu
  simp only [TI.cells, List.mem_cons, List.mem_nil_iff, or_false] at hu
  rcases hu with rfl | rfl | rfl | rfl | rfl | rfl | rfl | rfl <;> rfl
theorem Cells.new_at (w : World) (cs : Array Value) (t : TypeId) (H : Nat) (h : H = w.heap.size) : Cells (w.alloc (.cells cs t)) (some ⟨H, 0, none⟩) cs.toList := by
  subst h; exact Cells.new w cs t
theorem own_on {w w1 : World} {base : Nat} {e : TypeId} {size n : Nat} {v : Value} {xs : List Value} (h : w.ownsRow base e size v n xs) (hb : Below w.heap.size w w1) : w1.ownsRow base e size v n xs := (Turns.of_below (S := none') hb).row h (fun _ _ => id)
theorem below_grown {w0 w w' : World} {v : Value} {base : Nat} {e : TypeId} {size n : Nat} {xs : List Value} (h : Below w0.heap.size w0 w) (hown : w.ownsRow base e size v n xs) (hb : w0.heap.size ≤ base) (hg : w.grownBy w' v.ownBlock) : Below w0.heap.size w0 w' :=
  h.grown hg h.size fun k hk => Nat.le_trans hb (hown.lt k hk).1
/-- a transaction of which no more than eight reads and writes are kept. -/
def fewTI (x : TI) : TI := { x with t := { x.t with rds := x.t.rds.take 8, wrs := x.t.wrs.take 8 } }
def fewTo (l : List TI) (k : Nat) : List TI := (l.take k).map fewTI
def fewL (l : List TI) : List TI := fewTo l (min l.length 40)
theorem fewTo_len {l : List TI} {k : Nat} (h : k ≤ l.length) : (fewTo l k).length = k := by unfold fewTo; rw [List.length_map, List.length_take]; omega
theorem fewTo_step {l : List TI} {k : Nat} {x : TI} (h : l[k]? = some x) : flatTI (fewTo l (k + 1)) = flatTI (fewTo l k) ++ (fewTI x).cells := by
  unfold flatTI fewTo
  rw [List.take_add_one, h, List.map_append, List.flatMap_append]
  simp
/-- a slice that is cut to eight. -/
theorem shapes (A : Option Addr) (n c : Nat) (hle : n ≤ c) (hnn : A = none → n = 0 ∧ c = 0) : (A = none ∧ n = 0 ∧ c = 0) ∨ (∃ a, A = some a ∧ (n : Int) ≤ 8 ∧ (n : Int) ≤ (c : Int)) ∨ (∃ a, A = some a ∧ ¬ (n : Int) ≤ 8 ∧ (8 : Int) ≤ (c : Int)) := by
  cases A with
  | none => obtain ⟨rfl, rfl⟩ := hnn rfl; exact .inl ⟨rfl, rfl, rfl⟩
  | some a =>
    by_cases h : n ≤ 8
    · exact .inr (.inl ⟨a, rfl, by omega, by omega⟩)
    · exact .inr (.inr ⟨a, rfl, by omega, by omega⟩)
/-- what Few answers. -/
def FewIs (l : List TI) (w : World) (e : Ending) (w' : World) : Prop := ∃ (D : Option Addr) (cp : Nat), e = .returned (.slice D (fewL l).length cp) ∧ w'.ownsRow w.heap.size 45 8 (.slice D (fewL l).length cp) (fewL l).length (flatTI (fewL l)) ∧ Below w.heap.size w w'
set_option maxRecDepth 100000 in
set_option maxHeartbeats 4000000 in
theorem few_any (A : Option Addr) (n c : Nat) (l : List TI) (w : World) (hn : l.length = n) (hA : Cells w A (flatTI l)) (hm : n ≤ 9223372036854775807) (hall : ∀ x ∈ l, x.wf w) : Calls Try.prog 8 #[.slice A n c] w (FewIs l w) := by
  obtain ⟨i0, hi0, hz0, hz1, hz2⟩ := info_parts infoTx
  go_enter Try.func8, Try.ntmps8
  go_wp2
  go_loopw [3, 4] (fun o q wr => ∃ (k : Nat) (D : Option Addr) (cp : Nat), k ≤ n ∧ k ≤ 40 ∧ q = .int .i64 k ∧ o = .slice D k cp ∧ wr.ownsRow w.heap.size 45 8 (.slice D k cp) k (flatTI (fewTo l k)) ∧ Below w.heap.size w wr) (fun _ q _ => n - (intOf q).toNat)
  case atStart => exact ⟨0, none, 0, Nat.zero_le _, by omega, rfl, rfl, World.ownsRow_nil _ _ _ _, Below.refl _ _⟩
  case round =>
    obtain ⟨k, D, cp, hk, hk40, rfl, rfl, hown, hbel⟩ := hrel
    have hsz := hbel.size
    by_cases hlt : k < n ∧ k < 40
    · obtain ⟨hlt, hlt40⟩ := hlt
      obtain ⟨x, hx⟩ : ∃ x, l[k]? = some x := ⟨_, List.getElem?_eq_getElem (by omega)⟩
      have HST := Lib.hid (fewTo_step hx)
      have hwf := hall x (List.mem_of_getElem? hx)
      obtain ⟨b, off, hAe, x0, x1, x2, x3, x4, x5, x6, x7⟩ := get_tx (hA.on hbel) hx
      subst hAe
      have g3 : (0 : Int) ≤ (k : Int) := by omega
      have g4 : (k : Int) < (n : Int) := by omega
      have g5 : (k : Int) < 40 := by omega
      have hs1 := shapes x.R x.t.rds.length x.rc hwf.rle hwf.rnn
      have hs2 := shapes x.D x.t.wrs.length x.dc hwf.dle hwf.dnn
      have hl1 : (fewTI x).t.rds.length = min x.t.rds.length 8 := by show (x.t.rds.take 8).length = _; rw [List.length_take]; omega
      have hl2 : (fewTI x).t.wrs.length = min x.t.wrs.length 8 := by show (x.t.wrs.take 8).length = _; rw [List.length_take]; omega
      have hce : (fewTI x).cells = [.int .i64 x.t.cl, .int .u64 x.t.sn, .int .i64 x.t.st, .int .u64 x.t.ts, .int .i64 x.t.dc, .int .i64 x.t.tx, .slice x.R (fewTI x).t.rds.length x.rc, .slice x.D (fewTI x).t.wrs.length x.dc] := rfl
      rw [hl1, hl2] at hce
      clear hwf hx hl1 hl2
      obtain ⟨rn, hrn⟩ : ∃ v, x.t.rds.length = v := ⟨_, rfl⟩
      obtain ⟨dn, hdn⟩ : ∃ v, x.t.wrs.length = v := ⟨_, rfl⟩
      obtain ⟨rc, hrc⟩ : ∃ v, x.rc = v := ⟨_, rfl⟩
      obtain ⟨dcc, hdcc⟩ : ∃ v, x.dc = v := ⟨_, rfl⟩
      obtain ⟨R0, hR0⟩ : ∃ v, x.R = v := ⟨_, rfl⟩
      obtain ⟨D0, hD0⟩ : ∃ v, x.D = v := ⟨_, rfl⟩
      rw [hrn, hrc, hR0] at hs1 x6
      rw [hdn, hdcc, hD0] at hs2 x7
      rw [hrn, hdn, hrc, hdcc, hR0, hD0] at hce
      clear hrn hdn hrc hdcc hR0 hD0
      obtain ⟨cl, hcl⟩ : ∃ v, x.t.cl = v := ⟨_, rfl⟩
      obtain ⟨sn, hsn⟩ : ∃ v, x.t.sn = v := ⟨_, rfl⟩
      obtain ⟨st, hst⟩ : ∃ v, x.t.st = v := ⟨_, rfl⟩
      obtain ⟨ts, hts⟩ : ∃ v, x.t.ts = v := ⟨_, rfl⟩
      obtain ⟨dc, hdc⟩ : ∃ v, x.t.dc = v := ⟨_, rfl⟩
      obtain ⟨tx, htx⟩ : ∃ v, x.t.tx = v := ⟨_, rfl⟩
      rw [hcl, hsn, hst, hts, hdc, htx] at hce
      rw [hcl] at x0
      rw [hsn] at x1
      rw [hst] at x2
      rw [hts] at x3
      rw [hdc] at x4
      rw [htx] at x5
      clear hcl hsn hst hts hdc htx
      rcases hs1 with ⟨rfl, rfl, rfl⟩ | ⟨ra, rfl, r1, r2⟩ | ⟨ra, rfl, r1, r2⟩
      all_goals
        rcases hs2 with ⟨rfl, rfl, rfl⟩ | ⟨da, rfl, d1, d2⟩ | ⟨da, rfl, d1, d2⟩
      · rw [show min 0 8 = 0 from rfl] at hce
        have HCE := Lib.hid hce
        clear hce
        go_wp2_with fail
        go_region
        go_wp2_with (at_builtin; refine wpList_append_cells _ rfl _ _ 22 rfl w.heap.size 45 i0 (.agg #[.int .i64 0, .int .u64 0, .int .i64 0, .int .u64 0, .int .i64 0, .int .i64 0, .slice none 0 0, .slice none 0 0]) 8 96 Try.underlying22 hi0 hz0 hz1 hz2 rfl (by omega) _ _ _ rfl (own_on hown (by repeat (first | exact own_refl _ | apply own_alloc | apply own_drew))) _ 1 _ [.int .i64 cl, .int .u64 sn, .int .i64 st, .int .u64 ts, .int .i64 dc, .int .i64 tx, .slice none 0 0, .slice none 0 0] rfl rfl (Cells.new_at _ #[.int .i64 cl, .int .u64 sn, .int .i64 st, .int .u64 ts, .int .i64 dc, .int .i64 tx, .slice none 0 0, .slice none 0 0] 45 _ (by simp)) (by intro u hu; simp only [List.mem_cons, List.mem_nil_iff, or_false] at hu; rcases hu with rfl | rfl | rfl | rfl | rfl | rfl | rfl | rfl <;> rfl) (by unfold maxLen; omega) (by omega) (by simp only [World.size_alloc, World.size_drew]; omega) ?_; intro D5 cp5 w5 hown5 hgrow5)
        go_roundw
        case rel => exact ⟨k + 1, D5, cp5, by omega, by omega, by go_num, rfl, by rw [HST.out, HCE.out]; exact hown5, below_grown (below_own hbel (by repeat (first | exact own_refl _ | apply own_alloc | apply own_drew))) (own_on hown (by repeat (first | exact own_refl _ | apply own_alloc | apply own_drew))) (Nat.le_refl _) hgrow5⟩
        case measure => simp [intOf]; omega
      · rw [show min 0 8 = 0 from rfl, show min dn 8 = dn from by omega] at hce
        have HCE := Lib.hid hce
        clear hce
        go_wp2_with fail
        go_region
        go_wp2_with (at_builtin; refine wpList_append_cells _ rfl _ _ 22 rfl w.heap.size 45 i0 (.agg #[.int .i64 0, .int .u64 0, .int .i64 0, .int .u64 0, .int .i64 0, .int .i64 0, .slice none 0 0, .slice none 0 0]) 8 96 Try.underlying22 hi0 hz0 hz1 hz2 rfl (by omega) _ _ _ rfl (own_on hown (by repeat (first | exact own_refl _ | apply own_alloc | apply own_drew))) _ 1 _ [.int .i64 cl, .int .u64 sn, .int .i64 st, .int .u64 ts, .int .i64 dc, .int .i64 tx, .slice none 0 0, .slice (some da) dn dcc] rfl rfl (Cells.new_at _ #[.int .i64 cl, .int .u64 sn, .int .i64 st, .int .u64 ts, .int .i64 dc, .int .i64 tx, .slice none 0 0, .slice (some da) dn dcc] 45 _ (by simp)) (by intro u hu; simp only [List.mem_cons, List.mem_nil_iff, or_false] at hu; rcases hu with rfl | rfl | rfl | rfl | rfl | rfl | rfl | rfl <;> rfl) (by unfold maxLen; omega) (by omega) (by simp only [World.size_alloc, World.size_drew]; omega) ?_; intro D5 cp5 w5 hown5 hgrow5)
        go_roundw
        case rel => exact ⟨k + 1, D5, cp5, by omega, by omega, by go_num, rfl, by rw [HST.out, HCE.out]; exact hown5, below_grown (below_own hbel (by repeat (first | exact own_refl _ | apply own_alloc | apply own_drew))) (own_on hown (by repeat (first | exact own_refl _ | apply own_alloc | apply own_drew))) (Nat.le_refl _) hgrow5⟩
        case measure => simp [intOf]; omega
      · rw [show min 0 8 = 0 from rfl, show min dn 8 = 8 from by omega] at hce
        have HCE := Lib.hid hce
        clear hce
        go_wp2_with fail
        go_region
        go_wp2_with (at_builtin; refine wpList_append_cells _ rfl _ _ 22 rfl w.heap.size 45 i0 (.agg #[.int .i64 0, .int .u64 0, .int .i64 0, .int .u64 0, .int .i64 0, .int .i64 0, .slice none 0 0, .slice none 0 0]) 8 96 Try.underlying22 hi0 hz0 hz1 hz2 rfl (by omega) _ _ _ rfl (own_on hown (by repeat (first | exact own_refl _ | apply own_alloc | apply own_drew))) _ 1 _ [.int .i64 cl, .int .u64 sn, .int .i64 st, .int .u64 ts, .int .i64 dc, .int .i64 tx, .slice none 0 0, .slice (some da) 8 dcc] rfl rfl (Cells.new_at _ #[.int .i64 cl, .int .u64 sn, .int .i64 st, .int .u64 ts, .int .i64 dc, .int .i64 tx, .slice none 0 0, .slice (some da) 8 dcc] 45 _ (by simp)) (by intro u hu; simp only [List.mem_cons, List.mem_nil_iff, or_false] at hu; rcases hu with rfl | rfl | rfl | rfl | rfl | rfl | rfl | rfl <;> rfl) (by unfold maxLen; omega) (by omega) (by simp only [World.size_alloc, World.size_drew]; omega) ?_; intro D5 cp5 w5 hown5 hgrow5)
        go_roundw
        case rel => exact ⟨k + 1, D5, cp5, by omega, by omega, by go_num, rfl, by rw [HST.out, HCE.out]; exact hown5, below_grown (below_own hbel (by repeat (first | exact own_refl _ | apply own_alloc | apply own_drew))) (own_on hown (by repeat (first | exact own_refl _ | apply own_alloc | apply own_drew))) (Nat.le_refl _) hgrow5⟩
        case measure => simp [intOf]; omega
      · rw [show min rn 8 = rn from by omega, show min 0 8 = 0 from rfl] at hce
        have HCE := Lib.hid hce
        clear hce
        go_wp2_with fail
        go_region
        go_wp2_with (at_builtin; refine wpList_append_cells _ rfl _ _ 22 rfl w.heap.size 45 i0 (.agg #[.int .i64 0, .int .u64 0, .int .i64 0, .int .u64 0, .int .i64 0, .int .i64 0, .slice none 0 0, .slice none 0 0]) 8 96 Try.underlying22 hi0 hz0 hz1 hz2 rfl (by omega) _ _ _ rfl (own_on hown (by repeat (first | exact own_refl _ | apply own_alloc | apply own_drew))) _ 1 _ [.int .i64 cl, .int .u64 sn, .int .i64 st, .int .u64 ts, .int .i64 dc, .int .i64 tx, .slice (some ra) rn rc, .slice none 0 0] rfl rfl (Cells.new_at _ #[.int .i64 cl, .int .u64 sn, .int .i64 st, .int .u64 ts, .int .i64 dc, .int .i64 tx, .slice (some ra) rn rc, .slice none 0 0] 45 _ (by simp)) (by intro u hu; simp only [List.mem_cons, List.mem_nil_iff, or_false] at hu; rcases hu with rfl | rfl | rfl | rfl | rfl | rfl | rfl | rfl <;> rfl) (by unfold maxLen; omega) (by omega) (by simp only [World.size_alloc, World.size_drew]; omega) ?_; intro D5 cp5 w5 hown5 hgrow5)
        go_roundw
        case rel => exact ⟨k + 1, D5, cp5, by omega, by omega, by go_num, rfl, by rw [HST.out, HCE.out]; exact hown5, below_grown (below_own hbel (by repeat (first | exact own_refl _ | apply own_alloc | apply own_drew))) (own_on hown (by repeat (first | exact own_refl _ | apply own_alloc | apply own_drew))) (Nat.le_refl _) hgrow5⟩
        case measure => simp [intOf]; omega
      · rw [show min rn 8 = rn from by omega, show min dn 8 = dn from by omega] at hce
        have HCE := Lib.hid hce
        clear hce
        go_wp2_with fail
        go_region
        go_wp2_with (at_builtin; refine wpList_append_cells _ rfl _ _ 22 rfl w.heap.size 45 i0 (.agg #[.int .i64 0, .int .u64 0, .int .i64 0, .int .u64 0, .int .i64 0, .int .i64 0, .slice none 0 0, .slice none 0 0]) 8 96 Try.underlying22 hi0 hz0 hz1 hz2 rfl (by omega) _ _ _ rfl (own_on hown (by repeat (first | exact own_refl _ | apply own_alloc | apply own_drew))) _ 1 _ [.int .i64 cl, .int .u64 sn, .int .i64 st, .int .u64 ts, .int .i64 dc, .int .i64 tx, .slice (some ra) rn rc, .slice (some da) dn dcc] rfl rfl (Cells.new_at _ #[.int .i64 cl, .int .u64 sn, .int .i64 st, .int .u64 ts, .int .i64 dc, .int .i64 tx, .slice (some ra) rn rc, .slice (some da) dn dcc] 45 _ (by simp)) (by intro u hu; simp only [List.mem_cons, List.mem_nil_iff, or_false] at hu; rcases hu with rfl | rfl | rfl | rfl | rfl | rfl | rfl | rfl <;> rfl) (by unfold maxLen; omega) (by omega) (by simp only [World.size_alloc, World.size_drew]; omega) ?_; intro D5 cp5 w5 hown5 hgrow5)
        go_roundw
        case rel => exact ⟨k + 1, D5, cp5, by omega, by omega, by go_num, rfl, by rw [HST.out, HCE.out]; exact hown5, below_grown (below_own hbel (by repeat (first | exact own_refl _ | apply own_alloc | apply own_drew))) (own_on hown (by repeat (first | exact own_refl _ | apply own_alloc | apply own_drew))) (Nat.le_refl _) hgrow5⟩
        case measure => simp [intOf]; omega
      · rw [show min rn 8 = rn from by omega, show min dn 8 = 8 from by omega] at hce
        have HCE := Lib.hid hce
        clear hce
        go_wp2_with fail
        go_region
        go_wp2_with (at_builtin; refine wpList_append_cells _ rfl _ _ 22 rfl w.heap.size 45 i0 (.agg #[.int .i64 0, .int .u64 0, .int .i64 0, .int .u64 0, .int .i64 0, .int .i64 0, .slice none 0 0, .slice none 0 0]) 8 96 Try.underlying22 hi0 hz0 hz1 hz2 rfl (by omega) _ _ _ rfl (own_on hown (by repeat (first | exact own_refl _ | apply own_alloc | apply own_drew))) _ 1 _ [.int .i64 cl, .int .u64 sn, .int .i64 st, .int .u64 ts, .int .i64 dc, .int .i64 tx, .slice (some ra) rn rc, .slice (some da) 8 dcc] rfl rfl (Cells.new_at _ #[.int .i64 cl, .int .u64 sn, .int .i64 st, .int .u64 ts, .int .i64 dc, .int .i64 tx, .slice (some ra) rn rc, .slice (some da) 8 dcc] 45 _ (by simp)) (by intro u hu; simp only [List.mem_cons, List.mem_nil_iff, or_false] at hu; rcases hu with rfl | rfl | rfl | rfl | rfl | rfl | rfl | rfl <;> rfl) (by unfold maxLen; omega) (by omega) (by simp only [World.size_alloc, World.size_drew]; omega) ?_; intro D5 cp5 w5 hown5 hgrow5)
        go_roundw
        case rel => exact ⟨k + 1, D5, cp5, by omega, by omega, by go_num, rfl, by rw [HST.out, HCE.out]; exact hown5, below_grown (below_own hbel (by repeat (first | exact own_refl _ | apply own_alloc | apply own_drew))) (own_on hown (by repeat (first | exact own_refl _ | apply own_alloc | apply own_drew))) (Nat.le_refl _) hgrow5⟩
        case measure => simp [intOf]; omega
      · rw [show min rn 8 = 8 from by omega, show min 0 8 = 0 from rfl] at hce
        have HCE := Lib.hid hce
        clear hce
        go_wp2_with fail
        go_region
        go_wp2_with (at_builtin; refine wpList_append_cells _ rfl _ _ 22 rfl w.heap.size 45 i0 (.agg #[.int .i64 0, .int .u64 0, .int .i64 0, .int .u64 0, .int .i64 0, .int .i64 0, .slice none 0 0, .slice none 0 0]) 8 96 Try.underlying22 hi0 hz0 hz1 hz2 rfl (by omega) _ _ _ rfl (own_on hown (by repeat (first | exact own_refl _ | apply own_alloc | apply own_drew))) _ 1 _ [.int .i64 cl, .int .u64 sn, .int .i64 st, .int .u64 ts, .int .i64 dc, .int .i64 tx, .slice (some ra) 8 rc, .slice none 0 0] rfl rfl (Cells.new_at _ #[.int .i64 cl, .int .u64 sn, .int .i64 st, .int .u64 ts, .int .i64 dc, .int .i64 tx, .slice (some ra) 8 rc, .slice none 0 0] 45 _ (by simp)) (by intro u hu; simp only [List.mem_cons, List.mem_nil_iff, or_false] at hu; rcases hu with rfl | rfl | rfl | rfl | rfl | rfl | rfl | rfl <;> rfl) (by unfold maxLen; omega) (by omega) (by simp only [World.size_alloc, World.size_drew]; omega) ?_; intro D5 cp5 w5 hown5 hgrow5)
        go_roundw
        case rel => exact ⟨k + 1, D5, cp5, by omega, by omega, by go_num, rfl, by rw [HST.out, HCE.out]; exact hown5, below_grown (below_own hbel (by repeat (first | exact own_refl _ | apply own_alloc | apply own_drew))) (own_on hown (by repeat (first | exact own_refl _ | apply own_alloc | apply own_drew))) (Nat.le_refl _) hgrow5⟩
        case measure => simp [intOf]; omega
      · rw [show min rn 8 = 8 from by omega, show min dn 8 = dn from by omega] at hce
        have HCE := Lib.hid hce
        clear hce
        go_wp2_with fail
        go_region
        go_wp2_with (at_builtin; refine wpList_append_cells _ rfl _ _ 22 rfl w.heap.size 45 i0 (.agg #[.int .i64 0, .int .u64 0, .int .i64 0, .int .u64 0, .int .i64 0, .int .i64 0, .slice none 0 0, .slice none 0 0]) 8 96 Try.underlying22 hi0 hz0 hz1 hz2 rfl (by omega) _ _ _ rfl (own_on hown (by repeat (first | exact own_refl _ | apply own_alloc | apply own_drew))) _ 1 _ [.int .i64 cl, .int .u64 sn, .int .i64 st, .int .u64 ts, .int .i64 dc, .int .i64 tx, .slice (some ra) 8 rc, .slice (some da) dn dcc] rfl rfl (Cells.new_at _ #[.int .i64 cl, .int .u64 sn, .int .i64 st, .int .u64 ts, .int .i64 dc, .int .i64 tx, .slice (some ra) 8 rc, .slice (some da) dn dcc] 45 _ (by simp)) (by intro u hu; simp only [List.mem_cons, List.mem_nil_iff, or_false] at hu; rcases hu with rfl | rfl | rfl | rfl | rfl | rfl | rfl | rfl <;> rfl) (by unfold maxLen; omega) (by omega) (by simp only [World.size_alloc, World.size_drew]; omega) ?_; intro D5 cp5 w5 hown5 hgrow5)
        go_roundw
        case rel => exact ⟨k + 1, D5, cp5, by omega, by omega, by go_num, rfl, by rw [HST.out, HCE.out]; exact hown5, below_grown (below_own hbel (by repeat (first | exact own_refl _ | apply own_alloc | apply own_drew))) (own_on hown (by repeat (first | exact own_refl _ | apply own_alloc | apply own_drew))) (Nat.le_refl _) hgrow5⟩
        case measure => simp [intOf]; omega
      · rw [show min rn 8 = 8 from by omega, show min dn 8 = 8 from by omega] at hce
        have HCE := Lib.hid hce
        clear hce
        go_wp2_with fail
        go_region
        go_wp2_with (at_builtin; refine wpList_append_cells _ rfl _ _ 22 rfl w.heap.size 45 i0 (.agg #[.int .i64 0, .int .u64 0, .int .i64 0, .int .u64 0, .int .i64 0, .int .i64 0, .slice none 0 0, .slice none 0 0]) 8 96 Try.underlying22 hi0 hz0 hz1 hz2 rfl (by omega) _ _ _ rfl (own_on hown (by repeat (first | exact own_refl _ | apply own_alloc | apply own_drew))) _ 1 _ [.int .i64 cl, .int .u64 sn, .int .i64 st, .int .u64 ts, .int .i64 dc, .int .i64 tx, .slice (some ra) 8 rc, .slice (some da) 8 dcc] rfl rfl (Cells.new_at _ #[.int .i64 cl, .int .u64 sn, .int .i64 st, .int .u64 ts, .int .i64 dc, .int .i64 tx, .slice (some ra) 8 rc, .slice (some da) 8 dcc] 45 _ (by simp)) (by intro u hu; simp only [List.mem_cons, List.mem_nil_iff, or_false] at hu; rcases hu with rfl | rfl | rfl | rfl | rfl | rfl | rfl | rfl <;> rfl) (by unfold maxLen; omega) (by omega) (by simp only [World.size_alloc, World.size_drew]; omega) ?_; intro D5 cp5 w5 hown5 hgrow5)
        go_roundw
        case rel => exact ⟨k + 1, D5, cp5, by omega, by omega, by go_num, rfl, by rw [HST.out, HCE.out]; exact hown5, below_grown (below_own hbel (by repeat (first | exact own_refl _ | apply own_alloc | apply own_drew))) (own_on hown (by repeat (first | exact own_refl _ | apply own_alloc | apply own_drew))) (Nat.le_refl _) hgrow5⟩
        case measure => simp [intOf]; omega
    · have he : fewTo l k = fewL l := by unfold fewL; congr 1; omega
      have hlen : k = (fewL l).length := by rw [← he, fewTo_len (by omega)]
      rw [he] at hown
      rw [hlen] at hown
      have HLEN := Lib.hid hlen
      clear he hlen
      by_cases hkn : k < n
      · have hd : decide ((k : Int) < 40) = false := by simp; omega
        go_wp2
        go_ret
        exact ⟨D, cp, by rw [← HLEN.out]; rfl, hown, hbel⟩
      · go_wp2
        go_ret
        exact ⟨D, cp, by rw [← HLEN.out]; rfl, hown, hbel⟩
end Go.Proofs.Ytiapolcpebilmaa
