/-
  A run over one store: the walk. Conditions: the steps lie as the hypotheses say.
-/
import Derived.Test.YtiapolcpebilmaaOpenStp
import Derived.Test.YtiapolcpebilmaaToldT
import Derived.Test.YtiapolcpebilmaaRwantT
import Derived.Test.YtiapolcpebilmaaBridge
import Derived.Maps.OwnOps
import Derived.Maps.Own
namespace Go.Proofs.Ytiapolcpebilmaa
open Go.RowKit Go.ChangeShapes Go.WideShapes Go.Deep Go.Maps
set_option linter.unusedVariables false

theorem infoHrd : (Try.prog.info? 57).map (fun i => (i.zero, i.size, i.bytes)) = some (some (.agg #[.string ⟨#[]⟩, .bool false, .string ⟨#[]⟩, .string ⟨#[]⟩, .bool false, .int .u64 0, .int .i64 0, .int .i64 0]), 8, 88) := by kernel_rfl
theorem infoVer : (Try.prog.info? 35).map (fun i => (i.zero, i.size, i.bytes)) = some (some (.agg #[.string ⟨#[]⟩, .string ⟨#[]⟩, .bool false, .int .u64 0, .int .i64 0, .int .i64 0]), 6, 64) := by kernel_rfl
theorem lawI : Keyed Try.prog 3 := int_keyed Try.underlying3
theorem zeroU (w : World) : (zeroValue 33).run Try.prog w = .ok (.int .u64 0) w := by kernel_rfl
theorem keyI {x : Int} (h : (Lit.int .i64 x).wf = true) : keyOf Try.prog 3 (.int .i64 x) = some (.int .i64 x) := keyOf_int_mk Try.underlying3 h
/-- what was kept of each transaction lies in rows of its own. -/
def IRows (base : Nat) (w : World) (L : List TI) : Prop := ∀ y ∈ L, w.ownsRow base 57 8 (.slice y.R y.t.rds.length y.rc) y.t.rds.length (flatRd y.t.rds) ∧ w.ownsRow base 35 6 (.slice y.D y.t.wrs.length y.dc) y.t.wrs.length (flatV y.t.wrs) ∧ y.t.rds.length ≤ 4 ∧ y.t.wrs.length ≤ 4
structure IM (w wr : World) (b : Nat) (D : Option Addr) (k cp : Nat) (L : List TI) (s : IS) : Prop where
  own : wr.ownsRow w.heap.size 45 8 (.slice D k cp) k (flatTI L)
  len : L.length = k
  map : L.map TI.t = s.L
  rows : IRows w.heap.size wr L
  snap : Holds Try.prog 3 33 .i64 .u64 wr b s.O
  below : Below w.heap.size w wr
  olen : s.O.length ≤ k
  inv : Inv s
/-- a map's block is no row's. -/
theorem row_not_map {w : World} {B : Nat} {e : TypeId} {s n : Nat} {v : Value} {xs : List Value} {tk te : TypeId} {qk qe : IntKind} {b : Nat} {O : List (Int × Int)} (h : w.ownsRow B e s v n xs) (hm : Holds Try.prog tk te qk qe w b O) : ∀ g, v.ownBlock = some g → ¬ g = b := by
  intro g hg e0
  obtain ⟨M, ⟨es, clock, hb, _⟩, _⟩ := hm
  obtain ⟨_, ⟨h1, _⟩ | ⟨g1, cap, cur, h1, _, hh, _⟩⟩ := h
  · rw [h1] at hg; cases hg
  · rw [h1] at hg
    injection hg with hg
    have e1 : g1 = g := hg
    subst e1
    subst e0
    rw [hb] at hh
    cases hh
theorem snap_run {w : World} {b : Nat} {O : List (Int × Int)} (h : Holds Try.prog 3 33 .i64 .u64 w b O) {x : Int} (wx : (Lit.int .i64 x).wf = true) : (Instr.lookup 62 (.map (some b)) (.int .i64 x) false).run Try.prog w = .ok (.int .u64 (look O x)) w := by
  obtain ⟨M, hown, hM⟩ := h
  obtain ⟨c, hrun, hat, hwc⟩ := hown.lookup_int lawI Try.underlying62 Try.underlying33 (zeroU _) (keyI wx)
  have h1 := hM.look x
  rw [hat] at h1
  injection h1 with h1
  injection h1 with _ h1
  rw [hrun, h1]
theorem snap_put {w : World} {b : Nat} {O : List (Int × Int)} (h : Holds Try.prog 3 33 .i64 .u64 w b O) (hl : O.length ≤ 1000) {x v : Int} (wx : (Lit.int .i64 x).wf = true) (wv : (Lit.int .u64 v).wf = true) :
    ∃ w', (Instr.mapUpdate 62 (.map (some b)) (.int .i64 x) (.int .u64 v)).run Try.prog w = .ok () w' ∧ Holds Try.prog 3 33 .i64 .u64 w' b (drop O x ++ [(x, v)]) ∧ Turns (one b) w w' := by
  obtain ⟨M, hown, hM⟩ := h
  obtain ⟨w1, hrun, hown1, hturn⟩ := hown.store lawI Try.underlying62 (by unfold maxLen; omega) (keyI wx) (plainElem_int Try.underlying33 wv)
  exact ⟨w1, hrun, holds_of hown1 (hM.put (hown.tidy lawI) x v), turned hturn⟩
theorem u64_wf {v : Int} (h1 : 0 ≤ v) (h2 : v ≤ 1000) : (Lit.int .u64 v).wf = true := by
  simp [Lit.wf, IntKind.min, IntKind.max, IntKind.signed, IntKind.bits]
  omega
theorem region_cut2 {P : Program} {c : Code} {Q : Exit → Act → World → Prop} {a : Act} {w : World} {fr : Value → Nat → Act} (S : Nat → World → Prop) (main : (∀ u gB W, S gB W → Q Exit.normal (fr u gB) W) → Code.wp P c Q a w) (later : ∀ u gB W, S gB W → Q Exit.normal (fr u gB) W) : Code.wp P c Q a w := main later
/-- a step's box. -/
def BoxS (w : World) (b : Nat) (x : SI) : Prop := w.heap[b]? = some (.cells #[.int .i64 x.p.who, .int .i64 x.p.late, .slice x.R x.p.reads.length x.rc, .slice x.K x.p.keys.length x.kc, .string x.p.val] 65 (0, 0))
theorem BoxS.c {w : World} {b : Nat} {x : SI} (h : BoxS w b x) : w.cell? ⟨b, 0, none⟩ = some (.int .i64 x.p.who) ∧ w.cell? ⟨b, 1, none⟩ = some (.int .i64 x.p.late) ∧ w.cell? ⟨b, 2, none⟩ = some (.slice x.R x.p.reads.length x.rc) ∧ w.cell? ⟨b, 3, none⟩ = some (.slice x.K x.p.keys.length x.kc) ∧ w.cell? ⟨b, 4, none⟩ = some (.string x.p.val) :=
  ⟨cell_of_row _ _ 0 _ _ _ h, cell_of_row _ _ 1 _ _ _ h, cell_of_row _ _ 2 _ _ _ h, cell_of_row _ _ 3 _ _ _ h, cell_of_row _ _ 4 _ _ _ h⟩
theorem BoxS.lt {w : World} {b : Nat} {x : SI} (h : BoxS w b x) : b < w.heap.size := (Array.getElem?_eq_some_iff.1 h).1
theorem BoxS.turn {S : Nat → Prop} {w w' : World} {b : Nat} {x : SI} (h : BoxS w b x) (ht : Turns S w w') (hn : ¬ S b) : BoxS w' b x := (ht.block b h.lt hn).trans h
theorem BoxS.on {w w' : World} {b : Nat} {x : SI} (h : BoxS w b x) (hb : Below w.heap.size w w') : BoxS w' b x := (hb.block b h.lt).trans h
theorem BoxS.new (w : World) (x : SI) : BoxS (w.alloc (.cells #[.int .i64 x.p.who, .int .i64 x.p.late, .slice x.R x.p.reads.length x.rc, .slice x.K x.p.keys.length x.kc, .string x.p.val] 65)) w.heap.size x := heap_alloc_new w _
theorem BoxS.apart {w : World} {b : Nat} {x : SI} (h : BoxS w b x) {B : Nat} {s n : Nat} {v : Value} {xs : List Value} {e : TypeId} (ho : w.ownsRow B e s v n xs) (hne : e ≠ 65) : ∀ g, v.ownBlock = some g → ¬ b = g := by
  intro g hg e0
  obtain ⟨_, ⟨h1, _⟩ | ⟨g1, cap, cur, h1, _, hh, _⟩⟩ := ho
  · rw [h1] at hg; cases hg
  · rw [h1] at hg
    injection hg with hg
    have e1 : g1 = g := hg
    subst e1
    subst e0
    unfold BoxS at h
    rw [hh] at h
    injection h with q; injection q with _ q
    exact hne q
theorem IRows.on {base : Nat} {w w' : World} {L : List TI} (h : IRows base w L) (hb : Below w.heap.size w w') : IRows base w' L := fun y hy => ⟨own_on (h y hy).1 hb, own_on (h y hy).2.1 hb, (h y hy).2.2⟩
/-- a row of transactions may turn. -/
theorem IRows.turn {base B : Nat} {w w' : World} {L : List TI} {s n : Nat} {v : Value} {xs : List Value} (h : IRows base w L) (ho : w.ownsRow B 45 s v n xs) {S : Nat → Prop} (ht : Turns S w w') (hS : ∀ j, S j → v.ownBlock = some j) : IRows base w' L := fun y hy =>
  ⟨ht.row (h y hy).1 (fun g hg hs => rows_apart (h y hy).1 ho (by decide) g hg (hS g hs)), ht.row (h y hy).2.1 (fun g hg hs => rows_apart (h y hy).2.1 ho (by decide) g hg (hS g hs)), (h y hy).2.2⟩
theorem IRows.ok {base : Nat} {w : World} {L : List TI} (h : IRows base w L) : ∀ y ∈ L, y.ok w := fun y hy => ⟨⟨Cells.of_own (h y hy).1, Cells.of_own (h y hy).2.1⟩, by have := (h y hy).2.2.1; omega, by have := (h y hy).2.2.2; omega⟩
/-- the last one, while its reads and writes come. -/
def lastT (s : IS) (p : Stp) (m q : Nat) : Txn := { start s p with rds := rdsTo s p m, wrs := wrsTo p q }
def lastI (s : IS) (p : Stp) (m q : Nat) (R : Option Addr) (rc : Nat) (D : Option Addr) (dc : Nat) : TI := ⟨lastT s p m q, R, rc, D, dc⟩
theorem rdsTo_len {s : IS} {p : Stp} {m : Nat} (h : m ≤ p.reads.length) : (rdsTo s p m).length = m := by unfold rdsTo; rw [List.length_map, List.length_take]; omega
theorem wrsTo_len {p : Stp} {m : Nat} (h : m ≤ p.keys.length) : (wrsTo p m).length = m := by unfold wrsTo; rw [List.length_map, List.length_take]; omega
theorem rdsTo_step {s : IS} {p : Stp} {m : Nat} {key : ByteArray} (h : p.reads[m]? = some key) : flatRd (rdsTo s p (m + 1)) = flatRd (rdsTo s p m) ++ (rdOf s.L (start s p) key).cells := by
  unfold flatRd rdsTo
  rw [List.take_add_one, h, List.map_append, List.flatMap_append]
  simp
theorem wrsTo_step {p : Stp} {m : Nat} {key : ByteArray} (h : p.keys[m]? = some key) : flatV (wrsTo p (m + 1)) = flatV (wrsTo p m) ++ (⟨key, p.val, false, 0, 0, 0⟩ : V).cells := by
  unfold flatV wrsTo
  rw [List.take_add_one, h, List.map_append, List.flatMap_append]
  simp
/-- a cell of the last entry is set. -/
theorem set_last (L : List TI) (y y' : TI) (j : Nat) (u : Value) (hj : j < 8) (h : y.cells.set j u = y'.cells) : (flatTI (L ++ [y])).set (L.length * 8 + j) u = flatTI (L ++ [y']) := by
  have hl : (flatTI L).length = L.length * 8 := by unfold flatTI; exact flat_length (C := 8) (fun _ => rfl) L
  rw [flatTI_snoc, flatTI_snoc, List.set_append_right _ _ (by omega), hl, Nat.add_sub_cancel_left, h]
/-- the last entry's cells. -/
theorem last_cells {w : World} {base g n cp : Nat} {L : List TI} {y : TI} (h : w.ownsRow base 45 8 (.slice (some ⟨g, 0, none⟩) n cp) n (flatTI (L ++ [y]))) {k : Nat} (hk : L.length = k) : w.cell? ⟨g, k * 8, none⟩ = some (.int .i64 y.t.cl) ∧ w.cell? ⟨g, k * 8 + 1, none⟩ = some (.int .u64 y.t.sn) ∧ w.cell? ⟨g, k * 8 + 2, none⟩ = some (.int .i64 y.t.st) ∧ w.cell? ⟨g, k * 8 + 3, none⟩ = some (.int .u64 y.t.ts) ∧ w.cell? ⟨g, k * 8 + 4, none⟩ = some (.int .i64 y.t.dc) ∧ w.cell? ⟨g, k * 8 + 5, none⟩ = some (.int .i64 y.t.tx) ∧ w.cell? ⟨g, k * 8 + 6, none⟩ = some (.slice y.R y.t.rds.length y.rc) ∧ w.cell? ⟨g, k * 8 + 7, none⟩ = some (.slice y.D y.t.wrs.length y.dc) := by
  have hy : (L ++ [y])[k]? = some y := by rw [← hk, List.getElem?_append_right (Nat.le_refl _), Nat.sub_self]; rfl
  obtain ⟨b, off, he, h0, h1, h2, h3, h4, h5, h6, h7⟩ := get_tx (Cells.of_own h) hy
  injection he with e
  injection e with e1 e2
  subst e1 e2
  exact ⟨by simpa using h0, by simpa using h1, by simpa using h2, by simpa using h3, by simpa using h4, by simpa using h5, by simpa using h6, by simpa using h7⟩
theorem one_v (x : V) : ∀ u ∈ x.cells, u.oneCell' = true := by
  intro u hu
  simp only [V.cells, List.mem_cons, List.mem_nil_iff, or_false] at hu
  rcases hu with rfl | rfl | rfl | rfl | rfl | rfl <;> rfl
/-- what ideal answers. -/
def IdealIs (ps : List Stp) (w : World) (e : Ending) (w' : World) : Prop := ∃ (D : Option Addr) (cp : Nat) (L : List TI), e = .returned (.slice D L.length cp) ∧ w'.ownsRow w.heap.size 45 8 (.slice D L.length cp) L.length (flatTI L) ∧ IRows w.heap.size w' L ∧ L.map TI.t = idealL ps ∧ Below w.heap.size w w'
def si0 (x : SI) (sn : Int) : TI := ⟨⟨x.p.who, sn, 3, 0, 0, 0, [], []⟩, none, 0, none, 0⟩
set_option maxRecDepth 100000 in
set_option maxHeartbeats 8000000 in
theorem ideal_any (A : Option Addr) (n c : Nat) (l : List SI) (w : World) (hn : l.length = n) (hm : n ≤ 9223372036854775807) (hA : Cells w A (flatSI l)) (hall : ∀ x ∈ l, x.at w) (hwf : ∀ x ∈ l, (Lit.int .i64 x.p.who).wf = true) : Calls Try.prog 20 #[.slice A n c] w (IdealIs (l.map SI.p) w) := by
  obtain ⟨i0, hi0, hz0, hz1, hz2⟩ := info_parts infoTx
  obtain ⟨i2, hi2, hy0, hy1, hy2⟩ := info_parts infoHrd
  obtain ⟨i3, hi3, hx0, hx1, hx2⟩ := info_parts infoVer
  have hmm := @run_makeMap Try.prog
  go_enter Try.func20, Try.ntmps20
  go_wp2
  clear hmm
  go_loopw [3, 5, 6] (fun o nw q wr => ∃ (k : Nat) (D : Option Addr) (cp : Nat) (L : List TI), k ≤ n ∧ k ≤ 30 ∧ q = .int .i64 k ∧ nw = .int .u64 (idealTo (l.map SI.p) k).now ∧ o = .slice D k cp ∧ IM w wr w.heap.size D k cp L (idealTo (l.map SI.p) k)) (fun _ _ q _ => n - (intOf q).toNat)
  case atStart => exact ⟨0, none, 0, [], Nat.zero_le _, Nat.zero_le _, rfl, rfl, rfl, World.ownsRow_nil _ _ _ _, rfl, rfl, (fun y hy => by cases hy), holds_made _ _ _ _ _ _, own_alloc (own_refl _) _, Nat.le_refl _, inv_zero⟩
  case round =>
    obtain ⟨k, D, cp, L, hk, hk30, rfl, rfl, rfl, hIM⟩ := hrel
    by_cases hlt : k < n ∧ k < 30
    · obtain ⟨hlt, hlt30⟩ := hlt
      obtain ⟨x, hx⟩ : ∃ x, l[k]? = some x := ⟨_, List.getElem?_eq_getElem (by omega)⟩
      have HXA := Lib.hid (hall x (List.mem_of_getElem? hx))
      have HXP := Lib.hid (show (l.map SI.p)[k]? = some x.p by rw [List.getElem?_map, hx]; rfl)
      have wwho := hwf x (List.mem_of_getElem? hx)
      obtain ⟨b, off, hAe, x0, x1, x2, x3, x4⟩ := get_si (hA.on hIM.below) hx
      subst hAe
      obtain ⟨s, hs⟩ : ∃ s, idealTo (l.map SI.p) k = s := ⟨_, rfl⟩
      have HS := Lib.hid hs
      rw [hs] at hIM ⊢
      clear hs hx
      obtain ⟨nw, hnw⟩ : ∃ nw, s.now = nw := ⟨_, rfl⟩
      obtain ⟨lt, hlt4⟩ : ∃ lt, (IntKind.u64.wrap x.p.late).tmod 4 = lt := ⟨_, rfl⟩
      obtain ⟨mn, hmn⟩ : ∃ mn, (if lt < nw then lt else nw) = mn := ⟨_, rfl⟩
      have hlt0 := late4_in x.p.late
      have hnw0 := hIM.inv.now0
      have hnwl := hIM.inv.nowl
      have hsin := snapOf_in hIM.inv x.p
      have hlk := hIM.inv.lk x.p.who
      obtain ⟨lk, hlke⟩ : ∃ lk, look s.O x.p.who = lk := ⟨_, rfl⟩
      have hlen : s.L.length = k := by rw [← hIM.map, List.length_map, hIM.len]
      have hmn2 : mn = min nw lt := by rw [← hmn]; split <;> omega
      have hwr : IntKind.u64.wrap (nw - mn) = nw - mn := by
        have h4 : late4 x.p.late = lt := hlt4
        rw [h4] at hlt0
        rw [hnw] at hnw0 hnwl
        rw [hlen] at hnwl
        simp [IntKind.wrap, IntKind.bits, IntKind.signed]
        omega
      have hwn : IntKind.u64.wrap (nw + 1) = nw + 1 := by
        rw [hnw] at hnw0 hnwl
        rw [hlen] at hnwl
        simp [IntKind.wrap, IntKind.bits, IntKind.signed]
        omega
      obtain ⟨s0, hs0⟩ : ∃ s0, nw - mn = s0 := ⟨_, rfl⟩
      obtain ⟨sn, hsn⟩ : ∃ sn, (if s0 < lk then lk else s0) = sn := ⟨_, rfl⟩
      have hsnE : snapOf s x.p = sn := by
        have h4 : late4 x.p.late = lt := hlt4
        unfold snapOf
        rw [hlke, hnw, h4, ← hsn]
        split <;> omega
      rw [hs0] at hwr
      have hsn0 : 0 ≤ sn ∧ sn ≤ 1000 := by rw [hsnE] at hsin; rw [hlen] at hnwl; omega
      have wsn := u64_wf hsn0.1 hsn0.2
      obtain ⟨W1, hW1⟩ : ∃ W1, W1 = (wr.alloc (.cells #[.int .i64 x.p.who, .int .i64 x.p.late, .slice x.R x.p.reads.length x.rc, .slice x.K x.p.keys.length x.kc, .string x.p.val] 65)).alloc (.cells #[.int .i64 x.p.who, .int .u64 s0, .int .i64 3, .int .u64 0, .int .i64 0, .int .i64 0, .slice none 0 0, .slice none 0 0] 45) := ⟨_, rfl⟩
      obtain ⟨W2, hW2⟩ : ∃ W2, W2 = (wr.alloc (.cells #[.int .i64 x.p.who, .int .i64 x.p.late, .slice x.R x.p.reads.length x.rc, .slice x.K x.p.keys.length x.kc, .string x.p.val] 65)).alloc (.cells #[.int .i64 x.p.who, .int .u64 sn, .int .i64 3, .int .u64 0, .int .i64 0, .int .i64 0, .slice none 0 0, .slice none 0 0] 45) := ⟨_, rfl⟩
      have hB1 : Below wr.heap.size wr W1 := by rw [hW1]; exact own_alloc (own_alloc (own_refl _) _) _
      have hB2 : Below wr.heap.size wr W2 := by rw [hW2]; exact own_alloc (own_alloc (own_refl _) _) _
      have hrun1 := snap_run (hIM.snap.turn (Turns.of_below (S := none') hB1) (fun h => h)) wwho
      obtain ⟨w5, hrun2, hsnap5, hturn5⟩ := snap_put (hIM.snap.turn (Turns.of_below (S := none') hB2) (fun h => h)) (by have := hIM.olen; omega) wwho wsn
      rw [hlke] at hrun1
      have hbs : BoxS W2 wr.heap.size x := by rw [hW2]; exact (BoxS.new wr x).on (own_alloc (own_refl _) _)
      have hbt : BoxT W2 (wr.heap.size + 1) (si0 x sn) := by rw [hW2]; exact BoxT.new2 wr _ (si0 x sn) _
      rw [hW1] at hrun1
      rw [hW2] at hrun2
      have HIM := Lib.hid hIM
      have HSN := Lib.hid hsnE
      have HB2 := Lib.hid hB2
      have HTU := Lib.hid hturn5
      have HSP := Lib.hid hsnap5
      have HBS := Lib.hid hbs
      have HBT := Lib.hid hbt
      have g3 : (0 : Int) ≤ (k : Int) := by omega
      have g4 : (k : Int) < (n : Int) := by omega
      have g5 : (k : Int) < 30 := by omega
      clear hlt0 hnw0 hnwl hsin hlk hlen hmn2 hsnE hsn0 hB1 hB2 hturn5 hsnap5 hbs hbt hlke hIM wwho
      have HNW := Lib.hid hnw
      rw [hnw]
      clear hnw
      have hbw := HIM.out.below
      have hlt1 : w.heap.size < wr.heap.size := HIM.out.snap.lt
      have hown5 : w5.ownsRow w.heap.size 45 8 (.slice D k cp) k (flatTI L) := HTU.out.row (own_on HIM.out.own HB2.out) (row_not_map (own_on HIM.out.own HB2.out) (HIM.out.snap.turn (Turns.of_below (S := none') HB2.out) (fun h => h)))
      have hrows5 : IRows w.heap.size w5 L := fun y hy => by
        obtain ⟨q1, q2, q3⟩ := HIM.out.rows y hy
        have hsn := HIM.out.snap.turn (Turns.of_below (S := none') HB2.out) (fun h => h)
        exact ⟨HTU.out.row (own_on q1 HB2.out) (row_not_map (own_on q1 HB2.out) hsn), HTU.out.row (own_on q2 HB2.out) (row_not_map (own_on q2 HB2.out) hsn), q3⟩
      have hbel5 : Below w.heap.size w w5 := HTU.out.below (below_own hbw HB2.out) (fun j e => Nat.le_of_eq e.symm)
      have hbs5 := HBS.out.turn HTU.out (fun e => by have e : wr.heap.size = w.heap.size := e; omega)
      have hbt5 := HBT.out.turn HTU.out (fun e => by have e : wr.heap.size + 1 = w.heap.size := e; omega)
      have hsz5 : wr.heap.size + 1 < w5.heap.size := hbt5.lt
      obtain ⟨u0, u1, u2, u3, u4⟩ := hbs5.c
      obtain ⟨⟨t0, t1, t2, t3, t4, t5, t6, t7⟩, -, -⟩ := id hbt5
      have HROWS5 := Lib.hid hrows5
      have HSP5 := HSP
      clear hrows5
      go_wp2_with (at_builtin; refine wpList_append_cells _ rfl _ _ 22 rfl w.heap.size 45 i0 (.agg #[.int .i64 0, .int .u64 0, .int .i64 0, .int .u64 0, .int .i64 0, .int .i64 0, .slice none 0 0, .slice none 0 0]) 8 96 Try.underlying22 hi0 hz0 hz1 hz2 rfl (by omega) _ _ _ rfl (own_on hown5 (by repeat (first | exact own_refl _ | apply own_alloc))) _ 1 _ (si0 x sn).cells rfl rfl (Cells.new_at _ #[.int .i64 x.p.who, .int .u64 sn, .int .i64 3, .int .u64 0, .int .i64 0, .int .i64 0, .slice none 0 0, .slice none 0 0] 45 _ (by simp)) (one_ti _) (by unfold maxLen; omega) (by omega) (by simp only [World.size_alloc]; omega) ?_; intro D6 cp6 w6 hown6 hgrow6)
      obtain ⟨g, rfl, hg0, hg1, hg2⟩ := row_some hown6 (by omega)
      obtain ⟨gS, hgS⟩ : ∃ gS, wr.heap.size = gS := ⟨_, rfl⟩
      have hlen : L.length = k := HIM.out.len
      have hsL : L.map TI.t = s.L := HIM.out.map
      have hst : start s x.p = ⟨x.p.who, sn, 3, 0, 0, 0, [], []⟩ := by unfold start; rw [HSN.out]
      have hl0 : lastI s x.p 0 0 none 0 none 0 = si0 x sn := by unfold lastI lastT si0; rw [hst]; rfl
      have hsnapA := HSP.out.turn (Turns.of_below (S := none') (show Below w5.heap.size w5 (w5.alloc (.cells #[.int .i64 x.p.who, .int .u64 sn, .int .i64 3, .int .u64 0, .int .i64 0, .int .i64 0, .slice none 0 0, .slice none 0 0] 45)) from own_alloc (own_refl _) _)) (fun h => h)
      have hownA := own_on hown5 (show Below w5.heap.size w5 (w5.alloc (.cells #[.int .i64 x.p.who, .int .u64 sn, .int .i64 3, .int .u64 0, .int .i64 0, .int .i64 0, .slice none 0 0, .slice none 0 0] 45)) from own_alloc (own_refl _) _)
      have htA : Turns (fun j => (Value.slice D k cp).ownBlock = some j) (w5.alloc (.cells #[.int .i64 x.p.who, .int .u64 sn, .int .i64 3, .int .u64 0, .int .i64 0, .int .i64 0, .slice none 0 0, .slice none 0 0] 45)) w6 := (Turns.refl _ _).grown hgrow6 (fun j _ e => e)
      refine wp_from (fun W => W.ownsRow w.heap.size 45 8 (.slice (some ⟨g, 0, none⟩) (k + 1) cp6) (k + 1) (flatTI (L ++ [lastI s x.p 0 0 none 0 none 0])) ∧ IRows w.heap.size W L ∧ Holds Try.prog 3 33 .i64 .u64 W w.heap.size (drop s.O x.p.who ++ [(x.p.who, sn)]) ∧ Below w.heap.size w W ∧ BoxS W wr.heap.size x)
        ⟨by rw [hl0, flatTI_snoc]; exact hown6, (HROWS5.out.on (own_alloc (own_refl _) _)).turn hownA htA (fun j e => e), hsnapA.turn htA (fun e => row_not_map hownA hsnapA _ e rfl), below_grown (own_alloc hbel5 _) hownA (Nat.le_refl _) hgrow6, (hbs5.on (own_alloc (own_refl _) _)).turn htA (fun e => BoxS.apart (hbs5.on (own_alloc (own_refl _) _)) hownA (by decide) _ e rfl)⟩ ?_
      intro W6 ⟨hown, hrows, hsnap, hbel, hbs⟩
      have HOWN6 := Lib.hid hown
      have HINV := Lib.hid HIM.out.inv
      have HOL := Lib.hid HIM.out.olen
      have HSNAP := Lib.hid hsnap
      have HROWS := Lib.hid hrows
      have HBEL := Lib.hid hbel
      rw [hgS] at hbs ⊢
      have HBSX := Lib.hid hbs
      have hW6 := (hown.lt g rfl).2
      clear u0 u1 u2 u3 u4 t0 t1 t2 t3 t4 t5 t6 t7 hown5 hbel5 hbs5 hbt5 hsz5 hbw hlt1 hg0 hg1 hgS hsnapA hownA htA HROWS5 HSP5 HSP HTU HB2 HBS HBT HIM hsnap hrows hbel hown6 hgrow6 hl0 hrun1 hrun2
      clear w6
      have hgg : ¬ gS = g := BoxS.apart hbs hown (by decide) g rfl
      have hgw : w.heap.size ≤ g := (hown.lt g rfl).1
      clear hbs
      go_loopw [11] (fun q wr => ∃ (m : Nat) (R : Option Addr) (rc : Nat), m ≤ x.p.reads.length ∧ m ≤ 4 ∧ q = .int .i64 m ∧ wr.ownsRow w.heap.size 45 8 (.slice (some ⟨g, 0, none⟩) (k + 1) cp6) (k + 1) (flatTI (L ++ [lastI s x.p m 0 R rc none 0])) ∧ wr.ownsRow W6.heap.size 57 8 (.slice R m rc) m (flatRd (rdsTo s x.p m)) ∧ Turns (one g) W6 wr) (fun q _ => x.p.reads.length - (intOf q).toNat)
      case atStart => exact ⟨0, none, 0, Nat.zero_le _, Nat.zero_le _, rfl, hown, World.ownsRow_nil _ _ _ _, Turns.refl _ _⟩
      case round =>
        clear hown
        obtain ⟨m, R, rc, hm1, hm4, rfl, hown, hrow, htu⟩ := hrel
        obtain ⟨wq, rfl⟩ : ∃ w0, w0 = wr := ⟨_, rfl⟩
        have hbq : Below w.heap.size w wq := htu.below HBEL.out (fun j e => by have e : j = g := e; omega)
        obtain ⟨u0, u1, u2, u3, u4⟩ := (HBSX.out.turn htu (fun e => hgg e)).c
        have htsz := htu.size
        by_cases hlt2 : m < x.p.reads.length ∧ m < 4
        · obtain ⟨hlt2, hlt3⟩ := hlt2
          obtain ⟨key, hkey⟩ : ∃ key, x.p.reads[m]? = some key := ⟨_, List.getElem?_eq_getElem hlt2⟩
          obtain ⟨kb, ko, hRe, k0⟩ := get_str (HXA.out.r.on hbq) hkey
          have HST := Lib.hid (rdsTo_step (s := s) hkey)
          rw [hRe] at u2
          rw [hRe]
          have HRE := Lib.hid hRe
          clear hRe hkey
          have m0 : (0 : Int) ≤ (m : Int) := by omega
          have m1 : (m : Int) < (x.p.reads.length : Int) := by omega
          have m2 : (m : Int) < 4 := by omega
          have hLL : (L ++ [lastI s x.p m 0 R rc none 0]).length = k + 1 := by rw [List.length_append, hlen]; rfl
          have hrl : (rdsTo s x.p m).length = m := rdsTo_len hm1
          have hrows2 : IRows w.heap.size wq (L ++ [lastI s x.p m 0 R rc none 0]) := by
            intro y hy
            rcases List.mem_append.1 hy with h | h
            · exact (HROWS.out.turn HOWN6.out htu (fun j e => by have e : j = g := e; rw [e]; rfl)) y h
            · rw [List.mem_singleton.1 h]
              refine ⟨?_, World.ownsRow_nil _ _ _ _, by show (rdsTo s x.p m).length ≤ 4; omega, by show (0 : Nat) ≤ 4; omega⟩
              show wq.ownsRow w.heap.size _ 8 (.slice R (rdsTo s x.p m).length rc) (rdsTo s x.p m).length (flatRd (rdsTo s x.p m))
              rw [hrl]
              exact row_weaken hrow HBEL.out.size
          have hokM : ∀ W, Below wq.heap.size wq W → ∀ y ∈ L ++ [lastI s x.p m 0 R rc none 0], y.ok W := fun W hW => (hrows2.on hW).ok
          have hrdM : ∀ y ∈ L ++ [lastI s x.p m 0 R rc none 0], y.t.rds.length ≤ 1000 := fun y hy => by have := (hrows2 y hy).2.2.1; omega
          have hmapM : (L ++ [lastI s x.p m 0 R rc none 0]).map TI.t = s.L ++ [lastT s x.p m 0] := by rw [List.map_append, hsL]; rfl
          have hkL : s.L.length = k := by rw [← hsL, List.length_map, hlen]
          have hwant : want ((L ++ [lastI s x.p m 0 R rc none 0]).map TI.t) k key = want (s.L ++ [start s x.p]) s.L.length key := by rw [hmapM, ← hkL]; exact want_new rfl rfl
          obtain ⟨v, hv⟩ : ∃ v, (want (s.L ++ [start s x.p]) s.L.length key).getD v0 = v := ⟨_, rfl⟩
          obtain ⟨is, his⟩ : ∃ is, (want (s.L ++ [start s x.p]) s.L.length key).isSome = is := ⟨_, rfl⟩
          have hrdE : rdOf s.L (start s x.p) key = ⟨key, is, v⟩ := by unfold rdOf; rw [hv, his]
          rw [hrdE] at HST
          have HV := Lib.hid (hwant ▸ hv)
          have HI := Lib.hid (hwant ▸ his)
          have HLL := Lib.hid hLL
          have HRL := Lib.hid hrl
          have HOKM := Lib.hid hokM
          have HRDM := Lib.hid hrdM
          have HBQ := Lib.hid hbq
          have HTU := Lib.hid htu
          have HOWN := Lib.hid hown
          have HROW := Lib.hid hrow
          have hk1 : k + 1 ≤ 1000 := by omega
          have hgSl : gS < wq.heap.size := World.block_lt_of_cell? _ _ u2
          have hkbl : kb < wq.heap.size := World.block_lt_of_cell? _ _ k0
          have k1 : (0 : Int) ≤ (k : Int) := by omega
          have k2 : (k : Int) < ((k + 1 : Nat) : Int) := by omega
          have k3 : (k : Int) < (k : Int) + 1 := by omega
          clear hLL hrl hrows2 hokM hrdM hmapM hkL hwant hv his hrdE hbq htu hown hrow
          go_wp2_with fail
          apply region_cut2 (fun gB W' => Below wq.heap.size wq W' ∧ BoxV W' gB v)
          · intro hK'
            refine region_plain (N := 15) rfl (by kernel_rfl) ?_
            refine wpAny_take (i := 0) (v := .slice (some ⟨g, 0, none⟩) (k + 1) cp6) rfl (by kernel_rfl) (by kernel_rfl) (by kernel_rfl) (fun _ _ _ h => h) (Or.inl ⟨by kernel_rfl, fun W => by go_simp⟩) ?_
            refine wpAny_take (i := 2) (v := .int .i64 k) rfl (by kernel_rfl) (by kernel_rfl) (by kernel_rfl) (fun _ _ _ h => h) (Or.inl ⟨by kernel_rfl, fun W => by go_simp⟩) ?_
            refine wpAny_take (i := 3) (v := .pointer (some ⟨gS, 2, none⟩)) rfl (by kernel_rfl) (by kernel_rfl) (by kernel_rfl) (fun _ _ _ h => h) (Or.inl ⟨by kernel_rfl, fun W => by go_simp⟩) ?_
            refine wpAny_take (i := 5) (v := .int .i64 m) rfl (by kernel_rfl) (by kernel_rfl) (by kernel_rfl) (fun _ _ _ h => h) (Or.inl ⟨by kernel_rfl, fun W => by go_simp⟩) ?_
            refine wpAny_ready (rs := [1, 4, 12]) (by kernel_rfl) (by simp) (AllReady.cons rfl (fun K hK => ?_) (AllReady.cons rfl (fun K hK => ?_) (AllReady.cons rfl (fun K hK => ?_) AllReady.nil)))
            · go_simp
              refine (told_any (some ⟨g, 0, none⟩) (k + 1) cp6 (L ++ [lastI s x.p m 0 R rc none 0]) _ HLL.out (Cells.of_own (own_on HOWN.out (by repeat (first | exact own_refl _ | apply own_alloc | apply own_drew)))) hk1 (HOKM.out _ (by repeat (first | exact own_refl _ | apply own_alloc | apply own_drew))) HRDM.out).mono ?_
              rintro e w3 ⟨D3, cp3, L3, rfl, hc3, ho3, hm3, b3⟩
              have hl3 : L3.length = k + 1 := by have h := congrArg List.length hm3; rw [List.length_map, List.length_map, HLL.out] at h; exact h
              rw [hl3]
              have bq3 : Below wq.heap.size wq w3 := below_own (by repeat (first | exact own_refl _ | apply own_alloc | apply own_drew)) b3
              have u2_3 := cell_on bq3 u2
              have k0_3 := cell_on bq3 k0
              have hgS3 := Nat.lt_of_lt_of_le hgSl bq3.size
              have hkb3 := Nat.lt_of_lt_of_le hkbl bq3.size
              have HM3 := Lib.hid hm3
              clear hm3
              refine hK _ _ ?_
              clear hK K
              refine wpAny_ready (rs := [4, 12]) (by kernel_rfl) (by simp) (AllReady.cons rfl (fun K hK => ?_) (AllReady.cons rfl (fun K hK => ?_) AllReady.nil))
              · go_simp
                refine hK _ _ ?_
                clear hK K
                refine wpAny_take (i := 6) (v := .pointer (some ⟨kb, ko + m, none⟩)) rfl (by kernel_rfl) (by kernel_rfl) (by kernel_rfl) (fun _ _ _ h => h) (Or.inl ⟨by kernel_rfl, fun W => by go_simp⟩) ?_
                refine wpAny_ready (rs := [7, 12]) (by kernel_rfl) (by simp) (AllReady.cons rfl (fun K hK => ?_) (AllReady.cons rfl (fun K hK => ?_) AllReady.nil))
                · go_simp
                  refine hK _ _ ?_
                  clear hK K
                  refine wpAny_ready (rs := [8, 12]) (by kernel_rfl) (by simp) (AllReady.cons rfl (fun K hK => ?_) (AllReady.cons rfl (fun K hK => ?_) AllReady.nil))
                  · go_simp
                    refine (rwant_any D3 (k + 1) cp3 L3 _ hl3 (hc3.on (by repeat (first | exact own_refl _ | apply own_alloc | apply own_drew))) (by omega) (fun y hy => (ho3 y hy).on (by repeat (first | exact own_refl _ | apply own_alloc | apply own_drew))) k key).mono ?_
                    rintro e w4 ⟨rfl, b4⟩
                    rw [HM3.out, HV.out, HI.out]
                    simp only [V.v]
                    have bq4 : Below wq.heap.size wq w4 := below_own (below_own bq3 (by repeat (first | exact own_refl _ | apply own_alloc | apply own_drew))) b4
                    refine hK _ _ ?_
                    clear hK K
                    refine wpAny_take (i := 9) (v := .tuple #[.agg #[.string v.key, .string v.val, .bool v.gone, .int .u64 v.ts, .int .i64 v.dc, .int .i64 v.tx], .bool is]) rfl (by kernel_rfl) (by kernel_rfl) (by kernel_rfl) (fun _ _ _ h => h) (Or.inl ⟨by kernel_rfl, fun W => by go_simp⟩) ?_
                    refine wpAny_take (i := 10) (v := .agg #[.string v.key, .string v.val, .bool v.gone, .int .u64 v.ts, .int .i64 v.dc, .int .i64 v.tx]) rfl (by kernel_rfl) (by kernel_rfl) (by kernel_rfl) (fun _ _ _ h => h) (Or.inl ⟨by kernel_rfl, fun W => by go_simp⟩) ?_
                    refine wpAny_take (i := 11) (v := .bool is) rfl (by kernel_rfl) (by kernel_rfl) (by kernel_rfl) (fun _ _ _ h => h) (Or.inl ⟨by kernel_rfl, fun W => by go_simp⟩) ?_
                    refine wpAny_ready (rs := [12]) (by kernel_rfl) (by simp) (AllReady.cons rfl (fun K hK => ?_) AllReady.nil)
                    go_simp
                    refine hK _ _ ?_
                    clear hK K
                    refine wpAny_ready (rs := [13]) (by kernel_rfl) (by simp) (AllReady.cons rfl (fun K hK => ?_) AllReady.nil)
                    go_simp
                    refine hK _ _ ?_
                    clear hK K
                    refine wpAny_take (i := 14) (v := .bool is) rfl (by kernel_rfl) (by kernel_rfl) (by kernel_rfl) (fun _ _ _ h => h) (Or.inl ⟨by kernel_rfl, fun W => by go_simp⟩) ?_
                    refine wpAny_done (by kernel_rfl) ?_ _
                    simp only [onlyN]
                    go_simp
                    generalize huT : (Value.slice D3 (k + 1) cp3) = uT
                    generalize hgB : w4.heap.size = gB
                    refine hK' uT gB _ ?_
                    subst hgB
                    exact ⟨own_alloc bq4 _, BoxV.new w4 v _⟩
                  · go_simp
                    refine hK _ _ ?_
                    clear hK K
                    refine wpAny_ready (rs := [8]) (by kernel_rfl) (by simp) (AllReady.cons rfl (fun K hK => ?_) AllReady.nil)
                    go_simp
                    refine (rwant_any D3 (k + 1) cp3 L3 _ hl3 (hc3.on (by repeat (first | exact own_refl _ | apply own_alloc | apply own_drew))) (by omega) (fun y hy => (ho3 y hy).on (by repeat (first | exact own_refl _ | apply own_alloc | apply own_drew))) k key).mono ?_
                    rintro e w4 ⟨rfl, b4⟩
                    rw [HM3.out, HV.out, HI.out]
                    simp only [V.v]
                    have bq4 : Below wq.heap.size wq w4 := below_own (below_own bq3 (by repeat (first | exact own_refl _ | apply own_alloc | apply own_drew))) b4
                    have hbx4 := (BoxV.new w3 v0 _).on b4
                    obtain ⟨⟨z0, z1, z2, z3, z4, z5⟩, zf, zl⟩ := id hbx4
                    have zf0 := zf 0
                    have zf1 := zf 1
                    have zf2 := zf 2
                    have zf3 := zf 3
                    have zf4 := zf 4
                    have zf5 := zf 5
                    refine hK _ _ ?_
                    clear hK K
                    refine wpAny_take (i := 9) (v := .tuple #[.agg #[.string v.key, .string v.val, .bool v.gone, .int .u64 v.ts, .int .i64 v.dc, .int .i64 v.tx], .bool is]) rfl (by kernel_rfl) (by kernel_rfl) (by kernel_rfl) (fun _ _ _ h => h) (Or.inl ⟨by kernel_rfl, fun W => by go_simp⟩) ?_
                    refine wpAny_take (i := 10) (v := .agg #[.string v.key, .string v.val, .bool v.gone, .int .u64 v.ts, .int .i64 v.dc, .int .i64 v.tx]) rfl (by kernel_rfl) (by kernel_rfl) (by kernel_rfl) (fun _ _ _ h => h) (Or.inl ⟨by kernel_rfl, fun W => by go_simp⟩) ?_
                    refine wpAny_take (i := 11) (v := .bool is) rfl (by kernel_rfl) (by kernel_rfl) (by kernel_rfl) (fun _ _ _ h => h) (Or.inl ⟨by kernel_rfl, fun W => by go_simp⟩) ?_
                    refine wpAny_ready (rs := [13]) (by kernel_rfl) (by simp) (AllReady.cons rfl (fun K hK => ?_) AllReady.nil)
                    go_simp
                    refine hK _ _ ?_
                    clear hK K
                    refine wpAny_take (i := 14) (v := .bool is) rfl (by kernel_rfl) (by kernel_rfl) (by kernel_rfl) (fun _ _ _ h => h) (Or.inl ⟨by kernel_rfl, fun W => by go_simp⟩) ?_
                    refine wpAny_done (by kernel_rfl) ?_ _
                    simp only [onlyN]
                    go_simp
                    generalize huT : (Value.slice D3 (k + 1) cp3) = uT
                    generalize hgB : w3.heap.size = gB
                    refine hK' uT gB _ ?_
                    subst hgB
                    exact ⟨own_set (own_set (own_set (own_set (own_set (own_set (bq4) (bq3.size) _) (bq3.size) _) (bq3.size) _) (bq3.size) _) (bq3.size) _) (bq3.size) _, hbx4.stored v⟩
                · go_simp
                  refine hK _ _ ?_
                  clear hK K
                  refine wpAny_ready (rs := [7]) (by kernel_rfl) (by simp) (AllReady.cons rfl (fun K hK => ?_) AllReady.nil)
                  go_simp
                  refine hK _ _ ?_
                  clear hK K
                  refine wpAny_ready (rs := [8]) (by kernel_rfl) (by simp) (AllReady.cons rfl (fun K hK => ?_) AllReady.nil)
                  go_simp
                  refine (rwant_any D3 (k + 1) cp3 L3 _ hl3 (hc3.on (by repeat (first | exact own_refl _ | apply own_alloc | apply own_drew))) (by omega) (fun y hy => (ho3 y hy).on (by repeat (first | exact own_refl _ | apply own_alloc | apply own_drew))) k key).mono ?_
                  rintro e w4 ⟨rfl, b4⟩
                  rw [HM3.out, HV.out, HI.out]
                  simp only [V.v]
                  have bq4 : Below wq.heap.size wq w4 := below_own (below_own bq3 (by repeat (first | exact own_refl _ | apply own_alloc | apply own_drew))) b4
                  have hbx4 := (BoxV.new w3 v0 _).on b4
                  obtain ⟨⟨z0, z1, z2, z3, z4, z5⟩, zf, zl⟩ := id hbx4
                  have zf0 := zf 0
                  have zf1 := zf 1
                  have zf2 := zf 2
                  have zf3 := zf 3
                  have zf4 := zf 4
                  have zf5 := zf 5
                  refine hK _ _ ?_
                  clear hK K
                  refine wpAny_take (i := 9) (v := .tuple #[.agg #[.string v.key, .string v.val, .bool v.gone, .int .u64 v.ts, .int .i64 v.dc, .int .i64 v.tx], .bool is]) rfl (by kernel_rfl) (by kernel_rfl) (by kernel_rfl) (fun _ _ _ h => h) (Or.inl ⟨by kernel_rfl, fun W => by go_simp⟩) ?_
                  refine wpAny_take (i := 10) (v := .agg #[.string v.key, .string v.val, .bool v.gone, .int .u64 v.ts, .int .i64 v.dc, .int .i64 v.tx]) rfl (by kernel_rfl) (by kernel_rfl) (by kernel_rfl) (fun _ _ _ h => h) (Or.inl ⟨by kernel_rfl, fun W => by go_simp⟩) ?_
                  refine wpAny_take (i := 11) (v := .bool is) rfl (by kernel_rfl) (by kernel_rfl) (by kernel_rfl) (fun _ _ _ h => h) (Or.inl ⟨by kernel_rfl, fun W => by go_simp⟩) ?_
                  refine wpAny_ready (rs := [13]) (by kernel_rfl) (by simp) (AllReady.cons rfl (fun K hK => ?_) AllReady.nil)
                  go_simp
                  refine hK _ _ ?_
                  clear hK K
                  refine wpAny_take (i := 14) (v := .bool is) rfl (by kernel_rfl) (by kernel_rfl) (by kernel_rfl) (fun _ _ _ h => h) (Or.inl ⟨by kernel_rfl, fun W => by go_simp⟩) ?_
                  refine wpAny_done (by kernel_rfl) ?_ _
                  simp only [onlyN]
                  go_simp
                  generalize huT : (Value.slice D3 (k + 1) cp3) = uT
                  generalize hgB : w3.heap.size = gB
                  refine hK' uT gB _ ?_
                  subst hgB
                  exact ⟨own_set (own_set (own_set (own_set (own_set (own_set (bq4) (bq3.size) _) (bq3.size) _) (bq3.size) _) (bq3.size) _) (bq3.size) _) (bq3.size) _, hbx4.stored v⟩
              · go_simp
                refine hK _ _ ?_
                clear hK K
                refine wpAny_ready (rs := [4]) (by kernel_rfl) (by simp) (AllReady.cons rfl (fun K hK => ?_) AllReady.nil)
                go_simp
                refine hK _ _ ?_
                clear hK K
                refine wpAny_take (i := 6) (v := .pointer (some ⟨kb, ko + m, none⟩)) rfl (by kernel_rfl) (by kernel_rfl) (by kernel_rfl) (fun _ _ _ h => h) (Or.inl ⟨by kernel_rfl, fun W => by go_simp⟩) ?_
                refine wpAny_ready (rs := [7]) (by kernel_rfl) (by simp) (AllReady.cons rfl (fun K hK => ?_) AllReady.nil)
                go_simp
                refine hK _ _ ?_
                clear hK K
                refine wpAny_ready (rs := [8]) (by kernel_rfl) (by simp) (AllReady.cons rfl (fun K hK => ?_) AllReady.nil)
                go_simp
                refine (rwant_any D3 (k + 1) cp3 L3 _ hl3 (hc3.on (by repeat (first | exact own_refl _ | apply own_alloc | apply own_drew))) (by omega) (fun y hy => (ho3 y hy).on (by repeat (first | exact own_refl _ | apply own_alloc | apply own_drew))) k key).mono ?_
                rintro e w4 ⟨rfl, b4⟩
                rw [HM3.out, HV.out, HI.out]
                simp only [V.v]
                have bq4 : Below wq.heap.size wq w4 := below_own (below_own bq3 (by repeat (first | exact own_refl _ | apply own_alloc | apply own_drew))) b4
                have hbx4 := (BoxV.new w3 v0 _).on b4
                obtain ⟨⟨z0, z1, z2, z3, z4, z5⟩, zf, zl⟩ := id hbx4
                have zf0 := zf 0
                have zf1 := zf 1
                have zf2 := zf 2
                have zf3 := zf 3
                have zf4 := zf 4
                have zf5 := zf 5
                refine hK _ _ ?_
                clear hK K
                refine wpAny_take (i := 9) (v := .tuple #[.agg #[.string v.key, .string v.val, .bool v.gone, .int .u64 v.ts, .int .i64 v.dc, .int .i64 v.tx], .bool is]) rfl (by kernel_rfl) (by kernel_rfl) (by kernel_rfl) (fun _ _ _ h => h) (Or.inl ⟨by kernel_rfl, fun W => by go_simp⟩) ?_
                refine wpAny_take (i := 10) (v := .agg #[.string v.key, .string v.val, .bool v.gone, .int .u64 v.ts, .int .i64 v.dc, .int .i64 v.tx]) rfl (by kernel_rfl) (by kernel_rfl) (by kernel_rfl) (fun _ _ _ h => h) (Or.inl ⟨by kernel_rfl, fun W => by go_simp⟩) ?_
                refine wpAny_take (i := 11) (v := .bool is) rfl (by kernel_rfl) (by kernel_rfl) (by kernel_rfl) (fun _ _ _ h => h) (Or.inl ⟨by kernel_rfl, fun W => by go_simp⟩) ?_
                refine wpAny_ready (rs := [13]) (by kernel_rfl) (by simp) (AllReady.cons rfl (fun K hK => ?_) AllReady.nil)
                go_simp
                refine hK _ _ ?_
                clear hK K
                refine wpAny_take (i := 14) (v := .bool is) rfl (by kernel_rfl) (by kernel_rfl) (by kernel_rfl) (fun _ _ _ h => h) (Or.inl ⟨by kernel_rfl, fun W => by go_simp⟩) ?_
                refine wpAny_done (by kernel_rfl) ?_ _
                simp only [onlyN]
                go_simp
                generalize huT : (Value.slice D3 (k + 1) cp3) = uT
                generalize hgB : w3.heap.size = gB
                refine hK' uT gB _ ?_
                subst hgB
                exact ⟨own_set (own_set (own_set (own_set (own_set (own_set (bq4) (bq3.size) _) (bq3.size) _) (bq3.size) _) (bq3.size) _) (bq3.size) _) (bq3.size) _, hbx4.stored v⟩
            · go_simp
              refine hK _ _ ?_
              clear hK K
              refine wpAny_take (i := 6) (v := .pointer (some ⟨kb, ko + m, none⟩)) rfl (by kernel_rfl) (by kernel_rfl) (by kernel_rfl) (fun _ _ _ h => h) (Or.inl ⟨by kernel_rfl, fun W => by go_simp⟩) ?_
              refine wpAny_ready (rs := [1, 7, 12]) (by kernel_rfl) (by simp) (AllReady.cons rfl (fun K hK => ?_) (AllReady.cons rfl (fun K hK => ?_) (AllReady.cons rfl (fun K hK => ?_) AllReady.nil)))
              · go_simp
                refine (told_any (some ⟨g, 0, none⟩) (k + 1) cp6 (L ++ [lastI s x.p m 0 R rc none 0]) _ HLL.out (Cells.of_own (own_on HOWN.out (by repeat (first | exact own_refl _ | apply own_alloc | apply own_drew)))) hk1 (HOKM.out _ (by repeat (first | exact own_refl _ | apply own_alloc | apply own_drew))) HRDM.out).mono ?_
                rintro e w3 ⟨D3, cp3, L3, rfl, hc3, ho3, hm3, b3⟩
                have hl3 : L3.length = k + 1 := by have h := congrArg List.length hm3; rw [List.length_map, List.length_map, HLL.out] at h; exact h
                rw [hl3]
                have bq3 : Below wq.heap.size wq w3 := below_own (by repeat (first | exact own_refl _ | apply own_alloc | apply own_drew)) b3
                have u2_3 := cell_on bq3 u2
                have k0_3 := cell_on bq3 k0
                have hgS3 := Nat.lt_of_lt_of_le hgSl bq3.size
                have hkb3 := Nat.lt_of_lt_of_le hkbl bq3.size
                have HM3 := Lib.hid hm3
                clear hm3
                refine hK _ _ ?_
                clear hK K
                refine wpAny_ready (rs := [7, 12]) (by kernel_rfl) (by simp) (AllReady.cons rfl (fun K hK => ?_) (AllReady.cons rfl (fun K hK => ?_) AllReady.nil))
                · go_simp
                  refine hK _ _ ?_
                  clear hK K
                  refine wpAny_ready (rs := [8, 12]) (by kernel_rfl) (by simp) (AllReady.cons rfl (fun K hK => ?_) (AllReady.cons rfl (fun K hK => ?_) AllReady.nil))
                  · go_simp
                    refine (rwant_any D3 (k + 1) cp3 L3 _ hl3 (hc3.on (by repeat (first | exact own_refl _ | apply own_alloc | apply own_drew))) (by omega) (fun y hy => (ho3 y hy).on (by repeat (first | exact own_refl _ | apply own_alloc | apply own_drew))) k key).mono ?_
                    rintro e w4 ⟨rfl, b4⟩
                    rw [HM3.out, HV.out, HI.out]
                    simp only [V.v]
                    have bq4 : Below wq.heap.size wq w4 := below_own (below_own bq3 (by repeat (first | exact own_refl _ | apply own_alloc | apply own_drew))) b4
                    refine hK _ _ ?_
                    clear hK K
                    refine wpAny_take (i := 9) (v := .tuple #[.agg #[.string v.key, .string v.val, .bool v.gone, .int .u64 v.ts, .int .i64 v.dc, .int .i64 v.tx], .bool is]) rfl (by kernel_rfl) (by kernel_rfl) (by kernel_rfl) (fun _ _ _ h => h) (Or.inl ⟨by kernel_rfl, fun W => by go_simp⟩) ?_
                    refine wpAny_take (i := 10) (v := .agg #[.string v.key, .string v.val, .bool v.gone, .int .u64 v.ts, .int .i64 v.dc, .int .i64 v.tx]) rfl (by kernel_rfl) (by kernel_rfl) (by kernel_rfl) (fun _ _ _ h => h) (Or.inl ⟨by kernel_rfl, fun W => by go_simp⟩) ?_
                    refine wpAny_take (i := 11) (v := .bool is) rfl (by kernel_rfl) (by kernel_rfl) (by kernel_rfl) (fun _ _ _ h => h) (Or.inl ⟨by kernel_rfl, fun W => by go_simp⟩) ?_
                    refine wpAny_ready (rs := [12]) (by kernel_rfl) (by simp) (AllReady.cons rfl (fun K hK => ?_) AllReady.nil)
                    go_simp
                    refine hK _ _ ?_
                    clear hK K
                    refine wpAny_ready (rs := [13]) (by kernel_rfl) (by simp) (AllReady.cons rfl (fun K hK => ?_) AllReady.nil)
                    go_simp
                    refine hK _ _ ?_
                    clear hK K
                    refine wpAny_take (i := 14) (v := .bool is) rfl (by kernel_rfl) (by kernel_rfl) (by kernel_rfl) (fun _ _ _ h => h) (Or.inl ⟨by kernel_rfl, fun W => by go_simp⟩) ?_
                    refine wpAny_done (by kernel_rfl) ?_ _
                    simp only [onlyN]
                    go_simp
                    generalize huT : (Value.slice D3 (k + 1) cp3) = uT
                    generalize hgB : w4.heap.size = gB
                    refine hK' uT gB _ ?_
                    subst hgB
                    exact ⟨own_alloc bq4 _, BoxV.new w4 v _⟩
                  · go_simp
                    refine hK _ _ ?_
                    clear hK K
                    refine wpAny_ready (rs := [8]) (by kernel_rfl) (by simp) (AllReady.cons rfl (fun K hK => ?_) AllReady.nil)
                    go_simp
                    refine (rwant_any D3 (k + 1) cp3 L3 _ hl3 (hc3.on (by repeat (first | exact own_refl _ | apply own_alloc | apply own_drew))) (by omega) (fun y hy => (ho3 y hy).on (by repeat (first | exact own_refl _ | apply own_alloc | apply own_drew))) k key).mono ?_
                    rintro e w4 ⟨rfl, b4⟩
                    rw [HM3.out, HV.out, HI.out]
                    simp only [V.v]
                    have bq4 : Below wq.heap.size wq w4 := below_own (below_own bq3 (by repeat (first | exact own_refl _ | apply own_alloc | apply own_drew))) b4
                    have hbx4 := (BoxV.new w3 v0 _).on b4
                    obtain ⟨⟨z0, z1, z2, z3, z4, z5⟩, zf, zl⟩ := id hbx4
                    have zf0 := zf 0
                    have zf1 := zf 1
                    have zf2 := zf 2
                    have zf3 := zf 3
                    have zf4 := zf 4
                    have zf5 := zf 5
                    refine hK _ _ ?_
                    clear hK K
                    refine wpAny_take (i := 9) (v := .tuple #[.agg #[.string v.key, .string v.val, .bool v.gone, .int .u64 v.ts, .int .i64 v.dc, .int .i64 v.tx], .bool is]) rfl (by kernel_rfl) (by kernel_rfl) (by kernel_rfl) (fun _ _ _ h => h) (Or.inl ⟨by kernel_rfl, fun W => by go_simp⟩) ?_
                    refine wpAny_take (i := 10) (v := .agg #[.string v.key, .string v.val, .bool v.gone, .int .u64 v.ts, .int .i64 v.dc, .int .i64 v.tx]) rfl (by kernel_rfl) (by kernel_rfl) (by kernel_rfl) (fun _ _ _ h => h) (Or.inl ⟨by kernel_rfl, fun W => by go_simp⟩) ?_
                    refine wpAny_take (i := 11) (v := .bool is) rfl (by kernel_rfl) (by kernel_rfl) (by kernel_rfl) (fun _ _ _ h => h) (Or.inl ⟨by kernel_rfl, fun W => by go_simp⟩) ?_
                    refine wpAny_ready (rs := [13]) (by kernel_rfl) (by simp) (AllReady.cons rfl (fun K hK => ?_) AllReady.nil)
                    go_simp
                    refine hK _ _ ?_
                    clear hK K
                    refine wpAny_take (i := 14) (v := .bool is) rfl (by kernel_rfl) (by kernel_rfl) (by kernel_rfl) (fun _ _ _ h => h) (Or.inl ⟨by kernel_rfl, fun W => by go_simp⟩) ?_
                    refine wpAny_done (by kernel_rfl) ?_ _
                    simp only [onlyN]
                    go_simp
                    generalize huT : (Value.slice D3 (k + 1) cp3) = uT
                    generalize hgB : w3.heap.size = gB
                    refine hK' uT gB _ ?_
                    subst hgB
                    exact ⟨own_set (own_set (own_set (own_set (own_set (own_set (bq4) (bq3.size) _) (bq3.size) _) (bq3.size) _) (bq3.size) _) (bq3.size) _) (bq3.size) _, hbx4.stored v⟩
                · go_simp
                  refine hK _ _ ?_
                  clear hK K
                  refine wpAny_ready (rs := [7]) (by kernel_rfl) (by simp) (AllReady.cons rfl (fun K hK => ?_) AllReady.nil)
                  go_simp
                  refine hK _ _ ?_
                  clear hK K
                  refine wpAny_ready (rs := [8]) (by kernel_rfl) (by simp) (AllReady.cons rfl (fun K hK => ?_) AllReady.nil)
                  go_simp
                  refine (rwant_any D3 (k + 1) cp3 L3 _ hl3 (hc3.on (by repeat (first | exact own_refl _ | apply own_alloc | apply own_drew))) (by omega) (fun y hy => (ho3 y hy).on (by repeat (first | exact own_refl _ | apply own_alloc | apply own_drew))) k key).mono ?_
                  rintro e w4 ⟨rfl, b4⟩
                  rw [HM3.out, HV.out, HI.out]
                  simp only [V.v]
                  have bq4 : Below wq.heap.size wq w4 := below_own (below_own bq3 (by repeat (first | exact own_refl _ | apply own_alloc | apply own_drew))) b4
                  have hbx4 := (BoxV.new w3 v0 _).on b4
                  obtain ⟨⟨z0, z1, z2, z3, z4, z5⟩, zf, zl⟩ := id hbx4
                  have zf0 := zf 0
                  have zf1 := zf 1
                  have zf2 := zf 2
                  have zf3 := zf 3
                  have zf4 := zf 4
                  have zf5 := zf 5
                  refine hK _ _ ?_
                  clear hK K
                  refine wpAny_take (i := 9) (v := .tuple #[.agg #[.string v.key, .string v.val, .bool v.gone, .int .u64 v.ts, .int .i64 v.dc, .int .i64 v.tx], .bool is]) rfl (by kernel_rfl) (by kernel_rfl) (by kernel_rfl) (fun _ _ _ h => h) (Or.inl ⟨by kernel_rfl, fun W => by go_simp⟩) ?_
                  refine wpAny_take (i := 10) (v := .agg #[.string v.key, .string v.val, .bool v.gone, .int .u64 v.ts, .int .i64 v.dc, .int .i64 v.tx]) rfl (by kernel_rfl) (by kernel_rfl) (by kernel_rfl) (fun _ _ _ h => h) (Or.inl ⟨by kernel_rfl, fun W => by go_simp⟩) ?_
                  refine wpAny_take (i := 11) (v := .bool is) rfl (by kernel_rfl) (by kernel_rfl) (by kernel_rfl) (fun _ _ _ h => h) (Or.inl ⟨by kernel_rfl, fun W => by go_simp⟩) ?_
                  refine wpAny_ready (rs := [13]) (by kernel_rfl) (by simp) (AllReady.cons rfl (fun K hK => ?_) AllReady.nil)
                  go_simp
                  refine hK _ _ ?_
                  clear hK K
                  refine wpAny_take (i := 14) (v := .bool is) rfl (by kernel_rfl) (by kernel_rfl) (by kernel_rfl) (fun _ _ _ h => h) (Or.inl ⟨by kernel_rfl, fun W => by go_simp⟩) ?_
                  refine wpAny_done (by kernel_rfl) ?_ _
                  simp only [onlyN]
                  go_simp
                  generalize huT : (Value.slice D3 (k + 1) cp3) = uT
                  generalize hgB : w3.heap.size = gB
                  refine hK' uT gB _ ?_
                  subst hgB
                  exact ⟨own_set (own_set (own_set (own_set (own_set (own_set (bq4) (bq3.size) _) (bq3.size) _) (bq3.size) _) (bq3.size) _) (bq3.size) _) (bq3.size) _, hbx4.stored v⟩
              · go_simp
                refine hK _ _ ?_
                clear hK K
                refine wpAny_ready (rs := [1, 12]) (by kernel_rfl) (by simp) (AllReady.cons rfl (fun K hK => ?_) (AllReady.cons rfl (fun K hK => ?_) AllReady.nil))
                · go_simp
                  refine (told_any (some ⟨g, 0, none⟩) (k + 1) cp6 (L ++ [lastI s x.p m 0 R rc none 0]) _ HLL.out (Cells.of_own (own_on HOWN.out (by repeat (first | exact own_refl _ | apply own_alloc | apply own_drew)))) hk1 (HOKM.out _ (by repeat (first | exact own_refl _ | apply own_alloc | apply own_drew))) HRDM.out).mono ?_
                  rintro e w3 ⟨D3, cp3, L3, rfl, hc3, ho3, hm3, b3⟩
                  have hl3 : L3.length = k + 1 := by have h := congrArg List.length hm3; rw [List.length_map, List.length_map, HLL.out] at h; exact h
                  rw [hl3]
                  have bq3 : Below wq.heap.size wq w3 := below_own (by repeat (first | exact own_refl _ | apply own_alloc | apply own_drew)) b3
                  have u2_3 := cell_on bq3 u2
                  have k0_3 := cell_on bq3 k0
                  have hgS3 := Nat.lt_of_lt_of_le hgSl bq3.size
                  have hkb3 := Nat.lt_of_lt_of_le hkbl bq3.size
                  have HM3 := Lib.hid hm3
                  clear hm3
                  refine hK _ _ ?_
                  clear hK K
                  refine wpAny_ready (rs := [8, 12]) (by kernel_rfl) (by simp) (AllReady.cons rfl (fun K hK => ?_) (AllReady.cons rfl (fun K hK => ?_) AllReady.nil))
                  · go_simp
                    refine (rwant_any D3 (k + 1) cp3 L3 _ hl3 (hc3.on (by repeat (first | exact own_refl _ | apply own_alloc | apply own_drew))) (by omega) (fun y hy => (ho3 y hy).on (by repeat (first | exact own_refl _ | apply own_alloc | apply own_drew))) k key).mono ?_
                    rintro e w4 ⟨rfl, b4⟩
                    rw [HM3.out, HV.out, HI.out]
                    simp only [V.v]
                    have bq4 : Below wq.heap.size wq w4 := below_own (below_own bq3 (by repeat (first | exact own_refl _ | apply own_alloc | apply own_drew))) b4
                    refine hK _ _ ?_
                    clear hK K
                    refine wpAny_take (i := 9) (v := .tuple #[.agg #[.string v.key, .string v.val, .bool v.gone, .int .u64 v.ts, .int .i64 v.dc, .int .i64 v.tx], .bool is]) rfl (by kernel_rfl) (by kernel_rfl) (by kernel_rfl) (fun _ _ _ h => h) (Or.inl ⟨by kernel_rfl, fun W => by go_simp⟩) ?_
                    refine wpAny_take (i := 10) (v := .agg #[.string v.key, .string v.val, .bool v.gone, .int .u64 v.ts, .int .i64 v.dc, .int .i64 v.tx]) rfl (by kernel_rfl) (by kernel_rfl) (by kernel_rfl) (fun _ _ _ h => h) (Or.inl ⟨by kernel_rfl, fun W => by go_simp⟩) ?_
                    refine wpAny_take (i := 11) (v := .bool is) rfl (by kernel_rfl) (by kernel_rfl) (by kernel_rfl) (fun _ _ _ h => h) (Or.inl ⟨by kernel_rfl, fun W => by go_simp⟩) ?_
                    refine wpAny_ready (rs := [12]) (by kernel_rfl) (by simp) (AllReady.cons rfl (fun K hK => ?_) AllReady.nil)
                    go_simp
                    refine hK _ _ ?_
                    clear hK K
                    refine wpAny_ready (rs := [13]) (by kernel_rfl) (by simp) (AllReady.cons rfl (fun K hK => ?_) AllReady.nil)
                    go_simp
                    refine hK _ _ ?_
                    clear hK K
                    refine wpAny_take (i := 14) (v := .bool is) rfl (by kernel_rfl) (by kernel_rfl) (by kernel_rfl) (fun _ _ _ h => h) (Or.inl ⟨by kernel_rfl, fun W => by go_simp⟩) ?_
                    refine wpAny_done (by kernel_rfl) ?_ _
                    simp only [onlyN]
                    go_simp
                    generalize huT : (Value.slice D3 (k + 1) cp3) = uT
                    generalize hgB : w4.heap.size = gB
                    refine hK' uT gB _ ?_
                    subst hgB
                    exact ⟨own_alloc bq4 _, BoxV.new w4 v _⟩
                  · go_simp
                    refine hK _ _ ?_
                    clear hK K
                    refine wpAny_ready (rs := [8]) (by kernel_rfl) (by simp) (AllReady.cons rfl (fun K hK => ?_) AllReady.nil)
                    go_simp
                    refine (rwant_any D3 (k + 1) cp3 L3 _ hl3 (hc3.on (by repeat (first | exact own_refl _ | apply own_alloc | apply own_drew))) (by omega) (fun y hy => (ho3 y hy).on (by repeat (first | exact own_refl _ | apply own_alloc | apply own_drew))) k key).mono ?_
                    rintro e w4 ⟨rfl, b4⟩
                    rw [HM3.out, HV.out, HI.out]
                    simp only [V.v]
                    have bq4 : Below wq.heap.size wq w4 := below_own (below_own bq3 (by repeat (first | exact own_refl _ | apply own_alloc | apply own_drew))) b4
                    have hbx4 := (BoxV.new w3 v0 _).on b4
                    obtain ⟨⟨z0, z1, z2, z3, z4, z5⟩, zf, zl⟩ := id hbx4
                    have zf0 := zf 0
                    have zf1 := zf 1
                    have zf2 := zf 2
                    have zf3 := zf 3
                    have zf4 := zf 4
                    have zf5 := zf 5
                    refine hK _ _ ?_
                    clear hK K
                    refine wpAny_take (i := 9) (v := .tuple #[.agg #[.string v.key, .string v.val, .bool v.gone, .int .u64 v.ts, .int .i64 v.dc, .int .i64 v.tx], .bool is]) rfl (by kernel_rfl) (by kernel_rfl) (by kernel_rfl) (fun _ _ _ h => h) (Or.inl ⟨by kernel_rfl, fun W => by go_simp⟩) ?_
                    refine wpAny_take (i := 10) (v := .agg #[.string v.key, .string v.val, .bool v.gone, .int .u64 v.ts, .int .i64 v.dc, .int .i64 v.tx]) rfl (by kernel_rfl) (by kernel_rfl) (by kernel_rfl) (fun _ _ _ h => h) (Or.inl ⟨by kernel_rfl, fun W => by go_simp⟩) ?_
                    refine wpAny_take (i := 11) (v := .bool is) rfl (by kernel_rfl) (by kernel_rfl) (by kernel_rfl) (fun _ _ _ h => h) (Or.inl ⟨by kernel_rfl, fun W => by go_simp⟩) ?_
                    refine wpAny_ready (rs := [13]) (by kernel_rfl) (by simp) (AllReady.cons rfl (fun K hK => ?_) AllReady.nil)
                    go_simp
                    refine hK _ _ ?_
                    clear hK K
                    refine wpAny_take (i := 14) (v := .bool is) rfl (by kernel_rfl) (by kernel_rfl) (by kernel_rfl) (fun _ _ _ h => h) (Or.inl ⟨by kernel_rfl, fun W => by go_simp⟩) ?_
                    refine wpAny_done (by kernel_rfl) ?_ _
                    simp only [onlyN]
                    go_simp
                    generalize huT : (Value.slice D3 (k + 1) cp3) = uT
                    generalize hgB : w3.heap.size = gB
                    refine hK' uT gB _ ?_
                    subst hgB
                    exact ⟨own_set (own_set (own_set (own_set (own_set (own_set (bq4) (bq3.size) _) (bq3.size) _) (bq3.size) _) (bq3.size) _) (bq3.size) _) (bq3.size) _, hbx4.stored v⟩
                · go_simp
                  refine hK _ _ ?_
                  clear hK K
                  refine wpAny_ready (rs := [1]) (by kernel_rfl) (by simp) (AllReady.cons rfl (fun K hK => ?_) AllReady.nil)
                  go_simp
                  refine (told_any (some ⟨g, 0, none⟩) (k + 1) cp6 (L ++ [lastI s x.p m 0 R rc none 0]) _ HLL.out (Cells.of_own (own_on HOWN.out (by repeat (first | exact own_refl _ | apply own_alloc | apply own_drew)))) hk1 (HOKM.out _ (by repeat (first | exact own_refl _ | apply own_alloc | apply own_drew))) HRDM.out).mono ?_
                  rintro e w3 ⟨D3, cp3, L3, rfl, hc3, ho3, hm3, b3⟩
                  have hl3 : L3.length = k + 1 := by have h := congrArg List.length hm3; rw [List.length_map, List.length_map, HLL.out] at h; exact h
                  rw [hl3]
                  have bq3 : Below wq.heap.size wq w3 := below_own (by repeat (first | exact own_refl _ | apply own_alloc | apply own_drew)) b3
                  have u2_3 := cell_on bq3 u2
                  have k0_3 := cell_on bq3 k0
                  have hgS3 := Nat.lt_of_lt_of_le hgSl bq3.size
                  have hkb3 := Nat.lt_of_lt_of_le hkbl bq3.size
                  have HM3 := Lib.hid hm3
                  clear hm3
                  have hbx3 : BoxV w3 wq.heap.size v0 := (BoxV.new wq.drew v0 _).on b3
                  refine hK _ _ ?_
                  clear hK K
                  refine wpAny_ready (rs := [8]) (by kernel_rfl) (by simp) (AllReady.cons rfl (fun K hK => ?_) AllReady.nil)
                  go_simp
                  refine (rwant_any D3 (k + 1) cp3 L3 _ hl3 (hc3.on (by repeat (first | exact own_refl _ | apply own_alloc | apply own_drew))) (by omega) (fun y hy => (ho3 y hy).on (by repeat (first | exact own_refl _ | apply own_alloc | apply own_drew))) k key).mono ?_
                  rintro e w4 ⟨rfl, b4⟩
                  rw [HM3.out, HV.out, HI.out]
                  simp only [V.v]
                  have bq4 : Below wq.heap.size wq w4 := below_own (below_own bq3 (by repeat (first | exact own_refl _ | apply own_alloc | apply own_drew))) b4
                  have hbx4 := (hbx3).on b4
                  obtain ⟨⟨z0, z1, z2, z3, z4, z5⟩, zf, zl⟩ := id hbx4
                  have zf0 := zf 0
                  have zf1 := zf 1
                  have zf2 := zf 2
                  have zf3 := zf 3
                  have zf4 := zf 4
                  have zf5 := zf 5
                  refine hK _ _ ?_
                  clear hK K
                  refine wpAny_take (i := 9) (v := .tuple #[.agg #[.string v.key, .string v.val, .bool v.gone, .int .u64 v.ts, .int .i64 v.dc, .int .i64 v.tx], .bool is]) rfl (by kernel_rfl) (by kernel_rfl) (by kernel_rfl) (fun _ _ _ h => h) (Or.inl ⟨by kernel_rfl, fun W => by go_simp⟩) ?_
                  refine wpAny_take (i := 10) (v := .agg #[.string v.key, .string v.val, .bool v.gone, .int .u64 v.ts, .int .i64 v.dc, .int .i64 v.tx]) rfl (by kernel_rfl) (by kernel_rfl) (by kernel_rfl) (fun _ _ _ h => h) (Or.inl ⟨by kernel_rfl, fun W => by go_simp⟩) ?_
                  refine wpAny_take (i := 11) (v := .bool is) rfl (by kernel_rfl) (by kernel_rfl) (by kernel_rfl) (fun _ _ _ h => h) (Or.inl ⟨by kernel_rfl, fun W => by go_simp⟩) ?_
                  refine wpAny_ready (rs := [13]) (by kernel_rfl) (by simp) (AllReady.cons rfl (fun K hK => ?_) AllReady.nil)
                  go_simp
                  refine hK _ _ ?_
                  clear hK K
                  refine wpAny_take (i := 14) (v := .bool is) rfl (by kernel_rfl) (by kernel_rfl) (by kernel_rfl) (fun _ _ _ h => h) (Or.inl ⟨by kernel_rfl, fun W => by go_simp⟩) ?_
                  refine wpAny_done (by kernel_rfl) ?_ _
                  simp only [onlyN]
                  go_simp
                  generalize huT : (Value.slice D3 (k + 1) cp3) = uT
                  generalize hgB : wq.heap.size = gB
                  refine hK' uT gB _ ?_
                  subst hgB
                  exact ⟨own_set (own_set (own_set (own_set (own_set (own_set (bq4) (Nat.le_refl _) _) (Nat.le_refl _) _) (Nat.le_refl _) _) (Nat.le_refl _) _) (Nat.le_refl _) _) (Nat.le_refl _) _, hbx4.stored v⟩
              · go_simp
                refine hK _ _ ?_
                clear hK K
                refine wpAny_ready (rs := [1, 7]) (by kernel_rfl) (by simp) (AllReady.cons rfl (fun K hK => ?_) (AllReady.cons rfl (fun K hK => ?_) AllReady.nil))
                · go_simp
                  refine (told_any (some ⟨g, 0, none⟩) (k + 1) cp6 (L ++ [lastI s x.p m 0 R rc none 0]) _ HLL.out (Cells.of_own (own_on HOWN.out (by repeat (first | exact own_refl _ | apply own_alloc | apply own_drew)))) hk1 (HOKM.out _ (by repeat (first | exact own_refl _ | apply own_alloc | apply own_drew))) HRDM.out).mono ?_
                  rintro e w3 ⟨D3, cp3, L3, rfl, hc3, ho3, hm3, b3⟩
                  have hl3 : L3.length = k + 1 := by have h := congrArg List.length hm3; rw [List.length_map, List.length_map, HLL.out] at h; exact h
                  rw [hl3]
                  have bq3 : Below wq.heap.size wq w3 := below_own (by repeat (first | exact own_refl _ | apply own_alloc | apply own_drew)) b3
                  have u2_3 := cell_on bq3 u2
                  have k0_3 := cell_on bq3 k0
                  have hgS3 := Nat.lt_of_lt_of_le hgSl bq3.size
                  have hkb3 := Nat.lt_of_lt_of_le hkbl bq3.size
                  have HM3 := Lib.hid hm3
                  clear hm3
                  have hbx3 : BoxV w3 wq.heap.size v0 := (BoxV.new wq.drew v0 _).on b3
                  refine hK _ _ ?_
                  clear hK K
                  refine wpAny_ready (rs := [7]) (by kernel_rfl) (by simp) (AllReady.cons rfl (fun K hK => ?_) AllReady.nil)
                  go_simp
                  refine hK _ _ ?_
                  clear hK K
                  refine wpAny_ready (rs := [8]) (by kernel_rfl) (by simp) (AllReady.cons rfl (fun K hK => ?_) AllReady.nil)
                  go_simp
                  refine (rwant_any D3 (k + 1) cp3 L3 _ hl3 (hc3.on (by repeat (first | exact own_refl _ | apply own_alloc | apply own_drew))) (by omega) (fun y hy => (ho3 y hy).on (by repeat (first | exact own_refl _ | apply own_alloc | apply own_drew))) k key).mono ?_
                  rintro e w4 ⟨rfl, b4⟩
                  rw [HM3.out, HV.out, HI.out]
                  simp only [V.v]
                  have bq4 : Below wq.heap.size wq w4 := below_own (below_own bq3 (by repeat (first | exact own_refl _ | apply own_alloc | apply own_drew))) b4
                  have hbx4 := (hbx3).on b4
                  obtain ⟨⟨z0, z1, z2, z3, z4, z5⟩, zf, zl⟩ := id hbx4
                  have zf0 := zf 0
                  have zf1 := zf 1
                  have zf2 := zf 2
                  have zf3 := zf 3
                  have zf4 := zf 4
                  have zf5 := zf 5
                  refine hK _ _ ?_
                  clear hK K
                  refine wpAny_take (i := 9) (v := .tuple #[.agg #[.string v.key, .string v.val, .bool v.gone, .int .u64 v.ts, .int .i64 v.dc, .int .i64 v.tx], .bool is]) rfl (by kernel_rfl) (by kernel_rfl) (by kernel_rfl) (fun _ _ _ h => h) (Or.inl ⟨by kernel_rfl, fun W => by go_simp⟩) ?_
                  refine wpAny_take (i := 10) (v := .agg #[.string v.key, .string v.val, .bool v.gone, .int .u64 v.ts, .int .i64 v.dc, .int .i64 v.tx]) rfl (by kernel_rfl) (by kernel_rfl) (by kernel_rfl) (fun _ _ _ h => h) (Or.inl ⟨by kernel_rfl, fun W => by go_simp⟩) ?_
                  refine wpAny_take (i := 11) (v := .bool is) rfl (by kernel_rfl) (by kernel_rfl) (by kernel_rfl) (fun _ _ _ h => h) (Or.inl ⟨by kernel_rfl, fun W => by go_simp⟩) ?_
                  refine wpAny_ready (rs := [13]) (by kernel_rfl) (by simp) (AllReady.cons rfl (fun K hK => ?_) AllReady.nil)
                  go_simp
                  refine hK _ _ ?_
                  clear hK K
                  refine wpAny_take (i := 14) (v := .bool is) rfl (by kernel_rfl) (by kernel_rfl) (by kernel_rfl) (fun _ _ _ h => h) (Or.inl ⟨by kernel_rfl, fun W => by go_simp⟩) ?_
                  refine wpAny_done (by kernel_rfl) ?_ _
                  simp only [onlyN]
                  go_simp
                  generalize huT : (Value.slice D3 (k + 1) cp3) = uT
                  generalize hgB : wq.heap.size = gB
                  refine hK' uT gB _ ?_
                  subst hgB
                  exact ⟨own_set (own_set (own_set (own_set (own_set (own_set (bq4) (Nat.le_refl _) _) (Nat.le_refl _) _) (Nat.le_refl _) _) (Nat.le_refl _) _) (Nat.le_refl _) _) (Nat.le_refl _) _, hbx4.stored v⟩
                · go_simp
                  refine hK _ _ ?_
                  clear hK K
                  refine wpAny_ready (rs := [1]) (by kernel_rfl) (by simp) (AllReady.cons rfl (fun K hK => ?_) AllReady.nil)
                  go_simp
                  refine (told_any (some ⟨g, 0, none⟩) (k + 1) cp6 (L ++ [lastI s x.p m 0 R rc none 0]) _ HLL.out (Cells.of_own (own_on HOWN.out (by repeat (first | exact own_refl _ | apply own_alloc | apply own_drew)))) hk1 (HOKM.out _ (by repeat (first | exact own_refl _ | apply own_alloc | apply own_drew))) HRDM.out).mono ?_
                  rintro e w3 ⟨D3, cp3, L3, rfl, hc3, ho3, hm3, b3⟩
                  have hl3 : L3.length = k + 1 := by have h := congrArg List.length hm3; rw [List.length_map, List.length_map, HLL.out] at h; exact h
                  rw [hl3]
                  have bq3 : Below wq.heap.size wq w3 := below_own (by repeat (first | exact own_refl _ | apply own_alloc | apply own_drew)) b3
                  have u2_3 := cell_on bq3 u2
                  have k0_3 := cell_on bq3 k0
                  have hgS3 := Nat.lt_of_lt_of_le hgSl bq3.size
                  have hkb3 := Nat.lt_of_lt_of_le hkbl bq3.size
                  have HM3 := Lib.hid hm3
                  clear hm3
                  have hbx3 : BoxV w3 wq.heap.size v0 := (BoxV.new wq.drew v0 _).on b3
                  refine hK _ _ ?_
                  clear hK K
                  refine wpAny_ready (rs := [8]) (by kernel_rfl) (by simp) (AllReady.cons rfl (fun K hK => ?_) AllReady.nil)
                  go_simp
                  refine (rwant_any D3 (k + 1) cp3 L3 _ hl3 (hc3.on (by repeat (first | exact own_refl _ | apply own_alloc | apply own_drew))) (by omega) (fun y hy => (ho3 y hy).on (by repeat (first | exact own_refl _ | apply own_alloc | apply own_drew))) k key).mono ?_
                  rintro e w4 ⟨rfl, b4⟩
                  rw [HM3.out, HV.out, HI.out]
                  simp only [V.v]
                  have bq4 : Below wq.heap.size wq w4 := below_own (below_own bq3 (by repeat (first | exact own_refl _ | apply own_alloc | apply own_drew))) b4
                  have hbx4 := (hbx3).on b4
                  obtain ⟨⟨z0, z1, z2, z3, z4, z5⟩, zf, zl⟩ := id hbx4
                  have zf0 := zf 0
                  have zf1 := zf 1
                  have zf2 := zf 2
                  have zf3 := zf 3
                  have zf4 := zf 4
                  have zf5 := zf 5
                  refine hK _ _ ?_
                  clear hK K
                  refine wpAny_take (i := 9) (v := .tuple #[.agg #[.string v.key, .string v.val, .bool v.gone, .int .u64 v.ts, .int .i64 v.dc, .int .i64 v.tx], .bool is]) rfl (by kernel_rfl) (by kernel_rfl) (by kernel_rfl) (fun _ _ _ h => h) (Or.inl ⟨by kernel_rfl, fun W => by go_simp⟩) ?_
                  refine wpAny_take (i := 10) (v := .agg #[.string v.key, .string v.val, .bool v.gone, .int .u64 v.ts, .int .i64 v.dc, .int .i64 v.tx]) rfl (by kernel_rfl) (by kernel_rfl) (by kernel_rfl) (fun _ _ _ h => h) (Or.inl ⟨by kernel_rfl, fun W => by go_simp⟩) ?_
                  refine wpAny_take (i := 11) (v := .bool is) rfl (by kernel_rfl) (by kernel_rfl) (by kernel_rfl) (fun _ _ _ h => h) (Or.inl ⟨by kernel_rfl, fun W => by go_simp⟩) ?_
                  refine wpAny_ready (rs := [13]) (by kernel_rfl) (by simp) (AllReady.cons rfl (fun K hK => ?_) AllReady.nil)
                  go_simp
                  refine hK _ _ ?_
                  clear hK K
                  refine wpAny_take (i := 14) (v := .bool is) rfl (by kernel_rfl) (by kernel_rfl) (by kernel_rfl) (fun _ _ _ h => h) (Or.inl ⟨by kernel_rfl, fun W => by go_simp⟩) ?_
                  refine wpAny_done (by kernel_rfl) ?_ _
                  simp only [onlyN]
                  go_simp
                  generalize huT : (Value.slice D3 (k + 1) cp3) = uT
                  generalize hgB : wq.heap.size = gB
                  refine hK' uT gB _ ?_
                  subst hgB
                  exact ⟨own_set (own_set (own_set (own_set (own_set (own_set (bq4) (Nat.le_refl _) _) (Nat.le_refl _) _) (Nat.le_refl _) _) (Nat.le_refl _) _) (Nat.le_refl _) _) (Nat.le_refl _) _, hbx4.stored v⟩
            · go_simp
              refine hK _ _ ?_
              clear hK K
              refine wpAny_ready (rs := [1, 4]) (by kernel_rfl) (by simp) (AllReady.cons rfl (fun K hK => ?_) (AllReady.cons rfl (fun K hK => ?_) AllReady.nil))
              · go_simp
                refine (told_any (some ⟨g, 0, none⟩) (k + 1) cp6 (L ++ [lastI s x.p m 0 R rc none 0]) _ HLL.out (Cells.of_own (own_on HOWN.out (by repeat (first | exact own_refl _ | apply own_alloc | apply own_drew)))) hk1 (HOKM.out _ (by repeat (first | exact own_refl _ | apply own_alloc | apply own_drew))) HRDM.out).mono ?_
                rintro e w3 ⟨D3, cp3, L3, rfl, hc3, ho3, hm3, b3⟩
                have hl3 : L3.length = k + 1 := by have h := congrArg List.length hm3; rw [List.length_map, List.length_map, HLL.out] at h; exact h
                rw [hl3]
                have bq3 : Below wq.heap.size wq w3 := below_own (by repeat (first | exact own_refl _ | apply own_alloc | apply own_drew)) b3
                have u2_3 := cell_on bq3 u2
                have k0_3 := cell_on bq3 k0
                have hgS3 := Nat.lt_of_lt_of_le hgSl bq3.size
                have hkb3 := Nat.lt_of_lt_of_le hkbl bq3.size
                have HM3 := Lib.hid hm3
                clear hm3
                have hbx3 : BoxV w3 wq.heap.size v0 := (BoxV.new wq.drew v0 _).on b3
                refine hK _ _ ?_
                clear hK K
                refine wpAny_ready (rs := [4]) (by kernel_rfl) (by simp) (AllReady.cons rfl (fun K hK => ?_) AllReady.nil)
                go_simp
                refine hK _ _ ?_
                clear hK K
                refine wpAny_take (i := 6) (v := .pointer (some ⟨kb, ko + m, none⟩)) rfl (by kernel_rfl) (by kernel_rfl) (by kernel_rfl) (fun _ _ _ h => h) (Or.inl ⟨by kernel_rfl, fun W => by go_simp⟩) ?_
                refine wpAny_ready (rs := [7]) (by kernel_rfl) (by simp) (AllReady.cons rfl (fun K hK => ?_) AllReady.nil)
                go_simp
                refine hK _ _ ?_
                clear hK K
                refine wpAny_ready (rs := [8]) (by kernel_rfl) (by simp) (AllReady.cons rfl (fun K hK => ?_) AllReady.nil)
                go_simp
                refine (rwant_any D3 (k + 1) cp3 L3 _ hl3 (hc3.on (by repeat (first | exact own_refl _ | apply own_alloc | apply own_drew))) (by omega) (fun y hy => (ho3 y hy).on (by repeat (first | exact own_refl _ | apply own_alloc | apply own_drew))) k key).mono ?_
                rintro e w4 ⟨rfl, b4⟩
                rw [HM3.out, HV.out, HI.out]
                simp only [V.v]
                have bq4 : Below wq.heap.size wq w4 := below_own (below_own bq3 (by repeat (first | exact own_refl _ | apply own_alloc | apply own_drew))) b4
                have hbx4 := (hbx3).on b4
                obtain ⟨⟨z0, z1, z2, z3, z4, z5⟩, zf, zl⟩ := id hbx4
                have zf0 := zf 0
                have zf1 := zf 1
                have zf2 := zf 2
                have zf3 := zf 3
                have zf4 := zf 4
                have zf5 := zf 5
                refine hK _ _ ?_
                clear hK K
                refine wpAny_take (i := 9) (v := .tuple #[.agg #[.string v.key, .string v.val, .bool v.gone, .int .u64 v.ts, .int .i64 v.dc, .int .i64 v.tx], .bool is]) rfl (by kernel_rfl) (by kernel_rfl) (by kernel_rfl) (fun _ _ _ h => h) (Or.inl ⟨by kernel_rfl, fun W => by go_simp⟩) ?_
                refine wpAny_take (i := 10) (v := .agg #[.string v.key, .string v.val, .bool v.gone, .int .u64 v.ts, .int .i64 v.dc, .int .i64 v.tx]) rfl (by kernel_rfl) (by kernel_rfl) (by kernel_rfl) (fun _ _ _ h => h) (Or.inl ⟨by kernel_rfl, fun W => by go_simp⟩) ?_
                refine wpAny_take (i := 11) (v := .bool is) rfl (by kernel_rfl) (by kernel_rfl) (by kernel_rfl) (fun _ _ _ h => h) (Or.inl ⟨by kernel_rfl, fun W => by go_simp⟩) ?_
                refine wpAny_ready (rs := [13]) (by kernel_rfl) (by simp) (AllReady.cons rfl (fun K hK => ?_) AllReady.nil)
                go_simp
                refine hK _ _ ?_
                clear hK K
                refine wpAny_take (i := 14) (v := .bool is) rfl (by kernel_rfl) (by kernel_rfl) (by kernel_rfl) (fun _ _ _ h => h) (Or.inl ⟨by kernel_rfl, fun W => by go_simp⟩) ?_
                refine wpAny_done (by kernel_rfl) ?_ _
                simp only [onlyN]
                go_simp
                generalize huT : (Value.slice D3 (k + 1) cp3) = uT
                generalize hgB : wq.heap.size = gB
                refine hK' uT gB _ ?_
                subst hgB
                exact ⟨own_set (own_set (own_set (own_set (own_set (own_set (bq4) (Nat.le_refl _) _) (Nat.le_refl _) _) (Nat.le_refl _) _) (Nat.le_refl _) _) (Nat.le_refl _) _) (Nat.le_refl _) _, hbx4.stored v⟩
              · go_simp
                refine hK _ _ ?_
                clear hK K
                refine wpAny_take (i := 6) (v := .pointer (some ⟨kb, ko + m, none⟩)) rfl (by kernel_rfl) (by kernel_rfl) (by kernel_rfl) (fun _ _ _ h => h) (Or.inl ⟨by kernel_rfl, fun W => by go_simp⟩) ?_
                refine wpAny_ready (rs := [1, 7]) (by kernel_rfl) (by simp) (AllReady.cons rfl (fun K hK => ?_) (AllReady.cons rfl (fun K hK => ?_) AllReady.nil))
                · go_simp
                  refine (told_any (some ⟨g, 0, none⟩) (k + 1) cp6 (L ++ [lastI s x.p m 0 R rc none 0]) _ HLL.out (Cells.of_own (own_on HOWN.out (by repeat (first | exact own_refl _ | apply own_alloc | apply own_drew)))) hk1 (HOKM.out _ (by repeat (first | exact own_refl _ | apply own_alloc | apply own_drew))) HRDM.out).mono ?_
                  rintro e w3 ⟨D3, cp3, L3, rfl, hc3, ho3, hm3, b3⟩
                  have hl3 : L3.length = k + 1 := by have h := congrArg List.length hm3; rw [List.length_map, List.length_map, HLL.out] at h; exact h
                  rw [hl3]
                  have bq3 : Below wq.heap.size wq w3 := below_own (by repeat (first | exact own_refl _ | apply own_alloc | apply own_drew)) b3
                  have u2_3 := cell_on bq3 u2
                  have k0_3 := cell_on bq3 k0
                  have hgS3 := Nat.lt_of_lt_of_le hgSl bq3.size
                  have hkb3 := Nat.lt_of_lt_of_le hkbl bq3.size
                  have HM3 := Lib.hid hm3
                  clear hm3
                  have hbx3 : BoxV w3 wq.heap.size v0 := (BoxV.new wq.drew v0 _).on b3
                  refine hK _ _ ?_
                  clear hK K
                  refine wpAny_ready (rs := [7]) (by kernel_rfl) (by simp) (AllReady.cons rfl (fun K hK => ?_) AllReady.nil)
                  go_simp
                  refine hK _ _ ?_
                  clear hK K
                  refine wpAny_ready (rs := [8]) (by kernel_rfl) (by simp) (AllReady.cons rfl (fun K hK => ?_) AllReady.nil)
                  go_simp
                  refine (rwant_any D3 (k + 1) cp3 L3 _ hl3 (hc3.on (by repeat (first | exact own_refl _ | apply own_alloc | apply own_drew))) (by omega) (fun y hy => (ho3 y hy).on (by repeat (first | exact own_refl _ | apply own_alloc | apply own_drew))) k key).mono ?_
                  rintro e w4 ⟨rfl, b4⟩
                  rw [HM3.out, HV.out, HI.out]
                  simp only [V.v]
                  have bq4 : Below wq.heap.size wq w4 := below_own (below_own bq3 (by repeat (first | exact own_refl _ | apply own_alloc | apply own_drew))) b4
                  have hbx4 := (hbx3).on b4
                  obtain ⟨⟨z0, z1, z2, z3, z4, z5⟩, zf, zl⟩ := id hbx4
                  have zf0 := zf 0
                  have zf1 := zf 1
                  have zf2 := zf 2
                  have zf3 := zf 3
                  have zf4 := zf 4
                  have zf5 := zf 5
                  refine hK _ _ ?_
                  clear hK K
                  refine wpAny_take (i := 9) (v := .tuple #[.agg #[.string v.key, .string v.val, .bool v.gone, .int .u64 v.ts, .int .i64 v.dc, .int .i64 v.tx], .bool is]) rfl (by kernel_rfl) (by kernel_rfl) (by kernel_rfl) (fun _ _ _ h => h) (Or.inl ⟨by kernel_rfl, fun W => by go_simp⟩) ?_
                  refine wpAny_take (i := 10) (v := .agg #[.string v.key, .string v.val, .bool v.gone, .int .u64 v.ts, .int .i64 v.dc, .int .i64 v.tx]) rfl (by kernel_rfl) (by kernel_rfl) (by kernel_rfl) (fun _ _ _ h => h) (Or.inl ⟨by kernel_rfl, fun W => by go_simp⟩) ?_
                  refine wpAny_take (i := 11) (v := .bool is) rfl (by kernel_rfl) (by kernel_rfl) (by kernel_rfl) (fun _ _ _ h => h) (Or.inl ⟨by kernel_rfl, fun W => by go_simp⟩) ?_
                  refine wpAny_ready (rs := [13]) (by kernel_rfl) (by simp) (AllReady.cons rfl (fun K hK => ?_) AllReady.nil)
                  go_simp
                  refine hK _ _ ?_
                  clear hK K
                  refine wpAny_take (i := 14) (v := .bool is) rfl (by kernel_rfl) (by kernel_rfl) (by kernel_rfl) (fun _ _ _ h => h) (Or.inl ⟨by kernel_rfl, fun W => by go_simp⟩) ?_
                  refine wpAny_done (by kernel_rfl) ?_ _
                  simp only [onlyN]
                  go_simp
                  generalize huT : (Value.slice D3 (k + 1) cp3) = uT
                  generalize hgB : wq.heap.size = gB
                  refine hK' uT gB _ ?_
                  subst hgB
                  exact ⟨own_set (own_set (own_set (own_set (own_set (own_set (bq4) (Nat.le_refl _) _) (Nat.le_refl _) _) (Nat.le_refl _) _) (Nat.le_refl _) _) (Nat.le_refl _) _) (Nat.le_refl _) _, hbx4.stored v⟩
                · go_simp
                  refine hK _ _ ?_
                  clear hK K
                  refine wpAny_ready (rs := [1]) (by kernel_rfl) (by simp) (AllReady.cons rfl (fun K hK => ?_) AllReady.nil)
                  go_simp
                  refine (told_any (some ⟨g, 0, none⟩) (k + 1) cp6 (L ++ [lastI s x.p m 0 R rc none 0]) _ HLL.out (Cells.of_own (own_on HOWN.out (by repeat (first | exact own_refl _ | apply own_alloc | apply own_drew)))) hk1 (HOKM.out _ (by repeat (first | exact own_refl _ | apply own_alloc | apply own_drew))) HRDM.out).mono ?_
                  rintro e w3 ⟨D3, cp3, L3, rfl, hc3, ho3, hm3, b3⟩
                  have hl3 : L3.length = k + 1 := by have h := congrArg List.length hm3; rw [List.length_map, List.length_map, HLL.out] at h; exact h
                  rw [hl3]
                  have bq3 : Below wq.heap.size wq w3 := below_own (by repeat (first | exact own_refl _ | apply own_alloc | apply own_drew)) b3
                  have u2_3 := cell_on bq3 u2
                  have k0_3 := cell_on bq3 k0
                  have hgS3 := Nat.lt_of_lt_of_le hgSl bq3.size
                  have hkb3 := Nat.lt_of_lt_of_le hkbl bq3.size
                  have HM3 := Lib.hid hm3
                  clear hm3
                  have hbx3 : BoxV w3 wq.heap.size v0 := (BoxV.new wq.drew v0 _).on b3
                  refine hK _ _ ?_
                  clear hK K
                  refine wpAny_ready (rs := [8]) (by kernel_rfl) (by simp) (AllReady.cons rfl (fun K hK => ?_) AllReady.nil)
                  go_simp
                  refine (rwant_any D3 (k + 1) cp3 L3 _ hl3 (hc3.on (by repeat (first | exact own_refl _ | apply own_alloc | apply own_drew))) (by omega) (fun y hy => (ho3 y hy).on (by repeat (first | exact own_refl _ | apply own_alloc | apply own_drew))) k key).mono ?_
                  rintro e w4 ⟨rfl, b4⟩
                  rw [HM3.out, HV.out, HI.out]
                  simp only [V.v]
                  have bq4 : Below wq.heap.size wq w4 := below_own (below_own bq3 (by repeat (first | exact own_refl _ | apply own_alloc | apply own_drew))) b4
                  have hbx4 := (hbx3).on b4
                  obtain ⟨⟨z0, z1, z2, z3, z4, z5⟩, zf, zl⟩ := id hbx4
                  have zf0 := zf 0
                  have zf1 := zf 1
                  have zf2 := zf 2
                  have zf3 := zf 3
                  have zf4 := zf 4
                  have zf5 := zf 5
                  refine hK _ _ ?_
                  clear hK K
                  refine wpAny_take (i := 9) (v := .tuple #[.agg #[.string v.key, .string v.val, .bool v.gone, .int .u64 v.ts, .int .i64 v.dc, .int .i64 v.tx], .bool is]) rfl (by kernel_rfl) (by kernel_rfl) (by kernel_rfl) (fun _ _ _ h => h) (Or.inl ⟨by kernel_rfl, fun W => by go_simp⟩) ?_
                  refine wpAny_take (i := 10) (v := .agg #[.string v.key, .string v.val, .bool v.gone, .int .u64 v.ts, .int .i64 v.dc, .int .i64 v.tx]) rfl (by kernel_rfl) (by kernel_rfl) (by kernel_rfl) (fun _ _ _ h => h) (Or.inl ⟨by kernel_rfl, fun W => by go_simp⟩) ?_
                  refine wpAny_take (i := 11) (v := .bool is) rfl (by kernel_rfl) (by kernel_rfl) (by kernel_rfl) (fun _ _ _ h => h) (Or.inl ⟨by kernel_rfl, fun W => by go_simp⟩) ?_
                  refine wpAny_ready (rs := [13]) (by kernel_rfl) (by simp) (AllReady.cons rfl (fun K hK => ?_) AllReady.nil)
                  go_simp
                  refine hK _ _ ?_
                  clear hK K
                  refine wpAny_take (i := 14) (v := .bool is) rfl (by kernel_rfl) (by kernel_rfl) (by kernel_rfl) (fun _ _ _ h => h) (Or.inl ⟨by kernel_rfl, fun W => by go_simp⟩) ?_
                  refine wpAny_done (by kernel_rfl) ?_ _
                  simp only [onlyN]
                  go_simp
                  generalize huT : (Value.slice D3 (k + 1) cp3) = uT
                  generalize hgB : wq.heap.size = gB
                  refine hK' uT gB _ ?_
                  subst hgB
                  exact ⟨own_set (own_set (own_set (own_set (own_set (own_set (bq4) (Nat.le_refl _) _) (Nat.le_refl _) _) (Nat.le_refl _) _) (Nat.le_refl _) _) (Nat.le_refl _) _) (Nat.le_refl _) _, hbx4.stored v⟩
          · intro uT gB W ⟨hbW, hbv⟩
            obtain ⟨⟨d0, d1, d2, d3, d4, d5⟩, -, hgBl⟩ := id hbv
            have u2W := cell_on hbW u2
            have k0W := cell_on hbW k0
            have hownW := own_on HOWN.out hbW
            have hrowW := own_on HROW.out hbW
            have c6 : W.cell? ⟨g, k * 8 + 6, none⟩ = some (.slice R m rc) := by
              obtain ⟨-, -, -, -, -, -, h6, -⟩ := last_cells hownW hlen
              rw [show (lastI s x.p m 0 R rc none 0).t.rds.length = m from HRL.out] at h6
              exact h6
            have hgW : g < W.heap.size := World.block_lt_of_cell? _ _ c6
            have hgSW : gS < W.heap.size := World.block_lt_of_cell? _ _ u2W
            have hkbW : kb < W.heap.size := World.block_lt_of_cell? _ _ k0W
            have hszW := hbW.size
            go_wp2_with fail
            refine region_plain (N := 20) rfl (by kernel_rfl) ?_
            refine wpAny_take (i := 0) (v := .slice (some ⟨g, 0, none⟩) (k + 1) cp6) rfl (by kernel_rfl) (by kernel_rfl) (by kernel_rfl) (fun _ _ _ h => h) (Or.inl ⟨by kernel_rfl, fun W => by go_simp⟩) ?_
            refine wpAny_take (i := 1) (v := .int .i64 k) rfl (by kernel_rfl) (by kernel_rfl) (by kernel_rfl) (fun _ _ _ h => h) (Or.inl ⟨by kernel_rfl, fun W => by go_simp⟩) ?_
            refine wpAny_take (i := 2) (v := .slice (some ⟨g, 0, none⟩) (k + 1) cp6) rfl (by kernel_rfl) (by kernel_rfl) (by kernel_rfl) (fun _ _ _ h => h) (Or.inl ⟨by kernel_rfl, fun W => by go_simp⟩) ?_
            refine wpAny_take (i := 3) (v := .int .i64 k) rfl (by kernel_rfl) (by kernel_rfl) (by kernel_rfl) (fun _ _ _ h => h) (Or.inl ⟨by kernel_rfl, fun W => by go_simp⟩) ?_
            refine wpAny_take (i := 4) (v := .pointer (some ⟨g, k * 8, none⟩)) rfl (by kernel_rfl) (by kernel_rfl) (by kernel_rfl) (fun _ _ _ h => h) (Or.inl ⟨by kernel_rfl, fun W => by go_simp⟩) ?_
            refine wpAny_take (i := 5) (v := .pointer (some ⟨g, k * 8 + 6, none⟩)) rfl (by kernel_rfl) (by kernel_rfl) (by kernel_rfl) (fun _ _ _ h => h) (Or.inl ⟨by kernel_rfl, fun W => by go_simp⟩) ?_
            refine wpAny_take (i := 7) (v := .pointer (some ⟨gS, 2, none⟩)) rfl (by kernel_rfl) (by kernel_rfl) (by kernel_rfl) (fun _ _ _ h => h) (Or.inl ⟨by kernel_rfl, fun W => by go_simp⟩) ?_
            refine wpAny_take (i := 9) (v := .int .i64 m) rfl (by kernel_rfl) (by kernel_rfl) (by kernel_rfl) (fun _ _ _ h => h) (Or.inl ⟨by kernel_rfl, fun W => by go_simp⟩) ?_
            refine wpAny_take (i := 12) (v := .bool is) rfl (by kernel_rfl) (by kernel_rfl) (by kernel_rfl) (fun _ _ _ h => h) (Or.inl ⟨by kernel_rfl, fun W => by go_simp⟩) ?_
            apply cut2
            intro hS6_8_11_13_15
            apply cut2
            intro hS8_11_13_15
            apply cut2
            intro hS6_8_11_13
            apply cut2
            intro hS8_11_13
            apply cut2
            intro hS6_8_13
            apply cut2
            intro hS6_8_11
            apply cut2
            intro hS8_13
            apply cut2
            intro hS8_11
            apply cut2
            intro hS6_13
            apply cut2
            intro hS6_8
            apply cut2
            intro hS13
            apply cut2
            intro hS8
            apply cut2
            intro hS6
            refine wpAny_ready (rs := [6, 8, 13]) (by kernel_rfl) (by simp) (AllReady.cons rfl (fun K hK => ?_) (AllReady.cons rfl (fun K hK => ?_) (AllReady.cons rfl (fun K hK => ?_) AllReady.nil)))
            · go_simp
              refine hK _ _ ?_
              clear hK K
              exact hS6
            · go_simp
              refine hK _ _ ?_
              clear hK K
              refine wpAny_take (i := 10) (v := .pointer (some ⟨kb, ko + m, none⟩)) rfl (by kernel_rfl) (by kernel_rfl) (by kernel_rfl) (fun _ _ _ h => h) (Or.inl ⟨by kernel_rfl, fun W => by go_simp⟩) ?_
              exact hS8
            · go_simp
              refine hK _ _ ?_
              clear hK K
              exact hS13
            refine wpAny_ready (rs := [8, 13]) (by kernel_rfl) (by simp) (AllReady.cons rfl (fun K hK => ?_) (AllReady.cons rfl (fun K hK => ?_) AllReady.nil))
            · go_simp
              refine hK _ _ ?_
              clear hK K
              refine wpAny_take (i := 10) (v := .pointer (some ⟨kb, ko + m, none⟩)) rfl (by kernel_rfl) (by kernel_rfl) (by kernel_rfl) (fun _ _ _ h => h) (Or.inl ⟨by kernel_rfl, fun W => by go_simp⟩) ?_
              exact hS6_8
            · go_simp
              refine hK _ _ ?_
              clear hK K
              exact hS6_13
            refine wpAny_ready (rs := [6, 11, 13]) (by kernel_rfl) (by simp) (AllReady.cons rfl (fun K hK => ?_) (AllReady.cons rfl (fun K hK => ?_) (AllReady.cons rfl (fun K hK => ?_) AllReady.nil)))
            · go_simp
              refine hK _ _ ?_
              clear hK K
              exact wpAny_swap hS6_8 (by kernel_rfl)
            · go_simp
              refine hK _ _ ?_
              clear hK K
              exact hS8_11
            · go_simp
              refine hK _ _ ?_
              clear hK K
              exact hS8_13
            refine wpAny_ready (rs := [6, 8]) (by kernel_rfl) (by simp) (AllReady.cons rfl (fun K hK => ?_) (AllReady.cons rfl (fun K hK => ?_) AllReady.nil))
            · go_simp
              refine hK _ _ ?_
              clear hK K
              exact wpAny_swap hS6_13 (by kernel_rfl)
            · go_simp
              refine hK _ _ ?_
              clear hK K
              refine wpAny_take (i := 10) (v := .pointer (some ⟨kb, ko + m, none⟩)) rfl (by kernel_rfl) (by kernel_rfl) (by kernel_rfl) (fun _ _ _ h => h) (Or.inl ⟨by kernel_rfl, fun W => by go_simp⟩) ?_
              exact wpAny_swap hS8_13 (by kernel_rfl)
            refine wpAny_ready (rs := [11, 13]) (by kernel_rfl) (by simp) (AllReady.cons rfl (fun K hK => ?_) (AllReady.cons rfl (fun K hK => ?_) AllReady.nil))
            · go_simp
              refine hK _ _ ?_
              clear hK K
              exact hS6_8_11
            · go_simp
              refine hK _ _ ?_
              clear hK K
              exact hS6_8_13
            refine wpAny_ready (rs := [8]) (by kernel_rfl) (by simp) (AllReady.cons rfl (fun K hK => ?_) AllReady.nil)
            go_simp
            refine hK _ _ ?_
            clear hK K
            refine wpAny_take (i := 10) (v := .pointer (some ⟨kb, ko + m, none⟩)) rfl (by kernel_rfl) (by kernel_rfl) (by kernel_rfl) (fun _ _ _ h => h) (Or.inl ⟨by kernel_rfl, fun W => by go_simp⟩) ?_
            exact wpAny_swap hS6_8_13 (by kernel_rfl)
            refine wpAny_ready (rs := [6, 13]) (by kernel_rfl) (by simp) (AllReady.cons rfl (fun K hK => ?_) (AllReady.cons rfl (fun K hK => ?_) AllReady.nil))
            · go_simp
              refine hK _ _ ?_
              clear hK K
              exact wpAny_swap hS6_8_11 (by kernel_rfl)
            · go_simp
              refine hK _ _ ?_
              clear hK K
              refine wpAny_take (i := 14) (v := .agg #[.string key, .bool is, .string v.key, .string v.val, .bool v.gone, .int .u64 v.ts, .int .i64 v.dc, .int .i64 v.tx]) rfl (by kernel_rfl) (by kernel_rfl) (by kernel_rfl) (fun _ _ _ h => h) (Or.inl ⟨by kernel_rfl, fun W => by go_simp⟩) ?_
              exact hS8_11_13
            refine wpAny_ready (rs := [6, 11]) (by kernel_rfl) (by simp) (AllReady.cons rfl (fun K hK => ?_) (AllReady.cons rfl (fun K hK => ?_) AllReady.nil))
            · go_simp
              refine hK _ _ ?_
              clear hK K
              exact wpAny_swap hS6_8_13 (by kernel_rfl)
            · go_simp
              refine hK _ _ ?_
              clear hK K
              refine wpAny_take (i := 14) (v := .agg #[.string key, .bool is, .string v.key, .string v.val, .bool v.gone, .int .u64 v.ts, .int .i64 v.dc, .int .i64 v.tx]) rfl (by kernel_rfl) (by kernel_rfl) (by kernel_rfl) (fun _ _ _ h => h) (Or.inl ⟨by kernel_rfl, fun W => by go_simp⟩) ?_
              exact wpAny_swap hS8_11_13 (by kernel_rfl)
            refine wpAny_ready (rs := [13]) (by kernel_rfl) (by simp) (AllReady.cons rfl (fun K hK => ?_) AllReady.nil)
            go_simp
            refine hK _ _ ?_
            clear hK K
            refine wpAny_take (i := 14) (v := .agg #[.string key, .bool is, .string v.key, .string v.val, .bool v.gone, .int .u64 v.ts, .int .i64 v.dc, .int .i64 v.tx]) rfl (by kernel_rfl) (by kernel_rfl) (by kernel_rfl) (fun _ _ _ h => h) (Or.inl ⟨by kernel_rfl, fun W => by go_simp⟩) ?_
            exact hS6_8_11_13
            refine wpAny_ready (rs := [11]) (by kernel_rfl) (by simp) (AllReady.cons rfl (fun K hK => ?_) AllReady.nil)
            go_simp
            refine hK _ _ ?_
            clear hK K
            refine wpAny_take (i := 14) (v := .agg #[.string key, .bool is, .string v.key, .string v.val, .bool v.gone, .int .u64 v.ts, .int .i64 v.dc, .int .i64 v.tx]) rfl (by kernel_rfl) (by kernel_rfl) (by kernel_rfl) (fun _ _ _ h => h) (Or.inl ⟨by kernel_rfl, fun W => by go_simp⟩) ?_
            exact wpAny_swap hS6_8_11_13 (by kernel_rfl)
            refine wpAny_ready (rs := [6, 15]) (by kernel_rfl) (by simp) (AllReady.cons rfl (fun K hK => ?_) (AllReady.cons rfl (fun K hK => ?_) AllReady.nil))
            · go_simp
              refine hK _ _ ?_
              clear hK K
              exact wpAny_swap hS6_8_11_13 (by kernel_rfl)
            · go_simp
              refine hK _ _ ?_
              clear hK K
              exact hS8_11_13_15
            refine wpAny_ready (rs := [15]) (by kernel_rfl) (by simp) (AllReady.cons rfl (fun K hK => ?_) AllReady.nil)
            go_simp
            refine hK _ _ ?_
            clear hK K
            exact hS6_8_11_13_15
            refine wpAny_ready (rs := [6]) (by kernel_rfl) (by simp) (AllReady.cons rfl (fun K hK => ?_) AllReady.nil)
            go_simp
            refine hK _ _ ?_
            clear hK K
            exact wpAny_swap hS6_8_11_13_15 (by kernel_rfl)
            refine wpAny_ready (rs := [16]) (by kernel_rfl) (by simp) (AllReady.cons rfl (fun K hK => ?_) AllReady.nil)
            refine step_append_cells _ (by rfl) _ _ 42 (by rfl) W6.heap.size 57 i2 (.agg #[.string ⟨#[]⟩, .bool false, .string ⟨#[]⟩, .string ⟨#[]⟩, .bool false, .int .u64 0, .int .i64 0, .int .i64 0]) 8 88 Try.underlying42 hi2 hy0 hy1 hy2 (by rfl) (by omega) _ _ _ (by rfl) (own_on hrowW (by repeat (first | exact own_refl _ | apply own_alloc | apply own_drew))) _ 1 _ [.string key, .bool is, .string v.key, .string v.val, .bool v.gone, .int .u64 v.ts, .int .i64 v.dc, .int .i64 v.tx] (by rfl) rfl (Cells.new_at _ #[.string key, .bool is, .string v.key, .string v.val, .bool v.gone, .int .u64 v.ts, .int .i64 v.dc, .int .i64 v.tx] 57 _ (by simp)) (one_rd ⟨key, is, v⟩) (by unfold maxLen; omega) (by omega) (by simp only [World.size_alloc, World.size_drew]; omega) ?_
            intro D5 cp5 w5 hown5 hgrow5
            have htA : Turns (fun j => (Value.slice R m rc).ownBlock = some j) W w5 := ((Turns.of_below (S := none') (show Below W.heap.size W _ from (by repeat (first | exact own_refl _ | apply own_alloc | apply own_drew)))).weaken (fun _ _ h => h.elim)).grown hgrow5 (fun j _ e => e)
            have hnR : ∀ j, (Value.slice R m rc).ownBlock = some j → W6.heap.size ≤ j := fun j e => (HROW.out.lt j e).1
            have hown5O := htA.row hownW (fun j e e' => by have e2 : g = j := (by injection e); have := hnR j e'; omega)
            have h6 := (last_cells hown5O hlen).2.2.2.2.2.2.1
            rw [show (lastI s x.p m 0 R rc none 0).t.rds.length = m from HRL.out] at h6
            have f6 : w5.frozen? ⟨g, k * 8 + 6, none⟩ = false := hown5O.frozenAt _
            refine hK _ _ ?_
            clear hK K
            refine wpAny_take (i := 17) (v := .pointer (some ⟨g, k * 8, none⟩)) rfl (by kernel_rfl) (by kernel_rfl) (by kernel_rfl) (fun _ _ _ h => h) (Or.inl ⟨by kernel_rfl, fun W => by go_simp⟩) ?_
            refine wpAny_take (i := 18) (v := .pointer (some ⟨g, k * 8 + 6, none⟩)) rfl (by kernel_rfl) (by kernel_rfl) (by kernel_rfl) (fun _ _ _ h => h) (Or.inl ⟨by kernel_rfl, fun W => by go_simp⟩) ?_
            refine wpAny_ready (rs := [19]) (by kernel_rfl) (by simp) (AllReady.cons rfl (fun K hK => ?_) AllReady.nil)
            go_simp
            refine hK _ _ ?_
            clear hK K
            refine wpAny_done (by kernel_rfl) ?_ _
            simp only [onlyN]
            go_simp
            go_wp2
            go_roundw
            case rel =>
              refine ⟨m + 1, D5, cp5, by omega, by omega, by go_num, ?_, ?_, ?_⟩
              · have h := (hown5O.stored (k * 8 + 6) (.slice D5 (m + 1) cp5)).1
                rw [← hlen, set_last L _ (lastI s x.p (m + 1) 0 D5 cp5 none 0) 6 _ (by omega) (by unfold TI.cells lastI lastT; rw [show (rdsTo s x.p (m + 1)).length = m + 1 from rdsTo_len (by omega)]; rfl)] at h
                rw [hlen] at h
                exact h
              · rw [HST.out]
                exact ((Turns.refl (one g) w5).set (a := ⟨g, k * 8 + 6, none⟩) (fun _ => rfl) _).row hown5 (fun j e e' => by have h1 := (hown5.lt j e).1; have h2 : j = g := e'; omega)
              · exact (((HTU.out.below' hbW).on htA (fun j hj e => by have := hnR j e; omega))).set (a := ⟨g, k * 8 + 6, none⟩) (fun _ => rfl) _
            case measure => simp [intOf]; omega
        · have hme : rdsTo s x.p m = rdsTo s x.p 4 := by
            unfold rdsTo
            congr 1
            rcases Nat.lt_or_ge m 4 with c | c
            · have : m = x.p.reads.length := by omega
              rw [List.take_of_length_le (by omega), List.take_of_length_le (by omega)]
            · have : m = 4 := by omega
              rw [this]
          have HRD := Lib.hid hme
          clear hme
          by_cases hlm : m < x.p.reads.length
          · have hd : decide ((m : Int) < 4) = false := by simp; omega
            have hROW7 := hrow
            have hTU7 := htu
            obtain ⟨W7, hW7⟩ : ∃ W7, W7 = wq := ⟨_, rfl⟩
            rw [← hW7] at hown hROW7 hTU7
            have HROW7 := Lib.hid hROW7
            have HTU7 := Lib.hid hTU7
            have h67 : W6.heap.size ≤ W7.heap.size := hTU7.size
            have hgW7 : g < W7.heap.size := by omega
            go_wp2
            clear u0 u1 u2 u3 u4 hrow htu hROW7 hTU7 hbq htsz
            go_loopw [14] (fun q wr => ∃ (q' : Nat) (D : Option Addr) (dc : Nat), q' ≤ x.p.keys.length ∧ q' ≤ 4 ∧ q = .int .i64 q' ∧ wr.ownsRow w.heap.size 45 8 (.slice (some ⟨g, 0, none⟩) (k + 1) cp6) (k + 1) (flatTI (L ++ [lastI s x.p m q' R rc D dc])) ∧ wr.ownsRow W7.heap.size 35 6 (.slice D q' dc) q' (flatV (wrsTo x.p q')) ∧ Turns (one g) W7 wr) (fun q _ => x.p.keys.length - (intOf q).toNat)
            case atStart => rw [← hW7]; exact ⟨0, none, 0, Nat.zero_le _, Nat.zero_le _, rfl, hown, World.ownsRow_nil _ _ _ _, Turns.refl _ _⟩
            case round =>
              clear hown hW7
              clear wq
              obtain ⟨q, D, dc, hq1, hq4, rfl, hownq, hrowq, htq⟩ := hrel
              obtain ⟨wq, rfl⟩ : ∃ w0, w0 = wr := ⟨_, rfl⟩
              have ht6 : Turns (one g) W6 wq := HTU7.out.trans htq
              have hbq : Below w.heap.size w wq := ht6.below HBEL.out (fun j e => by have e : j = g := e; omega)
              obtain ⟨u0, u1, u2, u3, u4⟩ := (HBSX.out.turn ht6 (fun e => hgg e)).c
              have htsz := htq.size
              by_cases hlt2 : q < x.p.keys.length ∧ q < 4
              · obtain ⟨hlt2, hlt3⟩ := hlt2
                obtain ⟨key, hkey⟩ : ∃ key, x.p.keys[q]? = some key := ⟨_, List.getElem?_eq_getElem hlt2⟩
                obtain ⟨kb, ko, hKe, k0⟩ := get_str (HXA.out.k.on hbq) hkey
                have HST := Lib.hid (wrsTo_step hkey)
                rw [hKe] at u3
                rw [hKe]
                have HKE := Lib.hid hKe
                clear hKe hkey
                have m0 : (0 : Int) ≤ (q : Int) := by omega
                have m1 : (q : Int) < (x.p.keys.length : Int) := by omega
                have m2 : (q : Int) < 4 := by omega
                have k1 : (0 : Int) ≤ (k : Int) := by omega
                have k2 : (k : Int) < ((k + 1 : Nat) : Int) := by omega
                have k3 : (k : Int) < (k : Int) + 1 := by omega
                have c7 : wq.cell? ⟨g, k * 8 + 7, none⟩ = some (.slice D q dc) := by
                  obtain ⟨-, -, -, -, -, -, -, h7⟩ := last_cells hownq hlen
                  rw [show (lastI s x.p m q R rc D dc).t.wrs.length = q from wrsTo_len hq1] at h7
                  exact h7
                have HOWNQ := Lib.hid hownq
                have HROWQ := Lib.hid hrowq
                have HTQ := Lib.hid htq
                have hgW : g < wq.heap.size := by omega
                have hgSW : gS < wq.heap.size := World.block_lt_of_cell? _ _ u3
                have hkbW : kb < wq.heap.size := World.block_lt_of_cell? _ _ k0
                clear hownq hrowq htq ht6 hbq
                go_wp2_with fail
                refine region_plain (N := 20) rfl (by kernel_rfl) ?_
                refine wpAny_take (i := 0) (v := .slice (some ⟨g, 0, none⟩) (k + 1) cp6) rfl (by kernel_rfl) (by kernel_rfl) (by kernel_rfl) (fun _ _ _ h => h) (Or.inl ⟨by kernel_rfl, fun W => by go_simp⟩) ?_
                refine wpAny_take (i := 1) (v := .int .i64 k) rfl (by kernel_rfl) (by kernel_rfl) (by kernel_rfl) (fun _ _ _ h => h) (Or.inl ⟨by kernel_rfl, fun W => by go_simp⟩) ?_
                refine wpAny_take (i := 2) (v := .slice (some ⟨g, 0, none⟩) (k + 1) cp6) rfl (by kernel_rfl) (by kernel_rfl) (by kernel_rfl) (fun _ _ _ h => h) (Or.inl ⟨by kernel_rfl, fun W => by go_simp⟩) ?_
                refine wpAny_take (i := 3) (v := .int .i64 k) rfl (by kernel_rfl) (by kernel_rfl) (by kernel_rfl) (fun _ _ _ h => h) (Or.inl ⟨by kernel_rfl, fun W => by go_simp⟩) ?_
                refine wpAny_take (i := 4) (v := .pointer (some ⟨g, k * 8, none⟩)) rfl (by kernel_rfl) (by kernel_rfl) (by kernel_rfl) (fun _ _ _ h => h) (Or.inl ⟨by kernel_rfl, fun W => by go_simp⟩) ?_
                refine wpAny_take (i := 5) (v := .pointer (some ⟨g, k * 8 + 7, none⟩)) rfl (by kernel_rfl) (by kernel_rfl) (by kernel_rfl) (fun _ _ _ h => h) (Or.inl ⟨by kernel_rfl, fun W => by go_simp⟩) ?_
                refine wpAny_take (i := 7) (v := .pointer (some ⟨gS, 3, none⟩)) rfl (by kernel_rfl) (by kernel_rfl) (by kernel_rfl) (fun _ _ _ h => h) (Or.inl ⟨by kernel_rfl, fun W => by go_simp⟩) ?_
                refine wpAny_take (i := 9) (v := .int .i64 q) rfl (by kernel_rfl) (by kernel_rfl) (by kernel_rfl) (fun _ _ _ h => h) (Or.inl ⟨by kernel_rfl, fun W => by go_simp⟩) ?_
                refine wpAny_take (i := 12) (v := .pointer (some ⟨gS, 4, none⟩)) rfl (by kernel_rfl) (by kernel_rfl) (by kernel_rfl) (fun _ _ _ h => h) (Or.inl ⟨by kernel_rfl, fun W => by go_simp⟩) ?_
                apply cut2
                intro hS6_8_11_13_15
                apply cut2
                intro hS8_11_13_15
                apply cut2
                intro hS6_8_11_13
                apply cut2
                intro hS8_11_13
                apply cut2
                intro hS6_8_13
                apply cut2
                intro hS6_8_11
                apply cut2
                intro hS8_13
                apply cut2
                intro hS8_11
                apply cut2
                intro hS6_13
                apply cut2
                intro hS6_8
                apply cut2
                intro hS13
                apply cut2
                intro hS8
                apply cut2
                intro hS6
                refine wpAny_ready (rs := [6, 8, 13]) (by kernel_rfl) (by simp) (AllReady.cons rfl (fun K hK => ?_) (AllReady.cons rfl (fun K hK => ?_) (AllReady.cons rfl (fun K hK => ?_) AllReady.nil)))
                · go_simp
                  refine hK _ _ ?_
                  clear hK K
                  exact hS6
                · go_simp
                  refine hK _ _ ?_
                  clear hK K
                  refine wpAny_take (i := 10) (v := .pointer (some ⟨kb, ko + q, none⟩)) rfl (by kernel_rfl) (by kernel_rfl) (by kernel_rfl) (fun _ _ _ h => h) (Or.inl ⟨by kernel_rfl, fun W => by go_simp⟩) ?_
                  exact hS8
                · go_simp
                  refine hK _ _ ?_
                  clear hK K
                  exact hS13
                refine wpAny_ready (rs := [8, 13]) (by kernel_rfl) (by simp) (AllReady.cons rfl (fun K hK => ?_) (AllReady.cons rfl (fun K hK => ?_) AllReady.nil))
                · go_simp
                  refine hK _ _ ?_
                  clear hK K
                  refine wpAny_take (i := 10) (v := .pointer (some ⟨kb, ko + q, none⟩)) rfl (by kernel_rfl) (by kernel_rfl) (by kernel_rfl) (fun _ _ _ h => h) (Or.inl ⟨by kernel_rfl, fun W => by go_simp⟩) ?_
                  exact hS6_8
                · go_simp
                  refine hK _ _ ?_
                  clear hK K
                  exact hS6_13
                refine wpAny_ready (rs := [6, 11, 13]) (by kernel_rfl) (by simp) (AllReady.cons rfl (fun K hK => ?_) (AllReady.cons rfl (fun K hK => ?_) (AllReady.cons rfl (fun K hK => ?_) AllReady.nil)))
                · go_simp
                  refine hK _ _ ?_
                  clear hK K
                  exact wpAny_swap hS6_8 (by kernel_rfl)
                · go_simp
                  refine hK _ _ ?_
                  clear hK K
                  exact hS8_11
                · go_simp
                  refine hK _ _ ?_
                  clear hK K
                  exact hS8_13
                refine wpAny_ready (rs := [6, 8]) (by kernel_rfl) (by simp) (AllReady.cons rfl (fun K hK => ?_) (AllReady.cons rfl (fun K hK => ?_) AllReady.nil))
                · go_simp
                  refine hK _ _ ?_
                  clear hK K
                  exact wpAny_swap hS6_13 (by kernel_rfl)
                · go_simp
                  refine hK _ _ ?_
                  clear hK K
                  refine wpAny_take (i := 10) (v := .pointer (some ⟨kb, ko + q, none⟩)) rfl (by kernel_rfl) (by kernel_rfl) (by kernel_rfl) (fun _ _ _ h => h) (Or.inl ⟨by kernel_rfl, fun W => by go_simp⟩) ?_
                  exact wpAny_swap hS8_13 (by kernel_rfl)
                refine wpAny_ready (rs := [11, 13]) (by kernel_rfl) (by simp) (AllReady.cons rfl (fun K hK => ?_) (AllReady.cons rfl (fun K hK => ?_) AllReady.nil))
                · go_simp
                  refine hK _ _ ?_
                  clear hK K
                  exact hS6_8_11
                · go_simp
                  refine hK _ _ ?_
                  clear hK K
                  exact hS6_8_13
                refine wpAny_ready (rs := [8]) (by kernel_rfl) (by simp) (AllReady.cons rfl (fun K hK => ?_) AllReady.nil)
                go_simp
                refine hK _ _ ?_
                clear hK K
                refine wpAny_take (i := 10) (v := .pointer (some ⟨kb, ko + q, none⟩)) rfl (by kernel_rfl) (by kernel_rfl) (by kernel_rfl) (fun _ _ _ h => h) (Or.inl ⟨by kernel_rfl, fun W => by go_simp⟩) ?_
                exact wpAny_swap hS6_8_13 (by kernel_rfl)
                refine wpAny_ready (rs := [6, 13]) (by kernel_rfl) (by simp) (AllReady.cons rfl (fun K hK => ?_) (AllReady.cons rfl (fun K hK => ?_) AllReady.nil))
                · go_simp
                  refine hK _ _ ?_
                  clear hK K
                  exact wpAny_swap hS6_8_11 (by kernel_rfl)
                · go_simp
                  refine hK _ _ ?_
                  clear hK K
                  refine wpAny_take (i := 14) (v := .agg #[.string key, .string x.p.val, .bool false, .int .u64 0, .int .i64 0, .int .i64 0]) rfl (by kernel_rfl) (by kernel_rfl) (by kernel_rfl) (fun _ _ _ h => h) (Or.inl ⟨by kernel_rfl, fun W => by go_simp⟩) ?_
                  exact hS8_11_13
                refine wpAny_ready (rs := [6, 11]) (by kernel_rfl) (by simp) (AllReady.cons rfl (fun K hK => ?_) (AllReady.cons rfl (fun K hK => ?_) AllReady.nil))
                · go_simp
                  refine hK _ _ ?_
                  clear hK K
                  exact wpAny_swap hS6_8_13 (by kernel_rfl)
                · go_simp
                  refine hK _ _ ?_
                  clear hK K
                  refine wpAny_take (i := 14) (v := .agg #[.string key, .string x.p.val, .bool false, .int .u64 0, .int .i64 0, .int .i64 0]) rfl (by kernel_rfl) (by kernel_rfl) (by kernel_rfl) (fun _ _ _ h => h) (Or.inl ⟨by kernel_rfl, fun W => by go_simp⟩) ?_
                  exact wpAny_swap hS8_11_13 (by kernel_rfl)
                refine wpAny_ready (rs := [13]) (by kernel_rfl) (by simp) (AllReady.cons rfl (fun K hK => ?_) AllReady.nil)
                go_simp
                refine hK _ _ ?_
                clear hK K
                refine wpAny_take (i := 14) (v := .agg #[.string key, .string x.p.val, .bool false, .int .u64 0, .int .i64 0, .int .i64 0]) rfl (by kernel_rfl) (by kernel_rfl) (by kernel_rfl) (fun _ _ _ h => h) (Or.inl ⟨by kernel_rfl, fun W => by go_simp⟩) ?_
                exact hS6_8_11_13
                refine wpAny_ready (rs := [11]) (by kernel_rfl) (by simp) (AllReady.cons rfl (fun K hK => ?_) AllReady.nil)
                go_simp
                refine hK _ _ ?_
                clear hK K
                refine wpAny_take (i := 14) (v := .agg #[.string key, .string x.p.val, .bool false, .int .u64 0, .int .i64 0, .int .i64 0]) rfl (by kernel_rfl) (by kernel_rfl) (by kernel_rfl) (fun _ _ _ h => h) (Or.inl ⟨by kernel_rfl, fun W => by go_simp⟩) ?_
                exact wpAny_swap hS6_8_11_13 (by kernel_rfl)
                refine wpAny_ready (rs := [6, 15]) (by kernel_rfl) (by simp) (AllReady.cons rfl (fun K hK => ?_) (AllReady.cons rfl (fun K hK => ?_) AllReady.nil))
                · go_simp
                  refine hK _ _ ?_
                  clear hK K
                  exact wpAny_swap hS6_8_11_13 (by kernel_rfl)
                · go_simp
                  refine hK _ _ ?_
                  clear hK K
                  exact hS8_11_13_15
                refine wpAny_ready (rs := [15]) (by kernel_rfl) (by simp) (AllReady.cons rfl (fun K hK => ?_) AllReady.nil)
                go_simp
                refine hK _ _ ?_
                clear hK K
                exact hS6_8_11_13_15
                refine wpAny_ready (rs := [6]) (by kernel_rfl) (by simp) (AllReady.cons rfl (fun K hK => ?_) AllReady.nil)
                go_simp
                refine hK _ _ ?_
                clear hK K
                exact wpAny_swap hS6_8_11_13_15 (by kernel_rfl)
                refine wpAny_ready (rs := [16]) (by kernel_rfl) (by simp) (AllReady.cons rfl (fun K hK => ?_) AllReady.nil)
                refine step_append_cells _ (by rfl) _ _ 43 (by rfl) W7.heap.size 35 i3 (.agg #[.string ⟨#[]⟩, .string ⟨#[]⟩, .bool false, .int .u64 0, .int .i64 0, .int .i64 0]) 6 64 Try.underlying43 hi3 hx0 hx1 hx2 (by rfl) (by omega) _ _ _ (by rfl) (own_on HROWQ.out (by repeat (first | exact own_refl _ | apply own_alloc | apply own_drew))) _ 1 _ [.string key, .string x.p.val, .bool false, .int .u64 0, .int .i64 0, .int .i64 0] (by rfl) rfl (Cells.new_at _ #[.string key, .string x.p.val, .bool false, .int .u64 0, .int .i64 0, .int .i64 0] 35 _ (by simp)) (one_v ⟨key, x.p.val, false, 0, 0, 0⟩) (by unfold maxLen; omega) (by omega) (by simp only [World.size_alloc, World.size_drew]; omega) ?_
                intro D5 cp5 w5 hown5 hgrow5
                have htA : Turns (fun j => (Value.slice D q dc).ownBlock = some j) wq w5 := ((Turns.of_below (S := none') (show Below wq.heap.size wq _ from (by repeat (first | exact own_refl _ | apply own_alloc | apply own_drew)))).weaken (fun _ _ h => h.elim)).grown hgrow5 (fun j _ e => e)
                have hnR : ∀ j, (Value.slice D q dc).ownBlock = some j → W7.heap.size ≤ j := fun j e => (HROWQ.out.lt j e).1
                have hown5O := htA.row HOWNQ.out (fun j e e' => by have e2 : g = j := (by injection e); have := hnR j e'; omega)
                have h7 := (last_cells hown5O hlen).2.2.2.2.2.2.2
                rw [show (lastI s x.p m q R rc D dc).t.wrs.length = q from wrsTo_len hq1] at h7
                have f7 : w5.frozen? ⟨g, k * 8 + 7, none⟩ = false := hown5O.frozenAt _
                refine hK _ _ ?_
                clear hK K
                refine wpAny_take (i := 17) (v := .pointer (some ⟨g, k * 8, none⟩)) rfl (by kernel_rfl) (by kernel_rfl) (by kernel_rfl) (fun _ _ _ h => h) (Or.inl ⟨by kernel_rfl, fun W => by go_simp⟩) ?_
                refine wpAny_take (i := 18) (v := .pointer (some ⟨g, k * 8 + 7, none⟩)) rfl (by kernel_rfl) (by kernel_rfl) (by kernel_rfl) (fun _ _ _ h => h) (Or.inl ⟨by kernel_rfl, fun W => by go_simp⟩) ?_
                refine wpAny_ready (rs := [19]) (by kernel_rfl) (by simp) (AllReady.cons rfl (fun K hK => ?_) AllReady.nil)
                go_simp
                refine hK _ _ ?_
                clear hK K
                refine wpAny_done (by kernel_rfl) ?_ _
                simp only [onlyN]
                go_simp
                go_wp2
                go_roundw
                case rel =>
                  refine ⟨q + 1, D5, cp5, by omega, by omega, by go_num, ?_, ?_, ?_⟩
                  · have h := (hown5O.stored (k * 8 + 7) (.slice D5 (q + 1) cp5)).1
                    rw [← hlen, set_last L _ (lastI s x.p m (q + 1) R rc D5 cp5) 7 _ (by omega) (by unfold TI.cells lastI lastT; rw [show (wrsTo x.p (q + 1)).length = q + 1 from wrsTo_len (by omega)]; rfl)] at h
                    rw [hlen] at h
                    exact h
                  · rw [HST.out]
                    exact ((Turns.refl (one g) w5).set (a := ⟨g, k * 8 + 7, none⟩) (fun _ => rfl) _).row hown5 (fun j e e' => by have h1 := (hown5.lt j e).1; have h2 : j = g := e'; omega)
                  · exact ((HTQ.out.on htA (fun j hj e => by have := hnR j e; omega))).set (a := ⟨g, k * 8 + 7, none⟩) (fun _ => rfl) _
                case measure => simp [intOf]; omega
              · have hqe : wrsTo x.p q = wrsTo x.p 4 := by
                  unfold wrsTo
                  congr 1
                  rcases Nat.lt_or_ge q 4 with c | c
                  · have : q = x.p.keys.length := by omega
                    rw [List.take_of_length_le (by omega), List.take_of_length_le (by omega)]
                  · have : q = 4 := by omega
                    rw [this]
                have HQ := Lib.hid hqe
                clear hqe
                have k1 : (0 : Int) ≤ (k : Int) := by omega
                have k2 : (k : Int) < ((k + 1 : Nat) : Int) := by omega
                have k3 : (k : Int) < (k : Int) + 1 := by omega
                by_cases hlq : q < x.p.keys.length
                · have hd : decide ((q : Int) < 4) = false := by simp; omega
                  obtain ⟨-, -, b2, b3, b4, b5, -, b7⟩ := last_cells hownq hlen
                  rw [show (lastI s x.p m q R rc D dc).t.wrs.length = q from wrsTo_len hq1] at b7
                  have fz : ∀ j, wq.frozen? ⟨g, j, none⟩ = false := fun j => hownq.frozenAt _
                  have fz2 := fz (k * 8 + 2)
                  have fz3 := fz (k * 8 + 3)
                  have fz4 := fz (k * 8 + 4)
                  have fz5 := fz (k * 8 + 5)
                  have HOWNQ := Lib.hid hownq
                  have HROWQ := Lib.hid hrowq
                  have HTQ := Lib.hid htq
                  clear hownq hrowq htq fz
                  by_cases hq0 : q = 0
                  · exfalso; omega
                  · have hq0' : ((q : Int) == 0) = false := by simp; omega
                    have hw0 : ¬ (wrsTo x.p 4).length = 0 := by rw [← HQ.out, wrsTo_len hq1]; exact hq0
                    have HW0 := Lib.hid hw0
                    clear hw0
                    go_wp2
                    go_roundw
                    case rel =>
                      obtain ⟨WZ, hWZ⟩ : ∃ WZ, WZ = ((wq.setCell ⟨g, k * 8 + 3, none⟩ (.int .u64 (nw + 1))).setCell ⟨g, k * 8 + 4, none⟩ (.int .i64 1)).setCell ⟨g, k * 8 + 5, none⟩ (.int .i64 k) := ⟨_, rfl⟩
                      rw [← hWZ]
                      have hownZ : WZ.ownsRow w.heap.size 45 8 (.slice (some ⟨g, 0, none⟩) (k + 1) cp6) (k + 1) (flatTI (L ++ [⟨txOf s x.p, R, rc, D, dc⟩])) := by
                        have h := (((HOWNQ.out.stored (k * 8 + 3) (.int .u64 (nw + 1))).1.stored (k * 8 + 4) (.int .i64 1)).1.stored (k * 8 + 5) (.int .i64 k)).1
                        have hkL : s.L.length = k := by rw [← hsL, List.length_map, hlen]
                        have htx : txOf s x.p = { lastT s x.p m q with ts := nw + 1, dc := 1, tx := (k : Int) } := by unfold txOf; rw [if_neg HW0.out, ← HRD.out, ← HQ.out, HNW.out, hkL]; rfl
                        have e1 := set_last L (lastI s x.p m q R rc D dc) ⟨{ lastT s x.p m q with ts := nw + 1 }, R, rc, D, dc⟩ 3 (.int .u64 (nw + 1)) (by omega) rfl
                        have e2 := set_last L ⟨{ lastT s x.p m q with ts := nw + 1 }, R, rc, D, dc⟩ ⟨{ lastT s x.p m q with ts := nw + 1, dc := 1 }, R, rc, D, dc⟩ 4 (.int .i64 1) (by omega) rfl
                        have e3 := set_last L ⟨{ lastT s x.p m q with ts := nw + 1, dc := 1 }, R, rc, D, dc⟩ ⟨txOf s x.p, R, rc, D, dc⟩ 5 (.int .i64 k) (by omega) (by rw [htx]; rfl)
                        rw [hlen] at e1 e2 e3
                        rw [e1, e2, e3] at h
                        rw [hWZ]
                        exact h
                      have htZ : Turns (one g) W7 WZ := by rw [hWZ]; exact ((HTQ.out.set (a := ⟨g, k * 8 + 3, none⟩) (fun _ => rfl) _).set (a := ⟨g, k * 8 + 4, none⟩) (fun _ => rfl) _).set (a := ⟨g, k * 8 + 5, none⟩) (fun _ => rfl) _
                      have hrowZ : WZ.ownsRow W7.heap.size 35 6 (.slice D q dc) q (flatV (wrsTo x.p q)) := by rw [hWZ]; exact ((((Turns.refl (one g) wq).set (a := ⟨g, k * 8 + 3, none⟩) (fun _ => rfl) _).set (a := ⟨g, k * 8 + 4, none⟩) (fun _ => rfl) _).set (a := ⟨g, k * 8 + 5, none⟩) (fun _ => rfl) _).row HROWQ.out (fun j e e' => by have h1 := (HROWQ.out.lt j e).1; have h2 : j = g := e'; omega)
                      have hW6w : Turns (one g) W6 WZ := HTU7.out.trans htZ
                      have hfin : IM w WZ w.heap.size (some ⟨g, 0, none⟩) (k + 1) cp6 (L ++ [⟨txOf s x.p, R, rc, D, dc⟩]) (stepI s x.p) := by
                        refine ⟨hownZ, by rw [List.length_append, hlen]; rfl, by rw [List.map_append, hsL]; rfl, ?_, ?_, hW6w.below HBEL.out (fun j e => by have e : j = g := e; omega), ?_, inv_step HINV.out x.p⟩
                        · intro y hy
                          rcases List.mem_append.1 hy with h | h
                          · exact (HROWS.out.turn HOWN6.out hW6w (fun j e => by have e : j = g := e; rw [e]; rfl)) y h
                          · rw [List.mem_singleton.1 h]
                            obtain ⟨c1, c2, c3, c4⟩ := txOf_cl s x.p
                            refine ⟨?_, ?_, ?_, ?_⟩
                            · show WZ.ownsRow w.heap.size _ 8 (.slice R (txOf s x.p).rds.length rc) (txOf s x.p).rds.length (flatRd (txOf s x.p).rds)
                              rw [c3, ← HRD.out, rdsTo_len hm1]
                              exact row_weaken ((htZ.row HROW7.out (fun j e e' => by have h1 := (HROW7.out.lt j e).1; have h2 : j = g := e'; omega))) HBEL.out.size
                            · show WZ.ownsRow w.heap.size _ 6 (.slice D (txOf s x.p).wrs.length dc) (txOf s x.p).wrs.length (flatV (txOf s x.p).wrs)
                              rw [c4, ← HQ.out, wrsTo_len hq1]
                              exact row_weaken hrowZ (by have := HBEL.out.size; have := HTU7.out.size; omega)
                            · show (txOf s x.p).rds.length ≤ 4
                              rw [c3, ← HRD.out, rdsTo_len hm1]; exact hm4
                            · show (txOf s x.p).wrs.length ≤ 4
                              rw [c4, ← HQ.out, wrsTo_len hq1]; exact hq4
                        · show Holds Try.prog 3 33 .i64 .u64 WZ w.heap.size (drop s.O x.p.who ++ [(x.p.who, snapOf s x.p)])
                          rw [HSN.out]
                          exact HSNAP.out.turn hW6w (fun e => row_not_map HOWN6.out HSNAP.out g rfl (by have e : w.heap.size = g := e; omega))
                        · show (drop s.O x.p.who ++ [(x.p.who, snapOf s x.p)]).length ≤ k + 1
                          rw [List.length_append]
                          have h1 := HOL.out
                          have h2 : (drop s.O x.p.who).length ≤ s.O.length := List.length_filter_le _ _
                          simp; omega
                      have hstep : idealTo (l.map SI.p) (k + 1) = stepI s x.p := by rw [idealTo_step HXP.out, HS.out]
                      exact ⟨k + 1, some ⟨g, 0, none⟩, cp6, _, by omega, by omega, by go_num, by rw [hstep]; unfold stepI; simp only; rw [if_neg HW0.out, HNW.out], rfl, by rw [hstep]; exact hfin⟩
                    case measure => simp [intOf]; omega
                · have hd : decide ((q : Int) < (x.p.keys.length : Int)) = false := by simp; omega
                  obtain ⟨-, -, b2, b3, b4, b5, -, b7⟩ := last_cells hownq hlen
                  rw [show (lastI s x.p m q R rc D dc).t.wrs.length = q from wrsTo_len hq1] at b7
                  have fz : ∀ j, wq.frozen? ⟨g, j, none⟩ = false := fun j => hownq.frozenAt _
                  have fz2 := fz (k * 8 + 2)
                  have fz3 := fz (k * 8 + 3)
                  have fz4 := fz (k * 8 + 4)
                  have fz5 := fz (k * 8 + 5)
                  have HOWNQ := Lib.hid hownq
                  have HROWQ := Lib.hid hrowq
                  have HTQ := Lib.hid htq
                  clear hownq hrowq htq fz
                  by_cases hq0 : q = 0
                  · subst hq0
                    have hw0 : (wrsTo x.p 4).length = 0 := by rw [← HQ.out]; rfl
                    have HW0 := Lib.hid hw0
                    clear hw0
                    go_wp2
                    go_roundw
                    case rel =>
                      obtain ⟨WZ, hWZ⟩ : ∃ WZ, WZ = wq.setCell ⟨g, k * 8 + 2, none⟩ (.int .i64 4) := ⟨_, rfl⟩
                      rw [← hWZ]
                      have hownZ : WZ.ownsRow w.heap.size 45 8 (.slice (some ⟨g, 0, none⟩) (k + 1) cp6) (k + 1) (flatTI (L ++ [⟨txOf s x.p, R, rc, D, dc⟩])) := by
                        have h := (HOWNQ.out.stored (k * 8 + 2) (.int .i64 4)).1
                        have htx : txOf s x.p = { lastT s x.p m 0 with st := 4 } := by unfold txOf; rw [if_pos HW0.out, ← HRD.out, ← HQ.out]; rfl
                        rw [← hlen, set_last L _ ⟨txOf s x.p, R, rc, D, dc⟩ 2 _ (by omega) (by rw [htx]; rfl)] at h
                        rw [hWZ, ← hlen]
                        exact h
                      have htZ : Turns (one g) W7 WZ := by rw [hWZ]; exact HTQ.out.set (a := ⟨g, k * 8 + 2, none⟩) (fun _ => rfl) _
                      have hrowZ : WZ.ownsRow W7.heap.size 35 6 (.slice D 0 dc) 0 (flatV (wrsTo x.p 0)) := by rw [hWZ]; exact ((Turns.refl (one g) wq).set (a := ⟨g, k * 8 + 2, none⟩) (fun _ => rfl) _).row HROWQ.out (fun j e e' => by have h1 := (HROWQ.out.lt j e).1; have h2 : j = g := e'; omega)
                      have hW6w : Turns (one g) W6 WZ := HTU7.out.trans htZ
                      have hfin : IM w WZ w.heap.size (some ⟨g, 0, none⟩) (k + 1) cp6 (L ++ [⟨txOf s x.p, R, rc, D, dc⟩]) (stepI s x.p) := by
                        refine ⟨hownZ, by rw [List.length_append, hlen]; rfl, by rw [List.map_append, hsL]; rfl, ?_, ?_, hW6w.below HBEL.out (fun j e => by have e : j = g := e; omega), ?_, inv_step HINV.out x.p⟩
                        · intro y hy
                          rcases List.mem_append.1 hy with h | h
                          · exact (HROWS.out.turn HOWN6.out hW6w (fun j e => by have e : j = g := e; rw [e]; rfl)) y h
                          · rw [List.mem_singleton.1 h]
                            obtain ⟨c1, c2, c3, c4⟩ := txOf_cl s x.p
                            refine ⟨?_, ?_, ?_, ?_⟩
                            · show WZ.ownsRow w.heap.size _ 8 (.slice R (txOf s x.p).rds.length rc) (txOf s x.p).rds.length (flatRd (txOf s x.p).rds)
                              rw [c3, ← HRD.out, rdsTo_len hm1]
                              exact row_weaken ((htZ.row HROW7.out (fun j e e' => by have h1 := (HROW7.out.lt j e).1; have h2 : j = g := e'; omega))) HBEL.out.size
                            · show WZ.ownsRow w.heap.size _ 6 (.slice D (txOf s x.p).wrs.length dc) (txOf s x.p).wrs.length (flatV (txOf s x.p).wrs)
                              rw [c4, ← HQ.out, wrsTo_len hq1]
                              exact row_weaken hrowZ (by have := HBEL.out.size; have := HTU7.out.size; omega)
                            · show (txOf s x.p).rds.length ≤ 4
                              rw [c3, ← HRD.out, rdsTo_len hm1]; exact hm4
                            · show (txOf s x.p).wrs.length ≤ 4
                              rw [c4, ← HQ.out, wrsTo_len hq1]; exact hq4
                        · show Holds Try.prog 3 33 .i64 .u64 WZ w.heap.size (drop s.O x.p.who ++ [(x.p.who, snapOf s x.p)])
                          rw [HSN.out]
                          exact HSNAP.out.turn hW6w (fun e => row_not_map HOWN6.out HSNAP.out g rfl (by have e : w.heap.size = g := e; omega))
                        · show (drop s.O x.p.who ++ [(x.p.who, snapOf s x.p)]).length ≤ k + 1
                          rw [List.length_append]
                          have h1 := HOL.out
                          have h2 : (drop s.O x.p.who).length ≤ s.O.length := List.length_filter_le _ _
                          simp; omega
                      have hstep : idealTo (l.map SI.p) (k + 1) = stepI s x.p := by rw [idealTo_step HXP.out, HS.out]
                      exact ⟨k + 1, some ⟨g, 0, none⟩, cp6, _, by omega, by omega, by go_num, by rw [hstep]; unfold stepI; simp only; rw [if_pos HW0.out, HNW.out], rfl, by rw [hstep]; exact hfin⟩
                    case measure => simp [intOf]; omega
                  · have hq0' : ((q : Int) == 0) = false := by simp; omega
                    have hw0 : ¬ (wrsTo x.p 4).length = 0 := by rw [← HQ.out, wrsTo_len hq1]; exact hq0
                    have HW0 := Lib.hid hw0
                    clear hw0
                    go_wp2
                    go_roundw
                    case rel =>
                      obtain ⟨WZ, hWZ⟩ : ∃ WZ, WZ = ((wq.setCell ⟨g, k * 8 + 3, none⟩ (.int .u64 (nw + 1))).setCell ⟨g, k * 8 + 4, none⟩ (.int .i64 1)).setCell ⟨g, k * 8 + 5, none⟩ (.int .i64 k) := ⟨_, rfl⟩
                      rw [← hWZ]
                      have hownZ : WZ.ownsRow w.heap.size 45 8 (.slice (some ⟨g, 0, none⟩) (k + 1) cp6) (k + 1) (flatTI (L ++ [⟨txOf s x.p, R, rc, D, dc⟩])) := by
                        have h := (((HOWNQ.out.stored (k * 8 + 3) (.int .u64 (nw + 1))).1.stored (k * 8 + 4) (.int .i64 1)).1.stored (k * 8 + 5) (.int .i64 k)).1
                        have hkL : s.L.length = k := by rw [← hsL, List.length_map, hlen]
                        have htx : txOf s x.p = { lastT s x.p m q with ts := nw + 1, dc := 1, tx := (k : Int) } := by unfold txOf; rw [if_neg HW0.out, ← HRD.out, ← HQ.out, HNW.out, hkL]; rfl
                        have e1 := set_last L (lastI s x.p m q R rc D dc) ⟨{ lastT s x.p m q with ts := nw + 1 }, R, rc, D, dc⟩ 3 (.int .u64 (nw + 1)) (by omega) rfl
                        have e2 := set_last L ⟨{ lastT s x.p m q with ts := nw + 1 }, R, rc, D, dc⟩ ⟨{ lastT s x.p m q with ts := nw + 1, dc := 1 }, R, rc, D, dc⟩ 4 (.int .i64 1) (by omega) rfl
                        have e3 := set_last L ⟨{ lastT s x.p m q with ts := nw + 1, dc := 1 }, R, rc, D, dc⟩ ⟨txOf s x.p, R, rc, D, dc⟩ 5 (.int .i64 k) (by omega) (by rw [htx]; rfl)
                        rw [hlen] at e1 e2 e3
                        rw [e1, e2, e3] at h
                        rw [hWZ]
                        exact h
                      have htZ : Turns (one g) W7 WZ := by rw [hWZ]; exact ((HTQ.out.set (a := ⟨g, k * 8 + 3, none⟩) (fun _ => rfl) _).set (a := ⟨g, k * 8 + 4, none⟩) (fun _ => rfl) _).set (a := ⟨g, k * 8 + 5, none⟩) (fun _ => rfl) _
                      have hrowZ : WZ.ownsRow W7.heap.size 35 6 (.slice D q dc) q (flatV (wrsTo x.p q)) := by rw [hWZ]; exact ((((Turns.refl (one g) wq).set (a := ⟨g, k * 8 + 3, none⟩) (fun _ => rfl) _).set (a := ⟨g, k * 8 + 4, none⟩) (fun _ => rfl) _).set (a := ⟨g, k * 8 + 5, none⟩) (fun _ => rfl) _).row HROWQ.out (fun j e e' => by have h1 := (HROWQ.out.lt j e).1; have h2 : j = g := e'; omega)
                      have hW6w : Turns (one g) W6 WZ := HTU7.out.trans htZ
                      have hfin : IM w WZ w.heap.size (some ⟨g, 0, none⟩) (k + 1) cp6 (L ++ [⟨txOf s x.p, R, rc, D, dc⟩]) (stepI s x.p) := by
                        refine ⟨hownZ, by rw [List.length_append, hlen]; rfl, by rw [List.map_append, hsL]; rfl, ?_, ?_, hW6w.below HBEL.out (fun j e => by have e : j = g := e; omega), ?_, inv_step HINV.out x.p⟩
                        · intro y hy
                          rcases List.mem_append.1 hy with h | h
                          · exact (HROWS.out.turn HOWN6.out hW6w (fun j e => by have e : j = g := e; rw [e]; rfl)) y h
                          · rw [List.mem_singleton.1 h]
                            obtain ⟨c1, c2, c3, c4⟩ := txOf_cl s x.p
                            refine ⟨?_, ?_, ?_, ?_⟩
                            · show WZ.ownsRow w.heap.size _ 8 (.slice R (txOf s x.p).rds.length rc) (txOf s x.p).rds.length (flatRd (txOf s x.p).rds)
                              rw [c3, ← HRD.out, rdsTo_len hm1]
                              exact row_weaken ((htZ.row HROW7.out (fun j e e' => by have h1 := (HROW7.out.lt j e).1; have h2 : j = g := e'; omega))) HBEL.out.size
                            · show WZ.ownsRow w.heap.size _ 6 (.slice D (txOf s x.p).wrs.length dc) (txOf s x.p).wrs.length (flatV (txOf s x.p).wrs)
                              rw [c4, ← HQ.out, wrsTo_len hq1]
                              exact row_weaken hrowZ (by have := HBEL.out.size; have := HTU7.out.size; omega)
                            · show (txOf s x.p).rds.length ≤ 4
                              rw [c3, ← HRD.out, rdsTo_len hm1]; exact hm4
                            · show (txOf s x.p).wrs.length ≤ 4
                              rw [c4, ← HQ.out, wrsTo_len hq1]; exact hq4
                        · show Holds Try.prog 3 33 .i64 .u64 WZ w.heap.size (drop s.O x.p.who ++ [(x.p.who, snapOf s x.p)])
                          rw [HSN.out]
                          exact HSNAP.out.turn hW6w (fun e => row_not_map HOWN6.out HSNAP.out g rfl (by have e : w.heap.size = g := e; omega))
                        · show (drop s.O x.p.who ++ [(x.p.who, snapOf s x.p)]).length ≤ k + 1
                          rw [List.length_append]
                          have h1 := HOL.out
                          have h2 : (drop s.O x.p.who).length ≤ s.O.length := List.length_filter_le _ _
                          simp; omega
                      have hstep : idealTo (l.map SI.p) (k + 1) = stepI s x.p := by rw [idealTo_step HXP.out, HS.out]
                      exact ⟨k + 1, some ⟨g, 0, none⟩, cp6, _, by omega, by omega, by go_num, by rw [hstep]; unfold stepI; simp only; rw [if_neg HW0.out, HNW.out], rfl, by rw [hstep]; exact hfin⟩
                    case measure => simp [intOf]; omega
          · have hd : decide ((m : Int) < (x.p.reads.length : Int)) = false := by simp; omega
            have hROW7 := hrow
            have hTU7 := htu
            obtain ⟨W7, hW7⟩ : ∃ W7, W7 = wq := ⟨_, rfl⟩
            rw [← hW7] at hown hROW7 hTU7
            have HROW7 := Lib.hid hROW7
            have HTU7 := Lib.hid hTU7
            have h67 : W6.heap.size ≤ W7.heap.size := hTU7.size
            have hgW7 : g < W7.heap.size := by omega
            go_wp2
            clear u0 u1 u2 u3 u4 hrow htu hROW7 hTU7 hbq htsz
            go_loopw [14] (fun q wr => ∃ (q' : Nat) (D : Option Addr) (dc : Nat), q' ≤ x.p.keys.length ∧ q' ≤ 4 ∧ q = .int .i64 q' ∧ wr.ownsRow w.heap.size 45 8 (.slice (some ⟨g, 0, none⟩) (k + 1) cp6) (k + 1) (flatTI (L ++ [lastI s x.p m q' R rc D dc])) ∧ wr.ownsRow W7.heap.size 35 6 (.slice D q' dc) q' (flatV (wrsTo x.p q')) ∧ Turns (one g) W7 wr) (fun q _ => x.p.keys.length - (intOf q).toNat)
            case atStart => rw [← hW7]; exact ⟨0, none, 0, Nat.zero_le _, Nat.zero_le _, rfl, hown, World.ownsRow_nil _ _ _ _, Turns.refl _ _⟩
            case round =>
              clear hown hW7
              clear wq
              obtain ⟨q, D, dc, hq1, hq4, rfl, hownq, hrowq, htq⟩ := hrel
              obtain ⟨wq, rfl⟩ : ∃ w0, w0 = wr := ⟨_, rfl⟩
              have ht6 : Turns (one g) W6 wq := HTU7.out.trans htq
              have hbq : Below w.heap.size w wq := ht6.below HBEL.out (fun j e => by have e : j = g := e; omega)
              obtain ⟨u0, u1, u2, u3, u4⟩ := (HBSX.out.turn ht6 (fun e => hgg e)).c
              have htsz := htq.size
              by_cases hlt2 : q < x.p.keys.length ∧ q < 4
              · obtain ⟨hlt2, hlt3⟩ := hlt2
                obtain ⟨key, hkey⟩ : ∃ key, x.p.keys[q]? = some key := ⟨_, List.getElem?_eq_getElem hlt2⟩
                obtain ⟨kb, ko, hKe, k0⟩ := get_str (HXA.out.k.on hbq) hkey
                have HST := Lib.hid (wrsTo_step hkey)
                rw [hKe] at u3
                rw [hKe]
                have HKE := Lib.hid hKe
                clear hKe hkey
                have m0 : (0 : Int) ≤ (q : Int) := by omega
                have m1 : (q : Int) < (x.p.keys.length : Int) := by omega
                have m2 : (q : Int) < 4 := by omega
                have k1 : (0 : Int) ≤ (k : Int) := by omega
                have k2 : (k : Int) < ((k + 1 : Nat) : Int) := by omega
                have k3 : (k : Int) < (k : Int) + 1 := by omega
                have c7 : wq.cell? ⟨g, k * 8 + 7, none⟩ = some (.slice D q dc) := by
                  obtain ⟨-, -, -, -, -, -, -, h7⟩ := last_cells hownq hlen
                  rw [show (lastI s x.p m q R rc D dc).t.wrs.length = q from wrsTo_len hq1] at h7
                  exact h7
                have HOWNQ := Lib.hid hownq
                have HROWQ := Lib.hid hrowq
                have HTQ := Lib.hid htq
                have hgW : g < wq.heap.size := by omega
                have hgSW : gS < wq.heap.size := World.block_lt_of_cell? _ _ u3
                have hkbW : kb < wq.heap.size := World.block_lt_of_cell? _ _ k0
                clear hownq hrowq htq ht6 hbq
                go_wp2_with fail
                refine region_plain (N := 20) rfl (by kernel_rfl) ?_
                refine wpAny_take (i := 0) (v := .slice (some ⟨g, 0, none⟩) (k + 1) cp6) rfl (by kernel_rfl) (by kernel_rfl) (by kernel_rfl) (fun _ _ _ h => h) (Or.inl ⟨by kernel_rfl, fun W => by go_simp⟩) ?_
                refine wpAny_take (i := 1) (v := .int .i64 k) rfl (by kernel_rfl) (by kernel_rfl) (by kernel_rfl) (fun _ _ _ h => h) (Or.inl ⟨by kernel_rfl, fun W => by go_simp⟩) ?_
                refine wpAny_take (i := 2) (v := .slice (some ⟨g, 0, none⟩) (k + 1) cp6) rfl (by kernel_rfl) (by kernel_rfl) (by kernel_rfl) (fun _ _ _ h => h) (Or.inl ⟨by kernel_rfl, fun W => by go_simp⟩) ?_
                refine wpAny_take (i := 3) (v := .int .i64 k) rfl (by kernel_rfl) (by kernel_rfl) (by kernel_rfl) (fun _ _ _ h => h) (Or.inl ⟨by kernel_rfl, fun W => by go_simp⟩) ?_
                refine wpAny_take (i := 4) (v := .pointer (some ⟨g, k * 8, none⟩)) rfl (by kernel_rfl) (by kernel_rfl) (by kernel_rfl) (fun _ _ _ h => h) (Or.inl ⟨by kernel_rfl, fun W => by go_simp⟩) ?_
                refine wpAny_take (i := 5) (v := .pointer (some ⟨g, k * 8 + 7, none⟩)) rfl (by kernel_rfl) (by kernel_rfl) (by kernel_rfl) (fun _ _ _ h => h) (Or.inl ⟨by kernel_rfl, fun W => by go_simp⟩) ?_
                refine wpAny_take (i := 7) (v := .pointer (some ⟨gS, 3, none⟩)) rfl (by kernel_rfl) (by kernel_rfl) (by kernel_rfl) (fun _ _ _ h => h) (Or.inl ⟨by kernel_rfl, fun W => by go_simp⟩) ?_
                refine wpAny_take (i := 9) (v := .int .i64 q) rfl (by kernel_rfl) (by kernel_rfl) (by kernel_rfl) (fun _ _ _ h => h) (Or.inl ⟨by kernel_rfl, fun W => by go_simp⟩) ?_
                refine wpAny_take (i := 12) (v := .pointer (some ⟨gS, 4, none⟩)) rfl (by kernel_rfl) (by kernel_rfl) (by kernel_rfl) (fun _ _ _ h => h) (Or.inl ⟨by kernel_rfl, fun W => by go_simp⟩) ?_
                apply cut2
                intro hS6_8_11_13_15
                apply cut2
                intro hS8_11_13_15
                apply cut2
                intro hS6_8_11_13
                apply cut2
                intro hS8_11_13
                apply cut2
                intro hS6_8_13
                apply cut2
                intro hS6_8_11
                apply cut2
                intro hS8_13
                apply cut2
                intro hS8_11
                apply cut2
                intro hS6_13
                apply cut2
                intro hS6_8
                apply cut2
                intro hS13
                apply cut2
                intro hS8
                apply cut2
                intro hS6
                refine wpAny_ready (rs := [6, 8, 13]) (by kernel_rfl) (by simp) (AllReady.cons rfl (fun K hK => ?_) (AllReady.cons rfl (fun K hK => ?_) (AllReady.cons rfl (fun K hK => ?_) AllReady.nil)))
                · go_simp
                  refine hK _ _ ?_
                  clear hK K
                  exact hS6
                · go_simp
                  refine hK _ _ ?_
                  clear hK K
                  refine wpAny_take (i := 10) (v := .pointer (some ⟨kb, ko + q, none⟩)) rfl (by kernel_rfl) (by kernel_rfl) (by kernel_rfl) (fun _ _ _ h => h) (Or.inl ⟨by kernel_rfl, fun W => by go_simp⟩) ?_
                  exact hS8
                · go_simp
                  refine hK _ _ ?_
                  clear hK K
                  exact hS13
                refine wpAny_ready (rs := [8, 13]) (by kernel_rfl) (by simp) (AllReady.cons rfl (fun K hK => ?_) (AllReady.cons rfl (fun K hK => ?_) AllReady.nil))
                · go_simp
                  refine hK _ _ ?_
                  clear hK K
                  refine wpAny_take (i := 10) (v := .pointer (some ⟨kb, ko + q, none⟩)) rfl (by kernel_rfl) (by kernel_rfl) (by kernel_rfl) (fun _ _ _ h => h) (Or.inl ⟨by kernel_rfl, fun W => by go_simp⟩) ?_
                  exact hS6_8
                · go_simp
                  refine hK _ _ ?_
                  clear hK K
                  exact hS6_13
                refine wpAny_ready (rs := [6, 11, 13]) (by kernel_rfl) (by simp) (AllReady.cons rfl (fun K hK => ?_) (AllReady.cons rfl (fun K hK => ?_) (AllReady.cons rfl (fun K hK => ?_) AllReady.nil)))
                · go_simp
                  refine hK _ _ ?_
                  clear hK K
                  exact wpAny_swap hS6_8 (by kernel_rfl)
                · go_simp
                  refine hK _ _ ?_
                  clear hK K
                  exact hS8_11
                · go_simp
                  refine hK _ _ ?_
                  clear hK K
                  exact hS8_13
                refine wpAny_ready (rs := [6, 8]) (by kernel_rfl) (by simp) (AllReady.cons rfl (fun K hK => ?_) (AllReady.cons rfl (fun K hK => ?_) AllReady.nil))
                · go_simp
                  refine hK _ _ ?_
                  clear hK K
                  exact wpAny_swap hS6_13 (by kernel_rfl)
                · go_simp
                  refine hK _ _ ?_
                  clear hK K
                  refine wpAny_take (i := 10) (v := .pointer (some ⟨kb, ko + q, none⟩)) rfl (by kernel_rfl) (by kernel_rfl) (by kernel_rfl) (fun _ _ _ h => h) (Or.inl ⟨by kernel_rfl, fun W => by go_simp⟩) ?_
                  exact wpAny_swap hS8_13 (by kernel_rfl)
                refine wpAny_ready (rs := [11, 13]) (by kernel_rfl) (by simp) (AllReady.cons rfl (fun K hK => ?_) (AllReady.cons rfl (fun K hK => ?_) AllReady.nil))
                · go_simp
                  refine hK _ _ ?_
                  clear hK K
                  exact hS6_8_11
                · go_simp
                  refine hK _ _ ?_
                  clear hK K
                  exact hS6_8_13
                refine wpAny_ready (rs := [8]) (by kernel_rfl) (by simp) (AllReady.cons rfl (fun K hK => ?_) AllReady.nil)
                go_simp
                refine hK _ _ ?_
                clear hK K
                refine wpAny_take (i := 10) (v := .pointer (some ⟨kb, ko + q, none⟩)) rfl (by kernel_rfl) (by kernel_rfl) (by kernel_rfl) (fun _ _ _ h => h) (Or.inl ⟨by kernel_rfl, fun W => by go_simp⟩) ?_
                exact wpAny_swap hS6_8_13 (by kernel_rfl)
                refine wpAny_ready (rs := [6, 13]) (by kernel_rfl) (by simp) (AllReady.cons rfl (fun K hK => ?_) (AllReady.cons rfl (fun K hK => ?_) AllReady.nil))
                · go_simp
                  refine hK _ _ ?_
                  clear hK K
                  exact wpAny_swap hS6_8_11 (by kernel_rfl)
                · go_simp
                  refine hK _ _ ?_
                  clear hK K
                  refine wpAny_take (i := 14) (v := .agg #[.string key, .string x.p.val, .bool false, .int .u64 0, .int .i64 0, .int .i64 0]) rfl (by kernel_rfl) (by kernel_rfl) (by kernel_rfl) (fun _ _ _ h => h) (Or.inl ⟨by kernel_rfl, fun W => by go_simp⟩) ?_
                  exact hS8_11_13
                refine wpAny_ready (rs := [6, 11]) (by kernel_rfl) (by simp) (AllReady.cons rfl (fun K hK => ?_) (AllReady.cons rfl (fun K hK => ?_) AllReady.nil))
                · go_simp
                  refine hK _ _ ?_
                  clear hK K
                  exact wpAny_swap hS6_8_13 (by kernel_rfl)
                · go_simp
                  refine hK _ _ ?_
                  clear hK K
                  refine wpAny_take (i := 14) (v := .agg #[.string key, .string x.p.val, .bool false, .int .u64 0, .int .i64 0, .int .i64 0]) rfl (by kernel_rfl) (by kernel_rfl) (by kernel_rfl) (fun _ _ _ h => h) (Or.inl ⟨by kernel_rfl, fun W => by go_simp⟩) ?_
                  exact wpAny_swap hS8_11_13 (by kernel_rfl)
                refine wpAny_ready (rs := [13]) (by kernel_rfl) (by simp) (AllReady.cons rfl (fun K hK => ?_) AllReady.nil)
                go_simp
                refine hK _ _ ?_
                clear hK K
                refine wpAny_take (i := 14) (v := .agg #[.string key, .string x.p.val, .bool false, .int .u64 0, .int .i64 0, .int .i64 0]) rfl (by kernel_rfl) (by kernel_rfl) (by kernel_rfl) (fun _ _ _ h => h) (Or.inl ⟨by kernel_rfl, fun W => by go_simp⟩) ?_
                exact hS6_8_11_13
                refine wpAny_ready (rs := [11]) (by kernel_rfl) (by simp) (AllReady.cons rfl (fun K hK => ?_) AllReady.nil)
                go_simp
                refine hK _ _ ?_
                clear hK K
                refine wpAny_take (i := 14) (v := .agg #[.string key, .string x.p.val, .bool false, .int .u64 0, .int .i64 0, .int .i64 0]) rfl (by kernel_rfl) (by kernel_rfl) (by kernel_rfl) (fun _ _ _ h => h) (Or.inl ⟨by kernel_rfl, fun W => by go_simp⟩) ?_
                exact wpAny_swap hS6_8_11_13 (by kernel_rfl)
                refine wpAny_ready (rs := [6, 15]) (by kernel_rfl) (by simp) (AllReady.cons rfl (fun K hK => ?_) (AllReady.cons rfl (fun K hK => ?_) AllReady.nil))
                · go_simp
                  refine hK _ _ ?_
                  clear hK K
                  exact wpAny_swap hS6_8_11_13 (by kernel_rfl)
                · go_simp
                  refine hK _ _ ?_
                  clear hK K
                  exact hS8_11_13_15
                refine wpAny_ready (rs := [15]) (by kernel_rfl) (by simp) (AllReady.cons rfl (fun K hK => ?_) AllReady.nil)
                go_simp
                refine hK _ _ ?_
                clear hK K
                exact hS6_8_11_13_15
                refine wpAny_ready (rs := [6]) (by kernel_rfl) (by simp) (AllReady.cons rfl (fun K hK => ?_) AllReady.nil)
                go_simp
                refine hK _ _ ?_
                clear hK K
                exact wpAny_swap hS6_8_11_13_15 (by kernel_rfl)
                refine wpAny_ready (rs := [16]) (by kernel_rfl) (by simp) (AllReady.cons rfl (fun K hK => ?_) AllReady.nil)
                refine step_append_cells _ (by rfl) _ _ 43 (by rfl) W7.heap.size 35 i3 (.agg #[.string ⟨#[]⟩, .string ⟨#[]⟩, .bool false, .int .u64 0, .int .i64 0, .int .i64 0]) 6 64 Try.underlying43 hi3 hx0 hx1 hx2 (by rfl) (by omega) _ _ _ (by rfl) (own_on HROWQ.out (by repeat (first | exact own_refl _ | apply own_alloc | apply own_drew))) _ 1 _ [.string key, .string x.p.val, .bool false, .int .u64 0, .int .i64 0, .int .i64 0] (by rfl) rfl (Cells.new_at _ #[.string key, .string x.p.val, .bool false, .int .u64 0, .int .i64 0, .int .i64 0] 35 _ (by simp)) (one_v ⟨key, x.p.val, false, 0, 0, 0⟩) (by unfold maxLen; omega) (by omega) (by simp only [World.size_alloc, World.size_drew]; omega) ?_
                intro D5 cp5 w5 hown5 hgrow5
                have htA : Turns (fun j => (Value.slice D q dc).ownBlock = some j) wq w5 := ((Turns.of_below (S := none') (show Below wq.heap.size wq _ from (by repeat (first | exact own_refl _ | apply own_alloc | apply own_drew)))).weaken (fun _ _ h => h.elim)).grown hgrow5 (fun j _ e => e)
                have hnR : ∀ j, (Value.slice D q dc).ownBlock = some j → W7.heap.size ≤ j := fun j e => (HROWQ.out.lt j e).1
                have hown5O := htA.row HOWNQ.out (fun j e e' => by have e2 : g = j := (by injection e); have := hnR j e'; omega)
                have h7 := (last_cells hown5O hlen).2.2.2.2.2.2.2
                rw [show (lastI s x.p m q R rc D dc).t.wrs.length = q from wrsTo_len hq1] at h7
                have f7 : w5.frozen? ⟨g, k * 8 + 7, none⟩ = false := hown5O.frozenAt _
                refine hK _ _ ?_
                clear hK K
                refine wpAny_take (i := 17) (v := .pointer (some ⟨g, k * 8, none⟩)) rfl (by kernel_rfl) (by kernel_rfl) (by kernel_rfl) (fun _ _ _ h => h) (Or.inl ⟨by kernel_rfl, fun W => by go_simp⟩) ?_
                refine wpAny_take (i := 18) (v := .pointer (some ⟨g, k * 8 + 7, none⟩)) rfl (by kernel_rfl) (by kernel_rfl) (by kernel_rfl) (fun _ _ _ h => h) (Or.inl ⟨by kernel_rfl, fun W => by go_simp⟩) ?_
                refine wpAny_ready (rs := [19]) (by kernel_rfl) (by simp) (AllReady.cons rfl (fun K hK => ?_) AllReady.nil)
                go_simp
                refine hK _ _ ?_
                clear hK K
                refine wpAny_done (by kernel_rfl) ?_ _
                simp only [onlyN]
                go_simp
                go_wp2
                go_roundw
                case rel =>
                  refine ⟨q + 1, D5, cp5, by omega, by omega, by go_num, ?_, ?_, ?_⟩
                  · have h := (hown5O.stored (k * 8 + 7) (.slice D5 (q + 1) cp5)).1
                    rw [← hlen, set_last L _ (lastI s x.p m (q + 1) R rc D5 cp5) 7 _ (by omega) (by unfold TI.cells lastI lastT; rw [show (wrsTo x.p (q + 1)).length = q + 1 from wrsTo_len (by omega)]; rfl)] at h
                    rw [hlen] at h
                    exact h
                  · rw [HST.out]
                    exact ((Turns.refl (one g) w5).set (a := ⟨g, k * 8 + 7, none⟩) (fun _ => rfl) _).row hown5 (fun j e e' => by have h1 := (hown5.lt j e).1; have h2 : j = g := e'; omega)
                  · exact ((HTQ.out.on htA (fun j hj e => by have := hnR j e; omega))).set (a := ⟨g, k * 8 + 7, none⟩) (fun _ => rfl) _
                case measure => simp [intOf]; omega
              · have hqe : wrsTo x.p q = wrsTo x.p 4 := by
                  unfold wrsTo
                  congr 1
                  rcases Nat.lt_or_ge q 4 with c | c
                  · have : q = x.p.keys.length := by omega
                    rw [List.take_of_length_le (by omega), List.take_of_length_le (by omega)]
                  · have : q = 4 := by omega
                    rw [this]
                have HQ := Lib.hid hqe
                clear hqe
                have k1 : (0 : Int) ≤ (k : Int) := by omega
                have k2 : (k : Int) < ((k + 1 : Nat) : Int) := by omega
                have k3 : (k : Int) < (k : Int) + 1 := by omega
                by_cases hlq : q < x.p.keys.length
                · have hd : decide ((q : Int) < 4) = false := by simp; omega
                  obtain ⟨-, -, b2, b3, b4, b5, -, b7⟩ := last_cells hownq hlen
                  rw [show (lastI s x.p m q R rc D dc).t.wrs.length = q from wrsTo_len hq1] at b7
                  have fz : ∀ j, wq.frozen? ⟨g, j, none⟩ = false := fun j => hownq.frozenAt _
                  have fz2 := fz (k * 8 + 2)
                  have fz3 := fz (k * 8 + 3)
                  have fz4 := fz (k * 8 + 4)
                  have fz5 := fz (k * 8 + 5)
                  have HOWNQ := Lib.hid hownq
                  have HROWQ := Lib.hid hrowq
                  have HTQ := Lib.hid htq
                  clear hownq hrowq htq fz
                  by_cases hq0 : q = 0
                  · exfalso; omega
                  · have hq0' : ((q : Int) == 0) = false := by simp; omega
                    have hw0 : ¬ (wrsTo x.p 4).length = 0 := by rw [← HQ.out, wrsTo_len hq1]; exact hq0
                    have HW0 := Lib.hid hw0
                    clear hw0
                    go_wp2
                    go_roundw
                    case rel =>
                      obtain ⟨WZ, hWZ⟩ : ∃ WZ, WZ = ((wq.setCell ⟨g, k * 8 + 3, none⟩ (.int .u64 (nw + 1))).setCell ⟨g, k * 8 + 4, none⟩ (.int .i64 1)).setCell ⟨g, k * 8 + 5, none⟩ (.int .i64 k) := ⟨_, rfl⟩
                      rw [← hWZ]
                      have hownZ : WZ.ownsRow w.heap.size 45 8 (.slice (some ⟨g, 0, none⟩) (k + 1) cp6) (k + 1) (flatTI (L ++ [⟨txOf s x.p, R, rc, D, dc⟩])) := by
                        have h := (((HOWNQ.out.stored (k * 8 + 3) (.int .u64 (nw + 1))).1.stored (k * 8 + 4) (.int .i64 1)).1.stored (k * 8 + 5) (.int .i64 k)).1
                        have hkL : s.L.length = k := by rw [← hsL, List.length_map, hlen]
                        have htx : txOf s x.p = { lastT s x.p m q with ts := nw + 1, dc := 1, tx := (k : Int) } := by unfold txOf; rw [if_neg HW0.out, ← HRD.out, ← HQ.out, HNW.out, hkL]; rfl
                        have e1 := set_last L (lastI s x.p m q R rc D dc) ⟨{ lastT s x.p m q with ts := nw + 1 }, R, rc, D, dc⟩ 3 (.int .u64 (nw + 1)) (by omega) rfl
                        have e2 := set_last L ⟨{ lastT s x.p m q with ts := nw + 1 }, R, rc, D, dc⟩ ⟨{ lastT s x.p m q with ts := nw + 1, dc := 1 }, R, rc, D, dc⟩ 4 (.int .i64 1) (by omega) rfl
                        have e3 := set_last L ⟨{ lastT s x.p m q with ts := nw + 1, dc := 1 }, R, rc, D, dc⟩ ⟨txOf s x.p, R, rc, D, dc⟩ 5 (.int .i64 k) (by omega) (by rw [htx]; rfl)
                        rw [hlen] at e1 e2 e3
                        rw [e1, e2, e3] at h
                        rw [hWZ]
                        exact h
                      have htZ : Turns (one g) W7 WZ := by rw [hWZ]; exact ((HTQ.out.set (a := ⟨g, k * 8 + 3, none⟩) (fun _ => rfl) _).set (a := ⟨g, k * 8 + 4, none⟩) (fun _ => rfl) _).set (a := ⟨g, k * 8 + 5, none⟩) (fun _ => rfl) _
                      have hrowZ : WZ.ownsRow W7.heap.size 35 6 (.slice D q dc) q (flatV (wrsTo x.p q)) := by rw [hWZ]; exact ((((Turns.refl (one g) wq).set (a := ⟨g, k * 8 + 3, none⟩) (fun _ => rfl) _).set (a := ⟨g, k * 8 + 4, none⟩) (fun _ => rfl) _).set (a := ⟨g, k * 8 + 5, none⟩) (fun _ => rfl) _).row HROWQ.out (fun j e e' => by have h1 := (HROWQ.out.lt j e).1; have h2 : j = g := e'; omega)
                      have hW6w : Turns (one g) W6 WZ := HTU7.out.trans htZ
                      have hfin : IM w WZ w.heap.size (some ⟨g, 0, none⟩) (k + 1) cp6 (L ++ [⟨txOf s x.p, R, rc, D, dc⟩]) (stepI s x.p) := by
                        refine ⟨hownZ, by rw [List.length_append, hlen]; rfl, by rw [List.map_append, hsL]; rfl, ?_, ?_, hW6w.below HBEL.out (fun j e => by have e : j = g := e; omega), ?_, inv_step HINV.out x.p⟩
                        · intro y hy
                          rcases List.mem_append.1 hy with h | h
                          · exact (HROWS.out.turn HOWN6.out hW6w (fun j e => by have e : j = g := e; rw [e]; rfl)) y h
                          · rw [List.mem_singleton.1 h]
                            obtain ⟨c1, c2, c3, c4⟩ := txOf_cl s x.p
                            refine ⟨?_, ?_, ?_, ?_⟩
                            · show WZ.ownsRow w.heap.size _ 8 (.slice R (txOf s x.p).rds.length rc) (txOf s x.p).rds.length (flatRd (txOf s x.p).rds)
                              rw [c3, ← HRD.out, rdsTo_len hm1]
                              exact row_weaken ((htZ.row HROW7.out (fun j e e' => by have h1 := (HROW7.out.lt j e).1; have h2 : j = g := e'; omega))) HBEL.out.size
                            · show WZ.ownsRow w.heap.size _ 6 (.slice D (txOf s x.p).wrs.length dc) (txOf s x.p).wrs.length (flatV (txOf s x.p).wrs)
                              rw [c4, ← HQ.out, wrsTo_len hq1]
                              exact row_weaken hrowZ (by have := HBEL.out.size; have := HTU7.out.size; omega)
                            · show (txOf s x.p).rds.length ≤ 4
                              rw [c3, ← HRD.out, rdsTo_len hm1]; exact hm4
                            · show (txOf s x.p).wrs.length ≤ 4
                              rw [c4, ← HQ.out, wrsTo_len hq1]; exact hq4
                        · show Holds Try.prog 3 33 .i64 .u64 WZ w.heap.size (drop s.O x.p.who ++ [(x.p.who, snapOf s x.p)])
                          rw [HSN.out]
                          exact HSNAP.out.turn hW6w (fun e => row_not_map HOWN6.out HSNAP.out g rfl (by have e : w.heap.size = g := e; omega))
                        · show (drop s.O x.p.who ++ [(x.p.who, snapOf s x.p)]).length ≤ k + 1
                          rw [List.length_append]
                          have h1 := HOL.out
                          have h2 : (drop s.O x.p.who).length ≤ s.O.length := List.length_filter_le _ _
                          simp; omega
                      have hstep : idealTo (l.map SI.p) (k + 1) = stepI s x.p := by rw [idealTo_step HXP.out, HS.out]
                      exact ⟨k + 1, some ⟨g, 0, none⟩, cp6, _, by omega, by omega, by go_num, by rw [hstep]; unfold stepI; simp only; rw [if_neg HW0.out, HNW.out], rfl, by rw [hstep]; exact hfin⟩
                    case measure => simp [intOf]; omega
                · have hd : decide ((q : Int) < (x.p.keys.length : Int)) = false := by simp; omega
                  obtain ⟨-, -, b2, b3, b4, b5, -, b7⟩ := last_cells hownq hlen
                  rw [show (lastI s x.p m q R rc D dc).t.wrs.length = q from wrsTo_len hq1] at b7
                  have fz : ∀ j, wq.frozen? ⟨g, j, none⟩ = false := fun j => hownq.frozenAt _
                  have fz2 := fz (k * 8 + 2)
                  have fz3 := fz (k * 8 + 3)
                  have fz4 := fz (k * 8 + 4)
                  have fz5 := fz (k * 8 + 5)
                  have HOWNQ := Lib.hid hownq
                  have HROWQ := Lib.hid hrowq
                  have HTQ := Lib.hid htq
                  clear hownq hrowq htq fz
                  by_cases hq0 : q = 0
                  · subst hq0
                    have hw0 : (wrsTo x.p 4).length = 0 := by rw [← HQ.out]; rfl
                    have HW0 := Lib.hid hw0
                    clear hw0
                    go_wp2
                    go_roundw
                    case rel =>
                      obtain ⟨WZ, hWZ⟩ : ∃ WZ, WZ = wq.setCell ⟨g, k * 8 + 2, none⟩ (.int .i64 4) := ⟨_, rfl⟩
                      rw [← hWZ]
                      have hownZ : WZ.ownsRow w.heap.size 45 8 (.slice (some ⟨g, 0, none⟩) (k + 1) cp6) (k + 1) (flatTI (L ++ [⟨txOf s x.p, R, rc, D, dc⟩])) := by
                        have h := (HOWNQ.out.stored (k * 8 + 2) (.int .i64 4)).1
                        have htx : txOf s x.p = { lastT s x.p m 0 with st := 4 } := by unfold txOf; rw [if_pos HW0.out, ← HRD.out, ← HQ.out]; rfl
                        rw [← hlen, set_last L _ ⟨txOf s x.p, R, rc, D, dc⟩ 2 _ (by omega) (by rw [htx]; rfl)] at h
                        rw [hWZ, ← hlen]
                        exact h
                      have htZ : Turns (one g) W7 WZ := by rw [hWZ]; exact HTQ.out.set (a := ⟨g, k * 8 + 2, none⟩) (fun _ => rfl) _
                      have hrowZ : WZ.ownsRow W7.heap.size 35 6 (.slice D 0 dc) 0 (flatV (wrsTo x.p 0)) := by rw [hWZ]; exact ((Turns.refl (one g) wq).set (a := ⟨g, k * 8 + 2, none⟩) (fun _ => rfl) _).row HROWQ.out (fun j e e' => by have h1 := (HROWQ.out.lt j e).1; have h2 : j = g := e'; omega)
                      have hW6w : Turns (one g) W6 WZ := HTU7.out.trans htZ
                      have hfin : IM w WZ w.heap.size (some ⟨g, 0, none⟩) (k + 1) cp6 (L ++ [⟨txOf s x.p, R, rc, D, dc⟩]) (stepI s x.p) := by
                        refine ⟨hownZ, by rw [List.length_append, hlen]; rfl, by rw [List.map_append, hsL]; rfl, ?_, ?_, hW6w.below HBEL.out (fun j e => by have e : j = g := e; omega), ?_, inv_step HINV.out x.p⟩
                        · intro y hy
                          rcases List.mem_append.1 hy with h | h
                          · exact (HROWS.out.turn HOWN6.out hW6w (fun j e => by have e : j = g := e; rw [e]; rfl)) y h
                          · rw [List.mem_singleton.1 h]
                            obtain ⟨c1, c2, c3, c4⟩ := txOf_cl s x.p
                            refine ⟨?_, ?_, ?_, ?_⟩
                            · show WZ.ownsRow w.heap.size _ 8 (.slice R (txOf s x.p).rds.length rc) (txOf s x.p).rds.length (flatRd (txOf s x.p).rds)
                              rw [c3, ← HRD.out, rdsTo_len hm1]
                              exact row_weaken ((htZ.row HROW7.out (fun j e e' => by have h1 := (HROW7.out.lt j e).1; have h2 : j = g := e'; omega))) HBEL.out.size
                            · show WZ.ownsRow w.heap.size _ 6 (.slice D (txOf s x.p).wrs.length dc) (txOf s x.p).wrs.length (flatV (txOf s x.p).wrs)
                              rw [c4, ← HQ.out, wrsTo_len hq1]
                              exact row_weaken hrowZ (by have := HBEL.out.size; have := HTU7.out.size; omega)
                            · show (txOf s x.p).rds.length ≤ 4
                              rw [c3, ← HRD.out, rdsTo_len hm1]; exact hm4
                            · show (txOf s x.p).wrs.length ≤ 4
                              rw [c4, ← HQ.out, wrsTo_len hq1]; exact hq4
                        · show Holds Try.prog 3 33 .i64 .u64 WZ w.heap.size (drop s.O x.p.who ++ [(x.p.who, snapOf s x.p)])
                          rw [HSN.out]
                          exact HSNAP.out.turn hW6w (fun e => row_not_map HOWN6.out HSNAP.out g rfl (by have e : w.heap.size = g := e; omega))
                        · show (drop s.O x.p.who ++ [(x.p.who, snapOf s x.p)]).length ≤ k + 1
                          rw [List.length_append]
                          have h1 := HOL.out
                          have h2 : (drop s.O x.p.who).length ≤ s.O.length := List.length_filter_le _ _
                          simp; omega
                      have hstep : idealTo (l.map SI.p) (k + 1) = stepI s x.p := by rw [idealTo_step HXP.out, HS.out]
                      exact ⟨k + 1, some ⟨g, 0, none⟩, cp6, _, by omega, by omega, by go_num, by rw [hstep]; unfold stepI; simp only; rw [if_pos HW0.out, HNW.out], rfl, by rw [hstep]; exact hfin⟩
                    case measure => simp [intOf]; omega
                  · have hq0' : ((q : Int) == 0) = false := by simp; omega
                    have hw0 : ¬ (wrsTo x.p 4).length = 0 := by rw [← HQ.out, wrsTo_len hq1]; exact hq0
                    have HW0 := Lib.hid hw0
                    clear hw0
                    go_wp2
                    go_roundw
                    case rel =>
                      obtain ⟨WZ, hWZ⟩ : ∃ WZ, WZ = ((wq.setCell ⟨g, k * 8 + 3, none⟩ (.int .u64 (nw + 1))).setCell ⟨g, k * 8 + 4, none⟩ (.int .i64 1)).setCell ⟨g, k * 8 + 5, none⟩ (.int .i64 k) := ⟨_, rfl⟩
                      rw [← hWZ]
                      have hownZ : WZ.ownsRow w.heap.size 45 8 (.slice (some ⟨g, 0, none⟩) (k + 1) cp6) (k + 1) (flatTI (L ++ [⟨txOf s x.p, R, rc, D, dc⟩])) := by
                        have h := (((HOWNQ.out.stored (k * 8 + 3) (.int .u64 (nw + 1))).1.stored (k * 8 + 4) (.int .i64 1)).1.stored (k * 8 + 5) (.int .i64 k)).1
                        have hkL : s.L.length = k := by rw [← hsL, List.length_map, hlen]
                        have htx : txOf s x.p = { lastT s x.p m q with ts := nw + 1, dc := 1, tx := (k : Int) } := by unfold txOf; rw [if_neg HW0.out, ← HRD.out, ← HQ.out, HNW.out, hkL]; rfl
                        have e1 := set_last L (lastI s x.p m q R rc D dc) ⟨{ lastT s x.p m q with ts := nw + 1 }, R, rc, D, dc⟩ 3 (.int .u64 (nw + 1)) (by omega) rfl
                        have e2 := set_last L ⟨{ lastT s x.p m q with ts := nw + 1 }, R, rc, D, dc⟩ ⟨{ lastT s x.p m q with ts := nw + 1, dc := 1 }, R, rc, D, dc⟩ 4 (.int .i64 1) (by omega) rfl
                        have e3 := set_last L ⟨{ lastT s x.p m q with ts := nw + 1, dc := 1 }, R, rc, D, dc⟩ ⟨txOf s x.p, R, rc, D, dc⟩ 5 (.int .i64 k) (by omega) (by rw [htx]; rfl)
                        rw [hlen] at e1 e2 e3
                        rw [e1, e2, e3] at h
                        rw [hWZ]
                        exact h
                      have htZ : Turns (one g) W7 WZ := by rw [hWZ]; exact ((HTQ.out.set (a := ⟨g, k * 8 + 3, none⟩) (fun _ => rfl) _).set (a := ⟨g, k * 8 + 4, none⟩) (fun _ => rfl) _).set (a := ⟨g, k * 8 + 5, none⟩) (fun _ => rfl) _
                      have hrowZ : WZ.ownsRow W7.heap.size 35 6 (.slice D q dc) q (flatV (wrsTo x.p q)) := by rw [hWZ]; exact ((((Turns.refl (one g) wq).set (a := ⟨g, k * 8 + 3, none⟩) (fun _ => rfl) _).set (a := ⟨g, k * 8 + 4, none⟩) (fun _ => rfl) _).set (a := ⟨g, k * 8 + 5, none⟩) (fun _ => rfl) _).row HROWQ.out (fun j e e' => by have h1 := (HROWQ.out.lt j e).1; have h2 : j = g := e'; omega)
                      have hW6w : Turns (one g) W6 WZ := HTU7.out.trans htZ
                      have hfin : IM w WZ w.heap.size (some ⟨g, 0, none⟩) (k + 1) cp6 (L ++ [⟨txOf s x.p, R, rc, D, dc⟩]) (stepI s x.p) := by
                        refine ⟨hownZ, by rw [List.length_append, hlen]; rfl, by rw [List.map_append, hsL]; rfl, ?_, ?_, hW6w.below HBEL.out (fun j e => by have e : j = g := e; omega), ?_, inv_step HINV.out x.p⟩
                        · intro y hy
                          rcases List.mem_append.1 hy with h | h
                          · exact (HROWS.out.turn HOWN6.out hW6w (fun j e => by have e : j = g := e; rw [e]; rfl)) y h
                          · rw [List.mem_singleton.1 h]
                            obtain ⟨c1, c2, c3, c4⟩ := txOf_cl s x.p
                            refine ⟨?_, ?_, ?_, ?_⟩
                            · show WZ.ownsRow w.heap.size _ 8 (.slice R (txOf s x.p).rds.length rc) (txOf s x.p).rds.length (flatRd (txOf s x.p).rds)
                              rw [c3, ← HRD.out, rdsTo_len hm1]
                              exact row_weaken ((htZ.row HROW7.out (fun j e e' => by have h1 := (HROW7.out.lt j e).1; have h2 : j = g := e'; omega))) HBEL.out.size
                            · show WZ.ownsRow w.heap.size _ 6 (.slice D (txOf s x.p).wrs.length dc) (txOf s x.p).wrs.length (flatV (txOf s x.p).wrs)
                              rw [c4, ← HQ.out, wrsTo_len hq1]
                              exact row_weaken hrowZ (by have := HBEL.out.size; have := HTU7.out.size; omega)
                            · show (txOf s x.p).rds.length ≤ 4
                              rw [c3, ← HRD.out, rdsTo_len hm1]; exact hm4
                            · show (txOf s x.p).wrs.length ≤ 4
                              rw [c4, ← HQ.out, wrsTo_len hq1]; exact hq4
                        · show Holds Try.prog 3 33 .i64 .u64 WZ w.heap.size (drop s.O x.p.who ++ [(x.p.who, snapOf s x.p)])
                          rw [HSN.out]
                          exact HSNAP.out.turn hW6w (fun e => row_not_map HOWN6.out HSNAP.out g rfl (by have e : w.heap.size = g := e; omega))
                        · show (drop s.O x.p.who ++ [(x.p.who, snapOf s x.p)]).length ≤ k + 1
                          rw [List.length_append]
                          have h1 := HOL.out
                          have h2 : (drop s.O x.p.who).length ≤ s.O.length := List.length_filter_le _ _
                          simp; omega
                      have hstep : idealTo (l.map SI.p) (k + 1) = stepI s x.p := by rw [idealTo_step HXP.out, HS.out]
                      exact ⟨k + 1, some ⟨g, 0, none⟩, cp6, _, by omega, by omega, by go_num, by rw [hstep]; unfold stepI; simp only; rw [if_neg HW0.out, HNW.out], rfl, by rw [hstep]; exact hfin⟩
                    case measure => simp [intOf]; omega
    · by_cases hkn : k < n
      · have hd : decide ((k : Int) < 30) = false := by simp; omega
        go_wp2
        go_ret
        exact ⟨D, cp, L, by rw [hIM.len]; rfl, hIM.len.symm ▸ hIM.own, hIM.rows, by rw [hIM.map]; unfold idealL; rw [List.length_map, hn, show min n 30 = k by omega], hIM.below⟩
      · go_wp2
        go_ret
        exact ⟨D, cp, L, by rw [hIM.len]; rfl, hIM.len.symm ▸ hIM.own, hIM.rows, by rw [hIM.map]; unfold idealL; rw [List.length_map, hn, show min n 30 = k by omega], hIM.below⟩
end Go.Proofs.Ytiapolcpebilmaa
