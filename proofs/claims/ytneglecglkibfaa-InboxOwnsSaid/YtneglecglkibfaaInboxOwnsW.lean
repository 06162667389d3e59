/-
  The walk of the law InboxOwns: what was handed in and what was answered may be changed. Conditions: the argument's versions lie as the hypotheses say.
-/
import Derived.Test.YtneglecglkibfaaAwakeI
import Derived.BigRegion
import Derived.Lib.Hide
namespace Go.Proofs.Ytneglecglkibfaa
open Go.RowKit Go.Maps
set_option linter.unusedVariables false

/-- a row of versions whose third cells are bools that may be written. -/
def Flip (w : World) (D : Option Addr) (n : Nat) : Prop := ∀ i, i < n → ∃ g, D = some ⟨g, 0, none⟩ ∧ (∃ b, w.cell? ⟨g, i * 6 + 2, none⟩ = some (.bool b)) ∧ w.frozen? ⟨g, i * 6 + 2, none⟩ = false
theorem flip_set {w : World} {D : Option Addr} {n : Nat} (h : Flip w D n) (a : Addr) (b : Bool) : Flip (w.setCell a (.bool b)) D n := by
  intro i hi'
  obtain ⟨g, e, ⟨b', hc⟩, hf⟩ := h i hi'
  refine ⟨g, e, ?_, by rw [World.frozen?_setCell]; exact hf⟩
  by_cases ha : a = ⟨g, i * 6 + 2, none⟩
  · subst ha
    exact ⟨b, World.cell?_setCell_same' _ _ _ (by rw [hc]; rfl)⟩
  · exact ⟨b', by rw [World.cell?_setCell_other _ _ _ _ ha]; exact hc⟩
theorem flip_drew {w : World} {D : Option Addr} {n : Nat} (h : Flip w D n) : Flip w.drew D n := h
theorem flip_on {w w' : World} {D : Option Addr} {n : Nat} (h : Flip w D n) {S : Nat → Prop} (ht : Turns S w w') (hS : ∀ g, D.map Addr.block = some g → ¬ S g) : Flip w' D n := by
  intro i hi'
  obtain ⟨g, e, ⟨b', hc⟩, hf⟩ := h i hi'
  have hn : ¬ S g := hS g (by rw [e]; rfl)
  exact ⟨g, e, ⟨b', ht.cell hc hn⟩, ht.frozen (a := ⟨g, i * 6 + 2, none⟩) (World.block_lt_of_cell? _ _ hc) hn hf⟩
theorem flip_of {w : World} {base : Nat} {n cp : Nat} {D : Option Addr} {l : List V} (h : w.ownsRow base 32 6 (.slice D n cp) n (flatV l)) (hn : l.length = n) : Flip w D n := by
  intro i hi
  obtain ⟨x, hx⟩ : ∃ x, l[i]? = some x := ⟨_, List.getElem?_eq_getElem (by omega)⟩
  have h2 := flatV_get l i x 2 hx (by omega)
  obtain ⟨b, off, e, hcc⟩ := Cells.of_own h (fun e0 => by rw [e0] at h2; simp [V.cells] at h2)
  have hcc := hcc _ _ h2
  obtain ⟨hl, ⟨hv, h0⟩ | ⟨g, cap, cur, hv, hg, hh2, r⟩⟩ := h
  · omega
  · injection hv with hA hnn hc
    rw [e] at hA
    injection hA with hA
    injection hA with h3 h4 h5
    subst h3 h4
    rw [Nat.zero_add] at hcc
    exact ⟨b, e, ⟨x.gone, hcc⟩, by simp [World.frozen?, hh2]⟩
theorem BoxAt.apart {S : Nat → Prop} {w w' : World} {B b m : Nat} {vl vd : Value} {L : List Q} {x : Bx} (h : BoxAt w B b m vl vd L x) (ht : Turns S w w') (hn : ∀ g, boxS b m vl vd g → ¬ S g) (hq : ∀ q ∈ L, ∀ g, q.D.map Addr.block = some g → ¬ S g) : BoxAt w' B b m vl vd L x :=
  ⟨(ht.block b h.blt (hn b (.inl rfl))).trans h.hb, h.hl.turn ht (fun g hg => hn g (.inr (.inr (.inl hg)))), h.hd.turn ht (fun g hg => hn g (.inr (.inr (.inr hg)))), h.hm.turn ht (hn m (.inr (.inl rfl))), h.lr, fun q hq' => ⟨ht.cells (h.rd q hq').1 (hq q hq'), fun g hg => ((h.rd q hq').2 g hg).turn ht (hq q hq' g hg)⟩, h.nb, h.nl, h.nd, h.nld⟩
/-- above a block. -/
def Over (n : Nat) : Nat → Prop := fun k => n < k
theorem row_blk {w : World} {base n cp sz : Nat} {D : Option Addr} {e : TypeId} {xs : List Value} (h : w.ownsRow base e sz (.slice D n cp) n xs) : ∀ g, D.map Addr.block = some g → base ≤ g ∧ g < w.heap.size := fun g hg => h.lt g (own_map.trans hg)
set_option maxRecDepth 100000 in
set_option maxHeartbeats 4000000 in
theorem owns_walk (r : R) (D : Option Addr) (c : Nat) (w : World) (hc : r.vers.length ≤ c) (hfit : r.vers.length ≤ 9223372036854775807) (hD : Cells w D (flatV r.vers)) (hn : D = none → r.vers.length = 0 ∧ c = 0) :
    Calls Try.prog 3 #[.agg #[.int .u64 r.ts, .int .i64 r.dc, .int .i64 r.tx, .slice D r.vers.length c]] w fun e w' => e = .returned (.bool true) ∧ Below w.heap.size w w' := by
  obtain ⟨l, hl⟩ : ∃ l, r.vers.take 12 = l := ⟨_, rfl⟩
  have hl12 : l.length ≤ 12 := by rw [← hl, List.length_take]; omega
  have lmin : min r.vers.length 12 = l.length := by rw [← hl, List.length_take]; omega
  have hDf : Cells w D (flatV l) := by rw [← hl]; exact Cells.takeG (cf := V.cells) hD 12
  clear hl
  go_enter Try.func3, Try.ntmps3
  go_wp2_with (first
    | (go_at_call 8; refine (new_any _ _ (by omega)).mono ?_; rintro e w1 ⟨b, m, rfl, hb, hm, hB, hb1⟩; have s0 : w1.cell? ⟨w.heap.size, 0, none⟩ = some (.int .u64 r.ts) := (box_on hb1).1 0; have s1 : w1.cell? ⟨w.heap.size, 1, none⟩ = some (.int .i64 r.dc) := (box_on hb1).1 1; have s2 : w1.cell? ⟨w.heap.size, 2, none⟩ = some (.int .i64 r.tx) := (box_on hb1).1 2; have s3 : w1.cell? ⟨w.heap.size, 3, none⟩ = some (.slice D r.vers.length c) := (box_on hb1).1 3)
    | (go_at_call 9; refine (few_any r D _ c _ rfl hc hfit hn).mono ?_; rintro e w2 ⟨rfl, hb2⟩; rw [lmin]; have B2 := below_own hb1 hb2; have u0 : w2.cell? ⟨w.heap.size, 0, none⟩ = some (.int .u64 r.ts) := (box_on B2).1 0; have u1 : w2.cell? ⟨w.heap.size, 1, none⟩ = some (.int .i64 r.dc) := (box_on B2).1 1; have u2 : w2.cell? ⟨w.heap.size, 2, none⟩ = some (.int .i64 r.tx) := (box_on B2).1 2; have u3 : w2.cell? ⟨w.heap.size, 3, none⟩ = some (.slice D r.vers.length c) := (box_on B2).1 3; have uf0 : w2.frozen? ⟨w.heap.size, 0, none⟩ = false := (box_on B2).2.1 0; have uf1 : w2.frozen? ⟨w.heap.size, 1, none⟩ = false := (box_on B2).2.1 1; have uf2 : w2.frozen? ⟨w.heap.size, 2, none⟩ = false := (box_on B2).2.1 2; have uf3 : w2.frozen? ⟨w.heap.size, 3, none⟩ = false := (box_on B2).2.1 3)
    | (go_at_call 10; refine (rcopy_any (⟨r.ts, r.dc, r.tx, l⟩ : R) D _ c _ rfl (by show l.length * 64 ≤ _; omega) (hDf.on (own_set (own_set (own_set (own_set (below_own (own_alloc (own_refl _) _) B2) (Nat.le_refl _) _) (Nat.le_refl _) _) (Nat.le_refl _) _) (Nat.le_refl _) _))).mono ?_; rintro e w3 ⟨DM, cpM, rfl, hownM, hb3⟩))
  have k0 : ((((w2.setCell ⟨w.heap.size, 0, none⟩ (.int .u64 r.ts)).setCell ⟨w.heap.size, 1, none⟩ (.int .i64 r.dc)).setCell ⟨w.heap.size, 2, none⟩ (.int .i64 r.tx)).setCell ⟨w.heap.size, 3, none⟩ (.slice D l.length c)).cell? ⟨w.heap.size, 0, none⟩ = some (.int .u64 r.ts) := by go_simp
  have k1 : ((((w2.setCell ⟨w.heap.size, 0, none⟩ (.int .u64 r.ts)).setCell ⟨w.heap.size, 1, none⟩ (.int .i64 r.dc)).setCell ⟨w.heap.size, 2, none⟩ (.int .i64 r.tx)).setCell ⟨w.heap.size, 3, none⟩ (.slice D l.length c)).cell? ⟨w.heap.size, 1, none⟩ = some (.int .i64 r.dc) := by go_simp
  have k2 : ((((w2.setCell ⟨w.heap.size, 0, none⟩ (.int .u64 r.ts)).setCell ⟨w.heap.size, 1, none⟩ (.int .i64 r.dc)).setCell ⟨w.heap.size, 2, none⟩ (.int .i64 r.tx)).setCell ⟨w.heap.size, 3, none⟩ (.slice D l.length c)).cell? ⟨w.heap.size, 2, none⟩ = some (.int .i64 r.tx) := by go_simp
  have k3 : ((((w2.setCell ⟨w.heap.size, 0, none⟩ (.int .u64 r.ts)).setCell ⟨w.heap.size, 1, none⟩ (.int .i64 r.dc)).setCell ⟨w.heap.size, 2, none⟩ (.int .i64 r.tx)).setCell ⟨w.heap.size, 3, none⟩ (.slice D l.length c)).cell? ⟨w.heap.size, 3, none⟩ = some (.slice D l.length c) := by go_simp
  have hbs : w.heap.size < b := by simp at hb; omega
  have hms : w.heap.size < m := by simp at hm; omega
  have hBW : BoxAt ((((w2.setCell ⟨w.heap.size, 0, none⟩ (.int .u64 r.ts)).setCell ⟨w.heap.size, 1, none⟩ (.int .i64 r.dc)).setCell ⟨w.heap.size, 2, none⟩ (.int .i64 r.tx)).setCell ⟨w.heap.size, 3, none⟩ (.slice D l.length c)) (w.alloc (.cells #[.int .u64 r.ts, .int .i64 r.dc, .int .i64 r.tx, .slice D r.vers.length c] 25)).heap.size b m (.slice none 0 0) (.slice none 0 0) [] (box0 0) := by
    refine (hB.on hb2).apart (S := one w.heap.size) (((((Turns.refl (one w.heap.size) w2).set (a := ⟨w.heap.size, 0, none⟩) (fun _ => rfl) _).set (a := ⟨w.heap.size, 1, none⟩) (fun _ => rfl) _).set (a := ⟨w.heap.size, 2, none⟩) (fun _ => rfl) _).set (a := ⟨w.heap.size, 3, none⟩) (fun _ => rfl) _) ?_ (by simp)
    rintro g (rfl | rfl | e | e) (e2 : _ = _)
    · omega
    · omega
    · cases e
    · cases e
  have bW : Below w.heap.size w ((((w2.setCell ⟨w.heap.size, 0, none⟩ (.int .u64 r.ts)).setCell ⟨w.heap.size, 1, none⟩ (.int .i64 r.dc)).setCell ⟨w.heap.size, 2, none⟩ (.int .i64 r.tx)).setCell ⟨w.heap.size, 3, none⟩ (.slice D l.length c)) := (own_set (own_set (own_set (own_set (below_own (own_alloc (own_refl _) _) B2) (Nat.le_refl _) _) (Nat.le_refl _) _) (Nat.le_refl _) _) (Nat.le_refl _) _)
  have sW : (w.alloc (.cells #[.int .u64 r.ts, .int .i64 r.dc, .int .i64 r.tx, .slice D r.vers.length c] 25)).heap.size ≤ ((((w2.setCell ⟨w.heap.size, 0, none⟩ (.int .u64 r.ts)).setCell ⟨w.heap.size, 1, none⟩ (.int .i64 r.dc)).setCell ⟨w.heap.size, 2, none⟩ (.int .i64 r.tx)).setCell ⟨w.heap.size, 3, none⟩ (.slice D l.length c)).heap.size := by have := B2.size; simpa [World.setCell] using this
  obtain ⟨W2, hW⟩ : ∃ W, ((((w2.setCell ⟨w.heap.size, 0, none⟩ (.int .u64 r.ts)).setCell ⟨w.heap.size, 1, none⟩ (.int .i64 r.dc)).setCell ⟨w.heap.size, 2, none⟩ (.int .i64 r.tx)).setCell ⟨w.heap.size, 3, none⟩ (.slice D l.length c)) = W := ⟨_, rfl⟩
  rw [hW] at k0 k1 k2 k3 hBW bW sW hb3 hownM
  clear hW u0 u1 u2 u3 uf0 uf1 uf2 uf3 s0 s1 s2 s3 B2 hb1 hb2 hB
  have hDW := hDf.on bW
  have hB3 := hBW.on hb3
  have T3 : Turns (Over w.heap.size) W2 w3 := Turns.of_below hb3
  have bl := hBW.blt
  have ml := hBW.hm.lt
  have wW := bW.size
  have hMb := row_blk hownM
  have nbx : ∀ g, W2.heap.size ≤ g → ¬ boxS b m (.slice none 0 0) (.slice none 0 0) g := by
    rintro g hg (rfl | rfl | e | e)
    · omega
    · omega
    · cases e
    · cases e
  have z3 := hb3.size
  refine (put_ok _ _ b m _ _ [] (box0 0) (hB3.on (own_alloc (own_refl _) _)) (⟨r.ts, r.dc, r.tx, l⟩ : R) DM cpM 0 (by show (0 : Int) = max 0 0 + ((([] : List R).length : Nat) : Int); simp) (box0_ok 0 (by omega)) (by simp [box0]) (by show l.length ≤ 1000; omega) ((Cells.of_own hownM).on (own_alloc (own_refl _) _)) (by simp only [World.size_alloc] at sW ⊢; omega)).mono ?_
  rintro e w5 ⟨vl', vd', q1, rfl, hq1, hB5, ht5, hlo, hdo, hqo⟩
  simp only [World.size_alloc] at hlo hdo hqo
  have T5 : Turns (Over w.heap.size) W2 w5 := (T3.alloc _).on ht5 (fun j hj hS => by
    rcases hS with rfl | rfl | e | e
    · exact hbs
    · exact hms
    · cases e
    · cases e)
  have cM : w5.cell? ⟨w3.heap.size, 3, none⟩ = some (.slice DM l.length cpM) := ht5.cell (cell_of_row _ _ _ _ _ _ (heap_alloc_new w3 _)) (nbx _ z3)
  have t35 := ((Turns.refl (boxS b m (.slice none 0 0) (.slice none 0 0)) w3).alloc _).on ht5 (fun _ _ e => e)
  have FM : Flip w5 DM l.length := flip_on (flip_of hownM rfl) t35 (fun g hg => nbx g (hMb g hg).1)
  have sz5 : w3.heap.size + 1 ≤ w5.heap.size := by have := ht5.size; simpa using this
  clear ht5 t35
  go_wp2
  go_loopw [26] (fun i wr => ∃ k : Nat, k ≤ l.length ∧ i = .int .i64 k ∧ Flip wr DM l.length ∧ Turns (fun j => Option.map Addr.block DM = some j) w5 wr) (fun i _ => l.length - (intOf i).toNat)
  case atStart => exact ⟨0, Nat.zero_le _, rfl, FM, Turns.refl _ _⟩
  case round =>
    rename_i wr _ _
    obtain ⟨k, hk, rfl, hF, hT⟩ := hrel
    have cM' : wr.cell? ⟨w3.heap.size, 3, none⟩ = some (.slice DM l.length cpM) := hT.cell cM (fun e => by have := (hMb _ e).2; exact Nat.lt_irrefl _ this)
    by_cases hlt : k < l.length
    · obtain ⟨g, rfl, ⟨bb, hcb⟩, hfb⟩ := hF k hlt
      have q1' : (0 : Int) ≤ (k : Int) := by omega
      have q2' : (k : Int) < (l.length : Int) := by omega
      go_wp2_with fail
      go_region
      go_wp2
      go_roundw
      case rel => exact ⟨k + 1, by omega, by go_num, flip_drew (flip_set hF _ _), (hT.set (a := ⟨g, k * 6 + 2, none⟩) (fun _ => rfl) _).drew⟩
      case measure => simp [intOf]; omega
    · obtain rfl : k = l.length := by omega
      have hBr : BoxAt wr (w.alloc (.cells #[.int .u64 r.ts, .int .i64 r.dc, .int .i64 r.tx, .slice D r.vers.length c] 25)).heap.size b m vl' vd' ([] ++ [q1]) ⟨(box0 0).base, (box0 0).list ++ [(⟨r.ts, r.dc, r.tx, l⟩ : R)], (box0 0).handed, (box0 0).done ++ [false], (box0 0).hearts, (box0 0).got⟩ := by
        refine hB5.apart hT ?_ ?_
        · rintro g hg e
          have h1 := hMb g e
          rcases hg with rfl | rfl | e' | e'
          · omega
          · omega
          · have := hlo g (by omega) e'; cases this
          · have := hdo g (by omega) e'; cases this
        · intro q hq g hg e
          have hq : q = q1 := by simpa using hq
          subst hq
          have h1 := hMb g e
          have h2 := hqo g hg
          omega
      have Tr : Turns (Over w.heap.size) W2 wr := T5.on hT (fun j hj e => by have := (hMb j e).1; show w.heap.size < j; omega)
      have sr := Tr.size
      clear hB5 hT hF FM T5 hlo hdo hqo hBW hB3 hb3 T3 hownM cM cM'
      go_wp2_with (go_at_call 12; refine (Peek_yes _ _ b m _ _ _ _ hBr (⟨r.ts, r.dc, r.tx, l⟩ : R) rfl (by show l.length ≤ 1000; omega) (by simp [box0])).mono ?_; rintro e w6 ⟨DP, cpP, rfl, hownP, hb6⟩)
      have hPb := row_blk hownP
      have FP : Flip (w6.alloc (.cells #[.int .u64 r.ts, .int .i64 r.dc, .int .i64 r.tx, .slice DP l.length cpP] 25)) DP l.length := flip_on (flip_of hownP rfl) ((Turns.refl none' w6).alloc _) (fun _ _ => id)
      have cP : (w6.alloc (.cells #[.int .u64 r.ts, .int .i64 r.dc, .int .i64 r.tx, .slice DP l.length cpP] 25)).cell? ⟨w6.heap.size, 3, none⟩ = some (.slice DP l.length cpP) := cell_of_row _ _ _ _ _ _ (heap_alloc_new w6 _)
      go_loopw [50] (fun i wq => ∃ k : Nat, k ≤ l.length ∧ i = .int .i64 k ∧ Flip wq DP l.length ∧ Turns (fun j => Option.map Addr.block DP = some j) (w6.alloc (.cells #[.int .u64 r.ts, .int .i64 r.dc, .int .i64 r.tx, .slice DP l.length cpP] 25)) wq) (fun i _ => l.length - (intOf i).toNat)
      case atStart => exact ⟨0, Nat.zero_le _, rfl, FP, Turns.refl _ _⟩
      case round =>
        obtain ⟨k, hk, rfl, hF, hT⟩ := hrel
        have cP' := hT.cell cP (fun e => by have := (hPb _ e).2; exact Nat.lt_irrefl _ this)
        by_cases hlt : k < l.length
        · obtain ⟨g, rfl, ⟨bb, hcb⟩, hfb⟩ := hF k hlt
          have q1' : (0 : Int) ≤ (k : Int) := by omega
          have q2' : (k : Int) < (l.length : Int) := by omega
          go_wp2_with fail
          go_region
          go_wp2
          go_roundw
          case rel => exact ⟨k + 1, by omega, by go_num, flip_drew (flip_set hF _ _), (hT.set (a := ⟨g, k * 6 + 2, none⟩) (fun _ => rfl) _).drew⟩
          case measure => simp [intOf]; omega
        · obtain rfl : k = l.length := by omega
          have hBq := ((hBr.on hb6).on (own_alloc (own_refl _) _)).far hBr.under hT (fun g e => (hPb g e).1)
          have Tq : Turns (Over w.heap.size) W2 _ := ((Tr.below' hb6).alloc _).on hT (fun j hj e => by have := (hPb j e).1; show w.heap.size < j; omega)
          clear hT hF FP hBr Tr cP cP' hb6 hownP
          go_wp2_with (first
            | (go_at_call 13; refine (Next_yes _ _ b m _ _ _ _ hBq (⟨r.ts, r.dc, r.tx, l⟩ : R) rfl (by show l.length ≤ 1000; omega) (by simp [box0]) (by simp [box0]) (by simp [box0])).mono ?_; rintro e w7 ⟨DQ, cpQ, rfl, hownQ, hB7, hT7⟩; have T7 : Turns (Over w.heap.size) W2 w7 := Tq.on hT7 (fun j hj e => by have e : j = b := e; subst e; exact hbs))
            | (go_at_call 14; refine (awake_any _).mono ?_; rintro e w8 ⟨rfl, hb8⟩; have T8 : Turns (Over w.heap.size) W2 w8 := (T7.alloc _).below' hb8; have y0 : w8.cell? ⟨w7.heap.size, 0, none⟩ = some (.int .u64 r.ts) := (box_on hb8).1 0; have y1 : w8.cell? ⟨w7.heap.size, 1, none⟩ = some (.int .i64 r.dc) := (box_on hb8).1 1; have y2 : w8.cell? ⟨w7.heap.size, 2, none⟩ = some (.int .i64 r.tx) := (box_on hb8).1 2; have y3 : w8.cell? ⟨w7.heap.size, 3, none⟩ = some (.slice DQ l.length cpQ) := (box_on hb8).1 3; have p0 : w8.cell? ⟨w.heap.size, 0, none⟩ = some (.int .u64 r.ts) := T8.cell k0 (Nat.lt_irrefl _); have p1 : w8.cell? ⟨w.heap.size, 1, none⟩ = some (.int .i64 r.dc) := T8.cell k1 (Nat.lt_irrefl _); have p2 : w8.cell? ⟨w.heap.size, 2, none⟩ = some (.int .i64 r.tx) := T8.cell k2 (Nat.lt_irrefl _); have p3 : w8.cell? ⟨w.heap.size, 3, none⟩ = some (.slice D l.length c) := T8.cell k3 (Nat.lt_irrefl _); have B8 : Below w.heap.size w w8 := Turns.below T8 bW (fun j hj => Nat.le_of_lt hj))
            | (go_at_call 15; refine (same_rec (⟨r.ts, r.dc, r.tx, l⟩ : R) DQ D _ _ _ _ rfl (by show l.length ≤ _; omega) (((Cells.of_own hownQ).on (own_alloc (own_refl _) _)).on hb8) (hDf.on B8)).mono ?_; rintro e w9 ⟨rfl, hb9⟩))
          go_ret
          exact ⟨rfl, below_own B8 hb9⟩
end Go.Proofs.Ytneglecglkibfaa
