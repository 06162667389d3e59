/-
  The walk of the law OrderOwns: whatever data come in, the call returns true and leaves what was there. Conditions: the arguments' cells lie as the hypotheses say.
-/
import Derived.Test.YtggbdjdfejcpjaaSameL
import Derived.Test.YtggbdjdfejcpjaaDecF
import Derived.Test.YtggbdjdfejcpjaaRelF
import Derived.Test.YtggbdjdfejcpjaaOrdQ
import Derived.Test.YtggbdjdfejcpjaaBridge
import Derived.BigRegion
import Derived.BigRegionIn
import Derived.Deep.RegionHeld3
import Derived.Deep.RegionLaw
namespace Go.Proofs.Ytggbdjdfejcpjaa.lawOrderOwns
open Go.RowKit Go.Maps Go.Shelf
attribute [local go_sem] Oper.semAt_some
set_option linter.unusedVariables false

/-- a row of versions whose third cells are bools that may be written. -/
def Flip (w : World) (D : Option Addr) (n : Nat) : Prop := ∀ i, i < n → ∃ g, D = some ⟨g, 0, none⟩ ∧ (∃ b, w.cell? ⟨g, i * 6 + 2, none⟩ = some (.bool b)) ∧ w.frozen? ⟨g, i * 6 + 2, none⟩ = false
theorem flip_set {w : World} {D : Option Addr} {n : Nat} (h : Flip w D n) (a : Addr) (b : Bool) : Flip (w.setCell a (.bool b)) D n := by
  intro i hi'
  obtain ⟨g, e, ⟨b', hc⟩, hf⟩ := h i hi'
  refine ⟨g, e, ?_, by rw [World.frozen?_setCell]; exact hf⟩
  by_cases ha : a = ⟨g, i * 6 + 2, none⟩
  · subst ha
    exact ⟨b, World.cell?_setCell_same' _ _ _ (by rw [hc]; rfl)⟩
  · exact ⟨b', by rw [World.cell?_setCell_other _ _ _ _ ha]; exact hc⟩
theorem flip_drew {w : World} {D : Option Addr} {n : Nat} (h : Flip w D n) : Flip w.drew D n := h
theorem flip_on {w w' : World} {D : Option Addr} {n : Nat} (h : Flip w D n) {S : Nat → Prop} (ht : Turns S w w') (hS : ∀ g, D.map Addr.block = some g → ¬ S g) : Flip w' D n := by
  intro i hi'
  obtain ⟨g, e, ⟨b', hc⟩, hf⟩ := h i hi'
  have hn : ¬ S g := hS g (by rw [e]; rfl)
  exact ⟨g, e, ⟨b', ht.cell hc hn⟩, ht.frozen (a := ⟨g, i * 6 + 2, none⟩) (World.block_lt_of_cell? _ _ hc) hn hf⟩
theorem flip_of {w : World} {base : Nat} {n cp : Nat} {D : Option Addr} {l : List V} (h : w.ownsRow base 58 6 (.slice D n cp) n (flatV l)) (hn : l.length = n) : Flip w D n := by
  intro i hi
  obtain ⟨x, hx⟩ : ∃ x, l[i]? = some x := ⟨_, List.getElem?_eq_getElem (by omega)⟩
  have h2 := flatV_get l i x 2 hx (by omega)
  obtain ⟨b, off, e, hcc⟩ := Cells.of_own h (fun e0 => by rw [e0] at h2; simp [V.cells] at h2)
  have hcc := hcc _ _ h2
  obtain ⟨hl, ⟨hv, h0⟩ | ⟨g, cap, cur, hv, hg, hh2, r⟩⟩ := h
  · omega
  · injection hv with hA hnn hc
    rw [e] at hA
    injection hA with hA
    injection hA with h3 h4 h5
    subst h3 h4
    rw [Nat.zero_add] at hcc
    exact ⟨b, e, ⟨x.gone, hcc⟩, by simp [World.frozen?, hh2]⟩
theorem row_blk {w : World} {base n cp sz : Nat} {D : Option Addr} {e : TypeId} {xs : List Value} (h : w.ownsRow base e sz (.slice D n cp) n xs) : ∀ g, D.map Addr.block = some g → base ≤ g ∧ g < w.heap.size := fun g hg => by
  obtain ⟨hl, ⟨h1, h2⟩ | ⟨g', cap, cur, hv, hb, hh, _⟩⟩ := h
  · injection h1 with h1
    subst h1
    cases hg
  · injection hv with h1
    subst h1
    have : g' = g := Option.some.inj hg
    subst this
    exact ⟨hb, (Array.getElem?_eq_some_iff.1 hh).1⟩
theorem one_x {r : R} (h : r.ts ≤ 18446744073709551615) : relN (max 0 18446744073709551615) [r] = 1 ∧ relX ⟨[], [r], 0⟩ 18446744073709551615 = ⟨[r], [], 18446744073709551615⟩ := by
  have h1 : relN (max 0 18446744073709551615) [r] = 1 := by
    show (if r.ts ≤ max 0 18446744073709551615 then relN _ [] + 1 else 0) = 1
    rw [if_pos (by omega)]
    rfl
  refine ⟨h1, ?_⟩
  unfold relX
  rw [h1]
  rfl
/-- a round under way. -/
def RoundO (w0 : World) (T : Nq → Nat → Array Value) (y : Nq) (a' : Act) (W : World) : Prop := Below w0.heap.size w0 W ∧ y.2.r.vers.length ≤ 12 ∧ W.ownsRow w0.heap.size 58 6 (.slice y.2.D y.2.r.vers.length y.2.c) y.2.r.vers.length (flatV y.2.r.vers) ∧ ∃ rb, w0.heap.size ≤ rb ∧ (∀ g, y.2.D.map Addr.block = some g → g ≠ rb) ∧ W.heap[rb]? = some (.cells #[.int .u64 y.2.r.ts, .int .i64 y.2.r.dc, .int .i64 y.2.r.tx, .slice y.2.D y.2.r.vers.length y.2.c] 32 (0, 0)) ∧ a' = { tmps := T y rb, defers := [] }
theorem roundO_sturdy (w0 : World) (T : Nq → Nat → Array Value) (B : Nat) (hB : w0.heap.size ≤ B) : Sturdy B (fun (s : List Nq × Nq × Act) W => RoundO w0 T s.2.1 s.2.2 W) := fun s W W' S ⟨h1, h2, h3, rb, h4, h5, h6, h7⟩ ht hS =>
  ⟨ht.below h1 (fun j e => Nat.le_trans hB (hS j e).1), h2, row_sturdy h3 ht hS, rb, h4, h5, (ht.block rb (Array.getElem?_eq_some_iff.1 h6).1 (cells_not hS h6)).trans h6, h7⟩
/-- the second range's count. -/
def CntN (W : World) (nv : Nat) (X : World) : Prop := X.heap[W.heap.size]? = some (.cells #[.int .i64 nv] 3 (0, 0)) ∧ Below W.heap.size W X ∧ W.heap.size + 3 ≤ X.heap.size
theorem cntN_sturdy (W : World) (f : List Nq → Nat) (B : Nat) (hB : W.heap.size ≤ B) : Sturdy B (fun (pre : List Nq) X => CntN W (f pre) X) := fun pre X X' S ⟨h1, h2, h3⟩ ht hS =>
  ⟨(ht.block _ (Array.getElem?_eq_some_iff.1 h1).1 (cells_not hS h1)).trans h1, ht.below h2 (fun j e => Nat.le_trans hB (hS j e).1), Nat.le_trans h3 ht.size⟩
theorem owns_leave {w v : World} {D2 D3 : Nat} {tmps : Array Value} (e2 : v.heap[D2]? = some (.deferred (some []))) (e3 : v.heap[D3]? = some (.deferred (some []))) (hne : D2 ≠ D3) (h4 : tmps.getD 4 undef = .bool true) (hb : Below w.heap.size w v) (l2 : w.heap.size ≤ D2) (l3 : w.heap.size ≤ D3) :
    bodyPostM Fence.wide 5 Try.prog Try.f6 (fun e w' => e = .returned (.bool true) ∧ Below w.heap.size w w') .ret ⟨tmps, [⟨.collected D3, #[]⟩, ⟨.collected D2, #[]⟩]⟩ v := by
  have e4 : (v.putObj D3 (.deferred none)).heap[D2]? = some (.deferred (some [])) := (World.putObj_heap_other hne).trans e2
  refine ⟨by simp, .inl ⟨_, _, rfl, run_takeDeferred e3, ?_⟩⟩
  refine ⟨by simp, .inl ⟨_, _, rfl, run_takeDeferred e4, ?_⟩⟩
  refine ⟨_, results_tmp rfl _ _ _, by rw [h4], ?_⟩
  exact (turns_put _ D2 _).below ((turns_put v D3 _).below hb (fun j e => by have e : j = D3 := e; omega)) (fun j e => by have e : j = D2 := e; omega)
theorem log_apart {S : Nat → Prop} {w w' : World} {B b : Nat} {vl vw : Value} {L M : List Q} {x : Lg} (h : LogAt w B b vl vw L M x) (ht : Turns S w w') (hn : ∀ g, logS b vl vw g → ¬ S g) (hq : ∀ q, q ∈ L ∨ q ∈ M → ∀ g, q.D.map Addr.block = some g → ¬ S g) : LogAt w' B b vl vw L M x :=
  ⟨(ht.block b h.blt (hn b (.inl rfl))).trans h.hb, h.hl.turn ht (fun g hg => hn g (.inr (.inl hg))), h.hw.turn ht (fun g hg => hn g (.inr (.inr hg))), h.lr, h.mr,
    fun q hq' => ⟨ht.cells (h.rl q hq').1 (hq q (.inl hq')), fun g hg => ((h.rl q hq').2 g hg).turn ht (hq q (.inl hq') g hg)⟩,
    fun q hq' => ⟨ht.cells (h.rm q hq').1 (hq q (.inr hq')), fun g hg => ((h.rm q hq').2 g hg).turn ht (hq q (.inr hq') g hg)⟩, h.nlw⟩
set_option maxRecDepth 100000 in
set_option maxHeartbeats 4000000 in
theorem walk (r : R) (D : Option Addr) (c : Nat) (most : Int) (w : World) (hc : r.vers.length ≤ c) (hfit : r.vers.length ≤ 9223372036854775807) (hD : Cells w D (flatV r.vers)) (hn : D = none → r.vers.length = 0 ∧ c = 0) (hts : 0 ≤ r.ts ∧ r.ts ≤ 18446744073709551615) :
    Calls Try.prog 6 #[.agg #[.int .u64 r.ts, .int .i64 r.dc, .int .i64 r.tx, .slice D r.vers.length c], .int .i64 most] w fun e w' => e = .returned (.bool true) ∧ Below w.heap.size w w' := by
  obtain ⟨l, hl⟩ : ∃ l, r.vers.take 12 = l := ⟨_, rfl⟩
  have hl12 : l.length ≤ 12 := by rw [← hl, List.length_take]; omega
  have lmin : min r.vers.length 12 = l.length := by rw [← hl, List.length_take]; omega
  have hDf : Cells w D (flatV l) := by rw [← hl]; exact Cells.takeG (cf := V.cells) hD 12
  obtain ⟨z, hz⟩ : ∃ z : Int, (if r.ts < 1 then 1 else r.ts) = z := ⟨_, rfl⟩
  have HZ1 : 0 < z ∧ z ≤ 18446744073709551615 := by rw [← hz]; split <;> omega
  have LMIN := Lib.hid lmin
  clear hl lmin
  refine (callsIn_wide (n := 5)).1 (callsIn_of_wp_marks Try.func6 rfl trivial ?_ rfl)
  simp only [Try.ntmps6, List.size_toArray, List.length_cons, List.length_nil, Nat.reduceAdd, Nat.reduceSub, Array.replicate_succ, Array.replicate_zero, List.push_toArray, List.append_toArray, List.nil_append, List.cons_append]
  refine wpIn_wide.2 ?_
  go_wp2_with (first
    | (go_at_call 8; refine (lnew_any _).mono ?_; rintro e w1 ⟨b, rfl, hb, hL1, hb1⟩; have s0 : w1.cell? ⟨w.heap.size, 0, none⟩ = some (.int .u64 r.ts) := cell_on hb1 (cell_on (own_alloc (own_refl _) _) ((box_on (own_refl _)).1 0)); have s1 : w1.cell? ⟨w.heap.size, 1, none⟩ = some (.int .i64 r.dc) := cell_on hb1 (cell_on (own_alloc (own_refl _) _) ((box_on (own_refl _)).1 1)); have s2 : w1.cell? ⟨w.heap.size, 2, none⟩ = some (.int .i64 r.tx) := cell_on hb1 (cell_on (own_alloc (own_refl _) _) ((box_on (own_refl _)).1 2)); have s3 : w1.cell? ⟨w.heap.size, 3, none⟩ = some (.slice D r.vers.length c) := cell_on hb1 (cell_on (own_alloc (own_refl _) _) ((box_on (own_refl _)).1 3)); have sf0 : w1.frozen? ⟨w.heap.size, 0, none⟩ = false := (box_on (below_own (own_alloc (own_refl _) _) hb1)).2.1 0; have sf1 : w1.frozen? ⟨w.heap.size, 1, none⟩ = false := (box_on (below_own (own_alloc (own_refl _) _) hb1)).2.1 1; have sf2 : w1.frozen? ⟨w.heap.size, 2, none⟩ = false := (box_on (below_own (own_alloc (own_refl _) _) hb1)).2.1 2; have sf3 : w1.frozen? ⟨w.heap.size, 3, none⟩ = false := (box_on (below_own (own_alloc (own_refl _) _) hb1)).2.1 3)
    | (go_at_call 10; refine (few_any r D _ c _ rfl hc hfit hn).mono ?_; rintro e w2 ⟨rfl, hb2⟩; rw [LMIN.out]; have B2 := below_own (below_own (own_alloc (own_refl (w.alloc (.cells #[.int .u64 r.ts, .int .i64 r.dc, .int .i64 r.tx, .slice D r.vers.length c] 32))) (.cells #[.int .i64 most] 3)) hb1) hb2; have u0 : w2.cell? ⟨w.heap.size, 0, none⟩ = some (.int .u64 r.ts) := (box_on B2).1 0; have u1 : w2.cell? ⟨w.heap.size, 1, none⟩ = some (.int .i64 r.dc) := (box_on B2).1 1; have u2 : w2.cell? ⟨w.heap.size, 2, none⟩ = some (.int .i64 r.tx) := (box_on B2).1 2; have u3 : w2.cell? ⟨w.heap.size, 3, none⟩ = some (.slice D r.vers.length c) := (box_on B2).1 3; have uf0 : w2.frozen? ⟨w.heap.size, 0, none⟩ = false := (box_on B2).2.1 0; have uf1 : w2.frozen? ⟨w.heap.size, 1, none⟩ = false := (box_on B2).2.1 1; have uf2 : w2.frozen? ⟨w.heap.size, 2, none⟩ = false := (box_on B2).2.1 2; have uf3 : w2.frozen? ⟨w.heap.size, 3, none⟩ = false := (box_on B2).2.1 3)
    | fail)
  have hsz1 := hb1.size
  have hsz2 := hb2.size
  simp only [World.size_alloc] at hsz1 hb
  have k0 : (((((w2.setCell ⟨w.heap.size, 0, none⟩ (.int .u64 r.ts)).setCell ⟨w.heap.size, 1, none⟩ (.int .i64 r.dc)).setCell ⟨w.heap.size, 2, none⟩ (.int .i64 r.tx)).setCell ⟨w.heap.size, 3, none⟩ (.slice D l.length c)).setCell ⟨w.heap.size, 0, none⟩ (.int .u64 z)).cell? ⟨w.heap.size, 0, none⟩ = some (.int .u64 z) := by go_simp
  have k1 : (((((w2.setCell ⟨w.heap.size, 0, none⟩ (.int .u64 r.ts)).setCell ⟨w.heap.size, 1, none⟩ (.int .i64 r.dc)).setCell ⟨w.heap.size, 2, none⟩ (.int .i64 r.tx)).setCell ⟨w.heap.size, 3, none⟩ (.slice D l.length c)).setCell ⟨w.heap.size, 0, none⟩ (.int .u64 z)).cell? ⟨w.heap.size, 1, none⟩ = some (.int .i64 r.dc) := by go_simp
  have k2 : (((((w2.setCell ⟨w.heap.size, 0, none⟩ (.int .u64 r.ts)).setCell ⟨w.heap.size, 1, none⟩ (.int .i64 r.dc)).setCell ⟨w.heap.size, 2, none⟩ (.int .i64 r.tx)).setCell ⟨w.heap.size, 3, none⟩ (.slice D l.length c)).setCell ⟨w.heap.size, 0, none⟩ (.int .u64 z)).cell? ⟨w.heap.size, 2, none⟩ = some (.int .i64 r.tx) := by go_simp
  have k3 : (((((w2.setCell ⟨w.heap.size, 0, none⟩ (.int .u64 r.ts)).setCell ⟨w.heap.size, 1, none⟩ (.int .i64 r.dc)).setCell ⟨w.heap.size, 2, none⟩ (.int .i64 r.tx)).setCell ⟨w.heap.size, 3, none⟩ (.slice D l.length c)).setCell ⟨w.heap.size, 0, none⟩ (.int .u64 z)).cell? ⟨w.heap.size, 3, none⟩ = some (.slice D l.length c) := by go_simp
  have tS : Turns (one w.heap.size) w2 (((((w2.setCell ⟨w.heap.size, 0, none⟩ (.int .u64 r.ts)).setCell ⟨w.heap.size, 1, none⟩ (.int .i64 r.dc)).setCell ⟨w.heap.size, 2, none⟩ (.int .i64 r.tx)).setCell ⟨w.heap.size, 3, none⟩ (.slice D l.length c)).setCell ⟨w.heap.size, 0, none⟩ (.int .u64 z)) := ((((((Turns.refl (one w.heap.size) w2).set (a := ⟨w.heap.size, 0, none⟩) (fun _ => rfl) _).set (a := ⟨w.heap.size, 1, none⟩) (fun _ => rfl) _).set (a := ⟨w.heap.size, 2, none⟩) (fun _ => rfl) _).set (a := ⟨w.heap.size, 3, none⟩) (fun _ => rfl) _).set (a := ⟨w.heap.size, 0, none⟩) (fun _ => rfl) _)
  have m2 : w2.cell? ⟨w.heap.size + 1, 0, none⟩ = some (.int .i64 most) := cell_on (below_own hb1 hb2) (by rw [show w.heap.size + 1 = (w.alloc (.cells #[.int .u64 r.ts, .int .i64 r.dc, .int .i64 r.tx, .slice D r.vers.length c] 32)).heap.size from by simp]; exact (box_on (own_refl _)).1 0)
  have m0 : (((((w2.setCell ⟨w.heap.size, 0, none⟩ (.int .u64 r.ts)).setCell ⟨w.heap.size, 1, none⟩ (.int .i64 r.dc)).setCell ⟨w.heap.size, 2, none⟩ (.int .i64 r.tx)).setCell ⟨w.heap.size, 3, none⟩ (.slice D l.length c)).setCell ⟨w.heap.size, 0, none⟩ (.int .u64 z)).cell? ⟨w.heap.size + 1, 0, none⟩ = some (.int .i64 most) := tS.cell m2 (fun e => by have e : w.heap.size + 1 = w.heap.size := e; omega)
  have bW : Below w.heap.size w (((((w2.setCell ⟨w.heap.size, 0, none⟩ (.int .u64 r.ts)).setCell ⟨w.heap.size, 1, none⟩ (.int .i64 r.dc)).setCell ⟨w.heap.size, 2, none⟩ (.int .i64 r.tx)).setCell ⟨w.heap.size, 3, none⟩ (.slice D l.length c)).setCell ⟨w.heap.size, 0, none⟩ (.int .u64 z)) := own_set (own_set (own_set (own_set (own_set (below_own (below_own (own_alloc (own_alloc (own_refl w) _) _) hb1) hb2) (Nat.le_refl _) _) (Nat.le_refl _) _) (Nat.le_refl _) _) (Nat.le_refl _) _) (Nat.le_refl _) _
  have hBW : LogAt (((((w2.setCell ⟨w.heap.size, 0, none⟩ (.int .u64 r.ts)).setCell ⟨w.heap.size, 1, none⟩ (.int .i64 r.dc)).setCell ⟨w.heap.size, 2, none⟩ (.int .i64 r.tx)).setCell ⟨w.heap.size, 3, none⟩ (.slice D l.length c)).setCell ⟨w.heap.size, 0, none⟩ (.int .u64 z)) ((w.alloc (.cells #[.int .u64 r.ts, .int .i64 r.dc, .int .i64 r.tx, .slice D r.vers.length c] 32)).alloc (.cells #[.int .i64 most] 3)).heap.size b (.slice none 0 0) (.slice none 0 0) [] [] lg0 := by
    refine log_apart (hL1.on hb2) tS ?_ (by simp)
    rintro g (e | e | e) (e2 : _ = _)
    · omega
    · cases e
    · cases e
  have hsW : ((w.alloc (.cells #[.int .u64 r.ts, .int .i64 r.dc, .int .i64 r.tx, .slice D r.vers.length c] 32)).alloc (.cells #[.int .i64 most] 3)).heap.size ≤ (((((w2.setCell ⟨w.heap.size, 0, none⟩ (.int .u64 r.ts)).setCell ⟨w.heap.size, 1, none⟩ (.int .i64 r.dc)).setCell ⟨w.heap.size, 2, none⟩ (.int .i64 r.tx)).setCell ⟨w.heap.size, 3, none⟩ (.slice D l.length c)).setCell ⟨w.heap.size, 0, none⟩ (.int .u64 z)).heap.size := by have := tS.size; simp only [World.size_alloc] at *; omega
  obtain ⟨B, hBq⟩ : ∃ B, ((w.alloc (.cells #[.int .u64 r.ts, .int .i64 r.dc, .int .i64 r.tx, .slice D r.vers.length c] 32)).alloc (.cells #[.int .i64 most] 3)).heap.size = B := ⟨_, rfl⟩
  have hBv : B = w.heap.size + 2 := by rw [← hBq]; simp
  rw [hBq] at hBW hsW
  obtain ⟨W2, hW⟩ : ∃ W, (((((w2.setCell ⟨w.heap.size, 0, none⟩ (.int .u64 r.ts)).setCell ⟨w.heap.size, 1, none⟩ (.int .i64 r.dc)).setCell ⟨w.heap.size, 2, none⟩ (.int .i64 r.tx)).setCell ⟨w.heap.size, 3, none⟩ (.slice D l.length c)).setCell ⟨w.heap.size, 0, none⟩ (.int .u64 z)) = W := ⟨_, rfl⟩
  rw [hW] at k0 k1 k2 k3 m0 bW hBW hsW ⊢
  clear hW u0 u1 u2 u3 uf0 uf1 uf2 uf3 s0 s1 s2 s3 sf0 sf1 sf2 sf3 B2 hb1 hb2 hL1 tS m2 hBq hsz1 hsz2
  have hDW := hDf.on bW
  have hwW := bW.size
  refine (ocopy_any (⟨z, r.dc, r.tx, l⟩ : R) D _ c W2 rfl (by show l.length * 64 ≤ _; omega) hDW).mono ?_
  rintro e w3 ⟨DM, cpM, rfl, hownM, hb3⟩
  have hMb := row_blk hownM
  have hL3 := hBW.on hb3
  have z3 := hb3.size
  have v0 : (w3.alloc (.cells #[.int .u64 z, .int .i64 r.dc, .int .i64 r.tx, .slice DM l.length cpM] 32)).cell? ⟨w.heap.size, 0, none⟩ = some (.int .u64 z) := cell_on (own_alloc (own_refl _) _) (cell_on hb3 k0)
  have v1 : (w3.alloc (.cells #[.int .u64 z, .int .i64 r.dc, .int .i64 r.tx, .slice DM l.length cpM] 32)).cell? ⟨w.heap.size, 1, none⟩ = some (.int .i64 r.dc) := cell_on (own_alloc (own_refl _) _) (cell_on hb3 k1)
  have v2 : (w3.alloc (.cells #[.int .u64 z, .int .i64 r.dc, .int .i64 r.tx, .slice DM l.length cpM] 32)).cell? ⟨w.heap.size, 2, none⟩ = some (.int .i64 r.tx) := cell_on (own_alloc (own_refl _) _) (cell_on hb3 k2)
  have v3 : (w3.alloc (.cells #[.int .u64 z, .int .i64 r.dc, .int .i64 r.tx, .slice DM l.length cpM] 32)).cell? ⟨w.heap.size, 3, none⟩ = some (.slice D l.length c) := cell_on (own_alloc (own_refl _) _) (cell_on hb3 k3)
  have t0 : (w3.alloc (.cells #[.int .u64 z, .int .i64 r.dc, .int .i64 r.tx, .slice DM l.length cpM] 32)).cell? ⟨w3.heap.size, 0, none⟩ = some (.int .u64 z) := (box_on (own_refl _)).1 0
  have t1 : (w3.alloc (.cells #[.int .u64 z, .int .i64 r.dc, .int .i64 r.tx, .slice DM l.length cpM] 32)).cell? ⟨w3.heap.size, 1, none⟩ = some (.int .i64 r.dc) := (box_on (own_refl _)).1 1
  have t2 : (w3.alloc (.cells #[.int .u64 z, .int .i64 r.dc, .int .i64 r.tx, .slice DM l.length cpM] 32)).cell? ⟨w3.heap.size, 2, none⟩ = some (.int .i64 r.tx) := (box_on (own_refl _)).1 2
  have t3 : (w3.alloc (.cells #[.int .u64 z, .int .i64 r.dc, .int .i64 r.tx, .slice DM l.length cpM] 32)).cell? ⟨w3.heap.size, 3, none⟩ = some (.slice DM l.length cpM) := (box_on (own_refl _)).1 3
  have hbA : Below W2.heap.size W2 (w3.alloc (.cells #[.int .u64 z, .int .i64 r.dc, .int .i64 r.tx, .slice DM l.length cpM] 32)) := own_alloc hb3 _
  have hDA : Cells (w3.alloc (.cells #[.int .u64 z, .int .i64 r.dc, .int .i64 r.tx, .slice DM l.length cpM] 32)) D (flatV l) := hDW.on hbA
  have hMA : Cells (w3.alloc (.cells #[.int .u64 z, .int .i64 r.dc, .int .i64 r.tx, .slice DM l.length cpM] 32)) DM (flatV l) := (Cells.of_own hownM).on (own_alloc (own_refl _) _)
  have hsA : (w3.alloc (.cells #[.int .u64 z, .int .i64 r.dc, .int .i64 r.tx, .slice DM l.length cpM] 32)).heap.size = w3.heap.size + 1 := by simp
  go_wp2_with fail
  refine (same_rec (⟨z, r.dc, r.tx, l⟩ : R) DM D _ _ _ (w3.alloc (.cells #[.int .u64 z, .int .i64 r.dc, .int .i64 r.tx, .slice DM l.length cpM] 32)) rfl (by show l.length ≤ _; omega) hMA hDA).mono ?_
  rintro e w4 ⟨rfl, hb4⟩
  have z4 := hb4.size
  rw [hsA] at z4
  have t0' := cell_on hb4 t0
  have t1' := cell_on hb4 t1
  have t2' := cell_on hb4 t2
  have t3' := cell_on hb4 t3
  have hL4 := (hL3.on (own_alloc (own_refl _) _)).on hb4
  go_wp2_with fail
  refine (dec_first w4 B b hL4 (⟨z, r.dc, r.tx, l⟩ : R) DM cpM HZ1.1 (by show l.length ≤ 1000; omega) (hMA.on hb4) (by omega)).mono ?_
  rintro e w5 ⟨rfl, vw5, q, hqr, hqn, hL5, hT5, hO5⟩
  have z5 := hT5.size
  go_wp2_with fail
  refine (release_F w5 B b _ vw5 [] [q] ⟨[], [(⟨z, r.dc, r.tx, l⟩ : R)], 0⟩ hL5 (by simp) 18446744073709551615 (by omega)).mono ?_
  rintro e w6 ⟨rfl, vl6, vw6, hL6, hT6, hO6⟩
  obtain ⟨hx1, hx2⟩ := one_x (r := (⟨z, r.dc, r.tx, l⟩ : R)) HZ1.2
  rw [hx1, hx2] at hL6
  rw [show (([(⟨z, r.dc, r.tx, l⟩ : R)] : List R)) = [(⟨z, r.dc, r.tx, l⟩ : R)] from rfl, hx1]
  have hL6 : LogAt w6 B b vl6 vw6 [q] [] (⟨[(⟨z, r.dc, r.tx, l⟩ : R)], [], 18446744073709551615⟩ : Lg) := hL6
  have z6 := hT6.size
  clear hx1 hx2
  have hss : ∀ g, logS b (.slice none 0 0) (.slice none 0 0) g → one b g := by rintro g (e | e | e); exact e; cases e; cases e
  have T46 : Turns (one b) w4 w6 := (hT5.weaken (fun j _ e => hss j e)).on hT6 (fun j hj e => hss j (hO5 j hj e))
  have hbl3 := hBW.blt
  have cM : w6.cell? ⟨w3.heap.size, 3, none⟩ = some (.slice DM l.length cpM) := T46.cell t3' (fun e => by have e : w3.heap.size = b := e; omega)
  have T36 : Turns (one b) w3 w6 := (Turns.of_below (below_own (own_alloc (own_refl _) _) hb4)).on T46 (fun _ _ e => e)
  have T26 : Turns (one b) W2 w6 := (Turns.of_below (below_own hbA hb4)).on T46 (fun _ _ e => e)
  have FM : Flip w6 DM l.length := flip_on (flip_of hownM rfl) T36 (fun g hg e => by have e : g = b := e; have := (hMb g hg).1; omega)
  have hlg : ∀ g, logS b vl6 vw6 g → g = b ∨ w4.heap.size ≤ g := fun g e => by
    rcases Nat.lt_or_ge g w5.heap.size with c5 | c5
    · have e5 := hO6 g c5 e
      rcases Nat.lt_or_ge g w4.heap.size with c4 | c4
      · exact .inl (hss g (hO5 g c4 e5))
      · exact .inr c4
    · exact .inr (by omega)
  have HLG := Lib.hid hlg
  have HQN := Lib.hid hqn
  clear hT5 hO5 hT6 hO6 hL5 hL4 hL3 hBW T46 T36 hb3 hb4 t0 t1 t2 t3 t0' t1' t2' t3' v0 v1 v2 v3 hbA hDA hMA hownM hlg hqn hss hDW
  go_wp2_with fail
  go_loopw [41] (fun i wr => ∃ k : Nat, k ≤ l.length ∧ i = .int .i64 k ∧ Flip wr DM l.length ∧ Turns (fun j => Option.map Addr.block DM = some j) w6 wr) (fun i _ => l.length - (intOf i).toNat)
  case atStart => exact ⟨0, Nat.zero_le _, rfl, FM, Turns.refl _ _⟩
  case round =>
    obtain ⟨k, hk, rfl, hF, hT⟩ := hrel
    have cM' : wr.cell? ⟨w3.heap.size, 3, none⟩ = some (.slice DM l.length cpM) := hT.cell cM (fun e => by have := (hMb _ e).2; exact Nat.lt_irrefl _ this)
    by_cases hlt : k < l.length
    · obtain ⟨g, rfl, ⟨bb, hcb⟩, hfb⟩ := hF k hlt
      have q1' : (0 : Int) ≤ (k : Int) := by omega
      have q2' : (k : Int) < (l.length : Int) := by omega
      go_wp2_with fail
      go_region
      go_wp2
      go_roundw
      case rel => exact ⟨k + 1, by omega, by go_num, flip_drew (flip_set hF _ _), (hT.set (a := ⟨g, k * 6 + 2, none⟩) (fun _ => rfl) _).drew⟩
      case measure => simp [intOf]; omega
    · obtain rfl : k = l.length := by omega
      have HLr : LogAt wr B b vl6 vw6 [q] [] (⟨[(⟨z, r.dc, r.tx, l⟩ : R)], [], 18446744073709551615⟩ : Lg) := by
        refine log_apart hL6 hT ?_ ?_
        · intro g hg e
          have h1 := hMb g e
          rcases HLG.out g hg with e' | e' <;> omega
        · intro q' hq' g hg e
          have h1 := hMb g e
          rcases hq' with e' | e'
          · rw [List.mem_singleton.1 e'] at hg
            have := HQN.out g hg
            omega
          · cases e'
      have Tr : Turns (one b) W2 wr := T26.on hT (fun j hj e => by have := (hMb j e).1; omega)
      have zr := hT.size
      clear hL6 hT hF FM T26 cM cM'
      go_wp2_with (go_at_call 16; refine (from_any _ _ _).mono ?_; rintro e w' ⟨rfl, rfl⟩)
      obtain ⟨W0, hW0⟩ : ∃ W0, ((wr.alloc (.cells #[.pointer (some ⟨b, 0, none⟩)] 23)).alloc (.cells #[.int .i64 0] 3)) = W0 := ⟨_, rfl⟩
      have hs0 : W0.heap.size = wr.heap.size + 2 := by rw [← hW0]; simp
      have hb0 : Below wr.heap.size wr W0 := hW0 ▸ own_alloc (own_alloc (own_refl wr) _) _
      have hp0 : W0.cell? ⟨wr.heap.size, 0, none⟩ = some (.pointer (some ⟨b, 0, none⟩)) := by rw [← hW0]; exact cell_on (own_alloc (own_refl _) _) ((box_on (own_refl _)).1 0)
      have hp1 : W0.cell? ⟨wr.heap.size + 1, 0, none⟩ = some (.int .i64 0) := by rw [← hW0, show wr.heap.size + 1 = (wr.alloc (.cells #[.pointer (some ⟨b, 0, none⟩)] 23)).heap.size from by simp]; exact (box_on (own_refl _)).1 0
      have hfw : ∀ r' ∈ (⟨[(⟨z, r.dc, r.tx, l⟩ : R)], [], 18446744073709551615⟩ : Lg).list, r'.vers.length ≤ 12 := fun r' h => by rw [List.mem_singleton.1 h]; exact hl12
      rw [hW0]
      clear hW0
      refine wpIn_wide.1 (range_law (n := 5) rfl (by omega) (gf := 27) (lb := #[.pointer (some ⟨wr.heap.size, 0, none⟩), .pointer (some ⟨wr.heap.size + 1, 0, none⟩)]) rfl trivial (enters_of Try.func27 (by kernel_rfl) rfl)
        (from_hands 4 (by omega) wr.heap.size W0.heap.size wr.heap.size none' (fun g e => e.elim) (by omega) 0 0 rfl B b vl6 vw6 [q] [] (⟨[(⟨z, r.dc, r.tx, l⟩ : R)], [], 18446744073709551615⟩ : Lg) (by simp) hfw W0 hp0 hp1 (by omega) (HLr.on hb0) HLr.under (Nat.le_refl _)) (Below.refl _ _) (fun h k => h.trans k)
        (fun W l o o' hl ho hc => (turns_put W l o').weaken (fun j _ e => .inr (by have e : j = l := e; omega))) (fun _ => rfl)
        (fun _ W => Below W0.heap.size W0 W) (fun _ _ _ => False)
        (fun s W => RoundO W0 (fun y rb => #[.agg #[.int .u64 r.ts, .int .i64 r.dc, .int .i64 r.tx, .slice D r.vers.length c], .int .i64 most, .pointer (some ⟨w.heap.size, 0, none⟩), .pointer (some ⟨w.heap.size + 1, 0, none⟩), .bool false, .pointer (some ⟨b, 0, none⟩), .pointer (some ⟨w3.heap.size, 0, none⟩), u7, undef, .pointer (some ⟨rb, 0, none⟩), undef, undef, .pointer (some ⟨b, 0, none⟩), .pointer (some ⟨b, 0, none⟩), .bool false, .agg #[.int .u64 r.ts, .int .i64 r.dc, .int .i64 r.tx, .slice D r.vers.length c], .agg #[.int .u64 r.ts, .int .i64 r.dc, .int .i64 r.tx, .slice D l.length c], .pointer (some ⟨w.heap.size, 0, none⟩), .int .u64 r.ts, .int .u64 z, .pointer (some ⟨w.heap.size, 0, none⟩), .agg #[.int .u64 z, .int .i64 r.dc, .int .i64 r.tx, .slice D l.length c], .agg #[.int .u64 z, .int .i64 r.dc, .int .i64 r.tx, .slice DM l.length cpM], .agg #[.int .u64 z, .int .i64 r.dc, .int .i64 r.tx, .slice DM l.length cpM], .agg #[.int .u64 z, .int .i64 r.dc, .int .i64 r.tx, .slice D l.length c], .bool true, .bool false, .bool false, .pointer (some ⟨b, 0, none⟩), .agg #[.int .u64 z, .int .i64 r.dc, .int .i64 r.tx, .slice DM l.length cpM], .int .i64 0, .bool false, .bool false, .bool false, .pointer (some ⟨b, 0, none⟩), .int .i64 1, .bool false, .bool false, .pointer (some ⟨w3.heap.size, 3, none⟩), .slice DM l.length cpM, .int .i64 l.length, .int .i64 l.length, .bool false, u43, u44, u45, u46, u47, u48, u49, u50, u51, u52, u53, u54, u55, u56, .pointer (some ⟨b, 0, none⟩), .func (.func 27) #[] #[.pointer (some ⟨wr.heap.size, 0, none⟩), .pointer (some ⟨wr.heap.size + 1, 0, none⟩)], .int .i64 y.1, .agg #[.int .u64 y.2.r.ts, .int .i64 y.2.r.dc, .int .i64 y.2.r.tx, .slice y.2.D y.2.r.vers.length y.2.c], undef, undef, undef, undef, undef, undef, undef, undef, undef, undef, undef, undef, undef, undef, undef, undef, undef, undef, undef, undef, undef, undef, undef, undef, undef, undef, undef, undef, undef, undef, undef, undef, undef, undef, undef, undef, undef, undef, undef, undef, undef, undef, undef, undef, undef, undef, undef, undef, undef, undef, undef, undef, undef, undef]) s.2.1 s.2.2 W)
        (sturdy_below (Nat.le_refl _)) (fun _ _ _ _ _ hs _ _ => hs) (roundO_sturdy _ _ _ (Nat.le_refl _))
        (own_refl _) ?assign ?body ?done ?stop)
      case assign =>
        intro l' pre y W K hI hok hK
        have hly : y.2.r.vers.length ≤ 12 := hfw _ (List.mem_of_getElem? hok.1)
        have hrw := hok.2
        have hzz := hI.size
        unfold encN
        gi_wp2
        refine hK _ _ ?_ ?_ ?_
        · exact KeepsOthers.alloc _ _
        · exact (Turns.refl _ W).alloc _
        · exact ⟨own_alloc hI _, hly, hrw.alloc _, W.heap.size, hzz, fun g hg e => by have := (row_blk hrw g hg).2; omega, heap_alloc_new W _, rfl⟩
      case body =>
        intro l' pre y a' W hR hlt'
        change RoundO W0 _ y a' W at hR
        obtain ⟨hB, hly, hrw, rb, hrb, hgr, hrbc, rfl⟩ := hR
        obtain ⟨yi, yr, yD, yc⟩ := y
        dsimp only at hly hrw hgr hrbc ⊢
        have y3 : W.cell? ⟨rb, 3, none⟩ = some (.slice yD yr.vers.length yc) := cell_of_row _ _ 3 _ _ _ hrbc
        have hRb := row_blk hrw
        have FY := flip_of hrw rfl
        obtain ⟨N, hN⟩ : ∃ N, yr.vers.length = N := ⟨_, rfl⟩
        rw [hN] at y3 FY hly ⊢
        have HN := Lib.hid hN
        clear hrw hrbc
        gi_wp2
        gi_loopw [64] (fun i wq => ∃ k : Nat, k ≤ N ∧ i = .int .i64 k ∧ Flip wq yD N ∧ Turns (fun j => Option.map Addr.block yD = some j) W wq ∧ KeepsOthers W wq) (fun i _ => N - (intOf i).toNat)
        case atStart => exact ⟨0, Nat.zero_le _, rfl, FY, Turns.refl _ _, KeepsOthers.refl _⟩
        case round =>
          obtain ⟨k, hk, rfl, hF, hT, hKO⟩ := hrel
          have y3' := hT.cell y3 (fun e => hgr _ e rfl)
          by_cases hlt : k < N
          · obtain ⟨g, rfl, ⟨bb, hcb⟩, hfb⟩ := hF k hlt
            have q1' : (0 : Int) ≤ (k : Int) := by omega
            have q2' : (k : Int) < (N : Int) := by omega
            gi_wp2_with fail
            refine region_round (N := 13) rfl (by kernel_rfl) (by kernel_rfl) ?_
            refine wpAny_take (i := 0) (v := .pointer (some ⟨rb, 3, none⟩)) rfl (by kernel_rfl) (by kernel_rfl) (by kernel_rfl) (fun _ _ _ h => h) (Or.inl ⟨by kernel_rfl, fun W => by go_simp⟩) ?_
            refine wpAny_take (i := 2) (v := .int .i64 k) rfl (by kernel_rfl) (by kernel_rfl) (by kernel_rfl) (fun _ _ _ h => h) (Or.inl ⟨by kernel_rfl, fun W => by go_simp⟩) ?_
            refine wpAny_take (i := 3) (v := .pointer (some ⟨rb, 3, none⟩)) rfl (by kernel_rfl) (by kernel_rfl) (by kernel_rfl) (fun _ _ _ h => h) (Or.inl ⟨by kernel_rfl, fun W => by go_simp⟩) ?_
            refine wpAny_take (i := 5) (v := .int .i64 k) rfl (by kernel_rfl) (by kernel_rfl) (by kernel_rfl) (fun _ _ _ h => h) (Or.inl ⟨by kernel_rfl, fun W => by go_simp⟩) ?_
            refine wpAny_ready (rs := [1, 4]) (by kernel_rfl) (by simp) (AllReady.cons rfl (fun K hK => ?_) (AllReady.cons rfl (fun K hK => ?_) AllReady.nil))
            · go_simp
              refine hK _ _ ?_
              clear hK K
              refine wpAny_ready (rs := [4]) (by kernel_rfl) (by simp) (AllReady.cons rfl (fun K hK => ?_) AllReady.nil)
              go_simp
              refine hK _ _ ?_
              clear hK K
              refine wpAny_take (i := 6) (v := .pointer (some ⟨g, k * 6, none⟩)) rfl (by kernel_rfl) (by kernel_rfl) (by kernel_rfl) (fun _ _ _ h => h) (Or.inl ⟨by kernel_rfl, fun W => by go_simp⟩) ?_
              refine wpAny_take (i := 7) (v := .pointer (some ⟨g, k * 6 + 2, none⟩)) rfl (by kernel_rfl) (by kernel_rfl) (by kernel_rfl) (fun _ _ _ h => h) (Or.inl ⟨by kernel_rfl, fun W => by go_simp⟩) ?_
              refine wpAny_ready (rs := [8]) (by kernel_rfl) (by simp) (AllReady.cons rfl (fun K hK => ?_) AllReady.nil)
              go_simp
              refine hK _ _ ?_
              clear hK K
              refine wpAny_take (i := 9) (v := .bool (!bb)) rfl (by kernel_rfl) (by kernel_rfl) (by kernel_rfl) (fun _ _ _ h => h) (Or.inl ⟨by kernel_rfl, fun W => by go_simp⟩) ?_
              refine wpAny_take (i := 10) (v := .pointer (some ⟨g, k * 6, none⟩)) rfl (by kernel_rfl) (by kernel_rfl) (by kernel_rfl) (fun _ _ _ h => h) (Or.inl ⟨by kernel_rfl, fun W => by go_simp⟩) ?_
              refine wpAny_take (i := 11) (v := .pointer (some ⟨g, k * 6 + 2, none⟩)) rfl (by kernel_rfl) (by kernel_rfl) (by kernel_rfl) (fun _ _ _ h => h) (Or.inl ⟨by kernel_rfl, fun W => by go_simp⟩) ?_
              refine wpAny_ready (rs := [12]) (by kernel_rfl) (by simp) (AllReady.cons rfl (fun K hK => ?_) AllReady.nil)
              go_simp
              refine hK _ _ ?_
              clear hK K
              refine wpAny_done (by kernel_rfl) ?_ _
              simp only [onlyN]
              gi_wp2
              go_roundw
              case rel => exact ⟨k + 1, by omega, by go_num, flip_drew (flip_set hF _ _), (hT.set (a := ⟨g, k * 6 + 2, none⟩) (fun _ => rfl) _).drew, (hKO.trans (KeepsOthers.setCell _ _ _)).trans (KeepsOthers.drew _)⟩
              case measure => simp [intOf]; omega
            · go_simp
              refine hK _ _ ?_
              clear hK K
              refine wpAny_take (i := 6) (v := .pointer (some ⟨g, k * 6, none⟩)) rfl (by kernel_rfl) (by kernel_rfl) (by kernel_rfl) (fun _ _ _ h => h) (Or.inl ⟨by kernel_rfl, fun W => by go_simp⟩) ?_
              refine wpAny_take (i := 7) (v := .pointer (some ⟨g, k * 6 + 2, none⟩)) rfl (by kernel_rfl) (by kernel_rfl) (by kernel_rfl) (fun _ _ _ h => h) (Or.inl ⟨by kernel_rfl, fun W => by go_simp⟩) ?_
              refine wpAny_ready (rs := [1, 8]) (by kernel_rfl) (by simp) (AllReady.cons rfl (fun K hK => ?_) (AllReady.cons rfl (fun K hK => ?_) AllReady.nil))
              · go_simp
                refine hK _ _ ?_
                clear hK K
                refine wpAny_ready (rs := [8]) (by kernel_rfl) (by simp) (AllReady.cons rfl (fun K hK => ?_) AllReady.nil)
                go_simp
                refine hK _ _ ?_
                clear hK K
                refine wpAny_take (i := 9) (v := .bool (!bb)) rfl (by kernel_rfl) (by kernel_rfl) (by kernel_rfl) (fun _ _ _ h => h) (Or.inl ⟨by kernel_rfl, fun W => by go_simp⟩) ?_
                refine wpAny_take (i := 10) (v := .pointer (some ⟨g, k * 6, none⟩)) rfl (by kernel_rfl) (by kernel_rfl) (by kernel_rfl) (fun _ _ _ h => h) (Or.inl ⟨by kernel_rfl, fun W => by go_simp⟩) ?_
                refine wpAny_take (i := 11) (v := .pointer (some ⟨g, k * 6 + 2, none⟩)) rfl (by kernel_rfl) (by kernel_rfl) (by kernel_rfl) (fun _ _ _ h => h) (Or.inl ⟨by kernel_rfl, fun W => by go_simp⟩) ?_
                refine wpAny_ready (rs := [12]) (by kernel_rfl) (by simp) (AllReady.cons rfl (fun K hK => ?_) AllReady.nil)
                go_simp
                refine hK _ _ ?_
                clear hK K
                refine wpAny_done (by kernel_rfl) ?_ _
                simp only [onlyN]
                gi_wp2
                go_roundw
                case rel => exact ⟨k + 1, by omega, by go_num, flip_drew (flip_set hF _ _), (hT.set (a := ⟨g, k * 6 + 2, none⟩) (fun _ => rfl) _).drew, (hKO.trans (KeepsOthers.setCell _ _ _)).trans (KeepsOthers.drew _)⟩
                case measure => simp [intOf]; omega
              · go_simp
                refine hK _ _ ?_
                clear hK K
                refine wpAny_take (i := 9) (v := .bool (!bb)) rfl (by kernel_rfl) (by kernel_rfl) (by kernel_rfl) (fun _ _ _ h => h) (Or.inl ⟨by kernel_rfl, fun W => by go_simp⟩) ?_
                refine wpAny_ready (rs := [1]) (by kernel_rfl) (by simp) (AllReady.cons rfl (fun K hK => ?_) AllReady.nil)
                go_simp
                refine hK _ _ ?_
                clear hK K
                refine wpAny_take (i := 10) (v := .pointer (some ⟨g, k * 6, none⟩)) rfl (by kernel_rfl) (by kernel_rfl) (by kernel_rfl) (fun _ _ _ h => h) (Or.inl ⟨by kernel_rfl, fun W => by go_simp⟩) ?_
                refine wpAny_take (i := 11) (v := .pointer (some ⟨g, k * 6 + 2, none⟩)) rfl (by kernel_rfl) (by kernel_rfl) (by kernel_rfl) (fun _ _ _ h => h) (Or.inl ⟨by kernel_rfl, fun W => by go_simp⟩) ?_
                refine wpAny_ready (rs := [12]) (by kernel_rfl) (by simp) (AllReady.cons rfl (fun K hK => ?_) AllReady.nil)
                go_simp
                refine hK _ _ ?_
                clear hK K
                refine wpAny_done (by kernel_rfl) ?_ _
                simp only [onlyN]
                gi_wp2
                go_roundw
                case rel => exact ⟨k + 1, by omega, by go_num, flip_drew (flip_set hF _ _), (hT.set (a := ⟨g, k * 6 + 2, none⟩) (fun _ => rfl) _).drew, (hKO.trans (KeepsOthers.setCell _ _ _)).trans (KeepsOthers.drew _)⟩
                case measure => simp [intOf]; omega
          · obtain rfl : k = N := by omega
            gi_wp2
            exact ⟨hKO, hT.weaken (fun j _ e => .inr (hRb j e).1), hT.below hB (fun j e => (hRb j e).1)⟩
      case done =>
        intro D2 ys W hD2 hys hI hK2
        have r0 : W.cell? ⟨w.heap.size, 0, none⟩ = some (.int .u64 z) := cell_on hI (cell_on hb0 (Tr.cell k0 (fun e => by have e : w.heap.size = b := e; omega)))
        have r1 : W.cell? ⟨w.heap.size, 1, none⟩ = some (.int .i64 r.dc) := cell_on hI (cell_on hb0 (Tr.cell k1 (fun e => by have e : w.heap.size = b := e; omega)))
        have r2 : W.cell? ⟨w.heap.size, 2, none⟩ = some (.int .i64 r.tx) := cell_on hI (cell_on hb0 (Tr.cell k2 (fun e => by have e : w.heap.size = b := e; omega)))
        have r3 : W.cell? ⟨w.heap.size, 3, none⟩ = some (.slice D l.length c) := cell_on hI (cell_on hb0 (Tr.cell k3 (fun e => by have e : w.heap.size = b := e; omega)))
        have mW : W.cell? ⟨w.heap.size + 1, 0, none⟩ = some (.int .i64 most) := cell_on hI (cell_on hb0 (Tr.cell m0 (fun e => by have e : w.heap.size + 1 = b := e; omega)))
        have LW : LogAt W B b vl6 vw6 [q] [] (⟨[(⟨z, r.dc, r.tx, l⟩ : R)], [], 18446744073709551615⟩ : Lg) := (HLr.on hb0).on hI
        have bWW : Below w.heap.size w W := below_own (below_own (Tr.below bW (fun j e => by have e : j = b := e; omega)) hb0) hI
        have zW := bWW.size
        have zD2 : w.heap.size ≤ D2 := by have := Tr.size; omega
        clear hI hb0 HLr hp0 hp1 hs0 k0 k1 k2 k3 m0 hys hMb
        go_wp2_with (go_at_call 16; refine (from_any _ _ _).mono ?_; rintro e w' ⟨rfl, rfl⟩)
        obtain ⟨W1, hW1⟩ : ∃ W1, (((W.alloc (.cells #[.int .i64 0] 3)).alloc (.cells #[.pointer (some ⟨b, 0, none⟩)] 23)).alloc (.cells #[.int .i64 0] 3)) = W1 := ⟨_, rfl⟩
        have hs1 : W1.heap.size = W.heap.size + 3 := by rw [← hW1]; simp
        have hb1 : Below W.heap.size W W1 := hW1 ▸ own_alloc (own_alloc (own_alloc (own_refl W) _) _) _
        obtain ⟨hnb, hpb, hqb⟩ := three_new W (.cells #[.int .i64 0] 3) (.cells #[.pointer (some ⟨b, 0, none⟩)] 23) (.cells #[.int .i64 0] 3)
        rw [hW1] at hnb hpb hqb
        have hp0 : W1.cell? ⟨W.heap.size + 1, 0, none⟩ = some (.pointer (some ⟨b, 0, none⟩)) := cell_of_row _ _ 0 _ _ _ hpb
        have hp1 : W1.cell? ⟨W.heap.size + 1 + 1, 0, none⟩ = some (.int .i64 0) := cell_of_row _ _ 0 _ _ _ hqb
        have hL1 := LW.on hb1
        have hu := LW.under
        rw [hW1]
        clear hW1 hpb hqb
        refine wpIn_wide.1 (range_law (n := 5) rfl (by omega) (gf := 27) (lb := #[.pointer (some ⟨W.heap.size + 1, 0, none⟩), .pointer (some ⟨W.heap.size + 1 + 1, 0, none⟩)]) rfl trivial (enters_of Try.func27 (by kernel_rfl) rfl)
          (from_hands 4 (by omega) (W.heap.size + 1) (W.heap.size + 3) W.heap.size (one W.heap.size) (fun g e => by have e : g = W.heap.size := e; omega) (by omega) 0 0 rfl B b vl6 vw6 [q] [] (⟨[(⟨z, r.dc, r.tx, l⟩ : R)], [], 18446744073709551615⟩ : Lg) (by simp) hfw W1 hp0 hp1 (by omega) hL1 hu (by omega)) (Below.refl _ _) (fun h k => h.trans k)
          (fun X l o o' hl ho hc => (turns_put X l o').weaken (fun j _ e => .inr (by have e : j = l := e; omega))) (fun _ => rfl)
          (fun pre X => CntN W pre.length X) (fun c _ X => c = .exit 6 ∧ most = 0 ∧ CntN W 0 X)
          (fun s X => CntN W s.1.length X ∧ s.2.2 = (⟨(fun (y : Nq) => #[.agg #[.int .u64 r.ts, .int .i64 r.dc, .int .i64 r.tx, .slice D r.vers.length c], .int .i64 most, .pointer (some ⟨w.heap.size, 0, none⟩), .pointer (some ⟨w.heap.size + 1, 0, none⟩), .bool false, .pointer (some ⟨b, 0, none⟩), .pointer (some ⟨w3.heap.size, 0, none⟩), u7, undef, undef, undef, .pointer (some ⟨W.heap.size, 0, none⟩), .pointer (some ⟨b, 0, none⟩), .pointer (some ⟨b, 0, none⟩), .bool false, .agg #[.int .u64 r.ts, .int .i64 r.dc, .int .i64 r.tx, .slice D r.vers.length c], .agg #[.int .u64 r.ts, .int .i64 r.dc, .int .i64 r.tx, .slice D l.length c], .pointer (some ⟨w.heap.size, 0, none⟩), .int .u64 r.ts, .int .u64 z, .pointer (some ⟨w.heap.size, 0, none⟩), .agg #[.int .u64 z, .int .i64 r.dc, .int .i64 r.tx, .slice D l.length c], .agg #[.int .u64 z, .int .i64 r.dc, .int .i64 r.tx, .slice DM l.length cpM], .agg #[.int .u64 z, .int .i64 r.dc, .int .i64 r.tx, .slice DM l.length cpM], .agg #[.int .u64 z, .int .i64 r.dc, .int .i64 r.tx, .slice D l.length c], .bool true, .bool false, .bool false, .pointer (some ⟨b, 0, none⟩), .agg #[.int .u64 z, .int .i64 r.dc, .int .i64 r.tx, .slice DM l.length cpM], .int .i64 0, .bool false, .bool false, .bool false, .pointer (some ⟨b, 0, none⟩), .int .i64 1, .bool false, .bool false, .pointer (some ⟨w3.heap.size, 3, none⟩), .slice DM l.length cpM, .int .i64 l.length, .int .i64 l.length, .bool false, u43, u44, u45, u46, u47, u48, u49, u50, u51, u52, u53, u54, u55, u56, .pointer (some ⟨b, 0, none⟩), .func (.func 27) #[] #[.pointer (some ⟨wr.heap.size, 0, none⟩), .pointer (some ⟨wr.heap.size + 1, 0, none⟩)], undef, undef, undef, undef, undef, undef, undef, undef, undef, undef, undef, undef, undef, undef, undef, undef, undef, undef, undef, undef, undef, .pointer (some ⟨b, 0, none⟩), .func (.func 27) #[] #[.pointer (some ⟨W.heap.size + 1, 0, none⟩), .pointer (some ⟨W.heap.size + 1 + 1, 0, none⟩)], .int .i64 y.1, .agg #[.int .u64 y.2.r.ts, .int .i64 y.2.r.dc, .int .i64 y.2.r.tx, .slice y.2.D y.2.r.vers.length y.2.c], undef, undef, undef, undef, undef, undef, undef, undef, undef, undef, undef, undef, undef, undef, undef, undef, undef, undef, undef, undef, undef, undef, undef, undef, undef, undef, undef, undef, undef, undef, undef]) s.2.1, []⟩ : Act))
          (cntN_sturdy W List.length _ (by omega)) (fun c s X X' S h ht hS => ⟨h.1, h.2.1, cntN_sturdy W (fun _ => 0) _ (by omega) s X X' S h.2.2 ht hS⟩) (fun s X X' S h ht hS => ⟨cntN_sturdy W List.length _ (by omega) s.1 X X' S h.1 ht hS, h.2⟩)
          ⟨hnb, hb1, by omega⟩ ?assign2 ?body2 ?done2 ?stop2)
        case assign2 =>
          intro l' pre y X K hI hok hK
          unfold encN
          gi_wp2
          refine hK _ _ (KeepsOthers.refl _) (Turns.refl _ _) ⟨hI, rfl⟩
        case body2 =>
          intro l' pre y a' X hA hlt
          obtain ⟨⟨hn, hBX, hsz⟩, h9⟩ := hA
          dsimp only at h9
          subst h9
          obtain rfl : pre = [] := List.eq_nil_of_length_eq_zero (by have hlt : pre.length < 1 := hlt; omega)
          have cn : X.cell? ⟨W.heap.size, 0, none⟩ = some (.int .i64 0) := cell_of_row _ _ 0 _ _ _ hn
          have fn : X.frozen? ⟨W.heap.size, 0, none⟩ = false := by simp [World.frozen?, hn]
          have cm : X.cell? ⟨w.heap.size + 1, 0, none⟩ = some (.int .i64 most) := cell_on hBX mW
          have HBX := Lib.hid hBX
          by_cases h0 : most = 0
          · subst h0
            gi_wp2
            exact ⟨KeepsOthers.refl _, rfl, hn, HBX.out, hsz⟩
          · have h0' : decide ((0 : Int) = most) = false := by simp; omega
            gi_wp2
            have hob2 := heap_setCell_same X W.heap.size 0 _ _ (.int .i64 1) hn
            exact ⟨KeepsOthers.setCell _ _ _, ((Turns.refl (one W.heap.size) X).set (a := ⟨W.heap.size, 0, none⟩) (fun _ => rfl) _).weaken (fun j _ e => .inl e), by rw [hob2]; rfl, own_set HBX.out (Nat.le_refl _) _, by simp; exact hsz⟩
        case done2 =>
          intro D3 ys X hD3 hys hI hK3
          have hl1 : ys.length = 1 := hys.1
          rw [hl1] at hI
          obtain ⟨hn, hBX, hsz⟩ := hI
          clear hys hl1
          have cn : X.cell? ⟨W.heap.size, 0, none⟩ = some (.int .i64 1) := cell_of_row _ _ 0 _ _ _ hn
          have cm : X.cell? ⟨w.heap.size + 1, 0, none⟩ = some (.int .i64 most) := cell_on hBX mW
          have c0 : X.cell? ⟨w.heap.size, 0, none⟩ = some (.int .u64 z) := cell_on hBX r0
          have c1 : X.cell? ⟨w.heap.size, 1, none⟩ = some (.int .i64 r.dc) := cell_on hBX r1
          have c2 : X.cell? ⟨w.heap.size, 2, none⟩ = some (.int .i64 r.tx) := cell_on hBX r2
          have c3 : X.cell? ⟨w.heap.size, 3, none⟩ = some (.slice D l.length c) := cell_on hBX r3
          have LX : LogAt X B b vl6 vw6 [q] [] (⟨[(⟨z, r.dc, r.tx, l⟩ : R)], [], 18446744073709551615⟩ : Lg) := LW.on hBX
          have bX : Below w.heap.size w X := below_own bWW hBX
          have K2X : X.heap[D2]? = some (.deferred (some [])) := (hBX.block D2 (Array.getElem?_eq_some_iff.1 hK2).1).trans hK2
          have DX : Cells X D (flatV l) := hDf.on bX
          have HFW := Lib.hid hfw
          clear hn hBX hsz LW bWW r0 r1 r2 r3 mW hL1 hu hp0 hp1 hnb hb1 hfw
          go_wp2_with fail
          refine region_plain (N := 27) rfl (by kernel_rfl) ?_
          refine wpAny_ready (rs := [0]) (by kernel_rfl) (by simp) (AllReady.cons rfl (fun K hK => ?_) AllReady.nil)
          go_simp
          refine (awake_any _).mono ?_
          rintro e w7 ⟨rfl, hb7⟩
          have b7 : Below X.heap.size X w7 := below_own (own_drew (own_refl X)) hb7
          have c07 := cell_on b7 c0
          have c17 := cell_on b7 c1
          have c27 := cell_on b7 c2
          have c37 := cell_on b7 c3
          have cn7 := cell_on b7 cn
          have cm7 := cell_on b7 cm
          refine hK _ _ ?_
          clear hK K
          refine wpAny_take (i := 1) (v := .bool true) rfl (by kernel_rfl) (by kernel_rfl) (by kernel_rfl) (fun _ _ _ h => h) (Or.inl ⟨by kernel_rfl, fun W => by go_simp⟩) ?_
          refine wpAny_take (i := 2) (v := .pointer (some ⟨b, 0, none⟩)) rfl (by kernel_rfl) (by kernel_rfl) (by kernel_rfl) (fun _ _ _ h => h) (Or.inl ⟨by kernel_rfl, fun W => by go_simp⟩) ?_
          refine wpAny_ready (rs := [3, 4]) (by kernel_rfl) (by simp) (AllReady.cons rfl (fun K hK => ?_) (AllReady.cons rfl (fun K hK => ?_) AllReady.nil))
          · go_simp
            refine (stable_any w7 B b vl6 vw6 [q] [] (⟨[(⟨z, r.dc, r.tx, l⟩ : R)], [], 18446744073709551615⟩ : Lg) (LX.on b7) (-5) 0 (by simp) (by simp) HFW.out).mono ?_
            rintro e w8 ⟨D1, cp1, K1, rfl, hrow1, hmr1, hq1, hb8⟩
            rw [List.drop_zero] at hrow1 hmr1 ⊢
            have b8 : Below X.heap.size X w8 := below_own b7 hb8
            have c08 := cell_on b8 c0
            have c18 := cell_on b8 c1
            have c28 := cell_on b8 c2
            have c38 := cell_on b8 c3
            have cn8 := cell_on b8 cn
            have cm8 := cell_on b8 cm
            refine hK _ _ ?_
            clear hK K
            refine wpAny_ready (rs := [4]) (by kernel_rfl) (by simp) (AllReady.cons rfl (fun K hK => ?_) AllReady.nil)
            go_simp
            refine hK _ _ ?_
            clear hK K
            refine wpAny_ready (rs := [5]) (by kernel_rfl) (by simp) (AllReady.cons rfl (fun K hK => ?_) AllReady.nil)
            go_simp
            refine hK _ _ ?_
            clear hK K
            refine wpAny_ready (rs := [6]) (by kernel_rfl) (by simp) (AllReady.cons rfl (fun K hK => ?_) AllReady.nil)
            go_simp
            refine (same_cells D1 (some ⟨w8.heap.size, 0, none⟩) 1 cp1 1 K1 [⟨(⟨z, r.dc, r.tx, l⟩ : R), D, c⟩] (w8.alloc (.cells #[.int .u64 z, .int .i64 r.dc, .int .i64 r.tx, .slice D l.length c] 32)) (by have h9 := congrArg List.length hmr1; rwa [List.length_map] at h9) (by omega) ((Cells.of_own hrow1).on (own_alloc (own_refl _) _)) (Cells.new w8 _ _) hmr1 (fun q hq => (hq1 q hq).1.on (own_alloc (own_refl _) _)) (fun q hq => by rw [List.mem_singleton.1 hq]; exact DX.on (own_alloc b8 _)) (fun q hq => by have h9 : q.r ∈ K1.map Q.r := List.mem_map_of_mem hq; rw [hmr1] at h9; rw [List.mem_singleton.1 h9]; exact Nat.le_trans hl12 (by omega))).mono ?_
            rintro e w9 ⟨rfl, hb9⟩
            have b9 : Below X.heap.size X w9 := below_own (own_alloc b8 _) hb9
            have c09 := cell_on b9 c0
            have c19 := cell_on b9 c1
            have c29 := cell_on b9 c2
            have c39 := cell_on b9 c3
            have cn9 := cell_on b9 cn
            have cm9 := cell_on b9 cm
            refine hK _ _ ?_
            clear hK K
            refine wpAny_take (i := 7) (v := .bool true) rfl (by kernel_rfl) (by kernel_rfl) (by kernel_rfl) (fun _ _ _ h => h) (Or.inl ⟨by kernel_rfl, fun W => by go_simp⟩) ?_
            refine wpAny_take (i := 8) (v := .bool true) rfl (by kernel_rfl) (by kernel_rfl) (by kernel_rfl) (fun _ _ _ h => h) (Or.inl ⟨by kernel_rfl, fun W => by go_simp⟩) ?_
            refine wpAny_take (i := 9) (v := .pointer (some ⟨b, 0, none⟩)) rfl (by kernel_rfl) (by kernel_rfl) (by kernel_rfl) (fun _ _ _ h => h) (Or.inl ⟨by kernel_rfl, fun W => by go_simp⟩) ?_
            refine wpAny_ready (rs := [10]) (by kernel_rfl) (by simp) (AllReady.cons rfl (fun K hK => ?_) AllReady.nil)
            go_simp
            refine (stable_any w9 B b vl6 vw6 [q] [] (⟨[(⟨z, r.dc, r.tx, l⟩ : R)], [], 18446744073709551615⟩ : Lg) (LX.on b9) 1 1 (by simp) (by simp) HFW.out).mono ?_
            rintro e w10 ⟨D4, cp4, K4, rfl, _, _, _, hb10⟩
            rw [show ((⟨[(⟨z, r.dc, r.tx, l⟩ : R)], [], 18446744073709551615⟩ : Lg).list.drop 1).length = 0 from rfl]
            have b10 : Below X.heap.size X w10 := below_own b9 hb10
            have c010 := cell_on b10 c0
            have c110 := cell_on b10 c1
            have c210 := cell_on b10 c2
            have c310 := cell_on b10 c3
            have cn10 := cell_on b10 cn
            have cm10 := cell_on b10 cm
            refine hK _ _ ?_
            clear hK K
            refine wpAny_take (i := 11) (v := .int .i64 0) rfl (by kernel_rfl) (by kernel_rfl) (by kernel_rfl) (fun _ _ _ h => h) (Or.inl ⟨by kernel_rfl, fun W => by go_simp⟩) ?_
            refine wpAny_take (i := 12) (v := .bool true) rfl (by kernel_rfl) (by kernel_rfl) (by kernel_rfl) (fun _ _ _ h => h) (Or.inl ⟨by kernel_rfl, fun W => by go_simp⟩) ?_
            refine wpAny_take (i := 13) (v := .bool true) rfl (by kernel_rfl) (by kernel_rfl) (by kernel_rfl) (fun _ _ _ h => h) (Or.inl ⟨by kernel_rfl, fun W => by go_simp⟩) ?_
            refine wpAny_take (i := 14) (v := .bool true) rfl (by kernel_rfl) (by kernel_rfl) (by kernel_rfl) (fun _ _ _ h => h) (Or.inl ⟨by kernel_rfl, fun W => by go_simp⟩) ?_
            refine wpAny_ready (rs := [15]) (by kernel_rfl) (by simp) (AllReady.cons rfl (fun K hK => ?_) AllReady.nil)
            go_simp
            refine hK _ _ ?_
            clear hK K
            refine wpAny_take (i := 16) (v := .bool true) rfl (by kernel_rfl) (by kernel_rfl) (by kernel_rfl) (fun _ _ _ h => h) (Or.inl ⟨by kernel_rfl, fun W => by go_simp⟩) ?_
            refine wpAny_take (i := 17) (v := .bool true) rfl (by kernel_rfl) (by kernel_rfl) (by kernel_rfl) (fun _ _ _ h => h) (Or.inl ⟨by kernel_rfl, fun W => by go_simp⟩) ?_
            refine wpAny_take (i := 18) (v := undef) rfl (by kernel_rfl) (by kernel_rfl) (by kernel_rfl) (fun _ _ _ h => h) (Or.inr ⟨by kernel_rfl, rfl⟩) ?_
            refine wpAny_take (i := 19) (v := undef) rfl (by kernel_rfl) (by kernel_rfl) (by kernel_rfl) (fun _ _ _ h => h) (Or.inr ⟨by kernel_rfl, rfl⟩) ?_
            refine wpAny_take (i := 20) (v := undef) rfl (by kernel_rfl) (by kernel_rfl) (by kernel_rfl) (fun _ _ _ h => h) (Or.inr ⟨by kernel_rfl, rfl⟩) ?_
            refine wpAny_take (i := 21) (v := undef) rfl (by kernel_rfl) (by kernel_rfl) (by kernel_rfl) (fun _ _ _ h => h) (Or.inr ⟨by kernel_rfl, rfl⟩) ?_
            refine wpAny_take (i := 22) (v := undef) rfl (by kernel_rfl) (by kernel_rfl) (by kernel_rfl) (fun _ _ _ h => h) (Or.inr ⟨by kernel_rfl, rfl⟩) ?_
            refine wpAny_take (i := 23) (v := undef) rfl (by kernel_rfl) (by kernel_rfl) (by kernel_rfl) (fun _ _ _ h => h) (Or.inr ⟨by kernel_rfl, rfl⟩) ?_
            refine wpAny_take (i := 24) (v := .bool true) rfl (by kernel_rfl) (by kernel_rfl) (by kernel_rfl) (fun _ _ _ h => h) (Or.inl ⟨by kernel_rfl, fun W => by go_simp⟩) ?_
            refine wpAny_take (i := 25) (v := .bool true) rfl (by kernel_rfl) (by kernel_rfl) (by kernel_rfl) (fun _ _ _ h => h) (Or.inl ⟨by kernel_rfl, fun W => by go_simp⟩) ?_
            refine wpAny_take (i := 26) (v := .bool true) rfl (by kernel_rfl) (by kernel_rfl) (by kernel_rfl) (fun _ _ _ h => h) (Or.inl ⟨by kernel_rfl, fun W => by go_simp⟩) ?_
            refine wpAny_done (by kernel_rfl) ?_ _
            simp only [onlyN]
            go_wp2_with fail
            have hl2 := (Array.getElem?_eq_some_iff.1 hK2).1
            have e2 : w10.heap[D2]? = some (.deferred (some [])) := (b10.block D2 (Array.getElem?_eq_some_iff.1 K2X).1).trans K2X
            have e3 : w10.heap[D3]? = some (.deferred (some [])) := (b10.block D3 (Array.getElem?_eq_some_iff.1 hK3).1).trans hK3
            exact owns_leave e2 e3 (by omega) rfl (below_own bX b10) (by omega) (by omega)
          · go_simp
            refine hK _ _ ?_
            clear hK K
            refine wpAny_ready (rs := [3, 5]) (by kernel_rfl) (by simp) (AllReady.cons rfl (fun K hK => ?_) (AllReady.cons rfl (fun K hK => ?_) AllReady.nil))
            · go_simp
              refine (stable_any w7 B b vl6 vw6 [q] [] (⟨[(⟨z, r.dc, r.tx, l⟩ : R)], [], 18446744073709551615⟩ : Lg) (LX.on b7) (-5) 0 (by simp) (by simp) HFW.out).mono ?_
              rintro e w8 ⟨D1, cp1, K1, rfl, hrow1, hmr1, hq1, hb8⟩
              rw [List.drop_zero] at hrow1 hmr1 ⊢
              have b8 : Below X.heap.size X w8 := below_own b7 hb8
              have c08 := cell_on b8 c0
              have c18 := cell_on b8 c1
              have c28 := cell_on b8 c2
              have c38 := cell_on b8 c3
              have cn8 := cell_on b8 cn
              have cm8 := cell_on b8 cm
              refine hK _ _ ?_
              clear hK K
              refine wpAny_ready (rs := [5]) (by kernel_rfl) (by simp) (AllReady.cons rfl (fun K hK => ?_) AllReady.nil)
              go_simp
              refine hK _ _ ?_
              clear hK K
              refine wpAny_ready (rs := [6]) (by kernel_rfl) (by simp) (AllReady.cons rfl (fun K hK => ?_) AllReady.nil)
              go_simp
              refine (same_cells D1 (some ⟨w8.heap.size, 0, none⟩) 1 cp1 1 K1 [⟨(⟨z, r.dc, r.tx, l⟩ : R), D, c⟩] (w8.alloc (.cells #[.int .u64 z, .int .i64 r.dc, .int .i64 r.tx, .slice D l.length c] 32)) (by have h9 := congrArg List.length hmr1; rwa [List.length_map] at h9) (by omega) ((Cells.of_own hrow1).on (own_alloc (own_refl _) _)) (Cells.new w8 _ _) hmr1 (fun q hq => (hq1 q hq).1.on (own_alloc (own_refl _) _)) (fun q hq => by rw [List.mem_singleton.1 hq]; exact DX.on (own_alloc b8 _)) (fun q hq => by have h9 : q.r ∈ K1.map Q.r := List.mem_map_of_mem hq; rw [hmr1] at h9; rw [List.mem_singleton.1 h9]; exact Nat.le_trans hl12 (by omega))).mono ?_
              rintro e w9 ⟨rfl, hb9⟩
              have b9 : Below X.heap.size X w9 := below_own (own_alloc b8 _) hb9
              have c09 := cell_on b9 c0
              have c19 := cell_on b9 c1
              have c29 := cell_on b9 c2
              have c39 := cell_on b9 c3
              have cn9 := cell_on b9 cn
              have cm9 := cell_on b9 cm
              refine hK _ _ ?_
              clear hK K
              refine wpAny_take (i := 7) (v := .bool true) rfl (by kernel_rfl) (by kernel_rfl) (by kernel_rfl) (fun _ _ _ h => h) (Or.inl ⟨by kernel_rfl, fun W => by go_simp⟩) ?_
              refine wpAny_take (i := 8) (v := .bool true) rfl (by kernel_rfl) (by kernel_rfl) (by kernel_rfl) (fun _ _ _ h => h) (Or.inl ⟨by kernel_rfl, fun W => by go_simp⟩) ?_
              refine wpAny_take (i := 9) (v := .pointer (some ⟨b, 0, none⟩)) rfl (by kernel_rfl) (by kernel_rfl) (by kernel_rfl) (fun _ _ _ h => h) (Or.inl ⟨by kernel_rfl, fun W => by go_simp⟩) ?_
              refine wpAny_ready (rs := [10]) (by kernel_rfl) (by simp) (AllReady.cons rfl (fun K hK => ?_) AllReady.nil)
              go_simp
              refine (stable_any w9 B b vl6 vw6 [q] [] (⟨[(⟨z, r.dc, r.tx, l⟩ : R)], [], 18446744073709551615⟩ : Lg) (LX.on b9) 1 1 (by simp) (by simp) HFW.out).mono ?_
              rintro e w10 ⟨D4, cp4, K4, rfl, _, _, _, hb10⟩
              rw [show ((⟨[(⟨z, r.dc, r.tx, l⟩ : R)], [], 18446744073709551615⟩ : Lg).list.drop 1).length = 0 from rfl]
              have b10 : Below X.heap.size X w10 := below_own b9 hb10
              have c010 := cell_on b10 c0
              have c110 := cell_on b10 c1
              have c210 := cell_on b10 c2
              have c310 := cell_on b10 c3
              have cn10 := cell_on b10 cn
              have cm10 := cell_on b10 cm
              refine hK _ _ ?_
              clear hK K
              refine wpAny_take (i := 11) (v := .int .i64 0) rfl (by kernel_rfl) (by kernel_rfl) (by kernel_rfl) (fun _ _ _ h => h) (Or.inl ⟨by kernel_rfl, fun W => by go_simp⟩) ?_
              refine wpAny_take (i := 12) (v := .bool true) rfl (by kernel_rfl) (by kernel_rfl) (by kernel_rfl) (fun _ _ _ h => h) (Or.inl ⟨by kernel_rfl, fun W => by go_simp⟩) ?_
              refine wpAny_take (i := 13) (v := .bool true) rfl (by kernel_rfl) (by kernel_rfl) (by kernel_rfl) (fun _ _ _ h => h) (Or.inl ⟨by kernel_rfl, fun W => by go_simp⟩) ?_
              refine wpAny_take (i := 14) (v := .bool true) rfl (by kernel_rfl) (by kernel_rfl) (by kernel_rfl) (fun _ _ _ h => h) (Or.inl ⟨by kernel_rfl, fun W => by go_simp⟩) ?_
              refine wpAny_ready (rs := [15]) (by kernel_rfl) (by simp) (AllReady.cons rfl (fun K hK => ?_) AllReady.nil)
              go_simp
              refine hK _ _ ?_
              clear hK K
              refine wpAny_take (i := 16) (v := .bool true) rfl (by kernel_rfl) (by kernel_rfl) (by kernel_rfl) (fun _ _ _ h => h) (Or.inl ⟨by kernel_rfl, fun W => by go_simp⟩) ?_
              refine wpAny_take (i := 17) (v := .bool true) rfl (by kernel_rfl) (by kernel_rfl) (by kernel_rfl) (fun _ _ _ h => h) (Or.inl ⟨by kernel_rfl, fun W => by go_simp⟩) ?_
              refine wpAny_take (i := 18) (v := undef) rfl (by kernel_rfl) (by kernel_rfl) (by kernel_rfl) (fun _ _ _ h => h) (Or.inr ⟨by kernel_rfl, rfl⟩) ?_
              refine wpAny_take (i := 19) (v := undef) rfl (by kernel_rfl) (by kernel_rfl) (by kernel_rfl) (fun _ _ _ h => h) (Or.inr ⟨by kernel_rfl, rfl⟩) ?_
              refine wpAny_take (i := 20) (v := undef) rfl (by kernel_rfl) (by kernel_rfl) (by kernel_rfl) (fun _ _ _ h => h) (Or.inr ⟨by kernel_rfl, rfl⟩) ?_
              refine wpAny_take (i := 21) (v := undef) rfl (by kernel_rfl) (by kernel_rfl) (by kernel_rfl) (fun _ _ _ h => h) (Or.inr ⟨by kernel_rfl, rfl⟩) ?_
              refine wpAny_take (i := 22) (v := undef) rfl (by kernel_rfl) (by kernel_rfl) (by kernel_rfl) (fun _ _ _ h => h) (Or.inr ⟨by kernel_rfl, rfl⟩) ?_
              refine wpAny_take (i := 23) (v := undef) rfl (by kernel_rfl) (by kernel_rfl) (by kernel_rfl) (fun _ _ _ h => h) (Or.inr ⟨by kernel_rfl, rfl⟩) ?_
              refine wpAny_take (i := 24) (v := .bool true) rfl (by kernel_rfl) (by kernel_rfl) (by kernel_rfl) (fun _ _ _ h => h) (Or.inl ⟨by kernel_rfl, fun W => by go_simp⟩) ?_
              refine wpAny_take (i := 25) (v := .bool true) rfl (by kernel_rfl) (by kernel_rfl) (by kernel_rfl) (fun _ _ _ h => h) (Or.inl ⟨by kernel_rfl, fun W => by go_simp⟩) ?_
              refine wpAny_take (i := 26) (v := .bool true) rfl (by kernel_rfl) (by kernel_rfl) (by kernel_rfl) (fun _ _ _ h => h) (Or.inl ⟨by kernel_rfl, fun W => by go_simp⟩) ?_
              refine wpAny_done (by kernel_rfl) ?_ _
              simp only [onlyN]
              go_wp2_with fail
              have hl2 := (Array.getElem?_eq_some_iff.1 hK2).1
              have e2 : w10.heap[D2]? = some (.deferred (some [])) := (b10.block D2 (Array.getElem?_eq_some_iff.1 K2X).1).trans K2X
              have e3 : w10.heap[D3]? = some (.deferred (some [])) := (b10.block D3 (Array.getElem?_eq_some_iff.1 hK3).1).trans hK3
              exact owns_leave e2 e3 (by omega) rfl (below_own bX b10) (by omega) (by omega)
            · go_simp
              refine hK _ _ ?_
              clear hK K
              refine wpAny_ready (rs := [3]) (by kernel_rfl) (by simp) (AllReady.cons rfl (fun K hK => ?_) AllReady.nil)
              go_simp
              refine (stable_any (w7.alloc (.cells #[.int .u64 z, .int .i64 r.dc, .int .i64 r.tx, .slice D l.length c] 32)) B b vl6 vw6 [q] [] (⟨[(⟨z, r.dc, r.tx, l⟩ : R)], [], 18446744073709551615⟩ : Lg) (LX.on (own_alloc b7 _)) (-5) 0 (by simp) (by simp) HFW.out).mono ?_
              rintro e w8 ⟨D1, cp1, K1, rfl, hrow1, hmr1, hq1, hb8⟩
              rw [List.drop_zero] at hrow1 hmr1 ⊢
              have b8 : Below X.heap.size X w8 := below_own (own_alloc b7 _) hb8
              have c08 := cell_on b8 c0
              have c18 := cell_on b8 c1
              have c28 := cell_on b8 c2
              have c38 := cell_on b8 c3
              have cn8 := cell_on b8 cn
              have cm8 := cell_on b8 cm
              refine hK _ _ ?_
              clear hK K
              refine wpAny_ready (rs := [6]) (by kernel_rfl) (by simp) (AllReady.cons rfl (fun K hK => ?_) AllReady.nil)
              go_simp
              refine (same_cells D1 (some ⟨w7.heap.size, 0, none⟩) 1 cp1 1 K1 [⟨(⟨z, r.dc, r.tx, l⟩ : R), D, c⟩] w8 (by have h9 := congrArg List.length hmr1; rwa [List.length_map] at h9) (by omega) ((Cells.of_own hrow1)) ((Cells.new w7 _ _).on hb8) hmr1 (fun q hq => (hq1 q hq).1) (fun q hq => by rw [List.mem_singleton.1 hq]; exact DX.on (b8)) (fun q hq => by have h9 : q.r ∈ K1.map Q.r := List.mem_map_of_mem hq; rw [hmr1] at h9; rw [List.mem_singleton.1 h9]; exact Nat.le_trans hl12 (by omega))).mono ?_
              rintro e w9 ⟨rfl, hb9⟩
              have b9 : Below X.heap.size X w9 := below_own (b8) hb9
              have c09 := cell_on b9 c0
              have c19 := cell_on b9 c1
              have c29 := cell_on b9 c2
              have c39 := cell_on b9 c3
              have cn9 := cell_on b9 cn
              have cm9 := cell_on b9 cm
              refine hK _ _ ?_
              clear hK K
              refine wpAny_take (i := 7) (v := .bool true) rfl (by kernel_rfl) (by kernel_rfl) (by kernel_rfl) (fun _ _ _ h => h) (Or.inl ⟨by kernel_rfl, fun W => by go_simp⟩) ?_
              refine wpAny_take (i := 8) (v := .bool true) rfl (by kernel_rfl) (by kernel_rfl) (by kernel_rfl) (fun _ _ _ h => h) (Or.inl ⟨by kernel_rfl, fun W => by go_simp⟩) ?_
              refine wpAny_take (i := 9) (v := .pointer (some ⟨b, 0, none⟩)) rfl (by kernel_rfl) (by kernel_rfl) (by kernel_rfl) (fun _ _ _ h => h) (Or.inl ⟨by kernel_rfl, fun W => by go_simp⟩) ?_
              refine wpAny_ready (rs := [10]) (by kernel_rfl) (by simp) (AllReady.cons rfl (fun K hK => ?_) AllReady.nil)
              go_simp
              refine (stable_any w9 B b vl6 vw6 [q] [] (⟨[(⟨z, r.dc, r.tx, l⟩ : R)], [], 18446744073709551615⟩ : Lg) (LX.on b9) 1 1 (by simp) (by simp) HFW.out).mono ?_
              rintro e w10 ⟨D4, cp4, K4, rfl, _, _, _, hb10⟩
              rw [show ((⟨[(⟨z, r.dc, r.tx, l⟩ : R)], [], 18446744073709551615⟩ : Lg).list.drop 1).length = 0 from rfl]
              have b10 : Below X.heap.size X w10 := below_own b9 hb10
              have c010 := cell_on b10 c0
              have c110 := cell_on b10 c1
              have c210 := cell_on b10 c2
              have c310 := cell_on b10 c3
              have cn10 := cell_on b10 cn
              have cm10 := cell_on b10 cm
              refine hK _ _ ?_
              clear hK K
              refine wpAny_take (i := 11) (v := .int .i64 0) rfl (by kernel_rfl) (by kernel_rfl) (by kernel_rfl) (fun _ _ _ h => h) (Or.inl ⟨by kernel_rfl, fun W => by go_simp⟩) ?_
              refine wpAny_take (i := 12) (v := .bool true) rfl (by kernel_rfl) (by kernel_rfl) (by kernel_rfl) (fun _ _ _ h => h) (Or.inl ⟨by kernel_rfl, fun W => by go_simp⟩) ?_
              refine wpAny_take (i := 13) (v := .bool true) rfl (by kernel_rfl) (by kernel_rfl) (by kernel_rfl) (fun _ _ _ h => h) (Or.inl ⟨by kernel_rfl, fun W => by go_simp⟩) ?_
              refine wpAny_take (i := 14) (v := .bool true) rfl (by kernel_rfl) (by kernel_rfl) (by kernel_rfl) (fun _ _ _ h => h) (Or.inl ⟨by kernel_rfl, fun W => by go_simp⟩) ?_
              refine wpAny_ready (rs := [15]) (by kernel_rfl) (by simp) (AllReady.cons rfl (fun K hK => ?_) AllReady.nil)
              go_simp
              refine hK _ _ ?_
              clear hK K
              refine wpAny_take (i := 16) (v := .bool true) rfl (by kernel_rfl) (by kernel_rfl) (by kernel_rfl) (fun _ _ _ h => h) (Or.inl ⟨by kernel_rfl, fun W => by go_simp⟩) ?_
              refine wpAny_take (i := 17) (v := .bool true) rfl (by kernel_rfl) (by kernel_rfl) (by kernel_rfl) (fun _ _ _ h => h) (Or.inl ⟨by kernel_rfl, fun W => by go_simp⟩) ?_
              refine wpAny_take (i := 18) (v := undef) rfl (by kernel_rfl) (by kernel_rfl) (by kernel_rfl) (fun _ _ _ h => h) (Or.inr ⟨by kernel_rfl, rfl⟩) ?_
              refine wpAny_take (i := 19) (v := undef) rfl (by kernel_rfl) (by kernel_rfl) (by kernel_rfl) (fun _ _ _ h => h) (Or.inr ⟨by kernel_rfl, rfl⟩) ?_
              refine wpAny_take (i := 20) (v := undef) rfl (by kernel_rfl) (by kernel_rfl) (by kernel_rfl) (fun _ _ _ h => h) (Or.inr ⟨by kernel_rfl, rfl⟩) ?_
              refine wpAny_take (i := 21) (v := undef) rfl (by kernel_rfl) (by kernel_rfl) (by kernel_rfl) (fun _ _ _ h => h) (Or.inr ⟨by kernel_rfl, rfl⟩) ?_
              refine wpAny_take (i := 22) (v := undef) rfl (by kernel_rfl) (by kernel_rfl) (by kernel_rfl) (fun _ _ _ h => h) (Or.inr ⟨by kernel_rfl, rfl⟩) ?_
              refine wpAny_take (i := 23) (v := undef) rfl (by kernel_rfl) (by kernel_rfl) (by kernel_rfl) (fun _ _ _ h => h) (Or.inr ⟨by kernel_rfl, rfl⟩) ?_
              refine wpAny_take (i := 24) (v := .bool true) rfl (by kernel_rfl) (by kernel_rfl) (by kernel_rfl) (fun _ _ _ h => h) (Or.inl ⟨by kernel_rfl, fun W => by go_simp⟩) ?_
              refine wpAny_take (i := 25) (v := .bool true) rfl (by kernel_rfl) (by kernel_rfl) (by kernel_rfl) (fun _ _ _ h => h) (Or.inl ⟨by kernel_rfl, fun W => by go_simp⟩) ?_
              refine wpAny_take (i := 26) (v := .bool true) rfl (by kernel_rfl) (by kernel_rfl) (by kernel_rfl) (fun _ _ _ h => h) (Or.inl ⟨by kernel_rfl, fun W => by go_simp⟩) ?_
              refine wpAny_done (by kernel_rfl) ?_ _
              simp only [onlyN]
              go_wp2_with fail
              have hl2 := (Array.getElem?_eq_some_iff.1 hK2).1
              have e2 : w10.heap[D2]? = some (.deferred (some [])) := (b10.block D2 (Array.getElem?_eq_some_iff.1 K2X).1).trans K2X
              have e3 : w10.heap[D3]? = some (.deferred (some [])) := (b10.block D3 (Array.getElem?_eq_some_iff.1 hK3).1).trans hK3
              exact owns_leave e2 e3 (by omega) rfl (below_own bX b10) (by omega) (by omega)
        case stop2 =>
          rintro D3 c' pre X hD3 _ ⟨rfl, rfl, hn, hBX, hsz⟩ hK3
          refine wpIn_wide.2 ?_
          have cn : X.cell? ⟨W.heap.size, 0, none⟩ = some (.int .i64 0) := cell_of_row _ _ 0 _ _ _ hn
          have cm : X.cell? ⟨w.heap.size + 1, 0, none⟩ = some (.int .i64 0) := cell_on hBX mW
          have c0 : X.cell? ⟨w.heap.size, 0, none⟩ = some (.int .u64 z) := cell_on hBX r0
          have c1 : X.cell? ⟨w.heap.size, 1, none⟩ = some (.int .i64 r.dc) := cell_on hBX r1
          have c2 : X.cell? ⟨w.heap.size, 2, none⟩ = some (.int .i64 r.tx) := cell_on hBX r2
          have c3 : X.cell? ⟨w.heap.size, 3, none⟩ = some (.slice D l.length c) := cell_on hBX r3
          have LX : LogAt X B b vl6 vw6 [q] [] (⟨[(⟨z, r.dc, r.tx, l⟩ : R)], [], 18446744073709551615⟩ : Lg) := LW.on hBX
          have bX : Below w.heap.size w X := below_own bWW hBX
          have K2X : X.heap[D2]? = some (.deferred (some [])) := (hBX.block D2 (Array.getElem?_eq_some_iff.1 hK2).1).trans hK2
          have DX : Cells X D (flatV l) := hDf.on bX
          have HFW := Lib.hid hfw
          clear hn hBX hsz LW bWW r0 r1 r2 r3 mW hL1 hu hp0 hp1 hnb hb1 hfw
          go_wp2_with fail
          refine region_plain (N := 27) rfl (by kernel_rfl) ?_
          refine wpAny_ready (rs := [0]) (by kernel_rfl) (by simp) (AllReady.cons rfl (fun K hK => ?_) AllReady.nil)
          go_simp
          refine (awake_any _).mono ?_
          rintro e w7 ⟨rfl, hb7⟩
          have b7 : Below X.heap.size X w7 := below_own (own_drew (own_refl X)) hb7
          have c07 := cell_on b7 c0
          have c17 := cell_on b7 c1
          have c27 := cell_on b7 c2
          have c37 := cell_on b7 c3
          have cn7 := cell_on b7 cn
          have cm7 := cell_on b7 cm
          refine hK _ _ ?_
          clear hK K
          refine wpAny_take (i := 1) (v := .bool true) rfl (by kernel_rfl) (by kernel_rfl) (by kernel_rfl) (fun _ _ _ h => h) (Or.inl ⟨by kernel_rfl, fun W => by go_simp⟩) ?_
          refine wpAny_take (i := 2) (v := .pointer (some ⟨b, 0, none⟩)) rfl (by kernel_rfl) (by kernel_rfl) (by kernel_rfl) (fun _ _ _ h => h) (Or.inl ⟨by kernel_rfl, fun W => by go_simp⟩) ?_
          refine wpAny_ready (rs := [3, 4]) (by kernel_rfl) (by simp) (AllReady.cons rfl (fun K hK => ?_) (AllReady.cons rfl (fun K hK => ?_) AllReady.nil))
          · go_simp
            refine (stable_any w7 B b vl6 vw6 [q] [] (⟨[(⟨z, r.dc, r.tx, l⟩ : R)], [], 18446744073709551615⟩ : Lg) (LX.on b7) (-5) 0 (by simp) (by simp) HFW.out).mono ?_
            rintro e w8 ⟨D1, cp1, K1, rfl, hrow1, hmr1, hq1, hb8⟩
            rw [List.drop_zero] at hrow1 hmr1 ⊢
            have b8 : Below X.heap.size X w8 := below_own b7 hb8
            have c08 := cell_on b8 c0
            have c18 := cell_on b8 c1
            have c28 := cell_on b8 c2
            have c38 := cell_on b8 c3
            have cn8 := cell_on b8 cn
            have cm8 := cell_on b8 cm
            refine hK _ _ ?_
            clear hK K
            refine wpAny_ready (rs := [4]) (by kernel_rfl) (by simp) (AllReady.cons rfl (fun K hK => ?_) AllReady.nil)
            go_simp
            refine hK _ _ ?_
            clear hK K
            refine wpAny_ready (rs := [5]) (by kernel_rfl) (by simp) (AllReady.cons rfl (fun K hK => ?_) AllReady.nil)
            go_simp
            refine hK _ _ ?_
            clear hK K
            refine wpAny_ready (rs := [6]) (by kernel_rfl) (by simp) (AllReady.cons rfl (fun K hK => ?_) AllReady.nil)
            go_simp
            refine (same_cells D1 (some ⟨w8.heap.size, 0, none⟩) 1 cp1 1 K1 [⟨(⟨z, r.dc, r.tx, l⟩ : R), D, c⟩] (w8.alloc (.cells #[.int .u64 z, .int .i64 r.dc, .int .i64 r.tx, .slice D l.length c] 32)) (by have h9 := congrArg List.length hmr1; rwa [List.length_map] at h9) (by omega) ((Cells.of_own hrow1).on (own_alloc (own_refl _) _)) (Cells.new w8 _ _) hmr1 (fun q hq => (hq1 q hq).1.on (own_alloc (own_refl _) _)) (fun q hq => by rw [List.mem_singleton.1 hq]; exact DX.on (own_alloc b8 _)) (fun q hq => by have h9 : q.r ∈ K1.map Q.r := List.mem_map_of_mem hq; rw [hmr1] at h9; rw [List.mem_singleton.1 h9]; exact Nat.le_trans hl12 (by omega))).mono ?_
            rintro e w9 ⟨rfl, hb9⟩
            have b9 : Below X.heap.size X w9 := below_own (own_alloc b8 _) hb9
            have c09 := cell_on b9 c0
            have c19 := cell_on b9 c1
            have c29 := cell_on b9 c2
            have c39 := cell_on b9 c3
            have cn9 := cell_on b9 cn
            have cm9 := cell_on b9 cm
            refine hK _ _ ?_
            clear hK K
            refine wpAny_take (i := 7) (v := .bool true) rfl (by kernel_rfl) (by kernel_rfl) (by kernel_rfl) (fun _ _ _ h => h) (Or.inl ⟨by kernel_rfl, fun W => by go_simp⟩) ?_
            refine wpAny_take (i := 8) (v := .bool true) rfl (by kernel_rfl) (by kernel_rfl) (by kernel_rfl) (fun _ _ _ h => h) (Or.inl ⟨by kernel_rfl, fun W => by go_simp⟩) ?_
            refine wpAny_take (i := 9) (v := .pointer (some ⟨b, 0, none⟩)) rfl (by kernel_rfl) (by kernel_rfl) (by kernel_rfl) (fun _ _ _ h => h) (Or.inl ⟨by kernel_rfl, fun W => by go_simp⟩) ?_
            refine wpAny_ready (rs := [10]) (by kernel_rfl) (by simp) (AllReady.cons rfl (fun K hK => ?_) AllReady.nil)
            go_simp
            refine (stable_any w9 B b vl6 vw6 [q] [] (⟨[(⟨z, r.dc, r.tx, l⟩ : R)], [], 18446744073709551615⟩ : Lg) (LX.on b9) 1 1 (by simp) (by simp) HFW.out).mono ?_
            rintro e w10 ⟨D4, cp4, K4, rfl, _, _, _, hb10⟩
            rw [show ((⟨[(⟨z, r.dc, r.tx, l⟩ : R)], [], 18446744073709551615⟩ : Lg).list.drop 1).length = 0 from rfl]
            have b10 : Below X.heap.size X w10 := below_own b9 hb10
            have c010 := cell_on b10 c0
            have c110 := cell_on b10 c1
            have c210 := cell_on b10 c2
            have c310 := cell_on b10 c3
            have cn10 := cell_on b10 cn
            have cm10 := cell_on b10 cm
            refine hK _ _ ?_
            clear hK K
            refine wpAny_take (i := 11) (v := .int .i64 0) rfl (by kernel_rfl) (by kernel_rfl) (by kernel_rfl) (fun _ _ _ h => h) (Or.inl ⟨by kernel_rfl, fun W => by go_simp⟩) ?_
            refine wpAny_take (i := 12) (v := .bool true) rfl (by kernel_rfl) (by kernel_rfl) (by kernel_rfl) (fun _ _ _ h => h) (Or.inl ⟨by kernel_rfl, fun W => by go_simp⟩) ?_
            refine wpAny_take (i := 13) (v := .bool true) rfl (by kernel_rfl) (by kernel_rfl) (by kernel_rfl) (fun _ _ _ h => h) (Or.inl ⟨by kernel_rfl, fun W => by go_simp⟩) ?_
            refine wpAny_take (i := 14) (v := .bool true) rfl (by kernel_rfl) (by kernel_rfl) (by kernel_rfl) (fun _ _ _ h => h) (Or.inl ⟨by kernel_rfl, fun W => by go_simp⟩) ?_
            refine wpAny_ready (rs := [15]) (by kernel_rfl) (by simp) (AllReady.cons rfl (fun K hK => ?_) AllReady.nil)
            go_simp
            refine hK _ _ ?_
            clear hK K
            refine wpAny_take (i := 16) (v := .bool false) rfl (by kernel_rfl) (by kernel_rfl) (by kernel_rfl) (fun _ _ _ h => h) (Or.inl ⟨by kernel_rfl, fun W => by go_simp⟩) ?_
            refine wpAny_take (i := 17) (v := .bool false) rfl (by kernel_rfl) (by kernel_rfl) (by kernel_rfl) (fun _ _ _ h => h) (Or.inl ⟨by kernel_rfl, fun W => by go_simp⟩) ?_
            refine wpAny_ready (rs := [18]) (by kernel_rfl) (by simp) (AllReady.cons rfl (fun K hK => ?_) AllReady.nil)
            go_simp
            refine hK _ _ ?_
            clear hK K
            refine wpAny_take (i := 19) (v := .bool true) rfl (by kernel_rfl) (by kernel_rfl) (by kernel_rfl) (fun _ _ _ h => h) (Or.inl ⟨by kernel_rfl, fun W => by go_simp⟩) ?_
            refine wpAny_take (i := 20) (v := .bool true) rfl (by kernel_rfl) (by kernel_rfl) (by kernel_rfl) (fun _ _ _ h => h) (Or.inl ⟨by kernel_rfl, fun W => by go_simp⟩) ?_
            refine wpAny_ready (rs := [21]) (by kernel_rfl) (by simp) (AllReady.cons rfl (fun K hK => ?_) AllReady.nil)
            go_simp
            refine hK _ _ ?_
            clear hK K
            refine wpAny_take (i := 22) (v := .bool true) rfl (by kernel_rfl) (by kernel_rfl) (by kernel_rfl) (fun _ _ _ h => h) (Or.inl ⟨by kernel_rfl, fun W => by go_simp⟩) ?_
            refine wpAny_take (i := 23) (v := .bool true) rfl (by kernel_rfl) (by kernel_rfl) (by kernel_rfl) (fun _ _ _ h => h) (Or.inl ⟨by kernel_rfl, fun W => by go_simp⟩) ?_
            refine wpAny_take (i := 24) (v := .bool true) rfl (by kernel_rfl) (by kernel_rfl) (by kernel_rfl) (fun _ _ _ h => h) (Or.inl ⟨by kernel_rfl, fun W => by go_simp⟩) ?_
            refine wpAny_take (i := 25) (v := .bool true) rfl (by kernel_rfl) (by kernel_rfl) (by kernel_rfl) (fun _ _ _ h => h) (Or.inl ⟨by kernel_rfl, fun W => by go_simp⟩) ?_
            refine wpAny_take (i := 26) (v := .bool true) rfl (by kernel_rfl) (by kernel_rfl) (by kernel_rfl) (fun _ _ _ h => h) (Or.inl ⟨by kernel_rfl, fun W => by go_simp⟩) ?_
            refine wpAny_done (by kernel_rfl) ?_ _
            simp only [onlyN]
            go_wp2_with fail
            have hl2 := (Array.getElem?_eq_some_iff.1 hK2).1
            have e2 : w10.heap[D2]? = some (.deferred (some [])) := (b10.block D2 (Array.getElem?_eq_some_iff.1 K2X).1).trans K2X
            have e3 : w10.heap[D3]? = some (.deferred (some [])) := (b10.block D3 (Array.getElem?_eq_some_iff.1 hK3).1).trans hK3
            exact owns_leave e2 e3 (by omega) rfl (below_own bX b10) (by omega) (by omega)
          · go_simp
            refine hK _ _ ?_
            clear hK K
            refine wpAny_ready (rs := [3, 5]) (by kernel_rfl) (by simp) (AllReady.cons rfl (fun K hK => ?_) (AllReady.cons rfl (fun K hK => ?_) AllReady.nil))
            · go_simp
              refine (stable_any w7 B b vl6 vw6 [q] [] (⟨[(⟨z, r.dc, r.tx, l⟩ : R)], [], 18446744073709551615⟩ : Lg) (LX.on b7) (-5) 0 (by simp) (by simp) HFW.out).mono ?_
              rintro e w8 ⟨D1, cp1, K1, rfl, hrow1, hmr1, hq1, hb8⟩
              rw [List.drop_zero] at hrow1 hmr1 ⊢
              have b8 : Below X.heap.size X w8 := below_own b7 hb8
              have c08 := cell_on b8 c0
              have c18 := cell_on b8 c1
              have c28 := cell_on b8 c2
              have c38 := cell_on b8 c3
              have cn8 := cell_on b8 cn
              have cm8 := cell_on b8 cm
              refine hK _ _ ?_
              clear hK K
              refine wpAny_ready (rs := [5]) (by kernel_rfl) (by simp) (AllReady.cons rfl (fun K hK => ?_) AllReady.nil)
              go_simp
              refine hK _ _ ?_
              clear hK K
              refine wpAny_ready (rs := [6]) (by kernel_rfl) (by simp) (AllReady.cons rfl (fun K hK => ?_) AllReady.nil)
              go_simp
              refine (same_cells D1 (some ⟨w8.heap.size, 0, none⟩) 1 cp1 1 K1 [⟨(⟨z, r.dc, r.tx, l⟩ : R), D, c⟩] (w8.alloc (.cells #[.int .u64 z, .int .i64 r.dc, .int .i64 r.tx, .slice D l.length c] 32)) (by have h9 := congrArg List.length hmr1; rwa [List.length_map] at h9) (by omega) ((Cells.of_own hrow1).on (own_alloc (own_refl _) _)) (Cells.new w8 _ _) hmr1 (fun q hq => (hq1 q hq).1.on (own_alloc (own_refl _) _)) (fun q hq => by rw [List.mem_singleton.1 hq]; exact DX.on (own_alloc b8 _)) (fun q hq => by have h9 : q.r ∈ K1.map Q.r := List.mem_map_of_mem hq; rw [hmr1] at h9; rw [List.mem_singleton.1 h9]; exact Nat.le_trans hl12 (by omega))).mono ?_
              rintro e w9 ⟨rfl, hb9⟩
              have b9 : Below X.heap.size X w9 := below_own (own_alloc b8 _) hb9
              have c09 := cell_on b9 c0
              have c19 := cell_on b9 c1
              have c29 := cell_on b9 c2
              have c39 := cell_on b9 c3
              have cn9 := cell_on b9 cn
              have cm9 := cell_on b9 cm
              refine hK _ _ ?_
              clear hK K
              refine wpAny_take (i := 7) (v := .bool true) rfl (by kernel_rfl) (by kernel_rfl) (by kernel_rfl) (fun _ _ _ h => h) (Or.inl ⟨by kernel_rfl, fun W => by go_simp⟩) ?_
              refine wpAny_take (i := 8) (v := .bool true) rfl (by kernel_rfl) (by kernel_rfl) (by kernel_rfl) (fun _ _ _ h => h) (Or.inl ⟨by kernel_rfl, fun W => by go_simp⟩) ?_
              refine wpAny_take (i := 9) (v := .pointer (some ⟨b, 0, none⟩)) rfl (by kernel_rfl) (by kernel_rfl) (by kernel_rfl) (fun _ _ _ h => h) (Or.inl ⟨by kernel_rfl, fun W => by go_simp⟩) ?_
              refine wpAny_ready (rs := [10]) (by kernel_rfl) (by simp) (AllReady.cons rfl (fun K hK => ?_) AllReady.nil)
              go_simp
              refine (stable_any w9 B b vl6 vw6 [q] [] (⟨[(⟨z, r.dc, r.tx, l⟩ : R)], [], 18446744073709551615⟩ : Lg) (LX.on b9) 1 1 (by simp) (by simp) HFW.out).mono ?_
              rintro e w10 ⟨D4, cp4, K4, rfl, _, _, _, hb10⟩
              rw [show ((⟨[(⟨z, r.dc, r.tx, l⟩ : R)], [], 18446744073709551615⟩ : Lg).list.drop 1).length = 0 from rfl]
              have b10 : Below X.heap.size X w10 := below_own b9 hb10
              have c010 := cell_on b10 c0
              have c110 := cell_on b10 c1
              have c210 := cell_on b10 c2
              have c310 := cell_on b10 c3
              have cn10 := cell_on b10 cn
              have cm10 := cell_on b10 cm
              refine hK _ _ ?_
              clear hK K
              refine wpAny_take (i := 11) (v := .int .i64 0) rfl (by kernel_rfl) (by kernel_rfl) (by kernel_rfl) (fun _ _ _ h => h) (Or.inl ⟨by kernel_rfl, fun W => by go_simp⟩) ?_
              refine wpAny_take (i := 12) (v := .bool true) rfl (by kernel_rfl) (by kernel_rfl) (by kernel_rfl) (fun _ _ _ h => h) (Or.inl ⟨by kernel_rfl, fun W => by go_simp⟩) ?_
              refine wpAny_take (i := 13) (v := .bool true) rfl (by kernel_rfl) (by kernel_rfl) (by kernel_rfl) (fun _ _ _ h => h) (Or.inl ⟨by kernel_rfl, fun W => by go_simp⟩) ?_
              refine wpAny_take (i := 14) (v := .bool true) rfl (by kernel_rfl) (by kernel_rfl) (by kernel_rfl) (fun _ _ _ h => h) (Or.inl ⟨by kernel_rfl, fun W => by go_simp⟩) ?_
              refine wpAny_ready (rs := [15]) (by kernel_rfl) (by simp) (AllReady.cons rfl (fun K hK => ?_) AllReady.nil)
              go_simp
              refine hK _ _ ?_
              clear hK K
              refine wpAny_take (i := 16) (v := .bool false) rfl (by kernel_rfl) (by kernel_rfl) (by kernel_rfl) (fun _ _ _ h => h) (Or.inl ⟨by kernel_rfl, fun W => by go_simp⟩) ?_
              refine wpAny_take (i := 17) (v := .bool false) rfl (by kernel_rfl) (by kernel_rfl) (by kernel_rfl) (fun _ _ _ h => h) (Or.inl ⟨by kernel_rfl, fun W => by go_simp⟩) ?_
              refine wpAny_ready (rs := [18]) (by kernel_rfl) (by simp) (AllReady.cons rfl (fun K hK => ?_) AllReady.nil)
              go_simp
              refine hK _ _ ?_
              clear hK K
              refine wpAny_take (i := 19) (v := .bool true) rfl (by kernel_rfl) (by kernel_rfl) (by kernel_rfl) (fun _ _ _ h => h) (Or.inl ⟨by kernel_rfl, fun W => by go_simp⟩) ?_
              refine wpAny_take (i := 20) (v := .bool true) rfl (by kernel_rfl) (by kernel_rfl) (by kernel_rfl) (fun _ _ _ h => h) (Or.inl ⟨by kernel_rfl, fun W => by go_simp⟩) ?_
              refine wpAny_ready (rs := [21]) (by kernel_rfl) (by simp) (AllReady.cons rfl (fun K hK => ?_) AllReady.nil)
              go_simp
              refine hK _ _ ?_
              clear hK K
              refine wpAny_take (i := 22) (v := .bool true) rfl (by kernel_rfl) (by kernel_rfl) (by kernel_rfl) (fun _ _ _ h => h) (Or.inl ⟨by kernel_rfl, fun W => by go_simp⟩) ?_
              refine wpAny_take (i := 23) (v := .bool true) rfl (by kernel_rfl) (by kernel_rfl) (by kernel_rfl) (fun _ _ _ h => h) (Or.inl ⟨by kernel_rfl, fun W => by go_simp⟩) ?_
              refine wpAny_take (i := 24) (v := .bool true) rfl (by kernel_rfl) (by kernel_rfl) (by kernel_rfl) (fun _ _ _ h => h) (Or.inl ⟨by kernel_rfl, fun W => by go_simp⟩) ?_
              refine wpAny_take (i := 25) (v := .bool true) rfl (by kernel_rfl) (by kernel_rfl) (by kernel_rfl) (fun _ _ _ h => h) (Or.inl ⟨by kernel_rfl, fun W => by go_simp⟩) ?_
              refine wpAny_take (i := 26) (v := .bool true) rfl (by kernel_rfl) (by kernel_rfl) (by kernel_rfl) (fun _ _ _ h => h) (Or.inl ⟨by kernel_rfl, fun W => by go_simp⟩) ?_
              refine wpAny_done (by kernel_rfl) ?_ _
              simp only [onlyN]
              go_wp2_with fail
              have hl2 := (Array.getElem?_eq_some_iff.1 hK2).1
              have e2 : w10.heap[D2]? = some (.deferred (some [])) := (b10.block D2 (Array.getElem?_eq_some_iff.1 K2X).1).trans K2X
              have e3 : w10.heap[D3]? = some (.deferred (some [])) := (b10.block D3 (Array.getElem?_eq_some_iff.1 hK3).1).trans hK3
              exact owns_leave e2 e3 (by omega) rfl (below_own bX b10) (by omega) (by omega)
            · go_simp
              refine hK _ _ ?_
              clear hK K
              refine wpAny_ready (rs := [3]) (by kernel_rfl) (by simp) (AllReady.cons rfl (fun K hK => ?_) AllReady.nil)
              go_simp
              refine (stable_any (w7.alloc (.cells #[.int .u64 z, .int .i64 r.dc, .int .i64 r.tx, .slice D l.length c] 32)) B b vl6 vw6 [q] [] (⟨[(⟨z, r.dc, r.tx, l⟩ : R)], [], 18446744073709551615⟩ : Lg) (LX.on (own_alloc b7 _)) (-5) 0 (by simp) (by simp) HFW.out).mono ?_
              rintro e w8 ⟨D1, cp1, K1, rfl, hrow1, hmr1, hq1, hb8⟩
              rw [List.drop_zero] at hrow1 hmr1 ⊢
              have b8 : Below X.heap.size X w8 := below_own (own_alloc b7 _) hb8
              have c08 := cell_on b8 c0
              have c18 := cell_on b8 c1
              have c28 := cell_on b8 c2
              have c38 := cell_on b8 c3
              have cn8 := cell_on b8 cn
              have cm8 := cell_on b8 cm
              refine hK _ _ ?_
              clear hK K
              refine wpAny_ready (rs := [6]) (by kernel_rfl) (by simp) (AllReady.cons rfl (fun K hK => ?_) AllReady.nil)
              go_simp
              refine (same_cells D1 (some ⟨w7.heap.size, 0, none⟩) 1 cp1 1 K1 [⟨(⟨z, r.dc, r.tx, l⟩ : R), D, c⟩] w8 (by have h9 := congrArg List.length hmr1; rwa [List.length_map] at h9) (by omega) ((Cells.of_own hrow1)) ((Cells.new w7 _ _).on hb8) hmr1 (fun q hq => (hq1 q hq).1) (fun q hq => by rw [List.mem_singleton.1 hq]; exact DX.on (b8)) (fun q hq => by have h9 : q.r ∈ K1.map Q.r := List.mem_map_of_mem hq; rw [hmr1] at h9; rw [List.mem_singleton.1 h9]; exact Nat.le_trans hl12 (by omega))).mono ?_
              rintro e w9 ⟨rfl, hb9⟩
              have b9 : Below X.heap.size X w9 := below_own (b8) hb9
              have c09 := cell_on b9 c0
              have c19 := cell_on b9 c1
              have c29 := cell_on b9 c2
              have c39 := cell_on b9 c3
              have cn9 := cell_on b9 cn
              have cm9 := cell_on b9 cm
              refine hK _ _ ?_
              clear hK K
              refine wpAny_take (i := 7) (v := .bool true) rfl (by kernel_rfl) (by kernel_rfl) (by kernel_rfl) (fun _ _ _ h => h) (Or.inl ⟨by kernel_rfl, fun W => by go_simp⟩) ?_
              refine wpAny_take (i := 8) (v := .bool true) rfl (by kernel_rfl) (by kernel_rfl) (by kernel_rfl) (fun _ _ _ h => h) (Or.inl ⟨by kernel_rfl, fun W => by go_simp⟩) ?_
              refine wpAny_take (i := 9) (v := .pointer (some ⟨b, 0, none⟩)) rfl (by kernel_rfl) (by kernel_rfl) (by kernel_rfl) (fun _ _ _ h => h) (Or.inl ⟨by kernel_rfl, fun W => by go_simp⟩) ?_
              refine wpAny_ready (rs := [10]) (by kernel_rfl) (by simp) (AllReady.cons rfl (fun K hK => ?_) AllReady.nil)
              go_simp
              refine (stable_any w9 B b vl6 vw6 [q] [] (⟨[(⟨z, r.dc, r.tx, l⟩ : R)], [], 18446744073709551615⟩ : Lg) (LX.on b9) 1 1 (by simp) (by simp) HFW.out).mono ?_
              rintro e w10 ⟨D4, cp4, K4, rfl, _, _, _, hb10⟩
              rw [show ((⟨[(⟨z, r.dc, r.tx, l⟩ : R)], [], 18446744073709551615⟩ : Lg).list.drop 1).length = 0 from rfl]
              have b10 : Below X.heap.size X w10 := below_own b9 hb10
              have c010 := cell_on b10 c0
              have c110 := cell_on b10 c1
              have c210 := cell_on b10 c2
              have c310 := cell_on b10 c3
              have cn10 := cell_on b10 cn
              have cm10 := cell_on b10 cm
              refine hK _ _ ?_
              clear hK K
              refine wpAny_take (i := 11) (v := .int .i64 0) rfl (by kernel_rfl) (by kernel_rfl) (by kernel_rfl) (fun _ _ _ h => h) (Or.inl ⟨by kernel_rfl, fun W => by go_simp⟩) ?_
              refine wpAny_take (i := 12) (v := .bool true) rfl (by kernel_rfl) (by kernel_rfl) (by kernel_rfl) (fun _ _ _ h => h) (Or.inl ⟨by kernel_rfl, fun W => by go_simp⟩) ?_
              refine wpAny_take (i := 13) (v := .bool true) rfl (by kernel_rfl) (by kernel_rfl) (by kernel_rfl) (fun _ _ _ h => h) (Or.inl ⟨by kernel_rfl, fun W => by go_simp⟩) ?_
              refine wpAny_take (i := 14) (v := .bool true) rfl (by kernel_rfl) (by kernel_rfl) (by kernel_rfl) (fun _ _ _ h => h) (Or.inl ⟨by kernel_rfl, fun W => by go_simp⟩) ?_
              refine wpAny_ready (rs := [15]) (by kernel_rfl) (by simp) (AllReady.cons rfl (fun K hK => ?_) AllReady.nil)
              go_simp
              refine hK _ _ ?_
              clear hK K
              refine wpAny_take (i := 16) (v := .bool false) rfl (by kernel_rfl) (by kernel_rfl) (by kernel_rfl) (fun _ _ _ h => h) (Or.inl ⟨by kernel_rfl, fun W => by go_simp⟩) ?_
              refine wpAny_take (i := 17) (v := .bool false) rfl (by kernel_rfl) (by kernel_rfl) (by kernel_rfl) (fun _ _ _ h => h) (Or.inl ⟨by kernel_rfl, fun W => by go_simp⟩) ?_
              refine wpAny_ready (rs := [18]) (by kernel_rfl) (by simp) (AllReady.cons rfl (fun K hK => ?_) AllReady.nil)
              go_simp
              refine hK _ _ ?_
              clear hK K
              refine wpAny_take (i := 19) (v := .bool true) rfl (by kernel_rfl) (by kernel_rfl) (by kernel_rfl) (fun _ _ _ h => h) (Or.inl ⟨by kernel_rfl, fun W => by go_simp⟩) ?_
              refine wpAny_take (i := 20) (v := .bool true) rfl (by kernel_rfl) (by kernel_rfl) (by kernel_rfl) (fun _ _ _ h => h) (Or.inl ⟨by kernel_rfl, fun W => by go_simp⟩) ?_
              refine wpAny_ready (rs := [21]) (by kernel_rfl) (by simp) (AllReady.cons rfl (fun K hK => ?_) AllReady.nil)
              go_simp
              refine hK _ _ ?_
              clear hK K
              refine wpAny_take (i := 22) (v := .bool true) rfl (by kernel_rfl) (by kernel_rfl) (by kernel_rfl) (fun _ _ _ h => h) (Or.inl ⟨by kernel_rfl, fun W => by go_simp⟩) ?_
              refine wpAny_take (i := 23) (v := .bool true) rfl (by kernel_rfl) (by kernel_rfl) (by kernel_rfl) (fun _ _ _ h => h) (Or.inl ⟨by kernel_rfl, fun W => by go_simp⟩) ?_
              refine wpAny_take (i := 24) (v := .bool true) rfl (by kernel_rfl) (by kernel_rfl) (by kernel_rfl) (fun _ _ _ h => h) (Or.inl ⟨by kernel_rfl, fun W => by go_simp⟩) ?_
              refine wpAny_take (i := 25) (v := .bool true) rfl (by kernel_rfl) (by kernel_rfl) (by kernel_rfl) (fun _ _ _ h => h) (Or.inl ⟨by kernel_rfl, fun W => by go_simp⟩) ?_
              refine wpAny_take (i := 26) (v := .bool true) rfl (by kernel_rfl) (by kernel_rfl) (by kernel_rfl) (fun _ _ _ h => h) (Or.inl ⟨by kernel_rfl, fun W => by go_simp⟩) ?_
              refine wpAny_done (by kernel_rfl) ?_ _
              simp only [onlyN]
              go_wp2_with fail
              have hl2 := (Array.getElem?_eq_some_iff.1 hK2).1
              have e2 : w10.heap[D2]? = some (.deferred (some [])) := (b10.block D2 (Array.getElem?_eq_some_iff.1 K2X).1).trans K2X
              have e3 : w10.heap[D3]? = some (.deferred (some [])) := (b10.block D3 (Array.getElem?_eq_some_iff.1 hK3).1).trans hK3
              exact owns_leave e2 e3 (by omega) rfl (below_own bX b10) (by omega) (by omega)
      case stop =>
        rintro D2 c' pre W _ _ h _
        exact h.elim
end Go.Proofs.Ytggbdjdfejcpjaa.lawOrderOwns
