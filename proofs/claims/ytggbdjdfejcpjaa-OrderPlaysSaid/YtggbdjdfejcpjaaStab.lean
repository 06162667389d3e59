/-
  The walk of the law's own 'stable': all that is stable, from a place on. Conditions: the log lies as the hypotheses say.
-/
import Derived.Test.YtggbdjdfejcpjaaOrdF
import Derived.Deep.AppendLies
namespace Go.Proofs.Ytggbdjdfejcpjaa
open Go.RowKit Go.Maps Go.Shelf
attribute [local go_sem] Oper.semAt_some
set_option linter.unusedVariables false

def qs (ys : List Nq) : List Q := ys.map Prod.snd
/-- what 'stable' answers. -/
def StableIs (rs : List R) (w : World) (e : Ending) (w' : World) : Prop := ∃ D cp K, e = .returned (.slice D rs.length cp) ∧ w'.ownsRow w.heap.size 32 4 (.slice D rs.length cp) rs.length (flatQ K) ∧ K.map Q.r = rs ∧ (∀ q ∈ K, QAt w' q) ∧ Below w.heap.size w w'
theorem sturdy_heap {β : Type} {B : Nat} {b : Nat} {cs : β → Array Value} {t : TypeId} : Sturdy B (fun (s : β) W => W.heap[b]? = some (.cells (cs s) t (0, 0))) := fun s W W' S hs ht hS =>
  (ht.block b (Array.getElem?_eq_some_iff.1 hs).1 (fun e => by obtain ⟨_, o, ho, hc⟩ := hS b e; rw [hs] at ho; cases ho; cases hc)).trans hs
theorem cells_not {W : World} {S : Nat → Prop} {B g : Nat} (hS : ∀ j, S j → B ≤ j ∧ ∃ o : Obj, W.heap[j]? = some o ∧ o.isCells = false) {cs : Array Value} {t : TypeId} {fz : Nat × Nat} (h : W.heap[g]? = some (.cells cs t fz)) : ¬ S g := fun e => by
  obtain ⟨_, o, ho, hc⟩ := hS g e
  rw [h] at ho
  cases ho
  cases hc
theorem qat_sturdy {W W' : World} {S : Nat → Prop} {B : Nat} {q : Q} (h : QAt W q) (ht : Turns S W W') (hS : ∀ j, S j → B ≤ j ∧ ∃ o : Obj, W.heap[j]? = some o ∧ o.isCells = false) : QAt W' q := h.turn ht (fun g hv => by obtain ⟨cs, fz, hg⟩ := hv; exact cells_not hS hg)
theorem row_sturdy {W W' : World} {S : Nat → Prop} {B base sz n : Nat} {e : TypeId} {v : Value} {xs : List Value} (h : W.ownsRow base e sz v n xs) (ht : Turns S W W') (hS : ∀ j, S j → B ≤ j ∧ ∃ o : Obj, W.heap[j]? = some o ∧ o.isCells = false) : W'.ownsRow base e sz v n xs := ht.row h (fun g hg => by
  obtain ⟨cs, fz, hh⟩ := heap_of_own (OwnAt.of_row h) hg
  exact cells_not hS hh)
/-- between two rounds: what has come lies in a row. -/
def CollN (w : World) (ob n₀ : Nat) (pre : List Nq) (W : World) : Prop := ∃ v, W.heap[ob]? = some (.cells #[v] 26 (0, 0)) ∧ W.ownsRow n₀ 32 4 v pre.length (flatQ (qs pre)) ∧ (∀ q ∈ qs pre, QAt W q) ∧ Below w.heap.size w W ∧ n₀ ≤ W.heap.size
theorem collN_sturdy (w : World) (ob n₀ : Nat) (B : Nat) (hB : w.heap.size ≤ B) : Sturdy B (CollN w ob n₀) := fun pre W W' S ⟨v, h1, h2, h3, h4, h5⟩ ht hS =>
  ⟨v, (ht.block ob (Array.getElem?_eq_some_iff.1 h1).1 (cells_not hS h1)).trans h1, row_sturdy h2 ht hS, fun q hq => qat_sturdy (h3 q hq) ht hS, ht.below h4 (fun j e => Nat.le_trans hB (hS j e).1), Nat.le_trans h5 ht.size⟩
/-- a round under way. -/
def RoundN (w : World) (ob n₀ : Nat) (T : Nq → Nat → Array Value) (pre : List Nq) (y : Nq) (a' : Act) (W : World) : Prop := CollN w ob n₀ pre W ∧ QAt W y.2 ∧ ∃ rb, n₀ ≤ rb ∧ W.heap[rb]? = some (.cells #[.int .u64 y.2.r.ts, .int .i64 y.2.r.dc, .int .i64 y.2.r.tx, .slice y.2.D y.2.r.vers.length y.2.c] 32 (0, 0)) ∧ a' = { tmps := T y rb, defers := [] }
theorem roundN_sturdy (w : World) (ob n₀ : Nat) (T : Nq → Nat → Array Value) (B : Nat) (hB : w.heap.size ≤ B) : Sturdy B (fun (s : List Nq × Nq × Act) W => RoundN w ob n₀ T s.1 s.2.1 s.2.2 W) := fun s W W' S ⟨h1, h2, rb, h3, h4, h5⟩ ht hS =>
  ⟨collN_sturdy w ob n₀ B hB _ _ _ S h1 ht hS, qat_sturdy h2 ht hS, rb, h3, (ht.block rb (Array.getElem?_eq_some_iff.1 h4).1 (cells_not hS h4)).trans h4, h5⟩
theorem three_new (w : World) (o1 o2 o3 : Obj) : (((w.alloc o1).alloc o2).alloc o3).heap[w.heap.size]? = some o1 ∧ (((w.alloc o1).alloc o2).alloc o3).heap[w.heap.size + 1]? = some o2 ∧ (((w.alloc o1).alloc o2).alloc o3).heap[w.heap.size + 2]? = some o3 := by
  have h1 : (w.alloc o1).heap.size = w.heap.size + 1 := by simp
  have h2 : ((w.alloc o1).alloc o2).heap.size = w.heap.size + 2 := by simp
  refine ⟨?_, ?_, ?_⟩
  · rw [Below.heap_alloc _ _ _ (by rw [h2]; omega), Below.heap_alloc _ _ _ (by rw [h1]; omega)]; exact heap_alloc_new w _
  · rw [Below.heap_alloc _ _ _ (by rw [h2]; omega), ← h1]; exact heap_alloc_new _ _
  · rw [← h2]; exact heap_alloc_new _ _
theorem firstN_map {x : Lg} {st : Nat} {ys : List Nq} (h : FirstN x st ys) (hl : ys.length = x.list.length - st) : (qs ys).map Q.r = x.list.drop st := by
  apply List.ext_getElem?
  intro j
  unfold qs
  rw [List.map_map, List.getElem?_map, List.getElem?_drop]
  cases hy : ys[j]? with
  | none =>
    rw [List.getElem?_eq_none_iff] at hy
    rw [List.getElem?_eq_none (by omega)]
    rfl
  | some y => rw [(h j y hy).2]; rfl
set_option maxRecDepth 100000 in
set_option maxHeartbeats 4000000 in
theorem stable_any (w : World) (B b : Nat) (vl vw : Value) (L M : List Q) (x : Lg) (h : LogAt w B b vl vw L M x) (at' : Int) (st : Nat) (hst : (if at' < 0 then 0 else at') = (st : Int)) (hlen : x.list.length ≤ 200) (hfew : ∀ r ∈ x.list, r.vers.length ≤ 12) :
    Calls Try.prog 19 #[.pointer (some ⟨b, 0, none⟩), .int .i64 at'] w (StableIs (x.list.drop st) w) := by
  obtain ⟨i0, hi0, hz0, hz1, hz2⟩ := info_parts infoRec
  refine (callsIn_wide (n := 5)).1 (callsIn_of_wp_marks Try.func19 rfl trivial ?_ rfl)
  simp only [Try.ntmps19, List.size_toArray, List.length_cons, List.length_nil, Nat.reduceAdd, Nat.reduceSub, Array.replicate_succ, Array.replicate_zero, List.push_toArray, List.append_toArray, List.nil_append, List.cons_append]
  have HST := Lib.hid hst
  clear hst
  gi_wp2_with (refine ⟨trivial, ?_⟩; gi_at_call 16; refine (callsIn_wide.2 (from_any _ _ _)).mono ?_; rintro e w' ⟨rfl, rfl⟩)
  obtain ⟨W0, hW0⟩ : ∃ W0, (((w.alloc (.cells #[.slice none 0 0] 26)).alloc (.cells #[.pointer (some ⟨b, 0, none⟩)] 23)).alloc (.cells #[.int .i64 at'] 3)) = W0 := ⟨_, rfl⟩
  have hs0 : W0.heap.size = w.heap.size + 3 := by rw [← hW0]; simp
  have hb0 : Below w.heap.size w W0 := hW0 ▸ own_alloc (own_alloc (own_alloc (own_refl w) _) _) _
  obtain ⟨hob0, hpb, hqb⟩ := three_new w (.cells #[.slice none 0 0] 26) (.cells #[.pointer (some ⟨b, 0, none⟩)] 23) (.cells #[.int .i64 at'] 3)
  rw [hW0] at hob0 hpb hqb
  have hp0 : W0.cell? ⟨w.heap.size + 1, 0, none⟩ = some (.pointer (some ⟨b, 0, none⟩)) := cell_of_row _ _ 0 _ _ _ hpb
  have hp1 : W0.cell? ⟨w.heap.size + 1 + 1, 0, none⟩ = some (.int .i64 at') := cell_of_row _ _ 0 _ _ _ hqb
  have hL0 := h.on hb0
  have hu := h.under
  rw [hW0]
  refine range_law (n := 5) rfl (by omega) (gf := 27) (lb := #[.pointer (some ⟨w.heap.size + 1, 0, none⟩), .pointer (some ⟨w.heap.size + 1 + 1, 0, none⟩)]) rfl trivial (enters_of Try.func27 (by kernel_rfl) rfl)
    (from_hands 4 (by omega) (w.heap.size + 1) (w.heap.size + 3) w.heap.size (one w.heap.size) (fun g e => by have e : g = w.heap.size := e; omega) (by omega) at' st HST.out B b vl vw L M x hlen hfew W0 hp0 hp1 (by omega) hL0 hu (by omega)) (Below.refl _ _) (fun h k => h.trans k)
    (fun W l o o' hl ho hc => (turns_put W l o').weaken (fun j _ e => .inr (by have e : j = l := e; omega))) (fun _ => rfl)
    (CollN w w.heap.size (w.heap.size + 3)) (fun _ _ _ => False)
    (fun s W => RoundN w w.heap.size (w.heap.size + 3) (fun y rb => #[.pointer (some ⟨b, 0, none⟩), .int .i64 at', undef, undef, .slice none 0 0, .pointer (some ⟨w.heap.size, 0, none⟩), undef, .pointer (some ⟨rb, 0, none⟩), .pointer (some ⟨b, 0, none⟩), .int .i64 at', .func (.func 27) #[] #[.pointer (some ⟨w.heap.size + 1, 0, none⟩), .pointer (some ⟨w.heap.size + 1 + 1, 0, none⟩)], .int .i64 y.1, .agg #[.int .u64 y.2.r.ts, .int .i64 y.2.r.dc, .int .i64 y.2.r.tx, .slice y.2.D y.2.r.vers.length y.2.c], undef, undef, undef, undef, undef]) s.1 s.2.1 s.2.2 W)
    (collN_sturdy _ _ _ _ (by omega)) (fun _ _ _ _ _ hs _ _ => hs) (roundN_sturdy _ _ _ _ _ (by omega))
    ⟨_, hob0, World.ownsRow_nil _ _ _ _, by simp [qs], hb0, by omega⟩ ?assign ?body ?done ?stop
  case assign =>
    intro l pre y W K hI hok hK
    obtain ⟨v, h1, h2, h3, h4, h5⟩ := hI
    have hqy := qat_own hok.2 rfl
    unfold encN
    gi_wp2
    refine hK _ _ ?_ ?_ ?_
    · exact KeepsOthers.alloc _ _
    · exact (Turns.refl _ W).alloc _
    · exact ⟨⟨v, (Below.heap_alloc W _ _ (Array.getElem?_eq_some_iff.1 h1).1).trans h1, h2.alloc _, fun q hq => (h3 q hq).on (own_alloc (own_refl _) _), own_alloc h4 _, by simp; omega⟩, hqy.on (own_alloc (own_refl _) _), W.heap.size, h5, heap_alloc_new W _, rfl⟩
  case body =>
    intro l pre y a' W hR hlt
    change RoundN _ _ _ _ pre y a' W at hR
    obtain ⟨⟨v, hob, hrow, hqs, hB, hn⟩, hq, rb, hrb, hrbc, rfl⟩ := hR
    have co : W.cell? ⟨w.heap.size, 0, none⟩ = some v := cell_of_row _ _ _ _ _ _ hob
    have y0 : W.cell? ⟨rb, 0, none⟩ = some (.int .u64 y.2.r.ts) := cell_of_row _ _ 0 _ _ _ hrbc
    have y1 : W.cell? ⟨rb, 1, none⟩ = some (.int .i64 y.2.r.dc) := cell_of_row _ _ 1 _ _ _ hrbc
    have y2 : W.cell? ⟨rb, 2, none⟩ = some (.int .i64 y.2.r.tx) := cell_of_row _ _ 2 _ _ _ hrbc
    have y3 : W.cell? ⟨rb, 3, none⟩ = some (.slice y.2.D y.2.r.vers.length y.2.c) := cell_of_row _ _ 3 _ _ _ hrbc
    have fo : W.frozen? ⟨w.heap.size, 0, none⟩ = false := by simp [World.frozen?, hob]
    have hvn : v.ownBlock ≠ some w.heap.size := own_ne_row (OwnAt.of_row hrow) hob (by decide)
    have hpl : pre.length ≤ 200 := by omega
    gi_wp2_with (gi_at_builtin; refine wpListIn_append_own _ rfl _ _ 26 rfl (w.heap.size + 3) 32 i0 (.agg #[.int .u64 0, .int .i64 0, .int .i64 0, .slice none 0 0]) 4 48 Try.underlying26 hi0 hz0 hz1 hz2 rfl (by omega) _ _ _ rfl (hrow.alloc _) ⟨W.heap.size, 0, none⟩ 1 1 y.2.cells rfl rfl (World.news_of_block (heap_alloc_new W _)) (one_q y.2) (by unfold maxLen; omega) (by omega) (by simp; omega) ?_; intro v' w1 hown' hgrow _; obtain ⟨g', cap', rfl⟩ := ownsRow_succ hown'; have t1 := ((Turns.refl (fun k => v.ownBlock = some k) W).alloc _).grown hgrow (fun _ _ e => e); have co1 := t1.cell co hvn; have fo1 := t1.frozen (a := ⟨w.heap.size, 0, none⟩) (Array.getElem?_eq_some_iff.1 hob).1 hvn fo)
    have hob1 := (t1.block _ (Array.getElem?_eq_some_iff.1 hob).1 hvn).trans hob
    have hob2 := heap_setCell_same w1 w.heap.size 0 _ _ (.slice (some ⟨g', 0, none⟩) (pre.length + 1) cap') hob1
    have t9 : Turns (one w.heap.size) w1 (w1.setCell ⟨w.heap.size, 0, none⟩ (.slice (some ⟨g', 0, none⟩) (pre.length + 1) cap')) := (Turns.refl (one w.heap.size) w1).set (a := ⟨w.heap.size, 0, none⟩) (fun _ => rfl) _
    have vb1 : ∀ g, VB w1 g → ¬ one w.heap.size g := fun g hv e => by
      obtain ⟨cs, fz, hv⟩ := hv
      rw [show g = w.heap.size from e, hob1] at hv
      simp at hv
    refine ⟨((KeepsOthers.alloc W _).trans (KeepsOthers.of_grownBy hgrow (fun j o e ho => ?_))).trans (KeepsOthers.setCell _ _ _), (t1.weaken (fun j _ e => .inr (hrow.lt j e).1)).on t9 (fun j _ e => .inl e), _, by rw [hob2]; rfl, ?_, ?_, ?_, ?_⟩
    · obtain ⟨cs, fz, hc⟩ := heap_of_own (OwnAt.of_row (hrow.alloc _)) e
      rw [hc] at ho
      cases ho
      rfl
    · have h9 := t9.row hown' (fun g hg e => own_ne_row (OwnAt.of_row hown') hob1 (by decide) (by rw [hg, show g = w.heap.size from e]))
      rw [List.length_append, List.length_singleton, show qs (pre ++ [y]) = qs pre ++ [y.2] from by simp [qs], flatQ_app, show flatQ [y.2] = y.2.cells from by simp [flatQ]]
      exact h9
    · intro q' hq'
      rw [show qs (pre ++ [y]) = qs pre ++ [y.2] from by simp [qs]] at hq'
      rcases List.mem_append.1 hq' with e | e
      · exact ((hqs q' e).turn t1 (fun g hv e => vb_ne_own (OwnAt.of_row hrow) hv e)).turn t9 vb1
      · rw [List.mem_singleton] at e
        subst e
        exact (hq.turn t1 (fun g hv e => vb_ne_own (OwnAt.of_row hrow) hv e)).turn t9 vb1
    · exact own_set (t1.below hB (fun j e => by have := (hrow.lt j e).1; omega)) (Nat.le_refl _) _
    · have := t1.size
      have := t9.size
      omega
  case done =>
    rintro D ys W hD ⟨hlen2, hF⟩ ⟨v, hob, hrow, hqs, hB, hn⟩ hK
    have co : W.cell? ⟨w.heap.size, 0, none⟩ = some v := cell_of_row _ _ _ _ _ _ hob
    obtain ⟨A, cp, rfl, hcp⟩ := row_form hrow
    have HL2 := Lib.hid hlen2
    clear hlen2
    gi_wp2
    refine ⟨by simp, .inl ⟨_, _, rfl, run_takeDeferred hK, ?_⟩⟩
    have hyl : ys.length = (x.list.drop st).length := by rw [List.length_drop]; exact HL2.out
    refine ⟨_, results_tmp rfl _ _ _, A, cp, qs ys, by rw [← hyl]; rfl, ?_, firstN_map hF HL2.out, fun q hq => ?_, ?_⟩
    · rw [← hyl]
      exact row_weaken (ownsRow_putObj hrow _ hK rfl) (by omega)
    · exact (hqs q hq).turn (turns_put W D _) (fun g hv e => by
        obtain ⟨cs, fz, hv⟩ := hv
        rw [show g = D from e, hK] at hv
        cases hv)
    · exact (turns_put W D _).below hB (fun j e => by have e : j = D := e; omega)
  case stop =>
    rintro D c pre W _ _ h _
    exact h.elim
set_option maxRecDepth 100000 in
set_option maxHeartbeats 4000000 in
theorem stable_nil (w : World) (at' : Int) : Calls Try.prog 19 #[.pointer none, .int .i64 at'] w fun e w' => e = .returned (.slice none 0 0) ∧ Below w.heap.size w w' := by
  refine (callsIn_wide (n := 5)).1 (callsIn_of_wp_marks Try.func19 rfl trivial ?_ rfl)
  simp only [Try.ntmps19, List.size_toArray, List.length_cons, List.length_nil, Nat.reduceAdd, Nat.reduceSub, Array.replicate_succ, Array.replicate_zero, List.push_toArray, List.append_toArray, List.nil_append, List.cons_append]
  gi_wp2_with (refine ⟨trivial, ?_⟩; gi_at_call 16; refine (callsIn_wide.2 (from_any _ _ _)).mono ?_; rintro e w' ⟨rfl, rfl⟩)
  obtain ⟨W0, hW0⟩ : ∃ W0, (((w.alloc (.cells #[.slice none 0 0] 26)).alloc (.cells #[.pointer none] 23)).alloc (.cells #[.int .i64 at'] 3)) = W0 := ⟨_, rfl⟩
  have hs0 : W0.heap.size = w.heap.size + 3 := by rw [← hW0]; simp
  have hb0 : Below w.heap.size w W0 := hW0 ▸ own_alloc (own_alloc (own_alloc (own_refl w) _) _) _
  obtain ⟨hob0, hpb, hqb⟩ := three_new w (.cells #[.slice none 0 0] 26) (.cells #[.pointer none] 23) (.cells #[.int .i64 at'] 3)
  rw [hW0] at hob0 hpb hqb
  have hp0 : W0.cell? ⟨w.heap.size + 1, 0, none⟩ = some (.pointer none) := cell_of_row _ _ 0 _ _ _ hpb
  rw [hW0]
  refine range_law (n := 5) rfl (by omega) (gf := 27) (lb := #[.pointer (some ⟨w.heap.size + 1, 0, none⟩), .pointer (some ⟨w.heap.size + 1 + 1, 0, none⟩)]) rfl trivial (enters_of Try.func27 (by kernel_rfl) rfl)
    (from_nil 4 (by omega) (w.heap.size + 1) (w.heap.size + 3) (one w.heap.size) W0 hp0) (Below.refl _ _) (fun h k => h.trans k)
    (fun W l o o' hl ho hc => (turns_put W l o').weaken (fun j _ e => .inr (by have e : j = l := e; omega))) (fun _ => rfl)
    (fun pre W => W.heap[w.heap.size]? = some (.cells #[.slice none 0 0] 26 (0, 0)) ∧ Below w.heap.size w W) (fun _ _ _ => False) (fun _ _ => False)
    (Sturdy.and (sturdy_heap (cs := fun _ => #[.slice none 0 0])) (sturdy_below (by omega))) (fun _ _ _ _ _ hs _ _ => hs) (fun _ _ _ _ hs _ _ => hs)
    ⟨hob0, hb0⟩ ?assign ?body ?done ?stop
  case assign =>
    intro l pre y W K hI hok hK
    exact hok.elim
  case body =>
    intro l pre y a' W hR hlt
    exact hR.elim
  case done =>
    rintro D ys W hD hys ⟨hob, hB⟩ hK
    have co : W.cell? ⟨w.heap.size, 0, none⟩ = some (.slice none 0 0) := cell_of_row _ _ _ _ _ _ hob
    gi_wp2
    refine ⟨by simp, .inl ⟨_, _, rfl, run_takeDeferred hK, ?_⟩⟩
    exact ⟨_, results_tmp rfl _ _ _, rfl, (turns_put W D _).below hB (fun j e => by have e : j = D := e; omega)⟩
  case stop =>
    rintro D c pre W _ _ h _
    exact h.elim
end Go.Proofs.Ytggbdjdfejcpjaa
