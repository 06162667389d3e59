/-
  The first Decide of a log: what it keeps is new memory. Conditions: the commit's cells lie as the hypotheses say.
-/
import Derived.Test.YtggbdjdfejcpjaaOrdT
namespace Go.Proofs.Ytggbdjdfejcpjaa
open Go.RowKit Go.Maps
set_option linter.unusedVariables false

theorem dec_finF {w w2 w4 w5 : World} {B b : Nat} {vl vw v1 v4 v5 : Value} {L M : List Q} {x : Lg} {q : Q} {n1 n4 n5 p : Nat} {o3 : Obj} {xs1 xs4 : List Value} (h : LogAt w B b vl vw L M x) (hb2 : Below w.heap.size w w2) (hq : QAt w2 q) (hp : p = atTo x.wait q.r x.wait.length)
    (own1 : OwnAt w2 B 32 4 v1 n1 xs1) (low1 : ∀ g, v1.ownBlock = some g → w.heap.size ≤ g) (g4 : (w2.alloc o3).grownBy w4 v1.ownBlock) (own4 : OwnAt w4 B 32 4 v4 n4 xs4) (loc4 : ∀ g, v4.ownBlock = some g → v1.ownBlock = some g ∨ (w2.alloc o3).heap.size ≤ g)
    (g5 : w4.grownBy w5 v4.ownBlock) (own5 : OwnAt w5 B 32 4 v5 n5 (flatQ (M.take p) ++ q.cells ++ flatQ (M.drop p))) (loc5 : ∀ g, v5.ownBlock = some g → v4.ownBlock = some g ∨ w4.heap.size ≤ g) (hn5 : n5 = (putW x.wait q.r).length) :
    LogAt (w5.setCell ⟨b, 1, none⟩ v5) B b vl v5 L (M.take p ++ [q] ++ M.drop p) ⟨x.list, putW x.wait q.r, x.bound⟩ ∧ Turns (logS b vl vw) w (w5.setCell ⟨b, 1, none⟩ v5) ∧ ∀ g, g < w.heap.size → logS b vl v5 g → logS b vl vw g := by
  have hs2 : (w2.alloc o3).heap.size = w2.heap.size + 1 := by simp
  have hw2 := hb2.size
  have low4 : ∀ g, v4.ownBlock = some g → w.heap.size ≤ g := fun g hg => (loc4 g hg).elim (low1 g) (fun e => by omega)
  have hb4 : Below w.heap.size w w4 := at_grown (own_alloc hb2 _) g4 low1
  have hw4 := hb4.size
  have low5 : ∀ g, v5.ownBlock = some g → w.heap.size ≤ g := fun g hg => (loc5 g hg).elim (low4 g) (fun e => by omega)
  have hb5 : Below w.heap.size w w5 := at_grown hb4 g5 low4
  have h5 := h.on hb5
  have h2 := h.on hb2
  have hbl := h.blt
  have t24 : Turns (fun k => v1.ownBlock = some k) w2 w4 := ((Turns.refl _ w2).alloc o3).grown g4 (fun _ _ e => e)
  have t45 : Turns (fun k => v4.ownBlock = some k) w4 w5 := (Turns.refl _ w4).grown g5 (fun _ _ e => e)
  have q4 := hq.turn t24 (fun g hv e => vb_ne_own own1 hv e)
  have q5 := q4.turn t45 (fun g hv e => vb_ne_own own4 hv e)
  have t6 : Turns (one b) w5 (w5.setCell ⟨b, 1, none⟩ v5) := (Turns.refl (one b) w5).set (a := ⟨b, 1, none⟩) (fun _ => rfl) _
  have vb6 : ∀ g, VB w5 g → ¬ one b g := fun g hv e => h5.noVB g hv (.inl e)
  have n5' : v5.ownBlock ≠ some b := fun e => by have := low5 b e; omega
  have hM : ∀ q', q' ∈ M.take p ++ [q] ++ M.drop p → q' ∈ M ∨ q' = q := by
    intro q' hq'
    rw [List.append_assoc] at hq'
    rcases List.mem_append.1 hq' with e | e
    · exact .inl (List.mem_of_mem_take e)
    · rcases List.mem_cons.1 e with e | e
      · exact .inr e
      · exact .inl (List.mem_of_mem_drop e)
  refine ⟨⟨?_, h5.hl.turn t6 (fun g hg e => h5.nl (by rw [hg, show g = b from e])), ?_, h.lr, ?_, fun q' hq' => (h5.rl q' hq').turn t6 vb6, fun q' hq' => ?_, fun g hg e => ?_⟩, ?_, fun g hg e => ?_⟩
  · rw [heap_setCell_same w5 b 1 _ _ v5 h5.hb]; rfl
  · have := own5.turn t6 (fun g hg e => n5' (by rw [hg, show g = b from e]))
    rw [flatQ_app, flatQ_app, show flatQ [q] = q.cells from by simp [flatQ]]
    show OwnAt _ B 32 4 v5 (putW x.wait q.r).length _
    rw [← hn5]
    exact this
  · show (M.take p ++ [q] ++ M.drop p).map Q.r = putW x.wait q.r
    unfold putW
    rw [← hp, List.map_append, List.map_append, List.map_take, List.map_drop, h.mr]
    rfl
  · rcases hM q' hq' with e | rfl
    · exact (h5.rm q' e).turn t6 vb6
    · exact q5.turn t6 vb6
  · have h1 := (h.hl.lt g hg).2
    have h2 := low5 g e
    omega
  · exact (Turns.of_below hb5).on t6 (fun j _ e => .inl e)
  · rcases e with e | e | e
    · exact .inl e
    · exact .inr (.inl e)
    · have := low5 g e; omega
theorem map_low {w : World} {base : Nat} {e : TypeId} {size n cp : Nat} {D : Option Addr} {xs : List Value} (h : w.ownsRow base e size (.slice D n cp) n xs) {g : Nat} (hg : D.map Addr.block = some g) : base ≤ g := by
  obtain ⟨hl, ⟨h1, h2⟩ | ⟨g', cap, cur, hv, hb, hh, _⟩⟩ := h
  · injection h1 with h1
    subst h1
    cases hg
  · injection hv with h1
    subst h1
    have : g' = g := Option.some.inj hg
    subst this
    exact hb
set_option maxRecDepth 100000 in
set_option maxHeartbeats 4000000 in
theorem dec_first (w : World) (B b : Nat) (h : LogAt w B b (.slice none 0 0) (.slice none 0 0) [] [] lg0) (r : R) (D : Option Addr) (c : Nat) (hlt : 0 < r.ts) (hr : r.vers.length ≤ 1000) (hD : Cells w D (flatV r.vers)) (hB : B ≤ w.heap.size) :
    Calls Try.prog 9 #[.pointer (some ⟨b, 0, none⟩), .agg #[.int .u64 r.ts, .int .i64 r.dc, .int .i64 r.tx, .slice D r.vers.length c]] w fun e w' => e = .returned (.int .i64 0) ∧ ∃ v q, q.r = r ∧ (∀ g, q.D.map Addr.block = some g → w.heap.size ≤ g) ∧
      LogAt w' B b (.slice none 0 0) v [] [q] ⟨[], [r], 0⟩ ∧ Turns (logS b (.slice none 0 0) (.slice none 0 0)) w w' ∧ ∀ g, g < w.heap.size → logS b (.slice none 0 0) v g → logS b (.slice none 0 0) (.slice none 0 0) g := by
  obtain ⟨i0, hi0, hz0, hz1, hz2⟩ := info_parts infoRec
  have c1 : w.cell? ⟨b, 1, none⟩ = some (.slice none 0 0) := h.cell 1
  have c2 : w.cell? ⟨b, 2, none⟩ = some (.int .u64 0) := h.cell 2
  have f1 : w.frozen? ⟨b, 1, none⟩ = false := h.frozen 1
  have hbl := h.blt
  have d1 : ¬ r.ts ≤ 0 := by omega
  have d2 : decide (r.ts ≤ 0) = false := by simpa using d1
  clear hlt
  go_enter Try.func9, Try.ntmps9
  go_wp2_with fail
  go_quiet (fail)
  obtain ⟨W, hW⟩ : ∃ W, (w.alloc (.cells #[.int .u64 r.ts, .int .i64 r.dc, .int .i64 r.tx, .slice D r.vers.length c] 32)).drewN nq = W := ⟨_, rfl⟩
  have hxW : Below (w.alloc (.cells #[.int .u64 r.ts, .int .i64 r.dc, .int .i64 r.tx, .slice D r.vers.length c] 32)).heap.size (w.alloc (.cells #[.int .u64 r.ts, .int .i64 r.dc, .int .i64 r.tx, .slice D r.vers.length c] 32)) W := hW ▸ own_drewN (own_refl _) nq
  have hbW : Below w.heap.size w W := below_own (own_alloc (own_refl _) _) hxW
  rw [hW]
  clear hW d1 d2
  have c1' := cell_on hbW c1
  go_wp2_with fail
  go_loopw [5, 24] (fun at' i wr => i = .int .i64 0 ∧ at' = .int .i64 0 ∧ Below (w.alloc (.cells #[.int .u64 r.ts, .int .i64 r.dc, .int .i64 r.tx, .slice D r.vers.length c] 32)).heap.size (w.alloc (.cells #[.int .u64 r.ts, .int .i64 r.dc, .int .i64 r.tx, .slice D r.vers.length c] 32)) wr) (fun _ i _ => 0)
  case atStart => exact ⟨rfl, rfl, hxW⟩
  case round =>
    obtain ⟨rfl, rfl, hxr⟩ := hrel
    have hbr : Below w.heap.size w wr := below_own (own_alloc (own_refl _) _) hxr
    have y0 : wr.cell? ⟨w.heap.size, 0, none⟩ = some (.int .u64 r.ts) := (box_on hxr).1 0
    have y1 : wr.cell? ⟨w.heap.size, 1, none⟩ = some (.int .i64 r.dc) := (box_on hxr).1 1
    have y2 : wr.cell? ⟨w.heap.size, 2, none⟩ = some (.int .i64 r.tx) := (box_on hxr).1 2
    have y3 : wr.cell? ⟨w.heap.size, 3, none⟩ = some (.slice D r.vers.length c) := (box_on hxr).1 3
    have hys := (box_on hxr).2.2
    have hBW := h.on hbr
    have hBle : B ≤ wr.heap.size := Nat.le_trans hB hbr.size
    have hDW := hD.on hbr
    have d1 : wr.cell? ⟨b, 1, none⟩ = some (.slice none 0 0) := cell_on hbr c1
    have h64 : r.vers.length * 64 ≤ 140737488351232 := by omega
    go_wp2_with fail
    go_region_law (first | (refine step_append_at _ (by rfl) _ _ 26 (by rfl) B 32 i0 (.agg #[.int .u64 0, .int .i64 0, .int .i64 0, .slice none 0 0]) 4 48 Try.underlying26 hi0 hz0 hz1 hz2 (by rfl) (by omega) _ _ _ (by rfl) (OwnAt.nil _ B 32 4) _ 0 _ ([] : List Value) (by rfl) rfl (Cells.nil _ _) (by simp) (by unfold maxLen; omega) (by omega) (by first | exact hBle | (simp; exact hBle)) ?_; intro D1 cp1 w1 own1 g1 loc1; simp only [Nat.zero_add, List.nil_append] at own1 loc1; have hb1 : Below wr.heap.size wr w1 := at_grown (own_drew (own_refl _)) g1 (fun g hg => by cases hg); have y0' := cell_on hb1 y0; have y1' := cell_on hb1 y1; have y2' := cell_on hb1 y2; have y3' := cell_on hb1 y3; have e1' := cell_on hb1 d1) | (refine step_append_at _ (by rfl) _ _ 26 (by rfl) B 32 i0 (.agg #[.int .u64 0, .int .i64 0, .int .i64 0, .slice none 0 0]) 4 48 Try.underlying26 hi0 hz0 hz1 hz2 (by rfl) (by omega) _ _ _ (by rfl) (own1'.on (own_alloc (own_refl _) _)) _ 1 _ [.int .u64 r.ts, .int .i64 r.dc, .int .i64 r.tx, .slice D2 r.vers.length cp2] (by rfl) rfl (Cells.new w2 #[.int .u64 r.ts, .int .i64 r.dc, .int .i64 r.tx, .slice D2 r.vers.length cp2] 32) (one_q ⟨r, D2, cp2⟩) (by unfold maxLen; omega) (by omega) (by have := hBle; have := hb12.size; simp; omega) ?_; intro D4 cp4 w4 own4 g4 loc4; have low1 : ∀ g, (Value.slice D1 0 cp1).ownBlock = some g → wr.heap.size ≤ g := (fun g hg => (loc1 g hg).elim (fun e => by cases e) (fun e => e)); have hb14 : Below wr.heap.size wr w4 := at_grown (own_alloc hb12 _) g4 low1; have e4 := cell_on hb14 d1) | (go_simp; (go_at_call 22; (with_reducible refine (ocopy_any r D _ c _ rfl h64 (hDW.on hb1)).mono ?_); rintro e w2 ⟨D2, cp2, rfl, hown2, hb2⟩; have own1' := own1.on hb2; have hb12 := below_own hb1 hb2; have y0'' := cell_on hb2 y0'; have y1'' := cell_on hb2 y1'; have y2'' := cell_on hb2 y2'; have y3'' := cell_on hb2 y3'; have e1'' := cell_on hb2 e1')))
    all_goals
      go_wp2_with (at_builtin; refine wpList_append_at _ rfl _ _ 26 rfl B 32 i0 (.agg #[.int .u64 0, .int .i64 0, .int .i64 0, .slice none 0 0]) 4 48 Try.underlying26 hi0 hz0 hz1 hz2 rfl (by omega) _ _ _ rfl own4 _ _ _ ([] : List Value) rfl rfl (Cells.nil _ _) (by simp) (by unfold maxLen; omega) (by omega) (by have := hBle; have := hb14.size; omega) ?_; intro D5 cp5 w5 own5 g5 loc5; have low4 : ∀ g, (Value.slice D4 (0 + 1) cp4).ownBlock = some g → wr.heap.size ≤ g := fun g hg => (loc4 g hg).elim (low1 g) (fun e => by have := hb12.size; simp at e; omega); have hb15 : Below wr.heap.size wr w5 := at_grown hb14 g5 low4; have c5 := cell_on hb15 d1; have f5 : w5.frozen? ⟨b, 1, none⟩ = false := ((below_own hbr hb15).frozen (p := ⟨b, 1, none⟩) hbl).trans f1)
      go_ret
      obtain ⟨e2, e3, e4⟩ := dec_finF (q := ⟨r, D2, cp2⟩) (p := 0) h (below_own hbr hb12) (qat_own hown2 rfl) rfl own1' (fun g hg => Nat.le_trans hbr.size (low1 g hg)) g4 own4 loc4 g5 own5 loc5 rfl
      refine ⟨rfl, _, ⟨r, D2, cp2⟩, rfl, fun g hg => ?_, e2, e3, e4⟩
      have := map_low hown2 hg
      have := (below_own hbr hb1).size
      omega
end Go.Proofs.Ytggbdjdfejcpjaa
