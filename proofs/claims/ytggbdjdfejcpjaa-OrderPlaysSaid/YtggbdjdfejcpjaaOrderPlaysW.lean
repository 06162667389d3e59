/-
  The walk of the law OrderPlays: whatever data come in, the call returns true and leaves what was there. Conditions: the arguments' cells lie as the hypotheses say.
-/
import Derived.Test.YtggbdjdfejcpjaaSameL
import Derived.Test.YtggbdjdfejcpjaaOpLog
import Derived.Test.YtggbdjdfejcpjaaOrefR
import Derived.Test.YtggbdjdfejcpjaaOrdG
import Derived.Test.YtggbdjdfejcpjaaBridge
import Derived.Deep.RegionHeld3
import Derived.Deep.QuietTactic
import Derived.BigQuiet
import Derived.BigRegion
import Derived.BigRegionIn
namespace Go.Proofs.Ytggbdjdfejcpjaa.lawOrderPlays
open Go.RowKit Go.Maps Go.Shelf
attribute [local go_sem] Oper.semAt_some
set_option linter.unusedVariables false

theorem decR_form {x x' : Lg} {r : R} {e : Ending} {w' : World} (h : DecR x r e w' x') : ∃ er : Int, e = .returned (.int .i64 er) := by
  rcases h with ⟨_, rfl, _⟩ | ⟨_, _, rfl, _⟩ | ⟨_, _, rfl, _⟩ <;> exact ⟨_, rfl⟩
theorem low_of {S T : Nat → Prop} {N M : Nat} (h : ∀ g, g < N → T g → S g) (hM : M ≤ N) (hl : ∀ g, S g → M ≤ g) : ∀ g, T g → M ≤ g := fun g e => (Nat.lt_or_ge g N).elim (fun c => hl g (h g c e)) (fun c => Nat.le_trans hM c)
section
variable {w w' : World} {B b q : Nat} {vl vw vl' vw' vc ve vc' ve' : Value} {L M P N : List Q} {x y : Lg}
theorem after_log (hA : LogAt w B b vl vw L M x) (hR : RfAt w B q vc ve P N y) (hd : ∀ g, logS b vl vw g → ¬ logS q vc ve g) (hT : Turns (logS b vl vw) w w') (hO : ∀ g, g < w.heap.size → logS b vl' vw' g → logS b vl vw g) :
    RfAt w' B q vc ve P N y ∧ ∀ g, logS b vl' vw' g → ¬ logS q vc ve g :=
  ⟨hR.turn hT (fun g hg e => hd g e hg) hA.noVB, fun g e hg => hd g (hO g (hR.lt g hg) e) hg⟩
theorem after_rf (hA : LogAt w B b vl vw L M x) (hR : RfAt w B q vc ve P N y) (hd : ∀ g, logS b vl vw g → ¬ logS q vc ve g) (hT : Turns (logS q vc ve) w w') (hO : ∀ g, g < w.heap.size → logS q vc' ve' g → logS q vc ve g) :
    LogAt w' B b vl vw L M x ∧ ∀ g, logS b vl vw g → ¬ logS q vc' ve' g :=
  ⟨hA.turn hT (fun g hg e => hd g hg e) hR.noVB, fun g hg e => hd g hg (hO g (hA.lt g hg) e)⟩
theorem same_code {x y x' y' : Lg} {r : R} {er : Int} {e' : Ending} {w w' : World} (h : Alike x y) (hx : DecR x r (.returned (.int .i64 er)) w x') (hy : RDecR y r e' w' y') : e' = .returned (.int .i64 er) ∧ Alike x' y' := by
  obtain ⟨⟨er', h1, h2⟩, h3⟩ := h.dec hx hy
  have h4 : er = er' := by injection h1 with h; injection h
  exact ⟨h4 ▸ h2, h3⟩
end
theorem plays_leave {w v : World} {D : Nat} {tmps : Array Value} {r : Bool} (e3 : v.heap[D]? = some (.deferred (some []))) (hc : v.heap[w.heap.size]? = some (.cells #[.bool r] 4 (0, 0))) (h4 : tmps.getD 4 undef = .pointer (some ⟨w.heap.size, 0, none⟩)) (hb : Below w.heap.size w v) (l3 : w.heap.size < D) (_ : True) :
    bodyPostM Fence.wide 5 Try.prog Try.f3 (fun e w' => e = .returned (.bool true) ∧ Below w.heap.size w w') .ret ⟨tmps, [⟨.collected D, #[]⟩]⟩ (v.setCell ⟨w.heap.size, 0, none⟩ (.bool true)) := by
  have hne : w.heap.size ≠ D := by omega
  have e4 : (v.setCell ⟨w.heap.size, 0, none⟩ (.bool true)).heap[D]? = some (.deferred (some [])) := ((Turns.refl (one w.heap.size) v).set (a := ⟨w.heap.size, 0, none⟩) (fun _ => rfl) (.bool true)).block D (Array.getElem?_eq_some_iff.1 e3).1 (fun e => hne (by have e : D = w.heap.size := e; omega)) |>.trans e3
  have hc2 := heap_setCell_same v w.heap.size 0 _ _ (.bool true) hc
  have hc3 : ((v.setCell ⟨w.heap.size, 0, none⟩ (.bool true)).putObj D (.deferred none)).heap[w.heap.size]? = some (.cells #[.bool true] 4 (0, 0)) := (World.putObj_heap_other hne).trans (by rw [hc2]; rfl)
  have hc4 : ((v.setCell ⟨w.heap.size, 0, none⟩ (.bool true)).putObj D (.deferred none)).cell? ⟨w.heap.size, 0, none⟩ = some (.bool true) := cell_of_row _ _ 0 _ _ _ hc3
  refine ⟨by simp, .inl ⟨_, _, rfl, run_takeDeferred e4, ?_⟩⟩
  refine ⟨.bool true, ?_, rfl, ?_⟩
  · have h5 : tmps[4]?.getD undef = .pointer (some ⟨w.heap.size, 0, none⟩) := by simpa using h4
    simp [results, Try.results3, go_sem, h5, hc4]
  · exact (turns_put _ D _).below (own_set hb (Nat.le_refl _) _) (fun j e => by have e : j = D := e; omega)
/-- the place in the second range. -/
def CntP (W : World) (nv : Nat) (X : World) : Prop := X.heap[W.heap.size]? = some (.cells #[.int .i64 nv] 3 (0, 0)) ∧ Below W.heap.size W X ∧ W.heap.size + 3 ≤ X.heap.size
theorem cntP_sturdy (W : World) (f : List Nq → Nat) (B : Nat) (hB : W.heap.size ≤ B) : Sturdy B (fun (pre : List Nq) X => CntP W (f pre) X) := fun pre X X' S ⟨h1, h2, h3⟩ ht hS =>
  ⟨(ht.block _ (Array.getElem?_eq_some_iff.1 h1).1 (cells_not hS h1)).trans h1, ht.below h2 (fun j e => Nat.le_trans hB (hS j e).1), Nat.le_trans h3 ht.size⟩
set_option maxRecDepth 100000 in
set_option maxHeartbeats 8000000 in
theorem walk (A : Option Addr) (n c : Nat) (fr : Int) (l : List OL) (w : World) (hn : l.length = n) (hm : n ≤ 9223372036854775807) (hA : Cells w A (flatOL l)) (wA : ∀ x ∈ l, x.wf w) (hfr : -9223372036854775808 ≤ fr ∧ fr ≤ 9223372036854775807) :
    Calls Try.prog 3 #[.slice A n c, .int .i64 fr] w fun e w' => e = .returned (.bool true) ∧ Below w.heap.size w w' := by
  refine (callsIn_wide (n := 5)).1 (callsIn_of_wp_marks Try.func3 rfl trivial ?_ rfl)
  simp only [Try.ntmps3, List.size_toArray, List.length_cons, List.length_nil, Nat.reduceAdd, Nat.reduceSub, Array.replicate_succ, Array.replicate_zero, List.push_toArray, List.append_toArray, List.nil_append, List.cons_append]
  refine wpIn_wide.2 ?_
  go_wp2_with (go_at_call 8; refine (lnew_any _).mono ?_; rintro e w1 ⟨b, rfl, hb, hL0, hb1⟩)
  have hRb := hL0.blt
  have hz1 := hb1.size
  have hbel1 : Below w.heap.size w w1 := below_own (own_alloc (own_refl _) _) hb1
  have hrc1 : w1.heap[w.heap.size]? = some (.cells #[.bool false] 4 (0, 0)) := (hb1.block w.heap.size (by simp)).trans (heap_alloc_new w _)
  obtain ⟨B, hBe⟩ : ∃ B, (w.alloc (.cells #[.bool false] 4)).heap.size = B := ⟨_, rfl⟩
  have hBv : B = w.heap.size + 1 := by rw [← hBe]; simp
  rw [hBe] at hb hL0 hz1
  clear hBe hb1
  have hA0 : LogAt (w1.alloc (.cells #[.slice none 0 0, .slice none 0 0, .int .u64 0] 29)) B b (.slice none 0 0) (.slice none 0 0) [] [] lg0 := hL0.on (own_alloc (own_refl _) _)
  have hR0 : RfAt (w1.alloc (.cells #[.slice none 0 0, .slice none 0 0, .int .u64 0] 29)) B w1.heap.size (.slice none 0 0) (.slice none 0 0) [] [] lg0 := ⟨heap_alloc_new w1 _, OwnAt.nil _ _ _ _, OwnAt.nil _ _ _ _, rfl, rfl, by simp, by simp, fun g hg => by cases hg⟩
  have hrc0 : (w1.alloc (.cells #[.slice none 0 0, .slice none 0 0, .int .u64 0] 29)).heap[w.heap.size]? = some (.cells #[.bool false] 4 (0, 0)) := (Below.heap_alloc w1 _ _ (Array.getElem?_eq_some_iff.1 hrc1).1).trans hrc1
  have hbel0 : Below w.heap.size w (w1.alloc (.cells #[.slice none 0 0, .slice none 0 0, .int .u64 0] 29)) := own_alloc hbel1 _
  have hdj0 : ∀ g, logS b (.slice none 0 0) (.slice none 0 0) g → ¬ logS w1.heap.size (.slice none 0 0) (.slice none 0 0) g := by
    rintro g (e | e | e) e2
    · rcases e2 with e2 | e2 | e2
      · omega
      · cases e2
      · cases e2
    · cases e
    · cases e
  have hlow0 : ∀ g, logS b (.slice none 0 0) (.slice none 0 0) g → B ≤ g := by
    rintro g (e | e | e)
    · omega
    · cases e
    · cases e
  have rlow0 : ∀ g, logS w1.heap.size (.slice none 0 0) (.slice none 0 0) g → B ≤ g := by
    rintro g (e | e | e)
    · omega
    · cases e
    · cases e
  obtain ⟨q, hq0⟩ : ∃ q, w1.heap.size = q := ⟨_, rfl⟩
  obtain ⟨W0, hW0⟩ : ∃ W0, w1.alloc (.cells #[.slice none 0 0, .slice none 0 0, .int .u64 0] 29) = W0 := ⟨_, rfl⟩
  rw [hq0] at hR0 hdj0 rlow0 ⊢
  rw [hW0] at hA0 hR0 hrc0 hbel0 ⊢
  clear hW0 hL0 hbel1 hrc1 hRb hz1 hq0 hb
  have hBB' : w.heap.size < B := by omega
  go_loopw [7] (fun i wr => ∃ (k : Nat) (x y : Lg) (vl vw : Value) (L M : List Q) (vc ve : Value) (P N : List Q), k ≤ n ∧ k ≤ 80 ∧ i = .int .i64 k ∧ LFine x k ∧ OrdI x ∧ Alike x y ∧ LogAt wr B b vl vw L M x ∧ RfAt wr B q vc ve P N y ∧ (∀ g, logS b vl vw g → ¬ logS q vc ve g) ∧ (∀ g, logS b vl vw g → B ≤ g) ∧ (∀ g, logS q vc ve g → B ≤ g) ∧ wr.heap[w.heap.size]? = some (.cells #[.bool false] 4 (0, 0)) ∧ Below w.heap.size w wr) (fun i _ => n - (intOf i).toNat)
  case atStart => exact ⟨0, lg0, lg0, _, _, [], [], _, _, [], [], Nat.zero_le _, by omega, rfl, LFine.new, OrdI.new, Alike.new, hA0, hR0, hdj0, hlow0, rlow0, hrc0, hbel0⟩
  case round =>
    obtain ⟨k, x, y, vl, vw, L, M, vc, ve, P, N, hk, hk80, rfl, hF, hI, hal, hAr, hRr, hdj, hlow, rlow, hRC, hbel⟩ := hrel
    clear hA0 hR0 hdj0 hlow0 rlow0 hrc0 hbel0
    have hln := hF.n
    have hBr : B ≤ wr.heap.size := by have := hlow b (.inl rfl); have := hAr.blt; omega
    by_cases hlt : k < n ∧ k < 80
    · obtain ⟨hlt, hlt80⟩ := hlt
      obtain ⟨o, ho⟩ : ∃ o, l[k]? = some o := ⟨_, List.getElem?_eq_getElem (by omega)⟩
      obtain ⟨ab, off, rfl, x0, x1, x2, x3, x4, x5⟩ := hA.ol ho
      have x0' := cell_on hbel x0
      have x1' := cell_on hbel x1
      have x2' := cell_on hbel x2
      have x3' := cell_on hbel x3
      have x4' := cell_on hbel x4
      have x5' := cell_on hbel x5
      have hw := wA o (List.mem_of_getElem? ho)
      have g3 : (0 : Int) ≤ (k : Int) := by omega
      have g4' : (k : Int) < (n : Int) := by omega
      have g5 : (k : Int) < 80 := by omega
      have hAa : LogAt (wr.alloc (.cells #[.int .i64 o.kind, .int .u64 o.q.r.ts, .int .i64 o.q.r.dc, .int .i64 o.q.r.tx, .slice o.q.D o.q.r.vers.length o.q.c, .int .u64 o.t] 34)) B b vl vw L M x := hAr.on (own_alloc (own_refl _) _)
      have hRa : RfAt (wr.alloc (.cells #[.int .i64 o.kind, .int .u64 o.q.r.ts, .int .i64 o.q.r.dc, .int .i64 o.q.r.tx, .slice o.q.D o.q.r.vers.length o.q.c, .int .u64 o.t] 34)) B q vc ve P N y := hRr.on (own_alloc (own_refl _) _)
      have hba : Below w.heap.size w (wr.alloc (.cells #[.int .i64 o.kind, .int .u64 o.q.r.ts, .int .i64 o.q.r.dc, .int .i64 o.q.r.tx, .slice o.q.D o.q.r.vers.length o.q.c, .int .u64 o.t] 34)) := own_alloc hbel _
      have hBle : B ≤ (wr.alloc (.cells #[.int .i64 o.kind, .int .u64 o.q.r.ts, .int .i64 o.q.r.dc, .int .i64 o.q.r.tx, .slice o.q.D o.q.r.vers.length o.q.c, .int .u64 o.t] 34)).heap.size := by simp; omega
      have hxw : ¬ (fun g => logS b vl vw g ∨ logS q vc ve g) wr.heap.size := fun e => e.elim (fun e => by have := hAr.lt _ e; omega) (fun e => by have := hRr.lt _ e; omega)
      have y0 : (wr.alloc (.cells #[.int .i64 o.kind, .int .u64 o.q.r.ts, .int .i64 o.q.r.dc, .int .i64 o.q.r.tx, .slice o.q.D o.q.r.vers.length o.q.c, .int .u64 o.t] 34)).cell? ⟨wr.heap.size, 0, none⟩ = some (.int .i64 o.kind) := cell_of_row _ _ 0 _ _ _ (heap_alloc_new wr _)
      have y1 : (wr.alloc (.cells #[.int .i64 o.kind, .int .u64 o.q.r.ts, .int .i64 o.q.r.dc, .int .i64 o.q.r.tx, .slice o.q.D o.q.r.vers.length o.q.c, .int .u64 o.t] 34)).cell? ⟨wr.heap.size, 1, none⟩ = some (.int .u64 o.q.r.ts) := cell_of_row _ _ 1 _ _ _ (heap_alloc_new wr _)
      have y2 : (wr.alloc (.cells #[.int .i64 o.kind, .int .u64 o.q.r.ts, .int .i64 o.q.r.dc, .int .i64 o.q.r.tx, .slice o.q.D o.q.r.vers.length o.q.c, .int .u64 o.t] 34)).cell? ⟨wr.heap.size, 2, none⟩ = some (.int .i64 o.q.r.dc) := cell_of_row _ _ 2 _ _ _ (heap_alloc_new wr _)
      have y3 : (wr.alloc (.cells #[.int .i64 o.kind, .int .u64 o.q.r.ts, .int .i64 o.q.r.dc, .int .i64 o.q.r.tx, .slice o.q.D o.q.r.vers.length o.q.c, .int .u64 o.t] 34)).cell? ⟨wr.heap.size, 3, none⟩ = some (.int .i64 o.q.r.tx) := cell_of_row _ _ 3 _ _ _ (heap_alloc_new wr _)
      have y4 : (wr.alloc (.cells #[.int .i64 o.kind, .int .u64 o.q.r.ts, .int .i64 o.q.r.dc, .int .i64 o.q.r.tx, .slice o.q.D o.q.r.vers.length o.q.c, .int .u64 o.t] 34)).cell? ⟨wr.heap.size, 4, none⟩ = some (.slice o.q.D o.q.r.vers.length o.q.c) := cell_of_row _ _ 4 _ _ _ (heap_alloc_new wr _)
      have y5 : (wr.alloc (.cells #[.int .i64 o.kind, .int .u64 o.q.r.ts, .int .i64 o.q.r.dc, .int .i64 o.q.r.tx, .slice o.q.D o.q.r.vers.length o.q.c, .int .u64 o.t] 34)).cell? ⟨wr.heap.size, 5, none⟩ = some (.int .u64 o.t) := cell_of_row _ _ 5 _ _ _ (heap_alloc_new wr _)
      clear x0 x1 x2 x3 x4 x5 hAr hRr
      clear hA wA
      by_cases k0 : o.kind = 0
      · have e0 : (o.kind == 0) = true := by simpa using k0
        clear k0
        have hq := hw.q
        obtain ⟨r', hr'⟩ : ∃ r', o.q.r.few = r' := ⟨_, rfl⟩
        have hlf : min o.q.r.vers.length 12 = r'.vers.length := by rw [← hr']; show _ = (o.q.r.vers.take 12).length; rw [List.length_take]; omega
        have hl12 : r'.vers.length ≤ 12 := hr' ▸ few_len o.q.r
        have hrt : o.q.r.ts = r'.ts ∧ o.q.r.dc = r'.dc ∧ o.q.r.tx = r'.tx := by rw [← hr']; exact ⟨rfl, rfl, rfl⟩
        have hts : r'.ts ≤ 18446744073709551615 := by rw [← hrt.1]; exact hq.ts.2
        have hDf : Cells w o.q.D (flatV r'.vers) := by rw [← hr']; exact Cells.takeG (cf := V.cells) hq.D 12
        have hr1000 : r'.vers.length ≤ 1000 := by omega
        have HLF := Lib.hid hlf
        have HRT := Lib.hid hrt
        clear hr' hlf hrt
        have hbd : Below w.heap.size w (wr.alloc (.cells #[.int .i64 o.kind, .int .u64 o.q.r.ts, .int .i64 o.q.r.dc, .int .i64 o.q.r.tx, .slice o.q.D o.q.r.vers.length o.q.c, .int .u64 o.t] 34)).drew := own_drew hba
        have td := (Turns.refl none' (wr.alloc (.cells #[.int .i64 o.kind, .int .u64 o.q.r.ts, .int .i64 o.q.r.dc, .int .i64 o.q.r.tx, .slice o.q.D o.q.r.vers.length o.q.c, .int .u64 o.t] 34))).drew
        have hAd : LogAt (wr.alloc (.cells #[.int .i64 o.kind, .int .u64 o.q.r.ts, .int .i64 o.q.r.dc, .int .i64 o.q.r.tx, .slice o.q.D o.q.r.vers.length o.q.c, .int .u64 o.t] 34)).drew B b vl vw L M x := hAa.turn td (fun _ _ => id) (fun _ _ => id)
        have hRd : RfAt (wr.alloc (.cells #[.int .i64 o.kind, .int .u64 o.q.r.ts, .int .i64 o.q.r.dc, .int .i64 o.q.r.tx, .slice o.q.D o.q.r.vers.length o.q.c, .int .u64 o.t] 34)).drew B q vc ve P N y := hRa.turn td (fun _ _ => id) (fun _ _ => id)
        have hsd : (wr.alloc (.cells #[.int .i64 o.kind, .int .u64 o.q.r.ts, .int .i64 o.q.r.dc, .int .i64 o.q.r.tx, .slice o.q.D o.q.r.vers.length o.q.c, .int .u64 o.t] 34)).drew.heap.size = (wr.alloc (.cells #[.int .i64 o.kind, .int .u64 o.q.r.ts, .int .i64 o.q.r.dc, .int .i64 o.q.r.tx, .slice o.q.D o.q.r.vers.length o.q.c, .int .u64 o.t] 34)).heap.size := rfl
        have hTlow : ∀ j, (fun g => logS b vl vw g ∨ logS q vc ve g) j → w.heap.size ≤ j := fun j e => e.elim (fun e => by have := hlow j e; omega) (fun e => by have := rlow j e; omega)
        have hTrc : ¬ (fun g => logS b vl vw g ∨ logS q vc ve g) w.heap.size := fun e => e.elim (fun e => by have := hlow _ e; omega) (fun e => by have := rlow _ e; omega)
        have hw150 : x.wait.length ≤ 150 := by have := hF.n; omega
        have hv150 : y.wait.length ≤ 150 := by rw [hal.wait.length_eq]; exact hw150
        have hBld : B ≤ (wr.alloc (.cells #[.int .i64 o.kind, .int .u64 o.q.r.ts, .int .i64 o.q.r.dc, .int .i64 o.q.r.tx, .slice o.q.D o.q.r.vers.length o.q.c, .int .u64 o.t] 34)).drew.heap.size := by rw [hsd]; exact hBle
        go_wp2_with fail
        go_region_held3 (fun w' => Turns (fun g => logS b vl vw g ∨ logS q vc ve g) (wr.alloc (.cells #[.int .i64 o.kind, .int .u64 o.q.r.ts, .int .i64 o.q.r.dc, .int .i64 o.q.r.tx, .slice o.q.D o.q.r.vers.length o.q.c, .int .u64 o.t] 34)) w' ∧ w'.cell? ⟨wr.heap.size, 0, none⟩ = some (.int .i64 o.kind) ∧ w'.cell? ⟨wr.heap.size, 1, none⟩ = some (.int .u64 o.q.r.ts) ∧ w'.cell? ⟨wr.heap.size, 2, none⟩ = some (.int .i64 o.q.r.dc) ∧ w'.cell? ⟨wr.heap.size, 3, none⟩ = some (.int .i64 o.q.r.tx) ∧ w'.cell? ⟨wr.heap.size, 4, none⟩ = some (.slice o.q.D o.q.r.vers.length o.q.c) ∧ w'.cell? ⟨wr.heap.size, 5, none⟩ = some (.int .u64 o.t))
          (first | (refine ⟨(Turns.refl _ _).drew, ?_, ?_, ?_, ?_, ?_, ?_⟩ <;> (go_simp; done)) | (go_split_ands; exact ⟨by assumption, Turns.cell (by assumption) y0 hxw, Turns.cell (by assumption) y1 hxw, Turns.cell (by assumption) y2 hxw, Turns.cell (by assumption) y3 hxw, Turns.cell (by assumption) y4 hxw, Turns.cell (by assumption) y5 hxw⟩))
          (first | (go_at_call 10; (with_reducible refine (few_any o.q.r _ _ _ (wr.alloc (.cells #[.int .i64 o.kind, .int .u64 o.q.r.ts, .int .i64 o.q.r.dc, .int .i64 o.q.r.tx, .slice o.q.D o.q.r.vers.length o.q.c, .int .u64 o.t] 34)).drew rfl hq.le hq.fit hq.nn).mono ?_); rintro e w2 ⟨rfl, hb2⟩; rw [HLF.out]; have ht2 : Turns (fun g => logS b vl vw g ∨ logS q vc ve g) (wr.alloc (.cells #[.int .i64 o.kind, .int .u64 o.q.r.ts, .int .i64 o.q.r.dc, .int .i64 o.q.r.tx, .slice o.q.D o.q.r.vers.length o.q.c, .int .u64 o.t] 34)) w2 := (Turns.refl _ _).drew.below' hb2; rw [HRT.out.1, HRT.out.2.1, HRT.out.2.2]) | (go_at_call 9; have hpt := dec_any w2 B b vl vw L M x (hAd.on hb2) r' o.q.D o.q.c hF.ok hw150 hr1000 (hDf.on (below_own hbd hb2)) (Nat.le_trans hBld hb2.size); refine hpt.mono ?_; rintro e w3 ⟨vl', vw', L', M', x', hP, hA3, hT, hO'⟩; obtain ⟨er, rfl⟩ := decR_form hP; have ht3 := ht2.on hT (fun _ _ e => Or.inl e); obtain ⟨hR3, hd3⟩ := after_log (hAd.on hb2) (hRd.on hb2) hdj hT hO') | (go_at_call 10; (with_reducible refine (few_any ⟨r'.ts, r'.dc, r'.tx, o.q.r.vers⟩ _ _ _ w3 rfl hq.le hq.fit hq.nn).mono ?_); rintro e w4 ⟨rfl, hb4⟩; rw [HLF.out]; have ht4 := ht3.below' hb4) | (go_at_call 11; have hbw4 : Below w.heap.size w w4 := ht4.below hba hTlow; have hrt := rdec_any w4 B q vc ve P N y (hR3.on hb4) r' o.q.D o.q.c hv150 hr1000 (hDf.on hbw4) (Nat.le_trans hBle ht4.size); refine hrt.mono ?_; rintro e w5 ⟨vc', ve', P', N', y', hQ, hR5, hT5, hO5⟩; obtain ⟨rfl, hal'⟩ := same_code hal hP hQ; have ht5 := ht4.on hT5 (fun _ _ e => Or.inr e); obtain ⟨hA5, hd5⟩ := after_rf (hA3.on hb4) (hR3.on hb4) hd3 hT5 hO5))
        rename_i hSS
        clear hSS
        have gee : (er != er) = false := by simp
        have eFine := hF.dec (by omega) hl12 hts hP
        obtain ⟨eOrd, _⟩ := hI.dec hP
        have hlow' := low_of hO' (Nat.le_trans hBld hb2.size) hlow
        have rlow' := low_of hO5 (Nat.le_trans hBle ht4.size) rlow
        clear hP hQ
        have eLF : LFine x' (k + 1) := eFine
        have hAn : ∀ n, LogAt (w5.drewN n) B b vl' vw' L' M' x' := fun n => hA5.turn (S := none') ((Turns.refl _ _).drewN n) (fun _ _ => id) (fun _ _ => id)
        have hRn : ∀ n, RfAt (w5.drewN n) B q vc' ve' P' N' y' := fun n => hR5.turn (S := none') ((Turns.refl _ _).drewN n) (fun _ _ => id) (fun _ _ => id)
        obtain ⟨Dc, cc, rfl, hcc⟩ := hR5.hl.form
        obtain ⟨De, ce, rfl, hce⟩ := hR5.hw.form
        have c0 : w5.cell? ⟨q, 0, none⟩ = some (.slice Dc x'.list.length cc) := by have := hR5.cell 0; rw [hal'.list] at this; exact this
        have c1 : w5.cell? ⟨q, 1, none⟩ = some (.slice De x'.wait.length ce) := by have := hR5.cell 1; rw [hal'.wait.length_eq] at this; exact this
        have g1 : ((x'.list.length : Int) != (x'.list.length : Int)) = false := by simp
        have g2 : ((x'.wait.length : Int) != (x'.wait.length : Int)) = false := by simp
        have hq5 := hR5.blt
        have eRC : w5.heap[w.heap.size]? = some (.cells #[.bool false] 4 (0, 0)) := (ht5.block _ (by simp; omega) hTrc).trans ((Below.heap_alloc wr _ _ (by omega)).trans hRC)
        have eW : Below w.heap.size w w5 := ht5.below hba hTlow
        have HF := Lib.hid eLF
        have HO := Lib.hid eOrd
        have HAL := Lib.hid hal'
        have HD := Lib.hid hd5
        have HL := Lib.hid hlow'
        have HG := Lib.hid rlow'
        have HAN := Lib.hid hAn
        have HRN := Lib.hid hRn
        have HRC := Lib.hid eRC
        have HLEN : Hid (∀ n, Calls Try.prog 14 #[.pointer (some ⟨b, 0, none⟩)] (w5.drewN n) fun e w' => e = .returned (.int .i64 x'.list.length) ∧ w5.drewN n = w') := Lib.hid (fun n => len_any _ B b vl' vw' L' M' x' (hAn n))
        have HWTG : Hid (∀ n, Calls Try.prog 15 #[.pointer (some ⟨b, 0, none⟩)] (w5.drewN n) fun e w' => e = .returned (.int .i64 x'.wait.length) ∧ w5.drewN n = w') := Lib.hid (fun n => waiting_any _ B b vl' vw' L' M' x' (hAn n))
        clear eLF eFine eOrd hal' hd5 hlow' rlow' hAn hRn eRC hR5 hA5 ht5 hdj hlow rlow hTlow hTrc hRC hAa hRa hAd hRd hT hT5 hO5 hpt hrt hR3 hd3 hA3 ht2 ht3 ht4 hbw4 hDf hO'
        go_wp2_with fail
        go_quiet ((first | (go_at_call 14; exact Calls.quiet_of_same ((HLEN.out _).mono fun e w' h => ⟨h.1, h.2.symm⟩)) | (go_at_call 15; exact Calls.quiet_of_same ((HWTG.out _).mono fun e w' h => ⟨h.1, h.2.symm⟩))))
        go_wp2
        go_roundw
        case rel => exact ⟨k + 1, x', y', vl', vw', L', M', _, _, P', N', by omega, by omega, by go_num, HF.out, HO.out, HAL.out, HAN.out _, HRN.out _, HD.out, HL.out, HG.out, HRC.out, own_drewN eW _⟩
        case measure => simp [intOf]; omega
      · have e0 : (o.kind == 0) = false := by simpa using k0
        clear k0
        have hwt := hw.t
        have hx200 : x.list.length + x.wait.length ≤ 200 := hF.ok.l1
        have hbd : Below w.heap.size w (wr.alloc (.cells #[.int .i64 o.kind, .int .u64 o.q.r.ts, .int .i64 o.q.r.dc, .int .i64 o.q.r.tx, .slice o.q.D o.q.r.vers.length o.q.c, .int .u64 o.t] 34)).drew := own_drew hba
        have td := (Turns.refl none' (wr.alloc (.cells #[.int .i64 o.kind, .int .u64 o.q.r.ts, .int .i64 o.q.r.dc, .int .i64 o.q.r.tx, .slice o.q.D o.q.r.vers.length o.q.c, .int .u64 o.t] 34))).drew
        have hAd : LogAt (wr.alloc (.cells #[.int .i64 o.kind, .int .u64 o.q.r.ts, .int .i64 o.q.r.dc, .int .i64 o.q.r.tx, .slice o.q.D o.q.r.vers.length o.q.c, .int .u64 o.t] 34)).drew B b vl vw L M x := hAa.turn td (fun _ _ => id) (fun _ _ => id)
        have hRd : RfAt (wr.alloc (.cells #[.int .i64 o.kind, .int .u64 o.q.r.ts, .int .i64 o.q.r.dc, .int .i64 o.q.r.tx, .slice o.q.D o.q.r.vers.length o.q.c, .int .u64 o.t] 34)).drew B q vc ve P N y := hRa.turn td (fun _ _ => id) (fun _ _ => id)
        have hsd : (wr.alloc (.cells #[.int .i64 o.kind, .int .u64 o.q.r.ts, .int .i64 o.q.r.dc, .int .i64 o.q.r.tx, .slice o.q.D o.q.r.vers.length o.q.c, .int .u64 o.t] 34)).drew.heap.size = (wr.alloc (.cells #[.int .i64 o.kind, .int .u64 o.q.r.ts, .int .i64 o.q.r.dc, .int .i64 o.q.r.tx, .slice o.q.D o.q.r.vers.length o.q.c, .int .u64 o.t] 34)).heap.size := rfl
        have hTlow : ∀ j, (fun g => logS b vl vw g ∨ logS q vc ve g) j → w.heap.size ≤ j := fun j e => e.elim (fun e => by have := hlow j e; omega) (fun e => by have := rlow j e; omega)
        have hTrc : ¬ (fun g => logS b vl vw g ∨ logS q vc ve g) w.heap.size := fun e => e.elim (fun e => by have := hlow _ e; omega) (fun e => by have := rlow _ e; omega)
        have hw150 : x.wait.length ≤ 150 := by have := hF.n; omega
        have hv150 : y.wait.length ≤ 150 := by rw [hal.wait.length_eq]; exact hw150
        have hBld : B ≤ (wr.alloc (.cells #[.int .i64 o.kind, .int .u64 o.q.r.ts, .int .i64 o.q.r.dc, .int .i64 o.q.r.tx, .slice o.q.D o.q.r.vers.length o.q.c, .int .u64 o.t] 34)).drew.heap.size := by rw [hsd]; exact hBle
        go_wp2_with fail
        go_region_held3 (fun w' => Turns (fun g => logS b vl vw g ∨ logS q vc ve g) (wr.alloc (.cells #[.int .i64 o.kind, .int .u64 o.q.r.ts, .int .i64 o.q.r.dc, .int .i64 o.q.r.tx, .slice o.q.D o.q.r.vers.length o.q.c, .int .u64 o.t] 34)) w' ∧ w'.cell? ⟨wr.heap.size, 0, none⟩ = some (.int .i64 o.kind) ∧ w'.cell? ⟨wr.heap.size, 1, none⟩ = some (.int .u64 o.q.r.ts) ∧ w'.cell? ⟨wr.heap.size, 2, none⟩ = some (.int .i64 o.q.r.dc) ∧ w'.cell? ⟨wr.heap.size, 3, none⟩ = some (.int .i64 o.q.r.tx) ∧ w'.cell? ⟨wr.heap.size, 4, none⟩ = some (.slice o.q.D o.q.r.vers.length o.q.c) ∧ w'.cell? ⟨wr.heap.size, 5, none⟩ = some (.int .u64 o.t))
          (first | (refine ⟨(Turns.refl _ _).drew, ?_, ?_, ?_, ?_, ?_, ?_⟩ <;> (go_simp; done)) | (go_split_ands; exact ⟨by assumption, Turns.cell (by assumption) y0 hxw, Turns.cell (by assumption) y1 hxw, Turns.cell (by assumption) y2 hxw, Turns.cell (by assumption) y3 hxw, Turns.cell (by assumption) y4 hxw, Turns.cell (by assumption) y5 hxw⟩))
          (first | (go_at_call 12; have hpt := release_any (wr.alloc (.cells #[.int .i64 o.kind, .int .u64 o.q.r.ts, .int .i64 o.q.r.dc, .int .i64 o.q.r.tx, .slice o.q.D o.q.r.vers.length o.q.c, .int .u64 o.t] 34)).drew B b vl vw L M x hAd hx200 o.t hBld; refine hpt.mono ?_; rintro e w3 ⟨vl', vw', L', M', x', ⟨rfl, hx'⟩, hA3, hT, hO'⟩; have ht3 : Turns (fun g => logS b vl vw g ∨ logS q vc ve g) (wr.alloc (.cells #[.int .i64 o.kind, .int .u64 o.q.r.ts, .int .i64 o.q.r.dc, .int .i64 o.q.r.tx, .slice o.q.D o.q.r.vers.length o.q.c, .int .u64 o.t] 34)) w3 := (Turns.refl _ _).drew.on hT (fun _ _ e => Or.inl e); obtain ⟨hR3, hd3⟩ := after_log hAd hRd hdj hT hO') | (go_at_call 13; have hrt := rrel_any w3 B q vc ve P N x y hR3 hal (List.pairwise_append.1 hI.up).2.1 hx200 o.t (Nat.le_trans hBle ht3.size); refine hrt.mono ?_; rintro e w5 ⟨vc', ve', P', N', y', ⟨rfl, hal'⟩, hR5, hT5, hO5⟩; have ht5 := ht3.on hT5 (fun _ _ e => Or.inr e); obtain ⟨hA5, hd5⟩ := after_rf hA3 hR3 hd3 hT5 hO5))
        rename_i hSS
        clear hSS
        have gee : ((relN (max x.bound o.t) x.wait : Int) != (relN (max x.bound o.t) x.wait : Int)) = false := by simp
        rw [← hx'] at hal'
        have eFine : LFine x' (k + 1) := by rw [hx']; exact hF.rel hwt
        have eOrd : OrdI x' := by rw [hx']; exact hI.rel o.t
        have hlow' := low_of hO' hBld hlow
        have rlow' := low_of hO5 (Nat.le_trans hBle ht3.size) rlow
        clear hx'
        have eLF : LFine x' (k + 1) := eFine
        have hAn : ∀ n, LogAt (w5.drewN n) B b vl' vw' L' M' x' := fun n => hA5.turn (S := none') ((Turns.refl _ _).drewN n) (fun _ _ => id) (fun _ _ => id)
        have hRn : ∀ n, RfAt (w5.drewN n) B q vc' ve' P' N' y' := fun n => hR5.turn (S := none') ((Turns.refl _ _).drewN n) (fun _ _ => id) (fun _ _ => id)
        obtain ⟨Dc, cc, rfl, hcc⟩ := hR5.hl.form
        obtain ⟨De, ce, rfl, hce⟩ := hR5.hw.form
        have c0 : w5.cell? ⟨q, 0, none⟩ = some (.slice Dc x'.list.length cc) := by have := hR5.cell 0; rw [hal'.list] at this; exact this
        have c1 : w5.cell? ⟨q, 1, none⟩ = some (.slice De x'.wait.length ce) := by have := hR5.cell 1; rw [hal'.wait.length_eq] at this; exact this
        have g1 : ((x'.list.length : Int) != (x'.list.length : Int)) = false := by simp
        have g2 : ((x'.wait.length : Int) != (x'.wait.length : Int)) = false := by simp
        have hq5 := hR5.blt
        have eRC : w5.heap[w.heap.size]? = some (.cells #[.bool false] 4 (0, 0)) := (ht5.block _ (by simp; omega) hTrc).trans ((Below.heap_alloc wr _ _ (by omega)).trans hRC)
        have eW : Below w.heap.size w w5 := ht5.below hba hTlow
        have HF := Lib.hid eLF
        have HO := Lib.hid eOrd
        have HAL := Lib.hid hal'
        have HD := Lib.hid hd5
        have HL := Lib.hid hlow'
        have HG := Lib.hid rlow'
        have HAN := Lib.hid hAn
        have HRN := Lib.hid hRn
        have HRC := Lib.hid eRC
        have HLEN : Hid (∀ n, Calls Try.prog 14 #[.pointer (some ⟨b, 0, none⟩)] (w5.drewN n) fun e w' => e = .returned (.int .i64 x'.list.length) ∧ w5.drewN n = w') := Lib.hid (fun n => len_any _ B b vl' vw' L' M' x' (hAn n))
        have HWTG : Hid (∀ n, Calls Try.prog 15 #[.pointer (some ⟨b, 0, none⟩)] (w5.drewN n) fun e w' => e = .returned (.int .i64 x'.wait.length) ∧ w5.drewN n = w') := Lib.hid (fun n => waiting_any _ B b vl' vw' L' M' x' (hAn n))
        clear eLF eFine eOrd hal' hd5 hlow' rlow' hAn hRn eRC hR5 hA5 ht5 hdj hlow rlow hTlow hTrc hRC hAa hRa hAd hRd hT hT5 hO5 hpt hrt hR3 hd3 hA3 ht3 hO'
        go_wp2_with fail
        go_quiet ((first | (go_at_call 14; exact Calls.quiet_of_same ((HLEN.out _).mono fun e w' h => ⟨h.1, h.2.symm⟩)) | (go_at_call 15; exact Calls.quiet_of_same ((HWTG.out _).mono fun e w' h => ⟨h.1, h.2.symm⟩))))
        go_wp2
        go_roundw
        case rel => exact ⟨k + 1, x', y', vl', vw', L', M', _, _, P', N', by omega, by omega, by go_num, HF.out, HO.out, HAL.out, HAN.out _, HRN.out _, HD.out, HL.out, HG.out, HRC.out, own_drewN eW _⟩
        case measure => simp [intOf]; omega
    · have hke : k = n ∨ k = 80 := by omega
      by_cases hkn : k < n
      · have hd : decide ((k : Int) < 80) = false := by simp; omega
        have hd2 : (k : Int) < (n : Int) := by omega
        have hd3 : ¬ (k : Int) < 80 := by omega
        clear hke hlt
        obtain ⟨Dc, cc, rfl, hcc⟩ := hRr.hl.form
        have c0 : wr.cell? ⟨q, 0, none⟩ = some (.slice Dc x.list.length cc) := by have := hRr.cell 0; rw [hal.list] at this; exact this
        obtain ⟨st, hst⟩ : ∃ st : Nat, (if fr < 0 then 0 else fr) = (st : Int) := ⟨(if fr < 0 then 0 else fr).toNat, by split <;> omega⟩
        obtain ⟨a0, ha⟩ : ∃ a0 : Nat, min st x.list.length = a0 := ⟨_, rfl⟩
        have ha0 : (if x.list.length < st then (x.list.length : Int) else (st : Int)) = (a0 : Int) := by split <;> omega
        have ha1 : (if st < x.list.length then (st : Int) else (x.list.length : Int)) = (a0 : Int) := by split <;> omega
        have ha2 : (if (x.list.length : Int) < (st : Int) then (x.list.length : Int) else (st : Int)) = (a0 : Int) := by split <;> omega
        have ha3 : (if (st : Int) < (x.list.length : Int) then (st : Int) else (x.list.length : Int)) = (a0 : Int) := by split <;> omega
        have HA0 := Lib.hid ha
        have HST := Lib.hid hst
        have HAL := Lib.hid hal
        have hlen : x.list.length ≤ 200 := by have := hF.ok.l1; omega
        have HFW : Hid (∀ r ∈ x.list, r.vers.length ≤ 12) := Lib.hid (fun r hr => hF.ok.few r (.inl hr))
        have HDJ := Lib.hid hdj
        have HLO := Lib.hid hlow
        have HRL := Lib.hid rlow
        clear ha hal hdj hlow rlow hF hI
        go_wp2_with (go_at_call 16; refine (from_any _ _ _).mono ?_; rintro e w' ⟨rfl, rfl⟩)
        clear hst ha0 ha1 ha2 ha3
        obtain ⟨W1, hW1⟩ : ∃ W1, (((wr.alloc (.cells #[.int .i64 a0] 3)).alloc (.cells #[.pointer (some ⟨b, 0, none⟩)] 23)).alloc (.cells #[.int .i64 fr] 3)) = W1 := ⟨_, rfl⟩
        have hs1 : W1.heap.size = wr.heap.size + 3 := by rw [← hW1]; simp
        have hb1 : Below wr.heap.size wr W1 := hW1 ▸ own_alloc (own_alloc (own_alloc (own_refl wr) _) _) _
        obtain ⟨hnb, hpb, hqb⟩ := three_new wr (.cells #[.int .i64 a0] 3) (.cells #[.pointer (some ⟨b, 0, none⟩)] 23) (.cells #[.int .i64 fr] 3)
        rw [hW1] at hnb hpb hqb
        have hp0 : W1.cell? ⟨wr.heap.size + 1, 0, none⟩ = some (.pointer (some ⟨b, 0, none⟩)) := cell_of_row _ _ 0 _ _ _ hpb
        have hp1 : W1.cell? ⟨wr.heap.size + 1 + 1, 0, none⟩ = some (.int .i64 fr) := cell_of_row _ _ 0 _ _ _ hqb
        have hL1 := hAr.on hb1
        have hu := hAr.under
        rw [hW1]
        clear hW1 hpb hqb
        apply wpIn_wide.1
        apply (range_law3 (n := 5) rfl (by omega) (gf := 27) (lb := #[.pointer (some ⟨wr.heap.size + 1, 0, none⟩), .pointer (some ⟨wr.heap.size + 1 + 1, 0, none⟩)]) rfl trivial (enters_of Try.func27 (by kernel_rfl) rfl)
          (from_hands2 4 (by omega) (wr.heap.size + 1) (wr.heap.size + 3) wr.heap.size (one wr.heap.size) (fun g e => by have e : g = wr.heap.size := e; omega) (by omega) fr st HST.out B b vl vw L M x hlen HFW.out W1 hp0 hp1 (by omega) hL1 hu (by omega)) (Below.refl _ _) (fun h k => h.trans k)
          (fun X l o o' hl ho hc => (turns_put X l o').weaken (fun j _ e => .inr (by have e : j = l := e; omega))) (fun _ => rfl)
          (fun pre X => CntP wr (a0 + pre.length) X) (fun _ _ _ => False) (fun pre y X => y.1 = st + pre.length ∧ x.list[y.1]? = some y.2.r ∧ CntP wr (a0 + pre.length) X) _
          (cntP_sturdy wr (fun pre => a0 + pre.length) _ (by omega)) (fun _ _ _ _ _ h _ _ => h) (fun s X X' S h ht hS => ⟨h.1, h.2.1, cntP_sturdy wr (fun pre => a0 + pre.length) _ (by omega) s.1 X X' S h.2.2 ht hS⟩)
          ⟨hnb, hb1, by omega⟩ ?assign2 ?body2 ?done2 ?stop2)
        case assign2 =>
          intro l' pre y X K hI hok hK
          have HOK := Lib.hid hok
          clear hok
          unfold encN
          gi_wp2
          exact hK _ (KeepsOthers.refl _) (Turns.refl _ _) ⟨HOK.out.1, HOK.out.2.1, hI⟩
        case body2 =>
          intro l' pre y X hA hlt'
          obtain ⟨hy1, hyx, hn, hBX, hsz⟩ := hA
          have hyl : y.1 < x.list.length := (List.getElem?_eq_some_iff.1 hyx).1
          obtain ⟨m, hm⟩ : ∃ m, a0 + pre.length = m := ⟨_, rfl⟩
          have hym : y.1 = m := by have := HA0.out; omega
          rw [hm] at hn
          have cn : X.cell? ⟨wr.heap.size, 0, none⟩ = some (.int .i64 m) := cell_of_row _ _ 0 _ _ _ hn
          have fn : X.frozen? ⟨wr.heap.size, 0, none⟩ = false := by simp [World.frozen?, hn]
          have gm : ((m : Int) != (m : Int)) = false := by simp
          have m2 : (m : Int) ≤ 200 := by omega
          have m0 : (0 : Int) ≤ (m : Int) := by omega
          obtain ⟨yi, yq⟩ := y
          obtain rfl : yi = m := hym
          have HM := Lib.hid hm
          have HBX := Lib.hid hBX
          clear hy1 hyx hm hyl hBX
          gi_wp2
          have hob2 := heap_setCell_same X wr.heap.size 0 _ _ (.int .i64 ((yi : Int) + 1)) hn
          exact ⟨KeepsOthers.setCell _ _ _, ((Turns.refl (one wr.heap.size) X).set (a := ⟨wr.heap.size, 0, none⟩) (fun _ => rfl) _).weaken (fun j _ e => .inl e), by rw [hob2, List.length_append, List.length_singleton, ← Nat.add_assoc, HM.out]; rfl, own_set HBX.out (Nat.le_refl _) _, by simp; exact hsz⟩
        case done2 =>
          intro D ys X hD hys hI hK
          have hl1 : a0 + ys.length = x.list.length := by have h1 : ys.length = x.list.length - st := hys.1; have := HA0.out; omega
          rw [hl1] at hI
          obtain ⟨hn, hBX, hsz⟩ := hI
          clear hys hl1
          have cAt : X.cell? ⟨wr.heap.size, 0, none⟩ = some (.int .i64 x.list.length) := cell_of_row _ _ 0 _ _ _ hn
          have cL : X.cell? ⟨q, 0, none⟩ = some (.slice Dc x.list.length cc) := cell_on hBX c0
          have hRX : X.heap[w.heap.size]? = some (.cells #[.bool false] 4 (0, 0)) := (hBX.block _ (Array.getElem?_eq_some_iff.1 hRC).1).trans hRC
          have hrX := (Array.getElem?_eq_some_iff.1 hRX).1
          have cR : X.cell? ⟨w.heap.size, 0, none⟩ = some (.bool false) := cell_of_row _ _ 0 _ _ _ hRX
          have fR : X.frozen? ⟨w.heap.size, 0, none⟩ = false := by simp [World.frozen?, hRX]
          have LX : LogAt X B b vl vw L M x := hAr.on hBX
          have RX := hRr.on hBX
          have bX : Below w.heap.size w X := below_own hbel hBX
          clear hn hAr hRr hbel hp0 hp1 hL1 hu hnb hb1 c0 hRC
          go_wp2_with fail
          refine region_plain (N := 20) rfl (by kernel_rfl) ?_
          refine wpAny_ready (rs := [0]) (by kernel_rfl) (by simp) (AllReady.cons rfl (fun K hK => ?_) AllReady.nil)
          go_simp
          refine (awake_any _).mono ?_
          rintro e w7 ⟨rfl, hb7⟩
          have b7 : Below X.heap.size X w7 := below_own (own_drew (own_refl X)) hb7
          have cAt7 := cell_on b7 cAt
          have cL7 := cell_on b7 cL
          have cR7 := cell_on b7 cR
          refine hK _ _ ?_
          clear hK K
          refine wpAny_take (i := 1) (v := .bool true) rfl (by kernel_rfl) (by kernel_rfl) (by kernel_rfl) (fun _ _ _ h => h) (Or.inl ⟨by kernel_rfl, fun W => by go_simp⟩) ?_
          refine wpAny_take (i := 3) (v := .pointer (some ⟨q, 0, none⟩)) rfl (by kernel_rfl) (by kernel_rfl) (by kernel_rfl) (fun _ _ _ h => h) (Or.inl ⟨by kernel_rfl, fun W => by go_simp⟩) ?_
          refine wpAny_take (i := 4) (v := .pointer (some ⟨q, 0, none⟩)) rfl (by kernel_rfl) (by kernel_rfl) (by kernel_rfl) (fun _ _ _ h => h) (Or.inl ⟨by kernel_rfl, fun W => by go_simp⟩) ?_
          refine wpAny_take (i := 5) (v := .pointer (some ⟨q, 0, none⟩)) rfl (by kernel_rfl) (by kernel_rfl) (by kernel_rfl) (fun _ _ _ h => h) (Or.inl ⟨by kernel_rfl, fun W => by go_simp⟩) ?_
          refine wpAny_ready (rs := [2, 6]) (by kernel_rfl) (by simp) (AllReady.cons rfl (fun K hK => ?_) (AllReady.cons rfl (fun K hK => ?_) AllReady.nil))
          · go_simp
            refine hK _ _ ?_
            clear hK K
            refine wpAny_ready (rs := [6]) (by kernel_rfl) (by simp) (AllReady.cons rfl (fun K hK => ?_) AllReady.nil)
            go_simp
            refine hK _ _ ?_
            clear hK K
            refine wpAny_take (i := 7) (v := .int .i64 x.list.length) rfl (by kernel_rfl) (by kernel_rfl) (by kernel_rfl) (fun _ _ _ h => h) (Or.inl ⟨by kernel_rfl, fun W => by go_simp⟩) ?_
            refine wpAny_take (i := 8) (v := .bool true) rfl (by kernel_rfl) (by kernel_rfl) (by kernel_rfl) (fun _ _ _ h => h) (Or.inl ⟨by kernel_rfl, fun W => by go_simp⟩) ?_
            refine wpAny_take (i := 9) (v := .bool true) rfl (by kernel_rfl) (by kernel_rfl) (by kernel_rfl) (fun _ _ _ h => h) (Or.inl ⟨by kernel_rfl, fun W => by go_simp⟩) ?_
            refine wpAny_take (i := 10) (v := .bool true) rfl (by kernel_rfl) (by kernel_rfl) (by kernel_rfl) (fun _ _ _ h => h) (Or.inl ⟨by kernel_rfl, fun W => by go_simp⟩) ?_
            refine wpAny_take (i := 11) (v := .pointer (some ⟨b, 0, none⟩)) rfl (by kernel_rfl) (by kernel_rfl) (by kernel_rfl) (fun _ _ _ h => h) (Or.inl ⟨by kernel_rfl, fun W => by go_simp⟩) ?_
            refine wpAny_take (i := 13) (v := .pointer (some ⟨q, 0, none⟩)) rfl (by kernel_rfl) (by kernel_rfl) (by kernel_rfl) (fun _ _ _ h => h) (Or.inl ⟨by kernel_rfl, fun W => by go_simp⟩) ?_
            refine wpAny_take (i := 14) (v := .pointer (some ⟨q, 0, none⟩)) rfl (by kernel_rfl) (by kernel_rfl) (by kernel_rfl) (fun _ _ _ h => h) (Or.inl ⟨by kernel_rfl, fun W => by go_simp⟩) ?_
            refine wpAny_take (i := 15) (v := .pointer (some ⟨q, 0, none⟩)) rfl (by kernel_rfl) (by kernel_rfl) (by kernel_rfl) (fun _ _ _ h => h) (Or.inl ⟨by kernel_rfl, fun W => by go_simp⟩) ?_
            refine wpAny_ready (rs := [12, 16]) (by kernel_rfl) (by simp) (AllReady.cons rfl (fun K hK => ?_) (AllReady.cons rfl (fun K hK => ?_) AllReady.nil))
            · go_simp
              refine (stable_any w7 B b vl vw L M x (LX.on b7) 0 0 rfl hlen HFW.out).mono ?_
              rintro e w8 ⟨D1, cp1, K1, rfl, hrow1, hmr1, hq1, hb8⟩
              rw [List.drop_zero] at hrow1 hmr1 ⊢
              have b8 : Below X.heap.size X w8 := below_own b7 hb8
              have cAt8 := cell_on b8 cAt
              have cL8 := cell_on b8 cL
              have cR8 := cell_on b8 cR
              refine hK _ _ ?_
              clear hK K
              refine wpAny_ready (rs := [16]) (by kernel_rfl) (by simp) (AllReady.cons rfl (fun K hK => ?_) AllReady.nil)
              go_simp
              refine hK _ _ ?_
              clear hK K
              refine wpAny_ready (rs := [17]) (by kernel_rfl) (by simp) (AllReady.cons rfl (fun K hK => ?_) AllReady.nil)
              go_simp
              refine (same_list D1 Dc x.list.length cp1 cc K1 P w8 (by have h9 := congrArg List.length hmr1; rwa [List.length_map] at h9) (by omega) (Cells.of_own hrow1) ((RX.on b8).hl.cells) (by rw [hmr1, RX.lr, HAL.out.list]) hq1 (fun q' hq' => (RX.on b8).rl q' hq') (fun q' hq' => Nat.le_trans (HFW.out q'.r (by rw [← hmr1]; exact List.mem_map_of_mem hq')) (by omega))).mono ?_
              rintro e w9 ⟨rfl, hb9⟩
              have b9 : Below X.heap.size X w9 := below_own b8 hb9
              have cAt9 := cell_on b9 cAt
              have cL9 := cell_on b9 cL
              have cR9 := cell_on b9 cR
              have fR9 : w9.frozen? ⟨w.heap.size, 0, none⟩ = false := (b9.frozen (p := ⟨w.heap.size, 0, none⟩) hrX).trans fR
              refine hK _ _ ?_
              clear hK K
              refine wpAny_take (i := 18) (v := .bool true) rfl (by kernel_rfl) (by kernel_rfl) (by kernel_rfl) (fun _ _ _ h => h) (Or.inl ⟨by kernel_rfl, fun W => by go_simp⟩) ?_
              refine wpAny_ready (rs := [19]) (by kernel_rfl) (by simp) (AllReady.cons rfl (fun K hK => ?_) AllReady.nil)
              go_simp
              refine hK _ _ ?_
              clear hK K
              refine wpAny_done (by kernel_rfl) ?_ _
              simp only [onlyN]
              go_wp2_with fail
              exact plays_leave ((b9.block D (Array.getElem?_eq_some_iff.1 hK).1).trans hK) ((b9.block _ hrX).trans hRX) rfl (below_own bX b9) (by omega) trivial
            · go_simp
              refine hK _ _ ?_
              clear hK K
              refine wpAny_ready (rs := [12]) (by kernel_rfl) (by simp) (AllReady.cons rfl (fun K hK => ?_) AllReady.nil)
              go_simp
              refine (stable_any w7 B b vl vw L M x (LX.on b7) 0 0 rfl hlen HFW.out).mono ?_
              rintro e w8 ⟨D1, cp1, K1, rfl, hrow1, hmr1, hq1, hb8⟩
              rw [List.drop_zero] at hrow1 hmr1 ⊢
              have b8 : Below X.heap.size X w8 := below_own b7 hb8
              have cAt8 := cell_on b8 cAt
              have cL8 := cell_on b8 cL
              have cR8 := cell_on b8 cR
              refine hK _ _ ?_
              clear hK K
              refine wpAny_ready (rs := [17]) (by kernel_rfl) (by simp) (AllReady.cons rfl (fun K hK => ?_) AllReady.nil)
              go_simp
              refine (same_list D1 Dc x.list.length cp1 cc K1 P w8 (by have h9 := congrArg List.length hmr1; rwa [List.length_map] at h9) (by omega) (Cells.of_own hrow1) ((RX.on b8).hl.cells) (by rw [hmr1, RX.lr, HAL.out.list]) hq1 (fun q' hq' => (RX.on b8).rl q' hq') (fun q' hq' => Nat.le_trans (HFW.out q'.r (by rw [← hmr1]; exact List.mem_map_of_mem hq')) (by omega))).mono ?_
              rintro e w9 ⟨rfl, hb9⟩
              have b9 : Below X.heap.size X w9 := below_own b8 hb9
              have cAt9 := cell_on b9 cAt
              have cL9 := cell_on b9 cL
              have cR9 := cell_on b9 cR
              have fR9 : w9.frozen? ⟨w.heap.size, 0, none⟩ = false := (b9.frozen (p := ⟨w.heap.size, 0, none⟩) hrX).trans fR
              refine hK _ _ ?_
              clear hK K
              refine wpAny_take (i := 18) (v := .bool true) rfl (by kernel_rfl) (by kernel_rfl) (by kernel_rfl) (fun _ _ _ h => h) (Or.inl ⟨by kernel_rfl, fun W => by go_simp⟩) ?_
              refine wpAny_ready (rs := [19]) (by kernel_rfl) (by simp) (AllReady.cons rfl (fun K hK => ?_) AllReady.nil)
              go_simp
              refine hK _ _ ?_
              clear hK K
              refine wpAny_done (by kernel_rfl) ?_ _
              simp only [onlyN]
              go_wp2_with fail
              exact plays_leave ((b9.block D (Array.getElem?_eq_some_iff.1 hK).1).trans hK) ((b9.block _ hrX).trans hRX) rfl (below_own bX b9) (by omega) trivial
          · go_simp
            refine hK _ _ ?_
            clear hK K
            refine wpAny_take (i := 7) (v := .int .i64 x.list.length) rfl (by kernel_rfl) (by kernel_rfl) (by kernel_rfl) (fun _ _ _ h => h) (Or.inl ⟨by kernel_rfl, fun W => by go_simp⟩) ?_
            refine wpAny_ready (rs := [2]) (by kernel_rfl) (by simp) (AllReady.cons rfl (fun K hK => ?_) AllReady.nil)
            go_simp
            refine hK _ _ ?_
            clear hK K
            refine wpAny_take (i := 8) (v := .bool true) rfl (by kernel_rfl) (by kernel_rfl) (by kernel_rfl) (fun _ _ _ h => h) (Or.inl ⟨by kernel_rfl, fun W => by go_simp⟩) ?_
            refine wpAny_take (i := 9) (v := .bool true) rfl (by kernel_rfl) (by kernel_rfl) (by kernel_rfl) (fun _ _ _ h => h) (Or.inl ⟨by kernel_rfl, fun W => by go_simp⟩) ?_
            refine wpAny_take (i := 10) (v := .bool true) rfl (by kernel_rfl) (by kernel_rfl) (by kernel_rfl) (fun _ _ _ h => h) (Or.inl ⟨by kernel_rfl, fun W => by go_simp⟩) ?_
            refine wpAny_take (i := 11) (v := .pointer (some ⟨b, 0, none⟩)) rfl (by kernel_rfl) (by kernel_rfl) (by kernel_rfl) (fun _ _ _ h => h) (Or.inl ⟨by kernel_rfl, fun W => by go_simp⟩) ?_
            refine wpAny_take (i := 13) (v := .pointer (some ⟨q, 0, none⟩)) rfl (by kernel_rfl) (by kernel_rfl) (by kernel_rfl) (fun _ _ _ h => h) (Or.inl ⟨by kernel_rfl, fun W => by go_simp⟩) ?_
            refine wpAny_take (i := 14) (v := .pointer (some ⟨q, 0, none⟩)) rfl (by kernel_rfl) (by kernel_rfl) (by kernel_rfl) (fun _ _ _ h => h) (Or.inl ⟨by kernel_rfl, fun W => by go_simp⟩) ?_
            refine wpAny_take (i := 15) (v := .pointer (some ⟨q, 0, none⟩)) rfl (by kernel_rfl) (by kernel_rfl) (by kernel_rfl) (fun _ _ _ h => h) (Or.inl ⟨by kernel_rfl, fun W => by go_simp⟩) ?_
            refine wpAny_ready (rs := [12, 16]) (by kernel_rfl) (by simp) (AllReady.cons rfl (fun K hK => ?_) (AllReady.cons rfl (fun K hK => ?_) AllReady.nil))
            · go_simp
              refine (stable_any w7 B b vl vw L M x (LX.on b7) 0 0 rfl hlen HFW.out).mono ?_
              rintro e w8 ⟨D1, cp1, K1, rfl, hrow1, hmr1, hq1, hb8⟩
              rw [List.drop_zero] at hrow1 hmr1 ⊢
              have b8 : Below X.heap.size X w8 := below_own b7 hb8
              have cAt8 := cell_on b8 cAt
              have cL8 := cell_on b8 cL
              have cR8 := cell_on b8 cR
              refine hK _ _ ?_
              clear hK K
              refine wpAny_ready (rs := [16]) (by kernel_rfl) (by simp) (AllReady.cons rfl (fun K hK => ?_) AllReady.nil)
              go_simp
              refine hK _ _ ?_
              clear hK K
              refine wpAny_ready (rs := [17]) (by kernel_rfl) (by simp) (AllReady.cons rfl (fun K hK => ?_) AllReady.nil)
              go_simp
              refine (same_list D1 Dc x.list.length cp1 cc K1 P w8 (by have h9 := congrArg List.length hmr1; rwa [List.length_map] at h9) (by omega) (Cells.of_own hrow1) ((RX.on b8).hl.cells) (by rw [hmr1, RX.lr, HAL.out.list]) hq1 (fun q' hq' => (RX.on b8).rl q' hq') (fun q' hq' => Nat.le_trans (HFW.out q'.r (by rw [← hmr1]; exact List.mem_map_of_mem hq')) (by omega))).mono ?_
              rintro e w9 ⟨rfl, hb9⟩
              have b9 : Below X.heap.size X w9 := below_own b8 hb9
              have cAt9 := cell_on b9 cAt
              have cL9 := cell_on b9 cL
              have cR9 := cell_on b9 cR
              have fR9 : w9.frozen? ⟨w.heap.size, 0, none⟩ = false := (b9.frozen (p := ⟨w.heap.size, 0, none⟩) hrX).trans fR
              refine hK _ _ ?_
              clear hK K
              refine wpAny_take (i := 18) (v := .bool true) rfl (by kernel_rfl) (by kernel_rfl) (by kernel_rfl) (fun _ _ _ h => h) (Or.inl ⟨by kernel_rfl, fun W => by go_simp⟩) ?_
              refine wpAny_ready (rs := [19]) (by kernel_rfl) (by simp) (AllReady.cons rfl (fun K hK => ?_) AllReady.nil)
              go_simp
              refine hK _ _ ?_
              clear hK K
              refine wpAny_done (by kernel_rfl) ?_ _
              simp only [onlyN]
              go_wp2_with fail
              exact plays_leave ((b9.block D (Array.getElem?_eq_some_iff.1 hK).1).trans hK) ((b9.block _ hrX).trans hRX) rfl (below_own bX b9) (by omega) trivial
            · go_simp
              refine hK _ _ ?_
              clear hK K
              refine wpAny_ready (rs := [12]) (by kernel_rfl) (by simp) (AllReady.cons rfl (fun K hK => ?_) AllReady.nil)
              go_simp
              refine (stable_any w7 B b vl vw L M x (LX.on b7) 0 0 rfl hlen HFW.out).mono ?_
              rintro e w8 ⟨D1, cp1, K1, rfl, hrow1, hmr1, hq1, hb8⟩
              rw [List.drop_zero] at hrow1 hmr1 ⊢
              have b8 : Below X.heap.size X w8 := below_own b7 hb8
              have cAt8 := cell_on b8 cAt
              have cL8 := cell_on b8 cL
              have cR8 := cell_on b8 cR
              refine hK _ _ ?_
              clear hK K
              refine wpAny_ready (rs := [17]) (by kernel_rfl) (by simp) (AllReady.cons rfl (fun K hK => ?_) AllReady.nil)
              go_simp
              refine (same_list D1 Dc x.list.length cp1 cc K1 P w8 (by have h9 := congrArg List.length hmr1; rwa [List.length_map] at h9) (by omega) (Cells.of_own hrow1) ((RX.on b8).hl.cells) (by rw [hmr1, RX.lr, HAL.out.list]) hq1 (fun q' hq' => (RX.on b8).rl q' hq') (fun q' hq' => Nat.le_trans (HFW.out q'.r (by rw [← hmr1]; exact List.mem_map_of_mem hq')) (by omega))).mono ?_
              rintro e w9 ⟨rfl, hb9⟩
              have b9 : Below X.heap.size X w9 := below_own b8 hb9
              have cAt9 := cell_on b9 cAt
              have cL9 := cell_on b9 cL
              have cR9 := cell_on b9 cR
              have fR9 : w9.frozen? ⟨w.heap.size, 0, none⟩ = false := (b9.frozen (p := ⟨w.heap.size, 0, none⟩) hrX).trans fR
              refine hK _ _ ?_
              clear hK K
              refine wpAny_take (i := 18) (v := .bool true) rfl (by kernel_rfl) (by kernel_rfl) (by kernel_rfl) (fun _ _ _ h => h) (Or.inl ⟨by kernel_rfl, fun W => by go_simp⟩) ?_
              refine wpAny_ready (rs := [19]) (by kernel_rfl) (by simp) (AllReady.cons rfl (fun K hK => ?_) AllReady.nil)
              go_simp
              refine hK _ _ ?_
              clear hK K
              refine wpAny_done (by kernel_rfl) ?_ _
              simp only [onlyN]
              go_wp2_with fail
              exact plays_leave ((b9.block D (Array.getElem?_eq_some_iff.1 hK).1).trans hK) ((b9.block _ hrX).trans hRX) rfl (below_own bX b9) (by omega) trivial
        case stop2 =>
          rintro D c' pre X _ _ h _
          exact h.elim
      · have hd3 : ¬ (k : Int) < (n : Int) := by omega
        clear hke hlt
        obtain ⟨Dc, cc, rfl, hcc⟩ := hRr.hl.form
        have c0 : wr.cell? ⟨q, 0, none⟩ = some (.slice Dc x.list.length cc) := by have := hRr.cell 0; rw [hal.list] at this; exact this
        obtain ⟨st, hst⟩ : ∃ st : Nat, (if fr < 0 then 0 else fr) = (st : Int) := ⟨(if fr < 0 then 0 else fr).toNat, by split <;> omega⟩
        obtain ⟨a0, ha⟩ : ∃ a0 : Nat, min st x.list.length = a0 := ⟨_, rfl⟩
        have ha0 : (if x.list.length < st then (x.list.length : Int) else (st : Int)) = (a0 : Int) := by split <;> omega
        have ha1 : (if st < x.list.length then (st : Int) else (x.list.length : Int)) = (a0 : Int) := by split <;> omega
        have ha2 : (if (x.list.length : Int) < (st : Int) then (x.list.length : Int) else (st : Int)) = (a0 : Int) := by split <;> omega
        have ha3 : (if (st : Int) < (x.list.length : Int) then (st : Int) else (x.list.length : Int)) = (a0 : Int) := by split <;> omega
        have HA0 := Lib.hid ha
        have HST := Lib.hid hst
        have HAL := Lib.hid hal
        have hlen : x.list.length ≤ 200 := by have := hF.ok.l1; omega
        have HFW : Hid (∀ r ∈ x.list, r.vers.length ≤ 12) := Lib.hid (fun r hr => hF.ok.few r (.inl hr))
        have HDJ := Lib.hid hdj
        have HLO := Lib.hid hlow
        have HRL := Lib.hid rlow
        clear ha hal hdj hlow rlow hF hI
        go_wp2_with (go_at_call 16; refine (from_any _ _ _).mono ?_; rintro e w' ⟨rfl, rfl⟩)
        clear hst ha0 ha1 ha2 ha3
        obtain ⟨W1, hW1⟩ : ∃ W1, (((wr.alloc (.cells #[.int .i64 a0] 3)).alloc (.cells #[.pointer (some ⟨b, 0, none⟩)] 23)).alloc (.cells #[.int .i64 fr] 3)) = W1 := ⟨_, rfl⟩
        have hs1 : W1.heap.size = wr.heap.size + 3 := by rw [← hW1]; simp
        have hb1 : Below wr.heap.size wr W1 := hW1 ▸ own_alloc (own_alloc (own_alloc (own_refl wr) _) _) _
        obtain ⟨hnb, hpb, hqb⟩ := three_new wr (.cells #[.int .i64 a0] 3) (.cells #[.pointer (some ⟨b, 0, none⟩)] 23) (.cells #[.int .i64 fr] 3)
        rw [hW1] at hnb hpb hqb
        have hp0 : W1.cell? ⟨wr.heap.size + 1, 0, none⟩ = some (.pointer (some ⟨b, 0, none⟩)) := cell_of_row _ _ 0 _ _ _ hpb
        have hp1 : W1.cell? ⟨wr.heap.size + 1 + 1, 0, none⟩ = some (.int .i64 fr) := cell_of_row _ _ 0 _ _ _ hqb
        have hL1 := hAr.on hb1
        have hu := hAr.under
        rw [hW1]
        clear hW1 hpb hqb
        apply wpIn_wide.1
        apply (range_law3 (n := 5) rfl (by omega) (gf := 27) (lb := #[.pointer (some ⟨wr.heap.size + 1, 0, none⟩), .pointer (some ⟨wr.heap.size + 1 + 1, 0, none⟩)]) rfl trivial (enters_of Try.func27 (by kernel_rfl) rfl)
          (from_hands2 4 (by omega) (wr.heap.size + 1) (wr.heap.size + 3) wr.heap.size (one wr.heap.size) (fun g e => by have e : g = wr.heap.size := e; omega) (by omega) fr st HST.out B b vl vw L M x hlen HFW.out W1 hp0 hp1 (by omega) hL1 hu (by omega)) (Below.refl _ _) (fun h k => h.trans k)
          (fun X l o o' hl ho hc => (turns_put X l o').weaken (fun j _ e => .inr (by have e : j = l := e; omega))) (fun _ => rfl)
          (fun pre X => CntP wr (a0 + pre.length) X) (fun _ _ _ => False) (fun pre y X => y.1 = st + pre.length ∧ x.list[y.1]? = some y.2.r ∧ CntP wr (a0 + pre.length) X) _
          (cntP_sturdy wr (fun pre => a0 + pre.length) _ (by omega)) (fun _ _ _ _ _ h _ _ => h) (fun s X X' S h ht hS => ⟨h.1, h.2.1, cntP_sturdy wr (fun pre => a0 + pre.length) _ (by omega) s.1 X X' S h.2.2 ht hS⟩)
          ⟨hnb, hb1, by omega⟩ ?assign2 ?body2 ?done2 ?stop2)
        case assign2 =>
          intro l' pre y X K hI hok hK
          have HOK := Lib.hid hok
          clear hok
          unfold encN
          gi_wp2
          exact hK _ (KeepsOthers.refl _) (Turns.refl _ _) ⟨HOK.out.1, HOK.out.2.1, hI⟩
        case body2 =>
          intro l' pre y X hA hlt'
          obtain ⟨hy1, hyx, hn, hBX, hsz⟩ := hA
          have hyl : y.1 < x.list.length := (List.getElem?_eq_some_iff.1 hyx).1
          obtain ⟨m, hm⟩ : ∃ m, a0 + pre.length = m := ⟨_, rfl⟩
          have hym : y.1 = m := by have := HA0.out; omega
          rw [hm] at hn
          have cn : X.cell? ⟨wr.heap.size, 0, none⟩ = some (.int .i64 m) := cell_of_row _ _ 0 _ _ _ hn
          have fn : X.frozen? ⟨wr.heap.size, 0, none⟩ = false := by simp [World.frozen?, hn]
          have gm : ((m : Int) != (m : Int)) = false := by simp
          have m2 : (m : Int) ≤ 200 := by omega
          have m0 : (0 : Int) ≤ (m : Int) := by omega
          obtain ⟨yi, yq⟩ := y
          obtain rfl : yi = m := hym
          have HM := Lib.hid hm
          have HBX := Lib.hid hBX
          clear hy1 hyx hm hyl hBX
          gi_wp2
          have hob2 := heap_setCell_same X wr.heap.size 0 _ _ (.int .i64 ((yi : Int) + 1)) hn
          exact ⟨KeepsOthers.setCell _ _ _, ((Turns.refl (one wr.heap.size) X).set (a := ⟨wr.heap.size, 0, none⟩) (fun _ => rfl) _).weaken (fun j _ e => .inl e), by rw [hob2, List.length_append, List.length_singleton, ← Nat.add_assoc, HM.out]; rfl, own_set HBX.out (Nat.le_refl _) _, by simp; exact hsz⟩
        case done2 =>
          intro D ys X hD hys hI hK
          have hl1 : a0 + ys.length = x.list.length := by have h1 : ys.length = x.list.length - st := hys.1; have := HA0.out; omega
          rw [hl1] at hI
          obtain ⟨hn, hBX, hsz⟩ := hI
          clear hys hl1
          have cAt : X.cell? ⟨wr.heap.size, 0, none⟩ = some (.int .i64 x.list.length) := cell_of_row _ _ 0 _ _ _ hn
          have cL : X.cell? ⟨q, 0, none⟩ = some (.slice Dc x.list.length cc) := cell_on hBX c0
          have hRX : X.heap[w.heap.size]? = some (.cells #[.bool false] 4 (0, 0)) := (hBX.block _ (Array.getElem?_eq_some_iff.1 hRC).1).trans hRC
          have hrX := (Array.getElem?_eq_some_iff.1 hRX).1
          have cR : X.cell? ⟨w.heap.size, 0, none⟩ = some (.bool false) := cell_of_row _ _ 0 _ _ _ hRX
          have fR : X.frozen? ⟨w.heap.size, 0, none⟩ = false := by simp [World.frozen?, hRX]
          have LX : LogAt X B b vl vw L M x := hAr.on hBX
          have RX := hRr.on hBX
          have bX : Below w.heap.size w X := below_own hbel hBX
          clear hn hAr hRr hbel hp0 hp1 hL1 hu hnb hb1 c0 hRC
          go_wp2_with fail
          refine region_plain (N := 20) rfl (by kernel_rfl) ?_
          refine wpAny_ready (rs := [0]) (by kernel_rfl) (by simp) (AllReady.cons rfl (fun K hK => ?_) AllReady.nil)
          go_simp
          refine (awake_any _).mono ?_
          rintro e w7 ⟨rfl, hb7⟩
          have b7 : Below X.heap.size X w7 := below_own (own_drew (own_refl X)) hb7
          have cAt7 := cell_on b7 cAt
          have cL7 := cell_on b7 cL
          have cR7 := cell_on b7 cR
          refine hK _ _ ?_
          clear hK K
          refine wpAny_take (i := 1) (v := .bool true) rfl (by kernel_rfl) (by kernel_rfl) (by kernel_rfl) (fun _ _ _ h => h) (Or.inl ⟨by kernel_rfl, fun W => by go_simp⟩) ?_
          refine wpAny_take (i := 3) (v := .pointer (some ⟨q, 0, none⟩)) rfl (by kernel_rfl) (by kernel_rfl) (by kernel_rfl) (fun _ _ _ h => h) (Or.inl ⟨by kernel_rfl, fun W => by go_simp⟩) ?_
          refine wpAny_take (i := 4) (v := .pointer (some ⟨q, 0, none⟩)) rfl (by kernel_rfl) (by kernel_rfl) (by kernel_rfl) (fun _ _ _ h => h) (Or.inl ⟨by kernel_rfl, fun W => by go_simp⟩) ?_
          refine wpAny_take (i := 5) (v := .pointer (some ⟨q, 0, none⟩)) rfl (by kernel_rfl) (by kernel_rfl) (by kernel_rfl) (fun _ _ _ h => h) (Or.inl ⟨by kernel_rfl, fun W => by go_simp⟩) ?_
          refine wpAny_ready (rs := [2, 6]) (by kernel_rfl) (by simp) (AllReady.cons rfl (fun K hK => ?_) (AllReady.cons rfl (fun K hK => ?_) AllReady.nil))
          · go_simp
            refine hK _ _ ?_
            clear hK K
            refine wpAny_ready (rs := [6]) (by kernel_rfl) (by simp) (AllReady.cons rfl (fun K hK => ?_) AllReady.nil)
            go_simp
            refine hK _ _ ?_
            clear hK K
            refine wpAny_take (i := 7) (v := .int .i64 x.list.length) rfl (by kernel_rfl) (by kernel_rfl) (by kernel_rfl) (fun _ _ _ h => h) (Or.inl ⟨by kernel_rfl, fun W => by go_simp⟩) ?_
            refine wpAny_take (i := 8) (v := .bool true) rfl (by kernel_rfl) (by kernel_rfl) (by kernel_rfl) (fun _ _ _ h => h) (Or.inl ⟨by kernel_rfl, fun W => by go_simp⟩) ?_
            refine wpAny_take (i := 9) (v := .bool true) rfl (by kernel_rfl) (by kernel_rfl) (by kernel_rfl) (fun _ _ _ h => h) (Or.inl ⟨by kernel_rfl, fun W => by go_simp⟩) ?_
            refine wpAny_take (i := 10) (v := .bool true) rfl (by kernel_rfl) (by kernel_rfl) (by kernel_rfl) (fun _ _ _ h => h) (Or.inl ⟨by kernel_rfl, fun W => by go_simp⟩) ?_
            refine wpAny_take (i := 11) (v := .pointer (some ⟨b, 0, none⟩)) rfl (by kernel_rfl) (by kernel_rfl) (by kernel_rfl) (fun _ _ _ h => h) (Or.inl ⟨by kernel_rfl, fun W => by go_simp⟩) ?_
            refine wpAny_take (i := 13) (v := .pointer (some ⟨q, 0, none⟩)) rfl (by kernel_rfl) (by kernel_rfl) (by kernel_rfl) (fun _ _ _ h => h) (Or.inl ⟨by kernel_rfl, fun W => by go_simp⟩) ?_
            refine wpAny_take (i := 14) (v := .pointer (some ⟨q, 0, none⟩)) rfl (by kernel_rfl) (by kernel_rfl) (by kernel_rfl) (fun _ _ _ h => h) (Or.inl ⟨by kernel_rfl, fun W => by go_simp⟩) ?_
            refine wpAny_take (i := 15) (v := .pointer (some ⟨q, 0, none⟩)) rfl (by kernel_rfl) (by kernel_rfl) (by kernel_rfl) (fun _ _ _ h => h) (Or.inl ⟨by kernel_rfl, fun W => by go_simp⟩) ?_
            refine wpAny_ready (rs := [12, 16]) (by kernel_rfl) (by simp) (AllReady.cons rfl (fun K hK => ?_) (AllReady.cons rfl (fun K hK => ?_) AllReady.nil))
            · go_simp
              refine (stable_any w7 B b vl vw L M x (LX.on b7) 0 0 rfl hlen HFW.out).mono ?_
              rintro e w8 ⟨D1, cp1, K1, rfl, hrow1, hmr1, hq1, hb8⟩
              rw [List.drop_zero] at hrow1 hmr1 ⊢
              have b8 : Below X.heap.size X w8 := below_own b7 hb8
              have cAt8 := cell_on b8 cAt
              have cL8 := cell_on b8 cL
              have cR8 := cell_on b8 cR
              refine hK _ _ ?_
              clear hK K
              refine wpAny_ready (rs := [16]) (by kernel_rfl) (by simp) (AllReady.cons rfl (fun K hK => ?_) AllReady.nil)
              go_simp
              refine hK _ _ ?_
              clear hK K
              refine wpAny_ready (rs := [17]) (by kernel_rfl) (by simp) (AllReady.cons rfl (fun K hK => ?_) AllReady.nil)
              go_simp
              refine (same_list D1 Dc x.list.length cp1 cc K1 P w8 (by have h9 := congrArg List.length hmr1; rwa [List.length_map] at h9) (by omega) (Cells.of_own hrow1) ((RX.on b8).hl.cells) (by rw [hmr1, RX.lr, HAL.out.list]) hq1 (fun q' hq' => (RX.on b8).rl q' hq') (fun q' hq' => Nat.le_trans (HFW.out q'.r (by rw [← hmr1]; exact List.mem_map_of_mem hq')) (by omega))).mono ?_
              rintro e w9 ⟨rfl, hb9⟩
              have b9 : Below X.heap.size X w9 := below_own b8 hb9
              have cAt9 := cell_on b9 cAt
              have cL9 := cell_on b9 cL
              have cR9 := cell_on b9 cR
              have fR9 : w9.frozen? ⟨w.heap.size, 0, none⟩ = false := (b9.frozen (p := ⟨w.heap.size, 0, none⟩) hrX).trans fR
              refine hK _ _ ?_
              clear hK K
              refine wpAny_take (i := 18) (v := .bool true) rfl (by kernel_rfl) (by kernel_rfl) (by kernel_rfl) (fun _ _ _ h => h) (Or.inl ⟨by kernel_rfl, fun W => by go_simp⟩) ?_
              refine wpAny_ready (rs := [19]) (by kernel_rfl) (by simp) (AllReady.cons rfl (fun K hK => ?_) AllReady.nil)
              go_simp
              refine hK _ _ ?_
              clear hK K
              refine wpAny_done (by kernel_rfl) ?_ _
              simp only [onlyN]
              go_wp2_with fail
              exact plays_leave ((b9.block D (Array.getElem?_eq_some_iff.1 hK).1).trans hK) ((b9.block _ hrX).trans hRX) rfl (below_own bX b9) (by omega) trivial
            · go_simp
              refine hK _ _ ?_
              clear hK K
              refine wpAny_ready (rs := [12]) (by kernel_rfl) (by simp) (AllReady.cons rfl (fun K hK => ?_) AllReady.nil)
              go_simp
              refine (stable_any w7 B b vl vw L M x (LX.on b7) 0 0 rfl hlen HFW.out).mono ?_
              rintro e w8 ⟨D1, cp1, K1, rfl, hrow1, hmr1, hq1, hb8⟩
              rw [List.drop_zero] at hrow1 hmr1 ⊢
              have b8 : Below X.heap.size X w8 := below_own b7 hb8
              have cAt8 := cell_on b8 cAt
              have cL8 := cell_on b8 cL
              have cR8 := cell_on b8 cR
              refine hK _ _ ?_
              clear hK K
              refine wpAny_ready (rs := [17]) (by kernel_rfl) (by simp) (AllReady.cons rfl (fun K hK => ?_) AllReady.nil)
              go_simp
              refine (same_list D1 Dc x.list.length cp1 cc K1 P w8 (by have h9 := congrArg List.length hmr1; rwa [List.length_map] at h9) (by omega) (Cells.of_own hrow1) ((RX.on b8).hl.cells) (by rw [hmr1, RX.lr, HAL.out.list]) hq1 (fun q' hq' => (RX.on b8).rl q' hq') (fun q' hq' => Nat.le_trans (HFW.out q'.r (by rw [← hmr1]; exact List.mem_map_of_mem hq')) (by omega))).mono ?_
              rintro e w9 ⟨rfl, hb9⟩
              have b9 : Below X.heap.size X w9 := below_own b8 hb9
              have cAt9 := cell_on b9 cAt
              have cL9 := cell_on b9 cL
              have cR9 := cell_on b9 cR
              have fR9 : w9.frozen? ⟨w.heap.size, 0, none⟩ = false := (b9.frozen (p := ⟨w.heap.size, 0, none⟩) hrX).trans fR
              refine hK _ _ ?_
              clear hK K
              refine wpAny_take (i := 18) (v := .bool true) rfl (by kernel_rfl) (by kernel_rfl) (by kernel_rfl) (fun _ _ _ h => h) (Or.inl ⟨by kernel_rfl, fun W => by go_simp⟩) ?_
              refine wpAny_ready (rs := [19]) (by kernel_rfl) (by simp) (AllReady.cons rfl (fun K hK => ?_) AllReady.nil)
              go_simp
              refine hK _ _ ?_
              clear hK K
              refine wpAny_done (by kernel_rfl) ?_ _
              simp only [onlyN]
              go_wp2_with fail
              exact plays_leave ((b9.block D (Array.getElem?_eq_some_iff.1 hK).1).trans hK) ((b9.block _ hrX).trans hRX) rfl (below_own bX b9) (by omega) trivial
          · go_simp
            refine hK _ _ ?_
            clear hK K
            refine wpAny_take (i := 7) (v := .int .i64 x.list.length) rfl (by kernel_rfl) (by kernel_rfl) (by kernel_rfl) (fun _ _ _ h => h) (Or.inl ⟨by kernel_rfl, fun W => by go_simp⟩) ?_
            refine wpAny_ready (rs := [2]) (by kernel_rfl) (by simp) (AllReady.cons rfl (fun K hK => ?_) AllReady.nil)
            go_simp
            refine hK _ _ ?_
            clear hK K
            refine wpAny_take (i := 8) (v := .bool true) rfl (by kernel_rfl) (by kernel_rfl) (by kernel_rfl) (fun _ _ _ h => h) (Or.inl ⟨by kernel_rfl, fun W => by go_simp⟩) ?_
            refine wpAny_take (i := 9) (v := .bool true) rfl (by kernel_rfl) (by kernel_rfl) (by kernel_rfl) (fun _ _ _ h => h) (Or.inl ⟨by kernel_rfl, fun W => by go_simp⟩) ?_
            refine wpAny_take (i := 10) (v := .bool true) rfl (by kernel_rfl) (by kernel_rfl) (by kernel_rfl) (fun _ _ _ h => h) (Or.inl ⟨by kernel_rfl, fun W => by go_simp⟩) ?_
            refine wpAny_take (i := 11) (v := .pointer (some ⟨b, 0, none⟩)) rfl (by kernel_rfl) (by kernel_rfl) (by kernel_rfl) (fun _ _ _ h => h) (Or.inl ⟨by kernel_rfl, fun W => by go_simp⟩) ?_
            refine wpAny_take (i := 13) (v := .pointer (some ⟨q, 0, none⟩)) rfl (by kernel_rfl) (by kernel_rfl) (by kernel_rfl) (fun _ _ _ h => h) (Or.inl ⟨by kernel_rfl, fun W => by go_simp⟩) ?_
            refine wpAny_take (i := 14) (v := .pointer (some ⟨q, 0, none⟩)) rfl (by kernel_rfl) (by kernel_rfl) (by kernel_rfl) (fun _ _ _ h => h) (Or.inl ⟨by kernel_rfl, fun W => by go_simp⟩) ?_
            refine wpAny_take (i := 15) (v := .pointer (some ⟨q, 0, none⟩)) rfl (by kernel_rfl) (by kernel_rfl) (by kernel_rfl) (fun _ _ _ h => h) (Or.inl ⟨by kernel_rfl, fun W => by go_simp⟩) ?_
            refine wpAny_ready (rs := [12, 16]) (by kernel_rfl) (by simp) (AllReady.cons rfl (fun K hK => ?_) (AllReady.cons rfl (fun K hK => ?_) AllReady.nil))
            · go_simp
              refine (stable_any w7 B b vl vw L M x (LX.on b7) 0 0 rfl hlen HFW.out).mono ?_
              rintro e w8 ⟨D1, cp1, K1, rfl, hrow1, hmr1, hq1, hb8⟩
              rw [List.drop_zero] at hrow1 hmr1 ⊢
              have b8 : Below X.heap.size X w8 := below_own b7 hb8
              have cAt8 := cell_on b8 cAt
              have cL8 := cell_on b8 cL
              have cR8 := cell_on b8 cR
              refine hK _ _ ?_
              clear hK K
              refine wpAny_ready (rs := [16]) (by kernel_rfl) (by simp) (AllReady.cons rfl (fun K hK => ?_) AllReady.nil)
              go_simp
              refine hK _ _ ?_
              clear hK K
              refine wpAny_ready (rs := [17]) (by kernel_rfl) (by simp) (AllReady.cons rfl (fun K hK => ?_) AllReady.nil)
              go_simp
              refine (same_list D1 Dc x.list.length cp1 cc K1 P w8 (by have h9 := congrArg List.length hmr1; rwa [List.length_map] at h9) (by omega) (Cells.of_own hrow1) ((RX.on b8).hl.cells) (by rw [hmr1, RX.lr, HAL.out.list]) hq1 (fun q' hq' => (RX.on b8).rl q' hq') (fun q' hq' => Nat.le_trans (HFW.out q'.r (by rw [← hmr1]; exact List.mem_map_of_mem hq')) (by omega))).mono ?_
              rintro e w9 ⟨rfl, hb9⟩
              have b9 : Below X.heap.size X w9 := below_own b8 hb9
              have cAt9 := cell_on b9 cAt
              have cL9 := cell_on b9 cL
              have cR9 := cell_on b9 cR
              have fR9 : w9.frozen? ⟨w.heap.size, 0, none⟩ = false := (b9.frozen (p := ⟨w.heap.size, 0, none⟩) hrX).trans fR
              refine hK _ _ ?_
              clear hK K
              refine wpAny_take (i := 18) (v := .bool true) rfl (by kernel_rfl) (by kernel_rfl) (by kernel_rfl) (fun _ _ _ h => h) (Or.inl ⟨by kernel_rfl, fun W => by go_simp⟩) ?_
              refine wpAny_ready (rs := [19]) (by kernel_rfl) (by simp) (AllReady.cons rfl (fun K hK => ?_) AllReady.nil)
              go_simp
              refine hK _ _ ?_
              clear hK K
              refine wpAny_done (by kernel_rfl) ?_ _
              simp only [onlyN]
              go_wp2_with fail
              exact plays_leave ((b9.block D (Array.getElem?_eq_some_iff.1 hK).1).trans hK) ((b9.block _ hrX).trans hRX) rfl (below_own bX b9) (by omega) trivial
            · go_simp
              refine hK _ _ ?_
              clear hK K
              refine wpAny_ready (rs := [12]) (by kernel_rfl) (by simp) (AllReady.cons rfl (fun K hK => ?_) AllReady.nil)
              go_simp
              refine (stable_any w7 B b vl vw L M x (LX.on b7) 0 0 rfl hlen HFW.out).mono ?_
              rintro e w8 ⟨D1, cp1, K1, rfl, hrow1, hmr1, hq1, hb8⟩
              rw [List.drop_zero] at hrow1 hmr1 ⊢
              have b8 : Below X.heap.size X w8 := below_own b7 hb8
              have cAt8 := cell_on b8 cAt
              have cL8 := cell_on b8 cL
              have cR8 := cell_on b8 cR
              refine hK _ _ ?_
              clear hK K
              refine wpAny_ready (rs := [17]) (by kernel_rfl) (by simp) (AllReady.cons rfl (fun K hK => ?_) AllReady.nil)
              go_simp
              refine (same_list D1 Dc x.list.length cp1 cc K1 P w8 (by have h9 := congrArg List.length hmr1; rwa [List.length_map] at h9) (by omega) (Cells.of_own hrow1) ((RX.on b8).hl.cells) (by rw [hmr1, RX.lr, HAL.out.list]) hq1 (fun q' hq' => (RX.on b8).rl q' hq') (fun q' hq' => Nat.le_trans (HFW.out q'.r (by rw [← hmr1]; exact List.mem_map_of_mem hq')) (by omega))).mono ?_
              rintro e w9 ⟨rfl, hb9⟩
              have b9 : Below X.heap.size X w9 := below_own b8 hb9
              have cAt9 := cell_on b9 cAt
              have cL9 := cell_on b9 cL
              have cR9 := cell_on b9 cR
              have fR9 : w9.frozen? ⟨w.heap.size, 0, none⟩ = false := (b9.frozen (p := ⟨w.heap.size, 0, none⟩) hrX).trans fR
              refine hK _ _ ?_
              clear hK K
              refine wpAny_take (i := 18) (v := .bool true) rfl (by kernel_rfl) (by kernel_rfl) (by kernel_rfl) (fun _ _ _ h => h) (Or.inl ⟨by kernel_rfl, fun W => by go_simp⟩) ?_
              refine wpAny_ready (rs := [19]) (by kernel_rfl) (by simp) (AllReady.cons rfl (fun K hK => ?_) AllReady.nil)
              go_simp
              refine hK _ _ ?_
              clear hK K
              refine wpAny_done (by kernel_rfl) ?_ _
              simp only [onlyN]
              go_wp2_with fail
              exact plays_leave ((b9.block D (Array.getElem?_eq_some_iff.1 hK).1).trans hK) ((b9.block _ hrX).trans hRX) rfl (below_own bX b9) (by omega) trivial
        case stop2 =>
          rintro D c' pre X _ _ h _
          exact h.elim
end Go.Proofs.Ytggbdjdfejcpjaa.lawOrderPlays
