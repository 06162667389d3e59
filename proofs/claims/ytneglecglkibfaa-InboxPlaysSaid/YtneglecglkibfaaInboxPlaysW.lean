/-
  The walk of the law InboxPlays: whatever data come in, the call returns true and leaves what was there. Conditions: the arguments' cells lie as the hypotheses say.
-/
import Derived.Test.YtneglecglkibfaaPlaysP
import Derived.Test.YtneglecglkibfaaOpBox
import Derived.Test.YtneglecglkibfaaAwakeI
import Derived.Deep.RegionHeld3
import Derived.Deep.QuietTactic
import Derived.BigQuiet
namespace Go.Proofs.Ytneglecglkibfaa.lawInboxPlays
open Go.RowKit Go.Maps
set_option linter.unusedVariables false

/-- what an answer of Put is. -/
theorem putR_form {x x' : Bx} {at' : Int} {r : R} {e : Ending} {w' : World} (h : PutR x at' r e w' x') : ∃ er : Int, e = .returned (.int .i64 er) := by
  rcases h with ⟨_, rfl, _⟩ | ⟨_, rfl, _⟩ | ⟨_, rfl, _⟩ <;> exact ⟨_, rfl⟩
theorem doneR_form {x x' : Bx} {at' : Int} {e : Ending} {w' : World} (h : DoneR x at' e w' x') : ∃ er : Int, e = .returned (.int .i64 er) := by
  rcases h with ⟨_, rfl, _⟩ | ⟨_, _, _, _, _, _, _, _, rfl, _⟩ <;> exact ⟨_, rfl⟩
theorem low_of {S T : Nat → Prop} {N M : Nat} (h : ∀ g, g < N → T g → S g) (hM : M ≤ N) (hl : ∀ g, S g → M ≤ g) : ∀ g, T g → M ≤ g := fun g e => (Nat.lt_or_ge g N).elim (fun c => hl g (h g c e)) (fun c => Nat.le_trans hM c)
theorem box_lt {w : World} {B b m : Nat} {vl vd : Value} {L : List Q} {x : Bx} (h : BoxAt w B b m vl vd L x) : ∀ g, boxS b m vl vd g → g < w.heap.size := by
  have u := h.under
  rintro g (rfl | rfl | e | e)
  · exact u.b
  · exact u.m
  · exact u.l g e
  · exact u.d g e
section
variable {w w' : World} {B b m q : Nat} {vl vd vl' vd' vc ve vh vc' ve' vh' : Value} {L : List Q} {x : Bx} {M : List Q} {y : Rf}
theorem after_box (hB : BoxAt w B b m vl vd L x) (hR : RfAt w B q vc ve vh M y) (hd : ∀ g, boxS b m vl vd g → ¬ rfS q vc ve vh g) (hT : Turns (boxS b m vl vd) w w') (hO : ∀ g, g < w.heap.size → boxS b m vl' vd' g → boxS b m vl vd g) :
    RfAt w' B q vc ve vh M y ∧ ∀ g, boxS b m vl' vd' g → ¬ rfS q vc ve vh g :=
  ⟨hR.turn hT (fun g hg e => hd g e hg) hB.noVB, fun g e hg => hd g (hO g (hR.lt g hg) e) hg⟩
theorem after_rf (hB : BoxAt w B b m vl vd L x) (hR : RfAt w B q vc ve vh M y) (hd : ∀ g, boxS b m vl vd g → ¬ rfS q vc ve vh g) (hT : Turns (rfS q vc ve vh) w w') (hO : ∀ g, g < w.heap.size → rfS q vc' ve' vh' g → rfS q vc ve vh g) :
    BoxAt w' B b m vl vd L x ∧ ∀ g, boxS b m vl vd g → ¬ rfS q vc' ve' vh' g :=
  ⟨hB.turn hT (fun g hg e => hd g hg e) hR.noVB, fun g hg e => hd g hg (hO g (box_lt hB g hg) e)⟩
end
set_option maxRecDepth 100000 in
set_option maxHeartbeats 16000000 in
theorem walk (a : Int) (A : Option Addr) (n c : Nat) (l : List OB) (w : World) (hn : l.length = n) (hm : n ≤ 9223372036854775807) (hA : Cells w A (flatOB l)) (wA : ∀ x ∈ l, x.wf w) :
    Calls Try.prog 5 #[.int .i64 a, .slice A n c] w fun e w' => e = .returned (.bool true) ∧ Below w.heap.size w w' := by
  obtain ⟨z, hz⟩ : ∃ z : Int, (if (1152921504606846976 : Int) < a then 1152921504606846976 else a) = z := ⟨_, rfl⟩
  have hz1 : z ≤ 1152921504606846976 := by rw [← hz]; split <;> omega
  obtain ⟨B, hBe⟩ : ∃ B, w.heap.size = B := ⟨_, rfl⟩
  have hBB : B ≤ w.heap.size := Nat.le_of_eq hBe.symm
  have hBB' : w.heap.size ≤ B := Nat.le_of_eq hBe
  go_enter Try.func5, Try.ntmps5
  go_wp2_with (first
    | (go_at_call 8; refine (new_any _ _ hz1).mono ?_; rintro e w1 ⟨b, m, rfl, hb, hm', hB0, hb1⟩)
    | (go_at_call 18; refine (rnew_any w1 _).mono ?_; rintro e w2 ⟨q, rfl, hq, hR0, hb2⟩))
  rw [hBe] at hB0
  have hlow0 : ∀ g, boxS b m (.slice none 0 0) (.slice none 0 0) g → B ≤ g := by
    rintro g (e | e | e | e)
    · omega
    · omega
    · cases e
    · cases e
  have hsz1 := hb1.size
  have rlow0 : ∀ g, rfS q (.slice none 0 0) (.slice none 0 0) (.slice none 0 0) g → B ≤ g := by
    rintro g (e | e | e | e)
    · omega
    · cases e
    · cases e
    · cases e
  have hdj0 : ∀ g, boxS b m (.slice none 0 0) (.slice none 0 0) g → ¬ rfS q (.slice none 0 0) (.slice none 0 0) (.slice none 0 0) g := by
    intro g e1 e2
    have h1 := box_lt hB0 g e1
    rcases e2 with e | e | e | e
    · omega
    · cases e
    · cases e
    · cases e
  have hRB : RfAt w2 B q (.slice none 0 0) (.slice none 0 0) (.slice none 0 0) [] (rf0 z) := ⟨hR0.hb, OwnAt.nil _ _ _ _, OwnAt.nil _ _ _ _, OwnAt.nil _ _ _ _, hR0.lr, hR0.rd⟩
  clear hz hBe hR0 hsz1
  go_loopw [7] (fun i wr => ∃ (k : Nat) (x : Bx) (y : Rf) (vl vd : Value) (L : List Q) (vc ve vh : Value) (M : List Q), k ≤ n ∧ k ≤ 120 ∧ i = .int .i64 k ∧ Fine x k ∧ YF y k ∧ Rel x y ∧ BoxAt wr B b m vl vd L x ∧ RfAt wr B q vc ve vh M y ∧ (∀ g, boxS b m vl vd g → ¬ rfS q vc ve vh g) ∧ (∀ g, boxS b m vl vd g → B ≤ g) ∧ (∀ g, rfS q vc ve vh g → B ≤ g) ∧ Below w.heap.size w wr) (fun i _ => n - (intOf i).toNat)
  case atStart => exact ⟨0, box0 z, rf0 z, _, _, [], _, _, _, [], Nat.zero_le _, by omega, rfl, Fine.new z hz1, YF.new z hz1, Rel.new z, hB0.on hb2, hRB, hdj0, hlow0, rlow0, below_own hb1 hb2⟩
  case round =>
    obtain ⟨k, x, y, vl, vd, L, vc, ve, vh, M, hk, hk120, rfl, hF, hY, hrel, hB, hR, hdj, hlow, rlow, hbel⟩ := hrel
    by_cases hlt : k < n ∧ k < 120
    · obtain ⟨hlt, hlt120⟩ := hlt
      obtain ⟨o, ho⟩ : ∃ o, l[k]? = some o := ⟨_, List.getElem?_eq_getElem (by omega)⟩
      obtain ⟨ab, off, rfl, x0, x1, x2, x3, x4, x5, x6⟩ := hA.ob ho
      have x0' := cell_on hbel x0
      have x1' := cell_on hbel x1
      have x2' := cell_on hbel x2
      have x3' := cell_on hbel x3
      have x4' := cell_on hbel x4
      have x5' := cell_on hbel x5
      have x6' := cell_on hbel x6
      have hw := wA o (List.mem_of_getElem? ho)
      have g3 : (0 : Int) ≤ (k : Int) := by omega
      have g4 : (k : Int) < (n : Int) := by omega
      have g5 : (k : Int) < 120 := by omega
      have hk130 : k ≤ 130 := by omega
      have hBle : B ≤ w.heap.size := hBB
      have hBa : BoxAt (wr.alloc (.cells #[.int .i64 o.kind, .int .i64 o.pl, .int .u64 o.q.r.ts, .int .i64 o.q.r.dc, .int .i64 o.q.r.tx, .slice o.q.D o.q.r.vers.length o.q.c, .int .u64 o.t] 43)) B b m vl vd L x := hB.on (own_alloc (own_refl _) _)
      have hRa : RfAt (wr.alloc (.cells #[.int .i64 o.kind, .int .i64 o.pl, .int .u64 o.q.r.ts, .int .i64 o.q.r.dc, .int .i64 o.q.r.tx, .slice o.q.D o.q.r.vers.length o.q.c, .int .u64 o.t] 43)) B q vc ve vh M y := hR.on (own_alloc (own_refl _) _)
      have hba : Below w.heap.size w (wr.alloc (.cells #[.int .i64 o.kind, .int .i64 o.pl, .int .u64 o.q.r.ts, .int .i64 o.q.r.dc, .int .i64 o.q.r.tx, .slice o.q.D o.q.r.vers.length o.q.c, .int .u64 o.t] 43)) := own_alloc hbel _
      have hbxw : ¬ boxS b m vl vd wr.heap.size := fun e => Nat.lt_irrefl _ (box_lt hB _ e)
      have hxw : ¬ (fun g => boxS b m vl vd g ∨ rfS q vc ve vh g) wr.heap.size := fun e => e.elim hbxw (fun e => Nat.lt_irrefl _ (hR.lt _ e))
      have hb0 := hF.ok.b0
      have hb1' := hF.ok.b1
      have hln := hF.ln
      have hhd := hF.ok.hd
      clear x0 x1 x2 x3 x4 x5 x6
      have y0 : (wr.alloc (.cells #[.int .i64 o.kind, .int .i64 o.pl, .int .u64 o.q.r.ts, .int .i64 o.q.r.dc, .int .i64 o.q.r.tx, .slice o.q.D o.q.r.vers.length o.q.c, .int .u64 o.t] 43)).cell? ⟨wr.heap.size, 0, none⟩ = some (.int .i64 o.kind) := cell_of_row _ _ 0 _ _ _ (heap_alloc_new wr _)
      have y1 : (wr.alloc (.cells #[.int .i64 o.kind, .int .i64 o.pl, .int .u64 o.q.r.ts, .int .i64 o.q.r.dc, .int .i64 o.q.r.tx, .slice o.q.D o.q.r.vers.length o.q.c, .int .u64 o.t] 43)).cell? ⟨wr.heap.size, 1, none⟩ = some (.int .i64 o.pl) := cell_of_row _ _ 1 _ _ _ (heap_alloc_new wr _)
      have y2 : (wr.alloc (.cells #[.int .i64 o.kind, .int .i64 o.pl, .int .u64 o.q.r.ts, .int .i64 o.q.r.dc, .int .i64 o.q.r.tx, .slice o.q.D o.q.r.vers.length o.q.c, .int .u64 o.t] 43)).cell? ⟨wr.heap.size, 2, none⟩ = some (.int .u64 o.q.r.ts) := cell_of_row _ _ 2 _ _ _ (heap_alloc_new wr _)
      have y3 : (wr.alloc (.cells #[.int .i64 o.kind, .int .i64 o.pl, .int .u64 o.q.r.ts, .int .i64 o.q.r.dc, .int .i64 o.q.r.tx, .slice o.q.D o.q.r.vers.length o.q.c, .int .u64 o.t] 43)).cell? ⟨wr.heap.size, 3, none⟩ = some (.int .i64 o.q.r.dc) := cell_of_row _ _ 3 _ _ _ (heap_alloc_new wr _)
      have y4 : (wr.alloc (.cells #[.int .i64 o.kind, .int .i64 o.pl, .int .u64 o.q.r.ts, .int .i64 o.q.r.dc, .int .i64 o.q.r.tx, .slice o.q.D o.q.r.vers.length o.q.c, .int .u64 o.t] 43)).cell? ⟨wr.heap.size, 4, none⟩ = some (.int .i64 o.q.r.tx) := cell_of_row _ _ 4 _ _ _ (heap_alloc_new wr _)
      have y5 : (wr.alloc (.cells #[.int .i64 o.kind, .int .i64 o.pl, .int .u64 o.q.r.ts, .int .i64 o.q.r.dc, .int .i64 o.q.r.tx, .slice o.q.D o.q.r.vers.length o.q.c, .int .u64 o.t] 43)).cell? ⟨wr.heap.size, 5, none⟩ = some (.slice o.q.D o.q.r.vers.length o.q.c) := cell_of_row _ _ 5 _ _ _ (heap_alloc_new wr _)
      have y6 : (wr.alloc (.cells #[.int .i64 o.kind, .int .i64 o.pl, .int .u64 o.q.r.ts, .int .i64 o.q.r.dc, .int .i64 o.q.r.tx, .slice o.q.D o.q.r.vers.length o.q.c, .int .u64 o.t] 43)).cell? ⟨wr.heap.size, 6, none⟩ = some (.int .u64 o.t) := cell_of_row _ _ 6 _ _ _ (heap_alloc_new wr _)
      clear wA hA
      by_cases k0 : o.kind = 0
      · have e0 : (o.kind == 0) = true := by simpa using k0
        clear k0
        have hq := hw.q
        obtain ⟨r', hr'⟩ : ∃ r', o.q.r.few = r' := ⟨_, rfl⟩
        have hlf : min o.q.r.vers.length 12 = r'.vers.length := by rw [← hr']; show _ = (o.q.r.vers.take 12).length; rw [List.length_take]; omega
        have hl12 : r'.vers.length ≤ 12 := hr' ▸ few_len o.q.r
        have hrt : o.q.r.ts = r'.ts ∧ o.q.r.dc = r'.dc ∧ o.q.r.tx = r'.tx := by rw [← hr']; exact ⟨rfl, rfl, rfl⟩
        have hDf : Cells w o.q.D (flatV r'.vers) := by rw [← hr']; exact Cells.takeG (cf := V.cells) hq.D 12
        have hl150 : x.list.length ≤ 150 := by omega
        have hr1000 : r'.vers.length ≤ 1000 := by omega
        have HLF := Lib.hid hlf
        have HRT := Lib.hid hrt
        clear hr' hlf hrt
        have hbd : Below w.heap.size w (wr.alloc (.cells #[.int .i64 o.kind, .int .i64 o.pl, .int .u64 o.q.r.ts, .int .i64 o.q.r.dc, .int .i64 o.q.r.tx, .slice o.q.D o.q.r.vers.length o.q.c, .int .u64 o.t] 43)).drew := own_drew hba
        have td := (Turns.refl none' (wr.alloc (.cells #[.int .i64 o.kind, .int .i64 o.pl, .int .u64 o.q.r.ts, .int .i64 o.q.r.dc, .int .i64 o.q.r.tx, .slice o.q.D o.q.r.vers.length o.q.c, .int .u64 o.t] 43))).drew
        have hBd : BoxAt (wr.alloc (.cells #[.int .i64 o.kind, .int .i64 o.pl, .int .u64 o.q.r.ts, .int .i64 o.q.r.dc, .int .i64 o.q.r.tx, .slice o.q.D o.q.r.vers.length o.q.c, .int .u64 o.t] 43)).drew B b m vl vd L x := hBa.turn td (fun _ _ => id) (fun _ _ => id)
        have hRd : RfAt (wr.alloc (.cells #[.int .i64 o.kind, .int .i64 o.pl, .int .u64 o.q.r.ts, .int .i64 o.q.r.dc, .int .i64 o.q.r.tx, .slice o.q.D o.q.r.vers.length o.q.c, .int .u64 o.t] 43)).drew B q vc ve vh M y := hRa.turn td (fun _ _ => id) (fun _ _ => id)
        have hsd : (wr.alloc (.cells #[.int .i64 o.kind, .int .i64 o.pl, .int .u64 o.q.r.ts, .int .i64 o.q.r.dc, .int .i64 o.q.r.tx, .slice o.q.D o.q.r.vers.length o.q.c, .int .u64 o.t] 43)).drew.heap.size = (wr.alloc (.cells #[.int .i64 o.kind, .int .i64 o.pl, .int .u64 o.q.r.ts, .int .i64 o.q.r.dc, .int .i64 o.q.r.tx, .slice o.q.D o.q.r.vers.length o.q.c, .int .u64 o.t] 43)).heap.size := rfl
        have hTlow : ∀ j, (fun g => boxS b m vl vd g ∨ rfS q vc ve vh g) j → w.heap.size ≤ j := fun j e => e.elim (fun e => Nat.le_trans hBB' (hlow j e)) (fun e => Nat.le_trans hBB' (rlow j e))
        go_wp2_with fail
        go_region_held3 (fun w' => Turns (fun g => boxS b m vl vd g ∨ rfS q vc ve vh g) (wr.alloc (.cells #[.int .i64 o.kind, .int .i64 o.pl, .int .u64 o.q.r.ts, .int .i64 o.q.r.dc, .int .i64 o.q.r.tx, .slice o.q.D o.q.r.vers.length o.q.c, .int .u64 o.t] 43)) w' ∧ w'.cell? ⟨wr.heap.size, 0, none⟩ = some (.int .i64 o.kind) ∧ w'.cell? ⟨wr.heap.size, 1, none⟩ = some (.int .i64 o.pl) ∧ w'.cell? ⟨wr.heap.size, 2, none⟩ = some (.int .u64 o.q.r.ts) ∧ w'.cell? ⟨wr.heap.size, 3, none⟩ = some (.int .i64 o.q.r.dc) ∧ w'.cell? ⟨wr.heap.size, 4, none⟩ = some (.int .i64 o.q.r.tx) ∧ w'.cell? ⟨wr.heap.size, 5, none⟩ = some (.slice o.q.D o.q.r.vers.length o.q.c) ∧ w'.cell? ⟨wr.heap.size, 6, none⟩ = some (.int .u64 o.t))
          (first | (refine ⟨(Turns.refl _ _).drew, ?_, ?_, ?_, ?_, ?_, ?_, ?_⟩ <;> (go_simp; done)) | (go_split_ands; exact ⟨by assumption, Turns.cell (by assumption) y0 hxw, Turns.cell (by assumption) y1 hxw, Turns.cell (by assumption) y2 hxw, Turns.cell (by assumption) y3 hxw, Turns.cell (by assumption) y4 hxw, Turns.cell (by assumption) y5 hxw, Turns.cell (by assumption) y6 hxw⟩))
          (first | (go_at_call 9; (with_reducible refine (few_any o.q.r _ _ _ (wr.alloc (.cells #[.int .i64 o.kind, .int .i64 o.pl, .int .u64 o.q.r.ts, .int .i64 o.q.r.dc, .int .i64 o.q.r.tx, .slice o.q.D o.q.r.vers.length o.q.c, .int .u64 o.t] 43)).drew rfl hq.le hq.fit hq.nn).mono ?_); rintro e w2 ⟨rfl, hb2⟩; rw [HLF.out]; have ht2 : Turns (fun g => boxS b m vl vd g ∨ rfS q vc ve vh g) (wr.alloc (.cells #[.int .i64 o.kind, .int .i64 o.pl, .int .u64 o.q.r.ts, .int .i64 o.q.r.dc, .int .i64 o.q.r.tx, .slice o.q.D o.q.r.vers.length o.q.c, .int .u64 o.t] 43)) w2 := (Turns.refl _ _).drew.below' hb2; rw [HRT.out.1, HRT.out.2.1, HRT.out.2.2]) | (go_at_call 11; have hpt := put_any w2 B b m vl vd L x (hBd.on hb2) r' o.q.D o.q.c o.pl hF.ok hl150 hr1000 (hDf.on (below_own hbd hb2)) (Nat.le_trans hBle (below_own hbd hb2).size); refine hpt.mono ?_; rintro e w3 ⟨vl', vd', L', x', hP, hB', hT, hO'⟩; obtain ⟨er, rfl⟩ := putR_form hP; have ht3 := ht2.on hT (fun _ _ e => Or.inl e); obtain ⟨hR3, hd3⟩ := after_box (hBd.on hb2) (hRd.on hb2) hdj hT hO') | (go_at_call 9; (with_reducible refine (few_any ⟨r'.ts, r'.dc, r'.tx, o.q.r.vers⟩ _ _ _ w3 rfl hq.le hq.fit hq.nn).mono ?_); rintro e w4 ⟨rfl, hb4⟩; rw [HLF.out]; have ht4 := ht3.below' hb4) | (go_at_call 19; have hbw4 : Below w.heap.size w w4 := ht4.below hba hTlow; have hrt := rput_plays w4 w3 B q vc ve vh M x x' y k (hR3.on hb4) hrel hF.ok hY hk130 r' o.q.D o.q.c o.pl hl12 (hDf.on hbw4) (Nat.le_trans hBle hbw4.size) er hP; refine hrt.mono ?_; rintro e w5 ⟨vc', ve', vh', M', y', ⟨rfl, hrel', hY'⟩, hR5, hT5, hO5⟩; have ht5 := ht4.on hT5 (fun _ _ e => Or.inr e); obtain ⟨hB5, hd5⟩ := after_rf (hB'.on hb4) (hR3.on hb4) hd3 hT5 hO5))
        rename_i hSS
        clear hSS
        have gee : (er != er) = false := by simp
        have eFine := Fine.put hF (by omega) hl12 hP
        have hBl2 : B ≤ w2.heap.size := Nat.le_trans hBle (below_own hbd hb2).size
        have hBl4 : B ≤ w4.heap.size := Nat.le_trans hBle hbw4.size
        clear hP
        have eF : Fine x' (k + 1) := eFine
        have eY : YF y' (k + 1) := hY'
        have eR : Rel x' y' := hrel'
        have eB : BoxAt w5 B b m vl' vd' L' x' := hB5
        have eQ : RfAt w5 B q vc' ve' vh' M' y' := hR5
        have eD : ∀ g, boxS b m vl' vd' g → ¬ rfS q vc' ve' vh' g := hd5
        have eL : ∀ g, boxS b m vl' vd' g → B ≤ g := low_of hO' hBl2 hlow
        have eG : ∀ g, rfS q vc' ve' vh' g → B ≤ g := low_of hO5 hBl4 rlow
        have eW : Below w.heap.size w w5 := ht5.below hba hTlow
        have HF := Lib.hid eF
        have HY := Lib.hid eY
        have HR := Lib.hid eR
        have HD := Lib.hid eD
        have HL := Lib.hid eL
        have HG := Lib.hid eG
        have hBn : ∀ n, BoxAt ((w5).drewN n) B b m vl' vd' L' x' := fun n => eB.turn (S := none') ((Turns.refl _ _).drewN n) (fun _ _ => id) (fun _ _ => id)
        have hQn : ∀ n, RfAt ((w5).drewN n) B q vc' ve' vh' M' y' := fun n => eQ.turn (S := none') ((Turns.refl _ _).drewN n) (fun _ _ => id) (fun _ _ => id)
        have hAn : ∀ n, Calls Try.prog 25 #[.pointer (some ⟨q, 0, none⟩)] ((w5).drewN n) (fun e w' => e = .returned (.int .i64 (x').base) ∧ (w5).drewN n = w') := fun n => rapplied_plays _ B q _ _ _ _ x' y' (k + 1) (hQn n) eR eF.ok eY (by omega)
        have c5 : (w5).cell? ⟨q, 5, none⟩ = some (.int .u64 (x').got) := by rw [eR.got]; exact eQ.cell 5
        have HBN := Lib.hid hBn
        have HQN := Lib.hid hQn
        have HAP := Lib.hid hAn
        have ga : ((x').base != (x').base) = false := by simp
        have gb : ((x').got != (x').got) = false := by simp
        clear eF eY eR eD eL eG eB eQ hBn hQn hAn eFine hY' hrel' hB5 hR5 hd5 hT hT5 hO' hO5 ht2 ht3 ht4 ht5 hpt hrt hB' hR3 hd3 hb2 hb4 hbw4 hBl2 hBl4
        go_wp2_with fail
        go_quiet ((first | (go_at_call 17; exact Calls.quiet_of_same ((applied_any _ B b m _ _ _ _ (HBN.out _)).mono fun e w' h => ⟨h.1, h.2.symm⟩)) | (go_at_call 25; exact Calls.quiet_of_same ((HAP.out _).mono fun e w' h => ⟨h.1, h.2.symm⟩)) | (go_at_call 26; exact Calls.quiet_of_same ((got_any _ B b m _ _ _ _ (HBN.out _)).mono fun e w' h => ⟨h.1, h.2.symm⟩))))
        go_wp2
        go_roundw
        case rel => exact ⟨k + 1, x', y', vl', vd', L', vc', ve', vh', M', by omega, by omega, by go_num, HF.out, HY.out, HR.out, HBN.out _, HQN.out _, HD.out, HL.out, HG.out, own_drewN eW _⟩
        case measure => simp [intOf]; omega
      · have e0 : (o.kind == 0) = false := by simpa using k0
        by_cases k1 : o.kind = 1
        · have e1 : (o.kind == 1) = true := by simpa using k1
          clear k0 k1
          go_wp2_with fail
          refine (next_any _ B b m vl vd L x hBa hF.ok).mono ?_
          rintro e w3 ⟨vl', vd', L', x', hP, hB', hT, hO'⟩
          have eFine := Fine.next hF hP
          obtain ⟨hR3, hd3⟩ := after_box hBa hRa hdj hT hO'
          have hBl2 : B ≤ (wr.alloc (.cells #[.int .i64 o.kind, .int .i64 o.pl, .int .u64 o.q.r.ts, .int .i64 o.q.r.dc, .int .i64 o.q.r.tx, .slice o.q.D o.q.r.vers.length o.q.c, .int .u64 o.t] 43)).heap.size := Nat.le_trans hBle hba.size
          have hBl4 : B ≤ w3.heap.size := Nat.le_trans hBl2 hT.size
          have hb3 : Below w.heap.size w w3 := hT.below hba (fun j e => Nat.le_trans hBB' (hlow j e))
          have hr3 : ¬ rfS q vc ve vh w3.heap.size := fun e => Nat.lt_irrefl _ (hR3.lt _ e)
          rcases hP with ⟨c1, rfl, ex⟩ | ⟨r, D, cp, hr, rfl, hrow, ex⟩
          · have HX := Lib.hid ex
            clear ex
            go_wp2_with fail
            refine (rnext_stop (w3.alloc (.cells #[.int .u64 0, .int .i64 0, .int .i64 0, .slice none 0 0] 25)) B q vc ve vh M x y k (hR3.on (own_alloc (own_refl _) _)) hrel hF.ok hY hk130 c1).mono ?_
            rintro e w5 ⟨vc', ve', vh', M', y', ⟨rfl, hrel', hY'⟩, hR5, hT5, hO5⟩
            rw [← HX.out] at hrel'
            have hb3' : BoxAt (w3.alloc (.cells #[.int .u64 0, .int .i64 0, .int .i64 0, .slice none 0 0] 25)) B b m vl' vd' L' x' := hB'.on (own_alloc (own_refl _) _)
            obtain ⟨hB5, hd5⟩ := after_rf hb3' (hR3.on (own_alloc (own_refl _) _)) hd3 hT5 hO5
            have hb5 : Below w.heap.size w w5 := hT5.below (own_alloc hb3 _) (fun j e => Nat.le_trans hBB' (rlow j e))
            have hBl5 : B ≤ (w3.alloc (.cells #[.int .u64 0, .int .i64 0, .int .i64 0, .slice none 0 0] 25)).heap.size := by simp; omega
            have z0 : w5.cell? ⟨w3.heap.size, 0, none⟩ = some (.int .u64 0) := hT5.cell (cell_of_row _ _ 0 _ _ _ (heap_alloc_new w3 _)) hr3
            have z1 : w5.cell? ⟨w3.heap.size, 1, none⟩ = some (.int .i64 0) := hT5.cell (cell_of_row _ _ 1 _ _ _ (heap_alloc_new w3 _)) hr3
            have z2 : w5.cell? ⟨w3.heap.size, 2, none⟩ = some (.int .i64 0) := hT5.cell (cell_of_row _ _ 2 _ _ _ (heap_alloc_new w3 _)) hr3
            have z3 : w5.cell? ⟨w3.heap.size, 3, none⟩ = some (.slice none 0 0) := hT5.cell (cell_of_row _ _ 3 _ _ _ (heap_alloc_new w3 _)) hr3
            have hw35 : w3.heap.size < w5.heap.size := by have := hT5.size; simp at this; omega
            clear c1
            go_wp2_with (go_at_call 15; (with_reducible refine (same_rec ⟨0, 0, 0, []⟩ none none 0 0 0 _ rfl (by omega) (Cells.nil _ _) (Cells.nil _ _)).mono ?_); rintro e w9 ⟨rfl, hb9⟩)
            have eF : Fine x' (k + 1) := eFine
            have eY : YF y' (k + 1) := hY'
            have eR : Rel x' y' := hrel'
            have eB : BoxAt w9 B b m vl' vd' L' x' := (hB5.on (own_alloc (own_refl _) _)).on hb9
            have eQ : RfAt w9 B q vc' ve' vh' M' y' := (hR5.on (own_alloc (own_refl _) _)).on hb9
            have eD : ∀ g, boxS b m vl' vd' g → ¬ rfS q vc' ve' vh' g := hd5
            have eL : ∀ g, boxS b m vl' vd' g → B ≤ g := low_of hO' hBl2 hlow
            have eG : ∀ g, rfS q vc' ve' vh' g → B ≤ g := low_of hO5 hBl5 rlow
            have eW : Below w.heap.size w w9 := below_own (own_alloc hb5 _) hb9
            have HF := Lib.hid eF
            have HY := Lib.hid eY
            have HR := Lib.hid eR
            have HD := Lib.hid eD
            have HL := Lib.hid eL
            have HG := Lib.hid eG
            have hBn : ∀ n, BoxAt ((w9).drewN n) B b m vl' vd' L' x' := fun n => eB.turn (S := none') ((Turns.refl _ _).drewN n) (fun _ _ => id) (fun _ _ => id)
            have hQn : ∀ n, RfAt ((w9).drewN n) B q vc' ve' vh' M' y' := fun n => eQ.turn (S := none') ((Turns.refl _ _).drewN n) (fun _ _ => id) (fun _ _ => id)
            have hAn : ∀ n, Calls Try.prog 25 #[.pointer (some ⟨q, 0, none⟩)] ((w9).drewN n) (fun e w' => e = .returned (.int .i64 (x').base) ∧ (w9).drewN n = w') := fun n => rapplied_plays _ B q _ _ _ _ x' y' (k + 1) (hQn n) eR eF.ok eY (by omega)
            have c5 : (w9).cell? ⟨q, 5, none⟩ = some (.int .u64 (x').got) := by rw [eR.got]; exact eQ.cell 5
            have HBN := Lib.hid hBn
            have HQN := Lib.hid hQn
            have HAP := Lib.hid hAn
            have ga : ((x').base != (x').base) = false := by simp
            have gb : ((x').got != (x').got) = false := by simp
            clear eF eY eR eD eL eG eB eQ hBn hQn hAn eFine hY' hrel' hB5 hR5 hd5 hT hT5 hO' hO5 hB' hR3 hd3 hBl2 hBl4 hb5 hb3 hb9 hb3' hBl5 z0 z1 z2 z3
            go_wp2_with fail
            go_quiet ((first | (go_at_call 17; exact Calls.quiet_of_same ((applied_any _ B b m _ _ _ _ (HBN.out _)).mono fun e w' h => ⟨h.1, h.2.symm⟩)) | (go_at_call 25; exact Calls.quiet_of_same ((HAP.out _).mono fun e w' h => ⟨h.1, h.2.symm⟩)) | (go_at_call 26; exact Calls.quiet_of_same ((got_any _ B b m _ _ _ _ (HBN.out _)).mono fun e w' h => ⟨h.1, h.2.symm⟩))))
            go_wp2
            go_roundw
            case rel => exact ⟨k + 1, x', y', vl', vd', L', vc', ve', vh', M', by omega, by omega, by go_num, HF.out, HY.out, HR.out, HBN.out _, HQN.out _, HD.out, HL.out, HG.out, own_drewN eW _⟩
            case measure => simp [intOf]; omega
          · have HX := Lib.hid ex
            clear ex
            go_wp2_with fail
            refine (rnext_plays (w3.alloc (.cells #[.int .u64 r.ts, .int .i64 r.dc, .int .i64 r.tx, .slice D r.vers.length cp] 25)) B q vc ve vh M x y k (hR3.on (own_alloc (own_refl _) _)) hrel hF.ok hY hk130 r hr).mono ?_
            rintro e w5 ⟨vc', ve', vh', M', y', ⟨⟨D', cp', rfl, hcD'⟩, hrel', hY'⟩, hR5, hT5, hO5⟩
            rw [← HX.out] at hrel'
            have hb3' : BoxAt (w3.alloc (.cells #[.int .u64 r.ts, .int .i64 r.dc, .int .i64 r.tx, .slice D r.vers.length cp] 25)) B b m vl' vd' L' x' := hB'.on (own_alloc (own_refl _) _)
            obtain ⟨hB5, hd5⟩ := after_rf hb3' (hR3.on (own_alloc (own_refl _) _)) hd3 hT5 hO5
            have hb5 : Below w.heap.size w w5 := hT5.below (own_alloc hb3 _) (fun j e => Nat.le_trans hBB' (rlow j e))
            have hBl5 : B ≤ (w3.alloc (.cells #[.int .u64 r.ts, .int .i64 r.dc, .int .i64 r.tx, .slice D r.vers.length cp] 25)).heap.size := by simp; omega
            have z0 : w5.cell? ⟨w3.heap.size, 0, none⟩ = some (.int .u64 r.ts) := hT5.cell (cell_of_row _ _ 0 _ _ _ (heap_alloc_new w3 _)) hr3
            have z1 : w5.cell? ⟨w3.heap.size, 1, none⟩ = some (.int .i64 r.dc) := hT5.cell (cell_of_row _ _ 1 _ _ _ (heap_alloc_new w3 _)) hr3
            have z2 : w5.cell? ⟨w3.heap.size, 2, none⟩ = some (.int .i64 r.tx) := hT5.cell (cell_of_row _ _ 2 _ _ _ (heap_alloc_new w3 _)) hr3
            have z3 : w5.cell? ⟨w3.heap.size, 3, none⟩ = some (.slice D r.vers.length cp) := hT5.cell (cell_of_row _ _ 3 _ _ _ (heap_alloc_new w3 _)) hr3
            have hw35 : w3.heap.size < w5.heap.size := by have := hT5.size; simp at this; omega
            have hqD := (((qat_own hrow rfl).on (own_alloc (own_refl _) _)).turn hT5 (hR3.on (own_alloc (own_refl _) _)).noVB).1
            have hcD5 := hqD.on (own_alloc (own_refl _) (.cells #[.int .u64 r.ts, .int .i64 r.dc, .int .i64 r.tx, .slice D' r.vers.length cp'] 25))
            have hrm : r.vers.length ≤ 9223372036854775807 := by have := hF.ok.few r (List.mem_of_getElem? hr); omega
            clear hr hrow hqD
            go_wp2_with (go_at_call 15; (with_reducible refine (same_rec r D D' _ cp cp' (w5.alloc (.cells #[.int .u64 r.ts, .int .i64 r.dc, .int .i64 r.tx, .slice D' r.vers.length cp'] 25)) rfl hrm hcD5 (hcD'.on (own_alloc (own_refl _) _))).mono ?_); rintro e w9 ⟨rfl, hb9⟩)
            have eF : Fine x' (k + 1) := eFine
            have eY : YF y' (k + 1) := hY'
            have eR : Rel x' y' := hrel'
            have eB : BoxAt w9 B b m vl' vd' L' x' := (hB5.on (own_alloc (own_refl _) _)).on hb9
            have eQ : RfAt w9 B q vc' ve' vh' M' y' := (hR5.on (own_alloc (own_refl _) _)).on hb9
            have eD : ∀ g, boxS b m vl' vd' g → ¬ rfS q vc' ve' vh' g := hd5
            have eL : ∀ g, boxS b m vl' vd' g → B ≤ g := low_of hO' hBl2 hlow
            have eG : ∀ g, rfS q vc' ve' vh' g → B ≤ g := low_of hO5 hBl5 rlow
            have eW : Below w.heap.size w w9 := below_own (own_alloc hb5 _) hb9
            have HF := Lib.hid eF
            have HY := Lib.hid eY
            have HR := Lib.hid eR
            have HD := Lib.hid eD
            have HL := Lib.hid eL
            have HG := Lib.hid eG
            have hBn : ∀ n, BoxAt ((w9).drewN n) B b m vl' vd' L' x' := fun n => eB.turn (S := none') ((Turns.refl _ _).drewN n) (fun _ _ => id) (fun _ _ => id)
            have hQn : ∀ n, RfAt ((w9).drewN n) B q vc' ve' vh' M' y' := fun n => eQ.turn (S := none') ((Turns.refl _ _).drewN n) (fun _ _ => id) (fun _ _ => id)
            have hAn : ∀ n, Calls Try.prog 25 #[.pointer (some ⟨q, 0, none⟩)] ((w9).drewN n) (fun e w' => e = .returned (.int .i64 (x').base) ∧ (w9).drewN n = w') := fun n => rapplied_plays _ B q _ _ _ _ x' y' (k + 1) (hQn n) eR eF.ok eY (by omega)
            have c5 : (w9).cell? ⟨q, 5, none⟩ = some (.int .u64 (x').got) := by rw [eR.got]; exact eQ.cell 5
            have HBN := Lib.hid hBn
            have HQN := Lib.hid hQn
            have HAP := Lib.hid hAn
            have ga : ((x').base != (x').base) = false := by simp
            have gb : ((x').got != (x').got) = false := by simp
            clear eF eY eR eD eL eG eB eQ hBn hQn hAn eFine hY' hrel' hB5 hR5 hd5 hT hT5 hO' hO5 hB' hR3 hd3 hBl2 hBl4 hb5 hb3 hb9 hb3' hBl5 z0 z1 z2 z3
            go_wp2_with fail
            go_quiet ((first | (go_at_call 17; exact Calls.quiet_of_same ((applied_any _ B b m _ _ _ _ (HBN.out _)).mono fun e w' h => ⟨h.1, h.2.symm⟩)) | (go_at_call 25; exact Calls.quiet_of_same ((HAP.out _).mono fun e w' h => ⟨h.1, h.2.symm⟩)) | (go_at_call 26; exact Calls.quiet_of_same ((got_any _ B b m _ _ _ _ (HBN.out _)).mono fun e w' h => ⟨h.1, h.2.symm⟩))))
            go_wp2
            go_roundw
            case rel => exact ⟨k + 1, x', y', vl', vd', L', vc', ve', vh', M', by omega, by omega, by go_num, HF.out, HY.out, HR.out, HBN.out _, HQN.out _, HD.out, HL.out, HG.out, own_drewN eW _⟩
            case measure => simp [intOf]; omega
        · have e1 : (o.kind == 1) = false := by simpa using k1
          by_cases k2 : o.kind = 2
          · have e2 : (o.kind == 2) = true := by simpa using k2
            clear k0 k1 k2
            have hwr := hw.a
            have hbd : Below w.heap.size w (wr.alloc (.cells #[.int .i64 o.kind, .int .i64 o.pl, .int .u64 o.q.r.ts, .int .i64 o.q.r.dc, .int .i64 o.q.r.tx, .slice o.q.D o.q.r.vers.length o.q.c, .int .u64 o.t] 43)).drew := own_drew hba
            have td := (Turns.refl none' (wr.alloc (.cells #[.int .i64 o.kind, .int .i64 o.pl, .int .u64 o.q.r.ts, .int .i64 o.q.r.dc, .int .i64 o.q.r.tx, .slice o.q.D o.q.r.vers.length o.q.c, .int .u64 o.t] 43))).drew
            have hBd : BoxAt (wr.alloc (.cells #[.int .i64 o.kind, .int .i64 o.pl, .int .u64 o.q.r.ts, .int .i64 o.q.r.dc, .int .i64 o.q.r.tx, .slice o.q.D o.q.r.vers.length o.q.c, .int .u64 o.t] 43)).drew B b m vl vd L x := hBa.turn td (fun _ _ => id) (fun _ _ => id)
            have hRd : RfAt (wr.alloc (.cells #[.int .i64 o.kind, .int .i64 o.pl, .int .u64 o.q.r.ts, .int .i64 o.q.r.dc, .int .i64 o.q.r.tx, .slice o.q.D o.q.r.vers.length o.q.c, .int .u64 o.t] 43)).drew B q vc ve vh M y := hRa.turn td (fun _ _ => id) (fun _ _ => id)
            have hsd : (wr.alloc (.cells #[.int .i64 o.kind, .int .i64 o.pl, .int .u64 o.q.r.ts, .int .i64 o.q.r.dc, .int .i64 o.q.r.tx, .slice o.q.D o.q.r.vers.length o.q.c, .int .u64 o.t] 43)).drew.heap.size = (wr.alloc (.cells #[.int .i64 o.kind, .int .i64 o.pl, .int .u64 o.q.r.ts, .int .i64 o.q.r.dc, .int .i64 o.q.r.tx, .slice o.q.D o.q.r.vers.length o.q.c, .int .u64 o.t] 43)).heap.size := rfl
            have hTlow : ∀ j, (fun g => boxS b m vl vd g ∨ rfS q vc ve vh g) j → w.heap.size ≤ j := fun j e => e.elim (fun e => Nat.le_trans hBB' (hlow j e)) (fun e => Nat.le_trans hBB' (rlow j e))
            go_wp2_with fail
            go_region_held3 (fun w' => Turns (fun g => boxS b m vl vd g ∨ rfS q vc ve vh g) (wr.alloc (.cells #[.int .i64 o.kind, .int .i64 o.pl, .int .u64 o.q.r.ts, .int .i64 o.q.r.dc, .int .i64 o.q.r.tx, .slice o.q.D o.q.r.vers.length o.q.c, .int .u64 o.t] 43)) w' ∧ w'.cell? ⟨wr.heap.size, 0, none⟩ = some (.int .i64 o.kind) ∧ w'.cell? ⟨wr.heap.size, 1, none⟩ = some (.int .i64 o.pl) ∧ w'.cell? ⟨wr.heap.size, 2, none⟩ = some (.int .u64 o.q.r.ts) ∧ w'.cell? ⟨wr.heap.size, 3, none⟩ = some (.int .i64 o.q.r.dc) ∧ w'.cell? ⟨wr.heap.size, 4, none⟩ = some (.int .i64 o.q.r.tx) ∧ w'.cell? ⟨wr.heap.size, 5, none⟩ = some (.slice o.q.D o.q.r.vers.length o.q.c) ∧ w'.cell? ⟨wr.heap.size, 6, none⟩ = some (.int .u64 o.t))
              (first | (refine ⟨(Turns.refl _ _).drew, ?_, ?_, ?_, ?_, ?_, ?_, ?_⟩ <;> (go_simp; done)) | (go_split_ands; exact ⟨by assumption, Turns.cell (by assumption) y0 hxw, Turns.cell (by assumption) y1 hxw, Turns.cell (by assumption) y2 hxw, Turns.cell (by assumption) y3 hxw, Turns.cell (by assumption) y4 hxw, Turns.cell (by assumption) y5 hxw, Turns.cell (by assumption) y6 hxw⟩))
              (first | (go_at_call 16; have hpt := done_any (wr.alloc (.cells #[.int .i64 o.kind, .int .i64 o.pl, .int .u64 o.q.r.ts, .int .i64 o.q.r.dc, .int .i64 o.q.r.tx, .slice o.q.D o.q.r.vers.length o.q.c, .int .u64 o.t] 43)).drew B b m vl vd L x hBd hF.ok o.pl hwr.2; refine hpt.mono ?_; rintro e w3 ⟨vl', vd', L', x', hP, hB', hT, hO'⟩; obtain ⟨er, rfl⟩ := doneR_form hP; have ht3 : Turns (fun g => boxS b m vl vd g ∨ rfS q vc ve vh g) (wr.alloc (.cells #[.int .i64 o.kind, .int .i64 o.pl, .int .u64 o.q.r.ts, .int .i64 o.q.r.dc, .int .i64 o.q.r.tx, .slice o.q.D o.q.r.vers.length o.q.c, .int .u64 o.t] 43)) w3 := (Turns.refl _ _).drew.on hT (fun _ _ e => Or.inl e); obtain ⟨hR3, hd3⟩ := after_box hBd hRd hdj hT hO') | (go_at_call 21; have hrt := rdone_plays w3 w3 B q vc ve vh M x x' y k hR3 hrel hF.ok hY hk130 o.pl hwr.2 er hP; refine hrt.mono ?_; rintro e w5 ⟨vc', ve', vh', M', y', ⟨rfl, hrel', hY'⟩, hR5, hT5, hO5⟩; have ht5 := ht3.on hT5 (fun _ _ e => Or.inr e); obtain ⟨hB5, hd5⟩ := after_rf hB' hR3 hd3 hT5 hO5))
            rename_i hSS
            clear hSS
            have gee : (er != er) = false := by simp
            have eFine := Fine.done hF (by omega) hP
            have hBl2 : B ≤ (wr.alloc (.cells #[.int .i64 o.kind, .int .i64 o.pl, .int .u64 o.q.r.ts, .int .i64 o.q.r.dc, .int .i64 o.q.r.tx, .slice o.q.D o.q.r.vers.length o.q.c, .int .u64 o.t] 43)).drew.heap.size := Nat.le_trans hBle hbd.size
            have hBl4 : B ≤ w3.heap.size := Nat.le_trans hBl2 hT.size
            clear hP
            have eF : Fine x' (k + 1) := eFine
            have eY : YF y' (k + 1) := hY'
            have eR : Rel x' y' := hrel'
            have eB : BoxAt w5 B b m vl' vd' L' x' := hB5
            have eQ : RfAt w5 B q vc' ve' vh' M' y' := hR5
            have eD : ∀ g, boxS b m vl' vd' g → ¬ rfS q vc' ve' vh' g := hd5
            have eL : ∀ g, boxS b m vl' vd' g → B ≤ g := low_of hO' hBl2 hlow
            have eG : ∀ g, rfS q vc' ve' vh' g → B ≤ g := low_of hO5 hBl4 rlow
            have eW : Below w.heap.size w w5 := ht5.below hba hTlow
            have HF := Lib.hid eF
            have HY := Lib.hid eY
            have HR := Lib.hid eR
            have HD := Lib.hid eD
            have HL := Lib.hid eL
            have HG := Lib.hid eG
            have hBn : ∀ n, BoxAt ((w5).drewN n) B b m vl' vd' L' x' := fun n => eB.turn (S := none') ((Turns.refl _ _).drewN n) (fun _ _ => id) (fun _ _ => id)
            have hQn : ∀ n, RfAt ((w5).drewN n) B q vc' ve' vh' M' y' := fun n => eQ.turn (S := none') ((Turns.refl _ _).drewN n) (fun _ _ => id) (fun _ _ => id)
            have hAn : ∀ n, Calls Try.prog 25 #[.pointer (some ⟨q, 0, none⟩)] ((w5).drewN n) (fun e w' => e = .returned (.int .i64 (x').base) ∧ (w5).drewN n = w') := fun n => rapplied_plays _ B q _ _ _ _ x' y' (k + 1) (hQn n) eR eF.ok eY (by omega)
            have c5 : (w5).cell? ⟨q, 5, none⟩ = some (.int .u64 (x').got) := by rw [eR.got]; exact eQ.cell 5
            have HBN := Lib.hid hBn
            have HQN := Lib.hid hQn
            have HAP := Lib.hid hAn
            have ga : ((x').base != (x').base) = false := by simp
            have gb : ((x').got != (x').got) = false := by simp
            clear eF eY eR eD eL eG eB eQ hBn hQn hAn eFine hY' hrel' hB5 hR5 hd5 hT hT5 hO' hO5 ht3 ht5 hpt hrt hB' hR3 hd3 hBl2 hBl4
            go_wp2_with fail
            go_quiet ((first | (go_at_call 17; exact Calls.quiet_of_same ((applied_any _ B b m _ _ _ _ (HBN.out _)).mono fun e w' h => ⟨h.1, h.2.symm⟩)) | (go_at_call 25; exact Calls.quiet_of_same ((HAP.out _).mono fun e w' h => ⟨h.1, h.2.symm⟩)) | (go_at_call 26; exact Calls.quiet_of_same ((got_any _ B b m _ _ _ _ (HBN.out _)).mono fun e w' h => ⟨h.1, h.2.symm⟩))))
            go_wp2
            go_roundw
            case rel => exact ⟨k + 1, x', y', vl', vd', L', vc', ve', vh', M', by omega, by omega, by go_num, HF.out, HY.out, HR.out, HBN.out _, HQN.out _, HD.out, HL.out, HG.out, own_drewN eW _⟩
            case measure => simp [intOf]; omega
          · have e2 : (o.kind == 2) = false := by simpa using k2
            by_cases k3 : o.kind = 3
            · have e3 : (o.kind == 3) = true := by simpa using k3
              clear k0 k1 k2 k3
              have hwa := hw.wa
              have hwt := hw.wt
              have hwr := hw.a
              have hwq := hw.t
              have hl1000 : x.hearts.length ≤ 1000 := by have := hF.hn; omega
              go_wp2_with fail
              refine (heart_step _ B b m vl vd L x hBa hl1000 o.t o.pl hwt hwa).mono ?_
              rintro e w3 ⟨vl', vd', L', x', hP, hB', hT, hO'⟩
              have eFine := Fine.heart hF (by omega) hwq hwr hP
              obtain ⟨rfl, ex⟩ := id hP
              have HX := Lib.hid ex
              obtain ⟨hR3, hd3⟩ := after_box hBa hRa hdj hT hO'
              have hBl2 : B ≤ (wr.alloc (.cells #[.int .i64 o.kind, .int .i64 o.pl, .int .u64 o.q.r.ts, .int .i64 o.q.r.dc, .int .i64 o.q.r.tx, .slice o.q.D o.q.r.vers.length o.q.c, .int .u64 o.t] 43)).heap.size := Nat.le_trans hBle hba.size
              have hBl4 : B ≤ w3.heap.size := Nat.le_trans hBl2 hT.size
              have hb3 : Below w.heap.size w w3 := hT.below hba (fun j e => Nat.le_trans hBB' (hlow j e))
              have y1' := Turns.cell hT y1 hbxw
              have y6' := Turns.cell hT y6 hbxw
              clear ex hP
              go_wp2_with fail
              refine (rheard_plays w3 B q vc ve vh M x y k hR3 hrel hF.ok hY hk130 o.t o.pl hwq hwr hBl4).mono ?_
              rintro e w5 ⟨vc', ve', vh', M', y', ⟨rfl, hrel', hY'⟩, hR5, hT5, hO5⟩
              rw [← HX.out] at hrel'
              obtain ⟨hB5, hd5⟩ := after_rf hB' hR3 hd3 hT5 hO5
              have hb5 : Below w.heap.size w w5 := hT5.below hb3 (fun j e => Nat.le_trans hBB' (rlow j e))
              have eF : Fine x' (k + 1) := eFine
              have eY : YF y' (k + 1) := hY'
              have eR : Rel x' y' := hrel'
              have eB : BoxAt w5 B b m vl' vd' L' x' := hB5
              have eQ : RfAt w5 B q vc' ve' vh' M' y' := hR5
              have eD : ∀ g, boxS b m vl' vd' g → ¬ rfS q vc' ve' vh' g := hd5
              have eL : ∀ g, boxS b m vl' vd' g → B ≤ g := low_of hO' hBl2 hlow
              have eG : ∀ g, rfS q vc' ve' vh' g → B ≤ g := low_of hO5 hBl4 rlow
              have eW : Below w.heap.size w w5 := hb5
              have HF := Lib.hid eF
              have HY := Lib.hid eY
              have HR := Lib.hid eR
              have HD := Lib.hid eD
              have HL := Lib.hid eL
              have HG := Lib.hid eG
              have hBn : ∀ n, BoxAt ((w5).drewN n) B b m vl' vd' L' x' := fun n => eB.turn (S := none') ((Turns.refl _ _).drewN n) (fun _ _ => id) (fun _ _ => id)
              have hQn : ∀ n, RfAt ((w5).drewN n) B q vc' ve' vh' M' y' := fun n => eQ.turn (S := none') ((Turns.refl _ _).drewN n) (fun _ _ => id) (fun _ _ => id)
              have hAn : ∀ n, Calls Try.prog 25 #[.pointer (some ⟨q, 0, none⟩)] ((w5).drewN n) (fun e w' => e = .returned (.int .i64 (x').base) ∧ (w5).drewN n = w') := fun n => rapplied_plays _ B q _ _ _ _ x' y' (k + 1) (hQn n) eR eF.ok eY (by omega)
              have c5 : (w5).cell? ⟨q, 5, none⟩ = some (.int .u64 (x').got) := by rw [eR.got]; exact eQ.cell 5
              have HBN := Lib.hid hBn
              have HQN := Lib.hid hQn
              have HAP := Lib.hid hAn
              have ga : ((x').base != (x').base) = false := by simp
              have gb : ((x').got != (x').got) = false := by simp
              clear eF eY eR eD eL eG eB eQ hBn hQn hAn eFine hY' hrel' hB5 hR5 hd5 hT hT5 hO' hO5 hB' hR3 hd3 hBl2 hBl4 hb5 hb3
              go_wp2_with fail
              go_quiet ((first | (go_at_call 17; exact Calls.quiet_of_same ((applied_any _ B b m _ _ _ _ (HBN.out _)).mono fun e w' h => ⟨h.1, h.2.symm⟩)) | (go_at_call 25; exact Calls.quiet_of_same ((HAP.out _).mono fun e w' h => ⟨h.1, h.2.symm⟩)) | (go_at_call 26; exact Calls.quiet_of_same ((got_any _ B b m _ _ _ _ (HBN.out _)).mono fun e w' h => ⟨h.1, h.2.symm⟩))))
              go_wp2
              go_roundw
              case rel => exact ⟨k + 1, x', y', vl', vd', L', vc', ve', vh', M', by omega, by omega, by go_num, HF.out, HY.out, HR.out, HBN.out _, HQN.out _, HD.out, HL.out, HG.out, own_drewN eW _⟩
              case measure => simp [intOf]; omega
            · have e3 : (o.kind == 3) = false := by simpa using k3
              clear k0 k1 k2 k3
              go_wp2_with fail
              refine (peek_any _ B b m vl vd L x hBa hF.ok).mono ?_
              rintro e w3 ⟨hP, hb3'⟩
              have hR3 := hRa.on hb3'
              have hB3 := hBa.on hb3'
              have hb3 : Below w.heap.size w w3 := below_own hba hb3'
              rcases hP with ⟨c1, rfl⟩ | ⟨r, D, cp, hr, rfl, hrow⟩
              · go_wp2_with fail
                refine (rpeek_stop (w3.alloc (.cells #[.int .u64 0, .int .i64 0, .int .i64 0, .slice none 0 0] 25)) B q vc ve vh M x y k (hR3.on (own_alloc (own_refl _) _)) hrel hF.ok hY hk130 c1).mono ?_
                rintro e w5 ⟨rfl, hb5'⟩
                have hb5 : Below w.heap.size w w5 := below_own (own_alloc hb3 _) hb5'
                have z0 : w5.cell? ⟨w3.heap.size, 0, none⟩ = some (.int .u64 0) := cell_on hb5' (cell_of_row _ _ 0 _ _ _ (heap_alloc_new w3 _))
                have z1 : w5.cell? ⟨w3.heap.size, 1, none⟩ = some (.int .i64 0) := cell_on hb5' (cell_of_row _ _ 1 _ _ _ (heap_alloc_new w3 _))
                have z2 : w5.cell? ⟨w3.heap.size, 2, none⟩ = some (.int .i64 0) := cell_on hb5' (cell_of_row _ _ 2 _ _ _ (heap_alloc_new w3 _))
                have z3 : w5.cell? ⟨w3.heap.size, 3, none⟩ = some (.slice none 0 0) := cell_on hb5' (cell_of_row _ _ 3 _ _ _ (heap_alloc_new w3 _))
                have hw35 : w3.heap.size < w5.heap.size := by have := hb5'.size; simp at this; omega
                clear c1
                go_wp2_with (go_at_call 15; (with_reducible refine (same_rec ⟨0, 0, 0, []⟩ none none 0 0 0 _ rfl (by omega) (Cells.nil _ _) (Cells.nil _ _)).mono ?_); rintro e w9 ⟨rfl, hb9⟩)
                have eF : Fine x (k + 1) := hF.more
                have eY : YF y (k + 1) := hY.more
                have eR : Rel x y := hrel
                have eB : BoxAt w9 B b m vl vd L x := (((hB3.on (own_alloc (own_refl _) _)).on hb5').on (own_alloc (own_refl _) _)).on hb9
                have eQ : RfAt w9 B q vc ve vh M y := (((hR3.on (own_alloc (own_refl _) _)).on hb5').on (own_alloc (own_refl _) _)).on hb9
                have eD : ∀ g, boxS b m vl vd g → ¬ rfS q vc ve vh g := hdj
                have eL : ∀ g, boxS b m vl vd g → B ≤ g := hlow
                have eG : ∀ g, rfS q vc ve vh g → B ≤ g := rlow
                have eW : Below w.heap.size w w9 := below_own (own_alloc hb5 _) hb9
                have HF := Lib.hid eF
                have HY := Lib.hid eY
                have HR := Lib.hid eR
                have HD := Lib.hid eD
                have HL := Lib.hid eL
                have HG := Lib.hid eG
                have hBn : ∀ n, BoxAt ((w9).drewN n) B b m vl vd L x := fun n => eB.turn (S := none') ((Turns.refl _ _).drewN n) (fun _ _ => id) (fun _ _ => id)
                have hQn : ∀ n, RfAt ((w9).drewN n) B q vc ve vh M y := fun n => eQ.turn (S := none') ((Turns.refl _ _).drewN n) (fun _ _ => id) (fun _ _ => id)
                have hAn : ∀ n, Calls Try.prog 25 #[.pointer (some ⟨q, 0, none⟩)] ((w9).drewN n) (fun e w' => e = .returned (.int .i64 (x).base) ∧ (w9).drewN n = w') := fun n => rapplied_plays _ B q _ _ _ _ x y (k + 1) (hQn n) eR eF.ok eY (by omega)
                have c5 : (w9).cell? ⟨q, 5, none⟩ = some (.int .u64 (x).got) := by rw [eR.got]; exact eQ.cell 5
                have HBN := Lib.hid hBn
                have HQN := Lib.hid hQn
                have HAP := Lib.hid hAn
                have ga : ((x).base != (x).base) = false := by simp
                have gb : ((x).got != (x).got) = false := by simp
                clear eF eY eR eD eL eG eB eQ hBn hQn hAn hB3 hR3 hb5 hb3 hb9 hb5' hb3' z0 z1 z2 z3
                go_wp2_with fail
                go_quiet ((first | (go_at_call 17; exact Calls.quiet_of_same ((applied_any _ B b m _ _ _ _ (HBN.out _)).mono fun e w' h => ⟨h.1, h.2.symm⟩)) | (go_at_call 25; exact Calls.quiet_of_same ((HAP.out _).mono fun e w' h => ⟨h.1, h.2.symm⟩)) | (go_at_call 26; exact Calls.quiet_of_same ((got_any _ B b m _ _ _ _ (HBN.out _)).mono fun e w' h => ⟨h.1, h.2.symm⟩))))
                go_wp2
                go_roundw
                case rel => exact ⟨k + 1, x, y, vl, vd, L, vc, ve, vh, M, by omega, by omega, by go_num, HF.out, HY.out, HR.out, HBN.out _, HQN.out _, HD.out, HL.out, HG.out, own_drewN eW _⟩
                case measure => simp [intOf]; omega
              · go_wp2_with fail
                refine (rpeek_plays (w3.alloc (.cells #[.int .u64 r.ts, .int .i64 r.dc, .int .i64 r.tx, .slice D r.vers.length cp] 25)) B q vc ve vh M x y k (hR3.on (own_alloc (own_refl _) _)) hrel hF.ok hY hk130 r hr).mono ?_
                rintro e w5 ⟨⟨D', cp', rfl, hcD'⟩, hb5'⟩
                have hb5 : Below w.heap.size w w5 := below_own (own_alloc hb3 _) hb5'
                have z0 : w5.cell? ⟨w3.heap.size, 0, none⟩ = some (.int .u64 r.ts) := cell_on hb5' (cell_of_row _ _ 0 _ _ _ (heap_alloc_new w3 _))
                have z1 : w5.cell? ⟨w3.heap.size, 1, none⟩ = some (.int .i64 r.dc) := cell_on hb5' (cell_of_row _ _ 1 _ _ _ (heap_alloc_new w3 _))
                have z2 : w5.cell? ⟨w3.heap.size, 2, none⟩ = some (.int .i64 r.tx) := cell_on hb5' (cell_of_row _ _ 2 _ _ _ (heap_alloc_new w3 _))
                have z3 : w5.cell? ⟨w3.heap.size, 3, none⟩ = some (.slice D r.vers.length cp) := cell_on hb5' (cell_of_row _ _ 3 _ _ _ (heap_alloc_new w3 _))
                have hw35 : w3.heap.size < w5.heap.size := by have := hb5'.size; simp at this; omega
                have hcD5 := ((((Cells.of_own hrow).on (own_alloc (own_refl _) _)).on hb5').on (own_alloc (own_refl _) (.cells #[.int .u64 r.ts, .int .i64 r.dc, .int .i64 r.tx, .slice D' r.vers.length cp'] 25)))
                have hcD6 := ((hcD'.on hb5').on (own_alloc (own_refl _) (.cells #[.int .u64 r.ts, .int .i64 r.dc, .int .i64 r.tx, .slice D' r.vers.length cp'] 25)))
                have hrm : r.vers.length ≤ 9223372036854775807 := by have := hF.ok.few r (List.mem_of_getElem? hr); omega
                clear hr hrow
                go_wp2_with (go_at_call 15; (with_reducible refine (same_rec r D D' _ cp cp' (w5.alloc (.cells #[.int .u64 r.ts, .int .i64 r.dc, .int .i64 r.tx, .slice D' r.vers.length cp'] 25)) rfl hrm hcD5 hcD6).mono ?_); rintro e w9 ⟨rfl, hb9⟩)
                have eF : Fine x (k + 1) := hF.more
                have eY : YF y (k + 1) := hY.more
                have eR : Rel x y := hrel
                have eB : BoxAt w9 B b m vl vd L x := (((hB3.on (own_alloc (own_refl _) _)).on hb5').on (own_alloc (own_refl _) _)).on hb9
                have eQ : RfAt w9 B q vc ve vh M y := (((hR3.on (own_alloc (own_refl _) _)).on hb5').on (own_alloc (own_refl _) _)).on hb9
                have eD : ∀ g, boxS b m vl vd g → ¬ rfS q vc ve vh g := hdj
                have eL : ∀ g, boxS b m vl vd g → B ≤ g := hlow
                have eG : ∀ g, rfS q vc ve vh g → B ≤ g := rlow
                have eW : Below w.heap.size w w9 := below_own (own_alloc hb5 _) hb9
                have HF := Lib.hid eF
                have HY := Lib.hid eY
                have HR := Lib.hid eR
                have HD := Lib.hid eD
                have HL := Lib.hid eL
                have HG := Lib.hid eG
                have hBn : ∀ n, BoxAt ((w9).drewN n) B b m vl vd L x := fun n => eB.turn (S := none') ((Turns.refl _ _).drewN n) (fun _ _ => id) (fun _ _ => id)
                have hQn : ∀ n, RfAt ((w9).drewN n) B q vc ve vh M y := fun n => eQ.turn (S := none') ((Turns.refl _ _).drewN n) (fun _ _ => id) (fun _ _ => id)
                have hAn : ∀ n, Calls Try.prog 25 #[.pointer (some ⟨q, 0, none⟩)] ((w9).drewN n) (fun e w' => e = .returned (.int .i64 (x).base) ∧ (w9).drewN n = w') := fun n => rapplied_plays _ B q _ _ _ _ x y (k + 1) (hQn n) eR eF.ok eY (by omega)
                have c5 : (w9).cell? ⟨q, 5, none⟩ = some (.int .u64 (x).got) := by rw [eR.got]; exact eQ.cell 5
                have HBN := Lib.hid hBn
                have HQN := Lib.hid hQn
                have HAP := Lib.hid hAn
                have ga : ((x).base != (x).base) = false := by simp
                have gb : ((x).got != (x).got) = false := by simp
                clear eF eY eR eD eL eG eB eQ hBn hQn hAn hB3 hR3 hb5 hb3 hb9 hb5' hb3' z0 z1 z2 z3
                go_wp2_with fail
                go_quiet ((first | (go_at_call 17; exact Calls.quiet_of_same ((applied_any _ B b m _ _ _ _ (HBN.out _)).mono fun e w' h => ⟨h.1, h.2.symm⟩)) | (go_at_call 25; exact Calls.quiet_of_same ((HAP.out _).mono fun e w' h => ⟨h.1, h.2.symm⟩)) | (go_at_call 26; exact Calls.quiet_of_same ((got_any _ B b m _ _ _ _ (HBN.out _)).mono fun e w' h => ⟨h.1, h.2.symm⟩))))
                go_wp2
                go_roundw
                case rel => exact ⟨k + 1, x, y, vl, vd, L, vc, ve, vh, M, by omega, by omega, by go_num, HF.out, HY.out, HR.out, HBN.out _, HQN.out _, HD.out, HL.out, HG.out, own_drewN eW _⟩
                case measure => simp [intOf]; omega
    · have hke : k = n ∨ k = 120 := by omega
      by_cases hkn : k < n
      · have hd : decide ((k : Int) < 120) = false := by simp; omega
        have hd2 : (k : Int) < (n : Int) := by omega
        have hd3 : ¬ (k : Int) < 120 := by omega
        clear hke hlt
        go_wp2_with (go_at_call 14; refine (awake_any _).mono ?_; rintro e w9 ⟨rfl, hb9⟩)
        go_ret
        exact ⟨rfl, below_own hbel hb9⟩
      · have hd3 : ¬ (k : Int) < (n : Int) := by omega
        clear hke hlt
        go_wp2_with (go_at_call 14; refine (awake_any _).mono ?_; rintro e w9 ⟨rfl, hb9⟩)
        go_ret
        exact ⟨rfl, below_own hbel hb9⟩
end Go.Proofs.Ytneglecglkibfaa.lawInboxPlays
