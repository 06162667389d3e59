/-
  The walk of the law InboxBelow: whatever data come in, the call returns true and leaves what was there. Conditions: the arguments' cells lie as the hypotheses say.
-/
import Derived.Test.YtneglecglkibfaaBelP
import Derived.Test.YtneglecglkibfaaAwakeI
import Derived.Test.YtneglecglkibfaaReach
import Derived.Deep.RegionHeld3
import Derived.Deep.QuietTactic
import Derived.BigQuiet
namespace Go.Proofs.Ytneglecglkibfaa.lawInboxBelow
open Go.RowKit Go.Maps
set_option linter.unusedVariables false

/-- what an answer of Put is. -/
theorem putR_form {x x' : Bx} {at' : Int} {r : R} {e : Ending} {w' : World} (h : PutR x at' r e w' x') : ∃ er : Int, e = .returned (.int .i64 er) := by
  rcases h with ⟨_, rfl, _⟩ | ⟨_, rfl, _⟩ | ⟨_, rfl, _⟩ <;> exact ⟨_, rfl⟩
theorem nextR_form {x x' : Bx} {e : Ending} {w w' : World} (h : NextR x w e w' x') : ∃ v, e = .returned v := by
  rcases h with ⟨_, rfl, _⟩ | ⟨_, _, _, _, rfl, _⟩ <;> exact ⟨_, rfl⟩
theorem doneR_form {x x' : Bx} {at' : Int} {e : Ending} {w' : World} (h : DoneR x at' e w' x') : ∃ er : Int, e = .returned (.int .i64 er) := by
  rcases h with ⟨_, rfl, _⟩ | ⟨_, _, _, _, _, _, _, _, rfl, _⟩ <;> exact ⟨_, rfl⟩
theorem boxS_low {S T : Nat → Prop} {N M : Nat} (h : ∀ g, g < N → T g → S g) (hM : M ≤ N) (hl : ∀ g, S g → M ≤ g) : ∀ g, T g → M ≤ g := fun g e => (Nat.lt_or_ge g N).elim (fun c => hl g (h g c e)) (fun c => Nat.le_trans hM c)
set_option maxRecDepth 100000 in
set_option maxHeartbeats 8000000 in
theorem walk (a : Int) (A : Option Addr) (n c : Nat) (l : List OB) (w : World) (hn : l.length = n) (hm : n ≤ 9223372036854775807) (hnc : n ≤ c) (hA : Cells w A (flatOB l)) (wA : ∀ x ∈ l, x.wf w) :
    Calls Try.prog 6 #[.int .i64 a, .slice A n c] w fun e w' => e = .returned (.bool true) ∧ Below w.heap.size w w' := by
  obtain ⟨z, hz⟩ : ∃ z : Int, (if (1152921504606846976 : Int) < a then 1152921504606846976 else a) = z := ⟨_, rfl⟩
  have hz1 : z ≤ 1152921504606846976 := by rw [← hz]; split <;> omega
  obtain ⟨B, hBe⟩ : ∃ B, w.heap.size = B := ⟨_, rfl⟩
  have hBB : B ≤ w.heap.size := Nat.le_of_eq hBe.symm
  have hBB' : w.heap.size ≤ B := Nat.le_of_eq hBe
  go_enter Try.func6, Try.ntmps6
  go_wp2_with (go_at_call 8; refine (new_any _ _ hz1).mono ?_; rintro e w1 ⟨b, m, rfl, hb, hm', hB0, hb1⟩)
  rw [hBe] at hB0
  clear hz hBe
  have hlow0 : ∀ g, boxS b m (.slice none 0 0) (.slice none 0 0) g → B ≤ g := by
    rintro g (e | e | e | e)
    · omega
    · omega
    · cases e
    · cases e
  go_loopw [6, 7] (fun vg i wr => ∃ (k : Nat) (x : Bx) (vl vd : Value) (L : List Q), k ≤ n ∧ k ≤ 100 ∧ i = .int .i64 k ∧ vg = .int .u64 x.got ∧ Fine x k ∧ Bel l k x ∧ BoxAt wr B b m vl vd L x ∧ (∀ g, boxS b m vl vd g → B ≤ g) ∧ Below w.heap.size w wr) (fun _ i _ => n - (intOf i).toNat)
  case atStart => exact ⟨0, box0 z, _, _, [], Nat.zero_le _, by omega, rfl, rfl, Fine.new z hz1, Bel.new l z, hB0, hlow0, hb1⟩
  case round =>
    obtain ⟨k, x, vl, vd, L, hk, hk120, rfl, rfl, hF, hO, hB, hlow, hbel⟩ := hrel
    by_cases hlt : k < n ∧ k < 100
    · obtain ⟨hlt, hlt120⟩ := hlt
      obtain ⟨o, ho⟩ : ∃ o, l[k]? = some o := ⟨_, List.getElem?_eq_getElem (by omega)⟩
      obtain ⟨ab, off, rfl, x0, x1, x2, x3, x4, x5, x6⟩ := hA.ob ho
      have x0' := cell_on hbel x0
      have x1' := cell_on hbel x1
      have x2' := cell_on hbel x2
      have x3' := cell_on hbel x3
      have x4' := cell_on hbel x4
      have x5' := cell_on hbel x5
      have x6' := cell_on hbel x6
      have hw := wA o (List.mem_of_getElem? ho)
      have g3 : (0 : Int) ≤ (k : Int) := by omega
      have g4 : (k : Int) < (n : Int) := by omega
      have g5 : (k : Int) < 100 := by omega
      have g6 : (k : Int) + 1 ≤ (c : Int) := by omega
      have hBle : B ≤ w.heap.size := hBB
      have hBa : BoxAt (wr.alloc (.cells #[.int .i64 o.kind, .int .i64 o.pl, .int .u64 o.q.r.ts, .int .i64 o.q.r.dc, .int .i64 o.q.r.tx, .slice o.q.D o.q.r.vers.length o.q.c, .int .u64 o.t] 43)) B b m vl vd L x := hB.on (own_alloc (own_refl _) _)
      have hba : Below w.heap.size w (wr.alloc (.cells #[.int .i64 o.kind, .int .i64 o.pl, .int .u64 o.q.r.ts, .int .i64 o.q.r.dc, .int .i64 o.q.r.tx, .slice o.q.D o.q.r.vers.length o.q.c, .int .u64 o.t] 43)) := own_alloc hbel _
      have hbxw : ¬ boxS b m vl vd wr.heap.size := by
        have h0 := hB.under
        rintro (e | e | e | e)
        · have := h0.b; omega
        · have := h0.m; omega
        · have := h0.l _ e; omega
        · have := h0.d _ e; omega
      have hb0 := hF.ok.b0
      have hb1' := hF.ok.b1
      have hln := hF.ln
      have hhd := hF.ok.hd
      clear x0 x1 x2 x3 x4 x5 x6
      have y0 : (wr.alloc (.cells #[.int .i64 o.kind, .int .i64 o.pl, .int .u64 o.q.r.ts, .int .i64 o.q.r.dc, .int .i64 o.q.r.tx, .slice o.q.D o.q.r.vers.length o.q.c, .int .u64 o.t] 43)).cell? ⟨wr.heap.size, 0, none⟩ = some (.int .i64 o.kind) := cell_of_row _ _ 0 _ _ _ (heap_alloc_new wr _)
      have y1 : (wr.alloc (.cells #[.int .i64 o.kind, .int .i64 o.pl, .int .u64 o.q.r.ts, .int .i64 o.q.r.dc, .int .i64 o.q.r.tx, .slice o.q.D o.q.r.vers.length o.q.c, .int .u64 o.t] 43)).cell? ⟨wr.heap.size, 1, none⟩ = some (.int .i64 o.pl) := cell_of_row _ _ 1 _ _ _ (heap_alloc_new wr _)
      have y2 : (wr.alloc (.cells #[.int .i64 o.kind, .int .i64 o.pl, .int .u64 o.q.r.ts, .int .i64 o.q.r.dc, .int .i64 o.q.r.tx, .slice o.q.D o.q.r.vers.length o.q.c, .int .u64 o.t] 43)).cell? ⟨wr.heap.size, 2, none⟩ = some (.int .u64 o.q.r.ts) := cell_of_row _ _ 2 _ _ _ (heap_alloc_new wr _)
      have y3 : (wr.alloc (.cells #[.int .i64 o.kind, .int .i64 o.pl, .int .u64 o.q.r.ts, .int .i64 o.q.r.dc, .int .i64 o.q.r.tx, .slice o.q.D o.q.r.vers.length o.q.c, .int .u64 o.t] 43)).cell? ⟨wr.heap.size, 3, none⟩ = some (.int .i64 o.q.r.dc) := cell_of_row _ _ 3 _ _ _ (heap_alloc_new wr _)
      have y4 : (wr.alloc (.cells #[.int .i64 o.kind, .int .i64 o.pl, .int .u64 o.q.r.ts, .int .i64 o.q.r.dc, .int .i64 o.q.r.tx, .slice o.q.D o.q.r.vers.length o.q.c, .int .u64 o.t] 43)).cell? ⟨wr.heap.size, 4, none⟩ = some (.int .i64 o.q.r.tx) := cell_of_row _ _ 4 _ _ _ (heap_alloc_new wr _)
      have y5 : (wr.alloc (.cells #[.int .i64 o.kind, .int .i64 o.pl, .int .u64 o.q.r.ts, .int .i64 o.q.r.dc, .int .i64 o.q.r.tx, .slice o.q.D o.q.r.vers.length o.q.c, .int .u64 o.t] 43)).cell? ⟨wr.heap.size, 5, none⟩ = some (.slice o.q.D o.q.r.vers.length o.q.c) := cell_of_row _ _ 5 _ _ _ (heap_alloc_new wr _)
      have y6 : (wr.alloc (.cells #[.int .i64 o.kind, .int .i64 o.pl, .int .u64 o.q.r.ts, .int .i64 o.q.r.dc, .int .i64 o.q.r.tx, .slice o.q.D o.q.r.vers.length o.q.c, .int .u64 o.t] 43)).cell? ⟨wr.heap.size, 6, none⟩ = some (.int .u64 o.t) := cell_of_row _ _ 6 _ _ _ (heap_alloc_new wr _)
      clear wA
      by_cases k0 : o.kind = 0
      · have e0 : (o.kind == 0) = true := by simpa using k0
        clear k0
        have hq := hw.q
        obtain ⟨r', hr'⟩ : ∃ r', o.q.r.few = r' := ⟨_, rfl⟩
        have hlf : min o.q.r.vers.length 12 = r'.vers.length := by rw [← hr']; show _ = (o.q.r.vers.take 12).length; rw [List.length_take]; omega
        have hl12 : r'.vers.length ≤ 12 := hr' ▸ few_len o.q.r
        have hrt : o.q.r.ts = r'.ts ∧ o.q.r.dc = r'.dc ∧ o.q.r.tx = r'.tx := by rw [← hr']; exact ⟨rfl, rfl, rfl⟩
        have hDf : Cells w o.q.D (flatV r'.vers) := by rw [← hr']; exact Cells.takeG (cf := V.cells) hq.D 12
        have hl150 : x.list.length ≤ 150 := by omega
        have hr1000 : r'.vers.length ≤ 1000 := by omega
        have HLF := Lib.hid hlf
        have HRT := Lib.hid hrt
        clear hr' hlf hrt
        go_wp2_with fail
        go_region_held3 (fun w' => Turns (boxS b m vl vd) (wr.alloc (.cells #[.int .i64 o.kind, .int .i64 o.pl, .int .u64 o.q.r.ts, .int .i64 o.q.r.dc, .int .i64 o.q.r.tx, .slice o.q.D o.q.r.vers.length o.q.c, .int .u64 o.t] 43)) w' ∧ w'.cell? ⟨wr.heap.size, 0, none⟩ = some (.int .i64 o.kind) ∧ w'.cell? ⟨wr.heap.size, 1, none⟩ = some (.int .i64 o.pl) ∧ w'.cell? ⟨wr.heap.size, 2, none⟩ = some (.int .u64 o.q.r.ts) ∧ w'.cell? ⟨wr.heap.size, 3, none⟩ = some (.int .i64 o.q.r.dc) ∧ w'.cell? ⟨wr.heap.size, 4, none⟩ = some (.int .i64 o.q.r.tx) ∧ w'.cell? ⟨wr.heap.size, 5, none⟩ = some (.slice o.q.D o.q.r.vers.length o.q.c) ∧ w'.cell? ⟨wr.heap.size, 6, none⟩ = some (.int .u64 o.t))
          (first | (refine ⟨(Turns.refl _ _).drew, ?_, ?_, ?_, ?_, ?_, ?_, ?_⟩ <;> (go_simp; done)) | (go_split_ands; exact ⟨by assumption, Turns.cell (by assumption) y0 hbxw, Turns.cell (by assumption) y1 hbxw, Turns.cell (by assumption) y2 hbxw, Turns.cell (by assumption) y3 hbxw, Turns.cell (by assumption) y4 hbxw, Turns.cell (by assumption) y5 hbxw, Turns.cell (by assumption) y6 hbxw⟩))
          (first | (go_at_call 9; refine (few_any o.q.r _ _ _ _ rfl hq.le hq.fit hq.nn).mono ?_; rintro e w2 ⟨rfl, hb2⟩; rw [HLF.out]; have hbp : Below (wr.alloc (.cells #[.int .i64 o.kind, .int .i64 o.pl, .int .u64 o.q.r.ts, .int .i64 o.q.r.dc, .int .i64 o.q.r.tx, .slice o.q.D o.q.r.vers.length o.q.c, .int .u64 o.t] 43)).heap.size (wr.alloc (.cells #[.int .i64 o.kind, .int .i64 o.pl, .int .u64 o.q.r.ts, .int .i64 o.q.r.dc, .int .i64 o.q.r.tx, .slice o.q.D o.q.r.vers.length o.q.c, .int .u64 o.t] 43)) w2 := below_own (own_drew (own_refl _)) hb2; have ht2 : Turns (boxS b m vl vd) (wr.alloc (.cells #[.int .i64 o.kind, .int .i64 o.pl, .int .u64 o.q.r.ts, .int .i64 o.q.r.dc, .int .i64 o.q.r.tx, .slice o.q.D o.q.r.vers.length o.q.c, .int .u64 o.t] 43)) w2 := Turns.of_below hbp; rw [HRT.out.1, HRT.out.2.1, HRT.out.2.2]) | (go_at_call 11; have hpt := put_any w2 B b m vl vd L x (hBa.on hbp) r' o.q.D o.q.c o.pl hF.ok hl150 hr1000 (hDf.on (below_own hba hbp)) (Nat.le_trans hBle (below_own hba hbp).size); refine hpt.mono ?_; rintro e w3 ⟨vl', vd', L', x', hP, hB', hT, hO'⟩; obtain ⟨er, rfl⟩ := putR_form hP; have ht3 := ht2.on hT (fun _ _ e => e)))
        rename_i hSS
        clear hSS
        have eFine := Fine.put hF (by omega) hl12 hP
        obtain ⟨eBel, eMono⟩ := Bel.put hO hP
        have hBl2 : B ≤ w2.heap.size := Nat.le_trans (Nat.le_trans hBle hba.size) ht2.size
        clear hP
        have eF : Fine x' (k + 1) := eFine
        have eO : Bel l (k + 1) x' := eBel
        have eM : x.got ≤ (x').got := eMono
        have eB : BoxAt w3 B b m vl' vd' L' x' := hB'
        have eL : ∀ g, boxS b m vl' vd' g → B ≤ g := boxS_low hO' hBl2 hlow
        have eW : Below w.heap.size w w3 := ht3.below hba (fun j hj => Nat.le_trans hBB' (hlow j hj))
        have HF := Lib.hid eF
        have HO := Lib.hid eO
        have HL := Lib.hid eL
        have eg0 := eF.ok.g0
        have eg1 := eF.ok.g1
        clear eF eO eL eFine eBel eMono hT hO' ht2 hbp hb2 hBl2 hpt hB' hDf
        go_wp2_with (go_at_call 26; (with_reducible refine (got_any _ B b m _ _ _ _ eB).mono ?_); rintro e w9 ⟨rfl, rfl⟩)
        go_loopw [10, 71] (fun s i wi => ∃ j : Nat, j ≤ k + 1 ∧ i = .int .i64 j ∧ s = .bool (saysB l x' j) ∧ Below w.heap.size w wi ∧ BoxAt wi B b m vl' vd' L' x') (fun _ i _ => k + 1 - (intOf i).toNat)
        case atStart => exact ⟨0, Nat.zero_le _, rfl, congrArg Value.bool (by simp [saysB]), eW, eB⟩
        case round =>
          obtain ⟨j, hj, rfl, rfl, hwi, hBi⟩ := hrel
          clear eB eW
          by_cases hjk : j < k + 1
          · skip
            obtain ⟨p, hp⟩ : ∃ p, l[j]? = some p := ⟨_, List.getElem?_eq_getElem (by omega)⟩
            obtain ⟨ab2, off2, eab, p0, p1, p2, p3, p4, p5, p6⟩ := hA.ob hp
            obtain ⟨rfl, rfl⟩ : ab = ab2 ∧ off = off2 := by injection eab with e; injection e with e1 e2; exact ⟨e1, e2⟩
            have p0' := cell_on hwi p0
            have p1' := cell_on hwi p1
            have p2' := cell_on hwi p2
            have p3' := cell_on hwi p3
            have p4' := cell_on hwi p4
            have p5' := cell_on hwi p5
            have p6' := cell_on hwi p6
            have hs := saysB_succ (x := x') hp
            have q3 : (0 : Int) ≤ (j : Int) := by omega
            have q4 : (j : Int) < (k : Int) + 1 := by omega
            have q5 : (j : Int) + 1 ≤ 9223372036854775807 := by omega
            have z0 : (wr.alloc (.cells #[.int .i64 p.kind, .int .i64 p.pl, .int .u64 p.q.r.ts, .int .i64 p.q.r.dc, .int .i64 p.q.r.tx, .slice p.q.D p.q.r.vers.length p.q.c, .int .u64 p.t] 43)).cell? ⟨wr.heap.size, 0, none⟩ = some (.int .i64 p.kind) := cell_of_row _ _ 0 _ _ _ (heap_alloc_new wr _)
            have z1 : (wr.alloc (.cells #[.int .i64 p.kind, .int .i64 p.pl, .int .u64 p.q.r.ts, .int .i64 p.q.r.dc, .int .i64 p.q.r.tx, .slice p.q.D p.q.r.vers.length p.q.c, .int .u64 p.t] 43)).cell? ⟨wr.heap.size, 1, none⟩ = some (.int .i64 p.pl) := cell_of_row _ _ 1 _ _ _ (heap_alloc_new wr _)
            have z2 : (wr.alloc (.cells #[.int .i64 p.kind, .int .i64 p.pl, .int .u64 p.q.r.ts, .int .i64 p.q.r.dc, .int .i64 p.q.r.tx, .slice p.q.D p.q.r.vers.length p.q.c, .int .u64 p.t] 43)).cell? ⟨wr.heap.size, 2, none⟩ = some (.int .u64 p.q.r.ts) := cell_of_row _ _ 2 _ _ _ (heap_alloc_new wr _)
            have z3 : (wr.alloc (.cells #[.int .i64 p.kind, .int .i64 p.pl, .int .u64 p.q.r.ts, .int .i64 p.q.r.dc, .int .i64 p.q.r.tx, .slice p.q.D p.q.r.vers.length p.q.c, .int .u64 p.t] 43)).cell? ⟨wr.heap.size, 3, none⟩ = some (.int .i64 p.q.r.dc) := cell_of_row _ _ 3 _ _ _ (heap_alloc_new wr _)
            have z4 : (wr.alloc (.cells #[.int .i64 p.kind, .int .i64 p.pl, .int .u64 p.q.r.ts, .int .i64 p.q.r.dc, .int .i64 p.q.r.tx, .slice p.q.D p.q.r.vers.length p.q.c, .int .u64 p.t] 43)).cell? ⟨wr.heap.size, 4, none⟩ = some (.int .i64 p.q.r.tx) := cell_of_row _ _ 4 _ _ _ (heap_alloc_new wr _)
            have z5 : (wr.alloc (.cells #[.int .i64 p.kind, .int .i64 p.pl, .int .u64 p.q.r.ts, .int .i64 p.q.r.dc, .int .i64 p.q.r.tx, .slice p.q.D p.q.r.vers.length p.q.c, .int .u64 p.t] 43)).cell? ⟨wr.heap.size, 5, none⟩ = some (.slice p.q.D p.q.r.vers.length p.q.c) := cell_of_row _ _ 5 _ _ _ (heap_alloc_new wr _)
            have z6 : (wr.alloc (.cells #[.int .i64 p.kind, .int .i64 p.pl, .int .u64 p.q.r.ts, .int .i64 p.q.r.dc, .int .i64 p.q.r.tx, .slice p.q.D p.q.r.vers.length p.q.c, .int .u64 p.t] 43)).cell? ⟨wr.heap.size, 6, none⟩ = some (.int .u64 p.t) := cell_of_row _ _ 6 _ _ _ (heap_alloc_new wr _)
            have hQB : BoxAt (wr.alloc (.cells #[.int .i64 p.kind, .int .i64 p.pl, .int .u64 p.q.r.ts, .int .i64 p.q.r.dc, .int .i64 p.q.r.tx, .slice p.q.D p.q.r.vers.length p.q.c, .int .u64 p.t] 43)) B b m vl' vd' L' x' := hBi.on (own_alloc (own_refl _) _)
            have hQ : ∀ n, BoxAt ((wr.alloc (.cells #[.int .i64 p.kind, .int .i64 p.pl, .int .u64 p.q.r.ts, .int .i64 p.q.r.dc, .int .i64 p.q.r.tx, .slice p.q.D p.q.r.vers.length p.q.c, .int .u64 p.t] 43)).drewN n) B b m vl' vd' L' x' := fun n => hQB.turn (S := none') ((Turns.refl _ _).drewN n) (fun _ _ => id) (fun _ _ => id)
            have HQ := Lib.hid hQ
            have HQB := Lib.hid hQB
            clear hQ hQB hBi p0 p1 p2 p3 p4 p5 p6 hp
            cases hsj : saysB l x' j with
            | true =>
              rw [hsj, Bool.true_or] at hs
              have HS := Lib.hid hs
              clear hs hsj
              go_wp2_with fail
              go_quiet (fail)
              go_wp2
              go_roundw
              case rel => exact ⟨j + 1, by omega, by go_num, congrArg Value.bool (by rw [HS.out]), own_drewN (own_alloc hwi _) _, HQB.out.turn (S := none') ((Turns.refl _ _).drewN _) (fun _ _ => id) (fun _ _ => id)⟩
              case measure => simp [intOf]; omega
            | false =>
              by_cases c1 : p.kind = 3
              · have d1 : (p.kind == 3) = true := by simpa using c1
                by_cases c2 : p.t = (x').got
                · have d2 : (p.t == (x').got) = true := by simpa using c2
                  by_cases c3 : p.pl ≤ (x').base
                  · have d3 : decide (p.pl ≤ (x').base) = true := by simpa using c3
                    have HS : Hid (saysB l x' (j + 1) = true) := Lib.hid (by rw [hs, hsj]; simp [saysO, *])
                    clear hs hsj c1 c2
                    go_wp2_with fail
                    go_quiet (((go_at_call 17; exact Calls.quiet_of_same ((applied_any _ B b m _ _ _ _ (HQ.out _)).mono fun e w' h => ⟨h.1, h.2.symm⟩))))
                    go_wp2
                    go_roundw
                    case rel => exact ⟨j + 1, by omega, by go_num, congrArg Value.bool (by rw [HS.out]), own_drewN (own_alloc hwi _) _, HQB.out.turn (S := none') ((Turns.refl _ _).drewN _) (fun _ _ => id) (fun _ _ => id)⟩
                    case measure => simp [intOf]; omega
                  · have d3 : decide (p.pl ≤ (x').base) = false := by simpa using c3
                    have HS : Hid (saysB l x' (j + 1) = false) := Lib.hid (by rw [hs, hsj]; simp [saysO, *])
                    clear hs hsj c1 c2
                    go_wp2_with fail
                    go_quiet (((go_at_call 17; exact Calls.quiet_of_same ((applied_any _ B b m _ _ _ _ (HQ.out _)).mono fun e w' h => ⟨h.1, h.2.symm⟩))))
                    go_wp2
                    go_roundw
                    case rel => exact ⟨j + 1, by omega, by go_num, congrArg Value.bool (by rw [HS.out]), own_drewN (own_alloc hwi _) _, HQB.out.turn (S := none') ((Turns.refl _ _).drewN _) (fun _ _ => id) (fun _ _ => id)⟩
                    case measure => simp [intOf]; omega
                · have d2 : (p.t == (x').got) = false := by simpa using c2
                  have HS : Hid (saysB l x' (j + 1) = false) := Lib.hid (by rw [hs, hsj]; simp [saysO, *])
                  clear hs hsj c1 c2
                  go_wp2_with fail
                  go_quiet (fail)
                  go_wp2
                  go_roundw
                  case rel => exact ⟨j + 1, by omega, by go_num, congrArg Value.bool (by rw [HS.out]), own_drewN (own_alloc hwi _) _, HQB.out.turn (S := none') ((Turns.refl _ _).drewN _) (fun _ _ => id) (fun _ _ => id)⟩
                  case measure => simp [intOf]; omega
              · have d1 : (p.kind == 3) = false := by simpa using c1
                have HS : Hid (saysB l x' (j + 1) = false) := Lib.hid (by rw [hs, hsj]; simp [saysO, *])
                clear hs hsj c1
                go_wp2_with fail
                go_quiet (fail)
                go_wp2
                go_roundw
                case rel => exact ⟨j + 1, by omega, by go_num, congrArg Value.bool (by rw [HS.out]), own_drewN (own_alloc hwi _) _, HQB.out.turn (S := none') ((Turns.refl _ _).drewN _) (fun _ _ => id) (fun _ _ => id)⟩
                case measure => simp [intOf]; omega
          · obtain rfl : j = k + 1 := by omega
            rw [saysB_all HO.out]
            have gm : ¬ (x').got < x.got := by omega
            go_wp2
            go_roundw
            case rel => exact ⟨k + 1, x', vl', vd', L', by omega, by omega, by go_num, rfl, HF.out, HO.out, hBi, HL.out, hwi⟩
            case measure => simp [intOf]; omega
      · have e0 : (o.kind == 0) = false := by simpa using k0
        by_cases k1 : o.kind = 1
        · have e1 : (o.kind == 1) = true := by simpa using k1
          clear k0 k1
          have hwa := hw.wa
          have hwt := hw.wt
          have hwr := hw.a
          have hl1000 : x.hearts.length ≤ 1000 := by have := hF.hn; omega
          go_wp2_with fail
          refine (next_any _ B b m vl vd L x hBa hF.ok).mono ?_
          rintro e w3 ⟨vl', vd', L', x', hP, hB', hT, hO'⟩
          have eFine := Fine.next hF hP
          obtain ⟨eBel, eMono⟩ := Bel.next hO hP
          have hBl2 : B ≤ (wr.alloc (.cells #[.int .i64 o.kind, .int .i64 o.pl, .int .u64 o.q.r.ts, .int .i64 o.q.r.dc, .int .i64 o.q.r.tx, .slice o.q.D o.q.r.vers.length o.q.c, .int .u64 o.t] 43)).heap.size := Nat.le_trans hBle hba.size
          have hb3 : Below w.heap.size w w3 := hT.below hba (fun j hj => Nat.le_trans hBB' (hlow j hj))
          obtain ⟨er, rfl⟩ := nextR_form hP
          clear hP
          have eF : Fine x' (k + 1) := eFine
          have eO : Bel l (k + 1) x' := eBel
          have eM : x.got ≤ (x').got := eMono
          have eB : BoxAt w3 B b m vl' vd' L' x' := hB'
          have eL : ∀ g, boxS b m vl' vd' g → B ≤ g := boxS_low hO' hBl2 hlow
          have eW : Below w.heap.size w w3 := hb3
          have HF := Lib.hid eF
          have HO := Lib.hid eO
          have HL := Lib.hid eL
          have eg0 := eF.ok.g0
          have eg1 := eF.ok.g1
          clear eF eO eL eFine eBel eMono hT hO' hBl2 hB' hb3
          go_wp2_with (go_at_call 26; (with_reducible refine (got_any _ B b m _ _ _ _ eB).mono ?_); rintro e w9 ⟨rfl, rfl⟩)
          go_loopw [10, 71] (fun s i wi => ∃ j : Nat, j ≤ k + 1 ∧ i = .int .i64 j ∧ s = .bool (saysB l x' j) ∧ Below w.heap.size w wi ∧ BoxAt wi B b m vl' vd' L' x') (fun _ i _ => k + 1 - (intOf i).toNat)
          case atStart => exact ⟨0, Nat.zero_le _, rfl, congrArg Value.bool (by simp [saysB]), eW, eB⟩
          case round =>
            obtain ⟨j, hj, rfl, rfl, hwi, hBi⟩ := hrel
            clear eB eW
            by_cases hjk : j < k + 1
            · skip
              obtain ⟨p, hp⟩ : ∃ p, l[j]? = some p := ⟨_, List.getElem?_eq_getElem (by omega)⟩
              obtain ⟨ab2, off2, eab, p0, p1, p2, p3, p4, p5, p6⟩ := hA.ob hp
              obtain ⟨rfl, rfl⟩ : ab = ab2 ∧ off = off2 := by injection eab with e; injection e with e1 e2; exact ⟨e1, e2⟩
              have p0' := cell_on hwi p0
              have p1' := cell_on hwi p1
              have p2' := cell_on hwi p2
              have p3' := cell_on hwi p3
              have p4' := cell_on hwi p4
              have p5' := cell_on hwi p5
              have p6' := cell_on hwi p6
              have hs := saysB_succ (x := x') hp
              have q3 : (0 : Int) ≤ (j : Int) := by omega
              have q4 : (j : Int) < (k : Int) + 1 := by omega
              have q5 : (j : Int) + 1 ≤ 9223372036854775807 := by omega
              have z0 : (wr.alloc (.cells #[.int .i64 p.kind, .int .i64 p.pl, .int .u64 p.q.r.ts, .int .i64 p.q.r.dc, .int .i64 p.q.r.tx, .slice p.q.D p.q.r.vers.length p.q.c, .int .u64 p.t] 43)).cell? ⟨wr.heap.size, 0, none⟩ = some (.int .i64 p.kind) := cell_of_row _ _ 0 _ _ _ (heap_alloc_new wr _)
              have z1 : (wr.alloc (.cells #[.int .i64 p.kind, .int .i64 p.pl, .int .u64 p.q.r.ts, .int .i64 p.q.r.dc, .int .i64 p.q.r.tx, .slice p.q.D p.q.r.vers.length p.q.c, .int .u64 p.t] 43)).cell? ⟨wr.heap.size, 1, none⟩ = some (.int .i64 p.pl) := cell_of_row _ _ 1 _ _ _ (heap_alloc_new wr _)
              have z2 : (wr.alloc (.cells #[.int .i64 p.kind, .int .i64 p.pl, .int .u64 p.q.r.ts, .int .i64 p.q.r.dc, .int .i64 p.q.r.tx, .slice p.q.D p.q.r.vers.length p.q.c, .int .u64 p.t] 43)).cell? ⟨wr.heap.size, 2, none⟩ = some (.int .u64 p.q.r.ts) := cell_of_row _ _ 2 _ _ _ (heap_alloc_new wr _)
              have z3 : (wr.alloc (.cells #[.int .i64 p.kind, .int .i64 p.pl, .int .u64 p.q.r.ts, .int .i64 p.q.r.dc, .int .i64 p.q.r.tx, .slice p.q.D p.q.r.vers.length p.q.c, .int .u64 p.t] 43)).cell? ⟨wr.heap.size, 3, none⟩ = some (.int .i64 p.q.r.dc) := cell_of_row _ _ 3 _ _ _ (heap_alloc_new wr _)
              have z4 : (wr.alloc (.cells #[.int .i64 p.kind, .int .i64 p.pl, .int .u64 p.q.r.ts, .int .i64 p.q.r.dc, .int .i64 p.q.r.tx, .slice p.q.D p.q.r.vers.length p.q.c, .int .u64 p.t] 43)).cell? ⟨wr.heap.size, 4, none⟩ = some (.int .i64 p.q.r.tx) := cell_of_row _ _ 4 _ _ _ (heap_alloc_new wr _)
              have z5 : (wr.alloc (.cells #[.int .i64 p.kind, .int .i64 p.pl, .int .u64 p.q.r.ts, .int .i64 p.q.r.dc, .int .i64 p.q.r.tx, .slice p.q.D p.q.r.vers.length p.q.c, .int .u64 p.t] 43)).cell? ⟨wr.heap.size, 5, none⟩ = some (.slice p.q.D p.q.r.vers.length p.q.c) := cell_of_row _ _ 5 _ _ _ (heap_alloc_new wr _)
              have z6 : (wr.alloc (.cells #[.int .i64 p.kind, .int .i64 p.pl, .int .u64 p.q.r.ts, .int .i64 p.q.r.dc, .int .i64 p.q.r.tx, .slice p.q.D p.q.r.vers.length p.q.c, .int .u64 p.t] 43)).cell? ⟨wr.heap.size, 6, none⟩ = some (.int .u64 p.t) := cell_of_row _ _ 6 _ _ _ (heap_alloc_new wr _)
              have hQB : BoxAt (wr.alloc (.cells #[.int .i64 p.kind, .int .i64 p.pl, .int .u64 p.q.r.ts, .int .i64 p.q.r.dc, .int .i64 p.q.r.tx, .slice p.q.D p.q.r.vers.length p.q.c, .int .u64 p.t] 43)) B b m vl' vd' L' x' := hBi.on (own_alloc (own_refl _) _)
              have hQ : ∀ n, BoxAt ((wr.alloc (.cells #[.int .i64 p.kind, .int .i64 p.pl, .int .u64 p.q.r.ts, .int .i64 p.q.r.dc, .int .i64 p.q.r.tx, .slice p.q.D p.q.r.vers.length p.q.c, .int .u64 p.t] 43)).drewN n) B b m vl' vd' L' x' := fun n => hQB.turn (S := none') ((Turns.refl _ _).drewN n) (fun _ _ => id) (fun _ _ => id)
              have HQ := Lib.hid hQ
              have HQB := Lib.hid hQB
              clear hQ hQB hBi p0 p1 p2 p3 p4 p5 p6 hp
              cases hsj : saysB l x' j with
              | true =>
                rw [hsj, Bool.true_or] at hs
                have HS := Lib.hid hs
                clear hs hsj
                go_wp2_with fail
                go_quiet (fail)
                go_wp2
                go_roundw
                case rel => exact ⟨j + 1, by omega, by go_num, congrArg Value.bool (by rw [HS.out]), own_drewN (own_alloc hwi _) _, HQB.out.turn (S := none') ((Turns.refl _ _).drewN _) (fun _ _ => id) (fun _ _ => id)⟩
                case measure => simp [intOf]; omega
              | false =>
                by_cases c1 : p.kind = 3
                · have d1 : (p.kind == 3) = true := by simpa using c1
                  by_cases c2 : p.t = (x').got
                  · have d2 : (p.t == (x').got) = true := by simpa using c2
                    by_cases c3 : p.pl ≤ (x').base
                    · have d3 : decide (p.pl ≤ (x').base) = true := by simpa using c3
                      have HS : Hid (saysB l x' (j + 1) = true) := Lib.hid (by rw [hs, hsj]; simp [saysO, *])
                      clear hs hsj c1 c2
                      go_wp2_with fail
                      go_quiet (((go_at_call 17; exact Calls.quiet_of_same ((applied_any _ B b m _ _ _ _ (HQ.out _)).mono fun e w' h => ⟨h.1, h.2.symm⟩))))
                      go_wp2
                      go_roundw
                      case rel => exact ⟨j + 1, by omega, by go_num, congrArg Value.bool (by rw [HS.out]), own_drewN (own_alloc hwi _) _, HQB.out.turn (S := none') ((Turns.refl _ _).drewN _) (fun _ _ => id) (fun _ _ => id)⟩
                      case measure => simp [intOf]; omega
                    · have d3 : decide (p.pl ≤ (x').base) = false := by simpa using c3
                      have HS : Hid (saysB l x' (j + 1) = false) := Lib.hid (by rw [hs, hsj]; simp [saysO, *])
                      clear hs hsj c1 c2
                      go_wp2_with fail
                      go_quiet (((go_at_call 17; exact Calls.quiet_of_same ((applied_any _ B b m _ _ _ _ (HQ.out _)).mono fun e w' h => ⟨h.1, h.2.symm⟩))))
                      go_wp2
                      go_roundw
                      case rel => exact ⟨j + 1, by omega, by go_num, congrArg Value.bool (by rw [HS.out]), own_drewN (own_alloc hwi _) _, HQB.out.turn (S := none') ((Turns.refl _ _).drewN _) (fun _ _ => id) (fun _ _ => id)⟩
                      case measure => simp [intOf]; omega
                  · have d2 : (p.t == (x').got) = false := by simpa using c2
                    have HS : Hid (saysB l x' (j + 1) = false) := Lib.hid (by rw [hs, hsj]; simp [saysO, *])
                    clear hs hsj c1 c2
                    go_wp2_with fail
                    go_quiet (fail)
                    go_wp2
                    go_roundw
                    case rel => exact ⟨j + 1, by omega, by go_num, congrArg Value.bool (by rw [HS.out]), own_drewN (own_alloc hwi _) _, HQB.out.turn (S := none') ((Turns.refl _ _).drewN _) (fun _ _ => id) (fun _ _ => id)⟩
                    case measure => simp [intOf]; omega
                · have d1 : (p.kind == 3) = false := by simpa using c1
                  have HS : Hid (saysB l x' (j + 1) = false) := Lib.hid (by rw [hs, hsj]; simp [saysO, *])
                  clear hs hsj c1
                  go_wp2_with fail
                  go_quiet (fail)
                  go_wp2
                  go_roundw
                  case rel => exact ⟨j + 1, by omega, by go_num, congrArg Value.bool (by rw [HS.out]), own_drewN (own_alloc hwi _) _, HQB.out.turn (S := none') ((Turns.refl _ _).drewN _) (fun _ _ => id) (fun _ _ => id)⟩
                  case measure => simp [intOf]; omega
            · obtain rfl : j = k + 1 := by omega
              rw [saysB_all HO.out]
              have gm : ¬ (x').got < x.got := by omega
              go_wp2
              go_roundw
              case rel => exact ⟨k + 1, x', vl', vd', L', by omega, by omega, by go_num, rfl, HF.out, HO.out, hBi, HL.out, hwi⟩
              case measure => simp [intOf]; omega
        · have e1 : (o.kind == 1) = false := by simpa using k1
          by_cases k2 : o.kind = 2
          · have e2 : (o.kind == 2) = true := by simpa using k2
            clear k0 k1 k2
            have hwa := hw.wa
            have hwt := hw.wt
            have hwr := hw.a
            have hl1000 : x.hearts.length ≤ 1000 := by have := hF.hn; omega
            go_wp2_with fail
            refine (done_any _ B b m vl vd L x hBa hF.ok o.pl hwr.2).mono ?_
            rintro e w3 ⟨vl', vd', L', x', hP, hB', hT, hO'⟩
            have eFine := Fine.done hF (by omega) hP
            obtain ⟨eBel, eMono⟩ := Bel.done hO hP
            have hBl2 : B ≤ (wr.alloc (.cells #[.int .i64 o.kind, .int .i64 o.pl, .int .u64 o.q.r.ts, .int .i64 o.q.r.dc, .int .i64 o.q.r.tx, .slice o.q.D o.q.r.vers.length o.q.c, .int .u64 o.t] 43)).heap.size := Nat.le_trans hBle hba.size
            have hb3 : Below w.heap.size w w3 := hT.below hba (fun j hj => Nat.le_trans hBB' (hlow j hj))
            obtain ⟨er, rfl⟩ := doneR_form hP
            clear hP
            have eF : Fine x' (k + 1) := eFine
            have eO : Bel l (k + 1) x' := eBel
            have eM : x.got ≤ (x').got := eMono
            have eB : BoxAt w3 B b m vl' vd' L' x' := hB'
            have eL : ∀ g, boxS b m vl' vd' g → B ≤ g := boxS_low hO' hBl2 hlow
            have eW : Below w.heap.size w w3 := hb3
            have HF := Lib.hid eF
            have HO := Lib.hid eO
            have HL := Lib.hid eL
            have eg0 := eF.ok.g0
            have eg1 := eF.ok.g1
            clear eF eO eL eFine eBel eMono hT hO' hBl2 hB' hb3
            go_wp2_with (go_at_call 26; (with_reducible refine (got_any _ B b m _ _ _ _ eB).mono ?_); rintro e w9 ⟨rfl, rfl⟩)
            go_loopw [10, 71] (fun s i wi => ∃ j : Nat, j ≤ k + 1 ∧ i = .int .i64 j ∧ s = .bool (saysB l x' j) ∧ Below w.heap.size w wi ∧ BoxAt wi B b m vl' vd' L' x') (fun _ i _ => k + 1 - (intOf i).toNat)
            case atStart => exact ⟨0, Nat.zero_le _, rfl, congrArg Value.bool (by simp [saysB]), eW, eB⟩
            case round =>
              obtain ⟨j, hj, rfl, rfl, hwi, hBi⟩ := hrel
              clear eB eW
              by_cases hjk : j < k + 1
              · skip
                obtain ⟨p, hp⟩ : ∃ p, l[j]? = some p := ⟨_, List.getElem?_eq_getElem (by omega)⟩
                obtain ⟨ab2, off2, eab, p0, p1, p2, p3, p4, p5, p6⟩ := hA.ob hp
                obtain ⟨rfl, rfl⟩ : ab = ab2 ∧ off = off2 := by injection eab with e; injection e with e1 e2; exact ⟨e1, e2⟩
                have p0' := cell_on hwi p0
                have p1' := cell_on hwi p1
                have p2' := cell_on hwi p2
                have p3' := cell_on hwi p3
                have p4' := cell_on hwi p4
                have p5' := cell_on hwi p5
                have p6' := cell_on hwi p6
                have hs := saysB_succ (x := x') hp
                have q3 : (0 : Int) ≤ (j : Int) := by omega
                have q4 : (j : Int) < (k : Int) + 1 := by omega
                have q5 : (j : Int) + 1 ≤ 9223372036854775807 := by omega
                have z0 : (wr.alloc (.cells #[.int .i64 p.kind, .int .i64 p.pl, .int .u64 p.q.r.ts, .int .i64 p.q.r.dc, .int .i64 p.q.r.tx, .slice p.q.D p.q.r.vers.length p.q.c, .int .u64 p.t] 43)).cell? ⟨wr.heap.size, 0, none⟩ = some (.int .i64 p.kind) := cell_of_row _ _ 0 _ _ _ (heap_alloc_new wr _)
                have z1 : (wr.alloc (.cells #[.int .i64 p.kind, .int .i64 p.pl, .int .u64 p.q.r.ts, .int .i64 p.q.r.dc, .int .i64 p.q.r.tx, .slice p.q.D p.q.r.vers.length p.q.c, .int .u64 p.t] 43)).cell? ⟨wr.heap.size, 1, none⟩ = some (.int .i64 p.pl) := cell_of_row _ _ 1 _ _ _ (heap_alloc_new wr _)
                have z2 : (wr.alloc (.cells #[.int .i64 p.kind, .int .i64 p.pl, .int .u64 p.q.r.ts, .int .i64 p.q.r.dc, .int .i64 p.q.r.tx, .slice p.q.D p.q.r.vers.length p.q.c, .int .u64 p.t] 43)).cell? ⟨wr.heap.size, 2, none⟩ = some (.int .u64 p.q.r.ts) := cell_of_row _ _ 2 _ _ _ (heap_alloc_new wr _)
                have z3 : (wr.alloc (.cells #[.int .i64 p.kind, .int .i64 p.pl, .int .u64 p.q.r.ts, .int .i64 p.q.r.dc, .int .i64 p.q.r.tx, .slice p.q.D p.q.r.vers.length p.q.c, .int .u64 p.t] 43)).cell? ⟨wr.heap.size, 3, none⟩ = some (.int .i64 p.q.r.dc) := cell_of_row _ _ 3 _ _ _ (heap_alloc_new wr _)
                have z4 : (wr.alloc (.cells #[.int .i64 p.kind, .int .i64 p.pl, .int .u64 p.q.r.ts, .int .i64 p.q.r.dc, .int .i64 p.q.r.tx, .slice p.q.D p.q.r.vers.length p.q.c, .int .u64 p.t] 43)).cell? ⟨wr.heap.size, 4, none⟩ = some (.int .i64 p.q.r.tx) := cell_of_row _ _ 4 _ _ _ (heap_alloc_new wr _)
                have z5 : (wr.alloc (.cells #[.int .i64 p.kind, .int .i64 p.pl, .int .u64 p.q.r.ts, .int .i64 p.q.r.dc, .int .i64 p.q.r.tx, .slice p.q.D p.q.r.vers.length p.q.c, .int .u64 p.t] 43)).cell? ⟨wr.heap.size, 5, none⟩ = some (.slice p.q.D p.q.r.vers.length p.q.c) := cell_of_row _ _ 5 _ _ _ (heap_alloc_new wr _)
                have z6 : (wr.alloc (.cells #[.int .i64 p.kind, .int .i64 p.pl, .int .u64 p.q.r.ts, .int .i64 p.q.r.dc, .int .i64 p.q.r.tx, .slice p.q.D p.q.r.vers.length p.q.c, .int .u64 p.t] 43)).cell? ⟨wr.heap.size, 6, none⟩ = some (.int .u64 p.t) := cell_of_row _ _ 6 _ _ _ (heap_alloc_new wr _)
                have hQB : BoxAt (wr.alloc (.cells #[.int .i64 p.kind, .int .i64 p.pl, .int .u64 p.q.r.ts, .int .i64 p.q.r.dc, .int .i64 p.q.r.tx, .slice p.q.D p.q.r.vers.length p.q.c, .int .u64 p.t] 43)) B b m vl' vd' L' x' := hBi.on (own_alloc (own_refl _) _)
                have hQ : ∀ n, BoxAt ((wr.alloc (.cells #[.int .i64 p.kind, .int .i64 p.pl, .int .u64 p.q.r.ts, .int .i64 p.q.r.dc, .int .i64 p.q.r.tx, .slice p.q.D p.q.r.vers.length p.q.c, .int .u64 p.t] 43)).drewN n) B b m vl' vd' L' x' := fun n => hQB.turn (S := none') ((Turns.refl _ _).drewN n) (fun _ _ => id) (fun _ _ => id)
                have HQ := Lib.hid hQ
                have HQB := Lib.hid hQB
                clear hQ hQB hBi p0 p1 p2 p3 p4 p5 p6 hp
                cases hsj : saysB l x' j with
                | true =>
                  rw [hsj, Bool.true_or] at hs
                  have HS := Lib.hid hs
                  clear hs hsj
                  go_wp2_with fail
                  go_quiet (fail)
                  go_wp2
                  go_roundw
                  case rel => exact ⟨j + 1, by omega, by go_num, congrArg Value.bool (by rw [HS.out]), own_drewN (own_alloc hwi _) _, HQB.out.turn (S := none') ((Turns.refl _ _).drewN _) (fun _ _ => id) (fun _ _ => id)⟩
                  case measure => simp [intOf]; omega
                | false =>
                  by_cases c1 : p.kind = 3
                  · have d1 : (p.kind == 3) = true := by simpa using c1
                    by_cases c2 : p.t = (x').got
                    · have d2 : (p.t == (x').got) = true := by simpa using c2
                      by_cases c3 : p.pl ≤ (x').base
                      · have d3 : decide (p.pl ≤ (x').base) = true := by simpa using c3
                        have HS : Hid (saysB l x' (j + 1) = true) := Lib.hid (by rw [hs, hsj]; simp [saysO, *])
                        clear hs hsj c1 c2
                        go_wp2_with fail
                        go_quiet (((go_at_call 17; exact Calls.quiet_of_same ((applied_any _ B b m _ _ _ _ (HQ.out _)).mono fun e w' h => ⟨h.1, h.2.symm⟩))))
                        go_wp2
                        go_roundw
                        case rel => exact ⟨j + 1, by omega, by go_num, congrArg Value.bool (by rw [HS.out]), own_drewN (own_alloc hwi _) _, HQB.out.turn (S := none') ((Turns.refl _ _).drewN _) (fun _ _ => id) (fun _ _ => id)⟩
                        case measure => simp [intOf]; omega
                      · have d3 : decide (p.pl ≤ (x').base) = false := by simpa using c3
                        have HS : Hid (saysB l x' (j + 1) = false) := Lib.hid (by rw [hs, hsj]; simp [saysO, *])
                        clear hs hsj c1 c2
                        go_wp2_with fail
                        go_quiet (((go_at_call 17; exact Calls.quiet_of_same ((applied_any _ B b m _ _ _ _ (HQ.out _)).mono fun e w' h => ⟨h.1, h.2.symm⟩))))
                        go_wp2
                        go_roundw
                        case rel => exact ⟨j + 1, by omega, by go_num, congrArg Value.bool (by rw [HS.out]), own_drewN (own_alloc hwi _) _, HQB.out.turn (S := none') ((Turns.refl _ _).drewN _) (fun _ _ => id) (fun _ _ => id)⟩
                        case measure => simp [intOf]; omega
                    · have d2 : (p.t == (x').got) = false := by simpa using c2
                      have HS : Hid (saysB l x' (j + 1) = false) := Lib.hid (by rw [hs, hsj]; simp [saysO, *])
                      clear hs hsj c1 c2
                      go_wp2_with fail
                      go_quiet (fail)
                      go_wp2
                      go_roundw
                      case rel => exact ⟨j + 1, by omega, by go_num, congrArg Value.bool (by rw [HS.out]), own_drewN (own_alloc hwi _) _, HQB.out.turn (S := none') ((Turns.refl _ _).drewN _) (fun _ _ => id) (fun _ _ => id)⟩
                      case measure => simp [intOf]; omega
                  · have d1 : (p.kind == 3) = false := by simpa using c1
                    have HS : Hid (saysB l x' (j + 1) = false) := Lib.hid (by rw [hs, hsj]; simp [saysO, *])
                    clear hs hsj c1
                    go_wp2_with fail
                    go_quiet (fail)
                    go_wp2
                    go_roundw
                    case rel => exact ⟨j + 1, by omega, by go_num, congrArg Value.bool (by rw [HS.out]), own_drewN (own_alloc hwi _) _, HQB.out.turn (S := none') ((Turns.refl _ _).drewN _) (fun _ _ => id) (fun _ _ => id)⟩
                    case measure => simp [intOf]; omega
              · obtain rfl : j = k + 1 := by omega
                rw [saysB_all HO.out]
                have gm : ¬ (x').got < x.got := by omega
                go_wp2
                go_roundw
                case rel => exact ⟨k + 1, x', vl', vd', L', by omega, by omega, by go_num, rfl, HF.out, HO.out, hBi, HL.out, hwi⟩
                case measure => simp [intOf]; omega
          · have e2 : (o.kind == 2) = false := by simpa using k2
            by_cases k3 : o.kind = 3
            · have e3 : (o.kind == 3) = true := by simpa using k3
              have K3 := Lib.hid k3
              clear k0 k1 k2 k3
              have hwa := hw.wa
              have hwt := hw.wt
              have hwr := hw.a
              have hl1000 : x.hearts.length ≤ 1000 := by have := hF.hn; omega
              go_wp2_with fail
              refine (heart_step _ B b m vl vd L x hBa hl1000 o.t o.pl hwt hwa).mono ?_
              rintro e w3 ⟨vl', vd', L', x', hP, hB', hT, hO'⟩
              have eFine := Fine.heart hF (by omega) hw.t hw.a hP
              obtain ⟨eBel, eMono⟩ := Bel.heart hO ho K3.out hw.t.1 hP
              have hBl2 : B ≤ (wr.alloc (.cells #[.int .i64 o.kind, .int .i64 o.pl, .int .u64 o.q.r.ts, .int .i64 o.q.r.dc, .int .i64 o.q.r.tx, .slice o.q.D o.q.r.vers.length o.q.c, .int .u64 o.t] 43)).heap.size := Nat.le_trans hBle hba.size
              have hb3 : Below w.heap.size w w3 := hT.below hba (fun j hj => Nat.le_trans hBB' (hlow j hj))
              obtain ⟨rfl, -⟩ := id hP
              clear hP
              have eF : Fine x' (k + 1) := eFine
              have eO : Bel l (k + 1) x' := eBel
              have eM : x.got ≤ (x').got := eMono
              have eB : BoxAt w3 B b m vl' vd' L' x' := hB'
              have eL : ∀ g, boxS b m vl' vd' g → B ≤ g := boxS_low hO' hBl2 hlow
              have eW : Below w.heap.size w w3 := hb3
              have HF := Lib.hid eF
              have HO := Lib.hid eO
              have HL := Lib.hid eL
              have eg0 := eF.ok.g0
              have eg1 := eF.ok.g1
              clear eF eO eL eFine eBel eMono hT hO' hBl2 hB' hb3
              go_wp2_with (go_at_call 26; (with_reducible refine (got_any _ B b m _ _ _ _ eB).mono ?_); rintro e w9 ⟨rfl, rfl⟩)
              go_loopw [10, 71] (fun s i wi => ∃ j : Nat, j ≤ k + 1 ∧ i = .int .i64 j ∧ s = .bool (saysB l x' j) ∧ Below w.heap.size w wi ∧ BoxAt wi B b m vl' vd' L' x') (fun _ i _ => k + 1 - (intOf i).toNat)
              case atStart => exact ⟨0, Nat.zero_le _, rfl, congrArg Value.bool (by simp [saysB]), eW, eB⟩
              case round =>
                obtain ⟨j, hj, rfl, rfl, hwi, hBi⟩ := hrel
                clear eB eW
                by_cases hjk : j < k + 1
                · skip
                  obtain ⟨p, hp⟩ : ∃ p, l[j]? = some p := ⟨_, List.getElem?_eq_getElem (by omega)⟩
                  obtain ⟨ab2, off2, eab, p0, p1, p2, p3, p4, p5, p6⟩ := hA.ob hp
                  obtain ⟨rfl, rfl⟩ : ab = ab2 ∧ off = off2 := by injection eab with e; injection e with e1 e2; exact ⟨e1, e2⟩
                  have p0' := cell_on hwi p0
                  have p1' := cell_on hwi p1
                  have p2' := cell_on hwi p2
                  have p3' := cell_on hwi p3
                  have p4' := cell_on hwi p4
                  have p5' := cell_on hwi p5
                  have p6' := cell_on hwi p6
                  have hs := saysB_succ (x := x') hp
                  have q3 : (0 : Int) ≤ (j : Int) := by omega
                  have q4 : (j : Int) < (k : Int) + 1 := by omega
                  have q5 : (j : Int) + 1 ≤ 9223372036854775807 := by omega
                  have z0 : (wr.alloc (.cells #[.int .i64 p.kind, .int .i64 p.pl, .int .u64 p.q.r.ts, .int .i64 p.q.r.dc, .int .i64 p.q.r.tx, .slice p.q.D p.q.r.vers.length p.q.c, .int .u64 p.t] 43)).cell? ⟨wr.heap.size, 0, none⟩ = some (.int .i64 p.kind) := cell_of_row _ _ 0 _ _ _ (heap_alloc_new wr _)
                  have z1 : (wr.alloc (.cells #[.int .i64 p.kind, .int .i64 p.pl, .int .u64 p.q.r.ts, .int .i64 p.q.r.dc, .int .i64 p.q.r.tx, .slice p.q.D p.q.r.vers.length p.q.c, .int .u64 p.t] 43)).cell? ⟨wr.heap.size, 1, none⟩ = some (.int .i64 p.pl) := cell_of_row _ _ 1 _ _ _ (heap_alloc_new wr _)
                  have z2 : (wr.alloc (.cells #[.int .i64 p.kind, .int .i64 p.pl, .int .u64 p.q.r.ts, .int .i64 p.q.r.dc, .int .i64 p.q.r.tx, .slice p.q.D p.q.r.vers.length p.q.c, .int .u64 p.t] 43)).cell? ⟨wr.heap.size, 2, none⟩ = some (.int .u64 p.q.r.ts) := cell_of_row _ _ 2 _ _ _ (heap_alloc_new wr _)
                  have z3 : (wr.alloc (.cells #[.int .i64 p.kind, .int .i64 p.pl, .int .u64 p.q.r.ts, .int .i64 p.q.r.dc, .int .i64 p.q.r.tx, .slice p.q.D p.q.r.vers.length p.q.c, .int .u64 p.t] 43)).cell? ⟨wr.heap.size, 3, none⟩ = some (.int .i64 p.q.r.dc) := cell_of_row _ _ 3 _ _ _ (heap_alloc_new wr _)
                  have z4 : (wr.alloc (.cells #[.int .i64 p.kind, .int .i64 p.pl, .int .u64 p.q.r.ts, .int .i64 p.q.r.dc, .int .i64 p.q.r.tx, .slice p.q.D p.q.r.vers.length p.q.c, .int .u64 p.t] 43)).cell? ⟨wr.heap.size, 4, none⟩ = some (.int .i64 p.q.r.tx) := cell_of_row _ _ 4 _ _ _ (heap_alloc_new wr _)
                  have z5 : (wr.alloc (.cells #[.int .i64 p.kind, .int .i64 p.pl, .int .u64 p.q.r.ts, .int .i64 p.q.r.dc, .int .i64 p.q.r.tx, .slice p.q.D p.q.r.vers.length p.q.c, .int .u64 p.t] 43)).cell? ⟨wr.heap.size, 5, none⟩ = some (.slice p.q.D p.q.r.vers.length p.q.c) := cell_of_row _ _ 5 _ _ _ (heap_alloc_new wr _)
                  have z6 : (wr.alloc (.cells #[.int .i64 p.kind, .int .i64 p.pl, .int .u64 p.q.r.ts, .int .i64 p.q.r.dc, .int .i64 p.q.r.tx, .slice p.q.D p.q.r.vers.length p.q.c, .int .u64 p.t] 43)).cell? ⟨wr.heap.size, 6, none⟩ = some (.int .u64 p.t) := cell_of_row _ _ 6 _ _ _ (heap_alloc_new wr _)
                  have hQB : BoxAt (wr.alloc (.cells #[.int .i64 p.kind, .int .i64 p.pl, .int .u64 p.q.r.ts, .int .i64 p.q.r.dc, .int .i64 p.q.r.tx, .slice p.q.D p.q.r.vers.length p.q.c, .int .u64 p.t] 43)) B b m vl' vd' L' x' := hBi.on (own_alloc (own_refl _) _)
                  have hQ : ∀ n, BoxAt ((wr.alloc (.cells #[.int .i64 p.kind, .int .i64 p.pl, .int .u64 p.q.r.ts, .int .i64 p.q.r.dc, .int .i64 p.q.r.tx, .slice p.q.D p.q.r.vers.length p.q.c, .int .u64 p.t] 43)).drewN n) B b m vl' vd' L' x' := fun n => hQB.turn (S := none') ((Turns.refl _ _).drewN n) (fun _ _ => id) (fun _ _ => id)
                  have HQ := Lib.hid hQ
                  have HQB := Lib.hid hQB
                  clear hQ hQB hBi p0 p1 p2 p3 p4 p5 p6 hp
                  cases hsj : saysB l x' j with
                  | true =>
                    rw [hsj, Bool.true_or] at hs
                    have HS := Lib.hid hs
                    clear hs hsj
                    go_wp2_with fail
                    go_quiet (fail)
                    go_wp2
                    go_roundw
                    case rel => exact ⟨j + 1, by omega, by go_num, congrArg Value.bool (by rw [HS.out]), own_drewN (own_alloc hwi _) _, HQB.out.turn (S := none') ((Turns.refl _ _).drewN _) (fun _ _ => id) (fun _ _ => id)⟩
                    case measure => simp [intOf]; omega
                  | false =>
                    by_cases c1 : p.kind = 3
                    · have d1 : (p.kind == 3) = true := by simpa using c1
                      by_cases c2 : p.t = (x').got
                      · have d2 : (p.t == (x').got) = true := by simpa using c2
                        by_cases c3 : p.pl ≤ (x').base
                        · have d3 : decide (p.pl ≤ (x').base) = true := by simpa using c3
                          have HS : Hid (saysB l x' (j + 1) = true) := Lib.hid (by rw [hs, hsj]; simp [saysO, *])
                          clear hs hsj c1 c2
                          go_wp2_with fail
                          go_quiet (((go_at_call 17; exact Calls.quiet_of_same ((applied_any _ B b m _ _ _ _ (HQ.out _)).mono fun e w' h => ⟨h.1, h.2.symm⟩))))
                          go_wp2
                          go_roundw
                          case rel => exact ⟨j + 1, by omega, by go_num, congrArg Value.bool (by rw [HS.out]), own_drewN (own_alloc hwi _) _, HQB.out.turn (S := none') ((Turns.refl _ _).drewN _) (fun _ _ => id) (fun _ _ => id)⟩
                          case measure => simp [intOf]; omega
                        · have d3 : decide (p.pl ≤ (x').base) = false := by simpa using c3
                          have HS : Hid (saysB l x' (j + 1) = false) := Lib.hid (by rw [hs, hsj]; simp [saysO, *])
                          clear hs hsj c1 c2
                          go_wp2_with fail
                          go_quiet (((go_at_call 17; exact Calls.quiet_of_same ((applied_any _ B b m _ _ _ _ (HQ.out _)).mono fun e w' h => ⟨h.1, h.2.symm⟩))))
                          go_wp2
                          go_roundw
                          case rel => exact ⟨j + 1, by omega, by go_num, congrArg Value.bool (by rw [HS.out]), own_drewN (own_alloc hwi _) _, HQB.out.turn (S := none') ((Turns.refl _ _).drewN _) (fun _ _ => id) (fun _ _ => id)⟩
                          case measure => simp [intOf]; omega
                      · have d2 : (p.t == (x').got) = false := by simpa using c2
                        have HS : Hid (saysB l x' (j + 1) = false) := Lib.hid (by rw [hs, hsj]; simp [saysO, *])
                        clear hs hsj c1 c2
                        go_wp2_with fail
                        go_quiet (fail)
                        go_wp2
                        go_roundw
                        case rel => exact ⟨j + 1, by omega, by go_num, congrArg Value.bool (by rw [HS.out]), own_drewN (own_alloc hwi _) _, HQB.out.turn (S := none') ((Turns.refl _ _).drewN _) (fun _ _ => id) (fun _ _ => id)⟩
                        case measure => simp [intOf]; omega
                    · have d1 : (p.kind == 3) = false := by simpa using c1
                      have HS : Hid (saysB l x' (j + 1) = false) := Lib.hid (by rw [hs, hsj]; simp [saysO, *])
                      clear hs hsj c1
                      go_wp2_with fail
                      go_quiet (fail)
                      go_wp2
                      go_roundw
                      case rel => exact ⟨j + 1, by omega, by go_num, congrArg Value.bool (by rw [HS.out]), own_drewN (own_alloc hwi _) _, HQB.out.turn (S := none') ((Turns.refl _ _).drewN _) (fun _ _ => id) (fun _ _ => id)⟩
                      case measure => simp [intOf]; omega
                · obtain rfl : j = k + 1 := by omega
                  rw [saysB_all HO.out]
                  have gm : ¬ (x').got < x.got := by omega
                  go_wp2
                  go_roundw
                  case rel => exact ⟨k + 1, x', vl', vd', L', by omega, by omega, by go_num, rfl, HF.out, HO.out, hBi, HL.out, hwi⟩
                  case measure => simp [intOf]; omega
            · have e3 : (o.kind == 3) = false := by simpa using k3
              clear k0 k1 k2 k3
              have eF : Fine x (k + 1) := hF.more
              have eO : Bel l (k + 1) x := hO.keep rfl rfl (Int.le_refl _)
              have eM : x.got ≤ (x).got := Int.le_refl _
              have eB : BoxAt (wr.alloc (.cells #[.int .i64 o.kind, .int .i64 o.pl, .int .u64 o.q.r.ts, .int .i64 o.q.r.dc, .int .i64 o.q.r.tx, .slice o.q.D o.q.r.vers.length o.q.c, .int .u64 o.t] 43)) B b m vl vd L x := hBa
              have eL : ∀ g, boxS b m vl vd g → B ≤ g := hlow
              have eW : Below w.heap.size w (wr.alloc (.cells #[.int .i64 o.kind, .int .i64 o.pl, .int .u64 o.q.r.ts, .int .i64 o.q.r.dc, .int .i64 o.q.r.tx, .slice o.q.D o.q.r.vers.length o.q.c, .int .u64 o.t] 43)) := hba
              have HF := Lib.hid eF
              have HO := Lib.hid eO
              have HL := Lib.hid eL
              have eg0 := eF.ok.g0
              have eg1 := eF.ok.g1
              clear eF eO eL
              go_wp2_with (go_at_call 26; (with_reducible refine (got_any _ B b m _ _ _ _ eB).mono ?_); rintro e w9 ⟨rfl, rfl⟩)
              go_loopw [10, 71] (fun s i wi => ∃ j : Nat, j ≤ k + 1 ∧ i = .int .i64 j ∧ s = .bool (saysB l x j) ∧ Below w.heap.size w wi ∧ BoxAt wi B b m vl vd L x) (fun _ i _ => k + 1 - (intOf i).toNat)
              case atStart => exact ⟨0, Nat.zero_le _, rfl, congrArg Value.bool (by simp [saysB]), eW, eB⟩
              case round =>
                obtain ⟨j, hj, rfl, rfl, hwi, hBi⟩ := hrel
                clear eB eW
                by_cases hjk : j < k + 1
                · skip
                  obtain ⟨p, hp⟩ : ∃ p, l[j]? = some p := ⟨_, List.getElem?_eq_getElem (by omega)⟩
                  obtain ⟨ab2, off2, eab, p0, p1, p2, p3, p4, p5, p6⟩ := hA.ob hp
                  obtain ⟨rfl, rfl⟩ : ab = ab2 ∧ off = off2 := by injection eab with e; injection e with e1 e2; exact ⟨e1, e2⟩
                  have p0' := cell_on hwi p0
                  have p1' := cell_on hwi p1
                  have p2' := cell_on hwi p2
                  have p3' := cell_on hwi p3
                  have p4' := cell_on hwi p4
                  have p5' := cell_on hwi p5
                  have p6' := cell_on hwi p6
                  have hs := saysB_succ (x := x) hp
                  have q3 : (0 : Int) ≤ (j : Int) := by omega
                  have q4 : (j : Int) < (k : Int) + 1 := by omega
                  have q5 : (j : Int) + 1 ≤ 9223372036854775807 := by omega
                  have z0 : (wr.alloc (.cells #[.int .i64 p.kind, .int .i64 p.pl, .int .u64 p.q.r.ts, .int .i64 p.q.r.dc, .int .i64 p.q.r.tx, .slice p.q.D p.q.r.vers.length p.q.c, .int .u64 p.t] 43)).cell? ⟨wr.heap.size, 0, none⟩ = some (.int .i64 p.kind) := cell_of_row _ _ 0 _ _ _ (heap_alloc_new wr _)
                  have z1 : (wr.alloc (.cells #[.int .i64 p.kind, .int .i64 p.pl, .int .u64 p.q.r.ts, .int .i64 p.q.r.dc, .int .i64 p.q.r.tx, .slice p.q.D p.q.r.vers.length p.q.c, .int .u64 p.t] 43)).cell? ⟨wr.heap.size, 1, none⟩ = some (.int .i64 p.pl) := cell_of_row _ _ 1 _ _ _ (heap_alloc_new wr _)
                  have z2 : (wr.alloc (.cells #[.int .i64 p.kind, .int .i64 p.pl, .int .u64 p.q.r.ts, .int .i64 p.q.r.dc, .int .i64 p.q.r.tx, .slice p.q.D p.q.r.vers.length p.q.c, .int .u64 p.t] 43)).cell? ⟨wr.heap.size, 2, none⟩ = some (.int .u64 p.q.r.ts) := cell_of_row _ _ 2 _ _ _ (heap_alloc_new wr _)
                  have z3 : (wr.alloc (.cells #[.int .i64 p.kind, .int .i64 p.pl, .int .u64 p.q.r.ts, .int .i64 p.q.r.dc, .int .i64 p.q.r.tx, .slice p.q.D p.q.r.vers.length p.q.c, .int .u64 p.t] 43)).cell? ⟨wr.heap.size, 3, none⟩ = some (.int .i64 p.q.r.dc) := cell_of_row _ _ 3 _ _ _ (heap_alloc_new wr _)
                  have z4 : (wr.alloc (.cells #[.int .i64 p.kind, .int .i64 p.pl, .int .u64 p.q.r.ts, .int .i64 p.q.r.dc, .int .i64 p.q.r.tx, .slice p.q.D p.q.r.vers.length p.q.c, .int .u64 p.t] 43)).cell? ⟨wr.heap.size, 4, none⟩ = some (.int .i64 p.q.r.tx) := cell_of_row _ _ 4 _ _ _ (heap_alloc_new wr _)
                  have z5 : (wr.alloc (.cells #[.int .i64 p.kind, .int .i64 p.pl, .int .u64 p.q.r.ts, .int .i64 p.q.r.dc, .int .i64 p.q.r.tx, .slice p.q.D p.q.r.vers.length p.q.c, .int .u64 p.t] 43)).cell? ⟨wr.heap.size, 5, none⟩ = some (.slice p.q.D p.q.r.vers.length p.q.c) := cell_of_row _ _ 5 _ _ _ (heap_alloc_new wr _)
                  have z6 : (wr.alloc (.cells #[.int .i64 p.kind, .int .i64 p.pl, .int .u64 p.q.r.ts, .int .i64 p.q.r.dc, .int .i64 p.q.r.tx, .slice p.q.D p.q.r.vers.length p.q.c, .int .u64 p.t] 43)).cell? ⟨wr.heap.size, 6, none⟩ = some (.int .u64 p.t) := cell_of_row _ _ 6 _ _ _ (heap_alloc_new wr _)
                  have hQB : BoxAt (wr.alloc (.cells #[.int .i64 p.kind, .int .i64 p.pl, .int .u64 p.q.r.ts, .int .i64 p.q.r.dc, .int .i64 p.q.r.tx, .slice p.q.D p.q.r.vers.length p.q.c, .int .u64 p.t] 43)) B b m vl vd L x := hBi.on (own_alloc (own_refl _) _)
                  have hQ : ∀ n, BoxAt ((wr.alloc (.cells #[.int .i64 p.kind, .int .i64 p.pl, .int .u64 p.q.r.ts, .int .i64 p.q.r.dc, .int .i64 p.q.r.tx, .slice p.q.D p.q.r.vers.length p.q.c, .int .u64 p.t] 43)).drewN n) B b m vl vd L x := fun n => hQB.turn (S := none') ((Turns.refl _ _).drewN n) (fun _ _ => id) (fun _ _ => id)
                  have HQ := Lib.hid hQ
                  have HQB := Lib.hid hQB
                  clear hQ hQB hBi p0 p1 p2 p3 p4 p5 p6 hp
                  cases hsj : saysB l x j with
                  | true =>
                    rw [hsj, Bool.true_or] at hs
                    have HS := Lib.hid hs
                    clear hs hsj
                    go_wp2_with fail
                    go_quiet (fail)
                    go_wp2
                    go_roundw
                    case rel => exact ⟨j + 1, by omega, by go_num, congrArg Value.bool (by rw [HS.out]), own_drewN (own_alloc hwi _) _, HQB.out.turn (S := none') ((Turns.refl _ _).drewN _) (fun _ _ => id) (fun _ _ => id)⟩
                    case measure => simp [intOf]; omega
                  | false =>
                    by_cases c1 : p.kind = 3
                    · have d1 : (p.kind == 3) = true := by simpa using c1
                      by_cases c2 : p.t = (x).got
                      · have d2 : (p.t == (x).got) = true := by simpa using c2
                        by_cases c3 : p.pl ≤ (x).base
                        · have d3 : decide (p.pl ≤ (x).base) = true := by simpa using c3
                          have HS : Hid (saysB l x (j + 1) = true) := Lib.hid (by rw [hs, hsj]; simp [saysO, *])
                          clear hs hsj c1 c2
                          go_wp2_with fail
                          go_quiet (((go_at_call 17; exact Calls.quiet_of_same ((applied_any _ B b m _ _ _ _ (HQ.out _)).mono fun e w' h => ⟨h.1, h.2.symm⟩))))
                          go_wp2
                          go_roundw
                          case rel => exact ⟨j + 1, by omega, by go_num, congrArg Value.bool (by rw [HS.out]), own_drewN (own_alloc hwi _) _, HQB.out.turn (S := none') ((Turns.refl _ _).drewN _) (fun _ _ => id) (fun _ _ => id)⟩
                          case measure => simp [intOf]; omega
                        · have d3 : decide (p.pl ≤ (x).base) = false := by simpa using c3
                          have HS : Hid (saysB l x (j + 1) = false) := Lib.hid (by rw [hs, hsj]; simp [saysO, *])
                          clear hs hsj c1 c2
                          go_wp2_with fail
                          go_quiet (((go_at_call 17; exact Calls.quiet_of_same ((applied_any _ B b m _ _ _ _ (HQ.out _)).mono fun e w' h => ⟨h.1, h.2.symm⟩))))
                          go_wp2
                          go_roundw
                          case rel => exact ⟨j + 1, by omega, by go_num, congrArg Value.bool (by rw [HS.out]), own_drewN (own_alloc hwi _) _, HQB.out.turn (S := none') ((Turns.refl _ _).drewN _) (fun _ _ => id) (fun _ _ => id)⟩
                          case measure => simp [intOf]; omega
                      · have d2 : (p.t == (x).got) = false := by simpa using c2
                        have HS : Hid (saysB l x (j + 1) = false) := Lib.hid (by rw [hs, hsj]; simp [saysO, *])
                        clear hs hsj c1 c2
                        go_wp2_with fail
                        go_quiet (fail)
                        go_wp2
                        go_roundw
                        case rel => exact ⟨j + 1, by omega, by go_num, congrArg Value.bool (by rw [HS.out]), own_drewN (own_alloc hwi _) _, HQB.out.turn (S := none') ((Turns.refl _ _).drewN _) (fun _ _ => id) (fun _ _ => id)⟩
                        case measure => simp [intOf]; omega
                    · have d1 : (p.kind == 3) = false := by simpa using c1
                      have HS : Hid (saysB l x (j + 1) = false) := Lib.hid (by rw [hs, hsj]; simp [saysO, *])
                      clear hs hsj c1
                      go_wp2_with fail
                      go_quiet (fail)
                      go_wp2
                      go_roundw
                      case rel => exact ⟨j + 1, by omega, by go_num, congrArg Value.bool (by rw [HS.out]), own_drewN (own_alloc hwi _) _, HQB.out.turn (S := none') ((Turns.refl _ _).drewN _) (fun _ _ => id) (fun _ _ => id)⟩
                      case measure => simp [intOf]; omega
                · obtain rfl : j = k + 1 := by omega
                  rw [saysB_all HO.out]
                  have gm : ¬ (x).got < x.got := by omega
                  go_wp2
                  go_roundw
                  case rel => exact ⟨k + 1, x, vl, vd, L, by omega, by omega, by go_num, rfl, HF.out, HO.out, hBi, HL.out, hwi⟩
                  case measure => simp [intOf]; omega
    · have hke : k = n ∨ k = 100 := by omega
      by_cases hkn : k < n
      · have hd : decide ((k : Int) < 100) = false := by simp; omega
        have hd2 : (k : Int) < (n : Int) := by omega
        have hd3 : ¬ (k : Int) < 100 := by omega
        clear hke hlt
        go_wp2_with (go_at_call 14; refine (awake_any _).mono ?_; rintro e w9 ⟨rfl, hb9⟩)
        go_ret
        exact ⟨rfl, below_own hbel hb9⟩
      · have hd3 : ¬ (k : Int) < (n : Int) := by omega
        clear hke hlt
        go_wp2_with (go_at_call 14; refine (awake_any _).mono ?_; rintro e w9 ⟨rfl, hb9⟩)
        go_ret
        exact ⟨rfl, below_own hbel hb9⟩
end Go.Proofs.Ytneglecglkibfaa.lawInboxBelow
