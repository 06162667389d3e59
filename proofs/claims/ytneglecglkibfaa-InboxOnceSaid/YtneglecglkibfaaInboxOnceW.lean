/-
  The walk of the law InboxOnce: whatever data come in, the call returns true and leaves what was there. Conditions: the arguments' cells lie as the hypotheses say.
-/
import Derived.Test.YtneglecglkibfaaOnceP
import Derived.Test.YtneglecglkibfaaSetB
import Derived.Test.YtneglecglkibfaaOpBox
import Derived.Test.YtneglecglkibfaaAwakeI
import Derived.Deep.RegionHeld3
namespace Go.Proofs.Ytneglecglkibfaa.lawInboxOnce
open Go.RowKit Go.Maps
set_option linter.unusedVariables false

/-- what an answer of Put is. -/
theorem putR_form {x x' : Bx} {at' : Int} {r : R} {e : Ending} {w' : World} (h : PutR x at' r e w' x') : ∃ er : Int, e = .returned (.int .i64 er) := by
  rcases h with ⟨_, rfl, _⟩ | ⟨_, rfl, _⟩ | ⟨_, rfl, _⟩ <;> exact ⟨_, rfl⟩
theorem setB_mono {w : World} {b n : Nat} {S : Int → Bool} (h : SetB w b n S) : SetB w b (n + 1) S := by
  obtain ⟨D, h1, h2⟩ := h
  exact ⟨D, h1.mono (Nat.le_succ n), h2⟩
theorem boxS_new {S T : Nat → Prop} {N g : Nat} (h : ∀ g, g < N → T g → S g) (hg : g < N) (hn : ¬ S g) : ¬ T g := fun e => hn (h g hg e)
theorem boxS_low {S T : Nat → Prop} {N M : Nat} (h : ∀ g, g < N → T g → S g) (hM : M ≤ N) (hl : ∀ g, S g → M ≤ g) : ∀ g, T g → M ≤ g := fun g e => (Nat.lt_or_ge g N).elim (fun c => hl g (h g c e)) (fun c => Nat.le_trans hM c)
set_option maxRecDepth 100000 in
set_option maxHeartbeats 4000000 in
theorem walk (a : Int) (A : Option Addr) (n c : Nat) (l : List OB) (w : World) (hn : l.length = n) (hm : n ≤ 9223372036854775807) (hA : Cells w A (flatOB l)) (wA : ∀ x ∈ l, x.wf w) :
    Calls Try.prog 4 #[.int .i64 a, .slice A n c] w fun e w' => e = .returned (.bool true) ∧ Below w.heap.size w w' := by
  obtain ⟨z, hz⟩ : ∃ z : Int, (if (1152921504606846976 : Int) < a then 1152921504606846976 else a) = z := ⟨_, rfl⟩
  have hz1 : z ≤ 1152921504606846976 := by rw [← hz]; split <;> omega
  obtain ⟨f, hf⟩ : ∃ f : Int, (if z < 0 then 0 else z) = f := ⟨_, rfl⟩
  have hmf : max z 0 = f := by rw [← hf]; split <;> omega
  have HMF := Lib.hid hmf
  have hmm := @run_makeMap Try.prog
  clear hmf
  obtain ⟨B, hBe⟩ : ∃ B, w.heap.size = B := ⟨_, rfl⟩
  have hBB : B ≤ w.heap.size := Nat.le_of_eq hBe.symm
  have hBB' : w.heap.size ≤ B := Nat.le_of_eq hBe
  go_enter Try.func4, Try.ntmps4
  go_wp2_with (go_at_call 8; refine (new_any _ _ hz1).mono ?_; rintro e w1 ⟨b, m, rfl, hb, hm', hB0, hb1⟩)
  rw [hBe] at hB0
  clear hz hf hBe hmm
  obtain ⟨md, hmd⟩ : ∃ md, w1.heap.size = md := ⟨_, rfl⟩
  have hmd1 : B ≤ md := by have := hb1.size; omega
  have hmd2 : ¬ boxS b m (.slice none 0 0) (.slice none 0 0) md := by
    have h1 := hB0.blt
    have h2 := hB0.hm.lt
    rintro (e | e | e | e)
    · omega
    · omega
    · cases e
    · cases e
  have hlow0 : ∀ g, boxS b m (.slice none 0 0) (.slice none 0 0) g → B ≤ g := by
    rintro g (e | e | e | e)
    · omega
    · omega
    · cases e
    · cases e
  have hS0 := SetB.made w1
  rw [hmd] at hS0
  rw [hmd]
  have HMD := Lib.hid hmd
  clear hmd
  go_loopw [7, 8, 10] (fun vc vh i wr => ∃ (k : Nat) (x : Bx) (vl vd : Value) (L : List Q) (S : Int → Bool), k ≤ n ∧ k ≤ 120 ∧ i = .int .i64 k ∧ vc = .int .i64 (x.base + x.list.length) ∧ vh = .int .i64 (x.base + x.handed) ∧ Fine x k ∧ Once x f S ∧ BoxAt wr B b m vl vd L x ∧ SetB wr md k S ∧ ¬ boxS b m vl vd md ∧ (∀ g, boxS b m vl vd g → B ≤ g) ∧ Below w.heap.size w wr) (fun _ _ i _ => n - (intOf i).toNat)
  case atStart => exact ⟨0, box0 z, _, _, [], _, Nat.zero_le _, by omega, rfl, congrArg (Value.int .i64) (by rw [← HMF.out]; simp [box0]), congrArg (Value.int .i64) (by rw [← HMF.out]; simp [box0]), Fine.new z hz1, HMF.out ▸ Once.new z, hB0.on (own_alloc (own_refl _) _), hS0, hmd2, hlow0, own_alloc hb1 _⟩
  case round =>
    obtain ⟨k, x, vl, vd, L, S, hk, hk120, rfl, rfl, rfl, hF, hO, hB, hS, hnmd, hlow, hbel⟩ := hrel
    by_cases hlt : k < n ∧ k < 120
    · obtain ⟨hlt, hlt120⟩ := hlt
      obtain ⟨o, ho⟩ : ∃ o, l[k]? = some o := ⟨_, List.getElem?_eq_getElem (by omega)⟩
      obtain ⟨ab, off, rfl, x0, x1, x2, x3, x4, x5, x6⟩ := hA.ob ho
      have x0' := cell_on hbel x0
      have x1' := cell_on hbel x1
      have x2' := cell_on hbel x2
      have x3' := cell_on hbel x3
      have x4' := cell_on hbel x4
      have x5' := cell_on hbel x5
      have x6' := cell_on hbel x6
      have hw := wA o (List.mem_of_getElem? ho)
      have g3 : (0 : Int) ≤ (k : Int) := by omega
      have g4 : (k : Int) < (n : Int) := by omega
      have g5 : (k : Int) < 120 := by omega
      have hBle : B ≤ w.heap.size := hBB
      have hBa : BoxAt (wr.alloc (.cells #[.int .i64 o.kind, .int .i64 o.pl, .int .u64 o.q.r.ts, .int .i64 o.q.r.dc, .int .i64 o.q.r.tx, .slice o.q.D o.q.r.vers.length o.q.c, .int .u64 o.t] 43)) B b m vl vd L x := hB.on (own_alloc (own_refl _) _)
      have hSa : SetB (wr.alloc (.cells #[.int .i64 o.kind, .int .i64 o.pl, .int .u64 o.q.r.ts, .int .i64 o.q.r.dc, .int .i64 o.q.r.tx, .slice o.q.D o.q.r.vers.length o.q.c, .int .u64 o.t] 43)) md k S := hS.turn ((Turns.refl none' _).alloc _) id
      have hba : Below w.heap.size w (wr.alloc (.cells #[.int .i64 o.kind, .int .i64 o.pl, .int .u64 o.q.r.ts, .int .i64 o.q.r.dc, .int .i64 o.q.r.tx, .slice o.q.D o.q.r.vers.length o.q.c, .int .u64 o.t] 43)) := own_alloc hbel _
      have hbxw : ¬ boxS b m vl vd wr.heap.size := by
        have h0 := hB.under
        rintro (e | e | e | e)
        · have := h0.b; omega
        · have := h0.m; omega
        · have := h0.l _ e; omega
        · have := h0.d _ e; omega
      have hb0 := hF.ok.b0
      have hb1' := hF.ok.b1
      have hln := hF.ln
      have hhd := hF.ok.hd
      clear x0 x1 x2 x3 x4 x5 x6
      have y0 : (wr.alloc (.cells #[.int .i64 o.kind, .int .i64 o.pl, .int .u64 o.q.r.ts, .int .i64 o.q.r.dc, .int .i64 o.q.r.tx, .slice o.q.D o.q.r.vers.length o.q.c, .int .u64 o.t] 43)).cell? ⟨wr.heap.size, 0, none⟩ = some (.int .i64 o.kind) := cell_of_row _ _ 0 _ _ _ (heap_alloc_new wr _)
      have y1 : (wr.alloc (.cells #[.int .i64 o.kind, .int .i64 o.pl, .int .u64 o.q.r.ts, .int .i64 o.q.r.dc, .int .i64 o.q.r.tx, .slice o.q.D o.q.r.vers.length o.q.c, .int .u64 o.t] 43)).cell? ⟨wr.heap.size, 1, none⟩ = some (.int .i64 o.pl) := cell_of_row _ _ 1 _ _ _ (heap_alloc_new wr _)
      have y2 : (wr.alloc (.cells #[.int .i64 o.kind, .int .i64 o.pl, .int .u64 o.q.r.ts, .int .i64 o.q.r.dc, .int .i64 o.q.r.tx, .slice o.q.D o.q.r.vers.length o.q.c, .int .u64 o.t] 43)).cell? ⟨wr.heap.size, 2, none⟩ = some (.int .u64 o.q.r.ts) := cell_of_row _ _ 2 _ _ _ (heap_alloc_new wr _)
      have y3 : (wr.alloc (.cells #[.int .i64 o.kind, .int .i64 o.pl, .int .u64 o.q.r.ts, .int .i64 o.q.r.dc, .int .i64 o.q.r.tx, .slice o.q.D o.q.r.vers.length o.q.c, .int .u64 o.t] 43)).cell? ⟨wr.heap.size, 3, none⟩ = some (.int .i64 o.q.r.dc) := cell_of_row _ _ 3 _ _ _ (heap_alloc_new wr _)
      have y4 : (wr.alloc (.cells #[.int .i64 o.kind, .int .i64 o.pl, .int .u64 o.q.r.ts, .int .i64 o.q.r.dc, .int .i64 o.q.r.tx, .slice o.q.D o.q.r.vers.length o.q.c, .int .u64 o.t] 43)).cell? ⟨wr.heap.size, 4, none⟩ = some (.int .i64 o.q.r.tx) := cell_of_row _ _ 4 _ _ _ (heap_alloc_new wr _)
      have y5 : (wr.alloc (.cells #[.int .i64 o.kind, .int .i64 o.pl, .int .u64 o.q.r.ts, .int .i64 o.q.r.dc, .int .i64 o.q.r.tx, .slice o.q.D o.q.r.vers.length o.q.c, .int .u64 o.t] 43)).cell? ⟨wr.heap.size, 5, none⟩ = some (.slice o.q.D o.q.r.vers.length o.q.c) := cell_of_row _ _ 5 _ _ _ (heap_alloc_new wr _)
      have y6 : (wr.alloc (.cells #[.int .i64 o.kind, .int .i64 o.pl, .int .u64 o.q.r.ts, .int .i64 o.q.r.dc, .int .i64 o.q.r.tx, .slice o.q.D o.q.r.vers.length o.q.c, .int .u64 o.t] 43)).cell? ⟨wr.heap.size, 6, none⟩ = some (.int .u64 o.t) := cell_of_row _ _ 6 _ _ _ (heap_alloc_new wr _)
      clear hA wA
      by_cases k0 : o.kind = 0
      · have e0 : (o.kind == 0) = true := by simpa using k0
        clear k0
        have hq := hw.q
        obtain ⟨r', hr'⟩ : ∃ r', o.q.r.few = r' := ⟨_, rfl⟩
        have hlf : min o.q.r.vers.length 12 = r'.vers.length := by rw [← hr']; show _ = (o.q.r.vers.take 12).length; rw [List.length_take]; omega
        have hl12 : r'.vers.length ≤ 12 := hr' ▸ few_len o.q.r
        have hrt : o.q.r.ts = r'.ts ∧ o.q.r.dc = r'.dc ∧ o.q.r.tx = r'.tx := by rw [← hr']; exact ⟨rfl, rfl, rfl⟩
        have hDf : Cells w o.q.D (flatV r'.vers) := by rw [← hr']; exact Cells.takeG (cf := V.cells) hq.D 12
        have hl150 : x.list.length ≤ 150 := by omega
        have hr1000 : r'.vers.length ≤ 1000 := by omega
        have HLF := Lib.hid hlf
        have HRT := Lib.hid hrt
        clear hr' hlf hrt
        go_wp2_with fail
        go_region_held3 (fun w' => Turns (boxS b m vl vd) (wr.alloc (.cells #[.int .i64 o.kind, .int .i64 o.pl, .int .u64 o.q.r.ts, .int .i64 o.q.r.dc, .int .i64 o.q.r.tx, .slice o.q.D o.q.r.vers.length o.q.c, .int .u64 o.t] 43)) w' ∧ w'.cell? ⟨wr.heap.size, 0, none⟩ = some (.int .i64 o.kind) ∧ w'.cell? ⟨wr.heap.size, 1, none⟩ = some (.int .i64 o.pl) ∧ w'.cell? ⟨wr.heap.size, 2, none⟩ = some (.int .u64 o.q.r.ts) ∧ w'.cell? ⟨wr.heap.size, 3, none⟩ = some (.int .i64 o.q.r.dc) ∧ w'.cell? ⟨wr.heap.size, 4, none⟩ = some (.int .i64 o.q.r.tx) ∧ w'.cell? ⟨wr.heap.size, 5, none⟩ = some (.slice o.q.D o.q.r.vers.length o.q.c) ∧ w'.cell? ⟨wr.heap.size, 6, none⟩ = some (.int .u64 o.t))
          (first | (refine ⟨(Turns.refl _ _).drew, ?_, ?_, ?_, ?_, ?_, ?_, ?_⟩ <;> (go_simp; done)) | (go_split_ands; exact ⟨by assumption, Turns.cell (by assumption) y0 hbxw, Turns.cell (by assumption) y1 hbxw, Turns.cell (by assumption) y2 hbxw, Turns.cell (by assumption) y3 hbxw, Turns.cell (by assumption) y4 hbxw, Turns.cell (by assumption) y5 hbxw, Turns.cell (by assumption) y6 hbxw⟩))
          (first | (go_at_call 9; refine (few_any o.q.r _ _ _ _ rfl hq.le hq.fit hq.nn).mono ?_; rintro e w2 ⟨rfl, hb2⟩; rw [HLF.out]; have hbp : Below (wr.alloc (.cells #[.int .i64 o.kind, .int .i64 o.pl, .int .u64 o.q.r.ts, .int .i64 o.q.r.dc, .int .i64 o.q.r.tx, .slice o.q.D o.q.r.vers.length o.q.c, .int .u64 o.t] 43)).heap.size (wr.alloc (.cells #[.int .i64 o.kind, .int .i64 o.pl, .int .u64 o.q.r.ts, .int .i64 o.q.r.dc, .int .i64 o.q.r.tx, .slice o.q.D o.q.r.vers.length o.q.c, .int .u64 o.t] 43)) w2 := below_own (own_drew (own_refl _)) hb2; have ht2 : Turns (boxS b m vl vd) (wr.alloc (.cells #[.int .i64 o.kind, .int .i64 o.pl, .int .u64 o.q.r.ts, .int .i64 o.q.r.dc, .int .i64 o.q.r.tx, .slice o.q.D o.q.r.vers.length o.q.c, .int .u64 o.t] 43)) w2 := Turns.of_below hbp; rw [HRT.out.1, HRT.out.2.1, HRT.out.2.2]) | (go_at_call 11; have hpt := put_any w2 B b m vl vd L x (hBa.on hbp) r' o.q.D o.q.c o.pl hF.ok hl150 hr1000 (hDf.on (below_own hba hbp)) (Nat.le_trans hBle (below_own hba hbp).size); refine hpt.mono ?_; rintro e w3 ⟨vl', vd', L', x', hP, hB', hT, hO'⟩; obtain ⟨er, rfl⟩ := putR_form hP; have ht3 := ht2.on hT (fun _ _ e => e)))
        rename_i hSS
        clear hSS
        have eFine := Fine.put hF (by omega) hl12 hP
        have eOnce := Once.put hO hF.ok hP
        have y1' := ht3.cell y1 hbxw
        have hmdl : md < w2.heap.size := Nat.lt_of_lt_of_le hSa.lt ht2.size
        have hBl2 : B ≤ w2.heap.size := Nat.le_trans (Nat.le_trans hBle hba.size) ht2.size
        rcases hP with ⟨c1, ee, ex⟩ | ⟨c1, ee, ex⟩ | ⟨c1, ee, ex⟩
        · obtain rfl : er = 11 := by simpa using ee
          have q1 : (o.pl == x.base + (x.list.length : Int)) = false := by simp; omega
          have HX := Lib.hid ex
          clear ex ee c1
          have eF : Fine x' (k + 1) := eFine
          have eO : Once x' f S := eOnce
          have eB : BoxAt w3 B b m vl' vd' L' x' := hB'
          have eS : SetB w3 md (k + 1) S := setB_mono (hSa.turn ht3 hnmd)
          have eN : ¬ boxS b m vl' vd' md := boxS_new hO' hmdl hnmd
          have eL : ∀ g, boxS b m vl' vd' g → B ≤ g := boxS_low hO' hBl2 hlow
          have eW : Below w.heap.size w w3 := ht3.below hba (fun j hj => Nat.le_trans hBB' (hlow j hj))
          have eb0 := eF.ok.b0
          have eb1 := eF.ok.b1
          have HF := Lib.hid eF
          have HO := Lib.hid eO
          have HL := Lib.hid eL
          have HN := Lib.hid eN
          clear eF eO eL eN eFine eOnce hT hO' ht2 hbp hb2 hmdl hBl2 hpt hB' hDf
          go_wp2_with fail
          go_loopw [17] (fun a wi => ∃ v : Int, a = .int .i64 v ∧ f ≤ v ∧ v ≤ (x').base ∧ wi = w3) (fun a _ => ((x').base - intOf a).toNat)
          case atStart => exact ⟨f, rfl, Int.le_refl _, HO.out.lo, rfl⟩
          case round =>
            obtain ⟨v, rfl, hv1, hv2, rfl⟩ := hrel
            have hz0 := HO.out.z
            have hwv : (Lit.int .i64 v).wf = true := by simp [Lit.wf, IntKind.min, IntKind.max, IntKind.signed, IntKind.bits]; omega
            have hrun := eS.look hwv
            rw [HO.out.all HF.out.ok hv1 hv2] at hrun
            clear hwv
            by_cases hlv : v < (x').base
            · rw [show decide (v < (x').base) = true from by simpa using hlv] at hrun
              go_wp2_with fail
              go_roundw
              case rel => exact ⟨v + 1, by go_num, by omega, by omega, trivial⟩
              case measure => simp [intOf]; omega
            · rw [show decide (v < (x').base) = false from by simpa using hlv] at hrun
              obtain rfl : v = (x').base := by omega
              go_wp2_with (go_at_call 17; (with_reducible refine (applied_any _ B b m _ _ _ _ eB).mono ?_); rintro e w9 ⟨rfl, rfl⟩)
              go_roundw
              case rel => exact ⟨k + 1, x', vl', vd', L', S, by omega, by omega, by go_num, congrArg (Value.int .i64) (by rw [HX.out]), congrArg (Value.int .i64) (by rw [HX.out]), HF.out, HO.out, eB, eS, HN.out, HL.out, eW⟩
              case measure => simp [intOf]; omega
        · obtain rfl : er = 7 := by simpa using ee
          have q1 : (o.pl == x.base + (x.list.length : Int)) = false := by simp; omega
          have HX := Lib.hid ex
          clear ex ee c1
          have eF : Fine x' (k + 1) := eFine
          have eO : Once x' f S := eOnce
          have eB : BoxAt w3 B b m vl' vd' L' x' := hB'
          have eS : SetB w3 md (k + 1) S := setB_mono (hSa.turn ht3 hnmd)
          have eN : ¬ boxS b m vl' vd' md := boxS_new hO' hmdl hnmd
          have eL : ∀ g, boxS b m vl' vd' g → B ≤ g := boxS_low hO' hBl2 hlow
          have eW : Below w.heap.size w w3 := ht3.below hba (fun j hj => Nat.le_trans hBB' (hlow j hj))
          have eb0 := eF.ok.b0
          have eb1 := eF.ok.b1
          have HF := Lib.hid eF
          have HO := Lib.hid eO
          have HL := Lib.hid eL
          have HN := Lib.hid eN
          clear eF eO eL eN eFine eOnce hT hO' ht2 hbp hb2 hmdl hBl2 hpt hB' hDf
          go_wp2_with fail
          go_loopw [17] (fun a wi => ∃ v : Int, a = .int .i64 v ∧ f ≤ v ∧ v ≤ (x').base ∧ wi = w3) (fun a _ => ((x').base - intOf a).toNat)
          case atStart => exact ⟨f, rfl, Int.le_refl _, HO.out.lo, rfl⟩
          case round =>
            obtain ⟨v, rfl, hv1, hv2, rfl⟩ := hrel
            have hz0 := HO.out.z
            have hwv : (Lit.int .i64 v).wf = true := by simp [Lit.wf, IntKind.min, IntKind.max, IntKind.signed, IntKind.bits]; omega
            have hrun := eS.look hwv
            rw [HO.out.all HF.out.ok hv1 hv2] at hrun
            clear hwv
            by_cases hlv : v < (x').base
            · rw [show decide (v < (x').base) = true from by simpa using hlv] at hrun
              go_wp2_with fail
              go_roundw
              case rel => exact ⟨v + 1, by go_num, by omega, by omega, trivial⟩
              case measure => simp [intOf]; omega
            · rw [show decide (v < (x').base) = false from by simpa using hlv] at hrun
              obtain rfl : v = (x').base := by omega
              go_wp2_with (go_at_call 17; (with_reducible refine (applied_any _ B b m _ _ _ _ eB).mono ?_); rintro e w9 ⟨rfl, rfl⟩)
              go_roundw
              case rel => exact ⟨k + 1, x', vl', vd', L', S, by omega, by omega, by go_num, congrArg (Value.int .i64) (by rw [HX.out]), congrArg (Value.int .i64) (by rw [HX.out]), HF.out, HO.out, eB, eS, HN.out, HL.out, eW⟩
              case measure => simp [intOf]; omega
        · obtain rfl : er = 0 := by simpa using ee
          have q1 : (o.pl == x.base + (x.list.length : Int)) = true := by simp; omega
          have HX := Lib.hid ex
          clear ex ee c1
          have eF : Fine x' (k + 1) := eFine
          have eO : Once x' f S := eOnce
          have eB : BoxAt w3 B b m vl' vd' L' x' := hB'
          have eS : SetB w3 md (k + 1) S := setB_mono (hSa.turn ht3 hnmd)
          have eN : ¬ boxS b m vl' vd' md := boxS_new hO' hmdl hnmd
          have eL : ∀ g, boxS b m vl' vd' g → B ≤ g := boxS_low hO' hBl2 hlow
          have eW : Below w.heap.size w w3 := ht3.below hba (fun j hj => Nat.le_trans hBB' (hlow j hj))
          have eb0 := eF.ok.b0
          have eb1 := eF.ok.b1
          have HF := Lib.hid eF
          have HO := Lib.hid eO
          have HL := Lib.hid eL
          have HN := Lib.hid eN
          clear eF eO eL eN eFine eOnce hT hO' ht2 hbp hb2 hmdl hBl2 hpt hB' hDf
          go_wp2_with fail
          go_loopw [17] (fun a wi => ∃ v : Int, a = .int .i64 v ∧ f ≤ v ∧ v ≤ (x').base ∧ wi = w3) (fun a _ => ((x').base - intOf a).toNat)
          case atStart => exact ⟨f, rfl, Int.le_refl _, HO.out.lo, rfl⟩
          case round =>
            obtain ⟨v, rfl, hv1, hv2, rfl⟩ := hrel
            have hz0 := HO.out.z
            have hwv : (Lit.int .i64 v).wf = true := by simp [Lit.wf, IntKind.min, IntKind.max, IntKind.signed, IntKind.bits]; omega
            have hrun := eS.look hwv
            rw [HO.out.all HF.out.ok hv1 hv2] at hrun
            clear hwv
            by_cases hlv : v < (x').base
            · rw [show decide (v < (x').base) = true from by simpa using hlv] at hrun
              go_wp2_with fail
              go_roundw
              case rel => exact ⟨v + 1, by go_num, by omega, by omega, trivial⟩
              case measure => simp [intOf]; omega
            · rw [show decide (v < (x').base) = false from by simpa using hlv] at hrun
              obtain rfl : v = (x').base := by omega
              go_wp2_with (go_at_call 17; (with_reducible refine (applied_any _ B b m _ _ _ _ eB).mono ?_); rintro e w9 ⟨rfl, rfl⟩)
              go_roundw
              case rel => exact ⟨k + 1, x', vl', vd', L', S, by omega, by omega, by go_num, congrArg (Value.int .i64) (by rw [HX.out]; show x.base + (x.list.length : Int) + 1 = x.base + ((x.list ++ [r']).length : Int); rw [List.length_append, List.length_singleton]; omega), congrArg (Value.int .i64) (by rw [HX.out]), HF.out, HO.out, eB, eS, HN.out, HL.out, eW⟩
              case measure => simp [intOf]; omega
      · have e0 : (o.kind == 0) = false := by simpa using k0
        by_cases k1 : o.kind = 1
        · have e1 : (o.kind == 1) = true := by simpa using k1
          clear k0 k1
          go_wp2_with fail
          refine (next_any _ B b m vl vd L x hBa hF.ok).mono ?_
          rintro e w3 ⟨vl', vd', L', x', hP, hB', hT, hO'⟩
          have eFine := Fine.next hF hP
          have eOnce := Once.next hO hF.ok hP
          have hmdl : md < (wr.alloc (.cells #[.int .i64 o.kind, .int .i64 o.pl, .int .u64 o.q.r.ts, .int .i64 o.q.r.dc, .int .i64 o.q.r.tx, .slice o.q.D o.q.r.vers.length o.q.c, .int .u64 o.t] 43)).heap.size := hSa.lt
          have hBl2 : B ≤ (wr.alloc (.cells #[.int .i64 o.kind, .int .i64 o.pl, .int .u64 o.q.r.ts, .int .i64 o.q.r.dc, .int .i64 o.q.r.tx, .slice o.q.D o.q.r.vers.length o.q.c, .int .u64 o.t] 43)).heap.size := Nat.le_trans hBle hba.size
          have hS3 := hSa.turn hT hnmd
          have hb3 : Below w.heap.size w w3 := hT.below hba (fun j hj => Nat.le_trans hBB' (hlow j hj))
          rcases hP with ⟨c1, rfl, ex⟩ | ⟨r, D, cp, hr, rfl, hrow, ex⟩
          · have c2 : ¬ x.handed < x.list.length := by omega
            have c3 : decide (x.handed < x.list.length) = false := by simpa using c2
            clear c1
            have HX := Lib.hid ex
            clear ex
            have eF : Fine x' (k + 1) := eFine
            have eO : Once x' f S := eOnce
            have eB : BoxAt (w3.alloc (.cells #[.int .u64 0, .int .i64 0, .int .i64 0, .slice none 0 0] 25)) B b m vl' vd' L' x' := hB'.on (own_alloc (own_refl _) _)
            have eS : SetB (w3.alloc (.cells #[.int .u64 0, .int .i64 0, .int .i64 0, .slice none 0 0] 25)) md (k + 1) S := setB_mono (hS3.turn ((Turns.refl none' _).alloc _) id)
            have eN : ¬ boxS b m vl' vd' md := boxS_new hO' hmdl hnmd
            have eL : ∀ g, boxS b m vl' vd' g → B ≤ g := boxS_low hO' hBl2 hlow
            have eW : Below w.heap.size w (w3.alloc (.cells #[.int .u64 0, .int .i64 0, .int .i64 0, .slice none 0 0] 25)) := own_alloc hb3 _
            have eb0 := eF.ok.b0
            have eb1 := eF.ok.b1
            have HF := Lib.hid eF
            have HO := Lib.hid eO
            have HL := Lib.hid eL
            have HN := Lib.hid eN
            clear eF eO eL eN eFine eOnce hT hO' hmdl hBl2 hB' hS3 hb3
            go_wp2_with fail
            go_loopw [17] (fun a wi => ∃ v : Int, a = .int .i64 v ∧ f ≤ v ∧ v ≤ (x').base ∧ wi = (w3.alloc (.cells #[.int .u64 0, .int .i64 0, .int .i64 0, .slice none 0 0] 25))) (fun a _ => ((x').base - intOf a).toNat)
            case atStart => exact ⟨f, rfl, Int.le_refl _, HO.out.lo, rfl⟩
            case round =>
              obtain ⟨v, rfl, hv1, hv2, rfl⟩ := hrel
              have hz0 := HO.out.z
              have hwv : (Lit.int .i64 v).wf = true := by simp [Lit.wf, IntKind.min, IntKind.max, IntKind.signed, IntKind.bits]; omega
              have hrun := eS.look hwv
              rw [HO.out.all HF.out.ok hv1 hv2] at hrun
              clear hwv
              by_cases hlv : v < (x').base
              · rw [show decide (v < (x').base) = true from by simpa using hlv] at hrun
                go_wp2_with fail
                go_roundw
                case rel => exact ⟨v + 1, by go_num, by omega, by omega, trivial⟩
                case measure => simp [intOf]; omega
              · rw [show decide (v < (x').base) = false from by simpa using hlv] at hrun
                obtain rfl : v = (x').base := by omega
                go_wp2_with (go_at_call 17; (with_reducible refine (applied_any _ B b m _ _ _ _ eB).mono ?_); rintro e w9 ⟨rfl, rfl⟩)
                go_roundw
                case rel => exact ⟨k + 1, x', vl', vd', L', S, by omega, by omega, by go_num, congrArg (Value.int .i64) (by rw [HX.out]), congrArg (Value.int .i64) (by rw [HX.out]), HF.out, HO.out, eB, eS, HN.out, HL.out, eW⟩
                case measure => simp [intOf]; omega
          · have c2 : x.handed < x.list.length := (List.getElem?_eq_some_iff.1 hr).1
            have c3 : decide (x.handed < x.list.length) = true := by simpa using c2
            clear hr hrow
            have HX := Lib.hid ex
            clear ex
            have eF : Fine x' (k + 1) := eFine
            have eO : Once x' f S := eOnce
            have eB : BoxAt (w3.alloc (.cells #[.int .u64 r.ts, .int .i64 r.dc, .int .i64 r.tx, .slice D r.vers.length cp] 25)) B b m vl' vd' L' x' := hB'.on (own_alloc (own_refl _) _)
            have eS : SetB (w3.alloc (.cells #[.int .u64 r.ts, .int .i64 r.dc, .int .i64 r.tx, .slice D r.vers.length cp] 25)) md (k + 1) S := setB_mono (hS3.turn ((Turns.refl none' _).alloc _) id)
            have eN : ¬ boxS b m vl' vd' md := boxS_new hO' hmdl hnmd
            have eL : ∀ g, boxS b m vl' vd' g → B ≤ g := boxS_low hO' hBl2 hlow
            have eW : Below w.heap.size w (w3.alloc (.cells #[.int .u64 r.ts, .int .i64 r.dc, .int .i64 r.tx, .slice D r.vers.length cp] 25)) := own_alloc hb3 _
            have eb0 := eF.ok.b0
            have eb1 := eF.ok.b1
            have HF := Lib.hid eF
            have HO := Lib.hid eO
            have HL := Lib.hid eL
            have HN := Lib.hid eN
            clear eF eO eL eN eFine eOnce hT hO' hmdl hBl2 hB' hS3 hb3
            go_wp2_with fail
            go_loopw [17] (fun a wi => ∃ v : Int, a = .int .i64 v ∧ f ≤ v ∧ v ≤ (x').base ∧ wi = (w3.alloc (.cells #[.int .u64 r.ts, .int .i64 r.dc, .int .i64 r.tx, .slice D r.vers.length cp] 25))) (fun a _ => ((x').base - intOf a).toNat)
            case atStart => exact ⟨f, rfl, Int.le_refl _, HO.out.lo, rfl⟩
            case round =>
              obtain ⟨v, rfl, hv1, hv2, rfl⟩ := hrel
              have hz0 := HO.out.z
              have hwv : (Lit.int .i64 v).wf = true := by simp [Lit.wf, IntKind.min, IntKind.max, IntKind.signed, IntKind.bits]; omega
              have hrun := eS.look hwv
              rw [HO.out.all HF.out.ok hv1 hv2] at hrun
              clear hwv
              by_cases hlv : v < (x').base
              · rw [show decide (v < (x').base) = true from by simpa using hlv] at hrun
                go_wp2_with fail
                go_roundw
                case rel => exact ⟨v + 1, by go_num, by omega, by omega, trivial⟩
                case measure => simp [intOf]; omega
              · rw [show decide (v < (x').base) = false from by simpa using hlv] at hrun
                obtain rfl : v = (x').base := by omega
                go_wp2_with (go_at_call 17; (with_reducible refine (applied_any _ B b m _ _ _ _ eB).mono ?_); rintro e w9 ⟨rfl, rfl⟩)
                go_roundw
                case rel => exact ⟨k + 1, x', vl', vd', L', S, by omega, by omega, by go_num, congrArg (Value.int .i64) (by rw [HX.out]), congrArg (Value.int .i64) (by rw [HX.out]; show x.base + (x.handed : Int) + 1 = x.base + ((x.handed + 1 : Nat) : Int); omega), HF.out, HO.out, eB, eS, HN.out, HL.out, eW⟩
                case measure => simp [intOf]; omega
        · have e1 : (o.kind == 1) = false := by simpa using k1
          by_cases k2 : o.kind = 2
          · have e2 : (o.kind == 2) = true := by simpa using k2
            clear k0 k1 k2
            have hwa := hw.wa
            have hwr := hw.a
            go_wp2_with fail
            refine (done_any _ B b m vl vd L x hBa hF.ok o.pl hwr.2).mono ?_
            rintro e w3 ⟨vl', vd', L', x', hP, hB', hT, hO'⟩
            have eFine := Fine.done hF (by omega) hP
            obtain ⟨er, rfl, her⟩ := Once.takes hO hF.ok hP
            obtain ⟨d1, d2⟩ := Once.done hO hF.ok hP
            have hmdl : md < (wr.alloc (.cells #[.int .i64 o.kind, .int .i64 o.pl, .int .u64 o.q.r.ts, .int .i64 o.q.r.dc, .int .i64 o.q.r.tx, .slice o.q.D o.q.r.vers.length o.q.c, .int .u64 o.t] 43)).heap.size := hSa.lt
            have hBl2 : B ≤ (wr.alloc (.cells #[.int .i64 o.kind, .int .i64 o.pl, .int .u64 o.q.r.ts, .int .i64 o.q.r.dc, .int .i64 o.q.r.tx, .slice o.q.D o.q.r.vers.length o.q.c, .int .u64 o.t] 43)).heap.size := Nat.le_trans hBle hba.size
            have hS3 := hSa.turn hT hnmd
            have hb3 : Below w.heap.size w w3 := hT.below hba (fun j hj => Nat.le_trans hBB' (hlow j hj))
            have y0' := Turns.cell hT y0 hbxw
            have y1' := Turns.cell hT y1 hbxw
            have hlook := hS3.look hwa
            clear hP
            by_cases c1 : f ≤ o.pl
            · by_cases c2 : o.pl < x.base + x.handed
              · cases hs : S o.pl with
                | false =>
                  rw [hs] at hlook
                  simp only [c1, c2, hs, decide_true, Bool.and_self, Bool.not_false] at her
                  obtain rfl : er = 0 := by simpa using her
                  obtain ⟨d3, d4, d5⟩ := d1 rfl
                  have HD3 := Lib.hid d3
                  have HD4 := Lib.hid d4
                  obtain ⟨w4, hrun4, hS4, hturn4⟩ := hS3.put (by omega) hwa true
                  have ht4 := turned hturn4
                  have hb4 : Below w.heap.size w w4 := ht4.below hb3 (fun j hj => by have : j = md := hj; omega)
                  have hB4 : BoxAt w4 B b m vl' vd' L' x' := hB'.turn ht4 (fun g hg e => boxS_new hO' hmdl hnmd (by rw [← show g = md from e]; exact hg)) (fun g hg e => by
                    obtain ⟨cs, fz, hg⟩ := hg
                    obtain ⟨D, ⟨es, cl, hh, _⟩, _⟩ := hS3
                    rw [show g = md from e, hh] at hg
                    cases hg)
                  clear her d1 d2 d3 d4 hs
                  have eF : Fine x' (k + 1) := eFine
                  have eO : Once x' f (fun y => if y = o.pl then true else S y) := d5
                  have eB : BoxAt w4 B b m vl' vd' L' x' := hB4
                  have eS : SetB w4 md (k + 1) (fun y => if y = o.pl then true else S y) := hS4
                  have eN : ¬ boxS b m vl' vd' md := boxS_new hO' hmdl hnmd
                  have eL : ∀ g, boxS b m vl' vd' g → B ≤ g := boxS_low hO' hBl2 hlow
                  have eW : Below w.heap.size w w4 := hb4
                  have eb0 := eF.ok.b0
                  have eb1 := eF.ok.b1
                  have HF := Lib.hid eF
                  have HO := Lib.hid eO
                  have HL := Lib.hid eL
                  have HN := Lib.hid eN
                  clear eF eO eL eN eFine d5 hT hO' hmdl hBl2 hB' hS3 hb3 hturn4 ht4
                  go_wp2_with fail
                  go_loopw [17] (fun a wi => ∃ v : Int, a = .int .i64 v ∧ f ≤ v ∧ v ≤ (x').base ∧ wi = w4) (fun a _ => ((x').base - intOf a).toNat)
                  case atStart => exact ⟨f, rfl, Int.le_refl _, HO.out.lo, rfl⟩
                  case round =>
                    obtain ⟨v, rfl, hv1, hv2, rfl⟩ := hrel
                    have hz0 := HO.out.z
                    have hwv : (Lit.int .i64 v).wf = true := by simp [Lit.wf, IntKind.min, IntKind.max, IntKind.signed, IntKind.bits]; omega
                    have hrun := eS.look hwv
                    rw [HO.out.all HF.out.ok hv1 hv2] at hrun
                    clear hwv
                    by_cases hlv : v < (x').base
                    · rw [show decide (v < (x').base) = true from by simpa using hlv] at hrun
                      go_wp2_with fail
                      go_roundw
                      case rel => exact ⟨v + 1, by go_num, by omega, by omega, trivial⟩
                      case measure => simp [intOf]; omega
                    · rw [show decide (v < (x').base) = false from by simpa using hlv] at hrun
                      obtain rfl : v = (x').base := by omega
                      go_wp2_with (go_at_call 17; (with_reducible refine (applied_any _ B b m _ _ _ _ eB).mono ?_); rintro e w9 ⟨rfl, rfl⟩)
                      go_roundw
                      case rel => exact ⟨k + 1, x', vl', vd', L', (fun y => if y = o.pl then true else S y), by omega, by omega, by go_num, congrArg (Value.int .i64) (by rw [HD4.out]), congrArg (Value.int .i64) (by rw [HD3.out]), HF.out, HO.out, eB, eS, HN.out, HL.out, eW⟩
                      case measure => simp [intOf]; omega
                | true =>
                  rw [hs] at hlook
                  simp only [c1, c2, hs, decide_true, Bool.and_self, Bool.not_true, Bool.and_false] at her
                  clear hs
                  have hne : er ≠ 0 := by intro e; rw [e] at her; simp at her
                  have ex := d2 (by simpa using hne)
                  have her' : (er == 0) = false := by simpa using hne
                  have ex := ex.symm
                  subst ex
                  clear her d1 d2 hne
                  have eF : Fine x (k + 1) := eFine
                  have eO : Once x f S := hO
                  have eB : BoxAt w3 B b m vl' vd' L' x := hB'
                  have eS : SetB w3 md (k + 1) S := setB_mono hS3
                  have eN : ¬ boxS b m vl' vd' md := boxS_new hO' hmdl hnmd
                  have eL : ∀ g, boxS b m vl' vd' g → B ≤ g := boxS_low hO' hBl2 hlow
                  have eW : Below w.heap.size w w3 := hb3
                  have eb0 := eF.ok.b0
                  have eb1 := eF.ok.b1
                  have HF := Lib.hid eF
                  have HO := Lib.hid eO
                  have HL := Lib.hid eL
                  have HN := Lib.hid eN
                  clear eF eO eL eN eFine hT hO' hmdl hBl2 hB' hS3 hb3
                  go_wp2_with fail
                  go_loopw [17] (fun a wi => ∃ v : Int, a = .int .i64 v ∧ f ≤ v ∧ v ≤ (x).base ∧ wi = w3) (fun a _ => ((x).base - intOf a).toNat)
                  case atStart => exact ⟨f, rfl, Int.le_refl _, HO.out.lo, rfl⟩
                  case round =>
                    obtain ⟨v, rfl, hv1, hv2, rfl⟩ := hrel
                    have hz0 := HO.out.z
                    have hwv : (Lit.int .i64 v).wf = true := by simp [Lit.wf, IntKind.min, IntKind.max, IntKind.signed, IntKind.bits]; omega
                    have hrun := eS.look hwv
                    rw [HO.out.all HF.out.ok hv1 hv2] at hrun
                    clear hwv
                    by_cases hlv : v < (x).base
                    · rw [show decide (v < (x).base) = true from by simpa using hlv] at hrun
                      go_wp2_with fail
                      go_roundw
                      case rel => exact ⟨v + 1, by go_num, by omega, by omega, trivial⟩
                      case measure => simp [intOf]; omega
                    · rw [show decide (v < (x).base) = false from by simpa using hlv] at hrun
                      obtain rfl : v = (x).base := by omega
                      go_wp2_with (go_at_call 17; (with_reducible refine (applied_any _ B b m _ _ _ _ eB).mono ?_); rintro e w9 ⟨rfl, rfl⟩)
                      go_roundw
                      case rel => exact ⟨k + 1, x, vl', vd', L', S, by omega, by omega, by go_num, congrArg (Value.int .i64) (by rfl), congrArg (Value.int .i64) (by rfl), HF.out, HO.out, eB, eS, HN.out, HL.out, eW⟩
                      case measure => simp [intOf]; omega
              · simp only [c1, c2, decide_true, decide_false, Bool.and_false, Bool.false_and] at her
                have hne : er ≠ 0 := by intro e; rw [e] at her; simp at her
                have ex := d2 (by simpa using hne)
                have her' : (er == 0) = false := by simpa using hne
                have ex := ex.symm
                subst ex
                clear her d1 d2 hne
                have eF : Fine x (k + 1) := eFine
                have eO : Once x f S := hO
                have eB : BoxAt w3 B b m vl' vd' L' x := hB'
                have eS : SetB w3 md (k + 1) S := setB_mono hS3
                have eN : ¬ boxS b m vl' vd' md := boxS_new hO' hmdl hnmd
                have eL : ∀ g, boxS b m vl' vd' g → B ≤ g := boxS_low hO' hBl2 hlow
                have eW : Below w.heap.size w w3 := hb3
                have eb0 := eF.ok.b0
                have eb1 := eF.ok.b1
                have HF := Lib.hid eF
                have HO := Lib.hid eO
                have HL := Lib.hid eL
                have HN := Lib.hid eN
                clear eF eO eL eN eFine hT hO' hmdl hBl2 hB' hS3 hb3
                go_wp2_with fail
                go_loopw [17] (fun a wi => ∃ v : Int, a = .int .i64 v ∧ f ≤ v ∧ v ≤ (x).base ∧ wi = w3) (fun a _ => ((x).base - intOf a).toNat)
                case atStart => exact ⟨f, rfl, Int.le_refl _, HO.out.lo, rfl⟩
                case round =>
                  obtain ⟨v, rfl, hv1, hv2, rfl⟩ := hrel
                  have hz0 := HO.out.z
                  have hwv : (Lit.int .i64 v).wf = true := by simp [Lit.wf, IntKind.min, IntKind.max, IntKind.signed, IntKind.bits]; omega
                  have hrun := eS.look hwv
                  rw [HO.out.all HF.out.ok hv1 hv2] at hrun
                  clear hwv
                  by_cases hlv : v < (x).base
                  · rw [show decide (v < (x).base) = true from by simpa using hlv] at hrun
                    go_wp2_with fail
                    go_roundw
                    case rel => exact ⟨v + 1, by go_num, by omega, by omega, trivial⟩
                    case measure => simp [intOf]; omega
                  · rw [show decide (v < (x).base) = false from by simpa using hlv] at hrun
                    obtain rfl : v = (x).base := by omega
                    go_wp2_with (go_at_call 17; (with_reducible refine (applied_any _ B b m _ _ _ _ eB).mono ?_); rintro e w9 ⟨rfl, rfl⟩)
                    go_roundw
                    case rel => exact ⟨k + 1, x, vl', vd', L', S, by omega, by omega, by go_num, congrArg (Value.int .i64) (by rfl), congrArg (Value.int .i64) (by rfl), HF.out, HO.out, eB, eS, HN.out, HL.out, eW⟩
                    case measure => simp [intOf]; omega
            · simp only [c1, decide_false, Bool.false_and] at her
              have hne : er ≠ 0 := by intro e; rw [e] at her; simp at her
              have ex := d2 (by simpa using hne)
              have her' : (er == 0) = false := by simpa using hne
              have ex := ex.symm
              subst ex
              clear her d1 d2 hne
              have eF : Fine x (k + 1) := eFine
              have eO : Once x f S := hO
              have eB : BoxAt w3 B b m vl' vd' L' x := hB'
              have eS : SetB w3 md (k + 1) S := setB_mono hS3
              have eN : ¬ boxS b m vl' vd' md := boxS_new hO' hmdl hnmd
              have eL : ∀ g, boxS b m vl' vd' g → B ≤ g := boxS_low hO' hBl2 hlow
              have eW : Below w.heap.size w w3 := hb3
              have eb0 := eF.ok.b0
              have eb1 := eF.ok.b1
              have HF := Lib.hid eF
              have HO := Lib.hid eO
              have HL := Lib.hid eL
              have HN := Lib.hid eN
              clear eF eO eL eN eFine hT hO' hmdl hBl2 hB' hS3 hb3
              go_wp2_with fail
              go_loopw [17] (fun a wi => ∃ v : Int, a = .int .i64 v ∧ f ≤ v ∧ v ≤ (x).base ∧ wi = w3) (fun a _ => ((x).base - intOf a).toNat)
              case atStart => exact ⟨f, rfl, Int.le_refl _, HO.out.lo, rfl⟩
              case round =>
                obtain ⟨v, rfl, hv1, hv2, rfl⟩ := hrel
                have hz0 := HO.out.z
                have hwv : (Lit.int .i64 v).wf = true := by simp [Lit.wf, IntKind.min, IntKind.max, IntKind.signed, IntKind.bits]; omega
                have hrun := eS.look hwv
                rw [HO.out.all HF.out.ok hv1 hv2] at hrun
                clear hwv
                by_cases hlv : v < (x).base
                · rw [show decide (v < (x).base) = true from by simpa using hlv] at hrun
                  go_wp2_with fail
                  go_roundw
                  case rel => exact ⟨v + 1, by go_num, by omega, by omega, trivial⟩
                  case measure => simp [intOf]; omega
                · rw [show decide (v < (x).base) = false from by simpa using hlv] at hrun
                  obtain rfl : v = (x).base := by omega
                  go_wp2_with (go_at_call 17; (with_reducible refine (applied_any _ B b m _ _ _ _ eB).mono ?_); rintro e w9 ⟨rfl, rfl⟩)
                  go_roundw
                  case rel => exact ⟨k + 1, x, vl', vd', L', S, by omega, by omega, by go_num, congrArg (Value.int .i64) (by rfl), congrArg (Value.int .i64) (by rfl), HF.out, HO.out, eB, eS, HN.out, HL.out, eW⟩
                  case measure => simp [intOf]; omega
          · have e2 : (o.kind == 2) = false := by simpa using k2
            clear k0 k1 k2
            have eF : Fine x (k + 1) := hF.more
            have eO : Once x f S := hO
            have eB : BoxAt (wr.alloc (.cells #[.int .i64 o.kind, .int .i64 o.pl, .int .u64 o.q.r.ts, .int .i64 o.q.r.dc, .int .i64 o.q.r.tx, .slice o.q.D o.q.r.vers.length o.q.c, .int .u64 o.t] 43)) B b m vl vd L x := hBa
            have eS : SetB (wr.alloc (.cells #[.int .i64 o.kind, .int .i64 o.pl, .int .u64 o.q.r.ts, .int .i64 o.q.r.dc, .int .i64 o.q.r.tx, .slice o.q.D o.q.r.vers.length o.q.c, .int .u64 o.t] 43)) md (k + 1) S := setB_mono hSa
            have eN : ¬ boxS b m vl vd md := hnmd
            have eL : ∀ g, boxS b m vl vd g → B ≤ g := hlow
            have eW : Below w.heap.size w (wr.alloc (.cells #[.int .i64 o.kind, .int .i64 o.pl, .int .u64 o.q.r.ts, .int .i64 o.q.r.dc, .int .i64 o.q.r.tx, .slice o.q.D o.q.r.vers.length o.q.c, .int .u64 o.t] 43)) := hba
            have eb0 := eF.ok.b0
            have eb1 := eF.ok.b1
            have HF := Lib.hid eF
            have HO := Lib.hid eO
            have HL := Lib.hid eL
            have HN := Lib.hid eN
            clear eF eO eL eN
            go_wp2_with fail
            go_loopw [17] (fun a wi => ∃ v : Int, a = .int .i64 v ∧ f ≤ v ∧ v ≤ (x).base ∧ wi = (wr.alloc (.cells #[.int .i64 o.kind, .int .i64 o.pl, .int .u64 o.q.r.ts, .int .i64 o.q.r.dc, .int .i64 o.q.r.tx, .slice o.q.D o.q.r.vers.length o.q.c, .int .u64 o.t] 43))) (fun a _ => ((x).base - intOf a).toNat)
            case atStart => exact ⟨f, rfl, Int.le_refl _, HO.out.lo, rfl⟩
            case round =>
              obtain ⟨v, rfl, hv1, hv2, rfl⟩ := hrel
              have hz0 := HO.out.z
              have hwv : (Lit.int .i64 v).wf = true := by simp [Lit.wf, IntKind.min, IntKind.max, IntKind.signed, IntKind.bits]; omega
              have hrun := eS.look hwv
              rw [HO.out.all HF.out.ok hv1 hv2] at hrun
              clear hwv
              by_cases hlv : v < (x).base
              · rw [show decide (v < (x).base) = true from by simpa using hlv] at hrun
                go_wp2_with fail
                go_roundw
                case rel => exact ⟨v + 1, by go_num, by omega, by omega, trivial⟩
                case measure => simp [intOf]; omega
              · rw [show decide (v < (x).base) = false from by simpa using hlv] at hrun
                obtain rfl : v = (x).base := by omega
                go_wp2_with (go_at_call 17; (with_reducible refine (applied_any _ B b m _ _ _ _ eB).mono ?_); rintro e w9 ⟨rfl, rfl⟩)
                go_roundw
                case rel => exact ⟨k + 1, x, vl, vd, L, S, by omega, by omega, by go_num, congrArg (Value.int .i64) (by rfl), congrArg (Value.int .i64) (by rfl), HF.out, HO.out, eB, eS, HN.out, HL.out, eW⟩
                case measure => simp [intOf]; omega
    · have hke : k = n ∨ k = 120 := by omega
      by_cases hkn : k < n
      · have hd : decide ((k : Int) < 120) = false := by simp; omega
        have hd2 : (k : Int) < (n : Int) := by omega
        have hd3 : ¬ (k : Int) < 120 := by omega
        clear hke hlt
        go_wp2_with (go_at_call 14; refine (awake_any _).mono ?_; rintro e w9 ⟨rfl, hb9⟩)
        go_ret
        exact ⟨rfl, below_own hbel hb9⟩
      · have hd3 : ¬ (k : Int) < (n : Int) := by omega
        clear hke hlt
        go_wp2_with (go_at_call 14; refine (awake_any _).mono ?_; rintro e w9 ⟨rfl, hb9⟩)
        go_ret
        exact ⟨rfl, below_own hbel hb9⟩
end Go.Proofs.Ytneglecglkibfaa.lawInboxOnce
