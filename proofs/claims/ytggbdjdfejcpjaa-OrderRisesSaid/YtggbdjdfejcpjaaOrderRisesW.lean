/-
  The walk of the law OrderRises: whatever data come in, the call returns true and leaves what was there. Conditions: the arguments' cells lie as the hypotheses say.
-/
import Derived.Test.YtggbdjdfejcpjaaSameL
import Derived.Test.YtggbdjdfejcpjaaOpLog
import Derived.Deep.RegionHeld3
namespace Go.Proofs.Ytggbdjdfejcpjaa.lawOrderRises
open Go.RowKit Go.Maps
set_option linter.unusedVariables false

theorem decR_form {x x' : Lg} {r : R} {e : Ending} {w' : World} (h : DecR x r e w' x') : ∃ er : Int, e = .returned (.int .i64 er) := by
  rcases h with ⟨_, rfl, _⟩ | ⟨_, _, rfl, _⟩ | ⟨_, _, rfl, _⟩ <;> exact ⟨_, rfl⟩
theorem low_of {S T : Nat → Prop} {N M : Nat} (h : ∀ g, g < N → T g → S g) (hM : M ≤ N) (hl : ∀ g, S g → M ≤ g) : ∀ g, T g → M ≤ g := fun g e => (Nat.lt_or_ge g N).elim (fun c => hl g (h g c e)) (fun c => Nat.le_trans hM c)
/-- what was stable at the last look, in a row of its own, apart from the log. -/
structure Was (w : World) (B : Nat) (vo : Value) (n : Nat) (K : List Q) (l : List R) (S : Nat → Prop) : Prop where
  row : OwnAt w B 32 4 vo n (flatQ K)
  len : K.length = n
  pre : K.map Q.r <+: l
  q : ∀ q ∈ K, QAt w q
  ap : ∀ g, vo.ownBlock = some g → ¬ S g
theorem Was.turn {w w' : World} {B n : Nat} {vo : Value} {K : List Q} {l l' : List R} {S S' T : Nat → Prop} (h : Was w B vo n K l S) (ht : Turns T w w') (hT : ∀ g, T g → S g) (hv : ∀ g, VB w g → ¬ S g) (hl : l <+: l') (hS : ∀ g, g < w.heap.size → S' g → S g) : Was w' B vo n K l' S' :=
  ⟨h.row.turn ht (fun g hg e => h.ap g hg (hT g e)), h.len, h.pre.trans hl, fun q hq => (h.q q hq).turn ht (fun g hg e => hv g hg (hT g e)), fun g hg e => h.ap g hg (hS g (h.row.lt g hg).2 e)⟩
theorem Was.on {w w' : World} {B n : Nat} {vo : Value} {K : List Q} {l : List R} {S : Nat → Prop} (h : Was w B vo n K l S) (hb : Below w.heap.size w w') : Was w' B vo n K l S :=
  ⟨h.row.on hb, h.len, h.pre, fun q hq => (h.q q hq).on hb, h.ap⟩
theorem rlt_at {l : List R} (h : l.Pairwise rlt) {m : Nat} {a z : R} (ha : l[m]? = some a) (hz : l[m + 1]? = some z) : mlt a.ts a.dc a.tx z.ts z.dc z.tx = true := by
  obtain ⟨h1, rfl⟩ := List.getElem?_eq_some_iff.1 ha
  obtain ⟨h2, rfl⟩ := List.getElem?_eq_some_iff.1 hz
  exact List.pairwise_iff_getElem.1 h m (m + 1) h1 h2 (by omega)
set_option maxRecDepth 100000 in
set_option maxHeartbeats 8000000 in
theorem walk (A : Option Addr) (n c : Nat) (l : List OL) (w : World) (hn : l.length = n) (hm : n ≤ 9223372036854775807) (hA : Cells w A (flatOL l)) (wA : ∀ x ∈ l, x.wf w) :
    Calls Try.prog 4 #[.slice A n c] w fun e w' => e = .returned (.bool true) ∧ Below w.heap.size w w' := by
  obtain ⟨B, hBe⟩ : ∃ B, w.heap.size = B := ⟨_, rfl⟩
  have hBB : B ≤ w.heap.size := Nat.le_of_eq hBe.symm
  have hBB' : w.heap.size ≤ B := Nat.le_of_eq hBe
  go_enter Try.func4, Try.ntmps4
  go_wp2_with (go_at_call 8; refine (lnew_any _).mono ?_; rintro e w1 ⟨b, rfl, hb, hL0, hb1⟩)
  rw [hBe] at hL0
  clear hBe
  have hlow0 : ∀ g, logS b (.slice none 0 0) (.slice none 0 0) g → B ≤ g := by
    rintro g (e | e | e)
    · omega
    · cases e
    · cases e
  go_loopw [4, 5] (fun vo i wr => ∃ (k : Nat) (x : Lg) (vl vw : Value) (L M : List Q) (Dw : Option Addr) (nw cw : Nat) (Kw : List Q), k ≤ n ∧ k ≤ 60 ∧ i = .int .i64 k ∧ vo = .slice Dw nw cw ∧ LFine x k ∧ OrdI x ∧ LogAt wr B b vl vw L M x ∧ (∀ g, logS b vl vw g → B ≤ g) ∧ Was wr B (.slice Dw nw cw) nw Kw x.list (logS b vl vw) ∧ Below w.heap.size w wr) (fun _ i _ => n - (intOf i).toNat)
  case atStart => exact ⟨0, lg0, _, _, [], [], none, 0, 0, [], Nat.zero_le _, by omega, rfl, rfl, LFine.new, OrdI.new, hL0, hlow0, ⟨OwnAt.nil _ _ _ _, rfl, List.nil_prefix, by simp, fun g hg => by cases hg⟩, hb1⟩
  case round =>
    obtain ⟨k, x, vl, vw, L, M, Dw, nw, cw, Kw, hk, hk60, rfl, rfl, hF, hI, hL, hlow, hW, hbel⟩ := hrel
    by_cases hlt : k < n ∧ k < 60
    · obtain ⟨hlt, hlt60⟩ := hlt
      obtain ⟨o, ho⟩ : ∃ o, l[k]? = some o := ⟨_, List.getElem?_eq_getElem (by omega)⟩
      obtain ⟨ab, off, rfl, x0, x1, x2, x3, x4, x5⟩ := hA.ol ho
      have x0' := cell_on hbel x0
      have x1' := cell_on hbel x1
      have x2' := cell_on hbel x2
      have x3' := cell_on hbel x3
      have x4' := cell_on hbel x4
      have x5' := cell_on hbel x5
      have hw := wA o (List.mem_of_getElem? ho)
      have g3 : (0 : Int) ≤ (k : Int) := by omega
      have g4' : (k : Int) < (n : Int) := by omega
      have g5 : (k : Int) < 60 := by omega
      have hLa : LogAt (wr.alloc (.cells #[.int .i64 o.kind, .int .u64 o.q.r.ts, .int .i64 o.q.r.dc, .int .i64 o.q.r.tx, .slice o.q.D o.q.r.vers.length o.q.c, .int .u64 o.t] 34)) B b vl vw L M x := hL.on (own_alloc (own_refl _) _)
      have hWa := hW.on (own_alloc (own_refl wr) (.cells #[.int .i64 o.kind, .int .u64 o.q.r.ts, .int .i64 o.q.r.dc, .int .i64 o.q.r.tx, .slice o.q.D o.q.r.vers.length o.q.c, .int .u64 o.t] 34))
      have hba : Below w.heap.size w (wr.alloc (.cells #[.int .i64 o.kind, .int .u64 o.q.r.ts, .int .i64 o.q.r.dc, .int .i64 o.q.r.tx, .slice o.q.D o.q.r.vers.length o.q.c, .int .u64 o.t] 34)) := own_alloc hbel _
      have hln := hF.n
      clear x0 x1 x2 x3 x4 x5
      clear hA wA
      by_cases k0 : o.kind = 0
      · have e0 : (o.kind == 0) = true := by simpa using k0
        clear k0
        have hq := hw.q
        obtain ⟨r', hr'⟩ : ∃ r', o.q.r.few = r' := ⟨_, rfl⟩
        have hlf : min o.q.r.vers.length 12 = r'.vers.length := by rw [← hr']; show _ = (o.q.r.vers.take 12).length; rw [List.length_take]; omega
        have hl12 : r'.vers.length ≤ 12 := hr' ▸ few_len o.q.r
        have hrt : o.q.r.ts = r'.ts ∧ o.q.r.dc = r'.dc ∧ o.q.r.tx = r'.tx := by rw [← hr']; exact ⟨rfl, rfl, rfl⟩
        have hts : r'.ts ≤ 18446744073709551615 := by rw [← hrt.1]; exact hq.ts.2
        have hDf : Cells w o.q.D (flatV r'.vers) := by rw [← hr']; exact Cells.takeG (cf := V.cells) hq.D 12
        have HLF0 := Lib.hid hlf
        have HRT := Lib.hid hrt
        clear hr' hlf hrt
        go_wp2_with (go_at_call 10; refine (few_any o.q.r _ _ _ _ rfl hq.le hq.fit hq.nn).mono ?_; rintro e w2 ⟨rfl, hb2⟩; rw [HLF0.out, HRT.out.1, HRT.out.2.1, HRT.out.2.2])
        have hbw2 : Below w.heap.size w w2 := below_own hba hb2
        refine (dec_any w2 B b vl vw L M x (hLa.on hb2) r' o.q.D o.q.c hF.ok (by omega) (by omega) (hDf.on hbw2) (Nat.le_trans hBB hbw2.size)).mono ?_
        rintro e w3 ⟨vl', vw', L', M', x', hP, hL3, hT, hO⟩
        obtain ⟨er, rfl⟩ := decR_form hP
        have eLF := hF.dec (by omega) hl12 hts hP
        obtain ⟨eOI, hxl⟩ := hI.dec hP
        have eWas : Was w3 B (.slice Dw nw cw) nw Kw x'.list (logS b vl' vw') := (hWa.on hb2).turn hT (fun _ e => e) (hLa.on hb2).noVB (by rw [hxl]; exact List.prefix_refl _) hO
        have eLo := low_of hO (Nat.le_trans hBB hbw2.size) hlow
        have hb3 : Below w.heap.size w w3 := hT.below hbw2 (fun j e => Nat.le_trans hBB' (hlow j e))
        clear hP hxl hT hO hb2 hbw2 hDf
        have st0 : (if (0 : Int) < 0 then 0 else (0 : Int)) = ((0 : Nat) : Int) := by simp
        have hsz3 := hL3.blt
        have HLF := Lib.hid eLF
        have HOI := Lib.hid eOI
        have HLO := Lib.hid eLo
        have hlen3 : x'.list.length ≤ 200 := by have := eLF.ok.l1; omega
        have hfew3 : ∀ r ∈ x'.list, r.vers.length ≤ 12 := fun r hr => eLF.ok.few r (.inl hr)
        have HUP := Lib.hid (List.pairwise_append.1 eOI.up).1
        clear eLF eOI eLo
        go_wp2_with fail
        refine (stable_any w3 B b vl' vw' L' M' x' hL3 0 0 rfl hlen3 hfew3).mono ?_
        rintro e w4 ⟨D4, cp4, K4, rfl, hrow4, hmr, hq4, hb4⟩
        rw [List.drop_zero] at hrow4 hmr ⊢
        have hL4 := hL3.on hb4
        have hW4 := eWas.on hb4
        have HMR := Lib.hid hmr
        have hK4 : K4.length = x'.list.length := by rw [← hmr, List.length_map]
        have HK4 := Lib.hid hK4
        have hnw : nw ≤ x'.list.length := by have := hW4.pre.length_le; rw [List.length_map, hW4.len] at this; exact this
        have hSlt := hL3.lt
        have hBs3 : B ≤ w3.heap.size := Nat.le_trans hBB hb3.size
        clear hmr hK4 eWas hL3
        have hR4 := OwnAt.of_row hrow4
        rcases hR4.form3 with ⟨rfl, hn0, rfl⟩ | ⟨g4, o4, rfl⟩
        · rw [hn0] at hR4 ⊢
          have hnw0 : nw = 0 := by omega
          subst hnw0
          have hKw : Kw = [] := List.eq_nil_of_length_eq_zero hW4.len
          go_wp2_with fail
          refine (same_list none Dw 0 0 cw [] [] w4 rfl (by omega) (fun e => absurd rfl e) (fun e => absurd rfl e) rfl (by simp) (by simp) (by simp)).mono ?_
          rintro e w5 ⟨rfl, hb5⟩
          have hL5 := hL4.on hb5
          have hlen5 := len_any w5 B b vl' vw' L' M' x' hL5
          rw [hn0] at hlen5
          have HLN := Lib.hid hlen5
          clear hlen5
          go_wp2_with (go_at_call 14; refine HLN.out.mono ?_; rintro e w6 ⟨rfl, rfl⟩)
          go_loopw [8] (fun i wr => ∃ j m : Nat, m = j + 1 ∧ (j = 0 ∨ m ≤ 0) ∧ i = .int .i64 (m : Int) ∧ Below w5.heap.size w5 wr) (fun i _ => 0 + 1 - (intOf i).toNat)
          case atStart => exact ⟨0, 1, rfl, .inl rfl, rfl, own_refl _⟩
          case round =>
            obtain ⟨j, m, hmj, hj, rfl, hBi⟩ := hrel
            by_cases hjl : m < 0
            · omega
            · have p2 : ¬ (m : Int) < ((0 : Nat) : Int) := by omega
              have hBi4 : Below w4.heap.size w4 wr := below_own hb5 hBi
              go_wp2_with fail
              go_roundw
              case rel => exact ⟨k + 1, x', vl', vw', L', M', _, _, _, K4, by omega, by omega, by go_num, rfl, HLF.out, HOI.out, hL5.on hBi, HLO.out, ⟨(hR4.on hBi4).weaken hBs3, by rw [HK4.out]; exact hn0, by rw [HMR.out]; exact List.prefix_refl _, fun q hq => (hq4 q hq).on hBi4, fun g hg => by cases hg⟩, below_own hb3 (below_own hb4 hBi4)⟩
              case measure => simp [intOf]; omega
        · have hnc : x'.list.length ≤ cp4 := by obtain ⟨D9, cp9, e9, h9⟩ := hR4.form; injection e9 with _ _ e9; omega
          have i1 : (nw : Int) ≤ (x'.list.length : Int) := by omega
          have i2 : (nw : Int) ≤ (cp4 : Int) := by omega
          have i3 : ¬ (x'.list.length : Int) < (nw : Int) := by omega
          have i4 : (0 : Int) ≤ (nw : Int) := by omega
          have i5 : decide (x'.list.length < nw) = false := by simp; omega
          have i6 : decide ((x'.list.length : Int) < (nw : Int)) = false := by simp; omega
          have hc4 := hR4.cells
          have hKr : (K4.take nw).map Q.r = Kw.map Q.r := by
            obtain ⟨t, ht⟩ := hW4.pre
            rw [List.map_take, HMR.out, ← ht]
            exact List.take_left' (by rw [List.length_map]; exact hW4.len)
          have hkf : ∀ q ∈ K4.take nw, q.r.vers.length ≤ 1000 := fun q hq => by
            have h1 : q.r ∈ x'.list := by rw [← HMR.out]; exact List.mem_map_of_mem (List.mem_of_mem_take hq)
            have := hfew3 _ h1
            omega
          have hkl : (K4.take nw).length = nw := by rw [List.length_take, HK4.out]; omega
          have HSM := Lib.hid (same_list (some ⟨g4, o4, none⟩) Dw nw cp4 cw (K4.take nw) Kw w4 hkl (by omega) (Cells.takeG (cf := Q.cells) hc4 nw) hW4.row.cells hKr (fun q hq => hq4 q (List.mem_of_mem_take hq)) hW4.q hkf)
          have HC4 := Lib.hid hc4
          clear hKr hkf hkl hc4
          go_wp2_with (go_at_call 18; refine HSM.out.mono ?_; rintro e w5 ⟨rfl, hb5⟩; have hL5 := hL4.on hb5; have HLN := Lib.hid (len_any w5 B b vl' vw' L' M' x' hL5))
          refine HLN.out.mono ?_
          rintro e w6 ⟨rfl, rfl⟩
          have hc5 := Lib.hid (HC4.out.on hb5)
          go_wp2_with fail
          go_loopw [8] (fun i wr => ∃ j m : Nat, m = j + 1 ∧ (j = 0 ∨ m ≤ x'.list.length) ∧ i = .int .i64 (m : Int) ∧ Below w5.heap.size w5 wr) (fun i _ => x'.list.length + 1 - (intOf i).toNat)
          case atStart => exact ⟨0, 1, rfl, .inl rfl, rfl, own_refl _⟩
          case round =>
            obtain ⟨j, m, hmj, hj, rfl, hBi⟩ := hrel
            by_cases hjl : m < x'.list.length
            · obtain ⟨a, ha⟩ : ∃ a, K4[j]? = some a := ⟨_, List.getElem?_eq_getElem (by rw [HK4.out]; omega)⟩
              obtain ⟨z, hz⟩ : ∃ z, K4[m]? = some z := ⟨_, List.getElem?_eq_getElem (by rw [HK4.out]; omega)⟩
              have har : (x'.list)[j]? = some a.r := by rw [← HMR.out, List.getElem?_map, ha]; rfl
              have hzr : (x'.list)[j + 1]? = some z.r := by rw [← hmj, ← HMR.out, List.getElem?_map, hz]; rfl
              have hlt2 := rlt_at HUP.out har hzr
              obtain ⟨ga, oa, e1, a0, a1, a2, a3⟩ := get_q (hc5.out.on hBi) ha
              obtain ⟨gz, oz, e2, z0, z1, z2, z3⟩ := get_q (hc5.out.on hBi) hz
              obtain ⟨rfl, rfl⟩ : g4 = ga ∧ o4 = oa := by injection e1 with e; injection e with e1 e2; exact ⟨e1, e2⟩
              obtain ⟨rfl, rfl⟩ : g4 = gz ∧ o4 = oz := by injection e2 with e; injection e with e1 e2; exact ⟨e1, e2⟩
              have p0 : (0 : Int) ≤ (m : Int) := by omega
              have p1 : (0 : Int) ≤ (j : Int) := by omega
              have p2 : (m : Int) < ((x'.list.length : Nat) : Int) := by omega
              have p3 : (j : Int) < ((x'.list.length : Nat) : Int) := by omega
              have p4 : (m : Int) + 1 ≤ 9223372036854775807 := by omega
              have j1 : IntKind.i64.wrap ((m : Int) - 1) = (j : Int) := by rw [show (m : Int) - 1 = (j : Int) from by omega]; exact IntWalk.i64_in _ (by omega)
              have j3 : IntKind.i64.wrap ((m : Int) + 1) = (m : Int) + 1 := IntWalk.i64_in _ (by omega)
              have hlr : ∀ W, Calls Try.prog 20 #[.agg #[.int .u64 a.r.ts, .int .i64 a.r.dc, .int .i64 a.r.tx], .agg #[.int .u64 z.r.ts, .int .i64 z.r.dc, .int .i64 z.r.tx]] W fun e w' => e = .returned (.bool true) ∧ Below W.heap.size W w' := fun W => by
                have := less_any a.r.ts a.r.dc a.r.tx z.r.ts z.r.dc z.r.tx W
                rwa [hlt2] at this
              have HLR := Lib.hid hlr
              have HMJ := Lib.hid hmj
              clear ha hz har hzr hlt2 e1 e2 hlr hmj hj hjl
              go_wp2_with fail
              go_region_held3 (fun w' => Below wr.heap.size wr w' ∧ w'.cell? ⟨g4, o4 + j * 4, none⟩ = some (.int .u64 a.r.ts) ∧ w'.cell? ⟨g4, o4 + j * 4 + 1, none⟩ = some (.int .i64 a.r.dc) ∧ w'.cell? ⟨g4, o4 + j * 4 + 2, none⟩ = some (.int .i64 a.r.tx) ∧ w'.cell? ⟨g4, o4 + j * 4 + 3, none⟩ = some (.slice a.D a.r.vers.length a.c) ∧ w'.cell? ⟨g4, o4 + m * 4, none⟩ = some (.int .u64 z.r.ts) ∧ w'.cell? ⟨g4, o4 + m * 4 + 1, none⟩ = some (.int .i64 z.r.dc) ∧ w'.cell? ⟨g4, o4 + m * 4 + 2, none⟩ = some (.int .i64 z.r.tx) ∧ w'.cell? ⟨g4, o4 + m * 4 + 3, none⟩ = some (.slice z.D z.r.vers.length z.c))
                  (first | (refine ⟨own_drew (own_refl _), ?_, ?_, ?_, ?_, ?_, ?_, ?_, ?_⟩ <;> (go_simp; done)) | (go_split_ands; refine ⟨below_own (by assumption) (by assumption), ?_, ?_, ?_, ?_, ?_, ?_, ?_, ?_⟩ <;> exact cell_on (by assumption) (by assumption)))
                  (first | (go_at_call 21; refine (mark_any _ _ _ _ _).mono ?_; rintro e w2 ⟨rfl, hb2⟩) | (go_at_call 20; refine (HLR.out _).mono ?_; rintro e w2 ⟨rfl, hb2⟩))
              rename_i hSS
              have hb3' := hSS.1
              clear hSS
              go_wp2
              go_roundw
              case rel => exact ⟨j + 1, m + 1, by have := HMJ.out; omega, .inr (by omega), by go_num, below_own hBi hb3'⟩
              case measure => simp [intOf]; omega
            · have p2 : ¬ (m : Int) < ((x'.list.length : Nat) : Int) := by omega
              have hBi4 : Below w4.heap.size w4 wr := below_own hb5 hBi
              go_wp2_with fail
              go_roundw
              case rel => exact ⟨k + 1, x', vl', vw', L', M', _, _, _, K4, by omega, by omega, by go_num, rfl, HLF.out, HOI.out, hL5.on hBi, HLO.out, ⟨(hR4.on hBi4).weaken hBs3, HK4.out, by rw [HMR.out]; exact List.prefix_refl _, fun q hq => (hq4 q hq).on hBi4, fun g hg e => by cases hg; have := (hR4.lt _ rfl).1; have := hSlt _ e; omega⟩, below_own hb3 (below_own hb4 hBi4)⟩
              case measure => simp [intOf]; omega
      · have e0 : (o.kind == 0) = false := by simpa using k0
        clear k0
        have hwt := hw.t
        go_wp2_with fail
        refine (release_any _ B b vl vw L M x hLa (by omega) o.t (Nat.le_trans hBB hba.size)).mono ?_
        rintro e w3 ⟨vl', vw', L', M', x', ⟨rfl, hx'⟩, hL3, hT, hO⟩
        have eLF : LFine x' (k + 1) := by rw [hx']; exact hF.rel hwt
        have eOI : OrdI x' := by rw [hx']; exact hI.rel o.t
        have eWas : Was w3 B (.slice Dw nw cw) nw Kw x'.list (logS b vl' vw') := hWa.turn hT (fun _ e => e) hLa.noVB (by rw [hx']; exact relX_prefix x o.t) hO
        have eLo := low_of hO (Nat.le_trans hBB hba.size) hlow
        have hb3 : Below w.heap.size w w3 := hT.below hba (fun j e => Nat.le_trans hBB' (hlow j e))
        clear hx' hT hO
        have st0 : (if (0 : Int) < 0 then 0 else (0 : Int)) = ((0 : Nat) : Int) := by simp
        have hsz3 := hL3.blt
        have HLF := Lib.hid eLF
        have HOI := Lib.hid eOI
        have HLO := Lib.hid eLo
        have hlen3 : x'.list.length ≤ 200 := by have := eLF.ok.l1; omega
        have hfew3 : ∀ r ∈ x'.list, r.vers.length ≤ 12 := fun r hr => eLF.ok.few r (.inl hr)
        have HUP := Lib.hid (List.pairwise_append.1 eOI.up).1
        clear eLF eOI eLo
        go_wp2_with fail
        refine (stable_any w3 B b vl' vw' L' M' x' hL3 0 0 rfl hlen3 hfew3).mono ?_
        rintro e w4 ⟨D4, cp4, K4, rfl, hrow4, hmr, hq4, hb4⟩
        rw [List.drop_zero] at hrow4 hmr ⊢
        have hL4 := hL3.on hb4
        have hW4 := eWas.on hb4
        have HMR := Lib.hid hmr
        have hK4 : K4.length = x'.list.length := by rw [← hmr, List.length_map]
        have HK4 := Lib.hid hK4
        have hnw : nw ≤ x'.list.length := by have := hW4.pre.length_le; rw [List.length_map, hW4.len] at this; exact this
        have hSlt := hL3.lt
        have hBs3 : B ≤ w3.heap.size := Nat.le_trans hBB hb3.size
        clear hmr hK4 eWas hL3
        have hR4 := OwnAt.of_row hrow4
        rcases hR4.form3 with ⟨rfl, hn0, rfl⟩ | ⟨g4, o4, rfl⟩
        · rw [hn0] at hR4 ⊢
          have hnw0 : nw = 0 := by omega
          subst hnw0
          have hKw : Kw = [] := List.eq_nil_of_length_eq_zero hW4.len
          go_wp2_with fail
          refine (same_list none Dw 0 0 cw [] [] w4 rfl (by omega) (fun e => absurd rfl e) (fun e => absurd rfl e) rfl (by simp) (by simp) (by simp)).mono ?_
          rintro e w5 ⟨rfl, hb5⟩
          have hL5 := hL4.on hb5
          have hlen5 := len_any w5 B b vl' vw' L' M' x' hL5
          rw [hn0] at hlen5
          have HLN := Lib.hid hlen5
          clear hlen5
          go_wp2_with (go_at_call 14; refine HLN.out.mono ?_; rintro e w6 ⟨rfl, rfl⟩)
          go_loopw [8] (fun i wr => ∃ j m : Nat, m = j + 1 ∧ (j = 0 ∨ m ≤ 0) ∧ i = .int .i64 (m : Int) ∧ Below w5.heap.size w5 wr) (fun i _ => 0 + 1 - (intOf i).toNat)
          case atStart => exact ⟨0, 1, rfl, .inl rfl, rfl, own_refl _⟩
          case round =>
            obtain ⟨j, m, hmj, hj, rfl, hBi⟩ := hrel
            by_cases hjl : m < 0
            · omega
            · have p2 : ¬ (m : Int) < ((0 : Nat) : Int) := by omega
              have hBi4 : Below w4.heap.size w4 wr := below_own hb5 hBi
              go_wp2_with fail
              go_roundw
              case rel => exact ⟨k + 1, x', vl', vw', L', M', _, _, _, K4, by omega, by omega, by go_num, rfl, HLF.out, HOI.out, hL5.on hBi, HLO.out, ⟨(hR4.on hBi4).weaken hBs3, by rw [HK4.out]; exact hn0, by rw [HMR.out]; exact List.prefix_refl _, fun q hq => (hq4 q hq).on hBi4, fun g hg => by cases hg⟩, below_own hb3 (below_own hb4 hBi4)⟩
              case measure => simp [intOf]; omega
        · have hnc : x'.list.length ≤ cp4 := by obtain ⟨D9, cp9, e9, h9⟩ := hR4.form; injection e9 with _ _ e9; omega
          have i1 : (nw : Int) ≤ (x'.list.length : Int) := by omega
          have i2 : (nw : Int) ≤ (cp4 : Int) := by omega
          have i3 : ¬ (x'.list.length : Int) < (nw : Int) := by omega
          have i4 : (0 : Int) ≤ (nw : Int) := by omega
          have i5 : decide (x'.list.length < nw) = false := by simp; omega
          have i6 : decide ((x'.list.length : Int) < (nw : Int)) = false := by simp; omega
          have hc4 := hR4.cells
          have hKr : (K4.take nw).map Q.r = Kw.map Q.r := by
            obtain ⟨t, ht⟩ := hW4.pre
            rw [List.map_take, HMR.out, ← ht]
            exact List.take_left' (by rw [List.length_map]; exact hW4.len)
          have hkf : ∀ q ∈ K4.take nw, q.r.vers.length ≤ 1000 := fun q hq => by
            have h1 : q.r ∈ x'.list := by rw [← HMR.out]; exact List.mem_map_of_mem (List.mem_of_mem_take hq)
            have := hfew3 _ h1
            omega
          have hkl : (K4.take nw).length = nw := by rw [List.length_take, HK4.out]; omega
          have HSM := Lib.hid (same_list (some ⟨g4, o4, none⟩) Dw nw cp4 cw (K4.take nw) Kw w4 hkl (by omega) (Cells.takeG (cf := Q.cells) hc4 nw) hW4.row.cells hKr (fun q hq => hq4 q (List.mem_of_mem_take hq)) hW4.q hkf)
          have HC4 := Lib.hid hc4
          clear hKr hkf hkl hc4
          go_wp2_with (go_at_call 18; refine HSM.out.mono ?_; rintro e w5 ⟨rfl, hb5⟩; have hL5 := hL4.on hb5; have HLN := Lib.hid (len_any w5 B b vl' vw' L' M' x' hL5))
          refine HLN.out.mono ?_
          rintro e w6 ⟨rfl, rfl⟩
          have hc5 := Lib.hid (HC4.out.on hb5)
          go_wp2_with fail
          go_loopw [8] (fun i wr => ∃ j m : Nat, m = j + 1 ∧ (j = 0 ∨ m ≤ x'.list.length) ∧ i = .int .i64 (m : Int) ∧ Below w5.heap.size w5 wr) (fun i _ => x'.list.length + 1 - (intOf i).toNat)
          case atStart => exact ⟨0, 1, rfl, .inl rfl, rfl, own_refl _⟩
          case round =>
            obtain ⟨j, m, hmj, hj, rfl, hBi⟩ := hrel
            by_cases hjl : m < x'.list.length
            · obtain ⟨a, ha⟩ : ∃ a, K4[j]? = some a := ⟨_, List.getElem?_eq_getElem (by rw [HK4.out]; omega)⟩
              obtain ⟨z, hz⟩ : ∃ z, K4[m]? = some z := ⟨_, List.getElem?_eq_getElem (by rw [HK4.out]; omega)⟩
              have har : (x'.list)[j]? = some a.r := by rw [← HMR.out, List.getElem?_map, ha]; rfl
              have hzr : (x'.list)[j + 1]? = some z.r := by rw [← hmj, ← HMR.out, List.getElem?_map, hz]; rfl
              have hlt2 := rlt_at HUP.out har hzr
              obtain ⟨ga, oa, e1, a0, a1, a2, a3⟩ := get_q (hc5.out.on hBi) ha
              obtain ⟨gz, oz, e2, z0, z1, z2, z3⟩ := get_q (hc5.out.on hBi) hz
              obtain ⟨rfl, rfl⟩ : g4 = ga ∧ o4 = oa := by injection e1 with e; injection e with e1 e2; exact ⟨e1, e2⟩
              obtain ⟨rfl, rfl⟩ : g4 = gz ∧ o4 = oz := by injection e2 with e; injection e with e1 e2; exact ⟨e1, e2⟩
              have p0 : (0 : Int) ≤ (m : Int) := by omega
              have p1 : (0 : Int) ≤ (j : Int) := by omega
              have p2 : (m : Int) < ((x'.list.length : Nat) : Int) := by omega
              have p3 : (j : Int) < ((x'.list.length : Nat) : Int) := by omega
              have p4 : (m : Int) + 1 ≤ 9223372036854775807 := by omega
              have j1 : IntKind.i64.wrap ((m : Int) - 1) = (j : Int) := by rw [show (m : Int) - 1 = (j : Int) from by omega]; exact IntWalk.i64_in _ (by omega)
              have j3 : IntKind.i64.wrap ((m : Int) + 1) = (m : Int) + 1 := IntWalk.i64_in _ (by omega)
              have hlr : ∀ W, Calls Try.prog 20 #[.agg #[.int .u64 a.r.ts, .int .i64 a.r.dc, .int .i64 a.r.tx], .agg #[.int .u64 z.r.ts, .int .i64 z.r.dc, .int .i64 z.r.tx]] W fun e w' => e = .returned (.bool true) ∧ Below W.heap.size W w' := fun W => by
                have := less_any a.r.ts a.r.dc a.r.tx z.r.ts z.r.dc z.r.tx W
                rwa [hlt2] at this
              have HLR := Lib.hid hlr
              have HMJ := Lib.hid hmj
              clear ha hz har hzr hlt2 e1 e2 hlr hmj hj hjl
              go_wp2_with fail
              go_region_held3 (fun w' => Below wr.heap.size wr w' ∧ w'.cell? ⟨g4, o4 + j * 4, none⟩ = some (.int .u64 a.r.ts) ∧ w'.cell? ⟨g4, o4 + j * 4 + 1, none⟩ = some (.int .i64 a.r.dc) ∧ w'.cell? ⟨g4, o4 + j * 4 + 2, none⟩ = some (.int .i64 a.r.tx) ∧ w'.cell? ⟨g4, o4 + j * 4 + 3, none⟩ = some (.slice a.D a.r.vers.length a.c) ∧ w'.cell? ⟨g4, o4 + m * 4, none⟩ = some (.int .u64 z.r.ts) ∧ w'.cell? ⟨g4, o4 + m * 4 + 1, none⟩ = some (.int .i64 z.r.dc) ∧ w'.cell? ⟨g4, o4 + m * 4 + 2, none⟩ = some (.int .i64 z.r.tx) ∧ w'.cell? ⟨g4, o4 + m * 4 + 3, none⟩ = some (.slice z.D z.r.vers.length z.c))
                  (first | (refine ⟨own_drew (own_refl _), ?_, ?_, ?_, ?_, ?_, ?_, ?_, ?_⟩ <;> (go_simp; done)) | (go_split_ands; refine ⟨below_own (by assumption) (by assumption), ?_, ?_, ?_, ?_, ?_, ?_, ?_, ?_⟩ <;> exact cell_on (by assumption) (by assumption)))
                  (first | (go_at_call 21; refine (mark_any _ _ _ _ _).mono ?_; rintro e w2 ⟨rfl, hb2⟩) | (go_at_call 20; refine (HLR.out _).mono ?_; rintro e w2 ⟨rfl, hb2⟩))
              rename_i hSS
              have hb3' := hSS.1
              clear hSS
              go_wp2
              go_roundw
              case rel => exact ⟨j + 1, m + 1, by have := HMJ.out; omega, .inr (by omega), by go_num, below_own hBi hb3'⟩
              case measure => simp [intOf]; omega
            · have p2 : ¬ (m : Int) < ((x'.list.length : Nat) : Int) := by omega
              have hBi4 : Below w4.heap.size w4 wr := below_own hb5 hBi
              go_wp2_with fail
              go_roundw
              case rel => exact ⟨k + 1, x', vl', vw', L', M', _, _, _, K4, by omega, by omega, by go_num, rfl, HLF.out, HOI.out, hL5.on hBi, HLO.out, ⟨(hR4.on hBi4).weaken hBs3, HK4.out, by rw [HMR.out]; exact List.prefix_refl _, fun q hq => (hq4 q hq).on hBi4, fun g hg e => by cases hg; have := (hR4.lt _ rfl).1; have := hSlt _ e; omega⟩, below_own hb3 (below_own hb4 hBi4)⟩
              case measure => simp [intOf]; omega
    · have hke : k = n ∨ k = 60 := by omega
      by_cases hkn : k < n
      · have hd : decide ((k : Int) < 60) = false := by simp; omega
        have hd2 : (k : Int) < (n : Int) := by omega
        have hd3 : ¬ (k : Int) < 60 := by omega
        clear hke hlt
        go_wp2_with (go_at_call 17; refine (awake_any _).mono ?_; rintro e w9 ⟨rfl, hb9⟩)
        go_ret
        exact ⟨rfl, below_own hbel hb9⟩
      · have hd3 : ¬ (k : Int) < (n : Int) := by omega
        clear hke hlt
        go_wp2_with (go_at_call 17; refine (awake_any _).mono ?_; rintro e w9 ⟨rfl, hb9⟩)
        go_ret
        exact ⟨rfl, below_own hbel hb9⟩
end Go.Proofs.Ytggbdjdfejcpjaa.lawOrderRises
