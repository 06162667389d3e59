/-
  The walks of the log: New, Len, Waiting, Decide, Release, and all calls of a nil log. Conditions: the log lies as the hypotheses say.
-/
import Derived.Test.YtggbdjdfejcpjaaOrdP
import Derived.Test.YtggbdjdfejcpjaaRec
import Derived.Deep.RegionHeld3
import Derived.Deep.QuietTactic
import Derived.BigQuiet
import Derived.Outline
import Derived.Lib.Hide
import Derived.IntWalk
import Derived.BigRegion
import Derived.Deep.RegionLaw
namespace Go.Proofs.Ytggbdjdfejcpjaa
open Go.RowKit Go.Maps
set_option linter.unusedVariables false

theorem omark_any (r : R) (D : Option Addr) (n c : Nat) (w : World) :
    Calls Try.prog 25 #[.agg #[.int .u64 r.ts, .int .i64 r.dc, .int .i64 r.tx, .slice D n c]] w fun e w' => e = .returned (.agg #[.int .u64 r.ts, .int .i64 r.dc, .int .i64 r.tx]) ∧ Below w.heap.size w w' := by
  go_enter Try.func25, Try.ntmps25
  go_wp2
  first
    | (go_ret; exact ⟨rfl, own_alloc (own_refl _) _⟩)
    | (refine bodyPost_ret (v := .agg #[.int .u64 r.ts, .int .i64 r.dc, .int .i64 r.tx]) (by simp [results, Try.results25, go_sem]) rfl ⟨rfl, ?_⟩
       exact own_alloc (own_alloc (own_refl _) _) _)
def lg0 : Lg := ⟨[], [], 0⟩
theorem lnew_any (w : World) : Calls Try.prog 8 #[] w fun e w' => ∃ b, e = .returned (.pointer (some ⟨b, 0, none⟩)) ∧ w.heap.size ≤ b ∧ LogAt w' w.heap.size b (.slice none 0 0) (.slice none 0 0) [] [] lg0 ∧ Below w.heap.size w w' := by
  go_enter Try.func8, Try.ntmps8
  go_wp2
  go_ret
  refine ⟨w.heap.size, rfl, Nat.le_refl _, ⟨?_, OwnAt.nil _ _ _ _, OwnAt.nil _ _ _ _, rfl, rfl, by simp, by simp, fun g hg => by cases hg⟩, own_alloc (own_refl _) _⟩
  rw [heap_alloc_new]
  rfl
theorem len_any (w : World) (B b : Nat) (vl vw : Value) (L M : List Q) (x : Lg) (h : LogAt w B b vl vw L M x) : Calls Try.prog 14 #[.pointer (some ⟨b, 0, none⟩)] w fun e w' => e = .returned (.int .i64 x.list.length) ∧ w = w' := by
  obtain ⟨Dl, cl, rfl, hcl⟩ := h.hl.form
  have c0 : w.cell? ⟨b, 0, none⟩ = some (.slice Dl x.list.length cl) := h.cell 0
  go_enter Try.func14, Try.ntmps14
  go_wp2
  go_ret
  exact ⟨rfl, rfl⟩
theorem waiting_any (w : World) (B b : Nat) (vl vw : Value) (L M : List Q) (x : Lg) (h : LogAt w B b vl vw L M x) : Calls Try.prog 15 #[.pointer (some ⟨b, 0, none⟩)] w fun e w' => e = .returned (.int .i64 x.wait.length) ∧ w = w' := by
  obtain ⟨Dw, cw, rfl, hcw⟩ := h.hw.form
  have c1 : w.cell? ⟨b, 1, none⟩ = some (.slice Dw x.wait.length cw) := h.cell 1
  go_enter Try.func15, Try.ntmps15
  go_wp2
  go_ret
  exact ⟨rfl, rfl⟩
theorem Decide_none (r : R) (D : Option Addr) (n c : Nat) (w : World) : Calls Try.prog 9 #[.pointer none, .agg #[.int .u64 r.ts, .int .i64 r.dc, .int .i64 r.tx, .slice D n c]] w fun e w' => e = .returned (.int .i64 1) ∧ Below w.heap.size w w' := by
  go_enter Try.func9, Try.ntmps9
  go_wp2
  go_ret
  exact ⟨rfl, own_alloc (own_refl _) _⟩
theorem Release_none (t : Int) (w : World) : Calls Try.prog 12 #[.pointer none, .int .u64 t] w fun e w' => e = .returned (.int .i64 0) ∧ w = w' := by
  go_enter Try.func12, Try.ntmps12
  go_wp2
  go_ret
  exact ⟨rfl, rfl⟩
theorem Len_none (w : World) : Calls Try.prog 14 #[.pointer none] w fun e w' => e = .returned (.int .i64 0) ∧ w = w' := by
  go_enter Try.func14, Try.ntmps14
  go_wp2
  go_ret
  exact ⟨rfl, rfl⟩
theorem Waiting_none (w : World) : Calls Try.prog 15 #[.pointer none] w fun e w' => e = .returned (.int .i64 0) ∧ w = w' := by
  go_enter Try.func15, Try.ntmps15
  go_wp2
  go_ret
  exact ⟨rfl, rfl⟩
/-- what an answer of Decide is. -/
def DecR (x : Lg) (r : R) (e : Ending) (w' : World) (x' : Lg) : Prop :=
  (r.ts ≤ x.bound ∧ e = .returned (.int .i64 11) ∧ x' = x) ∨ (x.bound < r.ts ∧ (∃ a ∈ x.wait, a.k = r.k) ∧ e = .returned (.int .i64 8) ∧ x' = x) ∨
  (x.bound < r.ts ∧ (∀ a ∈ x.wait, a.k ≠ r.k) ∧ e = .returned (.int .i64 0) ∧ x' = ⟨x.list, putW x.wait r, x.bound⟩)
def LStepIs (w : World) (B b : Nat) (vl vw : Value) (P : Ending → World → Lg → Prop) (e : Ending) (w' : World) : Prop :=
  ∃ vl' vw' L' M' x', P e w' x' ∧ LogAt w' B b vl' vw' L' M' x' ∧ Turns (logS b vl vw) w w' ∧ ∀ g, g < w.heap.size → logS b vl' vw' g → logS b vl vw g
theorem lkeep {w w' : World} {B b : Nat} {vl vw : Value} {L M : List Q} {x : Lg} {P : Ending → World → Lg → Prop} {e : Ending} (h : LogAt w B b vl vw L M x) (hP : P e w' x) (hb : Below w.heap.size w w') : LStepIs w B b vl vw P e w' := ⟨vl, vw, L, M, x, hP, h.on hb, Turns.of_below hb, fun _ _ e => e⟩
theorem dec_old (w : World) (B b : Nat) (vl vw : Value) (L M : List Q) (x : Lg) (h : LogAt w B b vl vw L M x) (r : R) (D : Option Addr) (c : Nat) (hlt : r.ts ≤ x.bound) : Calls Try.prog 9 #[.pointer (some ⟨b, 0, none⟩), .agg #[.int .u64 r.ts, .int .i64 r.dc, .int .i64 r.tx, .slice D r.vers.length c]] w fun e w' => e = .returned (.int .i64 11) ∧ Below w.heap.size w w' := by
  have c2 : w.cell? ⟨b, 2, none⟩ = some (.int .u64 x.bound) := h.cell 2
  have hbl := h.blt
  have d1 : decide (r.ts ≤ x.bound) = true := by simpa using hlt
  go_enter Try.func9, Try.ntmps9
  go_wp2_with fail
  go_quiet (fail)
  go_wp2
  go_ret
  exact ⟨rfl, own_drewN (own_alloc (own_refl _) _) _⟩
set_option maxRecDepth 100000 in
set_option maxHeartbeats 8000000 in
theorem dec_new (w : World) (B b : Nat) (vl vw : Value) (L M : List Q) (x : Lg) (h : LogAt w B b vl vw L M x) (r : R) (D : Option Addr) (c : Nat) (hx : x.ok) (hl : x.wait.length ≤ 150) (hlt : x.bound < r.ts) (hr : r.vers.length ≤ 1000) (hD : Cells w D (flatV r.vers)) (hB : B ≤ w.heap.size) : Calls Try.prog 9 #[.pointer (some ⟨b, 0, none⟩), .agg #[.int .u64 r.ts, .int .i64 r.dc, .int .i64 r.tx, .slice D r.vers.length c]] w (LStepIs w B b vl vw (DecR x r)) := by
  obtain ⟨i0, hi0, hz0, hz1, hz2⟩ := info_parts infoRec
  obtain ⟨Dw, cw, rfl, hcw⟩ := h.hw.form
  have c1 : w.cell? ⟨b, 1, none⟩ = some (.slice Dw x.wait.length cw) := h.cell 1
  have c2 : w.cell? ⟨b, 2, none⟩ = some (.int .u64 x.bound) := h.cell 2
  have f1 : w.frozen? ⟨b, 1, none⟩ = false := h.frozen 1
  have hbl := h.blt
  have hml := h.ml
  have d1 : ¬ r.ts ≤ x.bound := by omega
  have d2 : decide (r.ts ≤ x.bound) = false := by simpa using d1
  have HLT := Lib.hid hlt
  have HML := Lib.hid hml
  clear hml hlt
  go_enter Try.func9, Try.ntmps9
  go_wp2_with fail
  go_quiet (fail)
  obtain ⟨W, hW⟩ : ∃ W, (w.alloc (.cells #[.int .u64 r.ts, .int .i64 r.dc, .int .i64 r.tx, .slice D r.vers.length c] 32)).drewN nq = W := ⟨_, rfl⟩
  have hxW : Below (w.alloc (.cells #[.int .u64 r.ts, .int .i64 r.dc, .int .i64 r.tx, .slice D r.vers.length c] 32)).heap.size (w.alloc (.cells #[.int .u64 r.ts, .int .i64 r.dc, .int .i64 r.tx, .slice D r.vers.length c] 32)) W := hW ▸ own_drewN (own_refl _) nq
  have hbW : Below w.heap.size w W := below_own (own_alloc (own_refl _) _) hxW
  rw [hW]
  clear hW d1 d2
  have c1' := cell_on hbW c1
  go_wp2_with fail
  go_loopw [5, 24] (fun at' i wr => ∃ k : Nat, k ≤ x.wait.length ∧ i = .int .i64 k ∧ at' = .int .i64 (atTo x.wait r k) ∧ (∀ j a, j < k → x.wait[j]? = some a → a.k ≠ r.k) ∧ Below (w.alloc (.cells #[.int .u64 r.ts, .int .i64 r.dc, .int .i64 r.tx, .slice D r.vers.length c] 32)).heap.size (w.alloc (.cells #[.int .u64 r.ts, .int .i64 r.dc, .int .i64 r.tx, .slice D r.vers.length c] 32)) wr) (fun _ i _ => x.wait.length - (intOf i).toNat)
  case atStart => exact ⟨0, Nat.zero_le _, rfl, rfl, fun j a hj => by omega, hxW⟩
  case round =>
    obtain ⟨k, hk, rfl, rfl, hall, hxr⟩ := hrel
    have hbr : Below w.heap.size w wr := below_own (own_alloc (own_refl _) _) hxr
    have y0 : wr.cell? ⟨w.heap.size, 0, none⟩ = some (.int .u64 r.ts) := (box_on hxr).1 0
    have y1 : wr.cell? ⟨w.heap.size, 1, none⟩ = some (.int .i64 r.dc) := (box_on hxr).1 1
    have y2 : wr.cell? ⟨w.heap.size, 2, none⟩ = some (.int .i64 r.tx) := (box_on hxr).1 2
    have y3 : wr.cell? ⟨w.heap.size, 3, none⟩ = some (.slice D r.vers.length c) := (box_on hxr).1 3
    have hys := (box_on hxr).2.2
    have HALL := Lib.hid hall
    clear hall
    by_cases hlt : k < x.wait.length
    · obtain ⟨q, hq⟩ : ∃ q, M[k]? = some q := ⟨_, List.getElem?_eq_getElem (by rw [HML.out]; exact hlt)⟩
      have hqr : x.wait[k]? = some q.r := by rw [← h.mr, List.getElem?_map, hq]; rfl
      obtain ⟨g, off, rfl, q0, q1, q2, q3⟩ := get_q h.hw.cells hq
      have q0' := cell_on hbr q0
      have q1' := cell_on hbr q1
      have q2' := cell_on hbr q2
      have q3' := cell_on hbr q3
      have g3 : (0 : Int) ≤ (k : Int) := by omega
      have g4 : (k : Int) < (x.wait.length : Int) := by omega
      have g5 : (k : Int) ≤ 150 := by omega
      have HQR := Lib.hid hqr
      obtain ⟨z, hz⟩ : ∃ z, mcmp q.r.ts q.r.dc q.r.tx r.ts r.dc r.tx = z := ⟨_, rfl⟩
      have HZ := Lib.hid hz
      clear q0 q1 q2 q3 hq hqr hz
      have go : ∀ (W2 : World), Below (wr.alloc (.cells #[.int .u64 q.r.ts, .int .i64 q.r.dc, .int .i64 q.r.tx, .slice q.D q.r.vers.length q.c] 32)).heap.size (wr.alloc (.cells #[.int .u64 q.r.ts, .int .i64 q.r.dc, .int .i64 q.r.tx, .slice q.D q.r.vers.length q.c] 32)) W2 → Below (w.alloc (.cells #[.int .u64 r.ts, .int .i64 r.dc, .int .i64 r.tx, .slice D r.vers.length c] 32)).heap.size (w.alloc (.cells #[.int .u64 r.ts, .int .i64 r.dc, .int .i64 r.tx, .slice D r.vers.length c] 32)) W2 := fun W2 hb => below_own (own_alloc hxr _) hb
      rcases (by omega : z = 0 ∨ z < 0 ∨ 0 < z) with hz | hz | hz
      · have e0 : (z == 0) = true := by simpa using hz
        have hsame : q.r.k = r.k := by have := (mcmp_zero _ _ _ _ _ _).1 (HZ.out.trans hz); obtain ⟨e1, e2, e3⟩ := this; unfold R.k; rw [e1, e2, e3]
        have HS := Lib.hid hsame
        clear hz hsame
        go_wp2_with fail
        go_region_held3 (fun w' => Below (wr.alloc (.cells #[.int .u64 q.r.ts, .int .i64 q.r.dc, .int .i64 q.r.tx, .slice q.D q.r.vers.length q.c] 32)).heap.size (wr.alloc (.cells #[.int .u64 q.r.ts, .int .i64 q.r.dc, .int .i64 q.r.tx, .slice q.D q.r.vers.length q.c] 32)) w' ∧ w'.cell? ⟨w.heap.size, 0, none⟩ = some (.int .u64 r.ts) ∧ w'.cell? ⟨w.heap.size, 1, none⟩ = some (.int .i64 r.dc) ∧ w'.cell? ⟨w.heap.size, 2, none⟩ = some (.int .i64 r.tx) ∧ w'.cell? ⟨w.heap.size, 3, none⟩ = some (.slice D r.vers.length c) ∧ w'.cell? ⟨wr.heap.size, 0, none⟩ = some (.int .u64 q.r.ts) ∧ w'.cell? ⟨wr.heap.size, 1, none⟩ = some (.int .i64 q.r.dc) ∧ w'.cell? ⟨wr.heap.size, 2, none⟩ = some (.int .i64 q.r.tx) ∧ w'.cell? ⟨wr.heap.size, 3, none⟩ = some (.slice q.D q.r.vers.length q.c))
          (first | (refine ⟨own_drew (own_refl _), ?_, ?_, ?_, ?_, ?_, ?_, ?_, ?_⟩ <;> (go_simp; done)) | (go_split_ands; refine ⟨below_own (by assumption) (by assumption), ?_, ?_, ?_, ?_, ?_, ?_, ?_, ?_⟩ <;> exact cell_on (by assumption) (by assumption)))
          (first | (go_at_call 25; refine (omark_any _ _ _ _ _).mono ?_; rintro e w2 ⟨rfl, hb2⟩) | (go_at_call 24; refine (cmp_any _ _ _ _ _ _ _).mono ?_; rintro e w2 ⟨rfl, hb2⟩; rw [HZ.out]))
        rename_i hSS
        have hb3 := go _ hSS.1
        clear hSS
        go_wp2
        go_ret
        exact lkeep h (.inr (.inl ⟨HLT.out, ⟨q.r, List.mem_of_getElem? HQR.out, HS.out⟩, rfl, rfl⟩)) (below_own (own_alloc (own_refl _) _) hb3)
      · have e0 : (z == 0) = false := by simp; omega
        have e1 : decide (z < 0) = true := by simpa using hz
        have hne : q.r.k ≠ r.k := fun e => by have := (mcmp_zero _ _ _ _ _ _).2 ⟨congrArg K.ts e, congrArg K.dc e, congrArg K.tx e⟩; have h2 := HZ.out; rw [show mcmp q.r.ts q.r.dc q.r.tx r.ts r.dc r.tx = 0 from this] at h2; omega
        have hkl : klt q.r.k r.k = true := klt_of_neg (by have h2 := HZ.out; show mcmp q.r.ts q.r.dc q.r.tx r.ts r.dc r.tx < 0; omega)
        have HN := Lib.hid hne
        have HT := Lib.hid (atTo_yes HQR.out hkl)
        clear hz hne hkl
        go_wp2_with fail
        go_region_held3 (fun w' => Below (wr.alloc (.cells #[.int .u64 q.r.ts, .int .i64 q.r.dc, .int .i64 q.r.tx, .slice q.D q.r.vers.length q.c] 32)).heap.size (wr.alloc (.cells #[.int .u64 q.r.ts, .int .i64 q.r.dc, .int .i64 q.r.tx, .slice q.D q.r.vers.length q.c] 32)) w' ∧ w'.cell? ⟨w.heap.size, 0, none⟩ = some (.int .u64 r.ts) ∧ w'.cell? ⟨w.heap.size, 1, none⟩ = some (.int .i64 r.dc) ∧ w'.cell? ⟨w.heap.size, 2, none⟩ = some (.int .i64 r.tx) ∧ w'.cell? ⟨w.heap.size, 3, none⟩ = some (.slice D r.vers.length c) ∧ w'.cell? ⟨wr.heap.size, 0, none⟩ = some (.int .u64 q.r.ts) ∧ w'.cell? ⟨wr.heap.size, 1, none⟩ = some (.int .i64 q.r.dc) ∧ w'.cell? ⟨wr.heap.size, 2, none⟩ = some (.int .i64 q.r.tx) ∧ w'.cell? ⟨wr.heap.size, 3, none⟩ = some (.slice q.D q.r.vers.length q.c))
          (first | (refine ⟨own_drew (own_refl _), ?_, ?_, ?_, ?_, ?_, ?_, ?_, ?_⟩ <;> (go_simp; done)) | (go_split_ands; refine ⟨below_own (by assumption) (by assumption), ?_, ?_, ?_, ?_, ?_, ?_, ?_, ?_⟩ <;> exact cell_on (by assumption) (by assumption)))
          (first | (go_at_call 25; refine (omark_any _ _ _ _ _).mono ?_; rintro e w2 ⟨rfl, hb2⟩) | (go_at_call 24; refine (cmp_any _ _ _ _ _ _ _).mono ?_; rintro e w2 ⟨rfl, hb2⟩; rw [HZ.out]))
        rename_i hSS
        have hb3 := go _ hSS.1
        clear hSS
        go_wp2
        go_roundw
        case rel => exact ⟨k + 1, by omega, by go_num, by rw [HT.out]; first | done | go_num, fun j a hj ha => by rcases (by omega : j < k ∨ j = k) with hj | rfl; exact HALL.out j a hj ha; rw [HQR.out] at ha; cases ha; exact HN.out, hb3⟩
        case measure => simp [intOf]; omega
      · have e0 : (z == 0) = false := by simp; omega
        have e1 : decide (z < 0) = false := by simp; omega
        have hne : q.r.k ≠ r.k := fun e => by have := (mcmp_zero _ _ _ _ _ _).2 ⟨congrArg K.ts e, congrArg K.dc e, congrArg K.tx e⟩; have h2 := HZ.out; rw [show mcmp q.r.ts q.r.dc q.r.tx r.ts r.dc r.tx = 0 from this] at h2; omega
        have hkl : klt q.r.k r.k = false := klt_of_pos (by have h2 := HZ.out; show 0 < mcmp q.r.ts q.r.dc q.r.tx r.ts r.dc r.tx; omega)
        have HN := Lib.hid hne
        have HT := Lib.hid (atTo_no HQR.out hkl)
        clear hz hne hkl
        go_wp2_with fail
        go_region_held3 (fun w' => Below (wr.alloc (.cells #[.int .u64 q.r.ts, .int .i64 q.r.dc, .int .i64 q.r.tx, .slice q.D q.r.vers.length q.c] 32)).heap.size (wr.alloc (.cells #[.int .u64 q.r.ts, .int .i64 q.r.dc, .int .i64 q.r.tx, .slice q.D q.r.vers.length q.c] 32)) w' ∧ w'.cell? ⟨w.heap.size, 0, none⟩ = some (.int .u64 r.ts) ∧ w'.cell? ⟨w.heap.size, 1, none⟩ = some (.int .i64 r.dc) ∧ w'.cell? ⟨w.heap.size, 2, none⟩ = some (.int .i64 r.tx) ∧ w'.cell? ⟨w.heap.size, 3, none⟩ = some (.slice D r.vers.length c) ∧ w'.cell? ⟨wr.heap.size, 0, none⟩ = some (.int .u64 q.r.ts) ∧ w'.cell? ⟨wr.heap.size, 1, none⟩ = some (.int .i64 q.r.dc) ∧ w'.cell? ⟨wr.heap.size, 2, none⟩ = some (.int .i64 q.r.tx) ∧ w'.cell? ⟨wr.heap.size, 3, none⟩ = some (.slice q.D q.r.vers.length q.c))
          (first | (refine ⟨own_drew (own_refl _), ?_, ?_, ?_, ?_, ?_, ?_, ?_, ?_⟩ <;> (go_simp; done)) | (go_split_ands; refine ⟨below_own (by assumption) (by assumption), ?_, ?_, ?_, ?_, ?_, ?_, ?_, ?_⟩ <;> exact cell_on (by assumption) (by assumption)))
          (first | (go_at_call 25; refine (omark_any _ _ _ _ _).mono ?_; rintro e w2 ⟨rfl, hb2⟩) | (go_at_call 24; refine (cmp_any _ _ _ _ _ _ _).mono ?_; rintro e w2 ⟨rfl, hb2⟩; rw [HZ.out]))
        rename_i hSS
        have hb3 := go _ hSS.1
        clear hSS
        go_wp2
        go_roundw
        case rel => exact ⟨k + 1, by omega, by go_num, by rw [HT.out]; first | done | go_num, fun j a hj ha => by rcases (by omega : j < k ∨ j = k) with hj | rfl; exact HALL.out j a hj ha; rw [HQR.out] at ha; cases ha; exact HN.out, hb3⟩
        case measure => simp [intOf]; omega
    · obtain rfl : k = x.wait.length := by omega
      obtain ⟨p, hp⟩ : ∃ p, atTo x.wait r x.wait.length = p := ⟨_, rfl⟩
      have hpn : p ≤ x.wait.length := hp ▸ atTo_le _ _ _
      have HP := Lib.hid hp
      rw [hp]
      clear hp hlt hk
      have hBW := h.on hbr
      have hBle : B ≤ wr.heap.size := Nat.le_trans hB hbr.size
      have hDW := hD.on hbr
      have d1 : wr.cell? ⟨b, 1, none⟩ = some (.slice Dw x.wait.length cw) := cell_on hbr c1
      rcases h.hw.form3 with ⟨rfl, hn0, rfl⟩ | ⟨bw, ow, rfl⟩
      · obtain rfl : p = 0 := by omega
        have hsrc3 : Cells wr none (flatQ (M.drop 0)) := by rw [List.drop_zero, List.eq_nil_of_length_eq_zero (l := M) (by rw [HML.out]; exact hn0)]; exact Cells.nil _ _
        have d1 : wr.cell? ⟨b, 1, none⟩ = some (.slice none 0 0) := by rw [d1, hn0]
        rw [show ((0 : Nat) : Int) = 0 from rfl]
        have HN0 := Lib.hid hn0
        clear hn0
        have hl1 : (flatQ (M.take 0)).length = 0 * 4 := by rw [flatQ_len, List.length_take, HML.out]; omega
        have hl3 : (flatQ (M.drop 0)).length = (0 - 0) * 4 := by rw [flatQ_len, List.length_drop, HML.out]; rw [HN0.out]
        have hsrc1 : Cells wr.drew none (flatQ (M.take 0)) := Cells.takeG (cf := Q.cells) hBW.hw.cells 0
        have h64 : r.vers.length * 64 ≤ 140737488351232 := by omega
        go_wp2_with fail
        go_region_law (first | (refine step_append_at _ (by rfl) _ _ 26 (by rfl) B 32 i0 (.agg #[.int .u64 0, .int .i64 0, .int .i64 0, .slice none 0 0]) 4 48 Try.underlying26 hi0 hz0 hz1 hz2 (by rfl) (by omega) _ _ _ (by rfl) (OwnAt.nil _ B 32 4) _ 0 _ (flatQ (M.take 0)) (by rfl) hl1 hsrc1 (one_fq _) (by unfold maxLen; omega) (by omega) (by first | exact hBle | (simp; exact hBle)) ?_; intro D1 cp1 w1 own1 g1 loc1; simp only [Nat.zero_add, List.nil_append] at own1 loc1; have hb1 : Below wr.heap.size wr w1 := at_grown (own_drew (own_refl _)) g1 (fun g hg => by cases hg); have y0' := cell_on hb1 y0; have y1' := cell_on hb1 y1; have y2' := cell_on hb1 y2; have y3' := cell_on hb1 y3; have e1' := cell_on hb1 d1) | (refine step_append_at _ (by rfl) _ _ 26 (by rfl) B 32 i0 (.agg #[.int .u64 0, .int .i64 0, .int .i64 0, .slice none 0 0]) 4 48 Try.underlying26 hi0 hz0 hz1 hz2 (by rfl) (by omega) _ _ _ (by rfl) (own1'.on (own_alloc (own_refl _) _)) _ 1 _ [.int .u64 r.ts, .int .i64 r.dc, .int .i64 r.tx, .slice D2 r.vers.length cp2] (by rfl) rfl (Cells.new w2 #[.int .u64 r.ts, .int .i64 r.dc, .int .i64 r.tx, .slice D2 r.vers.length cp2] 32) (one_q ⟨r, D2, cp2⟩) (by unfold maxLen; omega) (by omega) (by have := hBle; have := hb12.size; simp; omega) ?_; intro D4 cp4 w4 own4 g4 loc4; have low1 : ∀ g, (Value.slice D1 0 cp1).ownBlock = some g → wr.heap.size ≤ g := (fun g hg => (loc1 g hg).elim (fun e => by cases e) (fun e => e)); have hb14 : Below wr.heap.size wr w4 := at_grown (own_alloc hb12 _) g4 low1; have e4 := cell_on hb14 d1) | (go_simp; (go_at_call 22; (with_reducible refine (ocopy_any r D _ c _ rfl h64 (hDW.on hb1)).mono ?_); rintro e w2 ⟨D2, cp2, rfl, hown2, hb2⟩; have own1' := own1.on hb2; have hb12 := below_own hb1 hb2; have y0'' := cell_on hb2 y0'; have y1'' := cell_on hb2 y1'; have y2'' := cell_on hb2 y2'; have y3'' := cell_on hb2 y3'; have e1'' := cell_on hb2 e1')))
        all_goals
          go_wp2_with (at_builtin; refine wpList_append_at _ rfl _ _ 26 rfl B 32 i0 (.agg #[.int .u64 0, .int .i64 0, .int .i64 0, .slice none 0 0]) 4 48 Try.underlying26 hi0 hz0 hz1 hz2 rfl (by omega) _ _ _ rfl own4 _ _ _ (flatQ (M.drop 0)) rfl hl3 (hsrc3.on hb14) (one_fq _) (by unfold maxLen; omega) (by omega) (by have := hBle; have := hb14.size; omega) ?_; intro D5 cp5 w5 own5 g5 loc5; have low4 : ∀ g, (Value.slice D4 (0 + 1) cp4).ownBlock = some g → wr.heap.size ≤ g := fun g hg => (loc4 g hg).elim (low1 g) (fun e => by have := hb12.size; simp at e; omega); have hb15 : Below wr.heap.size wr w5 := at_grown hb14 g5 low4; have c5 := cell_on hb15 d1; have f5 : w5.frozen? ⟨b, 1, none⟩ = false := ((below_own hbr hb15).frozen (p := ⟨b, 1, none⟩) hbl).trans f1)
          go_ret
          obtain ⟨vw', M', e1, e2, e3, e4⟩ := dec_fin (q := ⟨r, D2, cp2⟩) (p := 0) h (below_own hbr hb12) (qat_own hown2 rfl) HP.out.symm own1' (fun g hg => Nat.le_trans hbr.size (low1 g hg)) g4 own4 loc4 g5 own5 loc5 (by unfold putW; rw [show (⟨r, D2, cp2⟩ : Q).r = r from rfl, HP.out, List.length_append, List.length_append, List.length_take, List.length_drop, List.length_singleton]; rw [HN0.out]; omega)
          exact ⟨vl, vw', L, M', _, .inr (.inr ⟨HLT.out, fun a ha => by obtain ⟨j, hj⟩ := List.mem_iff_getElem?.1 ha; exact HALL.out j a (List.getElem?_eq_some_iff.1 hj).1 hj, rfl, rfl⟩), e2, e3, e4⟩
      · by_cases hcp : cw = p
        · obtain rfl : p = cw := hcp.symm
          clear hcp
          have hsrc3 : Cells wr (some ⟨bw, ow, none⟩) (flatQ (M.drop p)) := by rw [List.drop_eq_nil_of_le (by rw [HML.out]; omega)]; exact Cells.nil _ _
          have hl1 : (flatQ (M.take p)).length = p * 4 := by rw [flatQ_len, List.length_take, HML.out]; omega
          have hl3 : (flatQ (M.drop p)).length = 0 * 4 := by rw [flatQ_len, List.length_drop, HML.out]; omega
          have hsrc1 : Cells wr.drew (some ⟨bw, ow, none⟩) (flatQ (M.take p)) := Cells.takeG (cf := Q.cells) hBW.hw.cells p
          have n1 : (0 : Int) ≤ (p : Int) := by omega
          have n2 : (p : Int) ≤ (x.wait.length : Int) := by omega
          have n3 : (p : Int) ≤ (p : Int) := by omega
          have h64 : r.vers.length * 64 ≤ 140737488351232 := by omega
          go_wp2_with fail
          go_region_law (first | (refine step_append_at _ (by rfl) _ _ 26 (by rfl) B 32 i0 (.agg #[.int .u64 0, .int .i64 0, .int .i64 0, .slice none 0 0]) 4 48 Try.underlying26 hi0 hz0 hz1 hz2 (by rfl) (by omega) _ _ _ (by rfl) (OwnAt.nil _ B 32 4) _ p _ (flatQ (M.take p)) (by rfl) hl1 hsrc1 (one_fq _) (by unfold maxLen; omega) (by omega) (by first | exact hBle | (simp; exact hBle)) ?_; intro D1 cp1 w1 own1 g1 loc1; simp only [Nat.zero_add, List.nil_append] at own1 loc1; have hb1 : Below wr.heap.size wr w1 := at_grown (own_drew (own_refl _)) g1 (fun g hg => by cases hg); have y0' := cell_on hb1 y0; have y1' := cell_on hb1 y1; have y2' := cell_on hb1 y2; have y3' := cell_on hb1 y3; have e1' := cell_on hb1 d1) | (refine step_append_at _ (by rfl) _ _ 26 (by rfl) B 32 i0 (.agg #[.int .u64 0, .int .i64 0, .int .i64 0, .slice none 0 0]) 4 48 Try.underlying26 hi0 hz0 hz1 hz2 (by rfl) (by omega) _ _ _ (by rfl) (own1'.on (own_alloc (own_refl _) _)) _ 1 _ [.int .u64 r.ts, .int .i64 r.dc, .int .i64 r.tx, .slice D2 r.vers.length cp2] (by rfl) rfl (Cells.new w2 #[.int .u64 r.ts, .int .i64 r.dc, .int .i64 r.tx, .slice D2 r.vers.length cp2] 32) (one_q ⟨r, D2, cp2⟩) (by unfold maxLen; omega) (by omega) (by have := hBle; have := hb12.size; simp; omega) ?_; intro D4 cp4 w4 own4 g4 loc4; have low1 : ∀ g, (Value.slice D1 p cp1).ownBlock = some g → wr.heap.size ≤ g := (fun g hg => (loc1 g hg).elim (fun e => by cases e) (fun e => e)); have hb14 : Below wr.heap.size wr w4 := at_grown (own_alloc hb12 _) g4 low1; have e4 := cell_on hb14 d1) | (go_simp; (go_at_call 22; (with_reducible refine (ocopy_any r D _ c _ rfl h64 (hDW.on hb1)).mono ?_); rintro e w2 ⟨D2, cp2, rfl, hown2, hb2⟩; have own1' := own1.on hb2; have hb12 := below_own hb1 hb2; have y0'' := cell_on hb2 y0'; have y1'' := cell_on hb2 y1'; have y2'' := cell_on hb2 y2'; have y3'' := cell_on hb2 y3'; have e1'' := cell_on hb2 e1')))
          all_goals
            go_wp2_with (at_builtin; refine wpList_append_at _ rfl _ _ 26 rfl B 32 i0 (.agg #[.int .u64 0, .int .i64 0, .int .i64 0, .slice none 0 0]) 4 48 Try.underlying26 hi0 hz0 hz1 hz2 rfl (by omega) _ _ _ rfl own4 _ _ _ (flatQ (M.drop p)) rfl hl3 (hsrc3.on hb14) (one_fq _) (by unfold maxLen; omega) (by omega) (by have := hBle; have := hb14.size; omega) ?_; intro D5 cp5 w5 own5 g5 loc5; have low4 : ∀ g, (Value.slice D4 (p + 1) cp4).ownBlock = some g → wr.heap.size ≤ g := fun g hg => (loc4 g hg).elim (low1 g) (fun e => by have := hb12.size; simp at e; omega); have hb15 : Below wr.heap.size wr w5 := at_grown hb14 g5 low4; have c5 := cell_on hb15 d1; have f5 : w5.frozen? ⟨b, 1, none⟩ = false := ((below_own hbr hb15).frozen (p := ⟨b, 1, none⟩) hbl).trans f1)
            go_ret
            obtain ⟨vw', M', e1, e2, e3, e4⟩ := dec_fin (q := ⟨r, D2, cp2⟩) (p := p) h (below_own hbr hb12) (qat_own hown2 rfl) HP.out.symm own1' (fun g hg => Nat.le_trans hbr.size (low1 g hg)) g4 own4 loc4 g5 own5 loc5 (by unfold putW; rw [show (⟨r, D2, cp2⟩ : Q).r = r from rfl, HP.out, List.length_append, List.length_append, List.length_take, List.length_drop, List.length_singleton]; omega)
            exact ⟨vl, vw', L, M', _, .inr (.inr ⟨HLT.out, fun a ha => by obtain ⟨j, hj⟩ := List.mem_iff_getElem?.1 ha; exact HALL.out j a (List.getElem?_eq_some_iff.1 hj).1 hj, rfl, rfl⟩), e2, e3, e4⟩
        · have n4 : ¬ cw = p := hcp
          have hsrc3 : Cells wr (some ⟨bw, ow + p * 4, none⟩) (flatQ (M.drop p)) := Cells.dropQ hBW.hw.cells p
          have hl1 : (flatQ (M.take p)).length = p * 4 := by rw [flatQ_len, List.length_take, HML.out]; omega
          have hl3 : (flatQ (M.drop p)).length = (x.wait.length - p) * 4 := by rw [flatQ_len, List.length_drop, HML.out]
          have hsrc1 : Cells wr.drew (some ⟨bw, ow, none⟩) (flatQ (M.take p)) := Cells.takeG (cf := Q.cells) hBW.hw.cells p
          have n1 : (0 : Int) ≤ (p : Int) := by omega
          have n2 : (p : Int) ≤ (x.wait.length : Int) := by omega
          have n3 : (p : Int) ≤ (cw : Int) := by omega
          have h64 : r.vers.length * 64 ≤ 140737488351232 := by omega
          go_wp2_with fail
          go_region_law (first | (refine step_append_at _ (by rfl) _ _ 26 (by rfl) B 32 i0 (.agg #[.int .u64 0, .int .i64 0, .int .i64 0, .slice none 0 0]) 4 48 Try.underlying26 hi0 hz0 hz1 hz2 (by rfl) (by omega) _ _ _ (by rfl) (OwnAt.nil _ B 32 4) _ p _ (flatQ (M.take p)) (by rfl) hl1 hsrc1 (one_fq _) (by unfold maxLen; omega) (by omega) (by first | exact hBle | (simp; exact hBle)) ?_; intro D1 cp1 w1 own1 g1 loc1; simp only [Nat.zero_add, List.nil_append] at own1 loc1; have hb1 : Below wr.heap.size wr w1 := at_grown (own_drew (own_refl _)) g1 (fun g hg => by cases hg); have y0' := cell_on hb1 y0; have y1' := cell_on hb1 y1; have y2' := cell_on hb1 y2; have y3' := cell_on hb1 y3; have e1' := cell_on hb1 d1) | (refine step_append_at _ (by rfl) _ _ 26 (by rfl) B 32 i0 (.agg #[.int .u64 0, .int .i64 0, .int .i64 0, .slice none 0 0]) 4 48 Try.underlying26 hi0 hz0 hz1 hz2 (by rfl) (by omega) _ _ _ (by rfl) (own1'.on (own_alloc (own_refl _) _)) _ 1 _ [.int .u64 r.ts, .int .i64 r.dc, .int .i64 r.tx, .slice D2 r.vers.length cp2] (by rfl) rfl (Cells.new w2 #[.int .u64 r.ts, .int .i64 r.dc, .int .i64 r.tx, .slice D2 r.vers.length cp2] 32) (one_q ⟨r, D2, cp2⟩) (by unfold maxLen; omega) (by omega) (by have := hBle; have := hb12.size; simp; omega) ?_; intro D4 cp4 w4 own4 g4 loc4; have low1 : ∀ g, (Value.slice D1 p cp1).ownBlock = some g → wr.heap.size ≤ g := (fun g hg => (loc1 g hg).elim (fun e => by cases e) (fun e => e)); have hb14 : Below wr.heap.size wr w4 := at_grown (own_alloc hb12 _) g4 low1; have e4 := cell_on hb14 d1) | (go_simp; (go_at_call 22; (with_reducible refine (ocopy_any r D _ c _ rfl h64 (hDW.on hb1)).mono ?_); rintro e w2 ⟨D2, cp2, rfl, hown2, hb2⟩; have own1' := own1.on hb2; have hb12 := below_own hb1 hb2; have y0'' := cell_on hb2 y0'; have y1'' := cell_on hb2 y1'; have y2'' := cell_on hb2 y2'; have y3'' := cell_on hb2 y3'; have e1'' := cell_on hb2 e1')))
          all_goals
            go_wp2_with (at_builtin; refine wpList_append_at _ rfl _ _ 26 rfl B 32 i0 (.agg #[.int .u64 0, .int .i64 0, .int .i64 0, .slice none 0 0]) 4 48 Try.underlying26 hi0 hz0 hz1 hz2 rfl (by omega) _ _ _ rfl own4 _ _ _ (flatQ (M.drop p)) rfl hl3 (hsrc3.on hb14) (one_fq _) (by unfold maxLen; omega) (by omega) (by have := hBle; have := hb14.size; omega) ?_; intro D5 cp5 w5 own5 g5 loc5; have low4 : ∀ g, (Value.slice D4 (p + 1) cp4).ownBlock = some g → wr.heap.size ≤ g := fun g hg => (loc4 g hg).elim (low1 g) (fun e => by have := hb12.size; simp at e; omega); have hb15 : Below wr.heap.size wr w5 := at_grown hb14 g5 low4; have c5 := cell_on hb15 d1; have f5 : w5.frozen? ⟨b, 1, none⟩ = false := ((below_own hbr hb15).frozen (p := ⟨b, 1, none⟩) hbl).trans f1)
            go_ret
            obtain ⟨vw', M', e1, e2, e3, e4⟩ := dec_fin (q := ⟨r, D2, cp2⟩) (p := p) h (below_own hbr hb12) (qat_own hown2 rfl) HP.out.symm own1' (fun g hg => Nat.le_trans hbr.size (low1 g hg)) g4 own4 loc4 g5 own5 loc5 (by unfold putW; rw [show (⟨r, D2, cp2⟩ : Q).r = r from rfl, HP.out, List.length_append, List.length_append, List.length_take, List.length_drop, List.length_singleton]; omega)
            exact ⟨vl, vw', L, M', _, .inr (.inr ⟨HLT.out, fun a ha => by obtain ⟨j, hj⟩ := List.mem_iff_getElem?.1 ha; exact HALL.out j a (List.getElem?_eq_some_iff.1 hj).1 hj, rfl, rfl⟩), e2, e3, e4⟩
end Go.Proofs.Ytggbdjdfejcpjaa
