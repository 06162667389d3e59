/-
  The walk of the answer's Decide. Conditions: the log lies as the hypotheses say.
-/
import Derived.Test.YtggbdjdfejcpjaaOrefP
namespace Go.Proofs.Ytggbdjdfejcpjaa
open Go.RowKit Go.Maps
set_option linter.unusedVariables false

theorem k_iff {a b : R} : a.k = b.k ↔ (a.ts = b.ts ∧ (a.dc = b.dc ∧ a.tx = b.tx)) := by unfold R.k; simp
theorem rdec_old (w : World) (B b : Nat) (vl vw : Value) (L M : List Q) (y : Lg) (h : RfAt w B b vl vw L M y) (r : R) (D : Option Addr) (c : Nat) (hlt : r.ts ≤ y.bound) : Calls Try.prog 11 #[.pointer (some ⟨b, 0, none⟩), .agg #[.int .u64 r.ts, .int .i64 r.dc, .int .i64 r.tx, .slice D r.vers.length c]] w fun e w' => e = .returned (.int .i64 11) ∧ Below w.heap.size w w' := by
  have c2 : w.cell? ⟨b, 2, none⟩ = some (.int .u64 y.bound) := h.cell 2
  have hbl := h.blt
  have d1 : decide (r.ts ≤ y.bound) = true := by simpa using hlt
  go_enter Try.func11, Try.ntmps11
  go_wp2_with fail
  go_quiet (fail)
  go_wp2
  go_ret
  exact ⟨rfl, own_drewN (own_alloc (own_refl _) _) _⟩
set_option maxRecDepth 100000 in
set_option maxHeartbeats 8000000 in
theorem rdec_new (w : World) (B b : Nat) (vl vw : Value) (L M : List Q) (y : Lg) (h : RfAt w B b vl vw L M y) (r : R) (D : Option Addr) (c : Nat) (hl : y.wait.length ≤ 150) (hlt : y.bound < r.ts) (hr : r.vers.length ≤ 1000) (hD : Cells w D (flatV r.vers)) (hB : B ≤ w.heap.size) : Calls Try.prog 11 #[.pointer (some ⟨b, 0, none⟩), .agg #[.int .u64 r.ts, .int .i64 r.dc, .int .i64 r.tx, .slice D r.vers.length c]] w (RStepIs w B b vl vw (RDecR y r)) := by
  obtain ⟨i0, hi0, hz0, hz1, hz2⟩ := info_parts infoRec
  obtain ⟨Dw, cw, rfl, hcw⟩ := h.hw.form
  have c1 : w.cell? ⟨b, 1, none⟩ = some (.slice Dw y.wait.length cw) := h.cell 1
  have c2 : w.cell? ⟨b, 2, none⟩ = some (.int .u64 y.bound) := h.cell 2
  have f1 : w.frozen? ⟨b, 1, none⟩ = false := h.frozen 1
  have hbl := h.blt
  have hml := h.ml
  have d1 : ¬ r.ts ≤ y.bound := by omega
  have d2 : decide (r.ts ≤ y.bound) = false := by simpa using d1
  have HLT := Lib.hid hlt
  have HML := Lib.hid hml
  clear hml hlt
  go_enter Try.func11, Try.ntmps11
  go_wp2_with fail
  go_quiet (fail)
  obtain ⟨W, hW⟩ : ∃ W, (w.alloc (.cells #[.int .u64 r.ts, .int .i64 r.dc, .int .i64 r.tx, .slice D r.vers.length c] 32)).drewN nq = W := ⟨_, rfl⟩
  have hxW : Below (w.alloc (.cells #[.int .u64 r.ts, .int .i64 r.dc, .int .i64 r.tx, .slice D r.vers.length c] 32)).heap.size (w.alloc (.cells #[.int .u64 r.ts, .int .i64 r.dc, .int .i64 r.tx, .slice D r.vers.length c] 32)) W := hW ▸ own_drewN (own_refl _) nq
  have hbW : Below w.heap.size w W := below_own (own_alloc (own_refl _) _) hxW
  rw [hW]
  clear hW d1 d2
  have c1' := cell_on hbW c1
  go_wp2_with fail
  go_loopw [5] (fun i wr => ∃ k : Nat, k ≤ y.wait.length ∧ i = .int .i64 k ∧ (∀ j a, j < k → y.wait[j]? = some a → a.k ≠ r.k) ∧ Below (w.alloc (.cells #[.int .u64 r.ts, .int .i64 r.dc, .int .i64 r.tx, .slice D r.vers.length c] 32)).heap.size (w.alloc (.cells #[.int .u64 r.ts, .int .i64 r.dc, .int .i64 r.tx, .slice D r.vers.length c] 32)) wr) (fun i _ => y.wait.length - (intOf i).toNat)
  case atStart => exact ⟨0, Nat.zero_le _, rfl, fun j a hj => by omega, hxW⟩
  case round =>
    obtain ⟨k, hk, rfl, hall, hxr⟩ := hrel
    have hbr : Below w.heap.size w wr := below_own (own_alloc (own_refl _) _) hxr
    have y0 : wr.cell? ⟨w.heap.size, 0, none⟩ = some (.int .u64 r.ts) := (box_on hxr).1 0
    have y1 : wr.cell? ⟨w.heap.size, 1, none⟩ = some (.int .i64 r.dc) := (box_on hxr).1 1
    have y2 : wr.cell? ⟨w.heap.size, 2, none⟩ = some (.int .i64 r.tx) := (box_on hxr).1 2
    have y3 : wr.cell? ⟨w.heap.size, 3, none⟩ = some (.slice D r.vers.length c) := (box_on hxr).1 3
    have hys := (box_on hxr).2.2
    have e1 : wr.cell? ⟨b, 1, none⟩ = some (.slice Dw y.wait.length cw) := cell_on hbr c1
    have HALL := Lib.hid hall
    clear hall
    by_cases hlt : k < y.wait.length
    · obtain ⟨q, hq⟩ : ∃ q, M[k]? = some q := ⟨_, List.getElem?_eq_getElem (by rw [HML.out]; exact hlt)⟩
      have hqr : y.wait[k]? = some q.r := by rw [← h.mr, List.getElem?_map, hq]; rfl
      obtain ⟨g, o, rfl, q0, q1, q2, q3⟩ := get_q h.hw.cells hq
      have q0' := cell_on hbr q0
      have q1' := cell_on hbr q1
      have q2' := cell_on hbr q2
      have q3' := cell_on hbr q3
      have g3 : (0 : Int) ≤ (k : Int) := by omega
      have g4 : (k : Int) < (y.wait.length : Int) := by omega
      have g5 : (k : Int) ≤ 150 := by omega
      have HQR := Lib.hid hqr
      clear q0 q1 q2 q3 hq hqr
      by_cases hkk : q.r.k = r.k
      · have HKK := Lib.hid hkk
        have hkk0 : (q.r.ts = r.ts ∧ (q.r.dc = r.dc ∧ q.r.tx = r.tx)) = True := eq_true (k_iff.1 hkk)
        have hme : ∀ w, (binOp .eql 49 (.agg #[.int .u64 q.r.ts, .int .i64 q.r.dc, .int .i64 q.r.tx]) (.agg #[.int .u64 r.ts, .int .i64 r.dc, .int .i64 r.tx])).run Try.prog w = .ok (.bool true) w := fun w => by
          rw [mark_eq]
          have h1 : (q.r.ts = r.ts ∧ (q.r.dc = r.dc ∧ q.r.tx = r.tx)) ↔ True := by rw [← hkk0]
          simpa using h1
        clear hkk hkk0
        go_wp2_with fail
        go_region_held3 (fun w' => Below wr.heap.size wr w' ∧ w'.cell? ⟨w.heap.size, 0, none⟩ = some (.int .u64 r.ts) ∧ w'.cell? ⟨w.heap.size, 1, none⟩ = some (.int .i64 r.dc) ∧ w'.cell? ⟨w.heap.size, 2, none⟩ = some (.int .i64 r.tx) ∧ w'.cell? ⟨w.heap.size, 3, none⟩ = some (.slice D r.vers.length c) ∧ w'.cell? ⟨g, o + k * 4, none⟩ = some (.int .u64 q.r.ts) ∧ w'.cell? ⟨g, o + k * 4 + 1, none⟩ = some (.int .i64 q.r.dc) ∧ w'.cell? ⟨g, o + k * 4 + 2, none⟩ = some (.int .i64 q.r.tx) ∧ w'.cell? ⟨g, o + k * 4 + 3, none⟩ = some (.slice q.D q.r.vers.length q.c) ∧ w'.cell? ⟨b, 1, none⟩ = some (.slice (some ⟨g, o, none⟩) y.wait.length cw))
            (first | exact ⟨own_drew (own_refl _), y0, y1, y2, y3, q0', q1', q2', q3', e1⟩ | (refine ⟨own_drew (own_refl _), ?_, ?_, ?_, ?_, ?_, ?_, ?_, ?_, ?_⟩ <;> (go_simp; done)) | (go_split_ands; refine ⟨below_own (by assumption) (by assumption), ?_, ?_, ?_, ?_, ?_, ?_, ?_, ?_, ?_⟩ <;> exact cell_on (by assumption) (by assumption)))
            ((go_at_call 21; refine (mark_any _ _ _ _ _).mono ?_; rintro e w2 ⟨rfl, hb2⟩))
        rename_i hSS
        have hb3 := hSS.1
        clear hSS
        go_wp2
        go_ret
        exact rkeep h (.inr (.inl ⟨HLT.out, ⟨q.r, List.mem_of_getElem? HQR.out, HKK.out⟩, rfl, rfl⟩)) (below_own hbr hb3)
      · have HKK := Lib.hid hkk
        have hkk0 : (q.r.ts = r.ts ∧ (q.r.dc = r.dc ∧ q.r.tx = r.tx)) = False := eq_false (fun e => hkk (k_iff.2 e))
        have hme : ∀ w, (binOp .eql 49 (.agg #[.int .u64 q.r.ts, .int .i64 q.r.dc, .int .i64 q.r.tx]) (.agg #[.int .u64 r.ts, .int .i64 r.dc, .int .i64 r.tx])).run Try.prog w = .ok (.bool false) w := fun w => by
          rw [mark_eq]
          have h1 : (q.r.ts = r.ts ∧ (q.r.dc = r.dc ∧ q.r.tx = r.tx)) ↔ False := by rw [← hkk0]
          simpa using h1
        clear hkk hkk0
        go_wp2_with fail
        go_region_held3 (fun w' => Below wr.heap.size wr w' ∧ w'.cell? ⟨w.heap.size, 0, none⟩ = some (.int .u64 r.ts) ∧ w'.cell? ⟨w.heap.size, 1, none⟩ = some (.int .i64 r.dc) ∧ w'.cell? ⟨w.heap.size, 2, none⟩ = some (.int .i64 r.tx) ∧ w'.cell? ⟨w.heap.size, 3, none⟩ = some (.slice D r.vers.length c) ∧ w'.cell? ⟨g, o + k * 4, none⟩ = some (.int .u64 q.r.ts) ∧ w'.cell? ⟨g, o + k * 4 + 1, none⟩ = some (.int .i64 q.r.dc) ∧ w'.cell? ⟨g, o + k * 4 + 2, none⟩ = some (.int .i64 q.r.tx) ∧ w'.cell? ⟨g, o + k * 4 + 3, none⟩ = some (.slice q.D q.r.vers.length q.c) ∧ w'.cell? ⟨b, 1, none⟩ = some (.slice (some ⟨g, o, none⟩) y.wait.length cw))
            (first | exact ⟨own_drew (own_refl _), y0, y1, y2, y3, q0', q1', q2', q3', e1⟩ | (refine ⟨own_drew (own_refl _), ?_, ?_, ?_, ?_, ?_, ?_, ?_, ?_, ?_⟩ <;> (go_simp; done)) | (go_split_ands; refine ⟨below_own (by assumption) (by assumption), ?_, ?_, ?_, ?_, ?_, ?_, ?_, ?_, ?_⟩ <;> exact cell_on (by assumption) (by assumption)))
            ((go_at_call 21; refine (mark_any _ _ _ _ _).mono ?_; rintro e w2 ⟨rfl, hb2⟩))
        rename_i hSS
        have hb3 := hSS.1
        clear hSS
        go_wp2
        go_roundw
        case rel => exact ⟨k + 1, by omega, by go_num, fun j a hj ha => by rcases (by omega : j < k ∨ j = k) with hj | rfl; exact HALL.out j a hj ha; rw [HQR.out] at ha; cases ha; exact HKK.out, below_own hxr hb3⟩
        case measure => simp [intOf]; omega
    · obtain rfl : k = y.wait.length := by omega
      have hBW := h.on hbr
      have hBle : B ≤ wr.heap.size := Nat.le_trans hB hbr.size
      have hDW : Cells wr.drew D (flatV r.vers) := hD.on (own_drew hbr)
      have h64 : r.vers.length * 64 ≤ 140737488351232 := by omega
      have fb : wr.frozen? ⟨b, 1, none⟩ = false := (hbr.frozen (p := ⟨b, 1, none⟩) hbl).trans f1
      clear hlt hk c1 c1' c2 f1
      go_wp2_with fail
      go_region_law (first
        | (refine step_append_at _ (by rfl) _ _ 26 (by rfl) B 32 i0 (.agg #[.int .u64 0, .int .i64 0, .int .i64 0, .slice none 0 0]) 4 48 Try.underlying26 hi0 hz0 hz1 hz2 (by rfl) (by omega) _ _ _ (by rfl) (hBW2.hw.on (own_alloc (own_refl _) _)) _ 1 _ [.int .u64 r.ts, .int .i64 r.dc, .int .i64 r.tx, .slice D2 r.vers.length cp2] (by rfl) rfl (Cells.new w2 #[.int .u64 r.ts, .int .i64 r.dc, .int .i64 r.tx, .slice D2 r.vers.length cp2] 32) (one_q ⟨r, D2, cp2⟩) (by unfold maxLen; omega) (by omega) (by have := hBle; have := hb12.size; simp; omega) ?_; intro D4 cp4 w4 own4 g4 loc4; have t4 : Turns (fun j => (Value.slice Dw y.wait.length cw).ownBlock = some j) (w2.alloc (.cells #[.int .u64 r.ts, .int .i64 r.dc, .int .i64 r.tx, .slice D2 r.vers.length cp2] 32)) w4 := (Turns.refl _ _).grown g4 (fun _ _ e => e); have e1'' := t4.cell ((hBW2.on (own_alloc (own_refl _) _)).cell 1) hBW2.nw; have f1'' := t4.frozen (a := ⟨b, 1, none⟩) (hBW2.on (own_alloc (own_refl _) _)).blt hBW2.nw ((hBW2.on (own_alloc (own_refl _) _)).frozen 1))
        | (go_simp; (go_at_call 26; (with_reducible refine (rcopy_any r D _ c _ rfl h64 hDW).mono ?_); rintro e w2 ⟨D2, cp2, rfl, hown2, hb2⟩; have hb12 := below_own (own_drew (own_refl wr)) hb2; have e1' := cell_on hb12 e1; have hBW2 := hBW.on hb12; have hbl2 := hBW2.blt)))
      all_goals
        go_wp2_with fail
        go_ret
        obtain ⟨r1, r2, r3⟩ := rdec_fin (q := ⟨r, D2, cp2⟩) h (below_own hbr hb12) (qat_own hown2 rfl) g4 own4 rfl loc4
        exact ⟨vl, _, L, _, _, .inr (.inr ⟨HLT.out, fun a ha => by obtain ⟨j, hj⟩ := List.mem_iff_getElem?.1 ha; exact HALL.out j a (List.getElem?_eq_some_iff.1 hj).1 hj, rfl, rfl⟩), r1, r2, r3⟩
theorem rdec_any (w : World) (B b : Nat) (vl vw : Value) (L M : List Q) (y : Lg) (h : RfAt w B b vl vw L M y) (r : R) (D : Option Addr) (c : Nat) (hl : y.wait.length ≤ 150) (hr : r.vers.length ≤ 1000) (hD : Cells w D (flatV r.vers)) (hB : B ≤ w.heap.size) : Calls Try.prog 11 #[.pointer (some ⟨b, 0, none⟩), .agg #[.int .u64 r.ts, .int .i64 r.dc, .int .i64 r.tx, .slice D r.vers.length c]] w (RStepIs w B b vl vw (RDecR y r)) := by
  rcases Int.lt_or_le y.bound r.ts with hlt | hle
  · exact rdec_new w B b vl vw L M y h r D c hl hlt hr hD hB
  · refine (rdec_old w B b vl vw L M y h r D c hle).mono ?_
    rintro e w' ⟨rfl, hb⟩
    exact rkeep h (.inl ⟨hle, rfl, rfl⟩) hb
end Go.Proofs.Ytggbdjdfejcpjaa
