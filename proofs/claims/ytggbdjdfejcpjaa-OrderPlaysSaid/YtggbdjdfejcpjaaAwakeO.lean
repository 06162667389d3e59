/-
  The law's own 'awake'; Decide, whatever is handed in. Conditions: the log lies as the hypotheses say.
-/
import Derived.Test.YtggbdjdfejcpjaaStab
namespace Go.Proofs.Ytggbdjdfejcpjaa
open Go.RowKit Go.Maps
set_option linter.unusedVariables false

theorem dec_any (w : World) (B b : Nat) (vl vw : Value) (L M : List Q) (x : Lg) (h : LogAt w B b vl vw L M x) (r : R) (D : Option Addr) (c : Nat) (hx : x.ok) (hl : x.wait.length ≤ 150) (hr : r.vers.length ≤ 1000) (hD : Cells w D (flatV r.vers)) (hB : B ≤ w.heap.size) : Calls Try.prog 9 #[.pointer (some ⟨b, 0, none⟩), .agg #[.int .u64 r.ts, .int .i64 r.dc, .int .i64 r.tx, .slice D r.vers.length c]] w (LStepIs w B b vl vw (DecR x r)) := by
  rcases (by omega : r.ts ≤ x.bound ∨ x.bound < r.ts) with c1 | c1
  · exact (dec_old w B b vl vw L M x h r D c c1).mono fun e w' ⟨he, hb⟩ => lkeep h (.inl ⟨c1, he, rfl⟩) hb
  · exact dec_new w B b vl vw L M x h r D c hx hl c1 hr hD hB
theorem lg0_ok : lg0.ok := ⟨by simp [lg0], by simp [lg0], by simp [lg0], by simp [lg0]⟩
def r9 : R := ⟨9, 0, 0, []⟩
def r4 : R := ⟨4, 0, 0, []⟩
theorem dec9 {e : Ending} {w' : World} {x' : Lg} (h : DecR lg0 r9 e w' x') : e = .returned (.int .i64 0) ∧ x' = ⟨[], [r9], 0⟩ := by
  rcases h with ⟨h, _⟩ | ⟨_, ⟨a, ha, _⟩, _⟩ | ⟨_, _, h1, h2⟩
  · simp [lg0, r9] at h
  · simp [lg0] at ha
  · exact ⟨h1, h2⟩
theorem dec4 {e : Ending} {w' : World} {x' : Lg} (h : DecR ⟨[], [r9], 0⟩ r4 e w' x') : e = .returned (.int .i64 0) ∧ x' = ⟨[], [r4, r9], 0⟩ := by
  rcases h with ⟨h, _⟩ | ⟨_, ⟨a, ha, hk⟩, _⟩ | ⟨_, _, h1, h2⟩
  · simp [r4] at h
  · simp at ha
    subst ha
    simp [R.k, r9, r4] at hk
  · exact ⟨h1, h2⟩
theorem rel5 {e : Ending} {w' : World} {x' : Lg} (h : RelR ⟨[], [r4, r9], 0⟩ 5 e w' x') : e = .returned (.int .i64 1) ∧ x' = ⟨[r4], [r9], 5⟩ := ⟨h.1, h.2⟩
theorem awake_any (w : World) : Calls Try.prog 17 #[] w fun e w' => e = .returned (.bool true) ∧ Below w.heap.size w w' := by
  go_enter Try.func17, Try.ntmps17
  go_wp2_with (go_at_call 8; refine (lnew_any _).mono ?_; rintro e w1 ⟨b, rfl, hb, hL1, hb1⟩)
  refine (dec_any w1 w.heap.size b _ _ _ _ lg0 hL1 r9 none 0 lg0_ok (by simp [lg0]) (by simp [r9]) (Cells.nil _ _) hb1.size).mono ?_
  rintro e w2 ⟨vl2, vw2, L2, M2, x2, hP2, hL2, hT2, hO2⟩
  obtain ⟨rfl, rfl⟩ := dec9 hP2
  go_wp2_with fail
  refine (dec_any w2 w.heap.size b _ _ _ _ ⟨[], [r9], 0⟩ hL2 r4 none 0 ⟨by simp, by simp [r9], by simp, by simp⟩ (by simp) (by simp [r4]) (Cells.nil _ _) (Nat.le_trans hb1.size hT2.size)).mono ?_
  rintro e w3 ⟨vl3, vw3, L3, M3, x3, hP3, hL3, hT3, hO3⟩
  obtain ⟨rfl, rfl⟩ := dec4 hP3
  go_wp2_with fail
  refine (release_any w3 w.heap.size b _ _ _ _ ⟨[], [r4, r9], 0⟩ hL3 (by simp) 5 (Nat.le_trans (Nat.le_trans hb1.size hT2.size) hT3.size)).mono ?_
  rintro e w4 ⟨vl4, vw4, L4, M4, x4, hP4, hL4, hT4, hO4⟩
  obtain ⟨rfl, rfl⟩ := rel5 hP4
  have hlen := len_any w4 w.heap.size b _ _ _ _ _ hL4
  have hwai := waiting_any w4 w.heap.size b _ _ _ _ _ hL4
  simp only [List.length_singleton, Int.natCast_one] at hlen hwai
  go_wp2_with (first
    | (go_at_call 14; refine hlen.mono ?_; rintro e w5 ⟨rfl, rfl⟩)
    | (go_at_call 15; refine hwai.mono ?_; rintro e w6 ⟨rfl, rfl⟩))
  go_ret
  have low1 : ∀ g, logS b (.slice none 0 0) (.slice none 0 0) g → w.heap.size ≤ g := by
    rintro g (e | e | e)
    · omega
    · cases e
    · cases e
  have b2 := hT2.below hb1 low1
  have low2 : ∀ g, logS b vl2 vw2 g → w.heap.size ≤ g := fun g e => (Nat.lt_or_ge g w1.heap.size).elim (fun c => low1 g (hO2 g c e)) (fun c => Nat.le_trans hb1.size c)
  have b3 := hT3.below b2 low2
  have low3 : ∀ g, logS b vl3 vw3 g → w.heap.size ≤ g := fun g e => (Nat.lt_or_ge g w2.heap.size).elim (fun c => low2 g (hO3 g c e)) (fun c => Nat.le_trans b2.size c)
  exact ⟨rfl, hT4.below b3 low3⟩
end Go.Proofs.Ytggbdjdfejcpjaa
