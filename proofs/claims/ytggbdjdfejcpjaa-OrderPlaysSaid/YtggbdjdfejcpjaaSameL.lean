/-
  The law's own 'same' of two rows of equal commits. Conditions: their cells lie as the hypotheses say.
-/
import Derived.Test.YtggbdjdfejcpjaaOrdQ
namespace Go.Proofs.Ytggbdjdfejcpjaa
open Go.RowKit Go.Maps
set_option linter.unusedVariables false

set_option maxRecDepth 100000 in
set_option maxHeartbeats 2000000 in
theorem same_cells (A Z : Option Addr) (n c d : Nat) (K1 K2 : List Q) (w : World) (h1 : K1.length = n) (hm : n ≤ 9223372036854775807) (hA : Cells w A (flatQ K1)) (hZ : Cells w Z (flatQ K2)) (hr : K1.map Q.r = K2.map Q.r)
    (q1 : ∀ q ∈ K1, Cells w q.D (flatV q.r.vers)) (q2 : ∀ q ∈ K2, Cells w q.D (flatV q.r.vers)) (hf : ∀ q ∈ K1, q.r.vers.length ≤ 1000) :
    Calls Try.prog 18 #[.slice A n c, .slice Z n d] w fun e w' => e = .returned (.bool true) ∧ Below w.heap.size w w' := by
  have HL := Lib.hid h1
  have h2 : K2.length = n := by have := congrArg List.length hr; rw [List.length_map, List.length_map] at this; omega
  have HL2 := Lib.hid h2
  clear h1 h2
  go_enter Try.func18, Try.ntmps18
  go_wp2_with fail
  go_loopw [13] (fun i wr => ∃ k : Nat, k ≤ n ∧ i = .int .i64 k ∧ Below w.heap.size w wr) (fun i _ => n - (intOf i).toNat)
  case atStart => exact ⟨0, Nat.zero_le _, rfl, own_refl _⟩
  case round =>
    obtain ⟨k, hk, rfl, hB⟩ := hrel
    by_cases hlt : k < n
    · obtain ⟨a, ha⟩ : ∃ a, K1[k]? = some a := ⟨_, List.getElem?_eq_getElem (by rw [HL.out]; exact hlt)⟩
      obtain ⟨z, hz⟩ : ∃ z, K2[k]? = some z := ⟨_, List.getElem?_eq_getElem (by rw [HL2.out]; exact hlt)⟩
      have hrz : z.r = a.r := by
        have e1 : (K1.map Q.r)[k]? = some a.r := by rw [List.getElem?_map, ha]; rfl
        rw [hr, List.getElem?_map, hz] at e1
        exact Option.some.inj e1
      have hqa := (q1 a (List.mem_of_getElem? ha)).on hB
      have hqz := (q2 z (List.mem_of_getElem? hz)).on hB
      have hla := hf a (List.mem_of_getElem? ha)
      obtain ⟨ga, oa, rfl, a0, a1, a2, a3⟩ := get_q hA ha
      obtain ⟨gz, oz, rfl, z0, z1, z2, z3⟩ := get_q hZ hz
      have a0' := cell_on hB a0
      have a1' := cell_on hB a1
      have a2' := cell_on hB a2
      have a3' := cell_on hB a3
      have z0' := cell_on hB z0
      have z1' := cell_on hB z1
      have z2' := cell_on hB z2
      have z3' := cell_on hB z3
      obtain ⟨zr, zD, zc⟩ := z
      have hrz : zr = a.r := hrz
      subst hrz
      have g3 : (0 : Int) ≤ (k : Int) := by omega
      have g4 : (k : Int) < (n : Int) := by omega
      have g5 : (k : Int) + 1 ≤ 9223372036854775807 := by omega
      clear ha hz a0 a1 a2 a3 z0 z1 z2 z3 hA hZ q1 q2
      go_wp2_with fail
      go_region_held3 (fun w' => Below wr.heap.size wr w' ∧ w'.cell? ⟨ga, oa + k * 4, none⟩ = some (.int .u64 a.r.ts) ∧ w'.cell? ⟨ga, oa + k * 4 + 1, none⟩ = some (.int .i64 a.r.dc) ∧ w'.cell? ⟨ga, oa + k * 4 + 2, none⟩ = some (.int .i64 a.r.tx) ∧ w'.cell? ⟨ga, oa + k * 4 + 3, none⟩ = some (.slice a.D a.r.vers.length a.c) ∧ w'.cell? ⟨gz, oz + k * 4, none⟩ = some (.int .u64 a.r.ts) ∧ w'.cell? ⟨gz, oz + k * 4 + 1, none⟩ = some (.int .i64 a.r.dc) ∧ w'.cell? ⟨gz, oz + k * 4 + 2, none⟩ = some (.int .i64 a.r.tx) ∧ w'.cell? ⟨gz, oz + k * 4 + 3, none⟩ = some (.slice zD a.r.vers.length zc))
        (first | (refine ⟨own_drew (own_refl _), ?_, ?_, ?_, ?_, ?_, ?_, ?_, ?_⟩ <;> (go_simp; done)) | (go_split_ands; refine ⟨below_own (by assumption) (by assumption), ?_, ?_, ?_, ?_, ?_, ?_, ?_, ?_⟩ <;> exact cell_on (by assumption) (by assumption)))
        ((go_at_call 23; refine (same_rec a.r a.D zD _ a.c zc _ rfl (by omega) (hqa.on (own_drew (own_refl _))) (hqz.on (own_drew (own_refl _)))).mono ?_; rintro e w2 ⟨rfl, hb2⟩))
      rename_i hSS
      have hb3 := hSS.1
      clear hSS
      go_wp2
      go_roundw
      case rel => exact ⟨k + 1, by omega, by go_num, below_own hB hb3⟩
      case measure => simp [intOf]; omega
    · obtain rfl : k = n := by omega
      go_wp2
      go_ret
      exact ⟨rfl, hB⟩
theorem same_list (A Z : Option Addr) (n c d : Nat) (K1 K2 : List Q) (w : World) (h1 : K1.length = n) (hm : n ≤ 9223372036854775807) (hA : Cells w A (flatQ K1)) (hZ : Cells w Z (flatQ K2)) (hr : K1.map Q.r = K2.map Q.r)
    (q1 : ∀ q ∈ K1, QAt w q) (q2 : ∀ q ∈ K2, QAt w q) (hf : ∀ q ∈ K1, q.r.vers.length ≤ 1000) :
    Calls Try.prog 18 #[.slice A n c, .slice Z n d] w fun e w' => e = .returned (.bool true) ∧ Below w.heap.size w w' :=
  same_cells A Z n c d K1 K2 w h1 hm hA hZ hr (fun q hq => (q1 q hq).1) (fun q hq => (q2 q hq).1) hf
end Go.Proofs.Ytggbdjdfejcpjaa
