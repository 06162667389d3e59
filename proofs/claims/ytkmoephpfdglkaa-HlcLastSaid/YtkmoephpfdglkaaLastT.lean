/-
  The walks of the two functions that find the greatest mark's place. Conditions: the list's cells lie as the hypotheses say.
-/
import Derived.Test.YtkmoephpfdglkaaMarkT
import Derived.Test.YtkmoephpfdglkaaMarks
import Derived.Deep.RegionHeld3
import Derived.Deep.QuietTactic
import Derived.BigQuiet
import Derived.Outline
namespace Go.Proofs.Ytkmoephpfdglkaa
open Go.RowKit
set_option linter.unusedVariables false

/-- what Last answers. -/
def LastIs (l : List K) (w : World) (e : Ending) (w' : World) : Prop := ∃ r : Int, e = .returned (.int .i64 r) ∧ Below w.heap.size w w' ∧ ((l = [] ∧ r = -1) ∨ ∃ a : Nat, r = a ∧ Top l l.length a)

set_option maxHeartbeats 1000000 in
theorem last_any (A : Option Addr) (n c : Nat) (l : List K) (w : World) (hn : l.length = n) (hm : n ≤ 9223372036854775807) (hA : Cells w A (flatK l)) :
    Calls Try.prog 21 #[.slice A n c] w (LastIs l w) := by
  go_enter Try.func21, Try.ntmps21
  go_wp2
  go_loopw [3, 7] (fun r i wr => ∃ (k : Nat) (z : Int), k ≤ n ∧ i = .int .i64 k ∧ r = .int .i64 z ∧ Below w.heap.size w wr ∧ ((k = 0 ∧ z = -1) ∨ ∃ a : Nat, z = a ∧ Top l k a)) (fun _ i _ => n - (intOf i).toNat)
  case atStart => exact ⟨0, -1, Nat.zero_le _, rfl, rfl, Below.refl _ _, .inl ⟨rfl, rfl⟩⟩
  case round =>
    obtain ⟨k, z, hk, rfl, rfl, hbel, hz⟩ := hrel
    by_cases hlt : k < n
    · obtain ⟨x, hx⟩ : ∃ x, l[k]? = some x := ⟨_, List.getElem?_eq_getElem (by omega)⟩
      rcases hz with ⟨rfl, rfl⟩ | ⟨a, rfl, ht⟩
      · go_wp2_with fail
        go_quiet (fail)
        go_wp2
        go_roundw
        case rel => exact ⟨1, 0, by omega, by go_num, by go_num, own_drewN hbel _, .inr ⟨0, rfl, Top.one hx⟩⟩
        case measure => simp [intOf]; omega
      · obtain ⟨y, hy, hak, _⟩ := id ht
        obtain ⟨b, off, rfl, hc⟩ := hA.mark hx
        obtain ⟨x0, x1, x2⟩ := hc k x hx
        obtain ⟨y0, y1, y2⟩ := hc a y hy
        clear hc
        have x0' := cell_on hbel x0
        have x1' := cell_on hbel x1
        have x2' := cell_on hbel x2
        have y0' := cell_on hbel y0
        have y1' := cell_on hbel y1
        have y2' := cell_on hbel y2
        have g1 : (0 : Int) ≤ (a : Int) := by omega
        have g2 : (a : Int) < (n : Int) := by omega
        have g3 : decide ((a : Int) < 0) = false := by simp
        rcases hyx : klt y x with _ | _
        all_goals
         first | have g4 := mcmp_neg hyx | have g4 := mcmp_pos hyx
         go_wp2_with fail
         go_region_held3 (fun w' => Below w.heap.size w w' ∧ w'.cell? ⟨b, off + k * 3, none⟩ = some (.int .u64 x.ts) ∧ w'.cell? ⟨b, off + k * 3 + 1, none⟩ = some (.int .i64 x.dc) ∧ w'.cell? ⟨b, off + k * 3 + 2, none⟩ = some (.int .i64 x.tx) ∧
            w'.cell? ⟨b, off + a * 3, none⟩ = some (.int .u64 y.ts) ∧ w'.cell? ⟨b, off + a * 3 + 1, none⟩ = some (.int .i64 y.dc) ∧ w'.cell? ⟨b, off + a * 3 + 2, none⟩ = some (.int .i64 y.tx))
          (first | (refine ⟨own_drew (by assumption), ?_, ?_, ?_, ?_, ?_, ?_⟩ <;> (go_simp; done)) | (go_split_ands; refine ⟨below_own (by assumption) (by assumption), ?_, ?_, ?_, ?_, ?_, ?_⟩ <;> exact cell_on (by assumption) (by assumption)))
          (first | (go_at_call 15; refine (cmp_any _ _ _ _ _ _ _).mono ?_; rintro e w1 ⟨rfl, hb1⟩))
         rename_i hS
         obtain ⟨hb', _⟩ := hS
         go_wp2
         go_roundw
         case rel => first
           | exact ⟨k + 1, a, by omega, by go_num, rfl, hb', .inr ⟨a, rfl, ht.keep hy hx hyx⟩⟩
           | exact ⟨k + 1, k, by omega, by go_num, rfl, hb', .inr ⟨k, rfl, ht.next hy hx hyx⟩⟩
         case measure => simp [intOf]; omega
    · obtain rfl : k = n := by omega
      go_wp2
      go_ret
      refine ⟨z, rfl, hbel, ?_⟩
      rcases hz with ⟨h0, rfl⟩ | ⟨a, rfl, ht⟩
      · exact .inl ⟨List.eq_nil_of_length_eq_zero (by omega), rfl⟩
      · exact .inr ⟨a, rfl, hn ▸ ht⟩

theorem Top.of_all {l : List K} {i : Nat} {x : K} (hx : l[i]? = some x) (ha : ∀ j y, j < l.length → l[j]? = some y → klt x y = false)
    (hb : ∀ j y, j < i → l[j]? = some y → ∃ z : K, z ∈ l ∧ klt y z = true) : Top l l.length i := by
  refine ⟨x, hx, (List.getElem?_eq_some_iff.1 hx).1, ha, fun j y hj hy => ?_⟩
  obtain ⟨z, hz, hyz⟩ := hb j y hj hy
  obtain ⟨q, hq⟩ := List.mem_iff_getElem?.1 hz
  exact klt_of_not' hyz (ha q z (List.getElem?_eq_some_iff.1 hq).1 hq)

/-- some element of the first k is above x. -/
theorem none_of {l : List K} {k : Nat} {x y : K} {g : Bool} (hg : g = true ↔ ∀ j z, j < k → l[j]? = some z → klt x z = false) (hy : l[k]? = some y) :
    (g && !klt x y) = true ↔ ∀ j z, j < k + 1 → l[j]? = some z → klt x z = false := by
  rw [Bool.and_eq_true, hg, Bool.not_eq_true']
  constructor
  · intro ⟨h1, h2⟩ j z hj hz
    rcases Nat.lt_or_ge j k with c | c
    · exact h1 j z c hz
    · obtain rfl : j = k := by omega
      rw [hy] at hz; injection hz with e; subst e; exact h2
  · intro h
    exact ⟨fun j z hj hz => h j z (by omega) hz, h k y (by omega) hy⟩

set_option maxHeartbeats 1000000 in
theorem rlast_any (A : Option Addr) (n c : Nat) (l : List K) (w : World) (hn : l.length = n) (hm : n ≤ 9223372036854775807) (hA : Cells w A (flatK l)) :
    Calls Try.prog 22 #[.slice A n c] w (LastIs l w) := by
  go_enter Try.func22, Try.ntmps22
  go_wp2
  go_loopw [3] (fun i wr => ∃ (k : Nat), k ≤ n ∧ i = .int .i64 k ∧ Below w.heap.size w wr ∧ ∀ j y, j < k → l[j]? = some y → ∃ z : K, z ∈ l ∧ klt y z = true) (fun i _ => n - (intOf i).toNat)
  case atStart => exact ⟨0, Nat.zero_le _, rfl, Below.refl _ _, fun j y hj _ => by omega⟩
  case round =>
    obtain ⟨i, hi, rfl, hbel, hall⟩ := hrel
    obtain ⟨wo, rfl⟩ : ∃ wo : World, wo = wr := ⟨_, rfl⟩
    by_cases hlt : i < n
    · obtain ⟨x, hx⟩ : ∃ x, l[i]? = some x := ⟨_, List.getElem?_eq_getElem (by omega)⟩
      obtain ⟨b, off, rfl, hc⟩ := hA.mark hx
      obtain ⟨x0, x1, x2⟩ := hc i x hx
      go_wp2
      go_loopw [4, 5] (fun g q wr => ∃ (k : Nat) (gb : Bool), k ≤ n ∧ q = .int .i64 k ∧ g = .bool gb ∧ Below w.heap.size w wr ∧ (gb = true ↔ ∀ j z, j < k → l[j]? = some z → klt x z = false)) (fun _ q _ => n - (intOf q).toNat)
      case atStart => exact ⟨0, true, Nat.zero_le _, rfl, rfl, hbel, by simp⟩
      case round =>
        obtain ⟨k, gb, hk, rfl, rfl, hbel2, hg⟩ := hrel
        by_cases hlt2 : k < n
        · obtain ⟨y, hy⟩ : ∃ y, l[k]? = some y := ⟨_, List.getElem?_eq_getElem (by omega)⟩
          have hstep := none_of hg hy
          cases gb
          · clear hg
            go_wp2_with fail
            go_quiet (fail)
            go_wp2
            go_roundw
            case rel => exact ⟨k + 1, false, by omega, by go_num, rfl, own_drewN hbel2 _, by simpa using hstep⟩
            case measure => simp [intOf]; omega
          · clear hg
            obtain ⟨y0, y1, y2⟩ := hc k y hy
            have x0' := cell_on hbel2 x0
            have x1' := cell_on hbel2 x1
            have x2' := cell_on hbel2 x2
            have y0' := cell_on hbel2 y0
            have y1' := cell_on hbel2 y1
            have y2' := cell_on hbel2 y2
            have g1 : (0 : Int) ≤ (i : Int) := by omega
            have g2 : (i : Int) < (n : Int) := by omega
            have g3 : (0 : Int) ≤ (k : Int) := by omega
            have g4 : (k : Int) < (n : Int) := by omega
            go_wp2_with fail
            go_region_held3 (fun w' => Below w.heap.size w w' ∧ w'.cell? ⟨b, off + i * 3, none⟩ = some (.int .u64 x.ts) ∧ w'.cell? ⟨b, off + i * 3 + 1, none⟩ = some (.int .i64 x.dc) ∧ w'.cell? ⟨b, off + i * 3 + 2, none⟩ = some (.int .i64 x.tx) ∧
                w'.cell? ⟨b, off + k * 3, none⟩ = some (.int .u64 y.ts) ∧ w'.cell? ⟨b, off + k * 3 + 1, none⟩ = some (.int .i64 y.dc) ∧ w'.cell? ⟨b, off + k * 3 + 2, none⟩ = some (.int .i64 y.tx))
              (first | (refine ⟨own_drew (by assumption), ?_, ?_, ?_, ?_, ?_, ?_⟩ <;> (go_simp; done)) | (go_split_ands; refine ⟨below_own (by assumption) (by assumption), ?_, ?_, ?_, ?_, ?_, ?_⟩ <;> exact cell_on (by assumption) (by assumption)))
              (first | (go_at_call 16; refine (less_any _ _ _ _ _ _ _).mono ?_; rintro e w1 ⟨rfl, hb1⟩))
            rename_i hS
            obtain ⟨hb', _⟩ := hS
            go_wp2
            go_roundw
            case rel => exact ⟨k + 1, !klt x y, by omega, by go_num, rfl, hb', by simpa using hstep⟩
            case measure => simp [intOf]; omega
        · obtain rfl : k = n := by omega
          cases gb
          · go_wp2
            go_roundw
            case rel =>
              refine ⟨i + 1, by omega, by go_num, hbel2, fun j y hj hy => ?_⟩
              rcases Nat.lt_or_ge j i with c | c
              · exact hall j y c hy
              · obtain rfl : j = i := by omega
                rw [hx] at hy; injection hy with e; subst e
                refine Classical.byContradiction fun hno => ?_
                have : (false : Bool) = true := hg.2 fun j z _ hz => by
                  cases hk : klt x z
                  · rfl
                  · exact absurd ⟨z, List.mem_of_getElem? hz, hk⟩ hno
                cases this
            case measure => simp [intOf]; omega
          · go_wp2
            go_ret
            exact ⟨i, rfl, hbel2, .inr ⟨i, rfl, Top.of_all hx (hn ▸ hg.1 trivial) hall⟩⟩
    · obtain rfl : i = n := by omega
      go_wp2
      go_ret
      exact ⟨-1, rfl, hbel, .inl ⟨nil_of_above (hn ▸ hall), rfl⟩⟩

theorem LastIs.at_ {l : List K} {a : Nat} {w : World} {e : Ending} {w' : World} (ht : Top l l.length a) (h : LastIs l w e w') : e = .returned (.int .i64 a) ∧ Below w.heap.size w w' := by
  obtain ⟨r, rfl, hb, ⟨rfl, _⟩ | ⟨b, rfl, hr⟩⟩ := h
  · obtain ⟨x, hx, _⟩ := ht
    simp at hx
  · obtain rfl := ht.unique hr
    exact ⟨rfl, hb⟩
theorem LastIs.nil_ {l : List K} {w : World} {e : Ending} {w' : World} (hl : l = []) (h : LastIs l w e w') : e = .returned (.int .i64 (-1)) ∧ Below w.heap.size w w' := by
  obtain ⟨r, rfl, hb, ⟨_, rfl⟩ | ⟨b, rfl, hr⟩⟩ := h
  · exact ⟨rfl, hb⟩
  · obtain ⟨x, hx, _⟩ := hr
    rw [hl] at hx
    simp at hx
end Go.Proofs.Ytkmoephpfdglkaa
