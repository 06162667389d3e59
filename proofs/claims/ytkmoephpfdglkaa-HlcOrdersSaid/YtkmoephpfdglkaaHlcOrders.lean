/-
  The statement of the law HlcOrders: whatever the input, true; the input reads as it did. Conditions: none.
-/
import Derived.Test.YtkmoephpfdglkaaBase
import Derived.Test.YtkmoephpfdglkaaHlcT
import Derived.Test.YtkmoephpfdglkaaMarkT
import Derived.Test.YtkmoephpfdglkaaMem
import Derived.Deep.RegionHeld3
import Derived.Deep.QuietTactic
import Derived.BigQuiet
import Derived.Lib.SmallJoins
namespace Go.Proofs.Ytkmoephpfdglkaa.lawHlcOrders
open Go.ChangeShapes Go.WideShapes Go.ChangeAt Go.RowKit

set_option linter.unusedVariables false
open Go.Joins Go.Deep

/-- The three boxes of the law's arguments, and that nothing older has changed. -/
def S9 (a b c x y z p q r : Int) (w w' : World) : Prop := Below w.heap.size w w' ∧
  (w'.cell? ⟨w.heap.size, 0, none⟩ = some (.int .u64 a) ∧ w'.cell? ⟨w.heap.size, 1, none⟩ = some (.int .i64 b) ∧ w'.cell? ⟨w.heap.size, 2, none⟩ = some (.int .i64 c)) ∧
  (w'.cell? ⟨w.heap.size + 1, 0, none⟩ = some (.int .u64 x) ∧ w'.cell? ⟨w.heap.size + 1, 1, none⟩ = some (.int .i64 y) ∧ w'.cell? ⟨w.heap.size + 1, 2, none⟩ = some (.int .i64 z)) ∧
  (w'.cell? ⟨w.heap.size + 2, 0, none⟩ = some (.int .u64 p) ∧ w'.cell? ⟨w.heap.size + 2, 1, none⟩ = some (.int .i64 q) ∧ w'.cell? ⟨w.heap.size + 2, 2, none⟩ = some (.int .i64 r))
theorem S9.on {a b c x y z p q r : Int} {w w1 w2 : World} (h : S9 a b c x y z p q r w w1) (hb : Below w1.heap.size w1 w2) : S9 a b c x y z p q r w w2 := by
  obtain ⟨h0, ⟨h1, h2, h3⟩, ⟨h4, h5, h6⟩, ⟨h7, h8, h9⟩⟩ := h
  exact ⟨below_own h0 hb, ⟨cell_on hb h1, cell_on hb h2, cell_on hb h3⟩, ⟨cell_on hb h4, cell_on hb h5, cell_on hb h6⟩, ⟨cell_on hb h7, cell_on hb h8, cell_on hb h9⟩⟩

theorem awake_any (w : World) : Calls Try.prog 12 #[] w fun e w' => e = .returned (.bool true) ∧ w = w' := by
  have hp : pck 1 2 = (65538, 0) := by decide
  go_enter Try.func12, Try.ntmps12
  go_wp2_with (go_at_call 9; refine (pack_any _ _ _).mono ?_; rintro e w' ⟨rfl, rfl⟩)
  go_ret
  exact ⟨rfl, rfl⟩

set_option maxHeartbeats 1000000 in
/-- The law's walk where the three comparisons give such numbers. -/
theorem walk_case (a b c x y z p q r X : Int) (L R : Bool) (w : World) (hX : mcmp a b c x y z = X) (hX' : mcmp x y z a b c = -X) (hL : mlt a b c x y z = L) (hR : mlt x y z a b c = R)
    (hc : (X = -1 ∧ L = true ∧ R = false ∧ (0 < mcmp x y z p q r ∨ (mcmp x y z p q r ≤ 0 ∧ mcmp a b c p q r < 0))) ∨ (X = 1 ∧ L = false ∧ R = true) ∨
      (X = 0 ∧ L = false ∧ R = false ∧ (0 < mcmp x y z p q r ∨ (mcmp x y z p q r ≤ 0 ∧ mcmp a b c p q r ≤ 0))))
    (he : (a == x && (b == y && c == z)) = (X == 0)) :
    Calls Try.prog 6 #[.agg #[.int .u64 a, .int .i64 b, .int .i64 c], .agg #[.int .u64 x, .int .i64 y, .int .i64 z], .agg #[.int .u64 p, .int .i64 q, .int .i64 r]] w fun e w' => e = .returned (.bool true) ∧ Below w.heap.size w w' := by
  have hq := mark_eq a b c x y z
  rw [he] at hq
  clear he
  rcases hc with ⟨rfl, rfl, rfl, h | ⟨h, h'⟩⟩ | ⟨rfl, rfl, rfl⟩ | ⟨rfl, rfl, rfl, h | ⟨h, h'⟩⟩
  all_goals
    go_enter Try.func6, Try.ntmps6
    go_wp2_with fail
    go_region_held3 (fun w' => Below w.heap.size w w' ∧
        (w'.cell? ⟨w.heap.size, 0, none⟩ = some (.int .u64 a) ∧ w'.cell? ⟨w.heap.size, 1, none⟩ = some (.int .i64 b) ∧ w'.cell? ⟨w.heap.size, 2, none⟩ = some (.int .i64 c)) ∧
        (w'.cell? ⟨w.heap.size + 1, 0, none⟩ = some (.int .u64 x) ∧ w'.cell? ⟨w.heap.size + 1, 1, none⟩ = some (.int .i64 y) ∧ w'.cell? ⟨w.heap.size + 1, 2, none⟩ = some (.int .i64 z)) ∧
        (w'.cell? ⟨w.heap.size + 2, 0, none⟩ = some (.int .u64 p) ∧ w'.cell? ⟨w.heap.size + 2, 1, none⟩ = some (.int .i64 q) ∧ w'.cell? ⟨w.heap.size + 2, 2, none⟩ = some (.int .i64 r)))
      (first | (refine ⟨own_drew (own_alloc (own_alloc (own_alloc (own_refl _) _) _) _), ⟨?_, ?_, ?_⟩, ⟨?_, ?_, ?_⟩, ⟨?_, ?_, ?_⟩⟩ <;> (go_simp; done)) | (go_split_ands; refine ⟨below_own (by assumption) (by assumption), ⟨?_, ?_, ?_⟩, ⟨?_, ?_, ?_⟩, ⟨?_, ?_, ?_⟩⟩ <;> exact cell_on (by assumption) (by assumption)))
      (first | (go_at_call 15; refine (cmp_any _ _ _ _ _ _ _).mono ?_; rintro e w1 ⟨rfl, hb1⟩))
    rename_i hS
    have h9 : S9 a b c x y z p q r w _ := hS
    clear hS
    obtain ⟨_, ⟨_, _, _⟩, ⟨_, _, _⟩, ⟨_, _, _⟩⟩ := id h9
    go_wp2_with (first
      | (go_at_call 16; refine (less_any _ _ _ _ _ _ _).mono ?_; rintro e w2 ⟨rfl, hb2⟩; replace h9 := h9.on hb2; obtain ⟨_, ⟨_, _, _⟩, ⟨_, _, _⟩, ⟨_, _, _⟩⟩ := id h9)
      | (go_at_call 15; refine (cmp_any _ _ _ _ _ _ _).mono ?_; rintro e w2 ⟨rfl, hb2⟩; replace h9 := h9.on hb2; obtain ⟨_, ⟨_, _, _⟩, ⟨_, _, _⟩, ⟨_, _, _⟩⟩ := id h9)
      | (go_at_call 12; refine (awake_any _).mono ?_; rintro e w2 ⟨rfl, rfl⟩))
    go_ret
    refine ⟨?_, h9.1⟩
    first
    | rfl
    | exact ret_val (congrArg Value.bool (by simp; omega))

theorem tri (a b c x y z : Int) : (mcmp a b c x y z = -1 ∧ mcmp x y z a b c = 1 ∧ mlt a b c x y z = true ∧ mlt x y z a b c = false ∧ (a == x && (b == y && c == z)) = false) ∨
    (mcmp a b c x y z = 0 ∧ mcmp x y z a b c = 0 ∧ mlt a b c x y z = false ∧ mlt x y z a b c = false ∧ (a == x && (b == y && c == z)) = true) ∨
    (mcmp a b c x y z = 1 ∧ mcmp x y z a b c = -1 ∧ mlt a b c x y z = false ∧ mlt x y z a b c = true ∧ (a == x && (b == y && c == z)) = false) := by
  rcases (by omega : (a < x ∨ (a = x ∧ (b < y ∨ (b = y ∧ c < z)))) ∨ (a = x ∧ b = y ∧ c = z) ∨ (x < a ∨ (x = a ∧ (y < b ∨ (y = b ∧ z < c))))) with h | h | h
  · refine .inl ⟨mcmp_lt h, mcmp_gt h, by unfold mlt; simpa using h, by unfold mlt; simp only [decide_eq_false_iff_not]; omega, ?_⟩
    rw [Bool.eq_false_iff]; simp; omega
  · obtain ⟨rfl, rfl, rfl⟩ := h
    refine .inr (.inl ⟨(mcmp_zero _ _ _ _ _ _).2 ⟨rfl, rfl, rfl⟩, (mcmp_zero _ _ _ _ _ _).2 ⟨rfl, rfl, rfl⟩, by unfold mlt; simp, by unfold mlt; simp, by simp⟩)
  · refine .inr (.inr ⟨mcmp_gt h, mcmp_lt h, by unfold mlt; simp only [decide_eq_false_iff_not]; omega, by unfold mlt; simpa using h, ?_⟩)
    rw [Bool.eq_false_iff]; simp; omega

theorem mcmp_vals (a b c x y z : Int) : mcmp a b c x y z = if a < x ∨ (a = x ∧ (b < y ∨ (b = y ∧ c < z))) then -1 else if a = x ∧ b = y ∧ c = z then 0 else 1 := by
  by_cases h : a < x ∨ (a = x ∧ (b < y ∨ (b = y ∧ c < z)))
  · rw [if_pos h, mcmp_lt h]
  · rw [if_neg h]
    by_cases k : a = x ∧ b = y ∧ c = z
    · rw [if_pos k, (mcmp_zero _ _ _ _ _ _).2 k]
    · rw [if_neg k, mcmp_gt (by omega)]

theorem walk (a b c x y z p q r : Int) (w : World) :
    Calls Try.prog 6 #[.agg #[.int .u64 a, .int .i64 b, .int .i64 c], .agg #[.int .u64 x, .int .i64 y, .int .i64 z], .agg #[.int .u64 p, .int .i64 q, .int .i64 r]] w fun e w' => e = .returned (.bool true) ∧ Below w.heap.size w w' := by
  have hy := mcmp_vals x y z p q r
  have hz := mcmp_vals a b c p q r
  have hx := mcmp_vals a b c x y z
  rcases tri a b c x y z with ⟨h1, h2, h3, h4, h5⟩ | ⟨h1, h2, h3, h4, h5⟩ | ⟨h1, h2, h3, h4, h5⟩
  · refine walk_case a b c x y z p q r (-1) true false w h1 h2 h3 h4 (.inl ⟨rfl, rfl, rfl, ?_⟩) h5
    rw [h1] at hx
    rw [hy, hz]
    split at hx
    · repeat' split
      all_goals omega
    · split at hx <;> omega
  · refine walk_case a b c x y z p q r 0 false false w h1 h2 h3 h4 (.inr (.inr ⟨rfl, rfl, rfl, ?_⟩)) h5
    rw [h1] at hx
    rw [hy, hz]
    split at hx
    · omega
    · split at hx
      · repeat' split
        all_goals omega
      · omega
  · exact walk_case a b c x y z p q r 1 false true w h1 h2 h3 h4 (.inr (.inl ⟨rfl, rfl, rfl⟩)) h5

theorem cells37 : Try.prog.cellsOf 37 = 3 := by kernel_rfl
theorem open_mark {H : Type} {enc : TypeId × Value → H} {W : World} {b0 : Nat} {v : Value} {d : DataW H} {p : List MemPlace} (hv : Value.okWide Try.prog W .any b0 37 v) (h : DataW.Trod enc Try.prog W 0 (fun _ => true) true 37 v d p) :
    ∃ a b c : Int, v = .agg #[.int .u64 a, .int .i64 b, .int .i64 c] := by
  obtain ⟨c0, c1, c2, y0, y1, y2, m, rfl, rfl, rfl, h0, h1, h2⟩ := open_agg3 Try.underlying37 (by kernel_rfl) cells37 hv h
  obtain ⟨a, e0, _, _⟩ := DataW.trod_int Try.underlying22 h0
  simp only [List.cons.injEq, and_true] at e0
  subst e0
  obtain ⟨b, e1, _, _⟩ := DataW.trod_int Try.underlying3 h1
  simp only [List.cons.injEq, and_true] at e1
  subst e1
  obtain ⟨c, e2, _, _⟩ := DataW.trod_int Try.underlying3 h2
  simp only [List.cons.injEq, and_true] at e2
  subst e2
  exact ⟨a, b, c, rfl⟩

theorem law_calls {H : Type} (enc : TypeId × Value → H) (W : World) (base : Nat) (args : Array Value) (ds : List (DataW H)) (ps : List MemPlace)
    (hval : ∀ (j : Nat) t v, Try.f6.params[j]? = some t → args[j]? = some v → Value.okWide Try.prog W .any base t v)
    (hA : DataW.TrodAll enc Try.prog W 0 (fun _ => true) true Try.f6.params.toList args.toList ds ps)
    (_ : (DataW.weightsEach Try.prog Try.f6.params.toList ds).all (· ≤ reachBytes) = true) :
    Calls Try.prog 6 args W fun e W' => e = .returned (.bool true) ∧ Below W.heap.size W W' := by
  rw [Try.params6] at hA hval
  obtain ⟨v0, vs0, d0, ds0, p0, q0, hargs, rfl, rfl, h0, r0⟩ := trodAll_cons hA
  obtain ⟨v1, vs1, d1, ds1, p1, q1, rfl, rfl, rfl, h1, r1⟩ := trodAll_cons r0
  obtain ⟨v2, vs2, d2, ds2, p2, q2, rfl, rfl, rfl, h2, r2⟩ := trodAll_cons r1
  obtain ⟨rfl, rfl, rfl⟩ := trodAll_nil r2
  obtain rfl : args = #[v0, v1, v2] := by cases args; simp_all
  obtain ⟨a, b, c, rfl⟩ := open_mark (hval 0 37 v0 rfl rfl) h0
  obtain ⟨x, y, z, rfl⟩ := open_mark (hval 1 37 v1 rfl rfl) h1
  obtain ⟨p, q, r, rfl⟩ := open_mark (hval 2 37 v2 rfl rfl) h2
  exact walk a b c x y z p q r W

set_option maxRecDepth 100000 in
theorem lifted (os : Os) (started : os.Started) (H : Type) (enc : TypeId × Value → H) :
    ReturnsInHanded {} Try.checked os 6 .any (Rows.hlcOrdersSpec.pre6 enc Try.prog Try.f6 Rows.hlcOrdersRow.domain false) (Rows.hlcOrdersSpec.post enc Try.prog Try.f6 false true false false) := by
  refine law_lift (C := Try.checked) (s := Rows.hlcOrdersSpec) (tb := 4) own started (by kernel_rfl) Try.func6
    (ChangeSpec.witness6 (enc := enc) (C := Try.checked) false ⟨#[], #[.agg #[.int .u64 0, .int .i64 0, .int .i64 0], .agg #[.int .u64 0, .int .i64 0, .int .i64 0], .agg #[.int .u64 0, .int .i64 0, .int .i64 0]], []⟩ 8 (by kernel_rfl) (by kernel_rfl) (by kernel_rfl) (by kernel_rfl)) rfl ?_ rfl Try.underlying4 laidOut ?_ ?_
  · intro ds h
    match ds, h with
    | [_, _, _], _ => rfl
  · intro t ht
    have ht' : t ∈ [37, 37, 37] := ht
    simp only [List.mem_cons, List.mem_nil_iff, or_false] at ht'
    rcases ht' with rfl | rfl | rfl <;> exact ⟨by kernel_rfl, of_decide_eq_true (by kernel_rfl)⟩
  · intro W base args ds ps hval hA hsz
    exact law_calls enc W base args ds ps hval hA hsz

theorem over : Rows.hlcOrdersRow.holds Try.pinned (OpenSpec.ofChange Rows.hlcOrdersSpec) :=
  OpenClaim.holds_of_wide 6 Try.f6 rfl rfl rfl rfl rfl rfl rfl ⟨rfl, rfl, rfl, rfl, rfl⟩ rfl rfl rfl rfl rfl (by kernel_rfl) Try.func6 (by kernel_rfl)
    (of_decide_eq_true (by kernel_rfl)) (by unfold Func.isWrapper; first | (rw [if_pos (by decide +kernel)]; kernel_rfl) | (rw [if_neg (by decide +kernel)]; exact ⟨rfl, rfl⟩))
    (fun os started H enc _ => lifted os started H enc)

/-- The given statement. -/
theorem proved : Rows.HlcOrdersSaid := over
#print axioms proved
end Go.Proofs.Ytkmoephpfdglkaa.lawHlcOrders
