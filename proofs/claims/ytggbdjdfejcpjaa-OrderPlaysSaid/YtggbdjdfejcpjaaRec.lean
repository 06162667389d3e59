/-
  Commits: the functions that copy, cut, mark and compare them. Conditions: their versions' cells lie as the hypotheses say.
-/
import Derived.Test.YtggbdjdfejcpjaaAt
import Derived.Test.YtggbdjdfejcpjaaSame
import Derived.Test.YtggbdjdfejcpjaaMarkT
import Derived.Deep.RegionHeld3
import Derived.Deep.RegionLaw
import Derived.Deep.QuietTactic
import Derived.BigQuiet
import Derived.Outline
import Derived.Lib.Hide
namespace Go.Proofs.Ytggbdjdfejcpjaa
open Go.RowKit
set_option linter.unusedVariables false

structure R where
  ts : Int
  dc : Int
  tx : Int
  vers : List V
theorem infoVer : (Try.prog.info? 58).map (fun i => (i.zero, i.size, i.bytes)) = some (some (.agg #[.string ⟨#[]⟩, .string ⟨#[]⟩, .bool false, .int .u64 0, .int .i64 0, .int .i64 0]), 6, 64) := by kernel_rfl
theorem one_ver (x : V) : ∀ u ∈ x.cells, u.oneCell' = true := by
  intro u hu
  simp only [V.cells, List.mem_cons, List.mem_nil_iff, or_false] at hu
  rcases hu with rfl | rfl | rfl | rfl | rfl | rfl <;> rfl
theorem one_flat (l : List V) : ∀ u ∈ flatV l, u.oneCell' = true := one_cells one_ver
theorem own_on {w w1 : World} {base : Nat} {e : TypeId} {size n : Nat} {v : Value} {xs : List Value} (h : w.ownsRow base e size v n xs) (hb : Below w.heap.size w w1) : w1.ownsRow base e size v n xs := (Turns.of_below (S := none') hb).row h (fun _ _ => id)
theorem below_grown {w0 w w' : World} {v : Value} {base : Nat} {e : TypeId} {size n : Nat} {xs : List Value} (h : Below w0.heap.size w0 w) (hown : w.ownsRow base e size v n xs) (hb : w0.heap.size ≤ base) (hg : w.grownBy w' v.ownBlock) : Below w0.heap.size w0 w' :=
  h.grown hg h.size fun k hk => Nat.le_trans hb (hown.lt k hk).1
/-- a commit of which no more than twelve versions are kept. -/
def R.few (r : R) : R := ⟨r.ts, r.dc, r.tx, r.vers.take 12⟩
theorem few_len (r : R) : r.few.vers.length ≤ 12 := by show (r.vers.take 12).length ≤ 12; rw [List.length_take]; omega
theorem few_few (r : R) : r.few.few = r.few := by unfold R.few; simp [List.take_take]

set_option maxHeartbeats 1000000 in
theorem few_any (r : R) (D : Option Addr) (n c : Nat) (w : World) (hn : r.vers.length = n) (hc : n ≤ c) (hm : n ≤ 9223372036854775807) (hD : D = none → n = 0 ∧ c = 0) :
    Calls Try.prog 10 #[.agg #[.int .u64 r.ts, .int .i64 r.dc, .int .i64 r.tx, .slice D n c]] w fun e w' => e = .returned (.agg #[.int .u64 r.ts, .int .i64 r.dc, .int .i64 r.tx, .slice D (min n 12) c]) ∧ Below w.heap.size w w' := by
  have hc' : (n : Int) ≤ (c : Int) := by omega
  by_cases h12 : n ≤ 12
  · rw [show min n 12 = n from by omega]
    have k2 : (n : Int) ≤ 12 := by omega
    have k3 : (n : Int) ≤ (c : Int) := by omega
    clear hc'
    rcases D with _ | ⟨b, off, sp⟩
    · obtain ⟨rfl, rfl⟩ := hD rfl
      go_enter Try.func10, Try.ntmps10
      go_wp2
      refine bodyPost_ret (v := .agg #[.int .u64 r.ts, .int .i64 r.dc, .int .i64 r.tx, .slice none 0 0]) (by simp [results, Try.results10, go_sem]) rfl ⟨rfl, ?_⟩
      exact own_alloc (own_alloc (own_refl _) _) _
    · clear hD
      go_enter Try.func10, Try.ntmps10
      go_wp2
      refine bodyPost_ret (v := .agg #[.int .u64 r.ts, .int .i64 r.dc, .int .i64 r.tx, .slice (some ⟨b, off, sp⟩) n c]) (by simp [results, Try.results10, go_sem]) rfl ⟨rfl, ?_⟩
      exact own_alloc (own_alloc (own_refl _) _) _
  · rw [show min n 12 = 12 from by omega]
    have k1 : (12 : Int) ≤ (c : Int) := by omega
    have k2 : ¬ (n : Int) ≤ 12 := by omega
    rcases D with _ | ⟨b, off, sp⟩
    · obtain ⟨rfl, rfl⟩ := hD rfl
      omega
    · clear hD
      go_enter Try.func10, Try.ntmps10
      go_wp2
      refine bodyPost_ret (v := .agg #[.int .u64 r.ts, .int .i64 r.dc, .int .i64 r.tx, .slice (some ⟨b, off, sp⟩) 12 c]) (by simp [results, Try.results10, go_sem]) rfl ⟨rfl, ?_⟩
      exact own_alloc (own_alloc (own_refl _) _) _
theorem two_box {w w2 : World} {cs ds : Array Value} {t u : TypeId} (hb : Below ((w.alloc (.cells cs t)).alloc (.cells ds u)).heap.size ((w.alloc (.cells cs t)).alloc (.cells ds u)) w2) :
    (∀ j, w2.cell? ⟨w.heap.size, j, none⟩ = cs[j]?) ∧ (∀ j, w2.frozen? ⟨w.heap.size, j, none⟩ = false) ∧ (∀ j, w2.cell? ⟨w.heap.size + 1, j, none⟩ = ds[j]?) ∧ (∀ j, w2.frozen? ⟨w.heap.size + 1, j, none⟩ = false) ∧ w.heap.size + 1 < w2.heap.size := by
  have hs : ((w.alloc (.cells cs t)).alloc (.cells ds u)).heap.size = w.heap.size + 2 := by simp
  have h1 : (w.alloc (.cells cs t)).heap.size = w.heap.size + 1 := by simp
  have b0 : ((w.alloc (.cells cs t)).alloc (.cells ds u)).heap[w.heap.size]? = some (.cells cs t) := by
    rw [Below.heap_alloc _ _ _ (by rw [h1]; omega)]; exact heap_alloc_new w _
  have b1 : ((w.alloc (.cells cs t)).alloc (.cells ds u)).heap[w.heap.size + 1]? = some (.cells ds u) := by
    rw [← h1]; exact heap_alloc_new _ _
  have a0 := (hb.block w.heap.size (by omega)).trans b0
  have a1 := (hb.block (w.heap.size + 1) (by omega)).trans b1
  refine ⟨fun j => cell_of_row _ _ _ _ _ _ a0, fun j => by simp [World.frozen?, a0], fun j => cell_of_row _ _ _ _ _ _ a1, fun j => by simp [World.frozen?, a1], by have := hb.size; omega⟩
/-- what a copy answers: the versions in a row of its own. -/
def CopyIs (r : R) (w : World) (e : Ending) (w' : World) : Prop := ∃ D cp, e = .returned (.agg #[.int .u64 r.ts, .int .i64 r.dc, .int .i64 r.tx, .slice D r.vers.length cp]) ∧ w'.ownsRow w.heap.size 58 6 (.slice D r.vers.length cp) r.vers.length (flatV r.vers) ∧ Below w.heap.size w w'

set_option maxHeartbeats 1000000 in
theorem ocopy_any (r : R) (D : Option Addr) (n c : Nat) (w : World) (hn : r.vers.length = n) (hm : n * 64 ≤ 140737488351232) (hD : Cells w D (flatV r.vers)) :
    Calls Try.prog 22 #[.agg #[.int .u64 r.ts, .int .i64 r.dc, .int .i64 r.tx, .slice D n c]] w (CopyIs r w) := by
  obtain ⟨i0, hi0, hz0, hz1, hz2⟩ := info_parts infoVer
  have hfl : (flatV r.vers).length = n * 6 := by rw [flatV_length, hn]
  have HFL := Lib.hid hfl
  have HN := Lib.hid hn
  have hsz : ((w.alloc (.cells #[.int .u64 r.ts, .int .i64 r.dc, .int .i64 r.tx, .slice D n c] 32)).alloc (.cells #[.int .u64 0, .int .i64 0, .int .i64 0, .slice none 0 0] 32)).heap.size = w.heap.size + 2 := by simp
  have hD2 : Cells ((w.alloc (.cells #[.int .u64 r.ts, .int .i64 r.dc, .int .i64 r.tx, .slice D n c] 32)).alloc (.cells #[.int .u64 0, .int .i64 0, .int .i64 0, .slice none 0 0] 32)) D (flatV r.vers) := hD.on (own_alloc (own_alloc (own_refl _) _) _)
  clear hfl hn
  go_enter Try.func22, Try.ntmps22
  go_wp2_with (at_builtin; refine wpList_append_cells _ rfl _ _ 30 rfl (w.heap.size + 2) 58 i0 (.agg #[.string ⟨#[]⟩, .string ⟨#[]⟩, .bool false, .int .u64 0, .int .i64 0, .int .i64 0]) 6 64 Try.underlying30 hi0 hz0 hz1 hz2 rfl (by omega) _ _ _ rfl (World.ownsRow_nil _ (w.heap.size + 2) 58 6) _ n _ (flatV r.vers) rfl HFL.out hD2 (one_flat _) (by unfold maxLen; omega) (by omega) (by simp) ?_; intro D2 cp2 w2 hown2 hgrow2; simp only [Nat.zero_add, List.nil_append] at hown2; have hbb : Below ((w.alloc (.cells #[.int .u64 r.ts, .int .i64 r.dc, .int .i64 r.tx, .slice D n c] 32)).alloc (.cells #[.int .u64 0, .int .i64 0, .int .i64 0, .slice none 0 0] 32)).heap.size ((w.alloc (.cells #[.int .u64 r.ts, .int .i64 r.dc, .int .i64 r.tx, .slice D n c] 32)).alloc (.cells #[.int .u64 0, .int .i64 0, .int .i64 0, .slice none 0 0] 32)) w2 := below_grown (own_refl _) (World.ownsRow_nil ((w.alloc (.cells #[.int .u64 r.ts, .int .i64 r.dc, .int .i64 r.tx, .slice D n c] 32)).alloc (.cells #[.int .u64 0, .int .i64 0, .int .i64 0, .slice none 0 0] 32)) ((w.alloc (.cells #[.int .u64 r.ts, .int .i64 r.dc, .int .i64 r.tx, .slice D n c] 32)).alloc (.cells #[.int .u64 0, .int .i64 0, .int .i64 0, .slice none 0 0] 32)).heap.size 58 6) (Nat.le_refl _) hgrow2; obtain ⟨p1, p2, p3, p4, p5⟩ := two_box hbb; have z0 : w2.cell? ⟨w.heap.size, 0, none⟩ = some (.int .u64 r.ts) := p1 0; have z1 : w2.cell? ⟨w.heap.size, 1, none⟩ = some (.int .i64 r.dc) := p1 1; have z2 : w2.cell? ⟨w.heap.size, 2, none⟩ = some (.int .i64 r.tx) := p1 2; have z3 : w2.cell? ⟨w.heap.size, 3, none⟩ = some (.slice D n c) := p1 3; have f0 := p2 0; have f1 := p2 1; have f2 := p2 2; have f3 := p2 3; have y0 : w2.cell? ⟨w.heap.size + 1, 0, none⟩ = some (.int .u64 0) := p3 0; have y1 : w2.cell? ⟨w.heap.size + 1, 1, none⟩ = some (.int .i64 0) := p3 1; have y2 : w2.cell? ⟨w.heap.size + 1, 2, none⟩ = some (.int .i64 0) := p3 2; have y3 : w2.cell? ⟨w.heap.size + 1, 3, none⟩ = some (.slice none 0 0) := p3 3; have g0 := p4 0; have g1 := p4 1; have g2 := p4 2; have g3 := p4 3; clear p1 p2 p3 p4)
  refine bodyPost_ret (v := .agg #[.int .u64 r.ts, .int .i64 r.dc, .int .i64 r.tx, .slice D2 n cp2]) (by simp [results, Try.results22, go_sem, y0, y1, y2, y3]) rfl ?_
  unfold CopyIs
  rw [HN.out]
  have hb2 : Below w.heap.size w w2 := below_own (own_alloc (own_alloc (own_refl _) _) _) hbb
  have hlow : ∀ g, (Value.slice D2 n cp2).ownBlock = some g → w.heap.size + 2 ≤ g := fun g hg => (hown2.lt g hg).1
  refine ⟨D2, cp2, rfl, row_weaken (base := w.heap.size + 2) ?_ (by omega), own_set (own_set (own_set (own_set (own_set hb2 (Nat.le_refl _) _) (Nat.le_succ _) _) (Nat.le_succ _) _) (Nat.le_succ _) _) (Nat.le_succ _) _⟩
  exact Turns.row (S := two w.heap.size (w.heap.size + 1)) (((((Turns.refl _ w2).set (fun _ => .inl rfl) _).set (fun _ => .inr rfl) _).set (fun _ => .inr rfl) _).set (fun _ => .inr rfl) _ |>.set (fun _ => .inr rfl) _) hown2 (fun g hg e => by have := hlow g hg; rcases e with e | e <;> omega)

theorem mark_any (r : R) (D : Option Addr) (n c : Nat) (w : World) :
    Calls Try.prog 21 #[.agg #[.int .u64 r.ts, .int .i64 r.dc, .int .i64 r.tx, .slice D n c]] w fun e w' => e = .returned (.agg #[.int .u64 r.ts, .int .i64 r.dc, .int .i64 r.tx]) ∧ Below w.heap.size w w' := by
  go_enter Try.func21, Try.ntmps21
  go_wp2
  refine bodyPost_ret (v := .agg #[.int .u64 r.ts, .int .i64 r.dc, .int .i64 r.tx]) (by simp [results, Try.results21, go_sem]) rfl ⟨rfl, ?_⟩
  exact own_alloc (own_alloc (own_refl _) _) _
set_option maxHeartbeats 1000000 in
theorem same_rec (r : R) (D E : Option Addr) (n c d : Nat) (w : World) (hn : r.vers.length = n) (hm : n ≤ 9223372036854775807) (hD : Cells w D (flatV r.vers)) (hE : Cells w E (flatV r.vers)) :
    Calls Try.prog 23 #[.agg #[.int .u64 r.ts, .int .i64 r.dc, .int .i64 r.tx, .slice D n c], .agg #[.int .u64 r.ts, .int .i64 r.dc, .int .i64 r.tx, .slice E n d]] w fun e w' => e = .returned (.bool true) ∧ Below w.heap.size w w' := by
  have hme := fun w => mark_eq r.ts r.dc r.tx r.ts r.dc r.tx w
  simp only [beq_self_eq_true, Bool.and_self] at hme
  go_enter Try.func23, Try.ntmps23
  go_wp2_with fail
  go_region_held3 (fun w' => Below w.heap.size w w' ∧ w'.cell? ⟨w.heap.size, 0, none⟩ = some (.int .u64 r.ts) ∧ w'.cell? ⟨w.heap.size, 1, none⟩ = some (.int .i64 r.dc) ∧ w'.cell? ⟨w.heap.size, 2, none⟩ = some (.int .i64 r.tx) ∧ w'.cell? ⟨w.heap.size, 3, none⟩ = some (.slice D n c) ∧ w'.cell? ⟨w.heap.size + 1, 0, none⟩ = some (.int .u64 r.ts) ∧ w'.cell? ⟨w.heap.size + 1, 1, none⟩ = some (.int .i64 r.dc) ∧ w'.cell? ⟨w.heap.size + 1, 2, none⟩ = some (.int .i64 r.tx) ∧ w'.cell? ⟨w.heap.size + 1, 3, none⟩ = some (.slice E n d))
    (first | (refine ⟨own_drew (own_alloc (own_alloc (own_refl _) _) _), ?_, ?_, ?_, ?_, ?_, ?_, ?_, ?_⟩ <;> (go_simp; done)) | (go_split_ands; refine ⟨below_own (by assumption) (by assumption), ?_, ?_, ?_, ?_, ?_, ?_, ?_, ?_⟩ <;> exact cell_on (by assumption) (by assumption)))
    (first | (go_at_call 21; refine (mark_any _ _ _ _ _).mono ?_; rintro e w1 ⟨rfl, hb1⟩) | (go_at_call 28; go_split_ands; refine (same_any _ _ _ _ _ r.vers _ hn hm (hD.on (by assumption)) (hE.on (by assumption))).mono ?_; rintro e w1 ⟨rfl, hb1⟩))
  rename_i hS
  obtain ⟨hb', _⟩ := hS
  go_wp2
  go_ret
  exact ⟨rfl, hb'⟩
set_option maxHeartbeats 1000000 in
theorem rcopy_any (r : R) (D : Option Addr) (n c : Nat) (w : World) (hn : r.vers.length = n) (hm : n * 64 ≤ 140737488351232) (hD : Cells w D (flatV r.vers)) :
    Calls Try.prog 26 #[.agg #[.int .u64 r.ts, .int .i64 r.dc, .int .i64 r.tx, .slice D n c]] w (CopyIs r w) := by
  obtain ⟨i0, hi0, hz0, hz1, hz2⟩ := info_parts infoVer
  have hfl : (flatV r.vers).length = n * 6 := by rw [flatV_length, hn]
  have HFL := Lib.hid hfl
  have HN := Lib.hid hn
  have hsz : ((w.alloc (.cells #[.int .u64 r.ts, .int .i64 r.dc, .int .i64 r.tx, .slice D n c] 32)).alloc (.cells #[.int .u64 0, .int .i64 0, .int .i64 0, .slice none 0 0] 32)).heap.size = w.heap.size + 2 := by simp
  have hD2 : Cells ((w.alloc (.cells #[.int .u64 r.ts, .int .i64 r.dc, .int .i64 r.tx, .slice D n c] 32)).alloc (.cells #[.int .u64 0, .int .i64 0, .int .i64 0, .slice none 0 0] 32)) D (flatV r.vers) := hD.on (own_alloc (own_alloc (own_refl _) _) _)
  have he := own_empty ((w.alloc (.cells #[.int .u64 r.ts, .int .i64 r.dc, .int .i64 r.tx, .slice D n c] 32)).alloc (.cells #[.int .u64 0, .int .i64 0, .int .i64 0, .slice none 0 0] 32)).drew 58 6
  rw [show ((w.alloc (.cells #[.int .u64 r.ts, .int .i64 r.dc, .int .i64 r.tx, .slice D n c] 32)).alloc (.cells #[.int .u64 0, .int .i64 0, .int .i64 0, .slice none 0 0] 32)).drew.heap.size = w.heap.size + 2 from hsz] at he
  have hD3 : Cells (((w.alloc (.cells #[.int .u64 r.ts, .int .i64 r.dc, .int .i64 r.tx, .slice D n c] 32)).alloc (.cells #[.int .u64 0, .int .i64 0, .int .i64 0, .slice none 0 0] 32)).drew.alloc (.cells #[] 58)) D (flatV r.vers) := (show Cells ((w.alloc (.cells #[.int .u64 r.ts, .int .i64 r.dc, .int .i64 r.tx, .slice D n c] 32)).alloc (.cells #[.int .u64 0, .int .i64 0, .int .i64 0, .slice none 0 0] 32)).drew D _ from hD2).on (own_alloc (own_refl _) _)
  clear hfl hn
  go_enter Try.func26, Try.ntmps26
  go_wp2_with fail
  go_region_held3 (fun w' => Below w.heap.size w w' ∧ w'.cell? ⟨w.heap.size, 0, none⟩ = some (.int .u64 r.ts) ∧ w'.cell? ⟨w.heap.size, 1, none⟩ = some (.int .i64 r.dc) ∧ w'.cell? ⟨w.heap.size, 2, none⟩ = some (.int .i64 r.tx) ∧ w'.cell? ⟨w.heap.size, 3, none⟩ = some (.slice D n c))
    (first | (refine ⟨own_drew (own_alloc (own_alloc (own_refl _) _) _), ?_, ?_, ?_, ?_⟩ <;> (go_simp; done)) | (go_split_ands; refine ⟨own_alloc (by assumption) _, ?_, ?_, ?_, ?_⟩ <;> (go_simp; done)) | (refine ⟨by assumption, ?_, ?_, ?_, ?_⟩ <;> assumption) | (go_split_ands; refine ⟨own_set (own_set (own_set (own_set (by assumption) (Nat.le_succ _) _) (Nat.le_succ _) _) (Nat.le_succ _) _) (Nat.le_succ _) _, ?_, ?_, ?_, ?_⟩ <;> (go_simp; done)))
    (first | (refine step_append_cells _ (by rfl) _ _ 30 (by rfl) (w.heap.size + 2) 58 i0 (.agg #[.string ⟨#[]⟩, .string ⟨#[]⟩, .bool false, .int .u64 0, .int .i64 0, .int .i64 0]) 6 64 Try.underlying30 hi0 hz0 hz1 hz2 (by rfl) (by omega) _ _ _ (by rfl) he _ n _ (flatV r.vers) (by rfl) HFL.out hD3 (one_flat _) (by unfold maxLen; omega) (by omega) (by simp) ?_; intro D2 cp2 w2 hown2 hgrow2; simp only [Nat.zero_add, List.nil_append] at hown2; have hbb : Below ((w.alloc (.cells #[.int .u64 r.ts, .int .i64 r.dc, .int .i64 r.tx, .slice D n c] 32)).alloc (.cells #[.int .u64 0, .int .i64 0, .int .i64 0, .slice none 0 0] 32)).heap.size ((w.alloc (.cells #[.int .u64 r.ts, .int .i64 r.dc, .int .i64 r.tx, .slice D n c] 32)).alloc (.cells #[.int .u64 0, .int .i64 0, .int .i64 0, .slice none 0 0] 32)) w2 := below_grown (own_alloc (own_drew (own_refl _)) _) he (Nat.le_of_eq hsz) hgrow2; have hb2 : Below w.heap.size w w2 := below_own (own_alloc (own_alloc (own_refl _) _) _) hbb; obtain ⟨p1, p2, p3, p4, p5⟩ := two_box hbb; have z0 : w2.cell? ⟨w.heap.size, 0, none⟩ = some (.int .u64 r.ts) := p1 0; have z1 : w2.cell? ⟨w.heap.size, 1, none⟩ = some (.int .i64 r.dc) := p1 1; have z2 : w2.cell? ⟨w.heap.size, 2, none⟩ = some (.int .i64 r.tx) := p1 2; have z3 : w2.cell? ⟨w.heap.size, 3, none⟩ = some (.slice D n c) := p1 3; have y0 : w2.cell? ⟨w.heap.size + 1, 0, none⟩ = some (.int .u64 0) := p3 0; have y1 : w2.cell? ⟨w.heap.size + 1, 1, none⟩ = some (.int .i64 0) := p3 1; have y2 : w2.cell? ⟨w.heap.size + 1, 2, none⟩ = some (.int .i64 0) := p3 2; have y3 : w2.cell? ⟨w.heap.size + 1, 3, none⟩ = some (.slice none 0 0) := p3 3; have g0 := p4 0; have g1 := p4 1; have g2 := p4 2; have g3 := p4 3; clear p1 p2 p3 p4))
  all_goals
    go_wp2
    refine bodyPost_ret (v := .agg #[.int .u64 r.ts, .int .i64 r.dc, .int .i64 r.tx, .slice D2 n cp2]) (by simp [results, Try.results26, go_sem, y0, y1, y2, y3]) rfl ?_
    unfold CopyIs
    rw [HN.out]
    have hlow : ∀ g, (Value.slice D2 n cp2).ownBlock = some g → w.heap.size + 2 ≤ g := fun g hg => (hown2.lt g hg).1
    refine ⟨D2, cp2, rfl, row_weaken (base := w.heap.size + 2) ?_ (by omega), ?_⟩
    · exact Turns.row (S := two w.heap.size (w.heap.size + 1)) (((((Turns.refl _ w2).set (fun _ => .inr rfl) _).set (fun _ => .inr rfl) _).set (fun _ => .inr rfl) _).set (fun _ => .inr rfl) _) hown2 (fun g hg e => by have := hlow g hg; rcases e with e | e <;> omega)
    · exact own_set (own_set (own_set (own_set hb2 (Nat.le_succ _) _) (Nat.le_succ _) _) (Nat.le_succ _) _) (Nat.le_succ _) _
end Go.Proofs.Ytggbdjdfejcpjaa
