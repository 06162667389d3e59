/-
  Commits of different marks, decided in whatever order, wait in one order. No program in sight; and rows of commits in memory, two of which are changed. Conditions: none.
-/
import Derived.Test.YtggbdjdfejcpjaaOrdQ
namespace Go.Proofs.Ytggbdjdfejcpjaa
open Go.RowKit Go.Maps
set_option linter.unusedVariables false

theorem klt_irr (a : K) : klt a a = false := by simp [klt, mlt]
theorem rlt_irr (a : R) : ¬ rlt a a := by unfold rlt; rw [klt_irr]; simp
theorem rlt_ext : ∀ (a b : List R), a.Pairwise rlt → b.Pairwise rlt → (∀ x, x ∈ a ↔ x ∈ b) → a = b
  | [], [], _, _, _ => rfl
  | [], y :: b, _, _, h => by have := (h y).2 (by simp); cases this
  | x :: a, [], _, _, h => by have := (h x).1 (by simp); cases this
  | x :: a, y :: b, ha, hb, h => by
    obtain ⟨h1, h2⟩ := List.pairwise_cons.1 ha
    obtain ⟨k1, k2⟩ := List.pairwise_cons.1 hb
    have e : x = y := by
      rcases List.mem_cons.1 ((h x).1 (by simp)) with e | e
      · exact e
      · rcases List.mem_cons.1 ((h y).2 (by simp)) with e' | e'
        · exact e'.symm
        · exact absurd (rlt_trans (k1 x e) (h1 y e')) (rlt_irr y)
    subst e
    rw [rlt_ext a b h2 k2 fun z => ?_]
    have hz := h z
    simp only [List.mem_cons] at hz
    constructor
    · intro hm
      rcases hz.1 (.inr hm) with e | e
      · subst e; exact absurd (h1 z hm) (rlt_irr z)
      · exact e
    · intro hm
      rcases hz.2 (.inr hm) with e | e
      · subst e; exact absurd (k1 z hm) (rlt_irr z)
      · exact e
/-- what waits is what was decided of a list up to a place. -/
structure Took (x : Lg) (l : List R) (k : Nat) : Prop where
  fine : LFine x k
  ord : OrdI x
  none : x.list = []
  b0 : x.bound = 0
  mem : ∀ a, a ∈ x.wait ↔ a ∈ l.take k ∧ 0 < a.ts
theorem Took.new (l : List R) : Took lg0 l 0 := ⟨LFine.new, OrdI.new, rfl, rfl, by simp [lg0]⟩
def Apart (l : List R) : Prop := l.Pairwise fun a b => a.k ≠ b.k
theorem apart_perm {l m : List R} (h : Apart l) (p : m.Perm l) : Apart m := (p.pairwise_iff (R := fun a b : R => a.k ≠ b.k) (fun {_ _} e => e.symm)).2 h
theorem apart_at {l : List R} (h : Apart l) {k : Nat} {r a : R} (hr : l[k]? = some r) (ha : a ∈ l.take k) : a.k ≠ r.k := by
  obtain ⟨j, hj⟩ := List.mem_iff_getElem?.1 ha
  obtain ⟨h1, h2⟩ := List.getElem?_eq_some_iff.1 hj
  obtain ⟨h3, h4⟩ := List.getElem?_eq_some_iff.1 hr
  rw [List.getElem_take] at h2
  rw [List.length_take] at h1
  have := List.pairwise_iff_getElem.1 h j k (by omega) h3 (by omega)
  rwa [h2, h4] at this
theorem apart_more {l : List R} (h : Apart l) {r : R} (hn : ∀ a ∈ l, a.k ≠ r.k) : Apart (l ++ [r]) := List.pairwise_append.2 ⟨h, List.pairwise_singleton _ _, fun a ha b hb => by rw [List.mem_singleton.1 hb]; exact hn a ha⟩
theorem take_more {l : List R} {k : Nat} {r : R} (hr : l[k]? = some r) : l.take (k + 1) = l.take k ++ [r] := by
  obtain ⟨h1, h2⟩ := List.getElem?_eq_some_iff.1 hr
  rw [List.take_succ_eq_append_getElem h1, h2]
theorem Took.dec {x x' : Lg} {l : List R} {k : Nat} {r : R} {e : Ending} {w' : World} (h : Took x l k) (hl : Apart l) (hk : k ≤ 190) (hr : l[k]? = some r) (hv : r.vers.length ≤ 12) (ht : r.ts ≤ 18446744073709551615) (hP : DecR x r e w' x') : Took x' l (k + 1) := by
  have hf := h.fine.dec hk hv ht hP
  obtain ⟨ho, hxl⟩ := h.ord.dec hP
  rcases hP with ⟨hle, _, rfl⟩ | ⟨hlt, ⟨a, ha, hak⟩, _, rfl⟩ | ⟨hlt, hn, _, rfl⟩
  · refine ⟨hf, ho, h.none, h.b0, fun a => ?_⟩
    rw [take_more hr, List.mem_append, List.mem_singleton, h.mem a]
    have hb := h.b0
    constructor
    · rintro ⟨h1, h2⟩; exact ⟨.inl h1, h2⟩
    · rintro ⟨h1 | rfl, h2⟩
      · exact ⟨h1, h2⟩
      · omega
  · exact absurd hak (apart_at hl hr ((h.mem a).1 ha).1)
  · refine ⟨hf, ho, h.none, h.b0, fun a => ?_⟩
    have hb := h.b0
    rw [take_more hr, List.mem_append, List.mem_singleton]
    show a ∈ putW x.wait r ↔ _
    rw [mem_putW, h.mem a]
    constructor
    · rintro (⟨h1, h2⟩ | rfl)
      · exact ⟨.inl h1, h2⟩
      · exact ⟨.inr rfl, by omega⟩
    · rintro ⟨h1 | rfl, h2⟩
      · exact .inl ⟨h1, h2⟩
      · exact .inr rfl
/-- two logs that took the same commits in two orders are one. -/
theorem Took.same {x y : Lg} {l m : List R} {n : Nat} (hx : Took x l n) (hy : Took y m n) (hp : m.Perm l) (hn : l.length = n) : x = y := by
  have hw : x.wait = y.wait := by
    have h1 : x.wait.Pairwise rlt := (List.pairwise_append.1 hx.ord.up).2.1
    have h2 : y.wait.Pairwise rlt := (List.pairwise_append.1 hy.ord.up).2.1
    refine rlt_ext _ _ h1 h2 fun a => ?_
    rw [hx.mem a, hy.mem a, List.take_of_length_le (by omega), List.take_of_length_le (by have := hp.length_eq; omega), hp.mem_iff]
  have e1 := hx.none
  have e2 := hy.none
  have e3 := hx.b0
  have e4 := hy.b0
  cases x; cases y
  simp only at hw e1 e2 e3 e4
  subst hw e1 e2 e3 e4
  rfl
/-- two places changed. -/
def swapQ (m : List Q) (i k : Nat) : List Q := match m[i]?, m[k]? with
  | some x, some y => (m.set i y).set k x
  | _, _ => m
theorem swapQ_perm (m : List Q) (i k : Nat) : (swapQ m i k).Perm m := by
  unfold swapQ
  cases hi : m[i]? with
  | none => exact List.Perm.refl _
  | some x =>
    cases hk : m[k]? with
    | none => exact List.Perm.refl _
    | some y =>
      obtain ⟨h1, h2⟩ := List.getElem?_eq_some_iff.1 hi
      obtain ⟨h3, h4⟩ := List.getElem?_eq_some_iff.1 hk
      subst h2 h4
      exact List.set_set_perm h1 h3
theorem swap_some {M : List Q} {i j : Nat} {x y : Q} (hx : M[i]? = some x) (hy : M[j]? = some y) : swapQ M i j = (M.set i y).set j x := by unfold swapQ; rw [hx, hy]
theorem flatQ_set : ∀ (M : List Q) (k : Nat) (x : Q), k < M.length → ((((flatQ M).set (k * 4) (.int .u64 x.r.ts)).set (k * 4 + 1) (.int .i64 x.r.dc)).set (k * 4 + 2) (.int .i64 x.r.tx)).set (k * 4 + 3) (.slice x.D x.r.vers.length x.c) = flatQ (M.set k x) := by
  intro M
  induction M with
  | nil => intro k x h; simp at h
  | cons y M ih =>
    intro k x h
    cases k with
    | zero => rfl
    | succ k =>
      have h1 : ∀ (R : List Value) (q : Nat) (u : Value), (y.cells ++ R).set (y.cells.length + q) u = y.cells ++ R.set q u := fun R q u => by
        rw [List.set_append_right _ _ (Nat.le_add_right _ _), Nat.add_sub_cancel_left]
      have e0 : (k + 1) * 4 = y.cells.length + k * 4 := by rw [Q.clen]; omega
      show ((((y.cells ++ flatQ M).set _ _).set _ _).set _ _).set _ _ = y.cells ++ flatQ (M.set k x)
      rw [← ih k x (by simpa using h), e0, h1]
      simp only [Nat.add_assoc, h1]
theorem four_row {w : World} {base g N cp : Nat} {M : List Q} (h : w.ownsRow base 32 4 (.slice (some ⟨g, 0, none⟩) N cp) N (flatQ M)) {k : Nat} (hk : k < M.length) (x : Q) :
    (((((w.setCell ⟨g, k * 4, none⟩ (.int .u64 x.r.ts)).setCell ⟨g, k * 4 + 1, none⟩ (.int .i64 x.r.dc)).setCell ⟨g, k * 4 + 2, none⟩ (.int .i64 x.r.tx)).setCell ⟨g, k * 4 + 3, none⟩ (.slice x.D x.r.vers.length x.c))).ownsRow base 32 4 (.slice (some ⟨g, 0, none⟩) N cp) N (flatQ (M.set k x)) := by
  rw [← flatQ_set M k x hk]
  exact ((((h.stored (k * 4) _).1.stored (k * 4 + 1) _).1.stored (k * 4 + 2) _).1.stored (k * 4 + 3) _).1
theorem four_below {w0 w : World} {g k : Nat} (h : Below w0.heap.size w0 w) (hg : w0.heap.size ≤ g) (x : Q) : Below w0.heap.size w0 (((((w.setCell ⟨g, k * 4, none⟩ (.int .u64 x.r.ts)).setCell ⟨g, k * 4 + 1, none⟩ (.int .i64 x.r.dc)).setCell ⟨g, k * 4 + 2, none⟩ (.int .i64 x.r.tx)).setCell ⟨g, k * 4 + 3, none⟩ (.slice x.D x.r.vers.length x.c))) :=
  own_set (own_set (own_set (own_set h hg _) hg _) hg _) hg _
theorem rem_in (z : Int) {N : Nat} (h : 0 < N) (hN : N ≤ 1000) : ∃ i : Nat, wrap64 ((IntKind.u64.wrap z).tmod (N : Int)) = i ∧ i < N := by
  have hz : 0 ≤ IntKind.u64.wrap z := by simp [IntKind.wrap, IntKind.bits, IntKind.signed]; omega
  rw [Int.tmod_eq_emod_of_nonneg hz]
  have h0 : (0 : Int) ≤ IntKind.u64.wrap z % (N : Int) := Int.emod_nonneg _ (by omega)
  have h1 : IntKind.u64.wrap z % (N : Int) < N := Int.emod_lt_of_pos _ (by omega)
  exact ⟨(IntKind.u64.wrap z % (N : Int)).toNat, by unfold wrap64; omega, by omega⟩
theorem row_some {w : World} {base : Nat} {e : TypeId} {size n cp : Nat} {D : Option Addr} {xs : List Value} (h : w.ownsRow base e size (.slice D n cp) n xs) (hn : 0 < n) : ∃ g, D = some ⟨g, 0, none⟩ ∧ base ≤ g ∧ g < w.heap.size := by
  obtain ⟨hl, ⟨hv, h0⟩ | ⟨g, cap, cur, hv, hg, hh, r⟩⟩ := h
  · omega
  · injection hv with h1
    exact ⟨g, h1, hg, (Array.getElem?_eq_some_iff.1 hh).1⟩
/-- a commit as it came in, cut. -/
structure Fed (w : World) (q : Q) : Prop where
  few : q.r.vers.length ≤ 12
  D : Cells w q.D (flatV q.r.vers)
  ts : q.r.ts ≤ 18446744073709551615
end Go.Proofs.Ytggbdjdfejcpjaa
