/-
  Small facts on memory that the walks use: what lay below the old heap's end reads as before. Conditions: none.
-/
import Derived.WalkKit
import Derived.WalkSpells
import Derived.OpenShut
import Derived.ProofKit
import Derived.Deep.Draws
import Derived.Deep.Slices
import Derived.Deep.Fields
import Derived.ChangeArms
import Derived.Laws.OwnMore
namespace Go.Proofs.Ytiapolcpebilmaa
open Go.RowKit Go.ChangeShapes Go.WideShapes Go.Deep
set_option linter.unusedVariables false

theorem below_step {B : Nat} {w w1 w2 : World} (h : Below B w w1) (hB : B ≤ w1.heap.size) (hb : Below w1.heap.size w1 w2) : Below B w w2 := h.trans (hb.mono hB)
theorem below_own {w w1 w2 : World} (h : Below w.heap.size w w1) (hb : Below w1.heap.size w1 w2) : Below w.heap.size w w2 := h.trans (hb.mono h.size)
theorem cell_on {w w1 : World} {a : Addr} {v : Value} (hb : Below w.heap.size w w1) (h : w.cell? a = some v) : w1.cell? a = some v :=
  (hb.cell (World.block_lt_of_cell? _ _ h)).trans h
theorem own_alloc {w w1 : World} (h : Below w.heap.size w w1) (o : Obj) : Below w.heap.size w (w1.alloc o) := h.alloc h.size o
theorem own_drew {w w1 : World} (h : Below w.heap.size w w1) : Below w.heap.size w w1.drew := h.drew
theorem own_drewN {w w1 : World} (h : Below w.heap.size w w1) (n : Nat) : Below w.heap.size w (w1.drewN n) := ⟨h.os, h.tape, h.output, h.size, h.block⟩
theorem own_set {w w1 : World} (h : Below w.heap.size w w1) {a : Addr} (ha : w.heap.size ≤ a.block) (v : Value) : Below w.heap.size w (w1.setCell a v) := h.setCell ha v
theorem box_on {w w1 : World} {cs : Array Value} {t : TypeId} (hb : Below (w.alloc (.cells cs t)).heap.size (w.alloc (.cells cs t)) w1) :
    (∀ j, w1.cell? ⟨w.heap.size, j, none⟩ = cs[j]?) ∧ (∀ j, w1.frozen? ⟨w.heap.size, j, none⟩ = false) ∧ w.heap.size < w1.heap.size := by
  have hs : (w.alloc (.cells cs t)).heap.size = w.heap.size + 1 := by simp
  refine ⟨fun j => ?_, fun j => ?_, by have := hb.size; omega⟩
  · rw [hb.cell (p := ⟨w.heap.size, j, none⟩) (by rw [hs]; exact Nat.lt_succ_self _)]
    exact cell_of_row _ _ _ _ _ _ (heap_alloc_new w _)
  · rw [hb.frozen (p := ⟨w.heap.size, j, none⟩) (by rw [hs]; exact Nat.lt_succ_self _)]
    exact World.frozen?_alloc_new _ _ _ _
theorem own_refl (w : World) : Below w.heap.size w w := Below.refl _ _

/-- A slice's value at address A reads as the cells xs. -/
def Cells (w : World) (A : Option Addr) (xs : List Value) : Prop :=
  xs ≠ [] → ∃ b off, A = some ⟨b, off, none⟩ ∧ ∀ j u, xs[j]? = some u → w.cell? ⟨b, off + j, none⟩ = some u

theorem Cells.on {w w1 : World} {A : Option Addr} {xs : List Value} (h : Cells w A xs) (hb : Below w.heap.size w w1) : Cells w1 A xs := fun hx => by
  obtain ⟨b, off, e, hc⟩ := h hx
  exact ⟨b, off, e, fun j u hu => cell_on hb (hc j u hu)⟩
theorem Cells.below {B : Nat} {w w1 w2 : World} {A : Option Addr} {xs : List Value} (h : Cells w A xs) (hB : w.heap.size ≤ B) (hb : Below B w w2) : Cells w2 A xs := h.on (hb.mono hB)
theorem Cells.nil (w : World) (A : Option Addr) : Cells w A [] := fun h => absurd rfl h
theorem Cells.get {w : World} {A : Option Addr} {xs : List Value} (h : Cells w A xs) {j : Nat} (hj : j < xs.length) : ∃ b off, A = some ⟨b, off, none⟩ ∧ ∀ j u, xs[j]? = some u → w.cell? ⟨b, off + j, none⟩ = some u :=
  h (fun e => by rw [e] at hj; simp at hj)
theorem Cells.of_own {w : World} {base : Nat} {e : TypeId} {size n c : Nat} {A : Option Addr} {xs : List Value} (h : w.ownsRow base e size (.slice A n c) n xs) : Cells w A xs := fun hx => by
  have h' := h
  rcases h with ⟨hl, ⟨hv, rfl⟩ | ⟨g, cap, cur, hv, _⟩⟩
  · exact absurd (List.eq_nil_of_length_eq_zero (by simpa using hl)) hx
  · injection hv with hA hn hc
    subst hA
    refine ⟨g, 0, rfl, fun j u hu => ?_⟩
    have := h'.cells (g := g) rfl j u hu
    rw [Nat.zero_add]
    rcases Nat.eq_zero_or_pos j with h0 | h0
    · subst h0; simpa [Addr.add] using this
    · simpa [Addr.add, Nat.ne_of_gt h0] using this

theorem Cells.new (w : World) (cs : Array Value) (t : TypeId) : Cells (w.alloc (.cells cs t)) (some ⟨w.heap.size, 0, none⟩) cs.toList := fun _ => by
  refine ⟨w.heap.size, 0, rfl, fun j u hu => ?_⟩
  rw [Nat.zero_add, cell_of_row _ _ j _ _ _ (heap_alloc_new w _)]
  simpa using hu

section
variable {H : Type} {enc : TypeId × Value → H} {P : Program} {w : World}
theorem open_intslice {t e : TypeId} {k : IntKind} {r : Reach} {b0 : Nat} {v : Value} {d : DataW H} {p : List MemPlace} (ht : P.underlying t = some (.slice e)) (he : P.underlying e = some (.int k)) (hC : P.cellsOf e = 1)
    (hv : Value.okWide P w r b0 t v) (h : DataW.Trod enc P w 0 (fun _ => true) true t v d p) :
    ∃ (A : Option Addr) (n c : Nat) (zs : List Int), v = .slice A n c ∧ zs.length = n ∧ n ≤ 9223372036854775807 ∧ Cells w A (zs.map (Value.int k)) ∧ ∀ z ∈ zs, (Lit.int k z).wf = true := by
  obtain ⟨A, n, c, rfl⟩ := okWide_slice ht hv
  obtain ⟨fuel, hf⟩ := h
  rcases open_ints ht he hC hf with ⟨hcs, _⟩ | ⟨x, l, c', zs, hcs, _, hl, hm, hz, _, hcell, hwz⟩
  · simp [Value.cells] at hcs
    obtain ⟨rfl, rfl, rfl⟩ := hcs
    exact ⟨none, 0, 0, [], rfl, rfl, by omega, Cells.nil _ _, by simp⟩
  · simp [Value.cells] at hcs
    obtain ⟨rfl, rfl, rfl⟩ := hcs
    simp only [if_true] at hz
    unfold maxLen at hm
    refine ⟨some x, n, c, zs.take n, rfl, by rw [List.length_take]; omega, by omega, fun hx => ?_, fun z hz' => hwz z (List.mem_of_mem_take hz')⟩
    have hpos : 0 < zs.length := by
      rcases Nat.eq_zero_or_pos zs.length with h0 | h0
      · exact absurd (by rw [List.eq_nil_of_length_eq_zero h0]; simp) hx
      · exact h0
    have hsp := World.cell?_spot (hcell 0 hpos)
    obtain ⟨b, off, spot⟩ := x
    have hs : spot = none := by simpa [Addr.add] using hsp
    subst hs
    refine ⟨b, off, rfl, fun j u hu => ?_⟩
    rw [List.getElem?_map, Option.map_eq_some_iff] at hu
    obtain ⟨z, hz1, rfl⟩ := hu
    rw [List.getElem?_take] at hz1
    split at hz1
    · have hj : j < zs.length := (List.getElem?_eq_some_iff.1 hz1).1
      have := hcell j hj
      rw [List.getD_eq_getElem?_getD, hz1] at this
      rcases Nat.eq_zero_or_pos j with h0 | h0
      · subst h0; simpa [Addr.add] using this
      · simpa [Addr.add, Nat.ne_of_gt h0] using this
    · cases hz1

theorem list_of_each {α : Type} {Q : Nat → α → Prop} : ∀ n : Nat, (∀ i, i < n → ∃ x, Q i x) → ∃ l : List α, l.length = n ∧ ∀ i x, l[i]? = some x → Q i x := by
  intro n
  induction n with
  | zero => exact fun _ => ⟨[], rfl, fun i x h => by simp at h⟩
  | succ n ih =>
    intro h
    obtain ⟨l, hl, hq⟩ := ih fun i hi => h i (by omega)
    obtain ⟨x, hx⟩ := h n (by omega)
    refine ⟨l ++ [x], by simp [hl], fun i y hy => ?_⟩
    rcases Nat.lt_or_ge i l.length with c | c
    · rw [List.getElem?_append_left c] at hy; exact hq i y hy
    · rw [List.getElem?_append_right c] at hy
      have hi : i = n := by
        rcases Nat.eq_or_lt_of_le c with c | c
        · omega
        · rw [List.getElem?_eq_none (by simp; omega)] at hy; cases hy
      subst hi
      rw [hl, Nat.sub_self] at hy
      simp at hy
      exact hy ▸ hx

/-- the cells of a list of things of C cells each. -/
theorem flat_get {α : Type} {cf : α → List Value} {C : Nat} (hC : ∀ x, (cf x).length = C) : ∀ (l : List α) (k : Nat) (x : α) (j : Nat), l[k]? = some x → j < C → (l.flatMap cf)[k * C + j]? = (cf x)[j]? := by
  intro l
  induction l with
  | nil => intro k x j h _; simp at h
  | cons y l ih =>
    intro k x j h hj
    rw [List.flatMap_cons]
    cases k with
    | zero =>
      simp only [List.getElem?_cons_zero, Option.some.injEq] at h
      subst h
      rw [List.getElem?_append_left (by rw [hC]; omega)]
      simp
    | succ k =>
      simp only [List.getElem?_cons_succ] at h
      rw [List.getElem?_append_right (by rw [hC, Nat.succ_mul]; omega), ← ih k x j h hj, hC]
      congr 1
      rw [Nat.succ_mul]
      omega
theorem flat_inv {α : Type} {cf : α → List Value} {C : Nat} (hC : ∀ x, (cf x).length = C) : ∀ (l : List α) (q : Nat) (u : Value), (l.flatMap cf)[q]? = some u → ∃ k x j, l[k]? = some x ∧ j < C ∧ q = k * C + j ∧ (cf x)[j]? = some u := by
  intro l
  induction l with
  | nil => intro q u h; simp at h
  | cons y l ih =>
    intro q u h
    rw [List.flatMap_cons] at h
    rcases Nat.lt_or_ge q (cf y).length with c | c
    · rw [List.getElem?_append_left c] at h
      exact ⟨0, y, q, by simp, by rw [← hC y]; exact c, by omega, h⟩
    · rw [List.getElem?_append_right c] at h
      obtain ⟨k, x, j, h1, h2, h3, h4⟩ := ih _ _ h
      rw [hC] at c h3
      exact ⟨k + 1, x, j, by simpa using h1, h2, by rw [Nat.succ_mul]; omega, h4⟩

theorem open_structs {α : Type} {cf : α → List Value} {ok : α → Prop} {C : Nat} (hCl : ∀ x, (cf x).length = C) (hpos : 0 < C) {t e : TypeId} {r : Reach} {b0 : Nat} {v : Value} {d : DataW H} {p : List MemPlace}
    (ht : P.underlying t = some (.slice e)) (hC : P.cellsOf e = C)
    (dec : ∀ (n : Nat) (cs : List Value) (y : DataW H × List MemPlace), DataW.trod enc P w 0 (fun _ => true) true n e cs = some y → ∃ x : α, cs = cf x ∧ ok x)
    (hv : Value.okWide P w r b0 t v) (h : DataW.Trod enc P w 0 (fun _ => true) true t v d p) :
    ∃ (A : Option Addr) (n c : Nat) (l : List α), v = .slice A n c ∧ l.length = n ∧ n ≤ 9223372036854775807 ∧ Cells w A (l.flatMap cf) ∧ ∀ x ∈ l, ok x := by
  obtain ⟨A, n, c, rfl⟩ := okWide_slice ht hv
  obtain ⟨fuel, hf⟩ := h
  rcases open_slice ht hf with ⟨hcs, _⟩ | ⟨a, len, cap, m, f, D, Pl, hcs, _, hl, hm, hmm, _, hi⟩
  · simp [Value.cells] at hcs
    obtain ⟨rfl, rfl, rfl⟩ := hcs
    exact ⟨none, 0, 0, [], rfl, rfl, by omega, Cells.nil _ _, by simp⟩
  · simp [Value.cells] at hcs
    obtain ⟨rfl, rfl, rfl⟩ := hcs
    simp only [if_true] at hmm
    unfold maxLen at hm
    obtain ⟨l, hll, hq⟩ := list_of_each (Q := fun i x => ok x ∧ ∀ j, j < C → w.cell? (a.add (i * C + j)) = (cf x)[j]?) n (fun i hin => by
      obtain ⟨cs', hc, ht'⟩ := hi i (by omega)
      obtain ⟨x, rfl, hok⟩ := dec _ _ _ ht'
      rw [hC] at hc
      obtain ⟨_, hcl, hat⟩ := World.cells?_some hc
      exact ⟨x, hok, fun j hj => by rw [← Go.Deep.add_add]; exact hat j hj⟩)
    refine ⟨some a, n, c, l, rfl, hll, by omega, fun hne => ?_, fun x hx => ?_⟩
    · have hln : 0 < l.length := by
        rcases Nat.eq_zero_or_pos l.length with h0 | h0
        · exact absurd (by rw [List.eq_nil_of_length_eq_zero h0]; rfl) hne
        · exact h0
      obtain ⟨x, hx⟩ : ∃ x, l[0]? = some x := ⟨_, List.getElem?_eq_getElem hln⟩
      obtain ⟨u, hu⟩ : ∃ u, (cf x)[0]? = some u := ⟨_, List.getElem?_eq_getElem (by rw [hCl]; exact hpos)⟩
      have h00 := (hq 0 x hx).2 0 hpos
      rw [hu] at h00
      have hsp := World.cell?_spot h00
      obtain ⟨b, off, spot⟩ := a
      have hs : spot = none := by simpa [Addr.add] using hsp
      subst hs
      refine ⟨b, off, rfl, fun q u hu => ?_⟩
      obtain ⟨k, x, j, h1, h2, rfl, h4⟩ := flat_inv hCl l q u hu
      have := (hq k x h1).2 j h2
      rw [h4] at this
      rcases Nat.eq_zero_or_pos (k * C + j) with h0 | h0
      · rw [h0] at this ⊢; simpa [Addr.add] using this
      · have e1 : (⟨b, off, none⟩ : Addr).add (k * C + j) = ⟨b, off + (k * C + j), none⟩ := by unfold Addr.add; rw [if_neg (by omega)]
        rw [e1] at this
        exact this
    · obtain ⟨k, hk⟩ := List.mem_iff_getElem?.1 hx
      exact (hq k x hk).1
end
end Go.Proofs.Ytiapolcpebilmaa
