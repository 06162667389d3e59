/-
  Slices of the call's own that begin anywhere in their block: kept, read, cut, written, appended to. Conditions: what the model's append asks of lengths.
-/
import Derived.Test.YtiapolcpebilmaaAppend
import Derived.Laws.CopyRow
namespace Go.Proofs.Ytiapolcpebilmaa
open Go.RowKit
set_option linter.unusedVariables false

/-- the slice v of n elements of type e, 'size' cells each, reads as xs and lies in a block from base on that may be written. -/
def OwnAt (w : World) (base : Nat) (e : TypeId) (size : Nat) (v : Value) (n : Nat) (xs : List Value) : Prop :=
  xs.length = n * size ∧
  ((v = .slice none 0 0 ∧ n = 0) ∨
   ∃ g off cap cur, v = .slice (some ⟨g, off, none⟩) n cap ∧ base ≤ g ∧ w.heap[g]? = some (.cells cur e (0, 0)) ∧ n ≤ cap ∧ cap ≤ maxLen ∧ off + cap * size ≤ cur.size ∧ (cur.toList.drop off).take (n * size) = xs)
section
variable {w w' : World} {base : Nat} {e : TypeId} {size n : Nat} {v : Value} {xs : List Value}
theorem OwnAt.of_row (h : w.ownsRow base e size v n xs) : OwnAt w base e size v n xs := by
  obtain ⟨hl, h1 | ⟨g, cap, cur, hv, hb, hg, hn, hc, hs, ht⟩⟩ := h
  · exact ⟨hl, .inl h1⟩
  · exact ⟨hl, .inr ⟨g, 0, cap, cur, hv, hb, hg, hn, hc, by omega, by simpa using ht⟩⟩
theorem OwnAt.nil (w : World) (base : Nat) (e : TypeId) (size : Nat) : OwnAt w base e size (.slice none 0 0) 0 [] := ⟨by simp, .inl ⟨rfl, rfl⟩⟩
theorem OwnAt.lt (h : OwnAt w base e size v n xs) : ∀ g, v.ownBlock = some g → base ≤ g ∧ g < w.heap.size := by
  obtain ⟨hl, ⟨h1, _⟩ | ⟨g, off, cap, cur, hv, hb, hg, _⟩⟩ := h
  · intro g hg; rw [h1] at hg; cases hg
  · intro g' hg'
    rw [hv] at hg'
    have : g = g' := Option.some.inj hg'
    subst this
    exact ⟨hb, (Array.getElem?_eq_some_iff.1 hg).1⟩
theorem OwnAt.weaken {base' : Nat} (h : OwnAt w base e size v n xs) (hb : base' ≤ base) : OwnAt w base' e size v n xs := by
  obtain ⟨hl, h1 | ⟨g, off, cap, cur, hv, hg, r⟩⟩ := h
  · exact ⟨hl, .inl h1⟩
  · exact ⟨hl, .inr ⟨g, off, cap, cur, hv, Nat.le_trans hb hg, r⟩⟩
theorem OwnAt.form (h : OwnAt w base e size v n xs) : ∃ D cp, v = .slice D n cp ∧ n ≤ cp := by
  obtain ⟨hl, ⟨h1, h2⟩ | ⟨g, off, cap, cur, hv, hg, hh, hn, r⟩⟩ := h
  · exact ⟨none, 0, by rw [h1, h2], by omega⟩
  · exact ⟨_, _, hv, hn⟩
theorem OwnAt.turn {S : Nat → Prop} (h : OwnAt w base e size v n xs) (ht : Turns S w w') (hn : ∀ g, v.ownBlock = some g → ¬ S g) : OwnAt w' base e size v n xs := by
  obtain ⟨hl, h1 | ⟨g, off, cap, cur, hv, hb, hg, r⟩⟩ := h
  · exact ⟨hl, .inl h1⟩
  · subst hv
    exact ⟨hl, .inr ⟨g, off, cap, cur, rfl, hb, (ht.block g (Array.getElem?_eq_some_iff.1 hg).1 (hn g rfl)).trans hg, r⟩⟩
theorem OwnAt.on (h : OwnAt w base e size v n xs) (hb : Below w.heap.size w w') : OwnAt w' base e size v n xs := h.turn (Turns.of_below (S := none') hb) (fun _ _ => id)
theorem OwnAt.cells {D : Option Addr} {cp : Nat} (h : OwnAt w base e size (.slice D n cp) n xs) : Cells w D xs := fun hx => by
  obtain ⟨hl, ⟨hv, h2⟩ | ⟨g, off, cap, cur, hv, hb, hg, hn, hc, hs, ht⟩⟩ := h
  · subst h2; exact absurd (List.eq_nil_of_length_eq_zero (by simpa using hl)) hx
  · injection hv with h1
    subst h1
    refine ⟨g, off, rfl, fun j u hu => ?_⟩
    rw [cell_of_row _ _ _ _ _ _ hg]
    rw [← ht, List.getElem?_take] at hu
    split at hu
    · rw [List.getElem?_drop] at hu
      simpa using hu
    · cases hu
/-- where an element's cell lies, and that it may be written. -/
theorem OwnAt.at' {D : Option Addr} {cp : Nat} (h : OwnAt w base e size (.slice D n cp) n xs) {j : Nat} {u : Value} (hu : xs[j]? = some u) :
    ∃ g off, D = some ⟨g, off, none⟩ ∧ base ≤ g ∧ g < w.heap.size ∧ w.cell? ⟨g, off + j, none⟩ = some u ∧ w.frozen? ⟨g, off + j, none⟩ = false := by
  have hx : xs ≠ [] := fun e0 => by rw [e0] at hu; simp at hu
  have hcell := h.cells hx
  have hlt := h.lt
  obtain ⟨hl, ⟨hv, h2⟩ | ⟨g, off, cap, cur, hv, hb, hg, hn, hc, hs, ht⟩⟩ := h
  · subst h2; exact absurd (List.eq_nil_of_length_eq_zero (by simpa using hl)) hx
  · injection hv with h1
    subst h1
    obtain ⟨g', off', e1, hh⟩ := hcell
    injection e1 with e1
    injection e1 with e2 e3
    subst e2 e3
    exact ⟨g, off, rfl, hb, (hlt g rfl).2, hh j u hu, by simp [World.frozen?, hg]⟩
/-- what lies behind the first k. -/
theorem OwnAt.tail {g off cp : Nat} (h : OwnAt w base e size (.slice (some ⟨g, off, none⟩) n cp) n xs) {k : Nat} (hk : k ≤ n) : OwnAt w base e size (.slice (some ⟨g, off + k * size, none⟩) (n - k) (cp - k)) (n - k) (xs.drop (k * size)) := by
  obtain ⟨hl, ⟨hv, h2⟩ | ⟨g', off', cap, cur, hv, hb, hg, hn, hc, hs, ht⟩⟩ := h
  · cases hv
  · simp only [Value.slice.injEq, Option.some.injEq, Addr.mk.injEq, and_true, true_and] at hv
    obtain ⟨⟨rfl, rfl⟩, rfl⟩ := hv
    refine ⟨by rw [List.length_drop, hl, Nat.sub_mul], .inr ⟨g, off + k * size, cp - k, cur, rfl, hb, hg, by omega, by omega, ?_, ?_⟩⟩
    · have : (cp - k) * size = cp * size - k * size := Nat.sub_mul _ _ _
      have h3 : k * size ≤ cp * size := Nat.mul_le_mul_right _ (by omega)
      omega
    · rw [← ht, List.drop_take, List.drop_drop, Nat.sub_mul]
theorem OwnAt.none_left {g off cp : Nat} (h : OwnAt w base e size (.slice (some ⟨g, off, none⟩) n cp) n xs) : OwnAt w base e size (.slice (some ⟨g, off, none⟩) 0 0) 0 [] := by
  obtain ⟨hl, ⟨hv, h2⟩ | ⟨g', off', cap, cur, hv, hb, hg, hn, hc, hs, ht⟩⟩ := h
  · cases hv
  · simp only [Value.slice.injEq, Option.some.injEq, Addr.mk.injEq, and_true, true_and] at hv
    obtain ⟨⟨rfl, rfl⟩, rfl⟩ := hv
    exact ⟨by simp, .inr ⟨g, off, 0, cur, rfl, hb, hg, Nat.le_refl _, Nat.zero_le _, by omega, by simp⟩⟩
/-- an element's cell is written. -/
theorem OwnAt.set {g off cp : Nat} (h : OwnAt w base e size (.slice (some ⟨g, off, none⟩) n cp) n xs) (j : Nat) (hj : j < n * size) (u : Value) : OwnAt (w.setCell ⟨g, off + j, none⟩ u) base e size (.slice (some ⟨g, off, none⟩) n cp) n (xs.set j u) := by
  obtain ⟨hl, ⟨hv, h2⟩ | ⟨g', off', cap, cur, hv, hb, hg, hn, hc, hs, ht⟩⟩ := h
  · cases hv
  · simp only [Value.slice.injEq, Option.some.injEq, Addr.mk.injEq, and_true, true_and] at hv
    obtain ⟨⟨rfl, rfl⟩, rfl⟩ := hv
    refine ⟨by simpa using hl, .inr ⟨g, off, cp, cur.setIfInBounds (off + j) u, rfl, hb, heap_setCell_same w g (off + j) cur e u hg, hn, hc, by simpa using hs, ?_⟩⟩
    rw [Array.toList_setIfInBounds, ← ht]
    apply List.ext_getElem?
    intro i
    simp only [List.getElem?_take, List.getElem?_drop, List.getElem?_set, List.length_take, List.length_drop, Array.length_toList]
    have h3 : n * size ≤ cp * size := Nat.mul_le_mul_right _ hn
    have h4 : min (n * size) (cur.size - off) = n * size := by omega
    by_cases e1 : i = j
    · subst e1
      simp [hj, h4]
      omega
    · have e2 : ¬ off + j = off + i := by omega
      have e3 : ¬ j = i := fun h => e1 h.symm
      simp [e3]
end

section
variable {P : Program} (w : World)
theorem add_off (g off j : Nat) : (⟨g, off, none⟩ : Addr).add j = ⟨g, off + j, none⟩ := Addr.add_lit g off j
theorem run_append_at (base : Nat) (t ty e : TypeId) (i : TypeInfo) (z : Value) (size bytes : Nat) (ht : P.underlying t = some (.slice e)) (hi : P.info? e = some i) (hz : i.zero = some z)
    (hsize : i.size = size) (hby : i.bytes = bytes) (hzs : z.cells.size = size) (hsz : 0 < size)
    (v : Value) (n : Nat) (xs : List Value) (hown : OwnAt w base e size v n xs)
    (A : Option Addr) (m c : Nat) (news : List Value) (hl : news.length = m * size) (hr : Cells w A news) (h1 : ∀ u ∈ news, u.oneCell' = true)
    (h63 : n + m ≤ maxLen) (hbytes : (n + m) * bytes ≤ 140737488355328) (hbase : base ≤ w.heap.size) :
    ∃ D cp w', (Builtin.append_ #[t, t] ty #[v, .slice A m c]).run P w = .ok (.slice D (n + m) cp) w' ∧ OwnAt w' base e size (.slice D (n + m) cp) (n + m) (xs ++ news) ∧ w.grownBy w' v.ownBlock ∧
      (∀ g, (Value.slice D (n + m) cp).ownBlock = some g → v.ownBlock = some g ∨ w.heap.size ≤ g) := by
  rcases hown.2 with ⟨hv, hn0⟩ | ⟨g, off, cap, cur, hv, hbg, hg, hnc, hcm, hcs, htake⟩
  · -- nil
    have hrow : w.ownsRow base e size v n xs := ⟨hown.1, .inl ⟨hv, hn0⟩⟩
    obtain ⟨v', w', hrun, h2, h3⟩ := run_append_cells (P := P) w base t ty e i z size bytes ht hi hz hsize hby hzs hsz v n xs hrow A m c news hl hr h1 h63 hbytes hbase
    obtain ⟨D, cp, rfl, _⟩ := row_form h2
    refine ⟨D, cp, w', hrun, OwnAt.of_row h2, h3, fun g hg => ?_⟩
    right
    subst hv
    rcases A with _ | ad
    · have hne : news = [] := by
        rcases news with _ | ⟨u, news⟩
        · rfl
        · obtain ⟨b, off, h, _⟩ := hr (by simp)
          cases h
      have hm : m = 0 := by
        rw [hne] at hl
        rcases Nat.eq_zero_or_pos m with h0 | h0
        · exact h0
        · have := Nat.mul_pos h0 hsz; simp at hl; omega
      have := run_append_none (P := P) w base t ty e i size ht hi (.slice none 0 0) n xs hrow c
      subst hm hn0
      rw [this] at hrun
      injection hrun with e1 e2
      rw [← e1] at hg
      cases hg
    · subst hn0
      subst hsize
      by_cases hm : m = 0
      · subst hm
        have hne : news = [] := List.eq_nil_of_length_eq_zero (by simpa using hl)
        subst hne
        have hrun2 : (Builtin.append_ #[t, t] ty #[.slice none 0 0, .slice (some ad) 0 c]).run P w = .ok (.slice none 0 0) w := by
          simp [Builtin.append_, run_underlying ht, sizeOf, typeInfo, hi, Builtin.lenOf, Builtin.firstCells, loadCells, loadCellsFrom]
        rw [hrun2] at hrun
        injection hrun with e1 e2
        rw [← e1] at hg
        cases hg
      · have hr2 := run_append_nil (P := P) w t ty e i z ht hi hz ad m c news hl (cells_add w hr rfl) (by omega) (by simp only [maxLen] at h63; omega) (by rw [hby]; simp only [Nat.zero_add] at hbytes; omega)
        rw [hr2] at hrun
        injection hrun with e1 e2
        rw [← e1] at hg
        have : w.heap.size = g := Option.some.inj hg
        omega
  · subst hv
    subst hsize
    subst hby
    have hlen : (xs ++ news).length = (n + m) * i.size := by rw [List.length_append, hown.1, hl, Nat.add_mul]
    have hcellsX : ∀ j u, xs[j]? = some u → w.cell? ((⟨g, off, none⟩ : Addr).add j) = some u := cells_add w hown.cells rfl
    rcases A with _ | ad
    · have hne : news = [] := by
        rcases news with _ | ⟨u, news⟩
        · rfl
        · obtain ⟨b, off, h, _⟩ := hr (by simp)
          cases h
      have hm : m = 0 := by
        rw [hne] at hl
        rcases Nat.eq_zero_or_pos m with h0 | h0
        · exact h0
        · have := Nat.mul_pos h0 hsz; simp at hl; omega
      subst hm hne
      refine ⟨some ⟨g, off, none⟩, cap, w, ?_, by simpa using hown, World.grownBy.refl w _, fun g' hg' => .inl hg'⟩
      simp [Builtin.append_, run_underlying ht, sizeOf, typeInfo, hi, Builtin.lenOf, Builtin.firstCells, hnc, storeCells]
    · have hnews := cells_add w hr rfl
      by_cases hroom : n + m ≤ cap
      · have hmul : (n + m) * i.size ≤ cap * i.size := Nat.mul_le_mul_right _ hroom
        rw [Nat.add_mul] at hmul
        have hf := run_firstCells_some (P := P) w i.size m ad m c news hl hnews
        have hst := run_storeCells_at P g (off + n * i.size) e news 0 cur w hg (by rw [hl]; omega) h1
        simp only [Nat.add_zero] at hst
        refine ⟨some ⟨g, off, none⟩, cap, w.setRow g (cur.toList.take (off + n * i.size) ++ news ++ cur.toList.drop (off + n * i.size + news.length)).toArray, ?_, ?_, ?_, fun g' hg' => .inl hg'⟩
        · simp [Builtin.append_, run_underlying ht, sizeOf, typeInfo, hi, Builtin.lenOf, hroom, hf, Addr.add_lit, hst]
        · refine ⟨hlen, .inr ⟨g, off, cap, _, rfl, hbg, setRow_heap w g cur _ e _ hg, hroom, hcm, ?_, ?_⟩⟩
          · simp only [List.size_toArray, List.length_append, List.length_take, List.length_drop, Array.length_toList]
            omega
          · have e1 : cur.toList.take (off + n * i.size) = cur.toList.take off ++ xs := by
              rw [← htake, List.take_add]
            have hto : (cur.toList.take off).length = off := by rw [List.length_take, Array.length_toList]; omega
            rw [List.toList_toArray, e1, List.append_assoc, List.append_assoc, List.drop_append_of_le_length (by omega), List.drop_eq_nil_of_le (by omega), List.nil_append, ← List.append_assoc, ← hlen]
            exact List.take_left
        · exact ⟨rfl, rfl, rfl, by simp, fun k _ hk => setRow_other w g k _ (fun e => hk (by simp [Value.ownBlock, e]))⟩
      · have hge := grownCap_ge w (n + m) cap e
        have hcm2 : grownCap w (n + m) cap e ≤ maxLen := grownCap_le_maxLen w (n + m) cap e h63
        have hr2 := run_append_grow (P := P) w t ty e i z ht hi hz ⟨g, off, none⟩ n cap xs hown.1 hcellsX ad m c news hl hnews (by omega) (by simp only [maxLen] at h63; omega) (growslice_fits (by omega) hbytes)
        refine ⟨some ⟨w.heap.size, 0, none⟩, _, _, hr2, ⟨hlen, .inr ⟨w.heap.size, 0, _, _, rfl, hbase, heap_alloc_new w.drew _, hge, hcm2, ?_, ?_⟩⟩, ⟨rfl, rfl, rfl, by simp, fun k hk _ => Below.heap_alloc w.drew _ k hk⟩, fun g' hg' => .inr (by have : w.heap.size = g' := Option.some.inj hg'; omega)⟩
        · simp only [Array.size_append, List.size_toArray, size_zeroCells, hzs, hown.1, hl, ← Nat.add_mul, Nat.zero_add]
          rw [show n + m + (grownCap w (n + m) cap e - (n + m)) = grownCap w (n + m) cap e from by omega]
          exact Nat.le_refl _
        · simp only [Array.toList_append, List.append_assoc, List.drop_zero]
          rw [← List.append_assoc, ← hlen]
          exact List.take_left
theorem wp_append_at {o : Oper} {a : Act} {K : Act → World → Prop} {Q : Exit → Act → World → Prop} (s x : Operand) (t : TypeId)
    (ho : o.op = .call { callee := .builtin .append, args := #[s, x], argTypes := #[t, t] })
    (base : Nat) (e : TypeId) (i : TypeInfo) (z : Value) (size bytes : Nat) (ht : P.underlying t = some (.slice e)) (hi : P.info? e = some i) (hz : i.zero = some z)
    (hsize : i.size = size) (hby : i.bytes = bytes) (hzs : z.cells.size = size) (hsz : 0 < size)
    (v : Value) (n : Nat) (xs : List Value) (hs : a.eval s = v) (hown : OwnAt w base e size v n xs)
    (A : Option Addr) (m c : Nat) (news : List Value) (hx : a.eval x = .slice A m c) (hl : news.length = m * size) (hr : Cells w A news) (h1 : ∀ u ∈ news, u.oneCell' = true)
    (h63 : n + m ≤ maxLen) (hbytes : (n + m) * bytes ≤ 140737488355328) (hbase : base ≤ w.heap.size)
    (h : ∀ D cp w', OwnAt w' base e size (.slice D (n + m) cp) (n + m) (xs ++ news) → w.grownBy w' v.ownBlock → (∀ g, (Value.slice D (n + m) cp).ownBlock = some g → v.ownBlock = some g ∨ w.heap.size ≤ g) → K (a.put o.dst (.slice D (n + m) cp)) w') : o.wp P a w K Q := by
  obtain ⟨D, cp, w', hrun, h2, h3, h4⟩ := run_append_at (P := P) w base t o.type e i z size bytes ht hi hz hsize hby hzs hsz v n xs hown A m c news hl hr h1 h63 hbytes hbase
  unfold Oper.wp execOp
  simp only [ho, resolve, invoke, builtin, Sem.run_bind, Sem.run_pure, Result.andThen_ok, List.map_toArray, List.map_cons, List.map_nil, hs, hx, hrun]
  exact h D cp w' h2 h3 h4
theorem wpList_append_at {ops : Array Oper} {rest : List Oper} {o : Oper} {a : Act} {Q : Exit → Act → World → Prop} (hgd : o.guard = none) (s x : Operand) (t : TypeId)
    (ho : o.op = .call { callee := .builtin .append, args := #[s, x], argTypes := #[t, t] })
    (base : Nat) (e : TypeId) (i : TypeInfo) (z : Value) (size bytes : Nat) (ht : P.underlying t = some (.slice e)) (hi : P.info? e = some i) (hz : i.zero = some z)
    (hsize : i.size = size) (hby : i.bytes = bytes) (hzs : z.cells.size = size) (hsz : 0 < size)
    (v : Value) (n : Nat) (xs : List Value) (hs : a.eval s = v) (hown : OwnAt w base e size v n xs)
    (A : Option Addr) (m c : Nat) (news : List Value) (hx : a.eval x = .slice A m c) (hl : news.length = m * size) (hr : Cells w A news) (h1 : ∀ u ∈ news, u.oneCell' = true)
    (h63 : n + m ≤ maxLen) (hbytes : (n + m) * bytes ≤ 140737488355328) (hbase : base ≤ w.heap.size)
    (h : ∀ D cp w', OwnAt w' base e size (.slice D (n + m) cp) (n + m) (xs ++ news) → w.grownBy w' v.ownBlock → (∀ g, (Value.slice D (n + m) cp).ownBlock = some g → v.ownBlock = some g ∨ w.heap.size ≤ g) → wpList P ops Q rest (a.put o.dst (.slice D (n + m) cp)) w') : wpList P ops Q (o :: rest) a w :=
  wpList_plain hgd fun _ hK => wp_append_at w s x t ho base e i z size bytes ht hi hz hsize hby hzs hsz v n xs hs hown A m c news hx hl hr h1 h63 hbytes hbase fun D cp w' h2 h3 h4 => hK _ _ (h D cp w' h2 h3 h4)
theorem step_append_at {ops : Array Oper} {o : Oper} {a : Act} {K : Act → World → Prop} {Q : Exit → Act → World → Prop} {E : Prop} (hgd : o.guard = none) (s x : Operand) (t : TypeId)
    (ho : o.op = .call { callee := .builtin .append, args := #[s, x], argTypes := #[t, t] })
    (base : Nat) (e : TypeId) (i : TypeInfo) (z : Value) (size bytes : Nat) (ht : P.underlying t = some (.slice e)) (hi : P.info? e = some i) (hz : i.zero = some z)
    (hsize : i.size = size) (hby : i.bytes = bytes) (hzs : z.cells.size = size) (hsz : 0 < size)
    (v : Value) (n : Nat) (xs : List Value) (hs : a.eval s = v) (hown : OwnAt w base e size v n xs)
    (A : Option Addr) (m c : Nat) (news : List Value) (hx : a.eval x = .slice A m c) (hl : news.length = m * size) (hr : Cells w A news) (h1 : ∀ u ∈ news, u.oneCell' = true)
    (h63 : n + m ≤ maxLen) (hbytes : (n + m) * bytes ≤ 140737488355328) (hbase : base ≤ w.heap.size)
    (h : ∀ D cp w', OwnAt w' base e size (.slice D (n + m) cp) (n + m) (xs ++ news) → w.grownBy w' v.ownBlock → (∀ g, (Value.slice D (n + m) cp).ownBlock = some g → v.ownBlock = some g ∨ w.heap.size ≤ g) → K (a.put o.dst (.slice D (n + m) cp)) w') :
    if Region.wanted o (yielded ops a.tmps) = true then Oper.wp P o a w K Q else E := by
  have hw : Region.wanted o (yielded ops a.tmps) = true := by simp [Region.wanted, hgd]
  rw [if_pos hw]
  exact wp_append_at w s x t ho base e i z size bytes ht hi hz hsize hby hzs hsz v n xs hs hown A m c news hx hl hr h1 h63 hbytes hbase h
end
end Go.Proofs.Ytiapolcpebilmaa
