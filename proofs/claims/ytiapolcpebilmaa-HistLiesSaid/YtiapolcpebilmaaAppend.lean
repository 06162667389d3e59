/-
  append onto a row of the call's own, the source whatever reads as a list of cells: nil, empty, or not; parts of rows. Conditions: what the model's append asks of lengths.
-/
import Derived.Test.YtiapolcpebilmaaTurn
import Derived.Maps.AppendAt
import Derived.RegionTactic
import Derived.OwnWalk
namespace Go.Proofs.Ytiapolcpebilmaa
open Go.RowKit
set_option linter.unusedVariables false

section
variable {P : Program} (w : World)
theorem run_append_none (base : Nat) (t ty e : TypeId) (i : TypeInfo) (size : Nat) (ht : P.underlying t = some (.slice e)) (hi : P.info? e = some i)
    (v : Value) (n : Nat) (xs : List Value) (hown : w.ownsRow base e size v n xs) (c : Nat) : (Builtin.append_ #[t, t] ty #[v, .slice none 0 c]).run P w = .ok v w := by
  rcases hown.2 with ⟨rfl, rfl⟩ | ⟨g, cap, cur, rfl, _, _, hnc, _⟩
  · simp [Builtin.append_, run_underlying ht, sizeOf, typeInfo, hi, Builtin.lenOf, Builtin.firstCells]
  · simp [Builtin.append_, run_underlying ht, sizeOf, typeInfo, hi, Builtin.lenOf, Builtin.firstCells, hnc, storeCells]

theorem cells_add {A : Option Addr} {ad : Addr} {xs : List Value} (h : Cells w A xs) (e : A = some ad) : ∀ j u, xs[j]? = some u → w.cell? (ad.add j) = some u := by
  intro j u hu
  obtain ⟨b, off, e2, hc⟩ := h (fun e0 => by rw [e0] at hu; simp at hu)
  rw [e] at e2
  injection e2 with e2
  subst e2
  have := hc j u hu
  unfold Addr.add
  split
  · next h0 => rw [h0] at this; exact this
  · exact this

theorem run_append_cells (base : Nat) (t ty e : TypeId) (i : TypeInfo) (z : Value) (size bytes : Nat) (ht : P.underlying t = some (.slice e)) (hi : P.info? e = some i) (hz : i.zero = some z)
    (hsize : i.size = size) (hby : i.bytes = bytes) (hzs : z.cells.size = size) (hsz : 0 < size)
    (v : Value) (n : Nat) (xs : List Value) (hown : w.ownsRow base e size v n xs)
    (A : Option Addr) (m c : Nat) (news : List Value) (hl : news.length = m * size) (hr : Cells w A news) (h1 : ∀ u ∈ news, u.oneCell' = true)
    (h63 : n + m ≤ maxLen) (hbytes : (n + m) * bytes ≤ 140737488355328) (hbase : base ≤ w.heap.size) :
    ∃ v' w', (Builtin.append_ #[t, t] ty #[v, .slice A m c]).run P w = .ok v' w' ∧ w'.ownsRow base e size v' (n + m) (xs ++ news) ∧ w.grownBy w' v.ownBlock := by
  rcases A with _ | ad
  · have hn : news = [] := by
      rcases news with _ | ⟨u, news⟩
      · rfl
      · obtain ⟨b, off, h, _⟩ := hr (by simp)
        cases h
    subst hn
    have hm : m = 0 := by
      rcases Nat.eq_zero_or_pos m with h0 | h0
      · exact h0
      · have : 0 < m * size := Nat.mul_pos h0 hsz
        simp at hl
        omega
    subst hm
    exact ⟨v, w, run_append_none w base t ty e i size ht hi v n xs hown c, by simpa using hown, World.grownBy.refl w _⟩
  · obtain ⟨v', w', hrun, h2, h3, _⟩ := run_append_own (P := P) w base t ty e i z size bytes ht hi hz hsize hby hzs hsz v n xs hown ad m c news hl (cells_add w hr rfl) h1 h63 hbytes hbase
    exact ⟨v', w', hrun, h2, h3⟩

theorem wp_append_cells {o : Oper} {a : Act} {K : Act → World → Prop} {Q : Exit → Act → World → Prop} (s x : Operand) (t : TypeId)
    (ho : o.op = .call { callee := .builtin .append, args := #[s, x], argTypes := #[t, t] })
    (base : Nat) (e : TypeId) (i : TypeInfo) (z : Value) (size bytes : Nat) (ht : P.underlying t = some (.slice e)) (hi : P.info? e = some i) (hz : i.zero = some z)
    (hsize : i.size = size) (hby : i.bytes = bytes) (hzs : z.cells.size = size) (hsz : 0 < size)
    (v : Value) (n : Nat) (xs : List Value) (hs : a.eval s = v) (hown : w.ownsRow base e size v n xs)
    (A : Option Addr) (m c : Nat) (news : List Value) (hx : a.eval x = .slice A m c) (hl : news.length = m * size) (hr : Cells w A news) (h1 : ∀ u ∈ news, u.oneCell' = true)
    (h63 : n + m ≤ maxLen) (hbytes : (n + m) * bytes ≤ 140737488355328) (hbase : base ≤ w.heap.size)
    (h : ∀ D cp w', w'.ownsRow base e size (.slice D (n + m) cp) (n + m) (xs ++ news) → w.grownBy w' v.ownBlock → K (a.put o.dst (.slice D (n + m) cp)) w') : o.wp P a w K Q := by
  obtain ⟨v', w', hrun, h2, h3⟩ := run_append_cells (P := P) w base t o.type e i z size bytes ht hi hz hsize hby hzs hsz v n xs hown A m c news hl hr h1 h63 hbytes hbase
  have hv : ∃ D cp, v' = .slice D (n + m) cp := by
    rcases h2.2 with ⟨e1, e2⟩ | ⟨g, cap, cur, e1, _⟩
    · exact ⟨none, 0, by rw [e1, e2]⟩
    · exact ⟨_, cap, e1⟩
  obtain ⟨D, cp, rfl⟩ := hv
  unfold Oper.wp execOp
  simp only [ho, resolve, invoke, builtin, Sem.run_bind, Sem.run_pure, Result.andThen_ok, List.map_toArray, List.map_cons, List.map_nil, hs, hx, hrun]
  exact h D cp w' h2 h3

theorem wpList_append_cells {ops : Array Oper} {rest : List Oper} {o : Oper} {a : Act} {Q : Exit → Act → World → Prop} (hgd : o.guard = none) (s x : Operand) (t : TypeId)
    (ho : o.op = .call { callee := .builtin .append, args := #[s, x], argTypes := #[t, t] })
    (base : Nat) (e : TypeId) (i : TypeInfo) (z : Value) (size bytes : Nat) (ht : P.underlying t = some (.slice e)) (hi : P.info? e = some i) (hz : i.zero = some z)
    (hsize : i.size = size) (hby : i.bytes = bytes) (hzs : z.cells.size = size) (hsz : 0 < size)
    (v : Value) (n : Nat) (xs : List Value) (hs : a.eval s = v) (hown : w.ownsRow base e size v n xs)
    (A : Option Addr) (m c : Nat) (news : List Value) (hx : a.eval x = .slice A m c) (hl : news.length = m * size) (hr : Cells w A news) (h1 : ∀ u ∈ news, u.oneCell' = true)
    (h63 : n + m ≤ maxLen) (hbytes : (n + m) * bytes ≤ 140737488355328) (hbase : base ≤ w.heap.size)
    (h : ∀ D cp w', w'.ownsRow base e size (.slice D (n + m) cp) (n + m) (xs ++ news) → w.grownBy w' v.ownBlock → wpList P ops Q rest (a.put o.dst (.slice D (n + m) cp)) w') : wpList P ops Q (o :: rest) a w :=
  wpList_plain hgd fun _ hK => wp_append_cells w s x t ho base e i z size bytes ht hi hz hsize hby hzs hsz v n xs hs hown A m c news hx hl hr h1 h63 hbytes hbase fun D cp w' h2 h3 => hK _ _ (h D cp w' h2 h3)

theorem step_append_cells {ops : Array Oper} {o : Oper} {a : Act} {K : Act → World → Prop} {Q : Exit → Act → World → Prop} {E : Prop} (hgd : o.guard = none) (s x : Operand) (t : TypeId)
    (ho : o.op = .call { callee := .builtin .append, args := #[s, x], argTypes := #[t, t] })
    (base : Nat) (e : TypeId) (i : TypeInfo) (z : Value) (size bytes : Nat) (ht : P.underlying t = some (.slice e)) (hi : P.info? e = some i) (hz : i.zero = some z)
    (hsize : i.size = size) (hby : i.bytes = bytes) (hzs : z.cells.size = size) (hsz : 0 < size)
    (v : Value) (n : Nat) (xs : List Value) (hs : a.eval s = v) (hown : w.ownsRow base e size v n xs)
    (A : Option Addr) (m c : Nat) (news : List Value) (hx : a.eval x = .slice A m c) (hl : news.length = m * size) (hr : Cells w A news) (h1 : ∀ u ∈ news, u.oneCell' = true)
    (h63 : n + m ≤ maxLen) (hbytes : (n + m) * bytes ≤ 140737488355328) (hbase : base ≤ w.heap.size)
    (h : ∀ D cp w', w'.ownsRow base e size (.slice D (n + m) cp) (n + m) (xs ++ news) → w.grownBy w' v.ownBlock → K (a.put o.dst (.slice D (n + m) cp)) w') :
    if Region.wanted o (yielded ops a.tmps) = true then Oper.wp P o a w K Q else E := by
  have hw : Region.wanted o (yielded ops a.tmps) = true := by simp [Region.wanted, hgd]
  rw [if_pos hw]
  exact wp_append_cells w s x t ho base e i z size bytes ht hi hz hsize hby hzs hsz v n xs hs hown A m c news hx hl hr h1 h63 hbytes hbase h
end

section
variable {α : Type} {cf : α → List Value} {C : Nat}
theorem flat_length (hC : ∀ x, (cf x).length = C) (l : List α) : (l.flatMap cf).length = l.length * C := by
  induction l with
  | nil => simp
  | cons x l ih => rw [List.flatMap_cons, List.length_append, ih, hC, List.length_cons, Nat.succ_mul]; omega
theorem Cells.takeG {w : World} {A : Option Addr} {l : List α} (h : Cells w A (l.flatMap cf)) (k : Nat) : Cells w A ((l.take k).flatMap cf) := fun hne => by
  have e : l.flatMap cf = (l.take k).flatMap cf ++ (l.drop k).flatMap cf := by rw [← List.flatMap_append, List.take_append_drop]
  obtain ⟨b, off, e1, hc⟩ := h (fun e0 => by rw [e0] at e; exact hne (List.append_eq_nil_iff.1 e.symm).1)
  refine ⟨b, off, e1, fun j u hu => hc j u ?_⟩
  rw [e, List.getElem?_append_left (List.getElem?_eq_some_iff.1 hu).1]
  exact hu
theorem Cells.dropG (hC : ∀ x, (cf x).length = C) {w : World} {b off : Nat} {l : List α} (h : Cells w (some ⟨b, off, none⟩) (l.flatMap cf)) (k : Nat) (hk : k ≤ l.length) : Cells w (some ⟨b, off + k * C, none⟩) ((l.drop k).flatMap cf) := fun hne => by
  have e : l.flatMap cf = (l.take k).flatMap cf ++ (l.drop k).flatMap cf := by rw [← List.flatMap_append, List.take_append_drop]
  obtain ⟨b', off', e1, hc⟩ := h (fun e0 => by rw [e0] at e; exact hne (List.append_eq_nil_iff.1 e.symm).2)
  injection e1 with e1
  injection e1 with e2 e3
  subst e2 e3
  refine ⟨b, off + k * C, rfl, fun j u hu => ?_⟩
  have := hc (k * C + j) u (by
    rw [e, List.getElem?_append_right (by rw [flat_length hC, List.length_take, Nat.min_eq_left hk]; omega)]
    rw [← hu]
    congr 1
    rw [flat_length hC, List.length_take, Nat.min_eq_left hk]
    omega)
  rw [← Nat.add_assoc] at this
  exact this
theorem one_cells {l : List α} (h : ∀ x, ∀ u ∈ cf x, u.oneCell' = true) : ∀ u ∈ l.flatMap cf, u.oneCell' = true := by
  intro u hu
  obtain ⟨x, _, hx⟩ := List.mem_flatMap.1 hu
  exact h x u hx
theorem flat_snoc (l : List α) (x : α) : (l ++ [x]).flatMap cf = l.flatMap cf ++ cf x := by rw [List.flatMap_append]; simp
end
theorem own_empty (w : World) (e : TypeId) (C : Nat) : (w.alloc (.cells #[] e)).ownsRow w.heap.size e C (.slice (some ⟨w.heap.size, 0, none⟩) 0 0) 0 [] :=
  ⟨by simp, .inr ⟨w.heap.size, 0, #[], rfl, Nat.le_refl _, heap_alloc_new w _, Nat.le_refl _, Nat.zero_le _, by simp, by simp⟩⟩
theorem row_weaken {w : World} {base base' : Nat} {e : TypeId} {size n : Nat} {v : Value} {xs : List Value} (h : w.ownsRow base e size v n xs) (hb : base' ≤ base) : w.ownsRow base' e size v n xs := by
  obtain ⟨hl, h1 | ⟨g, cap, cur, hv, hg, r⟩⟩ := h
  · exact ⟨hl, .inl h1⟩
  · exact ⟨hl, .inr ⟨g, cap, cur, hv, Nat.le_trans hb hg, r⟩⟩
theorem row_form {w : World} {base : Nat} {e : TypeId} {size n : Nat} {v : Value} {xs : List Value} (h : w.ownsRow base e size v n xs) : ∃ D cp, v = .slice D n cp ∧ n ≤ cp := by
  obtain ⟨hl, ⟨h1, h2⟩ | ⟨g, cap, cur, hv, hg, hh, hn, r⟩⟩ := h
  · exact ⟨none, 0, by rw [h1, h2], by omega⟩
  · exact ⟨_, _, hv, hn⟩
theorem row_lt {w : World} {base : Nat} {e : TypeId} {size n : Nat} {v : Value} {xs : List Value} (h : w.ownsRow base e size v n xs) {g : Nat} (hg : v.ownBlock = some g) : base ≤ g ∧ g < w.heap.size := h.lt g hg
theorem new_cells (w : World) (cs : Array Value) (t : TypeId) : ∀ j u, cs.toList[j]? = some u → (w.alloc (.cells cs t)).cell? ((⟨w.heap.size, 0, none⟩ : Addr).add j) = some u := by
  intro j u hu
  have h := cell_of_row (w.alloc (.cells cs t)) w.heap.size j cs t (0, 0) (heap_alloc_new w _)
  have e : (⟨w.heap.size, 0, none⟩ : Addr).add j = ⟨w.heap.size, j, none⟩ := by
    unfold Addr.add
    split
    · next h0 => rw [h0]
    · simp
  rw [e, h]
  simpa using hu
theorem cells_new_at (w : World) (cs : Array Value) (t : TypeId) (H : Nat) (h : H = w.heap.size) : ∀ j u, cs.toList[j]? = some u → (w.alloc (.cells cs t)).cell? ((⟨H, 0, none⟩ : Addr).add j) = some u := by
  subst h; exact new_cells w cs t
end Go.Proofs.Ytiapolcpebilmaa
