/-
  append onto a row of the call's own, the source whatever reads as a list of cells: nil, empty, or not. Conditions: what the model's append asks of lengths.
-/
import Derived.Test.YtpiifgmegdphpaaOwn
import Derived.Maps.AppendAt
import Derived.RegionTactic
namespace Go.Proofs.Ytpiifgmegdphpaa
open Go.RowKit

section
variable {P : Program} (w : World)
theorem run_append_none (base : Nat) (t ty e : TypeId) (i : TypeInfo) (size : Nat) (ht : P.underlying t = some (.slice e)) (hi : P.info? e = some i)
    (v : Value) (n : Nat) (xs : List Value) (hown : w.ownsRow base e size v n xs) (c : Nat) : (Builtin.append_ #[t, t] ty #[v, .slice none 0 c]).run P w = .ok v w := by
  rcases hown.2 with ⟨rfl, rfl⟩ | ⟨g, cap, cur, rfl, _, _, hnc, _⟩
  · simp [Builtin.append_, run_underlying ht, sizeOf, typeInfo, hi, Builtin.lenOf, Builtin.firstCells]
  · simp [Builtin.append_, run_underlying ht, sizeOf, typeInfo, hi, Builtin.lenOf, Builtin.firstCells, hnc, storeCells]

theorem cells_add {A : Option Addr} {ad : Addr} {xs : List Value} (h : Cells w A xs) (e : A = some ad) : ∀ j u, xs[j]? = some u → w.cell? (ad.add j) = some u := by
  intro j u hu
  obtain ⟨b, off, e2, hc⟩ := h (fun e0 => by rw [e0] at hu; simp at hu)
  rw [e] at e2
  injection e2 with e2
  subst e2
  have := hc j u hu
  unfold Addr.add
  split
  · next h0 => rw [h0] at this; exact this
  · exact this

theorem run_append_cells (base : Nat) (t ty e : TypeId) (i : TypeInfo) (z : Value) (size bytes : Nat) (ht : P.underlying t = some (.slice e)) (hi : P.info? e = some i) (hz : i.zero = some z)
    (hsize : i.size = size) (hby : i.bytes = bytes) (hzs : z.cells.size = size) (hsz : 0 < size)
    (v : Value) (n : Nat) (xs : List Value) (hown : w.ownsRow base e size v n xs)
    (A : Option Addr) (m c : Nat) (news : List Value) (hl : news.length = m * size) (hr : Cells w A news) (h1 : ∀ u ∈ news, u.oneCell' = true)
    (h63 : n + m ≤ maxLen) (hbytes : (n + m) * bytes ≤ 140737488355328) (hbase : base ≤ w.heap.size) :
    ∃ v' w', (Builtin.append_ #[t, t] ty #[v, .slice A m c]).run P w = .ok v' w' ∧ w'.ownsRow base e size v' (n + m) (xs ++ news) ∧ w.grownBy w' v.ownBlock := by
  rcases A with _ | ad
  · have hn : news = [] := by
      rcases news with _ | ⟨u, news⟩
      · rfl
      · obtain ⟨b, off, h, _⟩ := hr (by simp)
        cases h
    subst hn
    have hm : m = 0 := by
      rcases Nat.eq_zero_or_pos m with h0 | h0
      · exact h0
      · have : 0 < m * size := Nat.mul_pos h0 hsz
        simp at hl
        omega
    subst hm
    exact ⟨v, w, run_append_none w base t ty e i size ht hi v n xs hown c, by simpa using hown, World.grownBy.refl w _⟩
  · obtain ⟨v', w', hrun, h2, h3, _⟩ := run_append_own (P := P) w base t ty e i z size bytes ht hi hz hsize hby hzs hsz v n xs hown ad m c news hl (cells_add w hr rfl) h1 h63 hbytes hbase
    exact ⟨v', w', hrun, h2, h3⟩

theorem wp_append_cells {o : Oper} {a : Act} {K : Act → World → Prop} {Q : Exit → Act → World → Prop} (s x : Operand) (t : TypeId)
    (ho : o.op = .call { callee := .builtin .append, args := #[s, x], argTypes := #[t, t] })
    (base : Nat) (e : TypeId) (i : TypeInfo) (z : Value) (size bytes : Nat) (ht : P.underlying t = some (.slice e)) (hi : P.info? e = some i) (hz : i.zero = some z)
    (hsize : i.size = size) (hby : i.bytes = bytes) (hzs : z.cells.size = size) (hsz : 0 < size)
    (v : Value) (n : Nat) (xs : List Value) (hs : a.eval s = v) (hown : w.ownsRow base e size v n xs)
    (A : Option Addr) (m c : Nat) (news : List Value) (hx : a.eval x = .slice A m c) (hl : news.length = m * size) (hr : Cells w A news) (h1 : ∀ u ∈ news, u.oneCell' = true)
    (h63 : n + m ≤ maxLen) (hbytes : (n + m) * bytes ≤ 140737488355328) (hbase : base ≤ w.heap.size)
    (h : ∀ D cp w', w'.ownsRow base e size (.slice D (n + m) cp) (n + m) (xs ++ news) → w.grownBy w' v.ownBlock → K (a.put o.dst (.slice D (n + m) cp)) w') : o.wp P a w K Q := by
  obtain ⟨v', w', hrun, h2, h3⟩ := run_append_cells (P := P) w base t o.type e i z size bytes ht hi hz hsize hby hzs hsz v n xs hown A m c news hl hr h1 h63 hbytes hbase
  have hv : ∃ D cp, v' = .slice D (n + m) cp := by
    rcases h2.2 with ⟨e1, e2⟩ | ⟨g, cap, cur, e1, _⟩
    · exact ⟨none, 0, by rw [e1, e2]⟩
    · exact ⟨_, cap, e1⟩
  obtain ⟨D, cp, rfl⟩ := hv
  unfold Oper.wp execOp
  simp only [ho, resolve, invoke, builtin, Sem.run_bind, Sem.run_pure, Result.andThen_ok, List.map_toArray, List.map_cons, List.map_nil, hs, hx, hrun]
  exact h D cp w' h2 h3

theorem wpList_append_cells {ops : Array Oper} {rest : List Oper} {o : Oper} {a : Act} {Q : Exit → Act → World → Prop} (hgd : o.guard = none) (s x : Operand) (t : TypeId)
    (ho : o.op = .call { callee := .builtin .append, args := #[s, x], argTypes := #[t, t] })
    (base : Nat) (e : TypeId) (i : TypeInfo) (z : Value) (size bytes : Nat) (ht : P.underlying t = some (.slice e)) (hi : P.info? e = some i) (hz : i.zero = some z)
    (hsize : i.size = size) (hby : i.bytes = bytes) (hzs : z.cells.size = size) (hsz : 0 < size)
    (v : Value) (n : Nat) (xs : List Value) (hs : a.eval s = v) (hown : w.ownsRow base e size v n xs)
    (A : Option Addr) (m c : Nat) (news : List Value) (hx : a.eval x = .slice A m c) (hl : news.length = m * size) (hr : Cells w A news) (h1 : ∀ u ∈ news, u.oneCell' = true)
    (h63 : n + m ≤ maxLen) (hbytes : (n + m) * bytes ≤ 140737488355328) (hbase : base ≤ w.heap.size)
    (h : ∀ D cp w', w'.ownsRow base e size (.slice D (n + m) cp) (n + m) (xs ++ news) → w.grownBy w' v.ownBlock → wpList P ops Q rest (a.put o.dst (.slice D (n + m) cp)) w') : wpList P ops Q (o :: rest) a w :=
  wpList_plain hgd fun _ hK => wp_append_cells w s x t ho base e i z size bytes ht hi hz hsize hby hzs hsz v n xs hs hown A m c news hx hl hr h1 h63 hbytes hbase fun D cp w' h2 h3 => hK _ _ (h D cp w' h2 h3)

theorem step_append_cells {ops : Array Oper} {o : Oper} {a : Act} {K : Act → World → Prop} {Q : Exit → Act → World → Prop} {E : Prop} (hgd : o.guard = none) (s x : Operand) (t : TypeId)
    (ho : o.op = .call { callee := .builtin .append, args := #[s, x], argTypes := #[t, t] })
    (base : Nat) (e : TypeId) (i : TypeInfo) (z : Value) (size bytes : Nat) (ht : P.underlying t = some (.slice e)) (hi : P.info? e = some i) (hz : i.zero = some z)
    (hsize : i.size = size) (hby : i.bytes = bytes) (hzs : z.cells.size = size) (hsz : 0 < size)
    (v : Value) (n : Nat) (xs : List Value) (hs : a.eval s = v) (hown : w.ownsRow base e size v n xs)
    (A : Option Addr) (m c : Nat) (news : List Value) (hx : a.eval x = .slice A m c) (hl : news.length = m * size) (hr : Cells w A news) (h1 : ∀ u ∈ news, u.oneCell' = true)
    (h63 : n + m ≤ maxLen) (hbytes : (n + m) * bytes ≤ 140737488355328) (hbase : base ≤ w.heap.size)
    (h : ∀ D cp w', w'.ownsRow base e size (.slice D (n + m) cp) (n + m) (xs ++ news) → w.grownBy w' v.ownBlock → K (a.put o.dst (.slice D (n + m) cp)) w') :
    if Region.wanted o (yielded ops a.tmps) = true then Oper.wp P o a w K Q else E := by
  have hw : Region.wanted o (yielded ops a.tmps) = true := by simp [Region.wanted, hgd]
  rw [if_pos hw]
  exact wp_append_cells w s x t ho base e i z size bytes ht hi hz hsize hby hzs hsz v n xs hs hown A m c news hx hl hr h1 h63 hbytes hbase h
end

theorem flatV_take (l : List V) (k : Nat) : (flatV l).take (k * 6) = flatV (l.take k) := by
  have e : flatV l = flatV (l.take k) ++ flatV (l.drop k) := by rw [← flatV_append, List.take_append_drop]
  rw [e]
  rcases Nat.lt_or_ge l.length k with c | c
  · rw [List.take_of_length_le (by rw [List.length_append, flatV_length, flatV_length, List.length_take, List.length_drop]; omega), List.drop_eq_nil_of_le (by omega)]
    simp [flatV]
  · rw [List.take_append_of_le_length (by rw [flatV_length, List.length_take]; omega), List.take_of_length_le (by rw [flatV_length, List.length_take]; omega)]
theorem Cells.head {w : World} {A : Option Addr} {l : List V} (h : Cells w A (flatV l)) (k : Nat) : Cells w A (flatV (l.take k)) := fun hne => by
  have e : flatV l = flatV (l.take k) ++ flatV (l.drop k) := by rw [← flatV_append, List.take_append_drop]
  obtain ⟨b, off, e1, hc⟩ := h (fun e0 => by rw [e0] at e; exact hne (List.append_eq_nil_iff.1 e.symm).1)
  refine ⟨b, off, e1, fun j u hu => hc j u ?_⟩
  rw [e, List.getElem?_append_left (List.getElem?_eq_some_iff.1 hu).1]
  exact hu
theorem Cells.tail {w : World} {b off : Nat} {l : List V} (h : Cells w (some ⟨b, off, none⟩) (flatV l)) (k : Nat) (hk : k ≤ l.length) : Cells w (some ⟨b, off + k * 6, none⟩) (flatV (l.drop k)) := fun hne => by
  have e : flatV l = flatV (l.take k) ++ flatV (l.drop k) := by rw [← flatV_append, List.take_append_drop]
  obtain ⟨b', off', e1, hc⟩ := h (fun e0 => by rw [e0] at e; exact hne (List.append_eq_nil_iff.1 e.symm).2)
  injection e1 with e1
  injection e1 with e2 e3
  subst e2 e3
  refine ⟨b, off + k * 6, rfl, fun j u hu => ?_⟩
  have := hc (k * 6 + j) u (by
    rw [e, List.getElem?_append_right (by rw [flatV_length, List.length_take]; omega)]
    rw [← hu]
    congr 1
    rw [flatV_length, List.length_take]
    omega)
  rw [← Nat.add_assoc] at this
  exact this
end Go.Proofs.Ytpiifgmegdphpaa
