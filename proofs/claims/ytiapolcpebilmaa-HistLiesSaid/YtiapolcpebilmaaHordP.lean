/-
  What a history without a fault says of who sees whom; a row cut short; reads taken away. Conditions: none.
-/
import Derived.Test.YtiapolcpebilmaaCheckP
import Derived.Test.YtiapolcpebilmaaFewT
namespace Go.Proofs.Ytiapolcpebilmaa
open Go.RowKit Go.ChangeShapes Go.WideShapes Go.Deep Go.Maps
set_option linter.unusedVariables false

theorem markF_all {l : List Txn} : ∀ n, markF l n = none → ∀ i a, i < n → l[i]? = some a → txF l i a = 0 := by
  intro n
  induction n with
  | zero => intro _ i a h; omega
  | succ n ih =>
    intro h i a hi ha
    cases hp : markF l n with
    | some r => rw [markF_stays hp (n + 1) (by omega)] at h; cases h
    | none =>
      by_cases e : i = n
      · subst e
        rw [markF_step ha hp] at h
        by_cases ht : txF l i a = 0
        · exact ht
        · rw [if_pos ht] at h; cases h
      · exact ih hp i a (by omega) ha
theorem rowF_all {l : List Txn} {a : Txn} : ∀ n, rowF l a n = 0 → ∀ k b, k < n → l[k]? = some b → pairF a b = 0 := by
  intro n
  induction n with
  | zero => intro _ k b h; omega
  | succ n ih =>
    intro h k b hk hb
    by_cases hp : rowF l a n = 0
    · by_cases e : k = n
      · subst e; rw [← rowF_step hb hp]; exact h
      · exact ih hp k b (by omega) hb
    · rw [rowF_stays hp rfl (n + 1) (by omega)] at h; exact absurd h hp
theorem tx_row {l : List Txn} {i : Nat} {a : Txn} (h : txF l i a = 0) : rowF l a i = 0 ∧ ownF a = 0 := by
  unfold txF at h
  by_cases e : rowF l a i = 0
  · rw [if_neg (by simpa using e)] at h; exact ⟨e, h⟩
  · rw [if_pos e] at h; exact absurd h e
/-- a history without a fault in its marks. -/
structure NoFault (l : List Txn) : Prop where
  pair : ∀ (i k : Nat) (a b : Txn), k < i → l[i]? = some a → l[k]? = some b → pairF a b = 0
  own : ∀ (i : Nat) (a : Txn), l[i]? = some a → ownF a = 0
theorem good_of {l : List Txn} (h : markF l l.length = none) : NoFault l := by
  refine ⟨fun i k a b hk ha hb => ?_, fun i a ha => ?_⟩
  · exact rowF_all i (tx_row (markF_all _ h i a (List.getElem?_eq_some_iff.1 ha).1 ha)).1 k b hk hb
  · exact (tx_row (markF_all _ h i a (List.getElem?_eq_some_iff.1 ha).1 ha)).2
theorem markF_ne {l : List Txn} : ∀ n r, markF l n = some r → r.1 ≠ 0 := by
  intro n
  induction n with
  | zero => intro r h; cases h
  | succ n ih =>
    intro r h
    cases hp : markF l n with
    | some r' => rw [markF_stays hp (n + 1) (by omega)] at h; exact ih r (by rw [hp]; exact h)
    | none =>
      cases ha : l[n]? with
      | none =>
        have h' : (match markF l n with | some r => some r | none => match l[n]? with | some a => if txF l n a ≠ 0 then some (txF l n a, n) else none | none => none) = some r := h
        rw [hp, ha] at h'; cases h'
      | some a =>
        rw [markF_step ha hp] at h
        by_cases ht : txF l n a = 0
        · rw [if_neg (by simpa using ht)] at h; cases h
        · rw [if_pos ht] at h; injection h with h; rw [← h]; exact ht
theorem mark_of_check {l : List Txn} (h : (check l).1 = 0) : markF l l.length = none := by
  cases hp : markF l l.length with
  | none => rfl
  | some r => unfold check at h; rw [hp] at h; exact absurd h (markF_ne _ r hp)
theorem pair_zero {a b : Txn} (h : pairF a b = 0) : (b.cl = a.cl → b.sn ≤ a.sn) ∧ (b.cl = a.cl → a.has = true → b.has = true → b.ts < a.ts) := by
  unfold pairF at h
  split at h
  · cases h
  · split at h
    · cases h
    · next h1 h2 =>
      simp only [Bool.and_eq_true, Bool.or_eq_true, decide_eq_true_eq, beq_iff_eq, not_and, not_or] at h2
      exact ⟨fun e => by have := (h2 e).1; omega, fun e ha hb => by have := (h2 e).2 ⟨ha, hb⟩; omega⟩
theorem own_zero {a : Txn} (h : ownF a = 0) (ha : a.has = true) : a.sn < a.ts := by
  unfold ownF at h
  split at h
  · cases h
  · next h1 => simp only [ha, Bool.true_and, decide_eq_true_eq] at h1; omega
/-- who is seen: by time, or by the client's own order. -/
theorem sees_iff {l : List Txn} {i k : Nat} : sees l (i : Int) (k : Int) = true ↔ i ≠ k ∧ ∃ a b, l[i]? = some a ∧ l[k]? = some b ∧ b.has = true ∧ (b.ts ≤ a.sn ∨ (k < i ∧ b.cl = a.cl)) := by
  by_cases h : (i < l.length ∧ k < l.length ∧ i ≠ k)
  · obtain ⟨h1, h2, h3⟩ := h
    have ha := List.getElem?_eq_getElem h1
    have hb := List.getElem?_eq_getElem h2
    rw [sees_in ha hb h3]
    unfold seesN
    simp only [Bool.and_eq_true, Bool.or_eq_true, decide_eq_true_eq, beq_iff_eq]
    constructor
    · intro ⟨x, y⟩; exact ⟨h3, _, _, ha, hb, x, y⟩
    · rintro ⟨-, a, b, ha', hb', x, y⟩
      rw [ha] at ha'; rw [hb] at hb'; injection ha' with e1; injection hb' with e2; subst e1 e2
      exact ⟨x, y⟩
  · rw [sees_out (by omega)]
    constructor
    · intro h; cases h
    · rintro ⟨h3, a, b, ha, hb, -⟩
      exact absurd ⟨(List.getElem?_eq_some_iff.1 ha).1, (List.getElem?_eq_some_iff.1 hb).1, h3⟩ h
theorem seen_below {l : List Txn} (g : NoFault l) {i k : Nat} {a b : Txn} (ha : l[i]? = some a) (hb : l[k]? = some b) (h : sees l (i : Int) (k : Int) = true) (hs : a.has = true) : b.ts < a.ts := by
  obtain ⟨hne, a', b', ha', hb', h1, h2⟩ := sees_iff.1 h
  rw [ha] at ha'; rw [hb] at hb'; injection ha' with e1; injection hb' with e2; subst e1 e2
  rcases h2 with h2 | ⟨h2, h3⟩
  · have := own_zero (g.own i a ha) hs; omega
  · exact (pair_zero (g.pair i k a b h2 ha hb)).2 h3 hs h1
theorem seen_less {l : List Txn} (g : NoFault l) {i k : Nat} {a b : Txn} (ha : l[i]? = some a) (hb : l[k]? = some b) (h : sees l (i : Int) (k : Int) = true) (hs : a.has = true) : mlt b.ts b.dc b.tx a.ts a.dc a.tx = true := by
  have := seen_below g ha hb h hs
  unfold mlt; simp only [decide_eq_true_eq]; omega
theorem seen_not {l : List Txn} (g : NoFault l) {i k : Nat} (h : sees l (i : Int) (k : Int) = true) : sees l (k : Int) (i : Int) = false := by
  cases h' : sees l (k : Int) (i : Int) with
  | false => rfl
  | true =>
    obtain ⟨hne, a, b, ha, hb, h1, h2⟩ := sees_iff.1 h
    obtain ⟨hne', b', a', hb', ha', h1', h2'⟩ := sees_iff.1 h'
    rw [ha] at ha'; rw [hb] at hb'; injection ha' with e1; injection hb' with e2; subst e1 e2
    have q1 := seen_below g ha hb h h1'
    have q2 := seen_below g hb ha h' h1
    omega
theorem seen_on {l : List Txn} (g : NoFault l) {i k n : Nat} (h : sees l (i : Int) (k : Int) = true) (h' : sees l (k : Int) (n : Int) = true) (hne : n ≠ i) : sees l (i : Int) (n : Int) = true := by
  obtain ⟨hik, a, b, ha, hb, h1, h2⟩ := sees_iff.1 h
  obtain ⟨hkn, b', c, hb', hc, h3, h4⟩ := sees_iff.1 h'
  rw [hb] at hb'; injection hb' with e; subst e
  have q := seen_below g hb hc h' h1
  refine sees_iff.2 ⟨Ne.symm hne, a, c, ha, hc, h3, ?_⟩
  rcases h2 with h2 | ⟨h2, e2⟩
  · exact .inl (by omega)
  · have p := (pair_zero (g.pair i k a b h2 ha hb)).1 e2
    rcases h4 with h4 | ⟨h4, e4⟩
    · exact .inl (by omega)
    · exact .inr ⟨by omega, e4.trans e2⟩
theorem not_seen {l : List Txn} {i k : Nat} {a b : Txn} (ha : l[i]? = some a) (hb : l[k]? = some b) (h : sees l (i : Int) (k : Int) = false) (hk : k < i) (hs : b.has = true) : (b.cl == a.cl) = false := by
  rw [beq_eq_false_iff_ne]
  intro e
  have : sees l (i : Int) (k : Int) = true := sees_iff.2 ⟨by omega, a, b, ha, hb, hs, .inr ⟨hk, e⟩⟩
  rw [h] at this; cases this
theorem row_take {w : World} {base : Nat} {e : TypeId} {size n m cp : Nat} {D : Option Addr} {xs : List Value} (h : w.ownsRow base e size (.slice D n cp) n xs) (hm : m ≤ n) (hd : D ≠ none) : w.ownsRow base e size (.slice D m cp) m (xs.take (m * size)) := by
  have hms : m * size ≤ n * size := Nat.mul_le_mul_right _ hm
  obtain ⟨hl, ⟨h1, h2⟩ | ⟨g, cap, cur, hv, hg, hh, hn, hc, hs, ht⟩⟩ := h
  · injection h1 with h1; exact absurd h1 hd
  · injection hv with e1 e2 e3
    subst e1 e3
    refine ⟨by rw [List.length_take]; omega, .inr ⟨g, cp, cur, rfl, hg, hh, by omega, hc, hs, ?_⟩⟩
    rw [← ht, List.take_take]; congr 1; omega
/-- without its reads. -/
def clr (x : TI) : TI := { x with R := none, rc := 0, t := { x.t with rds := [] } }
def clrTo (M : List TI) (i : Nat) : List TI := (M.take i).map clr ++ M.drop i
theorem flatTI_set : ∀ (M : List TI) (k : Nat) (x : TI), M[k]? = some x → (flatTI M).set (k * 8 + 6) (.slice none 0 0) = flatTI (M.set k (clr x)) := by
  intro M
  induction M with
  | nil => intro k x h; simp at h
  | cons y M ih =>
    intro k x h
    cases k with
    | zero => simp at h; subst h; rfl
    | succ k =>
      have e0 : (k + 1) * 8 + 6 = y.cells.length + (k * 8 + 6) := by show _ = 8 + (k * 8 + 6); omega
      show (y.cells ++ flatTI M).set _ _ = y.cells ++ flatTI (M.set k (clr x))
      rw [← ih k x (by simpa using h), e0, List.set_append_right _ _ (Nat.le_add_right _ _), Nat.add_sub_cancel_left]
theorem clrTo_step {M : List TI} {i : Nat} {x : TI} (h : M[i]? = some x) : (clrTo M i)[i]? = some x ∧ clrTo M (i + 1) = (clrTo M i).set i (clr x) := by
  have hi := (List.getElem?_eq_some_iff.1 h).1
  have hl : ((M.take i).map clr).length = i := by rw [List.length_map, List.length_take]; omega
  have hd : M.drop i = x :: M.drop (i + 1) := by rw [← (List.getElem?_eq_some_iff.1 h).2]; exact (List.getElem_cons_drop _).symm
  unfold clrTo
  refine ⟨by rw [List.getElem?_append_right (by omega), hl, hd]; simp, ?_⟩
  rw [List.set_append_right _ _ (by omega), hl, Nat.sub_self, hd, List.take_add_one, h]
  simp
theorem clrTo_len (M : List TI) (i : Nat) : (clrTo M i).length = M.length := by unfold clrTo; rw [List.length_append, List.length_map, List.length_take, List.length_drop]; omega
theorem clrTo_all (M : List TI) : clrTo M M.length = M.map clr := by unfold clrTo; rw [List.take_length, List.drop_length, List.append_nil]
theorem clr_step {w : World} {base g N cp : Nat} {M : List TI} {i : Nat} {x : TI} (h : w.ownsRow base 45 8 (.slice (some ⟨g, 0, none⟩) N cp) N (flatTI (clrTo M i))) (hx : M[i]? = some x) :
    (w.setCell ⟨g, i * 8 + 6, none⟩ (.slice none 0 0)).ownsRow base 45 8 (.slice (some ⟨g, 0, none⟩) N cp) N (flatTI (clrTo M (i + 1))) := by
  rw [(clrTo_step hx).2, ← flatTI_set _ _ _ (clrTo_step hx).1]
  exact (h.stored (i * 8 + 6) _).1
theorem row_some {w : World} {base : Nat} {e : TypeId} {size n cp : Nat} {D : Option Addr} {xs : List Value} (h : w.ownsRow base e size (.slice D n cp) n xs) (hn : 0 < n) : ∃ g, D = some ⟨g, 0, none⟩ ∧ base ≤ g ∧ g < w.heap.size ∧ n ≤ cp := by
  obtain ⟨hl, ⟨hv, h0⟩ | ⟨g, cap, cur, hv, hg, hh, hnc, r⟩⟩ := h
  · omega
  · injection hv with h1 h2 h3
    exact ⟨g, h1, hg, (Array.getElem?_eq_some_iff.1 hh).1, by omega⟩
theorem clr_ok {w w' : World} {x : TI} (h : x.wf w) (hb : Below w.heap.size w w') : (clr (fewTI x)).ok w' :=
  ⟨⟨Cells.nil _ _, Cells.takeG (cf := V.cells) (h.at'.d.on hb) 8⟩, by show (0 : Nat) ≤ _; omega, by show (x.t.wrs.take 8).length ≤ _; rw [List.length_take]; omega⟩
theorem few_of {l : List TI} {P : TI → Prop} (h : ∀ x ∈ l, P (fewTI x)) : ∀ x ∈ fewL l, P x := by
  intro x hx
  unfold fewL fewTo at hx
  obtain ⟨y, hy, rfl⟩ := List.mem_map.1 hx
  exact h y (List.mem_of_mem_take hy)
theorem fewL_len (l : List TI) : (fewL l).length ≤ 40 := by unfold fewL; rw [fewTo_len (by omega)]; omega
end Go.Proofs.Ytiapolcpebilmaa
