/-
  Marks and lists of marks as plain data; the first greatest mark's place. No program in sight; no condition.
-/
import Derived.Test.YtiapolcpebilmaaVers
import Derived.Test.YtiapolcpebilmaaMem
namespace Go.Proofs.Ytiapolcpebilmaa

/-- A mark. -/
structure K where
  ts : Int
  dc : Int
  tx : Int
def K.cells (x : K) : List Value := [.int .u64 x.ts, .int .i64 x.dc, .int .i64 x.tx]
def klt (a b : K) : Bool := mlt a.ts a.dc a.tx b.ts b.dc b.tx
theorem klt_irrefl (a : K) : klt a a = false := by unfold klt mlt; simp
theorem klt_trans {a b c : K} (h : klt a b = true) (k : klt b c = true) : klt a c = true := by
  unfold klt mlt at *; simp only [decide_eq_true_eq] at *; omega
theorem klt_asymm {a b : K} (h : klt a b = true) : klt b a = false := by
  unfold klt mlt at *; simp only [decide_eq_true_eq, decide_eq_false_iff_not] at *; omega
theorem klt_of_not {a b c : K} (h : klt b a = false) (k : klt b c = true) : klt a c = true := by
  unfold klt mlt at *; simp only [decide_eq_true_eq, decide_eq_false_iff_not] at *; omega
theorem klt_of_not' {a b c : K} (h : klt a b = true) (k : klt c b = false) : klt a c = true := by
  unfold klt mlt at *; simp only [decide_eq_true_eq, decide_eq_false_iff_not] at *; omega

theorem mcmp_neg {x y : K} (h : klt x y = true) : mcmp x.ts x.dc x.tx y.ts y.dc y.tx < 0 := by
  unfold mcmp; rw [if_pos (show mlt _ _ _ _ _ _ = true from h)]; omega
theorem mcmp_pos {x y : K} (h : klt x y = false) : 0 ≤ mcmp x.ts x.dc x.tx y.ts y.dc y.tx := by
  unfold mcmp; rw [if_neg (by unfold klt at h; rw [h]; simp)]; split <;> omega

/-- the cells of a list of marks. -/
def flatK (l : List K) : List Value := l.flatMap K.cells
theorem flatK_get : ∀ (l : List K) (k : Nat) (x : K) (j : Nat), l[k]? = some x → j < 3 → (flatK l)[k * 3 + j]? = x.cells[j]? := by
  intro l
  induction l with
  | nil => intro k x j h _; simp at h
  | cons y l ih =>
    intro k x j h hj
    have e : flatK (y :: l) = y.cells ++ flatK l := rfl
    rw [e]
    cases k with
    | zero =>
      simp only [List.getElem?_cons_zero, Option.some.injEq] at h
      subst h
      rw [List.getElem?_append_left (by simp [K.cells]; omega)]
      simp
    | succ k =>
      simp only [List.getElem?_cons_succ] at h
      rw [List.getElem?_append_right (by simp [K.cells]; omega)]
      rw [← ih k x j h hj]
      congr 1
      simp [K.cells]
      omega
theorem Cells.mark {w : World} {A : Option Addr} {l : List K} (h : Cells w A (flatK l)) {k : Nat} {x : K} (hk : l[k]? = some x) :
    ∃ b off, A = some ⟨b, off, none⟩ ∧ (∀ k x, l[k]? = some x → w.cell? ⟨b, off + k * 3, none⟩ = some (.int .u64 x.ts) ∧ w.cell? ⟨b, off + k * 3 + 1, none⟩ = some (.int .i64 x.dc) ∧ w.cell? ⟨b, off + k * 3 + 2, none⟩ = some (.int .i64 x.tx)) := by
  have h0 := flatK_get l k x 0 hk (by omega)
  obtain ⟨b, off, e, hc⟩ := h (fun e => by rw [e] at h0; simp [K.cells] at h0)
  refine ⟨b, off, e, fun k x hk => ⟨?_, ?_, ?_⟩⟩
  · exact hc (k * 3) _ (by have := flatK_get l k x 0 hk (by omega); simpa [K.cells] using this)
  · rw [Nat.add_assoc]; exact hc (k * 3 + 1) _ (by have := flatK_get l k x 1 hk (by omega); simpa [K.cells] using this)
  · rw [Nat.add_assoc]; exact hc (k * 3 + 2) _ (by have := flatK_get l k x 2 hk (by omega); simpa [K.cells] using this)

/-- a is the place of the first greatest of the first k. -/
def Top (l : List K) (k : Nat) (a : Nat) : Prop := ∃ x, l[a]? = some x ∧ a < k ∧ (∀ j y, j < k → l[j]? = some y → klt x y = false) ∧ (∀ j y, j < a → l[j]? = some y → klt y x = true)
theorem Top.unique {l : List K} {k a b : Nat} (h : Top l k a) (h' : Top l k b) : a = b := by
  obtain ⟨x, hx, ha, h1, h2⟩ := h
  obtain ⟨y, hy, hb, h3, h4⟩ := h'
  rcases Nat.lt_trichotomy a b with c | c | c
  · have := h4 a x c hx
    rw [h1 b y hb hy] at this
    cases this
  · exact c
  · have := h2 b y c hy
    rw [h3 a x ha hx] at this
    cases this
theorem Top.one {l : List K} {x : K} (h : l[0]? = some x) : Top l 1 0 :=
  ⟨x, h, by omega, fun j y hj hy => by obtain rfl : j = 0 := by omega
                                       rw [h] at hy; injection hy with hy; subst hy; exact klt_irrefl _, fun j y hj _ => by omega⟩
theorem Top.keep {l : List K} {k a : Nat} {x y : K} (h : Top l k a) (hx : l[a]? = some x) (hy : l[k]? = some y) (hn : klt x y = false) : Top l (k + 1) a := by
  obtain ⟨x', hx', ha, h1, h2⟩ := h
  rw [hx] at hx'; injection hx' with e; subst e
  refine ⟨x, hx, by omega, fun j z hj hz => ?_, h2⟩
  rcases Nat.lt_or_ge j k with c | c
  · exact h1 j z c hz
  · obtain rfl : j = k := by omega
    rw [hy] at hz; injection hz with e; subst e; exact hn
theorem Top.next {l : List K} {k a : Nat} {x y : K} (h : Top l k a) (hx : l[a]? = some x) (hy : l[k]? = some y) (hn : klt x y = true) : Top l (k + 1) k := by
  obtain ⟨x', hx', ha, h1, h2⟩ := h
  rw [hx] at hx'; injection hx' with e; subst e
  refine ⟨y, hy, by omega, fun j z hj hz => ?_, fun j z hj hz => klt_of_not (h1 j z hj hz) hn⟩
  · rcases Nat.lt_or_ge j k with c | c
    · have hzx := h1 j z c hz
      cases hyz : klt y z
      · rfl
      · rw [klt_trans hn hyz] at hzx; cases hzx
    · obtain rfl : j = k := by omega
      rw [hy] at hz; injection hz with e; subst e; exact klt_irrefl _
theorem Top.exists_ (l : List K) : ∀ k, 0 < k → k ≤ l.length → ∃ a, Top l k a := by
  intro k
  induction k with
  | zero => intro h; omega
  | succ k ih =>
    intro _ hk
    obtain ⟨y, hy⟩ : ∃ y, l[k]? = some y := ⟨_, List.getElem?_eq_getElem (by omega)⟩
    rcases Nat.eq_zero_or_pos k with h0 | h0
    · subst h0; exact ⟨0, Top.one hy⟩
    · obtain ⟨a, ha⟩ := ih h0 (by omega)
      obtain ⟨x, hx, _⟩ := id ha
      cases hxy : klt x y
      · exact ⟨a, ha.keep hx hy hxy⟩
      · exact ⟨k, ha.next hx hy hxy⟩
theorem nil_of_above {l : List K} (h : ∀ j y, j < l.length → l[j]? = some y → ∃ z : K, z ∈ l ∧ klt y z = true) : l = [] := by
  rcases Nat.eq_zero_or_pos l.length with h0 | h0
  · exact List.eq_nil_of_length_eq_zero h0
  · obtain ⟨a, x, hx, ha, h1, _⟩ := Top.exists_ l l.length h0 (Nat.le_refl _)
    obtain ⟨z, hz, hxz⟩ := h a x ha hx
    obtain ⟨q, hq⟩ := List.mem_iff_getElem?.1 hz
    rw [h1 q z (List.getElem?_eq_some_iff.1 hq).1 hq] at hxz
    cases hxz
end Go.Proofs.Ytiapolcpebilmaa
