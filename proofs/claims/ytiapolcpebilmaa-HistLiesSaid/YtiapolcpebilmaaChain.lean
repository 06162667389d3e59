/-
  What the chain's functions compute, on lists of versions, and where a list's cells lie. No program in sight; no condition.
-/
import Derived.Test.YtiapolcpebilmaaVers
import Derived.Test.YtiapolcpebilmaaMem
namespace Go.Proofs.Ytiapolcpebilmaa
open Go.RowKit
set_option linter.unusedVariables false

theorem vlen (x : V) : x.cells.length = 6 := rfl
def flatV (l : List V) : List Value := l.flatMap V.cells
theorem flatV_length (l : List V) : (flatV l).length = l.length * 6 := by
  induction l with
  | nil => rfl
  | cons x l ih => unfold flatV at *; rw [List.flatMap_cons, List.length_append, ih, vlen, List.length_cons]; omega
theorem flatV_append (l m : List V) : flatV (l ++ m) = flatV l ++ flatV m := by unfold flatV; rw [List.flatMap_append]
theorem flatV_get (l : List V) (k : Nat) (x : V) (j : Nat) (hk : l[k]? = some x) (hj : j < 6) : (flatV l)[k * 6 + j]? = x.cells[j]? := flat_get vlen l k x j hk hj
theorem Cells.ver {w : World} {A : Option Addr} {l : List V} (h : Cells w A (flatV l)) {k : Nat} {x : V} (hk : l[k]? = some x) :
    ∃ b off, A = some ⟨b, off, none⟩ ∧ ∀ k x, l[k]? = some x → w.cell? ⟨b, off + k * 6, none⟩ = some (.string x.key) ∧ w.cell? ⟨b, off + k * 6 + 1, none⟩ = some (.string x.val) ∧ w.cell? ⟨b, off + k * 6 + 2, none⟩ = some (.bool x.gone) ∧ w.cell? ⟨b, off + k * 6 + 3, none⟩ = some (.int .u64 x.ts) ∧ w.cell? ⟨b, off + k * 6 + 4, none⟩ = some (.int .i64 x.dc) ∧ w.cell? ⟨b, off + k * 6 + 5, none⟩ = some (.int .i64 x.tx) := by
  have h0 := flatV_get l k x 0 hk (by omega)
  obtain ⟨b, off, e, hc⟩ := h (fun e => by rw [e] at h0; simp [V.cells] at h0)
  refine ⟨b, off, e, fun k x hk => ⟨?_, ?_, ?_, ?_, ?_, ?_⟩⟩
  · exact hc (k * 6) _ (by have := flatV_get l k x 0 hk (by omega); simpa [V.cells] using this)
  · rw [Nat.add_assoc]; exact hc (k * 6 + 1) _ (by have := flatV_get l k x 1 hk (by omega); simpa [V.cells] using this)
  · rw [Nat.add_assoc]; exact hc (k * 6 + 2) _ (by have := flatV_get l k x 2 hk (by omega); simpa [V.cells] using this)
  · rw [Nat.add_assoc]; exact hc (k * 6 + 3) _ (by have := flatV_get l k x 3 hk (by omega); simpa [V.cells] using this)
  · rw [Nat.add_assoc]; exact hc (k * 6 + 4) _ (by have := flatV_get l k x 4 hk (by omega); simpa [V.cells] using this)
  · rw [Nat.add_assoc]; exact hc (k * 6 + 5) _ (by have := flatV_get l k x 5 hk (by omega); simpa [V.cells] using this)

/-- one step of looking for what is seen at a time. -/
def seenStep (l : List V) (snap : Int) (r : Option Nat) (k : Nat) : Option Nat :=
  match l[k]? with
  | none => r
  | some x => if x.ts ≤ snap then (match r with
    | none => some k
    | some b => match l[b]? with
      | some y => if vlt y x = true then some k else some b
      | none => some b) else r
/-- the place of what is seen at a time among the first k. -/
def seen (l : List V) (snap : Int) : Nat → Option Nat
  | 0 => none
  | k + 1 => seenStep l snap (seen l snap k) k
def idx : Option Nat → Int
  | none => -1
  | some b => b
theorem seen_late {l : List V} {snap : Int} {k : Nat} {x : V} (hx : l[k]? = some x) (h : snap < x.ts) : seen l snap (k + 1) = seen l snap k := by
  show seenStep l snap _ k = _
  unfold seenStep; rw [hx]; simp only; rw [if_neg (by omega)]
theorem seen_first {l : List V} {snap : Int} {k : Nat} {x : V} (hx : l[k]? = some x) (h : x.ts ≤ snap) (hn : seen l snap k = none) : seen l snap (k + 1) = some k := by
  show seenStep l snap _ k = _
  unfold seenStep; rw [hx, hn]; simp only; rw [if_pos h]
theorem seen_next {l : List V} {snap : Int} {k b : Nat} {x y : V} (hx : l[k]? = some x) (h : x.ts ≤ snap) (hn : seen l snap k = some b) (hy : l[b]? = some y) (hv : vlt y x = true) : seen l snap (k + 1) = some k := by
  show seenStep l snap _ k = _
  unfold seenStep; rw [hx, hn]; simp only; rw [if_pos h, hy]; simp only; rw [if_pos hv]
theorem seen_keep {l : List V} {snap : Int} {k b : Nat} {x y : V} (hx : l[k]? = some x) (h : x.ts ≤ snap) (hn : seen l snap k = some b) (hy : l[b]? = some y) (hv : vlt y x = false) : seen l snap (k + 1) = some b := by
  show seenStep l snap _ k = _
  unfold seenStep; rw [hx, hn]; simp only; rw [if_pos h, hy]; simp only; rw [if_neg (by rw [hv]; simp)]
theorem seen_lt (l : List V) (snap : Int) : ∀ k b, seen l snap k = some b → b < k ∧ ∃ y, l[b]? = some y ∧ y.ts ≤ snap := by
  intro k
  induction k with
  | zero => intro b h; simp [seen] at h
  | succ k ih =>
    intro b h
    cases hx : l[k]? with
    | none =>
      have : seen l snap (k + 1) = seen l snap k := by show seenStep l snap _ k = _; unfold seenStep; rw [hx]
      rw [this] at h
      obtain ⟨h1, h2⟩ := ih b h
      exact ⟨by omega, h2⟩
    | some x =>
      rcases Int.lt_or_le snap x.ts with c | c
      · rw [seen_late hx c] at h
        obtain ⟨h1, h2⟩ := ih b h
        exact ⟨by omega, h2⟩
      · cases hs : seen l snap k with
        | none => rw [seen_first hx c hs] at h; injection h with h; subst h; exact ⟨by omega, x, hx, c⟩
        | some b' =>
          obtain ⟨h1, y, hy, h2⟩ := ih b' hs
          cases hv : vlt y x
          · rw [seen_keep hx c hs hy hv] at h; injection h with h; subst h; exact ⟨by omega, y, hy, h2⟩
          · rw [seen_next hx c hs hy hv] at h; injection h with h; subst h; exact ⟨by omega, x, hx, c⟩
theorem vcmp_neg {x y : V} (h : vlt x y = true) : mcmp x.ts x.dc x.tx y.ts y.dc y.tx < 0 := by
  unfold mcmp; rw [if_pos (show mlt _ _ _ _ _ _ = true from h)]; omega
theorem vcmp_pos {x y : V} (h : vlt x y = false) : 0 ≤ mcmp x.ts x.dc x.tx y.ts y.dc y.tx := by
  unfold mcmp; rw [if_neg (by unfold vlt at h; rw [h]; simp)]; split <;> omega
theorem vcmp_zero {x y : V} (h : vlt x y = false) (k : vlt y x = false) : mcmp x.ts x.dc x.tx y.ts y.dc y.tx = 0 := by
  unfold mcmp; rw [if_neg (by unfold vlt at h; rw [h]; simp), if_neg (by unfold vlt at k; rw [k]; simp)]
theorem vcmp_one {x y : V} (h : vlt y x = true) : mcmp x.ts x.dc x.tx y.ts y.dc y.tx = 1 := by
  unfold mcmp; rw [if_neg (by have := vlt_asymm h; unfold vlt at this; rw [this]; simp), if_pos (show mlt _ _ _ _ _ _ = true from h)]
theorem vcmp_minus {x y : V} (h : vlt x y = true) : mcmp x.ts x.dc x.tx y.ts y.dc y.tx = -1 := by
  unfold mcmp; rw [if_pos (show mlt _ _ _ _ _ _ = true from h)]

/-- the version that is seen at a time. -/
def atV (l : List V) (snap : Int) : Option V := (seen l snap l.length).bind fun b => l[b]?
def zeroV : V := ⟨ByteArray.empty, ByteArray.empty, false, 0, 0, 0⟩
/-- what stays behind a trim at place i. -/
def trimmed (l : List V) (i : Option Nat) : List V := match i.bind fun b => l[b]? with
  | none => l
  | some y => l.filter fun x => !vlt x y
end Go.Proofs.Ytiapolcpebilmaa
