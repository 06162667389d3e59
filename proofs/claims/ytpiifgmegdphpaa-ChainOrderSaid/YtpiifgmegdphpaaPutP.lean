/-
  What putting a version into a list gives, as plain data. No program in sight; no condition.
-/
import Derived.Test.YtpiifgmegdphpaaChain
import Derived.Test.YtpiifgmegdphpaaVerEq
namespace Go.Proofs.Ytpiifgmegdphpaa

/-- is one of the list above the version? -/
def anyGt (l : List V) (v : V) : Bool := l.any fun x => vlt v x
/-- has none of the list the version's mark? -/
def free (l : List V) (v : V) : Bool := l.all fun x => !vsame x v
theorem anyGt_snoc (l : List V) (x v : V) : anyGt (l ++ [x]) v = (anyGt l v || vlt v x) := by unfold anyGt; simp
theorem free_snoc (l : List V) (x v : V) : free (l ++ [x]) v = (free l v && !vsame x v) := by unfold free; simp
theorem ins_none : ∀ (l : List V) (v : V), anyGt l v = false → ins l v = l ++ [v] := by
  intro l v
  induction l with
  | nil => intro _; rfl
  | cons x l ih =>
    intro h
    unfold anyGt at h
    simp only [List.any_cons, Bool.or_eq_false_iff] at h
    unfold ins
    rw [if_neg (by rw [h.1]; simp), ih h.2]
    rfl
theorem ins_snoc_old : ∀ (l : List V) (x v : V), anyGt l v = true → ins (l ++ [x]) v = ins l v ++ [x] := by
  intro l x v
  induction l with
  | nil => intro h; simp [anyGt] at h
  | cons y l ih =>
    intro h
    unfold anyGt at h
    simp only [List.any_cons, Bool.or_eq_true] at h
    cases hy : vlt v y
    · rw [hy] at h
      have h2 : anyGt l v = true := by rcases h with h | h; · cases h
                                       · exact h
      show (if vlt v y = true then _ else _) = (if vlt v y = true then _ else _) ++ [x]
      rw [if_neg (by rw [hy]; simp), if_neg (by rw [hy]; simp)]
      show y :: ins (l ++ [x]) v = _
      rw [ih h2]
      rfl
    · show (if vlt v y = true then _ else _) = (if vlt v y = true then _ else _) ++ [x]
      rw [if_pos hy, if_pos hy]
      rfl
theorem ins_snoc_new : ∀ (l : List V) (x v : V), anyGt l v = false → vlt v x = true → ins (l ++ [x]) v = l ++ [v, x] := by
  intro l x v
  induction l with
  | nil => intro _ h; show (if vlt v x = true then _ else _) = _; rw [if_pos h]; rfl
  | cons y l ih =>
    intro h k
    unfold anyGt at h
    simp only [List.any_cons, Bool.or_eq_false_iff] at h
    show (if vlt v y = true then _ else _) = _
    rw [if_neg (by rw [h.1]; simp)]
    show y :: ins (l ++ [x]) v = _
    rw [ih h.2 k]
    rfl
/-- the list up to the k-th, the version in its place if that has come. -/
def outTo (l : List V) (v : V) (k : Nat) : List V := if anyGt (l.take k) v = true then ins (l.take k) v else l.take k
theorem takeS {l : List V} {k : Nat} {x : V} (hx : l[k]? = some x) : l.take (k + 1) = l.take k ++ [x] := by
  rw [List.take_add_one, hx]; rfl
theorem outTo_old {l : List V} {v x : V} {k : Nat} (hx : l[k]? = some x) (h : anyGt (l.take k) v = true) : outTo l v (k + 1) = outTo l v k ++ [x] ∧ anyGt (l.take (k + 1)) v = true := by
  have h2 : anyGt (l.take (k + 1)) v = true := by rw [takeS hx, anyGt_snoc, h]; rfl
  refine ⟨?_, h2⟩
  unfold outTo
  rw [if_pos h2, if_pos h, takeS hx, ins_snoc_old _ _ _ h]
theorem outTo_new {l : List V} {v x : V} {k : Nat} (hx : l[k]? = some x) (h : anyGt (l.take k) v = false) (hv : vlt v x = true) : outTo l v (k + 1) = outTo l v k ++ [v] ++ [x] ∧ anyGt (l.take (k + 1)) v = true := by
  have h2 : anyGt (l.take (k + 1)) v = true := by rw [takeS hx, anyGt_snoc, hv]; simp
  refine ⟨?_, h2⟩
  unfold outTo
  rw [if_pos h2, if_neg (by rw [h]; simp), takeS hx, ins_snoc_new _ _ _ h hv]
  simp
theorem outTo_not {l : List V} {v x : V} {k : Nat} (hx : l[k]? = some x) (h : anyGt (l.take k) v = false) (hv : vlt v x = false) : outTo l v (k + 1) = outTo l v k ++ [x] ∧ anyGt (l.take (k + 1)) v = false := by
  have h2 : anyGt (l.take (k + 1)) v = false := by rw [takeS hx, anyGt_snoc, h, hv]; rfl
  refine ⟨?_, h2⟩
  unfold outTo
  rw [if_neg (by rw [h2]; simp), if_neg (by rw [h]; simp), takeS hx]
theorem outTo_len (l : List V) (v : V) (k : Nat) : (outTo l v k).length ≤ k + 1 := by
  unfold outTo
  have hl : ∀ m : List V, (ins m v).length = m.length + 1 := by
    intro m
    induction m with
    | nil => rfl
    | cons y m ih => unfold ins; split <;> simp [ih]
  split
  · rw [hl, List.length_take]; omega
  · rw [List.length_take]; omega
theorem ins_len (m : List V) (v : V) : (ins m v).length = m.length + 1 := by
  induction m with
  | nil => rfl
  | cons y m ih => unfold ins; split <;> simp [ih]

/-- what Put answers: the list, and the error. -/
def putL (l : List V) (v : V) : List V := if free l v = true then ins l v else []
/-- the error of Put: there is one with the mark: the same, or another. -/
def putE (l : List V) (v : V) : Int := match clash l v with
  | none => 0
  | some x => if veq x v = true then 8 else 3
theorem clash_none {l : List V} {v : V} (h : free l v = true) : clash l v = none := by
  unfold clash; unfold free at h
  rw [List.find?_eq_none]
  intro x hx
  have := List.all_eq_true.1 h x hx
  simpa using this
theorem clash_at {l : List V} {v x : V} {k : Nat} (hx : l[k]? = some x) (hf : free (l.take k) v = true) (hs : vsame x v = true) : clash l v = some x := by
  have hc := clash_none hf
  have e : l = l.take k ++ x :: l.drop (k + 1) := by
    have hk := (List.getElem?_eq_some_iff.1 hx).1
    conv => lhs; rw [← List.take_append_drop k l, List.drop_eq_getElem_cons hk]
    rw [(List.getElem?_eq_some_iff.1 hx).2]
  unfold clash at *
  rw [e, List.find?_append, hc]
  simp [hs]
theorem not_free {l : List V} {v x : V} {k : Nat} (hx : l[k]? = some x) (hs : vsame x v = true) : free l v = false := by
  unfold free
  rw [Bool.eq_false_iff]
  intro h
  have := List.all_eq_true.1 h x (List.mem_of_getElem? hx)
  rw [hs] at this
  cases this
end Go.Proofs.Ytpiifgmegdphpaa
