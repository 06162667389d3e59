/-
  What joining two lists gives, as plain data. No program in sight; no condition.
-/
import Derived.Test.YtpiifgmegdphpaaSortP
namespace Go.Proofs.Ytpiifgmegdphpaa

/-- a with the first k of b put behind; none: two have one mark and are not the same. -/
def joinTo (a b : List V) : Nat → Option (List V)
  | 0 => some a
  | k + 1 => match joinTo a b k, b[k]? with
    | none, _ => none
    | some o, none => some o
    | some o, some v => if free o v = true then some (ins o v) else if putE o v = 3 then none else some o
theorem joinTo_put {a b : List V} {k : Nat} {o : List V} {v : V} (h : joinTo a b k = some o) (hv : b[k]? = some v) (hf : free o v = true) : joinTo a b (k + 1) = some (ins o v) := by
  show (match joinTo a b k, b[k]? with | none, _ => _ | some o, none => _ | some o, some v => _) = _
  rw [h, hv]; simp only; rw [if_pos hf]
theorem joinTo_there {a b : List V} {k : Nat} {o : List V} {v : V} (h : joinTo a b k = some o) (hv : b[k]? = some v) (hf : free o v = false) (he : putE o v = 8) : joinTo a b (k + 1) = some o := by
  show (match joinTo a b k, b[k]? with | none, _ => _ | some o, none => _ | some o, some v => _) = _
  rw [h, hv]; simp only; rw [if_neg (by rw [hf]; simp), if_neg (by rw [he]; omega)]
theorem joinTo_form {a b : List V} {k : Nat} {o : List V} {v : V} (h : joinTo a b k = some o) (hv : b[k]? = some v) (hf : free o v = false) (he : putE o v = 3) : joinTo a b (k + 1) = none := by
  show (match joinTo a b k, b[k]? with | none, _ => _ | some o, none => _ | some o, some v => _) = _
  rw [h, hv]; simp only; rw [if_neg (by rw [hf]; simp), if_pos he]
theorem joinTo_none {a b : List V} {k : Nat} (h : joinTo a b k = none) : ∀ m, k ≤ m → joinTo a b m = none := by
  intro m hm
  induction m with
  | zero => obtain rfl : k = 0 := by omega
            exact h
  | succ m ih =>
    rcases Nat.eq_or_lt_of_le hm with e | e
    · rw [← e]; exact h
    · show (match joinTo a b m, b[m]? with | none, _ => _ | some o, none => _ | some o, some v => _) = _
      rw [ih (by omega)]
theorem joinTo_len {a b : List V} : ∀ k o, joinTo a b k = some o → o.length ≤ a.length + k := by
  intro k
  induction k with
  | zero => intro o h; injection h with h; subst h; omega
  | succ k ih =>
    intro o h
    cases hj : joinTo a b k with
    | none => rw [joinTo_none hj (k + 1) (by omega)] at h; cases h
    | some p =>
      have hp := ih p hj
      cases hv : b[k]? with
      | none =>
        have e : joinTo a b (k + 1) = some p := by
          show (match joinTo a b k, b[k]? with | none, _ => _ | some o, none => _ | some o, some v => _) = _
          rw [hj, hv]
        rw [e] at h; injection h with h; subst h; omega
      | some v =>
        cases hf : free p v
        · rcases putE_bad hf with he | he
          · rw [joinTo_there hj hv hf he] at h; injection h with h; subst h; omega
          · rw [joinTo_form hj hv hf he] at h; cases h
        · rw [joinTo_put hj hv hf] at h; injection h with h; subst h; rw [ins_len]; omega
def joinL (a b : List V) : List V := (joinTo a b b.length).getD []
def joinE (a b : List V) : Int := match joinTo a b b.length with
  | none => 3
  | some _ => 0
end Go.Proofs.Ytpiifgmegdphpaa
