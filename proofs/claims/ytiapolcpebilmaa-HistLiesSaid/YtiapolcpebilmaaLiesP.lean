/-
  A run over one store, changed in one place: where the fault is found. No program in sight; no condition.
-/
import Derived.Test.YtiapolcpebilmaaIdealP
namespace Go.Proofs.Ytiapolcpebilmaa
open Go.RowKit Go.ChangeShapes Go.WideShapes Go.Deep Go.Maps
set_option linter.unusedVariables false

/-- the same but for the reads. -/
def Like (l l' : List Txn) : Prop := l.length = l'.length ∧ ∀ (k : Nat) (a : Txn), l[k]? = some a → ∃ rs, l'[k]? = some { a with rds := rs }
theorem like_sees {l l' : List Txn} (h : Like l l') (i k : Nat) : sees l (i : Int) (k : Int) = sees l' (i : Int) (k : Int) :=
  sees_eq h.1 fun a b _ ha hb => by
    obtain ⟨r1, h1⟩ := h.2 i a ha
    obtain ⟨r2, h2⟩ := h.2 k b hb
    exact ⟨_, _, h1, h2, rfl⟩
theorem like_wantTo {l l' : List Txn} (h : Like l l') (i : Nat) (key : ByteArray) : ∀ n : Nat, wantTo l i key n = wantTo l' i key n := by
  intro n
  induction n with
  | zero => rfl
  | succ n ih =>
    cases ha : l[n]? with
    | none =>
      have hb : l'[n]? = none := by rw [List.getElem?_eq_none_iff, ← h.1]; exact List.getElem?_eq_none_iff.1 ha
      show (match l[n]? with | some t => wantStep l i key (wantTo l i key n) n t | none => wantTo l i key n) = (match l'[n]? with | some t => wantStep l' i key (wantTo l' i key n) n t | none => wantTo l' i key n)
      rw [ha, hb]; exact ih
    | some a =>
      obtain ⟨rs, hb⟩ := h.2 n a ha
      cases hse : sees l (i : Int) (n : Int) with
      | false => rw [want_no ha hse, want_no hb ((like_sees h i n).symm.trans hse), ih]
      | true => rw [want_in ha hse, want_in hb ((like_sees h i n).symm.trans hse), ih]; rfl
theorem like_want {l l' : List Txn} (h : Like l l') (i : Nat) (key : ByteArray) : want l i key = want l' i key := by
  unfold want; rw [h.1]; exact like_wantTo h i key _
theorem like_row {l l' : List Txn} (h : Like l l') (a : Txn) (rs : List Rd) : ∀ n : Nat, rowF l a n = rowF l' { a with rds := rs } n := by
  intro n
  induction n with
  | zero => rfl
  | succ n ih =>
    show (if rowF l a n ≠ 0 then rowF l a n else match l[n]? with | some b => pairF a b | none => 0) = (if rowF l' _ n ≠ 0 then rowF l' _ n else match l'[n]? with | some b => pairF _ b | none => 0)
    rw [ih]
    cases hb : l[n]? with
    | none =>
      have hb' : l'[n]? = none := by rw [List.getElem?_eq_none_iff, ← h.1]; exact List.getElem?_eq_none_iff.1 hb
      rw [hb']
    | some b =>
      obtain ⟨r2, h2⟩ := h.2 n b hb
      rw [h2]; rfl
theorem like_set {L : List Txn} {i : Nat} {a : Txn} (ha : L[i]? = some a) (rs : List Rd) : Like L (L.set i { a with rds := rs }) := by
  have hi := (List.getElem?_eq_some_iff.1 ha).1
  refine ⟨by simp, fun k b hb => ?_⟩
  by_cases e : i = k
  · subst e
    rw [ha] at hb
    injection hb with hb
    subst hb
    exact ⟨rs, by rw [List.getElem?_set_self hi]⟩
  · exact ⟨b.rds, by rw [List.getElem?_set_ne e]; exact hb⟩
/-- a read told otherwise. -/
def lieOf (r : Rd) : Rd := if r.fd = true then { r with v := { r.v with gone := !r.v.gone } } else { r with fd := true }
theorem lieOf_key (r : Rd) : (lieOf r).key = r.key := by unfold lieOf; split <;> rfl
theorem bad_lie {l : List Txn} {i : Nat} {r : Rd} (h : bad l i r = false) : bad l i (lieOf r) = true := by
  unfold bad at *
  rw [lieOf_key]
  cases hw : want l i r.key with
  | none =>
    rw [hw] at h
    have h : r.fd = false := h
    show (lieOf r).fd = true
    unfold lieOf; rw [if_neg (by rw [h]; simp)]
  | some v =>
    rw [hw] at h
    have h : (!r.fd || !veq v r.v) = false := h
    show (!(lieOf r).fd || !veq v (lieOf r).v) = true
    simp only [Bool.or_eq_false_iff, Bool.not_eq_false'] at h
    have e : v = r.v := (veq_iff _ _).1 h.2
    unfold lieOf
    rw [if_pos h.1]
    simp only [Bool.or_eq_true, Bool.not_eq_true']
    refine .inr ?_
    cases hv : veq v { r.v with gone := !r.v.gone } with
    | false => rfl
    | true =>
      have e2 := (veq_iff _ _).1 hv
      rw [e] at e2
      have e3 := congrArg V.gone e2
      have e3 : r.v.gone = !r.v.gone := e3
      cases hg : r.v.gone <;> rw [hg] at e3 <;> cases e3
theorem lie_check {s : IS} (h : Inv s) {i : Nat} {a : Txn} {r : Rd} {rs : List Rd} (ha : s.L[i]? = some a) (hr : a.rds = r :: rs) : check (s.L.set i { a with rds := lieOf r :: rs }) = (3, (i : Int)) := by
  have hL := like_set ha (lieOf r :: rs)
  have hi := (List.getElem?_eq_some_iff.1 ha).1
  have hm : markF (s.L.set i { a with rds := lieOf r :: rs }) (s.L.set i { a with rds := lieOf r :: rs }).length = none := by
    refine markF_none _ fun k b hk hb => ?_
    have hk' : k < s.L.length := by simpa using hk
    obtain ⟨r2, h2⟩ := hL.2 k _ (List.getElem?_eq_getElem hk')
    rw [hb] at h2
    injection h2 with h2
    obtain ⟨q1, q2⟩ := inv_rows h (List.getElem?_eq_getElem hk')
    rw [h2]
    exact ⟨by rw [← like_row hL]; exact q1, q2⟩
  refine check_read (m := 0) (r := lieOf r) hm ?_ (List.getElem?_set_self hi) rfl ?_
  · refine readF_none i fun k b q hk hb hq => ?_
    rw [List.getElem?_set_ne (by omega)] at hb
    rw [bad_eq (l' := s.L) (like_want hL k _).symm]
    exact h.rd k b q hb hq
  · rw [bad_eq (l' := s.L) (like_want hL i _).symm]
    exact bad_lie (h.rd i a r ha (by rw [hr]; exact List.mem_cons_self))
/-- cut behind i, and changed there. -/
def cutAt (L : List Txn) (i : Nat) (x : Txn) : List Txn := (L.take (i + 1)).set i x
theorem cut_lt {L : List Txn} {i k : Nat} {x : Txn} (hk : k < i) : (cutAt L i x)[k]? = L[k]? := by
  unfold cutAt; rw [List.getElem?_set_ne (by omega), List.getElem?_take, if_pos (by omega)]
theorem cut_at {L : List Txn} {i : Nat} {x : Txn} (hi : i < L.length) : (cutAt L i x)[i]? = some x := by
  unfold cutAt; rw [List.getElem?_set_self (by rw [List.length_take]; omega)]
theorem cut_mark {s : IS} (h : Inv s) {i : Nat} {x : Txn} : markF (cutAt s.L i x) i = none := by
  refine markF_none _ fun k b hk hb => ?_
  rw [cut_lt hk] at hb
  obtain ⟨q1, q2⟩ := inv_rows h hb
  refine ⟨rowF_none k fun j c hj hc => ?_, q2⟩
  rw [cut_lt (by omega)] at hc
  exact pair_ok (h.ord k j b c hj hb hc).1 (h.ord k j b c hj hb hc).2
theorem low_check {s : IS} (h : Inv s) {i : Nat} {a : Txn} (ha : s.L[i]? = some a) (hh : a.has = true) : check (cutAt s.L i { a with sn := a.ts }) = (2, (i : Int)) := by
  have hi := (List.getElem?_eq_some_iff.1 ha).1
  refine check_own (cut_at hi) (cut_mark h) (rowF_none i fun k b hk hb => ?_) ?_
  · rw [cut_lt hk] at hb
    obtain ⟨q1, q2⟩ := h.ord i k a b hk ha hb
    have q3 := (h.time i a ha hh).2.2
    refine pair_ok (fun _ hb' => q1 hh hb') (fun e => ?_)
    have := q2 e
    show b.sn ≤ a.ts
    omega
  · have : ({ a with sn := a.ts } : Txn).has = true := hh
    rw [this]; simp
theorem pair_twin' {a b : Txn} (h1 : a.has = true) (h2 : b.has = true) (h3 : twin a b = true) : pairF a b = 1 := by unfold pairF; rw [h1, h2, h3]; rfl
theorem twin_check {s : IS} (h : Inv s) {i k : Nat} {a b : Txn} (ha : s.L[i]? = some a) (hb : s.L[k]? = some b) (hk : k < i) (h1 : a.has = true) (h2 : b.has = true) : check (cutAt s.L i { a with ts := b.ts, dc := b.dc, tx := b.tx }) = (1, (i : Int)) := by
  have hi := (List.getElem?_eq_some_iff.1 ha).1
  refine check_pair (m := k) (cut_at hi) (cut_mark h) (by rw [cut_lt hk]; exact hb) hk (rowF_none k fun j c hj hc => ?_) ?_ (by omega)
  · rw [cut_lt (by omega)] at hc
    have q1 := (h.ord k j b c hj hb hc).1
    have q2 := (h.ord i j a c (by omega) ha hc).2
    exact pair_ok (fun _ hc' => q1 h2 hc') q2
  · have e1 : ({ a with ts := b.ts, dc := b.dc, tx := b.tx } : Txn).has = true := h1
    have e3 : twin { a with ts := b.ts, dc := b.dc, tx := b.tx } b = true := by unfold twin; simp
    exact pair_twin' e1 h2 e3
end Go.Proofs.Ytiapolcpebilmaa
