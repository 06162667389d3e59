/-
  A run over one store, as plain data, and why no fault is found in it. No program in sight; no condition.
-/
import Derived.Test.YtiapolcpebilmaaHordP
import Derived.Test.YtiapolcpebilmaaMapO
namespace Go.Proofs.Ytiapolcpebilmaa
open Go.RowKit Go.ChangeShapes Go.WideShapes Go.Deep Go.Maps
set_option linter.unusedVariables false

/-! ### what is seen hangs on who is seen alone -/
theorem wantTo_congr {l l' : List Txn} {i : Nat} {key : ByteArray} (hs : ∀ k : Nat, sees l (i : Int) (k : Int) = sees l' (i : Int) (k : Int)) :
    ∀ n : Nat, (∀ k : Nat, k < n → (l[k]? = none ↔ l'[k]? = none)) → (∀ k : Nat, k < n → sees l (i : Int) (k : Int) = true → l[k]? = l'[k]?) → wantTo l i key n = wantTo l' i key n := by
  intro n
  induction n with
  | zero => intro _ _; rfl
  | succ n ih =>
    intro h1 h2
    have ih := ih (fun k hk => h1 k (by omega)) (fun k hk => h2 k (by omega))
    cases ha : l[n]? with
    | none =>
      have hb := (h1 n (by omega)).1 ha
      show (match l[n]? with | some t => wantStep l i key (wantTo l i key n) n t | none => wantTo l i key n) = (match l'[n]? with | some t => wantStep l' i key (wantTo l' i key n) n t | none => wantTo l' i key n)
      rw [ha, hb]; exact ih
    | some a =>
      cases hb : l'[n]? with
      | none => rw [(h1 n (by omega)).2 hb] at ha; cases ha
      | some b =>
        cases hse : sees l (i : Int) (n : Int) with
        | false => rw [want_no ha hse, want_no hb ((hs n).symm.trans hse), ih]
        | true =>
          have e := h2 n (by omega) hse
          rw [ha, hb] at e
          injection e with e
          subst e
          rw [want_in ha hse, want_in hb ((hs n).symm.trans hse), ih]
theorem want_congr {l l' : List Txn} {i : Nat} {key : ByteArray} (hl : l.length = l'.length) (hs : ∀ k : Nat, sees l (i : Int) (k : Int) = sees l' (i : Int) (k : Int)) (he : ∀ k : Nat, sees l (i : Int) (k : Int) = true → l[k]? = l'[k]?) : want l i key = want l' i key := by
  unfold want
  rw [hl]
  exact wantTo_congr hs _ (fun k hk => by rw [List.getElem?_eq_none_iff, List.getElem?_eq_none_iff, hl]) (fun k _ => he k)
/-- the entries that are asked for sees. -/
theorem sees_eq {l l' : List Txn} {i k : Nat} (hl : l.length = l'.length) (h : ∀ a b, i ≠ k → l[i]? = some a → l[k]? = some b → ∃ a' b', l'[i]? = some a' ∧ l'[k]? = some b' ∧ seesN a b i k = seesN a' b' i k) : sees l (i : Int) (k : Int) = sees l' (i : Int) (k : Int) := by
  by_cases hb : i < l.length ∧ k < l.length ∧ i ≠ k
  · obtain ⟨h1, h2, h3⟩ := hb
    obtain ⟨a', b', ha', hb', e⟩ := h _ _ h3 (List.getElem?_eq_getElem h1) (List.getElem?_eq_getElem h2)
    rw [sees_in (List.getElem?_eq_getElem h1) (List.getElem?_eq_getElem h2) h3, sees_in ha' hb' h3, e]
  · rw [sees_out (by omega), sees_out (by omega)]
/-! ### one more transaction -/
theorem get_old {L : List Txn} {x : Txn} {i : Nat} (hi : i < L.length) : (L ++ [x])[i]? = L[i]? := List.getElem?_append_left hi
theorem get_last (L : List Txn) (x : Txn) : (L ++ [x])[L.length]? = some x := by rw [List.getElem?_append_right (Nat.le_refl _), Nat.sub_self]; rfl
theorem sees_old {L : List Txn} {x : Txn} {i k : Nat} (hi : i < L.length) (hk : k < L.length) : sees (L ++ [x]) (i : Int) (k : Int) = sees L (i : Int) (k : Int) := by
  by_cases e : i = k
  · rw [sees_out (by omega), sees_out (by omega)]
  · rw [sees_in (a := L[i]) (b := L[k]) (by rw [get_old hi]; exact List.getElem?_eq_getElem hi) (by rw [get_old hk]; exact List.getElem?_eq_getElem hk) e, sees_in (List.getElem?_eq_getElem hi) (List.getElem?_eq_getElem hk) e]
theorem wantTo_old {L : List Txn} {x : Txn} {i : Nat} {key : ByteArray} (hi : i < L.length) : ∀ n, n ≤ L.length → wantTo (L ++ [x]) i key n = wantTo L i key n := by
  intro n
  induction n with
  | zero => intro _; rfl
  | succ n ih =>
    intro hn
    have ih := ih (by omega)
    have hb : L[n]? = some L[n] := List.getElem?_eq_getElem (by omega)
    have ha : (L ++ [x])[n]? = some L[n] := by rw [get_old (by omega)]; exact hb
    cases hse : sees L (i : Int) (n : Int) with
    | false => rw [want_no ha ((sees_old hi (by omega)).trans hse), want_no hb hse, ih]
    | true => rw [want_in ha ((sees_old hi (by omega)).trans hse), want_in hb hse, ih]
theorem want_old {L : List Txn} {x : Txn} {i : Nat} {key : ByteArray} (hi : i < L.length) (hn : sees (L ++ [x]) (i : Int) (L.length : Int) = false) : want (L ++ [x]) i key = want L i key := by
  unfold want
  rw [List.length_append]
  show wantTo (L ++ [x]) i key (L.length + 1) = _
  rw [want_no (get_last L x) hn, wantTo_old hi _ (Nat.le_refl _)]
theorem bad_eq {l l' : List Txn} {i : Nat} {r : Rd} (h : want l i r.key = want l' i r.key) : bad l i r = bad l' i r := by unfold bad; rw [h]
/-- what a new one sees hangs on its time and its client alone. -/
theorem want_new {L : List Txn} {x x' : Txn} {key : ByteArray} (h1 : x.sn = x'.sn) (h2 : x.cl = x'.cl) : want (L ++ [x]) L.length key = want (L ++ [x']) L.length key := by
  refine want_congr (by simp) (fun k => ?_) (fun k hk => ?_)
  · refine sees_eq (by simp) fun a b hne ha hb => ?_
    rw [get_last] at ha
    injection ha with ha
    subst ha
    have hk : k < L.length := by
      have h := (List.getElem?_eq_some_iff.1 hb).1
      rw [List.length_append] at h
      have h : k < L.length + 1 := h
      omega
    rw [get_old hk] at hb
    exact ⟨x', b, get_last L x', by rw [get_old hk]; exact hb, by unfold seesN; rw [h1, h2]⟩
  · by_cases e : k < L.length
    · rw [get_old e, get_old e]
    · have : sees (L ++ [x]) (L.length : Int) (k : Int) = false := sees_out (by rw [List.length_append]; simp; omega)
      rw [this] at hk; cases hk

/-! ### the run -/
structure Stp where
  who : Int
  late : Int
  reads : List ByteArray
  keys : List ByteArray
  val : ByteArray
structure IS where
  L : List Txn
  O : List (Int × Int)
  now : Int
def late4 (z : Int) : Int := (IntKind.u64.wrap z).tmod 4
theorem late4_in (z : Int) : 0 ≤ late4 z ∧ late4 z < 4 := by
  have hz : 0 ≤ IntKind.u64.wrap z := by simp [IntKind.wrap, IntKind.bits, IntKind.signed]; omega
  unfold late4
  rw [Int.tmod_eq_emod_of_nonneg hz]
  omega
/-- the time up to which it reads. -/
def snapOf (s : IS) (p : Stp) : Int := max (s.now - min s.now (late4 p.late)) (look s.O p.who)
def start (s : IS) (p : Stp) : Txn := ⟨p.who, snapOf s p, 3, 0, 0, 0, [], []⟩
def rdOf (L : List Txn) (x : Txn) (key : ByteArray) : Rd := ⟨key, (want (L ++ [x]) L.length key).isSome, (want (L ++ [x]) L.length key).getD v0⟩
def rdsTo (s : IS) (p : Stp) (m : Nat) : List Rd := (p.reads.take m).map (rdOf s.L (start s p))
def wrsTo (p : Stp) (m : Nat) : List V := (p.keys.take m).map fun k => ⟨k, p.val, false, 0, 0, 0⟩
def txOf (s : IS) (p : Stp) : Txn :=
  if (wrsTo p 4).length = 0 then { start s p with st := 4, rds := rdsTo s p 4, wrs := wrsTo p 4 } else { start s p with ts := s.now + 1, dc := 1, tx := s.L.length, rds := rdsTo s p 4, wrs := wrsTo p 4 }
def stepI (s : IS) (p : Stp) : IS := ⟨s.L ++ [txOf s p], drop s.O p.who ++ [(p.who, snapOf s p)], if (wrsTo p 4).length = 0 then s.now else s.now + 1⟩
def idealTo (ps : List Stp) : Nat → IS
  | 0 => ⟨[], [], 0⟩
  | k + 1 => match ps[k]? with | some p => stepI (idealTo ps k) p | none => idealTo ps k
def idealL (ps : List Stp) : List Txn := (idealTo ps (min ps.length 30)).L
theorem idealTo_step {ps : List Stp} {k : Nat} {p : Stp} (h : ps[k]? = some p) : idealTo ps (k + 1) = stepI (idealTo ps k) p := by
  show (match ps[k]? with | some p => stepI (idealTo ps k) p | none => idealTo ps k) = _
  rw [h]
theorem idealTo_len (ps : List Stp) : ∀ k, k ≤ ps.length → (idealTo ps k).L.length = k := by
  intro k
  induction k with
  | zero => intro _; rfl
  | succ k ih =>
    intro h
    rw [idealTo_step (List.getElem?_eq_getElem (by omega))]
    show ((idealTo ps k).L ++ [_]).length = _
    rw [List.length_append, ih (by omega)]; rfl
theorem look_put (O : List (Int × Int)) (x v y : Int) : look (drop O x ++ [(x, v)]) y = if y = x then v else look O y := by
  unfold look
  rw [List.find?_append]
  by_cases e : y = x
  · subst e
    rw [if_pos rfl]
    have h : (drop O y).find? (fun p => p.1 == y) = none := by
      rw [List.find?_eq_none]
      intro p hp
      simpa using (mem_drop.1 hp).2
    rw [h]; simp
  · rw [if_neg e]
    have h : (drop O x).find? (fun p => p.1 == y) = O.find? (fun p => p.1 == y) := by
      unfold drop
      rw [List.find?_filter]
      congr 1
      funext p
      by_cases h1 : p.1 = y
      · simp [h1, e]
      · simp [h1]
    rw [h]
    cases O.find? (fun p => p.1 == y) with
    | some p => rfl
    | none =>
      have e' : ¬ x = y := fun h => e h.symm
      simp [e']
/-- what holds of a run. -/
structure Inv (s : IS) : Prop where
  now0 : 0 ≤ s.now
  nowl : s.now ≤ s.L.length
  time : ∀ (i : Nat) (a : Txn), s.L[i]? = some a → a.has = true → 0 < a.ts ∧ a.ts ≤ s.now ∧ a.sn < a.ts
  snap : ∀ (i : Nat) (a : Txn), s.L[i]? = some a → 0 ≤ a.sn ∧ a.sn ≤ s.now ∧ a.sn ≤ look s.O a.cl
  lk : ∀ c : Int, 0 ≤ look s.O c ∧ look s.O c ≤ s.now
  ord : ∀ (i k : Nat) (a b : Txn), k < i → s.L[i]? = some a → s.L[k]? = some b → (a.has = true → b.has = true → b.ts < a.ts) ∧ (b.cl = a.cl → b.sn ≤ a.sn)
  rd : ∀ (i : Nat) (a : Txn) (r : Rd), s.L[i]? = some a → r ∈ a.rds → bad s.L i r = false
theorem inv_zero : Inv ⟨[], [], 0⟩ := ⟨Int.le_refl _, by simp, by simp, by simp, fun c => ⟨Int.le_refl _, Int.le_refl _⟩, by simp, by simp⟩
theorem snapOf_in {s : IS} (h : Inv s) (p : Stp) : 0 ≤ snapOf s p ∧ snapOf s p ≤ s.now ∧ look s.O p.who ≤ snapOf s p := by
  have h1 := h.lk p.who
  have h2 := late4_in p.late
  have h3 := h.now0
  unfold snapOf; omega
theorem txOf_cl (s : IS) (p : Stp) : (txOf s p).cl = p.who ∧ (txOf s p).sn = snapOf s p ∧ (txOf s p).rds = rdsTo s p 4 ∧ (txOf s p).wrs = wrsTo p 4 := by
  unfold txOf; split <;> exact ⟨rfl, rfl, rfl, rfl⟩
theorem txOf_has (s : IS) (p : Stp) : (txOf s p).has = true ↔ ¬ (wrsTo p 4).length = 0 := by
  unfold txOf
  split
  · next h => simp [Txn.has, h]
  · next h => simp [Txn.has, start, h]
theorem txOf_ts {s : IS} {p : Stp} (h : (txOf s p).has = true) : (txOf s p).ts = s.now + 1 := by
  have := (txOf_has s p).1 h
  unfold txOf; rw [if_neg this]
theorem get_snoc {L : List Txn} {x a : Txn} {i : Nat} (h : (L ++ [x])[i]? = some a) : (i < L.length ∧ L[i]? = some a) ∨ (i = L.length ∧ a = x) := by
  rcases Nat.lt_or_ge i L.length with c | c
  · exact .inl ⟨c, by rw [← get_old c]; exact h⟩
  · rw [List.getElem?_append_right c] at h
    have hi : i - L.length = 0 := by
      rcases Nat.eq_zero_or_pos (i - L.length) with c | c
      · exact c
      · rw [List.getElem?_eq_none (by simp; omega)] at h; cases h
    rw [hi] at h
    exact .inr ⟨by omega, by simpa using h.symm⟩
theorem rd_good (L : List Txn) (x x' : Txn) (key : ByteArray) (h1 : x.sn = x'.sn) (h2 : x.cl = x'.cl) : bad (L ++ [x]) L.length (rdOf L x' key) = false := by
  have hw : want (L ++ [x]) L.length key = want (L ++ [x']) L.length key := want_new h1 h2
  unfold bad rdOf
  rw [hw]
  cases want (L ++ [x']) L.length key with
  | none => rfl
  | some v => simp [veq_same]
theorem inv_step {s : IS} (h : Inv s) (p : Stp) : Inv (stepI s p) := by
  obtain ⟨c1, c2, c3, c4⟩ := txOf_cl s p
  obtain ⟨s1, s2, s3⟩ := snapOf_in h p
  obtain ⟨nw, hnw⟩ : ∃ nw, (stepI s p).now = nw := ⟨_, rfl⟩
  have hn1 : s.now ≤ nw ∧ nw ≤ s.now + 1 := by rw [← hnw]; unfold stepI; simp only; split <;> omega
  have hn2 : (txOf s p).has = true → nw = s.now + 1 := fun hh => by rw [← hnw]; unfold stepI; simp only; rw [if_neg ((txOf_has s p).1 hh)]
  have hlook : ∀ c, look (stepI s p).O c = if c = p.who then snapOf s p else look s.O c := fun c => look_put _ _ _ _
  have hL : (stepI s p).L = s.L ++ [txOf s p] := rfl
  have hsl : ∀ i : Nat, i < s.L.length → sees (s.L ++ [txOf s p]) (i : Int) (s.L.length : Int) = false := fun i hi => by
    cases hse : sees (s.L ++ [txOf s p]) (i : Int) (s.L.length : Int) with
    | false => rfl
    | true =>
      obtain ⟨_, a, b, ha, hb, hh, hor⟩ := sees_iff.1 hse
      rw [get_last] at hb
      injection hb with hb
      subst hb
      rw [get_old hi] at ha
      have q1 := h.snap i a ha
      have q2 := txOf_ts hh
      rcases hor with h1 | ⟨h1, _⟩
      · omega
      · omega
  refine ⟨by rw [hnw]; have := h.now0; omega, ?_, fun i a ha hh => ?_, fun i a ha => ?_, fun c => ?_, fun i k a b hk ha hb => ?_, fun i a r ha hr => ?_⟩
  · rw [hnw, hL, List.length_append]
    have := h.nowl
    simp; omega
  · rw [hnw]
    rw [hL] at ha
    rcases get_snoc ha with ⟨_, ha⟩ | ⟨_, rfl⟩
    · have := h.time i a ha hh; omega
    · have q1 := txOf_ts hh
      have q2 := hn2 hh
      rw [c2]
      have := h.now0
      omega
  · rw [hnw, hlook]
    rw [hL] at ha
    rcases get_snoc ha with ⟨_, ha⟩ | ⟨_, rfl⟩
    · have := h.snap i a ha
      split
      · next e => rw [e] at this; omega
      · omega
    · rw [c2, c1, if_pos rfl]; omega
  · rw [hnw, hlook]
    have := h.lk c
    split <;> omega
  · rw [hL] at ha hb
    rcases get_snoc hb with ⟨hkl, hb⟩ | ⟨hkl, rfl⟩
    · rcases get_snoc ha with ⟨_, ha⟩ | ⟨_, rfl⟩
      · exact h.ord i k a b hk ha hb
      · refine ⟨fun h1 h2 => ?_, fun e => ?_⟩
        · have := h.time k b hb h2
          have := txOf_ts h1
          omega
        · have q := h.snap k b hb
          rw [c1] at e
          rw [e] at q
          rw [c2]; omega
    · rcases get_snoc ha with ⟨hil, _⟩ | ⟨hil, _⟩ <;> omega
  · rw [hL] at ha ⊢
    rcases get_snoc ha with ⟨hi, ha⟩ | ⟨rfl, rfl⟩
    · rw [bad_eq (l' := s.L) (want_old hi (hsl i hi))]
      exact h.rd i a r ha hr
    · rw [c3] at hr
      obtain ⟨key, _, rfl⟩ := List.mem_map.1 hr
      exact rd_good _ _ _ _ c2 c1
theorem inv_ideal (ps : List Stp) : ∀ k, Inv (idealTo ps k) := by
  intro k
  induction k with
  | zero => exact inv_zero
  | succ k ih =>
    cases h : ps[k]? with
    | none =>
      have e : idealTo ps (k + 1) = idealTo ps k := by
        show (match ps[k]? with | some p => stepI (idealTo ps k) p | none => idealTo ps k) = _
        rw [h]
      rw [e]; exact ih
    | some p => rw [idealTo_step h]; exact inv_step ih p
/-! ### no fault -/
theorem pair_ok {a b : Txn} (h1 : a.has = true → b.has = true → b.ts < a.ts) (h2 : b.cl = a.cl → b.sn ≤ a.sn) : pairF a b = 0 := by
  unfold pairF
  rw [if_neg, if_neg]
  · simp only [Bool.and_eq_true, Bool.or_eq_true, decide_eq_true_eq, beq_iff_eq]
    rintro ⟨e, h | ⟨⟨ha, hb⟩, h⟩⟩
    · have := h2 e; omega
    · have := h1 ha hb; omega
  · simp only [Bool.and_eq_true, twin, beq_iff_eq]
    rintro ⟨⟨ha, hb⟩, h, _⟩
    have := h1 ha hb; omega
theorem rowF_none {l : List Txn} {a : Txn} : ∀ n, (∀ k b, k < n → l[k]? = some b → pairF a b = 0) → rowF l a n = 0 := by
  intro n
  induction n with
  | zero => intro _; rfl
  | succ n ih =>
    intro h
    have h0 := ih (fun k b hk hb => h k b (by omega) hb)
    cases hb : l[n]? with
    | none =>
      show (if rowF l a n ≠ 0 then rowF l a n else match l[n]? with | some b => pairF a b | none => 0) = 0
      rw [h0, hb]; simp
    | some b => rw [rowF_step hb h0]; exact h n b (by omega) hb
theorem own_ok {a : Txn} (h : a.has = true → a.sn < a.ts) : ownF a = 0 := by
  unfold ownF
  rw [if_neg]
  simp only [Bool.and_eq_true, decide_eq_true_eq]
  rintro ⟨h1, h2⟩
  have := h h1; omega
theorem markF_none {l : List Txn} : ∀ n, (∀ i a, i < n → l[i]? = some a → rowF l a i = 0 ∧ ownF a = 0) → markF l n = none := by
  intro n
  induction n with
  | zero => intro _; rfl
  | succ n ih =>
    intro h
    have h0 := ih (fun i a hi ha => h i a (by omega) ha)
    cases ha : l[n]? with
    | none =>
      show (match markF l n with | some r => some r | none => match l[n]? with | some a => if txF l n a ≠ 0 then some (txF l n a, n) else none | none => none) = none
      rw [h0, ha]
    | some a =>
      rw [markF_step ha h0]
      obtain ⟨h1, h2⟩ := h n a (by omega) ha
      unfold txF
      rw [h1, h2]; simp
theorem readF_none {l : List Txn} : ∀ n, (∀ i a r, i < n → l[i]? = some a → r ∈ a.rds → bad l i r = false) → readF l n = none := by
  intro n
  induction n with
  | zero => intro _; rfl
  | succ n ih =>
    intro h
    have h0 := ih (fun i a r hi ha hr => h i a r (by omega) ha hr)
    cases ha : l[n]? with
    | none =>
      show (match readF l n with | some r => some r | none => match l[n]? with | some a => if a.rds.any (bad l n) = true then some n else none | none => none) = none
      rw [h0, ha]
    | some a => exact read_none h0 ha fun m r _ hr => h n a r (by omega) ha (List.mem_of_getElem? hr)
theorem inv_rows {s : IS} (h : Inv s) {i : Nat} {a : Txn} (ha : s.L[i]? = some a) : rowF s.L a i = 0 ∧ ownF a = 0 :=
  ⟨rowF_none i fun k b hk hb => pair_ok (h.ord i k a b hk ha hb).1 (h.ord i k a b hk ha hb).2, own_ok fun hh => (h.time i a ha hh).2.2⟩
theorem inv_check {s : IS} (h : Inv s) : check s.L = (0, -1) :=
  check_none (markF_none _ fun i a _ ha => inv_rows h ha) (readF_none _ fun i a r _ ha hr => h.rd i a r ha hr)
theorem ideal_check (ps : List Stp) : check (idealL ps) = (0, -1) := inv_check (inv_ideal ps _)
end Go.Proofs.Ytiapolcpebilmaa
