/-
  The answer's log of commits, as plain data and in memory. Conditions: none.
-/
import Derived.Test.YtggbdjdfejcpjaaOrdQ
namespace Go.Proofs.Ytggbdjdfejcpjaa
open Go.RowKit Go.Maps
set_option linter.unusedVariables false

structure RfAt (w : World) (B b : Nat) (vl vw : Value) (L M : List Q) (x : Lg) : Prop where
  hb : w.heap[b]? = some (.cells #[vl, vw, .int .u64 x.bound] 29 (0, 0))
  hl : OwnAt w B 32 4 vl x.list.length (flatQ L)
  hw : OwnAt w B 32 4 vw x.wait.length (flatQ M)
  lr : L.map Q.r = x.list
  mr : M.map Q.r = x.wait
  rl : ∀ q ∈ L, QAt w q
  rm : ∀ q ∈ M, QAt w q
  nlw : ∀ g, vl.ownBlock = some g → vw.ownBlock ≠ some g
section
variable {w w' : World} {B b : Nat} {vl vw : Value} {L M : List Q} {x : Lg}
theorem RfAt.cell (h : RfAt w B b vl vw L M x) (j : Nat) : w.cell? ⟨b, j, none⟩ = #[vl, vw, .int .u64 x.bound][j]? := cell_of_row _ _ _ _ _ _ h.hb
theorem RfAt.frozen (h : RfAt w B b vl vw L M x) (j : Nat) : w.frozen? ⟨b, j, none⟩ = false := by simp [World.frozen?, h.hb]
theorem RfAt.blt (h : RfAt w B b vl vw L M x) : b < w.heap.size := (Array.getElem?_eq_some_iff.1 h.hb).1
theorem RfAt.nl (h : RfAt w B b vl vw L M x) : vl.ownBlock ≠ some b := own_ne_row h.hl h.hb (by decide)
theorem RfAt.nw (h : RfAt w B b vl vw L M x) : vw.ownBlock ≠ some b := own_ne_row h.hw h.hb (by decide)
theorem RfAt.lt (h : RfAt w B b vl vw L M x) : ∀ g, logS b vl vw g → g < w.heap.size := by
  rintro g (rfl | e | e)
  · exact h.blt
  · exact (h.hl.lt g e).2
  · exact (h.hw.lt g e).2
theorem RfAt.noVB (h : RfAt w B b vl vw L M x) : ∀ g, VB w g → ¬ logS b vl vw g := by
  rintro g hv (rfl | e | e)
  · obtain ⟨cs, fz, hg⟩ := hv
    rw [h.hb] at hg; simp at hg
  · exact vb_ne_own h.hl hv e
  · exact vb_ne_own h.hw hv e
theorem RfAt.turn {S : Nat → Prop} (h : RfAt w B b vl vw L M x) (ht : Turns S w w') (hn : ∀ g, logS b vl vw g → ¬ S g) (hv : ∀ g, VB w g → ¬ S g) : RfAt w' B b vl vw L M x :=
  ⟨(ht.block b h.blt (hn b (.inl rfl))).trans h.hb, h.hl.turn ht (fun g hg => hn g (.inr (.inl hg))), h.hw.turn ht (fun g hg => hn g (.inr (.inr hg))), h.lr, h.mr, fun q hq => (h.rl q hq).turn ht hv, fun q hq => (h.rm q hq).turn ht hv, h.nlw⟩
theorem RfAt.on (h : RfAt w B b vl vw L M x) (hb : Below w.heap.size w w') : RfAt w' B b vl vw L M x := h.turn (Turns.of_below (S := none') hb) (fun _ _ => id) (fun _ _ => id)
theorem RfAt.ll (h : RfAt w B b vl vw L M x) : L.length = x.list.length := by rw [← h.lr, List.length_map]
theorem RfAt.ml (h : RfAt w B b vl vw L M x) : M.length = x.wait.length := by rw [← h.mr, List.length_map]
end
/-- the answer's log y keeps what the log x keeps. -/
structure Alike (x y : Lg) : Prop where
  list : y.list = x.list
  wait : y.wait.Perm x.wait
  bound : y.bound = x.bound
theorem Alike.new : Alike lg0 lg0 := ⟨rfl, List.Perm.refl _, rfl⟩
def RDecR (y : Lg) (r : R) (e : Ending) (w' : World) (y' : Lg) : Prop :=
  (r.ts ≤ y.bound ∧ e = .returned (.int .i64 11) ∧ y' = y) ∨ (y.bound < r.ts ∧ (∃ a ∈ y.wait, a.k = r.k) ∧ e = .returned (.int .i64 8) ∧ y' = y) ∨
  (y.bound < r.ts ∧ (∀ a ∈ y.wait, a.k ≠ r.k) ∧ e = .returned (.int .i64 0) ∧ y' = ⟨y.list, y.wait ++ [r], y.bound⟩)
theorem Alike.dec {x y x' y' : Lg} {r : R} {e e' : Ending} {w w' : World} (h : Alike x y) (hx : DecR x r e w x') (hy : RDecR y r e' w' y') : (∃ er : Int, e = .returned (.int .i64 er) ∧ e' = .returned (.int .i64 er)) ∧ Alike x' y' := by
  obtain ⟨h1, h2, h3⟩ := h
  have hm : ∀ a, a ∈ y.wait ↔ a ∈ x.wait := fun a => h2.mem_iff
  rcases hx with ⟨a1, rfl, rfl⟩ | ⟨a1, ⟨a, ha, hk⟩, rfl, rfl⟩ | ⟨a1, hn, rfl, rfl⟩ <;> rcases hy with ⟨b1, rfl, rfl⟩ | ⟨b1, ⟨c, hc, hk'⟩, rfl, rfl⟩ | ⟨b1, hn', rfl, rfl⟩
  · exact ⟨⟨_, rfl, rfl⟩, h1, h2, h3⟩
  · omega
  · omega
  · omega
  · exact ⟨⟨_, rfl, rfl⟩, h1, h2, h3⟩
  · exact absurd hk (hn' a ((hm a).2 ha))
  · omega
  · exact absurd hk' (hn c ((hm c).1 hc))
  · exact ⟨⟨_, rfl, rfl⟩, h1, (h2.append_right [r]).trans (putW_perm x.wait r).symm, h3⟩
/-- what Release's search holds behind k places: nothing, or the place of the least one up to a time. -/
def PickAt (M : List R) (z : Int) (k : Nat) (at' : Int) : Prop := (at' = -1 ∧ ∀ (j : Nat) r, j < k → M[j]? = some r → z < r.ts) ∨ ∃ a : Nat, at' = (a : Int) ∧ a < k ∧ ∃ m, M[a]? = some m ∧ m.ts ≤ z ∧ ∀ (j : Nat) r, j < k → M[j]? = some r → r.ts ≤ z → klt r.k m.k = false
theorem PickAt.start (M : List R) (z : Int) : PickAt M z 0 (-1) := .inl ⟨rfl, fun j r hj => by omega⟩
theorem PickAt.skip {M : List R} {z at' : Int} {k : Nat} {r : R} (h : PickAt M z k at') (hr : M[k]? = some r) (hz : z < r.ts) : PickAt M z (k + 1) at' := by
  rcases h with ⟨rfl, h⟩ | ⟨a, rfl, ha, m, hm, hmz, h⟩
  · refine .inl ⟨rfl, fun j r' hj hj' => ?_⟩
    rcases (by omega : j < k ∨ j = k) with c | rfl
    · exact h j r' c hj'
    · rw [hr] at hj'; cases hj'; exact hz
  · refine .inr ⟨a, rfl, by omega, m, hm, hmz, fun j r' hj hj' hz' => ?_⟩
    rcases (by omega : j < k ∨ j = k) with c | rfl
    · exact h j r' c hj' hz'
    · rw [hr] at hj'; cases hj'; omega
theorem PickAt.first {M : List R} {z : Int} {k : Nat} {r : R} (h : PickAt M z k (-1)) (hr : M[k]? = some r) (hz : r.ts ≤ z) : PickAt M z (k + 1) (k : Int) := by
  rcases h with ⟨_, h⟩ | ⟨a, ha, _⟩
  · refine .inr ⟨k, rfl, by omega, r, hr, hz, fun j r' hj hj' hz' => ?_⟩
    rcases (by omega : j < k ∨ j = k) with c | rfl
    · have := h j r' c hj'; omega
    · rw [hr] at hj'; cases hj'; exact klt_irrefl _
  · omega
theorem PickAt.less {M : List R} {z : Int} {k a : Nat} {r m : R} (h : PickAt M z k (a : Int)) (hm : M[a]? = some m) (hr : M[k]? = some r) (hz : r.ts ≤ z) (hl : klt r.k m.k = true) : PickAt M z (k + 1) (k : Int) := by
  rcases h with ⟨h1, _⟩ | ⟨a', ha, _, m', hm', _, h⟩
  · omega
  · obtain rfl : a = a' := by omega
    rw [hm] at hm'; cases hm'
    refine .inr ⟨k, rfl, by omega, r, hr, hz, fun j r' hj hj' hz' => ?_⟩
    rcases (by omega : j < k ∨ j = k) with c | rfl
    · cases hc : klt r'.k r.k with
      | false => rfl
      | true => have h9 := h j r' c hj' hz'; rw [klt_trans hc hl] at h9; cases h9
    · rw [hr] at hj'; cases hj'; exact klt_irrefl _
theorem PickAt.keep {M : List R} {z : Int} {k a : Nat} {r m : R} (h : PickAt M z k (a : Int)) (hm : M[a]? = some m) (hr : M[k]? = some r) (hl : klt r.k m.k = false) : PickAt M z (k + 1) (a : Int) := by
  rcases h with ⟨h1, _⟩ | ⟨a', ha, h4, m', hm', h5, h⟩
  · omega
  · obtain rfl : a = a' := by omega
    rw [hm] at hm'; cases hm'
    refine .inr ⟨a, rfl, by omega, m, hm, h5, fun j r' hj hj' hz' => ?_⟩
    rcases (by omega : j < k ∨ j = k) with c | rfl
    · exact h j r' c hj' hz'
    · rw [hr] at hj'; cases hj'; exact hl
theorem PickAt.at_lt {M : List R} {z : Int} {k a : Nat} (h : PickAt M z k (a : Int)) : a < k ∧ ∃ m, M[a]? = some m := by
  rcases h with ⟨h1, _⟩ | ⟨a', ha, h4, m', hm', _⟩
  · omega
  · obtain rfl : a = a' := by omega
    exact ⟨h4, m', hm'⟩
theorem PickAt.cases {M : List R} {z at' : Int} {k : Nat} (h : PickAt M z k at') : at' = -1 ∨ ∃ a : Nat, at' = (a : Int) := by
  rcases h with ⟨h1, _⟩ | ⟨a', ha, _⟩
  · exact .inl h1
  · exact .inr ⟨a', ha⟩
/-- nothing was found: all are released that may be. -/
theorem pick_none {M l : List R} {z : Int} {n : Nat} (h : PickAt M z M.length (-1)) (hp : M.Perm (l.drop n)) (hn : n ≤ relN z l) : n = relN z l := by
  rcases Nat.lt_or_ge n (relN z l) with c | c
  · obtain ⟨r, hr, hz⟩ := relN_lt z l n c
    have hm : r ∈ l.drop n := List.mem_of_getElem? (i := 0) (by rw [List.getElem?_drop, Nat.add_zero]; exact hr)
    obtain ⟨j, hj⟩ := List.mem_iff_getElem?.1 (hp.mem_iff.2 hm)
    rcases h with ⟨_, h⟩ | ⟨a, ha, _⟩
    · have := h j r (List.getElem?_eq_some_iff.1 hj).1 hj; omega
    · omega
  · omega
/-- the one that was found is the next. -/
theorem pick_some {M l : List R} {z : Int} {n a : Nat} {m : R} (h : PickAt M z M.length (a : Int)) (hm : M[a]? = some m) (hp : M.Perm (l.drop n)) (hup : l.Pairwise rlt) (hn : n ≤ relN z l) :
    n < relN z l ∧ l.take (n + 1) = l.take n ++ [m] ∧ (M.take a ++ M.drop (a + 1)).Perm (l.drop (n + 1)) := by
  rcases h with ⟨h1, _⟩ | ⟨a', ha, h4, m', hm', h5, h⟩
  · omega
  obtain rfl : a = a' := by omega
  rw [hm] at hm'; cases hm'
  have hml : m ∈ l.drop n := hp.mem_iff.1 (List.mem_of_getElem? hm)
  have hnl : n < l.length := by
    rcases Nat.lt_or_ge n l.length with c | c
    · exact c
    · rw [List.drop_eq_nil_of_le c] at hml; cases hml
  have hd : l.drop n = l[n] :: l.drop (n + 1) := List.drop_eq_getElem_cons hnl
  have hpd : (l.drop n).Pairwise rlt := hup.sublist (List.drop_sublist n l)
  rw [hd] at hpd
  have hc := List.pairwise_cons.1 hpd
  have hmz : m = l[n] ∨ rlt l[n] m := by
    rw [hd] at hml
    rcases List.mem_cons.1 hml with e | e
    · exact .inl e
    · exact .inr (hc.1 m e)
  have hts : l[n].ts ≤ z := by
    rcases hmz with e | e
    · rw [← e]; exact h5
    · unfold rlt klt mlt at e
      simp only [decide_eq_true_eq] at e
      have h6 : (l[n]).k.ts = (l[n]).ts := rfl
      have h7 : m.k.ts = m.ts := rfl
      omega
  have hin : l[n] ∈ M := hp.mem_iff.2 (by rw [hd]; exact List.mem_cons_self)
  obtain ⟨j, hj⟩ := List.mem_iff_getElem?.1 hin
  have hlo := h j _ (List.getElem?_eq_some_iff.1 hj).1 hj hts
  have heq : m = l[n] := hmz.resolve_right (fun e => by unfold rlt at e; rw [e] at hlo; cases hlo)
  refine ⟨?_, ?_, ?_⟩
  · rcases Nat.lt_or_ge n (relN z l) with c | c
    · exact c
    · obtain rfl : n = relN z l := by omega
      rcases relN_end z l with e | ⟨r, hr, hz⟩
      · omega
      · rw [List.getElem?_eq_getElem hnl] at hr
        cases hr
        omega
  · rw [heq, List.take_succ_eq_append_getElem hnl]
  · have ha := (List.getElem?_eq_some_iff.1 hm).1
    have h8 : M.drop a = m :: M.drop (a + 1) := by
      rw [List.drop_eq_getElem_cons ha, (List.getElem?_eq_some_iff.1 hm).2]
    have h9 : M.Perm (m :: (M.take a ++ M.drop (a + 1))) := by
      have : M = M.take a ++ (m :: M.drop (a + 1)) := by rw [← h8, List.take_append_drop]
      exact (List.Perm.of_eq this).trans List.perm_middle
    have h10 : (m :: (M.take a ++ M.drop (a + 1))).Perm (m :: l.drop (n + 1)) := by
      refine h9.symm.trans (hp.trans ?_)
      rw [hd, heq]
    exact h10.cons_inv
def RStepIs (w : World) (B b : Nat) (vl vw : Value) (P : Ending → World → Lg → Prop) (e : Ending) (w' : World) : Prop :=
  ∃ vl' vw' L' M' y', P e w' y' ∧ RfAt w' B b vl' vw' L' M' y' ∧ Turns (logS b vl vw) w w' ∧ ∀ g, g < w.heap.size → logS b vl' vw' g → logS b vl vw g
theorem rkeep {w w' : World} {B b : Nat} {vl vw : Value} {L M : List Q} {y : Lg} {P : Ending → World → Lg → Prop} {e : Ending} (h : RfAt w B b vl vw L M y) (hP : P e w' y) (hb : Below w.heap.size w w') : RStepIs w B b vl vw P e w' := ⟨vl, vw, L, M, y, hP, h.on hb, Turns.of_below hb, fun _ _ e => e⟩
theorem rdec_fin {w w2 w4 : World} {B b : Nat} {vl vw v4 : Value} {L M : List Q} {y : Lg} {q : Q} {o : Obj} {n4 : Nat} (h : RfAt w B b vl vw L M y) (hb2 : Below w.heap.size w w2) (hq : QAt w2 q) (g4 : (w2.alloc o).grownBy w4 vw.ownBlock)
    (own4 : OwnAt w4 B 32 4 v4 n4 (flatQ M ++ q.cells)) (hn4 : n4 = y.wait.length + 1) (loc4 : ∀ g, v4.ownBlock = some g → vw.ownBlock = some g ∨ (w2.alloc o).heap.size ≤ g) :
    RfAt (w4.setCell ⟨b, 1, none⟩ v4) B b vl v4 L (M ++ [q]) ⟨y.list, y.wait ++ [q.r], y.bound⟩ ∧ Turns (logS b vl vw) w (w4.setCell ⟨b, 1, none⟩ v4) ∧ ∀ g, g < w.heap.size → logS b vl v4 g → logS b vl vw g := by
  subst hn4
  have hs2 : (w2.alloc o).heap.size = w2.heap.size + 1 := by simp
  have hw2 := hb2.size
  have h2 := h.on (own_alloc hb2 o)
  have q2 := hq.on (own_alloc (own_refl w2) o)
  have t4 : Turns (fun k => vw.ownBlock = some k) (w2.alloc o) w4 := (Turns.refl _ _).grown g4 (fun _ _ e => e)
  have vb4 : ∀ g, VB (w2.alloc o) g → ¬ vw.ownBlock = some g := fun g hv e => h2.noVB g hv (.inr (.inr e))
  have hb4 : w4.heap[b]? = _ := (t4.block b h2.blt h2.nw).trans h2.hb
  have t6 : Turns (one b) w4 (w4.setCell ⟨b, 1, none⟩ v4) := (Turns.refl (one b) w4).set (a := ⟨b, 1, none⟩) (fun _ => rfl) _
  have vb6 : ∀ g, VB w4 g → ¬ one b g := fun g hv e => by
    obtain ⟨cs, fz, hg⟩ := hv
    rw [show g = b from e, hb4] at hg
    simp at hg
  have n4' : v4.ownBlock ≠ some b := own_ne_row own4 hb4 (by decide)
  have q6 := (q2.turn t4 vb4).turn t6 vb6
  refine ⟨⟨?_, (h2.hl.turn t4 (fun g hg e => h.nlw g hg e)).turn t6 (fun g hg e => h.nl (by rw [hg, show g = b from e])), ?_, h.lr, ?_, fun q' hq' => ((h2.rl q' hq').turn t4 vb4).turn t6 vb6, fun q' hq' => ?_, fun g hg e => ?_⟩, ?_, fun g hg e => ?_⟩
  · rw [heap_setCell_same w4 b 1 _ _ v4 hb4]; rfl
  · have := own4.turn t6 (fun g hg e => n4' (by rw [hg, show g = b from e]))
    rw [flatQ_app, show flatQ [q] = q.cells from by simp [flatQ]]
    show OwnAt _ B 32 4 v4 (y.wait ++ [q.r]).length _
    rw [List.length_append, List.length_singleton]
    exact this
  · show (M ++ [q]).map Q.r = y.wait ++ [q.r]
    rw [List.map_append, h.mr]
    rfl
  · rcases List.mem_append.1 hq' with e | e
    · exact ((h2.rm q' e).turn t4 vb4).turn t6 vb6
    · rw [List.mem_singleton.1 e]; exact q6
  · rcases loc4 g e with e2 | e2
    · exact h.nlw g hg e2
    · have := (h.hl.lt g hg).2; omega
  · exact ((Turns.of_below (own_alloc hb2 o)).on t4 (fun _ _ e => .inr (.inr e))).on t6 (fun _ _ e => .inl e)
  · rcases e with e | e | e
    · exact .inl e
    · exact .inr (.inl e)
    · exact .inr (.inr ((loc4 g e).resolve_right (by omega)))
theorem RfAt.bnd {w : World} {B b : Nat} {vl vw : Value} {L M : List Q} {y : Lg} (h : RfAt w B b vl vw L M y) (z : Int) : RfAt (w.setCell ⟨b, 2, none⟩ (.int .u64 z)) B b vl vw L M ⟨y.list, y.wait, z⟩ := by
  have t : Turns (one b) w (w.setCell ⟨b, 2, none⟩ (.int .u64 z)) := (Turns.refl (one b) w).set (a := ⟨b, 2, none⟩) (fun _ => rfl) _
  exact ⟨by rw [heap_setCell_same w b 2 _ _ _ h.hb]; rfl, h.hl.turn t (fun g hg e => h.nl (by rw [hg, show g = b from e])), h.hw.turn t (fun g hg e => h.nw (by rw [hg, show g = b from e])), h.lr, h.mr, fun q hq => (h.rl q hq).turn t (fun g hv e => h.noVB g hv (.inl e)), fun q hq => (h.rm q hq).turn t (fun g hv e => h.noVB g hv (.inl e)), h.nlw⟩
theorem below_turns' {n₀ : Nat} {w w' : World} (h : Below n₀ w w') : Turns (fun k => n₀ ≤ k) w w' := ⟨h.os, h.tape, h.output, h.size, fun k hk hn => h.block k (by omega)⟩
/-- one commit goes from those that wait to those that are stable. -/
theorem rrel_fin {W W0 w1 w2 w3 w4 : World} {B b a n1 n2 : Nat} {vl vw vl' v2 v3 v4 : Value} {L M : List Q} {y : Lg} {q : Q} {o : Obj} (h : RfAt W B b vl vw L M y) (hb0 : Below W.heap.size W W0) (hq : M[a]? = some q)
    (own1 : OwnAt w1 B 32 4 vl' n1 (flatQ L ++ q.cells)) (hn1 : n1 = y.list.length + 1) (g1 : W0.grownBy w1 vl.ownBlock) (loc1 : ∀ g, vl'.ownBlock = some g → vl.ownBlock = some g ∨ W0.heap.size ≤ g)
    (e2 : w2 = (w1.setCell ⟨b, 0, none⟩ vl').alloc o) (l2 : ∀ g, v2.ownBlock = some g → w1.heap.size ≤ g) (g3 : w2.grownBy w3 v2.ownBlock) (loc3 : ∀ g, v3.ownBlock = some g → v2.ownBlock = some g ∨ w2.heap.size ≤ g)
    (g4 : w3.grownBy w4 v3.ownBlock) (own4 : OwnAt w4 B 32 4 v4 n2 (flatQ (M.take a) ++ flatQ (M.drop (a + 1)))) (hn2 : n2 = (y.wait.take a ++ y.wait.drop (a + 1)).length) (loc4 : ∀ g, v4.ownBlock = some g → v3.ownBlock = some g ∨ w3.heap.size ≤ g) :
    RfAt (w4.setCell ⟨b, 1, none⟩ v4) B b vl' v4 (L ++ [q]) (M.take a ++ M.drop (a + 1)) ⟨y.list ++ [q.r], y.wait.take a ++ y.wait.drop (a + 1), y.bound⟩ ∧ Turns (logS b vl vw) W (w4.setCell ⟨b, 1, none⟩ v4) ∧ ∀ g, g < W.heap.size → logS b vl' v4 g → logS b vl vw g := by
  subst hn1 hn2
  have h0 := h.on hb0
  have z0 := hb0.size
  have t1 : Turns (fun k => vl.ownBlock = some k) W0 w1 := (Turns.refl _ W0).grown g1 (fun _ _ e => e)
  have z1 := t1.size
  have vb1 : ∀ g, VB W0 g → ¬ vl.ownBlock = some g := fun g hv e => h0.noVB g hv (.inr (.inl e))
  have hb1 : w1.heap[b]? = _ := (t1.block b h0.blt h0.nl).trans h0.hb
  have n1' : vl'.ownBlock ≠ some b := own_ne_row own1 hb1 (by decide)
  have t1' : Turns (one b) w1 (w1.setCell ⟨b, 0, none⟩ vl') := (Turns.refl (one b) w1).set (a := ⟨b, 0, none⟩) (fun _ => rfl) _
  have hb1' := heap_setCell_same w1 b 0 _ _ vl' hb1
  have vb1' : ∀ g, VB w1 g → ¬ one b g := fun g hv e => by
    obtain ⟨cs, fz, hg⟩ := hv
    rw [show g = b from e, hb1] at hg
    simp at hg
  have z1' := t1'.size
  have b2 : Below (w1.setCell ⟨b, 0, none⟩ vl').heap.size (w1.setCell ⟨b, 0, none⟩ vl') w2 := e2 ▸ own_alloc (own_refl _) o
  have b3 : Below (w1.setCell ⟨b, 0, none⟩ vl').heap.size (w1.setCell ⟨b, 0, none⟩ vl') w3 := at_grown b2 g3 (fun g hg => by have := l2 g hg; simp; exact this)
  have l3 : ∀ g, v3.ownBlock = some g → w1.heap.size ≤ g := fun g hg => (loc3 g hg).elim (l2 g) (fun e => by have := b2.size; omega)
  have b4 : Below (w1.setCell ⟨b, 0, none⟩ vl').heap.size (w1.setCell ⟨b, 0, none⟩ vl') w4 := at_grown b3 g4 (fun g hg => by have := l3 g hg; simp; exact this)
  have l4 : ∀ g, v4.ownBlock = some g → w1.heap.size ≤ g := fun g hg => (loc4 g hg).elim (l3 g) (fun e => by have := b3.size; omega)
  have hbl1 := (Array.getElem?_eq_some_iff.1 hb1).1
  have hbl1' := (Array.getElem?_eq_some_iff.1 hb1').1
  have hb4 := (b4.block b hbl1').trans hb1'
  have t6 : Turns (one b) w4 (w4.setCell ⟨b, 1, none⟩ v4) := (Turns.refl (one b) w4).set (a := ⟨b, 1, none⟩) (fun _ => rfl) _
  have vb4 : ∀ g, VB w4 g → ¬ one b g := fun g hv e => by
    obtain ⟨cs, fz, hg⟩ := hv
    rw [show g = b from e, hb4] at hg
    simp at hg
  have n4' : v4.ownBlock ≠ some b := fun e => by have := l4 b e; omega
  have qall : ∀ q', QAt W q' → QAt (w4.setCell ⟨b, 1, none⟩ v4) q' := fun q' hq' => ((((hq'.on hb0).turn t1 vb1).turn t1' vb1').on b4).turn t6 vb4
  have hM : ∀ q', q' ∈ M.take a ++ M.drop (a + 1) → q' ∈ M := fun q' hq' => (List.mem_append.1 hq').elim List.mem_of_mem_take List.mem_of_mem_drop
  refine ⟨⟨?_, ?_, ?_, ?_, ?_, fun q' hq' => ?_, fun q' hq' => qall q' (h.rm q' (hM q' hq')), fun g hg e => ?_⟩, ?_, fun g hg e => ?_⟩
  · rw [heap_setCell_same w4 b 1 _ _ v4 hb4]; rfl
  · have h8 := (((own1.turn t1' (fun g hg e => n1' (by rw [hg, show g = b from e]))).on b4).turn t6 (fun g hg e => n1' (by rw [hg, show g = b from e])))
    rw [flatQ_app, show flatQ [q] = q.cells from by simp [flatQ]]
    show OwnAt _ B 32 4 vl' (y.list ++ [q.r]).length _
    rw [List.length_append, List.length_singleton]
    exact h8
  · rw [flatQ_app]
    exact own4.turn t6 (fun g hg e => n4' (by rw [hg, show g = b from e]))
  · show (L ++ [q]).map Q.r = y.list ++ [q.r]
    rw [List.map_append, h.lr]
    rfl
  · show (M.take a ++ M.drop (a + 1)).map Q.r = y.wait.take a ++ y.wait.drop (a + 1)
    rw [List.map_append, List.map_take, List.map_drop, h.mr]
  · rcases List.mem_append.1 hq' with e | e
    · exact qall q' (h.rl q' e)
    · rw [List.mem_singleton.1 e]; exact qall q (h.rm q (List.mem_of_getElem? hq))
  · have h8 := (own1.lt g hg).2
    have h9 := l4 g e
    omega
  · refine ((((Turns.of_below hb0).on t1 (fun _ _ e => .inr (.inl e))).on t1' (fun _ _ e => .inl e)).on (below_turns' b4) (fun j hj e => ?_)).on t6 (fun _ _ e => .inl e)
    exact absurd hj (by omega)
  · rcases e with e | e | e
    · exact .inl e
    · exact .inr (.inl ((loc1 g e).resolve_right (by omega)))
    · have := l4 g e; omega
end Go.Proofs.Ytggbdjdfejcpjaa
