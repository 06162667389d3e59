/-
  A log of commits, as plain data and in memory. Conditions: none.
-/
import Derived.Test.YtggbdjdfejcpjaaBoxP
import Derived.Test.YtggbdjdfejcpjaaMarks
import Derived.KernelRfl
namespace Go.Proofs.Ytggbdjdfejcpjaa
open Go.RowKit Go.Maps
set_option linter.unusedVariables false

/-- a commit's mark. -/
def R.k (r : R) : K := ⟨r.ts, r.dc, r.tx⟩
structure Lg where
  list : List R
  wait : List R
  bound : Int
structure Lg.ok (x : Lg) : Prop where
  l1 : x.list.length + x.wait.length ≤ 200
  few : ∀ r, r ∈ x.list ∨ r ∈ x.wait → r.vers.length ≤ 12
  b0 : 0 ≤ x.bound
  b1 : x.bound ≤ 18446744073709551615
structure LogAt (w : World) (B b : Nat) (vl vw : Value) (L M : List Q) (x : Lg) : Prop where
  hb : w.heap[b]? = some (.cells #[vl, vw, .int .u64 x.bound] 62 (0, 0))
  hl : OwnAt w B 32 4 vl x.list.length (flatQ L)
  hw : OwnAt w B 32 4 vw x.wait.length (flatQ M)
  lr : L.map Q.r = x.list
  mr : M.map Q.r = x.wait
  rl : ∀ q ∈ L, QAt w q
  rm : ∀ q ∈ M, QAt w q
  nlw : ∀ g, vl.ownBlock = some g → vw.ownBlock ≠ some g
theorem heap_of_own {w : World} {base : Nat} {e : TypeId} {size n : Nat} {v : Value} {xs : List Value} (h : OwnAt w base e size v n xs) {g : Nat} (hg : v.ownBlock = some g) : ∃ cs fz, w.heap[g]? = some (.cells cs e fz) := by
  obtain ⟨hl, ⟨h1, _⟩ | ⟨g', off, cap, cur, hv, hb, hh, _⟩⟩ := h
  · rw [h1] at hg; cases hg
  · rw [hv] at hg
    have : g' = g := Option.some.inj hg
    subst this
    exact ⟨cur, _, hh⟩
theorem own_types {w : World} {B B' : Nat} {e e' : TypeId} {s s' n n' : Nat} {v v' : Value} {xs xs' : List Value} (h : OwnAt w B e s v n xs) (h' : OwnAt w B' e' s' v' n' xs') (hne : e ≠ e') : ∀ g, v.ownBlock = some g → v'.ownBlock ≠ some g := by
  intro g hg hg'
  obtain ⟨cs, fz, h1⟩ := heap_of_own h hg
  obtain ⟨cs', fz', h2⟩ := heap_of_own h' hg'
  rw [h1] at h2
  injection h2 with h2
  injection h2 with _ h2
  exact hne h2
theorem own_ne_row {w : World} {B b : Nat} {e e' : TypeId} {s n : Nat} {v : Value} {xs : List Value} {cs : Array Value} {fz : Nat × Nat} (h : OwnAt w B e s v n xs) (hb : w.heap[b]? = some (.cells cs e' fz)) (hne : e ≠ e') : v.ownBlock ≠ some b := by
  intro hg
  obtain ⟨cs', fz', h1⟩ := heap_of_own h hg
  rw [h1] at hb
  injection hb with hb
  injection hb with _ hb
  exact hne hb
theorem vb_ne_own {w : World} {B : Nat} {s n : Nat} {v : Value} {xs : List Value} (h : OwnAt w B 32 s v n xs) {g : Nat} (hv : VB w g) : v.ownBlock ≠ some g := by
  obtain ⟨cs, fz, hg⟩ := hv
  exact own_ne_row h hg (by decide)
theorem OwnAt.form3 {w : World} {base : Nat} {e : TypeId} {size n cp : Nat} {D : Option Addr} {xs : List Value} (h : OwnAt w base e size (.slice D n cp) n xs) : (D = none ∧ n = 0 ∧ cp = 0) ∨ ∃ g off, D = some ⟨g, off, none⟩ := by
  obtain ⟨hl, ⟨hv, h2⟩ | ⟨g, off, cap, cur, hv, _⟩⟩ := h
  · injection hv with h1 _ h3
    exact .inl ⟨h1, h2, h3⟩
  · injection hv with h1
    exact .inr ⟨g, off, h1⟩
theorem klt_of_neg {a b : K} (h : mcmp a.ts a.dc a.tx b.ts b.dc b.tx < 0) : klt a b = true := by
  cases hc : klt a b with
  | true => rfl
  | false => have := mcmp_pos hc; omega
theorem klt_of_pos {a b : K} (h : 0 < mcmp a.ts a.dc a.tx b.ts b.dc b.tx) : klt a b = false := by
  cases hc : klt a b with
  | false => rfl
  | true => have := mcmp_neg hc; omega
def logS (b : Nat) (vl vw : Value) : Nat → Prop := fun k => k = b ∨ vl.ownBlock = some k ∨ vw.ownBlock = some k
section
variable {w w' : World} {B b : Nat} {vl vw : Value} {L M : List Q} {x : Lg}
theorem LogAt.cell (h : LogAt w B b vl vw L M x) (j : Nat) : w.cell? ⟨b, j, none⟩ = #[vl, vw, .int .u64 x.bound][j]? := cell_of_row _ _ _ _ _ _ h.hb
theorem LogAt.frozen (h : LogAt w B b vl vw L M x) (j : Nat) : w.frozen? ⟨b, j, none⟩ = false := by simp [World.frozen?, h.hb]
theorem LogAt.blt (h : LogAt w B b vl vw L M x) : b < w.heap.size := (Array.getElem?_eq_some_iff.1 h.hb).1
theorem LogAt.nl (h : LogAt w B b vl vw L M x) : vl.ownBlock ≠ some b := own_ne_row h.hl h.hb (by decide)
theorem LogAt.nw (h : LogAt w B b vl vw L M x) : vw.ownBlock ≠ some b := own_ne_row h.hw h.hb (by decide)
theorem LogAt.lt (h : LogAt w B b vl vw L M x) : ∀ g, logS b vl vw g → g < w.heap.size := by
  rintro g (rfl | e | e)
  · exact h.blt
  · exact (h.hl.lt g e).2
  · exact (h.hw.lt g e).2
theorem LogAt.noVB (h : LogAt w B b vl vw L M x) : ∀ g, VB w g → ¬ logS b vl vw g := by
  rintro g hv (rfl | e | e)
  · obtain ⟨cs, fz, hg⟩ := hv
    rw [h.hb] at hg; simp at hg
  · exact vb_ne_own h.hl hv e
  · exact vb_ne_own h.hw hv e
theorem LogAt.turn {S : Nat → Prop} (h : LogAt w B b vl vw L M x) (ht : Turns S w w') (hn : ∀ g, logS b vl vw g → ¬ S g) (hv : ∀ g, VB w g → ¬ S g) : LogAt w' B b vl vw L M x :=
  ⟨(ht.block b h.blt (hn b (.inl rfl))).trans h.hb, h.hl.turn ht (fun g hg => hn g (.inr (.inl hg))), h.hw.turn ht (fun g hg => hn g (.inr (.inr hg))), h.lr, h.mr, fun q hq => (h.rl q hq).turn ht hv, fun q hq => (h.rm q hq).turn ht hv, h.nlw⟩
theorem LogAt.on (h : LogAt w B b vl vw L M x) (hb : Below w.heap.size w w') : LogAt w' B b vl vw L M x := h.turn (Turns.of_below (S := none') hb) (fun _ _ => id) (fun _ _ => id)
theorem LogAt.ll (h : LogAt w B b vl vw L M x) : L.length = x.list.length := by rw [← h.lr, List.length_map]
theorem LogAt.ml (h : LogAt w B b vl vw L M x) : M.length = x.wait.length := by rw [← h.mr, List.length_map]
end
/-- the place where a commit is put in: behind the last one whose mark is less. -/
def atTo (l : List R) (r : R) : Nat → Nat
  | 0 => 0
  | k + 1 => match l[k]? with | some x => if klt x.k r.k = true then k + 1 else atTo l r k | none => atTo l r k
theorem atTo_le (l : List R) (r : R) : ∀ k, atTo l r k ≤ k
  | 0 => Nat.le_refl _
  | k + 1 => by
    unfold atTo
    have := atTo_le l r k
    cases l[k]? with
    | none => exact Nat.le_succ_of_le this
    | some x => show (if klt x.k r.k = true then k + 1 else atTo l r k) ≤ k + 1; split <;> omega
theorem atTo_yes {l : List R} {r x : R} {k : Nat} (h : l[k]? = some x) (hk : klt x.k r.k = true) : atTo l r (k + 1) = k + 1 := by
  rw [atTo, h]; exact if_pos hk
theorem atTo_no {l : List R} {r x : R} {k : Nat} (h : l[k]? = some x) (hk : klt x.k r.k = false) : atTo l r (k + 1) = atTo l r k := by
  rw [atTo, h]; exact if_neg (by rw [hk]; simp)
def ksame (a b : K) : Bool := a.ts == b.ts && (a.dc == b.dc && a.tx == b.tx)
theorem ksame_iff {a b : K} : ksame a b = true ↔ a = b := by
  cases a; cases b
  simp [ksame]
/-- Decide takes the commit in. -/
def putW (l : List R) (r : R) : List R := l.take (atTo l r l.length) ++ [r] ++ l.drop (atTo l r l.length)
theorem at_grown {w0 w w' : World} {v : Value} (h : Below w0.heap.size w0 w) (hg : w.grownBy w' v.ownBlock) (hlow : ∀ g, v.ownBlock = some g → w0.heap.size ≤ g) : Below w0.heap.size w0 w' := h.grown hg h.size hlow
theorem one_fq (l : List Q) : ∀ u ∈ flatQ l, u.oneCell' = true := one_cells one_q
theorem Cells.dropQ {w : World} {b off : Nat} {M : List Q} (h : Cells w (some ⟨b, off, none⟩) (flatQ M)) (p : Nat) : Cells w (some ⟨b, off + p * 4, none⟩) (flatQ (M.drop p)) := by
  intro hne
  have hM : flatQ M ≠ [] := fun e => hne (by
    have h1 := congrArg List.length e
    rw [flatQ_len] at h1
    have h2 : M = [] := List.eq_nil_of_length_eq_zero (by simp at h1; omega)
    rw [h2]; simp [flatQ])
  obtain ⟨b', off', e, hc⟩ := h hM
  simp only [Option.some.injEq, Addr.mk.injEq, and_true] at e
  obtain ⟨rfl, rfl⟩ := e
  refine ⟨b, off + p * 4, rfl, fun j u hu => ?_⟩
  rw [Nat.add_assoc]
  refine hc (p * 4 + j) u ?_
  have h3 : flatQ M = flatQ (M.take p) ++ flatQ (M.drop p) := by unfold flatQ; rw [← List.flatMap_append, List.take_append_drop]
  have hdp : p ≤ M.length := by
    rcases Nat.lt_or_ge M.length p with c | c
    · exact absurd (by rw [List.drop_eq_nil_of_le (by omega)]; rfl) hne
    · exact c
  rw [h3, List.getElem?_append_right (by rw [flatQ_len, List.length_take]; omega), flatQ_len, List.length_take, Nat.min_eq_left hdp, Nat.add_sub_cancel_left]
  exact hu
theorem flatQ_app (a b : List Q) : flatQ (a ++ b) = flatQ a ++ flatQ b := by unfold flatQ; rw [List.flatMap_append]
/-- what Decide leaves where it takes the commit. -/
def DecIs (r : R) (w : World) (B b : Nat) (vl vw : Value) (L M : List Q) (x : Lg) (e : Ending) (w' : World) : Prop := ∃ vw' M', e = .returned (.int .i64 0) ∧ LogAt w' B b vl vw' L M' ⟨x.list, putW x.wait r, x.bound⟩ ∧ Turns (logS b vl vw) w w' ∧ ∀ g, g < w.heap.size → logS b vl vw' g → logS b vl vw g
set_option maxHeartbeats 1000000 in
theorem dec_fin {w w2 w4 w5 : World} {B b : Nat} {vl vw v1 v4 v5 : Value} {L M : List Q} {x : Lg} {q : Q} {n1 n4 n5 p : Nat} {o3 : Obj} {xs1 xs4 : List Value} (h : LogAt w B b vl vw L M x) (hb2 : Below w.heap.size w w2) (hq : QAt w2 q) (hp : p = atTo x.wait q.r x.wait.length)
    (own1 : OwnAt w2 B 32 4 v1 n1 xs1) (low1 : ∀ g, v1.ownBlock = some g → w.heap.size ≤ g) (g4 : (w2.alloc o3).grownBy w4 v1.ownBlock) (own4 : OwnAt w4 B 32 4 v4 n4 xs4) (loc4 : ∀ g, v4.ownBlock = some g → v1.ownBlock = some g ∨ (w2.alloc o3).heap.size ≤ g)
    (g5 : w4.grownBy w5 v4.ownBlock) (own5 : OwnAt w5 B 32 4 v5 n5 (flatQ (M.take p) ++ q.cells ++ flatQ (M.drop p))) (loc5 : ∀ g, v5.ownBlock = some g → v4.ownBlock = some g ∨ w4.heap.size ≤ g) (hn5 : n5 = (putW x.wait q.r).length) :
    DecIs q.r w B b vl vw L M x (.returned (.int .i64 0)) (w5.setCell ⟨b, 1, none⟩ v5) := by
  have hs2 : (w2.alloc o3).heap.size = w2.heap.size + 1 := by simp
  have hw2 := hb2.size
  have low4 : ∀ g, v4.ownBlock = some g → w.heap.size ≤ g := fun g hg => (loc4 g hg).elim (low1 g) (fun e => by omega)
  have hb4 : Below w.heap.size w w4 := at_grown (own_alloc hb2 _) g4 low1
  have hw4 := hb4.size
  have low5 : ∀ g, v5.ownBlock = some g → w.heap.size ≤ g := fun g hg => (loc5 g hg).elim (low4 g) (fun e => by omega)
  have hb5 : Below w.heap.size w w5 := at_grown hb4 g5 low4
  have h5 := h.on hb5
  have h2 := h.on hb2
  have hbl := h.blt
  have t24 : Turns (fun k => v1.ownBlock = some k) w2 w4 := ((Turns.refl _ w2).alloc o3).grown g4 (fun _ _ e => e)
  have t45 : Turns (fun k => v4.ownBlock = some k) w4 w5 := (Turns.refl _ w4).grown g5 (fun _ _ e => e)
  have q4 := hq.turn t24 (fun g hv e => vb_ne_own own1 hv e)
  have q5 := q4.turn t45 (fun g hv e => vb_ne_own own4 hv e)
  have t6 : Turns (one b) w5 (w5.setCell ⟨b, 1, none⟩ v5) := (Turns.refl (one b) w5).set (a := ⟨b, 1, none⟩) (fun _ => rfl) _
  have vb6 : ∀ g, VB w5 g → ¬ one b g := fun g hv e => h5.noVB g hv (.inl e)
  have n5' : v5.ownBlock ≠ some b := fun e => by have := low5 b e; omega
  have hM : ∀ q', q' ∈ M.take p ++ [q] ++ M.drop p → q' ∈ M ∨ q' = q := by
    intro q' hq'
    rw [List.append_assoc] at hq'
    rcases List.mem_append.1 hq' with e | e
    · exact .inl (List.mem_of_mem_take e)
    · rcases List.mem_cons.1 e with e | e
      · exact .inr e
      · exact .inl (List.mem_of_mem_drop e)
  refine ⟨v5, M.take p ++ [q] ++ M.drop p, rfl, ⟨?_, h5.hl.turn t6 (fun g hg e => h5.nl (by rw [hg, show g = b from e])), ?_, h.lr, ?_, fun q' hq' => (h5.rl q' hq').turn t6 vb6, fun q' hq' => ?_, fun g hg e => ?_⟩, ?_, fun g hg e => ?_⟩
  · rw [heap_setCell_same w5 b 1 _ _ v5 h5.hb]; rfl
  · have := own5.turn t6 (fun g hg e => n5' (by rw [hg, show g = b from e]))
    rw [flatQ_app, flatQ_app, show flatQ [q] = q.cells from by simp [flatQ]]
    show OwnAt _ B 32 4 v5 (putW x.wait q.r).length _
    rw [← hn5]
    exact this
  · show (M.take p ++ [q] ++ M.drop p).map Q.r = putW x.wait q.r
    unfold putW
    rw [← hp, List.map_append, List.map_append, List.map_take, List.map_drop, h.mr]
    rfl
  · rcases hM q' hq' with e | rfl
    · exact (h5.rm q' e).turn t6 vb6
    · exact q5.turn t6 vb6
  · have h1 := (h.hl.lt g hg).2
    have h2 := low5 g e
    omega
  · exact (Turns.of_below hb5).on t6 (fun j _ e => .inl e)
  · rcases e with e | e | e
    · exact .inl e
    · exact .inr (.inl e)
    · have := low5 g e; omega
end Go.Proofs.Ytggbdjdfejcpjaa
