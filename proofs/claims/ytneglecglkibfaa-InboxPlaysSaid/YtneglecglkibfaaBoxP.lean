/-
  A box of commits, as plain data and in memory. Conditions: none.
-/
import Derived.Test.YtneglecglkibfaaRec
import Derived.Test.YtneglecglkibfaaMapO
import Derived.KernelRfl
namespace Go.Proofs.Ytneglecglkibfaa
open Go.RowKit Go.Maps
set_option linter.unusedVariables false

/-- a commit in a list: where its versions lie. -/
structure Q where
  r : R
  D : Option Addr
  c : Nat
def Q.cells (q : Q) : List Value := [.int .u64 q.r.ts, .int .i64 q.r.dc, .int .i64 q.r.tx, .slice q.D q.r.vers.length q.c]
theorem Q.clen (q : Q) : q.cells.length = 4 := rfl
def flatQ (L : List Q) : List Value := L.flatMap Q.cells
theorem flatQ_len (L : List Q) : (flatQ L).length = L.length * 4 := flat_length Q.clen L
theorem one_q (q : Q) : ∀ u ∈ q.cells, u.oneCell' = true := by
  intro u hu
  simp only [Q.cells, List.mem_cons, List.mem_nil_iff, or_false] at hu
  rcases hu with rfl | rfl | rfl | rfl <;> rfl
theorem infoRec : (Try.prog.info? 25).map (fun i => (i.zero, i.size, i.bytes)) = some (some (.agg #[.int .u64 0, .int .i64 0, .int .i64 0, .slice none 0 0]), 4, 48) := by kernel_rfl
/-- a block of versions. -/
def VB (w : World) (g : Nat) : Prop := ∃ cs fz, w.heap[g]? = some (.cells cs 32 fz)
/-- the commit's versions read so, and lie in a block of versions. -/
def QAt (w : World) (q : Q) : Prop := Cells w q.D (flatV q.r.vers) ∧ ∀ g, q.D.map Addr.block = some g → VB w g
theorem VB.lt {w : World} {g : Nat} (h : VB w g) : g < w.heap.size := by
  obtain ⟨cs, fz, h⟩ := h
  exact (Array.getElem?_eq_some_iff.1 h).1
theorem VB.turn {S : Nat → Prop} {w w' : World} {g : Nat} (h : VB w g) (ht : Turns S w w') (hn : ¬ S g) : VB w' g := by
  have hlt := h.lt
  obtain ⟨cs, fz, h⟩ := h
  exact ⟨cs, fz, (ht.block g hlt hn).trans h⟩
theorem QAt.turn {S : Nat → Prop} {w w' : World} {q : Q} (h : QAt w q) (ht : Turns S w w') (hn : ∀ g, VB w g → ¬ S g) : QAt w' q :=
  ⟨ht.cells h.1 (fun g hg => hn g (h.2 g hg)), fun g hg => (h.2 g hg).turn ht (hn g (h.2 g hg))⟩
theorem QAt.on {w w' : World} {q : Q} (h : QAt w q) (hb : Below w.heap.size w w') : QAt w' q := h.turn (Turns.of_below (S := none') hb) (fun _ _ => id)
/-- a row of versions that a copy has made. -/
theorem qat_own {w : World} {base n cp : Nat} {D : Option Addr} {r : R} (h : w.ownsRow base 32 6 (.slice D n cp) n (flatV r.vers)) (hn : r.vers.length = n) : QAt w ⟨r, D, cp⟩ := by
  refine ⟨Cells.of_own h, fun g hg => ?_⟩
  obtain ⟨hl, ⟨h1, h2⟩ | ⟨g', cap, cur, hv, hb, hh, _⟩⟩ := h
  · injection h1 with h1
    subst h1
    cases hg
  · injection hv with h1
    subst h1
    have : g' = g := Option.some.inj hg
    subst this
    exact ⟨cur, (0, 0), hh⟩
theorem get_q {w : World} {A : Option Addr} {L : List Q} (h : Cells w A (flatQ L)) {k : Nat} {q : Q} (hk : L[k]? = some q) :
    ∃ b off, A = some ⟨b, off, none⟩ ∧ w.cell? ⟨b, off + k * 4, none⟩ = some (.int .u64 q.r.ts) ∧ w.cell? ⟨b, off + k * 4 + 1, none⟩ = some (.int .i64 q.r.dc) ∧ w.cell? ⟨b, off + k * 4 + 2, none⟩ = some (.int .i64 q.r.tx) ∧ w.cell? ⟨b, off + k * 4 + 3, none⟩ = some (.slice q.D q.r.vers.length q.c) := by
  have h0 := flat_get (cf := Q.cells) (C := 4) Q.clen L k q 0 hk (by omega)
  have h1 := flat_get (cf := Q.cells) (C := 4) Q.clen L k q 1 hk (by omega)
  have h2 := flat_get (cf := Q.cells) (C := 4) Q.clen L k q 2 hk (by omega)
  have h3 := flat_get (cf := Q.cells) (C := 4) Q.clen L k q 3 hk (by omega)
  obtain ⟨b, off, e, hc⟩ := h (fun e => by unfold flatQ at e; rw [e] at h0; simp [Q.cells] at h0)
  refine ⟨b, off, e, ?_, ?_, ?_, ?_⟩
  · exact hc (k * 4) _ (by simpa [Q.cells, flatQ] using h0)
  · rw [Nat.add_assoc]; exact hc (k * 4 + 1) _ (by simpa [Q.cells, flatQ] using h1)
  · rw [Nat.add_assoc]; exact hc (k * 4 + 2) _ (by simpa [Q.cells, flatQ] using h2)
  · rw [Nat.add_assoc]; exact hc (k * 4 + 3) _ (by simpa [Q.cells, flatQ] using h3)

structure Bx where
  base : Int
  list : List R
  handed : Nat
  done : List Bool
  hearts : List (Int × Int)
  got : Int
structure Bx.ok (x : Bx) : Prop where
  b0 : 0 ≤ x.base
  b1 : x.base ≤ 1152921504606851072
  l1 : x.list.length ≤ 200
  hd : x.handed ≤ x.list.length
  dn : x.done.length = x.list.length
  few : ∀ r ∈ x.list, r.vers.length ≤ 12
  g0 : 0 ≤ x.got
  g1 : x.got ≤ 18446744073709551615
  h1 : x.hearts.length ≤ 200
  hv : ∀ p ∈ x.hearts, (-9223372036854775808 ≤ p.1 ∧ p.1 ≤ 9223372036854775807) ∧ 0 ≤ p.2 ∧ p.2 ≤ 18446744073709551615
/-- the box x lies in the struct of block b, the map of block m and two rows. -/
structure BoxAt (w : World) (B b m : Nat) (vl vd : Value) (L : List Q) (x : Bx) : Prop where
  hb : w.heap[b]? = some (.cells #[.int .i64 x.base, vl, .int .i64 x.handed, vd, .map (some m), .int .u64 x.got] 59 (0, 0))
  hl : OwnAt w B 25 4 vl x.list.length (flatQ L)
  hd : OwnAt w B 4 1 vd x.done.length (x.done.map Value.bool)
  hm : Holds Try.prog 3 22 .i64 .u64 w m x.hearts
  lr : L.map Q.r = x.list
  rd : ∀ q ∈ L, QAt w q
  nb : b ≠ m
  nl : vl.ownBlock ≠ some b
  nd : vd.ownBlock ≠ some b
  nld : ∀ g, vl.ownBlock = some g → vd.ownBlock ≠ some g
theorem BoxAt.cell {w : World} {B b m : Nat} {vl vd : Value} {L : List Q} {x : Bx} (h : BoxAt w B b m vl vd L x) (j : Nat) : w.cell? ⟨b, j, none⟩ = #[.int .i64 x.base, vl, .int .i64 x.handed, vd, .map (some m), .int .u64 x.got][j]? := cell_of_row _ _ _ _ _ _ h.hb
theorem BoxAt.frozen {w : World} {B b m : Nat} {vl vd : Value} {L : List Q} {x : Bx} (h : BoxAt w B b m vl vd L x) (j : Nat) : w.frozen? ⟨b, j, none⟩ = false := by simp [World.frozen?, h.hb]
theorem BoxAt.blt {w : World} {B b m : Nat} {vl vd : Value} {L : List Q} {x : Bx} (h : BoxAt w B b m vl vd L x) : b < w.heap.size := (Array.getElem?_eq_some_iff.1 h.hb).1
/-- the blocks of a box that its calls may turn. -/
def boxS (b m : Nat) (vl vd : Value) : Nat → Prop := fun k => k = b ∨ k = m ∨ vl.ownBlock = some k ∨ vd.ownBlock = some k
theorem own_heap {w : World} {base : Nat} {e : TypeId} {size n : Nat} {v : Value} {xs : List Value} (h : OwnAt w base e size v n xs) {g : Nat} (hg : v.ownBlock = some g) : ∃ cs fz, w.heap[g]? = some (.cells cs e fz) := by
  obtain ⟨hl, ⟨h1, _⟩ | ⟨g', off, cap, cur, hv, hb, hh, _⟩⟩ := h
  · rw [h1] at hg; cases hg
  · rw [hv] at hg
    have : g' = g := Option.some.inj hg
    subst this
    exact ⟨cur, _, hh⟩
theorem BoxAt.noVB {w : World} {B b m : Nat} {vl vd : Value} {L : List Q} {x : Bx} (h : BoxAt w B b m vl vd L x) : ∀ g, VB w g → ¬ boxS b m vl vd g := by
  rintro g ⟨cs, fz, hg⟩ (rfl | rfl | e | e)
  · rw [h.hb] at hg; simp at hg
  · obtain ⟨D, ⟨es, cl, hh, _⟩, _⟩ := h.hm
    rw [hh] at hg; cases hg
  · obtain ⟨cs', fz', hh⟩ := own_heap h.hl e
    rw [hh] at hg; simp at hg
  · obtain ⟨cs', fz', hh⟩ := own_heap h.hd e
    rw [hh] at hg; simp at hg
theorem BoxAt.turn {S : Nat → Prop} {w w' : World} {B b m : Nat} {vl vd : Value} {L : List Q} {x : Bx} (h : BoxAt w B b m vl vd L x) (ht : Turns S w w') (hn : ∀ g, boxS b m vl vd g → ¬ S g) (hv : ∀ g, VB w g → ¬ S g) : BoxAt w' B b m vl vd L x :=
  ⟨(ht.block b h.blt (hn b (.inl rfl))).trans h.hb, h.hl.turn ht (fun g hg => hn g (.inr (.inr (.inl hg)))), h.hd.turn ht (fun g hg => hn g (.inr (.inr (.inr hg)))), h.hm.turn ht (hn m (.inr (.inl rfl))), h.lr, fun q hq => (h.rd q hq).turn ht hv, h.nb, h.nl, h.nd, h.nld⟩
theorem BoxAt.on {w w' : World} {B b m : Nat} {vl vd : Value} {L : List Q} {x : Bx} (h : BoxAt w B b m vl vd L x) (hb : Below w.heap.size w w') : BoxAt w' B b m vl vd L x := h.turn (Turns.of_below (S := none') hb) (fun _ _ => id) (fun _ _ => id)
theorem BoxAt.noVB' {w : World} {B b m : Nat} {vl vd : Value} {L : List Q} {x : Bx} (h : BoxAt w B b m vl vd L x) : ¬ (m = b ∨ vl.ownBlock = some m ∨ vd.ownBlock = some m) := by
  obtain ⟨D, ⟨es, cl, hh, _⟩, _⟩ := h.hm
  rintro (e | e | e)
  · exact h.nb e.symm
  · obtain ⟨cs', fz', hh2⟩ := own_heap h.hl e
    rw [hh] at hh2; cases hh2
  · obtain ⟨cs', fz', hh2⟩ := own_heap h.hd e
    rw [hh] at hh2; cases hh2
/-- all that the box leads to lies below block N. -/
structure Under (N b m : Nat) (vl vd : Value) (L : List Q) : Prop where
  b : b < N
  m : m < N
  l : ∀ g, vl.ownBlock = some g → g < N
  d : ∀ g, vd.ownBlock = some g → g < N
  q : ∀ q ∈ L, ∀ g, q.D.map Addr.block = some g → g < N
theorem BoxAt.under {w : World} {B b m : Nat} {vl vd : Value} {L : List Q} {x : Bx} (h : BoxAt w B b m vl vd L x) : Under w.heap.size b m vl vd L :=
  ⟨h.blt, h.hm.lt, fun g hg => (h.hl.lt g hg).2, fun g hg => (h.hd.lt g hg).2, fun q hq g hg => ((h.rd q hq).2 g hg).lt⟩
theorem BoxAt.far {S : Nat → Prop} {w w' : World} {B b m N : Nat} {vl vd : Value} {L : List Q} {x : Bx} (h : BoxAt w B b m vl vd L x) (u : Under N b m vl vd L) (ht : Turns S w w') (hS : ∀ g, S g → N ≤ g) : BoxAt w' B b m vl vd L x :=
  ⟨(ht.block b h.blt (fun e => by have := hS b e; have := u.b; omega)).trans h.hb, h.hl.turn ht (fun g hg e => by have := hS g e; have := u.l g hg; omega), h.hd.turn ht (fun g hg e => by have := hS g e; have := u.d g hg; omega), h.hm.turn ht (fun e => by have := hS m e; have := u.m; omega), h.lr,
    fun q hq => ⟨ht.cells (h.rd q hq).1 (fun g hg e => by have := hS g e; have := u.q q hq g hg; omega), fun g hg => ((h.rd q hq).2 g hg).turn ht (fun e => by have := hS g e; have := u.q q hq g hg; omega)⟩, h.nb, h.nl, h.nd, h.nld⟩
end Go.Proofs.Ytneglecglkibfaa
