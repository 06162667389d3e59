/-
  A box of commits, as plain data and in memory. Conditions: none.
-/
import Derived.Test.YtggbdjdfejcpjaaRec
import Derived.Test.YtggbdjdfejcpjaaMapO
import Derived.KernelRfl
namespace Go.Proofs.Ytggbdjdfejcpjaa
open Go.RowKit Go.Maps
set_option linter.unusedVariables false

/-- a commit in a list: where its versions lie. -/
structure Q where
  r : R
  D : Option Addr
  c : Nat
def Q.cells (q : Q) : List Value := [.int .u64 q.r.ts, .int .i64 q.r.dc, .int .i64 q.r.tx, .slice q.D q.r.vers.length q.c]
theorem Q.clen (q : Q) : q.cells.length = 4 := rfl
def flatQ (L : List Q) : List Value := L.flatMap Q.cells
theorem flatQ_len (L : List Q) : (flatQ L).length = L.length * 4 := flat_length Q.clen L
theorem one_q (q : Q) : ∀ u ∈ q.cells, u.oneCell' = true := by
  intro u hu
  simp only [Q.cells, List.mem_cons, List.mem_nil_iff, or_false] at hu
  rcases hu with rfl | rfl | rfl | rfl <;> rfl
theorem infoRec : (Try.prog.info? 32).map (fun i => (i.zero, i.size, i.bytes)) = some (some (.agg #[.int .u64 0, .int .i64 0, .int .i64 0, .slice none 0 0]), 4, 48) := by kernel_rfl
/-- a block of versions. -/
def VB (w : World) (g : Nat) : Prop := ∃ cs fz, w.heap[g]? = some (.cells cs 58 fz)
/-- the commit's versions read so, and lie in a block of versions. -/
def QAt (w : World) (q : Q) : Prop := Cells w q.D (flatV q.r.vers) ∧ ∀ g, q.D.map Addr.block = some g → VB w g
theorem VB.lt {w : World} {g : Nat} (h : VB w g) : g < w.heap.size := by
  obtain ⟨cs, fz, h⟩ := h
  exact (Array.getElem?_eq_some_iff.1 h).1
theorem VB.turn {S : Nat → Prop} {w w' : World} {g : Nat} (h : VB w g) (ht : Turns S w w') (hn : ¬ S g) : VB w' g := by
  have hlt := h.lt
  obtain ⟨cs, fz, h⟩ := h
  exact ⟨cs, fz, (ht.block g hlt hn).trans h⟩
theorem QAt.turn {S : Nat → Prop} {w w' : World} {q : Q} (h : QAt w q) (ht : Turns S w w') (hn : ∀ g, VB w g → ¬ S g) : QAt w' q :=
  ⟨ht.cells h.1 (fun g hg => hn g (h.2 g hg)), fun g hg => (h.2 g hg).turn ht (hn g (h.2 g hg))⟩
theorem QAt.on {w w' : World} {q : Q} (h : QAt w q) (hb : Below w.heap.size w w') : QAt w' q := h.turn (Turns.of_below (S := none') hb) (fun _ _ => id)
/-- a row of versions that a copy has made. -/
theorem qat_own {w : World} {base n cp : Nat} {D : Option Addr} {r : R} (h : w.ownsRow base 58 6 (.slice D n cp) n (flatV r.vers)) (hn : r.vers.length = n) : QAt w ⟨r, D, cp⟩ := by
  refine ⟨Cells.of_own h, fun g hg => ?_⟩
  obtain ⟨hl, ⟨h1, h2⟩ | ⟨g', cap, cur, hv, hb, hh, _⟩⟩ := h
  · injection h1 with h1
    subst h1
    cases hg
  · injection hv with h1
    subst h1
    have : g' = g := Option.some.inj hg
    subst this
    exact ⟨cur, (0, 0), hh⟩
theorem get_q {w : World} {A : Option Addr} {L : List Q} (h : Cells w A (flatQ L)) {k : Nat} {q : Q} (hk : L[k]? = some q) :
    ∃ b off, A = some ⟨b, off, none⟩ ∧ w.cell? ⟨b, off + k * 4, none⟩ = some (.int .u64 q.r.ts) ∧ w.cell? ⟨b, off + k * 4 + 1, none⟩ = some (.int .i64 q.r.dc) ∧ w.cell? ⟨b, off + k * 4 + 2, none⟩ = some (.int .i64 q.r.tx) ∧ w.cell? ⟨b, off + k * 4 + 3, none⟩ = some (.slice q.D q.r.vers.length q.c) := by
  have h0 := flat_get (cf := Q.cells) (C := 4) Q.clen L k q 0 hk (by omega)
  have h1 := flat_get (cf := Q.cells) (C := 4) Q.clen L k q 1 hk (by omega)
  have h2 := flat_get (cf := Q.cells) (C := 4) Q.clen L k q 2 hk (by omega)
  have h3 := flat_get (cf := Q.cells) (C := 4) Q.clen L k q 3 hk (by omega)
  obtain ⟨b, off, e, hc⟩ := h (fun e => by unfold flatQ at e; rw [e] at h0; simp [Q.cells] at h0)
  refine ⟨b, off, e, ?_, ?_, ?_, ?_⟩
  · exact hc (k * 4) _ (by simpa [Q.cells, flatQ] using h0)
  · rw [Nat.add_assoc]; exact hc (k * 4 + 1) _ (by simpa [Q.cells, flatQ] using h1)
  · rw [Nat.add_assoc]; exact hc (k * 4 + 2) _ (by simpa [Q.cells, flatQ] using h2)
  · rw [Nat.add_assoc]; exact hc (k * 4 + 3) _ (by simpa [Q.cells, flatQ] using h3)

end Go.Proofs.Ytggbdjdfejcpjaa
