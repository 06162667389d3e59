/-
  Worlds of which only named blocks may have turned; what lies in other blocks reads as before. Conditions: none.
-/
import Derived.Test.YtiapolcpebilmaaMem
import Derived.Deep.AppendLies
import Derived.Maps.OwnSet
namespace Go.Proofs.Ytiapolcpebilmaa
open Go.RowKit
set_option linter.unusedVariables false

/-- of what was there only the blocks of S may have turned. -/
structure Turns (S : Nat → Prop) (w w' : World) : Prop where
  os : w'.os = w.os
  tape : w'.tape = w.tape
  output : w'.output = w.output
  size : w.heap.size ≤ w'.heap.size
  block : ∀ k, k < w.heap.size → ¬ S k → w'.heap[k]? = w.heap[k]?
def one (b : Nat) : Nat → Prop := fun k => k = b
def two (b c : Nat) : Nat → Prop := fun k => k = b ∨ k = c
def none' : Nat → Prop := fun _ => False
theorem Turns.refl (S : Nat → Prop) (w : World) : Turns S w w := ⟨rfl, rfl, rfl, Nat.le_refl _, fun _ _ _ => rfl⟩
theorem Turns.of_below {S : Nat → Prop} {w w' : World} (h : Below w.heap.size w w') : Turns S w w' := ⟨h.os, h.tape, h.output, h.size, fun k hk _ => h.block k hk⟩
theorem Turns.trans {S : Nat → Prop} {w w1 w2 : World} (h : Turns S w w1) (k : Turns S w1 w2) : Turns S w w2 :=
  ⟨k.os.trans h.os, k.tape.trans h.tape, k.output.trans h.output, Nat.le_trans h.size k.size, fun i hi hs => (k.block i (Nat.lt_of_lt_of_le hi h.size) hs).trans (h.block i hi hs)⟩
theorem Turns.weaken {S S' : Nat → Prop} {w w1 : World} (h : Turns S w w1) (hs : ∀ j, j < w.heap.size → S j → S' j) : Turns S' w w1 :=
  ⟨h.os, h.tape, h.output, h.size, fun i hi hn => h.block i hi fun c => hn (hs i hi c)⟩
theorem Turns.on {S S' : Nat → Prop} {w w1 w2 : World} (h : Turns S w w1) (k : Turns S' w1 w2) (hs : ∀ j, j < w.heap.size → S' j → S j) : Turns S w w2 :=
  ⟨k.os.trans h.os, k.tape.trans h.tape, k.output.trans h.output, Nat.le_trans h.size k.size, fun i hi hn => (k.block i (Nat.lt_of_lt_of_le hi h.size) fun c => hn (hs i hi c)).trans (h.block i hi hn)⟩
theorem Turns.grown {S : Nat → Prop} {w w1 w2 : World} {row : Option Nat} (h : Turns S w w1) (k : w1.grownBy w2 row) (hs : ∀ j, j < w.heap.size → row = some j → S j) : Turns S w w2 :=
  ⟨k.os.trans h.os, k.tape.trans h.tape, k.output.trans h.output, Nat.le_trans h.size k.size, fun i hi hn => (k.block i (Nat.lt_of_lt_of_le hi h.size) fun c => hn (hs i hi c.symm)).trans (h.block i hi hn)⟩
theorem Turns.below' {S : Nat → Prop} {w w1 w2 : World} (h : Turns S w w1) (k : Below w1.heap.size w1 w2) : Turns S w w2 := h.on (Turns.of_below (S := none') k) (fun _ _ hf => hf.elim)
theorem Turns.alloc {S : Nat → Prop} {w w1 : World} (h : Turns S w w1) (o : Obj) : Turns S w (w1.alloc o) := h.below' (own_alloc (own_refl _) o)
theorem Turns.drew {S : Nat → Prop} {w w1 : World} (h : Turns S w w1) : Turns S w w1.drew := ⟨h.os, h.tape, h.output, h.size, h.block⟩
theorem Turns.drewN {S : Nat → Prop} {w w1 : World} (h : Turns S w w1) (n : Nat) : Turns S w (w1.drewN n) := ⟨h.os, h.tape, h.output, h.size, h.block⟩
theorem Turns.set {S : Nat → Prop} {w w1 : World} (h : Turns S w w1) {a : Addr} (ha : a.block < w.heap.size → S a.block) (v : Value) : Turns S w (w1.setCell a v) :=
  ⟨h.os, h.tape, h.output, by simpa [World.setCell] using h.size, fun i hi hn => (Below.heap_setCell w1 a v i (fun e => hn (e ▸ ha (e ▸ hi)))).trans (h.block i hi hn)⟩
theorem Turns.cell {S : Nat → Prop} {w w' : World} (h : Turns S w w') {a : Addr} {v : Value} (hc : w.cell? a = some v) (hn : ¬ S a.block) : w'.cell? a = some v :=
  (World.cell?_of_block (w := w) (h.block a.block (World.block_lt_of_cell? _ _ hc) hn)).trans hc
theorem frozen_lt {w : World} {a : Addr} {v : Value} (hc : w.cell? a = some v) : a.block < w.heap.size := World.block_lt_of_cell? _ _ hc
theorem Turns.frozen {S : Nat → Prop} {w w' : World} (h : Turns S w w') {a : Addr} (hlt : a.block < w.heap.size) (hn : ¬ S a.block) {f : Bool} (hf : w.frozen? a = f) : w'.frozen? a = f :=
  (World.frozen?_of_block (w := w) (h.block a.block hlt hn)).trans hf
theorem Turns.below {S : Nat → Prop} {w0 w w' : World} (h : Turns S w w') (h0 : Below w0.heap.size w0 w) (hs : ∀ j, S j → w0.heap.size ≤ j) : Below w0.heap.size w0 w' :=
  ⟨h.os.trans h0.os, h.tape.trans h0.tape, h.output.trans h0.output, Nat.le_trans h0.size h.size, fun k hk => (h.block k (Nat.lt_of_lt_of_le hk h0.size) fun c => by have := hs k c; omega).trans (h0.block k hk)⟩
theorem Turns.is_below {S : Nat → Prop} {w w' : World} (h : Turns S w w') (hs : ∀ j, S j → w.heap.size ≤ j) : Below w.heap.size w w' := h.below (own_refl w) hs
theorem Turns.row {S : Nat → Prop} {w w' : World} (h : Turns S w w') {base : Nat} {e : TypeId} {size n : Nat} {v : Value} {xs : List Value} (ho : w.ownsRow base e size v n xs) (hn : ∀ g, v.ownBlock = some g → ¬ S g) : w'.ownsRow base e size v n xs := by
  obtain ⟨hl, h1 | ⟨g, cap, cur, hv, hb, hg, r⟩⟩ := ho
  · exact ⟨hl, .inl h1⟩
  · subst hv
    exact ⟨hl, .inr ⟨g, cap, cur, rfl, hb, (h.block g (Array.getElem?_eq_some_iff.1 hg).1 (hn g rfl)).trans hg, r⟩⟩
theorem Turns.map {H : Type} {S : Nat → Prop} {w w' : World} (h : Turns S w w') {P : Program} {k : TypeId} {R : Value → Option (DataW H × List MemPlace)} {b n : Nat} {D : DataW H} (ho : w.ownsMap P k R b n D) (hn : ¬ S b) : w'.ownsMap P k R b n D := by
  have hlt := ho.lt
  obtain ⟨es, clock, hb, r⟩ := ho
  exact ⟨es, clock, (h.block b hlt hn).trans hb, r⟩
theorem Turns.cells {S : Nat → Prop} {w w' : World} (h : Turns S w w') {A : Option Addr} {xs : List Value} (hc : Cells w A xs) (hn : ∀ b, A.map Addr.block = some b → ¬ S b) : Cells w' A xs := fun hx => by
  obtain ⟨b, off, e, hh⟩ := hc hx
  subst e
  exact ⟨b, off, rfl, fun j u hu => h.cell (hh j u hu) (hn b rfl)⟩
/-- what was there before a world w0 lies outside of S. -/
theorem Turns.old {S : Nat → Prop} {w0 w w' : World} (h : Turns S w w') {A : Option Addr} {xs : List Value} (hc : Cells w0 A xs) (h0 : Below w0.heap.size w0 w) (hs : ∀ j, S j → w0.heap.size ≤ j) : Cells w' A xs := hc.on (h.below h0 hs)
end Go.Proofs.Ytiapolcpebilmaa
