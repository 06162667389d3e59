/-
  The document's answer for the inbox, as plain data and in memory. Conditions: none.
-/
import Derived.Test.YtneglecglkibfaaBoxP
import Derived.Test.YtneglecglkibfaaSettle
import Derived.KernelRfl
namespace Go.Proofs.Ytneglecglkibfaa
open Go.RowKit Go.Maps
set_option linter.unusedVariables false

structure Rf where
  first : Int
  came : List R
  handed : Nat
  done : List Bool
  hearts : List (Int × Int)
  got : Int
structure Rf.ok (x : Rf) : Prop where
  f0 : 0 ≤ x.first
  f1 : x.first ≤ 1152921504606846976
  l1 : x.came.length ≤ 140
  hd : x.handed ≤ x.came.length
  dn : x.done.length = x.came.length
  few : ∀ r ∈ x.came, r.vers.length ≤ 12
  g0 : 0 ≤ x.got
  g1 : x.got ≤ 18446744073709551615
  h1 : x.hearts.length ≤ 140
  hv : ∀ p ∈ x.hearts, (-9223372036854775808 ≤ p.1 ∧ p.1 ≤ 9223372036854775807) ∧ 0 ≤ p.2 ∧ p.2 ≤ 18446744073709551615
/-- a heart of the document's answer: its count and its time. -/
def hcells (p : Int × Int) : List Value := [.int .u64 p.2, .int .i64 p.1]
def flatH (l : List (Int × Int)) : List Value := l.flatMap hcells
theorem flatH_len (l : List (Int × Int)) : (flatH l).length = l.length * 2 := flat_length (cf := hcells) (C := 2) (fun _ => rfl) l
theorem infoHeart : (Try.prog.info? 65).map (fun i => (i.zero, i.size, i.bytes)) = some (some (.agg #[.int .u64 0, .int .i64 0]), 2, 16) := by kernel_rfl
structure RfAt (w : World) (B b : Nat) (vc vd vh : Value) (L : List Q) (x : Rf) : Prop where
  hb : w.heap[b]? = some (.cells #[.int .i64 x.first, vc, .int .i64 x.handed, vd, vh, .int .u64 x.got] 55 (0, 0))
  hc : OwnAt w B 25 4 vc x.came.length (flatQ L)
  hd : OwnAt w B 4 1 vd x.done.length (x.done.map Value.bool)
  hh : OwnAt w B 65 2 vh x.hearts.length (flatH x.hearts)
  lr : L.map Q.r = x.came
  rd : ∀ q ∈ L, QAt w q
/-- rows of different kinds lie in different blocks. -/
theorem own_types {w : World} {B B' : Nat} {e e' : TypeId} {s s' n n' : Nat} {v v' : Value} {xs xs' : List Value} (h : OwnAt w B e s v n xs) (h' : OwnAt w B' e' s' v' n' xs') (hne : e ≠ e') : ∀ g, v.ownBlock = some g → v'.ownBlock ≠ some g := by
  intro g hg hg'
  obtain ⟨cs, fz, h1⟩ := own_heap h hg
  obtain ⟨cs', fz', h2⟩ := own_heap h' hg'
  rw [h1] at h2
  injection h2 with h2
  injection h2 with _ h2
  exact hne h2
theorem own_ne_row {w : World} {B b : Nat} {e e' : TypeId} {s n : Nat} {v : Value} {xs : List Value} {cs : Array Value} {fz : Nat × Nat} (h : OwnAt w B e s v n xs) (hb : w.heap[b]? = some (.cells cs e' fz)) (hne : e ≠ e') : v.ownBlock ≠ some b := by
  intro hg
  obtain ⟨cs', fz', h1⟩ := own_heap h hg
  rw [h1] at hb
  injection hb with hb
  injection hb with _ hb
  exact hne hb
/-- the blocks of the answer's box that its calls may turn. -/
def rfS (b : Nat) (vc vd vh : Value) : Nat → Prop := fun k => k = b ∨ vc.ownBlock = some k ∨ vd.ownBlock = some k ∨ vh.ownBlock = some k
section
variable {w w' : World} {B b : Nat} {vc vd vh : Value} {L : List Q} {x : Rf}
theorem RfAt.cell (h : RfAt w B b vc vd vh L x) (j : Nat) : w.cell? ⟨b, j, none⟩ = #[.int .i64 x.first, vc, .int .i64 x.handed, vd, vh, .int .u64 x.got][j]? := cell_of_row _ _ _ _ _ _ h.hb
theorem RfAt.frozen (h : RfAt w B b vc vd vh L x) (j : Nat) : w.frozen? ⟨b, j, none⟩ = false := by simp [World.frozen?, h.hb]
theorem RfAt.blt (h : RfAt w B b vc vd vh L x) : b < w.heap.size := (Array.getElem?_eq_some_iff.1 h.hb).1
theorem RfAt.nc (h : RfAt w B b vc vd vh L x) : vc.ownBlock ≠ some b := own_ne_row h.hc h.hb (by decide)
theorem RfAt.nd (h : RfAt w B b vc vd vh L x) : vd.ownBlock ≠ some b := own_ne_row h.hd h.hb (by decide)
theorem RfAt.nh (h : RfAt w B b vc vd vh L x) : vh.ownBlock ≠ some b := own_ne_row h.hh h.hb (by decide)
theorem RfAt.ncd (h : RfAt w B b vc vd vh L x) : ∀ g, vc.ownBlock = some g → vd.ownBlock ≠ some g := own_types h.hc h.hd (by decide)
theorem RfAt.nch (h : RfAt w B b vc vd vh L x) : ∀ g, vc.ownBlock = some g → vh.ownBlock ≠ some g := own_types h.hc h.hh (by decide)
theorem RfAt.ndh (h : RfAt w B b vc vd vh L x) : ∀ g, vd.ownBlock = some g → vh.ownBlock ≠ some g := own_types h.hd h.hh (by decide)
theorem RfAt.lt (h : RfAt w B b vc vd vh L x) : ∀ g, rfS b vc vd vh g → g < w.heap.size := by
  rintro g (rfl | e | e | e)
  · exact h.blt
  · exact (h.hc.lt g e).2
  · exact (h.hd.lt g e).2
  · exact (h.hh.lt g e).2
theorem RfAt.noVB (h : RfAt w B b vc vd vh L x) : ∀ g, VB w g → ¬ rfS b vc vd vh g := by
  rintro g ⟨cs, fz, hg⟩ (rfl | e | e | e)
  · rw [h.hb] at hg; simp at hg
  · exact own_ne_row h.hc hg (by decide) e
  · exact own_ne_row h.hd hg (by decide) e
  · exact own_ne_row h.hh hg (by decide) e
theorem RfAt.turn {S : Nat → Prop} (h : RfAt w B b vc vd vh L x) (ht : Turns S w w') (hn : ∀ g, rfS b vc vd vh g → ¬ S g) (hv : ∀ g, VB w g → ¬ S g) : RfAt w' B b vc vd vh L x :=
  ⟨(ht.block b h.blt (hn b (.inl rfl))).trans h.hb, h.hc.turn ht (fun g hg => hn g (.inr (.inl hg))), h.hd.turn ht (fun g hg => hn g (.inr (.inr (.inl hg)))), h.hh.turn ht (fun g hg => hn g (.inr (.inr (.inr hg)))), h.lr, fun q hq => (h.rd q hq).turn ht hv⟩
theorem RfAt.on (h : RfAt w B b vc vd vh L x) (hb : Below w.heap.size w w') : RfAt w' B b vc vd vh L x := h.turn (Turns.of_below (S := none') hb) (fun _ _ => id) (fun _ _ => id)
theorem RfAt.apart {S : Nat → Prop} (h : RfAt w B b vc vd vh L x) (ht : Turns S w w') (hn : ∀ g, rfS b vc vd vh g → ¬ S g) (hq : ∀ q ∈ L, ∀ g, q.D.map Addr.block = some g → ¬ S g) : RfAt w' B b vc vd vh L x :=
  ⟨(ht.block b h.blt (hn b (.inl rfl))).trans h.hb, h.hc.turn ht (fun g hg => hn g (.inr (.inl hg))), h.hd.turn ht (fun g hg => hn g (.inr (.inr (.inl hg)))), h.hh.turn ht (fun g hg => hn g (.inr (.inr (.inr hg)))), h.lr, fun q hq' => ⟨ht.cells (h.rd q hq').1 (hq q hq'), fun g hg => ((h.rd q hq').2 g hg).turn ht (hq q hq' g hg)⟩⟩
/-- a number of the struct is written. -/
theorem RfAt.row {x' : Rf} {j : Nat} {u : Value} (h : RfAt w B b vc vd vh L x) (hr : #[.int .i64 x.first, vc, .int .i64 x.handed, vd, vh, .int .u64 x.got].setIfInBounds j u = #[.int .i64 x'.first, vc, .int .i64 x'.handed, vd, vh, .int .u64 x'.got]) (h1 : x'.came = x.came) (h2 : x'.done = x.done) (h3 : x'.hearts = x.hearts) : RfAt (w.setCell ⟨b, j, none⟩ u) B b vc vd vh L x' := by
  have t : Turns (one b) w (w.setCell ⟨b, j, none⟩ u) := (Turns.refl (one b) w).set (a := ⟨b, j, none⟩) (fun _ => rfl) u
  refine ⟨by rw [heap_setCell_same w b j _ _ u h.hb, hr], ?_, ?_, ?_, by rw [h1]; exact h.lr, fun q hq => (h.rd q hq).turn t (fun g hg e => h.noVB g hg (.inl e))⟩
  · rw [h1]; exact h.hc.turn t (fun g hg e => h.nc (by rw [hg, show g = b from e]))
  · rw [h2]; exact h.hd.turn t (fun g hg e => h.nd (by rw [hg, show g = b from e]))
  · rw [h3]; exact h.hh.turn t (fun g hg e => h.nh (by rw [hg, show g = b from e]))
end
/-- how many places from the front on are done. -/
def lead : List Bool → Nat
  | true :: l => lead l + 1
  | _ => 0
theorem lead_le : ∀ l : List Bool, lead l ≤ l.length
  | [] => Nat.le_refl _
  | true :: l => Nat.succ_le_succ (lead_le l)
  | false :: l => Nat.zero_le _
theorem lead_lt : ∀ (l : List Bool) (j : Nat), j < lead l → l[j]? = some true
  | [], j, h => by cases h
  | true :: l, 0, h => rfl
  | true :: l, j + 1, h => lead_lt l j (Nat.lt_of_succ_lt_succ h)
  | false :: l, j, h => by cases h
theorem lead_end : ∀ l : List Bool, lead l = l.length ∨ l[lead l]? = some false
  | [] => .inl rfl
  | true :: l => (lead_end l).imp (congrArg (· + 1)) id
  | false :: l => .inr rfl
theorem lead_is {l : List Bool} {n : Nat} (h : ∀ j, j < n → l[j]? = some true) (he : l[n]? ≠ some true) : lead l = n := by
  rcases Nat.lt_trichotomy (lead l) n with c | c | c
  · have h1 := h _ c
    rcases lead_end l with e | e
    · rw [e, List.getElem?_eq_none (Nat.le_refl _)] at h1; cases h1
    · rw [e] at h1; cases h1
  · exact c
  · exact absurd (lead_lt l n c) he
end Go.Proofs.Ytneglecglkibfaa
