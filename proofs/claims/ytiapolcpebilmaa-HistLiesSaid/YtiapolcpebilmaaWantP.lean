/-
  What is seen of a key, step by step. No program in sight; no condition.
-/
import Derived.Test.YtiapolcpebilmaaHistP
import Derived.Test.YtiapolcpebilmaaTurn
import Derived.Lib.Hide
import Derived.Outline
namespace Go.Proofs.Ytiapolcpebilmaa
open Go.RowKit Go.ChangeShapes Go.WideShapes Go.Deep Go.Maps
set_option linter.unusedVariables false

/-- among the first m writes. -/
def innerTo (b : Option V) (t : Txn) (key : ByteArray) (m : Nat) : Option V := if better b t = true then (match (t.wrs.take m).find? (fun v => v.key.toList == key.toList) with | some v => some (updV t v) | none => b) else b
theorem better_self (t : Txn) (v : V) : better (some (updV t v)) t = false := by simp [better, updV, mlt]
theorem inner_zero (b : Option V) (t : Txn) (key : ByteArray) : innerTo b t key 0 = b := by unfold innerTo; split <;> simp
theorem inner_no {b : Option V} {t : Txn} {key : ByteArray} {m : Nat} {v : V} (hv : t.wrs[m]? = some v) (hk : (v.key.toList == key.toList) = false) : innerTo b t key (m + 1) = innerTo b t key m := by
  unfold innerTo
  rw [List.take_add_one, hv, List.find?_append]
  simp [hk]
theorem inner_old {b : Option V} {t : Txn} {key : ByteArray} {m : Nat} {v : V} (hv : t.wrs[m]? = some v) (hb : better (innerTo b t key m) t = false) : innerTo b t key (m + 1) = innerTo b t key m := by
  unfold innerTo at *
  rw [List.take_add_one, hv, List.find?_append]
  cases h : better b t with
  | false => simp
  | true =>
    rw [h] at hb
    simp only [if_true] at hb ⊢
    cases hf : (t.wrs.take m).find? (fun v => v.key.toList == key.toList) with
    | some u => simp
    | none => rw [hf] at hb; simp only at hb; rw [h] at hb; cases hb
theorem inner_new {b : Option V} {t : Txn} {key : ByteArray} {m : Nat} {v : V} (hv : t.wrs[m]? = some v) (hk : (v.key.toList == key.toList) = true) (hb : better (innerTo b t key m) t = true) : innerTo b t key (m + 1) = some (updV t v) := by
  unfold innerTo at *
  rw [List.take_add_one, hv, List.find?_append]
  cases h : better b t with
  | false => rw [h] at hb; simp only [Bool.false_eq_true, if_false] at hb; rw [h] at hb; cases hb
  | true =>
    rw [h] at hb
    simp only [if_true] at hb ⊢
    cases hf : (t.wrs.take m).find? (fun v => v.key.toList == key.toList) with
    | some u => rw [hf] at hb; simp only at hb; rw [better_self] at hb; cases hb
    | none => simp [hk]
theorem inner_all (b : Option V) (t : Txn) (key : ByteArray) : innerTo b t key t.wrs.length = if better b t = true then (match wrOf t key with | some v => some (updV t v) | none => b) else b := by
  unfold innerTo wrOf; rw [List.take_length]
theorem want_no {l : List Txn} {i k : Nat} {key : ByteArray} {t : Txn} (ht : l[k]? = some t) (hs : sees l (i : Int) (k : Int) = false) : wantTo l i key (k + 1) = wantTo l i key k := by
  show (match l[k]? with | some t => wantStep l i key (wantTo l i key k) k t | none => wantTo l i key k) = _
  rw [ht]; simp [wantStep, hs]
theorem want_in {l : List Txn} {i k : Nat} {key : ByteArray} {t : Txn} (ht : l[k]? = some t) (hs : sees l (i : Int) (k : Int) = true) : wantTo l i key (k + 1) = innerTo (wantTo l i key k) t key t.wrs.length := by
  show (match l[k]? with | some t => wantStep l i key (wantTo l i key k) k t | none => wantTo l i key k) = _
  rw [ht, inner_all]; simp [wantStep, hs]; rfl
/-- A struct's cells in a box of one's own. -/
structure BoxV (w : World) (b : Nat) (v : V) : Prop where
  c : w.cell? ⟨b, 0, none⟩ = some (.string v.key) ∧ w.cell? ⟨b, 1, none⟩ = some (.string v.val) ∧ w.cell? ⟨b, 2, none⟩ = some (.bool v.gone) ∧ w.cell? ⟨b, 3, none⟩ = some (.int .u64 v.ts) ∧ w.cell? ⟨b, 4, none⟩ = some (.int .i64 v.dc) ∧ w.cell? ⟨b, 5, none⟩ = some (.int .i64 v.tx)
  f : ∀ j, w.frozen? ⟨b, j, none⟩ = false
  lt : b < w.heap.size
structure BoxT (w : World) (b : Nat) (x : TI) : Prop where
  c : w.cell? ⟨b, 0, none⟩ = some (.int .i64 x.t.cl) ∧ w.cell? ⟨b, 1, none⟩ = some (.int .u64 x.t.sn) ∧ w.cell? ⟨b, 2, none⟩ = some (.int .i64 x.t.st) ∧ w.cell? ⟨b, 3, none⟩ = some (.int .u64 x.t.ts) ∧ w.cell? ⟨b, 4, none⟩ = some (.int .i64 x.t.dc) ∧ w.cell? ⟨b, 5, none⟩ = some (.int .i64 x.t.tx) ∧ w.cell? ⟨b, 6, none⟩ = some (.slice x.R x.t.rds.length x.rc) ∧ w.cell? ⟨b, 7, none⟩ = some (.slice x.D x.t.wrs.length x.dc)
  f : ∀ j, w.frozen? ⟨b, j, none⟩ = false
  lt : b < w.heap.size
theorem BoxV.on {w w' : World} {b : Nat} {v : V} (h : BoxV w b v) (hb : Below w.heap.size w w') : BoxV w' b v := by
  obtain ⟨⟨c0, c1, c2, c3, c4, c5⟩, hf, hl⟩ := h
  exact ⟨⟨cell_on hb c0, cell_on hb c1, cell_on hb c2, cell_on hb c3, cell_on hb c4, cell_on hb c5⟩, fun j => (hb.frozen (p := ⟨b, j, none⟩) hl).trans (hf j), Nat.lt_of_lt_of_le hl hb.size⟩
theorem BoxT.on {w w' : World} {b : Nat} {x : TI} (h : BoxT w b x) (hb : Below w.heap.size w w') : BoxT w' b x := by
  obtain ⟨⟨c0, c1, c2, c3, c4, c5, c6, c7⟩, hf, hl⟩ := h
  exact ⟨⟨cell_on hb c0, cell_on hb c1, cell_on hb c2, cell_on hb c3, cell_on hb c4, cell_on hb c5, cell_on hb c6, cell_on hb c7⟩, fun j => (hb.frozen (p := ⟨b, j, none⟩) hl).trans (hf j), Nat.lt_of_lt_of_le hl hb.size⟩
theorem BoxV.new (w : World) (v : V) (t : TypeId) : BoxV (w.alloc (.cells #[.string v.key, .string v.val, .bool v.gone, .int .u64 v.ts, .int .i64 v.dc, .int .i64 v.tx] t)) w.heap.size v := by
  have h := box_on (own_refl (w.alloc (.cells #[.string v.key, .string v.val, .bool v.gone, .int .u64 v.ts, .int .i64 v.dc, .int .i64 v.tx] t)))
  exact ⟨⟨h.1 0, h.1 1, h.1 2, h.1 3, h.1 4, h.1 5⟩, h.2.1, h.2.2⟩
theorem BoxT.new (w : World) (x : TI) (t : TypeId) : BoxT (w.alloc (.cells #[.int .i64 x.t.cl, .int .u64 x.t.sn, .int .i64 x.t.st, .int .u64 x.t.ts, .int .i64 x.t.dc, .int .i64 x.t.tx, .slice x.R x.t.rds.length x.rc, .slice x.D x.t.wrs.length x.dc] t)) w.heap.size x := by
  have h := box_on (own_refl (w.alloc (.cells #[.int .i64 x.t.cl, .int .u64 x.t.sn, .int .i64 x.t.st, .int .u64 x.t.ts, .int .i64 x.t.dc, .int .i64 x.t.tx, .slice x.R x.t.rds.length x.rc, .slice x.D x.t.wrs.length x.dc] t)))
  exact ⟨⟨h.1 0, h.1 1, h.1 2, h.1 3, h.1 4, h.1 5, h.1 6, h.1 7⟩, h.2.1, h.2.2⟩
theorem BoxV.new2 (w : World) (o : Obj) (v : V) (t : TypeId) : BoxV ((w.alloc o).alloc (.cells #[.string v.key, .string v.val, .bool v.gone, .int .u64 v.ts, .int .i64 v.dc, .int .i64 v.tx] t)) (w.heap.size + 1) v := by
  have h := BoxV.new (w.alloc o) v t
  have e : (w.alloc o).heap.size = w.heap.size + 1 := by simp
  rw [e] at h
  exact h
theorem BoxV.drew {w : World} {b : Nat} {v : V} (h : BoxV w b v) : BoxV w.drew b v := h.on (own_drew (own_refl _))
theorem cell_other {w : World} {b : Nat} {a : Addr} {u u' : Value} {j : Nat} (h : w.cell? ⟨b, j, none⟩ = some u) (hn : ¬ b = a.block) : (w.setCell a u').cell? ⟨b, j, none⟩ = some u := by
  have ht : Turns (one a.block) w (w.setCell a u') := (Turns.refl (one a.block) w).set (a := a) (fun _ => (rfl : a.block = a.block)) _
  exact ht.cell h (fun e => hn e)
theorem BoxV.other {w : World} {b : Nat} {v : V} (h : BoxV w b v) {a : Addr} (hn : ¬ b = a.block) (u : Value) : BoxV (w.setCell a u) b v := by
  obtain ⟨⟨c0, c1, c2, c3, c4, c5⟩, hf, hl⟩ := h
  exact ⟨⟨cell_other c0 hn, cell_other c1 hn, cell_other c2 hn, cell_other c3 hn, cell_other c4 hn, cell_other c5 hn⟩, fun j => by rw [World.frozen?_setCell]; exact hf j, by simpa [World.setCell] using hl⟩
theorem BoxT.other {w : World} {b : Nat} {x : TI} (h : BoxT w b x) {a : Addr} (hn : ¬ b = a.block) (u : Value) : BoxT (w.setCell a u) b x := by
  obtain ⟨⟨c0, c1, c2, c3, c4, c5, c6, c7⟩, hf, hl⟩ := h
  exact ⟨⟨cell_other c0 hn, cell_other c1 hn, cell_other c2 hn, cell_other c3 hn, cell_other c4 hn, cell_other c5 hn, cell_other c6 hn, cell_other c7 hn⟩, fun j => by rw [World.frozen?_setCell]; exact hf j, by simpa [World.setCell] using hl⟩
theorem BoxV.marked {w : World} {b : Nat} {v : V} (h : BoxV w b v) (t : Txn) : BoxV (((w.setCell ⟨b, 3, none⟩ (.int .u64 t.ts)).setCell ⟨b, 4, none⟩ (.int .i64 t.dc)).setCell ⟨b, 5, none⟩ (.int .i64 t.tx)) b (updV t v) := by
  obtain ⟨⟨c0, c1, c2, c3, c4, c5⟩, hf, hl⟩ := h
  have f3 := hf 3
  have f4 := hf 4
  have f5 := hf 5
  refine ⟨⟨?_, ?_, ?_, ?_, ?_, ?_⟩, fun j => by simp only [World.frozen?_setCell]; exact hf j, by simpa [World.setCell] using hl⟩ <;> simp only [updV] <;> go_simp
theorem BoxV.stored {w : World} {b : Nat} {u : V} (h : BoxV w b u) (v : V) : BoxV ((((((w.setCell ⟨b, 0, none⟩ (.string v.key)).setCell ⟨b, 1, none⟩ (.string v.val)).setCell ⟨b, 2, none⟩ (.bool v.gone)).setCell ⟨b, 3, none⟩ (.int .u64 v.ts)).setCell ⟨b, 4, none⟩ (.int .i64 v.dc)).setCell ⟨b, 5, none⟩ (.int .i64 v.tx)) b v := by
  obtain ⟨⟨c0, c1, c2, c3, c4, c5⟩, hf, hl⟩ := h
  have f0 := hf 0
  have f1 := hf 1
  have f2 := hf 2
  have f3 := hf 3
  have f4 := hf 4
  have f5 := hf 5
  refine ⟨⟨?_, ?_, ?_, ?_, ?_, ?_⟩, fun j => by simp only [World.frozen?_setCell]; exact hf j, by simpa [World.setCell] using hl⟩ <;> go_simp
structure TI.ok (w : World) (x : TI) : Prop where
  at' : x.at w
  rfit : x.t.rds.length ≤ 9223372036854775807
  dfit : x.t.wrs.length ≤ 9223372036854775807
theorem TI.ok.on {w w' : World} {x : TI} (h : x.ok w) (hb : Below w.heap.size w w') : x.ok w' := ⟨h.at'.on hb, h.rfit, h.dfit⟩
/-- go on from here with what is known of the world alone. -/
theorem wp_from {P : Program} {c : Code} {Q : Exit → Act → World → Prop} {a : Act} {w : World} (S : World → Prop) (hS : S w) (h : ∀ W, S W → Code.wp P c Q a W) : Code.wp P c Q a w := h w hS
end Go.Proofs.Ytiapolcpebilmaa
