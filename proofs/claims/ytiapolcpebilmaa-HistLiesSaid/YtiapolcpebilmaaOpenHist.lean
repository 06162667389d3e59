/-
  A history that came in, opened. Conditions: none.
-/
import Derived.Test.YtiapolcpebilmaaOpenVer
import Derived.Test.YtiapolcpebilmaaHistP
namespace Go.Proofs.Ytiapolcpebilmaa
open Go.RowKit Go.ChangeShapes Go.WideShapes Go.Deep Go.Maps
set_option linter.unusedVariables false

theorem inner_structs {H : Type} {enc : TypeId × Value → H} {w : World} {P : Program} {α : Type} {cf : α → List Value} {ok : α → Prop} {C : Nat} (hCl : ∀ x, (cf x).length = C) (hpos : 0 < C) {t e : TypeId} {fuel : Nat} {cs : List Value} {y : DataW H × List MemPlace}
    (ht : P.underlying t = some (.slice e)) (hC : P.cellsOf e = C)
    (dec : ∀ (n : Nat) (cs : List Value) (y : DataW H × List MemPlace), DataW.trod enc P w 0 (fun _ => true) true n e cs = some y → ∃ x : α, cs = cf x ∧ ok x)
    (hf : DataW.trod enc P w 0 (fun _ => true) true fuel t cs = some y) :
    ∃ (A : Option Addr) (n c : Nat) (l : List α), cs = [.slice A n c] ∧ l.length = n ∧ n ≤ c ∧ (A = none → n = 0 ∧ c = 0) ∧ n ≤ 9223372036854775807 ∧ Cells w A (l.flatMap cf) ∧ ∀ x ∈ l, ok x := by
  rcases open_slice ht hf with ⟨rfl, _⟩ | ⟨a, n, c, m, f, D, Pl, rfl, _, hl, hm, hmm, _, hi⟩
  · exact ⟨none, 0, 0, [], rfl, rfl, by omega, fun _ => ⟨rfl, rfl⟩, by omega, Cells.nil _ _, by simp⟩
  · simp only [if_true] at hmm
    unfold maxLen at hm
    obtain ⟨l, hll, hq⟩ := list_of_each (Q := fun i x => ok x ∧ ∀ j, j < C → w.cell? (a.add (i * C + j)) = (cf x)[j]?) n (fun i hin => by
      obtain ⟨cs', hc, ht'⟩ := hi i (by omega)
      obtain ⟨x, rfl, hok⟩ := dec _ _ _ ht'
      rw [hC] at hc
      obtain ⟨_, hcl, hat⟩ := World.cells?_some hc
      exact ⟨x, hok, fun j hj => by rw [← Go.Deep.add_add]; exact hat j hj⟩)
    refine ⟨some a, n, c, l, rfl, hll, hl, (fun e => by cases e), by omega, fun hne => ?_, fun x hx => ?_⟩
    · have hln : 0 < l.length := by
        rcases Nat.eq_zero_or_pos l.length with h0 | h0
        · exact absurd (by rw [List.eq_nil_of_length_eq_zero h0]; rfl) hne
        · exact h0
      obtain ⟨x, hx⟩ : ∃ x, l[0]? = some x := ⟨_, List.getElem?_eq_getElem hln⟩
      obtain ⟨u, hu⟩ : ∃ u, (cf x)[0]? = some u := ⟨_, List.getElem?_eq_getElem (by rw [hCl]; exact hpos)⟩
      have h00 := (hq 0 x hx).2 0 hpos
      rw [hu] at h00
      have hsp := World.cell?_spot h00
      obtain ⟨b, off, spot⟩ := a
      have hs : spot = none := by simpa [Addr.add] using hsp
      subst hs
      refine ⟨b, off, rfl, fun q u hu => ?_⟩
      obtain ⟨k, x, j, h1, h2, rfl, h4⟩ := flat_inv hCl l q u hu
      have := (hq k x h1).2 j h2
      rw [h4] at this
      rcases Nat.eq_zero_or_pos (k * C + j) with h0 | h0
      · rw [h0] at this ⊢; simpa [Addr.add] using this
      · have e1 : (⟨b, off, none⟩ : Addr).add (k * C + j) = ⟨b, off + (k * C + j), none⟩ := by unfold Addr.add; rw [if_neg (by omega)]
        rw [e1] at this
        exact this
    · obtain ⟨k, hk⟩ := List.mem_iff_getElem?.1 hx
      exact (hq k x hk).1
theorem cells_vers : Try.prog.cellsOf 43 = 1 := by kernel_rfl
theorem cells_reads : Try.prog.cellsOf 42 = 1 := by kernel_rfl
theorem cellsRead : Try.prog.cellsOf 57 = 8 := by kernel_rfl
theorem cellsTx : Try.prog.cellsOf 45 = 8 := by kernel_rfl
theorem cellsMark : Try.prog.cellsOf 41 = 3 := by kernel_rfl
def Rd.wf (x : Rd) : Prop := x.v.wf
theorem dec_read {H : Type} {enc : TypeId × Value → H} {w : World} (n : Nat) (cs : List Value) (y : DataW H × List MemPlace) (h : DataW.trod enc Try.prog w 0 (fun _ => true) true n 57 cs = some y) :
    ∃ x : Rd, cs = x.cells ∧ x.wf := by
  obtain ⟨xs, m, _, _, hl, hlen, hf⟩ := DataW.trod_struct Try.underlying57 h
  rw [cellsRead] at hl
  match cs, hl, xs, hlen with
  | [c0, c1, c2, c3, c4, c5, c6, c7], _, [y0, y1, y2], _ =>
    have h0 : DataW.trod enc Try.prog w 0 (fun _ => true) true m 9 (([c0, c1, c2, c3, c4, c5, c6, c7].drop 0).take (Try.prog.cellsOf 9)) = some y0 := hf 0 _ rfl
    rw [cells_string] at h0
    have h1 : DataW.trod enc Try.prog w 0 (fun _ => true) true m 4 (([c0, c1, c2, c3, c4, c5, c6, c7].drop 1).take (Try.prog.cellsOf 4)) = some y1 := hf 1 _ rfl
    rw [cells_bool] at h1
    have h2 : DataW.trod enc Try.prog w 0 (fun _ => true) true m 35 (([c0, c1, c2, c3, c4, c5, c6, c7].drop 2).take (Try.prog.cellsOf 35)) = some y2 := hf 2 _ rfl
    rw [cellsVer] at h2
    clear hf
    obtain ⟨a0, e0, _, _⟩ := DataW.trod_string Try.underlying9 h0
    obtain ⟨a1, e1, _⟩ := DataW.trod_bool Try.underlying4 h1
    obtain ⟨a2, e2, w2⟩ := dec_ver _ _ _ h2
    simp [V.cells] at e0 e1 e2
    obtain ⟨rfl, rfl, rfl, rfl, rfl, rfl⟩ := e2
    subst e0 e1
    exact ⟨⟨a0, a1, a2⟩, rfl, w2⟩
structure Kwf (k : K) : Prop where
  ts : 0 ≤ k.ts ∧ k.ts ≤ 18446744073709551615
  dc : -9223372036854775808 ≤ k.dc ∧ k.dc ≤ 9223372036854775807
  tx : -9223372036854775808 ≤ k.tx ∧ k.tx ≤ 9223372036854775807
theorem dec_mark {H : Type} {enc : TypeId × Value → H} {w : World} (n : Nat) (cs : List Value) (y : DataW H × List MemPlace) (h : DataW.trod enc Try.prog w 0 (fun _ => true) true n 41 cs = some y) :
    ∃ x : K, cs = x.cells ∧ Kwf x := by
  obtain ⟨xs, m, _, _, hl, hlen, hf⟩ := DataW.trod_struct Try.underlying41 h
  rw [cellsMark] at hl
  match cs, hl, xs, hlen with
  | [c0, c1, c2], _, [y0, y1, y2], _ =>
    have h0 : DataW.trod enc Try.prog w 0 (fun _ => true) true m 33 (([c0, c1, c2].drop 0).take (Try.prog.cellsOf 33)) = some y0 := hf 0 _ rfl
    rw [cells_u64] at h0
    have h1 : DataW.trod enc Try.prog w 0 (fun _ => true) true m 3 (([c0, c1, c2].drop 1).take (Try.prog.cellsOf 3)) = some y1 := hf 1 _ rfl
    rw [cells_int] at h1
    have h2 : DataW.trod enc Try.prog w 0 (fun _ => true) true m 3 (([c0, c1, c2].drop 2).take (Try.prog.cellsOf 3)) = some y2 := hf 2 _ rfl
    rw [cells_int] at h2
    clear hf
    obtain ⟨a0, e0, _, w0⟩ := DataW.trod_int Try.underlying33 h0
    obtain ⟨a1, e1, _, w1⟩ := DataW.trod_int Try.underlying3 h1
    obtain ⟨a2, e2, _, w2⟩ := DataW.trod_int Try.underlying3 h2
    simp at e0 e1 e2
    subst e0 e1 e2
    have b0 := bd_u64 w0
    have b1 := bd_i64 w1
    have b2 := bd_i64 w2
    exact ⟨⟨a0, a1, a2⟩, rfl, ⟨⟨b0.1, by show a0 ≤ _; omega⟩, ⟨b1.1, by show a1 ≤ _; omega⟩, ⟨b2.1, by show a2 ≤ _; omega⟩⟩⟩
structure Txn.wf (t : Txn) : Prop where
  sn : 0 ≤ t.sn ∧ t.sn ≤ 18446744073709551615
  ts : 0 ≤ t.ts ∧ t.ts ≤ 18446744073709551615
  ks : Kwf ⟨t.ts, t.dc, t.tx⟩
  cl : -9223372036854775808 ≤ t.cl ∧ t.cl ≤ 9223372036854775807
  wv : ∀ v ∈ t.wrs, v.wf
structure TI.wf (w : World) (x : TI) : Prop where
  at' : x.at w
  t : x.t.wf
  rle : x.t.rds.length ≤ x.rc
  rnn : x.R = none → x.t.rds.length = 0 ∧ x.rc = 0
  rfit : x.t.rds.length ≤ 9223372036854775807
  dle : x.t.wrs.length ≤ x.dc
  dnn : x.D = none → x.t.wrs.length = 0 ∧ x.dc = 0
  dfit : x.t.wrs.length ≤ 9223372036854775807
theorem dec_tx {H : Type} {enc : TypeId × Value → H} {w : World} (n : Nat) (cs : List Value) (y : DataW H × List MemPlace) (h : DataW.trod enc Try.prog w 0 (fun _ => true) true n 45 cs = some y) :
    ∃ x : TI, cs = x.cells ∧ x.wf w := by
  obtain ⟨xs, m, _, _, hl, hlen, hf⟩ := DataW.trod_struct Try.underlying45 h
  rw [cellsTx] at hl
  match cs, hl, xs, hlen with
  | [c0, c1, c2, c3, c4, c5, c6, c7], _, [y0, y1, y2, y3, y4, y5], _ =>
    have h0 : DataW.trod enc Try.prog w 0 (fun _ => true) true m 3 (([c0, c1, c2, c3, c4, c5, c6, c7].drop 0).take (Try.prog.cellsOf 3)) = some y0 := hf 0 _ rfl
    rw [cells_int] at h0
    have h1 : DataW.trod enc Try.prog w 0 (fun _ => true) true m 33 (([c0, c1, c2, c3, c4, c5, c6, c7].drop 1).take (Try.prog.cellsOf 33)) = some y1 := hf 1 _ rfl
    rw [cells_u64] at h1
    have h2 : DataW.trod enc Try.prog w 0 (fun _ => true) true m 3 (([c0, c1, c2, c3, c4, c5, c6, c7].drop 2).take (Try.prog.cellsOf 3)) = some y2 := hf 2 _ rfl
    rw [cells_int] at h2
    have h3 : DataW.trod enc Try.prog w 0 (fun _ => true) true m 41 (([c0, c1, c2, c3, c4, c5, c6, c7].drop 3).take (Try.prog.cellsOf 41)) = some y3 := hf 3 _ rfl
    rw [cellsMark] at h3
    have h4 : DataW.trod enc Try.prog w 0 (fun _ => true) true m 42 (([c0, c1, c2, c3, c4, c5, c6, c7].drop 6).take (Try.prog.cellsOf 42)) = some y4 := hf 4 _ rfl
    rw [cells_reads] at h4
    have h5 : DataW.trod enc Try.prog w 0 (fun _ => true) true m 43 (([c0, c1, c2, c3, c4, c5, c6, c7].drop 7).take (Try.prog.cellsOf 43)) = some y5 := hf 5 _ rfl
    rw [cells_vers] at h5
    clear hf
    obtain ⟨a0, e0, _, w0⟩ := DataW.trod_int Try.underlying3 h0
    obtain ⟨a1, e1, _, w1⟩ := DataW.trod_int Try.underlying33 h1
    obtain ⟨a2, e2, _, w2⟩ := DataW.trod_int Try.underlying3 h2
    obtain ⟨a3, e3, w3⟩ := dec_mark _ _ _ h3
    obtain ⟨A4, n4, k4, l4, e4, hl4, le4, nn4, fit4, hD4, hwf4⟩ := inner_structs (cf := Rd.cells) (ok := Rd.wf) (C := 8) (fun _ => rfl) (by omega) Try.underlying42 cellsRead (fun n cs y => dec_read n cs y) h4
    obtain ⟨A5, n5, k5, l5, e5, hl5, le5, nn5, fit5, hD5, hwf5⟩ := inner_structs (cf := V.cells) (ok := V.wf) (C := 6) (fun _ => rfl) (by omega) Try.underlying43 cellsVer (fun n cs y => dec_ver n cs y) h5
    simp [K.cells] at e0 e1 e2 e3 e4 e5
    obtain ⟨rfl, rfl, rfl⟩ := e3
    subst e0 e1 e2 e4 e5 hl4 hl5
    have b0 := bd_i64 w0
    have b1 := bd_u64 w1
    exact ⟨⟨⟨a0, a1, a2, a3.ts, a3.dc, a3.tx, l4, l5⟩, A4, k4, A5, k5⟩, rfl, ⟨⟨hD4, hD5⟩, ⟨⟨b1.1, by show a1 ≤ _; omega⟩, w3.ts, w3, ⟨b0.1, by show a0 ≤ _; omega⟩, hwf5⟩, le4, nn4, fit4, le5, nn5, fit5⟩⟩
theorem open_hist {H : Type} {enc : TypeId × Value → H} {w : World} {r : Reach} {b0 : Nat} {v : Value} {d : DataW H} {p : List MemPlace}
    (hv : Value.okWide Try.prog w r b0 22 v) (h : DataW.Trod enc Try.prog w 0 (fun _ => true) true 22 v d p) :
    ∃ (A : Option Addr) (n c : Nat) (l : List TI), v = .slice A n c ∧ l.length = n ∧ n ≤ 9223372036854775807 ∧ Cells w A (flatTI l) ∧ ∀ x ∈ l, x.wf w :=
  open_structs (cf := TI.cells) (ok := TI.wf w) (C := 8) (fun _ => rfl) (by omega) Try.underlying22 cellsTx (fun n cs y => dec_tx n cs y) hv h
end Go.Proofs.Ytiapolcpebilmaa
