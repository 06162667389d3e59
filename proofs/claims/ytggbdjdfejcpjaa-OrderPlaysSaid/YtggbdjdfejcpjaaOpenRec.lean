/-
  A commit that came in, opened. Conditions: none.
-/
import Derived.Test.YtggbdjdfejcpjaaOpenVer
import Derived.Test.YtggbdjdfejcpjaaRec
namespace Go.Proofs.Ytggbdjdfejcpjaa
open Go.RowKit Go.ChangeShapes Go.WideShapes Go.Deep
set_option linter.unusedVariables false

theorem inner_structs {H : Type} {enc : TypeId × Value → H} {w : World} {P : Program} {α : Type} {cf : α → List Value} {ok : α → Prop} {C : Nat} (hCl : ∀ x, (cf x).length = C) (hpos : 0 < C) {t e : TypeId} {fuel : Nat} {cs : List Value} {y : DataW H × List MemPlace}
    (ht : P.underlying t = some (.slice e)) (hC : P.cellsOf e = C)
    (dec : ∀ (n : Nat) (cs : List Value) (y : DataW H × List MemPlace), DataW.trod enc P w 0 (fun _ => true) true n e cs = some y → ∃ x : α, cs = cf x ∧ ok x)
    (hf : DataW.trod enc P w 0 (fun _ => true) true fuel t cs = some y) :
    ∃ (A : Option Addr) (n c : Nat) (l : List α), cs = [.slice A n c] ∧ l.length = n ∧ n ≤ c ∧ (A = none → n = 0 ∧ c = 0) ∧ n ≤ 9223372036854775807 ∧ Cells w A (l.flatMap cf) ∧ ∀ x ∈ l, ok x := by
  rcases open_slice ht hf with ⟨rfl, _⟩ | ⟨a, n, c, m, f, D, Pl, rfl, _, hl, hm, hmm, _, hi⟩
  · exact ⟨none, 0, 0, [], rfl, rfl, by omega, fun _ => ⟨rfl, rfl⟩, by omega, Cells.nil _ _, by simp⟩
  · simp only [if_true] at hmm
    unfold maxLen at hm
    obtain ⟨l, hll, hq⟩ := list_of_each (Q := fun i x => ok x ∧ ∀ j, j < C → w.cell? (a.add (i * C + j)) = (cf x)[j]?) n (fun i hin => by
      obtain ⟨cs', hc, ht'⟩ := hi i (by omega)
      obtain ⟨x, rfl, hok⟩ := dec _ _ _ ht'
      rw [hC] at hc
      obtain ⟨_, hcl, hat⟩ := World.cells?_some hc
      exact ⟨x, hok, fun j hj => by rw [← Go.Deep.add_add]; exact hat j hj⟩)
    refine ⟨some a, n, c, l, rfl, hll, hl, (fun e => by cases e), by omega, fun hne => ?_, fun x hx => ?_⟩
    · have hln : 0 < l.length := by
        rcases Nat.eq_zero_or_pos l.length with h0 | h0
        · exact absurd (by rw [List.eq_nil_of_length_eq_zero h0]; rfl) hne
        · exact h0
      obtain ⟨x, hx⟩ : ∃ x, l[0]? = some x := ⟨_, List.getElem?_eq_getElem hln⟩
      obtain ⟨u, hu⟩ : ∃ u, (cf x)[0]? = some u := ⟨_, List.getElem?_eq_getElem (by rw [hCl]; exact hpos)⟩
      have h00 := (hq 0 x hx).2 0 hpos
      rw [hu] at h00
      have hsp := World.cell?_spot h00
      obtain ⟨b, off, spot⟩ := a
      have hs : spot = none := by simpa [Addr.add] using hsp
      subst hs
      refine ⟨b, off, rfl, fun q u hu => ?_⟩
      obtain ⟨k, x, j, h1, h2, rfl, h4⟩ := flat_inv hCl l q u hu
      have := (hq k x h1).2 j h2
      rw [h4] at this
      rcases Nat.eq_zero_or_pos (k * C + j) with h0 | h0
      · rw [h0] at this ⊢; simpa [Addr.add] using this
      · have e1 : (⟨b, off, none⟩ : Addr).add (k * C + j) = ⟨b, off + (k * C + j), none⟩ := by unfold Addr.add; rw [if_neg (by omega)]
        rw [e1] at this
        exact this
    · obtain ⟨k, hk⟩ := List.mem_iff_getElem?.1 hx
      exact (hq k x hk).1
/-- a commit that came in: its data, and where its versions lie. -/
structure RI where
  r : R
  D : Option Addr
  c : Nat
def RI.cells (q : RI) : List Value := [.int .u64 q.r.ts, .int .i64 q.r.dc, .int .i64 q.r.tx, .slice q.D q.r.vers.length q.c]
structure RI.at (w : World) (q : RI) : Prop where
  le : q.r.vers.length ≤ q.c
  nn : q.D = none → q.r.vers.length = 0 ∧ q.c = 0
  fit : q.r.vers.length ≤ 9223372036854775807
  D : Cells w q.D (flatV q.r.vers)
  wf : ∀ x ∈ q.r.vers, x.wf
  ts : 0 ≤ q.r.ts ∧ q.r.ts ≤ 18446744073709551615
  dc : -9223372036854775808 ≤ q.r.dc ∧ q.r.dc ≤ 9223372036854775807
  tx : -9223372036854775808 ≤ q.r.tx ∧ q.r.tx ≤ 9223372036854775807
theorem cellsRec : Try.prog.cellsOf 32 = 4 := by kernel_rfl
theorem cells_vers : Try.prog.cellsOf 30 = 1 := by kernel_rfl
theorem dec_rec {H : Type} {enc : TypeId × Value → H} {w : World} (n : Nat) (cs : List Value) (y : DataW H × List MemPlace) (h : DataW.trod enc Try.prog w 0 (fun _ => true) true n 32 cs = some y) :
    ∃ x : RI, cs = x.cells ∧ x.at w := by
  obtain ⟨xs, m, _, _, hl, hlen, hf⟩ := DataW.trod_struct Try.underlying32 h
  rw [cellsRec] at hl
  match cs, hl, xs, hlen with
  | [c0, c1, c2, c3], _, [y0, y1, y2, y3], _ =>
    have h0 : DataW.trod enc Try.prog w 0 (fun _ => true) true m 27 (([c0, c1, c2, c3].drop 0).take (Try.prog.cellsOf 27)) = some y0 := hf 0 _ rfl
    rw [cells_u64] at h0
    have h1 : DataW.trod enc Try.prog w 0 (fun _ => true) true m 3 (([c0, c1, c2, c3].drop 1).take (Try.prog.cellsOf 3)) = some y1 := hf 1 _ rfl
    rw [cells_int] at h1
    have h2 : DataW.trod enc Try.prog w 0 (fun _ => true) true m 3 (([c0, c1, c2, c3].drop 2).take (Try.prog.cellsOf 3)) = some y2 := hf 2 _ rfl
    rw [cells_int] at h2
    have h3 : DataW.trod enc Try.prog w 0 (fun _ => true) true m 30 (([c0, c1, c2, c3].drop 3).take (Try.prog.cellsOf 30)) = some y3 := hf 3 _ rfl
    rw [cells_vers] at h3
    clear hf
    obtain ⟨a, e0, _, w0⟩ := DataW.trod_int Try.underlying27 h0
    obtain ⟨b, e1, _, w1⟩ := DataW.trod_int Try.underlying3 h1
    obtain ⟨c, e2, _, w2⟩ := DataW.trod_int Try.underlying3 h2
    obtain ⟨A, nn, cp, l, e3, hl, hnc, hnn, hfit, hD, hwf⟩ := inner_structs (cf := V.cells) (ok := V.wf) (C := 6) (fun _ => rfl) (by omega) Try.underlying30 cellsVer (fun n cs y => dec_ver n cs y) h3
    simp at e0 e1 e2 e3
    subst e0 e1 e2 e3 hl
    have b0 := bd_u64 w0
    have b1 := bd_i64 w1
    have b2 := bd_i64 w2
    exact ⟨⟨⟨a, b, c, l⟩, A, cp⟩, rfl, ⟨hnc, hnn, hfit, hD, hwf, ⟨b0.1, by show a ≤ _; omega⟩, ⟨b1.1, by show b ≤ _; omega⟩, ⟨b2.1, by show c ≤ _; omega⟩⟩⟩
theorem open_rec {H : Type} {enc : TypeId × Value → H} {w : World} {r : Reach} {b0 : Nat} {v : Value} {d : DataW H} {p : List MemPlace}
    (hv : Value.okWide Try.prog w r b0 32 v) (h : DataW.Trod enc Try.prog w 0 (fun _ => true) true 32 v d p) :
    ∃ x : RI, v = .agg #[.int .u64 x.r.ts, .int .i64 x.r.dc, .int .i64 x.r.tx, .slice x.D x.r.vers.length x.c] ∧ x.at w := by
  obtain ⟨cs, rfl, _⟩ := okWide_struct Try.underlying32 hv
  obtain ⟨fuel, hf⟩ := h
  obtain ⟨x, hx, hw⟩ := dec_rec _ _ _ hf
  refine ⟨x, ?_, hw⟩
  obtain ⟨l⟩ := cs
  simp only [Value.cells] at hx
  subst hx
  rfl
end Go.Proofs.Ytggbdjdfejcpjaa
