/-
  What is seen at a time, as one contract for both answers. Conditions: the list's cells lie as the hypotheses say.
-/
import Derived.Test.YtpiifgmegdphpaaChainAt2
import Derived.Test.YtpiifgmegdphpaaSortP
namespace Go.Proofs.Ytpiifgmegdphpaa
open Go.RowKit
set_option linter.unusedVariables false


/-- y, b: what At answers. -/
def AtV (l : List V) (s : Int) (y : V) (b : Bool) : Prop := (seen l s l.length = none ∧ y = ⟨⟨#[]⟩, ⟨#[]⟩, false, 0, 0, 0⟩ ∧ b = false) ∨ ∃ a, seen l s l.length = some a ∧ l[a]? = some y ∧ b = true
theorem AtV.exists_ (l : List V) (s : Int) : ∃ y b, AtV l s y b := by
  cases h : seen l s l.length with
  | none => exact ⟨_, _, .inl ⟨h, rfl, rfl⟩⟩
  | some a =>
    obtain ⟨_, y, hy, _⟩ := seen_lt l s _ a h
    exact ⟨y, true, .inr ⟨a, h, hy, rfl⟩⟩
theorem AtV.yes {l : List V} {s : Int} {y : V} (h : AtV l s y true) : Sees l s y := by
  rcases h with ⟨_, _, h⟩ | ⟨a, h, hy, _⟩
  · cases h
  · exact sees_of h hy
theorem AtV.no {l : List V} {s : Int} {y : V} (h : AtV l s y false) : (∀ x ∈ l, s < x.ts) ∧ y = ⟨⟨#[]⟩, ⟨#[]⟩, false, 0, 0, 0⟩ := by
  rcases h with ⟨h, e, _⟩ | ⟨a, _, _, h⟩
  · exact ⟨none_of_seen h, e⟩
  · cases h
theorem AtV.of_sees {l : List V} (hr : Rising l) {s : Int} {y : V} (h : Sees l s y) : AtV l s y true := by
  obtain ⟨a, h1, h2⟩ := seen_of_sees hr h
  exact .inr ⟨a, h1, h2, rfl⟩
theorem AtV.of_none {l : List V} {s : Int} (h : ∀ x ∈ l, s < x.ts) : AtV l s ⟨⟨#[]⟩, ⟨#[]⟩, false, 0, 0, 0⟩ false := .inl ⟨seen_of_none h, rfl, rfl⟩
/-- later there is something too, and it is not below. -/
theorem AtV.later {l : List V} {s t : Int} (hst : s ≤ t) {x y : V} {b : Bool} (h : AtV l s x true) (k : AtV l t y b) : b = true ∧ vlt y x = false ∧ x.ts ≤ s := by
  have hx := h.yes
  cases b
  · have := k.no.1 x hx.1; have := hx.2.1; omega
  · exact ⟨rfl, k.yes.2.2 x hx.1 (by have := hx.2.1; omega), hx.2.1⟩
/-- what is put above a time is not seen then. -/
theorem AtV.put {l : List V} {v : V} {s : Int} (hr : Rising l) (hf : free l v = true) (hv : s < v.ts) {y : V} {b : Bool} (h : AtV l s y b) : AtV (ins l v) s y b := by
  cases b
  · obtain ⟨h1, rfl⟩ := h.no
    refine .of_none fun x hx => ?_
    rcases (mem_ins l v x).1 hx with rfl | hx
    · exact hv
    · exact h1 x hx
  · have hy := h.yes
    refine .of_sees (rising_ins hr hf) ⟨(mem_ins l v y).2 (.inr hy.1), hy.2.1, fun x hx hs => ?_⟩
    rcases (mem_ins l v x).1 hx with rfl | hx
    · omega
    · exact hy.2.2 x hx hs
theorem At_v (A : Option Addr) (n c : Nat) (l : List V) (snap : Int) (w : World) (y : V) (b : Bool) (hn : l.length = n) (hm : n ≤ 9223372036854775807) (hA : Cells w A (flatV l)) (h : AtV l snap y b) :
    Calls Try.prog 12 #[.slice A n c, .int .u64 snap] w fun e w' => e = .returned (.tuple #[.agg #[.string y.key, .string y.val, .bool y.gone, .int .u64 y.ts, .int .i64 y.dc, .int .i64 y.tx], .bool b]) ∧ Below w.heap.size w w' := by
  subst hn
  rcases h with ⟨h, rfl, rfl⟩ | ⟨a, h, hy, rfl⟩
  · exact At_none A _ c l snap w rfl hm hA h
  · exact At_some A _ c l snap w a y rfl hm hA h hy
end Go.Proofs.Ytpiifgmegdphpaa
