/-
  No cell of these rows narrows 'for every input' (looked for: loops, veiled, ifaces, maps, wideKeys, modest, calm, conditions, laid).
  DERIVED. THE GIVEN ROWS OF THIS SEAT. 6 by the template 'for every input the law returns true; each argument reads behind the call as it read before'; 0 by the template 'total and deterministic' (their statements: YtkmoephpfdglkaaTotals.lean).
  GIVEN WITH THE SEED: the statements are not yours to turn. If you find one false, say at which input.
  Laid BY PROGRAM, IN A SANDBOX (cutbox-rows.mjs): the forced cells as the released guide's own fill.sh prints them over the translation 4e6b9309c5db32f1… (all of the seat's roots in one cut). By AI agents, Wed Nov 11 2026. No macro, syntax, notation, axiom, sorry.
-/
import Derived.Test.YtkmoephpfdglkaaChecked
import GoSem.Claim
import GoSem.ClaimJoined
import GoSem.ClaimMapViews
import Derived.JoinedTies
import Derived.KernelRfl
namespace Go.Proofs.Ytkmoephpfdglkaa
/- THE CELL 'sum', in the pinned program and in every row, IS THE sha256 OF THE DUMP (.gsa) THAT YtkmoephpfdglkaaProg.lean LOADS. Nothing in Lean hashes anything: it is a label: what it is worth is what the hold of that sum in a sandbox is worth. -/
noncomputable def Try.pinned : Pinned := { name := "ytkmoephpfdglkaa", sum := "4e6b9309c5db32f1993d541d538643b5bb9878e611686cfcba4f38229a25518e", checked := Try.checked }
namespace Rows
def none {H : Type} : Left H := { results := [], args := [] }

/-- 'confluencelaw01.HlcPacks': WHATEVER THE INPUT: true; the input reads as it did. -/
def hlcPacksSpec : ChangeSpec := { name := "hlcPacks", fn := fun _ => fun
  | [d1, d2, d3] => { results := [.lit (.bool true)], args := [d1, d2, d3] }
  | _ => none }
def hlcPacksRow : OpenClaim := { program := "ytkmoephpfdglkaa", sum := "4e6b9309c5db32f1993d541d538643b5bb9878e611686cfcba4f38229a25518e", func := "confluence/confluencelaw01.HlcPacks", spec := "hlcPacks", apart := false }
def HlcPacksSaid : Prop := hlcPacksRow.holds Try.pinned (OpenSpec.ofChange hlcPacksSpec)

/-- ITS FALSE NEIGHBOUR: 'it returns false'. Refute it at one input. -/
def hlcPacksWrong : ChangeSpec := { name := "hlcPacks", fn := fun _ => fun
  | [d1, d2, d3] => { results := [.lit (.bool false)], args := [d1, d2, d3] }
  | _ => none }
def HlcPacksWrongFalsely : Prop := hlcPacksRow.holds Try.pinned (OpenSpec.ofChange hlcPacksWrong)

/-- 'confluencelaw01.HlcBounds': WHATEVER THE INPUT: true; the input reads as it did. -/
def hlcBoundsSpec : ChangeSpec := { name := "hlcBounds", fn := fun _ => fun
  | [d1, d2] => { results := [.lit (.bool true)], args := [d1, d2] }
  | _ => none }
def hlcBoundsRow : OpenClaim := { program := "ytkmoephpfdglkaa", sum := "4e6b9309c5db32f1993d541d538643b5bb9878e611686cfcba4f38229a25518e", func := "confluence/confluencelaw01.HlcBounds", spec := "hlcBounds", apart := false }
def HlcBoundsSaid : Prop := hlcBoundsRow.holds Try.pinned (OpenSpec.ofChange hlcBoundsSpec)

/-- ITS FALSE NEIGHBOUR: 'it returns false'. Refute it at one input. -/
def hlcBoundsWrong : ChangeSpec := { name := "hlcBounds", fn := fun _ => fun
  | [d1, d2] => { results := [.lit (.bool false)], args := [d1, d2] }
  | _ => none }
def HlcBoundsWrongFalsely : Prop := hlcBoundsRow.holds Try.pinned (OpenSpec.ofChange hlcBoundsWrong)

/-- 'confluencelaw01.HlcRises': WHATEVER THE INPUT: true; the input reads as it did. -/
def hlcRisesSpec : ChangeSpec := { name := "hlcRises", fn := fun _ => fun
  | [d1, d2] => { results := [.lit (.bool true)], args := [d1, d2] }
  | _ => none }
def hlcRisesRow : OpenClaim := { program := "ytkmoephpfdglkaa", sum := "4e6b9309c5db32f1993d541d538643b5bb9878e611686cfcba4f38229a25518e", func := "confluence/confluencelaw01.HlcRises", spec := "hlcRises", apart := false }
def HlcRisesSaid : Prop := hlcRisesRow.holds Try.pinned (OpenSpec.ofChange hlcRisesSpec)

/-- ITS FALSE NEIGHBOUR: 'it returns false'. Refute it at one input. -/
def hlcRisesWrong : ChangeSpec := { name := "hlcRises", fn := fun _ => fun
  | [d1, d2] => { results := [.lit (.bool false)], args := [d1, d2] }
  | _ => none }
def HlcRisesWrongFalsely : Prop := hlcRisesRow.holds Try.pinned (OpenSpec.ofChange hlcRisesWrong)

/-- 'confluencelaw01.HlcOrders': WHATEVER THE INPUT: true; the input reads as it did. -/
def hlcOrdersSpec : ChangeSpec := { name := "hlcOrders", fn := fun _ => fun
  | [d1, d2, d3] => { results := [.lit (.bool true)], args := [d1, d2, d3] }
  | _ => none }
def hlcOrdersRow : OpenClaim := { program := "ytkmoephpfdglkaa", sum := "4e6b9309c5db32f1993d541d538643b5bb9878e611686cfcba4f38229a25518e", func := "confluence/confluencelaw01.HlcOrders", spec := "hlcOrders", apart := false }
def HlcOrdersSaid : Prop := hlcOrdersRow.holds Try.pinned (OpenSpec.ofChange hlcOrdersSpec)

/-- ITS FALSE NEIGHBOUR: 'it returns false'. Refute it at one input. -/
def hlcOrdersWrong : ChangeSpec := { name := "hlcOrders", fn := fun _ => fun
  | [d1, d2, d3] => { results := [.lit (.bool false)], args := [d1, d2, d3] }
  | _ => none }
def HlcOrdersWrongFalsely : Prop := hlcOrdersRow.holds Try.pinned (OpenSpec.ofChange hlcOrdersWrong)

/-- 'confluencelaw01.HlcSends': WHATEVER THE INPUT: true; the input reads as it did. -/
def hlcSendsSpec : ChangeSpec := { name := "hlcSends", fn := fun _ => fun
  | [d1, d2, d3] => { results := [.lit (.bool true)], args := [d1, d2, d3] }
  | _ => none }
def hlcSendsRow : OpenClaim := { program := "ytkmoephpfdglkaa", sum := "4e6b9309c5db32f1993d541d538643b5bb9878e611686cfcba4f38229a25518e", func := "confluence/confluencelaw01.HlcSends", spec := "hlcSends", apart := false }
def HlcSendsSaid : Prop := hlcSendsRow.holds Try.pinned (OpenSpec.ofChange hlcSendsSpec)

/-- ITS FALSE NEIGHBOUR: 'it returns false'. Refute it at one input. -/
def hlcSendsWrong : ChangeSpec := { name := "hlcSends", fn := fun _ => fun
  | [d1, d2, d3] => { results := [.lit (.bool false)], args := [d1, d2, d3] }
  | _ => none }
def HlcSendsWrongFalsely : Prop := hlcSendsRow.holds Try.pinned (OpenSpec.ofChange hlcSendsWrong)

/-- 'confluencelaw01.HlcLast': WHATEVER THE INPUT: true; the input reads as it did. -/
def hlcLastSpec : ChangeSpec := { name := "hlcLast", fn := fun _ => fun
  | [d] => { results := [.lit (.bool true)], args := [d] }
  | _ => none }
def hlcLastRow : OpenClaim := { program := "ytkmoephpfdglkaa", sum := "4e6b9309c5db32f1993d541d538643b5bb9878e611686cfcba4f38229a25518e", func := "confluence/confluencelaw01.HlcLast", spec := "hlcLast", apart := false }
def HlcLastSaid : Prop := hlcLastRow.holds Try.pinned (OpenSpec.ofChange hlcLastSpec)

/-- ITS FALSE NEIGHBOUR: 'it returns false'. Refute it at one input. -/
def hlcLastWrong : ChangeSpec := { name := "hlcLast", fn := fun _ => fun
  | [d] => { results := [.lit (.bool false)], args := [d] }
  | _ => none }
def HlcLastWrongFalsely : Prop := hlcLastRow.holds Try.pinned (OpenSpec.ofChange hlcLastWrong)

/- THE SECOND FORM. 'bulk': how many values and letters a reading holds, each counted each time it is reached (what is shared counts as often as it is met; a slice's spare places count too). A statement '..UptoSaid' is the law's where the arguments, and the package variables that the reading takes, are together of bulk at most 1048576: NARROWER than '..Said'. Prove '..Said' where nothing that the law and all that it calls make is longer than what came in: it says more and counts as full. Else prove '..UptoSaid'. A law counts once. -/
mutual
def uptoBulk {H : Type} : DataW H → Nat
  | .lit (.string bytes) => bytes.length + 1
  | .lit _ => 1
  | .nil => 1
  | .ptr d => uptoBulk d + 1
  | .slice elems spare => uptoBulkAll elems + uptoBulkAll spare + 1
  | .agg parts => uptoBulkAll parts + 1
  | .iface _ d => uptoBulk d + 1
  | .map entries => uptoBulkEntries entries + 1
  | .held _ => 1
def uptoBulkAll {H : Type} : List (DataW H) → Nat
  | [] => 0
  | d :: r => uptoBulk d + uptoBulkAll r
def uptoBulkEntries {H : Type} : List (Lit × DataW H) → Nat
  | [] => 0
  | x :: r => uptoBulkEntry x + uptoBulkEntries r
def uptoBulkEntry {H : Type} : Lit × DataW H → Nat
  | (.string bytes, d) => bytes.length + uptoBulk d + 1
  | (_, d) => uptoBulk d + 1
 end
def uptoSmall : (H : Type) → List (DataW H) → Bool := fun _ ds => decide (uptoBulkAll ds ≤ 1048576)
def OpenSpec.upto (s : _root_.Go.ChangeSpec) : _root_.Go.OpenSpec := { _root_.Go.OpenSpec.ofChange s with cond := some uptoSmall }

/-- 'confluencelaw01.HlcPacks', WHERE WHAT IT READS IS OF BULK AT MOST 1048576: true; the input reads as it did. -/
def hlcPacksUptoRow : OpenClaim := { program := "ytkmoephpfdglkaa", sum := "4e6b9309c5db32f1993d541d538643b5bb9878e611686cfcba4f38229a25518e", func := "confluence/confluencelaw01.HlcPacks", spec := "hlcPacks", apart := false, narrowed := true }
def HlcPacksUptoSaid : Prop := hlcPacksUptoRow.holds Try.pinned (OpenSpec.upto hlcPacksSpec)

/-- 'confluencelaw01.HlcBounds', WHERE WHAT IT READS IS OF BULK AT MOST 1048576: true; the input reads as it did. -/
def hlcBoundsUptoRow : OpenClaim := { program := "ytkmoephpfdglkaa", sum := "4e6b9309c5db32f1993d541d538643b5bb9878e611686cfcba4f38229a25518e", func := "confluence/confluencelaw01.HlcBounds", spec := "hlcBounds", apart := false, narrowed := true }
def HlcBoundsUptoSaid : Prop := hlcBoundsUptoRow.holds Try.pinned (OpenSpec.upto hlcBoundsSpec)

/-- 'confluencelaw01.HlcRises', WHERE WHAT IT READS IS OF BULK AT MOST 1048576: true; the input reads as it did. -/
def hlcRisesUptoRow : OpenClaim := { program := "ytkmoephpfdglkaa", sum := "4e6b9309c5db32f1993d541d538643b5bb9878e611686cfcba4f38229a25518e", func := "confluence/confluencelaw01.HlcRises", spec := "hlcRises", apart := false, narrowed := true }
def HlcRisesUptoSaid : Prop := hlcRisesUptoRow.holds Try.pinned (OpenSpec.upto hlcRisesSpec)

/-- 'confluencelaw01.HlcOrders', WHERE WHAT IT READS IS OF BULK AT MOST 1048576: true; the input reads as it did. -/
def hlcOrdersUptoRow : OpenClaim := { program := "ytkmoephpfdglkaa", sum := "4e6b9309c5db32f1993d541d538643b5bb9878e611686cfcba4f38229a25518e", func := "confluence/confluencelaw01.HlcOrders", spec := "hlcOrders", apart := false, narrowed := true }
def HlcOrdersUptoSaid : Prop := hlcOrdersUptoRow.holds Try.pinned (OpenSpec.upto hlcOrdersSpec)

/-- 'confluencelaw01.HlcSends', WHERE WHAT IT READS IS OF BULK AT MOST 1048576: true; the input reads as it did. -/
def hlcSendsUptoRow : OpenClaim := { program := "ytkmoephpfdglkaa", sum := "4e6b9309c5db32f1993d541d538643b5bb9878e611686cfcba4f38229a25518e", func := "confluence/confluencelaw01.HlcSends", spec := "hlcSends", apart := false, narrowed := true }
def HlcSendsUptoSaid : Prop := hlcSendsUptoRow.holds Try.pinned (OpenSpec.upto hlcSendsSpec)

/-- 'confluencelaw01.HlcLast', WHERE WHAT IT READS IS OF BULK AT MOST 1048576: true; the input reads as it did. -/
def hlcLastUptoRow : OpenClaim := { program := "ytkmoephpfdglkaa", sum := "4e6b9309c5db32f1993d541d538643b5bb9878e611686cfcba4f38229a25518e", func := "confluence/confluencelaw01.HlcLast", spec := "hlcLast", apart := false, narrowed := true }
def HlcLastUptoSaid : Prop := hlcLastUptoRow.holds Try.pinned (OpenSpec.upto hlcLastSpec)

end Rows
end Go.Proofs.Ytkmoephpfdglkaa
