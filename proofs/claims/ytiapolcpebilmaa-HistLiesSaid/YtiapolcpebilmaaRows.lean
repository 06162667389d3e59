/-
  No cell of these rows narrows 'for every input' (looked for: loops, veiled, ifaces, maps, wideKeys, modest, calm, conditions, laid).
  DERIVED. THE GIVEN ROWS OF THIS SEAT. 5 by the template 'for every input the law returns true; each argument reads behind the call as it read before'; 0 by the template 'total and deterministic' (their statements: YtiapolcpebilmaaTotals.lean).
  GIVEN WITH THE SEED: the statements are not yours to turn. If you find one false, say at which input.
  Laid BY PROGRAM, IN A SANDBOX (cutbox-rows.mjs): the forced cells as the released guide's own fill.sh prints them over the translation 7babcd9114c07333… (all of the seat's roots in one cut). By AI agents, Wed Nov 11 2026. No macro, syntax, notation, axiom, sorry.
-/
import Derived.Test.YtiapolcpebilmaaChecked
import GoSem.Claim
import GoSem.ClaimJoined
import GoSem.ClaimMapViews
import Derived.JoinedTies
import Derived.KernelRfl
namespace Go.Proofs.Ytiapolcpebilmaa
/- THE CELL 'sum', in the pinned program and in every row, IS THE sha256 OF THE DUMP (.gsa) THAT YtiapolcpebilmaaProg.lean LOADS. Nothing in Lean hashes anything: it is a label: what it is worth is what the hold of that sum in a sandbox is worth. -/
noncomputable def Try.pinned : Pinned := { name := "ytiapolcpebilmaa", sum := "7babcd9114c073333673c9a8409733fd95497bb6e9dc56feeb2c71f4750a223c", checked := Try.checked }
namespace Rows
def none {H : Type} : Left H := { results := [], args := [] }

/-- 'confluencelaw21.HistChecks': WHATEVER THE INPUT: true; the input reads as it did. -/
def histChecksSpec : ChangeSpec := { name := "histChecks", fn := fun _ => fun
  | [d] => { results := [.lit (.bool true)], args := [d] }
  | _ => none }
def histChecksRow : OpenClaim := { program := "ytiapolcpebilmaa", sum := "7babcd9114c073333673c9a8409733fd95497bb6e9dc56feeb2c71f4750a223c", func := "confluence/confluencelaw21.HistChecks", spec := "histChecks", apart := false }
def HistChecksSaid : Prop := histChecksRow.holds Try.pinned (OpenSpec.ofChange histChecksSpec)

/-- ITS FALSE NEIGHBOUR: 'it returns false'. Refute it at one input. -/
def histChecksWrong : ChangeSpec := { name := "histChecks", fn := fun _ => fun
  | [d] => { results := [.lit (.bool false)], args := [d] }
  | _ => none }
def HistChecksWrongFalsely : Prop := histChecksRow.holds Try.pinned (OpenSpec.ofChange histChecksWrong)

/-- 'confluencelaw21.HistSees': WHATEVER THE INPUT: true; the input reads as it did. -/
def histSeesSpec : ChangeSpec := { name := "histSees", fn := fun _ => fun
  | [d1, d2, d3, d4] => { results := [.lit (.bool true)], args := [d1, d2, d3, d4] }
  | _ => none }
def histSeesRow : OpenClaim := { program := "ytiapolcpebilmaa", sum := "7babcd9114c073333673c9a8409733fd95497bb6e9dc56feeb2c71f4750a223c", func := "confluence/confluencelaw21.HistSees", spec := "histSees", apart := false }
def HistSeesSaid : Prop := histSeesRow.holds Try.pinned (OpenSpec.ofChange histSeesSpec)

/-- ITS FALSE NEIGHBOUR: 'it returns false'. Refute it at one input. -/
def histSeesWrong : ChangeSpec := { name := "histSees", fn := fun _ => fun
  | [d1, d2, d3, d4] => { results := [.lit (.bool false)], args := [d1, d2, d3, d4] }
  | _ => none }
def HistSeesWrongFalsely : Prop := histSeesRow.holds Try.pinned (OpenSpec.ofChange histSeesWrong)

/-- 'confluencelaw21.HistOrder': WHATEVER THE INPUT: true; the input reads as it did. -/
def histOrderSpec : ChangeSpec := { name := "histOrder", fn := fun _ => fun
  | [d] => { results := [.lit (.bool true)], args := [d] }
  | _ => none }
def histOrderRow : OpenClaim := { program := "ytiapolcpebilmaa", sum := "7babcd9114c073333673c9a8409733fd95497bb6e9dc56feeb2c71f4750a223c", func := "confluence/confluencelaw21.HistOrder", spec := "histOrder", apart := false }
def HistOrderSaid : Prop := histOrderRow.holds Try.pinned (OpenSpec.ofChange histOrderSpec)

/-- ITS FALSE NEIGHBOUR: 'it returns false'. Refute it at one input. -/
def histOrderWrong : ChangeSpec := { name := "histOrder", fn := fun _ => fun
  | [d] => { results := [.lit (.bool false)], args := [d] }
  | _ => none }
def HistOrderWrongFalsely : Prop := histOrderRow.holds Try.pinned (OpenSpec.ofChange histOrderWrong)

/-- 'confluencelaw21.HistIdeal': WHATEVER THE INPUT: true; the input reads as it did. -/
def histIdealSpec : ChangeSpec := { name := "histIdeal", fn := fun _ => fun
  | [d] => { results := [.lit (.bool true)], args := [d] }
  | _ => none }
def histIdealRow : OpenClaim := { program := "ytiapolcpebilmaa", sum := "7babcd9114c073333673c9a8409733fd95497bb6e9dc56feeb2c71f4750a223c", func := "confluence/confluencelaw21.HistIdeal", spec := "histIdeal", apart := false }
def HistIdealSaid : Prop := histIdealRow.holds Try.pinned (OpenSpec.ofChange histIdealSpec)

/-- ITS FALSE NEIGHBOUR: 'it returns false'. Refute it at one input. -/
def histIdealWrong : ChangeSpec := { name := "histIdeal", fn := fun _ => fun
  | [d] => { results := [.lit (.bool false)], args := [d] }
  | _ => none }
def HistIdealWrongFalsely : Prop := histIdealRow.holds Try.pinned (OpenSpec.ofChange histIdealWrong)

/-- 'confluencelaw21.HistLies': WHATEVER THE INPUT: true; the input reads as it did. -/
def histLiesSpec : ChangeSpec := { name := "histLies", fn := fun _ => fun
  | [d1, d2] => { results := [.lit (.bool true)], args := [d1, d2] }
  | _ => none }
def histLiesRow : OpenClaim := { program := "ytiapolcpebilmaa", sum := "7babcd9114c073333673c9a8409733fd95497bb6e9dc56feeb2c71f4750a223c", func := "confluence/confluencelaw21.HistLies", spec := "histLies", apart := false }
def HistLiesSaid : Prop := histLiesRow.holds Try.pinned (OpenSpec.ofChange histLiesSpec)

/-- ITS FALSE NEIGHBOUR: 'it returns false'. Refute it at one input. -/
def histLiesWrong : ChangeSpec := { name := "histLies", fn := fun _ => fun
  | [d1, d2] => { results := [.lit (.bool false)], args := [d1, d2] }
  | _ => none }
def HistLiesWrongFalsely : Prop := histLiesRow.holds Try.pinned (OpenSpec.ofChange histLiesWrong)

/- THE SECOND FORM. 'bulk': how many values and letters a reading holds, each counted each time it is reached (what is shared counts as often as it is met; a slice's spare places count too). A statement '..UptoSaid' is the law's where the arguments, and the package variables that the reading takes, are together of bulk at most 1048576: NARROWER than '..Said'. Prove '..Said' where nothing that the law and all that it calls make is longer than what came in: it says more and counts as full. Else prove '..UptoSaid'. A law counts once. -/
mutual
def uptoBulk {H : Type} : DataW H → Nat
  | .lit (.string bytes) => bytes.length + 1
  | .lit _ => 1
  | .nil => 1
  | .ptr d => uptoBulk d + 1
  | .slice elems spare => uptoBulkAll elems + uptoBulkAll spare + 1
  | .agg parts => uptoBulkAll parts + 1
  | .iface _ d => uptoBulk d + 1
  | .map entries => uptoBulkEntries entries + 1
  | .held _ => 1
def uptoBulkAll {H : Type} : List (DataW H) → Nat
  | [] => 0
  | d :: r => uptoBulk d + uptoBulkAll r
def uptoBulkEntries {H : Type} : List (Lit × DataW H) → Nat
  | [] => 0
  | x :: r => uptoBulkEntry x + uptoBulkEntries r
def uptoBulkEntry {H : Type} : Lit × DataW H → Nat
  | (.string bytes, d) => bytes.length + uptoBulk d + 1
  | (_, d) => uptoBulk d + 1
 end
def uptoSmall : (H : Type) → List (DataW H) → Bool := fun _ ds => decide (uptoBulkAll ds ≤ 1048576)
def OpenSpec.upto (s : _root_.Go.ChangeSpec) : _root_.Go.OpenSpec := { _root_.Go.OpenSpec.ofChange s with cond := some uptoSmall }

/-- 'confluencelaw21.HistChecks', WHERE WHAT IT READS IS OF BULK AT MOST 1048576: true; the input reads as it did. -/
def histChecksUptoRow : OpenClaim := { program := "ytiapolcpebilmaa", sum := "7babcd9114c073333673c9a8409733fd95497bb6e9dc56feeb2c71f4750a223c", func := "confluence/confluencelaw21.HistChecks", spec := "histChecks", apart := false, narrowed := true }
def HistChecksUptoSaid : Prop := histChecksUptoRow.holds Try.pinned (OpenSpec.upto histChecksSpec)

/-- 'confluencelaw21.HistSees', WHERE WHAT IT READS IS OF BULK AT MOST 1048576: true; the input reads as it did. -/
def histSeesUptoRow : OpenClaim := { program := "ytiapolcpebilmaa", sum := "7babcd9114c073333673c9a8409733fd95497bb6e9dc56feeb2c71f4750a223c", func := "confluence/confluencelaw21.HistSees", spec := "histSees", apart := false, narrowed := true }
def HistSeesUptoSaid : Prop := histSeesUptoRow.holds Try.pinned (OpenSpec.upto histSeesSpec)

/-- 'confluencelaw21.HistOrder', WHERE WHAT IT READS IS OF BULK AT MOST 1048576: true; the input reads as it did. -/
def histOrderUptoRow : OpenClaim := { program := "ytiapolcpebilmaa", sum := "7babcd9114c073333673c9a8409733fd95497bb6e9dc56feeb2c71f4750a223c", func := "confluence/confluencelaw21.HistOrder", spec := "histOrder", apart := false, narrowed := true }
def HistOrderUptoSaid : Prop := histOrderUptoRow.holds Try.pinned (OpenSpec.upto histOrderSpec)

/-- 'confluencelaw21.HistIdeal', WHERE WHAT IT READS IS OF BULK AT MOST 1048576: true; the input reads as it did. -/
def histIdealUptoRow : OpenClaim := { program := "ytiapolcpebilmaa", sum := "7babcd9114c073333673c9a8409733fd95497bb6e9dc56feeb2c71f4750a223c", func := "confluence/confluencelaw21.HistIdeal", spec := "histIdeal", apart := false, narrowed := true }
def HistIdealUptoSaid : Prop := histIdealUptoRow.holds Try.pinned (OpenSpec.upto histIdealSpec)

/-- 'confluencelaw21.HistLies', WHERE WHAT IT READS IS OF BULK AT MOST 1048576: true; the input reads as it did. -/
def histLiesUptoRow : OpenClaim := { program := "ytiapolcpebilmaa", sum := "7babcd9114c073333673c9a8409733fd95497bb6e9dc56feeb2c71f4750a223c", func := "confluence/confluencelaw21.HistLies", spec := "histLies", apart := false, narrowed := true }
def HistLiesUptoSaid : Prop := histLiesUptoRow.holds Try.pinned (OpenSpec.upto histLiesSpec)

end Rows
end Go.Proofs.Ytiapolcpebilmaa
