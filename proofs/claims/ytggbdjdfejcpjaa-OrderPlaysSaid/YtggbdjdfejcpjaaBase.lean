/-
  Facts on the seat's program that every law's frame asks. Conditions: none.
-/
import Derived.Test.YtggbdjdfejcpjaaRows
import Derived.Test.YtggbdjdfejcpjaaFrame
import Derived.KernelRfl
namespace Go.Proofs.Ytggbdjdfejcpjaa
theorem own : ownKnob Try.prog.godebug = none := by kernel_rfl
theorem laidOut : laidOutB Try.prog = true := by kernel_rfl
end Go.Proofs.Ytggbdjdfejcpjaa
