/-
  Facts on the seat's program that every law's frame asks. Conditions: none.
-/
import Derived.Test.YtiapolcpebilmaaRows
import Derived.Test.YtiapolcpebilmaaFrame
import Derived.KernelRfl
namespace Go.Proofs.Ytiapolcpebilmaa
theorem own : ownKnob Try.prog.godebug = none := by kernel_rfl
theorem laidOut : laidOutB Try.prog = true := by kernel_rfl
end Go.Proofs.Ytiapolcpebilmaa
