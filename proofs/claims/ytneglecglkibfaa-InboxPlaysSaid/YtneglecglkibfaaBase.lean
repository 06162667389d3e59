/-
  Facts on the seat's program that every law's frame asks. Conditions: none.
-/
import Derived.Test.YtneglecglkibfaaRows
import Derived.Test.YtneglecglkibfaaFrame
import Derived.KernelRfl
namespace Go.Proofs.Ytneglecglkibfaa
theorem own : ownKnob Try.prog.godebug = none := by kernel_rfl
theorem laidOut : laidOutB Try.prog = true := by kernel_rfl
end Go.Proofs.Ytneglecglkibfaa
