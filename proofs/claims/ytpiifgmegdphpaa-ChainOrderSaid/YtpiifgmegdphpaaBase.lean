/-
  Facts on the seat's program that every law's frame asks. Conditions: none.
-/
import Derived.Test.YtpiifgmegdphpaaRows
import Derived.Test.YtpiifgmegdphpaaFrame
import Derived.KernelRfl
namespace Go.Proofs.Ytpiifgmegdphpaa
theorem own : ownKnob Try.prog.godebug = none := by kernel_rfl
theorem laidOut : laidOutB Try.prog = true := by kernel_rfl
end Go.Proofs.Ytpiifgmegdphpaa
