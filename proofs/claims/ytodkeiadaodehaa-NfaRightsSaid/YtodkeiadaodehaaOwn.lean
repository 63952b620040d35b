/-
  Two facts of the program that every row asks for. No condition.
-/
import Derived.Test.YtodkeiadaodehaaLib
import Derived.KernelRfl
set_option linter.unusedVariables false
namespace Go.Proofs.Ytodkeiadaodehaa
theorem own : ownKnob Try.prog.godebug = none := by kernel_rfl
theorem laidOut : laidOutB Try.prog = true := by kernel_rfl
end Go.Proofs.Ytodkeiadaodehaa
