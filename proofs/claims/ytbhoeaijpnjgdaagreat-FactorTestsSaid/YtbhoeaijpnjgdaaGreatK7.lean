/-
  FACTORTESTS, PART 7 OF 9. One sentence: the texts behind the law FactorTests, put together.
  Conditions: each theorem's own, written out in it.
-/
import Derived.Test.YtbhoeaijpnjgdaaGreatChecked
import Derived.Test.YtbhoeaijpnjgdaaGreatRows
import Derived.Test.YtbhoeaijpnjgdaaGreatK6
set_option linter.unusedSimpArgs false
set_option linter.unusedVariables false
set_option linter.unusedSectionVars false
set_option maxRecDepth 100000
namespace Go.Proofs.YtbhoeaijpnjgdaaGreat
open Go.ChangeShapes Go.WideShapes Go.ChangeAt Go.RowKit
namespace Facts
theorem f15 : (({ program := "", sum := "", func := "", spec := "" } : OpenClaim).plainKeys == Tryz.prog.plainKeys) = true := by kernel_rfl
theorem f17 : Tryz.prog.stopsHeard = true := by kernel_rfl
theorem f18 : Tryz.prog.mayEnter = true := by kernel_rfl
theorem f19 : (({ program := "", sum := "", func := "", spec := "" } : OpenClaim).lifted == Tryz.prog.liftsFinal) = true := by kernel_rfl
theorem f20 : (Tryz.prog.make == some ({ program := "", sum := "", func := "", spec := "" } : OpenClaim).make) = true := by kernel_rfl
end Facts
end Go.Proofs.YtbhoeaijpnjgdaaGreat
