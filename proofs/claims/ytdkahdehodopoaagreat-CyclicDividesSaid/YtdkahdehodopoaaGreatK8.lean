/-
  CYCLICDIVIDES, PART 8 OF 10. One sentence: the texts behind the law CyclicDivides, put together.
  Conditions: each theorem's own, written out in it.
-/
import Derived.Test.YtdkahdehodopoaaGreatChecked
import Derived.Test.YtdkahdehodopoaaGreatRows
import Derived.Test.YtdkahdehodopoaaGreatK7
set_option linter.unusedSimpArgs false
set_option linter.unusedVariables false
set_option linter.unusedSectionVars false
set_option maxRecDepth 100000
namespace Go.Proofs.YtdkahdehodopoaaGreat
open Go.ChangeShapes Go.WideShapes Go.ChangeAt Go.RowKit
namespace Facts
theorem f15 : (({ program := "", sum := "", func := "", spec := "" } : OpenClaim).plainKeys == Tryz.prog.plainKeys) = true := by kernel_rfl
theorem f17 : Tryz.prog.stopsHeard = true := by kernel_rfl
theorem f18 : Tryz.prog.mayEnter = true := by kernel_rfl
theorem f19 : (({ program := "", sum := "", func := "", spec := "" } : OpenClaim).lifted == Tryz.prog.liftsFinal) = true := by kernel_rfl
theorem f20 : (Tryz.prog.make == some ({ program := "", sum := "", func := "", spec := "" } : OpenClaim).make) = true := by kernel_rfl
end Facts
end Go.Proofs.YtdkahdehodopoaaGreat
