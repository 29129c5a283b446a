/-
  CYCLICQUASI, PART 6 OF 8. One sentence: the texts behind the law CyclicQuasi, put together.
  Conditions: each theorem's own, written out in it.
-/
import Derived.Test.YtdkahdehodopoaaChecked
import Derived.Test.YtdkahdehodopoaaRows
import Derived.Test.YtdkahdehodopoaaK5
set_option linter.unusedSimpArgs false
set_option linter.unusedVariables false
set_option linter.unusedSectionVars false
set_option maxRecDepth 100000
namespace Go.Proofs.Ytdkahdehodopoaa
open Go.ChangeShapes Go.WideShapes Go.ChangeAt Go.RowKit
namespace Facts
theorem f15 : (({ program := "", sum := "", func := "", spec := "" } : OpenClaim).plainKeys == Try.prog.plainKeys) = true := by kernel_rfl
theorem f17 : Try.prog.stopsHeard = true := by kernel_rfl
theorem f18 : Try.prog.mayEnter = true := by kernel_rfl
theorem f19 : (({ program := "", sum := "", func := "", spec := "" } : OpenClaim).lifted == Try.prog.liftsFinal) = true := by kernel_rfl
theorem f20 : (Try.prog.make == some ({ program := "", sum := "", func := "", spec := "" } : OpenClaim).make) = true := by kernel_rfl
end Facts
end Go.Proofs.Ytdkahdehodopoaa
