/- What the rows of chapter 5 ask: the program's facts. -/
import Derived.Test.YtbiolfeincepoaaEngO
import Derived.Test.YtbiolfeincepoaaG9
namespace Go.Proofs.Ytbiolfeincepoaa.Eng
open Go Go.RowKit Go.ChangeShapes Go.WideShapes
set_option linter.unusedSimpArgs false
set_option linter.unusedVariables false

theorem own : ownKnob Try.prog.godebug = none := by kernel_rfl
theorem laid : laidOutB Try.prog = true := by kernel_rfl
theorem c8 : Try.prog.cellsOf 5 = 1 := by kernel_rfl
theorem b8 : Try.prog.bytesOf 5 = 1 := by kernel_rfl
end Go.Proofs.Ytbiolfeincepoaa.Eng
