/- What every row of this seat asks of the program. -/
import Derived.Test.YthibglfeccmocaaEngN
import Derived.Test.YthibglfeccmocaaProg
namespace Go.Proofs.Ythibglfeccmocaa.Eng
open Go Go.RowKit
set_option linter.unusedSimpArgs false
set_option linter.unusedVariables false

theorem own : ownKnob Try.prog.godebug = none := by kernel_rfl
theorem laid : laidOutB Try.prog = true := by kernel_rfl
theorem c27 : Try.prog.cellsOf 27 = 16 := by kernel_rfl
theorem c5 : Try.prog.cellsOf 5 = 1 := by kernel_rfl
end Go.Proofs.Ythibglfeccmocaa.Eng
