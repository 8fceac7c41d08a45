/- What the row of NetRefuses asks: the program's facts. -/
import Derived.Test.YtccnffjjahdneaaNa
namespace Go.Proofs.Ytccnffjjahdneaa.Eng
open Go Go.RowKit Go.ChangeShapes Go.WideShapes
set_option linter.unusedSimpArgs false
set_option linter.unusedVariables false

theorem own : ownKnob Try.prog.godebug = none := by kernel_rfl
theorem laid : laidOutB Try.prog = true := by kernel_rfl
theorem c8 : Try.prog.cellsOf 5 = 1 := by kernel_rfl
theorem b8 : Try.prog.bytesOf 5 = 1 := by kernel_rfl
theorem law_netRefuses (x : SV) (b : List (BitVec 8)) (no a v : Int) (M : List Blk) (hx : ArgAt M x b) :
    callVC Try.prog 8 [x, .i .i64 no, .i .i64 a, .i .i64 v] M (fun v _ => v = .b true) := refuses_law x b no a v M _ hx rfl
end Go.Proofs.Ytccnffjjahdneaa.Eng
