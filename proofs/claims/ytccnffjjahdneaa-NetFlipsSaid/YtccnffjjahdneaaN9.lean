/- What the rows of chapter 5 ask: the program's facts. -/
import Derived.Test.YtccnffjjahdneaaN8
namespace Go.Proofs.Ytccnffjjahdneaa.Eng
open Go Go.RowKit Go.ChangeShapes Go.WideShapes
set_option linter.unusedSimpArgs false
set_option linter.unusedVariables false

theorem own : ownKnob Try.prog.godebug = none := by kernel_rfl
theorem laid : laidOutB Try.prog = true := by kernel_rfl
theorem c8 : Try.prog.cellsOf 5 = 1 := by kernel_rfl
theorem b8 : Try.prog.bytesOf 5 = 1 := by kernel_rfl
theorem law_netFlips (nb cap : Nat) (b : List (BitVec 8)) (p q v w : Int) (M : List Blk) (hb : BAt M nb 0 b) (hl : b.length ≤ 140737488355000) :
    callVC Try.prog 3 [.sl nb 0 b.length cap, .i .i64 p, .i .i64 q, .i .i64 v, .i .i64 w] M (fun v _ => v = .b true) := flips_law nb cap b p q v w M _ hb hl rfl
end Go.Proofs.Ytccnffjjahdneaa.Eng
