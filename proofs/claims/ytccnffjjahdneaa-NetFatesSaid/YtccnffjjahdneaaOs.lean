/- A script given. -/
import Derived.Test.YtccnffjjahdneaaOn
namespace Go.Proofs.Ytccnffjjahdneaa.Eng
open Go Go.RowKit Go.ChangeShapes Go.WideShapes
set_option linter.unusedSimpArgs false
set_option linter.unusedVariables false
/-- a script given: it lies there -/
theorem scr_given {l : List Rec} {L : List Blk} {h : ∀ y ∈ l, OpR y ∧ ∀ m, (y.1 m).length = Try.prog.cellsOf 43 ∧ (y.1 m).all SV.one = true ∧ ltL (m + 1) (y.1 m) = true} : ScrAt (L ++ .ro (recC (L.length + 1) l) :: l.map (·.2)) L.length (L.length + 1) l := by
  refine ⟨by rw [get_app0]; rfl, fun i y hi => ⟨(h y (List.mem_of_getElem? hi)).1, ?_⟩⟩
  rw [Nat.add_assoc, get_app, Nat.add_comm 1 i, List.getElem?_cons_succ, List.getElem?_map, hi]; rfl
theorem bOp : Try.prog.bytesOf 43 = 72 := by kernel_rfl
end Go.Proofs.Ytccnffjjahdneaa.Eng
