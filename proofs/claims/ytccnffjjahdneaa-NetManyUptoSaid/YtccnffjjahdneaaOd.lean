/- What the row of NetPlays asks. -/
import Derived.Test.YtccnffjjahdneaaOc
import Derived.Test.YtccnffjjahdneaaQ3
namespace Go.Proofs.Ytccnffjjahdneaa.Eng
open Go Go.RowKit Go.ChangeShapes Go.WideShapes
set_option linter.unusedSimpArgs false
set_option linter.unusedVariables false
/-- a script given: it lies there -/
theorem scr_given {l : List Rec} {L : List Blk} {h : ∀ y ∈ l, OpR y ∧ ∀ m, (y.1 m).length = Try.prog.cellsOf 43 ∧ (y.1 m).all SV.one = true ∧ ltL (m + 1) (y.1 m) = true} : ScrAt (L ++ .ro (recC (L.length + 1) l) :: l.map (·.2)) L.length (L.length + 1) l := by
  refine ⟨by rw [get_app0]; rfl, fun i y hi => ⟨(h y (List.mem_of_getElem? hi)).1, ?_⟩⟩
  rw [Nat.add_assoc, get_app, Nat.add_comm 1 i, List.getElem?_cons_succ, List.getElem?_map, hi]; rfl
theorem bOp : Try.prog.bytesOf 43 = 72 := by kernel_rfl
theorem law_netPlays (cap : Nat) (l : List Rec) (M : List Blk) (s b : Nat) (hs : ScrAt M s b l) (h1 : l.length ≤ cap) (h2 : cap * 72 ≤ 140737488351232) :
    callVC Try.prog 4 [.sl s 0 l.length cap] M (fun v _ => v = .b true) := plays_law s b cap l M _ hs (by omega) rfl
end Go.Proofs.Ytccnffjjahdneaa.Eng
