/- What the row of NetFates asks. -/
import Derived.Test.YtccnffjjahdneaaOl
import Derived.Test.YtccnffjjahdneaaOs
namespace Go.Proofs.Ytccnffjjahdneaa.Eng
open Go Go.RowKit Go.ChangeShapes Go.WideShapes
set_option linter.unusedSimpArgs false
set_option linter.unusedVariables false
theorem law_netFates (cap : Nat) (l : List Rec) (M : List Blk) (s b : Nat) (hs : ScrAt M s b l) (h1 : l.length ≤ cap) (h2 : cap * 72 ≤ 140737488351232) :
    callVC Try.prog 7 [.sl s 0 l.length cap] M (fun v _ => v = .b true) := fates_law s b cap l M _ hs (by omega) rfl
end Go.Proofs.Ytccnffjjahdneaa.Eng
