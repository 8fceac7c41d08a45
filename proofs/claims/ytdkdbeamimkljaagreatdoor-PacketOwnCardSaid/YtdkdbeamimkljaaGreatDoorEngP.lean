/- The engine, part P: slices of bytes inside a law's arguments. -/
import Derived.Test.YtdkdbeamimkljaaGreatDoorEngO
namespace Go.Proofs.YtdkdbeamimkljaaGreatDoor.Eng
open Go Go.RowKit Go.ChangeShapes Go.WideShapes
set_option linter.unusedSimpArgs false
set_option linter.unusedVariables false
section
variable {H : Type} {enc : TypeId × Value → H} {P : Program} {W : World} {base : Nat}
end
end Go.Proofs.YtdkdbeamimkljaaGreatDoor.Eng
