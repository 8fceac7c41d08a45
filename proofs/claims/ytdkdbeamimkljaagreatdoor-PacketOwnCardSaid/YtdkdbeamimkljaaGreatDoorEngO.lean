/- The engine, part O: a law's arguments, opened one after the other. -/
import Derived.Test.YtdkdbeamimkljaaGreatDoorEngN
import Derived.Test.YtdkdbeamimkljaaGreatDoorEngM
import Derived.SizedLaws
namespace Go.Proofs.YtdkdbeamimkljaaGreatDoor.Eng
open Go Go.RowKit Go.ChangeShapes Go.WideShapes
set_option linter.unusedSimpArgs false
set_option linter.unusedVariables false
section
variable {H : Type} {enc : TypeId × Value → H} {P : Program} {W : World} {base : Nat}
theorem given_start : Given P W [] (fun _ => none) [] [] := ⟨rfl, rfl, by simp⟩
end
end Go.Proofs.YtdkdbeamimkljaaGreatDoor.Eng
