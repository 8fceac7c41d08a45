/- Joined texts: Ad, Ae, Ap. -/
import Derived.Test.YtdkdbeamimkljaaGreatDoorMh
namespace Go.Proofs.YtdkdbeamimkljaaGreatDoor.Eng
set_option linter.unusedSimpArgs false
set_option linter.unusedVariables false
open Go Go.RowKit
def twoL : List (BitVec 8) := gl 256 fun j => mul8L 8 2#8 (BitVec.ofNat 8 j) 0#8
def rl (key : List (BitVec 8)) (i : Nat) : List (BitVec 8) := boxL ++ (twoL ++ wl key i)
def ciphR (key : List (BitVec 8)) : List (BitVec 8) := rl key 60
def pg (key : List (BitVec 8)) (a b : Nat) : List (BitVec 8) := gl 752 fun j => if j < a ∨ (256 ≤ j ∧ j < 256 + b) then (ciphR key).getD j 0#8 else 0#8
theorem beqIN {n : Nat} (h : n = 32) : ((n : Int) != 32) = false := by subst h; rfl
theorem q00 : ((0 : Int) != 0) = false := rfl
end Go.Proofs.YtdkdbeamimkljaaGreatDoor.Eng
