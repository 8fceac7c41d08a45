/- Joined texts: Fa, Fb, Fc, Fd. -/
import Derived.Test.YtdkdbeamimkljaaGreatDoorLs
import Derived.Test.YtdkdbeamimkljaaGreatDoorMa
namespace Go.Proofs.YtdkdbeamimkljaaGreatDoor.Eng
set_option linter.unusedSimpArgs false
set_option linter.unusedVariables false
open Go
section
variable {w : Nat}
def it (t : BitVec w → BitVec w) : Nat → BitVec w → BitVec w
  | 0, y => y
  | n + 1, y => t (it t n y)
def gs (t : BitVec w → BitVec w) (f : Nat → Bool) : Nat → BitVec w → BitVec w
  | 0, _ => 0#w
  | n + 1, y => gs t f n y ^^^ (if f n then it t n y else 0#w)
variable {t : BitVec w → BitVec w} (ht : ∀ a b, t (a ^^^ b) = t a ^^^ t b)
include ht
omit ht in
omit ht in
omit ht in
end
structure Fld (w : Nat) where
  t : BitVec w → BitVec w
  lin : ∀ a b, t (a ^^^ b) = t a ^^^ t b
  bit : BitVec w → Nat → Bool
  bit_xor : ∀ a b i, bit (a ^^^ b) i = (bit a i ^^ bit b i)
  one : BitVec w
  h1 : ∀ x, gs t (bit x) w one = x
namespace Fld
variable {w : Nat} (F : Fld w)
def mul (x y : BitVec w) : BitVec w := gs F.t (F.bit x) w y
end Fld
/-! the document's product -/
/-! inverses -/
end Go.Proofs.YtdkdbeamimkljaaGreatDoor.Eng
