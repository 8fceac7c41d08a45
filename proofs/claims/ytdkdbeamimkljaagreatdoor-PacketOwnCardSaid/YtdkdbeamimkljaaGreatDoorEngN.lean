/- The engine, part N: the arguments of a law, opened as symbolic values. -/
import Derived.Test.YtdkdbeamimkljaaGreatDoorEngL
import Derived.Test.YtdkdbeamimkljaaGreatDoorEngS
import Derived.OpenShut
namespace Go.Proofs.YtdkdbeamimkljaaGreatDoor.Eng
open Go Go.RowKit Go.ChangeShapes Go.WideShapes
set_option linter.unusedSimpArgs false
set_option linter.unusedVariables false
section
variable {H : Type} {enc : TypeId × Value → H} {P : Program} {W : World} {base : Nat} {sp : Nat → Bool} {held : Bool}
theorem wf_u8 {n : Int} (h : (Lit.int .u8 n).wf = true) : 0 ≤ n ∧ n < 256 := by
  simp [Lit.wf, IntKind.min, IntKind.max, IntKind.signed, IntKind.bits] at h
  omega
theorem wf_u64 {n : Int} (h : (Lit.int .u64 n).wf = true) : 0 ≤ n ∧ n < 18446744073709551616 := by
  simp [Lit.wf, IntKind.min, IntKind.max, IntKind.signed, IntKind.bits] at h
  omega
theorem wf_i64 {n : Int} (h : (Lit.int .i64 n).wf = true) : -9223372036854775808 ≤ n ∧ n ≤ 9223372036854775807 := by
  simp [Lit.wf, IntKind.min, IntKind.max, IntKind.signed, IntKind.bits] at h
  omega
theorem u8_of {n : Int} (h : (Lit.int .u8 n).wf = true) : ∃ x : BitVec 8, (x.toNat : Int) = n :=
  ⟨BitVec.ofInt 8 n, ofInt_toNat (wf_u8 h).1 (by have := (wf_u8 h).2; simpa using this)⟩
theorem u64_of {n : Int} (h : (Lit.int .u64 n).wf = true) : ∃ x : BitVec 64, (x.toNat : Int) = n :=
  ⟨BitVec.ofInt 64 n, ofInt_toNat (wf_u64 h).1 (by have := (wf_u64 h).2; simpa using this)⟩
end
end Go.Proofs.YtdkdbeamimkljaaGreatDoor.Eng
