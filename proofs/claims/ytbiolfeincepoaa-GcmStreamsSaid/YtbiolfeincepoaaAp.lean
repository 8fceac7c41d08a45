/- The program's block is the document's. -/
import Derived.Test.YtbiolfeincepoaaAe
namespace Go.Proofs.Ytbiolfeincepoaa.Eng
open Go Go.RowKit
set_option linter.unusedSimpArgs false
set_option linter.unusedVariables false

theorem beqIN {n : Nat} (h : n = 32) : ((n : Int) != 32) = false := by subst h; rfl
theorem beqIN' {n : Nat} (h : ((n : Int) != 32) = false) : n = 32 := by have := bneF h; omega
theorem q00 : ((0 : Int) != 0) = false := rfl
theorem q40 : ((40 : Int) != 0) = true := rfl
theorem qeq : ((40 : Int) != 40) = false := rfl
theorem keyAt_keyR {key : List (BitVec 8)} (r : Nat) : keyAt (ciph key) r = keyR (ciphR key) r := by
  unfold keyAt keyR ciph ciphR rl
  have h1 : boxL.drop (256 + 16 * r) = [] := List.drop_eq_nil_of_le (by rw [boxL_len]; omega)
  have h2 : boxL.drop (512 + 16 * r) = [] := List.drop_eq_nil_of_le (by rw [boxL_len]; omega)
  have h3 : twoL.drop (512 + 16 * r - 256) = [] := List.drop_eq_nil_of_le (by rw [twoL_len]; omega)
  rw [wl_60, List.drop_append, boxL_len, h1, List.drop_append, boxL_len, h2, List.drop_append, twoL_len, h3, List.nil_append, List.nil_append, List.nil_append,
    show 256 + 16 * r - 256 = 512 + 16 * r - 256 - 256 by omega]
theorem shift_same {key b : List (BitVec 8)} : shiftL (ciph key) b = shiftL (ciphR key) b := by
  unfold shiftL ciph ciphR rl
  exact gl_ext fun i _ => by rw [box_getD, box_getD]
theorem aes_ref {key x : List (BitVec 8)} : ∀ k, aesN (ciph key) x k = refN4 (ciphR key) x k
  | 0 => by rw [aesN, refN4, keyAt_keyR]
  | k + 1 => by rw [aesN, refN4, aes_ref k, aesR, refR, keyAt_keyR, shift_same]
theorem ciphR_len {key : List (BitVec 8)} (hk : key.length = 32) : (ciphR key).length = 752 := rl_len hk 60 (by omega)
theorem ciphR_two {key : List (BitVec 8)} (v : BitVec 8) : (ciphR key).getD (256 + v.toNat) 0#8 = mul8L 8 2#8 v 0#8 := by
  have := BitVec.isLt v
  rw [F_two (by omega), BitVec.ofNat_toNat, BitVec.setWidth_eq]

end Go.Proofs.Ytbiolfeincepoaa.Eng
