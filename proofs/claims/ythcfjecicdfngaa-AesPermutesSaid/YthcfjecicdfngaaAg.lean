/- Unlike blocks become unlike ones. -/
import Derived.Test.YthcfjecicdfngaaAf
namespace Go.Proofs.Ythcfjecicdfngaa.Eng
open Go Go.RowKit
set_option linter.unusedSimpArgs false
set_option linter.unusedVariables false

theorem xor_lc (a b c : BitVec 8) : a ^^^ (b ^^^ c) = b ^^^ (a ^^^ c) := by rw [← BitVec.xor_assoc, BitVec.xor_comm a b, BitVec.xor_assoc]
theorem xor_can (a b : BitVec 8) : a ^^^ (a ^^^ b) = b := by rw [← BitVec.xor_assoc, BitVec.xor_self, BitVec.zero_xor]
def dbl (a : BitVec 8) : BitVec 8 := mul8L 8 2#8 a 0#8
def dblS (a : BitVec 8) : BitVec 8 := (if (a &&& 128#8) != 0#8 then (a <<< 1) ^^^ 27#8 else a <<< 1)
theorem dbl_S (a : BitVec 8) : dbl a = dblS a := all8 (p := fun a => dbl a = dblS a) (by decide +kernel) a
theorem dbl_xor (a b : BitVec 8) : dbl (a ^^^ b) = dbl a ^^^ dbl b := by
  have hb : ∀ a : BitVec 8, ((a &&& 128#8) != 0#8) = a.getLsbD 7 := fun a => all8 (p := fun a => ((a &&& 128#8) != 0#8) = a.getLsbD 7) (by decide +kernel) a
  rw [dbl_S, dbl_S, dbl_S]
  unfold dblS
  rw [hb, hb, hb, BitVec.getLsbD_xor, BitVec.shiftLeft_xor_distrib]
  cases a.getLsbD 7 <;> cases b.getLsbD 7 <;> simp [BitVec.xor_assoc, xor_lc, BitVec.xor_comm, xor_can]
theorem mixL_4 (a b c d : BitVec 8) : mixL [a, b, c, d] = [dbl a ^^^ (dbl b ^^^ b) ^^^ c ^^^ d, dbl b ^^^ (dbl c ^^^ c) ^^^ d ^^^ a, dbl c ^^^ (dbl d ^^^ d) ^^^ a ^^^ b, dbl d ^^^ (dbl a ^^^ a) ^^^ b ^^^ c] := by
  unfold mixL
  simp only [mul3]
  rfl
theorem mixL_twice (a b c d : BitVec 8) : mixL (mixL [a, b, c, d]) = [dbl (dbl a) ^^^ a ^^^ dbl (dbl c), dbl (dbl b) ^^^ b ^^^ dbl (dbl d), dbl (dbl c) ^^^ c ^^^ dbl (dbl a), dbl (dbl d) ^^^ d ^^^ dbl (dbl b)] := by
  rw [mixL_4, mixL_4]
  simp only [dbl_xor]
  simp only [BitVec.xor_assoc, xor_lc, BitVec.xor_comm, BitVec.xor_self, xor_can, BitVec.xor_zero, BitVec.zero_xor]
theorem mixL_four (a b c d : BitVec 8) : mixL (mixL (mixL (mixL [a, b, c, d]))) = [a, b, c, d] := by
  rw [mixL_twice, mixL_twice]
  simp only [dbl_xor]
  simp only [BitVec.xor_assoc, xor_lc, BitVec.xor_comm, BitVec.xor_self, xor_can, BitVec.xor_zero, BitVec.zero_xor]
theorem mixL_inj {x y : List (BitVec 8)} (hx : x.length = 4) (hy : y.length = 4) (h : mixL x = mixL y) : x = y := by
  match x, hx, y, hy with
  | [a, b, c, d], _, [a', b', c', d'], _ => rw [← mixL_four a b c d, h, mixL_four]
theorem getD_ext {x y : List (BitVec 8)} {n : Nat} (hx : x.length = n) (hy : y.length = n) (h : ∀ j, j < n → x.getD j 0#8 = y.getD j 0#8) : x = y := by
  rw [gl_self hx 0#8, gl_self hy 0#8]
  exact gl_ext h
theorem xorL_inj {x y k : List (BitVec 8)} (hx : x.length = 16) (hy : y.length = 16) (h : xorL x k = xorL y k) : x = y := by
  refine getD_ext hx hy fun j hj => ?_
  have := congrArg (fun l => l.getD j 0#8) h
  simp only [xorL] at this
  rw [gl_getD hj, gl_getD hj] at this
  have := congrArg (· ^^^ k.getD j 0#8) this
  simpa [BitVec.xor_assoc] using this
theorem mixK_word {x : List (BitVec 8)} (hx : x.length = 16) {c : Nat} (hc : c < 4) : ((mixK x 4).drop (4 * c)).take 4 = mixL ((x.drop (4 * c)).take 4) := by
  refine getD_ext (n := 4) (by rw [List.length_take, List.length_drop, mixK_len]; omega) (mixL_len _) fun j hj => ?_
  rw [take4_getD hj, mixK, gl_getD (by omega), if_pos (by omega), show (4 * c + j) / 4 = c by omega, show (4 * c + j) % 4 = j by omega]
theorem mixK_inj {x y : List (BitVec 8)} (hx : x.length = 16) (hy : y.length = 16) (h : mixK x 4 = mixK y 4) : x = y := by
  refine getD_ext hx hy fun j hj => ?_
  have e := mixL_inj (x := (x.drop (4 * (j / 4))).take 4) (y := (y.drop (4 * (j / 4))).take 4) (by simp; omega) (by simp; omega)
    (by rw [← mixK_word hx (by omega), ← mixK_word hy (by omega), h])
  have := congrArg (fun l => l.getD (j % 4) 0#8) e
  rw [take4_getD (by omega), take4_getD (by omega), show 4 * (j / 4) + j % 4 = j by omega] at this
  exact this
theorem boxL_getD (v : BitVec 8) : boxL.getD v.toNat 0#8 = sbox v := by
  unfold boxL
  rw [gl_getD v.isLt, BitVec.ofNat_toNat, BitVec.setWidth_eq]
theorem shiftL_inj {key x y : List (BitVec 8)} (hx : x.length = 16) (hy : y.length = 16) (h : shiftL (ciph key) x = shiftL (ciph key) y) : x = y := by
  refine getD_ext hx hy fun j hj => ?_
  have := congrArg (fun l => l.getD (4 * ((j / 4 + 4 - j % 4) % 4) + j % 4) 0#8) h
  simp only [shiftL] at this
  rw [gl_getD (by omega), gl_getD (by omega)] at this
  unfold ciph at this
  rw [box_getD, box_getD, boxL_getD, boxL_getD] at this
  have e := sbox_inj this
  rwa [show 4 * (((4 * ((j / 4 + 4 - j % 4) % 4) + j % 4) / 4 + (4 * ((j / 4 + 4 - j % 4) % 4) + j % 4) % 4) % 4) + (4 * ((j / 4 + 4 - j % 4) % 4) + j % 4) % 4 = j by omega] at e
theorem aes_inj {key x y : List (BitVec 8)} (hx : x.length = 16) (hy : y.length = 16) : ∀ k, aesN (ciph key) x k = aesN (ciph key) y k → x = y
  | 0, h => xorL_inj hx hy h
  | k + 1, h => by
    refine aes_inj (key := key) hx hy k (shiftL_inj (key := key) (aesN_len _ _ _) (aesN_len _ _ _) ?_)
    by_cases hk : k + 1 < 14
    · have := xorL_inj (x := if k + 1 < 14 then mixK (shiftL (ciph key) (aesN (ciph key) x k)) 4 else _) (y := if k + 1 < 14 then mixK (shiftL (ciph key) (aesN (ciph key) y k)) 4 else _) (by rw [if_pos hk]; exact mixK_len _ _) (by rw [if_pos hk]; exact mixK_len _ _) h
      rw [if_pos hk, if_pos hk] at this
      exact mixK_inj (shiftL_len _ _) (shiftL_len _ _) this
    · have := xorL_inj (x := if k + 1 < 14 then _ else shiftL (ciph key) (aesN (ciph key) x k)) (y := if k + 1 < 14 then _ else shiftL (ciph key) (aesN (ciph key) y k)) (by rw [if_neg hk]; exact shiftL_len _ _) (by rw [if_neg hk]; exact shiftL_len _ _) h
      rwa [if_neg hk, if_neg hk] at this
end Go.Proofs.Ythcfjecicdfngaa.Eng
