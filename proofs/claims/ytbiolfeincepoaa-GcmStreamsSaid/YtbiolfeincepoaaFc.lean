/- The field of blocks: field.Mul128 and the document's product are one product of 128 bits. -/
import Derived.Test.YtbiolfeincepoaaFa
import Derived.Test.YtbiolfeincepoaaT7
namespace Go.Proofs.Ytbiolfeincepoaa.Eng
open Go
set_option linter.unusedSimpArgs false
set_option linter.unusedVariables false

theorem half_bit (x : List (BitVec 8)) (o : Nat) : ∀ k, k ≤ 8 → ∀ j, (halfN x o k).getLsbD j = (decide (j < 8 * k) && (x.getD (o + (k - 1 - j / 8)) 0#8).getLsbD (j % 8))
  | 0, _, j => by simp [halfN]
  | k + 1, hk, j => by
    have ih := half_bit x o k (by omega)
    simp only [halfN, BitVec.getLsbD_or, BitVec.getLsbD_shiftLeft, BitVec.getLsbD_setWidth, ih]
    by_cases h : j < 8
    · have e : j / 8 = 0 := by omega
      have e2 : j % 8 = j := by omega
      simp [h, e, e2, show j < 64 by omega, show j < 8 * (k + 1) by omega]
    · have e : (x.getD (o + k) 0#8).getLsbD j = false := BitVec.getLsbD_of_ge _ _ (by omega)
      rw [e]
      by_cases hj : j < 8 * (k + 1)
      · have e3 : o + (k + 1 - 1 - j / 8) = o + (k - 1 - (j - 8) / 8) := by omega
        have e4 : j % 8 = (j - 8) % 8 := by omega
        rw [e3, e4]
        simp [h, hj, show j < 64 by omega, show j - 8 < 8 * k by omega]
      · simp [h, hj, show ¬ j - 8 < 8 * k by omega]

/-- a block as a row of 128 bits -/
def toB (x : List (BitVec 8)) : BitVec 128 := halfN x 0 8 ++ halfN x 8 8
/-- a row of 128 bits as a block -/
def toL (v : BitVec 128) : List (BitVec 8) := gl 16 fun j => (v >>> (120 - 8 * j)).setWidth 8

theorem toB_bit (x : List (BitVec 8)) (j : Nat) (hj : j < 128) : (toB x).getLsbD j = (x.getD (15 - j / 8) 0#8).getLsbD (j % 8) := by
  unfold toB
  rw [BitVec.getLsbD_append]
  by_cases h : j < 64
  · simp only [h, cond_true, half_bit x 8 8 (by omega), if_true]
    rw [show 8 + (8 - 1 - j / 8) = 15 - j / 8 by omega]
    simp [h]
  · simp only [h, if_false, half_bit x 0 8 (by omega), decide_false, cond_false]
    rw [show 0 + (8 - 1 - (j - 64) / 8) = 15 - j / 8 by omega, show (j - 64) % 8 = j % 8 by omega]
    simp [show j - 64 < 64 by omega]

theorem toL_len (v : BitVec 128) : (toL v).length = 16 := gl_len
theorem toB_toL (v : BitVec 128) : toB (toL v) = v := by
  apply BitVec.eq_of_getLsbD_eq
  intro j hj
  rw [toB_bit _ _ hj]
  unfold toL
  rw [gl_getD (by omega), BitVec.getLsbD_setWidth, BitVec.getLsbD_ushiftRight]
  rw [show 120 - 8 * (15 - j / 8) + j % 8 = j by omega]
  simp [show j % 8 < 8 by omega]
theorem toL_toB (x : List (BitVec 8)) (hx : x.length = 16) : toL (toB x) = x := by
  symm
  refine gl_eq hx 0#8 fun i hi => ?_
  apply BitVec.eq_of_getLsbD_eq
  intro j hj
  rw [BitVec.getLsbD_setWidth, BitVec.getLsbD_ushiftRight, toB_bit _ _ (by omega)]
  rw [show 15 - (120 - 8 * i + j) / 8 = i by omega, show (120 - 8 * i + j) % 8 = j by omega]
  simp [hj]
theorem toB_inj {x y : List (BitVec 8)} (hx : x.length = 16) (hy : y.length = 16) (h : toB x = toB y) : x = y := by
  rw [← toL_toB x hx, ← toL_toB y hy, h]
theorem toB_xor (x y : List (BitVec 8)) : toB (xorL x y) = toB x ^^^ toB y := by
  apply BitVec.eq_of_getLsbD_eq
  intro j hj
  rw [BitVec.getLsbD_xor, toB_bit _ _ hj, toB_bit _ _ hj, toB_bit _ _ hj]
  unfold xorL
  rw [gl_getD (by omega), BitVec.getLsbD_xor]

/-- times X -/
def t128 (v : BitVec 128) : BitVec 128 := (v >>> 1) ^^^ (if v.getLsbD 0 then (225#128 <<< 120) else 0#128)
theorem t128_lin (a b : BitVec 128) : t128 (a ^^^ b) = t128 a ^^^ t128 b := by
  unfold t128
  rw [BitVec.ushiftRight_xor_distrib, BitVec.getLsbD_xor, xor_ite, xor4]
def o128 : BitVec 128 := 1#128 <<< 127
theorem it128 : ∀ i : Fin 128, it t128 i.val o128 = 1#128 <<< (127 - i.val) := by decide +kernel
theorem h128 (v : BitVec 128) : ∀ k, k ≤ 128 → ∀ j, j < 128 → (gs t128 (fun i => v.getMsbD i) k o128).getLsbD j = (v.getLsbD j && decide (128 ≤ j + k))
  | 0, _, j, hj => by simp [gs]; omega
  | k + 1, hk, j, hj => by
    simp only [gs]
    rw [BitVec.getLsbD_xor, h128 v k (by omega) j hj, it128 ⟨k, by omega⟩]
    have e : v.getMsbD k = v.getLsbD (127 - k) := by simp [BitVec.getMsbD]; omega
    simp only [e]
    by_cases h : j = 127 - k
    · subst h
      have e1 : ((1#128 <<< (127 - k)).getLsbD (127 - k)) = true := by simp [BitVec.getLsbD_shiftLeft]; omega
      by_cases hv : v.getLsbD (127 - k) = true
      · rw [if_pos hv, e1, hv]
        simp [show ¬ 128 ≤ 127 - k + k by omega, show 128 ≤ 127 - k + (k + 1) by omega]
      · rw [if_neg hv]
        simp [hv]
    · have e1 : ((1#128 <<< (127 - k)).getLsbD j) = false := by
        rw [BitVec.getLsbD_shiftLeft, BitVec.getLsbD_one]
        simp; omega
      have e2 : (if v.getLsbD (127 - k) = true then 1#128 <<< (127 - k) else 0#128).getLsbD j = false := by
        split
        · exact e1
        · simp
      rw [e2]
      simp only [Bool.bne_false]
      congr 1
      rw [decide_eq_decide]
      omega
def F128 : Fld 128 := ⟨t128, t128_lin, fun v i => v.getMsbD i, fun a b i => BitVec.getMsbD_xor, o128, fun v => by
  apply BitVec.eq_of_getLsbD_eq
  intro j hj
  rw [h128 v 128 (Nat.le_refl _) j hj]
  simp⟩
end Go.Proofs.Ytbiolfeincepoaa.Eng
