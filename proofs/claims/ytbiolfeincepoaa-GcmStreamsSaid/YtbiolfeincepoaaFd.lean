/- The product of blocks as the program reckons it, and the document's, are the product of 128 bits. -/
import Derived.Test.YtbiolfeincepoaaFc
namespace Go.Proofs.Ytbiolfeincepoaa.Eng
open Go
set_option linter.unusedSimpArgs false
set_option linter.unusedVariables false

theorem byte1 (b : BitVec 8) (k : Nat) : ((b >>> k) &&& 1#8) = if b.getLsbD k then 1#8 else 0#8 := by
  apply BitVec.eq_of_getLsbD_eq
  intro i hi
  simp only [BitVec.getLsbD_and, BitVec.getLsbD_ushiftRight]
  by_cases h0 : i = 0
  · subst h0; cases h : b.getLsbD k <;> simp [h]
  · have : (1#8).getLsbD i = false := by simp [BitVec.getLsbD_one]; omega
    rw [this, Bool.and_false]
    cases b.getLsbD k <;> simp [BitVec.getLsbD_one]; omega
theorem word1 (b : BitVec 64) : (b &&& 1#64) = if b.getLsbD 0 then 1#64 else 0#64 := by
  apply BitVec.eq_of_getLsbD_eq
  intro i hi
  simp only [BitVec.getLsbD_and]
  by_cases h0 : i = 0
  · subst h0; cases h : b.getLsbD 0 <;> simp [h]
  · have : (1#64).getLsbD i = false := by simp [BitVec.getLsbD_one]; omega
    rw [this, Bool.and_false]
    cases b.getLsbD 0 <;> simp [BitVec.getLsbD_one]; omega
theorem toB_msb (x : List (BitVec 8)) (i : Nat) (hi : i < 128) : (toB x).getMsbD i = (x.getD (i / 8) 0#8).getLsbD (7 - i % 8) := by
  rw [BitVec.getMsbD, toB_bit _ _ (by omega)]
  rw [show 15 - (128 - 1 - i) / 8 = i / 8 by omega, show (128 - 1 - i) % 8 = 7 - i % 8 by omega]
  simp [hi]
theorem xb_bit (x : List (BitVec 8)) (i : Nat) (hi : i < 128) : xb x i = (toB x).getMsbD i := by
  unfold xb
  rw [byte1, toB_msb _ _ hi]
  cases (x.getD (i / 8) 0#8).getLsbD (7 - i % 8) <;> decide

theorem tAB (a b : BitVec 64) : tA a b ++ tB a b = t128 (a ++ b) := by
  have hA : tA a b = (a >>> 1) ^^^ (if b.getLsbD 0 then 16212958658533785600#64 else 0#64) := by
    unfold tA
    rw [word1]
    cases b.getLsbD 0 <;> simp
  have h0 : (a ++ b).getLsbD 0 = b.getLsbD 0 := by rw [BitVec.getLsbD_append]; simp
  have hR : (225#128 <<< 120) = (16212958658533785600#64 ++ 0#64 : BitVec 128) := by decide +kernel
  have hx : ∀ p q r s : BitVec 64, (p ^^^ q) ++ (r ^^^ s) = (p ++ r) ^^^ (q ++ s) := fun p q r s => by rw [BitVec.xor_append]
  have hs : (a ++ b) >>> 1 = (a >>> 1) ++ tB a b := by
    apply BitVec.eq_of_getLsbD_eq
    intro j hj
    unfold tB
    rw [BitVec.getLsbD_ushiftRight, BitVec.getLsbD_append, BitVec.getLsbD_append, BitVec.getLsbD_or, BitVec.getLsbD_ushiftRight, BitVec.getLsbD_ushiftRight, BitVec.getLsbD_shiftLeft]
    by_cases h1 : j < 63
    · simp [show 1 + j < 64 by omega, show j < 64 by omega, h1]
    · by_cases h2 : j = 63
      · subst h2; simp
      · have e : b.getLsbD (1 + j) = false := BitVec.getLsbD_of_ge _ _ (by omega)
        simp [show ¬ 1 + j < 64 by omega, show ¬ j < 64 by omega]
        congr 1; omega
  rw [hA]
  by_cases hb : b.getLsbD 0 = true
  · rw [if_pos hb]
    unfold t128
    rw [h0, if_pos hb, hs, hR]
    have hxx := hx (a >>> 1) 16212958658533785600#64 (tB a b) 0#64
    rw [BitVec.xor_zero] at hxx
    exact hxx
  · rw [if_neg hb]
    unfold t128
    rw [h0, if_neg hb, hs, BitVec.xor_zero, BitVec.xor_zero]

theorem mulN_it (x : List (BitVec 8)) (a b : BitVec 64) : ∀ k, k ≤ 128 → (mulN x a b k).2.2.1 ++ (mulN x a b k).2.2.2 = it t128 k (a ++ b) ∧ (mulN x a b k).1 ++ (mulN x a b k).2.1 = gs t128 (fun i => (toB x).getMsbD i) k (a ++ b)
  | 0, _ => ⟨rfl, by simp only [mulN, gs]; decide⟩
  | k + 1, hk => by
    obtain ⟨h1, h2⟩ := mulN_it x a b k (by omega)
    simp only [mulN, it, gs]
    refine ⟨by rw [tAB, h1], ?_⟩
    rw [xb_bit x k (by omega), ← h2, ← h1]
    by_cases h : (toB x).getMsbD k = true
    · rw [if_pos h, if_pos h, if_pos h, BitVec.xor_append]
    · rw [if_neg h, if_neg h, if_neg h, BitVec.xor_zero]

theorem toL_app (hi lo : BitVec 64) : outL hi lo = toL (hi ++ lo) := by
  unfold outL toL
  refine gl_ext fun i h => ?_
  apply BitVec.eq_of_getLsbD_eq
  intro j hj
  rw [BitVec.getLsbD_setWidth, BitVec.getLsbD_ushiftRight, BitVec.getLsbD_append]
  by_cases h8 : i < 8
  · rw [if_pos h8, BitVec.getLsbD_setWidth, BitVec.getLsbD_ushiftRight]
    simp [show ¬ 120 - 8 * i + j < 64 by omega, hj]
    congr 1; omega
  · rw [if_neg h8, BitVec.getLsbD_setWidth, BitVec.getLsbD_ushiftRight]
    rw [show 56 - 8 * (i - 8) + j = 120 - 8 * i + j by omega]
    simp [show 120 - 8 * i + j < 64 by omega, hj]

theorem mulL_F (x y : List (BitVec 8)) : mulL x y = toL (F128.mul (toB x) (toB y)) := by
  unfold mulL
  rw [toL_app, (mulN_it x _ _ 128 (Nat.le_refl _)).2]
  rfl

theorem times_t (x : List (BitVec 8)) : toB (timesL x) = t128 (toB x) := by
  apply BitVec.eq_of_getLsbD_eq
  intro j hj
  rw [toB_bit _ _ hj]
  unfold timesL t128
  rw [gl_getD (by omega), BitVec.getLsbD_xor, BitVec.getLsbD_ushiftRight]
  have h0 : (toB x).getLsbD 0 = (x.getD 15 0#8).getLsbD 0 := toB_bit x 0 (by omega)
  have hb : (x.getD 15 0#8 &&& 1#8) = if (x.getD 15 0#8).getLsbD 0 then 1#8 else 0#8 := by
    have := byte1 (x.getD 15 0#8) 0
    rwa [BitVec.ushiftRight_zero] at this
  rw [h0, hb]
  have hR : ∀ j, j < 128 → (225#128 <<< 120).getLsbD j = (decide (120 ≤ j) && (225#8).getLsbD (j - 120)) := by
    have : ∀ j : Fin 128, (225#128 <<< 120).getLsbD j.val = (decide (120 ≤ j.val) && (225#8).getLsbD (j.val - 120)) := by decide +kernel
    exact fun j hj => this ⟨j, hj⟩
  by_cases h15 : 15 - j / 8 = 0
  · rw [if_pos h15]
    have hs : (toB x).getLsbD (1 + j) = (x.getD 0 0#8 >>> 1).getLsbD (j % 8) := by
      rw [BitVec.getLsbD_ushiftRight]
      by_cases h7 : j = 127
      · subst h7
        rw [BitVec.getLsbD_of_ge _ _ (by omega), BitVec.getLsbD_of_ge _ _ (by omega)]
      · rw [toB_bit _ _ (by omega), show 15 - (1 + j) / 8 = 0 by omega, show (1 + j) % 8 = 1 + j % 8 by omega]
    rw [hs]
    cases (x.getD 15 0#8).getLsbD 0
    · simp
    · simp only [if_true]
      rw [BitVec.getLsbD_xor, hR j hj, show j - 120 = j % 8 by omega]
      simp [show 120 ≤ j by omega]
  · rw [if_neg h15]
    have e : (if (x.getD 15 0#8).getLsbD 0 = true then 225#128 <<< 120 else 0#128).getLsbD j = false := by
      split
      · rw [hR j hj]; simp; omega
      · simp
    rw [e, Bool.xor_false, toB_bit _ _ (by omega), BitVec.getLsbD_or, BitVec.getLsbD_ushiftRight, BitVec.getLsbD_shiftLeft]
    by_cases h7 : j % 8 = 7
    · rw [h7, BitVec.getLsbD_of_ge _ (1 + 7) (by omega)]
      rw [show 15 - (1 + j) / 8 = 15 - j / 8 - 1 by omega, show (1 + j) % 8 = 0 by omega]
      simp
    · rw [show 15 - (1 + j) / 8 = 15 - j / 8 by omega, show (1 + j) % 8 = 1 + j % 8 by omega]
      simp [show j % 8 < 7 by omega]

theorem refN_F (x y : List (BitVec 8)) : ∀ k, k ≤ 128 → toB (refN x y k).2 = it t128 k (toB y) ∧ toB (refN x y k).1 = gs t128 (fun i => (toB x).getMsbD i) k (toB y)
  | 0, _ => ⟨rfl, by simp only [refN, gs]; decide +kernel⟩
  | k + 1, hk => by
    obtain ⟨h1, h2⟩ := refN_F x y k (by omega)
    simp only [refN, it, gs]
    refine ⟨by rw [times_t, h1], ?_⟩
    rw [byte1, ← toB_msb x k (by omega), ← h2, ← h1]
    by_cases h : (toB x).getMsbD k = true
    · rw [if_pos h, if_pos h, if_pos rfl, toB_xor]
    · rw [if_neg h, if_neg h, if_neg (by decide), BitVec.xor_zero]
theorem ref128 (x y : List (BitVec 8)) (hy : y.length = 16) : (refN x y 128).1 = mulL x y := by
  rw [mulL_F]
  refine toB_inj (refN_len x y hy 128).1 (toL_len _) ?_
  rw [toB_toL, (refN_F x y 128 (Nat.le_refl _)).2]
  rfl
end Go.Proofs.Ytbiolfeincepoaa.Eng
