/- The field's laws over blocks: the law of chapter 3 returns true, as the program reckons it. -/
import Derived.Test.YthibglfeccmocaaFx
namespace Go.Proofs.Ythibglfeccmocaa.Eng
open Go Go.RowKit
set_option linter.unusedSimpArgs false
set_option linter.unusedVariables false

def oneL : List (BitVec 8) := 128#8 :: List.replicate 15 0#8
theorem oneL_len : oneL.length = 16 := rfl
theorem fsO : splice (bS (List.replicate 16 0#8)) 0 [SV.u8 128#8] = bS oneL := rfl
theorem toB_one : toB oneL = o128 := by decide +kernel
theorem mulL_one (x : List (BitVec 8)) (hx : x.length = 16) : mulL x oneL = x := by
  rw [mulL_F, toB_one, show F128.mul (toB x) o128 = toB x from F128.mul_one _, toL_toB x hx]
theorem mulL_comm (x y : List (BitVec 8)) : mulL x y = mulL y x := by rw [mulL_F, mulL_F, F128.mul_comm]
theorem mulL_assoc (x y z : List (BitVec 8)) : mulL (mulL x y) z = mulL x (mulL y z) := by
  rw [mulL_F, mulL_F x y, toB_toL, mulL_F x, mulL_F y z, toB_toL, F128.mul_assoc]
theorem mulL_xor (x y z : List (BitVec 8)) : mulL x (xorL y z) = xorL (mulL x y) (mulL x z) := by
  rw [mulL_F, toB_xor, F128.mul_xor, xorL_L, mulL_F, mulL_F, toB_toL, toB_toL]
theorem mulL_zero (x y : List (BitVec 8)) (hx : x.length = 16) (hy : y.length = 16) : (mulL x y == List.replicate 16 0#8) = (x == List.replicate 16 0#8 || y == List.replicate 16 0#8) := by
  have hz : toB (List.replicate 16 0#8) = 0#128 := by decide +kernel
  have h1 : ∀ l : List (BitVec 8), l.length = 16 → (l = List.replicate 16 0#8 ↔ toB l = 0#128) := fun l hl =>
    ⟨fun e => by rw [e, hz], fun e => toB_inj hl rfl (by rw [e, hz])⟩
  rw [Bool.eq_iff_iff]
  simp only [Bool.or_eq_true, beq_iff_eq]
  rw [h1 _ (mulL_len _ _), h1 x hx, h1 y hy, mulL_F, toB_toL]
  exact ⟨no_zero _ _, fun h => by rcases h with h | h <;> rw [h]; exact F128.zero_mul _; exact F128.mul_zero _⟩

set_option maxRecDepth 50000 in
set_option maxHeartbeats 2000000 in
theorem law_fieldLaws128 (x y z : List (BitVec 8)) (hx : x.length = 16) (hy : y.length = 16) (hz : z.length = 16) : callVC Try.prog 8 [.agg (bS x), .agg (bS y), .agg (bS z)] [] (fun v _ => v = .b true) := by
  refine fn_rule tabOK Try.func8 rfl Try.call8 (by kernel_rfl) (fun hM => ?_)
  (refine top_in ?_; simp -implicitDefEqProofs only [Try.ntmps8, Try.results8, go_sem, -List.reduceReplicate, ↓L_gdZ_tt, ↓L_gdZ_tf, ↓L_gdZ_ft, ↓L_gdZ_ff, ↓T_and, ↓T_imp, ↓T_all, Nat.reduceBEq, Nat.reduceAdd, Nat.reduceSub, Nat.reduceMul, Nat.reduceLT, Nat.reduceLeDiff, Nat.reduceEqDiff, Int.reduceLT, Int.reduceLE, Int.reduceAdd, Int.reduceSub, Int.reduceMul, Int.reduceNeg, Int.reduceToNat, Int.reduceEq, Int.reduceNe, reduceIte, reduceCtorEq, BitVec.reduceOfInt, BitVec.reduceToNat, hx, hy, hz]; try simp only [top_out])
  refine first_ok _ _ ?_
  (refine top_in ?_; simp -implicitDefEqProofs only [go_sem, -List.reduceReplicate, ↓L_gdZ_tt, ↓L_gdZ_tf, ↓L_gdZ_ft, ↓L_gdZ_ff, ↓T_and, ↓T_imp, ↓T_all, Nat.reduceBEq, Nat.reduceAdd, Nat.reduceSub, Nat.reduceMul, Nat.reduceLT, Nat.reduceLeDiff, Nat.reduceEqDiff, Int.reduceLT, Int.reduceLE, Int.reduceAdd, Int.reduceSub, Int.reduceMul, Int.reduceNeg, Int.reduceToNat, Int.reduceEq, Int.reduceNe, reduceIte, reduceCtorEq, BitVec.reduceOfInt, BitVec.reduceToNat, hx, hy, hz]; try simp only [top_out])
  refine mul128_ok _ _ hx hy _ _ ?_
  (refine top_in ?_; simp -implicitDefEqProofs only [go_sem, -List.reduceReplicate, ↓L_gdZ_tt, ↓L_gdZ_tf, ↓L_gdZ_ft, ↓L_gdZ_ff, ↓T_and, ↓T_imp, ↓T_all, Nat.reduceBEq, Nat.reduceAdd, Nat.reduceSub, Nat.reduceMul, Nat.reduceLT, Nat.reduceLeDiff, Nat.reduceEqDiff, Int.reduceLT, Int.reduceLE, Int.reduceAdd, Int.reduceSub, Int.reduceMul, Int.reduceNeg, Int.reduceToNat, Int.reduceEq, Int.reduceNe, reduceIte, reduceCtorEq, BitVec.reduceOfInt, BitVec.reduceToNat, hx, hy, hz, mulL_len]; try simp only [top_out])
  refine mul128_ok _ _ hy hx _ _ ?_
  rw [mulL_comm y x]
  (refine top_in ?_; simp -implicitDefEqProofs only [go_sem, -List.reduceReplicate, ↓L_gdZ_tt, ↓L_gdZ_tf, ↓L_gdZ_ft, ↓L_gdZ_ff, ↓T_and, ↓T_imp, ↓T_all, Nat.reduceBEq, Nat.reduceAdd, Nat.reduceSub, Nat.reduceMul, Nat.reduceLT, Nat.reduceLeDiff, Nat.reduceEqDiff, Int.reduceLT, Int.reduceLE, Int.reduceAdd, Int.reduceSub, Int.reduceMul, Int.reduceNeg, Int.reduceToNat, Int.reduceEq, Int.reduceNe, reduceIte, reduceCtorEq, BitVec.reduceOfInt, BitVec.reduceToNat, hx, hy, hz, mulL_len]; try simp only [top_out])
  refine mul128_ok _ _ hy hz _ _ ?_
  (refine top_in ?_; simp -implicitDefEqProofs only [go_sem, -List.reduceReplicate, ↓L_gdZ_tt, ↓L_gdZ_tf, ↓L_gdZ_ft, ↓L_gdZ_ff, ↓T_and, ↓T_imp, ↓T_all, Nat.reduceBEq, Nat.reduceAdd, Nat.reduceSub, Nat.reduceMul, Nat.reduceLT, Nat.reduceLeDiff, Nat.reduceEqDiff, Int.reduceLT, Int.reduceLE, Int.reduceAdd, Int.reduceSub, Int.reduceMul, Int.reduceNeg, Int.reduceToNat, Int.reduceEq, Int.reduceNe, reduceIte, reduceCtorEq, BitVec.reduceOfInt, BitVec.reduceToNat, hx, hy, hz, mulL_len]; try simp only [top_out])
  refine mul128_ok _ _ (mulL_len x y) hz _ _ ?_
  rw [mulL_assoc]
  (refine top_in ?_; simp -implicitDefEqProofs only [go_sem, -List.reduceReplicate, ↓L_gdZ_tt, ↓L_gdZ_tf, ↓L_gdZ_ft, ↓L_gdZ_ff, ↓T_and, ↓T_imp, ↓T_all, Nat.reduceBEq, Nat.reduceAdd, Nat.reduceSub, Nat.reduceMul, Nat.reduceLT, Nat.reduceLeDiff, Nat.reduceEqDiff, Int.reduceLT, Int.reduceLE, Int.reduceAdd, Int.reduceSub, Int.reduceMul, Int.reduceNeg, Int.reduceToNat, Int.reduceEq, Int.reduceNe, reduceIte, reduceCtorEq, BitVec.reduceOfInt, BitVec.reduceToNat, hx, hy, hz, mulL_len]; try simp only [top_out])
  refine mul128_ok _ _ hx (mulL_len y z) _ _ ?_
  (refine top_in ?_; simp -implicitDefEqProofs only [go_sem, -List.reduceReplicate, ↓L_gdZ_tt, ↓L_gdZ_tf, ↓L_gdZ_ft, ↓L_gdZ_ff, ↓T_and, ↓T_imp, ↓T_all, Nat.reduceBEq, Nat.reduceAdd, Nat.reduceSub, Nat.reduceMul, Nat.reduceLT, Nat.reduceLeDiff, Nat.reduceEqDiff, Int.reduceLT, Int.reduceLE, Int.reduceAdd, Int.reduceSub, Int.reduceMul, Int.reduceNeg, Int.reduceToNat, Int.reduceEq, Int.reduceNe, reduceIte, reduceCtorEq, BitVec.reduceOfInt, BitVec.reduceToNat, hx, hy, hz, mulL_len]; try simp only [top_out])
  refine draw_rule tabOK (by kernel_rfl : _) (.p 0 (.p 1 (.p 2 (.e 3 [0] (.e 4 [] (.e 5 [0, 1, 2] (.e 6 [] .nil .no) .no) (.e 5 [0, 1, 2] (.e 4 [] (.e 6 [] .nil .no) .no) .no)) (.e 5 [0, 1, 2] (.e 3 [0] (.e 4 [] (.e 6 [] .nil .no) .no) .no) .no))))) (by kernel_rfl) (by kernel_rfl) ?_
  (refine top_in ?_; simp -implicitDefEqProofs only [go_sem, -List.reduceReplicate, ↓L_gdZ_tt, ↓L_gdZ_tf, ↓L_gdZ_ft, ↓L_gdZ_ff, ↓T_and, ↓T_imp, ↓T_all, Nat.reduceBEq, Nat.reduceAdd, Nat.reduceSub, Nat.reduceMul, Nat.reduceLT, Nat.reduceLeDiff, Nat.reduceEqDiff, Int.reduceLT, Int.reduceLE, Int.reduceAdd, Int.reduceSub, Int.reduceMul, Int.reduceNeg, Int.reduceToNat, Int.reduceEq, Int.reduceNe, reduceIte, reduceCtorEq, BitVec.reduceOfInt, BitVec.reduceToNat, hx, hy, hz, mulL_len]; try simp only [top_out])
  have hyz : (xorL y z).length = 16 := xorL_len y z
  refine ⟨?_, ?_⟩
  · refine xor_ok _ _ hy hz _ _ ?_
    (refine top_in ?_; simp -implicitDefEqProofs only [go_sem, -List.reduceReplicate, ↓L_gdZ_tt, ↓L_gdZ_tf, ↓L_gdZ_ft, ↓L_gdZ_ff, ↓T_and, ↓T_imp, ↓T_all, Nat.reduceBEq, Nat.reduceAdd, Nat.reduceSub, Nat.reduceMul, Nat.reduceLT, Nat.reduceLeDiff, Nat.reduceEqDiff, Int.reduceLT, Int.reduceLE, Int.reduceAdd, Int.reduceSub, Int.reduceMul, Int.reduceNeg, Int.reduceToNat, Int.reduceEq, Int.reduceNe, reduceIte, reduceCtorEq, BitVec.reduceOfInt, BitVec.reduceToNat, hx, hy, hz, mulL_len]; try simp only [top_out])
    refine ⟨?_, ?_⟩
    all_goals
      refine mul128_ok _ _ hx hyz _ _ ?_
      (refine top_in ?_; simp -implicitDefEqProofs only [go_sem, -List.reduceReplicate, ↓L_gdZ_tt, ↓L_gdZ_tf, ↓L_gdZ_ft, ↓L_gdZ_ff, ↓T_and, ↓T_imp, ↓T_all, Nat.reduceBEq, Nat.reduceAdd, Nat.reduceSub, Nat.reduceMul, Nat.reduceLT, Nat.reduceLeDiff, Nat.reduceEqDiff, Int.reduceLT, Int.reduceLE, Int.reduceAdd, Int.reduceSub, Int.reduceMul, Int.reduceNeg, Int.reduceToNat, Int.reduceEq, Int.reduceNe, reduceIte, reduceCtorEq, BitVec.reduceOfInt, BitVec.reduceToNat, hx, hy, hz, mulL_len, hyz]; try simp only [top_out])
      refine mul128_ok _ _ hx hz _ _ ?_
      (refine top_in ?_; simp -implicitDefEqProofs only [go_sem, -List.reduceReplicate, ↓L_gdZ_tt, ↓L_gdZ_tf, ↓L_gdZ_ft, ↓L_gdZ_ff, ↓T_and, ↓T_imp, ↓T_all, Nat.reduceBEq, Nat.reduceAdd, Nat.reduceSub, Nat.reduceMul, Nat.reduceLT, Nat.reduceLeDiff, Nat.reduceEqDiff, Int.reduceLT, Int.reduceLE, Int.reduceAdd, Int.reduceSub, Int.reduceMul, Int.reduceNeg, Int.reduceToNat, Int.reduceEq, Int.reduceNe, reduceIte, reduceCtorEq, BitVec.reduceOfInt, BitVec.reduceToNat, hx, hy, hz, mulL_len, hyz]; try simp only [top_out])
      refine xor_ok _ _ (mulL_len _ _) (mulL_len _ _) _ _ ?_
      rw [← mulL_xor]
      (refine top_in ?_; simp -implicitDefEqProofs only [go_sem, -List.reduceReplicate, ↓L_gdZ_tt, ↓L_gdZ_tf, ↓L_gdZ_ft, ↓L_gdZ_ff, ↓T_and, ↓T_imp, ↓T_all, Nat.reduceBEq, Nat.reduceAdd, Nat.reduceSub, Nat.reduceMul, Nat.reduceLT, Nat.reduceLeDiff, Nat.reduceEqDiff, Int.reduceLT, Int.reduceLE, Int.reduceAdd, Int.reduceSub, Int.reduceMul, Int.reduceNeg, Int.reduceToNat, Int.reduceEq, Int.reduceNe, reduceIte, reduceCtorEq, BitVec.reduceOfInt, BitVec.reduceToNat, hx, hy, hz, mulL_len, hyz, fsO, oneL_len]; try simp only [top_out])
      refine mul128_ok _ _ hx oneL_len _ _ ?_
      rw [mulL_one x hx]
      (refine top_in ?_; simp -implicitDefEqProofs only [go_sem, -List.reduceReplicate, ↓L_gdZ_tt, ↓L_gdZ_tf, ↓L_gdZ_ft, ↓L_gdZ_ff, ↓T_and, ↓T_imp, ↓T_all, Nat.reduceBEq, Nat.reduceAdd, Nat.reduceSub, Nat.reduceMul, Nat.reduceLT, Nat.reduceLeDiff, Nat.reduceEqDiff, Int.reduceLT, Int.reduceLE, Int.reduceAdd, Int.reduceSub, Int.reduceMul, Int.reduceNeg, Int.reduceToNat, Int.reduceEq, Int.reduceNe, reduceIte, reduceCtorEq, BitVec.reduceOfInt, BitVec.reduceToNat, hx, hy, hz, mulL_len, hyz, oneL_len]; try simp only [top_out])
      refine draw_rule tabOK (by kernel_rfl : _) (.p 0 (.p 1 (.p 2 (.p 3 (.p 4 (.p 5 (.p 6 (.p 7 (.p 8 (.p 9 (.p 10 (.p 11 (.p 12 (.p 13 (.p 14 (.p 15 (.p 16 (.p 17 (.p 18 (.p 19 (.p 20 (.p 21 (.p 22 (.p 23 (.p 24 (.p 25 (.p 26 (.p 27 (.p 28 (.p 29 (.p 30 (.p 31 (.p 32 (.p 33 (.p 34 (.p 35 .nil)))))))))))))))))))))))))))))))))))) (by kernel_rfl) (by kernel_rfl) ?_
      (refine top_in ?_; simp -implicitDefEqProofs only [go_sem, -List.reduceReplicate, ↓L_gdZ_tt, ↓L_gdZ_tf, ↓L_gdZ_ft, ↓L_gdZ_ff, ↓T_and, ↓T_imp, ↓T_all, Nat.reduceBEq, Nat.reduceAdd, Nat.reduceSub, Nat.reduceMul, Nat.reduceLT, Nat.reduceLeDiff, Nat.reduceEqDiff, Int.reduceLT, Int.reduceLE, Int.reduceAdd, Int.reduceSub, Int.reduceMul, Int.reduceNeg, Int.reduceToNat, Int.reduceEq, Int.reduceNe, reduceIte, reduceCtorEq, BitVec.reduceOfInt, BitVec.reduceToNat, hx, hy, hz, mulL_len, hyz, oneL_len, mulL_zero x y hx hy]; try simp only [top_out])
      refine ⟨fun h => drop0 rfl ?_, fun h => drop0 rfl ?_⟩
      · rw [h]; simp
      · rw [h]; rfl
  · refine xor_ok _ _ hy hz _ _ ?_
    (refine top_in ?_; simp -implicitDefEqProofs only [go_sem, -List.reduceReplicate, ↓L_gdZ_tt, ↓L_gdZ_tf, ↓L_gdZ_ft, ↓L_gdZ_ff, ↓T_and, ↓T_imp, ↓T_all, Nat.reduceBEq, Nat.reduceAdd, Nat.reduceSub, Nat.reduceMul, Nat.reduceLT, Nat.reduceLeDiff, Nat.reduceEqDiff, Int.reduceLT, Int.reduceLE, Int.reduceAdd, Int.reduceSub, Int.reduceMul, Int.reduceNeg, Int.reduceToNat, Int.reduceEq, Int.reduceNe, reduceIte, reduceCtorEq, BitVec.reduceOfInt, BitVec.reduceToNat, hx, hy, hz, mulL_len]; try simp only [top_out])
    refine mul128_ok _ _ hx hyz _ _ ?_
    (refine top_in ?_; simp -implicitDefEqProofs only [go_sem, -List.reduceReplicate, ↓L_gdZ_tt, ↓L_gdZ_tf, ↓L_gdZ_ft, ↓L_gdZ_ff, ↓T_and, ↓T_imp, ↓T_all, Nat.reduceBEq, Nat.reduceAdd, Nat.reduceSub, Nat.reduceMul, Nat.reduceLT, Nat.reduceLeDiff, Nat.reduceEqDiff, Int.reduceLT, Int.reduceLE, Int.reduceAdd, Int.reduceSub, Int.reduceMul, Int.reduceNeg, Int.reduceToNat, Int.reduceEq, Int.reduceNe, reduceIte, reduceCtorEq, BitVec.reduceOfInt, BitVec.reduceToNat, hx, hy, hz, mulL_len, hyz]; try simp only [top_out])
    refine mul128_ok _ _ hx hz _ _ ?_
    (refine top_in ?_; simp -implicitDefEqProofs only [go_sem, -List.reduceReplicate, ↓L_gdZ_tt, ↓L_gdZ_tf, ↓L_gdZ_ft, ↓L_gdZ_ff, ↓T_and, ↓T_imp, ↓T_all, Nat.reduceBEq, Nat.reduceAdd, Nat.reduceSub, Nat.reduceMul, Nat.reduceLT, Nat.reduceLeDiff, Nat.reduceEqDiff, Int.reduceLT, Int.reduceLE, Int.reduceAdd, Int.reduceSub, Int.reduceMul, Int.reduceNeg, Int.reduceToNat, Int.reduceEq, Int.reduceNe, reduceIte, reduceCtorEq, BitVec.reduceOfInt, BitVec.reduceToNat, hx, hy, hz, mulL_len, hyz]; try simp only [top_out])
    refine xor_ok _ _ (mulL_len _ _) (mulL_len _ _) _ _ ?_
    rw [← mulL_xor]
    (refine top_in ?_; simp -implicitDefEqProofs only [go_sem, -List.reduceReplicate, ↓L_gdZ_tt, ↓L_gdZ_tf, ↓L_gdZ_ft, ↓L_gdZ_ff, ↓T_and, ↓T_imp, ↓T_all, Nat.reduceBEq, Nat.reduceAdd, Nat.reduceSub, Nat.reduceMul, Nat.reduceLT, Nat.reduceLeDiff, Nat.reduceEqDiff, Int.reduceLT, Int.reduceLE, Int.reduceAdd, Int.reduceSub, Int.reduceMul, Int.reduceNeg, Int.reduceToNat, Int.reduceEq, Int.reduceNe, reduceIte, reduceCtorEq, BitVec.reduceOfInt, BitVec.reduceToNat, hx, hy, hz, mulL_len, hyz, fsO, oneL_len]; try simp only [top_out])
    refine mul128_ok _ _ hx oneL_len _ _ ?_
    rw [mulL_one x hx]
    (refine top_in ?_; simp -implicitDefEqProofs only [go_sem, -List.reduceReplicate, ↓L_gdZ_tt, ↓L_gdZ_tf, ↓L_gdZ_ft, ↓L_gdZ_ff, ↓T_and, ↓T_imp, ↓T_all, Nat.reduceBEq, Nat.reduceAdd, Nat.reduceSub, Nat.reduceMul, Nat.reduceLT, Nat.reduceLeDiff, Nat.reduceEqDiff, Int.reduceLT, Int.reduceLE, Int.reduceAdd, Int.reduceSub, Int.reduceMul, Int.reduceNeg, Int.reduceToNat, Int.reduceEq, Int.reduceNe, reduceIte, reduceCtorEq, BitVec.reduceOfInt, BitVec.reduceToNat, hx, hy, hz, mulL_len, hyz, oneL_len]; try simp only [top_out])
    refine draw_rule tabOK (by kernel_rfl : _) (.p 0 (.p 1 (.p 2 (.p 3 (.p 4 (.p 5 (.p 6 (.p 7 (.p 8 (.p 9 (.p 10 (.p 11 (.p 12 (.p 13 (.p 14 (.p 15 (.p 16 (.p 17 (.p 18 (.p 19 (.p 20 (.p 21 (.p 22 (.p 23 (.p 24 (.p 25 (.p 26 (.p 27 (.p 28 (.p 29 (.p 30 (.p 31 (.p 32 (.p 33 (.p 34 (.p 35 .nil)))))))))))))))))))))))))))))))))))) (by kernel_rfl) (by kernel_rfl) ?_
    (refine top_in ?_; simp -implicitDefEqProofs only [go_sem, -List.reduceReplicate, ↓L_gdZ_tt, ↓L_gdZ_tf, ↓L_gdZ_ft, ↓L_gdZ_ff, ↓T_and, ↓T_imp, ↓T_all, Nat.reduceBEq, Nat.reduceAdd, Nat.reduceSub, Nat.reduceMul, Nat.reduceLT, Nat.reduceLeDiff, Nat.reduceEqDiff, Int.reduceLT, Int.reduceLE, Int.reduceAdd, Int.reduceSub, Int.reduceMul, Int.reduceNeg, Int.reduceToNat, Int.reduceEq, Int.reduceNe, reduceIte, reduceCtorEq, BitVec.reduceOfInt, BitVec.reduceToNat, hx, hy, hz, mulL_len, hyz, oneL_len, mulL_zero x y hx hy]; try simp only [top_out])
    refine ⟨fun h => drop0 rfl ?_, fun h => drop0 rfl ?_⟩
    · rw [h]; simp
    · rw [h]; rfl
end Go.Proofs.Ythibglfeccmocaa.Eng
