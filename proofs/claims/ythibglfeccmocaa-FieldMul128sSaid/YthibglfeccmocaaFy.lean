/- The law of chapter 3 on the product of blocks: it returns true, as the program reckons it. -/
import Derived.Test.YthibglfeccmocaaFd
import Derived.Test.YthibglfeccmocaaTb
namespace Go.Proofs.Ythibglfeccmocaa.Eng
open Go Go.RowKit
set_option linter.unusedSimpArgs false
set_option linter.unusedVariables false

theorem law_fieldMul128s (x y : List (BitVec 8)) (hx : x.length = 16) (hy : y.length = 16) : callVC Try.prog 6 [.agg (bS x), .agg (bS y)] [] (fun v _ => v = .b true) := by
  refine fn_rule tabOK Try.func6 rfl Try.call6 (by kernel_rfl) (fun hM => ?_)
  (refine top_in ?_; simp -implicitDefEqProofs only [Try.ntmps6, Try.results6, go_sem, -List.reduceReplicate, ↓L_gdZ_tt, ↓L_gdZ_tf, ↓L_gdZ_ft, ↓L_gdZ_ff, ↓T_and, ↓T_imp, ↓T_all, Nat.reduceBEq, Nat.reduceAdd, Nat.reduceSub, Nat.reduceMul, Nat.reduceLT, Nat.reduceLeDiff, Nat.reduceEqDiff, Int.reduceLT, Int.reduceLE, Int.reduceAdd, Int.reduceSub, Int.reduceMul, Int.reduceNeg, Int.reduceToNat, Int.reduceEq, Int.reduceNe, reduceIte, reduceCtorEq, BitVec.reduceOfInt, BitVec.reduceToNat, hx, hy]; try simp only [top_out])
  refine mul128_ok _ _ hx hy _ _ ?_
  (refine top_in ?_; simp -implicitDefEqProofs only [go_sem, -List.reduceReplicate, ↓L_gdZ_tt, ↓L_gdZ_tf, ↓L_gdZ_ft, ↓L_gdZ_ff, ↓T_and, ↓T_imp, ↓T_all, Nat.reduceBEq, Nat.reduceAdd, Nat.reduceSub, Nat.reduceMul, Nat.reduceLT, Nat.reduceLeDiff, Nat.reduceEqDiff, Int.reduceLT, Int.reduceLE, Int.reduceAdd, Int.reduceSub, Int.reduceMul, Int.reduceNeg, Int.reduceToNat, Int.reduceEq, Int.reduceNe, reduceIte, reduceCtorEq, BitVec.reduceOfInt, BitVec.reduceToNat, hx, hy, mulL_len]; try simp only [top_out])
  refine refmul128_ok _ _ hx hy _ _ ?_
  rw [ref128 x y hy]
  (refine top_in ?_; simp -implicitDefEqProofs only [go_sem, -List.reduceReplicate, ↓L_gdZ_tt, ↓L_gdZ_tf, ↓L_gdZ_ft, ↓L_gdZ_ff, ↓T_and, ↓T_imp, ↓T_all, Nat.reduceBEq, Nat.reduceAdd, Nat.reduceSub, Nat.reduceMul, Nat.reduceLT, Nat.reduceLeDiff, Nat.reduceEqDiff, Int.reduceLT, Int.reduceLE, Int.reduceAdd, Int.reduceSub, Int.reduceMul, Int.reduceNeg, Int.reduceToNat, Int.reduceEq, Int.reduceNe, reduceIte, reduceCtorEq, BitVec.reduceOfInt, BitVec.reduceToNat, hx, hy, mulL_len]; try simp only [top_out])
  refine first_ok _ _ ?_
  (refine top_in ?_; simp -implicitDefEqProofs only [go_sem, -List.reduceReplicate, ↓L_gdZ_tt, ↓L_gdZ_tf, ↓L_gdZ_ft, ↓L_gdZ_ff, ↓T_and, ↓T_imp, ↓T_all, Nat.reduceBEq, Nat.reduceAdd, Nat.reduceSub, Nat.reduceMul, Nat.reduceLT, Nat.reduceLeDiff, Nat.reduceEqDiff, Int.reduceLT, Int.reduceLE, Int.reduceAdd, Int.reduceSub, Int.reduceMul, Int.reduceNeg, Int.reduceToNat, Int.reduceEq, Int.reduceNe, reduceIte, reduceCtorEq, BitVec.reduceOfInt, BitVec.reduceToNat]; try simp only [top_out])
  exact drop0 rfl rfl
end Go.Proofs.Ythibglfeccmocaa.Eng
