/- The chapter's plain examples, as the program reckons them. -/
import Derived.Test.YthibglfeccmocaaT8
namespace Go.Proofs.Ythibglfeccmocaa.Eng
open Go Go.RowKit
set_option linter.unusedSimpArgs false
set_option linter.unusedVariables false

def fX : List (BitVec 8) := 64#8 :: List.replicate 15 0#8
def fY : List (BitVec 8) := List.replicate 15 0#8 ++ [1#8]
def fZ : List (BitVec 8) := 225#8 :: List.replicate 15 0#8
def fW : List (BitVec 8) := 64#8 :: List.replicate 14 0#8 ++ [1#8]
@[go_sem] theorem fX_len : fX.length = 16 := rfl
@[go_sem] theorem fY_len : fY.length = 16 := rfl
@[go_sem] theorem fZ_len : fZ.length = 16 := rfl
@[go_sem] theorem fW_len : fW.length = 16 := rfl
theorem mulL_len (x y : List (BitVec 8)) : (mulL x y).length = 16 := gl_len
theorem fsX : splice (bS (List.replicate 16 0#8)) 0 [SV.u8 64#8] = bS fX := rfl
theorem fsY : splice (bS (List.replicate 16 0#8)) 15 [SV.u8 1#8] = bS fY := rfl
theorem fsZ : splice (bS (List.replicate 16 0#8)) 0 [SV.u8 225#8] = bS fZ := rfl
theorem fsW : splice (bS fX) 15 [SV.u8 1#8] = bS fW := rfl
theorem fmul : mulL fX fY = fZ := by decide +kernel
theorem fxor : xorL fX fY = fW := by decide +kernel

theorem first_ok (M : List Blk) (K : SV → List Blk → Prop) (hK : K (.b true) M) :
    callVC Try.prog 13 [] M K := by
  refine fn_rule tabOK Try.func13 rfl Try.call13 (by kernel_rfl) (fun hM => ?_)
  (refine top_in ?_; simp -implicitDefEqProofs only [Try.ntmps13, Try.results13, go_sem, -List.reduceReplicate, ↓L_gdZ_tt, ↓L_gdZ_tf, ↓L_gdZ_ft, ↓L_gdZ_ff, ↓T_and, ↓T_imp, ↓T_all, Nat.reduceBEq, Nat.reduceAdd, Nat.reduceSub, Nat.reduceMul, Nat.reduceLT, Nat.reduceLeDiff, Nat.reduceEqDiff, Int.reduceLT, Int.reduceLE, Int.reduceAdd, Int.reduceSub, Int.reduceMul, Int.reduceNeg, Int.reduceToNat, Int.reduceEq, Int.reduceNe, reduceIte, reduceCtorEq, BitVec.reduceOfInt, BitVec.reduceToNat]; try simp only [top_out])
  refine mul8_ok _ _ _ _ ?_
  rw [show mul8L 8 60#8 165#8 0#8 = 36#8 by decide +kernel]
  (refine top_in ?_; simp -implicitDefEqProofs only [go_sem, -List.reduceReplicate, ↓L_gdZ_tt, ↓L_gdZ_tf, ↓L_gdZ_ft, ↓L_gdZ_ff, ↓T_and, ↓T_imp, ↓T_all, Nat.reduceBEq, Nat.reduceAdd, Nat.reduceSub, Nat.reduceMul, Nat.reduceLT, Nat.reduceLeDiff, Nat.reduceEqDiff, Int.reduceLT, Int.reduceLE, Int.reduceAdd, Int.reduceSub, Int.reduceMul, Int.reduceNeg, Int.reduceToNat, Int.reduceEq, Int.reduceNe, reduceIte, reduceCtorEq, BitVec.reduceOfInt, BitVec.reduceToNat]; try simp only [top_out])
  refine inv8_ok _ _ _ ?_
  rw [show inv8 60#8 = 119#8 by decide +kernel]
  (refine top_in ?_; simp -implicitDefEqProofs only [go_sem, -List.reduceReplicate, ↓L_gdZ_tt, ↓L_gdZ_tf, ↓L_gdZ_ft, ↓L_gdZ_ff, ↓T_and, ↓T_imp, ↓T_all, Nat.reduceBEq, Nat.reduceAdd, Nat.reduceSub, Nat.reduceMul, Nat.reduceLT, Nat.reduceLeDiff, Nat.reduceEqDiff, Int.reduceLT, Int.reduceLE, Int.reduceAdd, Int.reduceSub, Int.reduceMul, Int.reduceNeg, Int.reduceToNat, Int.reduceEq, Int.reduceNe, reduceIte, reduceCtorEq, BitVec.reduceOfInt, BitVec.reduceToNat, fsX, fsY]; try simp only [top_out])
  refine mul128_ok _ _ fX_len fY_len _ _ ?_
  rw [fmul]
  (refine top_in ?_; simp -implicitDefEqProofs only [go_sem, -List.reduceReplicate, ↓L_gdZ_tt, ↓L_gdZ_tf, ↓L_gdZ_ft, ↓L_gdZ_ff, ↓T_and, ↓T_imp, ↓T_all, Nat.reduceBEq, Nat.reduceAdd, Nat.reduceSub, Nat.reduceMul, Nat.reduceLT, Nat.reduceLeDiff, Nat.reduceEqDiff, Int.reduceLT, Int.reduceLE, Int.reduceAdd, Int.reduceSub, Int.reduceMul, Int.reduceNeg, Int.reduceToNat, Int.reduceEq, Int.reduceNe, reduceIte, reduceCtorEq, BitVec.reduceOfInt, BitVec.reduceToNat]; try simp only [top_out])
  refine xor_ok _ _ fX_len fY_len _ _ ?_
  rw [fxor]
  (refine top_in ?_; simp -implicitDefEqProofs only [go_sem, -List.reduceReplicate, ↓L_gdZ_tt, ↓L_gdZ_tf, ↓L_gdZ_ft, ↓L_gdZ_ff, ↓T_and, ↓T_imp, ↓T_all, Nat.reduceBEq, Nat.reduceAdd, Nat.reduceSub, Nat.reduceMul, Nat.reduceLT, Nat.reduceLeDiff, Nat.reduceEqDiff, Int.reduceLT, Int.reduceLE, Int.reduceAdd, Int.reduceSub, Int.reduceMul, Int.reduceNeg, Int.reduceToNat, Int.reduceEq, Int.reduceNe, reduceIte, reduceCtorEq, BitVec.reduceOfInt, BitVec.reduceToNat, fsX, fsZ, fsW]; try simp only [top_out])
  exact dropC_append hM rfl hK
end Go.Proofs.Ythibglfeccmocaa.Eng
