/- The document's sum of blocks, a block's halves, and a block's coefficients, as the program reckons them. -/
import Derived.Test.YtbiolfeincepoaaT4
namespace Go.Proofs.Ytbiolfeincepoaa.Eng
open Go Go.RowKit
set_option linter.unusedSimpArgs false
set_option linter.unusedVariables false

theorem refxor_ok (x y : List (BitVec 8)) (hx : x.length = 16) (hy : y.length = 16) (M : List Blk) (K : SV → List Blk → Prop) (hK : K (.agg (bS (xorL x y))) M) :
    callVC Try.prog 38 [.agg (bS x), .agg (bS y)] M K := by
  refine fn_rule tabOK Try.func38 rfl Try.call38 (by kernel_rfl) (fun hM => ?_)
  (refine top_in ?_; simp -implicitDefEqProofs only [Try.ntmps38, Try.results38, go_sem, -List.reduceReplicate, ↓L_gdZ_tt, ↓L_gdZ_tf, ↓L_gdZ_ft, ↓L_gdZ_ff, ↓T_and, ↓T_imp, ↓T_all, Nat.reduceBEq, Nat.reduceAdd, Nat.reduceSub, Nat.reduceMul, Nat.reduceLT, Nat.reduceLeDiff, Nat.reduceEqDiff, Int.reduceLT, Int.reduceLE, Int.reduceAdd, Int.reduceSub, Int.reduceMul, Int.reduceNeg, Int.reduceToNat, Int.reduceEq, Int.reduceNe, reduceIte, reduceCtorEq, BitVec.reduceOfInt, BitVec.reduceToNat, hx, hy]; try simp only [top_out])
  refine loop_code tabOK (by kernel_rfl) (fun n ts M' => ∃ (k : Nat), k + n = 16 ∧ frC [none, none, some (.p M.length 0), some (.p (M.length + 1) 0), some (.p (M.length + 2) 0), some (.p (M.length + 3) 0), some (.i .i64 k), none, none, none, none, none, none, none, none, none, none, none, none, none, none] ts ∧
     M' = M ++ [.row (bS x) 42, .row (bS y) 42, .row (bS (List.replicate 16 0#8)) 42, .row (bS (gl 16 fun j => if j < k then x.getD j 0#8 ^^^ y.getD j 0#8 else 0#8)) 42]) 16 ?_ ?_
  · refine ⟨0, rfl, by simp [frC], ?_⟩
    simp only [Nat.not_lt_zero, if_false, gl_const]
  · rintro n ts _ ⟨k, hk, hf, rfl⟩
    obtain ⟨f, rfl⟩ := frC_open _ _ 0 hf
    clear hf
    (refine top_in ?_; simp -implicitDefEqProofs only [go_sem, -List.reduceReplicate, ↓L_gdZ_tt, ↓L_gdZ_tf, ↓L_gdZ_ft, ↓L_gdZ_ff, ↓T_and, ↓T_imp, ↓T_all, Nat.reduceBEq, Nat.reduceAdd, Nat.reduceSub, Nat.reduceMul, Nat.reduceLT, Nat.reduceLeDiff, Nat.reduceEqDiff, Int.reduceLT, Int.reduceLE, Int.reduceAdd, Int.reduceSub, Int.reduceMul, Int.reduceNeg, Int.reduceToNat, Int.reduceEq, Int.reduceNe, reduceIte, reduceCtorEq, BitVec.reduceOfInt, BitVec.reduceToNat, hx, hy]; try simp only [top_out])
    refine ⟨fun h => ?_, fun h => ?_⟩
    · refine draw_rule tabOK (by kernel_rfl : _) (.p 0 (.p 1 (.p 2 (.p 3 (.p 4 (.p 5 (.p 6 (.p 7 (.p 8 (.e 9 [] .nil .no)))))))))) (by kernel_rfl) (by kernel_rfl) ?_
      (refine top_in ?_; simp -implicitDefEqProofs only [go_sem, -List.reduceReplicate, ↓L_gdZ_tt, ↓L_gdZ_tf, ↓L_gdZ_ft, ↓L_gdZ_ff, ↓T_and, ↓T_imp, ↓T_all, Nat.reduceBEq, Nat.reduceAdd, Nat.reduceSub, Nat.reduceMul, Nat.reduceLT, Nat.reduceLeDiff, Nat.reduceEqDiff, Int.reduceLT, Int.reduceLE, Int.reduceAdd, Int.reduceSub, Int.reduceMul, Int.reduceNeg, Int.reduceToNat, Int.reduceEq, Int.reduceNe, reduceIte, reduceCtorEq, BitVec.reduceOfInt, BitVec.reduceToNat, hx, hy]; try simp only [top_out])
      repeat' refine And.intro ?_ ?_
      any_goals omega
      refine ⟨n - 1, by omega, k + 1, by omega, by rw [w64 (by omega) (by omega)]; rfl, ?_⟩
      rw [gl_set]
      refine congrArg (fun l => M ++ [Blk.row (bS x) 42, Blk.row (bS y) 42, Blk.row (bS (List.replicate 16 0#8)) 42, Blk.row (bS l) 42]) (gl_ext fun i hi => ?_)
      split
      · subst_vars; rw [if_pos (by omega)]
      · split
        · rw [if_pos (by omega)]
        · rw [if_neg (by omega)]
    · obtain rfl : k = 16 := by omega
      refine dropC_append hM (bS_lt _ _) ?_
      have : (gl 16 fun j => if j < 16 then x.getD j 0#8 ^^^ y.getD j 0#8 else 0#8) = xorL x y := gl_ext fun i hi => if_pos hi
      rw [this]
      exact hK

/-- the first k of the eight bytes from a place, as a number -/
def halfN (x : List (BitVec 8)) (o : Nat) : Nat → BitVec 64
  | 0 => 0#64
  | k + 1 => halfN x o k <<< 8 ||| (x.getD (o + k) 0#8).setWidth 64

theorem half_ok (x : List (BitVec 8)) (hx : x.length = 16) (o : Nat) (ho : o ≤ 8) (M : List Blk) (K : SV → List Blk → Prop) (hK : K (.u64 (halfN x o 8)) M) :
    callVC Try.prog 43 [.agg (bS x), .i .i64 o] M K := by
  refine fn_rule tabOK Try.func43 rfl Try.call43 (by kernel_rfl) (fun hM => ?_)
  (refine top_in ?_; simp -implicitDefEqProofs only [Try.ntmps43, Try.results43, go_sem, -List.reduceReplicate, ↓L_gdZ_tt, ↓L_gdZ_tf, ↓L_gdZ_ft, ↓L_gdZ_ff, ↓T_and, ↓T_imp, ↓T_all, Nat.reduceBEq, Nat.reduceAdd, Nat.reduceSub, Nat.reduceMul, Nat.reduceLT, Nat.reduceLeDiff, Nat.reduceEqDiff, Int.reduceLT, Int.reduceLE, Int.reduceAdd, Int.reduceSub, Int.reduceMul, Int.reduceNeg, Int.reduceToNat, Int.reduceEq, Int.reduceNe, reduceIte, reduceCtorEq, BitVec.reduceOfInt, BitVec.reduceToNat, hx]; try simp only [top_out])
  refine loop_code tabOK (by kernel_rfl) (fun n ts M' => ∃ (k : Nat), k + n = 8 ∧ frC [none, some (.i .i64 o), some (.p M.length 0), none, none, some (.u64 (halfN x o k)), none, some (.i .i64 k), none, none, none, none, none, none, none, none, none, none, none, none, none] ts ∧
     M' = M ++ [.row (bS x) 42]) 8 ?_ ?_
  · exact ⟨0, rfl, by simp [frC, halfN], rfl⟩
  · rintro n ts _ ⟨k, hk, hf, rfl⟩
    obtain ⟨f, rfl⟩ := frC_open _ _ 0 hf
    clear hf
    (refine top_in ?_; simp -implicitDefEqProofs only [go_sem, -List.reduceReplicate, ↓L_gdZ_tt, ↓L_gdZ_tf, ↓L_gdZ_ft, ↓L_gdZ_ff, ↓T_and, ↓T_imp, ↓T_all, Nat.reduceBEq, Nat.reduceAdd, Nat.reduceSub, Nat.reduceMul, Nat.reduceLT, Nat.reduceLeDiff, Nat.reduceEqDiff, Int.reduceLT, Int.reduceLE, Int.reduceAdd, Int.reduceSub, Int.reduceMul, Int.reduceNeg, Int.reduceToNat, Int.reduceEq, Int.reduceNe, reduceIte, reduceCtorEq, BitVec.reduceOfInt, BitVec.reduceToNat, hx]; try simp only [top_out])
    refine ⟨fun h => ?_, fun h => ?_⟩
    · rw [w64 (x := (o : Int) + k) (by omega) (by omega), show ((o : Int) + k) = ((o + k : Nat) : Int) by omega, Int.toNat_natCast]
      repeat' refine And.intro ?_ ?_
      any_goals omega
      exact ⟨n - 1, by omega, k + 1, by omega, rfl, by rw [w64 (by omega) (by omega)]; rfl⟩
    · obtain rfl : k = 8 := by omega
      exact dropC_append hM rfl hK

theorem coef_ok (x : List (BitVec 8)) (hx : x.length = 16) (i : Nat) (hi : i < 128) (M : List Blk) (K : SV → List Blk → Prop) (hK : K (.u8 ((x.getD (i / 8) 0#8 >>> (7 - i % 8)) &&& 1#8)) M) :
    callVC Try.prog 50 [.agg (bS x), .i .i64 i] M K := by
  refine fn_rule tabOK Try.func50 rfl Try.call50 (by kernel_rfl) (fun hM => ?_)
  (refine top_in ?_; simp -implicitDefEqProofs only [Try.ntmps50, Try.results50, go_sem, -List.reduceReplicate, ↓L_gdZ_tt, ↓L_gdZ_tf, ↓L_gdZ_ft, ↓L_gdZ_ff, ↓T_and, ↓T_imp, ↓T_all, Nat.reduceBEq, Nat.reduceAdd, Nat.reduceSub, Nat.reduceMul, Nat.reduceLT, Nat.reduceLeDiff, Nat.reduceEqDiff, Int.reduceLT, Int.reduceLE, Int.reduceAdd, Int.reduceSub, Int.reduceMul, Int.reduceNeg, Int.reduceToNat, Int.reduceEq, Int.reduceNe, reduceIte, reduceCtorEq, BitVec.reduceOfInt, BitVec.reduceToNat, hx]; try simp only [top_out])
  rw [Int.tdiv_eq_ediv_of_nonneg (by omega), Int.tmod_eq_emod_of_nonneg (by omega), w64 (by omega) (by omega), w64 (by omega) (by omega), show ((i : Int) / 8) = ((i / 8 : Nat) : Int) by omega, show 7 - (i : Int) % 8 = ((7 - i % 8 : Nat) : Int) by omega]
  rw [Int.toNat_natCast, show (BitVec.ofInt 64 ((7 - i % 8 : Nat) : Int)).toNat = 7 - i % 8 by rw [BitVec.ofInt_natCast, BitVec.toNat_ofNat]; omega]
  repeat' refine And.intro ?_ ?_
  any_goals omega
  exact dropC_append hM rfl hK
end Go.Proofs.Ytbiolfeincepoaa.Eng
