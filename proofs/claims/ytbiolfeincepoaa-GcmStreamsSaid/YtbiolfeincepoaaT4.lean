/- The sum of two blocks, as field.Xor reckons it. -/
import Derived.Test.YtbiolfeincepoaaTab
namespace Go.Proofs.Ytbiolfeincepoaa.Eng
open Go Go.RowKit
set_option linter.unusedSimpArgs false
set_option linter.unusedVariables false
def xorL (x y : List (BitVec 8)) : List (BitVec 8) := gl 16 fun j => x.getD j 0#8 ^^^ y.getD j 0#8
@[go_sem] theorem xorL_len (x y : List (BitVec 8)) : (xorL x y).length = 16 := gl_len

theorem xor_ok (x y : List (BitVec 8)) (hx : x.length = 16) (hy : y.length = 16) (M : List Blk) (K : SV → List Blk → Prop) (hK : K (.agg (bS (xorL x y))) M) :
    callVC Try.prog 27 [.agg (bS x), .agg (bS y)] M K := by
  refine fn_rule tabOK Try.func27 rfl Try.call27 (by kernel_rfl) (fun hM => ?_)
  (refine top_in ?_; simp -implicitDefEqProofs only [Try.ntmps27, Try.results27, go_sem, -List.reduceReplicate, ↓L_gdZ_tt, ↓L_gdZ_tf, ↓L_gdZ_ft, ↓L_gdZ_ff, ↓T_and, ↓T_imp, ↓T_all, Nat.reduceBEq, Nat.reduceAdd, Nat.reduceSub, Nat.reduceMul, Nat.reduceLT, Nat.reduceLeDiff, Nat.reduceEqDiff, Int.reduceLT, Int.reduceLE, Int.reduceAdd, Int.reduceSub, Int.reduceMul, Int.reduceNeg, Int.reduceToNat, Int.reduceEq, Int.reduceNe, reduceIte, reduceCtorEq, BitVec.reduceOfInt, BitVec.reduceToNat, hx, hy]; try simp only [top_out])
  refine loop_code tabOK (by kernel_rfl) (fun n ts M' => ∃ (k : Nat), k + n = 16 ∧ frC [none, none, some (.p M.length 0), some (.p (M.length + 1) 0), some (.p (M.length + 2) 0), none, some (.i .i64 k), none, none, none, none, none, none, none, none, none, none, none, none] ts ∧
     M' = M ++ [.row (bS (gl 16 fun j => if j < k then x.getD j 0#8 ^^^ y.getD j 0#8 else x.getD j 0#8)) 42, .row (bS y) 42, .row (bS (List.replicate 16 0#8)) 42]) 16 ?_ ?_
  · refine ⟨0, rfl, by simp [frC], ?_⟩
    simp only [Nat.not_lt_zero, if_false]
    rw [← gl_self hx]
  · rintro n ts _ ⟨k, hk, hf, rfl⟩
    obtain ⟨f, rfl⟩ := frC_open _ _ 0 hf
    clear hf
    (refine top_in ?_; simp -implicitDefEqProofs only [go_sem, -List.reduceReplicate, ↓L_gdZ_tt, ↓L_gdZ_tf, ↓L_gdZ_ft, ↓L_gdZ_ff, ↓T_and, ↓T_imp, ↓T_all, Nat.reduceBEq, Nat.reduceAdd, Nat.reduceSub, Nat.reduceMul, Nat.reduceLT, Nat.reduceLeDiff, Nat.reduceEqDiff, Int.reduceLT, Int.reduceLE, Int.reduceAdd, Int.reduceSub, Int.reduceMul, Int.reduceNeg, Int.reduceToNat, Int.reduceEq, Int.reduceNe, reduceIte, reduceCtorEq, BitVec.reduceOfInt, BitVec.reduceToNat]; try simp only [top_out])
    refine ⟨fun h => ?_, fun h => ?_⟩
    · refine draw_rule tabOK (by kernel_rfl : _) (.p 0 (.p 1 (.p 2 (.p 3 (.p 4 (.p 5 (.p 6 (.p 7 (.e 8 [] .nil .no))))))))) (by kernel_rfl) (by kernel_rfl) ?_
      (refine top_in ?_; simp -implicitDefEqProofs only [go_sem, -List.reduceReplicate, ↓L_gdZ_tt, ↓L_gdZ_tf, ↓L_gdZ_ft, ↓L_gdZ_ff, ↓T_and, ↓T_imp, ↓T_all, Nat.reduceBEq, Nat.reduceAdd, Nat.reduceSub, Nat.reduceMul, Nat.reduceLT, Nat.reduceLeDiff, Nat.reduceEqDiff, Int.reduceLT, Int.reduceLE, Int.reduceAdd, Int.reduceSub, Int.reduceMul, Int.reduceNeg, Int.reduceToNat, Int.reduceEq, Int.reduceNe, reduceIte, reduceCtorEq, BitVec.reduceOfInt, BitVec.reduceToNat, hx, hy]; try simp only [top_out])
      repeat' refine And.intro ?_ ?_
      any_goals omega
      refine ⟨n - 1, by omega, k + 1, by omega, by rw [w64 (by omega) (by omega)]; simp [frC], ?_⟩
      rw [gl_set, gl_getD (by omega), if_neg (by omega)]
      refine congrArg (fun l => M ++ [Blk.row (bS l) 42, Blk.row (bS y) 42, Blk.row (bS (List.replicate 16 0#8)) 42]) (gl_ext fun i hi => ?_)
      split
      · subst_vars; rw [if_pos (by omega)]
      · split
        · rw [if_pos (by omega)]
        · rw [if_neg (by omega)]
    · obtain rfl : k = 16 := by omega
      refine dropC_append hM (bS_lt _ _) ?_
      have : (gl 16 fun j => if j < 16 then x.getD j 0#8 ^^^ y.getD j 0#8 else x.getD j 0#8) = xorL x y := gl_ext fun i hi => if_pos hi
      rw [this]
      exact hK
end Go.Proofs.Ytbiolfeincepoaa.Eng
