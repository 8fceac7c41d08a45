/- The document's product of two blocks, as the program reckons it. -/
import Derived.Test.YtbiolfeincepoaaT6
namespace Go.Proofs.Ytbiolfeincepoaa.Eng
open Go Go.RowKit
set_option linter.unusedSimpArgs false
set_option linter.unusedVariables false

def timesL (x : List (BitVec 8)) : List (BitVec 8) :=
  gl 16 fun j => if j = 0 then (if (x.getD 15 0#8 &&& 1#8) = 1#8 then (x.getD 0 0#8 >>> 1) ^^^ 225#8 else x.getD 0 0#8 >>> 1) else x.getD j 0#8 >>> 1 ||| x.getD (j - 1) 0#8 <<< 7
theorem timesL_len (x : List (BitVec 8)) : (timesL x).length = 16 := gl_len

theorem times_ok (x : List (BitVec 8)) (hx : x.length = 16) (M : List Blk) (K : SV → List Blk → Prop) (hK : K (.agg (bS (timesL x))) M) :
    callVC Try.prog 51 [.agg (bS x)] M K := by
  refine fn_rule tabOK Try.func51 rfl Try.call51 (by kernel_rfl) (fun hM => ?_)
  (refine top_in ?_; simp -implicitDefEqProofs only [Try.ntmps51, Try.results51, go_sem, -List.reduceReplicate, ↓L_gdZ_tt, ↓L_gdZ_tf, ↓L_gdZ_ft, ↓L_gdZ_ff, ↓T_and, ↓T_imp, ↓T_all, Nat.reduceBEq, Nat.reduceAdd, Nat.reduceSub, Nat.reduceMul, Nat.reduceLT, Nat.reduceLeDiff, Nat.reduceEqDiff, Int.reduceLT, Int.reduceLE, Int.reduceAdd, Int.reduceSub, Int.reduceMul, Int.reduceNeg, Int.reduceToNat, Int.reduceEq, Int.reduceNe, reduceIte, reduceCtorEq, BitVec.reduceOfInt, BitVec.reduceToNat, hx]; try simp only [top_out])
  refine loop_code tabOK (by kernel_rfl) (fun n ts M' => n < 16 ∧ frC [none, some (.p M.length 0), some (.p (M.length + 1) 0), some (.p (M.length + 2) 0), some (.i .i64 n), none, none, none, none, none, none, none, none, none, none, none, none, none, none, none, none, none, none, none, none, none, none, none, none, none, none, none, none, none] ts ∧
     M' = M ++ [.row (bS x) 42, .row (bS (List.replicate 16 0#8)) 42, .row (bS (gl 16 fun j => if n < j then x.getD j 0#8 >>> 1 ||| x.getD (j - 1) 0#8 <<< 7 else 0#8)) 42]) 15 ?_ ?_
  · refine ⟨by omega, by simp [frC], ?_⟩
    rw [← gl_const (0#8)]
    refine congrArg (fun l => M ++ [Blk.row (bS x) 42, Blk.row (bS (List.replicate 16 0#8)) 42, Blk.row (bS l) 42]) (gl_ext fun i hi => ?_)
    rw [if_neg (by omega)]
  · rintro n ts _ ⟨hn, hf, rfl⟩
    obtain ⟨f, rfl⟩ := frC_open _ _ 0 hf
    clear hf
    (refine top_in ?_; simp -implicitDefEqProofs only [go_sem, -List.reduceReplicate, ↓L_gdZ_tt, ↓L_gdZ_tf, ↓L_gdZ_ft, ↓L_gdZ_ff, ↓T_and, ↓T_imp, ↓T_all, Nat.reduceBEq, Nat.reduceAdd, Nat.reduceSub, Nat.reduceMul, Nat.reduceLT, Nat.reduceLeDiff, Nat.reduceEqDiff, Int.reduceLT, Int.reduceLE, Int.reduceAdd, Int.reduceSub, Int.reduceMul, Int.reduceNeg, Int.reduceToNat, Int.reduceEq, Int.reduceNe, reduceIte, reduceCtorEq, BitVec.reduceOfInt, BitVec.reduceToNat, hx]; try simp only [top_out])
    refine ⟨fun h => ?_, fun h => ?_⟩
    · refine draw_rule tabOK (by kernel_rfl : _) (.p 0 (.p 1 (.p 2 (.p 3 (.p 4 (.p 5 (.p 6 (.p 7 (.p 8 (.p 9 (.p 10 (.p 11 (.e 12 [] .nil .no))))))))))))) (by kernel_rfl) (by kernel_rfl) ?_
      (refine top_in ?_; simp -implicitDefEqProofs only [go_sem, -List.reduceReplicate, ↓L_gdZ_tt, ↓L_gdZ_tf, ↓L_gdZ_ft, ↓L_gdZ_ff, ↓T_and, ↓T_imp, ↓T_all, Nat.reduceBEq, Nat.reduceAdd, Nat.reduceSub, Nat.reduceMul, Nat.reduceLT, Nat.reduceLeDiff, Nat.reduceEqDiff, Int.reduceLT, Int.reduceLE, Int.reduceAdd, Int.reduceSub, Int.reduceMul, Int.reduceNeg, Int.reduceToNat, Int.reduceEq, Int.reduceNe, reduceIte, reduceCtorEq, BitVec.reduceOfInt, BitVec.reduceToNat, hx]; try simp only [top_out])
      rw [w64 (x := (n : Int) - 1) (by omega) (by omega), show (n : Int) - 1 = ((n - 1 : Nat) : Int) by omega, Int.toNat_natCast]
      repeat' refine And.intro ?_ ?_
      any_goals omega
      refine ⟨n - 1, by omega, by omega, rfl, ?_⟩
      rw [gl_set]
      refine congrArg (fun l => M ++ [Blk.row (bS x) 42, Blk.row (bS (List.replicate 16 0#8)) 42, Blk.row (bS l) 42]) (gl_ext fun i hi => ?_)
      by_cases e : i = n
      · subst e; rw [if_pos rfl, if_pos (by omega)]
      · rw [if_neg e]
        by_cases hl : n < i
        · rw [if_pos hl, if_pos (by omega)]
        · rw [if_neg hl, if_neg (by omega)]
    · obtain rfl : n = 0 := by omega
      refine ⟨fun h1 => ?_, fun h1 => ?_⟩
      all_goals
        refine dropC_append hM (bS_lt _ _) ?_
        refine cast (congrArg (fun l => K (SV.agg (bS l)) M) ?_) hK
        unfold timesL
        rw [gl_set]
        try rw [gl_set, gl_getD (by omega)]
        refine gl_ext fun i hi => ?_
        by_cases e : i = 0
        · subst e
          simp only [beq_iff_eq, beq_eq_false_iff_ne, ne_eq] at h1
          simp only [if_true, h1, if_false]
        · rw [if_neg e, if_neg e]
          try rw [if_neg e]
          rw [if_pos (by omega)]

/-- z, y after k rounds -/
def refN (x y : List (BitVec 8)) : Nat → List (BitVec 8) × List (BitVec 8)
  | 0 => (List.replicate 16 0#8, y)
  | k + 1 => (if ((x.getD (k / 8) 0#8 >>> (7 - k % 8)) &&& 1#8) = 1#8 then xorL (refN x y k).1 (refN x y k).2 else (refN x y k).1, timesL (refN x y k).2)
theorem refN_len (x y : List (BitVec 8)) (hy : y.length = 16) : ∀ k, (refN x y k).1.length = 16 ∧ (refN x y k).2.length = 16
  | 0 => ⟨rfl, hy⟩
  | k + 1 => ⟨by simp only [refN]; split; exact xorL_len _ _; exact (refN_len x y hy k).1, timesL_len _⟩

theorem refmul128_ok (x y : List (BitVec 8)) (hx : x.length = 16) (hy : y.length = 16) (M : List Blk) (K : SV → List Blk → Prop) (hK : K (.agg (bS (refN x y 128).1)) M) :
    callVC Try.prog 48 [.agg (bS x), .agg (bS y)] M K := by
  refine fn_rule tabOK Try.func48 rfl Try.call48 (by kernel_rfl) (fun hM => ?_)
  (refine top_in ?_; simp -implicitDefEqProofs only [Try.ntmps48, Try.results48, go_sem, -List.reduceReplicate, ↓L_gdZ_tt, ↓L_gdZ_tf, ↓L_gdZ_ft, ↓L_gdZ_ff, ↓T_and, ↓T_imp, ↓T_all, Nat.reduceBEq, Nat.reduceAdd, Nat.reduceSub, Nat.reduceMul, Nat.reduceLT, Nat.reduceLeDiff, Nat.reduceEqDiff, Int.reduceLT, Int.reduceLE, Int.reduceAdd, Int.reduceSub, Int.reduceMul, Int.reduceNeg, Int.reduceToNat, Int.reduceEq, Int.reduceNe, reduceIte, reduceCtorEq, BitVec.reduceOfInt, BitVec.reduceToNat, hx, hy]; try simp only [top_out])
  refine loop_code tabOK (by kernel_rfl) (fun n ts M' => ∃ k : Nat, k + n = 128 ∧ frC [none, none, some (.p M.length 0), some (.p (M.length + 1) 0), some (.p (M.length + 2) 0), some (.p (M.length + 3) 0), some (.i .i64 k), none, none, none, none, none, none, none, none, none, none, none, none, none, none, none, none] ts ∧
     M' = M ++ [.row (bS x) 42, .row (bS (refN x y k).2) 42, .row (bS (List.replicate 16 0#8)) 42, .row (bS (refN x y k).1) 42]) 128 ?_ ?_
  · exact ⟨0, rfl, by simp [frC], rfl⟩
  · rintro n ts _ ⟨k, hk, hf, rfl⟩
    have hl := refN_len x y hy k
    obtain ⟨f, rfl⟩ := frC_open _ _ 0 hf
    clear hf
    (refine top_in ?_; simp -implicitDefEqProofs only [go_sem, -List.reduceReplicate, ↓L_gdZ_tt, ↓L_gdZ_tf, ↓L_gdZ_ft, ↓L_gdZ_ff, ↓T_and, ↓T_imp, ↓T_all, Nat.reduceBEq, Nat.reduceAdd, Nat.reduceSub, Nat.reduceMul, Nat.reduceLT, Nat.reduceLeDiff, Nat.reduceEqDiff, Int.reduceLT, Int.reduceLE, Int.reduceAdd, Int.reduceSub, Int.reduceMul, Int.reduceNeg, Int.reduceToNat, Int.reduceEq, Int.reduceNe, reduceIte, reduceCtorEq, BitVec.reduceOfInt, BitVec.reduceToNat, hx, hl.1, hl.2]; try simp only [top_out])
    refine ⟨fun h => ?_, fun h => ?_⟩
    · refine coef_ok x hx k (by omega) _ _ ?_
      (refine top_in ?_; simp -implicitDefEqProofs only [go_sem, -List.reduceReplicate, ↓L_gdZ_tt, ↓L_gdZ_tf, ↓L_gdZ_ft, ↓L_gdZ_ff, ↓T_and, ↓T_imp, ↓T_all, Nat.reduceBEq, Nat.reduceAdd, Nat.reduceSub, Nat.reduceMul, Nat.reduceLT, Nat.reduceLeDiff, Nat.reduceEqDiff, Int.reduceLT, Int.reduceLE, Int.reduceAdd, Int.reduceSub, Int.reduceMul, Int.reduceNeg, Int.reduceToNat, Int.reduceEq, Int.reduceNe, reduceIte, reduceCtorEq, BitVec.reduceOfInt, BitVec.reduceToNat, hx, hl.1, hl.2]; try simp only [top_out])
      have hw := w64 (x := (k : Int) + 1) (by omega) (by omega)
      refine ⟨fun h1 => ?_, fun h1 => ?_⟩
      · refine refxor_ok _ _ hl.1 hl.2 _ _ ?_
        (refine top_in ?_; simp -implicitDefEqProofs only [go_sem, -List.reduceReplicate, ↓L_gdZ_tt, ↓L_gdZ_tf, ↓L_gdZ_ft, ↓L_gdZ_ff, ↓T_and, ↓T_imp, ↓T_all, Nat.reduceBEq, Nat.reduceAdd, Nat.reduceSub, Nat.reduceMul, Nat.reduceLT, Nat.reduceLeDiff, Nat.reduceEqDiff, Int.reduceLT, Int.reduceLE, Int.reduceAdd, Int.reduceSub, Int.reduceMul, Int.reduceNeg, Int.reduceToNat, Int.reduceEq, Int.reduceNe, reduceIte, reduceCtorEq, BitVec.reduceOfInt, BitVec.reduceToNat, hx, hl.1, hl.2]; try simp only [top_out])
        refine times_ok _ hl.2 _ _ ?_
        (refine top_in ?_; simp -implicitDefEqProofs only [go_sem, -List.reduceReplicate, ↓L_gdZ_tt, ↓L_gdZ_tf, ↓L_gdZ_ft, ↓L_gdZ_ff, ↓T_and, ↓T_imp, ↓T_all, Nat.reduceBEq, Nat.reduceAdd, Nat.reduceSub, Nat.reduceMul, Nat.reduceLT, Nat.reduceLeDiff, Nat.reduceEqDiff, Int.reduceLT, Int.reduceLE, Int.reduceAdd, Int.reduceSub, Int.reduceMul, Int.reduceNeg, Int.reduceToNat, Int.reduceEq, Int.reduceNe, reduceIte, reduceCtorEq, BitVec.reduceOfInt, BitVec.reduceToNat, hx, hl.1, hl.2, timesL_len, hw]; try simp only [top_out])
        refine ⟨n - 1, by omega, k + 1, by omega, by omega, ?_⟩
        simp only [beq_iff_eq] at h1
        simp only [refN, h1, if_true]
      · refine times_ok _ hl.2 _ _ ?_
        (refine top_in ?_; simp -implicitDefEqProofs only [go_sem, -List.reduceReplicate, ↓L_gdZ_tt, ↓L_gdZ_tf, ↓L_gdZ_ft, ↓L_gdZ_ff, ↓T_and, ↓T_imp, ↓T_all, Nat.reduceBEq, Nat.reduceAdd, Nat.reduceSub, Nat.reduceMul, Nat.reduceLT, Nat.reduceLeDiff, Nat.reduceEqDiff, Int.reduceLT, Int.reduceLE, Int.reduceAdd, Int.reduceSub, Int.reduceMul, Int.reduceNeg, Int.reduceToNat, Int.reduceEq, Int.reduceNe, reduceIte, reduceCtorEq, BitVec.reduceOfInt, BitVec.reduceToNat, hx, hl.1, hl.2, timesL_len, hw]; try simp only [top_out])
        refine ⟨n - 1, by omega, k + 1, by omega, by omega, ?_⟩
        simp only [beq_eq_false_iff_ne, ne_eq] at h1
        simp only [refN, h1, if_false]
    · obtain rfl : k = 128 := by omega
      exact dropC_append hM (bS_lt _ _) hK
end Go.Proofs.Ytbiolfeincepoaa.Eng
