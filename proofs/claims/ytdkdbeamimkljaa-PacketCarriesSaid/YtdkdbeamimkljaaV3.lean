/- Addresses off bytes. -/
import Derived.Test.YtdkdbeamimkljaaV2
namespace Go.Proofs.Ytdkdbeamimkljaa.Eng
open Go Go.RowKit
set_option linter.unusedSimpArgs false
set_option linter.unusedVariables false

def aHi (x : List (BitVec 8)) : BitVec 64 := numB (x.take (x.length - 8))
theorem numB_top {x : List (BitVec 8)} : numB x >>> 56 = if 8 ≤ x.length then (x.getD (x.length - 8) 0#8).setWidth 64 else 0#64 := by
  apply BitVec.eq_of_getLsbD_eq
  intro i hi
  rw [BitVec.getLsbD_ushiftRight]
  by_cases h8 : i < 8
  · rw [numB_bit x.length x rfl (56 + i) (by omega)]
    have e0 : (56 + i) / 8 = 7 := by omega
    have e1 : (56 + i) % 8 = i := by omega
    rw [e0, e1]
    by_cases h : 8 ≤ x.length
    · rw [if_pos h, BitVec.getLsbD_setWidth, show x.length - 1 - 7 = x.length - 8 by omega]
      rw [decide_eq_true (by omega : 7 < x.length), decide_eq_true (by omega : i < 64)]
    · rw [if_neg h]; simp; omega
  · have : (numB x).getLsbD (56 + i) = false := BitVec.getLsbD_of_ge _ _ (by omega)
    rw [this]
    split
    · rw [BitVec.getLsbD_setWidth, BitVec.getLsbD_of_ge _ _ (by omega)]; simp
    · simp
theorem numB_low {x : List (BitVec 8)} (h : 8 ≤ x.length) : numB x = numB (x.drop (x.length - 8)) := by
  apply BitVec.eq_of_getLsbD_eq
  intro i hi
  have hl : (x.drop (x.length - 8)).length = 8 := by simp; omega
  rw [numB_bit _ x rfl i hi, numB_bit 8 _ hl i hi]
  have e : (x.drop (x.length - 8)).getD (8 - 1 - i / 8) 0#8 = x.getD (x.length - 1 - i / 8) 0#8 := by
    rw [List.getD_eq_getElem?_getD, List.getElem?_drop, List.getD_eq_getElem?_getD, show x.length - 8 + (8 - 1 - i / 8) = x.length - 1 - i / 8 by omega]
  rw [e, show decide (i / 8 < x.length) = decide (i / 8 < 8) by rw [decide_eq_decide]; omega]

theorem hi_step {l : List (BitVec 8)} {k : Nat} (h : k < l.length) : numB (l.take (k - 8)) <<< 8 ||| numB (l.take k) >>> 56 = numB (l.take (k + 1 - 8)) := by
  have hk : (l.take k).length = k := by simp; omega
  rw [numB_top, hk]
  by_cases h8 : 8 ≤ k
  · rw [if_pos h8, show k + 1 - 8 = (k - 8) + 1 by omega, numB_take (by omega)]
    congr 2
    rw [List.getD_eq_getElem?_getD, List.getElem?_take_of_lt (by omega), ← List.getD_eq_getElem?_getD]
  · rw [if_neg h8, show k - 8 = 0 by omega, show k + 1 - 8 = 0 by omega, List.take_zero]
    decide
set_option maxHeartbeats 1000000 in
theorem refAddr_ok (n off cap : Nat) (l : List (BitVec 8)) (M : List Blk) (K : SV → List Blk → Prop) (ha : BAt M n off l) (hl : l.length = 4 ∨ l.length = 16)
    (hK : K (adS (if l.length = 4 then 4 else 6) (aHi l) (numB l)) M) : callVC Try.prog 47 [.sl n off l.length cap] M K := by
  refine fn_rule tabOK Try.func47 rfl Try.call47 (by kernel_rfl) (fun hM => ?_)
  (refine top_in ?_; simp -implicitDefEqProofs only [Try.ntmps47, Try.results47, go_sem, -List.reduceReplicate, ↓L_gdZ_tt, ↓L_gdZ_tf, ↓L_gdZ_ft, ↓L_gdZ_ff, ↓T_and, ↓T_imp, ↓T_all, Nat.reduceBEq, Nat.reduceAdd, Nat.reduceSub, Nat.reduceMul, Nat.reduceLT, Nat.reduceLeDiff, Nat.reduceEqDiff, Int.reduceLT, Int.reduceLE, Int.reduceAdd, Int.reduceSub, Int.reduceMul, Int.reduceNeg, Int.reduceToNat, Int.reduceEq, Int.reduceNe, reduceIte, reduceCtorEq, BitVec.reduceOfInt, BitVec.reduceToNat]; try simp only [top_out])
  have hl16 : l.length ≤ 16 := by omega
  refine ⟨fun h => ?_, fun h => ?_⟩
  · have hfa : (if l.length = 4 then (4 : Int) else 6) = 4 := if_pos (by have := beqT h; omega)
    clear h
    rw [hfa] at hK
    refine loop_code tabOK (by kernel_rfl) (fun m ts M' => ∃ k : Nat, k + m = l.length ∧ M' = M ++ [.row [.i .i64 0, .u64 0#64, .u64 0#64] 45, .row [.i .i64 4, .u64 (numB (l.take (k - 8))), .u64 (numB (l.take k))] 45] ∧
      frC [some (.sl n off l.length cap), none, some (.p M.length 0), some (.p (M.length + 1) 0), some (.i .i64 k), none, none, none, none, none, none, none, none, none, none, none, none, none, none, none, none, none, none, none, none, none, none, none, none, none, none, none, none, none, none] ts) l.length ?_ ?_
    · exact ⟨0, by omega, by simp [numB], by simp [frC]⟩
    · rintro m ts _ ⟨k, hk, rfl, hf⟩
      obtain ⟨f, rfl⟩ := frC_open _ _ 0 hf
      clear hf
      (refine top_in ?_; simp -implicitDefEqProofs only [go_sem, -List.reduceReplicate, ↓L_gdZ_tt, ↓L_gdZ_tf, ↓L_gdZ_ft, ↓L_gdZ_ff, ↓T_and, ↓T_imp, ↓T_all, Nat.reduceBEq, Nat.reduceAdd, Nat.reduceSub, Nat.reduceMul, Nat.reduceLT, Nat.reduceLeDiff, Nat.reduceEqDiff, Int.reduceLT, Int.reduceLE, Int.reduceAdd, Int.reduceSub, Int.reduceMul, Int.reduceNeg, Int.reduceToNat, Int.reduceEq, Int.reduceNe, reduceIte, reduceCtorEq, BitVec.reduceOfInt, BitVec.reduceToNat, get_lt ha.lt]; try simp only [top_out])
      refine ⟨fun h => ?_, fun h => ?_⟩
      · refine draw_rule tabOK (by kernel_rfl : _) (.p 0 (.p 1 (.p 2 (.p 3 (.p 4 (.p 5 (.p 6 (.p 7 (.p 8 (.p 9 (.e 10 [] .nil .no))))))))))) (by kernel_rfl) (by kernel_rfl) ?_
        (refine top_in ?_; simp -implicitDefEqProofs only [go_sem, -List.reduceReplicate, ↓L_gdZ_tt, ↓L_gdZ_tf, ↓L_gdZ_ft, ↓L_gdZ_ff, ↓T_and, ↓T_imp, ↓T_all, Nat.reduceBEq, Nat.reduceAdd, Nat.reduceSub, Nat.reduceMul, Nat.reduceLT, Nat.reduceLeDiff, Nat.reduceEqDiff, Int.reduceLT, Int.reduceLE, Int.reduceAdd, Int.reduceSub, Int.reduceMul, Int.reduceNeg, Int.reduceToNat, Int.reduceEq, Int.reduceNe, reduceIte, reduceCtorEq, BitVec.reduceOfInt, BitVec.reduceToNat, get_lt ha.lt]; try simp only [top_out])
        rw [ha.is8 (by omega), ha.cell8 (by omega), hi_step (by omega), ← numB_take (by omega)]
        exact ⟨by omega, by omega, ha.le (by omega), rfl, m - 1, by omega, k + 1, by omega, rfl, w64 (by omega) (by omega)⟩
      · obtain rfl : k = l.length := by omega
        rw [List.take_length]
        exact dropC_append hM rfl hK
  · have hfa : (if l.length = 4 then (4 : Int) else 6) = 6 := if_neg (by have := beqF h; omega)
    clear h
    rw [hfa] at hK
    refine loop_code tabOK (by kernel_rfl) (fun m ts M' => ∃ k : Nat, k + m = l.length ∧ M' = M ++ [.row [.i .i64 0, .u64 0#64, .u64 0#64] 45, .row [.i .i64 6, .u64 (numB (l.take (k - 8))), .u64 (numB (l.take k))] 45] ∧
      frC [some (.sl n off l.length cap), none, some (.p M.length 0), some (.p (M.length + 1) 0), some (.i .i64 k), none, none, none, none, none, none, none, none, none, none, none, none, none, none, none, none, none, none, none, none, none, none, none, none, none, none, none, none, none, none] ts) l.length ?_ ?_
    · exact ⟨0, by omega, by simp [numB], by simp [frC]⟩
    · rintro m ts _ ⟨k, hk, rfl, hf⟩
      obtain ⟨f, rfl⟩ := frC_open _ _ 0 hf
      clear hf
      (refine top_in ?_; simp -implicitDefEqProofs only [go_sem, -List.reduceReplicate, ↓L_gdZ_tt, ↓L_gdZ_tf, ↓L_gdZ_ft, ↓L_gdZ_ff, ↓T_and, ↓T_imp, ↓T_all, Nat.reduceBEq, Nat.reduceAdd, Nat.reduceSub, Nat.reduceMul, Nat.reduceLT, Nat.reduceLeDiff, Nat.reduceEqDiff, Int.reduceLT, Int.reduceLE, Int.reduceAdd, Int.reduceSub, Int.reduceMul, Int.reduceNeg, Int.reduceToNat, Int.reduceEq, Int.reduceNe, reduceIte, reduceCtorEq, BitVec.reduceOfInt, BitVec.reduceToNat, get_lt ha.lt]; try simp only [top_out])
      refine ⟨fun h => ?_, fun h => ?_⟩
      · refine draw_rule tabOK (by kernel_rfl : _) (.p 0 (.p 1 (.p 2 (.p 3 (.p 4 (.p 5 (.p 6 (.p 7 (.p 8 (.p 9 (.e 10 [] .nil .no))))))))))) (by kernel_rfl) (by kernel_rfl) ?_
        (refine top_in ?_; simp -implicitDefEqProofs only [go_sem, -List.reduceReplicate, ↓L_gdZ_tt, ↓L_gdZ_tf, ↓L_gdZ_ft, ↓L_gdZ_ff, ↓T_and, ↓T_imp, ↓T_all, Nat.reduceBEq, Nat.reduceAdd, Nat.reduceSub, Nat.reduceMul, Nat.reduceLT, Nat.reduceLeDiff, Nat.reduceEqDiff, Int.reduceLT, Int.reduceLE, Int.reduceAdd, Int.reduceSub, Int.reduceMul, Int.reduceNeg, Int.reduceToNat, Int.reduceEq, Int.reduceNe, reduceIte, reduceCtorEq, BitVec.reduceOfInt, BitVec.reduceToNat, get_lt ha.lt]; try simp only [top_out])
        rw [ha.is8 (by omega), ha.cell8 (by omega), hi_step (by omega), ← numB_take (by omega)]
        exact ⟨by omega, by omega, ha.le (by omega), rfl, m - 1, by omega, k + 1, by omega, rfl, w64 (by omega) (by omega)⟩
      · obtain rfl : k = l.length := by omega
        rw [List.take_length]
        exact dropC_append hM rfl hK
end Go.Proofs.Ytdkdbeamimkljaa.Eng
