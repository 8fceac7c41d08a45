/- A column mixed, the rows turned, a block turned, as package aes reckons them. -/
import Derived.Test.YtbiolfeincepoaaA2
namespace Go.Proofs.Ytbiolfeincepoaa.Eng
open Go Go.RowKit
set_option linter.unusedSimpArgs false
set_option linter.unusedVariables false

def mixL (x : List (BitVec 8)) : List (BitVec 8) := gl 4 fun i => mul8L 8 2#8 (x.getD i 0#8) 0#8 ^^^ mul8L 8 3#8 (x.getD ((i + 1) % 4) 0#8) 0#8 ^^^ x.getD ((i + 2) % 4) 0#8 ^^^ x.getD ((i + 3) % 4) 0#8
theorem mixL_len (x : List (BitVec 8)) : (mixL x).length = 4 := gl_len
theorem mixed_ok (x : List (BitVec 8)) (hx : x.length = 4) (M : List Blk) (K : SV → List Blk → Prop) (hK : K (.agg (bS (mixL x))) M) :
    callVC Try.prog 42 [.agg (bS x)] M K := by
  refine fn_rule tabOK Try.func42 rfl Try.call42 (by kernel_rfl) (fun hM => ?_)
  (refine top_in ?_; simp -implicitDefEqProofs only [Try.ntmps42, Try.results42, go_sem, -List.reduceReplicate, ↓L_gdZ_tt, ↓L_gdZ_tf, ↓L_gdZ_ft, ↓L_gdZ_ff, ↓T_and, ↓T_imp, ↓T_all, Nat.reduceBEq, Nat.reduceAdd, Nat.reduceSub, Nat.reduceMul, Nat.reduceLT, Nat.reduceLeDiff, Nat.reduceEqDiff, Int.reduceLT, Int.reduceLE, Int.reduceAdd, Int.reduceSub, Int.reduceMul, Int.reduceNeg, Int.reduceToNat, Int.reduceEq, Int.reduceNe, reduceIte, reduceCtorEq, BitVec.reduceOfInt, BitVec.reduceToNat, hx]; try simp only [top_out])
  refine loop_code tabOK (by kernel_rfl) (fun n ts M' => ∃ (k : Nat), k + n = 4 ∧ frC [none, some (.p M.length 0), some (.p (M.length + 1) 0), some (.p (M.length + 2) 0), none, none, none, some (.agg (bS x)), some (.i .i64 k), none, none, none, none, none, none, none, none, none, none, none, none, none, none, none, none, none, none, none, none, none, none, none, none, none, none, none, none, none] ts ∧
     M' = M ++ [.row (bS x) 76, .row (bS (List.replicate 4 0#8)) 76, .row (bS (gl 4 fun j => if j < k then (mixL x).getD j 0#8 else 0#8)) 76]) 4 ?_ ?_
  · refine ⟨0, rfl, by simp [frC], ?_⟩
    simp only [Nat.not_lt_zero, if_false, gl_const]
  · rintro n ts _ ⟨k, hk, hf, rfl⟩
    have em : ∀ a : Nat, a ≤ 3 → k < 4 → (IntKind.i64.wrap ((k : Int) + a)).tmod 4 = (((k + a) % 4 : Nat) : Int) := fun a ha hk => by
      rw [w64 (by omega) (by omega), Int.tmod_eq_emod_of_nonneg (by omega)]; omega
    obtain ⟨f, rfl⟩ := frC_open _ _ 0 hf
    clear hf
    (refine top_in ?_; simp -implicitDefEqProofs only [go_sem, -List.reduceReplicate, ↓L_gdZ_tt, ↓L_gdZ_tf, ↓L_gdZ_ft, ↓L_gdZ_ff, ↓T_and, ↓T_imp, ↓T_all, Nat.reduceBEq, Nat.reduceAdd, Nat.reduceSub, Nat.reduceMul, Nat.reduceLT, Nat.reduceLeDiff, Nat.reduceEqDiff, Int.reduceLT, Int.reduceLE, Int.reduceAdd, Int.reduceSub, Int.reduceMul, Int.reduceNeg, Int.reduceToNat, Int.reduceEq, Int.reduceNe, reduceIte, reduceCtorEq, BitVec.reduceOfInt, BitVec.reduceToNat, hx]; try simp only [top_out])
    refine ⟨fun h => ?_, fun h => ?_⟩
    · have hk4 : k < 4 := by omega
      have m1 := em 1 (by omega) hk4
      have m2 := em 2 (by omega) hk4
      have m3 := em 3 (by omega) hk4
      simp only [Int.cast_ofNat_Int] at m1 m2 m3
      have g0 : (mixL x).getD k 0#8 = mul8L 8 2#8 (x.getD k 0#8) 0#8 ^^^ mul8L 8 3#8 (x.getD ((k + 1) % 4) 0#8) 0#8 ^^^ x.getD ((k + 2) % 4) 0#8 ^^^ x.getD ((k + 3) % 4) 0#8 := gl_getD hk4 _
      have gs : (gl 4 fun j => if j < k then (mixL x).getD j 0#8 else 0#8).set k ((mixL x).getD k 0#8) = gl 4 fun j => if j < k + 1 then (mixL x).getD j 0#8 else 0#8 := by
        rw [gl_set]
        refine gl_ext fun i hi => ?_
        split
        · subst_vars; rw [if_pos (by omega)]
        · split
          · rw [if_pos (by omega)]
          · rw [if_neg (by omega)]
      rw [g0] at gs
      simp only [m1, m2, m3, Int.toNat_natCast]
      refine ⟨by omega, by omega, by omega, by omega, by omega, by omega, by omega, ?_⟩
      refine draw_rule tabOK (by kernel_rfl : _) (.p 0 (.p 1 (.p 3 (.p 6 (.p 7 (.p 8 (.p 9 (.p 10 (.p 12 (.p 13 (.p 14 (.p 15 (.p 16 (.e 2 [9, 10, 15, 16] (.e 4 [9, 10, 15, 16] (.p 5 (.p 11 (.p 17 (.p 18 (.e 19 [] .nil .no))))) .no) .no)))))))))))))) (by kernel_rfl) (by kernel_rfl) ?_
      (refine top_in ?_; simp -implicitDefEqProofs only [go_sem, -List.reduceReplicate, ↓L_gdZ_tt, ↓L_gdZ_tf, ↓L_gdZ_ft, ↓L_gdZ_ff, ↓T_and, ↓T_imp, ↓T_all, Nat.reduceBEq, Nat.reduceAdd, Nat.reduceSub, Nat.reduceMul, Nat.reduceLT, Nat.reduceLeDiff, Nat.reduceEqDiff, Int.reduceLT, Int.reduceLE, Int.reduceAdd, Int.reduceSub, Int.reduceMul, Int.reduceNeg, Int.reduceToNat, Int.reduceEq, Int.reduceNe, reduceIte, reduceCtorEq, BitVec.reduceOfInt, BitVec.reduceToNat, hx, m1, m2, m3]; try simp only [top_out])
      refine ⟨by omega, by omega, by omega, by omega, by omega, by omega, by omega, by omega, ?_⟩
      refine mul8_ok _ _ _ _ ?_
      (refine top_in ?_; simp -implicitDefEqProofs only [go_sem, -List.reduceReplicate, ↓L_gdZ_tt, ↓L_gdZ_tf, ↓L_gdZ_ft, ↓L_gdZ_ff, ↓T_and, ↓T_imp, ↓T_all, Nat.reduceBEq, Nat.reduceAdd, Nat.reduceSub, Nat.reduceMul, Nat.reduceLT, Nat.reduceLeDiff, Nat.reduceEqDiff, Int.reduceLT, Int.reduceLE, Int.reduceAdd, Int.reduceSub, Int.reduceMul, Int.reduceNeg, Int.reduceToNat, Int.reduceEq, Int.reduceNe, reduceIte, reduceCtorEq, BitVec.reduceOfInt, BitVec.reduceToNat, hx, m1, m2, m3]; try simp only [top_out])
      refine ⟨by omega, ?_⟩
      refine mul8_ok _ _ _ _ ?_
      (refine top_in ?_; simp -implicitDefEqProofs only [go_sem, -List.reduceReplicate, ↓L_gdZ_tt, ↓L_gdZ_tf, ↓L_gdZ_ft, ↓L_gdZ_ff, ↓T_and, ↓T_imp, ↓T_all, Nat.reduceBEq, Nat.reduceAdd, Nat.reduceSub, Nat.reduceMul, Nat.reduceLT, Nat.reduceLeDiff, Nat.reduceEqDiff, Int.reduceLT, Int.reduceLE, Int.reduceAdd, Int.reduceSub, Int.reduceMul, Int.reduceNeg, Int.reduceToNat, Int.reduceEq, Int.reduceNe, reduceIte, reduceCtorEq, BitVec.reduceOfInt, BitVec.reduceToNat, hx, m1, m2, m3]; try simp only [top_out])
      refine ⟨by omega, by omega, by omega, by omega, by omega, n - 1, by omega, k + 1, by omega, by rw [w64 (by omega) (by omega)]; rfl, ?_⟩
      rw [gs]
    · obtain rfl : k = 4 := by omega
      refine dropC_append hM (bS_lt _ _) ?_
      have : (gl 4 fun j => if j < 4 then (mixL x).getD j 0#8 else 0#8) = mixL x := by
        conv => rhs; rw [gl_self (mixL_len x) 0#8]
        exact gl_ext fun i hi => if_pos hi
      rw [this]
      exact hK

def shiftL (C b : List (BitVec 8)) : List (BitVec 8) := gl 16 fun i => C.getD (b.getD (4 * ((i / 4 + i % 4) % 4) + i % 4) 0#8).toNat 0#8
theorem shiftL_len (C b : List (BitVec 8)) : (shiftL C b).length = 16 := gl_len
theorem shifted_ok (m : Nat) (C : List (BitVec 8)) (ty : TypeId) (x : List (BitVec 8)) (M : List Blk) (K : SV → List Blk → Prop) (hC : M[m]? = some (.row (bS C) ty)) (hCl : C.length = 496) (hx : x.length = 16)
    (hK : K (.agg (bS (shiftL C x))) M) : callVC Try.prog 41 [.p m 0, .agg (bS x)] M K := by
  have hm : m < M.length := (List.getElem?_eq_some_iff.1 hC).1
  refine fn_rule tabOK Try.func41 rfl Try.call41 (by kernel_rfl) (fun hM => ?_)
  (refine top_in ?_; simp -implicitDefEqProofs only [Try.ntmps41, Try.results41, go_sem, -List.reduceReplicate, ↓L_gdZ_tt, ↓L_gdZ_tf, ↓L_gdZ_ft, ↓L_gdZ_ff, ↓T_and, ↓T_imp, ↓T_all, Nat.reduceBEq, Nat.reduceAdd, Nat.reduceSub, Nat.reduceMul, Nat.reduceLT, Nat.reduceLeDiff, Nat.reduceEqDiff, Int.reduceLT, Int.reduceLE, Int.reduceAdd, Int.reduceSub, Int.reduceMul, Int.reduceNeg, Int.reduceToNat, Int.reduceEq, Int.reduceNe, reduceIte, reduceCtorEq, BitVec.reduceOfInt, BitVec.reduceToNat, hx]; try simp only [top_out])
  refine loop_code tabOK (by kernel_rfl) (fun n ts M' => ∃ (k : Nat), k + n = 16 ∧ frC [some (.p m 0), none, none, some (.p M.length 0), some (.p (M.length + 1) 0), some (.p (M.length + 2) 0), none, none, none, some (.i .i64 k), none, none, none, none, none, none, none, none, none, none, none, none, none, none, none, none, none, none, none, none, none, none, none, none] ts ∧
     M' = M ++ [.row (bS x) 50, .row (bS (List.replicate 16 0#8)) 50, .row (bS (gl 16 fun j => if j < k then C.getD (x.getD (4 * ((j / 4 + j % 4) % 4) + j % 4) 0#8).toNat 0#8 else 0#8)) 50]) 16 ?_ ?_
  · refine ⟨0, rfl, by simp [frC], ?_⟩
    simp only [Nat.not_lt_zero, if_false, gl_const]
  · rintro n ts _ ⟨k, hk, hf, rfl⟩
    have e1 : (k : Int).tdiv 4 = ((k / 4 : Nat) : Int) := by rw [Int.tdiv_eq_ediv_of_nonneg (by omega)]; omega
    have e2 : (k : Int).tmod 4 = ((k % 4 : Nat) : Int) := by rw [Int.tmod_eq_emod_of_nonneg (by omega)]; omega
    have w1 : IntKind.i64.wrap ((k / 4 : Nat) : Int) = ((k / 4 : Nat) : Int) := w64 (by omega) (by omega)
    have e3 : (IntKind.i64.wrap (((k / 4 : Nat) : Int) + ((k % 4 : Nat) : Int))).tmod 4 = (((k / 4 + k % 4) % 4 : Nat) : Int) := by
      rw [w64 (by omega) (by omega), Int.tmod_eq_emod_of_nonneg (by omega)]; omega
    obtain ⟨f, rfl⟩ := frC_open _ _ 0 hf
    clear hf
    (refine top_in ?_; simp -implicitDefEqProofs only [go_sem, -List.reduceReplicate, ↓L_gdZ_tt, ↓L_gdZ_tf, ↓L_gdZ_ft, ↓L_gdZ_ff, ↓T_and, ↓T_imp, ↓T_all, Nat.reduceBEq, Nat.reduceAdd, Nat.reduceSub, Nat.reduceMul, Nat.reduceLT, Nat.reduceLeDiff, Nat.reduceEqDiff, Int.reduceLT, Int.reduceLE, Int.reduceAdd, Int.reduceSub, Int.reduceMul, Int.reduceNeg, Int.reduceToNat, Int.reduceEq, Int.reduceNe, reduceIte, reduceCtorEq, BitVec.reduceOfInt, BitVec.reduceToNat, get_lt hm, hC, hCl, hx, e1, e2, w1, e3]; try simp only [top_out])
    refine ⟨fun h => ?_, fun h => ?_⟩
    · have h256 := BitVec.isLt (x.getD (4 * ((k / 4 + k % 4) % 4) + k % 4) 0#8)
      have w2 : IntKind.i64.wrap (IntKind.i64.wrap (4 * (((k / 4 + k % 4) % 4 : Nat) : Int)) + ((k % 4 : Nat) : Int)) = ((4 * ((k / 4 + k % 4) % 4) + k % 4 : Nat) : Int) := by
        rw [w64 (x := 4 * _) (by omega) (by omega), w64 (by omega) (by omega)]; omega
      refine draw_rule tabOK (by kernel_rfl : _) (.p 0 (.p 1 (.p 2 (.p 3 (.p 4 (.p 5 (.p 6 (.p 7 (.p 8 (.p 9 (.p 10 (.p 11 (.p 12 (.p 13 (.p 14 (.p 15 (.e 16 [] .nil .no))))))))))))))))) (by kernel_rfl) (by kernel_rfl) ?_
      (refine top_in ?_; simp -implicitDefEqProofs only [go_sem, -List.reduceReplicate, ↓L_gdZ_tt, ↓L_gdZ_tf, ↓L_gdZ_ft, ↓L_gdZ_ff, ↓T_and, ↓T_imp, ↓T_all, Nat.reduceBEq, Nat.reduceAdd, Nat.reduceSub, Nat.reduceMul, Nat.reduceLT, Nat.reduceLeDiff, Nat.reduceEqDiff, Int.reduceLT, Int.reduceLE, Int.reduceAdd, Int.reduceSub, Int.reduceMul, Int.reduceNeg, Int.reduceToNat, Int.reduceEq, Int.reduceNe, reduceIte, reduceCtorEq, BitVec.reduceOfInt, BitVec.reduceToNat, get_lt hm, hC, hCl, hx, e1, e2, e3, w2]; try simp only [top_out])
      repeat' refine And.intro ?_ ?_
      any_goals omega
      refine ⟨n - 1, by omega, k + 1, by omega, by rw [w64 (by omega) (by omega)]; rfl, ?_⟩
      rw [gl_set]
      refine congrArg (fun l => M ++ [Blk.row (bS x) 50, Blk.row (bS (List.replicate 16 0#8)) 50, Blk.row (bS l) 50]) (gl_ext fun i hi => ?_)
      split
      · subst_vars; rw [if_pos (by omega)]
      · split
        · rw [if_pos (by omega)]
        · rw [if_neg (by omega)]
    · obtain rfl : k = 16 := by omega
      refine dropC_append hM (bS_lt _ _) ?_
      have : (gl 16 fun j => if j < 16 then C.getD (x.getD (4 * ((j / 4 + j % 4) % 4) + j % 4) 0#8).toNat 0#8 else 0#8) = shiftL C x := gl_ext fun i hi => if_pos hi
      rw [this]
      exact hK
end Go.Proofs.Ytbiolfeincepoaa.Eng
