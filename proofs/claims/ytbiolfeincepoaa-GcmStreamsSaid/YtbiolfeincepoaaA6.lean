/- The document's block, step by step. -/
import Derived.Test.YtbiolfeincepoaaA5
namespace Go.Proofs.Ytbiolfeincepoaa.Eng
open Go Go.RowKit
set_option linter.unusedSimpArgs false
set_option linter.unusedVariables false

def keyR (C : List (BitVec 8)) (r : Nat) : List (BitVec 8) := (C.drop (512 + 16 * r)).take 16
theorem keyR_getD {C : List (BitVec 8)} {r j : Nat} (hj : j < 16) : (keyR C r).getD j 0#8 = C.getD (512 + 16 * r + j) 0#8 := by
  unfold keyR
  rw [List.getD_eq_getElem?_getD, List.getElem?_take_of_lt hj, List.getElem?_drop, ← List.getD_eq_getElem?_getD]
theorem refkeyed_ok (m : Nat) (C : List (BitVec 8)) (ty : TypeId) (x : List (BitVec 8)) (r : Nat) (M : List Blk) (K : SV → List Blk → Prop) (hC : M[m]? = some (.row (bS C) ty)) (hCl : C.length = 752) (hx : x.length = 16) (hr : r < 15)
    (hK : K (.agg (bS (xorL x (keyR C r)))) M) : callVC Try.prog 45 [.p m 0, .agg (bS x), .i .i64 r] M K := by
  have hm : m < M.length := (List.getElem?_eq_some_iff.1 hC).1
  have wr : IntKind.i64.wrap (16 * (r : Int)) = ((16 * r : Nat) : Int) := by rw [w64 (by omega) (by omega)]; omega
  refine fn_rule tabOK Try.func45 rfl Try.call45 (by kernel_rfl) (fun hM => ?_)
  (refine top_in ?_; simp -implicitDefEqProofs only [Try.ntmps45, Try.results45, go_sem, -List.reduceReplicate, ↓L_gdZ_tt, ↓L_gdZ_tf, ↓L_gdZ_ft, ↓L_gdZ_ff, ↓T_and, ↓T_imp, ↓T_all, Nat.reduceBEq, Nat.reduceAdd, Nat.reduceSub, Nat.reduceMul, Nat.reduceLT, Nat.reduceLeDiff, Nat.reduceEqDiff, Int.reduceLT, Int.reduceLE, Int.reduceAdd, Int.reduceSub, Int.reduceMul, Int.reduceNeg, Int.reduceToNat, Int.reduceEq, Int.reduceNe, reduceIte, reduceCtorEq, BitVec.reduceOfInt, BitVec.reduceToNat, hx]; try simp only [top_out])
  refine loop_code tabOK (by kernel_rfl) (fun n ts M' => ∃ (k : Nat), k + n = 16 ∧ frC [some (.p m 0), none, some (.i .i64 r), none, some (.p M.length 0), none, some (.p (M.length + 1) 0), some (.i .i64 k), none, none, none, none, none, none, none, none, none, none, none, none, none, none, none, none, none, none, none, none] ts ∧
     M' = M ++ [.row (bS (gl 16 fun j => if j < k then x.getD j 0#8 ^^^ (keyR C r).getD j 0#8 else x.getD j 0#8)) 42, .row (bS (List.replicate 16 0#8)) 42]) 16 ?_ ?_
  · refine ⟨0, rfl, by simp [frC], ?_⟩
    simp only [Nat.not_lt_zero, if_false]
    rw [← gl_self hx]
  · rintro n ts _ ⟨k, hk, hf, rfl⟩
    obtain ⟨f, rfl⟩ := frC_open _ _ 0 hf
    clear hf
    (refine top_in ?_; simp -implicitDefEqProofs only [go_sem, -List.reduceReplicate, ↓L_gdZ_tt, ↓L_gdZ_tf, ↓L_gdZ_ft, ↓L_gdZ_ff, ↓T_and, ↓T_imp, ↓T_all, Nat.reduceBEq, Nat.reduceAdd, Nat.reduceSub, Nat.reduceMul, Nat.reduceLT, Nat.reduceLeDiff, Nat.reduceEqDiff, Int.reduceLT, Int.reduceLE, Int.reduceAdd, Int.reduceSub, Int.reduceMul, Int.reduceNeg, Int.reduceToNat, Int.reduceEq, Int.reduceNe, reduceIte, reduceCtorEq, BitVec.reduceOfInt, BitVec.reduceToNat, get_lt hm, hC, hCl, hx, wr]; try simp only [top_out])
    refine ⟨fun h => ?_, fun h => ?_⟩
    · have wk : IntKind.i64.wrap (((16 * r : Nat) : Int) + (k : Int)) = ((16 * r + k : Nat) : Int) := by rw [w64 (by omega) (by omega)]; omega
      refine draw_rule tabOK (by kernel_rfl : _) (.p 0 (.p 1 (.p 2 (.p 3 (.p 4 (.p 5 (.p 6 (.p 7 (.p 8 (.p 9 (.p 10 (.p 11 (.p 12 (.p 13 (.p 14 (.e 15 [] .nil .no)))))))))))))))) (by kernel_rfl) (by kernel_rfl) ?_
      (refine top_in ?_; simp -implicitDefEqProofs only [go_sem, -List.reduceReplicate, ↓L_gdZ_tt, ↓L_gdZ_tf, ↓L_gdZ_ft, ↓L_gdZ_ff, ↓T_and, ↓T_imp, ↓T_all, Nat.reduceBEq, Nat.reduceAdd, Nat.reduceSub, Nat.reduceMul, Nat.reduceLT, Nat.reduceLeDiff, Nat.reduceEqDiff, Int.reduceLT, Int.reduceLE, Int.reduceAdd, Int.reduceSub, Int.reduceMul, Int.reduceNeg, Int.reduceToNat, Int.reduceEq, Int.reduceNe, reduceIte, reduceCtorEq, BitVec.reduceOfInt, BitVec.reduceToNat, get_lt hm, hC, hCl, hx, wr, wk]; try simp only [top_out])
      repeat' refine And.intro ?_ ?_
      any_goals omega
      refine ⟨n - 1, by omega, k + 1, by omega, by rw [w64 (by omega) (by omega)]; rfl, ?_⟩
      rw [gl_set, gl_getD (by omega), if_neg (by omega), show 512 + (16 * r + k) = 512 + 16 * r + k by omega, ← keyR_getD (by omega)]
      refine congrArg (fun l => M ++ [Blk.row (bS l) 42, Blk.row (bS (List.replicate 16 0#8)) 42]) (gl_ext fun i hi => ?_)
      split
      · subst_vars; rw [if_pos (by omega)]
      · split
        · rw [if_pos (by omega)]
        · rw [if_neg (by omega)]
    · obtain rfl : k = 16 := by omega
      refine dropC_append hM (bS_lt _ _) ?_
      have : (gl 16 fun j => if j < 16 then x.getD j 0#8 ^^^ (keyR C r).getD j 0#8 else x.getD j 0#8) = xorL x (keyR C r) := gl_ext fun i hi => if_pos hi
      rw [this]
      exact hK

theorem refturned_ok (m : Nat) (C : List (BitVec 8)) (ty : TypeId) (x : List (BitVec 8)) (M : List Blk) (K : SV → List Blk → Prop) (hC : M[m]? = some (.row (bS C) ty)) (hCl : C.length = 752) (hx : x.length = 16)
    (hK : K (.agg (bS (shiftL C x))) M) : callVC Try.prog 46 [.p m 0, .agg (bS x)] M K := by
  have hm : m < M.length := (List.getElem?_eq_some_iff.1 hC).1
  refine fn_rule tabOK Try.func46 rfl Try.call46 (by kernel_rfl) (fun hM => ?_)
  (refine top_in ?_; simp -implicitDefEqProofs only [Try.ntmps46, Try.results46, go_sem, -List.reduceReplicate, ↓L_gdZ_tt, ↓L_gdZ_tf, ↓L_gdZ_ft, ↓L_gdZ_ff, ↓T_and, ↓T_imp, ↓T_all, Nat.reduceBEq, Nat.reduceAdd, Nat.reduceSub, Nat.reduceMul, Nat.reduceLT, Nat.reduceLeDiff, Nat.reduceEqDiff, Int.reduceLT, Int.reduceLE, Int.reduceAdd, Int.reduceSub, Int.reduceMul, Int.reduceNeg, Int.reduceToNat, Int.reduceEq, Int.reduceNe, reduceIte, reduceCtorEq, BitVec.reduceOfInt, BitVec.reduceToNat, hx]; try simp only [top_out])
  refine loop_code tabOK (by kernel_rfl) (fun n ts M' => ∃ (c : Nat), c + n = 4 ∧ frC [some (.p m 0), none, none, some (.p M.length 0), some (.p (M.length + 1) 0), some (.p (M.length + 2) 0), some (.i .i64 c), none, none, none, none, none, none, none, none, none, none, none, none, none, none, none, none, none, none, none, none, none, none, none, none, none, none, none, none, none] ts ∧
     M' = M ++ [.row (bS x) 42, .row (bS (List.replicate 16 0#8)) 42, .row (bS (gl 16 fun j => if j < 4 * c then (shiftL C x).getD j 0#8 else 0#8)) 42]) 4 ?_ ?_
  · refine ⟨0, rfl, by simp [frC], ?_⟩
    simp only [Nat.mul_zero, Nat.not_lt_zero, if_false, gl_const]
  · rintro n ts _ ⟨c, hc, hf, rfl⟩
    have wc : c < 4 → IntKind.i64.wrap (4 * (c : Int)) = ((4 * c : Nat) : Int) := fun h => by rw [w64 (by omega) (by omega)]; omega
    obtain ⟨f, rfl⟩ := frC_open _ _ 0 hf
    clear hf
    (refine top_in ?_; simp -implicitDefEqProofs only [go_sem, -List.reduceReplicate, ↓L_gdZ_tt, ↓L_gdZ_tf, ↓L_gdZ_ft, ↓L_gdZ_ff, ↓T_and, ↓T_imp, ↓T_all, Nat.reduceBEq, Nat.reduceAdd, Nat.reduceSub, Nat.reduceMul, Nat.reduceLT, Nat.reduceLeDiff, Nat.reduceEqDiff, Int.reduceLT, Int.reduceLE, Int.reduceAdd, Int.reduceSub, Int.reduceMul, Int.reduceNeg, Int.reduceToNat, Int.reduceEq, Int.reduceNe, reduceIte, reduceCtorEq, BitVec.reduceOfInt, BitVec.reduceToNat, get_lt hm, hC, hCl, hx]; try simp only [top_out])
    refine ⟨fun h => ?_, fun h => ?_⟩
    · refine loop_code tabOK (by kernel_rfl) (fun i ts M' => ∃ (k : Nat), k + i = 4 ∧ frC [some (.p m 0), none, none, some (.p M.length 0), some (.p (M.length + 1) 0), some (.p (M.length + 2) 0), some (.i .i64 c), some (.i .i64 k), none, none, none, none, none, none, none, none, none, none, none, none, none, none, none, none, none, none, none, none, none, none, none, none, none, none, none, none] ts ∧
        M' = M ++ [.row (bS x) 42, .row (bS (List.replicate 16 0#8)) 42, .row (bS (gl 16 fun j => if j < 4 * c + k then (shiftL C x).getD j 0#8 else 0#8)) 42]) 4 ?_ ?_
      · exact ⟨0, rfl, by simp [frC], rfl⟩
      · rintro i ts _ ⟨k, hk, hf, rfl⟩
        obtain ⟨f, rfl⟩ := frC_open _ _ 0 hf
        clear hf
        (refine top_in ?_; simp -implicitDefEqProofs only [go_sem, -List.reduceReplicate, ↓L_gdZ_tt, ↓L_gdZ_tf, ↓L_gdZ_ft, ↓L_gdZ_ff, ↓T_and, ↓T_imp, ↓T_all, Nat.reduceBEq, Nat.reduceAdd, Nat.reduceSub, Nat.reduceMul, Nat.reduceLT, Nat.reduceLeDiff, Nat.reduceEqDiff, Int.reduceLT, Int.reduceLE, Int.reduceAdd, Int.reduceSub, Int.reduceMul, Int.reduceNeg, Int.reduceToNat, Int.reduceEq, Int.reduceNe, reduceIte, reduceCtorEq, BitVec.reduceOfInt, BitVec.reduceToNat, get_lt hm, hC, hCl, hx]; try simp only [top_out])
        refine ⟨fun h => ?_, fun h => ?_⟩
        · have a1 : IntKind.i64.wrap (4 * (c : Int)) = ((4 * c : Nat) : Int) := by rw [w64 (by omega) (by omega)]; omega
          have a2 : IntKind.i64.wrap (((4 * c : Nat) : Int) + (k : Int)) = ((4 * c + k : Nat) : Int) := by rw [w64 (by omega) (by omega)]; omega
          have a3 : (IntKind.i64.wrap ((c : Int) + (k : Int))).tmod 4 = (((c + k) % 4 : Nat) : Int) := by rw [w64 (by omega) (by omega), Int.tmod_eq_emod_of_nonneg (by omega)]; omega
          have a4 : IntKind.i64.wrap (4 * (((c + k) % 4 : Nat) : Int)) = ((4 * ((c + k) % 4) : Nat) : Int) := by rw [w64 (by omega) (by omega)]; omega
          have a5 : IntKind.i64.wrap (((4 * ((c + k) % 4) : Nat) : Int) + (k : Int)) = ((4 * ((c + k) % 4) + k : Nat) : Int) := by rw [w64 (by omega) (by omega)]; omega
          have h256 := BitVec.isLt (x.getD (4 * ((c + k) % 4) + k) 0#8)
          have g0 : (shiftL C x).getD (4 * c + k) 0#8 = C.getD (x.getD (4 * ((c + k) % 4) + k) 0#8).toNat 0#8 := by
            have : (shiftL C x).getD (4 * c + k) 0#8 = C.getD (x.getD (4 * (((4 * c + k) / 4 + (4 * c + k) % 4) % 4) + (4 * c + k) % 4) 0#8).toNat 0#8 := gl_getD (by omega) _
            rw [this, show (4 * c + k) / 4 = c by omega, show (4 * c + k) % 4 = k by omega]
          refine draw_rule tabOK (by kernel_rfl : _) (.p 0 (.p 1 (.p 2 (.p 3 (.p 4 (.p 5 (.p 6 (.p 7 (.p 8 (.p 9 (.p 10 (.p 11 (.p 12 (.p 13 (.p 14 (.p 15 (.p 16 (.p 17 (.p 18 (.e 19 [] .nil .no)))))))))))))))))))) (by kernel_rfl) (by kernel_rfl) ?_
          (refine top_in ?_; simp -implicitDefEqProofs only [go_sem, -List.reduceReplicate, ↓L_gdZ_tt, ↓L_gdZ_tf, ↓L_gdZ_ft, ↓L_gdZ_ff, ↓T_and, ↓T_imp, ↓T_all, Nat.reduceBEq, Nat.reduceAdd, Nat.reduceSub, Nat.reduceMul, Nat.reduceLT, Nat.reduceLeDiff, Nat.reduceEqDiff, Int.reduceLT, Int.reduceLE, Int.reduceAdd, Int.reduceSub, Int.reduceMul, Int.reduceNeg, Int.reduceToNat, Int.reduceEq, Int.reduceNe, reduceIte, reduceCtorEq, BitVec.reduceOfInt, BitVec.reduceToNat, get_lt hm, hC, hCl, hx, a1, a2, a3, a4, a5]; try simp only [top_out])
          repeat' refine And.intro ?_ ?_
          any_goals omega
          refine ⟨i - 1, by omega, k + 1, by omega, by rw [w64 (by omega) (by omega)]; rfl, ?_⟩
          rw [← g0, gl_set]
          refine congrArg (fun l => M ++ [Blk.row (bS x) 42, Blk.row (bS (List.replicate 16 0#8)) 42, Blk.row (bS l) 42]) (gl_ext fun i hi => ?_)
          split
          · subst_vars; rw [if_pos (by omega)]
          · split
            · rw [if_pos (by omega)]
            · rw [if_neg (by omega)]
        · obtain rfl : k = 4 := by omega
          exact ⟨n - 1, by omega, c + 1, by omega, by rw [w64 (by omega) (by omega)]; rfl, rfl⟩
    · obtain rfl : c = 4 := by omega
      refine dropC_append hM (bS_lt _ _) ?_
      have : (gl 16 fun j => if j < 4 * 4 then (shiftL C x).getD j 0#8 else 0#8) = shiftL C x := by
        conv => rhs; rw [gl_self (shiftL_len C x) 0#8]
        exact gl_ext fun i hi => if_pos (by omega)
      rw [this]
      exact hK
end Go.Proofs.Ytbiolfeincepoaa.Eng
