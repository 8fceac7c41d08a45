/- The document's mixing and its block. -/
import Derived.Test.YtbiolfeincepoaaA6
namespace Go.Proofs.Ytbiolfeincepoaa.Eng
open Go Go.RowKit
set_option linter.unusedSimpArgs false
set_option linter.unusedVariables false

theorem mul3 (a : BitVec 8) : mul8L 8 3#8 a 0#8 = mul8L 8 2#8 a 0#8 ^^^ a := all8 (p := fun a => mul8L 8 3#8 a 0#8 = mul8L 8 2#8 a 0#8 ^^^ a) (by decide +kernel) a
theorem take4_getD {x : List (BitVec 8)} {c k : Nat} (hk : k < 4) : ((x.drop (4 * c)).take 4).getD k 0#8 = x.getD (4 * c + k) 0#8 := by
  rw [List.getD_eq_getElem?_getD, List.getElem?_take_of_lt hk, List.getElem?_drop, ← List.getD_eq_getElem?_getD]
theorem mix_getD {x : List (BitVec 8)} {c k : Nat} (hc : c < 4) (hk : k < 4) : (mixK x 4).getD (4 * c + k) 0#8 =
    mul8L 8 2#8 (x.getD (4 * c + k) 0#8) 0#8 ^^^ mul8L 8 2#8 (x.getD (4 * c + (k + 1) % 4) 0#8) 0#8 ^^^ x.getD (4 * c + (k + 1) % 4) 0#8 ^^^ x.getD (4 * c + (k + 2) % 4) 0#8 ^^^ x.getD (4 * c + (k + 3) % 4) 0#8 := by
  have h1 : (mixK x 4).getD (4 * c + k) 0#8 = (mixL ((x.drop (4 * ((4 * c + k) / 4))).take 4)).getD ((4 * c + k) % 4) 0#8 := by
    unfold mixK; rw [gl_getD (by omega), if_pos (by omega)]
  rw [h1, show (4 * c + k) / 4 = c by omega, show (4 * c + k) % 4 = k by omega]
  unfold mixL
  rw [gl_getD hk, take4_getD hk, take4_getD (by omega), take4_getD (by omega), take4_getD (by omega), mul3, BitVec.xor_assoc (mul8L 8 2#8 _ 0#8) (mul8L 8 2#8 _ 0#8 ^^^ _), BitVec.xor_assoc (mul8L 8 2#8 _ 0#8) (mul8L 8 2#8 _ 0#8)]
  simp only [BitVec.xor_assoc]
set_option maxHeartbeats 1000000 in
theorem refmixed_ok (m : Nat) (C : List (BitVec 8)) (ty : TypeId) (x : List (BitVec 8)) (M : List Blk) (K : SV → List Blk → Prop) (hC : M[m]? = some (.row (bS C) ty)) (hCl : C.length = 752) (hx : x.length = 16)
    (hT : ∀ v : BitVec 8, C.getD (256 + v.toNat) 0#8 = mul8L 8 2#8 v 0#8)
    (hK : K (.agg (bS (mixK x 4))) M) : callVC Try.prog 47 [.p m 0, .agg (bS x)] M K := by
  have hm : m < M.length := (List.getElem?_eq_some_iff.1 hC).1
  refine fn_rule tabOK Try.func47 rfl Try.call47 (by kernel_rfl) (fun hM => ?_)
  (refine top_in ?_; simp -implicitDefEqProofs only [Try.ntmps47, Try.results47, go_sem, -List.reduceReplicate, ↓L_gdZ_tt, ↓L_gdZ_tf, ↓L_gdZ_ft, ↓L_gdZ_ff, ↓T_and, ↓T_imp, ↓T_all, Nat.reduceBEq, Nat.reduceAdd, Nat.reduceSub, Nat.reduceMul, Nat.reduceLT, Nat.reduceLeDiff, Nat.reduceEqDiff, Int.reduceLT, Int.reduceLE, Int.reduceAdd, Int.reduceSub, Int.reduceMul, Int.reduceNeg, Int.reduceToNat, Int.reduceEq, Int.reduceNe, reduceIte, reduceCtorEq, BitVec.reduceOfInt, BitVec.reduceToNat, hx]; try simp only [top_out])
  refine loop_code tabOK (by kernel_rfl) (fun n ts M' => ∃ (c : Nat), c + n = 4 ∧ frC (some (.p m 0) :: none :: none :: some (.p M.length 0) :: some (.p (M.length + 1) 0) :: some (.p (M.length + 2) 0) :: some (.i .i64 c) :: none :: none :: none :: none :: none :: none :: none :: none :: none :: none :: none :: none :: none :: none :: none :: none :: none :: none :: none :: none :: none :: none :: none :: none :: none :: none :: none :: none :: none :: none :: none :: none :: none :: none :: none :: none :: none :: none :: none :: none :: none :: none :: none :: none :: none :: none :: none :: none :: none :: none :: none :: none :: none :: none :: none :: none :: none :: none :: none :: none :: none :: none :: none :: none :: []) ts ∧
     M' = M ++ [.row (bS x) 42, .row (bS (List.replicate 16 0#8)) 42, .row (bS (gl 16 fun j => if j < 4 * c then (mixK x 4).getD j 0#8 else 0#8)) 42]) 4 ?_ ?_
  · refine ⟨0, rfl, by simp [frC], ?_⟩
    simp only [Nat.mul_zero, Nat.not_lt_zero, if_false, gl_const]
  · rintro n ts _ ⟨c, hc, hf, rfl⟩
    obtain ⟨f, rfl⟩ := frC_open _ _ 0 hf
    clear hf
    (refine top_in ?_; simp -implicitDefEqProofs only [go_sem, -List.reduceReplicate, ↓L_gdZ_tt, ↓L_gdZ_tf, ↓L_gdZ_ft, ↓L_gdZ_ff, ↓T_and, ↓T_imp, ↓T_all, Nat.reduceBEq, Nat.reduceAdd, Nat.reduceSub, Nat.reduceMul, Nat.reduceLT, Nat.reduceLeDiff, Nat.reduceEqDiff, Int.reduceLT, Int.reduceLE, Int.reduceAdd, Int.reduceSub, Int.reduceMul, Int.reduceNeg, Int.reduceToNat, Int.reduceEq, Int.reduceNe, reduceIte, reduceCtorEq, BitVec.reduceOfInt, BitVec.reduceToNat, get_lt hm, hC, hCl, hx]; try simp only [top_out])
    refine ⟨fun h => ?_, fun h => ?_⟩
    · have a1 : IntKind.i64.wrap (4 * (c : Int)) = ((4 * c : Nat) : Int) := by rw [w64 (by omega) (by omega)]; omega
      refine loop_code tabOK (by kernel_rfl) (fun i ts M' => ∃ (k : Nat), k + i = 4 ∧ frC (some (.p m 0) :: none :: none :: some (.p M.length 0) :: some (.p (M.length + 1) 0) :: some (.p (M.length + 2) 0) :: some (.i .i64 c) :: some (.i .i64 k) :: none :: none :: none :: none :: none :: none :: none :: none :: none :: none :: none :: none :: none :: none :: none :: none :: none :: none :: none :: none :: none :: none :: none :: none :: none :: none :: none :: none :: none :: none :: none :: none :: none :: none :: none :: none :: none :: none :: none :: none :: none :: none :: none :: none :: none :: none :: none :: none :: none :: none :: none :: none :: none :: none :: none :: none :: none :: none :: none :: none :: none :: none :: none :: []) ts ∧
        M' = M ++ [.row (bS x) 42, .row (bS (List.replicate 16 0#8)) 42, .row (bS (gl 16 fun j => if j < 4 * c + k then (mixK x 4).getD j 0#8 else 0#8)) 42]) 4 ?_ ?_
      · exact ⟨0, rfl, by simp [frC], rfl⟩
      · rintro i ts _ ⟨k, hk, hf, rfl⟩
        have a3 : ∀ a : Nat, a ≤ 3 → k < 4 → (IntKind.i64.wrap ((k : Int) + (a : Int))).tmod 4 = (((k + a) % 4 : Nat) : Int) := fun a ha hk => by rw [w64 (by omega) (by omega), Int.tmod_eq_emod_of_nonneg (by omega)]; omega
        have b1 := a3 1 (by omega)
        have b2 := a3 2 (by omega)
        have b3 := a3 3 (by omega)
        simp only [Int.cast_ofNat_Int] at b1 b2 b3
        by_cases hk4 : k < 4
        · have b1 := b1 hk4
          have b2 := b2 hk4
          have b3 := b3 hk4
          have a2 : ∀ q : Nat, q ≤ 3 → IntKind.i64.wrap (((4 * c : Nat) : Int) + (q : Int)) = ((4 * c + q : Nat) : Int) := fun q hq => by rw [w64 (by omega) (by omega)]; omega
          have c0 := a2 k (by omega)
          have c1 := a2 ((k + 1) % 4) (by omega)
          have c2 := a2 ((k + 2) % 4) (by omega)
          have c3 := a2 ((k + 3) % 4) (by omega)
          have hlt : ((k : Int) < 4) = True := by simp; omega
          have v1 := BitVec.isLt (x.getD (4 * c + k) 0#8)
          have v2 := BitVec.isLt (x.getD (4 * c + (k + 1) % 4) 0#8)
          have g0 := mix_getD (x := x) (c := c) (k := k) (by omega) hk4
          obtain ⟨f, rfl⟩ := frC_open _ _ 0 hf
          clear hf
          (refine top_in ?_; simp -implicitDefEqProofs only [go_sem, -List.reduceReplicate, ↓L_gdZ_tt, ↓L_gdZ_tf, ↓L_gdZ_ft, ↓L_gdZ_ff, ↓T_and, ↓T_imp, ↓T_all, Nat.reduceBEq, Nat.reduceAdd, Nat.reduceSub, Nat.reduceMul, Nat.reduceLT, Nat.reduceLeDiff, Nat.reduceEqDiff, Int.reduceLT, Int.reduceLE, Int.reduceAdd, Int.reduceSub, Int.reduceMul, Int.reduceNeg, Int.reduceToNat, Int.reduceEq, Int.reduceNe, reduceIte, reduceCtorEq, BitVec.reduceOfInt, BitVec.reduceToNat, get_lt hm, hC, hCl, hx, hlt, a1, b1, b2, b3, c0, c1, c2, c3]; try simp only [top_out])
          refine ⟨by omega, by omega, by omega, by omega, by omega, by omega, by omega, by omega, ?_⟩
          refine draw_rule tabOK (by kernel_rfl : _) (.p 0 (.p 1 (.p 2 (.p 3 (.p 4 (.p 5 (.p 6 (.p 7 (.p 8 (.p 9 (.p 10 (.p 11 (.p 12 (.p 13 (.p 14 (.p 15 (.p 16 (.p 17 (.p 18 (.p 19 (.p 20 (.p 21 (.p 22 (.p 23 (.p 24 (.p 25 (.p 26 (.p 27 (.p 28 (.p 29 (.p 30 (.p 31 (.p 32 (.p 33 (.p 34 (.p 35 (.p 36 (.p 37 (.e 38 [] .nil .no))))))))))))))))))))))))))))))))))))))) (by kernel_rfl) (by kernel_rfl) ?_
          (refine top_in ?_; simp -implicitDefEqProofs only [go_sem, -List.reduceReplicate, ↓L_gdZ_tt, ↓L_gdZ_tf, ↓L_gdZ_ft, ↓L_gdZ_ff, ↓T_and, ↓T_imp, ↓T_all, Nat.reduceBEq, Nat.reduceAdd, Nat.reduceSub, Nat.reduceMul, Nat.reduceLT, Nat.reduceLeDiff, Nat.reduceEqDiff, Int.reduceLT, Int.reduceLE, Int.reduceAdd, Int.reduceSub, Int.reduceMul, Int.reduceNeg, Int.reduceToNat, Int.reduceEq, Int.reduceNe, reduceIte, reduceCtorEq, BitVec.reduceOfInt, BitVec.reduceToNat, get_lt hm, hC, hCl, hx, hlt, a1, b1, b2, b3, c0, c1, c2, c3, hT]; try simp only [top_out])
          repeat' refine And.intro ?_ ?_
          any_goals omega
          refine ⟨i - 1, by omega, k + 1, by omega, by rw [w64 (by omega) (by omega)]; rfl, ?_⟩
          rw [← g0, gl_set]
          refine congrArg (fun l => M ++ [Blk.row (bS x) 42, Blk.row (bS (List.replicate 16 0#8)) 42, Blk.row (bS l) 42]) (gl_ext fun i hi => ?_)
          split
          · subst_vars; rw [if_pos (by omega)]
          · split
            · rw [if_pos (by omega)]
            · rw [if_neg (by omega)]
        · have hlt : ((k : Int) < 4) = False := by simp; omega
          obtain rfl : k = 4 := by omega
          obtain ⟨f, rfl⟩ := frC_open _ _ 0 hf
          clear hf
          (refine top_in ?_; simp -implicitDefEqProofs only [go_sem, -List.reduceReplicate, ↓L_gdZ_tt, ↓L_gdZ_tf, ↓L_gdZ_ft, ↓L_gdZ_ff, ↓T_and, ↓T_imp, ↓T_all, Nat.reduceBEq, Nat.reduceAdd, Nat.reduceSub, Nat.reduceMul, Nat.reduceLT, Nat.reduceLeDiff, Nat.reduceEqDiff, Int.reduceLT, Int.reduceLE, Int.reduceAdd, Int.reduceSub, Int.reduceMul, Int.reduceNeg, Int.reduceToNat, Int.reduceEq, Int.reduceNe, reduceIte, reduceCtorEq, BitVec.reduceOfInt, BitVec.reduceToNat, hlt]; try simp only [top_out])
          exact ⟨n - 1, by omega, c + 1, by omega, by rw [w64 (by omega) (by omega)]; rfl, rfl⟩
    · obtain rfl : c = 4 := by omega
      refine dropC_append hM (bS_lt _ _) ?_
      have : (gl 16 fun j => if j < 4 * 4 then (mixK x 4).getD j 0#8 else 0#8) = mixK x 4 := by
        conv => rhs; rw [gl_self (mixK_len x 4) 0#8]
        exact gl_ext fun i hi => if_pos (by omega)
      rw [this]
      exact hK
end Go.Proofs.Ytbiolfeincepoaa.Eng
