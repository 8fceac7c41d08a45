/- The document's block. -/
import Derived.Test.YtbiolfeincepoaaA7
namespace Go.Proofs.Ytbiolfeincepoaa.Eng
open Go Go.RowKit
set_option linter.unusedSimpArgs false
set_option linter.unusedVariables false

def refR (C b : List (BitVec 8)) (r : Nat) : List (BitVec 8) := xorL (if r < 14 then mixK (shiftL C b) 4 else shiftL C b) (keyR C r)
def refN4 (C x : List (BitVec 8)) : Nat → List (BitVec 8)
  | 0 => xorL x (keyR C 0)
  | k + 1 => refR C (refN4 C x k) (k + 1)
theorem refN4_len (C x : List (BitVec 8)) : ∀ k, (refN4 C x k).length = 16
  | 0 => xorL_len _ _
  | _ + 1 => xorL_len _ _
set_option maxHeartbeats 1000000 in
theorem refblock_ok (m : Nat) (C : List (BitVec 8)) (ty : TypeId) (x : List (BitVec 8)) (M : List Blk) (K : SV → List Blk → Prop) (hC : M[m]? = some (.row (bS C) ty)) (hCl : C.length = 752) (hx : x.length = 16)
    (hT : ∀ v : BitVec 8, C.getD (256 + v.toNat) 0#8 = mul8L 8 2#8 v 0#8)
    (hK : K (.agg (bS (refN4 C x 14))) M) : callVC Try.prog 36 [.p m 0, .agg (bS x)] M K := by
  have hm : m < M.length := (List.getElem?_eq_some_iff.1 hC).1
  have hC' : ∀ L : List Blk, (M ++ L)[m]? = some (.row (bS C) ty) := fun L => by rw [get_lt hm]; exact hC
  refine fn_rule tabOK Try.func36 rfl Try.call36 (by kernel_rfl) (fun hM => ?_)
  (refine top_in ?_; simp -implicitDefEqProofs only [Try.ntmps36, Try.results36, go_sem, -List.reduceReplicate, ↓L_gdZ_tt, ↓L_gdZ_tf, ↓L_gdZ_ft, ↓L_gdZ_ff, ↓T_and, ↓T_imp, ↓T_all, Nat.reduceBEq, Nat.reduceAdd, Nat.reduceSub, Nat.reduceMul, Nat.reduceLT, Nat.reduceLeDiff, Nat.reduceEqDiff, Int.reduceLT, Int.reduceLE, Int.reduceAdd, Int.reduceSub, Int.reduceMul, Int.reduceNeg, Int.reduceToNat, Int.reduceEq, Int.reduceNe, reduceIte, reduceCtorEq, BitVec.reduceOfInt, BitVec.reduceToNat, hx]; try simp only [top_out])
  refine refkeyed_ok m C ty x 0 _ _ (hC' _) hCl hx (by omega) ?_
  have x0 := xorL_len x (keyR C 0)
  (refine top_in ?_; simp -implicitDefEqProofs only [go_sem, -List.reduceReplicate, ↓L_gdZ_tt, ↓L_gdZ_tf, ↓L_gdZ_ft, ↓L_gdZ_ff, ↓T_and, ↓T_imp, ↓T_all, Nat.reduceBEq, Nat.reduceAdd, Nat.reduceSub, Nat.reduceMul, Nat.reduceLT, Nat.reduceLeDiff, Nat.reduceEqDiff, Int.reduceLT, Int.reduceLE, Int.reduceAdd, Int.reduceSub, Int.reduceMul, Int.reduceNeg, Int.reduceToNat, Int.reduceEq, Int.reduceNe, reduceIte, reduceCtorEq, BitVec.reduceOfInt, BitVec.reduceToNat, hx, x0]; try simp only [top_out])
  refine loop_code tabOK (by kernel_rfl) (fun n ts M' => ∃ (k : Nat), k + n = 14 ∧ frC [some (.p m 0), none, none, some (.p M.length 0), some (.p (M.length + 1) 0), some (.p (M.length + 2) 0), some (.i .i64 (k + 1 : Nat)), none, none, none, none, none, none, none, none, none, none, none, none, none, none, none, none, none, none, none, none] ts ∧
    M' = M ++ [.row (bS x) 42, .row (bS (List.replicate 16 0#8)) 42, .row (bS (refN4 C x k)) 42]) 14 ?_ ?_
  · exact ⟨0, rfl, by simp [frC], rfl⟩
  · rintro n ts _ ⟨k, hk, hf, rfl⟩
    have hb := refN4_len C x k
    generalize hs : refN4 C x k = b at hb
    obtain ⟨f, rfl⟩ := frC_open _ _ 0 hf
    clear hf
    (refine top_in ?_; simp -implicitDefEqProofs only [go_sem, -List.reduceReplicate, ↓L_gdZ_tt, ↓L_gdZ_tf, ↓L_gdZ_ft, ↓L_gdZ_ff, ↓T_and, ↓T_imp, ↓T_all, Nat.reduceBEq, Nat.reduceAdd, Nat.reduceSub, Nat.reduceMul, Nat.reduceLT, Nat.reduceLeDiff, Nat.reduceEqDiff, Int.reduceLT, Int.reduceLE, Int.reduceAdd, Int.reduceSub, Int.reduceMul, Int.reduceNeg, Int.reduceToNat, Int.reduceEq, Int.reduceNe, reduceIte, reduceCtorEq, BitVec.reduceOfInt, BitVec.reduceToNat, hx, hb]; try simp only [top_out])
    refine ⟨fun h => ?_, fun h => ?_⟩
    · have hsl := shiftL_len C b
      refine refturned_ok m C ty b _ _ (hC' _) hCl hb ?_
      (refine top_in ?_; simp -implicitDefEqProofs only [go_sem, -List.reduceReplicate, ↓L_gdZ_tt, ↓L_gdZ_tf, ↓L_gdZ_ft, ↓L_gdZ_ff, ↓T_and, ↓T_imp, ↓T_all, Nat.reduceBEq, Nat.reduceAdd, Nat.reduceSub, Nat.reduceMul, Nat.reduceLT, Nat.reduceLeDiff, Nat.reduceEqDiff, Int.reduceLT, Int.reduceLE, Int.reduceAdd, Int.reduceSub, Int.reduceMul, Int.reduceNeg, Int.reduceToNat, Int.reduceEq, Int.reduceNe, reduceIte, reduceCtorEq, BitVec.reduceOfInt, BitVec.reduceToNat, hx, hb, hsl]; try simp only [top_out])
      have wk := w64 (x := ((k + 1 : Nat) : Int) + 1) (by omega) (by omega)
      refine ⟨fun h14 => ?_, fun h14 => ?_⟩
      · have hml := mixK_len (shiftL C b) 4
        refine refmixed_ok m C ty (shiftL C b) _ _ (hC' _) hCl hsl hT ?_
        (refine top_in ?_; simp -implicitDefEqProofs only [go_sem, -List.reduceReplicate, ↓L_gdZ_tt, ↓L_gdZ_tf, ↓L_gdZ_ft, ↓L_gdZ_ff, ↓T_and, ↓T_imp, ↓T_all, Nat.reduceBEq, Nat.reduceAdd, Nat.reduceSub, Nat.reduceMul, Nat.reduceLT, Nat.reduceLeDiff, Nat.reduceEqDiff, Int.reduceLT, Int.reduceLE, Int.reduceAdd, Int.reduceSub, Int.reduceMul, Int.reduceNeg, Int.reduceToNat, Int.reduceEq, Int.reduceNe, reduceIte, reduceCtorEq, BitVec.reduceOfInt, BitVec.reduceToNat, hx, hb, hsl, hml]; try simp only [top_out])
        refine refkeyed_ok m C ty (mixK (shiftL C b) 4) (k + 1) _ _ (hC' _) hCl hml (by omega) ?_
        have hxl := xorL_len (mixK (shiftL C b) 4) (keyR C (k + 1))
        (refine top_in ?_; simp -implicitDefEqProofs only [go_sem, -List.reduceReplicate, ↓L_gdZ_tt, ↓L_gdZ_tf, ↓L_gdZ_ft, ↓L_gdZ_ff, ↓T_and, ↓T_imp, ↓T_all, Nat.reduceBEq, Nat.reduceAdd, Nat.reduceSub, Nat.reduceMul, Nat.reduceLT, Nat.reduceLeDiff, Nat.reduceEqDiff, Int.reduceLT, Int.reduceLE, Int.reduceAdd, Int.reduceSub, Int.reduceMul, Int.reduceNeg, Int.reduceToNat, Int.reduceEq, Int.reduceNe, reduceIte, reduceCtorEq, BitVec.reduceOfInt, BitVec.reduceToNat, hx, hb, hsl, hml, hxl]; try simp only [top_out])
        refine ⟨n - 1, by omega, k + 1, by omega, by rw [wk]; rfl, ?_⟩
        have : refN4 C x (k + 1) = xorL (mixK (shiftL C b) 4) (keyR C (k + 1)) := by
          rw [← hs]; show xorL (if k + 1 < 14 then _ else _) _ = _; rw [if_pos (by omega)]
        rw [this]
      · refine refkeyed_ok m C ty (shiftL C b) (k + 1) _ _ (hC' _) hCl hsl (by omega) ?_
        have hxl := xorL_len (shiftL C b) (keyR C (k + 1))
        (refine top_in ?_; simp -implicitDefEqProofs only [go_sem, -List.reduceReplicate, ↓L_gdZ_tt, ↓L_gdZ_tf, ↓L_gdZ_ft, ↓L_gdZ_ff, ↓T_and, ↓T_imp, ↓T_all, Nat.reduceBEq, Nat.reduceAdd, Nat.reduceSub, Nat.reduceMul, Nat.reduceLT, Nat.reduceLeDiff, Nat.reduceEqDiff, Int.reduceLT, Int.reduceLE, Int.reduceAdd, Int.reduceSub, Int.reduceMul, Int.reduceNeg, Int.reduceToNat, Int.reduceEq, Int.reduceNe, reduceIte, reduceCtorEq, BitVec.reduceOfInt, BitVec.reduceToNat, hx, hb, hsl, hxl]; try simp only [top_out])
        refine ⟨n - 1, by omega, k + 1, by omega, by rw [wk]; rfl, ?_⟩
        have : refN4 C x (k + 1) = xorL (shiftL C b) (keyR C (k + 1)) := by
          rw [← hs]; show xorL (if k + 1 < 14 then _ else _) _ = _; rw [if_neg (by omega)]
        rw [this]
    · obtain rfl : k = 14 := by omega
      subst hs
      exact dropC_append hM (bS_lt _ _) hK
end Go.Proofs.Ytbiolfeincepoaa.Eng
