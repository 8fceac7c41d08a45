/- The product of two blocks, as field.Mul128 reckons it. -/
import Derived.Test.YtbiolfeincepoaaT5
namespace Go.Proofs.Ytbiolfeincepoaa.Eng
open Go Go.RowKit
set_option linter.unusedSimpArgs false
set_option linter.unusedVariables false

/-- one round of the product of blocks: the two halves of y times X -/
def tA (a b : BitVec 64) : BitVec 64 := if (b &&& 1#64) != 0#64 then (a >>> 1) ^^^ 16212958658533785600#64 else a >>> 1
def tB (a b : BitVec 64) : BitVec 64 := b >>> 1 ||| a <<< 63
def xb (x : List (BitVec 8)) (i : Nat) : Bool := ((x.getD (i / 8) 0#8 >>> (7 - i % 8)) &&& 1#8) != 0#8
/-- hi, lo, a, b after k rounds -/
def mulN (x : List (BitVec 8)) (a b : BitVec 64) : Nat → BitVec 64 × BitVec 64 × BitVec 64 × BitVec 64
  | 0 => (0#64, 0#64, a, b)
  | k + 1 =>
    let s := mulN x a b k
    (if xb x k then s.1 ^^^ s.2.2.1 else s.1, if xb x k then s.2.1 ^^^ s.2.2.2 else s.2.1, tA s.2.2.1 s.2.2.2, tB s.2.2.1 s.2.2.2)
def outL (hi lo : BitVec 64) : List (BitVec 8) := gl 16 fun j => if j < 8 then (hi >>> (56 - 8 * j)).setWidth 8 else (lo >>> (56 - 8 * (j - 8))).setWidth 8
def mulL (x y : List (BitVec 8)) : List (BitVec 8) :=
  outL (mulN x (halfN y 0 8) (halfN y 8 8) 128).1 (mulN x (halfN y 0 8) (halfN y 8 8) 128).2.1

theorem mul128_ok (x y : List (BitVec 8)) (hx : x.length = 16) (hy : y.length = 16) (M : List Blk) (K : SV → List Blk → Prop) (hK : K (.agg (bS (mulL x y))) M) :
    callVC Try.prog 30 [.agg (bS x), .agg (bS y)] M K := by
  refine fn_rule tabOK Try.func30 rfl Try.call30 (by kernel_rfl) (fun hM => ?_)
  (refine top_in ?_; simp -implicitDefEqProofs only [Try.ntmps30, Try.results30, go_sem, -List.reduceReplicate, ↓L_gdZ_tt, ↓L_gdZ_tf, ↓L_gdZ_ft, ↓L_gdZ_ff, ↓T_and, ↓T_imp, ↓T_all, Nat.reduceBEq, Nat.reduceAdd, Nat.reduceSub, Nat.reduceMul, Nat.reduceLT, Nat.reduceLeDiff, Nat.reduceEqDiff, Int.reduceLT, Int.reduceLE, Int.reduceAdd, Int.reduceSub, Int.reduceMul, Int.reduceNeg, Int.reduceToNat, Int.reduceEq, Int.reduceNe, reduceIte, reduceCtorEq, BitVec.reduceOfInt, BitVec.reduceToNat, hx, hy]; try simp only [top_out])
  refine draw_rule tabOK (by kernel_rfl : _) (.p 0 (.p 2 (.e 1 [2] (.e 3 [] (.p 4 (.p 5 .nil)) .no) .no))) (by kernel_rfl) (by kernel_rfl) ?_
  (refine top_in ?_; simp -implicitDefEqProofs only [go_sem, -List.reduceReplicate, ↓L_gdZ_tt, ↓L_gdZ_tf, ↓L_gdZ_ft, ↓L_gdZ_ff, ↓T_and, ↓T_imp, ↓T_all, Nat.reduceBEq, Nat.reduceAdd, Nat.reduceSub, Nat.reduceMul, Nat.reduceLT, Nat.reduceLeDiff, Nat.reduceEqDiff, Int.reduceLT, Int.reduceLE, Int.reduceAdd, Int.reduceSub, Int.reduceMul, Int.reduceNeg, Int.reduceToNat, Int.reduceEq, Int.reduceNe, reduceIte, reduceCtorEq, BitVec.reduceOfInt, BitVec.reduceToNat, hx, hy]; try simp only [top_out])
  refine half_ok y hy 0 (by omega) _ _ ?_
  (refine top_in ?_; simp -implicitDefEqProofs only [go_sem, -List.reduceReplicate, ↓L_gdZ_tt, ↓L_gdZ_tf, ↓L_gdZ_ft, ↓L_gdZ_ff, ↓T_and, ↓T_imp, ↓T_all, Nat.reduceBEq, Nat.reduceAdd, Nat.reduceSub, Nat.reduceMul, Nat.reduceLT, Nat.reduceLeDiff, Nat.reduceEqDiff, Int.reduceLT, Int.reduceLE, Int.reduceAdd, Int.reduceSub, Int.reduceMul, Int.reduceNeg, Int.reduceToNat, Int.reduceEq, Int.reduceNe, reduceIte, reduceCtorEq, BitVec.reduceOfInt, BitVec.reduceToNat, hx, hy]; try simp only [top_out])
  refine half_ok y hy 8 (by omega) _ _ ?_
  (refine top_in ?_; simp -implicitDefEqProofs only [go_sem, -List.reduceReplicate, ↓L_gdZ_tt, ↓L_gdZ_tf, ↓L_gdZ_ft, ↓L_gdZ_ff, ↓T_and, ↓T_imp, ↓T_all, Nat.reduceBEq, Nat.reduceAdd, Nat.reduceSub, Nat.reduceMul, Nat.reduceLT, Nat.reduceLeDiff, Nat.reduceEqDiff, Int.reduceLT, Int.reduceLE, Int.reduceAdd, Int.reduceSub, Int.reduceMul, Int.reduceNeg, Int.reduceToNat, Int.reduceEq, Int.reduceNe, reduceIte, reduceCtorEq, BitVec.reduceOfInt, BitVec.reduceToNat, hx, hy]; try simp only [top_out])
  refine loop_code tabOK (by kernel_rfl) (fun n ts M' => ∃ (k : Nat), k + n = 128 ∧ frC (none :: none :: some (.p M.length 0) :: none :: some (.p (M.length + 2) 0) :: some (.u64 (mulN x (halfN y 0 8) (halfN y 8 8) k).1) :: some (.u64 (mulN x (halfN y 0 8) (halfN y 8 8) k).2.1) :: some (.u64 (mulN x (halfN y 0 8) (halfN y 8 8) k).2.2.1) :: some (.u64 (mulN x (halfN y 0 8) (halfN y 8 8) k).2.2.2) :: none :: none :: none :: none :: none :: none :: none :: none :: some (.i .i64 k) :: none :: none :: none :: none :: none :: none :: none :: none :: none :: none :: none :: none :: none :: none :: none :: none :: none :: none :: none :: none :: none :: none :: none :: none :: none :: none :: none :: none :: none :: none :: none :: none :: none :: none :: none :: none :: none :: none :: none :: none :: none :: none :: none :: none :: none :: none :: none :: none :: none :: none :: none :: none :: none :: none :: []) ts ∧
     M' = M ++ [.row (bS x) 42, .row (bS y) 42, .row (bS (List.replicate 16 0#8)) 42]) 128 ?_ ?_
  · exact ⟨0, rfl, by simp [frC, mulN], rfl⟩
  · rintro n ts _ ⟨k, hk, hf, rfl⟩
    generalize hs : mulN x (halfN y 0 8) (halfN y 8 8) k = s at hf
    obtain ⟨f, rfl⟩ := frC_open _ _ 0 hf
    clear hf
    (refine top_in ?_; simp -implicitDefEqProofs only [go_sem, -List.reduceReplicate, ↓L_gdZ_tt, ↓L_gdZ_tf, ↓L_gdZ_ft, ↓L_gdZ_ff, ↓T_and, ↓T_imp, ↓T_all, Nat.reduceBEq, Nat.reduceAdd, Nat.reduceSub, Nat.reduceMul, Nat.reduceLT, Nat.reduceLeDiff, Nat.reduceEqDiff, Int.reduceLT, Int.reduceLE, Int.reduceAdd, Int.reduceSub, Int.reduceMul, Int.reduceNeg, Int.reduceToNat, Int.reduceEq, Int.reduceNe, reduceIte, reduceCtorEq, BitVec.reduceOfInt, BitVec.reduceToNat, hx, hy]; try simp only [top_out])
    refine ⟨fun h => ?_, fun h => ?_⟩
    · have hr : mulN x (halfN y 0 8) (halfN y 8 8) (k + 1) = (if xb x k then s.1 ^^^ s.2.2.1 else s.1, if xb x k then s.2.1 ^^^ s.2.2.2 else s.2.1, tA s.2.2.1 s.2.2.2, tB s.2.2.1 s.2.2.2) := by rw [← hs]; rfl
      rw [Int.tdiv_eq_ediv_of_nonneg (by omega), Int.tmod_eq_emod_of_nonneg (by omega), w64 (x := (k : Int) / 8) (by omega) (by omega), w64 (x := 7 - (k : Int) % 8) (by omega) (by omega), w64 (x := (k : Int) + 1) (by omega) (by omega),
        show ((k : Int) / 8) = ((k / 8 : Nat) : Int) by omega, show 7 - (k : Int) % 8 = ((7 - k % 8 : Nat) : Int) by omega, Int.toNat_natCast, Int.toNat_natCast]
      refine ⟨by omega, by omega, by omega, by omega, by omega, fun h1 => ⟨fun h2 => ?_, fun h2 => ?_⟩, fun h1 => ⟨fun h2 => ?_, fun h2 => ?_⟩⟩
      all_goals
        refine ⟨n - 1, by omega, k + 1, by omega, ?_⟩
        rw [hr]
        have h1' := h1
        change xb x k = _ at h1'
        simp only [h1', tA, tB, h2]
        simp
    · obtain rfl : k = 128 := by omega
      refine loop_code tabOK (by kernel_rfl) (fun n ts M' => ∃ (k : Nat), k + n = 8 ∧ frC (none :: none :: none :: none :: some (.p (M.length + 2) 0) :: some (.u64 s.1) :: some (.u64 s.2.1) :: none :: none :: none :: none :: some (.p (M.length + 3) 0) :: none :: none :: none :: none :: none :: none :: none :: none :: none :: none :: none :: none :: none :: none :: none :: none :: none :: none :: none :: none :: none :: none :: none :: none :: none :: none :: none :: none :: none :: none :: none :: none :: none :: none :: none :: none :: none :: none :: some (.i .i64 k) :: none :: none :: none :: none :: none :: none :: none :: none :: none :: none :: none :: none :: none :: none :: none :: none :: none :: none :: none :: none :: none :: []) ts ∧
        M' = M ++ [.row (bS x) 42, .row (bS y) 42, .row (bS (List.replicate 16 0#8)) 42,
          .row (bS (gl 16 fun j => if j < 8 then (if j < k then (s.1 >>> (56 - 8 * j)).setWidth 8 else 0#8) else if j - 8 < k then (s.2.1 >>> (56 - 8 * (j - 8))).setWidth 8 else 0#8)) 42]) 8 ?_ ?_
      · refine ⟨0, rfl, by simp [frC], ?_⟩
        simp only [Nat.not_lt_zero, if_false, ite_self, gl_const]
      · clear hk h f
        rintro n ts _ ⟨k, hk, hf, rfl⟩
        obtain ⟨f, rfl⟩ := frC_open _ _ 0 hf
        clear hf
        (refine top_in ?_; simp -implicitDefEqProofs only [go_sem, -List.reduceReplicate, ↓L_gdZ_tt, ↓L_gdZ_tf, ↓L_gdZ_ft, ↓L_gdZ_ff, ↓T_and, ↓T_imp, ↓T_all, Nat.reduceBEq, Nat.reduceAdd, Nat.reduceSub, Nat.reduceMul, Nat.reduceLT, Nat.reduceLeDiff, Nat.reduceEqDiff, Int.reduceLT, Int.reduceLE, Int.reduceAdd, Int.reduceSub, Int.reduceMul, Int.reduceNeg, Int.reduceToNat, Int.reduceEq, Int.reduceNe, reduceIte, reduceCtorEq, BitVec.reduceOfInt, BitVec.reduceToNat, hx, hy]; try simp only [top_out])
        refine ⟨fun h => ?_, fun h => ?_⟩
        · rw [w64 (x := 8 * (k : Int)) (by omega) (by omega), w64 (x := 56 - 8 * (k : Int)) (by omega) (by omega), w64 (x := (8 : Int) + k) (by omega) (by omega), w64 (x := (k : Int) + 1) (by omega) (by omega),
            show 56 - 8 * (k : Int) = ((56 - 8 * k : Nat) : Int) by omega, show (8 : Int) + k = ((8 + k : Nat) : Int) by omega, Int.toNat_natCast, Int.toNat_natCast]
          repeat' refine And.intro ?_ ?_
          any_goals omega
          refine ⟨n - 1, by omega, k + 1, by omega, by omega, ?_⟩
          rw [gl_set, gl_set]
          refine congrArg (fun l => M ++ [Blk.row (bS x) 42, Blk.row (bS y) 42, Blk.row (bS (List.replicate 16 0#8)) 42, Blk.row (bS l) 42]) (gl_ext fun i hi => ?_)
          by_cases h8 : i < 8
          · rw [if_neg (by omega), if_pos h8, if_pos h8]
            by_cases hk : i = k
            · subst hk; rw [if_pos rfl, if_pos (by omega)]
            · rw [if_neg hk]
              by_cases hl : i < k
              · rw [if_pos hl, if_pos (by omega)]
              · rw [if_neg hl, if_neg (by omega)]
          · rw [if_neg h8, if_neg h8]
            by_cases hk : i = 8 + k
            · rw [if_pos hk, if_pos (by omega)]
              congr 3
              omega
            · rw [if_neg hk, if_neg (by omega)]
              by_cases hl : i - 8 < k
              · rw [if_pos hl, if_pos (by omega)]
              · rw [if_neg hl, if_neg (by omega)]
        · obtain rfl : k = 8 := by omega
          refine dropC_append hM (bS_lt _ _) ?_
          have : (gl 16 fun j => if j < 8 then (if j < 8 then (s.1 >>> (56 - 8 * j)).setWidth 8 else 0#8) else if j - 8 < 8 then (s.2.1 >>> (56 - 8 * (j - 8))).setWidth 8 else 0#8) = mulL x y := by
            unfold mulL outL
            rw [hs]
            refine gl_ext fun i hi => ?_
            by_cases h8 : i < 8
            · rw [if_pos h8, if_pos h8, if_pos h8]
            · rw [if_neg h8, if_neg h8, if_pos (by omega)]
          rw [this]
          exact hK
end Go.Proofs.Ytbiolfeincepoaa.Eng
