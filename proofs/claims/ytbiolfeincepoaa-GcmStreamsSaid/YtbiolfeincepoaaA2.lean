/- A word's sum and turn, a column's mixing, the rows' turn, as package aes reckons them. -/
import Derived.Test.YtbiolfeincepoaaA1
namespace Go.Proofs.Ytbiolfeincepoaa.Eng
open Go Go.RowKit
set_option linter.unusedSimpArgs false
set_option linter.unusedVariables false

def sum4 (x y : List (BitVec 8)) : List (BitVec 8) := gl 4 fun j => x.getD j 0#8 ^^^ y.getD j 0#8
theorem sum4_len (x y : List (BitVec 8)) : (sum4 x y).length = 4 := gl_len
theorem sum_ok (x y : List (BitVec 8)) (hx : x.length = 4) (hy : y.length = 4) (M : List Blk) (K : SV → List Blk → Prop) (hK : K (.agg (bS (sum4 x y))) M) :
    callVC Try.prog 24 [.agg (bS x), .agg (bS y)] M K := by
  refine fn_rule tabOK Try.func24 rfl Try.call24 (by kernel_rfl) (fun hM => ?_)
  (refine top_in ?_; simp -implicitDefEqProofs only [Try.ntmps24, Try.results24, go_sem, -List.reduceReplicate, ↓L_gdZ_tt, ↓L_gdZ_tf, ↓L_gdZ_ft, ↓L_gdZ_ff, ↓T_and, ↓T_imp, ↓T_all, Nat.reduceBEq, Nat.reduceAdd, Nat.reduceSub, Nat.reduceMul, Nat.reduceLT, Nat.reduceLeDiff, Nat.reduceEqDiff, Int.reduceLT, Int.reduceLE, Int.reduceAdd, Int.reduceSub, Int.reduceMul, Int.reduceNeg, Int.reduceToNat, Int.reduceEq, Int.reduceNe, reduceIte, reduceCtorEq, BitVec.reduceOfInt, BitVec.reduceToNat, hx, hy]; try simp only [top_out])
  refine loop_code tabOK (by kernel_rfl) (fun n ts M' => ∃ (k : Nat), k + n = 4 ∧ frC [none, none, some (.p M.length 0), none, some (.p (M.length + 2) 0), none, none, some (.agg (bS y)), some (.i .i64 k), none, none, none, none, none, none, none, none, none, none, none] ts ∧
     M' = M ++ [.row (bS (gl 4 fun j => if j < k then x.getD j 0#8 ^^^ y.getD j 0#8 else x.getD j 0#8)) 56, .row (bS y) 56, .row (bS (List.replicate 4 0#8)) 56]) 4 ?_ ?_
  · refine ⟨0, rfl, by simp [frC], ?_⟩
    simp only [Nat.not_lt_zero, if_false]
    rw [← gl_self hx]
  · rintro n ts _ ⟨k, hk, hf, rfl⟩
    obtain ⟨f, rfl⟩ := frC_open _ _ 0 hf
    clear hf
    (refine top_in ?_; simp -implicitDefEqProofs only [go_sem, -List.reduceReplicate, ↓L_gdZ_tt, ↓L_gdZ_tf, ↓L_gdZ_ft, ↓L_gdZ_ff, ↓T_and, ↓T_imp, ↓T_all, Nat.reduceBEq, Nat.reduceAdd, Nat.reduceSub, Nat.reduceMul, Nat.reduceLT, Nat.reduceLeDiff, Nat.reduceEqDiff, Int.reduceLT, Int.reduceLE, Int.reduceAdd, Int.reduceSub, Int.reduceMul, Int.reduceNeg, Int.reduceToNat, Int.reduceEq, Int.reduceNe, reduceIte, reduceCtorEq, BitVec.reduceOfInt, BitVec.reduceToNat, hx, hy]; try simp only [top_out])
    refine ⟨fun h => ?_, fun h => ?_⟩
    · repeat' refine And.intro ?_ ?_
      any_goals omega
      refine ⟨n - 1, by omega, k + 1, by omega, by rw [w64 (by omega) (by omega)]; rfl, ?_⟩
      rw [gl_set, gl_getD (by omega), if_neg (by omega)]
      refine congrArg (fun l => M ++ [Blk.row (bS l) 56, Blk.row (bS y) 56, Blk.row (bS (List.replicate 4 0#8)) 56]) (gl_ext fun i hi => ?_)
      split
      · subst_vars; rw [if_pos (by omega)]
      · split
        · rw [if_pos (by omega)]
        · rw [if_neg (by omega)]
    · obtain rfl : k = 4 := by omega
      refine dropC_append hM (bS_lt _ _) ?_
      have : (gl 4 fun j => if j < 4 then x.getD j 0#8 ^^^ y.getD j 0#8 else x.getD j 0#8) = sum4 x y := gl_ext fun i hi => if_pos hi
      rw [this]
      exact hK

/-- the word ahead, made ready -/
def rotL (x : List (BitVec 8)) : List (BitVec 8) := [x.getD 1 0#8, x.getD 2 0#8, x.getD 3 0#8, x.getD 0 0#8]
def subL (C x : List (BitVec 8)) : List (BitVec 8) := gl 4 fun j => C.getD (x.getD j 0#8).toNat 0#8
def rcL (x : List (BitVec 8)) (i : Nat) : List (BitVec 8) := x.set 0 (x.getD 0 0#8 ^^^ 1#8 <<< (i / 8 - 1))
def turnL (C x : List (BitVec 8)) (i : Nat) : List (BitVec 8) := if i % 8 = 0 then rcL (subL C (rotL x)) i else if i % 4 = 0 then subL C x else x
theorem splice_b {l : List (BitVec 8)} {k : Nat} {v : BitVec 8} (h : k < l.length) : splice (bS l) k [SV.u8 v] = bS (l.set k v) := by
  unfold splice bS
  rw [List.map_set, List.set_eq_take_append_cons_drop, if_pos (by simpa using h)]
  simp
theorem rot_set {x : List (BitVec 8)} : ((((List.replicate 4 0#8).set 0 (x.getD 1 0#8)).set 1 (x.getD 2 0#8)).set 2 (x.getD 3 0#8)).set 3 (x.getD 0 0#8) = rotL x := rfl
theorem rotL_len {x : List (BitVec 8)} : (rotL x).length = 4 := rfl
set_option maxHeartbeats 1000000 in
theorem turned_ok (m : Nat) (C : List (BitVec 8)) (ty : TypeId) (x : List (BitVec 8)) (i : Nat) (M : List Blk) (K : SV → List Blk → Prop) (hC : M[m]? = some (.row (bS C) ty)) (hCl : C.length = 496) (hx : x.length = 4) (h8 : 8 ≤ i) (h60 : i < 60)
    (hK : K (.agg (bS (turnL C x i))) M) : callVC Try.prog 25 [.p m 0, .agg (bS x), .i .i64 i] M K := by
  have hm : m < M.length := (List.getElem?_eq_some_iff.1 hC).1
  have e8 : (i : Int).tmod 8 = ((i % 8 : Nat) : Int) := by rw [Int.tmod_eq_emod_of_nonneg (by omega)]; omega
  have e4 : (i : Int).tmod 4 = ((i % 4 : Nat) : Int) := by rw [Int.tmod_eq_emod_of_nonneg (by omega)]; omega
  have q8 : (i : Int).tdiv 8 = ((i / 8 : Nat) : Int) := by rw [Int.tdiv_eq_ediv_of_nonneg (by omega)]; omega
  refine fn_rule tabOK Try.func25 rfl Try.call25 (by kernel_rfl) (fun hM => ?_)
  (refine top_in ?_; simp -implicitDefEqProofs only [Try.ntmps25, Try.results25, go_sem, -List.reduceReplicate, ↓L_gdZ_tt, ↓L_gdZ_tf, ↓L_gdZ_ft, ↓L_gdZ_ff, ↓T_and, ↓T_imp, ↓T_all, Nat.reduceBEq, Nat.reduceAdd, Nat.reduceSub, Nat.reduceMul, Nat.reduceLT, Nat.reduceLeDiff, Nat.reduceEqDiff, Int.reduceLT, Int.reduceLE, Int.reduceAdd, Int.reduceSub, Int.reduceMul, Int.reduceNeg, Int.reduceToNat, Int.reduceEq, Int.reduceNe, reduceIte, reduceCtorEq, BitVec.reduceOfInt, BitVec.reduceToNat, hx, e8, e4, q8, splice_b, bS_length, List.length_set, List.length_replicate, rot_set, rotL_len]; try simp only [top_out])
  refine ⟨fun c8 => ⟨fun c4 => ?_, fun c4 => ?_⟩, fun c8 => ⟨fun c4 => ?_, fun c4 => ?_⟩⟩
  · have j8 := beqT c8
    refine loop_code tabOK (by kernel_rfl) (fun n ts M' => ∃ k : Nat, k + n = 4 ∧ frC [some (.p m 0), none, some (.i .i64 i), none, some (.p M.length 0), none, some (.p (M.length + 1) 0), none, none, none, none, none, none, none, none, none, none, none, none, none, none, none, none, none, some (.agg (bS (rotL x))), some (.i .i64 k), none, none, none, none, none, none, none, none, none, none, none, none, none, none, none, none, none, none, none, none, none, none, none, none] ts ∧
      M' = M ++ [.row (bS (gl 4 fun j => if j < k then C.getD ((rotL x).getD j 0#8).toNat 0#8 else (rotL x).getD j 0#8)) 56, .row (bS (List.replicate 4 0#8)) 56]) 4 ?_ ?_
    · refine ⟨0, rfl, by simp [frC], ?_⟩
      simp only [Nat.not_lt_zero, if_false]
      rw [← gl_self (rotL_len (x := x))]
    · rintro n ts _ ⟨k, hk, hf, rfl⟩
      obtain ⟨f, rfl⟩ := frC_open _ _ 0 hf
      clear hf
      (refine top_in ?_; simp -implicitDefEqProofs only [go_sem, -List.reduceReplicate, ↓L_gdZ_tt, ↓L_gdZ_tf, ↓L_gdZ_ft, ↓L_gdZ_ff, ↓T_and, ↓T_imp, ↓T_all, Nat.reduceBEq, Nat.reduceAdd, Nat.reduceSub, Nat.reduceMul, Nat.reduceLT, Nat.reduceLeDiff, Nat.reduceEqDiff, Int.reduceLT, Int.reduceLE, Int.reduceAdd, Int.reduceSub, Int.reduceMul, Int.reduceNeg, Int.reduceToNat, Int.reduceEq, Int.reduceNe, reduceIte, reduceCtorEq, BitVec.reduceOfInt, BitVec.reduceToNat, get_lt hm, hC, hCl, e8, e4, q8, (rotL_len (x := x)), c8]; try simp only [top_out])
      refine ⟨fun h => ?_, fun h => ?_⟩
      · have h256 := BitVec.isLt ((rotL x).getD k 0#8)
        repeat' refine And.intro ?_ ?_
        any_goals omega
        refine ⟨n - 1, by omega, k + 1, by omega, by rw [w64 (by omega) (by omega)]; rfl, ?_⟩
        rw [gl_set]
        refine congrArg (fun l => M ++ [Blk.row (bS l) 56, Blk.row (bS (List.replicate 4 0#8)) 56]) (gl_ext fun i hi => ?_)
        split
        · subst_vars; rw [if_pos (by omega)]
        · split
          · rw [if_pos (by omega)]
          · rw [if_neg (by omega)]
      · obtain rfl : k = 4 := by omega
        have e : (gl 4 fun j => if j < 4 then C.getD ((rotL x).getD j 0#8).toNat 0#8 else (rotL x).getD j 0#8) = subL C (rotL x) := gl_ext fun i hi => if_pos hi
        rw [e]
        have hl : (subL C (rotL x)).length = 4 := gl_len
        refine draw_rule tabOK (by kernel_rfl : _) (.p 0 (.p 1 (.p 2 (.p 3 (.p 4 (.p 5 (.p 6 (.p 7 (.e 8 [] .nil .no))))))))) (by kernel_rfl) (by kernel_rfl) ?_
        (refine top_in ?_; simp -implicitDefEqProofs only [go_sem, -List.reduceReplicate, ↓L_gdZ_tt, ↓L_gdZ_tf, ↓L_gdZ_ft, ↓L_gdZ_ff, ↓T_and, ↓T_imp, ↓T_all, Nat.reduceBEq, Nat.reduceAdd, Nat.reduceSub, Nat.reduceMul, Nat.reduceLT, Nat.reduceLeDiff, Nat.reduceEqDiff, Int.reduceLT, Int.reduceLE, Int.reduceAdd, Int.reduceSub, Int.reduceMul, Int.reduceNeg, Int.reduceToNat, Int.reduceEq, Int.reduceNe, reduceIte, reduceCtorEq, BitVec.reduceOfInt, BitVec.reduceToNat, hl, q8]; try simp only [top_out])
        rw [w64 (x := ((i / 8 : Nat) : Int)) (by omega) (by omega), w64 (x := ((i / 8 : Nat) : Int) - 1) (by omega) (by omega), show ((i / 8 : Nat) : Int) - 1 = ((i / 8 - 1 : Nat) : Int) by omega, Int.toNat_natCast]
        refine ⟨by omega, dropC_append hM (bS_lt _ _) ?_⟩
        rw [turnL, if_pos (by omega)] at hK
        exact hK
  · exfalso
    have := beqT c8
    have := beqF c4
    omega
  · have j8 := beqF c8
    have j4 := beqT c4
    refine loop_code tabOK (by kernel_rfl) (fun n ts M' => ∃ k : Nat, k + n = 4 ∧ frC [some (.p m 0), none, some (.i .i64 i), none, some (.p M.length 0), none, some (.p (M.length + 1) 0), none, none, none, none, none, none, none, none, none, none, none, none, none, none, none, none, none, some (.agg (bS (x))), some (.i .i64 k), none, none, none, none, none, none, none, none, none, none, none, none, none, none, none, none, none, none, none, none, none, none, none, none] ts ∧
      M' = M ++ [.row (bS (gl 4 fun j => if j < k then C.getD ((x).getD j 0#8).toNat 0#8 else (x).getD j 0#8)) 56, .row (bS (List.replicate 4 0#8)) 56]) 4 ?_ ?_
    · refine ⟨0, rfl, by simp [frC], ?_⟩
      simp only [Nat.not_lt_zero, if_false]
      rw [← gl_self hx]
    · rintro n ts _ ⟨k, hk, hf, rfl⟩
      obtain ⟨f, rfl⟩ := frC_open _ _ 0 hf
      clear hf
      (refine top_in ?_; simp -implicitDefEqProofs only [go_sem, -List.reduceReplicate, ↓L_gdZ_tt, ↓L_gdZ_tf, ↓L_gdZ_ft, ↓L_gdZ_ff, ↓T_and, ↓T_imp, ↓T_all, Nat.reduceBEq, Nat.reduceAdd, Nat.reduceSub, Nat.reduceMul, Nat.reduceLT, Nat.reduceLeDiff, Nat.reduceEqDiff, Int.reduceLT, Int.reduceLE, Int.reduceAdd, Int.reduceSub, Int.reduceMul, Int.reduceNeg, Int.reduceToNat, Int.reduceEq, Int.reduceNe, reduceIte, reduceCtorEq, BitVec.reduceOfInt, BitVec.reduceToNat, get_lt hm, hC, hCl, e8, e4, q8, hx, c8]; try simp only [top_out])
      refine ⟨fun h => ?_, fun h => ?_⟩
      · have h256 := BitVec.isLt ((x).getD k 0#8)
        repeat' refine And.intro ?_ ?_
        any_goals omega
        refine ⟨n - 1, by omega, k + 1, by omega, by rw [w64 (by omega) (by omega)]; rfl, ?_⟩
        rw [gl_set]
        refine congrArg (fun l => M ++ [Blk.row (bS l) 56, Blk.row (bS (List.replicate 4 0#8)) 56]) (gl_ext fun i hi => ?_)
        split
        · subst_vars; rw [if_pos (by omega)]
        · split
          · rw [if_pos (by omega)]
          · rw [if_neg (by omega)]
      · obtain rfl : k = 4 := by omega
        have e : (gl 4 fun j => if j < 4 then C.getD (x.getD j 0#8).toNat 0#8 else x.getD j 0#8) = subL C x := gl_ext fun i hi => if_pos hi
        rw [e]
        refine dropC_append hM (bS_lt _ _) ?_
        rw [turnL, if_neg (by omega), if_pos (by omega)] at hK
        exact hK
  · have j8 := beqF c8
    have j4 := beqF c4
    refine ⟨fun h => absurd (beqT h) j8, fun _ => dropC_append hM (bS_lt _ _) ?_⟩
    rw [turnL, if_neg (by omega), if_neg (by omega)] at hK
    exact hK
end Go.Proofs.Ytbiolfeincepoaa.Eng
