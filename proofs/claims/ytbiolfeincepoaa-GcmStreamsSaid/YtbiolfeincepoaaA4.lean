/- A block turned, as package aes reckons it. -/
import Derived.Test.YtbiolfeincepoaaA3
import Derived.Test.YtbiolfeincepoaaT4
namespace Go.Proofs.Ytbiolfeincepoaa.Eng
open Go Go.RowKit
set_option linter.unusedSimpArgs false
set_option linter.unusedVariables false

def keyAt (C : List (BitVec 8)) (r : Nat) : List (BitVec 8) := (C.drop (256 + 16 * r)).take 16
def mixK (s : List (BitVec 8)) (k : Nat) : List (BitVec 8) := gl 16 fun j => if j < 4 * k then (mixL ((s.drop (4 * (j / 4))).take 4)).getD (j % 4) 0#8 else s.getD j 0#8
theorem mixK_len (s : List (BitVec 8)) (k : Nat) : (mixK s k).length = 16 := gl_len
def aesR (C b : List (BitVec 8)) (r : Nat) : List (BitVec 8) := xorL (if r < 14 then mixK (shiftL C b) 4 else shiftL C b) (keyAt C r)
def aesN (C x : List (BitVec 8)) : Nat → List (BitVec 8)
  | 0 => xorL x (keyAt C 0)
  | k + 1 => aesR C (aesN C x k) (k + 1)
theorem aesN_len (C x : List (BitVec 8)) : ∀ k, (aesN C x k).length = 16
  | 0 => xorL_len _ _
  | _ + 1 => xorL_len _ _
theorem keyAt_len {C : List (BitVec 8)} (hC : C.length = 496) {r : Nat} (hr : r < 15) : (keyAt C r).length = 16 := by unfold keyAt; simp; omega
theorem mix_step {s : List (BitVec 8)} (hs : s.length = 16) {j : Nat} (hj : j < 4) :
    (mixK s j).take (4 * j) ++ (mixL (((mixK s j).drop (4 * j)).take 4)).take (16 - 4 * j) ++ (mixK s j).drop (4 * j + Nat.min (mixL (((mixK s j).drop (4 * j)).take 4)).length (16 - 4 * j)) = mixK s (j + 1) := by
  match s, hs with
  | [a0, a1, a2, a3, a4, a5, a6, a7, a8, a9, a10, a11, a12, a13, a14, a15], _ =>
    rcases (by omega : j = 0 ∨ j = 1 ∨ j = 2 ∨ j = 3) with rfl | rfl | rfl | rfl <;> rfl
set_option maxHeartbeats 1000000 in
theorem block_ok (m : Nat) (C : List (BitVec 8)) (ty : TypeId) (x : List (BitVec 8)) (M : List Blk) (K : SV → List Blk → Prop) (hC : M[m]? = some (.row (bS C) ty)) (hCl : C.length = 496) (hx : x.length = 16)
    (hK : K (.agg (bS (aesN C x 14))) M) : callVC Try.prog 28 [.p m 0, .agg (bS x)] M K := by
  have hm : m < M.length := (List.getElem?_eq_some_iff.1 hC).1
  refine fn_rule tabOK Try.func28 rfl Try.call28 (by kernel_rfl) (fun hM => ?_)
  (refine top_in ?_; simp -implicitDefEqProofs only [Try.ntmps28, Try.results28, go_sem, -List.reduceReplicate, ↓L_gdZ_tt, ↓L_gdZ_tf, ↓L_gdZ_ft, ↓L_gdZ_ff, ↓T_and, ↓T_imp, ↓T_all, Nat.reduceBEq, Nat.reduceAdd, Nat.reduceSub, Nat.reduceMul, Nat.reduceLT, Nat.reduceLeDiff, Nat.reduceEqDiff, Int.reduceLT, Int.reduceLE, Int.reduceAdd, Int.reduceSub, Int.reduceMul, Int.reduceNeg, Int.reduceToNat, Int.reduceEq, Int.reduceNe, reduceIte, reduceCtorEq, BitVec.reduceOfInt, BitVec.reduceToNat, get_lt hm, hC, hCl, hx]; try simp only [top_out])
  have k0 : (keyAt C 0).length = 16 := keyAt_len hCl (by omega)
  have ka : List.take 16 (List.drop 256 C) = keyAt C 0 := rfl
  have x0 := xorL_len x (keyAt C 0)
  refine draw_rule tabOK (by kernel_rfl : _) (.p 0 (.p 1 (.p 2 (.p 3 (.p 4 (.p 5 (.e 6 [] (.e 7 [0, 2, 3, 4, 5] (.e 8 [] .nil .no) .no) (.e 7 [0, 2, 3, 4, 5] (.e 6 [] (.e 8 [] .nil .no) .no) .no)))))))) (by kernel_rfl) (by kernel_rfl) ?_
  (refine top_in ?_; simp -implicitDefEqProofs only [go_sem, -List.reduceReplicate, ↓L_gdZ_tt, ↓L_gdZ_tf, ↓L_gdZ_ft, ↓L_gdZ_ff, ↓T_and, ↓T_imp, ↓T_all, Nat.reduceBEq, Nat.reduceAdd, Nat.reduceSub, Nat.reduceMul, Nat.reduceLT, Nat.reduceLeDiff, Nat.reduceEqDiff, Int.reduceLT, Int.reduceLE, Int.reduceAdd, Int.reduceSub, Int.reduceMul, Int.reduceNeg, Int.reduceToNat, Int.reduceEq, Int.reduceNe, reduceIte, reduceCtorEq, BitVec.reduceOfInt, BitVec.reduceToNat, get_lt hm, hC, hCl, hx, ka, k0]; try simp only [top_out])
  refine ⟨?_, ?_⟩
  all_goals
    refine xor_ok x (keyAt C 0) hx k0 _ _ ?_
    (refine top_in ?_; simp -implicitDefEqProofs only [go_sem, -List.reduceReplicate, ↓L_gdZ_tt, ↓L_gdZ_tf, ↓L_gdZ_ft, ↓L_gdZ_ff, ↓T_and, ↓T_imp, ↓T_all, Nat.reduceBEq, Nat.reduceAdd, Nat.reduceSub, Nat.reduceMul, Nat.reduceLT, Nat.reduceLeDiff, Nat.reduceEqDiff, Int.reduceLT, Int.reduceLE, Int.reduceAdd, Int.reduceSub, Int.reduceMul, Int.reduceNeg, Int.reduceToNat, Int.reduceEq, Int.reduceNe, reduceIte, reduceCtorEq, BitVec.reduceOfInt, BitVec.reduceToNat, get_lt hm, hC, hCl, hx, ka, k0, x0]; try simp only [top_out])
    refine loop_code tabOK (by kernel_rfl) (fun n ts M' => ∃ (k : Nat), k + n = 14 ∧ frC [some (.p m 0), none, none, some (.p M.length 0), some (.p (M.length + 1) 0), some (.p (M.length + 2) 0), some (.i .i64 (k + 1 : Nat)), none, none, none, none, none, none, none, none, none, none, none, none, none, none, none, none, none, none, none, none, none, none, none, none, none, none, none, none, none, none, none, none, none, none, none, none, none, none, none, none, none, none, none, none] ts ∧
      M' = M ++ [.row (bS x) 42, .row (bS (List.replicate 16 0#8)) 42, .row (bS (aesN C x k)) 50]) 14 ?_ ?_
    · exact ⟨0, rfl, by simp [frC], rfl⟩
    · rintro n ts _ ⟨k, hk, hf, rfl⟩
      have hb := aesN_len C x k
      generalize hs : aesN C x k = b at hb
      obtain ⟨f, rfl⟩ := frC_open _ _ 0 hf
      clear hf
      (refine top_in ?_; simp -implicitDefEqProofs only [go_sem, -List.reduceReplicate, ↓L_gdZ_tt, ↓L_gdZ_tf, ↓L_gdZ_ft, ↓L_gdZ_ff, ↓T_and, ↓T_imp, ↓T_all, Nat.reduceBEq, Nat.reduceAdd, Nat.reduceSub, Nat.reduceMul, Nat.reduceLT, Nat.reduceLeDiff, Nat.reduceEqDiff, Int.reduceLT, Int.reduceLE, Int.reduceAdd, Int.reduceSub, Int.reduceMul, Int.reduceNeg, Int.reduceToNat, Int.reduceEq, Int.reduceNe, reduceIte, reduceCtorEq, BitVec.reduceOfInt, BitVec.reduceToNat, get_lt hm, hC, hCl, hx, hb]; try simp only [top_out])
      refine ⟨fun h => ?_, fun h => ?_⟩
      · have hsl := shiftL_len C b
        refine shifted_ok m C ty b _ _ (by rw [get_lt hm]; exact hC) hCl hb ?_
        (refine top_in ?_; simp -implicitDefEqProofs only [go_sem, -List.reduceReplicate, ↓L_gdZ_tt, ↓L_gdZ_tf, ↓L_gdZ_ft, ↓L_gdZ_ff, ↓T_and, ↓T_imp, ↓T_all, Nat.reduceBEq, Nat.reduceAdd, Nat.reduceSub, Nat.reduceMul, Nat.reduceLT, Nat.reduceLeDiff, Nat.reduceEqDiff, Int.reduceLT, Int.reduceLE, Int.reduceAdd, Int.reduceSub, Int.reduceMul, Int.reduceNeg, Int.reduceToNat, Int.reduceEq, Int.reduceNe, reduceIte, reduceCtorEq, BitVec.reduceOfInt, BitVec.reduceToNat, get_lt hm, hC, hCl, hx, hb, hsl]; try simp only [top_out])
        generalize hss : shiftL C b = s at hsl
        refine loop_gc tabOK (by kernel_rfl) (fun i ts M' => ∃ j : Nat, j + i = 4 ∧ (k + 1 < 14 ∨ j = 0) ∧ frC [some (.p m 0), none, none, some (.p M.length 0), some (.p (M.length + 1) 0), some (.p (M.length + 2) 0), some (.i .i64 (k + 1 : Nat)), some (.i .i64 (4 * j : Nat)), none, none, none, none, none, none, none, none, none, none, none, none, none, none, none, none, none, none, none, none, none, none, none, none, none, none, none, none, none, none, none, none, none, none, none, none, none, none, none, none, none, none, none] ts ∧
          M' = M ++ [.row (bS x) 42, .row (bS (List.replicate 16 0#8)) 42, .row (bS (mixK s j)) 50]) 4 ?_ ?_
        · refine covF_self ⟨0, rfl, .inr rfl, by simp [frC], ?_⟩
          have e : mixK s 0 = s := by
            conv => rhs; rw [gl_self hsl 0#8]
            exact gl_ext fun i hi => by rw [if_neg (by omega)]
          rw [e]
        · rintro i ts _ ⟨j, hj, hr, hf, rfl⟩
          have hml := mixK_len s j
          obtain ⟨f, rfl⟩ := frC_open _ _ 0 hf
          clear hf
          (refine top_in ?_; simp -implicitDefEqProofs only [go_sem, -List.reduceReplicate, ↓L_gdZ_tt, ↓L_gdZ_tf, ↓L_gdZ_ft, ↓L_gdZ_ff, ↓T_and, ↓T_imp, ↓T_all, Nat.reduceBEq, Nat.reduceAdd, Nat.reduceSub, Nat.reduceMul, Nat.reduceLT, Nat.reduceLeDiff, Nat.reduceEqDiff, Int.reduceLT, Int.reduceLE, Int.reduceAdd, Int.reduceSub, Int.reduceMul, Int.reduceNeg, Int.reduceToNat, Int.reduceEq, Int.reduceNe, reduceIte, reduceCtorEq, BitVec.reduceOfInt, BitVec.reduceToNat, get_lt hm, hC, hCl, hx, hml]; try simp only [top_out])
          have exitC : ¬ (j < 4 ∧ k + 1 < 14) → mixK s j = if k + 1 < 14 then mixK s 4 else s := by
            intro h
            by_cases h14 : k + 1 < 14
            · rw [if_pos h14, show j = 4 by omega]
            · rw [if_neg h14, show j = 0 by omega]
              conv => rhs; rw [gl_self hsl 0#8]
              exact gl_ext fun i hi => by rw [if_neg (by omega)]
          refine ⟨fun h4 => ⟨fun h14 => ?_, fun h14 => ?_⟩, fun h4 => ?_⟩
          · have hj4 : j < 4 := by omega
            have c0 : (16 = 4 * j) = False := by simp; omega
            have cl : (((mixK s j).drop (4 * j)).take 4).length = 4 := by simp [hml]; omega
            have hst := mix_step hsl hj4
            have h2 := mixL_len (((mixK s j).drop (4 * j)).take 4)
            have wj : IntKind.i64.wrap (((4 * j : Nat) : Int) + 4) = ((4 * (j + 1) : Nat) : Int) := by rw [w64 (by omega) (by omega)]; omega
            simp only [c0, if_false, wj]
            refine ⟨by omega, by omega, by omega, by omega, by omega, by omega, ?_⟩
            refine mixed_ok _ cl _ _ ?_
            (refine top_in ?_; simp -implicitDefEqProofs only [go_sem, -List.reduceReplicate, ↓L_gdZ_tt, ↓L_gdZ_tf, ↓L_gdZ_ft, ↓L_gdZ_ff, ↓T_and, ↓T_imp, ↓T_all, Nat.reduceBEq, Nat.reduceAdd, Nat.reduceSub, Nat.reduceMul, Nat.reduceLT, Nat.reduceLeDiff, Nat.reduceEqDiff, Int.reduceLT, Int.reduceLE, Int.reduceAdd, Int.reduceSub, Int.reduceMul, Int.reduceNeg, Int.reduceToNat, Int.reduceEq, Int.reduceNe, reduceIte, reduceCtorEq, BitVec.reduceOfInt, BitVec.reduceToNat, hml, h2, c0, if_false]; try simp only [top_out])
            refine draw_rule tabOK (by kernel_rfl : _) (.p 0 (.p 1 (.p 2 (.e 3 [] .nil .no)))) (by kernel_rfl) (by kernel_rfl) ?_
            (refine top_in ?_; simp -implicitDefEqProofs only [go_sem, -List.reduceReplicate, ↓L_gdZ_tt, ↓L_gdZ_tf, ↓L_gdZ_ft, ↓L_gdZ_ff, ↓T_and, ↓T_imp, ↓T_all, Nat.reduceBEq, Nat.reduceAdd, Nat.reduceSub, Nat.reduceMul, Nat.reduceLT, Nat.reduceLeDiff, Nat.reduceEqDiff, Int.reduceLT, Int.reduceLE, Int.reduceAdd, Int.reduceSub, Int.reduceMul, Int.reduceNeg, Int.reduceToNat, Int.reduceEq, Int.reduceNe, reduceIte, reduceCtorEq, BitVec.reduceOfInt, BitVec.reduceToNat, hml, h2, c0, if_false]; try simp only [top_out])
            refine ⟨by omega, by omega, ?_⟩
            refine copy8 (M.length + 2) (4 * j) (mixK s j) (mixL (((mixK s j).drop (4 * j)).take 4)) 50 rfl (by rw [get_app]; rfl) (by omega) (src_row (z := []) (ty := 76) (by rw [get_app, List.append_nil]; rfl) h2.symm) ?_
            rw [hst]
            (refine top_in ?_; simp -implicitDefEqProofs only [go_sem, -List.reduceReplicate, ↓L_gdZ_tt, ↓L_gdZ_tf, ↓L_gdZ_ft, ↓L_gdZ_ff, ↓T_and, ↓T_imp, ↓T_all, Nat.reduceBEq, Nat.reduceAdd, Nat.reduceSub, Nat.reduceMul, Nat.reduceLT, Nat.reduceLeDiff, Nat.reduceEqDiff, Int.reduceLT, Int.reduceLE, Int.reduceAdd, Int.reduceSub, Int.reduceMul, Int.reduceNeg, Int.reduceToNat, Int.reduceEq, Int.reduceNe, reduceIte, reduceCtorEq, BitVec.reduceOfInt, BitVec.reduceToNat, hml, h2, c0, if_false, wj]; try simp only [top_out])
            refine covF_gc hM [some 0, some 1, some 2] [some (.p m 0), none, none, some (.p M.length 0), some (.p (M.length + 1) 0), some (.p (M.length + 2) 0), some (.i .i64 (k + 1 : Nat)), some (.i .i64 (4 * (j + 1) : Nat)), none, none, none, none, none, none, none, none, none, none, none, none, none, none, none, none, none, none, none, none, none, none, none, none, none, none, none, none, none, none, none, none, none, none, none, none, none, none, none, none, none, none, none] [.row (bS x) 42, .row (bS (List.replicate 16 0#8)) 42, .row (bS (mixK s (j + 1))) 50] rfl ⟨keep8 rfl, keep8 rfl, keep8 rfl, trivial⟩ (by simp only [List.all_cons, List.all_nil, lt_row, Bool.and_true]) ?_ ?_ (fun ts' h => ⟨i - 1, by omega, j + 1, by omega, .inl (by omega), h, rfl⟩)
            · simp only [Int.natCast_add, cast_lit, Nat.add_assoc, rnSl_n, frRn_nil, frRn_s, frRn_n, frLt_nil, frLt_s, frLt_n, rn_i, rn_u8, rn_u32, rn_u64, rn_b, rn_str, rn_sn, rn_pn, rn_agg, rn_tup, rnL_nil, rnL_cons, rn_bS, rn_nil, rn_sl_at, rn_sl_at0, rn_p_at, rn_p_at0, rnSl_s, rnP_s, lt_i, lt_u8, lt_u32, lt_u64, lt_b, lt_sl, lt_p, lt_agg, lt_tup, ltL_nil', ltL_cons, bS_lt, List.getElem?_cons_succ, List.getElem?_cons_zero, Option.join_some, Nat.add_zero, Nat.zero_add, implies_true, and_self, and_true, true_and, Bool.and_true, Bool.true_and, Bool.and_self, List.length_cons, List.length_nil, List.length_append, decide_eq_true_eq, Bool.and_eq_true, rn_p hm]
            · simp only [Int.natCast_add, cast_lit, Nat.add_assoc, rnSl_n, frRn_nil, frRn_s, frRn_n, frLt_nil, frLt_s, frLt_n, rn_i, rn_u8, rn_u32, rn_u64, rn_b, rn_str, rn_sn, rn_pn, rn_agg, rn_tup, rnL_nil, rnL_cons, rn_bS, rn_nil, rn_sl_at, rn_sl_at0, rn_p_at, rn_p_at0, rnSl_s, rnP_s, lt_i, lt_u8, lt_u32, lt_u64, lt_b, lt_sl, lt_p, lt_agg, lt_tup, ltL_nil', ltL_cons, bS_lt, List.getElem?_cons_succ, List.getElem?_cons_zero, Option.join_some, Nat.add_zero, Nat.zero_add, implies_true, and_self, and_true, true_and, Bool.and_true, Bool.true_and, Bool.and_self, List.length_cons, List.length_nil, List.length_append, decide_eq_true_eq, Bool.and_eq_true]; omega
          · rw [exitC (by omega)]
            have kr := keyAt_len hCl (r := k + 1) (by omega)
            have kq : List.take 16 (List.drop (256 + (k + 1) * 16) C) = keyAt C (k + 1) := by rw [Nat.mul_comm (k + 1) 16]; rfl
            have hif : (if k + 1 < 14 then mixK s 4 else s).length = 16 := by split; exact mixK_len _ _; exact hsl
            have hr : aesN C x (k + 1) = xorL (if k + 1 < 14 then mixK s 4 else s) (keyAt C (k + 1)) := by rw [← hss, ← hs]; rfl
            have hrl := aesN_len C x (k + 1)
            refine draw_rule tabOK (by kernel_rfl : _) (.p 0 (.p 1 (.p 2 (.p 3 (.p 4 (.p 5 (.p 6 (.e 7 [] (.e 8 [] .nil .no) .no)))))))) (by kernel_rfl) (by kernel_rfl) ?_
            (refine top_in ?_; simp -implicitDefEqProofs only [go_sem, -List.reduceReplicate, ↓L_gdZ_tt, ↓L_gdZ_tf, ↓L_gdZ_ft, ↓L_gdZ_ff, ↓T_and, ↓T_imp, ↓T_all, Nat.reduceBEq, Nat.reduceAdd, Nat.reduceSub, Nat.reduceMul, Nat.reduceLT, Nat.reduceLeDiff, Nat.reduceEqDiff, Int.reduceLT, Int.reduceLE, Int.reduceAdd, Int.reduceSub, Int.reduceMul, Int.reduceNeg, Int.reduceToNat, Int.reduceEq, Int.reduceNe, reduceIte, reduceCtorEq, BitVec.reduceOfInt, BitVec.reduceToNat, get_lt hm, hC, hCl, hx, hif, kq, kr]; try simp only [top_out])
            refine ⟨by omega, by omega, by omega, by omega, ?_⟩
            refine xor_ok _ (keyAt C (k + 1)) hif kr _ _ ?_
            rw [← hr]
            (refine top_in ?_; simp -implicitDefEqProofs only [go_sem, -List.reduceReplicate, ↓L_gdZ_tt, ↓L_gdZ_tf, ↓L_gdZ_ft, ↓L_gdZ_ff, ↓T_and, ↓T_imp, ↓T_all, Nat.reduceBEq, Nat.reduceAdd, Nat.reduceSub, Nat.reduceMul, Nat.reduceLT, Nat.reduceLeDiff, Nat.reduceEqDiff, Int.reduceLT, Int.reduceLE, Int.reduceAdd, Int.reduceSub, Int.reduceMul, Int.reduceNeg, Int.reduceToNat, Int.reduceEq, Int.reduceNe, reduceIte, reduceCtorEq, BitVec.reduceOfInt, BitVec.reduceToNat, get_lt hm, hC, hCl, hx, hif, kq, kr, hrl]; try simp only [top_out])
            exact ⟨n - 1, by omega, k + 1, by omega, by rw [w64 (by omega) (by omega)]; rfl, rfl⟩
          · rw [exitC (by omega)]
            have kr := keyAt_len hCl (r := k + 1) (by omega)
            have kq : List.take 16 (List.drop (256 + (k + 1) * 16) C) = keyAt C (k + 1) := by rw [Nat.mul_comm (k + 1) 16]; rfl
            have hif : (if k + 1 < 14 then mixK s 4 else s).length = 16 := by split; exact mixK_len _ _; exact hsl
            have hr : aesN C x (k + 1) = xorL (if k + 1 < 14 then mixK s 4 else s) (keyAt C (k + 1)) := by rw [← hss, ← hs]; rfl
            have hrl := aesN_len C x (k + 1)
            refine draw_rule tabOK (by kernel_rfl : _) (.p 0 (.p 1 (.p 2 (.p 3 (.p 4 (.p 5 (.p 6 (.e 7 [] (.e 8 [] .nil .no) .no)))))))) (by kernel_rfl) (by kernel_rfl) ?_
            (refine top_in ?_; simp -implicitDefEqProofs only [go_sem, -List.reduceReplicate, ↓L_gdZ_tt, ↓L_gdZ_tf, ↓L_gdZ_ft, ↓L_gdZ_ff, ↓T_and, ↓T_imp, ↓T_all, Nat.reduceBEq, Nat.reduceAdd, Nat.reduceSub, Nat.reduceMul, Nat.reduceLT, Nat.reduceLeDiff, Nat.reduceEqDiff, Int.reduceLT, Int.reduceLE, Int.reduceAdd, Int.reduceSub, Int.reduceMul, Int.reduceNeg, Int.reduceToNat, Int.reduceEq, Int.reduceNe, reduceIte, reduceCtorEq, BitVec.reduceOfInt, BitVec.reduceToNat, get_lt hm, hC, hCl, hx, hif, kq, kr]; try simp only [top_out])
            refine ⟨by omega, by omega, by omega, by omega, ?_⟩
            refine xor_ok _ (keyAt C (k + 1)) hif kr _ _ ?_
            rw [← hr]
            (refine top_in ?_; simp -implicitDefEqProofs only [go_sem, -List.reduceReplicate, ↓L_gdZ_tt, ↓L_gdZ_tf, ↓L_gdZ_ft, ↓L_gdZ_ff, ↓T_and, ↓T_imp, ↓T_all, Nat.reduceBEq, Nat.reduceAdd, Nat.reduceSub, Nat.reduceMul, Nat.reduceLT, Nat.reduceLeDiff, Nat.reduceEqDiff, Int.reduceLT, Int.reduceLE, Int.reduceAdd, Int.reduceSub, Int.reduceMul, Int.reduceNeg, Int.reduceToNat, Int.reduceEq, Int.reduceNe, reduceIte, reduceCtorEq, BitVec.reduceOfInt, BitVec.reduceToNat, get_lt hm, hC, hCl, hx, hif, kq, kr, hrl]; try simp only [top_out])
            exact ⟨n - 1, by omega, k + 1, by omega, by rw [w64 (by omega) (by omega)]; rfl, rfl⟩
      · obtain rfl : k = 14 := by omega
        subst hs
        exact dropC_append hM (bS_lt _ _) hK
end Go.Proofs.Ytbiolfeincepoaa.Eng
