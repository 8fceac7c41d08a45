/- What was sealed opens, what opens was sealed; the laws of chapter 5. -/
import Derived.Test.YtbiolfeincepoaaG8
namespace Go.Proofs.Ytbiolfeincepoaa.Eng
open Go Go.RowKit
set_option linter.unusedSimpArgs false
set_option linter.unusedVariables false

theorem cry_twice (E : List (BitVec 8) → List (BitVec 8)) (nonce text : List (BitVec 8)) : cryL E nonce (cryL E nonce text) = text := by
  have h : (cryL E nonce text).length = text.length := cryL_len _ _ _
  refine getD_ext' (n := text.length) (by rw [cryL_len, h]) rfl fun j hj => ?_
  unfold cryL
  rw [gl_getD (by rw [gl_len]; exact hj), gl_getD hj, BitVec.xor_assoc, BitVec.xor_self, BitVec.xor_zero]
theorem seal_take (key nonce ad text : List (BitVec 8)) : (sealL key nonce ad text).take ((sealL key nonce ad text).length - 16) = cryL (encE key) nonce text := by
  rw [sealL_len, Nat.add_sub_cancel, sealL, List.take_append_of_le_length (by rw [cryL_len]; exact Nat.le_refl _), List.take_of_length_le (by rw [cryL_len]; exact Nat.le_refl _)]
theorem seal_drop (key nonce ad text : List (BitVec 8)) : (sealL key nonce ad text).drop ((sealL key nonce ad text).length - 16) = tagL (encE key) nonce ad (cryL (encE key) nonce text) := by
  rw [sealL_len, Nat.add_sub_cancel, sealL, List.drop_append_of_le_length (by rw [cryL_len]; exact Nat.le_refl _), List.drop_eq_nil_of_le (by rw [cryL_len]; exact Nat.le_refl _), List.nil_append]
theorem open_seal {key nonce ad text : List (BitVec 8)} (h : sealE key nonce ad text = 0) : openB key nonce ad (sealL key nonce ad text) = true ∧ openL key nonce (sealL key nonce ad text) = text := by
  obtain ⟨h1, h2, h3, h4⟩ := sealE_0 h
  refine ⟨openB_ok ⟨h1, h2, h3, by rw [sealL_len]; omega, by rw [sealL_len]; omega⟩ ?_, ?_⟩
  · unfold openT; rw [seal_take, seal_drop]
  · unfold openL; rw [seal_take, cry_twice]
theorem seal_open {key nonce ad s : List (BitVec 8)} (h : openB key nonce ad s = true) : sealE key nonce ad (openL key nonce s) = 0 ∧ sealL key nonce ad (openL key nonce s) = s := by
  obtain ⟨⟨h1, h2, h3, h4, h5⟩, h6⟩ := openB_t h
  refine ⟨sealE_ok h1 h2 h3 (by rw [openL_len]; omega), ?_⟩
  unfold sealL openL
  rw [cry_twice]
  unfold openT at h6
  rw [← h6, List.take_append_drop]

theorem law_gcmSeals (n0 c0 n1 c1 n2 c2 n3 c3 : Nat) (key nonce ad text : List (BitVec 8)) (M : List Blk) (h0 : BAt M n0 0 key) (h1 : BAt M n1 0 nonce) (h2 : BAt M n2 0 ad) (h3 : BAt M n3 0 text)
    (l0 : key.length ≤ 140737488355000) (l1 : nonce.length ≤ 140737488355000) (l2 : ad.length ≤ 140737488355000) (l3 : text.length ≤ 140737488355000) (k0 : key.length ≤ c0) (k1 : nonce.length ≤ c1) (k2 : ad.length ≤ c2) (k3 : text.length ≤ c3) :
    callVC Try.prog 3 [.sl n0 0 key.length c0, .sl n1 0 nonce.length c1, .sl n2 0 ad.length c2, .sl n3 0 text.length c3] M (fun v _ => v = .b true) := by
  refine fn_rule tabOK Try.func3 rfl Try.call3 (by kernel_rfl) (fun hM => ?_)
  (refine top_in ?_; simp -implicitDefEqProofs only [Try.ntmps3, Try.results3, go_sem, -List.reduceReplicate, ↓L_gdZ_tt, ↓L_gdZ_tf, ↓L_gdZ_ft, ↓L_gdZ_ff, ↓T_and, ↓T_imp, ↓T_all, Nat.reduceBEq, Nat.reduceAdd, Nat.reduceSub, Nat.reduceMul, Nat.reduceLT, Nat.reduceLeDiff, Nat.reduceEqDiff, Int.reduceLT, Int.reduceLE, Int.reduceAdd, Int.reduceSub, Int.reduceMul, Int.reduceNeg, Int.reduceToNat, Int.reduceEq, Int.reduceNe, reduceIte, reduceCtorEq, BitVec.reduceOfInt, BitVec.reduceToNat]; try simp only [top_out])
  refine first5_ok _ _ ?_
  (refine top_in ?_; simp -implicitDefEqProofs only [go_sem, -List.reduceReplicate, ↓L_gdZ_tt, ↓L_gdZ_tf, ↓L_gdZ_ft, ↓L_gdZ_ff, ↓T_and, ↓T_imp, ↓T_all, Nat.reduceBEq, Nat.reduceAdd, Nat.reduceSub, Nat.reduceMul, Nat.reduceLT, Nat.reduceLeDiff, Nat.reduceEqDiff, Int.reduceLT, Int.reduceLE, Int.reduceAdd, Int.reduceSub, Int.reduceMul, Int.reduceNeg, Int.reduceToNat, Int.reduceEq, Int.reduceNe, reduceIte, reduceCtorEq, BitVec.reduceOfInt, BitVec.reduceToNat]; try simp only [top_out])
  refine bytes_ok n0 0 c0 key _ _ h0 (by omega) fun z0 t0 => ?_
  (refine top_in ?_; simp -implicitDefEqProofs only [go_sem, -List.reduceReplicate, ↓L_gdZ_tt, ↓L_gdZ_tf, ↓L_gdZ_ft, ↓L_gdZ_ff, ↓T_and, ↓T_imp, ↓T_all, Nat.reduceBEq, Nat.reduceAdd, Nat.reduceSub, Nat.reduceMul, Nat.reduceLT, Nat.reduceLeDiff, Nat.reduceEqDiff, Int.reduceLT, Int.reduceLE, Int.reduceAdd, Int.reduceSub, Int.reduceMul, Int.reduceNeg, Int.reduceToNat, Int.reduceEq, Int.reduceNe, reduceIte, reduceCtorEq, BitVec.reduceOfInt, BitVec.reduceToNat]; try simp only [top_out])
  refine bytes_ok n1 0 c1 nonce _ _ h1.app (by omega) fun z1 t1 => ?_
  (refine top_in ?_; simp -implicitDefEqProofs only [go_sem, -List.reduceReplicate, ↓L_gdZ_tt, ↓L_gdZ_tf, ↓L_gdZ_ft, ↓L_gdZ_ff, ↓T_and, ↓T_imp, ↓T_all, Nat.reduceBEq, Nat.reduceAdd, Nat.reduceSub, Nat.reduceMul, Nat.reduceLT, Nat.reduceLeDiff, Nat.reduceEqDiff, Int.reduceLT, Int.reduceLE, Int.reduceAdd, Int.reduceSub, Int.reduceMul, Int.reduceNeg, Int.reduceToNat, Int.reduceEq, Int.reduceNe, reduceIte, reduceCtorEq, BitVec.reduceOfInt, BitVec.reduceToNat]; try simp only [top_out])
  refine bytes_ok n2 0 c2 ad _ _ h2.app (by omega) fun z2 t2 => ?_
  (refine top_in ?_; simp -implicitDefEqProofs only [go_sem, -List.reduceReplicate, ↓L_gdZ_tt, ↓L_gdZ_tf, ↓L_gdZ_ft, ↓L_gdZ_ff, ↓T_and, ↓T_imp, ↓T_all, Nat.reduceBEq, Nat.reduceAdd, Nat.reduceSub, Nat.reduceMul, Nat.reduceLT, Nat.reduceLeDiff, Nat.reduceEqDiff, Int.reduceLT, Int.reduceLE, Int.reduceAdd, Int.reduceSub, Int.reduceMul, Int.reduceNeg, Int.reduceToNat, Int.reduceEq, Int.reduceNe, reduceIte, reduceCtorEq, BitVec.reduceOfInt, BitVec.reduceToNat]; try simp only [top_out])
  refine bytes_ok n3 0 c3 text _ _ h3.app (by omega) fun z3 t3 => ?_
  (refine top_in ?_; simp -implicitDefEqProofs only [go_sem, -List.reduceReplicate, ↓L_gdZ_tt, ↓L_gdZ_tf, ↓L_gdZ_ft, ↓L_gdZ_ff, ↓T_and, ↓T_imp, ↓T_all, Nat.reduceBEq, Nat.reduceAdd, Nat.reduceSub, Nat.reduceMul, Nat.reduceLT, Nat.reduceLeDiff, Nat.reduceEqDiff, Int.reduceLT, Int.reduceLE, Int.reduceAdd, Int.reduceSub, Int.reduceMul, Int.reduceNeg, Int.reduceToNat, Int.reduceEq, Int.reduceNe, reduceIte, reduceCtorEq, BitVec.reduceOfInt, BitVec.reduceToNat]; try simp only [top_out])
  refine seal_u M.length 0 _ _ (M.length + 1) 0 _ _ (M.length + 2) 0 _ _ (M.length + 3) 0 _ _ key nonce ad text _ _ (BAt.row (z := z0) (ty := t0) (by rw [get_app0]; rfl)) rfl (by omega) (by omega) (BAt.row (z := z1) (ty := t1) (by rw [get_app]; rfl)) rfl
    (BAt.row (z := z2) (ty := t2) (by rw [get_app]; rfl)) rfl (by omega) (BAt.row (z := z3) (ty := t3) (by rw [get_app]; rfl)) rfl (by omega) fun z4 t4 => ?_
  (refine top_in ?_; simp -implicitDefEqProofs only [go_sem, -List.reduceReplicate, ↓L_gdZ_tt, ↓L_gdZ_tf, ↓L_gdZ_ft, ↓L_gdZ_ff, ↓T_and, ↓T_imp, ↓T_all, Nat.reduceBEq, Nat.reduceAdd, Nat.reduceSub, Nat.reduceMul, Nat.reduceLT, Nat.reduceLeDiff, Nat.reduceEqDiff, Int.reduceLT, Int.reduceLE, Int.reduceAdd, Int.reduceSub, Int.reduceMul, Int.reduceNeg, Int.reduceToNat, Int.reduceEq, Int.reduceNe, reduceIte, reduceCtorEq, BitVec.reduceOfInt, BitVec.reduceToNat]; try simp only [top_out])
  refine refseal_u n0 0 _ c0 n1 0 _ c1 n2 0 _ c2 n3 0 _ c3 key nonce ad text _ _ h0.app rfl k0 l0 h1.app rfl h2.app rfl k2 h3.app rfl k3 fun z5 t5 => ?_
  have hU := sealU_len key nonce ad text
  (refine top_in ?_; simp -implicitDefEqProofs only [go_sem, -List.reduceReplicate, ↓L_gdZ_tt, ↓L_gdZ_tf, ↓L_gdZ_ft, ↓L_gdZ_ff, ↓T_and, ↓T_imp, ↓T_all, Nat.reduceBEq, Nat.reduceAdd, Nat.reduceSub, Nat.reduceMul, Nat.reduceLT, Nat.reduceLeDiff, Nat.reduceEqDiff, Int.reduceLT, Int.reduceLE, Int.reduceAdd, Int.reduceSub, Int.reduceMul, Int.reduceNeg, Int.reduceToNat, Int.reduceEq, Int.reduceNe, reduceIte, reduceCtorEq, BitVec.reduceOfInt, BitVec.reduceToNat]; try simp only [top_out])
  refine same_ok2 (M.length + 4) 0 _ (M.length + 5) 0 _ _ _ (sealU key nonce ad text) (sealU key nonce ad text) _ _ (BAt.row (z := z4) (ty := t4) (by rw [get_app]; rfl)) (BAt.row (z := z5) (ty := t5) (by rw [get_app]; rfl)) (by omega) (by omega) rfl rfl ?_
  rw [beq_self_eq_true]
  (refine top_in ?_; simp -implicitDefEqProofs only [go_sem, -List.reduceReplicate, ↓L_gdZ_tt, ↓L_gdZ_tf, ↓L_gdZ_ft, ↓L_gdZ_ff, ↓T_and, ↓T_imp, ↓T_all, Nat.reduceBEq, Nat.reduceAdd, Nat.reduceSub, Nat.reduceMul, Nat.reduceLT, Nat.reduceLeDiff, Nat.reduceEqDiff, Int.reduceLT, Int.reduceLE, Int.reduceAdd, Int.reduceSub, Int.reduceMul, Int.reduceNeg, Int.reduceToNat, Int.reduceEq, Int.reduceNe, reduceIte, reduceCtorEq, BitVec.reduceOfInt, BitVec.reduceToNat]; try simp only [top_out])
  refine num5_ok _ _ _ ?_
  (refine top_in ?_; simp -implicitDefEqProofs only [go_sem, -List.reduceReplicate, ↓L_gdZ_tt, ↓L_gdZ_tf, ↓L_gdZ_ft, ↓L_gdZ_ff, ↓T_and, ↓T_imp, ↓T_all, Nat.reduceBEq, Nat.reduceAdd, Nat.reduceSub, Nat.reduceMul, Nat.reduceLT, Nat.reduceLeDiff, Nat.reduceEqDiff, Int.reduceLT, Int.reduceLE, Int.reduceAdd, Int.reduceSub, Int.reduceMul, Int.reduceNeg, Int.reduceToNat, Int.reduceEq, Int.reduceNe, reduceIte, reduceCtorEq, BitVec.reduceOfInt, BitVec.reduceToNat]; try simp only [top_out])
  refine dropC_append hM rfl ?_
  simp

set_option maxHeartbeats 2000000 in
theorem law_gcmOpens (n0 c0 n1 c1 n2 c2 n3 c3 : Nat) (key nonce ad s : List (BitVec 8)) (at_ : Int) (x : BitVec 8) (M : List Blk) (h0 : BAt M n0 0 key) (h1 : BAt M n1 0 nonce) (h2 : BAt M n2 0 ad) (h3 : BAt M n3 0 s)
    (l0 : key.length ≤ 140737488355000) (l1 : nonce.length ≤ 140737488355000) (l2 : ad.length ≤ 140737488355000) (l3 : s.length ≤ 140737488355000) (k0 : key.length ≤ c0) (k1 : nonce.length ≤ c1) (k2 : ad.length ≤ c2) (k3 : s.length ≤ c3) :
    callVC Try.prog 4 [.sl n0 0 key.length c0, .sl n1 0 nonce.length c1, .sl n2 0 ad.length c2, .sl n3 0 s.length c3, .i .i64 at_, .u8 x] M (fun v _ => v = .b true) := by
  refine fn_rule tabOK Try.func4 rfl Try.call4 (by kernel_rfl) (fun hM => ?_)
  (refine top_in ?_; simp -implicitDefEqProofs only [Try.ntmps4, Try.results4, go_sem, -List.reduceReplicate, ↓L_gdZ_tt, ↓L_gdZ_tf, ↓L_gdZ_ft, ↓L_gdZ_ff, ↓T_and, ↓T_imp, ↓T_all, Nat.reduceBEq, Nat.reduceAdd, Nat.reduceSub, Nat.reduceMul, Nat.reduceLT, Nat.reduceLeDiff, Nat.reduceEqDiff, Int.reduceLT, Int.reduceLE, Int.reduceAdd, Int.reduceSub, Int.reduceMul, Int.reduceNeg, Int.reduceToNat, Int.reduceEq, Int.reduceNe, reduceIte, reduceCtorEq, BitVec.reduceOfInt, BitVec.reduceToNat]; try simp only [top_out])
  refine first5_ok _ _ ?_
  (refine top_in ?_; simp -implicitDefEqProofs only [go_sem, -List.reduceReplicate, ↓L_gdZ_tt, ↓L_gdZ_tf, ↓L_gdZ_ft, ↓L_gdZ_ff, ↓T_and, ↓T_imp, ↓T_all, Nat.reduceBEq, Nat.reduceAdd, Nat.reduceSub, Nat.reduceMul, Nat.reduceLT, Nat.reduceLeDiff, Nat.reduceEqDiff, Int.reduceLT, Int.reduceLE, Int.reduceAdd, Int.reduceSub, Int.reduceMul, Int.reduceNeg, Int.reduceToNat, Int.reduceEq, Int.reduceNe, reduceIte, reduceCtorEq, BitVec.reduceOfInt, BitVec.reduceToNat]; try simp only [top_out])
  refine bytes_ok n0 0 c0 key _ _ h0 (by omega) fun z0 t0 => ?_
  (refine top_in ?_; simp -implicitDefEqProofs only [go_sem, -List.reduceReplicate, ↓L_gdZ_tt, ↓L_gdZ_tf, ↓L_gdZ_ft, ↓L_gdZ_ff, ↓T_and, ↓T_imp, ↓T_all, Nat.reduceBEq, Nat.reduceAdd, Nat.reduceSub, Nat.reduceMul, Nat.reduceLT, Nat.reduceLeDiff, Nat.reduceEqDiff, Int.reduceLT, Int.reduceLE, Int.reduceAdd, Int.reduceSub, Int.reduceMul, Int.reduceNeg, Int.reduceToNat, Int.reduceEq, Int.reduceNe, reduceIte, reduceCtorEq, BitVec.reduceOfInt, BitVec.reduceToNat]; try simp only [top_out])
  refine bytes_ok n1 0 c1 nonce _ _ h1.app (by omega) fun z1 t1 => ?_
  (refine top_in ?_; simp -implicitDefEqProofs only [go_sem, -List.reduceReplicate, ↓L_gdZ_tt, ↓L_gdZ_tf, ↓L_gdZ_ft, ↓L_gdZ_ff, ↓T_and, ↓T_imp, ↓T_all, Nat.reduceBEq, Nat.reduceAdd, Nat.reduceSub, Nat.reduceMul, Nat.reduceLT, Nat.reduceLeDiff, Nat.reduceEqDiff, Int.reduceLT, Int.reduceLE, Int.reduceAdd, Int.reduceSub, Int.reduceMul, Int.reduceNeg, Int.reduceToNat, Int.reduceEq, Int.reduceNe, reduceIte, reduceCtorEq, BitVec.reduceOfInt, BitVec.reduceToNat]; try simp only [top_out])
  refine bytes_ok n2 0 c2 ad _ _ h2.app (by omega) fun z2 t2 => ?_
  (refine top_in ?_; simp -implicitDefEqProofs only [go_sem, -List.reduceReplicate, ↓L_gdZ_tt, ↓L_gdZ_tf, ↓L_gdZ_ft, ↓L_gdZ_ff, ↓T_and, ↓T_imp, ↓T_all, Nat.reduceBEq, Nat.reduceAdd, Nat.reduceSub, Nat.reduceMul, Nat.reduceLT, Nat.reduceLeDiff, Nat.reduceEqDiff, Int.reduceLT, Int.reduceLE, Int.reduceAdd, Int.reduceSub, Int.reduceMul, Int.reduceNeg, Int.reduceToNat, Int.reduceEq, Int.reduceNe, reduceIte, reduceCtorEq, BitVec.reduceOfInt, BitVec.reduceToNat]; try simp only [top_out])
  refine bytes_ok n3 0 c3 s _ _ h3.app (by omega) fun z3 t3 => ?_
  (refine top_in ?_; simp -implicitDefEqProofs only [go_sem, -List.reduceReplicate, ↓L_gdZ_tt, ↓L_gdZ_tf, ↓L_gdZ_ft, ↓L_gdZ_ff, ↓T_and, ↓T_imp, ↓T_all, Nat.reduceBEq, Nat.reduceAdd, Nat.reduceSub, Nat.reduceMul, Nat.reduceLT, Nat.reduceLeDiff, Nat.reduceEqDiff, Int.reduceLT, Int.reduceLE, Int.reduceAdd, Int.reduceSub, Int.reduceMul, Int.reduceNeg, Int.reduceToNat, Int.reduceEq, Int.reduceNe, reduceIte, reduceCtorEq, BitVec.reduceOfInt, BitVec.reduceToNat]; try simp only [top_out])
  refine open_u M.length 0 _ _ (M.length + 1) 0 _ _ (M.length + 2) 0 _ _ (M.length + 3) 0 _ _ key nonce ad s _ _ (BAt.row (z := z0) (ty := t0) (by rw [get_app0]; rfl)) rfl (by omega) (by omega) (BAt.row (z := z1) (ty := t1) (by rw [get_app]; rfl)) rfl
    (BAt.row (z := z2) (ty := t2) (by rw [get_app]; rfl)) rfl (by omega) (BAt.row (z := z3) (ty := t3) (by rw [get_app]; rfl)) rfl (by omega) (by omega) fun z4 t4 => ?_
  (refine top_in ?_; simp -implicitDefEqProofs only [go_sem, -List.reduceReplicate, ↓L_gdZ_tt, ↓L_gdZ_tf, ↓L_gdZ_ft, ↓L_gdZ_ff, ↓T_and, ↓T_imp, ↓T_all, Nat.reduceBEq, Nat.reduceAdd, Nat.reduceSub, Nat.reduceMul, Nat.reduceLT, Nat.reduceLeDiff, Nat.reduceEqDiff, Int.reduceLT, Int.reduceLE, Int.reduceAdd, Int.reduceSub, Int.reduceMul, Int.reduceNeg, Int.reduceToNat, Int.reduceEq, Int.reduceNe, reduceIte, reduceCtorEq, BitVec.reduceOfInt, BitVec.reduceToNat]; try simp only [top_out])
  refine refopen_u n0 0 _ c0 n1 0 _ c1 n2 0 _ c2 n3 0 _ c3 key nonce ad s _ _ h0.app rfl k0 l0 h1.app rfl h2.app rfl k2 h3.app rfl k3 l3 fun z5 t5 => ?_
  have hU := openU_len key nonce ad s
  (refine top_in ?_; simp -implicitDefEqProofs only [go_sem, -List.reduceReplicate, ↓L_gdZ_tt, ↓L_gdZ_tf, ↓L_gdZ_ft, ↓L_gdZ_ff, ↓T_and, ↓T_imp, ↓T_all, Nat.reduceBEq, Nat.reduceAdd, Nat.reduceSub, Nat.reduceMul, Nat.reduceLT, Nat.reduceLeDiff, Nat.reduceEqDiff, Int.reduceLT, Int.reduceLE, Int.reduceAdd, Int.reduceSub, Int.reduceMul, Int.reduceNeg, Int.reduceToNat, Int.reduceEq, Int.reduceNe, reduceIte, reduceCtorEq, BitVec.reduceOfInt, BitVec.reduceToNat]; try simp only [top_out])
  refine same_ok2 (M.length + 4) 0 _ (M.length + 5) 0 _ _ _ (openU key nonce ad s) (openU key nonce ad s) _ _ (BAt.row (z := z4) (ty := t4) (by rw [get_app]; rfl)) (BAt.row (z := z5) (ty := t5) (by rw [get_app]; rfl)) (by omega) (by omega) rfl rfl ?_
  rw [beq_self_eq_true]
  (refine top_in ?_; simp -implicitDefEqProofs only [go_sem, -List.reduceReplicate, ↓L_gdZ_tt, ↓L_gdZ_tf, ↓L_gdZ_ft, ↓L_gdZ_ff, ↓T_and, ↓T_imp, ↓T_all, Nat.reduceBEq, Nat.reduceAdd, Nat.reduceSub, Nat.reduceMul, Nat.reduceLT, Nat.reduceLeDiff, Nat.reduceEqDiff, Int.reduceLT, Int.reduceLE, Int.reduceAdd, Int.reduceSub, Int.reduceMul, Int.reduceNeg, Int.reduceToNat, Int.reduceEq, Int.reduceNe, reduceIte, reduceCtorEq, BitVec.reduceOfInt, BitVec.reduceToNat]; try simp only [top_out])
  refine refseal_u n0 0 _ c0 n1 0 _ c1 n2 0 _ c2 n3 0 _ c3 key nonce ad s _ _ h0.app rfl k0 l0 h1.app rfl h2.app rfl k2 h3.app rfl k3 fun z6 t6 => ?_
  have hS := sealU_len key nonce ad s
  (refine top_in ?_; simp -implicitDefEqProofs only [go_sem, -List.reduceReplicate, ↓L_gdZ_tt, ↓L_gdZ_tf, ↓L_gdZ_ft, ↓L_gdZ_ff, ↓T_and, ↓T_imp, ↓T_all, Nat.reduceBEq, Nat.reduceAdd, Nat.reduceSub, Nat.reduceMul, Nat.reduceLT, Nat.reduceLeDiff, Nat.reduceEqDiff, Int.reduceLT, Int.reduceLE, Int.reduceAdd, Int.reduceSub, Int.reduceMul, Int.reduceNeg, Int.reduceToNat, Int.reduceEq, Int.reduceNe, reduceIte, reduceCtorEq, BitVec.reduceOfInt, BitVec.reduceToNat]; try simp only [top_out])
  refine ⟨fun _ => ⟨fun a0 => ⟨fun _ => dropC_append hM rfl rfl, fun a1 => ?_⟩, fun _ => dropC_append hM rfl rfl⟩, fun _ => dropC_append hM rfl rfl⟩
  repeat (with_reducible refine And.intro (by omega) ?_)
  have hi : at_.toNat < (sealU key nonce ad s).length := by omega
  rw [List.set_append_left _ _ hi]
  generalize (sealU key nonce ad s ++ z6).getD at_.toNat 0#8 ^^^ x = v
  have hW : ((sealU key nonce ad s).set at_.toNat v).length = (sealU key nonce ad s).length := List.length_set
  rw [← hW]
  rw [← hW] at hS
  generalize (sealU key nonce ad s).set at_.toNat v = W at hS
  refine bytes_ok n0 0 c0 key _ _ h0.app (by omega) fun y0 u0 => ?_
  (refine top_in ?_; simp -implicitDefEqProofs only [go_sem, -List.reduceReplicate, ↓L_gdZ_tt, ↓L_gdZ_tf, ↓L_gdZ_ft, ↓L_gdZ_ff, ↓T_and, ↓T_imp, ↓T_all, Nat.reduceBEq, Nat.reduceAdd, Nat.reduceSub, Nat.reduceMul, Nat.reduceLT, Nat.reduceLeDiff, Nat.reduceEqDiff, Int.reduceLT, Int.reduceLE, Int.reduceAdd, Int.reduceSub, Int.reduceMul, Int.reduceNeg, Int.reduceToNat, Int.reduceEq, Int.reduceNe, reduceIte, reduceCtorEq, BitVec.reduceOfInt, BitVec.reduceToNat]; try simp only [top_out])
  refine bytes_ok n1 0 c1 nonce _ _ h1.app (by omega) fun y1 u1 => ?_
  (refine top_in ?_; simp -implicitDefEqProofs only [go_sem, -List.reduceReplicate, ↓L_gdZ_tt, ↓L_gdZ_tf, ↓L_gdZ_ft, ↓L_gdZ_ff, ↓T_and, ↓T_imp, ↓T_all, Nat.reduceBEq, Nat.reduceAdd, Nat.reduceSub, Nat.reduceMul, Nat.reduceLT, Nat.reduceLeDiff, Nat.reduceEqDiff, Int.reduceLT, Int.reduceLE, Int.reduceAdd, Int.reduceSub, Int.reduceMul, Int.reduceNeg, Int.reduceToNat, Int.reduceEq, Int.reduceNe, reduceIte, reduceCtorEq, BitVec.reduceOfInt, BitVec.reduceToNat]; try simp only [top_out])
  refine bytes_ok n2 0 c2 ad _ _ h2.app (by omega) fun y2 u2 => ?_
  (refine top_in ?_; simp -implicitDefEqProofs only [go_sem, -List.reduceReplicate, ↓L_gdZ_tt, ↓L_gdZ_tf, ↓L_gdZ_ft, ↓L_gdZ_ff, ↓T_and, ↓T_imp, ↓T_all, Nat.reduceBEq, Nat.reduceAdd, Nat.reduceSub, Nat.reduceMul, Nat.reduceLT, Nat.reduceLeDiff, Nat.reduceEqDiff, Int.reduceLT, Int.reduceLE, Int.reduceAdd, Int.reduceSub, Int.reduceMul, Int.reduceNeg, Int.reduceToNat, Int.reduceEq, Int.reduceNe, reduceIte, reduceCtorEq, BitVec.reduceOfInt, BitVec.reduceToNat]; try simp only [top_out])
  refine bytes_ok (M.length + 6) 0 (W.length + z6.length) W _ _ (BAt.row (z := z6) (ty := t6) (by rw [get_app]; rfl)) (by omega) fun y3 u3 => ?_
  (refine top_in ?_; simp -implicitDefEqProofs only [go_sem, -List.reduceReplicate, ↓L_gdZ_tt, ↓L_gdZ_tf, ↓L_gdZ_ft, ↓L_gdZ_ff, ↓T_and, ↓T_imp, ↓T_all, Nat.reduceBEq, Nat.reduceAdd, Nat.reduceSub, Nat.reduceMul, Nat.reduceLT, Nat.reduceLeDiff, Nat.reduceEqDiff, Int.reduceLT, Int.reduceLE, Int.reduceAdd, Int.reduceSub, Int.reduceMul, Int.reduceNeg, Int.reduceToNat, Int.reduceEq, Int.reduceNe, reduceIte, reduceCtorEq, BitVec.reduceOfInt, BitVec.reduceToNat]; try simp only [top_out])
  refine open_u (M.length + 7) 0 _ _ (M.length + 8) 0 _ _ (M.length + 9) 0 _ _ (M.length + 10) 0 _ _ key nonce ad W _ _ (BAt.row (z := y0) (ty := u0) (by rw [get_app]; rfl)) rfl (by omega) (by omega) (BAt.row (z := y1) (ty := u1) (by rw [get_app]; rfl)) rfl
    (BAt.row (z := y2) (ty := u2) (by rw [get_app]; rfl)) rfl (by omega) (BAt.row (z := y3) (ty := u3) (by rw [get_app]; rfl)) rfl (by omega) (by omega) fun y4 u4 => ?_
  (refine top_in ?_; simp -implicitDefEqProofs only [go_sem, -List.reduceReplicate, ↓L_gdZ_tt, ↓L_gdZ_tf, ↓L_gdZ_ft, ↓L_gdZ_ff, ↓T_and, ↓T_imp, ↓T_all, Nat.reduceBEq, Nat.reduceAdd, Nat.reduceSub, Nat.reduceMul, Nat.reduceLT, Nat.reduceLeDiff, Nat.reduceEqDiff, Int.reduceLT, Int.reduceLE, Int.reduceAdd, Int.reduceSub, Int.reduceMul, Int.reduceNeg, Int.reduceToNat, Int.reduceEq, Int.reduceNe, reduceIte, reduceCtorEq, BitVec.reduceOfInt, BitVec.reduceToNat]; try simp only [top_out])
  refine refopen_u n0 0 _ c0 n1 0 _ c1 n2 0 _ c2 (M.length + 6) 0 _ (W.length + z6.length) key nonce ad W _ _ h0.app rfl k0 l0 h1.app rfl h2.app rfl k2 (BAt.row (z := z6) (ty := t6) (by rw [get_app]; rfl)) rfl (by omega) (by omega) fun y5 u5 => ?_
  have hU2 := openU_len key nonce ad W
  (refine top_in ?_; simp -implicitDefEqProofs only [go_sem, -List.reduceReplicate, ↓L_gdZ_tt, ↓L_gdZ_tf, ↓L_gdZ_ft, ↓L_gdZ_ff, ↓T_and, ↓T_imp, ↓T_all, Nat.reduceBEq, Nat.reduceAdd, Nat.reduceSub, Nat.reduceMul, Nat.reduceLT, Nat.reduceLeDiff, Nat.reduceEqDiff, Int.reduceLT, Int.reduceLE, Int.reduceAdd, Int.reduceSub, Int.reduceMul, Int.reduceNeg, Int.reduceToNat, Int.reduceEq, Int.reduceNe, reduceIte, reduceCtorEq, BitVec.reduceOfInt, BitVec.reduceToNat]; try simp only [top_out])
  refine same_ok2 (M.length + 11) 0 _ (M.length + 12) 0 _ _ _ (openU key nonce ad W) (openU key nonce ad W) _ _ (BAt.row (z := y4) (ty := u4) (by rw [get_app]; rfl)) (BAt.row (z := y5) (ty := u5) (by rw [get_app]; rfl)) (by omega) (by omega) rfl rfl ?_
  rw [beq_self_eq_true]
  (refine top_in ?_; simp -implicitDefEqProofs only [go_sem, -List.reduceReplicate, ↓L_gdZ_tt, ↓L_gdZ_tf, ↓L_gdZ_ft, ↓L_gdZ_ff, ↓T_and, ↓T_imp, ↓T_all, Nat.reduceBEq, Nat.reduceAdd, Nat.reduceSub, Nat.reduceMul, Nat.reduceLT, Nat.reduceLeDiff, Nat.reduceEqDiff, Int.reduceLT, Int.reduceLE, Int.reduceAdd, Int.reduceSub, Int.reduceMul, Int.reduceNeg, Int.reduceToNat, Int.reduceEq, Int.reduceNe, reduceIte, reduceCtorEq, BitVec.reduceOfInt, BitVec.reduceToNat]; try simp only [top_out])
  refine dropC_append hM rfl ?_
  simp

set_option maxHeartbeats 2000000 in
theorem law_gcmBack (n0 c0 n1 c1 n2 c2 n3 c3 : Nat) (key nonce ad text : List (BitVec 8)) (M : List Blk) (h0 : BAt M n0 0 key) (h1 : BAt M n1 0 nonce) (h2 : BAt M n2 0 ad) (h3 : BAt M n3 0 text)
    (l0 : key.length ≤ 140737488355000) (l1 : nonce.length ≤ 140737488355000) (l2 : ad.length ≤ 140737488355000) (l3 : text.length ≤ 140737488355000) (k0 : key.length ≤ c0) (k1 : nonce.length ≤ c1) (k2 : ad.length ≤ c2) (k3 : text.length ≤ c3) :
    callVC Try.prog 5 [.sl n0 0 key.length c0, .sl n1 0 nonce.length c1, .sl n2 0 ad.length c2, .sl n3 0 text.length c3] M (fun v _ => v = .b true) := by
  refine fn_rule tabOK Try.func5 rfl Try.call5 (by kernel_rfl) (fun hM => ?_)
  (refine top_in ?_; simp -implicitDefEqProofs only [Try.ntmps5, Try.results5, go_sem, -List.reduceReplicate, ↓L_gdZ_tt, ↓L_gdZ_tf, ↓L_gdZ_ft, ↓L_gdZ_ff, ↓T_and, ↓T_imp, ↓T_all, Nat.reduceBEq, Nat.reduceAdd, Nat.reduceSub, Nat.reduceMul, Nat.reduceLT, Nat.reduceLeDiff, Nat.reduceEqDiff, Int.reduceLT, Int.reduceLE, Int.reduceAdd, Int.reduceSub, Int.reduceMul, Int.reduceNeg, Int.reduceToNat, Int.reduceEq, Int.reduceNe, reduceIte, reduceCtorEq, BitVec.reduceOfInt, BitVec.reduceToNat]; try simp only [top_out])
  refine first5_ok _ _ ?_
  (refine top_in ?_; simp -implicitDefEqProofs only [go_sem, -List.reduceReplicate, ↓L_gdZ_tt, ↓L_gdZ_tf, ↓L_gdZ_ft, ↓L_gdZ_ff, ↓T_and, ↓T_imp, ↓T_all, Nat.reduceBEq, Nat.reduceAdd, Nat.reduceSub, Nat.reduceMul, Nat.reduceLT, Nat.reduceLeDiff, Nat.reduceEqDiff, Int.reduceLT, Int.reduceLE, Int.reduceAdd, Int.reduceSub, Int.reduceMul, Int.reduceNeg, Int.reduceToNat, Int.reduceEq, Int.reduceNe, reduceIte, reduceCtorEq, BitVec.reduceOfInt, BitVec.reduceToNat]; try simp only [top_out])
  refine bytes_ok n0 0 c0 key _ _ h0 (by omega) fun z0 t0 => ?_
  (refine top_in ?_; simp -implicitDefEqProofs only [go_sem, -List.reduceReplicate, ↓L_gdZ_tt, ↓L_gdZ_tf, ↓L_gdZ_ft, ↓L_gdZ_ff, ↓T_and, ↓T_imp, ↓T_all, Nat.reduceBEq, Nat.reduceAdd, Nat.reduceSub, Nat.reduceMul, Nat.reduceLT, Nat.reduceLeDiff, Nat.reduceEqDiff, Int.reduceLT, Int.reduceLE, Int.reduceAdd, Int.reduceSub, Int.reduceMul, Int.reduceNeg, Int.reduceToNat, Int.reduceEq, Int.reduceNe, reduceIte, reduceCtorEq, BitVec.reduceOfInt, BitVec.reduceToNat]; try simp only [top_out])
  refine bytes_ok n1 0 c1 nonce _ _ h1.app (by omega) fun z1 t1 => ?_
  (refine top_in ?_; simp -implicitDefEqProofs only [go_sem, -List.reduceReplicate, ↓L_gdZ_tt, ↓L_gdZ_tf, ↓L_gdZ_ft, ↓L_gdZ_ff, ↓T_and, ↓T_imp, ↓T_all, Nat.reduceBEq, Nat.reduceAdd, Nat.reduceSub, Nat.reduceMul, Nat.reduceLT, Nat.reduceLeDiff, Nat.reduceEqDiff, Int.reduceLT, Int.reduceLE, Int.reduceAdd, Int.reduceSub, Int.reduceMul, Int.reduceNeg, Int.reduceToNat, Int.reduceEq, Int.reduceNe, reduceIte, reduceCtorEq, BitVec.reduceOfInt, BitVec.reduceToNat]; try simp only [top_out])
  refine bytes_ok n2 0 c2 ad _ _ h2.app (by omega) fun z2 t2 => ?_
  (refine top_in ?_; simp -implicitDefEqProofs only [go_sem, -List.reduceReplicate, ↓L_gdZ_tt, ↓L_gdZ_tf, ↓L_gdZ_ft, ↓L_gdZ_ff, ↓T_and, ↓T_imp, ↓T_all, Nat.reduceBEq, Nat.reduceAdd, Nat.reduceSub, Nat.reduceMul, Nat.reduceLT, Nat.reduceLeDiff, Nat.reduceEqDiff, Int.reduceLT, Int.reduceLE, Int.reduceAdd, Int.reduceSub, Int.reduceMul, Int.reduceNeg, Int.reduceToNat, Int.reduceEq, Int.reduceNe, reduceIte, reduceCtorEq, BitVec.reduceOfInt, BitVec.reduceToNat]; try simp only [top_out])
  refine bytes_ok n3 0 c3 text _ _ h3.app (by omega) fun z3 t3 => ?_
  (refine top_in ?_; simp -implicitDefEqProofs only [go_sem, -List.reduceReplicate, ↓L_gdZ_tt, ↓L_gdZ_tf, ↓L_gdZ_ft, ↓L_gdZ_ff, ↓T_and, ↓T_imp, ↓T_all, Nat.reduceBEq, Nat.reduceAdd, Nat.reduceSub, Nat.reduceMul, Nat.reduceLT, Nat.reduceLeDiff, Nat.reduceEqDiff, Int.reduceLT, Int.reduceLE, Int.reduceAdd, Int.reduceSub, Int.reduceMul, Int.reduceNeg, Int.reduceToNat, Int.reduceEq, Int.reduceNe, reduceIte, reduceCtorEq, BitVec.reduceOfInt, BitVec.reduceToNat]; try simp only [top_out])
  refine seal_u M.length 0 _ _ (M.length + 1) 0 _ _ (M.length + 2) 0 _ _ (M.length + 3) 0 _ _ key nonce ad text _ _ (BAt.row (z := z0) (ty := t0) (by rw [get_app0]; rfl)) rfl (by omega) (by omega) (BAt.row (z := z1) (ty := t1) (by rw [get_app]; rfl)) rfl
    (BAt.row (z := z2) (ty := t2) (by rw [get_app]; rfl)) rfl (by omega) (BAt.row (z := z3) (ty := t3) (by rw [get_app]; rfl)) rfl (by omega) fun z4 t4 => ?_
  have hS := sealU_len key nonce ad text
  (refine top_in ?_; simp -implicitDefEqProofs only [go_sem, -List.reduceReplicate, ↓L_gdZ_tt, ↓L_gdZ_tf, ↓L_gdZ_ft, ↓L_gdZ_ff, ↓T_and, ↓T_imp, ↓T_all, Nat.reduceBEq, Nat.reduceAdd, Nat.reduceSub, Nat.reduceMul, Nat.reduceLT, Nat.reduceLeDiff, Nat.reduceEqDiff, Int.reduceLT, Int.reduceLE, Int.reduceAdd, Int.reduceSub, Int.reduceMul, Int.reduceNeg, Int.reduceToNat, Int.reduceEq, Int.reduceNe, reduceIte, reduceCtorEq, BitVec.reduceOfInt, BitVec.reduceToNat]; try simp only [top_out])
  refine num5_ok _ _ _ ?_
  (refine top_in ?_; simp -implicitDefEqProofs only [go_sem, -List.reduceReplicate, ↓L_gdZ_tt, ↓L_gdZ_tf, ↓L_gdZ_ft, ↓L_gdZ_ff, ↓T_and, ↓T_imp, ↓T_all, Nat.reduceBEq, Nat.reduceAdd, Nat.reduceSub, Nat.reduceMul, Nat.reduceLT, Nat.reduceLeDiff, Nat.reduceEqDiff, Int.reduceLT, Int.reduceLE, Int.reduceAdd, Int.reduceSub, Int.reduceMul, Int.reduceNeg, Int.reduceToNat, Int.reduceEq, Int.reduceNe, reduceIte, reduceCtorEq, BitVec.reduceOfInt, BitVec.reduceToNat]; try simp only [top_out])
  by_cases he : sealE key nonce ad text = 0
  · obtain ⟨p1, p2, p3, p4⟩ := sealE_0 he
    obtain ⟨q1, q2⟩ := open_seal he
    have hU : sealU key nonce ad text = sealL key nonce ad text := if_pos he
    have hO : openU key nonce ad (sealL key nonce ad text) = text := by unfold openU; rw [if_pos q1, q2]
    have hL := sealL_len key nonce ad text
    rw [he, hU]
    rw [hU] at hS
    (refine top_in ?_; simp -implicitDefEqProofs only [go_sem, -List.reduceReplicate, ↓L_gdZ_tt, ↓L_gdZ_tf, ↓L_gdZ_ft, ↓L_gdZ_ff, ↓T_and, ↓T_imp, ↓T_all, Nat.reduceBEq, Nat.reduceAdd, Nat.reduceSub, Nat.reduceMul, Nat.reduceLT, Nat.reduceLeDiff, Nat.reduceEqDiff, Int.reduceLT, Int.reduceLE, Int.reduceAdd, Int.reduceSub, Int.reduceMul, Int.reduceNeg, Int.reduceToNat, Int.reduceEq, Int.reduceNe, reduceIte, reduceCtorEq, BitVec.reduceOfInt, BitVec.reduceToNat, q00]; try simp only [top_out])
    refine bytes_ok n0 0 c0 key _ _ h0.app (by omega) fun y0 u0 => ?_
    (refine top_in ?_; simp -implicitDefEqProofs only [go_sem, -List.reduceReplicate, ↓L_gdZ_tt, ↓L_gdZ_tf, ↓L_gdZ_ft, ↓L_gdZ_ff, ↓T_and, ↓T_imp, ↓T_all, Nat.reduceBEq, Nat.reduceAdd, Nat.reduceSub, Nat.reduceMul, Nat.reduceLT, Nat.reduceLeDiff, Nat.reduceEqDiff, Int.reduceLT, Int.reduceLE, Int.reduceAdd, Int.reduceSub, Int.reduceMul, Int.reduceNeg, Int.reduceToNat, Int.reduceEq, Int.reduceNe, reduceIte, reduceCtorEq, BitVec.reduceOfInt, BitVec.reduceToNat]; try simp only [top_out])
    refine bytes_ok n1 0 c1 nonce _ _ h1.app (by omega) fun y1 u1 => ?_
    (refine top_in ?_; simp -implicitDefEqProofs only [go_sem, -List.reduceReplicate, ↓L_gdZ_tt, ↓L_gdZ_tf, ↓L_gdZ_ft, ↓L_gdZ_ff, ↓T_and, ↓T_imp, ↓T_all, Nat.reduceBEq, Nat.reduceAdd, Nat.reduceSub, Nat.reduceMul, Nat.reduceLT, Nat.reduceLeDiff, Nat.reduceEqDiff, Int.reduceLT, Int.reduceLE, Int.reduceAdd, Int.reduceSub, Int.reduceMul, Int.reduceNeg, Int.reduceToNat, Int.reduceEq, Int.reduceNe, reduceIte, reduceCtorEq, BitVec.reduceOfInt, BitVec.reduceToNat]; try simp only [top_out])
    refine bytes_ok n2 0 c2 ad _ _ h2.app (by omega) fun y2 u2 => ?_
    (refine top_in ?_; simp -implicitDefEqProofs only [go_sem, -List.reduceReplicate, ↓L_gdZ_tt, ↓L_gdZ_tf, ↓L_gdZ_ft, ↓L_gdZ_ff, ↓T_and, ↓T_imp, ↓T_all, Nat.reduceBEq, Nat.reduceAdd, Nat.reduceSub, Nat.reduceMul, Nat.reduceLT, Nat.reduceLeDiff, Nat.reduceEqDiff, Int.reduceLT, Int.reduceLE, Int.reduceAdd, Int.reduceSub, Int.reduceMul, Int.reduceNeg, Int.reduceToNat, Int.reduceEq, Int.reduceNe, reduceIte, reduceCtorEq, BitVec.reduceOfInt, BitVec.reduceToNat]; try simp only [top_out])
    refine bytes_ok (M.length + 4) 0 _ (sealL key nonce ad text) _ _ (BAt.row (z := z4) (ty := t4) (by rw [get_app]; rfl)) (by omega) fun y3 u3 => ?_
    (refine top_in ?_; simp -implicitDefEqProofs only [go_sem, -List.reduceReplicate, ↓L_gdZ_tt, ↓L_gdZ_tf, ↓L_gdZ_ft, ↓L_gdZ_ff, ↓T_and, ↓T_imp, ↓T_all, Nat.reduceBEq, Nat.reduceAdd, Nat.reduceSub, Nat.reduceMul, Nat.reduceLT, Nat.reduceLeDiff, Nat.reduceEqDiff, Int.reduceLT, Int.reduceLE, Int.reduceAdd, Int.reduceSub, Int.reduceMul, Int.reduceNeg, Int.reduceToNat, Int.reduceEq, Int.reduceNe, reduceIte, reduceCtorEq, BitVec.reduceOfInt, BitVec.reduceToNat]; try simp only [top_out])
    refine open_u (M.length + 5) 0 _ _ (M.length + 6) 0 _ _ (M.length + 7) 0 _ _ (M.length + 8) 0 _ _ key nonce ad (sealL key nonce ad text) _ _ (BAt.row (z := y0) (ty := u0) (by rw [get_app]; rfl)) rfl (by omega) (by omega) (BAt.row (z := y1) (ty := u1) (by rw [get_app]; rfl)) rfl
      (BAt.row (z := y2) (ty := u2) (by rw [get_app]; rfl)) rfl (by omega) (BAt.row (z := y3) (ty := u3) (by rw [get_app]; rfl)) rfl (by omega) (by omega) fun y4 u4 => ?_
    rw [hO, q1]
    (refine top_in ?_; simp -implicitDefEqProofs only [go_sem, -List.reduceReplicate, ↓L_gdZ_tt, ↓L_gdZ_tf, ↓L_gdZ_ft, ↓L_gdZ_ff, ↓T_and, ↓T_imp, ↓T_all, Nat.reduceBEq, Nat.reduceAdd, Nat.reduceSub, Nat.reduceMul, Nat.reduceLT, Nat.reduceLeDiff, Nat.reduceEqDiff, Int.reduceLT, Int.reduceLE, Int.reduceAdd, Int.reduceSub, Int.reduceMul, Int.reduceNeg, Int.reduceToNat, Int.reduceEq, Int.reduceNe, reduceIte, reduceCtorEq, BitVec.reduceOfInt, BitVec.reduceToNat]; try simp only [top_out])
    refine same_ok2 (M.length + 9) 0 _ n3 0 _ _ _ text text _ _ (BAt.row (z := y4) (ty := u4) (by rw [get_app]; rfl)) h3.app (by omega) (by omega) rfl rfl ?_
    rw [beq_self_eq_true]
    (refine top_in ?_; simp -implicitDefEqProofs only [go_sem, -List.reduceReplicate, ↓L_gdZ_tt, ↓L_gdZ_tf, ↓L_gdZ_ft, ↓L_gdZ_ff, ↓T_and, ↓T_imp, ↓T_all, Nat.reduceBEq, Nat.reduceAdd, Nat.reduceSub, Nat.reduceMul, Nat.reduceLT, Nat.reduceLeDiff, Nat.reduceEqDiff, Int.reduceLT, Int.reduceLE, Int.reduceAdd, Int.reduceSub, Int.reduceMul, Int.reduceNeg, Int.reduceToNat, Int.reduceEq, Int.reduceNe, reduceIte, reduceCtorEq, BitVec.reduceOfInt, BitVec.reduceToNat]; try simp only [top_out])
    refine dropC_append hM rfl ?_
    rw [hL]
    rw [w64 (by omega) (by omega)]
    simp
  · have hU : sealU key nonce ad text = [] := if_neg he
    have hne : (sealE key nonce ad text != 0) = true := by simpa using he
    have hcond : ¬ (key.length = 32 ∧ nonce.length = 12 ∧ ad.length ≤ 65536 ∧ text.length ≤ 65536) := fun h => he (sealE_ok h.1 h.2.1 h.2.2.1 h.2.2.2)
    rw [hU]
    (refine top_in ?_; simp -implicitDefEqProofs only [go_sem, -List.reduceReplicate, ↓L_gdZ_tt, ↓L_gdZ_tf, ↓L_gdZ_ft, ↓L_gdZ_ff, ↓T_and, ↓T_imp, ↓T_all, Nat.reduceBEq, Nat.reduceAdd, Nat.reduceSub, Nat.reduceMul, Nat.reduceLT, Nat.reduceLeDiff, Nat.reduceEqDiff, Int.reduceLT, Int.reduceLE, Int.reduceAdd, Int.reduceSub, Int.reduceMul, Int.reduceNeg, Int.reduceToNat, Int.reduceEq, Int.reduceNe, reduceIte, reduceCtorEq, BitVec.reduceOfInt, BitVec.reduceToNat, hne]; try simp only [top_out])
    refine ⟨fun a => ⟨fun b => ⟨fun c => dropC_append hM rfl ?_, fun _ => dropC_append hM rfl rfl⟩, fun _ => dropC_append hM rfl rfl⟩, fun _ => dropC_append hM rfl rfl⟩
    have b12 : nonce.length = 12 := by have := bneF b; omega
    have hd : 65536 < text.length := by
      have := beqIN' a
      omega
    show SV.b _ = SV.b true
    congr 1
    simp
    omega

set_option maxHeartbeats 2000000 in
theorem law_gcmOneForm (n0 c0 n1 c1 n2 c2 n3 c3 : Nat) (key nonce ad s : List (BitVec 8)) (M : List Blk) (h0 : BAt M n0 0 key) (h1 : BAt M n1 0 nonce) (h2 : BAt M n2 0 ad) (h3 : BAt M n3 0 s)
    (l0 : key.length ≤ 140737488355000) (l1 : nonce.length ≤ 140737488355000) (l2 : ad.length ≤ 140737488355000) (l3 : s.length ≤ 140737488355000) (k0 : key.length ≤ c0) (k1 : nonce.length ≤ c1) (k2 : ad.length ≤ c2) (k3 : s.length ≤ c3) :
    callVC Try.prog 6 [.sl n0 0 key.length c0, .sl n1 0 nonce.length c1, .sl n2 0 ad.length c2, .sl n3 0 s.length c3] M (fun v _ => v = .b true) := by
  refine fn_rule tabOK Try.func6 rfl Try.call6 (by kernel_rfl) (fun hM => ?_)
  (refine top_in ?_; simp -implicitDefEqProofs only [Try.ntmps6, Try.results6, go_sem, -List.reduceReplicate, ↓L_gdZ_tt, ↓L_gdZ_tf, ↓L_gdZ_ft, ↓L_gdZ_ff, ↓T_and, ↓T_imp, ↓T_all, Nat.reduceBEq, Nat.reduceAdd, Nat.reduceSub, Nat.reduceMul, Nat.reduceLT, Nat.reduceLeDiff, Nat.reduceEqDiff, Int.reduceLT, Int.reduceLE, Int.reduceAdd, Int.reduceSub, Int.reduceMul, Int.reduceNeg, Int.reduceToNat, Int.reduceEq, Int.reduceNe, reduceIte, reduceCtorEq, BitVec.reduceOfInt, BitVec.reduceToNat]; try simp only [top_out])
  refine first5_ok _ _ ?_
  (refine top_in ?_; simp -implicitDefEqProofs only [go_sem, -List.reduceReplicate, ↓L_gdZ_tt, ↓L_gdZ_tf, ↓L_gdZ_ft, ↓L_gdZ_ff, ↓T_and, ↓T_imp, ↓T_all, Nat.reduceBEq, Nat.reduceAdd, Nat.reduceSub, Nat.reduceMul, Nat.reduceLT, Nat.reduceLeDiff, Nat.reduceEqDiff, Int.reduceLT, Int.reduceLE, Int.reduceAdd, Int.reduceSub, Int.reduceMul, Int.reduceNeg, Int.reduceToNat, Int.reduceEq, Int.reduceNe, reduceIte, reduceCtorEq, BitVec.reduceOfInt, BitVec.reduceToNat]; try simp only [top_out])
  refine bytes_ok n0 0 c0 key _ _ h0 (by omega) fun z0 t0 => ?_
  (refine top_in ?_; simp -implicitDefEqProofs only [go_sem, -List.reduceReplicate, ↓L_gdZ_tt, ↓L_gdZ_tf, ↓L_gdZ_ft, ↓L_gdZ_ff, ↓T_and, ↓T_imp, ↓T_all, Nat.reduceBEq, Nat.reduceAdd, Nat.reduceSub, Nat.reduceMul, Nat.reduceLT, Nat.reduceLeDiff, Nat.reduceEqDiff, Int.reduceLT, Int.reduceLE, Int.reduceAdd, Int.reduceSub, Int.reduceMul, Int.reduceNeg, Int.reduceToNat, Int.reduceEq, Int.reduceNe, reduceIte, reduceCtorEq, BitVec.reduceOfInt, BitVec.reduceToNat]; try simp only [top_out])
  refine bytes_ok n1 0 c1 nonce _ _ h1.app (by omega) fun z1 t1 => ?_
  (refine top_in ?_; simp -implicitDefEqProofs only [go_sem, -List.reduceReplicate, ↓L_gdZ_tt, ↓L_gdZ_tf, ↓L_gdZ_ft, ↓L_gdZ_ff, ↓T_and, ↓T_imp, ↓T_all, Nat.reduceBEq, Nat.reduceAdd, Nat.reduceSub, Nat.reduceMul, Nat.reduceLT, Nat.reduceLeDiff, Nat.reduceEqDiff, Int.reduceLT, Int.reduceLE, Int.reduceAdd, Int.reduceSub, Int.reduceMul, Int.reduceNeg, Int.reduceToNat, Int.reduceEq, Int.reduceNe, reduceIte, reduceCtorEq, BitVec.reduceOfInt, BitVec.reduceToNat]; try simp only [top_out])
  refine bytes_ok n2 0 c2 ad _ _ h2.app (by omega) fun z2 t2 => ?_
  (refine top_in ?_; simp -implicitDefEqProofs only [go_sem, -List.reduceReplicate, ↓L_gdZ_tt, ↓L_gdZ_tf, ↓L_gdZ_ft, ↓L_gdZ_ff, ↓T_and, ↓T_imp, ↓T_all, Nat.reduceBEq, Nat.reduceAdd, Nat.reduceSub, Nat.reduceMul, Nat.reduceLT, Nat.reduceLeDiff, Nat.reduceEqDiff, Int.reduceLT, Int.reduceLE, Int.reduceAdd, Int.reduceSub, Int.reduceMul, Int.reduceNeg, Int.reduceToNat, Int.reduceEq, Int.reduceNe, reduceIte, reduceCtorEq, BitVec.reduceOfInt, BitVec.reduceToNat]; try simp only [top_out])
  refine bytes_ok n3 0 c3 s _ _ h3.app (by omega) fun z3 t3 => ?_
  (refine top_in ?_; simp -implicitDefEqProofs only [go_sem, -List.reduceReplicate, ↓L_gdZ_tt, ↓L_gdZ_tf, ↓L_gdZ_ft, ↓L_gdZ_ff, ↓T_and, ↓T_imp, ↓T_all, Nat.reduceBEq, Nat.reduceAdd, Nat.reduceSub, Nat.reduceMul, Nat.reduceLT, Nat.reduceLeDiff, Nat.reduceEqDiff, Int.reduceLT, Int.reduceLE, Int.reduceAdd, Int.reduceSub, Int.reduceMul, Int.reduceNeg, Int.reduceToNat, Int.reduceEq, Int.reduceNe, reduceIte, reduceCtorEq, BitVec.reduceOfInt, BitVec.reduceToNat]; try simp only [top_out])
  refine open_u M.length 0 _ _ (M.length + 1) 0 _ _ (M.length + 2) 0 _ _ (M.length + 3) 0 _ _ key nonce ad s _ _ (BAt.row (z := z0) (ty := t0) (by rw [get_app0]; rfl)) rfl (by omega) (by omega) (BAt.row (z := z1) (ty := t1) (by rw [get_app]; rfl)) rfl
    (BAt.row (z := z2) (ty := t2) (by rw [get_app]; rfl)) rfl (by omega) (BAt.row (z := z3) (ty := t3) (by rw [get_app]; rfl)) rfl (by omega) (by omega) fun z4 t4 => ?_
  have hU := openU_len key nonce ad s
  (refine top_in ?_; simp -implicitDefEqProofs only [go_sem, -List.reduceReplicate, ↓L_gdZ_tt, ↓L_gdZ_tf, ↓L_gdZ_ft, ↓L_gdZ_ff, ↓T_and, ↓T_imp, ↓T_all, Nat.reduceBEq, Nat.reduceAdd, Nat.reduceSub, Nat.reduceMul, Nat.reduceLT, Nat.reduceLeDiff, Nat.reduceEqDiff, Int.reduceLT, Int.reduceLE, Int.reduceAdd, Int.reduceSub, Int.reduceMul, Int.reduceNeg, Int.reduceToNat, Int.reduceEq, Int.reduceNe, reduceIte, reduceCtorEq, BitVec.reduceOfInt, BitVec.reduceToNat]; try simp only [top_out])
  cases hB : openB key nonce ad s with
  | false =>
    have hO : openU key nonce ad s = [] := by unfold openU; rw [hB]; rfl
    rw [hO]
    (refine top_in ?_; simp -implicitDefEqProofs only [go_sem, -List.reduceReplicate, ↓L_gdZ_tt, ↓L_gdZ_tf, ↓L_gdZ_ft, ↓L_gdZ_ff, ↓T_and, ↓T_imp, ↓T_all, Nat.reduceBEq, Nat.reduceAdd, Nat.reduceSub, Nat.reduceMul, Nat.reduceLT, Nat.reduceLeDiff, Nat.reduceEqDiff, Int.reduceLT, Int.reduceLE, Int.reduceAdd, Int.reduceSub, Int.reduceMul, Int.reduceNeg, Int.reduceToNat, Int.reduceEq, Int.reduceNe, reduceIte, reduceCtorEq, BitVec.reduceOfInt, BitVec.reduceToNat]; try simp only [top_out])
    exact dropC_append hM rfl rfl
  | true =>
    have hO : openU key nonce ad s = openL key nonce s := by unfold openU; rw [hB]; rfl
    obtain ⟨q1, q2⟩ := seal_open hB
    have hSU : sealU key nonce ad (openU key nonce ad s) = s := by rw [hO]; unfold sealU; rw [if_pos q1, q2]
    have hSE : sealE key nonce ad (openU key nonce ad s) = 0 := by rw [hO]; exact q1
    (refine top_in ?_; simp -implicitDefEqProofs only [go_sem, -List.reduceReplicate, ↓L_gdZ_tt, ↓L_gdZ_tf, ↓L_gdZ_ft, ↓L_gdZ_ff, ↓T_and, ↓T_imp, ↓T_all, Nat.reduceBEq, Nat.reduceAdd, Nat.reduceSub, Nat.reduceMul, Nat.reduceLT, Nat.reduceLeDiff, Nat.reduceEqDiff, Int.reduceLT, Int.reduceLE, Int.reduceAdd, Int.reduceSub, Int.reduceMul, Int.reduceNeg, Int.reduceToNat, Int.reduceEq, Int.reduceNe, reduceIte, reduceCtorEq, BitVec.reduceOfInt, BitVec.reduceToNat]; try simp only [top_out])
    refine bytes_ok n0 0 c0 key _ _ h0.app (by omega) fun y0 u0 => ?_
    (refine top_in ?_; simp -implicitDefEqProofs only [go_sem, -List.reduceReplicate, ↓L_gdZ_tt, ↓L_gdZ_tf, ↓L_gdZ_ft, ↓L_gdZ_ff, ↓T_and, ↓T_imp, ↓T_all, Nat.reduceBEq, Nat.reduceAdd, Nat.reduceSub, Nat.reduceMul, Nat.reduceLT, Nat.reduceLeDiff, Nat.reduceEqDiff, Int.reduceLT, Int.reduceLE, Int.reduceAdd, Int.reduceSub, Int.reduceMul, Int.reduceNeg, Int.reduceToNat, Int.reduceEq, Int.reduceNe, reduceIte, reduceCtorEq, BitVec.reduceOfInt, BitVec.reduceToNat]; try simp only [top_out])
    refine bytes_ok n1 0 c1 nonce _ _ h1.app (by omega) fun y1 u1 => ?_
    (refine top_in ?_; simp -implicitDefEqProofs only [go_sem, -List.reduceReplicate, ↓L_gdZ_tt, ↓L_gdZ_tf, ↓L_gdZ_ft, ↓L_gdZ_ff, ↓T_and, ↓T_imp, ↓T_all, Nat.reduceBEq, Nat.reduceAdd, Nat.reduceSub, Nat.reduceMul, Nat.reduceLT, Nat.reduceLeDiff, Nat.reduceEqDiff, Int.reduceLT, Int.reduceLE, Int.reduceAdd, Int.reduceSub, Int.reduceMul, Int.reduceNeg, Int.reduceToNat, Int.reduceEq, Int.reduceNe, reduceIte, reduceCtorEq, BitVec.reduceOfInt, BitVec.reduceToNat]; try simp only [top_out])
    refine bytes_ok n2 0 c2 ad _ _ h2.app (by omega) fun y2 u2 => ?_
    (refine top_in ?_; simp -implicitDefEqProofs only [go_sem, -List.reduceReplicate, ↓L_gdZ_tt, ↓L_gdZ_tf, ↓L_gdZ_ft, ↓L_gdZ_ff, ↓T_and, ↓T_imp, ↓T_all, Nat.reduceBEq, Nat.reduceAdd, Nat.reduceSub, Nat.reduceMul, Nat.reduceLT, Nat.reduceLeDiff, Nat.reduceEqDiff, Int.reduceLT, Int.reduceLE, Int.reduceAdd, Int.reduceSub, Int.reduceMul, Int.reduceNeg, Int.reduceToNat, Int.reduceEq, Int.reduceNe, reduceIte, reduceCtorEq, BitVec.reduceOfInt, BitVec.reduceToNat]; try simp only [top_out])
    refine seal_u (M.length + 5) 0 _ _ (M.length + 6) 0 _ _ (M.length + 7) 0 _ _ (M.length + 4) 0 _ _ key nonce ad (openU key nonce ad s) _ _ (BAt.row (z := y0) (ty := u0) (by rw [get_app]; rfl)) rfl (by omega) (by omega) (BAt.row (z := y1) (ty := u1) (by rw [get_app]; rfl)) rfl
      (BAt.row (z := y2) (ty := u2) (by rw [get_app]; rfl)) rfl (by omega) (BAt.row (z := z4) (ty := t4) (by rw [get_app]; rfl)) rfl (by omega) fun y4 u4 => ?_
    rw [hSU, hSE]
    (refine top_in ?_; simp -implicitDefEqProofs only [go_sem, -List.reduceReplicate, ↓L_gdZ_tt, ↓L_gdZ_tf, ↓L_gdZ_ft, ↓L_gdZ_ff, ↓T_and, ↓T_imp, ↓T_all, Nat.reduceBEq, Nat.reduceAdd, Nat.reduceSub, Nat.reduceMul, Nat.reduceLT, Nat.reduceLeDiff, Nat.reduceEqDiff, Int.reduceLT, Int.reduceLE, Int.reduceAdd, Int.reduceSub, Int.reduceMul, Int.reduceNeg, Int.reduceToNat, Int.reduceEq, Int.reduceNe, reduceIte, reduceCtorEq, BitVec.reduceOfInt, BitVec.reduceToNat]; try simp only [top_out])
    refine same_ok2 (M.length + 8) 0 _ n3 0 _ _ _ s s _ _ (BAt.row (z := y4) (ty := u4) (by rw [get_app]; rfl)) h3.app (by omega) (by omega) rfl rfl ?_
    rw [beq_self_eq_true]
    (refine top_in ?_; simp -implicitDefEqProofs only [go_sem, -List.reduceReplicate, ↓L_gdZ_tt, ↓L_gdZ_tf, ↓L_gdZ_ft, ↓L_gdZ_ff, ↓T_and, ↓T_imp, ↓T_all, Nat.reduceBEq, Nat.reduceAdd, Nat.reduceSub, Nat.reduceMul, Nat.reduceLT, Nat.reduceLeDiff, Nat.reduceEqDiff, Int.reduceLT, Int.reduceLE, Int.reduceAdd, Int.reduceSub, Int.reduceMul, Int.reduceNeg, Int.reduceToNat, Int.reduceEq, Int.reduceNe, reduceIte, reduceCtorEq, BitVec.reduceOfInt, BitVec.reduceToNat]; try simp only [top_out])
    refine num5_ok _ _ _ ?_
    (refine top_in ?_; simp -implicitDefEqProofs only [go_sem, -List.reduceReplicate, ↓L_gdZ_tt, ↓L_gdZ_tf, ↓L_gdZ_ft, ↓L_gdZ_ff, ↓T_and, ↓T_imp, ↓T_all, Nat.reduceBEq, Nat.reduceAdd, Nat.reduceSub, Nat.reduceMul, Nat.reduceLT, Nat.reduceLeDiff, Nat.reduceEqDiff, Int.reduceLT, Int.reduceLE, Int.reduceAdd, Int.reduceSub, Int.reduceMul, Int.reduceNeg, Int.reduceToNat, Int.reduceEq, Int.reduceNe, reduceIte, reduceCtorEq, BitVec.reduceOfInt, BitVec.reduceToNat]; try simp only [top_out])
    exact dropC_append hM rfl rfl

def turnX (x : BitVec 8) (text : List (BitVec 8)) : List (BitVec 8) := gl text.length fun i => text.getD i 0#8 ^^^ x ^^^ BitVec.ofNat 8 i
theorem turnX_len (x : BitVec 8) (text : List (BitVec 8)) : (turnX x text).length = text.length := gl_len
theorem seal_getD {key nonce ad text : List (BitVec 8)} {j : Nat} (hj : j < text.length) : (sealL key nonce ad text).getD j 0#8 = text.getD j 0#8 ^^^ ((encE key) (ctrL nonce (BitVec.ofNat 32 (2 + j / 16)))).getD (j % 16) 0#8 := by
  unfold sealL
  rw [List.getD_eq_getElem?_getD, List.getElem?_append_left (by rw [cryL_len]; exact hj), ← List.getD_eq_getElem?_getD]
  unfold cryL
  rw [gl_getD hj]
theorem xor_mid (a b c : BitVec 8) : (a ^^^ c) ^^^ (b ^^^ c) = a ^^^ b := by
  rw [BitVec.xor_comm b c, BitVec.xor_assoc, ← BitVec.xor_assoc c c, BitVec.xor_self, BitVec.zero_xor]
set_option maxRecDepth 20000 in
set_option maxHeartbeats 4000000 in
theorem law_gcmStreams (n0 c0 n1 c1 n2 c2 n3 c3 n4 c4 : Nat) (key nonce ad other text : List (BitVec 8)) (x : BitVec 8) (M : List Blk) (h0 : BAt M n0 0 key) (h1 : BAt M n1 0 nonce) (h2 : BAt M n2 0 ad) (h3 : BAt M n3 0 other) (h4 : BAt M n4 0 text)
    (l0 : key.length ≤ 140737488355000) (l1 : nonce.length ≤ 140737488355000) (l2 : ad.length ≤ 140737488355000) (l3 : other.length ≤ 140737488355000) (l4 : text.length ≤ 140737488355000) (k0 : key.length ≤ c0) (k1 : nonce.length ≤ c1) (k2 : ad.length ≤ c2) (k3 : other.length ≤ c3) (k4 : text.length ≤ c4) :
    callVC Try.prog 7 [.sl n0 0 key.length c0, .sl n1 0 nonce.length c1, .sl n2 0 ad.length c2, .sl n3 0 other.length c3, .sl n4 0 text.length c4, .u8 x] M (fun v _ => v = .b true) := by
  by_cases hgo : key.length = 32 ∧ nonce.length = 12 ∧ ad.length ≤ 2000 ∧ other.length ≤ 2000 ∧ text.length ≤ 2000
  · obtain ⟨g1, g2, g3, g4, g5⟩ := hgo
    have b1 : ((key.length : Int) != 32) = false := beqIN g1
    have b2 : ((nonce.length : Int) != 12) = false := by rw [g2]; rfl
    have b3 : (2000 < (ad.length : Int)) = False := by simp; omega
    have b4 : (2000 < (other.length : Int)) = False := by simp; omega
    have b5 : (2000 < (text.length : Int)) = False := by simp; omega
    refine fn_rule tabOK Try.func7 rfl Try.call7 (by kernel_rfl) (fun hM => ?_)
    (refine top_in ?_; simp -implicitDefEqProofs only [Try.ntmps7, Try.results7, go_sem, -List.reduceReplicate, ↓L_gdZ_tt, ↓L_gdZ_tf, ↓L_gdZ_ft, ↓L_gdZ_ff, ↓T_and, ↓T_imp, ↓T_all, Nat.reduceBEq, Nat.reduceAdd, Nat.reduceSub, Nat.reduceMul, Nat.reduceLT, Nat.reduceLeDiff, Nat.reduceEqDiff, Int.reduceLT, Int.reduceLE, Int.reduceAdd, Int.reduceSub, Int.reduceMul, Int.reduceNeg, Int.reduceToNat, Int.reduceEq, Int.reduceNe, reduceIte, reduceCtorEq, BitVec.reduceOfInt, BitVec.reduceToNat, b1, b2, b3, b4, b5]; try simp only [top_out])
    refine first5_ok _ _ ?_
    (refine top_in ?_; simp -implicitDefEqProofs only [go_sem, -List.reduceReplicate, ↓L_gdZ_tt, ↓L_gdZ_tf, ↓L_gdZ_ft, ↓L_gdZ_ff, ↓T_and, ↓T_imp, ↓T_all, Nat.reduceBEq, Nat.reduceAdd, Nat.reduceSub, Nat.reduceMul, Nat.reduceLT, Nat.reduceLeDiff, Nat.reduceEqDiff, Int.reduceLT, Int.reduceLE, Int.reduceAdd, Int.reduceSub, Int.reduceMul, Int.reduceNeg, Int.reduceToNat, Int.reduceEq, Int.reduceNe, reduceIte, reduceCtorEq, BitVec.reduceOfInt, BitVec.reduceToNat, b1, b2, b3, b4, b5]; try simp only [top_out])
    refine loop_gc tabOK (by kernel_rfl) (fun m ts M' => ∃ (k : Nat) (z : List (BitVec 8)) (ty : TypeId), k + m = text.length ∧ M' = M ++ [.row (bS ((turnX x text).take k ++ z)) ty] ∧ frC (some (.sl n0 0 key.length c0) :: some (.sl n1 0 nonce.length c1) :: some (.sl n2 0 ad.length c2) :: some (.sl n3 0 other.length c3) :: some (.sl n4 0 text.length c4) :: some (.u8 x) :: none :: none :: none :: none :: none :: none :: none :: some (.b true) :: some (.sl M.length 0 k (k + z.length)) :: some (.i .i64 k) :: none :: none :: none :: none :: none :: none :: none :: none :: none :: none :: none :: none :: none :: none :: none :: none :: none :: none :: none :: none :: none :: none :: none :: none :: none :: none :: none :: none :: none :: none :: none :: none :: none :: none :: none :: none :: none :: none :: none :: none :: none :: none :: none :: none :: none :: none :: none :: none :: none :: none :: none :: none :: none :: none :: none :: none :: none :: none :: none :: none :: none :: none :: none :: none :: none :: none :: none :: none :: none :: none :: none :: none :: none :: none :: none :: none :: none :: none :: none :: none :: none :: none :: none :: none :: none :: none :: none :: none :: none :: none :: none :: none :: none :: none :: none :: none :: none :: none :: none :: none :: none :: none :: none :: none :: none :: none :: none :: none :: none :: none :: none :: none :: none :: none :: none :: none :: []) ts) text.length ?_ ?_
    · refine covF_gc0 hM [none] (some (.sl n0 0 key.length c0) :: some (.sl n1 0 nonce.length c1) :: some (.sl n2 0 ad.length c2) :: some (.sl n3 0 other.length c3) :: some (.sl n4 0 text.length c4) :: some (.u8 x) :: none :: none :: none :: none :: none :: none :: none :: some (.b true) :: some (.sl M.length 0 0 0) :: some (.i .i64 0) :: none :: none :: none :: none :: none :: none :: none :: none :: none :: none :: none :: none :: none :: none :: none :: none :: none :: none :: none :: none :: none :: none :: none :: none :: none :: none :: none :: none :: none :: none :: none :: none :: none :: none :: none :: none :: none :: none :: none :: none :: none :: none :: none :: none :: none :: none :: none :: none :: none :: none :: none :: none :: none :: none :: none :: none :: none :: none :: none :: none :: none :: none :: none :: none :: none :: none :: none :: none :: none :: none :: none :: none :: none :: none :: none :: none :: none :: none :: none :: none :: none :: none :: none :: none :: none :: none :: none :: none :: none :: none :: none :: none :: none :: none :: none :: none :: none :: none :: none :: none :: none :: none :: none :: none :: none :: none :: none :: none :: none :: none :: none :: none :: none :: none :: none :: none :: []) [.row (bS []) 0] rfl ⟨rfl, trivial⟩ rfl ?_ ?_ (fun ts' h => ⟨0, [], 0, by omega, rfl, by simpa using h⟩)
      · simp only [Int.natCast_add, cast_lit, Nat.add_assoc, rnSl_n, frRn_nil, frRn_s, frRn_n, frLt_nil, frLt_s, frLt_n, rn_i, rn_u8, rn_u32, rn_u64, rn_b, rn_str, rn_sn, rn_pn, rn_agg, rn_tup, rnL_nil, rnL_cons, rn_bS, rn_nil, rn_sl_at, rn_sl_at0, rn_p_at, rn_p_at0, rnSl_s, rnP_s, lt_i, lt_u8, lt_u32, lt_u64, lt_b, lt_sl, lt_p, lt_agg, lt_tup, ltL_nil', ltL_cons, bS_lt, List.getElem?_cons_succ, List.getElem?_cons_zero, Option.join_some, Nat.add_zero, Nat.zero_add, implies_true, and_self, and_true, true_and, Bool.and_true, Bool.true_and, Bool.and_self, List.length_cons, List.length_nil, List.length_append, decide_eq_true_eq, Bool.and_eq_true, rn_sl h0.lt, rn_sl h1.lt, rn_sl h2.lt, rn_sl h3.lt, rn_sl h4.lt]
      · have := h0.lt; have := h1.lt; have := h2.lt; have := h3.lt; have := h4.lt
        simp only [Int.natCast_add, cast_lit, Nat.add_assoc, rnSl_n, frRn_nil, frRn_s, frRn_n, frLt_nil, frLt_s, frLt_n, rn_i, rn_u8, rn_u32, rn_u64, rn_b, rn_str, rn_sn, rn_pn, rn_agg, rn_tup, rnL_nil, rnL_cons, rn_bS, rn_nil, rn_sl_at, rn_sl_at0, rn_p_at, rn_p_at0, rnSl_s, rnP_s, lt_i, lt_u8, lt_u32, lt_u64, lt_b, lt_sl, lt_p, lt_agg, lt_tup, ltL_nil', ltL_cons, bS_lt, List.getElem?_cons_succ, List.getElem?_cons_zero, Option.join_some, Nat.add_zero, Nat.zero_add, implies_true, and_self, and_true, true_and, Bool.and_true, Bool.true_and, Bool.and_self, List.length_cons, List.length_nil, List.length_append, decide_eq_true_eq, Bool.and_eq_true]; omega
    · rintro m ts _ ⟨k, z, ty, hk, rfl, hf⟩
      have hl := turnX_len x text
      by_cases hkn : k < text.length
      · have hp : ((k : Int) < (text.length : Int)) = True := by simp; omega
        have htk : ((turnX x text).take k).length = k := by rw [List.length_take]; omega
        have hg : text.getD k 0#8 ^^^ x ^^^ BitVec.ofInt 8 (k : Int) = (turnX x text).getD k 0#8 := by unfold turnX; rw [gl_getD hkn, BitVec.ofInt_natCast]
        have e8 := h4.is8 hkn
        have f8 := h4.cell8 hkn
        rw [Nat.zero_add] at e8 f8
        have hle := h4.le (j := k + 1) (by omega)
        obtain ⟨f, rfl⟩ := frC_open _ _ 0 hf
        clear hf
        (refine top_in ?_; simp -implicitDefEqProofs only [go_sem, -List.reduceReplicate, ↓L_gdZ_tt, ↓L_gdZ_tf, ↓L_gdZ_ft, ↓L_gdZ_ff, ↓T_and, ↓T_imp, ↓T_all, Nat.reduceBEq, Nat.reduceAdd, Nat.reduceSub, Nat.reduceMul, Nat.reduceLT, Nat.reduceLeDiff, Nat.reduceEqDiff, Int.reduceLT, Int.reduceLE, Int.reduceAdd, Int.reduceSub, Int.reduceMul, Int.reduceNeg, Int.reduceToNat, Int.reduceEq, Int.reduceNe, reduceIte, reduceCtorEq, BitVec.reduceOfInt, BitVec.reduceToNat, hp, get_lt h4.lt, e8, f8, hg]; try simp only [top_out])
        repeat (with_reducible refine And.intro (by omega) ?_)
        refine app8 M.length ((turnX x text).take k) z [(turnX x text).getD k 0#8] ty rfl rfl rfl (by rw [get_app0]; rfl) htk.symm (by omega) (src_u8 (by rw [get_app]; rfl)) (by simp; omega) ?_
        intro z' ty'
        rw [← take_snoc (by omega), htk]
        (refine top_in ?_; simp -implicitDefEqProofs only [go_sem, -List.reduceReplicate, ↓L_gdZ_tt, ↓L_gdZ_tf, ↓L_gdZ_ft, ↓L_gdZ_ff, ↓T_and, ↓T_imp, ↓T_all, Nat.reduceBEq, Nat.reduceAdd, Nat.reduceSub, Nat.reduceMul, Nat.reduceLT, Nat.reduceLeDiff, Nat.reduceEqDiff, Int.reduceLT, Int.reduceLE, Int.reduceAdd, Int.reduceSub, Int.reduceMul, Int.reduceNeg, Int.reduceToNat, Int.reduceEq, Int.reduceNe, reduceIte, reduceCtorEq, BitVec.reduceOfInt, BitVec.reduceToNat]; try simp only [top_out])
        rw [w64 (x := (k : Int) + 1) (by omega) (by omega)]
        refine covF_gc hM [some 2] (some (.sl n0 0 key.length c0) :: some (.sl n1 0 nonce.length c1) :: some (.sl n2 0 ad.length c2) :: some (.sl n3 0 other.length c3) :: some (.sl n4 0 text.length c4) :: some (.u8 x) :: none :: none :: none :: none :: none :: none :: none :: some (.b true) :: some (.sl M.length 0 (k + 1) (k + 1 + z'.length)) :: some (.i .i64 (k + 1 : Nat)) :: none :: none :: none :: none :: none :: none :: none :: none :: none :: none :: none :: none :: none :: none :: none :: none :: none :: none :: none :: none :: none :: none :: none :: none :: none :: none :: none :: none :: none :: none :: none :: none :: none :: none :: none :: none :: none :: none :: none :: none :: none :: none :: none :: none :: none :: none :: none :: none :: none :: none :: none :: none :: none :: none :: none :: none :: none :: none :: none :: none :: none :: none :: none :: none :: none :: none :: none :: none :: none :: none :: none :: none :: none :: none :: none :: none :: none :: none :: none :: none :: none :: none :: none :: none :: none :: none :: none :: none :: none :: none :: none :: none :: none :: none :: none :: none :: none :: none :: none :: none :: none :: none :: none :: none :: none :: none :: none :: none :: none :: none :: none :: none :: none :: none :: none :: none :: []) [.row (bS ((turnX x text).take (k + 1) ++ z')) ty'] rfl ⟨keep8 rfl, trivial⟩ (by simp [lt_row]) ?_ ?_ (fun ts' h => ⟨m - 1, by omega, k + 1, z', ty', by omega, rfl, h⟩)
        · simp only [Int.natCast_add, cast_lit, Nat.add_assoc, rnSl_n, frRn_nil, frRn_s, frRn_n, frLt_nil, frLt_s, frLt_n, rn_i, rn_u8, rn_u32, rn_u64, rn_b, rn_str, rn_sn, rn_pn, rn_agg, rn_tup, rnL_nil, rnL_cons, rn_bS, rn_nil, rn_sl_at, rn_sl_at0, rn_p_at, rn_p_at0, rnSl_s, rnP_s, lt_i, lt_u8, lt_u32, lt_u64, lt_b, lt_sl, lt_p, lt_agg, lt_tup, ltL_nil', ltL_cons, bS_lt, List.getElem?_cons_succ, List.getElem?_cons_zero, Option.join_some, Nat.add_zero, Nat.zero_add, implies_true, and_self, and_true, true_and, Bool.and_true, Bool.true_and, Bool.and_self, List.length_cons, List.length_nil, List.length_append, decide_eq_true_eq, Bool.and_eq_true, rn_sl h0.lt, rn_sl h1.lt, rn_sl h2.lt, rn_sl h3.lt, rn_sl h4.lt]
        · have := h0.lt; have := h1.lt; have := h2.lt; have := h3.lt; have := h4.lt
          simp only [Int.natCast_add, cast_lit, Nat.add_assoc, rnSl_n, frRn_nil, frRn_s, frRn_n, frLt_nil, frLt_s, frLt_n, rn_i, rn_u8, rn_u32, rn_u64, rn_b, rn_str, rn_sn, rn_pn, rn_agg, rn_tup, rnL_nil, rnL_cons, rn_bS, rn_nil, rn_sl_at, rn_sl_at0, rn_p_at, rn_p_at0, rnSl_s, rnP_s, lt_i, lt_u8, lt_u32, lt_u64, lt_b, lt_sl, lt_p, lt_agg, lt_tup, ltL_nil', ltL_cons, bS_lt, List.getElem?_cons_succ, List.getElem?_cons_zero, Option.join_some, Nat.add_zero, Nat.zero_add, implies_true, and_self, and_true, true_and, Bool.and_true, Bool.true_and, Bool.and_self, List.length_cons, List.length_nil, List.length_append, decide_eq_true_eq, Bool.and_eq_true]; omega
      · obtain rfl : k = text.length := by omega
        have hp : ((text.length : Int) < (text.length : Int)) = False := by simp
        obtain ⟨f, rfl⟩ := frC_open _ _ 0 hf
        clear hf
        (refine top_in ?_; simp -implicitDefEqProofs only [go_sem, -List.reduceReplicate, ↓L_gdZ_tt, ↓L_gdZ_tf, ↓L_gdZ_ft, ↓L_gdZ_ff, ↓T_and, ↓T_imp, ↓T_all, Nat.reduceBEq, Nat.reduceAdd, Nat.reduceSub, Nat.reduceMul, Nat.reduceLT, Nat.reduceLeDiff, Nat.reduceEqDiff, Int.reduceLT, Int.reduceLE, Int.reduceAdd, Int.reduceSub, Int.reduceMul, Int.reduceNeg, Int.reduceToNat, Int.reduceEq, Int.reduceNe, reduceIte, reduceCtorEq, BitVec.reduceOfInt, BitVec.reduceToNat, hp]; try simp only [top_out])
        rw [List.take_of_length_le (by omega)]
        have s1 : sealE key nonce ad text = 0 := sealE_ok g1 g2 (by omega) (by omega)
        have s2 : sealE key nonce other (turnX x text) = 0 := sealE_ok g1 g2 (by omega) (by omega)
        have u1 : sealU key nonce ad text = sealL key nonce ad text := if_pos s1
        have u2 : sealU key nonce other (turnX x text) = sealL key nonce other (turnX x text) := if_pos s2
        have v1 := sealL_len key nonce ad text
        have v2 := sealL_len key nonce other (turnX x text)
        rw [hl] at v2
        refine seal_u n0 0 _ c0 n1 0 _ c1 n2 0 _ c2 n4 0 _ c4 key nonce ad text _ _ h0.app rfl k0 l0 h1.app rfl h2.app rfl k2 h4.app rfl k4 fun z1 t1 => ?_
        rw [s1, u1, v1]
        (refine top_in ?_; simp -implicitDefEqProofs only [go_sem, -List.reduceReplicate, ↓L_gdZ_tt, ↓L_gdZ_tf, ↓L_gdZ_ft, ↓L_gdZ_ff, ↓T_and, ↓T_imp, ↓T_all, Nat.reduceBEq, Nat.reduceAdd, Nat.reduceSub, Nat.reduceMul, Nat.reduceLT, Nat.reduceLeDiff, Nat.reduceEqDiff, Int.reduceLT, Int.reduceLE, Int.reduceAdd, Int.reduceSub, Int.reduceMul, Int.reduceNeg, Int.reduceToNat, Int.reduceEq, Int.reduceNe, reduceIte, reduceCtorEq, BitVec.reduceOfInt, BitVec.reduceToNat]; try simp only [top_out])
        refine seal_u n0 0 _ c0 n1 0 _ c1 n3 0 _ c3 M.length 0 text.length (text.length + z.length) key nonce other (turnX x text) _ _ h0.app rfl k0 l0 h1.app rfl h3.app rfl k3 (BAt.row (z := z) (ty := ty) (by rw [get_app0]; rfl)) hl.symm (by omega) fun z2 t2 => ?_
        rw [s2, u2, v2]
        (refine top_in ?_; simp -implicitDefEqProofs only [go_sem, -List.reduceReplicate, ↓L_gdZ_tt, ↓L_gdZ_tf, ↓L_gdZ_ft, ↓L_gdZ_ff, ↓T_and, ↓T_imp, ↓T_all, Nat.reduceBEq, Nat.reduceAdd, Nat.reduceSub, Nat.reduceMul, Nat.reduceLT, Nat.reduceLeDiff, Nat.reduceEqDiff, Int.reduceLT, Int.reduceLE, Int.reduceAdd, Int.reduceSub, Int.reduceMul, Int.reduceNeg, Int.reduceToNat, Int.reduceEq, Int.reduceNe, reduceIte, reduceCtorEq, BitVec.reduceOfInt, BitVec.reduceToNat]; try simp only [top_out])
        have w16 : IntKind.i64.wrap ((text.length : Int) + 16) = ((text.length + 16 : Nat) : Int) := by rw [w64 (by omega) (by omega)]; omega
        refine num5_ok _ _ _ ?_
        (refine top_in ?_; simp -implicitDefEqProofs only [go_sem, -List.reduceReplicate, ↓L_gdZ_tt, ↓L_gdZ_tf, ↓L_gdZ_ft, ↓L_gdZ_ff, ↓T_and, ↓T_imp, ↓T_all, Nat.reduceBEq, Nat.reduceAdd, Nat.reduceSub, Nat.reduceMul, Nat.reduceLT, Nat.reduceLeDiff, Nat.reduceEqDiff, Int.reduceLT, Int.reduceLE, Int.reduceAdd, Int.reduceSub, Int.reduceMul, Int.reduceNeg, Int.reduceToNat, Int.reduceEq, Int.reduceNe, reduceIte, reduceCtorEq, BitVec.reduceOfInt, BitVec.reduceToNat, q00, w16, bneNe]; try simp only [top_out])
        refine num5_ok _ _ _ ?_
        (refine top_in ?_; simp -implicitDefEqProofs only [go_sem, -List.reduceReplicate, ↓L_gdZ_tt, ↓L_gdZ_tf, ↓L_gdZ_ft, ↓L_gdZ_ff, ↓T_and, ↓T_imp, ↓T_all, Nat.reduceBEq, Nat.reduceAdd, Nat.reduceSub, Nat.reduceMul, Nat.reduceLT, Nat.reduceLeDiff, Nat.reduceEqDiff, Int.reduceLT, Int.reduceLE, Int.reduceAdd, Int.reduceSub, Int.reduceMul, Int.reduceNeg, Int.reduceToNat, Int.reduceEq, Int.reduceNe, reduceIte, reduceCtorEq, BitVec.reduceOfInt, BitVec.reduceToNat, q00, w16, bneNe]; try simp only [top_out])
        refine loop_code tabOK (by kernel_rfl) (fun m ts M' => ∃ k : Nat, k + m = text.length ∧ frC (none :: none :: none :: none :: some (.sl n4 0 text.length c4) :: none :: none :: none :: none :: none :: none :: none :: none :: none :: some (.sl M.length 0 text.length (text.length + z.length)) :: none :: some (.sl (M.length + 1) 0 (text.length + 16) (text.length + 16 + z1.length)) :: none :: some (.sl (M.length + 2) 0 (text.length + 16) (text.length + 16 + z2.length)) :: none :: some (.i .i64 k) :: none :: none :: none :: none :: none :: none :: none :: none :: none :: none :: none :: none :: none :: none :: none :: none :: none :: none :: none :: none :: none :: none :: none :: none :: none :: none :: none :: none :: none :: none :: none :: none :: none :: none :: none :: none :: none :: none :: none :: none :: none :: none :: none :: none :: none :: none :: none :: none :: none :: none :: none :: none :: none :: none :: none :: none :: none :: none :: none :: none :: none :: none :: none :: none :: none :: none :: none :: none :: none :: none :: none :: none :: none :: none :: none :: none :: none :: none :: none :: none :: none :: none :: none :: none :: none :: none :: none :: none :: none :: none :: none :: none :: none :: none :: none :: none :: none :: none :: none :: none :: none :: none :: none :: none :: none :: none :: none :: none :: none :: none :: none :: []) ts ∧
          M' = M ++ [.row (bS (turnX x text ++ z)) ty, .row (bS (sealL key nonce ad text ++ z1)) t1, .row (bS (sealL key nonce other (turnX x text) ++ z2)) t2]) text.length ?_ ?_
        · exact ⟨0, by omega, by simp [frC, Nat.add_assoc], rfl⟩
        · rintro m ts _ ⟨k, hk, hf, rfl⟩
          by_cases hkn : k < text.length
          · have hp : ((k : Int) < (text.length : Int)) = True := by simp; omega
            have e8 := h4.is8 hkn
            have f8 := h4.cell8 hkn
            rw [Nat.zero_add] at e8 f8
            have hle := h4.le (j := k + 1) (by omega)
            have g1 : (sealL key nonce ad text ++ z1).getD k 0#8 = (sealL key nonce ad text).getD k 0#8 := by
              rw [List.getD_eq_getElem?_getD, List.getElem?_append_left (by omega), ← List.getD_eq_getElem?_getD]
            have g2 : (sealL key nonce other (turnX x text) ++ z2).getD k 0#8 = (sealL key nonce other (turnX x text)).getD k 0#8 := by
              rw [List.getD_eq_getElem?_getD, List.getElem?_append_left (by omega), ← List.getD_eq_getElem?_getD]
            have g3 : (turnX x text ++ z).getD k 0#8 = (turnX x text).getD k 0#8 := by
              rw [List.getD_eq_getElem?_getD, List.getElem?_append_left (by omega), ← List.getD_eq_getElem?_getD]
            have fact : ((sealL key nonce ad text).getD k 0#8 ^^^ (sealL key nonce other (turnX x text)).getD k 0#8 != text.getD k 0#8 ^^^ (turnX x text).getD k 0#8) = false := by
              rw [seal_getD hkn, seal_getD (by omega), xor_mid]
              simp
            obtain ⟨f, rfl⟩ := frC_open _ _ 0 hf
            clear hf
            (refine top_in ?_; simp -implicitDefEqProofs only [go_sem, -List.reduceReplicate, ↓L_gdZ_tt, ↓L_gdZ_tf, ↓L_gdZ_ft, ↓L_gdZ_ff, ↓T_and, ↓T_imp, ↓T_all, Nat.reduceBEq, Nat.reduceAdd, Nat.reduceSub, Nat.reduceMul, Nat.reduceLT, Nat.reduceLeDiff, Nat.reduceEqDiff, Int.reduceLT, Int.reduceLE, Int.reduceAdd, Int.reduceSub, Int.reduceMul, Int.reduceNeg, Int.reduceToNat, Int.reduceEq, Int.reduceNe, reduceIte, reduceCtorEq, BitVec.reduceOfInt, BitVec.reduceToNat, hp, get_lt h4.lt]; try simp only [top_out])
            refine draw_rule tabOK (by kernel_rfl : _) (.p 0 (.p 1 (.p 2 (.p 3 (.p 4 (.p 5 (.p 6 (.p 7 (.p 8 (.p 9 (.p 10 (.p 11 (.p 12 (.p 13 (.p 14 (.p 15 (.p 16 (.p 17 (.p 18 .nil))))))))))))))))))) (by kernel_rfl) (by kernel_rfl) ?_
            (refine top_in ?_; simp -implicitDefEqProofs only [go_sem, -List.reduceReplicate, ↓L_gdZ_tt, ↓L_gdZ_tf, ↓L_gdZ_ft, ↓L_gdZ_ff, ↓T_and, ↓T_imp, ↓T_all, Nat.reduceBEq, Nat.reduceAdd, Nat.reduceSub, Nat.reduceMul, Nat.reduceLT, Nat.reduceLeDiff, Nat.reduceEqDiff, Int.reduceLT, Int.reduceLE, Int.reduceAdd, Int.reduceSub, Int.reduceMul, Int.reduceNeg, Int.reduceToNat, Int.reduceEq, Int.reduceNe, reduceIte, reduceCtorEq, BitVec.reduceOfInt, BitVec.reduceToNat, hp, get_lt h4.lt, e8, f8, v1, v2, hl, g1, g2, g3, fact]; try simp only [top_out])
            repeat (with_reducible refine And.intro (by omega) ?_)
            exact ⟨m - 1, by omega, k + 1, by omega, w64 (by omega) (by omega)⟩
          · obtain rfl : k = text.length := by omega
            have hp : ((text.length : Int) < (text.length : Int)) = False := by simp
            obtain ⟨f, rfl⟩ := frC_open _ _ 0 hf
            clear hf
            (refine top_in ?_; simp -implicitDefEqProofs only [go_sem, -List.reduceReplicate, ↓L_gdZ_tt, ↓L_gdZ_tf, ↓L_gdZ_ft, ↓L_gdZ_ff, ↓T_and, ↓T_imp, ↓T_all, Nat.reduceBEq, Nat.reduceAdd, Nat.reduceSub, Nat.reduceMul, Nat.reduceLT, Nat.reduceLeDiff, Nat.reduceEqDiff, Int.reduceLT, Int.reduceLE, Int.reduceAdd, Int.reduceSub, Int.reduceMul, Int.reduceNeg, Int.reduceToNat, Int.reduceEq, Int.reduceNe, reduceIte, reduceCtorEq, BitVec.reduceOfInt, BitVec.reduceToNat, hp]; try simp only [top_out])
            exact dropC_append hM rfl rfl
  · by_cases g1 : key.length = 32
    · have b1 : ((key.length : Int) != 32) = false := beqIN g1
      by_cases g2 : nonce.length = 12
      · have b2 : ((nonce.length : Int) != 12) = false := by rw [g2]; rfl
        have hbig : 2000 < ad.length ∨ 2000 < other.length ∨ 2000 < text.length := by omega
        refine fn_rule tabOK Try.func7 rfl Try.call7 (by kernel_rfl) (fun hM => ?_)
        (refine top_in ?_; simp -implicitDefEqProofs only [Try.ntmps7, Try.results7, go_sem, -List.reduceReplicate, ↓L_gdZ_tt, ↓L_gdZ_tf, ↓L_gdZ_ft, ↓L_gdZ_ff, ↓T_and, ↓T_imp, ↓T_all, Nat.reduceBEq, Nat.reduceAdd, Nat.reduceSub, Nat.reduceMul, Nat.reduceLT, Nat.reduceLeDiff, Nat.reduceEqDiff, Int.reduceLT, Int.reduceLE, Int.reduceAdd, Int.reduceSub, Int.reduceMul, Int.reduceNeg, Int.reduceToNat, Int.reduceEq, Int.reduceNe, reduceIte, reduceCtorEq, BitVec.reduceOfInt, BitVec.reduceToNat, b1, b2]; try simp only [top_out])
        refine first5_ok _ _ ?_
        (refine top_in ?_; simp -implicitDefEqProofs only [go_sem, -List.reduceReplicate, ↓L_gdZ_tt, ↓L_gdZ_tf, ↓L_gdZ_ft, ↓L_gdZ_ff, ↓T_and, ↓T_imp, ↓T_all, Nat.reduceBEq, Nat.reduceAdd, Nat.reduceSub, Nat.reduceMul, Nat.reduceLT, Nat.reduceLeDiff, Nat.reduceEqDiff, Int.reduceLT, Int.reduceLE, Int.reduceAdd, Int.reduceSub, Int.reduceMul, Int.reduceNeg, Int.reduceToNat, Int.reduceEq, Int.reduceNe, reduceIte, reduceCtorEq, BitVec.reduceOfInt, BitVec.reduceToNat, b1, b2]; try simp only [top_out])
        rcases Nat.lt_or_ge 2000 ad.length with h | h
        · have b3 : (2000 < (ad.length : Int)) = True := by simp; omega
          (refine top_in ?_; simp -implicitDefEqProofs only [go_sem, -List.reduceReplicate, ↓L_gdZ_tt, ↓L_gdZ_tf, ↓L_gdZ_ft, ↓L_gdZ_ff, ↓T_and, ↓T_imp, ↓T_all, Nat.reduceBEq, Nat.reduceAdd, Nat.reduceSub, Nat.reduceMul, Nat.reduceLT, Nat.reduceLeDiff, Nat.reduceEqDiff, Int.reduceLT, Int.reduceLE, Int.reduceAdd, Int.reduceSub, Int.reduceMul, Int.reduceNeg, Int.reduceToNat, Int.reduceEq, Int.reduceNe, reduceIte, reduceCtorEq, BitVec.reduceOfInt, BitVec.reduceToNat, b3]; try simp only [top_out])
          exact dropC_self hM rfl rfl
        · have b3 : (2000 < (ad.length : Int)) = False := by simp; omega
          (refine top_in ?_; simp -implicitDefEqProofs only [go_sem, -List.reduceReplicate, ↓L_gdZ_tt, ↓L_gdZ_tf, ↓L_gdZ_ft, ↓L_gdZ_ff, ↓T_and, ↓T_imp, ↓T_all, Nat.reduceBEq, Nat.reduceAdd, Nat.reduceSub, Nat.reduceMul, Nat.reduceLT, Nat.reduceLeDiff, Nat.reduceEqDiff, Int.reduceLT, Int.reduceLE, Int.reduceAdd, Int.reduceSub, Int.reduceMul, Int.reduceNeg, Int.reduceToNat, Int.reduceEq, Int.reduceNe, reduceIte, reduceCtorEq, BitVec.reduceOfInt, BitVec.reduceToNat, b3]; try simp only [top_out])
          rcases Nat.lt_or_ge 2000 other.length with h | h
          · have b3 : (2000 < (other.length : Int)) = True := by simp; omega
            (refine top_in ?_; simp -implicitDefEqProofs only [go_sem, -List.reduceReplicate, ↓L_gdZ_tt, ↓L_gdZ_tf, ↓L_gdZ_ft, ↓L_gdZ_ff, ↓T_and, ↓T_imp, ↓T_all, Nat.reduceBEq, Nat.reduceAdd, Nat.reduceSub, Nat.reduceMul, Nat.reduceLT, Nat.reduceLeDiff, Nat.reduceEqDiff, Int.reduceLT, Int.reduceLE, Int.reduceAdd, Int.reduceSub, Int.reduceMul, Int.reduceNeg, Int.reduceToNat, Int.reduceEq, Int.reduceNe, reduceIte, reduceCtorEq, BitVec.reduceOfInt, BitVec.reduceToNat, b3]; try simp only [top_out])
            exact dropC_self hM rfl rfl
          · have b3 : (2000 < (other.length : Int)) = False := by simp; omega
            have b4 : (2000 < (text.length : Int)) = True := by simp; omega
            (refine top_in ?_; simp -implicitDefEqProofs only [go_sem, -List.reduceReplicate, ↓L_gdZ_tt, ↓L_gdZ_tf, ↓L_gdZ_ft, ↓L_gdZ_ff, ↓T_and, ↓T_imp, ↓T_all, Nat.reduceBEq, Nat.reduceAdd, Nat.reduceSub, Nat.reduceMul, Nat.reduceLT, Nat.reduceLeDiff, Nat.reduceEqDiff, Int.reduceLT, Int.reduceLE, Int.reduceAdd, Int.reduceSub, Int.reduceMul, Int.reduceNeg, Int.reduceToNat, Int.reduceEq, Int.reduceNe, reduceIte, reduceCtorEq, BitVec.reduceOfInt, BitVec.reduceToNat, b3, b4]; try simp only [top_out])
            exact dropC_self hM rfl rfl
      · have b2 : ((nonce.length : Int) != 12) = true := bneN g2
        refine fn_rule tabOK Try.func7 rfl Try.call7 (by kernel_rfl) (fun hM => ?_)
        (refine top_in ?_; simp -implicitDefEqProofs only [Try.ntmps7, Try.results7, go_sem, -List.reduceReplicate, ↓L_gdZ_tt, ↓L_gdZ_tf, ↓L_gdZ_ft, ↓L_gdZ_ff, ↓T_and, ↓T_imp, ↓T_all, Nat.reduceBEq, Nat.reduceAdd, Nat.reduceSub, Nat.reduceMul, Nat.reduceLT, Nat.reduceLeDiff, Nat.reduceEqDiff, Int.reduceLT, Int.reduceLE, Int.reduceAdd, Int.reduceSub, Int.reduceMul, Int.reduceNeg, Int.reduceToNat, Int.reduceEq, Int.reduceNe, reduceIte, reduceCtorEq, BitVec.reduceOfInt, BitVec.reduceToNat, b1, b2]; try simp only [top_out])
        refine first5_ok _ _ ?_
        (refine top_in ?_; simp -implicitDefEqProofs only [go_sem, -List.reduceReplicate, ↓L_gdZ_tt, ↓L_gdZ_tf, ↓L_gdZ_ft, ↓L_gdZ_ff, ↓T_and, ↓T_imp, ↓T_all, Nat.reduceBEq, Nat.reduceAdd, Nat.reduceSub, Nat.reduceMul, Nat.reduceLT, Nat.reduceLeDiff, Nat.reduceEqDiff, Int.reduceLT, Int.reduceLE, Int.reduceAdd, Int.reduceSub, Int.reduceMul, Int.reduceNeg, Int.reduceToNat, Int.reduceEq, Int.reduceNe, reduceIte, reduceCtorEq, BitVec.reduceOfInt, BitVec.reduceToNat, b1, b2]; try simp only [top_out])
        exact dropC_self hM rfl rfl
    · have b1 : ((key.length : Int) != 32) = true := bneN g1
      refine fn_rule tabOK Try.func7 rfl Try.call7 (by kernel_rfl) (fun hM => ?_)
      (refine top_in ?_; simp -implicitDefEqProofs only [Try.ntmps7, Try.results7, go_sem, -List.reduceReplicate, ↓L_gdZ_tt, ↓L_gdZ_tf, ↓L_gdZ_ft, ↓L_gdZ_ff, ↓T_and, ↓T_imp, ↓T_all, Nat.reduceBEq, Nat.reduceAdd, Nat.reduceSub, Nat.reduceMul, Nat.reduceLT, Nat.reduceLeDiff, Nat.reduceEqDiff, Int.reduceLT, Int.reduceLE, Int.reduceAdd, Int.reduceSub, Int.reduceMul, Int.reduceNeg, Int.reduceToNat, Int.reduceEq, Int.reduceNe, reduceIte, reduceCtorEq, BitVec.reduceOfInt, BitVec.reduceToNat, b1]; try simp only [top_out])
      refine first5_ok _ _ ?_
      (refine top_in ?_; simp -implicitDefEqProofs only [go_sem, -List.reduceReplicate, ↓L_gdZ_tt, ↓L_gdZ_tf, ↓L_gdZ_ft, ↓L_gdZ_ff, ↓T_and, ↓T_imp, ↓T_all, Nat.reduceBEq, Nat.reduceAdd, Nat.reduceSub, Nat.reduceMul, Nat.reduceLT, Nat.reduceLeDiff, Nat.reduceEqDiff, Int.reduceLT, Int.reduceLE, Int.reduceAdd, Int.reduceSub, Int.reduceMul, Int.reduceNeg, Int.reduceToNat, Int.reduceEq, Int.reduceNe, reduceIte, reduceCtorEq, BitVec.reduceOfInt, BitVec.reduceToNat, b1]; try simp only [top_out])
      exact dropC_self hM rfl rfl
end Go.Proofs.Ytbiolfeincepoaa.Eng
