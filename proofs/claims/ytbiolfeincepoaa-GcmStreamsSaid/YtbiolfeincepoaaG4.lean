/- The tag. -/
import Derived.Test.YtbiolfeincepoaaG3
namespace Go.Proofs.Ytbiolfeincepoaa.Eng
open Go Go.RowKit
set_option linter.unusedSimpArgs false
set_option linter.unusedVariables false

def zero16 : List (BitVec 8) := List.replicate 16 0#8
theorem zero16_len : zero16.length = 16 := rfl
def tagL (E : List (BitVec 8) → List (BitVec 8)) (nonce ad sealed_ : List (BitVec 8)) : List (BitVec 8) :=
  xorL (mulL (xorL (foldL (E zero16) (foldL (E zero16) zero16 ad) sealed_) (lenL ad.length sealed_.length)) (E zero16)) (E (ctrL nonce 1#32))
theorem tagL_len (E : List (BitVec 8) → List (BitVec 8)) (nonce ad s : List (BitVec 8)) : (tagL E nonce ad s).length = 16 := xorL_len _ _
theorem bS_zero16 : bS zero16 = List.replicate 16 (SV.u8 0#8) := rfl
set_option maxHeartbeats 1000000 in
theorem tag_ok (m nn no nc na oa la ca ns os ls cs : Nat) (C nonce ad s : List (BitVec 8)) (t4 : TypeId) (M : List Blk) (K : SV → List Blk → Prop) (hC : M[m]? = some (.row (bS C) t4)) (hCl : C.length = 496) (hn : BAt M nn no nonce) (hl : nonce.length = 12)
    (ha : BAt M na oa ad) (hla : la = ad.length) (hca : la ≤ ca) (hma : la ≤ 140737488355000) (hs : BAt M ns os s) (hls : ls = s.length) (hcs : ls ≤ cs) (hms : ls ≤ 140737488355000)
    (hK : K (.agg (bS (tagL (fun x => aesN C x 14) nonce ad s))) M) :
    callVC Try.prog 19 [.p m 0, .sl nn no 12 nc, .sl na oa la ca, .sl ns os ls cs] M K := by
  subst hla hls
  have hm : m < M.length := (List.getElem?_eq_some_iff.1 hC).1
  have hC' : ∀ L : List Blk, (M ++ L)[m]? = some (.row (bS C) t4) := fun L => by rw [get_lt hm]; exact hC
  have hel : ∀ x, (aesN C x 14).length = 16 := fun x => aesN_len _ _ _
  have hz := zero16_len
  refine fn_rule tabOK Try.func19 rfl Try.call19 (by kernel_rfl) (fun hM => ?_)
  (refine top_in ?_; simp -implicitDefEqProofs only [Try.ntmps19, Try.results19, go_sem, -List.reduceReplicate, ↓L_gdZ_tt, ↓L_gdZ_tf, ↓L_gdZ_ft, ↓L_gdZ_ff, ↓T_and, ↓T_imp, ↓T_all, Nat.reduceBEq, Nat.reduceAdd, Nat.reduceSub, Nat.reduceMul, Nat.reduceLT, Nat.reduceLeDiff, Nat.reduceEqDiff, Int.reduceLT, Int.reduceLE, Int.reduceAdd, Int.reduceSub, Int.reduceMul, Int.reduceNeg, Int.reduceToNat, Int.reduceEq, Int.reduceNe, reduceIte, reduceCtorEq, BitVec.reduceOfInt, BitVec.reduceToNat]; try simp only [top_out])
  rw [← show zero16 = List.replicate 16 0#8 from rfl]
  have hfa : (foldL (aesN C zero16 14) zero16 ad).length = 16 := foldL_len hz
  have hfs : (foldL (aesN C zero16 14) (foldL (aesN C zero16 14) zero16 ad) s).length = 16 := foldL_len hfa
  have hll := lenL_len ad.length s.length
  have hx1 := xorL_len (foldL (aesN C zero16 14) (foldL (aesN C zero16 14) zero16 ad) s) (lenL ad.length s.length)
  have hx2 := mulL_len' (xorL (foldL (aesN C zero16 14) (foldL (aesN C zero16 14) zero16 ad) s) (lenL ad.length s.length)) (aesN C zero16 14)
  have hcl := ctrL_len nonce 1#32
  have hxt := tagL_len (fun x => aesN C x 14) nonce ad s
  refine block_ok m C t4 zero16 _ _ (hC' _) hCl hz ?_
  (refine top_in ?_; simp -implicitDefEqProofs only [go_sem, -List.reduceReplicate, ↓L_gdZ_tt, ↓L_gdZ_tf, ↓L_gdZ_ft, ↓L_gdZ_ff, ↓T_and, ↓T_imp, ↓T_all, Nat.reduceBEq, Nat.reduceAdd, Nat.reduceSub, Nat.reduceMul, Nat.reduceLT, Nat.reduceLeDiff, Nat.reduceEqDiff, Int.reduceLT, Int.reduceLE, Int.reduceAdd, Int.reduceSub, Int.reduceMul, Int.reduceNeg, Int.reduceToNat, Int.reduceEq, Int.reduceNe, reduceIte, reduceCtorEq, BitVec.reduceOfInt, BitVec.reduceToNat, hz, hel, hfa, hfs, hx1, hx2, hll, hcl, get_lt hm, hC]; try simp only [top_out])
  rw [← show zero16 = List.replicate 16 0#8 from rfl]
  refine fold_ok zero16 _ ad na oa _ ca _ _ hz (hel _) ha.app rfl hca hma ?_
  (refine top_in ?_; simp -implicitDefEqProofs only [go_sem, -List.reduceReplicate, ↓L_gdZ_tt, ↓L_gdZ_tf, ↓L_gdZ_ft, ↓L_gdZ_ff, ↓T_and, ↓T_imp, ↓T_all, Nat.reduceBEq, Nat.reduceAdd, Nat.reduceSub, Nat.reduceMul, Nat.reduceLT, Nat.reduceLeDiff, Nat.reduceEqDiff, Int.reduceLT, Int.reduceLE, Int.reduceAdd, Int.reduceSub, Int.reduceMul, Int.reduceNeg, Int.reduceToNat, Int.reduceEq, Int.reduceNe, reduceIte, reduceCtorEq, BitVec.reduceOfInt, BitVec.reduceToNat, hz, hel, hfa, hfs, hx1, hx2, hll, hcl, get_lt hm, hC]; try simp only [top_out])
  refine fold_ok _ _ s ns os _ cs _ _ hfa (hel _) hs.app rfl hcs hms ?_
  (refine top_in ?_; simp -implicitDefEqProofs only [go_sem, -List.reduceReplicate, ↓L_gdZ_tt, ↓L_gdZ_tf, ↓L_gdZ_ft, ↓L_gdZ_ff, ↓T_and, ↓T_imp, ↓T_all, Nat.reduceBEq, Nat.reduceAdd, Nat.reduceSub, Nat.reduceMul, Nat.reduceLT, Nat.reduceLeDiff, Nat.reduceEqDiff, Int.reduceLT, Int.reduceLE, Int.reduceAdd, Int.reduceSub, Int.reduceMul, Int.reduceNeg, Int.reduceToNat, Int.reduceEq, Int.reduceNe, reduceIte, reduceCtorEq, BitVec.reduceOfInt, BitVec.reduceToNat, hz, hel, hfa, hfs, hx1, hx2, hll, hcl, get_lt hm, hC]; try simp only [top_out])
  refine draw_rule tabOK (by kernel_rfl : _) (.p 0 (.p 1 (.p 2 (.p 3 (.p 4 (.p 7 (.e 5 [0, 7] (.e 6 [7] (.e 8 [] (.e 9 [] .nil .no) .no) .no) .no))))))) (by kernel_rfl) (by kernel_rfl) ?_
  (refine top_in ?_; simp -implicitDefEqProofs only [go_sem, -List.reduceReplicate, ↓L_gdZ_tt, ↓L_gdZ_tf, ↓L_gdZ_ft, ↓L_gdZ_ff, ↓T_and, ↓T_imp, ↓T_all, Nat.reduceBEq, Nat.reduceAdd, Nat.reduceSub, Nat.reduceMul, Nat.reduceLT, Nat.reduceLeDiff, Nat.reduceEqDiff, Int.reduceLT, Int.reduceLE, Int.reduceAdd, Int.reduceSub, Int.reduceMul, Int.reduceNeg, Int.reduceToNat, Int.reduceEq, Int.reduceNe, reduceIte, reduceCtorEq, BitVec.reduceOfInt, BitVec.reduceToNat, hz, hel, hfa, hfs, hx1, hx2, hll, hcl, get_lt hm, hC]; try simp only [top_out])
  refine lengths_ok _ _ _ _ ?_
  (refine top_in ?_; simp -implicitDefEqProofs only [go_sem, -List.reduceReplicate, ↓L_gdZ_tt, ↓L_gdZ_tf, ↓L_gdZ_ft, ↓L_gdZ_ff, ↓T_and, ↓T_imp, ↓T_all, Nat.reduceBEq, Nat.reduceAdd, Nat.reduceSub, Nat.reduceMul, Nat.reduceLT, Nat.reduceLeDiff, Nat.reduceEqDiff, Int.reduceLT, Int.reduceLE, Int.reduceAdd, Int.reduceSub, Int.reduceMul, Int.reduceNeg, Int.reduceToNat, Int.reduceEq, Int.reduceNe, reduceIte, reduceCtorEq, BitVec.reduceOfInt, BitVec.reduceToNat, hz, hel, hfa, hfs, hx1, hx2, hll, hcl, get_lt hm, hC]; try simp only [top_out])
  refine xor_ok _ _ hfs hll _ _ ?_
  (refine top_in ?_; simp -implicitDefEqProofs only [go_sem, -List.reduceReplicate, ↓L_gdZ_tt, ↓L_gdZ_tf, ↓L_gdZ_ft, ↓L_gdZ_ff, ↓T_and, ↓T_imp, ↓T_all, Nat.reduceBEq, Nat.reduceAdd, Nat.reduceSub, Nat.reduceMul, Nat.reduceLT, Nat.reduceLeDiff, Nat.reduceEqDiff, Int.reduceLT, Int.reduceLE, Int.reduceAdd, Int.reduceSub, Int.reduceMul, Int.reduceNeg, Int.reduceToNat, Int.reduceEq, Int.reduceNe, reduceIte, reduceCtorEq, BitVec.reduceOfInt, BitVec.reduceToNat, hz, hel, hfa, hfs, hx1, hx2, hll, hcl, get_lt hm, hC]; try simp only [top_out])
  refine mul128_ok _ _ hx1 (hel _) _ _ ?_
  (refine top_in ?_; simp -implicitDefEqProofs only [go_sem, -List.reduceReplicate, ↓L_gdZ_tt, ↓L_gdZ_tf, ↓L_gdZ_ft, ↓L_gdZ_ff, ↓T_and, ↓T_imp, ↓T_all, Nat.reduceBEq, Nat.reduceAdd, Nat.reduceSub, Nat.reduceMul, Nat.reduceLT, Nat.reduceLeDiff, Nat.reduceEqDiff, Int.reduceLT, Int.reduceLE, Int.reduceAdd, Int.reduceSub, Int.reduceMul, Int.reduceNeg, Int.reduceToNat, Int.reduceEq, Int.reduceNe, reduceIte, reduceCtorEq, BitVec.reduceOfInt, BitVec.reduceToNat, hz, hel, hfa, hfs, hx1, hx2, hll, hcl, get_lt hm, hC]; try simp only [top_out])
  repeat (with_reducible refine And.intro (by omega) ?_)
  refine draw_rule tabOK (by kernel_rfl : _) (.p 0 (.p 1 (.p 2 (.e 3 [0] (.e 4 [0] (.e 5 [] (.e 6 [] .nil .no) .no) .no) .no)))) (by kernel_rfl) (by kernel_rfl) ?_
  (refine top_in ?_; simp -implicitDefEqProofs only [go_sem, -List.reduceReplicate, ↓L_gdZ_tt, ↓L_gdZ_tf, ↓L_gdZ_ft, ↓L_gdZ_ff, ↓T_and, ↓T_imp, ↓T_all, Nat.reduceBEq, Nat.reduceAdd, Nat.reduceSub, Nat.reduceMul, Nat.reduceLT, Nat.reduceLeDiff, Nat.reduceEqDiff, Int.reduceLT, Int.reduceLE, Int.reduceAdd, Int.reduceSub, Int.reduceMul, Int.reduceNeg, Int.reduceToNat, Int.reduceEq, Int.reduceNe, reduceIte, reduceCtorEq, BitVec.reduceOfInt, BitVec.reduceToNat, hz, hel, hfa, hfs, hx1, hx2, hll, hcl, get_lt hm, hC]; try simp only [top_out])
  refine counter_ok nn no nc nonce 1#32 _ _ hn.app hl ?_
  (refine top_in ?_; simp -implicitDefEqProofs only [go_sem, -List.reduceReplicate, ↓L_gdZ_tt, ↓L_gdZ_tf, ↓L_gdZ_ft, ↓L_gdZ_ff, ↓T_and, ↓T_imp, ↓T_all, Nat.reduceBEq, Nat.reduceAdd, Nat.reduceSub, Nat.reduceMul, Nat.reduceLT, Nat.reduceLeDiff, Nat.reduceEqDiff, Int.reduceLT, Int.reduceLE, Int.reduceAdd, Int.reduceSub, Int.reduceMul, Int.reduceNeg, Int.reduceToNat, Int.reduceEq, Int.reduceNe, reduceIte, reduceCtorEq, BitVec.reduceOfInt, BitVec.reduceToNat, hz, hel, hfa, hfs, hx1, hx2, hll, hcl, get_lt hm, hC]; try simp only [top_out])
  refine block_ok m C t4 (ctrL nonce 1#32) _ _ (hC' _) hCl hcl ?_
  (refine top_in ?_; simp -implicitDefEqProofs only [go_sem, -List.reduceReplicate, ↓L_gdZ_tt, ↓L_gdZ_tf, ↓L_gdZ_ft, ↓L_gdZ_ff, ↓T_and, ↓T_imp, ↓T_all, Nat.reduceBEq, Nat.reduceAdd, Nat.reduceSub, Nat.reduceMul, Nat.reduceLT, Nat.reduceLeDiff, Nat.reduceEqDiff, Int.reduceLT, Int.reduceLE, Int.reduceAdd, Int.reduceSub, Int.reduceMul, Int.reduceNeg, Int.reduceToNat, Int.reduceEq, Int.reduceNe, reduceIte, reduceCtorEq, BitVec.reduceOfInt, BitVec.reduceToNat, hz, hel, hfa, hfs, hx1, hx2, hll, hcl, get_lt hm, hC]; try simp only [top_out])
  refine xor_ok _ _ hx2 (hel _) _ _ ?_
  rw [show xorL (mulL (xorL (foldL (aesN C zero16 14) (foldL (aesN C zero16 14) zero16 ad) s) (lenL ad.length s.length)) (aesN C zero16 14)) (aesN C (ctrL nonce 1#32) 14) = tagL (fun x => aesN C x 14) nonce ad s from rfl]
  (refine top_in ?_; simp -implicitDefEqProofs only [go_sem, -List.reduceReplicate, ↓L_gdZ_tt, ↓L_gdZ_tf, ↓L_gdZ_ft, ↓L_gdZ_ff, ↓T_and, ↓T_imp, ↓T_all, Nat.reduceBEq, Nat.reduceAdd, Nat.reduceSub, Nat.reduceMul, Nat.reduceLT, Nat.reduceLeDiff, Nat.reduceEqDiff, Int.reduceLT, Int.reduceLE, Int.reduceAdd, Int.reduceSub, Int.reduceMul, Int.reduceNeg, Int.reduceToNat, Int.reduceEq, Int.reduceNe, reduceIte, reduceCtorEq, BitVec.reduceOfInt, BitVec.reduceToNat, hz, hel, hfa, hfs, hx1, hx2, hll, hcl, get_lt hm, hC, hxt]; try simp only [top_out])
  repeat (with_reducible refine And.intro (by omega) ?_)
  exact dropC_append hM (bS_lt _ _) hK

theorem byte_of64 (n : Nat) (c : Nat) (hc : c ≤ 56) : BitVec.ofInt 8 ((n : Int).fdiv (2 ^ min c 64)) = (BitVec.ofNat 64 n >>> c).setWidth 8 := by
  rw [Nat.min_eq_left (by omega), Int.fdiv_eq_ediv_of_nonneg _ (by exact_mod_cast Nat.zero_le _)]
  have h : ((n : Int) / 2 ^ c) = ((n / 2 ^ c : Nat) : Int) := by norm_cast
  rw [h, BitVec.ofInt_natCast]
  refine BitVec.eq_of_getLsbD_eq fun j hj => ?_
  rw [BitVec.getLsbD_ofNat, BitVec.getLsbD_setWidth, BitVec.getLsbD_ushiftRight, BitVec.getLsbD_ofNat, Nat.testBit_div_two_pow]
  have h8 : j < 8 := hj
  simp [h8, show c + j < 64 by omega, Nat.add_comm]
theorem lenL_a {a s k : Nat} (hk : k < 8) : (lenL a s).getD k 0#8 = (BitVec.ofNat 64 (8 * a) >>> (56 - 8 * k)).setWidth 8 := by
  unfold lenL
  rw [gl_getD (by omega), if_pos hk, show 8 * (7 - k) = 56 - 8 * k by omega, show 8 * a = a * 8 from Nat.mul_comm _ _, BitVec.ofNat_mul]
theorem lenL_s {a s k : Nat} (hk : k < 8) : (lenL a s).getD (8 + k) 0#8 = (BitVec.ofNat 64 (8 * s) >>> (56 - 8 * k)).setWidth 8 := by
  unfold lenL
  rw [gl_getD (by omega), if_neg (by omega), show 8 * (15 - (8 + k)) = 56 - 8 * k by omega, show 8 * s = s * 8 from Nat.mul_comm _ _, BitVec.ofNat_mul]
theorem foldL_16 {h y b : List (BitVec 8)} (hb : b.length = 16) : foldL h y b = mulL (xorL y b) h := by
  unfold foldL
  rw [hb]
  show mulL (xorL y (pad16 (b.drop (16 * 0)))) h = _
  have : pad16 (b.drop (16 * 0)) = b := (gl_self hb 0#8).symm
  rw [this]
set_option maxHeartbeats 2000000 in
theorem reftag_ok (m nn no nc na oa la ca ns os ls cs : Nat) (C nonce ad s : List (BitVec 8)) (t4 : TypeId) (M : List Blk) (K : SV → List Blk → Prop) (hC : M[m]? = some (.row (bS C) t4)) (hCl : C.length = 752) (hT : ∀ v : BitVec 8, C.getD (256 + v.toNat) 0#8 = mul8L 8 2#8 v 0#8)
    (hn : BAt M nn no nonce) (hl : nonce.length = 12) (ha : BAt M na oa ad) (hla : la = ad.length) (hma : la ≤ 140737488355000) (hs : BAt M ns os s) (hls : ls = s.length) (hms : ls ≤ 140737488355000)
    (hK : K (.agg (bS (tagL (fun x => refN4 C x 14) nonce ad s))) M) :
    callVC Try.prog 22 [.p m 0, .sl nn no 12 nc, .sl na oa la ca, .sl ns os ls cs] M K := by
  subst hla hls
  have hm : m < M.length := (List.getElem?_eq_some_iff.1 hC).1
  have hC' : ∀ L : List Blk, (M ++ L)[m]? = some (.row (bS C) t4) := fun L => by rw [get_lt hm]; exact hC
  have hel : ∀ x, (refN4 C x 14).length = 16 := fun x => refN4_len _ _ _
  have hz := zero16_len
  refine fn_rule tabOK Try.func22 rfl Try.call22 (by kernel_rfl) (fun hM => ?_)
  (refine top_in ?_; simp -implicitDefEqProofs only [Try.ntmps22, Try.results22, go_sem, -List.reduceReplicate, ↓L_gdZ_tt, ↓L_gdZ_tf, ↓L_gdZ_ft, ↓L_gdZ_ff, ↓T_and, ↓T_imp, ↓T_all, Nat.reduceBEq, Nat.reduceAdd, Nat.reduceSub, Nat.reduceMul, Nat.reduceLT, Nat.reduceLeDiff, Nat.reduceEqDiff, Int.reduceLT, Int.reduceLE, Int.reduceAdd, Int.reduceSub, Int.reduceMul, Int.reduceNeg, Int.reduceToNat, Int.reduceEq, Int.reduceNe, reduceIte, reduceCtorEq, BitVec.reduceOfInt, BitVec.reduceToNat]; try simp only [top_out])
  rw [← show zero16 = List.replicate 16 0#8 from rfl]
  have hfa : (foldL (refN4 C zero16 14) zero16 ad).length = 16 := foldL_len hz
  have hfs : (foldL (refN4 C zero16 14) (foldL (refN4 C zero16 14) zero16 ad) s).length = 16 := foldL_len hfa
  have hll := lenL_len ad.length s.length
  have hcl := ctrL_len nonce 1#32
  have hxt := tagL_len (fun x => refN4 C x 14) nonce ad s
  refine refblock_ok m C t4 zero16 _ _ (hC' _) hCl hz hT ?_
  (refine top_in ?_; simp -implicitDefEqProofs only [go_sem, -List.reduceReplicate, ↓L_gdZ_tt, ↓L_gdZ_tf, ↓L_gdZ_ft, ↓L_gdZ_ff, ↓T_and, ↓T_imp, ↓T_all, Nat.reduceBEq, Nat.reduceAdd, Nat.reduceSub, Nat.reduceMul, Nat.reduceLT, Nat.reduceLeDiff, Nat.reduceEqDiff, Int.reduceLT, Int.reduceLE, Int.reduceAdd, Int.reduceSub, Int.reduceMul, Int.reduceNeg, Int.reduceToNat, Int.reduceEq, Int.reduceNe, reduceIte, reduceCtorEq, BitVec.reduceOfInt, BitVec.reduceToNat, hz, hel, hfa, hfs, hcl, get_lt hm, hC]; try simp only [top_out])
  refine folded_ok zero16 _ ad na oa _ ca _ _ hz (hel _) ha.app rfl hma ?_
  (refine top_in ?_; simp -implicitDefEqProofs only [go_sem, -List.reduceReplicate, ↓L_gdZ_tt, ↓L_gdZ_tf, ↓L_gdZ_ft, ↓L_gdZ_ff, ↓T_and, ↓T_imp, ↓T_all, Nat.reduceBEq, Nat.reduceAdd, Nat.reduceSub, Nat.reduceMul, Nat.reduceLT, Nat.reduceLeDiff, Nat.reduceEqDiff, Int.reduceLT, Int.reduceLE, Int.reduceAdd, Int.reduceSub, Int.reduceMul, Int.reduceNeg, Int.reduceToNat, Int.reduceEq, Int.reduceNe, reduceIte, reduceCtorEq, BitVec.reduceOfInt, BitVec.reduceToNat, hz, hel, hfa, hfs, hcl, get_lt hm, hC]; try simp only [top_out])
  refine folded_ok _ _ s ns os _ cs _ _ hfa (hel _) hs.app rfl hms ?_
  (refine top_in ?_; simp -implicitDefEqProofs only [go_sem, -List.reduceReplicate, ↓L_gdZ_tt, ↓L_gdZ_tf, ↓L_gdZ_ft, ↓L_gdZ_ff, ↓T_and, ↓T_imp, ↓T_all, Nat.reduceBEq, Nat.reduceAdd, Nat.reduceSub, Nat.reduceMul, Nat.reduceLT, Nat.reduceLeDiff, Nat.reduceEqDiff, Int.reduceLT, Int.reduceLE, Int.reduceAdd, Int.reduceSub, Int.reduceMul, Int.reduceNeg, Int.reduceToNat, Int.reduceEq, Int.reduceNe, reduceIte, reduceCtorEq, BitVec.reduceOfInt, BitVec.reduceToNat, hz, hel, hfa, hfs, hcl, get_lt hm, hC]; try simp only [top_out])
  have hty : tagL (fun x => refN4 C x 14) nonce ad s = xorL (foldL (refN4 C zero16 14) (foldL (refN4 C zero16 14) (foldL (refN4 C zero16 14) zero16 ad) s) (lenL ad.length s.length)) (refN4 C (ctrL nonce 1#32) 14) := by
    rw [foldL_16 hll]; rfl
  generalize foldL (refN4 C zero16 14) (foldL (refN4 C zero16 14) zero16 ad) s = y at hfs hty ⊢
  have hh := hel zero16
  generalize refN4 C zero16 14 = h at hh hty ⊢
  refine loop_gc tabOK (by kernel_rfl) (fun i ts M' => ∃ (k : Nat) (z : List (BitVec 8)) (ty : TypeId), k + i = 8 ∧ frC (some (.p m 0) :: some (.sl nn no 12 nc) :: some (.sl na oa ad.length ca) :: some (.sl ns os s.length cs) :: none :: none :: none :: none :: some (.p M.length 0) :: none :: some (.p (M.length + 2) 0) :: some (.p (M.length + 3) 0) :: some (.sl (M.length + 4) 0 k (k + z.length)) :: some (.i .i64 k) :: none :: none :: none :: none :: none :: none :: none :: none :: none :: none :: none :: none :: none :: none :: none :: none :: none :: none :: none :: none :: none :: none :: none :: none :: none :: none :: none :: none :: none :: none :: none :: none :: none :: none :: none :: none :: none :: none :: none :: none :: none :: none :: none :: none :: none :: none :: none :: none :: none :: none :: none :: none :: none :: none :: none :: none :: none :: none :: []) ts ∧
    M' = M ++ [.row (bS zero16) 42, .row (bS zero16) 42, .row (bS h) 42, .row (bS y) 42, .row (bS ((lenL ad.length s.length).take k ++ z)) ty]) 8 ?_ ?_
  · refine covF_gc hM [some 0, some 1, some 2, some 3, none] (some (.p m 0) :: some (.sl nn no 12 nc) :: some (.sl na oa ad.length ca) :: some (.sl ns os s.length cs) :: none :: none :: none :: none :: some (.p M.length 0) :: none :: some (.p (M.length + 2) 0) :: some (.p (M.length + 3) 0) :: some (.sl (M.length + 4) 0 0 0) :: some (.i .i64 0) :: none :: none :: none :: none :: none :: none :: none :: none :: none :: none :: none :: none :: none :: none :: none :: none :: none :: none :: none :: none :: none :: none :: none :: none :: none :: none :: none :: none :: none :: none :: none :: none :: none :: none :: none :: none :: none :: none :: none :: none :: none :: none :: none :: none :: none :: none :: none :: none :: none :: none :: none :: none :: none :: none :: none :: none :: none :: none :: [])
      [.row (bS zero16) 42, .row (bS zero16) 42, .row (bS h) 42, .row (bS y) 42, .row (bS []) 0] rfl ⟨keep8 rfl, keep8 rfl, keep8 rfl, keep8 rfl, rfl, trivial⟩ (by simp [lt_row]) ?_ ?_
      (fun ts' h => ⟨0, [], 0, by omega, by simpa using h, rfl⟩)
    · simp only [Int.natCast_add, cast_lit, Nat.add_assoc, rnSl_n, frRn_nil, frRn_s, frRn_n, frLt_nil, frLt_s, frLt_n, rn_i, rn_u8, rn_u32, rn_u64, rn_b, rn_str, rn_sn, rn_pn, rn_agg, rn_tup, rnL_nil, rnL_cons, rn_bS, rn_nil, rn_sl_at, rn_sl_at0, rn_p_at, rn_p_at0, rnSl_s, rnP_s, lt_i, lt_u8, lt_u32, lt_u64, lt_b, lt_sl, lt_p, lt_agg, lt_tup, ltL_nil', ltL_cons, bS_lt, List.getElem?_cons_succ, List.getElem?_cons_zero, Option.join_some, Nat.add_zero, Nat.zero_add, implies_true, and_self, and_true, true_and, Bool.and_true, Bool.true_and, Bool.and_self, List.length_cons, List.length_nil, List.length_append, decide_eq_true_eq, Bool.and_eq_true, rn_sl ha.lt, rn_sl hn.lt, rn_sl hs.lt, rn_p hm]
      trace_state
    · have := ha.lt
      have := hn.lt
      have := hs.lt
      simp only [Int.natCast_add, cast_lit, Nat.add_assoc, rnSl_n, frRn_nil, frRn_s, frRn_n, frLt_nil, frLt_s, frLt_n, rn_i, rn_u8, rn_u32, rn_u64, rn_b, rn_str, rn_sn, rn_pn, rn_agg, rn_tup, rnL_nil, rnL_cons, rn_bS, rn_nil, rn_sl_at, rn_sl_at0, rn_p_at, rn_p_at0, rnSl_s, rnP_s, lt_i, lt_u8, lt_u32, lt_u64, lt_b, lt_sl, lt_p, lt_agg, lt_tup, ltL_nil', ltL_cons, bS_lt, List.getElem?_cons_succ, List.getElem?_cons_zero, Option.join_some, Nat.add_zero, Nat.zero_add, implies_true, and_self, and_true, true_and, Bool.and_true, Bool.true_and, Bool.and_self, List.length_cons, List.length_nil, List.length_append, decide_eq_true_eq, Bool.and_eq_true]; omega
  · rintro i ts _ ⟨k, z, ty, hk, hf, rfl⟩
    by_cases hk8 : k < 8
    · have hp : ((k : Int) < 8) = True := by simp; omega
      have w1 : IntKind.i64.wrap (8 * (ad.length : Int)) = ((8 * ad.length : Nat) : Int) := by rw [w64 (by omega) (by omega)]; omega
      have w2 : IntKind.i64.wrap (8 * (k : Int)) = ((8 * k : Nat) : Int) := by rw [w64 (by omega) (by omega)]; omega
      have w3 : IntKind.i64.wrap (56 - ((8 * k : Nat) : Int)) = ((56 - 8 * k : Nat) : Int) := by rw [w64 (by omega) (by omega)]; omega
      have w4 : (BitVec.ofInt 64 ((56 - 8 * k : Nat) : Int)).toNat = 56 - 8 * k := by rw [BitVec.ofInt_natCast, BitVec.toNat_ofNat]; omega
      have b1 := byte_of64 (8 * ad.length) (56 - 8 * k) (by omega)
      rw [← lenL_a (a := ad.length) (s := s.length) hk8] at b1
      have htk : ((lenL ad.length s.length).take (k)).length = k := by rw [List.length_take]; omega
      obtain ⟨f, rfl⟩ := frC_open _ _ 0 hf
      clear hf
      (refine top_in ?_; simp -implicitDefEqProofs only [go_sem, -List.reduceReplicate, ↓L_gdZ_tt, ↓L_gdZ_tf, ↓L_gdZ_ft, ↓L_gdZ_ff, ↓T_and, ↓T_imp, ↓T_all, Nat.reduceBEq, Nat.reduceAdd, Nat.reduceSub, Nat.reduceMul, Nat.reduceLT, Nat.reduceLeDiff, Nat.reduceEqDiff, Int.reduceLT, Int.reduceLE, Int.reduceAdd, Int.reduceSub, Int.reduceMul, Int.reduceNeg, Int.reduceToNat, Int.reduceEq, Int.reduceNe, reduceIte, reduceCtorEq, BitVec.reduceOfInt, BitVec.reduceToNat, hp, w1, w2, w3, w4, b1]; try simp only [top_out])
      repeat (with_reducible refine And.intro (by omega) ?_)
      refine app8 (M.length + 4) ((lenL ad.length s.length).take (k)) z [(lenL ad.length s.length).getD (k) 0#8] ty rfl rfl rfl (by rw [get_app]; rfl) htk.symm (by omega) (src_u8 (by rw [get_app]; rfl)) (by simp; omega) ?_
      intro z' ty'
      rw [← take_snoc (by omega), htk]
      (refine top_in ?_; simp -implicitDefEqProofs only [go_sem, -List.reduceReplicate, ↓L_gdZ_tt, ↓L_gdZ_tf, ↓L_gdZ_ft, ↓L_gdZ_ff, ↓T_and, ↓T_imp, ↓T_all, Nat.reduceBEq, Nat.reduceAdd, Nat.reduceSub, Nat.reduceMul, Nat.reduceLT, Nat.reduceLeDiff, Nat.reduceEqDiff, Int.reduceLT, Int.reduceLE, Int.reduceAdd, Int.reduceSub, Int.reduceMul, Int.reduceNeg, Int.reduceToNat, Int.reduceEq, Int.reduceNe, reduceIte, reduceCtorEq, BitVec.reduceOfInt, BitVec.reduceToNat]; try simp only [top_out])
      rw [w64 (x := (k : Int) + 1) (by omega) (by omega)]
      refine covF_gc hM [some 0, some 1, some 2, some 3, some 6] (some (.p m 0) :: some (.sl nn no 12 nc) :: some (.sl na oa ad.length ca) :: some (.sl ns os s.length cs) :: none :: none :: none :: none :: some (.p M.length 0) :: none :: some (.p (M.length + 2) 0) :: some (.p (M.length + 3) 0) :: some (.sl (M.length + 4) 0 (k + 1) (k + 1 + z'.length)) :: some (.i .i64 ((k : Int) + 1)) :: none :: none :: none :: none :: none :: none :: none :: none :: none :: none :: none :: none :: none :: none :: none :: none :: none :: none :: none :: none :: none :: none :: none :: none :: none :: none :: none :: none :: none :: none :: none :: none :: none :: none :: none :: none :: none :: none :: none :: none :: none :: none :: none :: none :: none :: none :: none :: none :: none :: none :: none :: none :: none :: none :: none :: none :: none :: none :: [])
        [.row (bS zero16) 42, .row (bS zero16) 42, .row (bS h) 42, .row (bS y) 42, .row (bS ((lenL ad.length s.length).take (k + 1) ++ z')) ty'] rfl ⟨keep8 rfl, keep8 rfl, keep8 rfl, keep8 rfl, keep8 rfl, trivial⟩ (by simp [lt_row]) ?_ ?_
        (fun ts' h => ⟨i - 1, by omega, k + 1, z', ty', by omega, by simpa [Nat.add_assoc] using h, rfl⟩)
      · simp only [Int.natCast_add, cast_lit, Nat.add_assoc, rnSl_n, frRn_nil, frRn_s, frRn_n, frLt_nil, frLt_s, frLt_n, rn_i, rn_u8, rn_u32, rn_u64, rn_b, rn_str, rn_sn, rn_pn, rn_agg, rn_tup, rnL_nil, rnL_cons, rn_bS, rn_nil, rn_sl_at, rn_sl_at0, rn_p_at, rn_p_at0, rnSl_s, rnP_s, lt_i, lt_u8, lt_u32, lt_u64, lt_b, lt_sl, lt_p, lt_agg, lt_tup, ltL_nil', ltL_cons, bS_lt, List.getElem?_cons_succ, List.getElem?_cons_zero, Option.join_some, Nat.add_zero, Nat.zero_add, implies_true, and_self, and_true, true_and, Bool.and_true, Bool.true_and, Bool.and_self, List.length_cons, List.length_nil, List.length_append, decide_eq_true_eq, Bool.and_eq_true, rn_sl ha.lt, rn_sl hn.lt, rn_sl hs.lt, rn_p hm]
      · have := ha.lt
        have := hn.lt
        have := hs.lt
        simp only [Int.natCast_add, cast_lit, Nat.add_assoc, rnSl_n, frRn_nil, frRn_s, frRn_n, frLt_nil, frLt_s, frLt_n, rn_i, rn_u8, rn_u32, rn_u64, rn_b, rn_str, rn_sn, rn_pn, rn_agg, rn_tup, rnL_nil, rnL_cons, rn_bS, rn_nil, rn_sl_at, rn_sl_at0, rn_p_at, rn_p_at0, rnSl_s, rnP_s, lt_i, lt_u8, lt_u32, lt_u64, lt_b, lt_sl, lt_p, lt_agg, lt_tup, ltL_nil', ltL_cons, bS_lt, List.getElem?_cons_succ, List.getElem?_cons_zero, Option.join_some, Nat.add_zero, Nat.zero_add, implies_true, and_self, and_true, true_and, Bool.and_true, Bool.true_and, Bool.and_self, List.length_cons, List.length_nil, List.length_append, decide_eq_true_eq, Bool.and_eq_true]; omega
    · obtain rfl : k = 8 := by omega
      have hp : (((8 : Nat) : Int) < 8) = False := by simp
      obtain ⟨f, rfl⟩ := frC_open _ _ 0 hf
      clear hf
      (refine top_in ?_; simp -implicitDefEqProofs only [go_sem, -List.reduceReplicate, ↓L_gdZ_tt, ↓L_gdZ_tf, ↓L_gdZ_ft, ↓L_gdZ_ff, ↓T_and, ↓T_imp, ↓T_all, Nat.reduceBEq, Nat.reduceAdd, Nat.reduceSub, Nat.reduceMul, Nat.reduceLT, Nat.reduceLeDiff, Nat.reduceEqDiff, Int.reduceLT, Int.reduceLE, Int.reduceAdd, Int.reduceSub, Int.reduceMul, Int.reduceNeg, Int.reduceToNat, Int.reduceEq, Int.reduceNe, reduceIte, reduceCtorEq, BitVec.reduceOfInt, BitVec.reduceToNat, hp]; try simp only [top_out])
      refine loop_gc tabOK (by kernel_rfl) (fun i ts M' => ∃ (k : Nat) (z : List (BitVec 8)) (ty : TypeId), k + i = 8 ∧ frC (some (.p m 0) :: some (.sl nn no 12 nc) :: some (.sl na oa ad.length ca) :: some (.sl ns os s.length cs) :: none :: none :: none :: none :: some (.p M.length 0) :: none :: some (.p (M.length + 2) 0) :: some (.p (M.length + 3) 0) :: some (.sl (M.length + 4) 0 (8 + k) (8 + k + z.length)) :: none :: some (.i .i64 k) :: none :: none :: none :: none :: none :: none :: none :: none :: none :: none :: none :: none :: none :: none :: none :: none :: none :: none :: none :: none :: none :: none :: none :: none :: none :: none :: none :: none :: none :: none :: none :: none :: none :: none :: none :: none :: none :: none :: none :: none :: none :: none :: none :: none :: none :: none :: none :: none :: none :: none :: none :: none :: none :: none :: none :: none :: none :: []) ts ∧
        M' = M ++ [.row (bS zero16) 42, .row (bS zero16) 42, .row (bS h) 42, .row (bS y) 42, .row (bS ((lenL ad.length s.length).take (8 + k) ++ z)) ty]) 8 ?_ ?_
      · exact covF_self ⟨0, z, ty, by omega, by simp [frC], rfl⟩
      · clear hk hp f
        rintro i ts _ ⟨k, z, ty, hk, hf, rfl⟩
        by_cases hk8 : k < 8
        · have hp : ((k : Int) < 8) = True := by simp; omega
          have w1 : IntKind.i64.wrap (8 * (s.length : Int)) = ((8 * s.length : Nat) : Int) := by rw [w64 (by omega) (by omega)]; omega
          have w2 : IntKind.i64.wrap (8 * (k : Int)) = ((8 * k : Nat) : Int) := by rw [w64 (by omega) (by omega)]; omega
          have w3 : IntKind.i64.wrap (56 - ((8 * k : Nat) : Int)) = ((56 - 8 * k : Nat) : Int) := by rw [w64 (by omega) (by omega)]; omega
          have w4 : (BitVec.ofInt 64 ((56 - 8 * k : Nat) : Int)).toNat = 56 - 8 * k := by rw [BitVec.ofInt_natCast, BitVec.toNat_ofNat]; omega
          have b1 := byte_of64 (8 * s.length) (56 - 8 * k) (by omega)
          rw [← lenL_s (a := ad.length) (s := s.length) hk8] at b1
          have htk : ((lenL ad.length s.length).take (8 + k)).length = 8 + k := by rw [List.length_take]; omega
          obtain ⟨f, rfl⟩ := frC_open _ _ 0 hf
          clear hf
          (refine top_in ?_; simp -implicitDefEqProofs only [go_sem, -List.reduceReplicate, ↓L_gdZ_tt, ↓L_gdZ_tf, ↓L_gdZ_ft, ↓L_gdZ_ff, ↓T_and, ↓T_imp, ↓T_all, Nat.reduceBEq, Nat.reduceAdd, Nat.reduceSub, Nat.reduceMul, Nat.reduceLT, Nat.reduceLeDiff, Nat.reduceEqDiff, Int.reduceLT, Int.reduceLE, Int.reduceAdd, Int.reduceSub, Int.reduceMul, Int.reduceNeg, Int.reduceToNat, Int.reduceEq, Int.reduceNe, reduceIte, reduceCtorEq, BitVec.reduceOfInt, BitVec.reduceToNat, hp, w1, w2, w3, w4, b1]; try simp only [top_out])
          repeat (with_reducible refine And.intro (by omega) ?_)
          refine app8 (M.length + 4) ((lenL ad.length s.length).take (8 + k)) z [(lenL ad.length s.length).getD (8 + k) 0#8] ty rfl rfl rfl (by rw [get_app]; rfl) htk.symm (by omega) (src_u8 (by rw [get_app]; rfl)) (by simp; omega) ?_
          intro z' ty'
          rw [← take_snoc (by omega), htk]
          (refine top_in ?_; simp -implicitDefEqProofs only [go_sem, -List.reduceReplicate, ↓L_gdZ_tt, ↓L_gdZ_tf, ↓L_gdZ_ft, ↓L_gdZ_ff, ↓T_and, ↓T_imp, ↓T_all, Nat.reduceBEq, Nat.reduceAdd, Nat.reduceSub, Nat.reduceMul, Nat.reduceLT, Nat.reduceLeDiff, Nat.reduceEqDiff, Int.reduceLT, Int.reduceLE, Int.reduceAdd, Int.reduceSub, Int.reduceMul, Int.reduceNeg, Int.reduceToNat, Int.reduceEq, Int.reduceNe, reduceIte, reduceCtorEq, BitVec.reduceOfInt, BitVec.reduceToNat]; try simp only [top_out])
          rw [w64 (x := (k : Int) + 1) (by omega) (by omega)]
          refine covF_gc hM [some 0, some 1, some 2, some 3, some 6] (some (.p m 0) :: some (.sl nn no 12 nc) :: some (.sl na oa ad.length ca) :: some (.sl ns os s.length cs) :: none :: none :: none :: none :: some (.p M.length 0) :: none :: some (.p (M.length + 2) 0) :: some (.p (M.length + 3) 0) :: some (.sl (M.length + 4) 0 (8 + k + 1) (8 + k + 1 + z'.length)) :: none :: some (.i .i64 ((k : Int) + 1)) :: none :: none :: none :: none :: none :: none :: none :: none :: none :: none :: none :: none :: none :: none :: none :: none :: none :: none :: none :: none :: none :: none :: none :: none :: none :: none :: none :: none :: none :: none :: none :: none :: none :: none :: none :: none :: none :: none :: none :: none :: none :: none :: none :: none :: none :: none :: none :: none :: none :: none :: none :: none :: none :: none :: none :: none :: none :: [])
            [.row (bS zero16) 42, .row (bS zero16) 42, .row (bS h) 42, .row (bS y) 42, .row (bS ((lenL ad.length s.length).take (8 + k + 1) ++ z')) ty'] rfl ⟨keep8 rfl, keep8 rfl, keep8 rfl, keep8 rfl, keep8 rfl, trivial⟩ (by simp [lt_row]) ?_ ?_
            (fun ts' h => ⟨i - 1, by omega, k + 1, z', ty', by omega, by simpa [Nat.add_assoc] using h, rfl⟩)
          · simp only [Int.natCast_add, cast_lit, Nat.add_assoc, rnSl_n, frRn_nil, frRn_s, frRn_n, frLt_nil, frLt_s, frLt_n, rn_i, rn_u8, rn_u32, rn_u64, rn_b, rn_str, rn_sn, rn_pn, rn_agg, rn_tup, rnL_nil, rnL_cons, rn_bS, rn_nil, rn_sl_at, rn_sl_at0, rn_p_at, rn_p_at0, rnSl_s, rnP_s, lt_i, lt_u8, lt_u32, lt_u64, lt_b, lt_sl, lt_p, lt_agg, lt_tup, ltL_nil', ltL_cons, bS_lt, List.getElem?_cons_succ, List.getElem?_cons_zero, Option.join_some, Nat.add_zero, Nat.zero_add, implies_true, and_self, and_true, true_and, Bool.and_true, Bool.true_and, Bool.and_self, List.length_cons, List.length_nil, List.length_append, decide_eq_true_eq, Bool.and_eq_true, rn_sl ha.lt, rn_sl hn.lt, rn_sl hs.lt, rn_p hm]
          · have := ha.lt
            have := hn.lt
            have := hs.lt
            simp only [Int.natCast_add, cast_lit, Nat.add_assoc, rnSl_n, frRn_nil, frRn_s, frRn_n, frLt_nil, frLt_s, frLt_n, rn_i, rn_u8, rn_u32, rn_u64, rn_b, rn_str, rn_sn, rn_pn, rn_agg, rn_tup, rnL_nil, rnL_cons, rn_bS, rn_nil, rn_sl_at, rn_sl_at0, rn_p_at, rn_p_at0, rnSl_s, rnP_s, lt_i, lt_u8, lt_u32, lt_u64, lt_b, lt_sl, lt_p, lt_agg, lt_tup, ltL_nil', ltL_cons, bS_lt, List.getElem?_cons_succ, List.getElem?_cons_zero, Option.join_some, Nat.add_zero, Nat.zero_add, implies_true, and_self, and_true, true_and, Bool.and_true, Bool.true_and, Bool.and_self, List.length_cons, List.length_nil, List.length_append, decide_eq_true_eq, Bool.and_eq_true]; omega
        · obtain rfl : k = 8 := by omega
          have hp : (((8 : Nat) : Int) < 8) = False := by simp
          obtain ⟨f, rfl⟩ := frC_open _ _ 0 hf
          clear hf
          (refine top_in ?_; simp -implicitDefEqProofs only [go_sem, -List.reduceReplicate, ↓L_gdZ_tt, ↓L_gdZ_tf, ↓L_gdZ_ft, ↓L_gdZ_ff, ↓T_and, ↓T_imp, ↓T_all, Nat.reduceBEq, Nat.reduceAdd, Nat.reduceSub, Nat.reduceMul, Nat.reduceLT, Nat.reduceLeDiff, Nat.reduceEqDiff, Int.reduceLT, Int.reduceLE, Int.reduceAdd, Int.reduceSub, Int.reduceMul, Int.reduceNeg, Int.reduceToNat, Int.reduceEq, Int.reduceNe, reduceIte, reduceCtorEq, BitVec.reduceOfInt, BitVec.reduceToNat, hp, hh, hfs, hz]; try simp only [top_out])
          rw [List.take_of_length_le (by omega)]
          refine folded_ok y h (lenL ad.length s.length) (M.length + 4) 0 _ (16 + z.length) _ _ hfs hh (BAt.row (z := z) (ty := ty) (by rw [get_app]; rfl)) hll.symm (by omega) ?_
          have hfl : (foldL h y (lenL ad.length s.length)).length = 16 := foldL_len hfs
          (refine top_in ?_; simp -implicitDefEqProofs only [go_sem, -List.reduceReplicate, ↓L_gdZ_tt, ↓L_gdZ_tf, ↓L_gdZ_ft, ↓L_gdZ_ff, ↓T_and, ↓T_imp, ↓T_all, Nat.reduceBEq, Nat.reduceAdd, Nat.reduceSub, Nat.reduceMul, Nat.reduceLT, Nat.reduceLeDiff, Nat.reduceEqDiff, Int.reduceLT, Int.reduceLE, Int.reduceAdd, Int.reduceSub, Int.reduceMul, Int.reduceNeg, Int.reduceToNat, Int.reduceEq, Int.reduceNe, reduceIte, reduceCtorEq, BitVec.reduceOfInt, BitVec.reduceToNat, hp, hh, hfs, hz, hfl]; try simp only [top_out])
          refine refcounter_ok nn no nc nonce 1 _ _ hn.app hl ?_
          rw [show BitVec.ofNat 32 1 = 1#32 from rfl]
          (refine top_in ?_; simp -implicitDefEqProofs only [go_sem, -List.reduceReplicate, ↓L_gdZ_tt, ↓L_gdZ_tf, ↓L_gdZ_ft, ↓L_gdZ_ff, ↓T_and, ↓T_imp, ↓T_all, Nat.reduceBEq, Nat.reduceAdd, Nat.reduceSub, Nat.reduceMul, Nat.reduceLT, Nat.reduceLeDiff, Nat.reduceEqDiff, Int.reduceLT, Int.reduceLE, Int.reduceAdd, Int.reduceSub, Int.reduceMul, Int.reduceNeg, Int.reduceToNat, Int.reduceEq, Int.reduceNe, reduceIte, reduceCtorEq, BitVec.reduceOfInt, BitVec.reduceToNat, hp, hh, hfs, hz, hfl, hcl]; try simp only [top_out])
          refine refblock_ok m C t4 (ctrL nonce 1#32) _ _ (hC' _) hCl hcl hT ?_
          (refine top_in ?_; simp -implicitDefEqProofs only [go_sem, -List.reduceReplicate, ↓L_gdZ_tt, ↓L_gdZ_tf, ↓L_gdZ_ft, ↓L_gdZ_ff, ↓T_and, ↓T_imp, ↓T_all, Nat.reduceBEq, Nat.reduceAdd, Nat.reduceSub, Nat.reduceMul, Nat.reduceLT, Nat.reduceLeDiff, Nat.reduceEqDiff, Int.reduceLT, Int.reduceLE, Int.reduceAdd, Int.reduceSub, Int.reduceMul, Int.reduceNeg, Int.reduceToNat, Int.reduceEq, Int.reduceNe, reduceIte, reduceCtorEq, BitVec.reduceOfInt, BitVec.reduceToNat, hp, hh, hfs, hz, hfl, hcl, hel]; try simp only [top_out])
          refine refxor_ok _ _ hfl (hel _) _ _ ?_
          rw [← hty]
          (refine top_in ?_; simp -implicitDefEqProofs only [go_sem, -List.reduceReplicate, ↓L_gdZ_tt, ↓L_gdZ_tf, ↓L_gdZ_ft, ↓L_gdZ_ff, ↓T_and, ↓T_imp, ↓T_all, Nat.reduceBEq, Nat.reduceAdd, Nat.reduceSub, Nat.reduceMul, Nat.reduceLT, Nat.reduceLeDiff, Nat.reduceEqDiff, Int.reduceLT, Int.reduceLE, Int.reduceAdd, Int.reduceSub, Int.reduceMul, Int.reduceNeg, Int.reduceToNat, Int.reduceEq, Int.reduceNe, reduceIte, reduceCtorEq, BitVec.reduceOfInt, BitVec.reduceToNat, hp, hh, hfs, hz, hfl, hcl, hel, hxt]; try simp only [top_out])
          exact dropC_append hM (bS_lt _ _) hK
end Go.Proofs.Ytbiolfeincepoaa.Eng
