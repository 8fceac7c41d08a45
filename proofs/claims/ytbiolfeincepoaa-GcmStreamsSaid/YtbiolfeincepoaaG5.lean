/- Seal and Open, of the program and of the document. -/
import Derived.Test.YtbiolfeincepoaaG4
namespace Go.Proofs.Ytbiolfeincepoaa.Eng
open Go Go.RowKit
set_option linter.unusedSimpArgs false
set_option linter.unusedVariables false

def encE (key : List (BitVec 8)) : List (BitVec 8) → List (BitVec 8) := fun x => aesN (ciph key) x 14
theorem encE_len (key x : List (BitVec 8)) : (encE key x).length = 16 := aesN_len _ _ _
theorem encE_ref (key : List (BitVec 8)) : (fun x => refN4 (ciphR key) x 14) = encE key := funext fun x => (aes_ref 14).symm
def sealL (key nonce ad text : List (BitVec 8)) : List (BitVec 8) := cryL (encE key) nonce text ++ tagL (encE key) nonce ad (cryL (encE key) nonce text)
theorem sealL_len (key nonce ad text : List (BitVec 8)) : (sealL key nonce ad text).length = text.length + 16 := by
  unfold sealL; rw [List.length_append, cryL_len, tagL_len]
def sealE (key nonce ad text : List (BitVec 8)) : Int := if key.length ≠ 32 then 40 else if nonce.length ≠ 12 then 50 else if 65536 < ad.length ∨ 65536 < text.length then 51 else 0
theorem sealE_0 {key nonce ad text : List (BitVec 8)} (h : sealE key nonce ad text = 0) : key.length = 32 ∧ nonce.length = 12 ∧ ad.length ≤ 65536 ∧ text.length ≤ 65536 := by
  unfold sealE at h
  split at h
  · cases h
  · split at h
    · cases h
    · split at h
      · cases h
      · omega
theorem sealE_ok {key nonce ad text : List (BitVec 8)} (h1 : key.length = 32) (h2 : nonce.length = 12) (h3 : ad.length ≤ 65536) (h4 : text.length ≤ 65536) : sealE key nonce ad text = 0 := by
  unfold sealE
  rw [if_neg (by omega), if_neg (by omega), if_neg (by omega)]
theorem bneN {n k : Nat} (h : n ≠ k) : ((n : Int) != (k : Int)) = true := by simp; omega
theorem bneNe {n : Nat} : ((n : Int) != (n : Int)) = false := by simp
set_option maxHeartbeats 2000000 in
theorem seal_ok (nk ok lk ck nn no ln nc na oa la ca nt ot lt ct : Nat) (key nonce ad text : List (BitVec 8)) (M : List Blk) (K : SV → List Blk → Prop)
    (hk : BAt M nk ok key) (hlk : lk = key.length) (hck : lk ≤ ck) (hmk : lk ≤ 140737488355000) (hn : BAt M nn no nonce) (hln : ln = nonce.length) (ha : BAt M na oa ad) (hla : la = ad.length) (hca : la ≤ ca)
    (ht : BAt M nt ot text) (hlt : lt = text.length) (hct : lt ≤ ct)
    (h1 : sealE key nonce ad text = 0 → ∀ z ty, K (.tup [.sl M.length 0 (text.length + 16) (text.length + 16 + z.length), .i .i64 0]) (M ++ [.row (bS (sealL key nonce ad text ++ z)) ty]))
    (h0 : sealE key nonce ad text ≠ 0 → K (.tup [.sn, .i .i64 (sealE key nonce ad text)]) M) :
    callVC Try.prog 9 [.sl nk ok lk ck, .sl nn no ln nc, .sl na oa la ca, .sl nt ot lt ct] M K := by
  subst hlk hln hla hlt
  by_cases k32 : key.length = 32
  · have b1 : ((key.length : Int) != 32) = false := beqIN k32
    by_cases n12 : nonce.length = 12
    · have b2 : ((nonce.length : Int) != 12) = false := by rw [n12]; rfl
      by_cases hbig : 65536 < ad.length ∨ 65536 < text.length
      · have he : sealE key nonce ad text = 51 := by unfold sealE; rw [if_neg (by omega), if_neg (by omega), if_pos hbig]
        have hK := h0 (by rw [he]; decide)
        rw [he] at hK
        refine fn_rule tabOK Try.func9 rfl Try.call9 (by kernel_rfl) (fun hM => ?_)
        (refine top_in ?_; simp -implicitDefEqProofs only [Try.ntmps9, Try.results9, go_sem, -List.reduceReplicate, ↓L_gdZ_tt, ↓L_gdZ_tf, ↓L_gdZ_ft, ↓L_gdZ_ff, ↓T_and, ↓T_imp, ↓T_all, Nat.reduceBEq, Nat.reduceAdd, Nat.reduceSub, Nat.reduceMul, Nat.reduceLT, Nat.reduceLeDiff, Nat.reduceEqDiff, Int.reduceLT, Int.reduceLE, Int.reduceAdd, Int.reduceSub, Int.reduceMul, Int.reduceNeg, Int.reduceToNat, Int.reduceEq, Int.reduceNe, reduceIte, reduceCtorEq, BitVec.reduceOfInt, BitVec.reduceToNat, b1, b2]; try simp only [top_out])
        repeat' (with_reducible first | refine And.intro ?_ ?_ | intro)
        all_goals first
          | exact dropC_self hM rfl hK
          | (exfalso; omega)
      · have he := sealE_ok k32 n12 (ad := ad) (text := text) (by omega) (by omega)
        have hK := h1 he
        have b3 : (65536 < (ad.length : Int)) = False := by simp; omega
        have b4 : (65536 < (text.length : Int)) = False := by simp; omega
        refine fn_rule tabOK Try.func9 rfl Try.call9 (by kernel_rfl) (fun hM => ?_)
        (refine top_in ?_; simp -implicitDefEqProofs only [Try.ntmps9, Try.results9, go_sem, -List.reduceReplicate, ↓L_gdZ_tt, ↓L_gdZ_tf, ↓L_gdZ_ft, ↓L_gdZ_ff, ↓T_and, ↓T_imp, ↓T_all, Nat.reduceBEq, Nat.reduceAdd, Nat.reduceSub, Nat.reduceMul, Nat.reduceLT, Nat.reduceLeDiff, Nat.reduceEqDiff, Int.reduceLT, Int.reduceLE, Int.reduceAdd, Int.reduceSub, Int.reduceMul, Int.reduceNeg, Int.reduceToNat, Int.reduceEq, Int.reduceNe, reduceIte, reduceCtorEq, BitVec.reduceOfInt, BitVec.reduceToNat, b1, b2, b3, b4]; try simp only [top_out])
        refine new_ok nk ok ck key _ _ hk (by omega) hck (fun _ => ?_) (fun h => absurd k32 h)
        (refine top_in ?_; simp -implicitDefEqProofs only [go_sem, -List.reduceReplicate, ↓L_gdZ_tt, ↓L_gdZ_tf, ↓L_gdZ_ft, ↓L_gdZ_ff, ↓T_and, ↓T_imp, ↓T_all, Nat.reduceBEq, Nat.reduceAdd, Nat.reduceSub, Nat.reduceMul, Nat.reduceLT, Nat.reduceLeDiff, Nat.reduceEqDiff, Int.reduceLT, Int.reduceLE, Int.reduceAdd, Int.reduceSub, Int.reduceMul, Int.reduceNeg, Int.reduceToNat, Int.reduceEq, Int.reduceNe, reduceIte, reduceCtorEq, BitVec.reduceOfInt, BitVec.reduceToNat, q00, n12]; try simp only [top_out])
        refine crypt_ok M.length nn no nc nt ot text.length ct (ciph key) nonce text 53 _ _ (by rw [get_app0]; rfl) (ciph_len k32) hn.app n12 ht.app rfl hct (by omega) ?_
        intro z ty
        (refine top_in ?_; simp -implicitDefEqProofs only [go_sem, -List.reduceReplicate, ↓L_gdZ_tt, ↓L_gdZ_tf, ↓L_gdZ_ft, ↓L_gdZ_ff, ↓T_and, ↓T_imp, ↓T_all, Nat.reduceBEq, Nat.reduceAdd, Nat.reduceSub, Nat.reduceMul, Nat.reduceLT, Nat.reduceLeDiff, Nat.reduceEqDiff, Int.reduceLT, Int.reduceLE, Int.reduceAdd, Int.reduceSub, Int.reduceMul, Int.reduceNeg, Int.reduceToNat, Int.reduceEq, Int.reduceNe, reduceIte, reduceCtorEq, BitVec.reduceOfInt, BitVec.reduceToNat, n12]; try simp only [top_out])
        have hcl := cryL_len (encE key) nonce text
        rw [show (fun x => aesN (ciph key) x 14) = encE key from rfl]
        refine tag_ok M.length nn no nc na oa ad.length ca (M.length + 1) 0 text.length _ (ciph key) nonce ad (cryL (encE key) nonce text) 53 _ _ (by rw [get_app0]; rfl) (ciph_len k32) hn.app n12 ha.app rfl hca (by omega) (BAt.row (z := z) (ty := ty) (by rw [get_app]; rfl)) hcl.symm (by omega) (by omega) ?_
        rw [show (fun x => aesN (ciph key) x 14) = encE key from rfl]
        have htl := tagL_len (encE key) nonce ad (cryL (encE key) nonce text)
        generalize htg : tagL (encE key) nonce ad (cryL (encE key) nonce text) = tg at htl
        (refine top_in ?_; simp -implicitDefEqProofs only [go_sem, -List.reduceReplicate, ↓L_gdZ_tt, ↓L_gdZ_tf, ↓L_gdZ_ft, ↓L_gdZ_ff, ↓T_and, ↓T_imp, ↓T_all, Nat.reduceBEq, Nat.reduceAdd, Nat.reduceSub, Nat.reduceMul, Nat.reduceLT, Nat.reduceLeDiff, Nat.reduceEqDiff, Int.reduceLT, Int.reduceLE, Int.reduceAdd, Int.reduceSub, Int.reduceMul, Int.reduceNeg, Int.reduceToNat, Int.reduceEq, Int.reduceNe, reduceIte, reduceCtorEq, BitVec.reduceOfInt, BitVec.reduceToNat, n12, htl]; try simp only [top_out])
        refine app8 (M.length + 1) (cryL (encE key) nonce text) z tg ty rfl rfl rfl (by rw [get_app]; rfl) hcl.symm (by omega) (src_row (z := []) (ty := 42) (by rw [get_app, List.append_nil]; rfl) htl.symm) (by omega) ?_
        intro z' ty'
        have hse : cryL (encE key) nonce text ++ tg = sealL key nonce ad text := by unfold sealL; rw [htg]
        rw [hse, hcl, htl]
        (refine top_in ?_; simp -implicitDefEqProofs only [go_sem, -List.reduceReplicate, ↓L_gdZ_tt, ↓L_gdZ_tf, ↓L_gdZ_ft, ↓L_gdZ_ff, ↓T_and, ↓T_imp, ↓T_all, Nat.reduceBEq, Nat.reduceAdd, Nat.reduceSub, Nat.reduceMul, Nat.reduceLT, Nat.reduceLeDiff, Nat.reduceEqDiff, Int.reduceLT, Int.reduceLE, Int.reduceAdd, Int.reduceSub, Int.reduceMul, Int.reduceNeg, Int.reduceToNat, Int.reduceEq, Int.reduceNe, reduceIte, reduceCtorEq, BitVec.reduceOfInt, BitVec.reduceToNat]; try simp only [top_out])
        refine dropC_gc (L := [.row (bS (ciph key)) 53, .dead, .row (bS tg) 42, .row (bS (sealL key nonce ad text ++ z')) ty']) hM [some 3] (.tup [.sl M.length 0 (text.length + 16) (text.length + 16 + z'.length), .i .i64 0]) [.row (bS (sealL key nonce ad text ++ z')) ty'] rfl ⟨keep8 rfl, trivial⟩ (by simp [lt_row]) (by simp [SV.lt, ltL]) (fun ρ => ?_) (hK z' ty')
        simp only [rn_tup, rnL_cons, rnL_nil, rn_sl_at0, rn_i, List.getElem?_cons_zero, Option.join_some, rnSl_s, Nat.add_assoc]
    · have b2 : ((nonce.length : Int) != 12) = true := bneN n12
      have he : sealE key nonce ad text = 50 := by unfold sealE; rw [if_neg (by omega), if_pos n12]
      have hK := h0 (by rw [he]; decide)
      rw [he] at hK
      refine fn_rule tabOK Try.func9 rfl Try.call9 (by kernel_rfl) (fun hM => ?_)
      (refine top_in ?_; simp -implicitDefEqProofs only [Try.ntmps9, Try.results9, go_sem, -List.reduceReplicate, ↓L_gdZ_tt, ↓L_gdZ_tf, ↓L_gdZ_ft, ↓L_gdZ_ff, ↓T_and, ↓T_imp, ↓T_all, Nat.reduceBEq, Nat.reduceAdd, Nat.reduceSub, Nat.reduceMul, Nat.reduceLT, Nat.reduceLeDiff, Nat.reduceEqDiff, Int.reduceLT, Int.reduceLE, Int.reduceAdd, Int.reduceSub, Int.reduceMul, Int.reduceNeg, Int.reduceToNat, Int.reduceEq, Int.reduceNe, reduceIte, reduceCtorEq, BitVec.reduceOfInt, BitVec.reduceToNat, b1, b2]; try simp only [top_out])
      exact dropC_self hM rfl hK
  · have b1 : ((key.length : Int) != 32) = true := bneN k32
    have he : sealE key nonce ad text = 40 := by unfold sealE; rw [if_pos k32]
    have hK := h0 (by rw [he]; decide)
    rw [he] at hK
    refine fn_rule tabOK Try.func9 rfl Try.call9 (by kernel_rfl) (fun hM => ?_)
    (refine top_in ?_; simp -implicitDefEqProofs only [Try.ntmps9, Try.results9, go_sem, -List.reduceReplicate, ↓L_gdZ_tt, ↓L_gdZ_tf, ↓L_gdZ_ft, ↓L_gdZ_ff, ↓T_and, ↓T_imp, ↓T_all, Nat.reduceBEq, Nat.reduceAdd, Nat.reduceSub, Nat.reduceMul, Nat.reduceLT, Nat.reduceLeDiff, Nat.reduceEqDiff, Int.reduceLT, Int.reduceLE, Int.reduceAdd, Int.reduceSub, Int.reduceMul, Int.reduceNeg, Int.reduceToNat, Int.reduceEq, Int.reduceNe, reduceIte, reduceCtorEq, BitVec.reduceOfInt, BitVec.reduceToNat, b1]; try simp only [top_out])
    exact dropC_self hM rfl hK


set_option maxHeartbeats 2000000 in
theorem refseal_ok (nk ok lk ck nn no ln nc na oa la ca nt ot lt ct : Nat) (key nonce ad text : List (BitVec 8)) (M : List Blk) (K : SV → List Blk → Prop)
    (hk : BAt M nk ok key) (hlk : lk = key.length) (hck : lk ≤ ck) (hmk : lk ≤ 140737488355000) (hn : BAt M nn no nonce) (hln : ln = nonce.length) (ha : BAt M na oa ad) (hla : la = ad.length) (hca : la ≤ ca)
    (ht : BAt M nt ot text) (hlt : lt = text.length) (hct : lt ≤ ct)
    (h1 : sealE key nonce ad text = 0 → ∀ z ty, K (.tup [.sl M.length 0 (text.length + 16) (text.length + 16 + z.length), .i .i64 0]) (M ++ [.row (bS (sealL key nonce ad text ++ z)) ty]))
    (h0 : sealE key nonce ad text ≠ 0 → K (.tup [.sn, .i .i64 (sealE key nonce ad text)]) M) :
    callVC Try.prog 11 [.sl nk ok lk ck, .sl nn no ln nc, .sl na oa la ca, .sl nt ot lt ct] M K := by
  subst hlk hln hla hlt
  by_cases k32 : key.length = 32
  · have b1 : ((key.length : Int) != 32) = false := beqIN k32
    by_cases n12 : nonce.length = 12
    · have b2 : ((nonce.length : Int) != 12) = false := by rw [n12]; rfl
      by_cases hbig : 65536 < ad.length ∨ 65536 < text.length
      · have he : sealE key nonce ad text = 51 := by unfold sealE; rw [if_neg (by omega), if_neg (by omega), if_pos hbig]
        have hK := h0 (by rw [he]; decide)
        rw [he] at hK
        refine fn_rule tabOK Try.func11 rfl Try.call11 (by kernel_rfl) (fun hM => ?_)
        (refine top_in ?_; simp -implicitDefEqProofs only [Try.ntmps11, Try.results11, go_sem, -List.reduceReplicate, ↓L_gdZ_tt, ↓L_gdZ_tf, ↓L_gdZ_ft, ↓L_gdZ_ff, ↓T_and, ↓T_imp, ↓T_all, Nat.reduceBEq, Nat.reduceAdd, Nat.reduceSub, Nat.reduceMul, Nat.reduceLT, Nat.reduceLeDiff, Nat.reduceEqDiff, Int.reduceLT, Int.reduceLE, Int.reduceAdd, Int.reduceSub, Int.reduceMul, Int.reduceNeg, Int.reduceToNat, Int.reduceEq, Int.reduceNe, reduceIte, reduceCtorEq, BitVec.reduceOfInt, BitVec.reduceToNat, b1, b2]; try simp only [top_out])
        repeat' (with_reducible first | refine And.intro ?_ ?_ | intro)
        all_goals first
          | exact dropC_self hM rfl hK
          | (exfalso; omega)
      · have he := sealE_ok k32 n12 (ad := ad) (text := text) (by omega) (by omega)
        have hK := h1 he
        have b3 : (65536 < (ad.length : Int)) = False := by simp; omega
        have b4 : (65536 < (text.length : Int)) = False := by simp; omega
        refine fn_rule tabOK Try.func11 rfl Try.call11 (by kernel_rfl) (fun hM => ?_)
        (refine top_in ?_; simp -implicitDefEqProofs only [Try.ntmps11, Try.results11, go_sem, -List.reduceReplicate, ↓L_gdZ_tt, ↓L_gdZ_tf, ↓L_gdZ_ft, ↓L_gdZ_ff, ↓T_and, ↓T_imp, ↓T_all, Nat.reduceBEq, Nat.reduceAdd, Nat.reduceSub, Nat.reduceMul, Nat.reduceLT, Nat.reduceLeDiff, Nat.reduceEqDiff, Int.reduceLT, Int.reduceLE, Int.reduceAdd, Int.reduceSub, Int.reduceMul, Int.reduceNeg, Int.reduceToNat, Int.reduceEq, Int.reduceNe, reduceIte, reduceCtorEq, BitVec.reduceOfInt, BitVec.reduceToNat, b1, b2, b3, b4]; try simp only [top_out])
        refine refnew_ok nk ok ck key _ _ hk (by omega) hck (fun _ => ?_) (fun h => absurd k32 h)
        (refine top_in ?_; simp -implicitDefEqProofs only [go_sem, -List.reduceReplicate, ↓L_gdZ_tt, ↓L_gdZ_tf, ↓L_gdZ_ft, ↓L_gdZ_ff, ↓T_and, ↓T_imp, ↓T_all, Nat.reduceBEq, Nat.reduceAdd, Nat.reduceSub, Nat.reduceMul, Nat.reduceLT, Nat.reduceLeDiff, Nat.reduceEqDiff, Int.reduceLT, Int.reduceLE, Int.reduceAdd, Int.reduceSub, Int.reduceMul, Int.reduceNeg, Int.reduceToNat, Int.reduceEq, Int.reduceNe, reduceIte, reduceCtorEq, BitVec.reduceOfInt, BitVec.reduceToNat, q00, n12]; try simp only [top_out])
        have hcl := cryL_len (encE key) nonce text
        have htl := tagL_len (encE key) nonce ad (cryL (encE key) nonce text)
        refine streamed_ok M.length nn no nc nt ot text.length ct (ciphR key) nonce text 70 _ _ (by rw [get_app0]; rfl) (ciphR_len k32) ciphR_two hn.app n12 ht.app rfl (by omega) ?_
        intro z ty
        rw [encE_ref]
        (refine top_in ?_; simp -implicitDefEqProofs only [go_sem, -List.reduceReplicate, ↓L_gdZ_tt, ↓L_gdZ_tf, ↓L_gdZ_ft, ↓L_gdZ_ff, ↓T_and, ↓T_imp, ↓T_all, Nat.reduceBEq, Nat.reduceAdd, Nat.reduceSub, Nat.reduceMul, Nat.reduceLT, Nat.reduceLeDiff, Nat.reduceEqDiff, Int.reduceLT, Int.reduceLE, Int.reduceAdd, Int.reduceSub, Int.reduceMul, Int.reduceNeg, Int.reduceToNat, Int.reduceEq, Int.reduceNe, reduceIte, reduceCtorEq, BitVec.reduceOfInt, BitVec.reduceToNat, n12]; try simp only [top_out])
        refine reftag_ok M.length nn no nc na oa ad.length ca (M.length + 1) 0 text.length _ (ciphR key) nonce ad (cryL (encE key) nonce text) 70 _ _ (by rw [get_app0]; rfl) (ciphR_len k32) ciphR_two hn.app n12 ha.app rfl (by omega) (BAt.row (z := z) (ty := ty) (by rw [get_app]; rfl)) hcl.symm (by omega) ?_
        rw [encE_ref]
        have hse : cryL (encE key) nonce text ++ tagL (encE key) nonce ad (cryL (encE key) nonce text) = sealL key nonce ad text := rfl
        have hSl := sealL_len key nonce ad text
        have hS0 : (sealL key nonce ad text).take text.length = cryL (encE key) nonce text := by rw [← hse, List.take_append_of_le_length (by omega), List.take_of_length_le (by omega)]
        have hSg : ∀ k, k < 16 → (sealL key nonce ad text).getD (text.length + k) 0#8 = (tagL (encE key) nonce ad (cryL (encE key) nonce text)).getD k 0#8 := fun k hk => by
          rw [← hse, List.getD_eq_getElem?_getD, List.getElem?_append_right (by omega), hcl, Nat.add_sub_cancel_left, ← List.getD_eq_getElem?_getD]
        generalize tagL (encE key) nonce ad (cryL (encE key) nonce text) = tg at htl hSg
        rw [← hS0]
        generalize sealL key nonce ad text = S at hSl hSg hK
        (refine top_in ?_; simp -implicitDefEqProofs only [go_sem, -List.reduceReplicate, ↓L_gdZ_tt, ↓L_gdZ_tf, ↓L_gdZ_ft, ↓L_gdZ_ff, ↓T_and, ↓T_imp, ↓T_all, Nat.reduceBEq, Nat.reduceAdd, Nat.reduceSub, Nat.reduceMul, Nat.reduceLT, Nat.reduceLeDiff, Nat.reduceEqDiff, Int.reduceLT, Int.reduceLE, Int.reduceAdd, Int.reduceSub, Int.reduceMul, Int.reduceNeg, Int.reduceToNat, Int.reduceEq, Int.reduceNe, reduceIte, reduceCtorEq, BitVec.reduceOfInt, BitVec.reduceToNat, n12, htl]; try simp only [top_out])
        refine loop_gc tabOK (by kernel_rfl) (fun i ts M' => ∃ (k : Nat) (z : List (BitVec 8)) (ty : TypeId), k + i = 16 ∧ frC [none, none, none, none, none, none, none, none, none, none, none, none, some (.sl M.length 0 (text.length + k) (text.length + k + z.length)), some (.p (M.length + 1) 0), some (.i .i64 k), none, none, none, none, none, none, none, none, none, none, none, none, none, none, none, none, none, none, none, none, none, none, none, none, none, none, none, none, none, none, none, none, none, none, none, none, none, none, none] ts ∧
          M' = M ++ [.row (bS (S.take (text.length + k) ++ z)) ty, .row (bS tg) 42]) 16 ?_ ?_
        · refine covF_gc hM [some 1, some 2] [none, none, none, none, none, none, none, none, none, none, none, none, some (.sl M.length 0 text.length (text.length + z.length)), some (.p (M.length + 1) 0), some (.i .i64 0), none, none, none, none, none, none, none, none, none, none, none, none, none, none, none, none, none, none, none, none, none, none, none, none, none, none, none, none, none, none, none, none, none, none, none, none, none, none, none]
            [.row (bS (S.take text.length ++ z)) ty, .row (bS tg) 42] rfl ⟨keep8 rfl, keep8 rfl, trivial⟩ (by simp [lt_row]) ?_ ?_ (fun ts' h => ⟨0, z, ty, by omega, by simpa using h, by simp⟩)
          · simp only [Int.natCast_add, cast_lit, Nat.add_assoc, rnSl_n, frRn_nil, frRn_s, frRn_n, frLt_nil, frLt_s, frLt_n, rn_i, rn_u8, rn_u32, rn_u64, rn_b, rn_str, rn_sn, rn_pn, rn_agg, rn_tup, rnL_nil, rnL_cons, rn_bS, rn_nil, rn_sl_at, rn_sl_at0, rn_p_at, rn_p_at0, rnSl_s, rnP_s, lt_i, lt_u8, lt_u32, lt_u64, lt_b, lt_sl, lt_p, lt_agg, lt_tup, ltL_nil', ltL_cons, bS_lt, List.getElem?_cons_succ, List.getElem?_cons_zero, Option.join_some, Nat.add_zero, Nat.zero_add, implies_true, and_self, and_true, true_and, Bool.and_true, Bool.true_and, Bool.and_self, List.length_cons, List.length_nil, List.length_append, decide_eq_true_eq, Bool.and_eq_true]
          · simp only [Int.natCast_add, cast_lit, Nat.add_assoc, rnSl_n, frRn_nil, frRn_s, frRn_n, frLt_nil, frLt_s, frLt_n, rn_i, rn_u8, rn_u32, rn_u64, rn_b, rn_str, rn_sn, rn_pn, rn_agg, rn_tup, rnL_nil, rnL_cons, rn_bS, rn_nil, rn_sl_at, rn_sl_at0, rn_p_at, rn_p_at0, rnSl_s, rnP_s, lt_i, lt_u8, lt_u32, lt_u64, lt_b, lt_sl, lt_p, lt_agg, lt_tup, ltL_nil', ltL_cons, bS_lt, List.getElem?_cons_succ, List.getElem?_cons_zero, Option.join_some, Nat.add_zero, Nat.zero_add, implies_true, and_self, and_true, true_and, Bool.and_true, Bool.true_and, Bool.and_self, List.length_cons, List.length_nil, List.length_append, decide_eq_true_eq, Bool.and_eq_true]; omega
        · rintro i ts _ ⟨k, z, ty, hki, hf, rfl⟩
          have hlk : (S.take (text.length + k)).length = text.length + k := by rw [List.length_take]; omega
          by_cases hk16 : k < 16
          · have hp : ((k : Int) < 16) = True := by simp; omega
            obtain ⟨f, rfl⟩ := frC_open _ _ 0 hf
            clear hf
            (refine top_in ?_; simp -implicitDefEqProofs only [go_sem, -List.reduceReplicate, ↓L_gdZ_tt, ↓L_gdZ_tf, ↓L_gdZ_ft, ↓L_gdZ_ff, ↓T_and, ↓T_imp, ↓T_all, Nat.reduceBEq, Nat.reduceAdd, Nat.reduceSub, Nat.reduceMul, Nat.reduceLT, Nat.reduceLeDiff, Nat.reduceEqDiff, Int.reduceLT, Int.reduceLE, Int.reduceAdd, Int.reduceSub, Int.reduceMul, Int.reduceNeg, Int.reduceToNat, Int.reduceEq, Int.reduceNe, reduceIte, reduceCtorEq, BitVec.reduceOfInt, BitVec.reduceToNat, hp, htl]; try simp only [top_out])
            repeat (with_reducible refine And.intro (by omega) ?_)
            rw [← hSg k hk16]
            refine app8 M.length (S.take (text.length + k)) z [S.getD (text.length + k) 0#8] ty rfl rfl rfl (by rw [get_app0]; rfl) hlk.symm (by omega) (src_u8 (by rw [get_app]; rfl)) (by simp; omega) ?_
            intro z' ty'
            rw [← take_snoc (by omega), hlk]
            (refine top_in ?_; simp -implicitDefEqProofs only [go_sem, -List.reduceReplicate, ↓L_gdZ_tt, ↓L_gdZ_tf, ↓L_gdZ_ft, ↓L_gdZ_ff, ↓T_and, ↓T_imp, ↓T_all, Nat.reduceBEq, Nat.reduceAdd, Nat.reduceSub, Nat.reduceMul, Nat.reduceLT, Nat.reduceLeDiff, Nat.reduceEqDiff, Int.reduceLT, Int.reduceLE, Int.reduceAdd, Int.reduceSub, Int.reduceMul, Int.reduceNeg, Int.reduceToNat, Int.reduceEq, Int.reduceNe, reduceIte, reduceCtorEq, BitVec.reduceOfInt, BitVec.reduceToNat, htl]; try simp only [top_out])
            rw [w64 (x := (k : Int) + 1) (by omega) (by omega)]
            refine covF_gc hM [some 3, some 1] [none, none, none, none, none, none, none, none, none, none, none, none, some (.sl M.length 0 (text.length + (k + 1)) (text.length + (k + 1) + z'.length)), some (.p (M.length + 1) 0), some (.i .i64 (k + 1 : Nat)), none, none, none, none, none, none, none, none, none, none, none, none, none, none, none, none, none, none, none, none, none, none, none, none, none, none, none, none, none, none, none, none, none, none, none, none, none, none, none]
              [.row (bS (S.take (text.length + (k + 1)) ++ z')) ty', .row (bS tg) 42] rfl ⟨keep8 rfl, keep8 rfl, trivial⟩ (by simp [lt_row]) ?_ ?_ (fun ts' h => ⟨i - 1, by omega, k + 1, z', ty', by omega, by simpa [Nat.add_assoc] using h, rfl⟩)
            · simp only [Int.natCast_add, cast_lit, Nat.add_assoc, rnSl_n, frRn_nil, frRn_s, frRn_n, frLt_nil, frLt_s, frLt_n, rn_i, rn_u8, rn_u32, rn_u64, rn_b, rn_str, rn_sn, rn_pn, rn_agg, rn_tup, rnL_nil, rnL_cons, rn_bS, rn_nil, rn_sl_at, rn_sl_at0, rn_p_at, rn_p_at0, rnSl_s, rnP_s, lt_i, lt_u8, lt_u32, lt_u64, lt_b, lt_sl, lt_p, lt_agg, lt_tup, ltL_nil', ltL_cons, bS_lt, List.getElem?_cons_succ, List.getElem?_cons_zero, Option.join_some, Nat.add_zero, Nat.zero_add, implies_true, and_self, and_true, true_and, Bool.and_true, Bool.true_and, Bool.and_self, List.length_cons, List.length_nil, List.length_append, decide_eq_true_eq, Bool.and_eq_true]
            · simp only [Int.natCast_add, cast_lit, Nat.add_assoc, rnSl_n, frRn_nil, frRn_s, frRn_n, frLt_nil, frLt_s, frLt_n, rn_i, rn_u8, rn_u32, rn_u64, rn_b, rn_str, rn_sn, rn_pn, rn_agg, rn_tup, rnL_nil, rnL_cons, rn_bS, rn_nil, rn_sl_at, rn_sl_at0, rn_p_at, rn_p_at0, rnSl_s, rnP_s, lt_i, lt_u8, lt_u32, lt_u64, lt_b, lt_sl, lt_p, lt_agg, lt_tup, ltL_nil', ltL_cons, bS_lt, List.getElem?_cons_succ, List.getElem?_cons_zero, Option.join_some, Nat.add_zero, Nat.zero_add, implies_true, and_self, and_true, true_and, Bool.and_true, Bool.true_and, Bool.and_self, List.length_cons, List.length_nil, List.length_append, decide_eq_true_eq, Bool.and_eq_true]; omega
          · obtain rfl : k = 16 := by omega
            have hp : (((16 : Nat) : Int) < 16) = False := by simp
            obtain ⟨f, rfl⟩ := frC_open _ _ 0 hf
            clear hf
            (refine top_in ?_; simp -implicitDefEqProofs only [go_sem, -List.reduceReplicate, ↓L_gdZ_tt, ↓L_gdZ_tf, ↓L_gdZ_ft, ↓L_gdZ_ff, ↓T_and, ↓T_imp, ↓T_all, Nat.reduceBEq, Nat.reduceAdd, Nat.reduceSub, Nat.reduceMul, Nat.reduceLT, Nat.reduceLeDiff, Nat.reduceEqDiff, Int.reduceLT, Int.reduceLE, Int.reduceAdd, Int.reduceSub, Int.reduceMul, Int.reduceNeg, Int.reduceToNat, Int.reduceEq, Int.reduceNe, reduceIte, reduceCtorEq, BitVec.reduceOfInt, BitVec.reduceToNat, hp, htl]; try simp only [top_out])
            rw [List.take_of_length_le (by omega)]
            refine dropC_gc (L := [.row (bS (S ++ z)) ty, .row (bS tg) 42]) hM [some 0] (.tup [.sl M.length 0 (text.length + 16) (text.length + 16 + z.length), .i .i64 0]) [.row (bS (S ++ z)) ty] rfl ⟨keep8 rfl, trivial⟩ (by simp [lt_row]) (by simp [SV.lt, ltL]) (fun ρ => ?_) (hK z ty)
            simp only [rn_tup, rnL_cons, rnL_nil, rn_sl_at0, rn_i, List.getElem?_cons_zero, Option.join_some, rnSl_s, Nat.add_assoc, Nat.add_zero]
    · have b2 : ((nonce.length : Int) != 12) = true := bneN n12
      have he : sealE key nonce ad text = 50 := by unfold sealE; rw [if_neg (by omega), if_pos n12]
      have hK := h0 (by rw [he]; decide)
      rw [he] at hK
      refine fn_rule tabOK Try.func11 rfl Try.call11 (by kernel_rfl) (fun hM => ?_)
      (refine top_in ?_; simp -implicitDefEqProofs only [Try.ntmps11, Try.results11, go_sem, -List.reduceReplicate, ↓L_gdZ_tt, ↓L_gdZ_tf, ↓L_gdZ_ft, ↓L_gdZ_ff, ↓T_and, ↓T_imp, ↓T_all, Nat.reduceBEq, Nat.reduceAdd, Nat.reduceSub, Nat.reduceMul, Nat.reduceLT, Nat.reduceLeDiff, Nat.reduceEqDiff, Int.reduceLT, Int.reduceLE, Int.reduceAdd, Int.reduceSub, Int.reduceMul, Int.reduceNeg, Int.reduceToNat, Int.reduceEq, Int.reduceNe, reduceIte, reduceCtorEq, BitVec.reduceOfInt, BitVec.reduceToNat, b1, b2]; try simp only [top_out])
      exact dropC_self hM rfl hK
  · have b1 : ((key.length : Int) != 32) = true := bneN k32
    have he : sealE key nonce ad text = 40 := by unfold sealE; rw [if_pos k32]
    have hK := h0 (by rw [he]; decide)
    rw [he] at hK
    refine fn_rule tabOK Try.func11 rfl Try.call11 (by kernel_rfl) (fun hM => ?_)
    (refine top_in ?_; simp -implicitDefEqProofs only [Try.ntmps11, Try.results11, go_sem, -List.reduceReplicate, ↓L_gdZ_tt, ↓L_gdZ_tf, ↓L_gdZ_ft, ↓L_gdZ_ff, ↓T_and, ↓T_imp, ↓T_all, Nat.reduceBEq, Nat.reduceAdd, Nat.reduceSub, Nat.reduceMul, Nat.reduceLT, Nat.reduceLeDiff, Nat.reduceEqDiff, Int.reduceLT, Int.reduceLE, Int.reduceAdd, Int.reduceSub, Int.reduceMul, Int.reduceNeg, Int.reduceToNat, Int.reduceEq, Int.reduceNe, reduceIte, reduceCtorEq, BitVec.reduceOfInt, BitVec.reduceToNat, b1]; try simp only [top_out])
    exact dropC_self hM rfl hK
end Go.Proofs.Ytbiolfeincepoaa.Eng
