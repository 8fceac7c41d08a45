/- Open, of the program and of the document. -/
import Derived.Test.YtbiolfeincepoaaG5
namespace Go.Proofs.Ytbiolfeincepoaa.Eng
open Go Go.RowKit
set_option linter.unusedSimpArgs false
set_option linter.unusedVariables false

theorem neq_self (l : List (BitVec 8)) : (l != l) = false := by simp
def openP (key nonce ad s : List (BitVec 8)) : Prop := key.length = 32 ∧ nonce.length = 12 ∧ ad.length ≤ 65536 ∧ 16 ≤ s.length ∧ s.length ≤ 65552
def openT (key nonce ad s : List (BitVec 8)) : List (BitVec 8) := tagL (encE key) nonce ad (s.take (s.length - 16))
def openL (key nonce s : List (BitVec 8)) : List (BitVec 8) := cryL (encE key) nonce (s.take (s.length - 16))
theorem openL_len (key nonce s : List (BitVec 8)) : (openL key nonce s).length = s.length - 16 := by
  unfold openL; rw [cryL_len, List.length_take]; omega
def openB (key nonce ad s : List (BitVec 8)) : Bool := decide (key.length = 32) && (decide (nonce.length = 12) && (decide (ad.length ≤ 65536) && (decide (16 ≤ s.length) && (decide (s.length ≤ 65552) && s.drop (s.length - 16) == openT key nonce ad s))))
theorem openB_t {key nonce ad s : List (BitVec 8)} (h : openB key nonce ad s = true) : openP key nonce ad s ∧ s.drop (s.length - 16) = openT key nonce ad s := by
  simpa [openB, openP, and_assoc] using h
theorem openB_ok {key nonce ad s : List (BitVec 8)} (h : openP key nonce ad s) (h2 : s.drop (s.length - 16) = openT key nonce ad s) : openB key nonce ad s = true := by
  obtain ⟨a, b, c, d, e⟩ := h
  simp [openB, a, b, c, d, e, h2]
theorem openB_n {key nonce ad s : List (BitVec 8)} (h : ¬ openP key nonce ad s) : openB key nonce ad s = false := by
  cases hb : openB key nonce ad s with
  | false => rfl
  | true => exact absurd (openB_t hb).1 h
theorem openB_d {key nonce ad s : List (BitVec 8)} (h : s.drop (s.length - 16) ≠ openT key nonce ad s) : openB key nonce ad s = false := by
  cases hb : openB key nonce ad s with
  | false => rfl
  | true => exact absurd (openB_t hb).2 h
set_option maxHeartbeats 2000000 in
theorem open_ok (nk ok lk ck nn no ln nc na oa la ca nt ot lt ct : Nat) (key nonce ad s : List (BitVec 8)) (M : List Blk) (K : SV → List Blk → Prop)
    (hk : BAt M nk ok key) (hlk : lk = key.length) (hck : lk ≤ ck) (hmk : lk ≤ 140737488355000) (hn : BAt M nn no nonce) (hln : ln = nonce.length) (ha : BAt M na oa ad) (hla : la = ad.length) (hca : la ≤ ca)
    (ht : BAt M nt ot s) (hlt : lt = s.length) (hct : lt ≤ ct) (hms : lt ≤ 140737488355000)
    (h1 : openB key nonce ad s = true → ∀ z ty, K (.tup [.sl M.length 0 (s.length - 16) (s.length - 16 + z.length), .b true]) (M ++ [.row (bS (openL key nonce s ++ z)) ty]))
    (h0 : openB key nonce ad s = false → K (.tup [.sn, .b false]) M) :
    callVC Try.prog 14 [.sl nk ok lk ck, .sl nn no ln nc, .sl na oa la ca, .sl nt ot lt ct] M K := by
  subst hlk hln hla hlt
  have w16 : IntKind.i64.wrap ((s.length : Int) - 16) = (s.length : Int) - 16 := w64 (by omega) (by omega)
  by_cases k32 : key.length = 32
  · have b1 : ((key.length : Int) != 32) = false := beqIN k32
    by_cases n12 : nonce.length = 12
    · have b2 : ((nonce.length : Int) != 12) = false := by rw [n12]; rfl
      by_cases hbig : ad.length ≤ 65536 ∧ 16 ≤ s.length ∧ s.length ≤ 65552
      · have hP : openP key nonce ad s := ⟨k32, n12, hbig.1, hbig.2.1, hbig.2.2⟩
        have b3 : (65536 < (ad.length : Int)) = False := by simp; omega
        have b4 : ((s.length : Int) - 16 < 0) = False := by simp; omega
        have b5 : (65536 < (s.length : Int) - 16) = False := by simp; omega
        have e16 : (s.length : Int) - 16 = ((s.length - 16 : Nat) : Int) := by omega
        refine fn_rule tabOK Try.func14 rfl Try.call14 (by kernel_rfl) (fun hM => ?_)
        (refine top_in ?_; simp -implicitDefEqProofs only [Try.ntmps14, Try.results14, go_sem, -List.reduceReplicate, ↓L_gdZ_tt, ↓L_gdZ_tf, ↓L_gdZ_ft, ↓L_gdZ_ff, ↓T_and, ↓T_imp, ↓T_all, Nat.reduceBEq, Nat.reduceAdd, Nat.reduceSub, Nat.reduceMul, Nat.reduceLT, Nat.reduceLeDiff, Nat.reduceEqDiff, Int.reduceLT, Int.reduceLE, Int.reduceAdd, Int.reduceSub, Int.reduceMul, Int.reduceNeg, Int.reduceToNat, Int.reduceEq, Int.reduceNe, reduceIte, reduceCtorEq, BitVec.reduceOfInt, BitVec.reduceToNat, b1, b2, b3, b4, b5, w16]; try simp only [top_out])
        refine new_ok nk ok ck key _ _ hk (by omega) hck (fun _ => ?_) (fun h => absurd k32 h)
        (refine top_in ?_; simp -implicitDefEqProofs only [go_sem, -List.reduceReplicate, ↓L_gdZ_tt, ↓L_gdZ_tf, ↓L_gdZ_ft, ↓L_gdZ_ff, ↓T_and, ↓T_imp, ↓T_all, Nat.reduceBEq, Nat.reduceAdd, Nat.reduceSub, Nat.reduceMul, Nat.reduceLT, Nat.reduceLeDiff, Nat.reduceEqDiff, Int.reduceLT, Int.reduceLE, Int.reduceAdd, Int.reduceSub, Int.reduceMul, Int.reduceNeg, Int.reduceToNat, Int.reduceEq, Int.reduceNe, reduceIte, reduceCtorEq, BitVec.reduceOfInt, BitVec.reduceToNat, q00, n12, e16]; try simp only [top_out])
        obtain ⟨n, hn16⟩ : ∃ n, n + 16 = s.length := ⟨s.length - 16, by omega⟩
        have hsn : s.length - 16 = n := by omega
        have hdl : (s.drop n).length = 16 := by rw [List.length_drop]; omega
        have htk : (s.take n).length = n := by rw [List.length_take]; omega
        have c0 : (ct = n) = False := by simp; omega
        have c1 : s.length - n = 16 := by omega
        have hTl : (openT key nonce ad s).length = 16 := tagL_len _ _ _ _
        have hbd := ht.sub (a := n) (k := 16) (by omega)
        rw [List.take_of_length_le (by omega)] at hbd
        have hbt := ht.sub (a := 0) (k := n) (by omega)
        rw [List.drop_zero, Nat.add_zero] at hbt
        rw [hsn]
        refine draw_rule tabOK (by kernel_rfl : _) (.p 0 (.p 1 (.p 2 (.p 3 (.e 4 [] .nil .no))))) (by kernel_rfl) (by kernel_rfl) ?_
        (refine top_in ?_; simp -implicitDefEqProofs only [go_sem, -List.reduceReplicate, ↓L_gdZ_tt, ↓L_gdZ_tf, ↓L_gdZ_ft, ↓L_gdZ_ff, ↓T_and, ↓T_imp, ↓T_all, Nat.reduceBEq, Nat.reduceAdd, Nat.reduceSub, Nat.reduceMul, Nat.reduceLT, Nat.reduceLeDiff, Nat.reduceEqDiff, Int.reduceLT, Int.reduceLE, Int.reduceAdd, Int.reduceSub, Int.reduceMul, Int.reduceNeg, Int.reduceToNat, Int.reduceEq, Int.reduceNe, reduceIte, reduceCtorEq, BitVec.reduceOfInt, BitVec.reduceToNat, n12, c0, c1]; try simp only [top_out])
        repeat (with_reducible refine And.intro (by omega) ?_)
        have hs := (hbd.app (L := [.row (bS (ciph key)) 53, .row (bS (List.replicate 16 0#8)) 42])).src (cap := ct - n)
        rw [hdl] at hs
        refine copy8 (M.length + 1) 0 (List.replicate 16 0#8) (s.drop n) 42 rfl (by rw [get_app]; rfl) (by simp) hs ?_
        rw [pad16_copy, show pad16 (s.drop n) = s.drop n from (gl_self hdl 0#8).symm]
        (refine top_in ?_; simp -implicitDefEqProofs only [go_sem, -List.reduceReplicate, ↓L_gdZ_tt, ↓L_gdZ_tf, ↓L_gdZ_ft, ↓L_gdZ_ff, ↓T_and, ↓T_imp, ↓T_all, Nat.reduceBEq, Nat.reduceAdd, Nat.reduceSub, Nat.reduceMul, Nat.reduceLT, Nat.reduceLeDiff, Nat.reduceEqDiff, Int.reduceLT, Int.reduceLE, Int.reduceAdd, Int.reduceSub, Int.reduceMul, Int.reduceNeg, Int.reduceToNat, Int.reduceEq, Int.reduceNe, reduceIte, reduceCtorEq, BitVec.reduceOfInt, BitVec.reduceToNat, n12, c0, c1]; try simp only [top_out])
        refine draw_rule tabOK (by kernel_rfl : _) (.p 0 (.p 1 (.p 2 (.p 3 (.p 4 (.p 5 (.p 6 (.e 7 [0] (.p 8 .nil) .no)))))))) (by kernel_rfl) (by kernel_rfl) ?_
        (refine top_in ?_; simp -implicitDefEqProofs only [go_sem, -List.reduceReplicate, ↓L_gdZ_tt, ↓L_gdZ_tf, ↓L_gdZ_ft, ↓L_gdZ_ff, ↓T_and, ↓T_imp, ↓T_all, Nat.reduceBEq, Nat.reduceAdd, Nat.reduceSub, Nat.reduceMul, Nat.reduceLT, Nat.reduceLeDiff, Nat.reduceEqDiff, Int.reduceLT, Int.reduceLE, Int.reduceAdd, Int.reduceSub, Int.reduceMul, Int.reduceNeg, Int.reduceToNat, Int.reduceEq, Int.reduceNe, reduceIte, reduceCtorEq, BitVec.reduceOfInt, BitVec.reduceToNat, n12, c0, c1, hdl]; try simp only [top_out])
        repeat (with_reducible refine And.intro (by omega) ?_)
        refine tag_ok M.length nn no nc na oa ad.length ca nt ot n ct (ciph key) nonce ad (s.take n) 53 _ _ (by rw [get_app0]; rfl) (ciph_len k32) hn.app n12 ha.app rfl hca (by omega) hbt.app htk.symm (by omega) (by omega) ?_
        have hT : tagL (fun x => aesN (ciph key) x 14) nonce ad (s.take n) = openT key nonce ad s := by unfold openT; rw [hsn]; rfl
        rw [hT]
        (refine top_in ?_; simp -implicitDefEqProofs only [go_sem, -List.reduceReplicate, ↓L_gdZ_tt, ↓L_gdZ_tf, ↓L_gdZ_ft, ↓L_gdZ_ff, ↓T_and, ↓T_imp, ↓T_all, Nat.reduceBEq, Nat.reduceAdd, Nat.reduceSub, Nat.reduceMul, Nat.reduceLT, Nat.reduceLeDiff, Nat.reduceEqDiff, Int.reduceLT, Int.reduceLE, Int.reduceAdd, Int.reduceSub, Int.reduceMul, Int.reduceNeg, Int.reduceToNat, Int.reduceEq, Int.reduceNe, reduceIte, reduceCtorEq, BitVec.reduceOfInt, BitVec.reduceToNat, n12, c0, c1, hdl, hTl]; try simp only [top_out])
        refine ⟨fun hd => dropC_append hM rfl (h0 (openB_d (by rw [hsn]; simpa using hd))), fun hd => ?_⟩
        have hK := h1 (openB_ok hP (by rw [hsn]; simpa using hd))
        have hL : cryL (encE key) nonce (s.take n) = openL key nonce s := by unfold openL; rw [hsn]
        rw [hsn] at hK
        repeat (with_reducible refine And.intro (by omega) ?_)
        refine crypt_ok M.length nn no nc nt ot n ct (ciph key) nonce (s.take n) 53 _ _ (by rw [get_app0]; rfl) (ciph_len k32) hn.app n12 hbt.app htk.symm (by omega) (by omega) ?_
        intro z ty
        rw [show (fun x => aesN (ciph key) x 14) = encE key from rfl, hL, htk]
        (refine top_in ?_; simp -implicitDefEqProofs only [go_sem, -List.reduceReplicate, ↓L_gdZ_tt, ↓L_gdZ_tf, ↓L_gdZ_ft, ↓L_gdZ_ff, ↓T_and, ↓T_imp, ↓T_all, Nat.reduceBEq, Nat.reduceAdd, Nat.reduceSub, Nat.reduceMul, Nat.reduceLT, Nat.reduceLeDiff, Nat.reduceEqDiff, Int.reduceLT, Int.reduceLE, Int.reduceAdd, Int.reduceSub, Int.reduceMul, Int.reduceNeg, Int.reduceToNat, Int.reduceEq, Int.reduceNe, reduceIte, reduceCtorEq, BitVec.reduceOfInt, BitVec.reduceToNat]; try simp only [top_out])
        refine dropC_gc (L := [.row (bS (ciph key)) 53, .row (bS (s.drop n)) 42, .row (bS (openL key nonce s ++ z)) ty]) hM [some 2] (.tup [.sl M.length 0 n (n + z.length), .b true]) [.row (bS (openL key nonce s ++ z)) ty] rfl ⟨keep8 rfl, trivial⟩ (by simp [lt_row]) (by simp [SV.lt, ltL]) (fun ρ => ?_) (hK z ty)
        simp only [rn_tup, rnL_cons, rnL_nil, rn_sl_at0, rn_b, List.getElem?_cons_zero, Option.join_some, rnSl_s]
      · have hK := h0 (openB_n fun h => hbig ⟨h.2.2.1, h.2.2.2.1, h.2.2.2.2⟩)
        refine fn_rule tabOK Try.func14 rfl Try.call14 (by kernel_rfl) (fun hM => ?_)
        (refine top_in ?_; simp -implicitDefEqProofs only [Try.ntmps14, Try.results14, go_sem, -List.reduceReplicate, ↓L_gdZ_tt, ↓L_gdZ_tf, ↓L_gdZ_ft, ↓L_gdZ_ff, ↓T_and, ↓T_imp, ↓T_all, Nat.reduceBEq, Nat.reduceAdd, Nat.reduceSub, Nat.reduceMul, Nat.reduceLT, Nat.reduceLeDiff, Nat.reduceEqDiff, Int.reduceLT, Int.reduceLE, Int.reduceAdd, Int.reduceSub, Int.reduceMul, Int.reduceNeg, Int.reduceToNat, Int.reduceEq, Int.reduceNe, reduceIte, reduceCtorEq, BitVec.reduceOfInt, BitVec.reduceToNat, b1, b2, w16]; try simp only [top_out])
        repeat' (with_reducible first | refine And.intro ?_ ?_ | intro)
        all_goals first
          | exact dropC_self hM rfl hK
          | (exfalso; omega)
    · have b2 : ((nonce.length : Int) != 12) = true := bneN n12
      have hK := h0 (openB_n fun h => n12 h.2.1)
      refine fn_rule tabOK Try.func14 rfl Try.call14 (by kernel_rfl) (fun hM => ?_)
      (refine top_in ?_; simp -implicitDefEqProofs only [Try.ntmps14, Try.results14, go_sem, -List.reduceReplicate, ↓L_gdZ_tt, ↓L_gdZ_tf, ↓L_gdZ_ft, ↓L_gdZ_ff, ↓T_and, ↓T_imp, ↓T_all, Nat.reduceBEq, Nat.reduceAdd, Nat.reduceSub, Nat.reduceMul, Nat.reduceLT, Nat.reduceLeDiff, Nat.reduceEqDiff, Int.reduceLT, Int.reduceLE, Int.reduceAdd, Int.reduceSub, Int.reduceMul, Int.reduceNeg, Int.reduceToNat, Int.reduceEq, Int.reduceNe, reduceIte, reduceCtorEq, BitVec.reduceOfInt, BitVec.reduceToNat, b1, b2, w16]; try simp only [top_out])
      repeat' (with_reducible first | refine And.intro ?_ ?_ | intro)
      all_goals exact dropC_self hM rfl hK
  · have b1 : ((key.length : Int) != 32) = true := bneN k32
    have hK := h0 (openB_n fun h => k32 h.1)
    refine fn_rule tabOK Try.func14 rfl Try.call14 (by kernel_rfl) (fun hM => ?_)
    (refine top_in ?_; simp -implicitDefEqProofs only [Try.ntmps14, Try.results14, go_sem, -List.reduceReplicate, ↓L_gdZ_tt, ↓L_gdZ_tf, ↓L_gdZ_ft, ↓L_gdZ_ff, ↓T_and, ↓T_imp, ↓T_all, Nat.reduceBEq, Nat.reduceAdd, Nat.reduceSub, Nat.reduceMul, Nat.reduceLT, Nat.reduceLeDiff, Nat.reduceEqDiff, Int.reduceLT, Int.reduceLE, Int.reduceAdd, Int.reduceSub, Int.reduceMul, Int.reduceNeg, Int.reduceToNat, Int.reduceEq, Int.reduceNe, reduceIte, reduceCtorEq, BitVec.reduceOfInt, BitVec.reduceToNat, b1, w16]; try simp only [top_out])
    repeat' (with_reducible first | refine And.intro ?_ ?_ | intro)
    all_goals exact dropC_self hM rfl hK

set_option maxHeartbeats 2000000 in
theorem refopen_ok (nk ok lk ck nn no ln nc na oa la ca nt ot lt ct : Nat) (key nonce ad s : List (BitVec 8)) (M : List Blk) (K : SV → List Blk → Prop)
    (hk : BAt M nk ok key) (hlk : lk = key.length) (hck : lk ≤ ck) (hmk : lk ≤ 140737488355000) (hn : BAt M nn no nonce) (hln : ln = nonce.length) (ha : BAt M na oa ad) (hla : la = ad.length) (hca : la ≤ ca)
    (ht : BAt M nt ot s) (hlt : lt = s.length) (hct : lt ≤ ct) (hms : lt ≤ 140737488355000)
    (h1 : openB key nonce ad s = true → ∀ z ty, K (.tup [.sl M.length 0 (s.length - 16) (s.length - 16 + z.length), .b true]) (M ++ [.row (bS (openL key nonce s ++ z)) ty]))
    (h0 : openB key nonce ad s = false → K (.tup [.sn, .b false]) M) :
    callVC Try.prog 15 [.sl nk ok lk ck, .sl nn no ln nc, .sl na oa la ca, .sl nt ot lt ct] M K := by
  subst hlk hln hla hlt
  have w16 : IntKind.i64.wrap ((s.length : Int) - 16) = (s.length : Int) - 16 := w64 (by omega) (by omega)
  by_cases k32 : key.length = 32
  · have b1 : ((key.length : Int) != 32) = false := beqIN k32
    by_cases n12 : nonce.length = 12
    · have b2 : ((nonce.length : Int) != 12) = false := by rw [n12]; rfl
      by_cases hbig : ad.length ≤ 65536 ∧ 16 ≤ s.length ∧ s.length ≤ 65552
      · have hP : openP key nonce ad s := ⟨k32, n12, hbig.1, hbig.2.1, hbig.2.2⟩
        have b3 : (65536 < (ad.length : Int)) = False := by simp; omega
        have b4 : ((s.length : Int) - 16 < 0) = False := by simp; omega
        have b5 : (65536 < (s.length : Int) - 16) = False := by simp; omega
        have e16 : (s.length : Int) - 16 = ((s.length - 16 : Nat) : Int) := by omega
        refine fn_rule tabOK Try.func15 rfl Try.call15 (by kernel_rfl) (fun hM => ?_)
        (refine top_in ?_; simp -implicitDefEqProofs only [Try.ntmps15, Try.results15, go_sem, -List.reduceReplicate, ↓L_gdZ_tt, ↓L_gdZ_tf, ↓L_gdZ_ft, ↓L_gdZ_ff, ↓T_and, ↓T_imp, ↓T_all, Nat.reduceBEq, Nat.reduceAdd, Nat.reduceSub, Nat.reduceMul, Nat.reduceLT, Nat.reduceLeDiff, Nat.reduceEqDiff, Int.reduceLT, Int.reduceLE, Int.reduceAdd, Int.reduceSub, Int.reduceMul, Int.reduceNeg, Int.reduceToNat, Int.reduceEq, Int.reduceNe, reduceIte, reduceCtorEq, BitVec.reduceOfInt, BitVec.reduceToNat, b1, b2, b3, b4, b5, w16]; try simp only [top_out])
        refine refnew_ok nk ok ck key _ _ hk (by omega) hck (fun _ => ?_) (fun h => absurd k32 h)
        obtain ⟨n, hn16⟩ : ∃ n, n + 16 = s.length := ⟨s.length - 16, by omega⟩
        have hsn : s.length - 16 = n := by omega
        have htk : (s.take n).length = n := by rw [List.length_take]; omega
        have c0 : (ct = n) = False := by simp; omega
        have c1 : s.length - n = 16 := by omega
        have hTl : (openT key nonce ad s).length = 16 := tagL_len _ _ _ _
        have hbt := ht.sub (a := 0) (k := n) (by omega)
        rw [List.drop_zero, Nat.add_zero] at hbt
        rw [e16, hsn]
        (refine top_in ?_; simp -implicitDefEqProofs only [go_sem, -List.reduceReplicate, ↓L_gdZ_tt, ↓L_gdZ_tf, ↓L_gdZ_ft, ↓L_gdZ_ff, ↓T_and, ↓T_imp, ↓T_all, Nat.reduceBEq, Nat.reduceAdd, Nat.reduceSub, Nat.reduceMul, Nat.reduceLT, Nat.reduceLeDiff, Nat.reduceEqDiff, Int.reduceLT, Int.reduceLE, Int.reduceAdd, Int.reduceSub, Int.reduceMul, Int.reduceNeg, Int.reduceToNat, Int.reduceEq, Int.reduceNe, reduceIte, reduceCtorEq, BitVec.reduceOfInt, BitVec.reduceToNat, q00, n12]; try simp only [top_out])
        repeat (with_reducible refine And.intro (by omega) ?_)
        refine reftag_ok M.length nn no nc na oa ad.length ca nt ot n ct (ciphR key) nonce ad (s.take n) 70 _ _ (by rw [get_app0]; rfl) (ciphR_len k32) ciphR_two hn.app n12 ha.app rfl (by omega) hbt.app htk.symm (by omega) ?_
        have hT : tagL (fun x => refN4 (ciphR key) x 14) nonce ad (s.take n) = openT key nonce ad s := by unfold openT; rw [hsn, encE_ref]
        rw [hT]
        (refine top_in ?_; simp -implicitDefEqProofs only [go_sem, -List.reduceReplicate, ↓L_gdZ_tt, ↓L_gdZ_tf, ↓L_gdZ_ft, ↓L_gdZ_ff, ↓T_and, ↓T_imp, ↓T_all, Nat.reduceBEq, Nat.reduceAdd, Nat.reduceSub, Nat.reduceMul, Nat.reduceLT, Nat.reduceLeDiff, Nat.reduceEqDiff, Int.reduceLT, Int.reduceLE, Int.reduceAdd, Int.reduceSub, Int.reduceMul, Int.reduceNeg, Int.reduceToNat, Int.reduceEq, Int.reduceNe, reduceIte, reduceCtorEq, BitVec.reduceOfInt, BitVec.reduceToNat, n12, hTl]; try simp only [top_out])
        generalize hTT : openT key nonce ad s = T at hTl
        refine loop_code tabOK (by kernel_rfl) (fun i ts M' => ∃ k : Nat, k + i = 16 ∧ (∀ j, j < k → (s.drop n).getD j 0#8 = T.getD j 0#8) ∧ frC (none :: some (.sl nn no 12 nc) :: none :: some (.sl nt ot s.length ct) :: none :: none :: none :: none :: none :: none :: some (.i .i64 n) :: some (.p M.length 0) :: none :: some (.p (M.length + 1) 0) :: some (.i .i64 k) :: none :: none :: none :: none :: none :: none :: none :: none :: none :: none :: none :: none :: none :: none :: none :: none :: none :: none :: none :: none :: none :: none :: none :: none :: none :: none :: none :: none :: none :: none :: none :: none :: none :: none :: none :: none :: none :: none :: none :: none :: none :: none :: none :: none :: none :: none :: none :: none :: none :: none :: none :: none :: none :: none :: none :: none :: []) ts ∧
          M' = M ++ [.row (bS (ciphR key)) 70, .row (bS T) 42]) 16 ?_ ?_
        · exact ⟨0, rfl, by omega, by simp [frC], rfl⟩
        · rintro i ts _ ⟨k, hki, hje, hf, rfl⟩
          by_cases hk16 : k < 16
          · have hp : ((k : Int) < 16) = True := by simp; omega
            have w1 : IntKind.i64.wrap ((n : Int) + (k : Int)) = ((n + k : Nat) : Int) := by rw [w64 (by omega) (by omega)]; omega
            have e8 := ht.is8 (show n + k < s.length by omega)
            have f8 := ht.cell8 (show n + k < s.length by omega)
            have hle := ht.le (j := n + k + 1) (by omega)
            have gd : (s.drop n).getD k 0#8 = s.getD (n + k) 0#8 := by
              rw [List.getD_eq_getElem?_getD, List.getElem?_drop, ← List.getD_eq_getElem?_getD]
            obtain ⟨f, rfl⟩ := frC_open _ _ 0 hf
            clear hf
            (refine top_in ?_; simp -implicitDefEqProofs only [go_sem, -List.reduceReplicate, ↓L_gdZ_tt, ↓L_gdZ_tf, ↓L_gdZ_ft, ↓L_gdZ_ff, ↓T_and, ↓T_imp, ↓T_all, Nat.reduceBEq, Nat.reduceAdd, Nat.reduceSub, Nat.reduceMul, Nat.reduceLT, Nat.reduceLeDiff, Nat.reduceEqDiff, Int.reduceLT, Int.reduceLE, Int.reduceAdd, Int.reduceSub, Int.reduceMul, Int.reduceNeg, Int.reduceToNat, Int.reduceEq, Int.reduceNe, reduceIte, reduceCtorEq, BitVec.reduceOfInt, BitVec.reduceToNat, hp, w1, hTl, get_lt ht.lt]; try simp only [top_out])
            refine draw_rule tabOK (by kernel_rfl : _) (.p 0 (.p 1 (.p 2 (.p 3 (.p 4 (.p 5 (.p 6 (.p 7 (.p 8 (.p 9 .nil)))))))))) (by kernel_rfl) (by kernel_rfl) ?_
            (refine top_in ?_; simp -implicitDefEqProofs only [go_sem, -List.reduceReplicate, ↓L_gdZ_tt, ↓L_gdZ_tf, ↓L_gdZ_ft, ↓L_gdZ_ff, ↓T_and, ↓T_imp, ↓T_all, Nat.reduceBEq, Nat.reduceAdd, Nat.reduceSub, Nat.reduceMul, Nat.reduceLT, Nat.reduceLeDiff, Nat.reduceEqDiff, Int.reduceLT, Int.reduceLE, Int.reduceAdd, Int.reduceSub, Int.reduceMul, Int.reduceNeg, Int.reduceToNat, Int.reduceEq, Int.reduceNe, reduceIte, reduceCtorEq, BitVec.reduceOfInt, BitVec.reduceToNat, hp, w1, hTl, get_lt ht.lt, e8, f8]; try simp only [top_out])
            repeat (with_reducible refine And.intro (by omega) ?_)
            refine ⟨fun hne => dropC_append hM rfl (h0 (openB_d ?_)), fun heq => ⟨i - 1, by omega, k + 1, by omega, fun j hj => ?_, w64 (by omega) (by omega)⟩⟩
            · intro hd
              rw [hsn, hTT] at hd
              rw [← gd, hd] at hne
              simp at hne
            · by_cases hjk : j < k
              · exact hje j hjk
              · obtain rfl : j = k := by omega
                rw [gd]
                exact (by simpa using heq : T.getD j 0#8 = s.getD (n + j) 0#8).symm
          · obtain rfl : k = 16 := by omega
            have hp : (((16 : Nat) : Int) < 16) = False := by simp
            obtain ⟨f, rfl⟩ := frC_open _ _ 0 hf
            clear hf
            (refine top_in ?_; simp -implicitDefEqProofs only [go_sem, -List.reduceReplicate, ↓L_gdZ_tt, ↓L_gdZ_tf, ↓L_gdZ_ft, ↓L_gdZ_ff, ↓T_and, ↓T_imp, ↓T_all, Nat.reduceBEq, Nat.reduceAdd, Nat.reduceSub, Nat.reduceMul, Nat.reduceLT, Nat.reduceLeDiff, Nat.reduceEqDiff, Int.reduceLT, Int.reduceLE, Int.reduceAdd, Int.reduceSub, Int.reduceMul, Int.reduceNeg, Int.reduceToNat, Int.reduceEq, Int.reduceNe, reduceIte, reduceCtorEq, BitVec.reduceOfInt, BitVec.reduceToNat, hp, hTl]; try simp only [top_out])
            have hd : s.drop n = T := getD_ext' (n := 16) (by rw [List.length_drop]; omega) hTl hje
            have hK := h1 (openB_ok hP (by rw [hsn, hd, hTT]))
            have hL : cryL (encE key) nonce (s.take n) = openL key nonce s := by unfold openL; rw [hsn]
            rw [hsn] at hK
            repeat (with_reducible refine And.intro (by omega) ?_)
            refine streamed_ok M.length nn no nc nt ot n ct (ciphR key) nonce (s.take n) 70 _ _ (by rw [get_app0]; rfl) (ciphR_len k32) ciphR_two hn.app n12 hbt.app htk.symm (by omega) ?_
            intro z ty
            rw [encE_ref, hL, htk]
            (refine top_in ?_; simp -implicitDefEqProofs only [go_sem, -List.reduceReplicate, ↓L_gdZ_tt, ↓L_gdZ_tf, ↓L_gdZ_ft, ↓L_gdZ_ff, ↓T_and, ↓T_imp, ↓T_all, Nat.reduceBEq, Nat.reduceAdd, Nat.reduceSub, Nat.reduceMul, Nat.reduceLT, Nat.reduceLeDiff, Nat.reduceEqDiff, Int.reduceLT, Int.reduceLE, Int.reduceAdd, Int.reduceSub, Int.reduceMul, Int.reduceNeg, Int.reduceToNat, Int.reduceEq, Int.reduceNe, reduceIte, reduceCtorEq, BitVec.reduceOfInt, BitVec.reduceToNat]; try simp only [top_out])
            refine dropC_gc (L := [.row (bS (ciphR key)) 70, .row (bS T) 42, .row (bS (openL key nonce s ++ z)) ty]) hM [some 2] (.tup [.sl M.length 0 n (n + z.length), .b true]) [.row (bS (openL key nonce s ++ z)) ty] rfl ⟨keep8 rfl, trivial⟩ (by simp [lt_row]) (by simp [SV.lt, ltL]) (fun ρ => ?_) (hK z ty)
            simp only [rn_tup, rnL_cons, rnL_nil, rn_sl_at0, rn_b, List.getElem?_cons_zero, Option.join_some, rnSl_s]
      · have hK := h0 (openB_n fun h => hbig ⟨h.2.2.1, h.2.2.2.1, h.2.2.2.2⟩)
        refine fn_rule tabOK Try.func15 rfl Try.call15 (by kernel_rfl) (fun hM => ?_)
        (refine top_in ?_; simp -implicitDefEqProofs only [Try.ntmps15, Try.results15, go_sem, -List.reduceReplicate, ↓L_gdZ_tt, ↓L_gdZ_tf, ↓L_gdZ_ft, ↓L_gdZ_ff, ↓T_and, ↓T_imp, ↓T_all, Nat.reduceBEq, Nat.reduceAdd, Nat.reduceSub, Nat.reduceMul, Nat.reduceLT, Nat.reduceLeDiff, Nat.reduceEqDiff, Int.reduceLT, Int.reduceLE, Int.reduceAdd, Int.reduceSub, Int.reduceMul, Int.reduceNeg, Int.reduceToNat, Int.reduceEq, Int.reduceNe, reduceIte, reduceCtorEq, BitVec.reduceOfInt, BitVec.reduceToNat, b1, b2, w16]; try simp only [top_out])
        repeat' (with_reducible first | refine And.intro ?_ ?_ | intro)
        all_goals first
          | exact dropC_self hM rfl hK
          | (exfalso; omega)
    · have b2 : ((nonce.length : Int) != 12) = true := bneN n12
      have hK := h0 (openB_n fun h => n12 h.2.1)
      refine fn_rule tabOK Try.func15 rfl Try.call15 (by kernel_rfl) (fun hM => ?_)
      (refine top_in ?_; simp -implicitDefEqProofs only [Try.ntmps15, Try.results15, go_sem, -List.reduceReplicate, ↓L_gdZ_tt, ↓L_gdZ_tf, ↓L_gdZ_ft, ↓L_gdZ_ff, ↓T_and, ↓T_imp, ↓T_all, Nat.reduceBEq, Nat.reduceAdd, Nat.reduceSub, Nat.reduceMul, Nat.reduceLT, Nat.reduceLeDiff, Nat.reduceEqDiff, Int.reduceLT, Int.reduceLE, Int.reduceAdd, Int.reduceSub, Int.reduceMul, Int.reduceNeg, Int.reduceToNat, Int.reduceEq, Int.reduceNe, reduceIte, reduceCtorEq, BitVec.reduceOfInt, BitVec.reduceToNat, b1, b2, w16]; try simp only [top_out])
      repeat' (with_reducible first | refine And.intro ?_ ?_ | intro)
      all_goals exact dropC_self hM rfl hK
  · have b1 : ((key.length : Int) != 32) = true := bneN k32
    have hK := h0 (openB_n fun h => k32 h.1)
    refine fn_rule tabOK Try.func15 rfl Try.call15 (by kernel_rfl) (fun hM => ?_)
    (refine top_in ?_; simp -implicitDefEqProofs only [Try.ntmps15, Try.results15, go_sem, -List.reduceReplicate, ↓L_gdZ_tt, ↓L_gdZ_tf, ↓L_gdZ_ft, ↓L_gdZ_ff, ↓T_and, ↓T_imp, ↓T_all, Nat.reduceBEq, Nat.reduceAdd, Nat.reduceSub, Nat.reduceMul, Nat.reduceLT, Nat.reduceLeDiff, Nat.reduceEqDiff, Int.reduceLT, Int.reduceLE, Int.reduceAdd, Int.reduceSub, Int.reduceMul, Int.reduceNeg, Int.reduceToNat, Int.reduceEq, Int.reduceNe, reduceIte, reduceCtorEq, BitVec.reduceOfInt, BitVec.reduceToNat, b1, w16]; try simp only [top_out])
    repeat' (with_reducible first | refine And.intro ?_ ?_ | intro)
    all_goals exact dropC_self hM rfl hK
end Go.Proofs.Ytbiolfeincepoaa.Eng
