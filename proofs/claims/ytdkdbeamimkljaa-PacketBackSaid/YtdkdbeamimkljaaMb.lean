/- Joined texts: W1, W2, W3, W4, W5. -/
import Derived.Test.YtdkdbeamimkljaaMa
import Derived.Test.YtdkdbeamimkljaaM3
import Derived.Test.YtdkdbeamimkljaaM5
/- Packets sealed, by the program and by the document. -/
namespace Go.Proofs.Ytdkdbeamimkljaa.Eng
open Go Go.RowKit
set_option linter.unusedSimpArgs false
set_option linter.unusedVariables false

theorem drop8ntL {M L : List Blk} {K : SV → List Blk → Prop} {e : Int} (hM : ∀ (n : Nat) (B : Blk), M[n]? = some B → B.lt M.length = true)
    (hK : ∀ ty, K (.tup [.sl M.length 0 0 0, .i .i64 e]) (M ++ [.row (bS []) ty])) : dropC M.length (.tup [.sn, .i .i64 e]) (M ++ L) K := by
  refine dropC_gc (L := L) (v := .tup [.sn, .i .i64 e]) (K := K) hM [none] (.tup [.sl M.length 0 0 0, .i .i64 e]) [.row [] 0] rfl ⟨rfl, trivial⟩ (by simp [Blk.lt, ltL]) (by simp [SV.lt, ltL]) (fun ρ => ?_) (hK 0)
  have h0 : den ρ ((SV.sl M.length 0 0 0).rn (tau M.length [none])) = den ρ .sn := rn_nil
  simp only [rn_tup, rnL_cons, rnL_nil, rn_i]
  simp only [den, denL] at h0 ⊢
  rw [h0]
theorem q90 : ((90 : Int) != 0) = true := rfl
def pkS (t l g : Int) (c : BitVec 64) (x : SV) : SV := .agg [.i .i64 t, .i .i64 l, .i .i64 g, .u64 c, x]
def psealB (key : List (BitVec 8)) (s t l g : Int) (c : BitVec 64) (n : Nat) : Bool := nonceB s g c && headB t l g c && fitsB t n
def psealE (key : List (BitVec 8)) (s t l g : Int) (c : BitVec 64) (n : Nat) : Int := if key.length ≠ 32 then 40 else if psealB key s t l g c n = true then 0 else 90
def psealL (key : List (BitVec 8)) (s t l g : Int) (c : BitVec 64) (text : List (BitVec 8)) : List (BitVec 8) := headL t l g c ++ sealL key (nonceL s g c) (headL t l g c) text
def psealU (key : List (BitVec 8)) (s t l g : Int) (c : BitVec 64) (text : List (BitVec 8)) : List (BitVec 8) := if psealE key s t l g c text.length = 0 then psealL key s t l g c text else []
theorem psealL_len (key : List (BitVec 8)) (s t l g : Int) (c : BitVec 64) (text : List (BitVec 8)) : (psealL key s t l g c text).length = text.length + 36 := by
  unfold psealL; rw [List.length_append, headL_len, sealL_len]; omega
theorem fits_le {t : Int} {n : Nat} (h : fitsB t n = true) : n ≤ 1280 := by
  unfold fitsB at h
  split at h
  · simp at h; omega
  · simp at h; omega
theorem psealU_len (key : List (BitVec 8)) (s t l g : Int) (c : BitVec 64) (text : List (BitVec 8)) : (psealU key s t l g c text).length ≤ 1316 := by
  unfold psealU
  split
  · rename_i h
    unfold psealE at h
    split at h
    · cases h
    · split at h
      · rename_i h2
        unfold psealB at h2
        simp only [Bool.and_eq_true] at h2
        have := fits_le h2.2
        rw [psealL_len]; omega
      · cases h
  · simp
theorem psealE_key {key : List (BitVec 8)} {s t l g : Int} {c : BitVec 64} {n : Nat} (h : key.length ≠ 32) : psealE key s t l g c n = 40 := if_pos h
theorem psealE_no {key : List (BitVec 8)} {s t l g : Int} {c : BitVec 64} {n : Nat} (h : key.length = 32) (hb : psealB key s t l g c n = false) : psealE key s t l g c n = 90 := by
  unfold psealE; rw [if_neg (by omega), if_neg (by rw [hb]; decide)]
theorem psealE_yes {key : List (BitVec 8)} {s t l g : Int} {c : BitVec 64} {n : Nat} (h : key.length = 32) (hb : psealB key s t l g c n = true) : psealE key s t l g c n = 0 := by
  unfold psealE; rw [if_neg (by omega), if_pos hb]
set_option maxHeartbeats 2000000 in
theorem pseal_u (nk ok lk ck nt ot lt ct : Nat) (key text : List (BitVec 8)) (s t l g : Int) (c : BitVec 64) (M : List Blk) (K : SV → List Blk → Prop)
    (hk : BAt M nk ok key) (hlk : lk = key.length) (hck : lk ≤ ck) (hmk : lk ≤ 140737488355000) (ht : BAt M nt ot text) (hlt : lt = text.length) (hct : lt ≤ ct)
    (hK : ∀ z ty, K (.tup [.sl M.length 0 (psealU key s t l g c text).length ((psealU key s t l g c text).length + z.length), .i .i64 (psealE key s t l g c text.length)]) (M ++ [.row (bS (psealU key s t l g c text ++ z)) ty])) :
    callVC Try.prog 29 [.sl nk ok lk ck, .i .i64 s, pkS t l g c (.sl nt ot lt ct)] M K := by
  subst hlk hlt
  have no : psealE key s t l g c text.length ≠ 0 → ∀ ty, K (.tup [.sl M.length 0 0 0, .i .i64 (psealE key s t l g c text.length)]) (M ++ [.row (bS []) ty]) := fun h ty => by
    have := hK [] ty
    unfold psealU at this
    rw [if_neg h] at this
    exact this
  unfold pkS
  by_cases k32 : key.length = 32
  · have b1 : ((key.length : Int) != 32) = false := beqIN k32
    cases hn : nonceB s g c with
    | false =>
      have hb : psealB key s t l g c text.length = false := by unfold psealB; rw [hn]; rfl
      have he := psealE_no k32 hb
      rw [he] at no
      refine fn_rule tabOK Try.func29 rfl Try.call29 (by kernel_rfl) (fun hM => ?_)
      (refine top_in ?_; simp -implicitDefEqProofs only [Try.ntmps29, Try.results29, go_sem, -List.reduceReplicate, ↓L_gdZ_tt, ↓L_gdZ_tf, ↓L_gdZ_ft, ↓L_gdZ_ff, ↓T_and, ↓T_imp, ↓T_all, Nat.reduceBEq, Nat.reduceAdd, Nat.reduceSub, Nat.reduceMul, Nat.reduceLT, Nat.reduceLeDiff, Nat.reduceEqDiff, Int.reduceLT, Int.reduceLE, Int.reduceAdd, Int.reduceSub, Int.reduceMul, Int.reduceNeg, Int.reduceToNat, Int.reduceEq, Int.reduceNe, reduceIte, reduceCtorEq, BitVec.reduceOfInt, BitVec.reduceToNat, b1, List.take_succ_cons, List.take_zero, List.drop_succ_cons, List.drop_zero]; try simp only [top_out])
      refine nonce_ok s g c _ _ (fun h => by rw [hn] at h; cases h) (fun _ => ?_)
      (refine top_in ?_; simp -implicitDefEqProofs only [go_sem, -List.reduceReplicate, ↓L_gdZ_tt, ↓L_gdZ_tf, ↓L_gdZ_ft, ↓L_gdZ_ff, ↓T_and, ↓T_imp, ↓T_all, Nat.reduceBEq, Nat.reduceAdd, Nat.reduceSub, Nat.reduceMul, Nat.reduceLT, Nat.reduceLeDiff, Nat.reduceEqDiff, Int.reduceLT, Int.reduceLE, Int.reduceAdd, Int.reduceSub, Int.reduceMul, Int.reduceNeg, Int.reduceToNat, Int.reduceEq, Int.reduceNe, reduceIte, reduceCtorEq, BitVec.reduceOfInt, BitVec.reduceToNat, b1, List.take_succ_cons, List.take_zero, List.drop_succ_cons, List.drop_zero]; try simp only [top_out])
      exact drop8ntL hM (no (by decide))
    | true =>
      refine fn_rule tabOK Try.func29 rfl Try.call29 (by kernel_rfl) (fun hM => ?_)
      (refine top_in ?_; simp -implicitDefEqProofs only [Try.ntmps29, Try.results29, go_sem, -List.reduceReplicate, ↓L_gdZ_tt, ↓L_gdZ_tf, ↓L_gdZ_ft, ↓L_gdZ_ff, ↓T_and, ↓T_imp, ↓T_all, Nat.reduceBEq, Nat.reduceAdd, Nat.reduceSub, Nat.reduceMul, Nat.reduceLT, Nat.reduceLeDiff, Nat.reduceEqDiff, Int.reduceLT, Int.reduceLE, Int.reduceAdd, Int.reduceSub, Int.reduceMul, Int.reduceNeg, Int.reduceToNat, Int.reduceEq, Int.reduceNe, reduceIte, reduceCtorEq, BitVec.reduceOfInt, BitVec.reduceToNat, b1, List.take_succ_cons, List.take_zero, List.drop_succ_cons, List.drop_zero]; try simp only [top_out])
      refine nonce_ok s g c _ _ (fun _ z ty => ?_) (fun h => by rw [hn] at h; cases h)
      (refine top_in ?_; simp -implicitDefEqProofs only [go_sem, -List.reduceReplicate, ↓L_gdZ_tt, ↓L_gdZ_tf, ↓L_gdZ_ft, ↓L_gdZ_ff, ↓T_and, ↓T_imp, ↓T_all, Nat.reduceBEq, Nat.reduceAdd, Nat.reduceSub, Nat.reduceMul, Nat.reduceLT, Nat.reduceLeDiff, Nat.reduceEqDiff, Int.reduceLT, Int.reduceLE, Int.reduceAdd, Int.reduceSub, Int.reduceMul, Int.reduceNeg, Int.reduceToNat, Int.reduceEq, Int.reduceNe, reduceIte, reduceCtorEq, BitVec.reduceOfInt, BitVec.reduceToNat, b1, List.take_succ_cons, List.take_zero, List.drop_succ_cons, List.drop_zero, nonceL_len]; try simp only [top_out])
      repeat (with_reducible refine And.intro (by omega) ?_)
      refine isHead_ok t l g c _ _ ?_
      (refine top_in ?_; simp -implicitDefEqProofs only [go_sem, -List.reduceReplicate, ↓L_gdZ_tt, ↓L_gdZ_tf, ↓L_gdZ_ft, ↓L_gdZ_ff, ↓T_and, ↓T_imp, ↓T_all, Nat.reduceBEq, Nat.reduceAdd, Nat.reduceSub, Nat.reduceMul, Nat.reduceLT, Nat.reduceLeDiff, Nat.reduceEqDiff, Int.reduceLT, Int.reduceLE, Int.reduceAdd, Int.reduceSub, Int.reduceMul, Int.reduceNeg, Int.reduceToNat, Int.reduceEq, Int.reduceNe, reduceIte, reduceCtorEq, BitVec.reduceOfInt, BitVec.reduceToNat, b1, List.take_succ_cons, List.take_zero, List.drop_succ_cons, List.drop_zero, nonceL_len, headL_len]; try simp only [top_out])
      cases hh : headB t l g c with
      | false =>
        have hb : psealB key s t l g c text.length = false := by unfold psealB; rw [hh, Bool.and_false]; rfl
        have he := psealE_no k32 hb
        rw [he] at no
        (refine top_in ?_; simp -implicitDefEqProofs only [go_sem, -List.reduceReplicate, ↓L_gdZ_tt, ↓L_gdZ_tf, ↓L_gdZ_ft, ↓L_gdZ_ff, ↓T_and, ↓T_imp, ↓T_all, Nat.reduceBEq, Nat.reduceAdd, Nat.reduceSub, Nat.reduceMul, Nat.reduceLT, Nat.reduceLeDiff, Nat.reduceEqDiff, Int.reduceLT, Int.reduceLE, Int.reduceAdd, Int.reduceSub, Int.reduceMul, Int.reduceNeg, Int.reduceToNat, Int.reduceEq, Int.reduceNe, reduceIte, reduceCtorEq, BitVec.reduceOfInt, BitVec.reduceToNat, b1, List.take_succ_cons, List.take_zero, List.drop_succ_cons, List.drop_zero, nonceL_len, headL_len]; try simp only [top_out])
        exact drop8ntL hM (no (by decide))
      | true =>
        (refine top_in ?_; simp -implicitDefEqProofs only [go_sem, -List.reduceReplicate, ↓L_gdZ_tt, ↓L_gdZ_tf, ↓L_gdZ_ft, ↓L_gdZ_ff, ↓T_and, ↓T_imp, ↓T_all, Nat.reduceBEq, Nat.reduceAdd, Nat.reduceSub, Nat.reduceMul, Nat.reduceLT, Nat.reduceLeDiff, Nat.reduceEqDiff, Int.reduceLT, Int.reduceLE, Int.reduceAdd, Int.reduceSub, Int.reduceMul, Int.reduceNeg, Int.reduceToNat, Int.reduceEq, Int.reduceNe, reduceIte, reduceCtorEq, BitVec.reduceOfInt, BitVec.reduceToNat, b1, List.take_succ_cons, List.take_zero, List.drop_succ_cons, List.drop_zero, nonceL_len, headL_len]; try simp only [top_out])
        refine fits_ok t text.length _ _ ?_
        (refine top_in ?_; simp -implicitDefEqProofs only [go_sem, -List.reduceReplicate, ↓L_gdZ_tt, ↓L_gdZ_tf, ↓L_gdZ_ft, ↓L_gdZ_ff, ↓T_and, ↓T_imp, ↓T_all, Nat.reduceBEq, Nat.reduceAdd, Nat.reduceSub, Nat.reduceMul, Nat.reduceLT, Nat.reduceLeDiff, Nat.reduceEqDiff, Int.reduceLT, Int.reduceLE, Int.reduceAdd, Int.reduceSub, Int.reduceMul, Int.reduceNeg, Int.reduceToNat, Int.reduceEq, Int.reduceNe, reduceIte, reduceCtorEq, BitVec.reduceOfInt, BitVec.reduceToNat, b1, List.take_succ_cons, List.take_zero, List.drop_succ_cons, List.drop_zero, nonceL_len, headL_len]; try simp only [top_out])
        cases hf : fitsB t text.length with
        | false =>
          have hb : psealB key s t l g c text.length = false := by unfold psealB; rw [hf, Bool.and_false]
          have he := psealE_no k32 hb
          rw [he] at no
          (refine top_in ?_; simp -implicitDefEqProofs only [go_sem, -List.reduceReplicate, ↓L_gdZ_tt, ↓L_gdZ_tf, ↓L_gdZ_ft, ↓L_gdZ_ff, ↓T_and, ↓T_imp, ↓T_all, Nat.reduceBEq, Nat.reduceAdd, Nat.reduceSub, Nat.reduceMul, Nat.reduceLT, Nat.reduceLeDiff, Nat.reduceEqDiff, Int.reduceLT, Int.reduceLE, Int.reduceAdd, Int.reduceSub, Int.reduceMul, Int.reduceNeg, Int.reduceToNat, Int.reduceEq, Int.reduceNe, reduceIte, reduceCtorEq, BitVec.reduceOfInt, BitVec.reduceToNat, b1, List.take_succ_cons, List.take_zero, List.drop_succ_cons, List.drop_zero, nonceL_len, headL_len]; try simp only [top_out])
          exact drop8ntL hM (no (by decide))
        | true =>
          have hb : psealB key s t l g c text.length = true := by unfold psealB; rw [hn, hh, hf]; rfl
          have he := psealE_yes k32 hb
          have hfl := fits_le hf
          have hse : sealE key (nonceL s g c) (headL t l g c) text = 0 := sealE_ok k32 (nonceL_len _ _ _) (by rw [headL_len]; omega) (by omega)
          have hsu : sealU key (nonceL s g c) (headL t l g c) text = sealL key (nonceL s g c) (headL t l g c) text := if_pos hse
          have hU : psealU key s t l g c text = headL t l g c ++ sealL key (nonceL s g c) (headL t l g c) text := by unfold psealU; rw [if_pos he]; rfl
          have hsl := sealL_len key (nonceL s g c) (headL t l g c) text
          rw [he, hU] at hK
          (refine top_in ?_; simp -implicitDefEqProofs only [go_sem, -List.reduceReplicate, ↓L_gdZ_tt, ↓L_gdZ_tf, ↓L_gdZ_ft, ↓L_gdZ_ff, ↓T_and, ↓T_imp, ↓T_all, Nat.reduceBEq, Nat.reduceAdd, Nat.reduceSub, Nat.reduceMul, Nat.reduceLT, Nat.reduceLeDiff, Nat.reduceEqDiff, Int.reduceLT, Int.reduceLE, Int.reduceAdd, Int.reduceSub, Int.reduceMul, Int.reduceNeg, Int.reduceToNat, Int.reduceEq, Int.reduceNe, reduceIte, reduceCtorEq, BitVec.reduceOfInt, BitVec.reduceToNat, b1, List.take_succ_cons, List.take_zero, List.drop_succ_cons, List.drop_zero, nonceL_len, headL_len]; try simp only [top_out])
          refine putHead_ok t l g c _ _ (fun _ z1 ty1 => ?_) (fun h => by rw [hh] at h; cases h)
          (refine top_in ?_; simp -implicitDefEqProofs only [go_sem, -List.reduceReplicate, ↓L_gdZ_tt, ↓L_gdZ_tf, ↓L_gdZ_ft, ↓L_gdZ_ff, ↓T_and, ↓T_imp, ↓T_all, Nat.reduceBEq, Nat.reduceAdd, Nat.reduceSub, Nat.reduceMul, Nat.reduceLT, Nat.reduceLeDiff, Nat.reduceEqDiff, Int.reduceLT, Int.reduceLE, Int.reduceAdd, Int.reduceSub, Int.reduceMul, Int.reduceNeg, Int.reduceToNat, Int.reduceEq, Int.reduceNe, reduceIte, reduceCtorEq, BitVec.reduceOfInt, BitVec.reduceToNat, b1, List.take_succ_cons, List.take_zero, List.drop_succ_cons, List.drop_zero, nonceL_len, headL_len]; try simp only [top_out])
          refine seal_u nk ok _ ck (M.length + 1) 0 _ _ (M.length + 2) 0 _ _ nt ot _ ct key (nonceL s g c) (headL t l g c) text _ _ hk.app rfl hck hmk (BAt.row (z := z) (ty := ty) (by rw [get_app]; rfl)) (nonceL_len _ _ _).symm
            (BAt.row (z := z1) (ty := ty1) (by rw [get_app]; rfl)) (headL_len _ _ _ _).symm (by omega) ht.app rfl hct fun z2 ty2 => ?_
          rw [hsu, hse, hsl]
          (refine top_in ?_; simp -implicitDefEqProofs only [go_sem, -List.reduceReplicate, ↓L_gdZ_tt, ↓L_gdZ_tf, ↓L_gdZ_ft, ↓L_gdZ_ff, ↓T_and, ↓T_imp, ↓T_all, Nat.reduceBEq, Nat.reduceAdd, Nat.reduceSub, Nat.reduceMul, Nat.reduceLT, Nat.reduceLeDiff, Nat.reduceEqDiff, Int.reduceLT, Int.reduceLE, Int.reduceAdd, Int.reduceSub, Int.reduceMul, Int.reduceNeg, Int.reduceToNat, Int.reduceEq, Int.reduceNe, reduceIte, reduceCtorEq, BitVec.reduceOfInt, BitVec.reduceToNat, b1, List.take_succ_cons, List.take_zero, List.drop_succ_cons, List.drop_zero, nonceL_len, headL_len]; try simp only [top_out])
          refine ⟨fun h => absurd h (by decide), fun _ => ?_⟩
          refine app8 (M.length + 2) (headL t l g c) z1 (sealL key (nonceL s g c) (headL t l g c) text) ty1 rfl rfl rfl (by rw [get_app]; rfl) (headL_len _ _ _ _).symm (by rw [headL_len]) ?_ (by rw [headL_len]; omega) ?_
          · have := (BAt.row (M := M ++ [.row [.i .i64 t, .i .i64 l, .i .i64 g, .u64 c, .sl nt ot text.length ct] 57, .row (bS (nonceL s g c ++ z)) ty, .row (bS (headL t l g c ++ z1)) ty1, .row (bS (sealL key (nonceL s g c) (headL t l g c) text ++ z2)) ty2]) (n := M.length + 3) (l := sealL key (nonceL s g c) (headL t l g c) text) (z := z2) (ty := ty2) (by rw [get_app]; rfl)).src (cap := text.length + (16 + z2.length))
            rw [hsl] at this
            exact this
          intro z3 ty3
          rw [hsl, headL_len]
          (refine top_in ?_; simp -implicitDefEqProofs only [go_sem, -List.reduceReplicate, ↓L_gdZ_tt, ↓L_gdZ_tf, ↓L_gdZ_ft, ↓L_gdZ_ff, ↓T_and, ↓T_imp, ↓T_all, Nat.reduceBEq, Nat.reduceAdd, Nat.reduceSub, Nat.reduceMul, Nat.reduceLT, Nat.reduceLeDiff, Nat.reduceEqDiff, Int.reduceLT, Int.reduceLE, Int.reduceAdd, Int.reduceSub, Int.reduceMul, Int.reduceNeg, Int.reduceToNat, Int.reduceEq, Int.reduceNe, reduceIte, reduceCtorEq, BitVec.reduceOfInt, BitVec.reduceToNat]; try simp only [top_out])
          refine dropC_gc (L := [.row [.i .i64 t, .i .i64 l, .i .i64 g, .u64 c, .sl nt ot text.length ct] 57, .row (bS (nonceL s g c ++ z)) ty, .dead, .row (bS (sealL key (nonceL s g c) (headL t l g c) text ++ z2)) ty2, .row (bS (headL t l g c ++ (sealL key (nonceL s g c) (headL t l g c) text ++ z3))) ty3]) hM [some 4] (.tup [.sl M.length 0 (headL t l g c ++ sealL key (nonceL s g c) (headL t l g c) text).length ((headL t l g c ++ sealL key (nonceL s g c) (headL t l g c) text).length + z3.length), .i .i64 0]) [.row (bS (headL t l g c ++ sealL key (nonceL s g c) (headL t l g c) text ++ z3)) ty3] rfl ⟨keep8 (by rw [List.append_assoc]; rfl), trivial⟩ (by simp [lt_row]) (by simp [SV.lt, ltL]) (fun ρ => ?_) (hK z3 ty3)
          have hsum : (headL t l g c ++ sealL key (nonceL s g c) (headL t l g c) text).length = 20 + (text.length + 16) := by rw [List.length_append, headL_len, hsl]
          simp only [rn_tup, rnL_cons, rnL_nil, rn_sl_at0, rn_i, List.getElem?_cons_zero, Option.join_some, rnSl_s, hsum, Nat.add_assoc]
  · have b1 : ((key.length : Int) != 32) = true := bneN k32
    have he : psealE key s t l g c text.length = 40 := psealE_key k32
    rw [he] at no
    refine fn_rule tabOK Try.func29 rfl Try.call29 (by kernel_rfl) (fun hM => ?_)
    (refine top_in ?_; simp -implicitDefEqProofs only [Try.ntmps29, Try.results29, go_sem, -List.reduceReplicate, ↓L_gdZ_tt, ↓L_gdZ_tf, ↓L_gdZ_ft, ↓L_gdZ_ff, ↓T_and, ↓T_imp, ↓T_all, Nat.reduceBEq, Nat.reduceAdd, Nat.reduceSub, Nat.reduceMul, Nat.reduceLT, Nat.reduceLeDiff, Nat.reduceEqDiff, Int.reduceLT, Int.reduceLE, Int.reduceAdd, Int.reduceSub, Int.reduceMul, Int.reduceNeg, Int.reduceToNat, Int.reduceEq, Int.reduceNe, reduceIte, reduceCtorEq, BitVec.reduceOfInt, BitVec.reduceToNat, b1, List.take_succ_cons, List.take_zero, List.drop_succ_cons, List.drop_zero]; try simp only [top_out])
    exact drop8ntL hM (no (by decide))

set_option maxHeartbeats 2000000 in
theorem refpseal_u (nk ok lk ck nt ot lt ct : Nat) (key text : List (BitVec 8)) (s t l g : Int) (c : BitVec 64) (M : List Blk) (K : SV → List Blk → Prop)
    (hk : BAt M nk ok key) (hlk : lk = key.length) (hck : lk ≤ ck) (hmk : lk ≤ 140737488355000) (ht : BAt M nt ot text) (hlt : lt = text.length) (hct : lt ≤ ct)
    (hK : ∀ z ty, K (.tup [.sl M.length 0 (psealU key s t l g c text).length ((psealU key s t l g c text).length + z.length), .i .i64 (psealE key s t l g c text.length)]) (M ++ [.row (bS (psealU key s t l g c text ++ z)) ty])) :
    callVC Try.prog 30 [.sl nk ok lk ck, .i .i64 s, pkS t l g c (.sl nt ot lt ct)] M K := by
  subst hlk hlt
  have no : psealE key s t l g c text.length ≠ 0 → ∀ ty, K (.tup [.sl M.length 0 0 0, .i .i64 (psealE key s t l g c text.length)]) (M ++ [.row (bS []) ty]) := fun h ty => by
    have := hK [] ty
    unfold psealU at this
    rw [if_neg h] at this
    exact this
  unfold pkS
  by_cases k32 : key.length = 32
  · have b1 : ((key.length : Int) != 32) = false := beqIN k32
    cases hh : headB t l g c with
    | false =>
      have hb : psealB key s t l g c text.length = false := by unfold psealB; rw [hh, Bool.and_false]; rfl
      have he := psealE_no k32 hb
      rw [he] at no
      refine fn_rule tabOK Try.func30 rfl Try.call30 (by kernel_rfl) (fun hM => ?_)
      (refine top_in ?_; simp -implicitDefEqProofs only [Try.ntmps30, Try.results30, go_sem, -List.reduceReplicate, ↓L_gdZ_tt, ↓L_gdZ_tf, ↓L_gdZ_ft, ↓L_gdZ_ff, ↓T_and, ↓T_imp, ↓T_all, Nat.reduceBEq, Nat.reduceAdd, Nat.reduceSub, Nat.reduceMul, Nat.reduceLT, Nat.reduceLeDiff, Nat.reduceEqDiff, Int.reduceLT, Int.reduceLE, Int.reduceAdd, Int.reduceSub, Int.reduceMul, Int.reduceNeg, Int.reduceToNat, Int.reduceEq, Int.reduceNe, reduceIte, reduceCtorEq, BitVec.reduceOfInt, BitVec.reduceToNat, b1, List.take_succ_cons, List.take_zero, List.drop_succ_cons, List.drop_zero]; try simp only [top_out])
      refine refPutHead_ok t l g c _ _ (fun h => by rw [hh] at h; cases h) (fun _ => ?_)
      (refine top_in ?_; simp -implicitDefEqProofs only [go_sem, -List.reduceReplicate, ↓L_gdZ_tt, ↓L_gdZ_tf, ↓L_gdZ_ft, ↓L_gdZ_ff, ↓T_and, ↓T_imp, ↓T_all, Nat.reduceBEq, Nat.reduceAdd, Nat.reduceSub, Nat.reduceMul, Nat.reduceLT, Nat.reduceLeDiff, Nat.reduceEqDiff, Int.reduceLT, Int.reduceLE, Int.reduceAdd, Int.reduceSub, Int.reduceMul, Int.reduceNeg, Int.reduceToNat, Int.reduceEq, Int.reduceNe, reduceIte, reduceCtorEq, BitVec.reduceOfInt, BitVec.reduceToNat, b1, List.take_succ_cons, List.take_zero, List.drop_succ_cons, List.drop_zero, nonceL_len, headL_len]; try simp only [top_out])
      refine reffits_ok t text.length _ _ ?_
      (refine top_in ?_; simp -implicitDefEqProofs only [go_sem, -List.reduceReplicate, ↓L_gdZ_tt, ↓L_gdZ_tf, ↓L_gdZ_ft, ↓L_gdZ_ff, ↓T_and, ↓T_imp, ↓T_all, Nat.reduceBEq, Nat.reduceAdd, Nat.reduceSub, Nat.reduceMul, Nat.reduceLT, Nat.reduceLeDiff, Nat.reduceEqDiff, Int.reduceLT, Int.reduceLE, Int.reduceAdd, Int.reduceSub, Int.reduceMul, Int.reduceNeg, Int.reduceToNat, Int.reduceEq, Int.reduceNe, reduceIte, reduceCtorEq, BitVec.reduceOfInt, BitVec.reduceToNat, q90, b1, List.take_succ_cons, List.take_zero, List.drop_succ_cons, List.drop_zero, nonceL_len, headL_len]; try simp only [top_out])
      repeat' (with_reducible first | refine And.intro ?_ ?_ | intro)
      all_goals exact drop8ntL hM (no (by decide))
    | true =>
      have hhb := headB_true hh
      refine fn_rule tabOK Try.func30 rfl Try.call30 (by kernel_rfl) (fun hM => ?_)
      (refine top_in ?_; simp -implicitDefEqProofs only [Try.ntmps30, Try.results30, go_sem, -List.reduceReplicate, ↓L_gdZ_tt, ↓L_gdZ_tf, ↓L_gdZ_ft, ↓L_gdZ_ff, ↓T_and, ↓T_imp, ↓T_all, Nat.reduceBEq, Nat.reduceAdd, Nat.reduceSub, Nat.reduceMul, Nat.reduceLT, Nat.reduceLeDiff, Nat.reduceEqDiff, Int.reduceLT, Int.reduceLE, Int.reduceAdd, Int.reduceSub, Int.reduceMul, Int.reduceNeg, Int.reduceToNat, Int.reduceEq, Int.reduceNe, reduceIte, reduceCtorEq, BitVec.reduceOfInt, BitVec.reduceToNat, b1, List.take_succ_cons, List.take_zero, List.drop_succ_cons, List.drop_zero]; try simp only [top_out])
      refine refPutHead_ok t l g c _ _ (fun _ z1 ty1 => ?_) (fun h => by rw [hh] at h; cases h)
      (refine top_in ?_; simp -implicitDefEqProofs only [go_sem, -List.reduceReplicate, ↓L_gdZ_tt, ↓L_gdZ_tf, ↓L_gdZ_ft, ↓L_gdZ_ff, ↓T_and, ↓T_imp, ↓T_all, Nat.reduceBEq, Nat.reduceAdd, Nat.reduceSub, Nat.reduceMul, Nat.reduceLT, Nat.reduceLeDiff, Nat.reduceEqDiff, Int.reduceLT, Int.reduceLE, Int.reduceAdd, Int.reduceSub, Int.reduceMul, Int.reduceNeg, Int.reduceToNat, Int.reduceEq, Int.reduceNe, reduceIte, reduceCtorEq, BitVec.reduceOfInt, BitVec.reduceToNat, b1, List.take_succ_cons, List.take_zero, List.drop_succ_cons, List.drop_zero, nonceL_len, headL_len]; try simp only [top_out])
      refine reffits_ok t text.length _ _ ?_
      cases hf : fitsB t text.length with
      | false =>
        have hb : psealB key s t l g c text.length = false := by unfold psealB; rw [hf, Bool.and_false]
        have he := psealE_no k32 hb
        rw [he] at no
        (refine top_in ?_; simp -implicitDefEqProofs only [go_sem, -List.reduceReplicate, ↓L_gdZ_tt, ↓L_gdZ_tf, ↓L_gdZ_ft, ↓L_gdZ_ff, ↓T_and, ↓T_imp, ↓T_all, Nat.reduceBEq, Nat.reduceAdd, Nat.reduceSub, Nat.reduceMul, Nat.reduceLT, Nat.reduceLeDiff, Nat.reduceEqDiff, Int.reduceLT, Int.reduceLE, Int.reduceAdd, Int.reduceSub, Int.reduceMul, Int.reduceNeg, Int.reduceToNat, Int.reduceEq, Int.reduceNe, reduceIte, reduceCtorEq, BitVec.reduceOfInt, BitVec.reduceToNat, b1, List.take_succ_cons, List.take_zero, List.drop_succ_cons, List.drop_zero, nonceL_len, headL_len]; try simp only [top_out])
        repeat' (with_reducible first | refine And.intro ?_ ?_ | intro)
        all_goals exact drop8ntL hM (no (by decide))
      | true =>
        cases hn : nonceB s g c with
        | false =>
          have hb : psealB key s t l g c text.length = false := by unfold psealB; rw [hn]; rfl
          have he := psealE_no k32 hb
          rw [he] at no
          have hs : s < 0 ∨ 1 < s := by
            by_cases h0 : s < 0
            · exact .inl h0
            · by_cases h1 : 1 < s
              · exact .inr h1
              · exact (nonceB_of hn (by omega) (by omega) (by omega) (by omega)).elim
          (refine top_in ?_; simp -implicitDefEqProofs only [go_sem, -List.reduceReplicate, ↓L_gdZ_tt, ↓L_gdZ_tf, ↓L_gdZ_ft, ↓L_gdZ_ff, ↓T_and, ↓T_imp, ↓T_all, Nat.reduceBEq, Nat.reduceAdd, Nat.reduceSub, Nat.reduceMul, Nat.reduceLT, Nat.reduceLeDiff, Nat.reduceEqDiff, Int.reduceLT, Int.reduceLE, Int.reduceAdd, Int.reduceSub, Int.reduceMul, Int.reduceNeg, Int.reduceToNat, Int.reduceEq, Int.reduceNe, reduceIte, reduceCtorEq, BitVec.reduceOfInt, BitVec.reduceToNat, b1, List.take_succ_cons, List.take_zero, List.drop_succ_cons, List.drop_zero, nonceL_len, headL_len]; try simp only [top_out])
          rcases hs with h0 | h0
          · have c0 : (s < 0) = True := by simp; omega
            (refine top_in ?_; simp -implicitDefEqProofs only [go_sem, -List.reduceReplicate, ↓L_gdZ_tt, ↓L_gdZ_tf, ↓L_gdZ_ft, ↓L_gdZ_ff, ↓T_and, ↓T_imp, ↓T_all, Nat.reduceBEq, Nat.reduceAdd, Nat.reduceSub, Nat.reduceMul, Nat.reduceLT, Nat.reduceLeDiff, Nat.reduceEqDiff, Int.reduceLT, Int.reduceLE, Int.reduceAdd, Int.reduceSub, Int.reduceMul, Int.reduceNeg, Int.reduceToNat, Int.reduceEq, Int.reduceNe, reduceIte, reduceCtorEq, BitVec.reduceOfInt, BitVec.reduceToNat, c0]; try simp only [top_out])
            exact drop8ntL hM (no (by decide))
          · have c0 : (s < 0) = False := by simp; omega
            have c1 : (1 < s) = True := by simp; omega
            (refine top_in ?_; simp -implicitDefEqProofs only [go_sem, -List.reduceReplicate, ↓L_gdZ_tt, ↓L_gdZ_tf, ↓L_gdZ_ft, ↓L_gdZ_ff, ↓T_and, ↓T_imp, ↓T_all, Nat.reduceBEq, Nat.reduceAdd, Nat.reduceSub, Nat.reduceMul, Nat.reduceLT, Nat.reduceLeDiff, Nat.reduceEqDiff, Int.reduceLT, Int.reduceLE, Int.reduceAdd, Int.reduceSub, Int.reduceMul, Int.reduceNeg, Int.reduceToNat, Int.reduceEq, Int.reduceNe, reduceIte, reduceCtorEq, BitVec.reduceOfInt, BitVec.reduceToNat, c0, c1]; try simp only [top_out])
            exact drop8ntL hM (no (by decide))
        | true =>
          obtain ⟨hs, _⟩ := nonceB_true hn
          have c0 : (s < 0) = False := by simp; omega
          have c1 : (1 < s) = False := by simp; omega
          have hb : psealB key s t l g c text.length = true := by unfold psealB; rw [hn, hh, hf]; rfl
          have he := psealE_yes k32 hb
          have hfl := fits_le hf
          have hse : sealE key (nonceL s g c) (headL t l g c) text = 0 := sealE_ok k32 (nonceL_len _ _ _) (by rw [headL_len]; omega) (by omega)
          have hsu : sealU key (nonceL s g c) (headL t l g c) text = sealL key (nonceL s g c) (headL t l g c) text := if_pos hse
          have hU : psealU key s t l g c text = headL t l g c ++ sealL key (nonceL s g c) (headL t l g c) text := by unfold psealU; rw [if_pos he]; rfl
          have hsl := sealL_len key (nonceL s g c) (headL t l g c) text
          rw [he, hU] at hK
          (refine top_in ?_; simp -implicitDefEqProofs only [go_sem, -List.reduceReplicate, ↓L_gdZ_tt, ↓L_gdZ_tf, ↓L_gdZ_ft, ↓L_gdZ_ff, ↓T_and, ↓T_imp, ↓T_all, Nat.reduceBEq, Nat.reduceAdd, Nat.reduceSub, Nat.reduceMul, Nat.reduceLT, Nat.reduceLeDiff, Nat.reduceEqDiff, Int.reduceLT, Int.reduceLE, Int.reduceAdd, Int.reduceSub, Int.reduceMul, Int.reduceNeg, Int.reduceToNat, Int.reduceEq, Int.reduceNe, reduceIte, reduceCtorEq, BitVec.reduceOfInt, BitVec.reduceToNat, b1, q00, c0, c1, List.take_succ_cons, List.take_zero, List.drop_succ_cons, List.drop_zero, nonceL_len, headL_len]; try simp only [top_out])
          refine refnonce_ok s g c _ _ (fun _ z ty => ?_) (fun h => by rw [hn] at h; cases h)
          (refine top_in ?_; simp -implicitDefEqProofs only [go_sem, -List.reduceReplicate, ↓L_gdZ_tt, ↓L_gdZ_tf, ↓L_gdZ_ft, ↓L_gdZ_ff, ↓T_and, ↓T_imp, ↓T_all, Nat.reduceBEq, Nat.reduceAdd, Nat.reduceSub, Nat.reduceMul, Nat.reduceLT, Nat.reduceLeDiff, Nat.reduceEqDiff, Int.reduceLT, Int.reduceLE, Int.reduceAdd, Int.reduceSub, Int.reduceMul, Int.reduceNeg, Int.reduceToNat, Int.reduceEq, Int.reduceNe, reduceIte, reduceCtorEq, BitVec.reduceOfInt, BitVec.reduceToNat, b1, List.take_succ_cons, List.take_zero, List.drop_succ_cons, List.drop_zero, nonceL_len, headL_len]; try simp only [top_out])
          refine refseal_u nk ok _ ck (M.length + 2) 0 _ _ (M.length + 1) 0 _ _ nt ot _ ct key (nonceL s g c) (headL t l g c) text _ _ hk.app rfl hck hmk (BAt.row (z := z) (ty := ty) (by rw [get_app]; rfl)) (nonceL_len _ _ _).symm
            (BAt.row (z := z1) (ty := ty1) (by rw [get_app]; rfl)) (headL_len _ _ _ _).symm (by omega) ht.app rfl hct fun z2 ty2 => ?_
          rw [hsu, hse, hsl]
          (refine top_in ?_; simp -implicitDefEqProofs only [go_sem, -List.reduceReplicate, ↓L_gdZ_tt, ↓L_gdZ_tf, ↓L_gdZ_ft, ↓L_gdZ_ff, ↓T_and, ↓T_imp, ↓T_all, Nat.reduceBEq, Nat.reduceAdd, Nat.reduceSub, Nat.reduceMul, Nat.reduceLT, Nat.reduceLeDiff, Nat.reduceEqDiff, Int.reduceLT, Int.reduceLE, Int.reduceAdd, Int.reduceSub, Int.reduceMul, Int.reduceNeg, Int.reduceToNat, Int.reduceEq, Int.reduceNe, reduceIte, reduceCtorEq, BitVec.reduceOfInt, BitVec.reduceToNat, b1, List.take_succ_cons, List.take_zero, List.drop_succ_cons, List.drop_zero, nonceL_len, headL_len]; try simp only [top_out])
          refine app8 (M.length + 1) (headL t l g c) z1 (sealL key (nonceL s g c) (headL t l g c) text) ty1 rfl rfl rfl (by rw [get_app]; rfl) (headL_len _ _ _ _).symm (by rw [headL_len]) ?_ (by rw [headL_len]; omega) ?_
          · have := (BAt.row (M := M ++ [.row [.i .i64 t, .i .i64 l, .i .i64 g, .u64 c, .sl nt ot text.length ct] 57, .row (bS (headL t l g c ++ z1)) ty1, .row (bS (nonceL s g c ++ z)) ty, .row (bS (sealL key (nonceL s g c) (headL t l g c) text ++ z2)) ty2]) (n := M.length + 3) (l := sealL key (nonceL s g c) (headL t l g c) text) (z := z2) (ty := ty2) (by rw [get_app]; rfl)).src (cap := text.length + (16 + z2.length))
            rw [hsl] at this
            exact this
          intro z3 ty3
          rw [hsl, headL_len]
          (refine top_in ?_; simp -implicitDefEqProofs only [go_sem, -List.reduceReplicate, ↓L_gdZ_tt, ↓L_gdZ_tf, ↓L_gdZ_ft, ↓L_gdZ_ff, ↓T_and, ↓T_imp, ↓T_all, Nat.reduceBEq, Nat.reduceAdd, Nat.reduceSub, Nat.reduceMul, Nat.reduceLT, Nat.reduceLeDiff, Nat.reduceEqDiff, Int.reduceLT, Int.reduceLE, Int.reduceAdd, Int.reduceSub, Int.reduceMul, Int.reduceNeg, Int.reduceToNat, Int.reduceEq, Int.reduceNe, reduceIte, reduceCtorEq, BitVec.reduceOfInt, BitVec.reduceToNat]; try simp only [top_out])
          refine dropC_gc (L := [.row [.i .i64 t, .i .i64 l, .i .i64 g, .u64 c, .sl nt ot text.length ct] 57, .dead, .row (bS (nonceL s g c ++ z)) ty, .row (bS (sealL key (nonceL s g c) (headL t l g c) text ++ z2)) ty2, .row (bS (headL t l g c ++ (sealL key (nonceL s g c) (headL t l g c) text ++ z3))) ty3]) hM [some 4] (.tup [.sl M.length 0 (headL t l g c ++ sealL key (nonceL s g c) (headL t l g c) text).length ((headL t l g c ++ sealL key (nonceL s g c) (headL t l g c) text).length + z3.length), .i .i64 0]) [.row (bS (headL t l g c ++ sealL key (nonceL s g c) (headL t l g c) text ++ z3)) ty3] rfl ⟨keep8 (by rw [List.append_assoc]; rfl), trivial⟩ (by simp [lt_row]) (by simp [SV.lt, ltL]) (fun ρ => ?_) (hK z3 ty3)
          have hsum : (headL t l g c ++ sealL key (nonceL s g c) (headL t l g c) text).length = 20 + (text.length + 16) := by rw [List.length_append, headL_len, hsl]
          simp only [rn_tup, rnL_cons, rnL_nil, rn_sl_at0, rn_i, List.getElem?_cons_zero, Option.join_some, rnSl_s, hsum, Nat.add_assoc]
  · have b1 : ((key.length : Int) != 32) = true := bneN k32
    have he : psealE key s t l g c text.length = 40 := psealE_key k32
    rw [he] at no
    refine fn_rule tabOK Try.func30 rfl Try.call30 (by kernel_rfl) (fun hM => ?_)
    (refine top_in ?_; simp -implicitDefEqProofs only [Try.ntmps30, Try.results30, go_sem, -List.reduceReplicate, ↓L_gdZ_tt, ↓L_gdZ_tf, ↓L_gdZ_ft, ↓L_gdZ_ff, ↓T_and, ↓T_imp, ↓T_all, Nat.reduceBEq, Nat.reduceAdd, Nat.reduceSub, Nat.reduceMul, Nat.reduceLT, Nat.reduceLeDiff, Nat.reduceEqDiff, Int.reduceLT, Int.reduceLE, Int.reduceAdd, Int.reduceSub, Int.reduceMul, Int.reduceNeg, Int.reduceToNat, Int.reduceEq, Int.reduceNe, reduceIte, reduceCtorEq, BitVec.reduceOfInt, BitVec.reduceToNat, b1, List.take_succ_cons, List.take_zero, List.drop_succ_cons, List.drop_zero]; try simp only [top_out])
    exact drop8ntL hM (no (by decide))
end Go.Proofs.Ytdkdbeamimkljaa.Eng

/- Packets opened, by the program and by the document. -/
namespace Go.Proofs.Ytdkdbeamimkljaa.Eng
open Go Go.RowKit
set_option linter.unusedSimpArgs false
set_option linter.unusedVariables false

def popenN (s : Int) (b : List (BitVec 8)) : List (BitVec 8) := nonceL s (hG b) (hC b)
def popenB (key : List (BitVec 8)) (s : Int) (b : List (BitVec 8)) : Bool := decide (key.length = 32) && (partB b && (nonceB s (hG b) (hC b) && openB key (popenN s b) (b.take 20) (b.drop 20)))
def popenU (key : List (BitVec 8)) (s : Int) (b : List (BitVec 8)) : List (BitVec 8) := if popenB key s b = true then openL key (popenN s b) (b.drop 20) else []
def oT (ok : Bool) (b : List (BitVec 8)) : Int := if ok = true then hT b else 0
def oL (ok : Bool) (b : List (BitVec 8)) : Int := if ok = true then hL b else 0
def oG (ok : Bool) (b : List (BitVec 8)) : Int := if ok = true then hG b else 0
def oC (ok : Bool) (b : List (BitVec 8)) : BitVec 64 := if ok = true then hC b else 0#64
theorem popenU_len (key : List (BitVec 8)) (s : Int) (b : List (BitVec 8)) : (popenU key s b).length ≤ b.length := by
  unfold popenU
  split
  · rw [openL_len, List.length_drop]; omega
  · simp
theorem partB_len {b : List (BitVec 8)} (h : partB b = true) : 45 ≤ b.length ∧ b.length ≤ 1316 := by
  simp only [partB, Bool.and_eq_true, decide_eq_true_eq] at h
  have hf := h.2
  unfold fitsB at hf
  split at hf <;> simp at hf <;> omega
theorem partB_head {b : List (BitVec 8)} (h : partB b = true) : headB (hT b) (hL b) (hG b) (hC b) = true := by
  simp only [partB, Bool.and_eq_true, decide_eq_true_eq] at h
  exact h.1.2
theorem drop8pkL {M L : List Blk} {K : SV → List Blk → Prop} (hM : ∀ (n : Nat) (B : Blk), M[n]? = some B → B.lt M.length = true)
    (hK : ∀ ty, K (.tup [pkS 0 0 0 0#64 (.sl M.length 0 0 0), .b false]) (M ++ [.row (bS []) ty])) : dropC M.length (.tup [.agg [.i .i64 0, .i .i64 0, .i .i64 0, .u64 0#64, .sn], .b false]) (M ++ L) K := by
  refine dropC_gc (L := L) (v := .tup [.agg [.i .i64 0, .i .i64 0, .i .i64 0, .u64 0#64, .sn], .b false]) (K := K) hM [none] (.tup [pkS 0 0 0 0#64 (.sl M.length 0 0 0), .b false]) [.row [] 0] rfl ⟨rfl, trivial⟩ (by simp [Blk.lt, ltL]) (by simp [pkS, SV.lt, ltL]) (fun ρ => ?_) (hK 0)
  have h0 : den ρ ((SV.sl M.length 0 0 0).rn (tau M.length [none])) = den ρ .sn := rn_nil
  simp only [pkS, rn_tup, rn_agg, rnL_cons, rnL_nil, rn_i, rn_b, rn_u64]
  simp only [den, denL] at h0 ⊢
  rw [h0]
set_option maxHeartbeats 2000000 in
theorem popen_u (nk ok lk ck n off lb cb : Nat) (key b : List (BitVec 8)) (s : Int) (M : List Blk) (K : SV → List Blk → Prop)
    (hk : BAt M nk ok key) (hlk : lk = key.length) (hck : lk ≤ ck) (hmk : lk ≤ 140737488355000) (hb : BAt M n off b) (hlb : lb = b.length) (hcb : lb ≤ cb) (hmb : lb ≤ 140737488355000)
    (hK : ∀ z ty, K (.tup [pkS (oT (popenB key s b) b) (oL (popenB key s b) b) (oG (popenB key s b) b) (oC (popenB key s b) b) (.sl M.length 0 (popenU key s b).length ((popenU key s b).length + z.length)), .b (popenB key s b)]) (M ++ [.row (bS (popenU key s b ++ z)) ty])) :
    callVC Try.prog 27 [.sl nk ok lk ck, .i .i64 s, .sl n off lb cb] M K := by
  subst hlk hlb
  have no : popenB key s b = false → ∀ ty, K (.tup [pkS 0 0 0 0#64 (.sl M.length 0 0 0), .b false]) (M ++ [.row (bS []) ty]) := fun h ty => by
    have := hK [] ty
    unfold popenU at this
    rw [h] at this
    exact this
  cases hp : partB b with
  | false =>
    have hB : popenB key s b = false := by unfold popenB; rw [hp]; simp
    refine fn_rule tabOK Try.func27 rfl Try.call27 (by kernel_rfl) (fun hM => ?_)
    (refine top_in ?_; simp -implicitDefEqProofs only [Try.ntmps27, Try.results27, go_sem, -List.reduceReplicate, ↓L_gdZ_tt, ↓L_gdZ_tf, ↓L_gdZ_ft, ↓L_gdZ_ff, ↓T_and, ↓T_imp, ↓T_all, Nat.reduceBEq, Nat.reduceAdd, Nat.reduceSub, Nat.reduceMul, Nat.reduceLT, Nat.reduceLeDiff, Nat.reduceEqDiff, Int.reduceLT, Int.reduceLE, Int.reduceAdd, Int.reduceSub, Int.reduceMul, Int.reduceNeg, Int.reduceToNat, Int.reduceEq, Int.reduceNe, reduceIte, reduceCtorEq, BitVec.reduceOfInt, BitVec.reduceToNat]; try simp only [top_out])
    refine apart_ok n off cb b _ _ hb.app hmb hcb (fun h => by rw [hp] at h; cases h) (fun _ => ?_)
    (refine top_in ?_; simp -implicitDefEqProofs only [go_sem, -List.reduceReplicate, ↓L_gdZ_tt, ↓L_gdZ_tf, ↓L_gdZ_ft, ↓L_gdZ_ff, ↓T_and, ↓T_imp, ↓T_all, Nat.reduceBEq, Nat.reduceAdd, Nat.reduceSub, Nat.reduceMul, Nat.reduceLT, Nat.reduceLeDiff, Nat.reduceEqDiff, Int.reduceLT, Int.reduceLE, Int.reduceAdd, Int.reduceSub, Int.reduceMul, Int.reduceNeg, Int.reduceToNat, Int.reduceEq, Int.reduceNe, reduceIte, reduceCtorEq, BitVec.reduceOfInt, BitVec.reduceToNat]; try simp only [top_out])
    exact drop8pkL hM (no hB)
  | true =>
    obtain ⟨l45, l13⟩ := partB_len hp
    by_cases k32 : key.length = 32
    · have b1 : ((key.length : Int) != 32) = false := beqIN k32
      refine fn_rule tabOK Try.func27 rfl Try.call27 (by kernel_rfl) (fun hM => ?_)
      (refine top_in ?_; simp -implicitDefEqProofs only [Try.ntmps27, Try.results27, go_sem, -List.reduceReplicate, ↓L_gdZ_tt, ↓L_gdZ_tf, ↓L_gdZ_ft, ↓L_gdZ_ff, ↓T_and, ↓T_imp, ↓T_all, Nat.reduceBEq, Nat.reduceAdd, Nat.reduceSub, Nat.reduceMul, Nat.reduceLT, Nat.reduceLeDiff, Nat.reduceEqDiff, Int.reduceLT, Int.reduceLE, Int.reduceAdd, Int.reduceSub, Int.reduceMul, Int.reduceNeg, Int.reduceToNat, Int.reduceEq, Int.reduceNe, reduceIte, reduceCtorEq, BitVec.reduceOfInt, BitVec.reduceToNat, b1]; try simp only [top_out])
      refine apart_ok n off cb b _ _ hb.app hmb hcb (fun _ => ?_) (fun h => by rw [hp] at h; cases h)
      (refine top_in ?_; simp -implicitDefEqProofs only [go_sem, -List.reduceReplicate, ↓L_gdZ_tt, ↓L_gdZ_tf, ↓L_gdZ_ft, ↓L_gdZ_ff, ↓T_and, ↓T_imp, ↓T_all, Nat.reduceBEq, Nat.reduceAdd, Nat.reduceSub, Nat.reduceMul, Nat.reduceLT, Nat.reduceLeDiff, Nat.reduceEqDiff, Int.reduceLT, Int.reduceLE, Int.reduceAdd, Int.reduceSub, Int.reduceMul, Int.reduceNeg, Int.reduceToNat, Int.reduceEq, Int.reduceNe, reduceIte, reduceCtorEq, BitVec.reduceOfInt, BitVec.reduceToNat, b1, List.take_succ_cons, List.take_zero, List.drop_succ_cons, List.drop_zero]; try simp only [top_out])
      cases hn : nonceB s (hG b) (hC b) with
      | false =>
        have hB : popenB key s b = false := by unfold popenB; rw [hn]; simp
        refine nonce_ok s (hG b) (hC b) _ _ (fun h => by rw [hn] at h; cases h) (fun _ => ?_)
        (refine top_in ?_; simp -implicitDefEqProofs only [go_sem, -List.reduceReplicate, ↓L_gdZ_tt, ↓L_gdZ_tf, ↓L_gdZ_ft, ↓L_gdZ_ff, ↓T_and, ↓T_imp, ↓T_all, Nat.reduceBEq, Nat.reduceAdd, Nat.reduceSub, Nat.reduceMul, Nat.reduceLT, Nat.reduceLeDiff, Nat.reduceEqDiff, Int.reduceLT, Int.reduceLE, Int.reduceAdd, Int.reduceSub, Int.reduceMul, Int.reduceNeg, Int.reduceToNat, Int.reduceEq, Int.reduceNe, reduceIte, reduceCtorEq, BitVec.reduceOfInt, BitVec.reduceToNat, b1, List.take_succ_cons, List.take_zero, List.drop_succ_cons, List.drop_zero, nonceL_len]; try simp only [top_out])
        exact drop8pkL hM (no hB)
      | true =>
        refine nonce_ok s (hG b) (hC b) _ _ (fun _ z ty => ?_) (fun h => by rw [hn] at h; cases h)
        (refine top_in ?_; simp -implicitDefEqProofs only [go_sem, -List.reduceReplicate, ↓L_gdZ_tt, ↓L_gdZ_tf, ↓L_gdZ_ft, ↓L_gdZ_ff, ↓T_and, ↓T_imp, ↓T_all, Nat.reduceBEq, Nat.reduceAdd, Nat.reduceSub, Nat.reduceMul, Nat.reduceLT, Nat.reduceLeDiff, Nat.reduceEqDiff, Int.reduceLT, Int.reduceLE, Int.reduceAdd, Int.reduceSub, Int.reduceMul, Int.reduceNeg, Int.reduceToNat, Int.reduceEq, Int.reduceNe, reduceIte, reduceCtorEq, BitVec.reduceOfInt, BitVec.reduceToNat, b1, List.take_succ_cons, List.take_zero, List.drop_succ_cons, List.drop_zero, nonceL_len]; try simp only [top_out])
        repeat (with_reducible refine And.intro (by omega) ?_)
        have b20 : BAt M n off (b.take 20) := by
          have := hb.sub (a := 0) (k := 20) (by omega)
          rwa [List.drop_zero, Nat.add_zero] at this
        have d20 : BAt M n (off + 20) (b.drop 20) := by
          have := hb.sub (a := 20) (k := b.length - 20) (by omega)
          rwa [List.take_of_length_le (by rw [List.length_drop]; exact Nat.le_refl _)] at this
        have hBo : popenB key s b = openB key (popenN s b) (b.take 20) (b.drop 20) := by unfold popenB; rw [hp, hn]; simp [k32]
        have hl20 : (b.take 20).length = 20 := by rw [List.length_take]; omega
        have hld : (b.drop 20).length = b.length - 20 := List.length_drop
        refine open_u nk ok _ ck (M.length + 2) 0 12 (12 + z.length) n off 20 20 n (off + 20) (b.length - 20) (b.length - 20) key (popenN s b) (b.take 20) (b.drop 20) _ _ hk.app rfl hck hmk (BAt.row (z := z) (ty := ty) (by rw [get_app]; rfl)) (nonceL_len _ _ _).symm
          b20.app hl20.symm (by omega) d20.app hld.symm (Nat.le_refl _) (by omega) fun z2 ty2 => ?_
        cases ho : openB key (popenN s b) (b.take 20) (b.drop 20) with
        | false =>
          (refine top_in ?_; simp -implicitDefEqProofs only [go_sem, -List.reduceReplicate, ↓L_gdZ_tt, ↓L_gdZ_tf, ↓L_gdZ_ft, ↓L_gdZ_ff, ↓T_and, ↓T_imp, ↓T_all, Nat.reduceBEq, Nat.reduceAdd, Nat.reduceSub, Nat.reduceMul, Nat.reduceLT, Nat.reduceLeDiff, Nat.reduceEqDiff, Int.reduceLT, Int.reduceLE, Int.reduceAdd, Int.reduceSub, Int.reduceMul, Int.reduceNeg, Int.reduceToNat, Int.reduceEq, Int.reduceNe, reduceIte, reduceCtorEq, BitVec.reduceOfInt, BitVec.reduceToNat, b1, List.take_succ_cons, List.take_zero, List.drop_succ_cons, List.drop_zero, nonceL_len]; try simp only [top_out])
          exact drop8pkL hM (no (by rw [hBo, ho]))
        | true =>
          rw [hBo, ho] at hK
          have hU : popenU key s b = openU key (popenN s b) (b.take 20) (b.drop 20) := by unfold popenU openU; rw [hBo, ho]
          rw [hU] at hK
          (refine top_in ?_; simp -implicitDefEqProofs only [go_sem, -List.reduceReplicate, ↓L_gdZ_tt, ↓L_gdZ_tf, ↓L_gdZ_ft, ↓L_gdZ_ff, ↓T_and, ↓T_imp, ↓T_all, Nat.reduceBEq, Nat.reduceAdd, Nat.reduceSub, Nat.reduceMul, Nat.reduceLT, Nat.reduceLeDiff, Nat.reduceEqDiff, Int.reduceLT, Int.reduceLE, Int.reduceAdd, Int.reduceSub, Int.reduceMul, Int.reduceNeg, Int.reduceToNat, Int.reduceEq, Int.reduceNe, reduceIte, reduceCtorEq, BitVec.reduceOfInt, BitVec.reduceToNat, b1, List.take_succ_cons, List.take_zero, List.drop_succ_cons, List.drop_zero, nonceL_len]; try simp only [top_out])
          refine dropC_gc (L := [.row [.i .i64 (hT b), .i .i64 (hL b), .i .i64 (hG b), .u64 (hC b), .sl (M.length + 3) 0 (openU key (popenN s b) (b.take 20) (b.drop 20)).length ((openU key (popenN s b) (b.take 20) (b.drop 20)).length + z2.length)] 57, .row [.i .i64 (hT b), .i .i64 (hL b), .i .i64 (hG b), .u64 (hC b), .sl n off 20 20, .sl n (off + 20) (b.length - 20) (b.length - 20)] 72, .row (bS (nonceL s (hG b) (hC b) ++ z)) ty, .row (bS (openU key (popenN s b) (b.take 20) (b.drop 20) ++ z2)) ty2])
            hM [some 3] (.tup [pkS (hT b) (hL b) (hG b) (hC b) (.sl M.length 0 (openU key (popenN s b) (b.take 20) (b.drop 20)).length ((openU key (popenN s b) (b.take 20) (b.drop 20)).length + z2.length)), .b true]) [.row (bS (openU key (popenN s b) (b.take 20) (b.drop 20) ++ z2)) ty2] rfl ⟨keep8 rfl, trivial⟩ (by simp [lt_row]) (by simp [pkS, SV.lt, ltL]) (fun ρ => ?_) (hK z2 ty2)
          simp only [pkS, rn_tup, rn_agg, rnL_cons, rnL_nil, rn_sl_at0, rn_i, rn_b, rn_u64, List.getElem?_cons_zero, Option.join_some, rnSl_s]
    · have b1 : ((key.length : Int) != 32) = true := bneN k32
      have hB : popenB key s b = false := by unfold popenB; simp [k32]
      refine fn_rule tabOK Try.func27 rfl Try.call27 (by kernel_rfl) (fun hM => ?_)
      (refine top_in ?_; simp -implicitDefEqProofs only [Try.ntmps27, Try.results27, go_sem, -List.reduceReplicate, ↓L_gdZ_tt, ↓L_gdZ_tf, ↓L_gdZ_ft, ↓L_gdZ_ff, ↓T_and, ↓T_imp, ↓T_all, Nat.reduceBEq, Nat.reduceAdd, Nat.reduceSub, Nat.reduceMul, Nat.reduceLT, Nat.reduceLeDiff, Nat.reduceEqDiff, Int.reduceLT, Int.reduceLE, Int.reduceAdd, Int.reduceSub, Int.reduceMul, Int.reduceNeg, Int.reduceToNat, Int.reduceEq, Int.reduceNe, reduceIte, reduceCtorEq, BitVec.reduceOfInt, BitVec.reduceToNat, b1]; try simp only [top_out])
      refine apart_ok n off cb b _ _ hb.app hmb hcb (fun _ => ?_) (fun h => by rw [hp] at h; cases h)
      (refine top_in ?_; simp -implicitDefEqProofs only [go_sem, -List.reduceReplicate, ↓L_gdZ_tt, ↓L_gdZ_tf, ↓L_gdZ_ft, ↓L_gdZ_ff, ↓T_and, ↓T_imp, ↓T_all, Nat.reduceBEq, Nat.reduceAdd, Nat.reduceSub, Nat.reduceMul, Nat.reduceLT, Nat.reduceLeDiff, Nat.reduceEqDiff, Int.reduceLT, Int.reduceLE, Int.reduceAdd, Int.reduceSub, Int.reduceMul, Int.reduceNeg, Int.reduceToNat, Int.reduceEq, Int.reduceNe, reduceIte, reduceCtorEq, BitVec.reduceOfInt, BitVec.reduceToNat, b1, List.take_succ_cons, List.take_zero, List.drop_succ_cons, List.drop_zero]; try simp only [top_out])
      exact drop8pkL hM (no hB)

set_option maxHeartbeats 2000000 in
theorem refpopen_u (nk ok lk ck n off lb cb : Nat) (key b : List (BitVec 8)) (s : Int) (M : List Blk) (K : SV → List Blk → Prop)
    (hk : BAt M nk ok key) (hlk : lk = key.length) (hck : lk ≤ ck) (hmk : lk ≤ 140737488355000) (hb : BAt M n off b) (hlb : lb = b.length) (hcb : lb ≤ cb) (hmb : lb ≤ 140737488355000)
    (hK : ∀ z ty, K (.tup [pkS (oT (popenB key s b) b) (oL (popenB key s b) b) (oG (popenB key s b) b) (oC (popenB key s b) b) (.sl M.length 0 (popenU key s b).length ((popenU key s b).length + z.length)), .b (popenB key s b)]) (M ++ [.row (bS (popenU key s b ++ z)) ty])) :
    callVC Try.prog 28 [.sl nk ok lk ck, .i .i64 s, .sl n off lb cb] M K := by
  subst hlk hlb
  have no : popenB key s b = false → ∀ ty, K (.tup [pkS 0 0 0 0#64 (.sl M.length 0 0 0), .b false]) (M ++ [.row (bS []) ty]) := fun h ty => by
    have := hK [] ty
    unfold popenU at this
    rw [h] at this
    exact this
  cases hp : partB b with
  | false =>
    have hB : popenB key s b = false := by unfold popenB; rw [hp]; simp
    refine fn_rule tabOK Try.func28 rfl Try.call28 (by kernel_rfl) (fun hM => ?_)
    (refine top_in ?_; simp -implicitDefEqProofs only [Try.ntmps28, Try.results28, go_sem, -List.reduceReplicate, ↓L_gdZ_tt, ↓L_gdZ_tf, ↓L_gdZ_ft, ↓L_gdZ_ff, ↓T_and, ↓T_imp, ↓T_all, Nat.reduceBEq, Nat.reduceAdd, Nat.reduceSub, Nat.reduceMul, Nat.reduceLT, Nat.reduceLeDiff, Nat.reduceEqDiff, Int.reduceLT, Int.reduceLE, Int.reduceAdd, Int.reduceSub, Int.reduceMul, Int.reduceNeg, Int.reduceToNat, Int.reduceEq, Int.reduceNe, reduceIte, reduceCtorEq, BitVec.reduceOfInt, BitVec.reduceToNat, q90]; try simp only [top_out])
    refine refGetHead_ok n off cb b _ _ hb.app hmb hcb (fun h => by rw [hp] at h; cases h) (fun _ => ?_)
    unfold hdS
    (refine top_in ?_; simp -implicitDefEqProofs only [go_sem, -List.reduceReplicate, ↓L_gdZ_tt, ↓L_gdZ_tf, ↓L_gdZ_ft, ↓L_gdZ_ff, ↓T_and, ↓T_imp, ↓T_all, Nat.reduceBEq, Nat.reduceAdd, Nat.reduceSub, Nat.reduceMul, Nat.reduceLT, Nat.reduceLeDiff, Nat.reduceEqDiff, Int.reduceLT, Int.reduceLE, Int.reduceAdd, Int.reduceSub, Int.reduceMul, Int.reduceNeg, Int.reduceToNat, Int.reduceEq, Int.reduceNe, reduceIte, reduceCtorEq, BitVec.reduceOfInt, BitVec.reduceToNat, q90]; try simp only [top_out])
    repeat' (with_reducible first | refine And.intro ?_ ?_ | intro)
    all_goals exact drop8pkL hM (no hB)
  | true =>
    obtain ⟨l45, l13⟩ := partB_len hp
    by_cases k32 : key.length = 32
    · have b1 : ((key.length : Int) != 32) = false := beqIN k32
      cases hn : nonceB s (hG b) (hC b) with
      | false =>
        have hB : popenB key s b = false := by unfold popenB; rw [hn]; simp
        have hh := headB_true (partB_head hp)
        have hs : s < 0 ∨ 1 < s := by
          by_cases h0 : s < 0
          · exact .inl h0
          · by_cases h1 : 1 < s
            · exact .inr h1
            · exact (nonceB_of hn (by omega) (by omega) (by omega) (by omega)).elim
        refine fn_rule tabOK Try.func28 rfl Try.call28 (by kernel_rfl) (fun hM => ?_)
        (refine top_in ?_; simp -implicitDefEqProofs only [Try.ntmps28, Try.results28, go_sem, -List.reduceReplicate, ↓L_gdZ_tt, ↓L_gdZ_tf, ↓L_gdZ_ft, ↓L_gdZ_ff, ↓T_and, ↓T_imp, ↓T_all, Nat.reduceBEq, Nat.reduceAdd, Nat.reduceSub, Nat.reduceMul, Nat.reduceLT, Nat.reduceLeDiff, Nat.reduceEqDiff, Int.reduceLT, Int.reduceLE, Int.reduceAdd, Int.reduceSub, Int.reduceMul, Int.reduceNeg, Int.reduceToNat, Int.reduceEq, Int.reduceNe, reduceIte, reduceCtorEq, BitVec.reduceOfInt, BitVec.reduceToNat, b1]; try simp only [top_out])
        refine refGetHead_ok n off cb b _ _ hb.app hmb hcb (fun _ => ?_) (fun h => by rw [hp] at h; cases h)
        unfold hdS
        rcases hs with h0 | h0
        · have c0 : (s < 0) = True := by simp; omega
          (refine top_in ?_; simp -implicitDefEqProofs only [go_sem, -List.reduceReplicate, ↓L_gdZ_tt, ↓L_gdZ_tf, ↓L_gdZ_ft, ↓L_gdZ_ff, ↓T_and, ↓T_imp, ↓T_all, Nat.reduceBEq, Nat.reduceAdd, Nat.reduceSub, Nat.reduceMul, Nat.reduceLT, Nat.reduceLeDiff, Nat.reduceEqDiff, Int.reduceLT, Int.reduceLE, Int.reduceAdd, Int.reduceSub, Int.reduceMul, Int.reduceNeg, Int.reduceToNat, Int.reduceEq, Int.reduceNe, reduceIte, reduceCtorEq, BitVec.reduceOfInt, BitVec.reduceToNat, b1, c0]; try simp only [top_out])
          exact drop8pkL hM (no hB)
        · have c0 : (s < 0) = False := by simp; omega
          have c1 : (1 < s) = True := by simp; omega
          (refine top_in ?_; simp -implicitDefEqProofs only [go_sem, -List.reduceReplicate, ↓L_gdZ_tt, ↓L_gdZ_tf, ↓L_gdZ_ft, ↓L_gdZ_ff, ↓T_and, ↓T_imp, ↓T_all, Nat.reduceBEq, Nat.reduceAdd, Nat.reduceSub, Nat.reduceMul, Nat.reduceLT, Nat.reduceLeDiff, Nat.reduceEqDiff, Int.reduceLT, Int.reduceLE, Int.reduceAdd, Int.reduceSub, Int.reduceMul, Int.reduceNeg, Int.reduceToNat, Int.reduceEq, Int.reduceNe, reduceIte, reduceCtorEq, BitVec.reduceOfInt, BitVec.reduceToNat, b1, c0, c1]; try simp only [top_out])
          exact drop8pkL hM (no hB)
      | true =>
        obtain ⟨hs, _⟩ := nonceB_true hn
        have c0 : (s < 0) = False := by simp; omega
        have c1 : (1 < s) = False := by simp; omega
        refine fn_rule tabOK Try.func28 rfl Try.call28 (by kernel_rfl) (fun hM => ?_)
        (refine top_in ?_; simp -implicitDefEqProofs only [Try.ntmps28, Try.results28, go_sem, -List.reduceReplicate, ↓L_gdZ_tt, ↓L_gdZ_tf, ↓L_gdZ_ft, ↓L_gdZ_ff, ↓T_and, ↓T_imp, ↓T_all, Nat.reduceBEq, Nat.reduceAdd, Nat.reduceSub, Nat.reduceMul, Nat.reduceLT, Nat.reduceLeDiff, Nat.reduceEqDiff, Int.reduceLT, Int.reduceLE, Int.reduceAdd, Int.reduceSub, Int.reduceMul, Int.reduceNeg, Int.reduceToNat, Int.reduceEq, Int.reduceNe, reduceIte, reduceCtorEq, BitVec.reduceOfInt, BitVec.reduceToNat, b1, c0, c1]; try simp only [top_out])
        refine refGetHead_ok n off cb b _ _ hb.app hmb hcb (fun _ => ?_) (fun h => by rw [hp] at h; cases h)
        unfold hdS
        (refine top_in ?_; simp -implicitDefEqProofs only [go_sem, -List.reduceReplicate, ↓L_gdZ_tt, ↓L_gdZ_tf, ↓L_gdZ_ft, ↓L_gdZ_ff, ↓T_and, ↓T_imp, ↓T_all, Nat.reduceBEq, Nat.reduceAdd, Nat.reduceSub, Nat.reduceMul, Nat.reduceLT, Nat.reduceLeDiff, Nat.reduceEqDiff, Int.reduceLT, Int.reduceLE, Int.reduceAdd, Int.reduceSub, Int.reduceMul, Int.reduceNeg, Int.reduceToNat, Int.reduceEq, Int.reduceNe, reduceIte, reduceCtorEq, BitVec.reduceOfInt, BitVec.reduceToNat, b1, c0, c1, q00]; try simp only [top_out])
        refine refnonce_ok s (hG b) (hC b) _ _ (fun _ z ty => ?_) (fun h => by rw [hn] at h; cases h)
        (refine top_in ?_; simp -implicitDefEqProofs only [go_sem, -List.reduceReplicate, ↓L_gdZ_tt, ↓L_gdZ_tf, ↓L_gdZ_ft, ↓L_gdZ_ff, ↓T_and, ↓T_imp, ↓T_all, Nat.reduceBEq, Nat.reduceAdd, Nat.reduceSub, Nat.reduceMul, Nat.reduceLT, Nat.reduceLeDiff, Nat.reduceEqDiff, Int.reduceLT, Int.reduceLE, Int.reduceAdd, Int.reduceSub, Int.reduceMul, Int.reduceNeg, Int.reduceToNat, Int.reduceEq, Int.reduceNe, reduceIte, reduceCtorEq, BitVec.reduceOfInt, BitVec.reduceToNat, b1, c0, c1, nonceL_len]; try simp only [top_out])
        have b20 : BAt M n off (b.take 20) := by
          have := hb.sub (a := 0) (k := 20) (by omega)
          rwa [List.drop_zero, Nat.add_zero] at this
        have d20 : BAt M n (off + 20) (b.drop 20) := by
          have := hb.sub (a := 20) (k := b.length - 20) (by omega)
          rwa [List.take_of_length_le (by rw [List.length_drop]; exact Nat.le_refl _)] at this
        have hBo : popenB key s b = openB key (popenN s b) (b.take 20) (b.drop 20) := by unfold popenB; rw [hp, hn]; simp [k32]
        have hl20 : (b.take 20).length = 20 := by rw [List.length_take]; omega
        have hld : (b.drop 20).length = b.length - 20 := List.length_drop
        have c20 : (cb = 20) = False := by simp; omega
        refine draw_rule tabOK (by kernel_rfl : _) (.p 0 (.p 1 (.p 2 (.p 3 (.p 4 (.p 5 (.e 6 [] (.p 7 (.p 8 (.p 9 (.p 10 (.p 11 .nil))))) .no))))))) (by kernel_rfl) (by kernel_rfl) ?_
        (refine top_in ?_; simp -implicitDefEqProofs only [go_sem, -List.reduceReplicate, ↓L_gdZ_tt, ↓L_gdZ_tf, ↓L_gdZ_ft, ↓L_gdZ_ff, ↓T_and, ↓T_imp, ↓T_all, Nat.reduceBEq, Nat.reduceAdd, Nat.reduceSub, Nat.reduceMul, Nat.reduceLT, Nat.reduceLeDiff, Nat.reduceEqDiff, Int.reduceLT, Int.reduceLE, Int.reduceAdd, Int.reduceSub, Int.reduceMul, Int.reduceNeg, Int.reduceToNat, Int.reduceEq, Int.reduceNe, reduceIte, reduceCtorEq, BitVec.reduceOfInt, BitVec.reduceToNat, b1, c0, c1, c20, nonceL_len]; try simp only [top_out])
        repeat (with_reducible refine And.intro (by omega) ?_)
        refine refopen_u nk ok _ ck (M.length + 2) 0 12 (12 + z.length) n off 20 cb n (off + 20) (b.length - 20) (cb - 20) key (popenN s b) (b.take 20) (b.drop 20) _ _ hk.app rfl hck hmk (BAt.row (z := z) (ty := ty) (by rw [get_app]; rfl)) (nonceL_len _ _ _).symm
          b20.app hl20.symm (by omega) d20.app hld.symm (by omega) (by omega) fun z2 ty2 => ?_
        cases ho : openB key (popenN s b) (b.take 20) (b.drop 20) with
        | false =>
          (refine top_in ?_; simp -implicitDefEqProofs only [go_sem, -List.reduceReplicate, ↓L_gdZ_tt, ↓L_gdZ_tf, ↓L_gdZ_ft, ↓L_gdZ_ff, ↓T_and, ↓T_imp, ↓T_all, Nat.reduceBEq, Nat.reduceAdd, Nat.reduceSub, Nat.reduceMul, Nat.reduceLT, Nat.reduceLeDiff, Nat.reduceEqDiff, Int.reduceLT, Int.reduceLE, Int.reduceAdd, Int.reduceSub, Int.reduceMul, Int.reduceNeg, Int.reduceToNat, Int.reduceEq, Int.reduceNe, reduceIte, reduceCtorEq, BitVec.reduceOfInt, BitVec.reduceToNat, b1, c0, c1, c20]; try simp only [top_out])
          exact drop8pkL hM (no (by rw [hBo, ho]))
        | true =>
          rw [hBo, ho] at hK
          have hU : popenU key s b = openU key (popenN s b) (b.take 20) (b.drop 20) := by unfold popenU openU; rw [hBo, ho]
          rw [hU] at hK
          (refine top_in ?_; simp -implicitDefEqProofs only [go_sem, -List.reduceReplicate, ↓L_gdZ_tt, ↓L_gdZ_tf, ↓L_gdZ_ft, ↓L_gdZ_ff, ↓T_and, ↓T_imp, ↓T_all, Nat.reduceBEq, Nat.reduceAdd, Nat.reduceSub, Nat.reduceMul, Nat.reduceLT, Nat.reduceLeDiff, Nat.reduceEqDiff, Int.reduceLT, Int.reduceLE, Int.reduceAdd, Int.reduceSub, Int.reduceMul, Int.reduceNeg, Int.reduceToNat, Int.reduceEq, Int.reduceNe, reduceIte, reduceCtorEq, BitVec.reduceOfInt, BitVec.reduceToNat, b1, c0, c1, c20]; try simp only [top_out])
          refine dropC_gc (L := [.row [.i .i64 (hT b), .i .i64 (hL b), .i .i64 (hG b), .u64 (hC b), .sl (M.length + 3) 0 (openU key (popenN s b) (b.take 20) (b.drop 20)).length ((openU key (popenN s b) (b.take 20) (b.drop 20)).length + z2.length)] 57, .row [.i .i64 (hT b), .i .i64 (hL b), .i .i64 (hG b), .u64 (hC b)] 24, .row (bS (nonceL s (hG b) (hC b) ++ z)) ty, .row (bS (openU key (popenN s b) (b.take 20) (b.drop 20) ++ z2)) ty2])
            hM [some 3] (.tup [pkS (hT b) (hL b) (hG b) (hC b) (.sl M.length 0 (openU key (popenN s b) (b.take 20) (b.drop 20)).length ((openU key (popenN s b) (b.take 20) (b.drop 20)).length + z2.length)), .b true]) [.row (bS (openU key (popenN s b) (b.take 20) (b.drop 20) ++ z2)) ty2] rfl ⟨keep8 rfl, trivial⟩ (by simp [lt_row]) (by simp [pkS, SV.lt, ltL]) (fun ρ => ?_) (hK z2 ty2)
          simp only [pkS, rn_tup, rn_agg, rnL_cons, rnL_nil, rn_sl_at0, rn_i, rn_b, rn_u64, List.getElem?_cons_zero, Option.join_some, rnSl_s]
    · have b1 : ((key.length : Int) != 32) = true := bneN k32
      have hB : popenB key s b = false := by unfold popenB; simp [k32]
      refine fn_rule tabOK Try.func28 rfl Try.call28 (by kernel_rfl) (fun hM => ?_)
      (refine top_in ?_; simp -implicitDefEqProofs only [Try.ntmps28, Try.results28, go_sem, -List.reduceReplicate, ↓L_gdZ_tt, ↓L_gdZ_tf, ↓L_gdZ_ft, ↓L_gdZ_ff, ↓T_and, ↓T_imp, ↓T_all, Nat.reduceBEq, Nat.reduceAdd, Nat.reduceSub, Nat.reduceMul, Nat.reduceLT, Nat.reduceLeDiff, Nat.reduceEqDiff, Int.reduceLT, Int.reduceLE, Int.reduceAdd, Int.reduceSub, Int.reduceMul, Int.reduceNeg, Int.reduceToNat, Int.reduceEq, Int.reduceNe, reduceIte, reduceCtorEq, BitVec.reduceOfInt, BitVec.reduceToNat, b1]; try simp only [top_out])
      refine refGetHead_ok n off cb b _ _ hb.app hmb hcb (fun _ => ?_) (fun h => by rw [hp] at h; cases h)
      unfold hdS
      (refine top_in ?_; simp -implicitDefEqProofs only [go_sem, -List.reduceReplicate, ↓L_gdZ_tt, ↓L_gdZ_tf, ↓L_gdZ_ft, ↓L_gdZ_ff, ↓T_and, ↓T_imp, ↓T_all, Nat.reduceBEq, Nat.reduceAdd, Nat.reduceSub, Nat.reduceMul, Nat.reduceLT, Nat.reduceLeDiff, Nat.reduceEqDiff, Int.reduceLT, Int.reduceLE, Int.reduceAdd, Int.reduceSub, Int.reduceMul, Int.reduceNeg, Int.reduceToNat, Int.reduceEq, Int.reduceNe, reduceIte, reduceCtorEq, BitVec.reduceOfInt, BitVec.reduceToNat, b1]; try simp only [top_out])
      exact drop8pkL hM (no hB)
end Go.Proofs.Ytdkdbeamimkljaa.Eng

/- The laws of chapter 9 about sealed packets. -/
namespace Go.Proofs.Ytdkdbeamimkljaa.Eng
open Go Go.RowKit
set_option linter.unusedSimpArgs false
set_option linter.unusedVariables false

set_option maxHeartbeats 2000000 in
theorem law_packetSeals (n0 c0 n1 c1 : Nat) (key text : List (BitVec 8)) (s t l g : Int) (c : BitVec 64) (M : List Blk) (h0 : BAt M n0 0 key) (h1 : BAt M n1 0 text) (l0 : key.length ≤ 140737488355000) (l1 : text.length ≤ 140737488355000) (k0 : key.length ≤ c0) (k1 : text.length ≤ c1) :
    callVC Try.prog 9 [.sl n0 0 key.length c0, .i .i64 s, pkS t l g c (.sl n1 0 text.length c1)] M (fun v _ => v = .b true) := by
  unfold pkS
  refine fn_rule tabOK Try.func9 rfl Try.call9 (by kernel_rfl) (fun hM => ?_)
  (refine top_in ?_; simp -implicitDefEqProofs only [Try.ntmps9, Try.results9, go_sem, -List.reduceReplicate, ↓L_gdZ_tt, ↓L_gdZ_tf, ↓L_gdZ_ft, ↓L_gdZ_ff, ↓T_and, ↓T_imp, ↓T_all, Nat.reduceBEq, Nat.reduceAdd, Nat.reduceSub, Nat.reduceMul, Nat.reduceLT, Nat.reduceLeDiff, Nat.reduceEqDiff, Int.reduceLT, Int.reduceLE, Int.reduceAdd, Int.reduceSub, Int.reduceMul, Int.reduceNeg, Int.reduceToNat, Int.reduceEq, Int.reduceNe, reduceIte, reduceCtorEq, BitVec.reduceOfInt, BitVec.reduceToNat, List.take_succ_cons, List.take_zero, List.drop_succ_cons, List.drop_zero]; try simp only [top_out])
  refine draw_rule tabOK (by kernel_rfl : _) (.p 0 (.p 2 (.p 3 (.p 4 (.p 5 (.p 6 (.e 1 [3, 4, 5, 6] (.e 7 [3, 4] (.p 8 (.e 9 [] (.p 10 (.p 11 (.p 12 (.p 13 (.p 14 .nil))))) .no)) .no) .no))))))) (by kernel_rfl) (by kernel_rfl) ?_
  (refine top_in ?_; simp -implicitDefEqProofs only [go_sem, -List.reduceReplicate, ↓L_gdZ_tt, ↓L_gdZ_tf, ↓L_gdZ_ft, ↓L_gdZ_ff, ↓T_and, ↓T_imp, ↓T_all, Nat.reduceBEq, Nat.reduceAdd, Nat.reduceSub, Nat.reduceMul, Nat.reduceLT, Nat.reduceLeDiff, Nat.reduceEqDiff, Int.reduceLT, Int.reduceLE, Int.reduceAdd, Int.reduceSub, Int.reduceMul, Int.reduceNeg, Int.reduceToNat, Int.reduceEq, Int.reduceNe, reduceIte, reduceCtorEq, BitVec.reduceOfInt, BitVec.reduceToNat, List.take_succ_cons, List.take_zero, List.drop_succ_cons, List.drop_zero, List.cons_append, List.nil_append]; try simp only [top_out])
  have hU := psealU_len key s t l g c text
  refine bytes_ok n0 0 c0 key _ _ h0.app (by omega) fun z0 t0 => ?_
  (refine top_in ?_; simp -implicitDefEqProofs only [go_sem, -List.reduceReplicate, ↓L_gdZ_tt, ↓L_gdZ_tf, ↓L_gdZ_ft, ↓L_gdZ_ff, ↓T_and, ↓T_imp, ↓T_all, Nat.reduceBEq, Nat.reduceAdd, Nat.reduceSub, Nat.reduceMul, Nat.reduceLT, Nat.reduceLeDiff, Nat.reduceEqDiff, Int.reduceLT, Int.reduceLE, Int.reduceAdd, Int.reduceSub, Int.reduceMul, Int.reduceNeg, Int.reduceToNat, Int.reduceEq, Int.reduceNe, reduceIte, reduceCtorEq, BitVec.reduceOfInt, BitVec.reduceToNat, List.take_succ_cons, List.take_zero, List.drop_succ_cons, List.drop_zero, List.cons_append, List.nil_append]; try simp only [top_out])
  refine bytes_ok n1 0 c1 text _ _ h1.app (by omega) fun z1 t1 => ?_
  (refine top_in ?_; simp -implicitDefEqProofs only [go_sem, -List.reduceReplicate, ↓L_gdZ_tt, ↓L_gdZ_tf, ↓L_gdZ_ft, ↓L_gdZ_ff, ↓T_and, ↓T_imp, ↓T_all, Nat.reduceBEq, Nat.reduceAdd, Nat.reduceSub, Nat.reduceMul, Nat.reduceLT, Nat.reduceLeDiff, Nat.reduceEqDiff, Int.reduceLT, Int.reduceLE, Int.reduceAdd, Int.reduceSub, Int.reduceMul, Int.reduceNeg, Int.reduceToNat, Int.reduceEq, Int.reduceNe, reduceIte, reduceCtorEq, BitVec.reduceOfInt, BitVec.reduceToNat, List.take_succ_cons, List.take_zero, List.drop_succ_cons, List.drop_zero, List.cons_append, List.nil_append]; try simp only [top_out])
  refine pseal_u (M.length + 1) 0 _ _ (M.length + 2) 0 _ _ key text s t l g c _ _ (BAt.row (z := z0) (ty := t0) (by rw [get_app]; rfl)) rfl (by omega) (by omega) (BAt.row (z := z1) (ty := t1) (by rw [get_app]; rfl)) rfl (by omega) fun z2 t2 => ?_
  (refine top_in ?_; simp -implicitDefEqProofs only [go_sem, -List.reduceReplicate, ↓L_gdZ_tt, ↓L_gdZ_tf, ↓L_gdZ_ft, ↓L_gdZ_ff, ↓T_and, ↓T_imp, ↓T_all, Nat.reduceBEq, Nat.reduceAdd, Nat.reduceSub, Nat.reduceMul, Nat.reduceLT, Nat.reduceLeDiff, Nat.reduceEqDiff, Int.reduceLT, Int.reduceLE, Int.reduceAdd, Int.reduceSub, Int.reduceMul, Int.reduceNeg, Int.reduceToNat, Int.reduceEq, Int.reduceNe, reduceIte, reduceCtorEq, BitVec.reduceOfInt, BitVec.reduceToNat, List.take_succ_cons, List.take_zero, List.drop_succ_cons, List.drop_zero, List.cons_append, List.nil_append]; try simp only [top_out])
  refine refpseal_u n0 0 _ c0 n1 0 _ c1 key text s t l g c _ _ h0.app rfl k0 l0 h1.app rfl k1 fun z3 t3 => ?_
  (refine top_in ?_; simp -implicitDefEqProofs only [go_sem, -List.reduceReplicate, ↓L_gdZ_tt, ↓L_gdZ_tf, ↓L_gdZ_ft, ↓L_gdZ_ff, ↓T_and, ↓T_imp, ↓T_all, Nat.reduceBEq, Nat.reduceAdd, Nat.reduceSub, Nat.reduceMul, Nat.reduceLT, Nat.reduceLeDiff, Nat.reduceEqDiff, Int.reduceLT, Int.reduceLE, Int.reduceAdd, Int.reduceSub, Int.reduceMul, Int.reduceNeg, Int.reduceToNat, Int.reduceEq, Int.reduceNe, reduceIte, reduceCtorEq, BitVec.reduceOfInt, BitVec.reduceToNat, List.take_succ_cons, List.take_zero, List.drop_succ_cons, List.drop_zero, List.cons_append, List.nil_append]; try simp only [top_out])
  refine same_ok2 (M.length + 3) 0 _ (M.length + 4) 0 _ _ _ (psealU key s t l g c text) (psealU key s t l g c text) _ _ (BAt.row (z := z2) (ty := t2) (by rw [get_app]; rfl)) (BAt.row (z := z3) (ty := t3) (by rw [get_app]; rfl)) (by omega) (by omega) rfl rfl ?_
  rw [beq_self_eq_true]
  (refine top_in ?_; simp -implicitDefEqProofs only [go_sem, -List.reduceReplicate, ↓L_gdZ_tt, ↓L_gdZ_tf, ↓L_gdZ_ft, ↓L_gdZ_ff, ↓T_and, ↓T_imp, ↓T_all, Nat.reduceBEq, Nat.reduceAdd, Nat.reduceSub, Nat.reduceMul, Nat.reduceLT, Nat.reduceLeDiff, Nat.reduceEqDiff, Int.reduceLT, Int.reduceLE, Int.reduceAdd, Int.reduceSub, Int.reduceMul, Int.reduceNeg, Int.reduceToNat, Int.reduceEq, Int.reduceNe, reduceIte, reduceCtorEq, BitVec.reduceOfInt, BitVec.reduceToNat, List.take_succ_cons, List.take_zero, List.drop_succ_cons, List.drop_zero, List.cons_append, List.nil_append]; try simp only [top_out])
  refine num_ok _ _ _ ?_
  (refine top_in ?_; simp -implicitDefEqProofs only [go_sem, -List.reduceReplicate, ↓L_gdZ_tt, ↓L_gdZ_tf, ↓L_gdZ_ft, ↓L_gdZ_ff, ↓T_and, ↓T_imp, ↓T_all, Nat.reduceBEq, Nat.reduceAdd, Nat.reduceSub, Nat.reduceMul, Nat.reduceLT, Nat.reduceLeDiff, Nat.reduceEqDiff, Int.reduceLT, Int.reduceLE, Int.reduceAdd, Int.reduceSub, Int.reduceMul, Int.reduceNeg, Int.reduceToNat, Int.reduceEq, Int.reduceNe, reduceIte, reduceCtorEq, BitVec.reduceOfInt, BitVec.reduceToNat, List.take_succ_cons, List.take_zero, List.drop_succ_cons, List.drop_zero, List.cons_append, List.nil_append]; try simp only [top_out])
  refine pfirst_ok _ _ ?_
  (refine top_in ?_; simp -implicitDefEqProofs only [go_sem, -List.reduceReplicate, ↓L_gdZ_tt, ↓L_gdZ_tf, ↓L_gdZ_ft, ↓L_gdZ_ff, ↓T_and, ↓T_imp, ↓T_all, Nat.reduceBEq, Nat.reduceAdd, Nat.reduceSub, Nat.reduceMul, Nat.reduceLT, Nat.reduceLeDiff, Nat.reduceEqDiff, Int.reduceLT, Int.reduceLE, Int.reduceAdd, Int.reduceSub, Int.reduceMul, Int.reduceNeg, Int.reduceToNat, Int.reduceEq, Int.reduceNe, reduceIte, reduceCtorEq, BitVec.reduceOfInt, BitVec.reduceToNat, List.take_succ_cons, List.take_zero, List.drop_succ_cons, List.drop_zero, List.cons_append, List.nil_append]; try simp only [top_out])
  refine dropC_append hM rfl ?_
  simp

set_option maxHeartbeats 2000000 in
theorem law_packetOpens (n0 c0 n1 c1 : Nat) (key b : List (BitVec 8)) (s : Int) (M : List Blk) (h0 : BAt M n0 0 key) (h1 : BAt M n1 0 b) (l0 : key.length ≤ 140737488355000) (l1 : b.length ≤ 140737488355000) (k0 : key.length ≤ c0) (k1 : b.length ≤ c1) :
    callVC Try.prog 8 [.sl n0 0 key.length c0, .i .i64 s, .sl n1 0 b.length c1] M (fun v _ => v = .b true) := by
  refine fn_rule tabOK Try.func8 rfl Try.call8 (by kernel_rfl) (fun hM => ?_)
  (refine top_in ?_; simp -implicitDefEqProofs only [Try.ntmps8, Try.results8, go_sem, -List.reduceReplicate, ↓L_gdZ_tt, ↓L_gdZ_tf, ↓L_gdZ_ft, ↓L_gdZ_ff, ↓T_and, ↓T_imp, ↓T_all, Nat.reduceBEq, Nat.reduceAdd, Nat.reduceSub, Nat.reduceMul, Nat.reduceLT, Nat.reduceLeDiff, Nat.reduceEqDiff, Int.reduceLT, Int.reduceLE, Int.reduceAdd, Int.reduceSub, Int.reduceMul, Int.reduceNeg, Int.reduceToNat, Int.reduceEq, Int.reduceNe, reduceIte, reduceCtorEq, BitVec.reduceOfInt, BitVec.reduceToNat]; try simp only [top_out])
  refine bytes_ok n0 0 c0 key _ _ h0 (by omega) fun z0 t0 => ?_
  (refine top_in ?_; simp -implicitDefEqProofs only [go_sem, -List.reduceReplicate, ↓L_gdZ_tt, ↓L_gdZ_tf, ↓L_gdZ_ft, ↓L_gdZ_ff, ↓T_and, ↓T_imp, ↓T_all, Nat.reduceBEq, Nat.reduceAdd, Nat.reduceSub, Nat.reduceMul, Nat.reduceLT, Nat.reduceLeDiff, Nat.reduceEqDiff, Int.reduceLT, Int.reduceLE, Int.reduceAdd, Int.reduceSub, Int.reduceMul, Int.reduceNeg, Int.reduceToNat, Int.reduceEq, Int.reduceNe, reduceIte, reduceCtorEq, BitVec.reduceOfInt, BitVec.reduceToNat]; try simp only [top_out])
  refine bytes_ok n1 0 c1 b _ _ h1.app (by omega) fun z1 t1 => ?_
  (refine top_in ?_; simp -implicitDefEqProofs only [go_sem, -List.reduceReplicate, ↓L_gdZ_tt, ↓L_gdZ_tf, ↓L_gdZ_ft, ↓L_gdZ_ff, ↓T_and, ↓T_imp, ↓T_all, Nat.reduceBEq, Nat.reduceAdd, Nat.reduceSub, Nat.reduceMul, Nat.reduceLT, Nat.reduceLeDiff, Nat.reduceEqDiff, Int.reduceLT, Int.reduceLE, Int.reduceAdd, Int.reduceSub, Int.reduceMul, Int.reduceNeg, Int.reduceToNat, Int.reduceEq, Int.reduceNe, reduceIte, reduceCtorEq, BitVec.reduceOfInt, BitVec.reduceToNat]; try simp only [top_out])
  have hU := popenU_len key s b
  refine popen_u M.length 0 _ _ (M.length + 1) 0 _ _ key b s _ _ (BAt.row (z := z0) (ty := t0) (by rw [get_app0]; rfl)) rfl (by omega) (by omega) (BAt.row (z := z1) (ty := t1) (by rw [get_app]; rfl)) rfl (by omega) (by omega) fun z2 t2 => ?_
  unfold pkS
  (refine top_in ?_; simp -implicitDefEqProofs only [go_sem, -List.reduceReplicate, ↓L_gdZ_tt, ↓L_gdZ_tf, ↓L_gdZ_ft, ↓L_gdZ_ff, ↓T_and, ↓T_imp, ↓T_all, Nat.reduceBEq, Nat.reduceAdd, Nat.reduceSub, Nat.reduceMul, Nat.reduceLT, Nat.reduceLeDiff, Nat.reduceEqDiff, Int.reduceLT, Int.reduceLE, Int.reduceAdd, Int.reduceSub, Int.reduceMul, Int.reduceNeg, Int.reduceToNat, Int.reduceEq, Int.reduceNe, reduceIte, reduceCtorEq, BitVec.reduceOfInt, BitVec.reduceToNat]; try simp only [top_out])
  refine refpopen_u n0 0 _ c0 n1 0 _ c1 key b s _ _ h0.app rfl k0 l0 h1.app rfl k1 l1 fun z3 t3 => ?_
  unfold pkS
  (refine top_in ?_; simp -implicitDefEqProofs only [go_sem, -List.reduceReplicate, ↓L_gdZ_tt, ↓L_gdZ_tf, ↓L_gdZ_ft, ↓L_gdZ_ff, ↓T_and, ↓T_imp, ↓T_all, Nat.reduceBEq, Nat.reduceAdd, Nat.reduceSub, Nat.reduceMul, Nat.reduceLT, Nat.reduceLeDiff, Nat.reduceEqDiff, Int.reduceLT, Int.reduceLE, Int.reduceAdd, Int.reduceSub, Int.reduceMul, Int.reduceNeg, Int.reduceToNat, Int.reduceEq, Int.reduceNe, reduceIte, reduceCtorEq, BitVec.reduceOfInt, BitVec.reduceToNat, List.take_succ_cons, List.take_zero, List.drop_succ_cons, List.drop_zero]; try simp only [top_out])
  refine sameHead_ok _ _ _ _ _ _ _ _ _ _ ?_
  rw [show ∀ a b c d, sameHB a b c d a b c d = true from fun a b c d => by simp [sameHB]]
  (refine top_in ?_; simp -implicitDefEqProofs only [go_sem, -List.reduceReplicate, ↓L_gdZ_tt, ↓L_gdZ_tf, ↓L_gdZ_ft, ↓L_gdZ_ff, ↓T_and, ↓T_imp, ↓T_all, Nat.reduceBEq, Nat.reduceAdd, Nat.reduceSub, Nat.reduceMul, Nat.reduceLT, Nat.reduceLeDiff, Nat.reduceEqDiff, Int.reduceLT, Int.reduceLE, Int.reduceAdd, Int.reduceSub, Int.reduceMul, Int.reduceNeg, Int.reduceToNat, Int.reduceEq, Int.reduceNe, reduceIte, reduceCtorEq, BitVec.reduceOfInt, BitVec.reduceToNat, List.take_succ_cons, List.take_zero, List.drop_succ_cons, List.drop_zero]; try simp only [top_out])
  refine same_ok2 (M.length + 2) 0 _ (M.length + 4) 0 _ _ _ (popenU key s b) (popenU key s b) _ _ (BAt.row (z := z2) (ty := t2) (by rw [get_app]; rfl)) (BAt.row (z := z3) (ty := t3) (by rw [get_app]; rfl)) (by omega) (by omega) rfl rfl ?_
  rw [beq_self_eq_true]
  (refine top_in ?_; simp -implicitDefEqProofs only [go_sem, -List.reduceReplicate, ↓L_gdZ_tt, ↓L_gdZ_tf, ↓L_gdZ_ft, ↓L_gdZ_ff, ↓T_and, ↓T_imp, ↓T_all, Nat.reduceBEq, Nat.reduceAdd, Nat.reduceSub, Nat.reduceMul, Nat.reduceLT, Nat.reduceLeDiff, Nat.reduceEqDiff, Int.reduceLT, Int.reduceLE, Int.reduceAdd, Int.reduceSub, Int.reduceMul, Int.reduceNeg, Int.reduceToNat, Int.reduceEq, Int.reduceNe, reduceIte, reduceCtorEq, BitVec.reduceOfInt, BitVec.reduceToNat]; try simp only [top_out])
  refine pfirst_ok _ _ ?_
  (refine top_in ?_; simp -implicitDefEqProofs only [go_sem, -List.reduceReplicate, ↓L_gdZ_tt, ↓L_gdZ_tf, ↓L_gdZ_ft, ↓L_gdZ_ff, ↓T_and, ↓T_imp, ↓T_all, Nat.reduceBEq, Nat.reduceAdd, Nat.reduceSub, Nat.reduceMul, Nat.reduceLT, Nat.reduceLeDiff, Nat.reduceEqDiff, Int.reduceLT, Int.reduceLE, Int.reduceAdd, Int.reduceSub, Int.reduceMul, Int.reduceNeg, Int.reduceToNat, Int.reduceEq, Int.reduceNe, reduceIte, reduceCtorEq, BitVec.reduceOfInt, BitVec.reduceToNat]; try simp only [top_out])
  refine dropC_append hM rfl ?_
  simp
end Go.Proofs.Ytdkdbeamimkljaa.Eng

/- Packets and payloads there and back: what is read of what was laid. -/
namespace Go.Proofs.Ytdkdbeamimkljaa.Eng
open Go Go.RowKit
set_option linter.unusedSimpArgs false
set_option linter.unusedVariables false

theorem numB_beL_bit {n : Nat} {x : BitVec 64} {i : Nat} (hi : i < 64) : (numB (beL n x)).getLsbD i = (decide (i / 8 < n) && x.getLsbD i) := by
  rw [numB_bit n (beL n x) (beL_len n x) i hi]
  by_cases h : i / 8 < n
  · unfold beL
    rw [gl_getD (by omega), BitVec.getLsbD_setWidth, BitVec.getLsbD_ushiftRight, show 8 * (n - 1 - (n - 1 - i / 8)) + i % 8 = i by omega, show decide (i % 8 < 8) = true from decide_eq_true (by omega), Bool.true_and]
  · simp [h]
theorem numB_beL8 (x : BitVec 64) : numB (beL 8 x) = x := by
  apply BitVec.eq_of_getLsbD_eq
  intro i hi
  rw [numB_beL_bit hi, show decide (i / 8 < 8) = true by simp; omega, Bool.true_and]
theorem numB_beL4 {l : Int} (h1 : 1 ≤ l) (h2 : l ≤ 4294967295) : (((numB (beL 4 (BitVec.ofInt 64 l))).setWidth 32).toNat : Int) = l := by
  have e : (numB (beL 4 (BitVec.ofInt 64 l))).setWidth 32 = (BitVec.ofInt 64 l).setWidth 32 := by
    apply BitVec.eq_of_getLsbD_eq
    intro i hi
    rw [BitVec.getLsbD_setWidth, BitVec.getLsbD_setWidth, numB_beL_bit (by omega), show decide (i / 8 < 4) = true by simp; omega, Bool.true_and]
  obtain ⟨n, rfl⟩ : ∃ n : Nat, l = n := ⟨l.toNat, by omega⟩
  rw [e, BitVec.ofInt_natCast, BitVec.toNat_setWidth, BitVec.toNat_ofNat]
  omega
theorem hd_back {t l g : Int} {c : BitVec 64} (h : headB t l g c = true) (X : List (BitVec 8)) :
    hT (headL t l g c ++ X) = t ∧ hL (headL t l g c ++ X) = l ∧ hG (headL t l g c ++ X) = g ∧ hC (headL t l g c ++ X) = c ∧ zerosB (((headL t l g c ++ X).drop 1).take 3) = true := by
  obtain ⟨a1, a2, a3, a4, a5, a6, a7⟩ := headB_true h
  have e : headL t l g c ++ X = BitVec.ofInt 8 t :: 0#8 :: 0#8 :: 0#8 :: (beL 4 (BitVec.ofInt 64 l) ++ (beL 4 (BitVec.ofInt 64 g) ++ (beL 8 c ++ X))) := by
    unfold headL; simp
  have b4 := beL_len 4 (BitVec.ofInt 64 l)
  have b5 := beL_len 4 (BitVec.ofInt 64 g)
  have b8 := beL_len 8 c
  have l4 := numB_beL4 a3 a4
  have g4 := numB_beL4 a5 (by omega)
  have c8 := numB_beL8 c
  rw [e]
  generalize beL 4 (BitVec.ofInt 64 l) = u at *
  generalize beL 4 (BitVec.ofInt 64 g) = v at *
  generalize beL 8 c = w at *
  have u4 : u.drop 4 = [] := List.drop_eq_nil_of_le (by omega)
  have v4 : v.drop 4 = [] := List.drop_eq_nil_of_le (by omega)
  refine ⟨?_, ?_, ?_, ?_, rfl⟩
  · unfold hT
    obtain ⟨n, rfl⟩ : ∃ n : Nat, t = n := ⟨t.toNat, by omega⟩
    rw [List.getD_cons_zero, BitVec.ofInt_natCast, BitVec.toNat_ofNat]
    omega
  · unfold hL
    have : ((BitVec.ofInt 8 t :: 0#8 :: 0#8 :: 0#8 :: (u ++ (v ++ (w ++ X)))).drop 4).take 4 = u := by
      rw [show (BitVec.ofInt 8 t :: 0#8 :: 0#8 :: 0#8 :: (u ++ (v ++ (w ++ X)))).drop 4 = u ++ (v ++ (w ++ X)) from rfl, List.take_append_of_le_length (by omega), List.take_of_length_le (by omega)]
    rw [this]; exact l4
  · unfold hG
    have : ((BitVec.ofInt 8 t :: 0#8 :: 0#8 :: 0#8 :: (u ++ (v ++ (w ++ X)))).drop 8).take 4 = v := by
      rw [show (BitVec.ofInt 8 t :: 0#8 :: 0#8 :: 0#8 :: (u ++ (v ++ (w ++ X)))).drop 8 = (u ++ (v ++ (w ++ X))).drop 4 from rfl, List.drop_append_of_le_length (by omega), List.drop_eq_nil_of_le (by omega), List.nil_append, List.take_append_of_le_length (by omega), List.take_of_length_le (by omega)]
    rw [this]; exact g4
  · unfold hC
    have : ((BitVec.ofInt 8 t :: 0#8 :: 0#8 :: 0#8 :: (u ++ (v ++ (w ++ X)))).drop 12).take 8 = w := by
      rw [show (BitVec.ofInt 8 t :: 0#8 :: 0#8 :: 0#8 :: (u ++ (v ++ (w ++ X)))).drop 12 = ((u ++ (v ++ (w ++ X))).drop 4).drop 4 by rw [List.drop_drop]; rfl, List.drop_append_of_le_length (by omega), u4, List.nil_append, List.drop_append_of_le_length (by omega), v4, List.nil_append, List.take_append_of_le_length (by omega), List.take_of_length_le (by omega)]
    rw [this]; exact c8
theorem psealE_0 {key : List (BitVec 8)} {s t l g : Int} {c : BitVec 64} {n : Nat} (h : psealE key s t l g c n = 0) : key.length = 32 ∧ nonceB s g c = true ∧ headB t l g c = true ∧ fitsB t n = true := by
  unfold psealE at h
  split at h
  · cases h
  · split at h
    · rename_i h1 h2
      unfold psealB at h2
      simp only [Bool.and_eq_true] at h2
      exact ⟨by omega, h2.1.1, h2.1.2, h2.2⟩
    · cases h
theorem pseal_open {key text : List (BitVec 8)} {s t l g : Int} {c : BitVec 64} (h : psealE key s t l g c text.length = 0) :
    popenB key s (psealL key s t l g c text) = true ∧ hT (psealL key s t l g c text) = t ∧ hL (psealL key s t l g c text) = l ∧ hG (psealL key s t l g c text) = g ∧ hC (psealL key s t l g c text) = c ∧ popenU key s (psealL key s t l g c text) = text := by
  obtain ⟨k32, hn, hh, hf⟩ := psealE_0 h
  have hfl := fits_le hf
  have hlen := psealL_len key s t l g c text
  obtain ⟨eT, eL, eG, eC, eZ⟩ := hd_back hh (sealL key (nonceL s g c) (headL t l g c) text)
  have hse : sealE key (nonceL s g c) (headL t l g c) text = 0 := sealE_ok k32 (nonceL_len _ _ _) (by rw [headL_len]; omega) (by omega)
  obtain ⟨q1, q2⟩ := open_seal hse
  have ht : (psealL key s t l g c text).take 20 = headL t l g c := by
    unfold psealL; rw [List.take_append_of_le_length (by rw [headL_len]; exact Nat.le_refl _), List.take_of_length_le (by rw [headL_len]; exact Nat.le_refl _)]
  have hd : (psealL key s t l g c text).drop 20 = sealL key (nonceL s g c) (headL t l g c) text := by
    unfold psealL; rw [List.drop_append_of_le_length (by rw [headL_len]; exact Nat.le_refl _), List.drop_eq_nil_of_le (by rw [headL_len]; exact Nat.le_refl _), List.nil_append]
  have hdef : headL t l g c ++ sealL key (nonceL s g c) (headL t l g c) text = psealL key s t l g c text := rfl
  rw [hdef] at eT eL eG eC eZ
  have hp : partB (psealL key s t l g c text) = true := by
    unfold partB
    rw [eT, eL, eG, eC, eZ, hh, hlen, show ((text.length + 36 : Nat) : Int) - 36 = (text.length : Int) by omega, hf]
    simp
  have hN : popenN s (psealL key s t l g c text) = nonceL s g c := by unfold popenN; rw [eG, eC]
  have hB : popenB key s (psealL key s t l g c text) = true := by
    unfold popenB
    rw [hp, hN, eG, eC, hn, ht, hd, q1]
    simp [k32]
  refine ⟨hB, eT, eL, eG, eC, ?_⟩
  unfold popenU
  rw [if_pos hB, hN, hd, q2]
theorem popenB_t {key b : List (BitVec 8)} {s : Int} (h : popenB key s b = true) : key.length = 32 ∧ partB b = true ∧ nonceB s (hG b) (hC b) = true ∧ openB key (popenN s b) (b.take 20) (b.drop 20) = true := by
  unfold popenB at h
  simp only [Bool.and_eq_true, decide_eq_true_eq] at h
  exact h
theorem popen_seal {key b : List (BitVec 8)} {s : Int} (h : popenB key s b = true) :
    psealE key s (hT b) (hL b) (hG b) (hC b) (popenU key s b).length = 0 ∧ psealL key s (hT b) (hL b) (hG b) (hC b) (popenU key s b) = b := by
  obtain ⟨k32, hp, hn, ho⟩ := popenB_t h
  obtain ⟨l1, l2⟩ := partB_len hp
  have hU : popenU key s b = openL key (popenN s b) (b.drop 20) := if_pos h
  have hlen : (popenU key s b).length = b.length - 36 := by rw [hU, openL_len, List.length_drop]; omega
  have hp' := hp
  simp only [partB, Bool.and_eq_true, decide_eq_true_eq] at hp'
  obtain ⟨⟨⟨_, hz⟩, hh⟩, hf⟩ := hp'
  have hH : headL (hT b) (hL b) (hG b) (hC b) = b.take 20 := (headL_of (by omega)).2 hz
  refine ⟨?_, ?_⟩
  · refine psealE_yes k32 ?_
    unfold psealB
    rw [hn, hh, hlen, show ((b.length - 36 : Nat) : Int) = (b.length : Int) - 36 by omega, hf]
    rfl
  · unfold psealL
    rw [hH, hU]
    have := (seal_open ho).2
    unfold popenN at this ⊢
    rw [this, List.take_append_drop]
theorem getB_t {l : List (BitVec 8)} (h : getB l = true) : gN l ≠ 0 ∧ 1 + 2 * gN l ≤ l.length ∧ l.length ≤ 1280 := by
  simp only [getB, Bool.and_eq_true, decide_eq_true_eq] at h; exact ⟨h.1.1, h.1.2, h.2⟩
theorem pay_back {l : List (BitVec 8)} (h : getB l = true) :
    payB (gF l) (aHi (gX l)) (numB (gX l)) (gF l) (aHi (gY l)) (numB (gY l)) (gB l).length = true ∧ payL (gF l) (aHi (gX l)) (numB (gX l)) (gF l) (aHi (gY l)) (numB (gY l)) (gB l) = l := by
  obtain ⟨h1, h2, h3⟩ := getB_t h
  have hbl : (gB l).length = l.length - (1 + 2 * gN l) := by unfold gB; rw [List.length_drop]
  have hsplit : l = l.getD 0 0#8 :: ((l.drop 1).take (gN l) ++ ((l.drop (1 + gN l)).take (gN l) ++ l.drop (1 + 2 * gN l))) := by
    obtain ⟨x, r, rfl⟩ := List.exists_cons_of_length_pos (by omega : 0 < l.length)
    rw [List.getD_cons_zero]
    generalize gN (x :: r) = n
    rw [show 1 + n = n + 1 by omega, show 1 + 2 * n = (n + n) + 1 by omega]
    simp only [List.drop_succ_cons, List.drop_zero]
    rw [← List.drop_drop, List.take_append_drop, List.take_append_drop]
  have hlt : ∀ y : List (BitVec 8), y.length = 4 → (numB y).toNat < 4294967296 := fun y hy => by
    rw [← numB_32n hy]; exact BitVec.isLt _
  have hN : gN l = 4 ∧ l.getD 0 0#8 = 4#8 ∨ gN l = 16 ∧ l.getD 0 0#8 = 6#8 := by
    unfold gN at h1 ⊢
    by_cases e4 : l.getD 0 0#8 = 4#8
    · rw [if_pos e4]; exact .inl ⟨rfl, e4⟩
    · rw [if_neg e4] at h1 ⊢
      by_cases e6 : l.getD 0 0#8 = 6#8
      · rw [if_pos e6]; exact .inr ⟨rfl, e6⟩
      · rw [if_neg e6] at h1; exact absurd rfl h1
  rcases hN with ⟨n4, e4⟩ | ⟨n6, e6⟩
  · have f4 : gF l = 4 := by unfold gF; rw [e4]; rfl
    have x4 : (gX l).length = 4 := by unfold gX; rw [n4, List.length_take, List.length_drop]; omega
    have y4 : (gY l).length = 4 := by unfold gY; rw [n4, List.length_take, List.length_drop]; omega
    have hx0 := (gX4 n4 (by omega)).1
    have hy0 := (gY4 n4 (by omega)).1
    rw [f4, hx0, hy0]
    refine ⟨?_, ?_⟩
    · unfold payB validB
      rw [addrL_len]
      have a := hlt _ x4
      have b := hlt _ y4
      simp [a, b]
      omega
    · unfold payL addrL
      rw [if_pos rfl, if_pos rfl, beL_numB (by omega) x4, beL_numB (by omega) y4]
      conv => rhs; rw [hsplit, e4]
      unfold gX gY gB
      simp only [List.cons_append, List.nil_append, List.append_assoc]
      rfl
  · have f6 : gF l = 6 := by unfold gF; rw [e6]; rfl
    obtain ⟨hx0, hx1⟩ := gX6 n6 (by omega)
    obtain ⟨hy0, hy1⟩ := gY6 n6 (by omega)
    have l1 : ((l.drop 1).take 8).length = 8 := by rw [List.length_take, List.length_drop]; omega
    have l2 : ((l.drop 9).take 8).length = 8 := by rw [List.length_take, List.length_drop]; omega
    have l3 : ((l.drop 17).take 8).length = 8 := by rw [List.length_take, List.length_drop]; omega
    have l4 : ((l.drop 25).take 8).length = 8 := by rw [List.length_take, List.length_drop]; omega
    rw [f6, hx0, hx1, hy0, hy1]
    refine ⟨?_, ?_⟩
    · unfold payB validB
      rw [addrL_len]
      simp
      omega
    · unfold payL addrL
      rw [if_neg (by decide), if_neg (by decide), beL_numB (by omega) l1, beL_numB (by omega) l2, beL_numB (by omega) l3, beL_numB (by omega) l4]
      have j1 : (l.drop 1).take 8 ++ (l.drop 9).take 8 = (l.drop 1).take 16 := by
        rw [show (16 : Nat) = 8 + 8 from rfl, List.take_add, List.drop_drop]
      have j2 : (l.drop 17).take 8 ++ (l.drop 25).take 8 = (l.drop 17).take 16 := by
        rw [show (16 : Nat) = 8 + 8 from rfl, List.take_add, List.drop_drop]
      rw [j1, j2]
      conv => rhs; rw [hsplit, e6, n6]
      unfold gB
      rw [n6]
      simp only [List.cons_append, List.nil_append, List.append_assoc]
      rfl
end Go.Proofs.Ytdkdbeamimkljaa.Eng

/- The law of chapter 9: there and back. -/
namespace Go.Proofs.Ytdkdbeamimkljaa.Eng
open Go Go.RowKit
set_option linter.unusedSimpArgs false
set_option linter.unusedVariables false

theorem q0t : ((0 : Int) == 0) = true := rfl
theorem q90f : ((90 : Int) == 0) = false := rfl
set_option maxHeartbeats 4000000 in
theorem law_packetBack (n0 c0 n1 c1 n2 c2 : Nat) (key text b : List (BitVec 8)) (s t l g : Int) (c : BitVec 64) (M : List Blk) (h0 : BAt M n0 0 key) (h1 : BAt M n1 0 text) (h2 : BAt M n2 0 b) (l0 : key.length ≤ 140737488355000) (l1 : text.length ≤ 140737488355000) (l2 : b.length ≤ 140737488355000) (k0 : key.length ≤ c0) (k1 : text.length ≤ c1) (k2 : b.length ≤ c2) :
    callVC Try.prog 10 [.sl n0 0 key.length c0, .i .i64 s, pkS t l g c (.sl n1 0 text.length c1), .sl n2 0 b.length c2] M (fun v _ => v = .b true) := by
  have hS := psealU_len key s t l g c text
  unfold pkS
  refine fn_rule tabOK Try.func10 rfl Try.call10 (by kernel_rfl) (fun hM => ?_)
  (refine top_in ?_; simp -implicitDefEqProofs only [Try.ntmps10, Try.results10, go_sem, -List.reduceReplicate, ↓L_gdZ_tt, ↓L_gdZ_tf, ↓L_gdZ_ft, ↓L_gdZ_ff, ↓T_and, ↓T_imp, ↓T_all, Nat.reduceBEq, Nat.reduceAdd, Nat.reduceSub, Nat.reduceMul, Nat.reduceLT, Nat.reduceLeDiff, Nat.reduceEqDiff, Int.reduceLT, Int.reduceLE, Int.reduceAdd, Int.reduceSub, Int.reduceMul, Int.reduceNeg, Int.reduceToNat, Int.reduceEq, Int.reduceNe, reduceIte, reduceCtorEq, BitVec.reduceOfInt, BitVec.reduceToNat, List.take_succ_cons, List.take_zero, List.drop_succ_cons, List.drop_zero]; try simp only [top_out])
  refine pfirst_ok _ _ ?_
  (refine top_in ?_; simp -implicitDefEqProofs only [go_sem, -List.reduceReplicate, ↓L_gdZ_tt, ↓L_gdZ_tf, ↓L_gdZ_ft, ↓L_gdZ_ff, ↓T_and, ↓T_imp, ↓T_all, Nat.reduceBEq, Nat.reduceAdd, Nat.reduceSub, Nat.reduceMul, Nat.reduceLT, Nat.reduceLeDiff, Nat.reduceEqDiff, Int.reduceLT, Int.reduceLE, Int.reduceAdd, Int.reduceSub, Int.reduceMul, Int.reduceNeg, Int.reduceToNat, Int.reduceEq, Int.reduceNe, reduceIte, reduceCtorEq, BitVec.reduceOfInt, BitVec.reduceToNat, List.take_succ_cons, List.take_zero, List.drop_succ_cons, List.drop_zero]; try simp only [top_out])
  refine pseal_u n0 0 _ c0 n1 0 _ c1 key text s t l g c _ _ h0.app rfl k0 l0 h1.app rfl k1 fun z1 t1 => ?_
  (refine top_in ?_; simp -implicitDefEqProofs only [go_sem, -List.reduceReplicate, ↓L_gdZ_tt, ↓L_gdZ_tf, ↓L_gdZ_ft, ↓L_gdZ_ff, ↓T_and, ↓T_imp, ↓T_all, Nat.reduceBEq, Nat.reduceAdd, Nat.reduceSub, Nat.reduceMul, Nat.reduceLT, Nat.reduceLeDiff, Nat.reduceEqDiff, Int.reduceLT, Int.reduceLE, Int.reduceAdd, Int.reduceSub, Int.reduceMul, Int.reduceNeg, Int.reduceToNat, Int.reduceEq, Int.reduceNe, reduceIte, reduceCtorEq, BitVec.reduceOfInt, BitVec.reduceToNat, List.take_succ_cons, List.take_zero, List.drop_succ_cons, List.drop_zero]; try simp only [top_out])
  refine num_ok _ _ _ ?_
  by_cases he : psealE key s t l g c text.length = 0
  · obtain ⟨w1, w2, w3, w4, w5, w6⟩ := pseal_open he
    have hSU : psealU key s t l g c text = psealL key s t l g c text := if_pos he
    rw [he, hSU]
    rw [hSU] at hS
    (refine top_in ?_; simp -implicitDefEqProofs only [go_sem, -List.reduceReplicate, ↓L_gdZ_tt, ↓L_gdZ_tf, ↓L_gdZ_ft, ↓L_gdZ_ff, ↓T_and, ↓T_imp, ↓T_all, Nat.reduceBEq, Nat.reduceAdd, Nat.reduceSub, Nat.reduceMul, Nat.reduceLT, Nat.reduceLeDiff, Nat.reduceEqDiff, Int.reduceLT, Int.reduceLE, Int.reduceAdd, Int.reduceSub, Int.reduceMul, Int.reduceNeg, Int.reduceToNat, Int.reduceEq, Int.reduceNe, reduceIte, reduceCtorEq, BitVec.reduceOfInt, BitVec.reduceToNat, q0t, List.take_succ_cons, List.take_zero, List.drop_succ_cons, List.drop_zero]; try simp only [top_out])
    refine popen_u n0 0 _ c0 (M.length + 1) 0 _ _ key (psealL key s t l g c text) s _ _ h0.app rfl k0 l0 (BAt.row (z := z1) (ty := t1) (by rw [get_app]; rfl)) rfl (by omega) (by omega) fun z9 t9 => ?_
    rw [w1, w6, show ∀ x, oT true x = hT x from fun _ => rfl, show ∀ x, oL true x = hL x from fun _ => rfl, show ∀ x, oG true x = hG x from fun _ => rfl, show ∀ x, oC true x = hC x from fun _ => rfl, w2, w3, w4, w5]
    unfold pkS
    (refine top_in ?_; simp -implicitDefEqProofs only [go_sem, -List.reduceReplicate, ↓L_gdZ_tt, ↓L_gdZ_tf, ↓L_gdZ_ft, ↓L_gdZ_ff, ↓T_and, ↓T_imp, ↓T_all, Nat.reduceBEq, Nat.reduceAdd, Nat.reduceSub, Nat.reduceMul, Nat.reduceLT, Nat.reduceLeDiff, Nat.reduceEqDiff, Int.reduceLT, Int.reduceLE, Int.reduceAdd, Int.reduceSub, Int.reduceMul, Int.reduceNeg, Int.reduceToNat, Int.reduceEq, Int.reduceNe, reduceIte, reduceCtorEq, BitVec.reduceOfInt, BitVec.reduceToNat, List.take_succ_cons, List.take_zero, List.drop_succ_cons, List.drop_zero]; try simp only [top_out])
    refine sameHead_ok _ _ _ _ _ _ _ _ _ _ ?_
    rw [show ∀ a b c d, sameHB a b c d a b c d = true from fun a b c d => by simp [sameHB]]
    (refine top_in ?_; simp -implicitDefEqProofs only [go_sem, -List.reduceReplicate, ↓L_gdZ_tt, ↓L_gdZ_tf, ↓L_gdZ_ft, ↓L_gdZ_ff, ↓T_and, ↓T_imp, ↓T_all, Nat.reduceBEq, Nat.reduceAdd, Nat.reduceSub, Nat.reduceMul, Nat.reduceLT, Nat.reduceLeDiff, Nat.reduceEqDiff, Int.reduceLT, Int.reduceLE, Int.reduceAdd, Int.reduceSub, Int.reduceMul, Int.reduceNeg, Int.reduceToNat, Int.reduceEq, Int.reduceNe, reduceIte, reduceCtorEq, BitVec.reduceOfInt, BitVec.reduceToNat, List.take_succ_cons, List.take_zero, List.drop_succ_cons, List.drop_zero]; try simp only [top_out])
    refine same_ok2 n1 0 _ (M.length + 2) 0 _ _ _ text text _ _ h1.app (BAt.row (z := z9) (ty := t9) (by rw [get_app]; rfl)) (by omega) (by omega) rfl rfl ?_
    rw [beq_self_eq_true]
    (refine top_in ?_; simp -implicitDefEqProofs only [go_sem, -List.reduceReplicate, ↓L_gdZ_tt, ↓L_gdZ_tf, ↓L_gdZ_ft, ↓L_gdZ_ff, ↓T_and, ↓T_imp, ↓T_all, Nat.reduceBEq, Nat.reduceAdd, Nat.reduceSub, Nat.reduceMul, Nat.reduceLT, Nat.reduceLeDiff, Nat.reduceEqDiff, Int.reduceLT, Int.reduceLE, Int.reduceAdd, Int.reduceSub, Int.reduceMul, Int.reduceNeg, Int.reduceToNat, Int.reduceEq, Int.reduceNe, reduceIte, reduceCtorEq, BitVec.reduceOfInt, BitVec.reduceToNat, List.take_succ_cons, List.take_zero, List.drop_succ_cons, List.drop_zero]; try simp only [top_out])
    have hU := popenU_len key s b
    refine popen_u n0 0 _ c0 n2 0 _ c2 key b s _ _ h0.app rfl k0 l0 h2.app rfl k2 l2 fun z2 t2 => ?_
    unfold pkS
    (refine top_in ?_; simp -implicitDefEqProofs only [go_sem, -List.reduceReplicate, ↓L_gdZ_tt, ↓L_gdZ_tf, ↓L_gdZ_ft, ↓L_gdZ_ff, ↓T_and, ↓T_imp, ↓T_all, Nat.reduceBEq, Nat.reduceAdd, Nat.reduceSub, Nat.reduceMul, Nat.reduceLT, Nat.reduceLeDiff, Nat.reduceEqDiff, Int.reduceLT, Int.reduceLE, Int.reduceAdd, Int.reduceSub, Int.reduceMul, Int.reduceNeg, Int.reduceToNat, Int.reduceEq, Int.reduceNe, reduceIte, reduceCtorEq, BitVec.reduceOfInt, BitVec.reduceToNat, List.take_succ_cons, List.take_zero, List.drop_succ_cons, List.drop_zero]; try simp only [top_out])
    cases hB : popenB key s b with
    | true =>
      obtain ⟨x1, x2⟩ := popen_seal hB
      have hpu : psealU key s (hT b) (hL b) (hG b) (hC b) (popenU key s b) = b := by unfold psealU; rw [if_pos x1, x2]
      rw [show oT true b = hT b from rfl, show oL true b = hL b from rfl, show oG true b = hG b from rfl, show oC true b = hC b from rfl]
      (refine top_in ?_; simp -implicitDefEqProofs only [go_sem, -List.reduceReplicate, ↓L_gdZ_tt, ↓L_gdZ_tf, ↓L_gdZ_ft, ↓L_gdZ_ff, ↓T_and, ↓T_imp, ↓T_all, Nat.reduceBEq, Nat.reduceAdd, Nat.reduceSub, Nat.reduceMul, Nat.reduceLT, Nat.reduceLeDiff, Nat.reduceEqDiff, Int.reduceLT, Int.reduceLE, Int.reduceAdd, Int.reduceSub, Int.reduceMul, Int.reduceNeg, Int.reduceToNat, Int.reduceEq, Int.reduceNe, reduceIte, reduceCtorEq, BitVec.reduceOfInt, BitVec.reduceToNat, List.take_succ_cons, List.take_zero, List.drop_succ_cons, List.drop_zero]; try simp only [top_out])
      refine pseal_u n0 0 _ c0 (M.length + 4) 0 _ _ key (popenU key s b) s (hT b) (hL b) (hG b) (hC b) _ _ h0.app rfl k0 l0 (BAt.row (z := z2) (ty := t2) (by rw [get_app]; rfl)) rfl (by omega) fun z3 t3 => ?_
      rw [hpu, x1]
      (refine top_in ?_; simp -implicitDefEqProofs only [go_sem, -List.reduceReplicate, ↓L_gdZ_tt, ↓L_gdZ_tf, ↓L_gdZ_ft, ↓L_gdZ_ff, ↓T_and, ↓T_imp, ↓T_all, Nat.reduceBEq, Nat.reduceAdd, Nat.reduceSub, Nat.reduceMul, Nat.reduceLT, Nat.reduceLeDiff, Nat.reduceEqDiff, Int.reduceLT, Int.reduceLE, Int.reduceAdd, Int.reduceSub, Int.reduceMul, Int.reduceNeg, Int.reduceToNat, Int.reduceEq, Int.reduceNe, reduceIte, reduceCtorEq, BitVec.reduceOfInt, BitVec.reduceToNat, List.take_succ_cons, List.take_zero, List.drop_succ_cons, List.drop_zero]; try simp only [top_out])
      refine same_ok2 (M.length + 6) 0 _ n2 0 _ _ _ b b _ _ (BAt.row (z := z3) (ty := t3) (by rw [get_app]; rfl)) h2.app (by omega) (by omega) rfl rfl ?_
      rw [beq_self_eq_true]
      (refine top_in ?_; simp -implicitDefEqProofs only [go_sem, -List.reduceReplicate, ↓L_gdZ_tt, ↓L_gdZ_tf, ↓L_gdZ_ft, ↓L_gdZ_ff, ↓T_and, ↓T_imp, ↓T_all, Nat.reduceBEq, Nat.reduceAdd, Nat.reduceSub, Nat.reduceMul, Nat.reduceLT, Nat.reduceLeDiff, Nat.reduceEqDiff, Int.reduceLT, Int.reduceLE, Int.reduceAdd, Int.reduceSub, Int.reduceMul, Int.reduceNeg, Int.reduceToNat, Int.reduceEq, Int.reduceNe, reduceIte, reduceCtorEq, BitVec.reduceOfInt, BitVec.reduceToNat, List.take_succ_cons, List.take_zero, List.drop_succ_cons, List.drop_zero]; try simp only [top_out])
      refine num_ok _ _ _ ?_
      (refine top_in ?_; simp -implicitDefEqProofs only [go_sem, -List.reduceReplicate, ↓L_gdZ_tt, ↓L_gdZ_tf, ↓L_gdZ_ft, ↓L_gdZ_ff, ↓T_and, ↓T_imp, ↓T_all, Nat.reduceBEq, Nat.reduceAdd, Nat.reduceSub, Nat.reduceMul, Nat.reduceLT, Nat.reduceLeDiff, Nat.reduceEqDiff, Int.reduceLT, Int.reduceLE, Int.reduceAdd, Int.reduceSub, Int.reduceMul, Int.reduceNeg, Int.reduceToNat, Int.reduceEq, Int.reduceNe, reduceIte, reduceCtorEq, BitVec.reduceOfInt, BitVec.reduceToNat, q0t, List.take_succ_cons, List.take_zero, List.drop_succ_cons, List.drop_zero]; try simp only [top_out])
      cases hG : getB b with
      | false =>
        refine getPayload_ok n2 0 c2 b _ _ h2.app (by omega) k2 (fun h => by rw [hG] at h; cases h) (fun _ => ?_)
        unfold plS
        (refine top_in ?_; simp -implicitDefEqProofs only [go_sem, -List.reduceReplicate, ↓L_gdZ_tt, ↓L_gdZ_tf, ↓L_gdZ_ft, ↓L_gdZ_ff, ↓T_and, ↓T_imp, ↓T_all, Nat.reduceBEq, Nat.reduceAdd, Nat.reduceSub, Nat.reduceMul, Nat.reduceLT, Nat.reduceLeDiff, Nat.reduceEqDiff, Int.reduceLT, Int.reduceLE, Int.reduceAdd, Int.reduceSub, Int.reduceMul, Int.reduceNeg, Int.reduceToNat, Int.reduceEq, Int.reduceNe, reduceIte, reduceCtorEq, BitVec.reduceOfInt, BitVec.reduceToNat, List.take_succ_cons, List.take_zero, List.drop_succ_cons, List.drop_zero]; try simp only [top_out])
        refine num_ok _ _ _ ?_
        (refine top_in ?_; simp -implicitDefEqProofs only [go_sem, -List.reduceReplicate, ↓L_gdZ_tt, ↓L_gdZ_tf, ↓L_gdZ_ft, ↓L_gdZ_ff, ↓T_and, ↓T_imp, ↓T_all, Nat.reduceBEq, Nat.reduceAdd, Nat.reduceSub, Nat.reduceMul, Nat.reduceLT, Nat.reduceLeDiff, Nat.reduceEqDiff, Int.reduceLT, Int.reduceLE, Int.reduceAdd, Int.reduceSub, Int.reduceMul, Int.reduceNeg, Int.reduceToNat, Int.reduceEq, Int.reduceNe, reduceIte, reduceCtorEq, BitVec.reduceOfInt, BitVec.reduceToNat, q90f, List.take_succ_cons, List.take_zero, List.drop_succ_cons, List.drop_zero]; try simp only [top_out])
        exact dropC_append hM rfl rfl
      | true =>
        obtain ⟨y1, y2⟩ := pay_back hG
        have hle := getB_le hG
        have hbl : (gB b).length ≤ b.length := by unfold gB; rw [List.length_drop]; omega
        refine getPayload_ok n2 0 c2 b _ _ h2.app (by omega) k2 (fun _ => ?_) (fun h => by rw [hG] at h; cases h)
        unfold gP plS
        (refine top_in ?_; simp -implicitDefEqProofs only [go_sem, -List.reduceReplicate, ↓L_gdZ_tt, ↓L_gdZ_tf, ↓L_gdZ_ft, ↓L_gdZ_ff, ↓T_and, ↓T_imp, ↓T_all, Nat.reduceBEq, Nat.reduceAdd, Nat.reduceSub, Nat.reduceMul, Nat.reduceLT, Nat.reduceLeDiff, Nat.reduceEqDiff, Int.reduceLT, Int.reduceLE, Int.reduceAdd, Int.reduceSub, Int.reduceMul, Int.reduceNeg, Int.reduceToNat, Int.reduceEq, Int.reduceNe, reduceIte, reduceCtorEq, BitVec.reduceOfInt, BitVec.reduceToNat, List.take_succ_cons, List.take_zero, List.drop_succ_cons, List.drop_zero]; try simp only [top_out])
        refine num_ok _ _ _ ?_
        (refine top_in ?_; simp -implicitDefEqProofs only [go_sem, -List.reduceReplicate, ↓L_gdZ_tt, ↓L_gdZ_tf, ↓L_gdZ_ft, ↓L_gdZ_ff, ↓T_and, ↓T_imp, ↓T_all, Nat.reduceBEq, Nat.reduceAdd, Nat.reduceSub, Nat.reduceMul, Nat.reduceLT, Nat.reduceLeDiff, Nat.reduceEqDiff, Int.reduceLT, Int.reduceLE, Int.reduceAdd, Int.reduceSub, Int.reduceMul, Int.reduceNeg, Int.reduceToNat, Int.reduceEq, Int.reduceNe, reduceIte, reduceCtorEq, BitVec.reduceOfInt, BitVec.reduceToNat, q0t, List.take_succ_cons, List.take_zero, List.drop_succ_cons, List.drop_zero]; try simp only [top_out])
        refine putPayload_ok _ _ _ _ _ _ (M.length + 7) _ _ (gB b) _ _ (BAt.tail (l := b) (a := 1 + 2 * gN b) (BAt.row (z := []) (ty := 5) (by rw [get_app, List.append_nil]; rfl)) hle) (by omega) (Nat.le_refl _) (fun _ z8 t8 => ?_) (fun h => by rw [y1] at h; cases h)
        rw [y2]
        (refine top_in ?_; simp -implicitDefEqProofs only [go_sem, -List.reduceReplicate, ↓L_gdZ_tt, ↓L_gdZ_tf, ↓L_gdZ_ft, ↓L_gdZ_ff, ↓T_and, ↓T_imp, ↓T_all, Nat.reduceBEq, Nat.reduceAdd, Nat.reduceSub, Nat.reduceMul, Nat.reduceLT, Nat.reduceLeDiff, Nat.reduceEqDiff, Int.reduceLT, Int.reduceLE, Int.reduceAdd, Int.reduceSub, Int.reduceMul, Int.reduceNeg, Int.reduceToNat, Int.reduceEq, Int.reduceNe, reduceIte, reduceCtorEq, BitVec.reduceOfInt, BitVec.reduceToNat, List.take_succ_cons, List.take_zero, List.drop_succ_cons, List.drop_zero]; try simp only [top_out])
        refine same_ok2 (M.length + 9) 0 _ n2 0 _ _ _ b b _ _ (BAt.row (z := z8) (ty := t8) (by rw [get_app]; rfl)) h2.app (by omega) (by omega) rfl rfl ?_
        rw [beq_self_eq_true]
        (refine top_in ?_; simp -implicitDefEqProofs only [go_sem, -List.reduceReplicate, ↓L_gdZ_tt, ↓L_gdZ_tf, ↓L_gdZ_ft, ↓L_gdZ_ff, ↓T_and, ↓T_imp, ↓T_all, Nat.reduceBEq, Nat.reduceAdd, Nat.reduceSub, Nat.reduceMul, Nat.reduceLT, Nat.reduceLeDiff, Nat.reduceEqDiff, Int.reduceLT, Int.reduceLE, Int.reduceAdd, Int.reduceSub, Int.reduceMul, Int.reduceNeg, Int.reduceToNat, Int.reduceEq, Int.reduceNe, reduceIte, reduceCtorEq, BitVec.reduceOfInt, BitVec.reduceToNat, List.take_succ_cons, List.take_zero, List.drop_succ_cons, List.drop_zero]; try simp only [top_out])
        refine num_ok _ _ _ ?_
        (refine top_in ?_; simp -implicitDefEqProofs only [go_sem, -List.reduceReplicate, ↓L_gdZ_tt, ↓L_gdZ_tf, ↓L_gdZ_ft, ↓L_gdZ_ff, ↓T_and, ↓T_imp, ↓T_all, Nat.reduceBEq, Nat.reduceAdd, Nat.reduceSub, Nat.reduceMul, Nat.reduceLT, Nat.reduceLeDiff, Nat.reduceEqDiff, Int.reduceLT, Int.reduceLE, Int.reduceAdd, Int.reduceSub, Int.reduceMul, Int.reduceNeg, Int.reduceToNat, Int.reduceEq, Int.reduceNe, reduceIte, reduceCtorEq, BitVec.reduceOfInt, BitVec.reduceToNat, q0t, List.take_succ_cons, List.take_zero, List.drop_succ_cons, List.drop_zero]; try simp only [top_out])
        exact dropC_append hM rfl rfl
    | false =>
      (refine top_in ?_; simp -implicitDefEqProofs only [go_sem, -List.reduceReplicate, ↓L_gdZ_tt, ↓L_gdZ_tf, ↓L_gdZ_ft, ↓L_gdZ_ff, ↓T_and, ↓T_imp, ↓T_all, Nat.reduceBEq, Nat.reduceAdd, Nat.reduceSub, Nat.reduceMul, Nat.reduceLT, Nat.reduceLeDiff, Nat.reduceEqDiff, Int.reduceLT, Int.reduceLE, Int.reduceAdd, Int.reduceSub, Int.reduceMul, Int.reduceNeg, Int.reduceToNat, Int.reduceEq, Int.reduceNe, reduceIte, reduceCtorEq, BitVec.reduceOfInt, BitVec.reduceToNat, List.take_succ_cons, List.take_zero, List.drop_succ_cons, List.drop_zero]; try simp only [top_out])
      cases hG : getB b with
      | false =>
        refine getPayload_ok n2 0 c2 b _ _ h2.app (by omega) k2 (fun h => by rw [hG] at h; cases h) (fun _ => ?_)
        unfold plS
        (refine top_in ?_; simp -implicitDefEqProofs only [go_sem, -List.reduceReplicate, ↓L_gdZ_tt, ↓L_gdZ_tf, ↓L_gdZ_ft, ↓L_gdZ_ff, ↓T_and, ↓T_imp, ↓T_all, Nat.reduceBEq, Nat.reduceAdd, Nat.reduceSub, Nat.reduceMul, Nat.reduceLT, Nat.reduceLeDiff, Nat.reduceEqDiff, Int.reduceLT, Int.reduceLE, Int.reduceAdd, Int.reduceSub, Int.reduceMul, Int.reduceNeg, Int.reduceToNat, Int.reduceEq, Int.reduceNe, reduceIte, reduceCtorEq, BitVec.reduceOfInt, BitVec.reduceToNat, List.take_succ_cons, List.take_zero, List.drop_succ_cons, List.drop_zero]; try simp only [top_out])
        refine num_ok _ _ _ ?_
        (refine top_in ?_; simp -implicitDefEqProofs only [go_sem, -List.reduceReplicate, ↓L_gdZ_tt, ↓L_gdZ_tf, ↓L_gdZ_ft, ↓L_gdZ_ff, ↓T_and, ↓T_imp, ↓T_all, Nat.reduceBEq, Nat.reduceAdd, Nat.reduceSub, Nat.reduceMul, Nat.reduceLT, Nat.reduceLeDiff, Nat.reduceEqDiff, Int.reduceLT, Int.reduceLE, Int.reduceAdd, Int.reduceSub, Int.reduceMul, Int.reduceNeg, Int.reduceToNat, Int.reduceEq, Int.reduceNe, reduceIte, reduceCtorEq, BitVec.reduceOfInt, BitVec.reduceToNat, q90f, List.take_succ_cons, List.take_zero, List.drop_succ_cons, List.drop_zero]; try simp only [top_out])
        exact dropC_append hM rfl rfl
      | true =>
        obtain ⟨y1, y2⟩ := pay_back hG
        have hle := getB_le hG
        have hbl : (gB b).length ≤ b.length := by unfold gB; rw [List.length_drop]; omega
        refine getPayload_ok n2 0 c2 b _ _ h2.app (by omega) k2 (fun _ => ?_) (fun h => by rw [hG] at h; cases h)
        unfold gP plS
        (refine top_in ?_; simp -implicitDefEqProofs only [go_sem, -List.reduceReplicate, ↓L_gdZ_tt, ↓L_gdZ_tf, ↓L_gdZ_ft, ↓L_gdZ_ff, ↓T_and, ↓T_imp, ↓T_all, Nat.reduceBEq, Nat.reduceAdd, Nat.reduceSub, Nat.reduceMul, Nat.reduceLT, Nat.reduceLeDiff, Nat.reduceEqDiff, Int.reduceLT, Int.reduceLE, Int.reduceAdd, Int.reduceSub, Int.reduceMul, Int.reduceNeg, Int.reduceToNat, Int.reduceEq, Int.reduceNe, reduceIte, reduceCtorEq, BitVec.reduceOfInt, BitVec.reduceToNat, List.take_succ_cons, List.take_zero, List.drop_succ_cons, List.drop_zero]; try simp only [top_out])
        refine num_ok _ _ _ ?_
        (refine top_in ?_; simp -implicitDefEqProofs only [go_sem, -List.reduceReplicate, ↓L_gdZ_tt, ↓L_gdZ_tf, ↓L_gdZ_ft, ↓L_gdZ_ff, ↓T_and, ↓T_imp, ↓T_all, Nat.reduceBEq, Nat.reduceAdd, Nat.reduceSub, Nat.reduceMul, Nat.reduceLT, Nat.reduceLeDiff, Nat.reduceEqDiff, Int.reduceLT, Int.reduceLE, Int.reduceAdd, Int.reduceSub, Int.reduceMul, Int.reduceNeg, Int.reduceToNat, Int.reduceEq, Int.reduceNe, reduceIte, reduceCtorEq, BitVec.reduceOfInt, BitVec.reduceToNat, q0t, List.take_succ_cons, List.take_zero, List.drop_succ_cons, List.drop_zero]; try simp only [top_out])
        refine putPayload_ok _ _ _ _ _ _ (M.length + 6) _ _ (gB b) _ _ (BAt.tail (l := b) (a := 1 + 2 * gN b) (BAt.row (z := []) (ty := 5) (by rw [get_app, List.append_nil]; rfl)) hle) (by omega) (Nat.le_refl _) (fun _ z8 t8 => ?_) (fun h => by rw [y1] at h; cases h)
        rw [y2]
        (refine top_in ?_; simp -implicitDefEqProofs only [go_sem, -List.reduceReplicate, ↓L_gdZ_tt, ↓L_gdZ_tf, ↓L_gdZ_ft, ↓L_gdZ_ff, ↓T_and, ↓T_imp, ↓T_all, Nat.reduceBEq, Nat.reduceAdd, Nat.reduceSub, Nat.reduceMul, Nat.reduceLT, Nat.reduceLeDiff, Nat.reduceEqDiff, Int.reduceLT, Int.reduceLE, Int.reduceAdd, Int.reduceSub, Int.reduceMul, Int.reduceNeg, Int.reduceToNat, Int.reduceEq, Int.reduceNe, reduceIte, reduceCtorEq, BitVec.reduceOfInt, BitVec.reduceToNat, List.take_succ_cons, List.take_zero, List.drop_succ_cons, List.drop_zero]; try simp only [top_out])
        refine same_ok2 (M.length + 8) 0 _ n2 0 _ _ _ b b _ _ (BAt.row (z := z8) (ty := t8) (by rw [get_app]; rfl)) h2.app (by omega) (by omega) rfl rfl ?_
        rw [beq_self_eq_true]
        (refine top_in ?_; simp -implicitDefEqProofs only [go_sem, -List.reduceReplicate, ↓L_gdZ_tt, ↓L_gdZ_tf, ↓L_gdZ_ft, ↓L_gdZ_ff, ↓T_and, ↓T_imp, ↓T_all, Nat.reduceBEq, Nat.reduceAdd, Nat.reduceSub, Nat.reduceMul, Nat.reduceLT, Nat.reduceLeDiff, Nat.reduceEqDiff, Int.reduceLT, Int.reduceLE, Int.reduceAdd, Int.reduceSub, Int.reduceMul, Int.reduceNeg, Int.reduceToNat, Int.reduceEq, Int.reduceNe, reduceIte, reduceCtorEq, BitVec.reduceOfInt, BitVec.reduceToNat, List.take_succ_cons, List.take_zero, List.drop_succ_cons, List.drop_zero]; try simp only [top_out])
        refine num_ok _ _ _ ?_
        (refine top_in ?_; simp -implicitDefEqProofs only [go_sem, -List.reduceReplicate, ↓L_gdZ_tt, ↓L_gdZ_tf, ↓L_gdZ_ft, ↓L_gdZ_ff, ↓T_and, ↓T_imp, ↓T_all, Nat.reduceBEq, Nat.reduceAdd, Nat.reduceSub, Nat.reduceMul, Nat.reduceLT, Nat.reduceLeDiff, Nat.reduceEqDiff, Int.reduceLT, Int.reduceLE, Int.reduceAdd, Int.reduceSub, Int.reduceMul, Int.reduceNeg, Int.reduceToNat, Int.reduceEq, Int.reduceNe, reduceIte, reduceCtorEq, BitVec.reduceOfInt, BitVec.reduceToNat, q0t, List.take_succ_cons, List.take_zero, List.drop_succ_cons, List.drop_zero]; try simp only [top_out])
        exact dropC_append hM rfl rfl
  · have hne : (psealE key s t l g c text.length == 0) = false := beq_eq_false_iff_ne.2 he
    (refine top_in ?_; simp -implicitDefEqProofs only [go_sem, -List.reduceReplicate, ↓L_gdZ_tt, ↓L_gdZ_tf, ↓L_gdZ_ft, ↓L_gdZ_ff, ↓T_and, ↓T_imp, ↓T_all, Nat.reduceBEq, Nat.reduceAdd, Nat.reduceSub, Nat.reduceMul, Nat.reduceLT, Nat.reduceLeDiff, Nat.reduceEqDiff, Int.reduceLT, Int.reduceLE, Int.reduceAdd, Int.reduceSub, Int.reduceMul, Int.reduceNeg, Int.reduceToNat, Int.reduceEq, Int.reduceNe, reduceIte, reduceCtorEq, BitVec.reduceOfInt, BitVec.reduceToNat, hne, List.take_succ_cons, List.take_zero, List.drop_succ_cons, List.drop_zero]; try simp only [top_out])
    have hU := popenU_len key s b
    refine popen_u n0 0 _ c0 n2 0 _ c2 key b s _ _ h0.app rfl k0 l0 h2.app rfl k2 l2 fun z2 t2 => ?_
    unfold pkS
    (refine top_in ?_; simp -implicitDefEqProofs only [go_sem, -List.reduceReplicate, ↓L_gdZ_tt, ↓L_gdZ_tf, ↓L_gdZ_ft, ↓L_gdZ_ff, ↓T_and, ↓T_imp, ↓T_all, Nat.reduceBEq, Nat.reduceAdd, Nat.reduceSub, Nat.reduceMul, Nat.reduceLT, Nat.reduceLeDiff, Nat.reduceEqDiff, Int.reduceLT, Int.reduceLE, Int.reduceAdd, Int.reduceSub, Int.reduceMul, Int.reduceNeg, Int.reduceToNat, Int.reduceEq, Int.reduceNe, reduceIte, reduceCtorEq, BitVec.reduceOfInt, BitVec.reduceToNat, List.take_succ_cons, List.take_zero, List.drop_succ_cons, List.drop_zero]; try simp only [top_out])
    cases hB : popenB key s b with
    | true =>
      obtain ⟨x1, x2⟩ := popen_seal hB
      have hpu : psealU key s (hT b) (hL b) (hG b) (hC b) (popenU key s b) = b := by unfold psealU; rw [if_pos x1, x2]
      rw [show oT true b = hT b from rfl, show oL true b = hL b from rfl, show oG true b = hG b from rfl, show oC true b = hC b from rfl]
      (refine top_in ?_; simp -implicitDefEqProofs only [go_sem, -List.reduceReplicate, ↓L_gdZ_tt, ↓L_gdZ_tf, ↓L_gdZ_ft, ↓L_gdZ_ff, ↓T_and, ↓T_imp, ↓T_all, Nat.reduceBEq, Nat.reduceAdd, Nat.reduceSub, Nat.reduceMul, Nat.reduceLT, Nat.reduceLeDiff, Nat.reduceEqDiff, Int.reduceLT, Int.reduceLE, Int.reduceAdd, Int.reduceSub, Int.reduceMul, Int.reduceNeg, Int.reduceToNat, Int.reduceEq, Int.reduceNe, reduceIte, reduceCtorEq, BitVec.reduceOfInt, BitVec.reduceToNat, List.take_succ_cons, List.take_zero, List.drop_succ_cons, List.drop_zero]; try simp only [top_out])
      refine pseal_u n0 0 _ c0 (M.length + 2) 0 _ _ key (popenU key s b) s (hT b) (hL b) (hG b) (hC b) _ _ h0.app rfl k0 l0 (BAt.row (z := z2) (ty := t2) (by rw [get_app]; rfl)) rfl (by omega) fun z3 t3 => ?_
      rw [hpu, x1]
      (refine top_in ?_; simp -implicitDefEqProofs only [go_sem, -List.reduceReplicate, ↓L_gdZ_tt, ↓L_gdZ_tf, ↓L_gdZ_ft, ↓L_gdZ_ff, ↓T_and, ↓T_imp, ↓T_all, Nat.reduceBEq, Nat.reduceAdd, Nat.reduceSub, Nat.reduceMul, Nat.reduceLT, Nat.reduceLeDiff, Nat.reduceEqDiff, Int.reduceLT, Int.reduceLE, Int.reduceAdd, Int.reduceSub, Int.reduceMul, Int.reduceNeg, Int.reduceToNat, Int.reduceEq, Int.reduceNe, reduceIte, reduceCtorEq, BitVec.reduceOfInt, BitVec.reduceToNat, List.take_succ_cons, List.take_zero, List.drop_succ_cons, List.drop_zero]; try simp only [top_out])
      refine same_ok2 (M.length + 4) 0 _ n2 0 _ _ _ b b _ _ (BAt.row (z := z3) (ty := t3) (by rw [get_app]; rfl)) h2.app (by omega) (by omega) rfl rfl ?_
      rw [beq_self_eq_true]
      (refine top_in ?_; simp -implicitDefEqProofs only [go_sem, -List.reduceReplicate, ↓L_gdZ_tt, ↓L_gdZ_tf, ↓L_gdZ_ft, ↓L_gdZ_ff, ↓T_and, ↓T_imp, ↓T_all, Nat.reduceBEq, Nat.reduceAdd, Nat.reduceSub, Nat.reduceMul, Nat.reduceLT, Nat.reduceLeDiff, Nat.reduceEqDiff, Int.reduceLT, Int.reduceLE, Int.reduceAdd, Int.reduceSub, Int.reduceMul, Int.reduceNeg, Int.reduceToNat, Int.reduceEq, Int.reduceNe, reduceIte, reduceCtorEq, BitVec.reduceOfInt, BitVec.reduceToNat, List.take_succ_cons, List.take_zero, List.drop_succ_cons, List.drop_zero]; try simp only [top_out])
      refine num_ok _ _ _ ?_
      (refine top_in ?_; simp -implicitDefEqProofs only [go_sem, -List.reduceReplicate, ↓L_gdZ_tt, ↓L_gdZ_tf, ↓L_gdZ_ft, ↓L_gdZ_ff, ↓T_and, ↓T_imp, ↓T_all, Nat.reduceBEq, Nat.reduceAdd, Nat.reduceSub, Nat.reduceMul, Nat.reduceLT, Nat.reduceLeDiff, Nat.reduceEqDiff, Int.reduceLT, Int.reduceLE, Int.reduceAdd, Int.reduceSub, Int.reduceMul, Int.reduceNeg, Int.reduceToNat, Int.reduceEq, Int.reduceNe, reduceIte, reduceCtorEq, BitVec.reduceOfInt, BitVec.reduceToNat, q0t, List.take_succ_cons, List.take_zero, List.drop_succ_cons, List.drop_zero]; try simp only [top_out])
      cases hG : getB b with
      | false =>
        refine getPayload_ok n2 0 c2 b _ _ h2.app (by omega) k2 (fun h => by rw [hG] at h; cases h) (fun _ => ?_)
        unfold plS
        (refine top_in ?_; simp -implicitDefEqProofs only [go_sem, -List.reduceReplicate, ↓L_gdZ_tt, ↓L_gdZ_tf, ↓L_gdZ_ft, ↓L_gdZ_ff, ↓T_and, ↓T_imp, ↓T_all, Nat.reduceBEq, Nat.reduceAdd, Nat.reduceSub, Nat.reduceMul, Nat.reduceLT, Nat.reduceLeDiff, Nat.reduceEqDiff, Int.reduceLT, Int.reduceLE, Int.reduceAdd, Int.reduceSub, Int.reduceMul, Int.reduceNeg, Int.reduceToNat, Int.reduceEq, Int.reduceNe, reduceIte, reduceCtorEq, BitVec.reduceOfInt, BitVec.reduceToNat, List.take_succ_cons, List.take_zero, List.drop_succ_cons, List.drop_zero]; try simp only [top_out])
        refine num_ok _ _ _ ?_
        (refine top_in ?_; simp -implicitDefEqProofs only [go_sem, -List.reduceReplicate, ↓L_gdZ_tt, ↓L_gdZ_tf, ↓L_gdZ_ft, ↓L_gdZ_ff, ↓T_and, ↓T_imp, ↓T_all, Nat.reduceBEq, Nat.reduceAdd, Nat.reduceSub, Nat.reduceMul, Nat.reduceLT, Nat.reduceLeDiff, Nat.reduceEqDiff, Int.reduceLT, Int.reduceLE, Int.reduceAdd, Int.reduceSub, Int.reduceMul, Int.reduceNeg, Int.reduceToNat, Int.reduceEq, Int.reduceNe, reduceIte, reduceCtorEq, BitVec.reduceOfInt, BitVec.reduceToNat, q90f, List.take_succ_cons, List.take_zero, List.drop_succ_cons, List.drop_zero]; try simp only [top_out])
        exact dropC_append hM rfl rfl
      | true =>
        obtain ⟨y1, y2⟩ := pay_back hG
        have hle := getB_le hG
        have hbl : (gB b).length ≤ b.length := by unfold gB; rw [List.length_drop]; omega
        refine getPayload_ok n2 0 c2 b _ _ h2.app (by omega) k2 (fun _ => ?_) (fun h => by rw [hG] at h; cases h)
        unfold gP plS
        (refine top_in ?_; simp -implicitDefEqProofs only [go_sem, -List.reduceReplicate, ↓L_gdZ_tt, ↓L_gdZ_tf, ↓L_gdZ_ft, ↓L_gdZ_ff, ↓T_and, ↓T_imp, ↓T_all, Nat.reduceBEq, Nat.reduceAdd, Nat.reduceSub, Nat.reduceMul, Nat.reduceLT, Nat.reduceLeDiff, Nat.reduceEqDiff, Int.reduceLT, Int.reduceLE, Int.reduceAdd, Int.reduceSub, Int.reduceMul, Int.reduceNeg, Int.reduceToNat, Int.reduceEq, Int.reduceNe, reduceIte, reduceCtorEq, BitVec.reduceOfInt, BitVec.reduceToNat, List.take_succ_cons, List.take_zero, List.drop_succ_cons, List.drop_zero]; try simp only [top_out])
        refine num_ok _ _ _ ?_
        (refine top_in ?_; simp -implicitDefEqProofs only [go_sem, -List.reduceReplicate, ↓L_gdZ_tt, ↓L_gdZ_tf, ↓L_gdZ_ft, ↓L_gdZ_ff, ↓T_and, ↓T_imp, ↓T_all, Nat.reduceBEq, Nat.reduceAdd, Nat.reduceSub, Nat.reduceMul, Nat.reduceLT, Nat.reduceLeDiff, Nat.reduceEqDiff, Int.reduceLT, Int.reduceLE, Int.reduceAdd, Int.reduceSub, Int.reduceMul, Int.reduceNeg, Int.reduceToNat, Int.reduceEq, Int.reduceNe, reduceIte, reduceCtorEq, BitVec.reduceOfInt, BitVec.reduceToNat, q0t, List.take_succ_cons, List.take_zero, List.drop_succ_cons, List.drop_zero]; try simp only [top_out])
        refine putPayload_ok _ _ _ _ _ _ (M.length + 5) _ _ (gB b) _ _ (BAt.tail (l := b) (a := 1 + 2 * gN b) (BAt.row (z := []) (ty := 5) (by rw [get_app, List.append_nil]; rfl)) hle) (by omega) (Nat.le_refl _) (fun _ z8 t8 => ?_) (fun h => by rw [y1] at h; cases h)
        rw [y2]
        (refine top_in ?_; simp -implicitDefEqProofs only [go_sem, -List.reduceReplicate, ↓L_gdZ_tt, ↓L_gdZ_tf, ↓L_gdZ_ft, ↓L_gdZ_ff, ↓T_and, ↓T_imp, ↓T_all, Nat.reduceBEq, Nat.reduceAdd, Nat.reduceSub, Nat.reduceMul, Nat.reduceLT, Nat.reduceLeDiff, Nat.reduceEqDiff, Int.reduceLT, Int.reduceLE, Int.reduceAdd, Int.reduceSub, Int.reduceMul, Int.reduceNeg, Int.reduceToNat, Int.reduceEq, Int.reduceNe, reduceIte, reduceCtorEq, BitVec.reduceOfInt, BitVec.reduceToNat, List.take_succ_cons, List.take_zero, List.drop_succ_cons, List.drop_zero]; try simp only [top_out])
        refine same_ok2 (M.length + 7) 0 _ n2 0 _ _ _ b b _ _ (BAt.row (z := z8) (ty := t8) (by rw [get_app]; rfl)) h2.app (by omega) (by omega) rfl rfl ?_
        rw [beq_self_eq_true]
        (refine top_in ?_; simp -implicitDefEqProofs only [go_sem, -List.reduceReplicate, ↓L_gdZ_tt, ↓L_gdZ_tf, ↓L_gdZ_ft, ↓L_gdZ_ff, ↓T_and, ↓T_imp, ↓T_all, Nat.reduceBEq, Nat.reduceAdd, Nat.reduceSub, Nat.reduceMul, Nat.reduceLT, Nat.reduceLeDiff, Nat.reduceEqDiff, Int.reduceLT, Int.reduceLE, Int.reduceAdd, Int.reduceSub, Int.reduceMul, Int.reduceNeg, Int.reduceToNat, Int.reduceEq, Int.reduceNe, reduceIte, reduceCtorEq, BitVec.reduceOfInt, BitVec.reduceToNat, List.take_succ_cons, List.take_zero, List.drop_succ_cons, List.drop_zero]; try simp only [top_out])
        refine num_ok _ _ _ ?_
        (refine top_in ?_; simp -implicitDefEqProofs only [go_sem, -List.reduceReplicate, ↓L_gdZ_tt, ↓L_gdZ_tf, ↓L_gdZ_ft, ↓L_gdZ_ff, ↓T_and, ↓T_imp, ↓T_all, Nat.reduceBEq, Nat.reduceAdd, Nat.reduceSub, Nat.reduceMul, Nat.reduceLT, Nat.reduceLeDiff, Nat.reduceEqDiff, Int.reduceLT, Int.reduceLE, Int.reduceAdd, Int.reduceSub, Int.reduceMul, Int.reduceNeg, Int.reduceToNat, Int.reduceEq, Int.reduceNe, reduceIte, reduceCtorEq, BitVec.reduceOfInt, BitVec.reduceToNat, q0t, List.take_succ_cons, List.take_zero, List.drop_succ_cons, List.drop_zero]; try simp only [top_out])
        exact dropC_append hM rfl rfl
    | false =>
      (refine top_in ?_; simp -implicitDefEqProofs only [go_sem, -List.reduceReplicate, ↓L_gdZ_tt, ↓L_gdZ_tf, ↓L_gdZ_ft, ↓L_gdZ_ff, ↓T_and, ↓T_imp, ↓T_all, Nat.reduceBEq, Nat.reduceAdd, Nat.reduceSub, Nat.reduceMul, Nat.reduceLT, Nat.reduceLeDiff, Nat.reduceEqDiff, Int.reduceLT, Int.reduceLE, Int.reduceAdd, Int.reduceSub, Int.reduceMul, Int.reduceNeg, Int.reduceToNat, Int.reduceEq, Int.reduceNe, reduceIte, reduceCtorEq, BitVec.reduceOfInt, BitVec.reduceToNat, List.take_succ_cons, List.take_zero, List.drop_succ_cons, List.drop_zero]; try simp only [top_out])
      cases hG : getB b with
      | false =>
        refine getPayload_ok n2 0 c2 b _ _ h2.app (by omega) k2 (fun h => by rw [hG] at h; cases h) (fun _ => ?_)
        unfold plS
        (refine top_in ?_; simp -implicitDefEqProofs only [go_sem, -List.reduceReplicate, ↓L_gdZ_tt, ↓L_gdZ_tf, ↓L_gdZ_ft, ↓L_gdZ_ff, ↓T_and, ↓T_imp, ↓T_all, Nat.reduceBEq, Nat.reduceAdd, Nat.reduceSub, Nat.reduceMul, Nat.reduceLT, Nat.reduceLeDiff, Nat.reduceEqDiff, Int.reduceLT, Int.reduceLE, Int.reduceAdd, Int.reduceSub, Int.reduceMul, Int.reduceNeg, Int.reduceToNat, Int.reduceEq, Int.reduceNe, reduceIte, reduceCtorEq, BitVec.reduceOfInt, BitVec.reduceToNat, List.take_succ_cons, List.take_zero, List.drop_succ_cons, List.drop_zero]; try simp only [top_out])
        refine num_ok _ _ _ ?_
        (refine top_in ?_; simp -implicitDefEqProofs only [go_sem, -List.reduceReplicate, ↓L_gdZ_tt, ↓L_gdZ_tf, ↓L_gdZ_ft, ↓L_gdZ_ff, ↓T_and, ↓T_imp, ↓T_all, Nat.reduceBEq, Nat.reduceAdd, Nat.reduceSub, Nat.reduceMul, Nat.reduceLT, Nat.reduceLeDiff, Nat.reduceEqDiff, Int.reduceLT, Int.reduceLE, Int.reduceAdd, Int.reduceSub, Int.reduceMul, Int.reduceNeg, Int.reduceToNat, Int.reduceEq, Int.reduceNe, reduceIte, reduceCtorEq, BitVec.reduceOfInt, BitVec.reduceToNat, q90f, List.take_succ_cons, List.take_zero, List.drop_succ_cons, List.drop_zero]; try simp only [top_out])
        exact dropC_append hM rfl rfl
      | true =>
        obtain ⟨y1, y2⟩ := pay_back hG
        have hle := getB_le hG
        have hbl : (gB b).length ≤ b.length := by unfold gB; rw [List.length_drop]; omega
        refine getPayload_ok n2 0 c2 b _ _ h2.app (by omega) k2 (fun _ => ?_) (fun h => by rw [hG] at h; cases h)
        unfold gP plS
        (refine top_in ?_; simp -implicitDefEqProofs only [go_sem, -List.reduceReplicate, ↓L_gdZ_tt, ↓L_gdZ_tf, ↓L_gdZ_ft, ↓L_gdZ_ff, ↓T_and, ↓T_imp, ↓T_all, Nat.reduceBEq, Nat.reduceAdd, Nat.reduceSub, Nat.reduceMul, Nat.reduceLT, Nat.reduceLeDiff, Nat.reduceEqDiff, Int.reduceLT, Int.reduceLE, Int.reduceAdd, Int.reduceSub, Int.reduceMul, Int.reduceNeg, Int.reduceToNat, Int.reduceEq, Int.reduceNe, reduceIte, reduceCtorEq, BitVec.reduceOfInt, BitVec.reduceToNat, List.take_succ_cons, List.take_zero, List.drop_succ_cons, List.drop_zero]; try simp only [top_out])
        refine num_ok _ _ _ ?_
        (refine top_in ?_; simp -implicitDefEqProofs only [go_sem, -List.reduceReplicate, ↓L_gdZ_tt, ↓L_gdZ_tf, ↓L_gdZ_ft, ↓L_gdZ_ff, ↓T_and, ↓T_imp, ↓T_all, Nat.reduceBEq, Nat.reduceAdd, Nat.reduceSub, Nat.reduceMul, Nat.reduceLT, Nat.reduceLeDiff, Nat.reduceEqDiff, Int.reduceLT, Int.reduceLE, Int.reduceAdd, Int.reduceSub, Int.reduceMul, Int.reduceNeg, Int.reduceToNat, Int.reduceEq, Int.reduceNe, reduceIte, reduceCtorEq, BitVec.reduceOfInt, BitVec.reduceToNat, q0t, List.take_succ_cons, List.take_zero, List.drop_succ_cons, List.drop_zero]; try simp only [top_out])
        refine putPayload_ok _ _ _ _ _ _ (M.length + 4) _ _ (gB b) _ _ (BAt.tail (l := b) (a := 1 + 2 * gN b) (BAt.row (z := []) (ty := 5) (by rw [get_app, List.append_nil]; rfl)) hle) (by omega) (Nat.le_refl _) (fun _ z8 t8 => ?_) (fun h => by rw [y1] at h; cases h)
        rw [y2]
        (refine top_in ?_; simp -implicitDefEqProofs only [go_sem, -List.reduceReplicate, ↓L_gdZ_tt, ↓L_gdZ_tf, ↓L_gdZ_ft, ↓L_gdZ_ff, ↓T_and, ↓T_imp, ↓T_all, Nat.reduceBEq, Nat.reduceAdd, Nat.reduceSub, Nat.reduceMul, Nat.reduceLT, Nat.reduceLeDiff, Nat.reduceEqDiff, Int.reduceLT, Int.reduceLE, Int.reduceAdd, Int.reduceSub, Int.reduceMul, Int.reduceNeg, Int.reduceToNat, Int.reduceEq, Int.reduceNe, reduceIte, reduceCtorEq, BitVec.reduceOfInt, BitVec.reduceToNat, List.take_succ_cons, List.take_zero, List.drop_succ_cons, List.drop_zero]; try simp only [top_out])
        refine same_ok2 (M.length + 6) 0 _ n2 0 _ _ _ b b _ _ (BAt.row (z := z8) (ty := t8) (by rw [get_app]; rfl)) h2.app (by omega) (by omega) rfl rfl ?_
        rw [beq_self_eq_true]
        (refine top_in ?_; simp -implicitDefEqProofs only [go_sem, -List.reduceReplicate, ↓L_gdZ_tt, ↓L_gdZ_tf, ↓L_gdZ_ft, ↓L_gdZ_ff, ↓T_and, ↓T_imp, ↓T_all, Nat.reduceBEq, Nat.reduceAdd, Nat.reduceSub, Nat.reduceMul, Nat.reduceLT, Nat.reduceLeDiff, Nat.reduceEqDiff, Int.reduceLT, Int.reduceLE, Int.reduceAdd, Int.reduceSub, Int.reduceMul, Int.reduceNeg, Int.reduceToNat, Int.reduceEq, Int.reduceNe, reduceIte, reduceCtorEq, BitVec.reduceOfInt, BitVec.reduceToNat, List.take_succ_cons, List.take_zero, List.drop_succ_cons, List.drop_zero]; try simp only [top_out])
        refine num_ok _ _ _ ?_
        (refine top_in ?_; simp -implicitDefEqProofs only [go_sem, -List.reduceReplicate, ↓L_gdZ_tt, ↓L_gdZ_tf, ↓L_gdZ_ft, ↓L_gdZ_ff, ↓T_and, ↓T_imp, ↓T_all, Nat.reduceBEq, Nat.reduceAdd, Nat.reduceSub, Nat.reduceMul, Nat.reduceLT, Nat.reduceLeDiff, Nat.reduceEqDiff, Int.reduceLT, Int.reduceLE, Int.reduceAdd, Int.reduceSub, Int.reduceMul, Int.reduceNeg, Int.reduceToNat, Int.reduceEq, Int.reduceNe, reduceIte, reduceCtorEq, BitVec.reduceOfInt, BitVec.reduceToNat, q0t, List.take_succ_cons, List.take_zero, List.drop_succ_cons, List.drop_zero]; try simp only [top_out])
        exact dropC_append hM rfl rfl
end Go.Proofs.Ytdkdbeamimkljaa.Eng
