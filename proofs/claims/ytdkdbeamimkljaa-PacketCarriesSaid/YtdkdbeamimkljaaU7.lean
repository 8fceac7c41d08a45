/- The laws of chapter 9 about heads and nonces. -/
import Derived.Test.YtdkdbeamimkljaaU6
namespace Go.Proofs.Ytdkdbeamimkljaa.Eng
open Go Go.RowKit
set_option linter.unusedSimpArgs false
set_option linter.unusedVariables false

/-- what a call leaves, seen under other names -/
theorem callVC_drop {P : Program} {f : FuncId} {args : List SV} {M : List Blk} {K : SV → List Blk → Prop} (h : callVC P f args M (fun v M' => dropC M.length v M' K)) : callVC P f args M K :=
  ⟨h.1, fun G ρ w hs hl => (h.2 G ρ w hs hl).mono fun _ _ ⟨ρ', v, M', h1, h2, h3, h4, h5, h6⟩ => by
    obtain ⟨ρ2, v2, M2, g1, g2, g3, g4, g5, g6⟩ := h6 G ρ' _ hs.base h3 h4
    exact ⟨ρ2, v2, M2, h1.trans g1 (Nat.le_refl _), g2, g3, g4, by rw [g5]; exact h5, g6⟩⟩
theorem drop8n0 {M : List Blk} {K : SV → List Blk → Prop} {ty : TypeId} (hM : ∀ (n : Nat) (B : Blk), M[n]? = some B → B.lt M.length = true)
    (hK : K (.sl M.length 0 0 0) (M ++ [.row (bS []) ty])) : dropC M.length .sn M K := by
  have := drop8n (L := []) (ty := ty) hM hK
  rwa [List.append_nil] at this
theorem drop8nt {M : List Blk} {K : SV → List Blk → Prop} {ty : TypeId} {e : Int} (hM : ∀ (n : Nat) (B : Blk), M[n]? = some B → B.lt M.length = true)
    (hK : K (.tup [.sl M.length 0 0 0, .i .i64 e]) (M ++ [.row (bS []) ty])) : dropC M.length (.tup [.sn, .i .i64 e]) M K := by
  have := dropC_gc (L := []) (v := .tup [.sn, .i .i64 e]) (K := K) hM [none] (.tup [.sl M.length 0 0 0, .i .i64 e]) [.row [] ty] rfl ⟨rfl, trivial⟩ (by simp [Blk.lt, ltL]) (by simp [SV.lt, ltL]) (fun ρ => ?_) hK
  · rwa [List.append_nil] at this
  · have h0 : den ρ ((SV.sl M.length 0 0 0).rn (tau M.length [none])) = den ρ .sn := rn_nil
    simp only [rn_tup, rnL_cons, rnL_nil, rn_i]
    simp only [den, denL] at h0 ⊢
    rw [h0]
/-- the memory of a call is well named -/
theorem callVC_names {P : Program} {f : FuncId} {args : List SV} {M : List Blk} {K : SV → List Blk → Prop} (h : (∀ (n : Nat) (B : Blk), M[n]? = some B → B.lt M.length = true) → callVC P f args M K) (hc : ∀ xs w, (callFunc f xs).run P w = .ok (.enter f xs) w) : callVC P f args M K :=
  ⟨hc, fun G ρ w hs hl => (h hs.lt).2 G ρ w hs hl⟩

theorem drop0 {v : SV} {M : List Blk} {K : SV → List Blk → Prop} (hv : v.lt 0 = true) (hK : K v []) : dropC 0 v M K :=
  dropC_append (M := []) (N := M) (fun _ _ h => by simp at h) hv hK
def headU (t l g : Int) (c : BitVec 64) : List (BitVec 8) := if headB t l g c = true then headL t l g c else []
def headE (t l g : Int) (c : BitVec 64) : Int := if headB t l g c = true then 0 else 90
def nonceU (s g : Int) (c : BitVec 64) : List (BitVec 8) := if nonceB s g c = true then nonceL s g c else []
theorem putHead_u (t l g : Int) (c : BitVec 64) (M : List Blk) (K : SV → List Blk → Prop) (hK : ∀ z ty, K (.tup [.sl M.length 0 (headU t l g c).length ((headU t l g c).length + z.length), .i .i64 (headE t l g c)]) (M ++ [.row (bS (headU t l g c ++ z)) ty])) :
    callVC Try.prog 11 [hdS t l g c] M K := by
  refine callVC_drop (callVC_names (fun hM => ?_) Try.call11)
  refine putHead_ok t l g c _ _ (fun hb z ty => dropC_all (by simp) ?_) (fun hb => ?_)
  · have := hK z ty; rw [headU, headE, if_pos hb, if_pos hb, headL_len] at this; exact this
  · have := hK [] 0; rw [headU, headE, hb, if_neg (by simp), if_neg (by simp)] at this
    exact drop8nt hM this
theorem refPutHead_u (t l g : Int) (c : BitVec 64) (M : List Blk) (K : SV → List Blk → Prop) (hK : ∀ z ty, K (.tup [.sl M.length 0 (headU t l g c).length ((headU t l g c).length + z.length), .i .i64 (headE t l g c)]) (M ++ [.row (bS (headU t l g c ++ z)) ty])) :
    callVC Try.prog 12 [hdS t l g c] M K := by
  refine callVC_drop (callVC_names (fun hM => ?_) Try.call12)
  refine refPutHead_ok t l g c _ _ (fun hb z ty => dropC_all (by simp) ?_) (fun hb => ?_)
  · have := hK z ty; rw [headU, headE, if_pos hb, if_pos hb, headL_len] at this; exact this
  · have := hK [] 0; rw [headU, headE, hb, if_neg (by simp), if_neg (by simp)] at this
    exact drop8nt hM this
theorem nonce_u (s g : Int) (c : BitVec 64) (M : List Blk) (K : SV → List Blk → Prop) (hK : ∀ z ty, K (.sl M.length 0 (nonceU s g c).length ((nonceU s g c).length + z.length)) (M ++ [.row (bS (nonceU s g c ++ z)) ty])) :
    callVC Try.prog 14 [.i .i64 s, .i .i64 g, .u64 c] M K := by
  refine callVC_drop (callVC_names (fun hM => ?_) Try.call14)
  refine nonce_ok s g c _ _ (fun hb z ty => dropC_all (by simp) ?_) (fun hb => ?_)
  · have := hK z ty; rw [nonceU, if_pos hb, nonceL_len] at this; exact this
  · have := hK [] 0; rw [nonceU, hb, if_neg (by simp)] at this
    exact drop8n0 hM this
theorem refnonce_u (s g : Int) (c : BitVec 64) (M : List Blk) (K : SV → List Blk → Prop) (hK : ∀ z ty, K (.sl M.length 0 (nonceU s g c).length ((nonceU s g c).length + z.length)) (M ++ [.row (bS (nonceU s g c ++ z)) ty])) :
    callVC Try.prog 15 [.i .i64 s, .i .i64 g, .u64 c] M K := by
  refine callVC_drop (callVC_names (fun hM => ?_) Try.call15)
  refine refnonce_ok s g c _ _ (fun hb z ty => dropC_all (by simp) ?_) (fun hb => ?_)
  · have := hK z ty; rw [nonceU, if_pos hb, nonceL_len] at this; exact this
  · have := hK [] 0; rw [nonceU, hb, if_neg (by simp)] at this
    exact drop8n0 hM this
theorem headU_le (t l g : Int) (c : BitVec 64) : (headU t l g c).length ≤ 20 := by unfold headU; split; rw [headL_len]; exact Nat.le_refl _; simp
theorem nonceU_le (s g : Int) (c : BitVec 64) : (nonceU s g c).length ≤ 12 := by unfold nonceU; split; rw [nonceL_len]; exact Nat.le_refl _; simp

def wantL : List (BitVec 8) := [3#8, 0#8, 0#8, 0#8, 0#8, 0#8, 0#8, 7#8, 0#8, 0#8, 0#8, 1#8, 0#8, 0#8, 0#8, 0#8, 0#8, 0#8, 1#8, 2#8]
def wantN : List (BitVec 8) := [128#8, 0#8, 0#8, 1#8, 0#8, 0#8, 0#8, 0#8, 0#8, 0#8, 1#8, 2#8]
theorem want_head : headL 3 7 1 258#64 = wantL := by decide +kernel
theorem want_nonce : nonceL 1 1 258#64 = wantN := by decide +kernel
theorem want_headB : headB 3 7 1 258#64 = true := by decide +kernel
theorem want_nonceB : nonceB 1 1 258#64 = true := by decide +kernel
theorem want_part : partB (wantL ++ List.replicate 25 0#8) = true := by decide +kernel
theorem want_T : hT (wantL ++ List.replicate 25 0#8) = 3 := by decide +kernel
theorem want_L : hL (wantL ++ List.replicate 25 0#8) = 7 := by decide +kernel
theorem want_G : hG (wantL ++ List.replicate 25 0#8) = 1 := by decide +kernel
theorem want_C : hC (wantL ++ List.replicate 25 0#8) = 258#64 := by decide +kernel

set_option maxHeartbeats 1000000 in
theorem pfirst_ok (M : List Blk) (K : SV → List Blk → Prop) (hK : K (.b true) M) : callVC Try.prog 17 [] M K := by
  refine fn_rule tabOK Try.func17 rfl Try.call17 (by kernel_rfl) (fun hM => ?_)
  (refine top_in ?_; simp -implicitDefEqProofs only [Try.ntmps17, Try.results17, go_sem, -List.reduceReplicate, ↓L_gdZ_tt, ↓L_gdZ_tf, ↓L_gdZ_ft, ↓L_gdZ_ff, ↓T_and, ↓T_imp, ↓T_all, Nat.reduceBEq, Nat.reduceAdd, Nat.reduceSub, Nat.reduceMul, Nat.reduceLT, Nat.reduceLeDiff, Nat.reduceEqDiff, Int.reduceLT, Int.reduceLE, Int.reduceAdd, Int.reduceSub, Int.reduceMul, Int.reduceNeg, Int.reduceToNat, Int.reduceEq, Int.reduceNe, reduceIte, reduceCtorEq, BitVec.reduceOfInt, BitVec.reduceToNat]; try simp only [top_out])
  refine putHead_ok 3 7 1 258#64 _ _ (fun _ z ty => ?_) (fun h => by rw [want_headB] at h; cases h)
  rw [want_head]
  (refine top_in ?_; simp -implicitDefEqProofs only [go_sem, -List.reduceReplicate, ↓L_gdZ_tt, ↓L_gdZ_tf, ↓L_gdZ_ft, ↓L_gdZ_ff, ↓T_and, ↓T_imp, ↓T_all, Nat.reduceBEq, Nat.reduceAdd, Nat.reduceSub, Nat.reduceMul, Nat.reduceLT, Nat.reduceLeDiff, Nat.reduceEqDiff, Int.reduceLT, Int.reduceLE, Int.reduceAdd, Int.reduceSub, Int.reduceMul, Int.reduceNeg, Int.reduceToNat, Int.reduceEq, Int.reduceNe, reduceIte, reduceCtorEq, BitVec.reduceOfInt, BitVec.reduceToNat]; try simp only [top_out])
  refine ⟨by decide, ?_⟩
  refine same_ok2 (M.length + 1) 0 _ (M.length + 2) 0 _ 20 20 wantL wantL _ _ (BAt.row (z := z) (ty := ty) (by rw [get_app]; rfl)) (BAt.row (z := []) (ty := 5) (by rw [get_app]; rfl)) (by decide) (by decide) rfl rfl ?_
  rw [show (wantL == wantL) = true from by decide]
  (refine top_in ?_; simp -implicitDefEqProofs only [go_sem, -List.reduceReplicate, ↓L_gdZ_tt, ↓L_gdZ_tf, ↓L_gdZ_ft, ↓L_gdZ_ff, ↓T_and, ↓T_imp, ↓T_all, Nat.reduceBEq, Nat.reduceAdd, Nat.reduceSub, Nat.reduceMul, Nat.reduceLT, Nat.reduceLeDiff, Nat.reduceEqDiff, Int.reduceLT, Int.reduceLE, Int.reduceAdd, Int.reduceSub, Int.reduceMul, Int.reduceNeg, Int.reduceToNat, Int.reduceEq, Int.reduceNe, reduceIte, reduceCtorEq, BitVec.reduceOfInt, BitVec.reduceToNat]; try simp only [top_out])
  refine nonce_ok 1 1 258#64 _ _ (fun _ z2 ty2 => ?_) (fun h => by rw [want_nonceB] at h; cases h)
  rw [want_nonce]
  (refine top_in ?_; simp -implicitDefEqProofs only [go_sem, -List.reduceReplicate, ↓L_gdZ_tt, ↓L_gdZ_tf, ↓L_gdZ_ft, ↓L_gdZ_ff, ↓T_and, ↓T_imp, ↓T_all, Nat.reduceBEq, Nat.reduceAdd, Nat.reduceSub, Nat.reduceMul, Nat.reduceLT, Nat.reduceLeDiff, Nat.reduceEqDiff, Int.reduceLT, Int.reduceLE, Int.reduceAdd, Int.reduceSub, Int.reduceMul, Int.reduceNeg, Int.reduceToNat, Int.reduceEq, Int.reduceNe, reduceIte, reduceCtorEq, BitVec.reduceOfInt, BitVec.reduceToNat]; try simp only [top_out])
  refine ⟨by decide, ?_⟩
  refine same_ok2 (M.length + 3) 0 _ (M.length + 4) 0 _ 12 12 wantN wantN _ _ (BAt.row (z := z2) (ty := ty2) (by rw [get_app]; rfl)) (BAt.row (z := []) (ty := 5) (by rw [get_app]; rfl)) (by decide) (by decide) rfl rfl ?_
  rw [show (wantN == wantN) = true from by decide]
  (refine top_in ?_; simp -implicitDefEqProofs only [go_sem, -List.reduceReplicate, ↓L_gdZ_tt, ↓L_gdZ_tf, ↓L_gdZ_ft, ↓L_gdZ_ff, ↓T_and, ↓T_imp, ↓T_all, Nat.reduceBEq, Nat.reduceAdd, Nat.reduceSub, Nat.reduceMul, Nat.reduceLT, Nat.reduceLeDiff, Nat.reduceEqDiff, Int.reduceLT, Int.reduceLE, Int.reduceAdd, Int.reduceSub, Int.reduceMul, Int.reduceNeg, Int.reduceToNat, Int.reduceEq, Int.reduceNe, reduceIte, reduceCtorEq, BitVec.reduceOfInt, BitVec.reduceToNat]; try simp only [top_out])
  refine app8z (tstr := 9) (M.length + 2) wantL [] 25 5 rfl rfl rfl rfl (by rw [get_app]; rfl) rfl rfl (by decide) (fun z3 ty3 => ?_)
  (refine top_in ?_; simp -implicitDefEqProofs only [go_sem, -List.reduceReplicate, ↓L_gdZ_tt, ↓L_gdZ_tf, ↓L_gdZ_ft, ↓L_gdZ_ff, ↓T_and, ↓T_imp, ↓T_all, Nat.reduceBEq, Nat.reduceAdd, Nat.reduceSub, Nat.reduceMul, Nat.reduceLT, Nat.reduceLeDiff, Nat.reduceEqDiff, Int.reduceLT, Int.reduceLE, Int.reduceAdd, Int.reduceSub, Int.reduceMul, Int.reduceNeg, Int.reduceToNat, Int.reduceEq, Int.reduceNe, reduceIte, reduceCtorEq, BitVec.reduceOfInt, BitVec.reduceToNat]; try simp only [top_out])
  refine getHead_ok (M.length + 5) 0 _ (wantL ++ List.replicate 25 0#8) _ _ (BAt.row (z := z3) (ty := ty3) (by rw [get_app]; simp)) (by decide) (by simp [wantL]; omega) (fun _ => ?_) (fun h => by rw [want_part] at h; cases h)
  rw [want_T, want_L, want_G, want_C]
  unfold hdS
  (refine top_in ?_; simp -implicitDefEqProofs only [go_sem, -List.reduceReplicate, ↓L_gdZ_tt, ↓L_gdZ_tf, ↓L_gdZ_ft, ↓L_gdZ_ff, ↓T_and, ↓T_imp, ↓T_all, Nat.reduceBEq, Nat.reduceAdd, Nat.reduceSub, Nat.reduceMul, Nat.reduceLT, Nat.reduceLeDiff, Nat.reduceEqDiff, Int.reduceLT, Int.reduceLE, Int.reduceAdd, Int.reduceSub, Int.reduceMul, Int.reduceNeg, Int.reduceToNat, Int.reduceEq, Int.reduceNe, reduceIte, reduceCtorEq, BitVec.reduceOfInt, BitVec.reduceToNat]; try simp only [top_out])
  refine sameHead_ok 3 7 1 258#64 3 7 1 258#64 _ _ ?_
  rw [show sameHB 3 7 1 258#64 3 7 1 258#64 = true from by decide]
  (refine top_in ?_; simp -implicitDefEqProofs only [go_sem, -List.reduceReplicate, ↓L_gdZ_tt, ↓L_gdZ_tf, ↓L_gdZ_ft, ↓L_gdZ_ff, ↓T_and, ↓T_imp, ↓T_all, Nat.reduceBEq, Nat.reduceAdd, Nat.reduceSub, Nat.reduceMul, Nat.reduceLT, Nat.reduceLeDiff, Nat.reduceEqDiff, Int.reduceLT, Int.reduceLE, Int.reduceAdd, Int.reduceSub, Int.reduceMul, Int.reduceNeg, Int.reduceToNat, Int.reduceEq, Int.reduceNe, reduceIte, reduceCtorEq, BitVec.reduceOfInt, BitVec.reduceToNat]; try simp only [top_out])
  refine num_ok _ _ _ ?_
  (refine top_in ?_; simp -implicitDefEqProofs only [go_sem, -List.reduceReplicate, ↓L_gdZ_tt, ↓L_gdZ_tf, ↓L_gdZ_ft, ↓L_gdZ_ff, ↓T_and, ↓T_imp, ↓T_all, Nat.reduceBEq, Nat.reduceAdd, Nat.reduceSub, Nat.reduceMul, Nat.reduceLT, Nat.reduceLeDiff, Nat.reduceEqDiff, Int.reduceLT, Int.reduceLE, Int.reduceAdd, Int.reduceSub, Int.reduceMul, Int.reduceNeg, Int.reduceToNat, Int.reduceEq, Int.reduceNe, reduceIte, reduceCtorEq, BitVec.reduceOfInt, BitVec.reduceToNat]; try simp only [top_out])
  refine num_ok _ _ _ ?_
  (refine top_in ?_; simp -implicitDefEqProofs only [go_sem, -List.reduceReplicate, ↓L_gdZ_tt, ↓L_gdZ_tf, ↓L_gdZ_ft, ↓L_gdZ_ff, ↓T_and, ↓T_imp, ↓T_all, Nat.reduceBEq, Nat.reduceAdd, Nat.reduceSub, Nat.reduceMul, Nat.reduceLT, Nat.reduceLeDiff, Nat.reduceEqDiff, Int.reduceLT, Int.reduceLE, Int.reduceAdd, Int.reduceSub, Int.reduceMul, Int.reduceNeg, Int.reduceToNat, Int.reduceEq, Int.reduceNe, reduceIte, reduceCtorEq, BitVec.reduceOfInt, BitVec.reduceToNat]; try simp only [top_out])
  exact dropC_append hM rfl hK

set_option maxHeartbeats 1000000 in
theorem law_packetHeads (t l g : Int) (c : BitVec 64) (s : Int) : callVC Try.prog 3 [hdS t l g c, .i .i64 s] [] (fun v _ => v = .b true) := by
  unfold hdS
  refine fn_rule tabOK Try.func3 rfl Try.call3 (by kernel_rfl) (fun hM => ?_)
  (refine top_in ?_; simp -implicitDefEqProofs only [Try.ntmps3, Try.results3, go_sem, -List.reduceReplicate, ↓L_gdZ_tt, ↓L_gdZ_tf, ↓L_gdZ_ft, ↓L_gdZ_ff, ↓T_and, ↓T_imp, ↓T_all, Nat.reduceBEq, Nat.reduceAdd, Nat.reduceSub, Nat.reduceMul, Nat.reduceLT, Nat.reduceLeDiff, Nat.reduceEqDiff, Int.reduceLT, Int.reduceLE, Int.reduceAdd, Int.reduceSub, Int.reduceMul, Int.reduceNeg, Int.reduceToNat, Int.reduceEq, Int.reduceNe, reduceIte, reduceCtorEq, BitVec.reduceOfInt, BitVec.reduceToNat]; try simp only [top_out])
  have hu := headU_le t l g c
  have hn := nonceU_le s g c
  refine putHead_u t l g c _ _ (fun z ty => ?_)
  (refine top_in ?_; simp -implicitDefEqProofs only [go_sem, -List.reduceReplicate, ↓L_gdZ_tt, ↓L_gdZ_tf, ↓L_gdZ_ft, ↓L_gdZ_ff, ↓T_and, ↓T_imp, ↓T_all, Nat.reduceBEq, Nat.reduceAdd, Nat.reduceSub, Nat.reduceMul, Nat.reduceLT, Nat.reduceLeDiff, Nat.reduceEqDiff, Int.reduceLT, Int.reduceLE, Int.reduceAdd, Int.reduceSub, Int.reduceMul, Int.reduceNeg, Int.reduceToNat, Int.reduceEq, Int.reduceNe, reduceIte, reduceCtorEq, BitVec.reduceOfInt, BitVec.reduceToNat]; try simp only [top_out])
  refine refPutHead_u t l g c _ _ (fun z2 ty2 => ?_)
  (refine top_in ?_; simp -implicitDefEqProofs only [go_sem, -List.reduceReplicate, ↓L_gdZ_tt, ↓L_gdZ_tf, ↓L_gdZ_ft, ↓L_gdZ_ff, ↓T_and, ↓T_imp, ↓T_all, Nat.reduceBEq, Nat.reduceAdd, Nat.reduceSub, Nat.reduceMul, Nat.reduceLT, Nat.reduceLeDiff, Nat.reduceEqDiff, Int.reduceLT, Int.reduceLE, Int.reduceAdd, Int.reduceSub, Int.reduceMul, Int.reduceNeg, Int.reduceToNat, Int.reduceEq, Int.reduceNe, reduceIte, reduceCtorEq, BitVec.reduceOfInt, BitVec.reduceToNat]; try simp only [top_out])
  refine same_ok 1 0 _ 2 0 _ (headU t l g c) (headU t l g c) _ _ (BAt.row (z := z) (ty := ty) rfl) (BAt.row (z := z2) (ty := ty2) rfl) (by omega) (by omega) ?_
  (refine top_in ?_; simp -implicitDefEqProofs only [go_sem, -List.reduceReplicate, ↓L_gdZ_tt, ↓L_gdZ_tf, ↓L_gdZ_ft, ↓L_gdZ_ff, ↓T_and, ↓T_imp, ↓T_all, Nat.reduceBEq, Nat.reduceAdd, Nat.reduceSub, Nat.reduceMul, Nat.reduceLT, Nat.reduceLeDiff, Nat.reduceEqDiff, Int.reduceLT, Int.reduceLE, Int.reduceAdd, Int.reduceSub, Int.reduceMul, Int.reduceNeg, Int.reduceToNat, Int.reduceEq, Int.reduceNe, reduceIte, reduceCtorEq, BitVec.reduceOfInt, BitVec.reduceToNat]; try simp only [top_out])
  refine nonce_u s g c _ _ (fun z3 ty3 => ?_)
  (refine top_in ?_; simp -implicitDefEqProofs only [go_sem, -List.reduceReplicate, ↓L_gdZ_tt, ↓L_gdZ_tf, ↓L_gdZ_ft, ↓L_gdZ_ff, ↓T_and, ↓T_imp, ↓T_all, Nat.reduceBEq, Nat.reduceAdd, Nat.reduceSub, Nat.reduceMul, Nat.reduceLT, Nat.reduceLeDiff, Nat.reduceEqDiff, Int.reduceLT, Int.reduceLE, Int.reduceAdd, Int.reduceSub, Int.reduceMul, Int.reduceNeg, Int.reduceToNat, Int.reduceEq, Int.reduceNe, reduceIte, reduceCtorEq, BitVec.reduceOfInt, BitVec.reduceToNat]; try simp only [top_out])
  refine refnonce_u s g c _ _ (fun z4 ty4 => ?_)
  (refine top_in ?_; simp -implicitDefEqProofs only [go_sem, -List.reduceReplicate, ↓L_gdZ_tt, ↓L_gdZ_tf, ↓L_gdZ_ft, ↓L_gdZ_ff, ↓T_and, ↓T_imp, ↓T_all, Nat.reduceBEq, Nat.reduceAdd, Nat.reduceSub, Nat.reduceMul, Nat.reduceLT, Nat.reduceLeDiff, Nat.reduceEqDiff, Int.reduceLT, Int.reduceLE, Int.reduceAdd, Int.reduceSub, Int.reduceMul, Int.reduceNeg, Int.reduceToNat, Int.reduceEq, Int.reduceNe, reduceIte, reduceCtorEq, BitVec.reduceOfInt, BitVec.reduceToNat]; try simp only [top_out])
  refine same_ok 3 0 _ 4 0 _ (nonceU s g c) (nonceU s g c) _ _ (BAt.row (z := z3) (ty := ty3) rfl) (BAt.row (z := z4) (ty := ty4) rfl) (by omega) (by omega) ?_
  (refine top_in ?_; simp -implicitDefEqProofs only [go_sem, -List.reduceReplicate, ↓L_gdZ_tt, ↓L_gdZ_tf, ↓L_gdZ_ft, ↓L_gdZ_ff, ↓T_and, ↓T_imp, ↓T_all, Nat.reduceBEq, Nat.reduceAdd, Nat.reduceSub, Nat.reduceMul, Nat.reduceLT, Nat.reduceLeDiff, Nat.reduceEqDiff, Int.reduceLT, Int.reduceLE, Int.reduceAdd, Int.reduceSub, Int.reduceMul, Int.reduceNeg, Int.reduceToNat, Int.reduceEq, Int.reduceNe, reduceIte, reduceCtorEq, BitVec.reduceOfInt, BitVec.reduceToNat]; try simp only [top_out])
  refine num_ok _ _ _ ?_
  (refine top_in ?_; simp -implicitDefEqProofs only [go_sem, -List.reduceReplicate, ↓L_gdZ_tt, ↓L_gdZ_tf, ↓L_gdZ_ft, ↓L_gdZ_ff, ↓T_and, ↓T_imp, ↓T_all, Nat.reduceBEq, Nat.reduceAdd, Nat.reduceSub, Nat.reduceMul, Nat.reduceLT, Nat.reduceLeDiff, Nat.reduceEqDiff, Int.reduceLT, Int.reduceLE, Int.reduceAdd, Int.reduceSub, Int.reduceMul, Int.reduceNeg, Int.reduceToNat, Int.reduceEq, Int.reduceNe, reduceIte, reduceCtorEq, BitVec.reduceOfInt, BitVec.reduceToNat]; try simp only [top_out])
  refine pfirst_ok _ _ ?_
  (refine top_in ?_; simp -implicitDefEqProofs only [go_sem, -List.reduceReplicate, ↓L_gdZ_tt, ↓L_gdZ_tf, ↓L_gdZ_ft, ↓L_gdZ_ff, ↓T_and, ↓T_imp, ↓T_all, Nat.reduceBEq, Nat.reduceAdd, Nat.reduceSub, Nat.reduceMul, Nat.reduceLT, Nat.reduceLeDiff, Nat.reduceEqDiff, Int.reduceLT, Int.reduceLE, Int.reduceAdd, Int.reduceSub, Int.reduceMul, Int.reduceNeg, Int.reduceToNat, Int.reduceEq, Int.reduceNe, reduceIte, reduceCtorEq, BitVec.reduceOfInt, BitVec.reduceToNat]; try simp only [top_out])
  exact drop0 rfl rfl
theorem law_packetReads (x : List (BitVec 8)) (n cap : Nat) (M : List Blk) (hl : x.length ≤ 140737488351232) (ha : BAt M n 0 x) (hc : x.length ≤ cap) : callVC Try.prog 4 [.sl n 0 x.length cap] M (fun v _ => v = .b true) := by
  refine fn_rule tabOK Try.func4 rfl Try.call4 (by kernel_rfl) (fun hM => ?_)
  (refine top_in ?_; simp -implicitDefEqProofs only [Try.ntmps4, Try.results4, go_sem, -List.reduceReplicate, ↓L_gdZ_tt, ↓L_gdZ_tf, ↓L_gdZ_ft, ↓L_gdZ_ff, ↓T_and, ↓T_imp, ↓T_all, Nat.reduceBEq, Nat.reduceAdd, Nat.reduceSub, Nat.reduceMul, Nat.reduceLT, Nat.reduceLeDiff, Nat.reduceEqDiff, Int.reduceLT, Int.reduceLE, Int.reduceAdd, Int.reduceSub, Int.reduceMul, Int.reduceNeg, Int.reduceToNat, Int.reduceEq, Int.reduceNe, reduceIte, reduceCtorEq, BitVec.reduceOfInt, BitVec.reduceToNat]; try simp only [top_out])
  refine bytes_ok n 0 cap x _ _ ha (by omega) (fun z ty => ?_)
  (refine top_in ?_; simp -implicitDefEqProofs only [go_sem, -List.reduceReplicate, ↓L_gdZ_tt, ↓L_gdZ_tf, ↓L_gdZ_ft, ↓L_gdZ_ff, ↓T_and, ↓T_imp, ↓T_all, Nat.reduceBEq, Nat.reduceAdd, Nat.reduceSub, Nat.reduceMul, Nat.reduceLT, Nat.reduceLeDiff, Nat.reduceEqDiff, Int.reduceLT, Int.reduceLE, Int.reduceAdd, Int.reduceSub, Int.reduceMul, Int.reduceNeg, Int.reduceToNat, Int.reduceEq, Int.reduceNe, reduceIte, reduceCtorEq, BitVec.reduceOfInt, BitVec.reduceToNat]; try simp only [top_out])
  have hb : ∀ L : List Blk, BAt (M ++ Blk.row (bS (x ++ z)) ty :: L) M.length 0 x := fun L => BAt.row (z := z) (ty := ty) (by rw [get_app0]; rfl)
  cases hp : partB x
  all_goals
    refine getHead_ok M.length 0 _ x _ _ (hb _) (by omega) (by omega) (fun h => ?_) (fun h => ?_)
    all_goals first
      | (rw [hp] at h; cases h; done)
      | (unfold hdS
         (refine top_in ?_; simp -implicitDefEqProofs only [go_sem, -List.reduceReplicate, ↓L_gdZ_tt, ↓L_gdZ_tf, ↓L_gdZ_ft, ↓L_gdZ_ff, ↓T_and, ↓T_imp, ↓T_all, Nat.reduceBEq, Nat.reduceAdd, Nat.reduceSub, Nat.reduceMul, Nat.reduceLT, Nat.reduceLeDiff, Nat.reduceEqDiff, Int.reduceLT, Int.reduceLE, Int.reduceAdd, Int.reduceSub, Int.reduceMul, Int.reduceNeg, Int.reduceToNat, Int.reduceEq, Int.reduceNe, reduceIte, reduceCtorEq, BitVec.reduceOfInt, BitVec.reduceToNat]; try simp only [top_out])
         refine refGetHead_ok n 0 _ x _ _ ha.app (by omega) hc (fun h => ?_) (fun h => ?_)
         all_goals first
           | (rw [hp] at h; cases h; done)
           | (unfold hdS
              (refine top_in ?_; simp -implicitDefEqProofs only [go_sem, -List.reduceReplicate, ↓L_gdZ_tt, ↓L_gdZ_tf, ↓L_gdZ_ft, ↓L_gdZ_ff, ↓T_and, ↓T_imp, ↓T_all, Nat.reduceBEq, Nat.reduceAdd, Nat.reduceSub, Nat.reduceMul, Nat.reduceLT, Nat.reduceLeDiff, Nat.reduceEqDiff, Int.reduceLT, Int.reduceLE, Int.reduceAdd, Int.reduceSub, Int.reduceMul, Int.reduceNeg, Int.reduceToNat, Int.reduceEq, Int.reduceNe, reduceIte, reduceCtorEq, BitVec.reduceOfInt, BitVec.reduceToNat]; try simp only [top_out])
              refine sameHead_ok _ _ _ _ _ _ _ _ _ _ ?_
              rw [show ∀ a b c d, sameHB a b c d a b c d = true from fun a b c d => by simp [sameHB]]
              (refine top_in ?_; simp -implicitDefEqProofs only [go_sem, -List.reduceReplicate, ↓L_gdZ_tt, ↓L_gdZ_tf, ↓L_gdZ_ft, ↓L_gdZ_ff, ↓T_and, ↓T_imp, ↓T_all, Nat.reduceBEq, Nat.reduceAdd, Nat.reduceSub, Nat.reduceMul, Nat.reduceLT, Nat.reduceLeDiff, Nat.reduceEqDiff, Int.reduceLT, Int.reduceLE, Int.reduceAdd, Int.reduceSub, Int.reduceMul, Int.reduceNeg, Int.reduceToNat, Int.reduceEq, Int.reduceNe, reduceIte, reduceCtorEq, BitVec.reduceOfInt, BitVec.reduceToNat]; try simp only [top_out])
              refine same_ok M.length 0 _ n 0 _ x x _ _ (hb _) ha.app (by omega) (by omega) ?_
              (refine top_in ?_; simp -implicitDefEqProofs only [go_sem, -List.reduceReplicate, ↓L_gdZ_tt, ↓L_gdZ_tf, ↓L_gdZ_ft, ↓L_gdZ_ff, ↓T_and, ↓T_imp, ↓T_all, Nat.reduceBEq, Nat.reduceAdd, Nat.reduceSub, Nat.reduceMul, Nat.reduceLT, Nat.reduceLeDiff, Nat.reduceEqDiff, Int.reduceLT, Int.reduceLE, Int.reduceAdd, Int.reduceSub, Int.reduceMul, Int.reduceNeg, Int.reduceToNat, Int.reduceEq, Int.reduceNe, reduceIte, reduceCtorEq, BitVec.reduceOfInt, BitVec.reduceToNat]; try simp only [top_out])
              refine num_ok _ _ _ ?_
              (refine top_in ?_; simp -implicitDefEqProofs only [go_sem, -List.reduceReplicate, ↓L_gdZ_tt, ↓L_gdZ_tf, ↓L_gdZ_ft, ↓L_gdZ_ff, ↓T_and, ↓T_imp, ↓T_all, Nat.reduceBEq, Nat.reduceAdd, Nat.reduceSub, Nat.reduceMul, Nat.reduceLT, Nat.reduceLeDiff, Nat.reduceEqDiff, Int.reduceLT, Int.reduceLE, Int.reduceAdd, Int.reduceSub, Int.reduceMul, Int.reduceNeg, Int.reduceToNat, Int.reduceEq, Int.reduceNe, reduceIte, reduceCtorEq, BitVec.reduceOfInt, BitVec.reduceToNat]; try simp only [top_out])
              refine pfirst_ok _ _ ?_
              (refine top_in ?_; simp -implicitDefEqProofs only [go_sem, -List.reduceReplicate, ↓L_gdZ_tt, ↓L_gdZ_tf, ↓L_gdZ_ft, ↓L_gdZ_ff, ↓T_and, ↓T_imp, ↓T_all, Nat.reduceBEq, Nat.reduceAdd, Nat.reduceSub, Nat.reduceMul, Nat.reduceLT, Nat.reduceLeDiff, Nat.reduceEqDiff, Int.reduceLT, Int.reduceLE, Int.reduceAdd, Int.reduceSub, Int.reduceMul, Int.reduceNeg, Int.reduceToNat, Int.reduceEq, Int.reduceNe, reduceIte, reduceCtorEq, BitVec.reduceOfInt, BitVec.reduceToNat]; try simp only [top_out])
              exact dropC_append hM rfl rfl))
end Go.Proofs.Ytdkdbeamimkljaa.Eng
