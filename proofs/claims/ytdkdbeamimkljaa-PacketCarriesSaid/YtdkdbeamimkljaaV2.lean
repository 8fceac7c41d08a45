/- A payload's bytes. -/
import Derived.Test.YtdkdbeamimkljaaV1
namespace Go.Proofs.Ytdkdbeamimkljaa.Eng
open Go Go.RowKit
set_option linter.unusedSimpArgs false
set_option linter.unusedVariables false

def plS (sf : Int) (sh sl : BitVec 64) (df : Int) (dh dl : BitVec 64) (x : SV) : SV := .agg [.i .i64 sf, .u64 sh, .u64 sl, .i .i64 df, .u64 dh, .u64 dl, x]
def payB (sf : Int) (sh sl : BitVec 64) (df : Int) (dh dl : BitVec 64) (n : Nat) : Bool := validB sf sh sl && validB df dh dl && sf == df && decide (1 + 2 * (addrL sf sh sl).length + n ≤ 1280)
def payL (sf : Int) (sh sl : BitVec 64) (df : Int) (dh dl : BitVec 64) (b : List (BitVec 8)) : List (BitVec 8) := [BitVec.ofInt 8 sf] ++ addrL sf sh sl ++ addrL df dh dl ++ b
def addrU (f : Int) (hi lo : BitVec 64) : List (BitVec 8) := if validB f hi lo = true then addrL f hi lo else []
theorem addrL_le (f : Int) (hi lo : BitVec 64) : (addrL f hi lo).length ≤ 16 ∧ 0 < (addrL f hi lo).length := by rw [addrL_len]; split <;> omega
theorem addrU_le (f : Int) (hi lo : BitVec 64) : (addrU f hi lo).length ≤ 16 := by unfold addrU; split; exact (addrL_le _ _ _).1; simp
theorem addrU_pos {f : Int} {hi lo : BitVec 64} : (addrU f hi lo).length = 0 ↔ validB f hi lo = false := by
  unfold addrU
  cases h : validB f hi lo
  · simp
  · have := (addrL_le f hi lo).2
    rw [if_pos rfl]
    exact ⟨fun e => by omega, fun e => by cases e⟩
theorem refPutAddr_u (f : Int) (hi lo : BitVec 64) (M : List Blk) (K : SV → List Blk → Prop) (hK : ∀ z ty, K (.sl M.length 0 (addrU f hi lo).length ((addrU f hi lo).length + z.length)) (M ++ [.row (bS (addrU f hi lo ++ z)) ty])) :
    callVC Try.prog 40 [adS f hi lo] M K := by
  refine callVC_drop (callVC_names (fun hM => ?_) Try.call40)
  refine refPutAddr_ok f hi lo _ _ (fun hb z ty => dropC_all (by simp) ?_) (fun hb => ?_)
  · have := hK z ty; rw [addrU, if_pos hb] at this; exact this
  · have := hK [] 0; rw [addrU, hb, if_neg (by simp)] at this
    exact drop8n0 hM this

theorem beqT {a b : Int} (h : (a == b) = true) : a = b := by simpa using h
theorem beqF {a b : Int} (h : (a == b) = false) : a ≠ b := by simpa using h
theorem bneT {a b : Int} (h : (a != b) = true) : a ≠ b := by simpa using h
theorem bneF {a b : Int} (h : (a != b) = false) : a = b := by simpa using h
/-- an answer of new bytes -/
theorem drop8e {M L : List Blk} {K : SV → List Blk → Prop} {n len cap : Nat} {ty : TypeId} (k : Nat) (l z : List (BitVec 8)) (hM : ∀ (n : Nat) (B : Blk), M[n]? = some B → B.lt M.length = true) (hn : n = M.length + k)
    (hk : L[k]? = some (.row (bS (l ++ z)) ty)) (h1 : len = l.length) (h2 : cap = l.length + z.length) (hK : K (.sl M.length 0 l.length (l.length + z.length)) (M ++ [.row (bS (l ++ z)) ty])) : dropC M.length (.sl n 0 len cap) (M ++ L) K := by
  subst h1 h2; exact drop8 k hM hn hk hK
theorem drop8te {M L : List Blk} {K : SV → List Blk → Prop} {n len cap : Nat} {ty : TypeId} {e : Int} (k : Nat) (l z : List (BitVec 8)) (hM : ∀ (n : Nat) (B : Blk), M[n]? = some B → B.lt M.length = true) (hn : n = M.length + k)
    (hk : L[k]? = some (.row (bS (l ++ z)) ty)) (h1 : len = l.length) (h2 : cap = l.length + z.length) (hK : K (.tup [.sl M.length 0 l.length (l.length + z.length), .i .i64 e]) (M ++ [.row (bS (l ++ z)) ty])) : dropC M.length (.tup [.sl n 0 len cap, .i .i64 e]) (M ++ L) K := by
  subst h1 h2; exact drop8t k hM hn hk hK
theorem payL_len (sf : Int) (sh sl : BitVec 64) (df : Int) (dh dl : BitVec 64) (b : List (BitVec 8)) : (payL sf sh sl df dh dl b).length = 1 + (addrL sf sh sl).length + (addrL df dh dl).length + b.length := by
  unfold payL; simp; omega
set_option maxHeartbeats 1000000 in
theorem putPayload_ok (sf : Int) (sh sl : BitVec 64) (df : Int) (dh dl : BitVec 64) (n off cap : Nat) (b : List (BitVec 8)) (M : List Blk) (K : SV → List Blk → Prop) (ha : BAt M n off b) (hb : b.length ≤ 140737488355000) (hcap : b.length ≤ cap)
    (h1 : payB sf sh sl df dh dl b.length = true → ∀ z ty, K (.tup [.sl M.length 0 (payL sf sh sl df dh dl b).length ((payL sf sh sl df dh dl b).length + z.length), .i .i64 0]) (M ++ [.row (bS (payL sf sh sl df dh dl b ++ z)) ty]))
    (h0 : payB sf sh sl df dh dl b.length = false → K (.tup [.sn, .i .i64 90]) M) :
    callVC Try.prog 22 [plS sf sh sl df dh dl (.sl n off b.length cap)] M K := by
  have hs := addrL_le sf sh sl
  have hd := addrL_le df dh dl
  unfold plS
  refine fn_rule tabOK Try.func22 rfl Try.call22 (by kernel_rfl) (fun hM => ?_)
  (refine top_in ?_; simp -implicitDefEqProofs only [Try.ntmps22, Try.results22, go_sem, -List.reduceReplicate, ↓L_gdZ_tt, ↓L_gdZ_tf, ↓L_gdZ_ft, ↓L_gdZ_ff, ↓T_and, ↓T_imp, ↓T_all, Nat.reduceBEq, Nat.reduceAdd, Nat.reduceSub, Nat.reduceMul, Nat.reduceLT, Nat.reduceLeDiff, Nat.reduceEqDiff, Int.reduceLT, Int.reduceLE, Int.reduceAdd, Int.reduceSub, Int.reduceMul, Int.reduceNeg, Int.reduceToNat, Int.reduceEq, Int.reduceNe, reduceIte, reduceCtorEq, BitVec.reduceOfInt, BitVec.reduceToNat]; try simp only [top_out])
  refine valid_ok sf sh sl _ _ ?_
  (refine top_in ?_; simp -implicitDefEqProofs only [go_sem, -List.reduceReplicate, ↓L_gdZ_tt, ↓L_gdZ_tf, ↓L_gdZ_ft, ↓L_gdZ_ff, ↓T_and, ↓T_imp, ↓T_all, Nat.reduceBEq, Nat.reduceAdd, Nat.reduceSub, Nat.reduceMul, Nat.reduceLT, Nat.reduceLeDiff, Nat.reduceEqDiff, Int.reduceLT, Int.reduceLE, Int.reduceAdd, Int.reduceSub, Int.reduceMul, Int.reduceNeg, Int.reduceToNat, Int.reduceEq, Int.reduceNe, reduceIte, reduceCtorEq, BitVec.reduceOfInt, BitVec.reduceToNat, List.take_succ_cons, List.take_zero, List.drop_succ_cons, List.drop_zero]; try simp only [top_out])
  refine ⟨fun h => ?_, fun h => dropC_append hM rfl (h0 (by rw [payB, nt h]; rfl))⟩
  have hv := nf h
  refine valid_ok df dh dl _ _ ?_
  (refine top_in ?_; simp -implicitDefEqProofs only [go_sem, -List.reduceReplicate, ↓L_gdZ_tt, ↓L_gdZ_tf, ↓L_gdZ_ft, ↓L_gdZ_ff, ↓T_and, ↓T_imp, ↓T_all, Nat.reduceBEq, Nat.reduceAdd, Nat.reduceSub, Nat.reduceMul, Nat.reduceLT, Nat.reduceLeDiff, Nat.reduceEqDiff, Int.reduceLT, Int.reduceLE, Int.reduceAdd, Int.reduceSub, Int.reduceMul, Int.reduceNeg, Int.reduceToNat, Int.reduceEq, Int.reduceNe, reduceIte, reduceCtorEq, BitVec.reduceOfInt, BitVec.reduceToNat, List.take_succ_cons, List.take_zero, List.drop_succ_cons, List.drop_zero]; try simp only [top_out])
  refine ⟨fun h => ?_, fun h => dropC_append hM rfl (h0 (by rw [payB, nt h]; simp))⟩
  have hv2 := nf h
  refine ⟨fun h => dropC_append hM rfl (h0 (by rw [payB, show (sf == df) = false by simpa using h]; simp)), fun h => ?_⟩
  obtain rfl : sf = df := by simpa using h
  refine ⟨by decide, ?_⟩
  have e2 : (addrL sf dh dl).length = (addrL sf sh sl).length := by rw [addrL_len, addrL_len]
  refine putAddr_ok sf sh sl _ _ (fun _ ty => ?_) (fun h => by rw [hv] at h; cases h)
  (refine top_in ?_; simp -implicitDefEqProofs only [go_sem, -List.reduceReplicate, ↓L_gdZ_tt, ↓L_gdZ_tf, ↓L_gdZ_ft, ↓L_gdZ_ff, ↓T_and, ↓T_imp, ↓T_all, Nat.reduceBEq, Nat.reduceAdd, Nat.reduceSub, Nat.reduceMul, Nat.reduceLT, Nat.reduceLeDiff, Nat.reduceEqDiff, Int.reduceLT, Int.reduceLE, Int.reduceAdd, Int.reduceSub, Int.reduceMul, Int.reduceNeg, Int.reduceToNat, Int.reduceEq, Int.reduceNe, reduceIte, reduceCtorEq, BitVec.reduceOfInt, BitVec.reduceToNat, List.take_succ_cons, List.take_zero, List.drop_succ_cons, List.drop_zero]; try simp only [top_out])
  refine app8 (M.length + 1) [BitVec.ofInt 8 sf] [] (addrL sf sh sl) 5 rfl rfl rfl (by rw [get_app]; rfl) rfl rfl (src_row (z := []) (by rw [get_app, List.append_nil]; rfl) rfl) (by simp; omega) ?_
  intro z' ty'
  (refine top_in ?_; simp -implicitDefEqProofs only [go_sem, -List.reduceReplicate, ↓L_gdZ_tt, ↓L_gdZ_tf, ↓L_gdZ_ft, ↓L_gdZ_ff, ↓T_and, ↓T_imp, ↓T_all, Nat.reduceBEq, Nat.reduceAdd, Nat.reduceSub, Nat.reduceMul, Nat.reduceLT, Nat.reduceLeDiff, Nat.reduceEqDiff, Int.reduceLT, Int.reduceLE, Int.reduceAdd, Int.reduceSub, Int.reduceMul, Int.reduceNeg, Int.reduceToNat, Int.reduceEq, Int.reduceNe, reduceIte, reduceCtorEq, BitVec.reduceOfInt, BitVec.reduceToNat, List.take_succ_cons, List.take_zero, List.drop_succ_cons, List.drop_zero]; try simp only [top_out])
  refine putAddr_ok sf dh dl _ _ (fun _ ty => ?_) (fun h => by rw [hv2] at h; cases h)
  (refine top_in ?_; simp -implicitDefEqProofs only [go_sem, -List.reduceReplicate, ↓L_gdZ_tt, ↓L_gdZ_tf, ↓L_gdZ_ft, ↓L_gdZ_ff, ↓T_and, ↓T_imp, ↓T_all, Nat.reduceBEq, Nat.reduceAdd, Nat.reduceSub, Nat.reduceMul, Nat.reduceLT, Nat.reduceLeDiff, Nat.reduceEqDiff, Int.reduceLT, Int.reduceLE, Int.reduceAdd, Int.reduceSub, Int.reduceMul, Int.reduceNeg, Int.reduceToNat, Int.reduceEq, Int.reduceNe, reduceIte, reduceCtorEq, BitVec.reduceOfInt, BitVec.reduceToNat]; try simp only [top_out])
  refine app8 (M.length + 3) ([BitVec.ofInt 8 sf] ++ addrL sf sh sl) z' (addrL sf dh dl) ty' rfl rfl rfl (by rw [get_app]; rfl) (by simp; omega) (by simp; omega) (src_row (z := []) (by rw [get_app, List.append_nil]; rfl) rfl) (by simp; omega) ?_
  intro z3 ty3
  (refine top_in ?_; simp -implicitDefEqProofs only [go_sem, -List.reduceReplicate, ↓L_gdZ_tt, ↓L_gdZ_tf, ↓L_gdZ_ft, ↓L_gdZ_ff, ↓T_and, ↓T_imp, ↓T_all, Nat.reduceBEq, Nat.reduceAdd, Nat.reduceSub, Nat.reduceMul, Nat.reduceLT, Nat.reduceLeDiff, Nat.reduceEqDiff, Int.reduceLT, Int.reduceLE, Int.reduceAdd, Int.reduceSub, Int.reduceMul, Int.reduceNeg, Int.reduceToNat, Int.reduceEq, Int.reduceNe, reduceIte, reduceCtorEq, BitVec.reduceOfInt, BitVec.reduceToNat]; try simp only [top_out])
  rw [w64 (x := 1280 - _) (by omega) (by omega)]
  refine ⟨fun h => dropC_append hM rfl (h0 ?_), fun h => ?_⟩
  · rw [payB, show decide (1 + 2 * (addrL sf sh sl).length + b.length ≤ 1280) = false by simp; omega]; simp
  · have hp : payB sf sh sl sf dh dl b.length = true := by
      rw [payB, hv, hv2, show decide (1 + 2 * (addrL sf sh sl).length + b.length ≤ 1280) = true by simp; omega]; simp
    refine app8 (M.length + 5) ([BitVec.ofInt 8 sf] ++ addrL sf sh sl ++ addrL sf dh dl) z3 b ty3 rfl rfl rfl (by rw [get_app]; simp) (by simp; omega) (by simp; omega) ha.app.src (by simp; omega) ?_
    intro z5 ty5
    (refine top_in ?_; simp -implicitDefEqProofs only [go_sem, -List.reduceReplicate, ↓L_gdZ_tt, ↓L_gdZ_tf, ↓L_gdZ_ft, ↓L_gdZ_ff, ↓T_and, ↓T_imp, ↓T_all, Nat.reduceBEq, Nat.reduceAdd, Nat.reduceSub, Nat.reduceMul, Nat.reduceLT, Nat.reduceLeDiff, Nat.reduceEqDiff, Int.reduceLT, Int.reduceLE, Int.reduceAdd, Int.reduceSub, Int.reduceMul, Int.reduceNeg, Int.reduceToNat, Int.reduceEq, Int.reduceNe, reduceIte, reduceCtorEq, BitVec.reduceOfInt, BitVec.reduceToNat]; try simp only [top_out])
    exact drop8te 6 (payL sf sh sl sf dh dl b) z5 hM rfl (by simp [payL]) (by rw [payL_len]; omega) (by rw [payL_len]; omega) (h1 hp z5 ty5)

set_option maxHeartbeats 1000000 in
theorem refPutPayload_ok (sf : Int) (sh sl : BitVec 64) (df : Int) (dh dl : BitVec 64) (n off cap : Nat) (b : List (BitVec 8)) (M : List Blk) (K : SV → List Blk → Prop) (ha : BAt M n off b) (hb : b.length ≤ 140737488355000) (hcap : b.length ≤ cap)
    (h1 : payB sf sh sl df dh dl b.length = true → ∀ z ty, K (.tup [.sl M.length 0 (payL sf sh sl df dh dl b).length ((payL sf sh sl df dh dl b).length + z.length), .i .i64 0]) (M ++ [.row (bS (payL sf sh sl df dh dl b ++ z)) ty]))
    (h0 : payB sf sh sl df dh dl b.length = false → K (.tup [.sn, .i .i64 90]) M) :
    callVC Try.prog 23 [plS sf sh sl df dh dl (.sl n off b.length cap)] M K := by
  have hs := addrU_le sf sh sl
  have hd := addrU_le df dh dl
  unfold plS
  refine fn_rule tabOK Try.func23 rfl Try.call23 (by kernel_rfl) (fun hM => ?_)
  (refine top_in ?_; simp -implicitDefEqProofs only [Try.ntmps23, Try.results23, go_sem, -List.reduceReplicate, ↓L_gdZ_tt, ↓L_gdZ_tf, ↓L_gdZ_ft, ↓L_gdZ_ff, ↓T_and, ↓T_imp, ↓T_all, Nat.reduceBEq, Nat.reduceAdd, Nat.reduceSub, Nat.reduceMul, Nat.reduceLT, Nat.reduceLeDiff, Nat.reduceEqDiff, Int.reduceLT, Int.reduceLE, Int.reduceAdd, Int.reduceSub, Int.reduceMul, Int.reduceNeg, Int.reduceToNat, Int.reduceEq, Int.reduceNe, reduceIte, reduceCtorEq, BitVec.reduceOfInt, BitVec.reduceToNat]; try simp only [top_out])
  refine refPutAddr_u sf sh sl _ _ (fun z ty => ?_)
  (refine top_in ?_; simp -implicitDefEqProofs only [go_sem, -List.reduceReplicate, ↓L_gdZ_tt, ↓L_gdZ_tf, ↓L_gdZ_ft, ↓L_gdZ_ff, ↓T_and, ↓T_imp, ↓T_all, Nat.reduceBEq, Nat.reduceAdd, Nat.reduceSub, Nat.reduceMul, Nat.reduceLT, Nat.reduceLeDiff, Nat.reduceEqDiff, Int.reduceLT, Int.reduceLE, Int.reduceAdd, Int.reduceSub, Int.reduceMul, Int.reduceNeg, Int.reduceToNat, Int.reduceEq, Int.reduceNe, reduceIte, reduceCtorEq, BitVec.reduceOfInt, BitVec.reduceToNat]; try simp only [top_out])
  refine refPutAddr_u df dh dl _ _ (fun z2 ty2 => ?_)
  (refine top_in ?_; simp -implicitDefEqProofs only [go_sem, -List.reduceReplicate, ↓L_gdZ_tt, ↓L_gdZ_tf, ↓L_gdZ_ft, ↓L_gdZ_ff, ↓T_and, ↓T_imp, ↓T_all, Nat.reduceBEq, Nat.reduceAdd, Nat.reduceSub, Nat.reduceMul, Nat.reduceLT, Nat.reduceLeDiff, Nat.reduceEqDiff, Int.reduceLT, Int.reduceLE, Int.reduceAdd, Int.reduceSub, Int.reduceMul, Int.reduceNeg, Int.reduceToNat, Int.reduceEq, Int.reduceNe, reduceIte, reduceCtorEq, BitVec.reduceOfInt, BitVec.reduceToNat]; try simp only [top_out])
  rw [w64 (x := 2 * ((addrU sf sh sl).length : Int)) (by omega) (by omega), w64 (x := 1279 - 2 * ((addrU sf sh sl).length : Int)) (by omega) (by omega)]
  refine ⟨fun h => ?_, fun h => dropC_append hM rfl (h0 ?_)⟩
  · have p1 : (addrU sf sh sl).length ≠ 0 := by have := beqF h; omega
    have hv : validB sf sh sl = true := by
      cases hv : validB sf sh sl
      · exact absurd (addrU_pos.2 hv) p1
      · rfl
    refine ⟨fun h => ?_, fun h => dropC_append hM rfl (h0 ?_)⟩
    · have p2 : (addrU df dh dl).length = (addrU sf sh sl).length := by have := bneF h; omega
      have hv2 : validB df dh dl = true := by
        cases hv : validB df dh dl
        · exact absurd (addrU_pos.2 hv) (by omega)
        · rfl
      have a1 : addrU sf sh sl = addrL sf sh sl := if_pos hv
      have a2 : addrU df dh dl = addrL df dh dl := if_pos hv2
      rw [a1, a2] at p2
      rw [a1, a2]
      rw [a1] at hs
      rw [a2] at hd
      have hfd : sf = df := by
        rw [addrL_len, addrL_len] at p2
        rcases validB_true hv with rfl | ⟨rfl, _, _⟩ <;> rcases validB_true hv2 with rfl | ⟨rfl, _, _⟩ <;> first | rfl | (simp at p2)
      subst hfd
      refine ⟨fun h => dropC_append hM rfl (h0 ?_), fun h => ?_⟩
      · rw [payB, show decide (1 + 2 * (addrL sf sh sl).length + b.length ≤ 1280) = false by simp; omega]; simp
      · have hp : payB sf sh sl sf dh dl b.length = true := by
          rw [payB, hv, hv2, show decide (1 + 2 * (addrL sf sh sl).length + b.length ≤ 1280) = true by simp; omega]; simp
        refine ⟨by decide, ?_⟩
        refine app8 (M.length + 3) [BitVec.ofInt 8 sf] [] (addrL sf sh sl) 5 rfl rfl rfl (by rw [get_app]; rfl) rfl rfl (src_row (z := z) (ty := ty) (by rw [get_app]; rfl) rfl) (by simp; omega) ?_
        intro z3 ty3
        (refine top_in ?_; simp -implicitDefEqProofs only [go_sem, -List.reduceReplicate, ↓L_gdZ_tt, ↓L_gdZ_tf, ↓L_gdZ_ft, ↓L_gdZ_ff, ↓T_and, ↓T_imp, ↓T_all, Nat.reduceBEq, Nat.reduceAdd, Nat.reduceSub, Nat.reduceMul, Nat.reduceLT, Nat.reduceLeDiff, Nat.reduceEqDiff, Int.reduceLT, Int.reduceLE, Int.reduceAdd, Int.reduceSub, Int.reduceMul, Int.reduceNeg, Int.reduceToNat, Int.reduceEq, Int.reduceNe, reduceIte, reduceCtorEq, BitVec.reduceOfInt, BitVec.reduceToNat]; try simp only [top_out])
        refine app8 (M.length + 4) ([BitVec.ofInt 8 sf] ++ addrL sf sh sl) z3 (addrL sf dh dl) ty3 rfl rfl rfl (by rw [get_app]; rfl) (by simp; omega) (by simp; omega) (src_row (z := z2) (ty := ty2) (by rw [get_app]; rfl) rfl) (by simp; omega) ?_
        intro z4 ty4
        (refine top_in ?_; simp -implicitDefEqProofs only [go_sem, -List.reduceReplicate, ↓L_gdZ_tt, ↓L_gdZ_tf, ↓L_gdZ_ft, ↓L_gdZ_ff, ↓T_and, ↓T_imp, ↓T_all, Nat.reduceBEq, Nat.reduceAdd, Nat.reduceSub, Nat.reduceMul, Nat.reduceLT, Nat.reduceLeDiff, Nat.reduceEqDiff, Int.reduceLT, Int.reduceLE, Int.reduceAdd, Int.reduceSub, Int.reduceMul, Int.reduceNeg, Int.reduceToNat, Int.reduceEq, Int.reduceNe, reduceIte, reduceCtorEq, BitVec.reduceOfInt, BitVec.reduceToNat, List.drop_succ_cons, List.drop_zero]; try simp only [top_out])
        refine app8 (M.length + 5) ([BitVec.ofInt 8 sf] ++ addrL sf sh sl ++ addrL sf dh dl) z4 b ty4 rfl rfl rfl (by rw [get_app]; simp) (by simp; omega) (by simp; omega) ha.app.src (by simp; omega) ?_
        intro z5 ty5
        (refine top_in ?_; simp -implicitDefEqProofs only [go_sem, -List.reduceReplicate, ↓L_gdZ_tt, ↓L_gdZ_tf, ↓L_gdZ_ft, ↓L_gdZ_ff, ↓T_and, ↓T_imp, ↓T_all, Nat.reduceBEq, Nat.reduceAdd, Nat.reduceSub, Nat.reduceMul, Nat.reduceLT, Nat.reduceLeDiff, Nat.reduceEqDiff, Int.reduceLT, Int.reduceLE, Int.reduceAdd, Int.reduceSub, Int.reduceMul, Int.reduceNeg, Int.reduceToNat, Int.reduceEq, Int.reduceNe, reduceIte, reduceCtorEq, BitVec.reduceOfInt, BitVec.reduceToNat]; try simp only [top_out])
        exact drop8te 6 (payL sf sh sl sf dh dl b) z5 hM rfl (by simp [payL]) (by rw [payL_len]; omega) (by rw [payL_len]; omega) (h1 hp z5 ty5)
    · have p2 : (addrU df dh dl).length ≠ (addrU sf sh sl).length := by have := bneT h; omega
      rw [payB]
      cases hv2 : validB df dh dl
      · simp
      · have hne : sf ≠ df := by
          rintro rfl
          apply p2
          unfold addrU
          rw [if_pos hv, if_pos hv2, addrL_len, addrL_len]
        rw [show (sf == df) = false by simpa using hne]; simp
  · rw [payB, addrU_pos.1 (by have := beqT h; omega)]; rfl
end Go.Proofs.Ytdkdbeamimkljaa.Eng
