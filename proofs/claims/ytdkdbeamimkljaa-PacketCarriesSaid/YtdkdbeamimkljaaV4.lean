/- A payload off bytes. -/
import Derived.Test.YtdkdbeamimkljaaV3
namespace Go.Proofs.Ytdkdbeamimkljaa.Eng
open Go Go.RowKit
set_option linter.unusedSimpArgs false
set_option linter.unusedVariables false

theorem sameAddr_ok (fa : Int) (hi lo : BitVec 64) (fb : Int) (hi' lo' : BitVec 64) (M : List Blk) (K : SV → List Blk → Prop) (hK : K (.b (fa == fb && hi == hi' && lo == lo')) M) : callVC Try.prog 48 [adS fa hi lo, adS fb hi' lo'] M K := by
  unfold adS
  refine fn_rule tabOK Try.func48 rfl Try.call48 (by kernel_rfl) (fun hM => ?_)
  (refine top_in ?_; simp -implicitDefEqProofs only [Try.ntmps48, Try.results48, go_sem, -List.reduceReplicate, ↓L_gdZ_tt, ↓L_gdZ_tf, ↓L_gdZ_ft, ↓L_gdZ_ff, ↓T_and, ↓T_imp, ↓T_all, Nat.reduceBEq, Nat.reduceAdd, Nat.reduceSub, Nat.reduceMul, Nat.reduceLT, Nat.reduceLeDiff, Nat.reduceEqDiff, Int.reduceLT, Int.reduceLE, Int.reduceAdd, Int.reduceSub, Int.reduceMul, Int.reduceNeg, Int.reduceToNat, Int.reduceEq, Int.reduceNe, reduceIte, reduceCtorEq, BitVec.reduceOfInt, BitVec.reduceToNat]; try simp only [top_out])
  repeat' (with_reducible first | refine And.intro ?_ ?_ | intro)
  all_goals
    refine dropB hM hK ?_
    simp_all
/-- of a reader's bytes from a place on -/
theorem left_ok (m nb cap : Nat) (l : List (BitVec 8)) (at_ : Nat) (err : Int) (M : List Blk) (K : SV → List Blk → Prop) (hR : M[m]? = some (.row (rdS nb l.length cap at_ err) 99)) (hat : at_ ≤ l.length) (hl : l.length ≤ 140737488355000)
    (hK : K (.i .i64 (if err = 0 then ((l.length - at_ : Nat) : Int) else 0)) M) : callVC Try.prog 46 [.p m 0] M K := by
  unfold rdS at hR
  refine fn_rule tabOK Try.func46 rfl Try.call46 (by kernel_rfl) (fun hM => ?_)
  (refine top_in ?_; simp -implicitDefEqProofs only [Try.ntmps46, Try.results46, go_sem, -List.reduceReplicate, ↓L_gdZ_tt, ↓L_gdZ_tf, ↓L_gdZ_ft, ↓L_gdZ_ff, ↓T_and, ↓T_imp, ↓T_all, Nat.reduceBEq, Nat.reduceAdd, Nat.reduceSub, Nat.reduceMul, Nat.reduceLT, Nat.reduceLeDiff, Nat.reduceEqDiff, Int.reduceLT, Int.reduceLE, Int.reduceAdd, Int.reduceSub, Int.reduceMul, Int.reduceNeg, Int.reduceToNat, Int.reduceEq, Int.reduceNe, reduceIte, reduceCtorEq, BitVec.reduceOfInt, BitVec.reduceToNat, hR]; try simp only [top_out])
  refine ⟨fun h => ?_, fun h => ?_⟩
  · rw [if_neg (bneT h)] at hK
    exact dropC_self hM rfl hK
  · rw [if_pos (bneF h)] at hK
    refine draw_rule tabOK (by kernel_rfl : _) (.p 0 (.p 1 (.p 2 (.p 3 (.p 4 (.p 5 (.p 6 (.p 7 (.p 8 (.p 9 (.p 10 .nil))))))))))) (by kernel_rfl) (by kernel_rfl) ?_
    (refine top_in ?_; simp -implicitDefEqProofs only [go_sem, -List.reduceReplicate, ↓L_gdZ_tt, ↓L_gdZ_tf, ↓L_gdZ_ft, ↓L_gdZ_ff, ↓T_and, ↓T_imp, ↓T_all, Nat.reduceBEq, Nat.reduceAdd, Nat.reduceSub, Nat.reduceMul, Nat.reduceLT, Nat.reduceLeDiff, Nat.reduceEqDiff, Int.reduceLT, Int.reduceLE, Int.reduceAdd, Int.reduceSub, Int.reduceMul, Int.reduceNeg, Int.reduceToNat, Int.reduceEq, Int.reduceNe, reduceIte, reduceCtorEq, BitVec.reduceOfInt, BitVec.reduceToNat, hR]; try simp only [top_out])
    rw [w64 (by omega) (by omega), show (l.length : Int) - at_ = ((l.length - at_ : Nat) : Int) by omega]
    exact dropC_self hM rfl hK
theorem rdBytes_ok (m nb cap : Nat) (l : List (BitVec 8)) (at_ : Nat) (n : Nat) (M : List Blk) (K : SV → List Blk → Prop) (hR : M[m]? = some (.row (rdS nb l.length cap at_ 0) 99)) (ha : BAt M nb 0 l)
    (hat : at_ + n ≤ l.length) (hl : l.length ≤ 140737488355000) (hcap : l.length ≤ cap)
    (hK : K (.sl nb (if n = 0 then 0 else at_) n n) (M.set m (.row (rdS nb l.length cap (at_ + n) 0) 99))) :
    callVC Try.prog 45 [.p m 0, .i .i64 n] M K := by
  refine fn_rule tabOK Try.func45 rfl Try.call45 (by kernel_rfl) (fun hM => ?_)
  (refine top_in ?_; simp -implicitDefEqProofs only [Try.ntmps45, Try.results45, go_sem, -List.reduceReplicate, ↓L_gdZ_tt, ↓L_gdZ_tf, ↓L_gdZ_ft, ↓L_gdZ_ff, ↓T_and, ↓T_imp, ↓T_all, Nat.reduceBEq, Nat.reduceAdd, Nat.reduceSub, Nat.reduceMul, Nat.reduceLT, Nat.reduceLeDiff, Nat.reduceEqDiff, Int.reduceLT, Int.reduceLE, Int.reduceAdd, Int.reduceSub, Int.reduceMul, Int.reduceNeg, Int.reduceToNat, Int.reduceEq, Int.reduceNe, reduceIte, reduceCtorEq, BitVec.reduceOfInt, BitVec.reduceToNat]; try simp only [top_out])
  refine take_ok m nb cap l at_ 0 n M _ hR ha (by omega) hl hcap (by omega) ?_
  (refine top_in ?_; simp -implicitDefEqProofs only [go_sem, -List.reduceReplicate, ↓L_gdZ_tt, ↓L_gdZ_tf, ↓L_gdZ_ft, ↓L_gdZ_ff, ↓T_and, ↓T_imp, ↓T_all, Nat.reduceBEq, Nat.reduceAdd, Nat.reduceSub, Nat.reduceMul, Nat.reduceLT, Nat.reduceLeDiff, Nat.reduceEqDiff, Int.reduceLT, Int.reduceLE, Int.reduceAdd, Int.reduceSub, Int.reduceMul, Int.reduceNeg, Int.reduceToNat, Int.reduceEq, Int.reduceNe, reduceIte, reduceCtorEq, BitVec.reduceOfInt, BitVec.reduceToNat]; try simp only [top_out])
  have h1 : rok l.length at_ 0 n = true := by simp [rok]; omega
  have h2 : rat l.length at_ 0 n = at_ + n := if_pos ⟨rfl, hat⟩
  have h3 : rerr l.length at_ 0 n = 0 := by unfold rerr; rw [if_pos rfl, if_pos hat]
  rw [if_pos h1, h2, h3]
  exact dropC_all (by simp) hK
theorem dropC_set {M N : List Blk} {v : SV} {m : Nat} {X : Blk} {K : SV → List Blk → Prop} (hM : ∀ (n : Nat) (B : Blk), M[n]? = some B → B.lt M.length = true) (hX : X.lt M.length = true) (hv : v.lt M.length = true) (hK : K v (M.set m X)) : dropC M.length v (M.set m X ++ N) K := by
  have := dropC_append (M := M.set m X) (N := N) (v := v) (K := K) (fun n B h => by
    rw [List.length_set]
    by_cases e : m = n
    · subst e
      by_cases hlt : m < M.length
      · rw [List.getElem?_set_self hlt] at h; cases h; exact hX
      · rw [List.getElem?_eq_none (by simp; omega)] at h; cases h
    · rw [List.getElem?_set_ne e] at h; exact hM n B h) (by rw [List.length_set]; exact hv) hK
  rwa [List.length_set] at this
theorem rd_lt {nb len cap a m : Nat} {e : Int} {ty : TypeId} (h : nb < m) : Blk.lt m (.row (rdS nb len cap a e) ty) = true := by simp [rdS, Blk.lt, ltL, SV.lt, h]
theorem address4_ok (m nb cap : Nat) (l : List (BitVec 8)) (at_ : Nat) (err : Int) (M : List Blk) (K : SV → List Blk → Prop) (hR : M[m]? = some (.row (rdS nb l.length cap at_ err) 99)) (ha : BAt M nb 0 l) (hne : m ≠ nb)
    (hat : at_ ≤ l.length) (hl : l.length ≤ 140737488355000) (hcap : l.length ≤ cap)
    (hK : K (adS 4 0#64 (((getV l at_ err 4).setWidth 32).setWidth 64)) (M.set m (.row (rdS nb l.length cap (rat l.length at_ err 4) (rerr l.length at_ err 4)) 99))) :
    callVC Try.prog 43 [.p m 0, .i .i64 4] M K := by
  have hm : m < M.length := (List.getElem?_eq_some_iff.1 hR).1
  refine fn_rule tabOK Try.func43 rfl Try.call43 (by kernel_rfl) (fun hM => ?_)
  (refine top_in ?_; simp -implicitDefEqProofs only [Try.ntmps43, Try.results43, go_sem, -List.reduceReplicate, ↓L_gdZ_tt, ↓L_gdZ_tf, ↓L_gdZ_ft, ↓L_gdZ_ff, ↓T_and, ↓T_imp, ↓T_all, Nat.reduceBEq, Nat.reduceAdd, Nat.reduceSub, Nat.reduceMul, Nat.reduceLT, Nat.reduceLeDiff, Nat.reduceEqDiff, Int.reduceLT, Int.reduceLE, Int.reduceAdd, Int.reduceSub, Int.reduceMul, Int.reduceNeg, Int.reduceToNat, Int.reduceEq, Int.reduceNe, reduceIte, reduceCtorEq, BitVec.reduceOfInt, BitVec.reduceToNat]; try simp only [top_out])
  refine get32_ok m nb cap l at_ err _ _ (by rw [get_lt hm]; exact hR) ha.app hne hat hl hcap ?_
  rw [List.set_append_left _ _ hm]
  have hX := @rd_lt nb l.length cap (rat l.length at_ err 4) M.length (rerr l.length at_ err 4) 99 ha.lt
  have hlen : (M.set m (Blk.row (rdS nb l.length cap (rat l.length at_ err 4) (rerr l.length at_ err 4)) 99)).length = M.length := List.length_set
  have hd : ∀ (N : List Blk) (v : SV), v.lt M.length = true → K v (M.set m (Blk.row (rdS nb l.length cap (rat l.length at_ err 4) (rerr l.length at_ err 4)) 99)) → dropC M.length v (M.set m (Blk.row (rdS nb l.length cap (rat l.length at_ err 4) (rerr l.length at_ err 4)) 99) ++ N) K := fun N v => dropC_set hM hX
  generalize M.set m (Blk.row (rdS nb l.length cap (rat l.length at_ err 4) (rerr l.length at_ err 4)) 99) = M1 at *
  rw [← hlen]
  (refine top_in ?_; simp -implicitDefEqProofs only [go_sem, -List.reduceReplicate, ↓L_gdZ_tt, ↓L_gdZ_tf, ↓L_gdZ_ft, ↓L_gdZ_ff, ↓T_and, ↓T_imp, ↓T_all, Nat.reduceBEq, Nat.reduceAdd, Nat.reduceSub, Nat.reduceMul, Nat.reduceLT, Nat.reduceLeDiff, Nat.reduceEqDiff, Int.reduceLT, Int.reduceLE, Int.reduceAdd, Int.reduceSub, Int.reduceMul, Int.reduceNeg, Int.reduceToNat, Int.reduceEq, Int.reduceNe, reduceIte, reduceCtorEq, BitVec.reduceOfInt, BitVec.reduceToNat]; try simp only [top_out])
  rw [hlen]
  exact hd _ _ rfl hK
theorem address6_ok (m nb cap : Nat) (l : List (BitVec 8)) (at_ : Nat) (err : Int) (M : List Blk) (K : SV → List Blk → Prop) (hR : M[m]? = some (.row (rdS nb l.length cap at_ err) 99)) (ha : BAt M nb 0 l) (hne : m ≠ nb)
    (hat : at_ ≤ l.length) (hl : l.length ≤ 140737488355000) (hcap : l.length ≤ cap)
    (hK : K (adS 6 (getV l at_ err 8) (getV l (rat l.length at_ err 8) (rerr l.length at_ err 8) 8)) (M.set m (.row (rdS nb l.length cap (rat l.length (rat l.length at_ err 8) (rerr l.length at_ err 8) 8) (rerr l.length (rat l.length at_ err 8) (rerr l.length at_ err 8) 8)) 99))) :
    callVC Try.prog 43 [.p m 0, .i .i64 6] M K := by
  have hm : m < M.length := (List.getElem?_eq_some_iff.1 hR).1
  have h64 : ((6 : Int) == 4) = false := rfl
  refine fn_rule tabOK Try.func43 rfl Try.call43 (by kernel_rfl) (fun hM => ?_)
  (refine top_in ?_; simp -implicitDefEqProofs only [Try.ntmps43, Try.results43, go_sem, -List.reduceReplicate, ↓L_gdZ_tt, ↓L_gdZ_tf, ↓L_gdZ_ft, ↓L_gdZ_ff, ↓T_and, ↓T_imp, ↓T_all, Nat.reduceBEq, Nat.reduceAdd, Nat.reduceSub, Nat.reduceMul, Nat.reduceLT, Nat.reduceLeDiff, Nat.reduceEqDiff, Int.reduceLT, Int.reduceLE, Int.reduceAdd, Int.reduceSub, Int.reduceMul, Int.reduceNeg, Int.reduceToNat, Int.reduceEq, Int.reduceNe, reduceIte, reduceCtorEq, BitVec.reduceOfInt, BitVec.reduceToNat, h64]; try simp only [top_out])
  refine get64_ok m nb cap l at_ err _ _ (by rw [get_lt hm]; exact hR) ha.app hne hat hl hcap ?_
  rw [List.set_append_left _ _ hm]
  have hlt : ∀ B : Blk, (M.set m B).length = M.length := fun B => List.length_set
  have hat2 : rat l.length at_ err 8 ≤ l.length := rat_le hat
  have ha2 := ha.set (B := Blk.row (rdS nb l.length cap (rat l.length at_ err 8) (rerr l.length at_ err 8)) 99) hne
  have hR2 := List.getElem?_set_self (a := Blk.row (rdS nb l.length cap (rat l.length at_ err 8) (rerr l.length at_ err 8)) 99) hm
  have hs2 : ∀ B : Blk, (M.set m (Blk.row (rdS nb l.length cap (rat l.length at_ err 8) (rerr l.length at_ err 8)) 99)).set m B = M.set m B := fun B => by rw [List.set_set]
  have hlen := hlt (Blk.row (rdS nb l.length cap (rat l.length at_ err 8) (rerr l.length at_ err 8)) 99)
  generalize getV l at_ err 8 = v1 at *
  generalize rat l.length at_ err 8 = a1 at *
  generalize rerr l.length at_ err 8 = e1 at *
  generalize M.set m (Blk.row (rdS nb l.length cap a1 e1) 99) = M1 at *
  rw [← hlen]
  (refine top_in ?_; simp -implicitDefEqProofs only [go_sem, -List.reduceReplicate, ↓L_gdZ_tt, ↓L_gdZ_tf, ↓L_gdZ_ft, ↓L_gdZ_ff, ↓T_and, ↓T_imp, ↓T_all, Nat.reduceBEq, Nat.reduceAdd, Nat.reduceSub, Nat.reduceMul, Nat.reduceLT, Nat.reduceLeDiff, Nat.reduceEqDiff, Int.reduceLT, Int.reduceLE, Int.reduceAdd, Int.reduceSub, Int.reduceMul, Int.reduceNeg, Int.reduceToNat, Int.reduceEq, Int.reduceNe, reduceIte, reduceCtorEq, BitVec.reduceOfInt, BitVec.reduceToNat, h64]; try simp only [top_out])
  have hm1 : m < M1.length := by omega
  refine get64_ok m nb cap l a1 e1 _ _ (by rw [get_lt hm1]; exact hR2) ha2.app hne hat2 hl hcap ?_
  rw [List.set_append_left _ _ hm1, hs2]
  have hX := @rd_lt nb l.length cap (rat l.length a1 e1 8) M.length (rerr l.length a1 e1 8) 99 ha.lt
  have hd : ∀ (N : List Blk) (v : SV), v.lt M.length = true → K v (M.set m (Blk.row (rdS nb l.length cap (rat l.length a1 e1 8) (rerr l.length a1 e1 8)) 99)) → dropC M.length v (M.set m (Blk.row (rdS nb l.length cap (rat l.length a1 e1 8) (rerr l.length a1 e1 8)) 99) ++ N) K := fun N v => dropC_set hM hX
  have hlen2 := hlt (Blk.row (rdS nb l.length cap (rat l.length a1 e1 8) (rerr l.length a1 e1 8)) 99)
  generalize M.set m (Blk.row (rdS nb l.length cap (rat l.length a1 e1 8) (rerr l.length a1 e1 8)) 99) = M2 at *
  rw [hlen, ← hlen2]
  (refine top_in ?_; simp -implicitDefEqProofs only [go_sem, -List.reduceReplicate, ↓L_gdZ_tt, ↓L_gdZ_tf, ↓L_gdZ_ft, ↓L_gdZ_ff, ↓T_and, ↓T_imp, ↓T_all, Nat.reduceBEq, Nat.reduceAdd, Nat.reduceSub, Nat.reduceMul, Nat.reduceLT, Nat.reduceLeDiff, Nat.reduceEqDiff, Int.reduceLT, Int.reduceLE, Int.reduceAdd, Int.reduceSub, Int.reduceMul, Int.reduceNeg, Int.reduceToNat, Int.reduceEq, Int.reduceNe, reduceIte, reduceCtorEq, BitVec.reduceOfInt, BitVec.reduceToNat, h64]; try simp only [top_out])
  rw [hlen2]
  exact hd _ _ rfl hK
end Go.Proofs.Ytdkdbeamimkljaa.Eng
