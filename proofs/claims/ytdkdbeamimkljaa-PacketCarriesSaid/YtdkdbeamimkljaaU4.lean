/- A reader of bytes. -/
import Derived.Test.YtdkdbeamimkljaaU3
namespace Go.Proofs.Ytdkdbeamimkljaa.Eng
open Go Go.RowKit
set_option linter.unusedSimpArgs false
set_option linter.unusedVariables false

/-- a reader's cells -/
def rdS (nb len cap : Nat) (at_ : Nat) (err : Int) : List SV := [.sl nb 0 len cap, .i .i64 at_, .i .i64 err]
def rok (len at_ : Nat) (err : Int) (n : Nat) : Bool := err == 0 && decide (at_ + n ≤ len)
def rerr (len at_ : Nat) (err : Int) (n : Nat) : Int := if err = 0 then (if at_ + n ≤ len then 0 else 10) else err
def rat (len at_ : Nat) (err : Int) (n : Nat) : Nat := if err = 0 ∧ at_ + n ≤ len then at_ + n else at_

theorem newReader_ok (n off cap : Nat) (l : List (BitVec 8)) (M : List Blk) (K : SV → List Blk → Prop) (ha : BAt M n off l) (hl : l.length ≤ 140737488355000)
    (hK : K (.p (M.length + 1) 0) (M ++ [.row (bS l) 5, .row (rdS M.length l.length l.length 0 0) 99])) :
    callVC Try.prog 41 [.sl n off l.length cap] M K := by
  refine fn_rule tabOK Try.func41 rfl Try.call41 (by kernel_rfl) (fun hM => ?_)
  (refine top_in ?_; simp -implicitDefEqProofs only [Try.ntmps41, Try.results41, go_sem, -List.reduceReplicate, ↓L_gdZ_tt, ↓L_gdZ_tf, ↓L_gdZ_ft, ↓L_gdZ_ff, ↓T_and, ↓T_imp, ↓T_all, Nat.reduceBEq, Nat.reduceAdd, Nat.reduceSub, Nat.reduceMul, Nat.reduceLT, Nat.reduceLeDiff, Nat.reduceEqDiff, Int.reduceLT, Int.reduceLE, Int.reduceAdd, Int.reduceSub, Int.reduceMul, Int.reduceNeg, Int.reduceToNat, Int.reduceEq, Int.reduceNe, reduceIte, reduceCtorEq, BitVec.reduceOfInt, BitVec.reduceToNat]; try simp only [top_out])
  refine ⟨by omega, by omega, by omega, by omega, ?_⟩
  refine copy8 M.length 0 (List.replicate l.length 0#8) l 5 rfl (by rw [get_app0]; rfl) (by simp) ha.app.src ?_
  have e0 : (List.replicate l.length 0#8).take 0 ++ l.take l.length ++ (List.replicate l.length 0#8).drop (0 + Nat.min l.length l.length) = l := by
    rw [show Nat.min l.length l.length = l.length from Nat.min_self _, List.take_length, List.take_zero, List.nil_append, List.drop_replicate]
    simp
  rw [e0]
  (refine top_in ?_; simp -implicitDefEqProofs only [go_sem, -List.reduceReplicate, ↓L_gdZ_tt, ↓L_gdZ_tf, ↓L_gdZ_ft, ↓L_gdZ_ff, ↓T_and, ↓T_imp, ↓T_all, Nat.reduceBEq, Nat.reduceAdd, Nat.reduceSub, Nat.reduceMul, Nat.reduceLT, Nat.reduceLeDiff, Nat.reduceEqDiff, Int.reduceLT, Int.reduceLE, Int.reduceAdd, Int.reduceSub, Int.reduceMul, Int.reduceNeg, Int.reduceToNat, Int.reduceEq, Int.reduceNe, reduceIte, reduceCtorEq, BitVec.reduceOfInt, BitVec.reduceToNat]; try simp only [top_out])
  exact dropC_all (by simp) hK

theorem set_self {M : List Blk} {m : Nat} {B : Blk} (h : M[m]? = some B) : M.set m B = M := by
  apply List.ext_getElem?
  intro j
  by_cases hj : m = j
  · subst hj; rw [List.getElem?_set_self (List.getElem?_eq_some_iff.1 h).1, h]
  · rw [List.getElem?_set_ne hj]

theorem take_ok (m nb cap : Nat) (l : List (BitVec 8)) (at_ : Nat) (err : Int) (n : Nat) (M : List Blk) (K : SV → List Blk → Prop) (hR : M[m]? = some (.row (rdS nb l.length cap at_ err) 99)) (ha : BAt M nb 0 l)
    (hat : at_ ≤ l.length) (hl : l.length ≤ 140737488355000) (hcap : l.length ≤ cap) (hn : n ≤ 140737488355000)
    (hK : K (.tup [if rok l.length at_ err n = true then .sl nb (if n = 0 then 0 else at_) n n else .sn, .b (rok l.length at_ err n)]) (M.set m (.row (rdS nb l.length cap (rat l.length at_ err n) (rerr l.length at_ err n)) 99))) :
    callVC Try.prog 62 [.p m 0, .i .i64 n] M K := by
  unfold rdS at hR
  refine fn_rule tabOK Try.func62 rfl Try.call62 (by kernel_rfl) (fun hM => ?_)
  (refine top_in ?_; simp -implicitDefEqProofs only [Try.ntmps62, Try.results62, go_sem, -List.reduceReplicate, ↓L_gdZ_tt, ↓L_gdZ_tf, ↓L_gdZ_ft, ↓L_gdZ_ff, ↓T_and, ↓T_imp, ↓T_all, Nat.reduceBEq, Nat.reduceAdd, Nat.reduceSub, Nat.reduceMul, Nat.reduceLT, Nat.reduceLeDiff, Nat.reduceEqDiff, Int.reduceLT, Int.reduceLE, Int.reduceAdd, Int.reduceSub, Int.reduceMul, Int.reduceNeg, Int.reduceToNat, Int.reduceEq, Int.reduceNe, reduceIte, reduceCtorEq, BitVec.reduceOfInt, BitVec.reduceToNat, hR]; try simp only [top_out])
  refine ⟨fun h => ?_, fun h => ⟨fun h1 => ?_, fun h1 => ?_⟩⟩
  · refine dropC_all (Nat.le_refl _) ?_
    have he : err ≠ 0 := by simpa using h
    have e1 : rok l.length at_ err n = false := by simp [rok, he]
    rw [e1, if_neg (by simp), show rat l.length at_ err n = at_ from if_neg (fun h => he h.1), show rerr l.length at_ err n = err from if_neg he, show rdS nb l.length cap at_ err = [.sl nb 0 l.length cap, .i .i64 at_, .i .i64 err] from rfl, set_self hR] at hK
    exact hK
  · omega
  · have he : err = 0 := by simpa using h
    subst he
    refine draw_rule tabOK (by kernel_rfl : _) (.p 0 (.p 1 (.p 2 (.p 3 (.p 4 (.p 5 (.p 6 (.p 7 (.p 8 (.p 9 (.p 10 (.p 11 (.p 12 .nil))))))))))))) (by kernel_rfl) (by kernel_rfl) ?_
    (refine top_in ?_; simp -implicitDefEqProofs only [go_sem, -List.reduceReplicate, ↓L_gdZ_tt, ↓L_gdZ_tf, ↓L_gdZ_ft, ↓L_gdZ_ff, ↓T_and, ↓T_imp, ↓T_all, Nat.reduceBEq, Nat.reduceAdd, Nat.reduceSub, Nat.reduceMul, Nat.reduceLT, Nat.reduceLeDiff, Nat.reduceEqDiff, Int.reduceLT, Int.reduceLE, Int.reduceAdd, Int.reduceSub, Int.reduceMul, Int.reduceNeg, Int.reduceToNat, Int.reduceEq, Int.reduceNe, reduceIte, reduceCtorEq, BitVec.reduceOfInt, BitVec.reduceToNat, hR]; try simp only [top_out])
    rw [w64 (by omega) (by omega)]
    refine ⟨fun h2 => ?_, fun h2 => ?_⟩
    · refine dropC_all (by simp) ?_
      have e1 : rok l.length at_ 0 n = false := by simp [rok]; omega
      rw [e1, if_neg (by simp), show rat l.length at_ 0 n = at_ from if_neg (fun h => by omega), show rerr l.length at_ 0 n = 10 by unfold rerr; rw [if_pos rfl, if_neg (by omega)]] at hK
      exact hK
    · refine draw_rule tabOK (by kernel_rfl : _) (.p 0 (.p 1 (.p 2 (.p 3 (.p 4 (.p 5 (.p 6 (.p 7 (.p 8 (.p 9 (.p 10 (.p 11 (.p 12 (.p 13 (.p 14 (.p 15 (.p 16 (.p 17 (.p 18 (.p 19 (.p 20 (.p 21 .nil)))))))))))))))))))))) (by kernel_rfl) (by kernel_rfl) ?_
      (refine top_in ?_; simp -implicitDefEqProofs only [go_sem, -List.reduceReplicate, ↓L_gdZ_tt, ↓L_gdZ_tf, ↓L_gdZ_ft, ↓L_gdZ_ff, ↓T_and, ↓T_imp, ↓T_all, Nat.reduceBEq, Nat.reduceAdd, Nat.reduceSub, Nat.reduceMul, Nat.reduceLT, Nat.reduceLeDiff, Nat.reduceEqDiff, Int.reduceLT, Int.reduceLE, Int.reduceAdd, Int.reduceSub, Int.reduceMul, Int.reduceNeg, Int.reduceToNat, Int.reduceEq, Int.reduceNe, reduceIte, reduceCtorEq, BitVec.reduceOfInt, BitVec.reduceToNat, hR]; try simp only [top_out])
      have e1 : rok l.length at_ 0 n = true := by simp [rok]; omega
      rw [e1, if_pos rfl, show rat l.length at_ 0 n = at_ + n from if_pos ⟨rfl, by omega⟩, show rerr l.length at_ 0 n = 0 by unfold rerr; rw [if_pos rfl, if_pos (by omega)]] at hK
      rw [w64 (by omega) (by omega), show (at_ : Int) + n = ((at_ + n : Nat) : Int) by omega, Int.toNat_natCast, show at_ + n - at_ = n by omega]
      refine ⟨by omega, by omega, by omega, by omega, by omega, by omega, dropC_all (by simp) ?_⟩
      rw [show (if at_ + n = at_ then 0 else at_) = (if n = 0 then 0 else at_) by by_cases h0 : n = 0 <;> simp [h0]]
      exact hK

theorem BAt.set {M : List Blk} {n m off : Nat} {l : List (BitVec 8)} {B : Blk} (h : BAt M n off l) (hne : m ≠ n) : BAt (M.set m B) n off l := by
  have e : cellsAt (M.set m B) n = cellsAt M n := by unfold cellsAt; rw [List.getElem?_set_ne hne]
  exact ⟨by simpa using h.lt, by rw [e]; exact h.len, by rw [e]; exact h.cells⟩

/-- the number that bytes say -/
def numB (l : List (BitVec 8)) : BitVec 64 := l.foldl (fun x c => x <<< 8 ||| c.setWidth 64) 0#64
def getV (l : List (BitVec 8)) (at_ : Nat) (err : Int) (n : Nat) : BitVec 64 := if rok l.length at_ err n = true then numB ((l.drop at_).take n) else 0#64
theorem numB_take {l : List (BitVec 8)} {k : Nat} (h : k < l.length) : numB (l.take (k + 1)) = numB (l.take k) <<< 8 ||| (l.getD k 0#8).setWidth 64 := by
  rw [take_snoc h, numB, List.foldl_append]; rfl

theorem get8_ok (m nb cap : Nat) (l : List (BitVec 8)) (at_ : Nat) (err : Int) (M : List Blk) (K : SV → List Blk → Prop) (hR : M[m]? = some (.row (rdS nb l.length cap at_ err) 99)) (ha : BAt M nb 0 l) (hne : m ≠ nb)
    (hat : at_ ≤ l.length) (hl : l.length ≤ 140737488355000) (hcap : l.length ≤ cap)
    (hK : K (.u8 ((getV l at_ err 1).setWidth 8)) (M.set m (.row (rdS nb l.length cap (rat l.length at_ err 1) (rerr l.length at_ err 1)) 99))) :
    callVC Try.prog 42 [.p m 0] M K := by
  refine fn_rule tabOK Try.func42 rfl Try.call42 (by kernel_rfl) (fun hM => ?_)
  (refine top_in ?_; simp -implicitDefEqProofs only [Try.ntmps42, Try.results42, go_sem, -List.reduceReplicate, ↓L_gdZ_tt, ↓L_gdZ_tf, ↓L_gdZ_ft, ↓L_gdZ_ff, ↓T_and, ↓T_imp, ↓T_all, Nat.reduceBEq, Nat.reduceAdd, Nat.reduceSub, Nat.reduceMul, Nat.reduceLT, Nat.reduceLeDiff, Nat.reduceEqDiff, Int.reduceLT, Int.reduceLE, Int.reduceAdd, Int.reduceSub, Int.reduceMul, Int.reduceNeg, Int.reduceToNat, Int.reduceEq, Int.reduceNe, reduceIte, reduceCtorEq, BitVec.reduceOfInt, BitVec.reduceToNat]; try simp only [top_out])
  refine width_uint8 _ _ ?_
  (refine top_in ?_; simp -implicitDefEqProofs only [go_sem, -List.reduceReplicate, ↓L_gdZ_tt, ↓L_gdZ_tf, ↓L_gdZ_ft, ↓L_gdZ_ff, ↓T_and, ↓T_imp, ↓T_all, Nat.reduceBEq, Nat.reduceAdd, Nat.reduceSub, Nat.reduceMul, Nat.reduceLT, Nat.reduceLeDiff, Nat.reduceEqDiff, Int.reduceLT, Int.reduceLE, Int.reduceAdd, Int.reduceSub, Int.reduceMul, Int.reduceNeg, Int.reduceToNat, Int.reduceEq, Int.reduceNe, reduceIte, reduceCtorEq, BitVec.reduceOfInt, BitVec.reduceToNat]; try simp only [top_out])
  refine take_ok m nb cap l at_ err 1 M _ hR ha hat hl hcap (by omega) ?_
  cases hr : rok l.length at_ err 1
  · (refine top_in ?_; simp -implicitDefEqProofs only [go_sem, -List.reduceReplicate, ↓L_gdZ_tt, ↓L_gdZ_tf, ↓L_gdZ_ft, ↓L_gdZ_ff, ↓T_and, ↓T_imp, ↓T_all, Nat.reduceBEq, Nat.reduceAdd, Nat.reduceSub, Nat.reduceMul, Nat.reduceLT, Nat.reduceLeDiff, Nat.reduceEqDiff, Int.reduceLT, Int.reduceLE, Int.reduceAdd, Int.reduceSub, Int.reduceMul, Int.reduceNeg, Int.reduceToNat, Int.reduceEq, Int.reduceNe, reduceIte, reduceCtorEq, BitVec.reduceOfInt, BitVec.reduceToNat, Bool.false_eq_true]; try simp only [top_out])
    refine dropC_all (by simp) ?_
    rw [getV, hr, if_neg (by simp)] at hK
    exact hK
  · have hlen : at_ + 1 ≤ l.length := by simp [rok] at hr; omega
    (refine top_in ?_; simp -implicitDefEqProofs only [go_sem, -List.reduceReplicate, ↓L_gdZ_tt, ↓L_gdZ_tf, ↓L_gdZ_ft, ↓L_gdZ_ff, ↓T_and, ↓T_imp, ↓T_all, Nat.reduceBEq, Nat.reduceAdd, Nat.reduceSub, Nat.reduceMul, Nat.reduceLT, Nat.reduceLeDiff, Nat.reduceEqDiff, Int.reduceLT, Int.reduceLE, Int.reduceAdd, Int.reduceSub, Int.reduceMul, Int.reduceNeg, Int.reduceToNat, Int.reduceEq, Int.reduceNe, reduceIte, reduceCtorEq, BitVec.reduceOfInt, BitVec.reduceToNat, Nat.reduceEqDiff]; try simp only [top_out])
    rw [getV, hr, if_pos rfl] at hK
    have hb : BAt (M.set m (Blk.row (rdS nb l.length cap (rat l.length at_ err 1) (rerr l.length at_ err 1)) 99)) nb at_ ((l.drop at_).take 1) := by
      have := (ha.set (B := .row (rdS nb l.length cap (rat l.length at_ err 1) (rerr l.length at_ err 1)) 99) hne).sub (a := at_) (k := 1) hlen
      rwa [Nat.zero_add] at this
    have hbl : ((l.drop at_).take 1).length = 1 := by simp; omega
    have hml : M.length ≤ (M.set m (Blk.row (rdS nb l.length cap (rat l.length at_ err 1) (rerr l.length at_ err 1)) 99)).length := by simp
    revert hK hb hml
    generalize M.set m (Blk.row (rdS nb l.length cap (rat l.length at_ err 1) (rerr l.length at_ err 1)) 99) = M1
    generalize (l.drop at_).take 1 = b at hbl
    intro hK hb hml
    refine loop_code tabOK (by kernel_rfl) (fun n ts M' => ∃ k : Nat, k + n = 1 ∧ M' = M1 ∧ frC [none, none, none, none, none, some (.u64 (numB (b.take k))), none, none, none, none, none, none, none, none, none, none, some (.sl nb at_ 1 1), some (.i .i64 1), some (.i .i64 k), none, none, none, none, none, none, none, none, none, none, none] ts) 1 ?_ ?_
    · exact ⟨0, rfl, rfl, by simp [frC, numB]⟩
    · rintro n ts _ ⟨k, hk, rfl, hf⟩
      obtain ⟨f, rfl⟩ := frC_open _ _ 0 hf
      clear hf
      (refine top_in ?_; simp -implicitDefEqProofs only [go_sem, -List.reduceReplicate, ↓L_gdZ_tt, ↓L_gdZ_tf, ↓L_gdZ_ft, ↓L_gdZ_ff, ↓T_and, ↓T_imp, ↓T_all, Nat.reduceBEq, Nat.reduceAdd, Nat.reduceSub, Nat.reduceMul, Nat.reduceLT, Nat.reduceLeDiff, Nat.reduceEqDiff, Int.reduceLT, Int.reduceLE, Int.reduceAdd, Int.reduceSub, Int.reduceMul, Int.reduceNeg, Int.reduceToNat, Int.reduceEq, Int.reduceNe, reduceIte, reduceCtorEq, BitVec.reduceOfInt, BitVec.reduceToNat]; try simp only [top_out])
      refine ⟨fun h => ?_, fun h => ?_⟩
      · rw [hb.is8 (by omega), hb.cell8 (by omega)]
        refine ⟨by omega, by omega, hb.le (by omega), rfl, n - 1, by omega, k + 1, by omega, ?_, by rw [w64 (by omega) (by omega)]; simp⟩
        rw [numB_take (by omega)]
      · obtain rfl : k = 1 := by omega
        rw [List.take_of_length_le (by omega)]
        exact dropC_all hml hK

theorem get32_ok (m nb cap : Nat) (l : List (BitVec 8)) (at_ : Nat) (err : Int) (M : List Blk) (K : SV → List Blk → Prop) (hR : M[m]? = some (.row (rdS nb l.length cap at_ err) 99)) (ha : BAt M nb 0 l) (hne : m ≠ nb)
    (hat : at_ ≤ l.length) (hl : l.length ≤ 140737488355000) (hcap : l.length ≤ cap)
    (hK : K (.u32 ((getV l at_ err 4).setWidth 32)) (M.set m (.row (rdS nb l.length cap (rat l.length at_ err 4) (rerr l.length at_ err 4)) 99))) :
    callVC Try.prog 57 [.p m 0] M K := by
  refine fn_rule tabOK Try.func57 rfl Try.call57 (by kernel_rfl) (fun hM => ?_)
  (refine top_in ?_; simp -implicitDefEqProofs only [Try.ntmps57, Try.results57, go_sem, -List.reduceReplicate, ↓L_gdZ_tt, ↓L_gdZ_tf, ↓L_gdZ_ft, ↓L_gdZ_ff, ↓T_and, ↓T_imp, ↓T_all, Nat.reduceBEq, Nat.reduceAdd, Nat.reduceSub, Nat.reduceMul, Nat.reduceLT, Nat.reduceLeDiff, Nat.reduceEqDiff, Int.reduceLT, Int.reduceLE, Int.reduceAdd, Int.reduceSub, Int.reduceMul, Int.reduceNeg, Int.reduceToNat, Int.reduceEq, Int.reduceNe, reduceIte, reduceCtorEq, BitVec.reduceOfInt, BitVec.reduceToNat]; try simp only [top_out])
  refine width_uint32 _ _ ?_
  (refine top_in ?_; simp -implicitDefEqProofs only [go_sem, -List.reduceReplicate, ↓L_gdZ_tt, ↓L_gdZ_tf, ↓L_gdZ_ft, ↓L_gdZ_ff, ↓T_and, ↓T_imp, ↓T_all, Nat.reduceBEq, Nat.reduceAdd, Nat.reduceSub, Nat.reduceMul, Nat.reduceLT, Nat.reduceLeDiff, Nat.reduceEqDiff, Int.reduceLT, Int.reduceLE, Int.reduceAdd, Int.reduceSub, Int.reduceMul, Int.reduceNeg, Int.reduceToNat, Int.reduceEq, Int.reduceNe, reduceIte, reduceCtorEq, BitVec.reduceOfInt, BitVec.reduceToNat]; try simp only [top_out])
  refine take_ok m nb cap l at_ err 4 M _ hR ha hat hl hcap (by omega) ?_
  cases hr : rok l.length at_ err 4
  · (refine top_in ?_; simp -implicitDefEqProofs only [go_sem, -List.reduceReplicate, ↓L_gdZ_tt, ↓L_gdZ_tf, ↓L_gdZ_ft, ↓L_gdZ_ff, ↓T_and, ↓T_imp, ↓T_all, Nat.reduceBEq, Nat.reduceAdd, Nat.reduceSub, Nat.reduceMul, Nat.reduceLT, Nat.reduceLeDiff, Nat.reduceEqDiff, Int.reduceLT, Int.reduceLE, Int.reduceAdd, Int.reduceSub, Int.reduceMul, Int.reduceNeg, Int.reduceToNat, Int.reduceEq, Int.reduceNe, reduceIte, reduceCtorEq, BitVec.reduceOfInt, BitVec.reduceToNat, Bool.false_eq_true]; try simp only [top_out])
    refine dropC_all (by simp) ?_
    rw [getV, hr, if_neg (by simp)] at hK
    exact hK
  · have hlen : at_ + 4 ≤ l.length := by simp [rok] at hr; omega
    (refine top_in ?_; simp -implicitDefEqProofs only [go_sem, -List.reduceReplicate, ↓L_gdZ_tt, ↓L_gdZ_tf, ↓L_gdZ_ft, ↓L_gdZ_ff, ↓T_and, ↓T_imp, ↓T_all, Nat.reduceBEq, Nat.reduceAdd, Nat.reduceSub, Nat.reduceMul, Nat.reduceLT, Nat.reduceLeDiff, Nat.reduceEqDiff, Int.reduceLT, Int.reduceLE, Int.reduceAdd, Int.reduceSub, Int.reduceMul, Int.reduceNeg, Int.reduceToNat, Int.reduceEq, Int.reduceNe, reduceIte, reduceCtorEq, BitVec.reduceOfInt, BitVec.reduceToNat, Nat.reduceEqDiff]; try simp only [top_out])
    rw [getV, hr, if_pos rfl] at hK
    have hb : BAt (M.set m (Blk.row (rdS nb l.length cap (rat l.length at_ err 4) (rerr l.length at_ err 4)) 99)) nb at_ ((l.drop at_).take 4) := by
      have := (ha.set (B := .row (rdS nb l.length cap (rat l.length at_ err 4) (rerr l.length at_ err 4)) 99) hne).sub (a := at_) (k := 4) hlen
      rwa [Nat.zero_add] at this
    have hbl : ((l.drop at_).take 4).length = 4 := by simp; omega
    have hml : M.length ≤ (M.set m (Blk.row (rdS nb l.length cap (rat l.length at_ err 4) (rerr l.length at_ err 4)) 99)).length := by simp
    revert hK hb hml
    generalize M.set m (Blk.row (rdS nb l.length cap (rat l.length at_ err 4) (rerr l.length at_ err 4)) 99) = M1
    generalize (l.drop at_).take 4 = b at hbl
    intro hK hb hml
    refine loop_code tabOK (by kernel_rfl) (fun n ts M' => ∃ k : Nat, k + n = 4 ∧ M' = M1 ∧ frC [none, none, none, none, none, some (.u64 (numB (b.take k))), none, none, none, none, none, none, none, none, none, none, some (.sl nb at_ 4 4), some (.i .i64 4), some (.i .i64 k), none, none, none, none, none, none, none, none, none, none, none] ts) 4 ?_ ?_
    · exact ⟨0, rfl, rfl, by simp [frC, numB]⟩
    · rintro n ts _ ⟨k, hk, rfl, hf⟩
      obtain ⟨f, rfl⟩ := frC_open _ _ 0 hf
      clear hf
      (refine top_in ?_; simp -implicitDefEqProofs only [go_sem, -List.reduceReplicate, ↓L_gdZ_tt, ↓L_gdZ_tf, ↓L_gdZ_ft, ↓L_gdZ_ff, ↓T_and, ↓T_imp, ↓T_all, Nat.reduceBEq, Nat.reduceAdd, Nat.reduceSub, Nat.reduceMul, Nat.reduceLT, Nat.reduceLeDiff, Nat.reduceEqDiff, Int.reduceLT, Int.reduceLE, Int.reduceAdd, Int.reduceSub, Int.reduceMul, Int.reduceNeg, Int.reduceToNat, Int.reduceEq, Int.reduceNe, reduceIte, reduceCtorEq, BitVec.reduceOfInt, BitVec.reduceToNat]; try simp only [top_out])
      refine ⟨fun h => ?_, fun h => ?_⟩
      · rw [hb.is8 (by omega), hb.cell8 (by omega)]
        refine ⟨by omega, by omega, hb.le (by omega), rfl, n - 1, by omega, k + 1, by omega, ?_, by rw [w64 (by omega) (by omega)]; simp⟩
        rw [numB_take (by omega)]
      · obtain rfl : k = 4 := by omega
        rw [List.take_of_length_le (by omega)]
        exact dropC_all hml hK

theorem get64_ok (m nb cap : Nat) (l : List (BitVec 8)) (at_ : Nat) (err : Int) (M : List Blk) (K : SV → List Blk → Prop) (hR : M[m]? = some (.row (rdS nb l.length cap at_ err) 99)) (ha : BAt M nb 0 l) (hne : m ≠ nb)
    (hat : at_ ≤ l.length) (hl : l.length ≤ 140737488355000) (hcap : l.length ≤ cap)
    (hK : K (.u64 (getV l at_ err 8)) (M.set m (.row (rdS nb l.length cap (rat l.length at_ err 8) (rerr l.length at_ err 8)) 99))) :
    callVC Try.prog 58 [.p m 0] M K := by
  refine fn_rule tabOK Try.func58 rfl Try.call58 (by kernel_rfl) (fun hM => ?_)
  (refine top_in ?_; simp -implicitDefEqProofs only [Try.ntmps58, Try.results58, go_sem, -List.reduceReplicate, ↓L_gdZ_tt, ↓L_gdZ_tf, ↓L_gdZ_ft, ↓L_gdZ_ff, ↓T_and, ↓T_imp, ↓T_all, Nat.reduceBEq, Nat.reduceAdd, Nat.reduceSub, Nat.reduceMul, Nat.reduceLT, Nat.reduceLeDiff, Nat.reduceEqDiff, Int.reduceLT, Int.reduceLE, Int.reduceAdd, Int.reduceSub, Int.reduceMul, Int.reduceNeg, Int.reduceToNat, Int.reduceEq, Int.reduceNe, reduceIte, reduceCtorEq, BitVec.reduceOfInt, BitVec.reduceToNat]; try simp only [top_out])
  refine width_uint64 _ _ ?_
  (refine top_in ?_; simp -implicitDefEqProofs only [go_sem, -List.reduceReplicate, ↓L_gdZ_tt, ↓L_gdZ_tf, ↓L_gdZ_ft, ↓L_gdZ_ff, ↓T_and, ↓T_imp, ↓T_all, Nat.reduceBEq, Nat.reduceAdd, Nat.reduceSub, Nat.reduceMul, Nat.reduceLT, Nat.reduceLeDiff, Nat.reduceEqDiff, Int.reduceLT, Int.reduceLE, Int.reduceAdd, Int.reduceSub, Int.reduceMul, Int.reduceNeg, Int.reduceToNat, Int.reduceEq, Int.reduceNe, reduceIte, reduceCtorEq, BitVec.reduceOfInt, BitVec.reduceToNat]; try simp only [top_out])
  refine take_ok m nb cap l at_ err 8 M _ hR ha hat hl hcap (by omega) ?_
  cases hr : rok l.length at_ err 8
  · (refine top_in ?_; simp -implicitDefEqProofs only [go_sem, -List.reduceReplicate, ↓L_gdZ_tt, ↓L_gdZ_tf, ↓L_gdZ_ft, ↓L_gdZ_ff, ↓T_and, ↓T_imp, ↓T_all, Nat.reduceBEq, Nat.reduceAdd, Nat.reduceSub, Nat.reduceMul, Nat.reduceLT, Nat.reduceLeDiff, Nat.reduceEqDiff, Int.reduceLT, Int.reduceLE, Int.reduceAdd, Int.reduceSub, Int.reduceMul, Int.reduceNeg, Int.reduceToNat, Int.reduceEq, Int.reduceNe, reduceIte, reduceCtorEq, BitVec.reduceOfInt, BitVec.reduceToNat, Bool.false_eq_true]; try simp only [top_out])
    refine dropC_all (by simp) ?_
    rw [getV, hr, if_neg (by simp)] at hK
    exact hK
  · have hlen : at_ + 8 ≤ l.length := by simp [rok] at hr; omega
    (refine top_in ?_; simp -implicitDefEqProofs only [go_sem, -List.reduceReplicate, ↓L_gdZ_tt, ↓L_gdZ_tf, ↓L_gdZ_ft, ↓L_gdZ_ff, ↓T_and, ↓T_imp, ↓T_all, Nat.reduceBEq, Nat.reduceAdd, Nat.reduceSub, Nat.reduceMul, Nat.reduceLT, Nat.reduceLeDiff, Nat.reduceEqDiff, Int.reduceLT, Int.reduceLE, Int.reduceAdd, Int.reduceSub, Int.reduceMul, Int.reduceNeg, Int.reduceToNat, Int.reduceEq, Int.reduceNe, reduceIte, reduceCtorEq, BitVec.reduceOfInt, BitVec.reduceToNat, Nat.reduceEqDiff]; try simp only [top_out])
    rw [getV, hr, if_pos rfl] at hK
    have hb : BAt (M.set m (Blk.row (rdS nb l.length cap (rat l.length at_ err 8) (rerr l.length at_ err 8)) 99)) nb at_ ((l.drop at_).take 8) := by
      have := (ha.set (B := .row (rdS nb l.length cap (rat l.length at_ err 8) (rerr l.length at_ err 8)) 99) hne).sub (a := at_) (k := 8) hlen
      rwa [Nat.zero_add] at this
    have hbl : ((l.drop at_).take 8).length = 8 := by simp; omega
    have hml : M.length ≤ (M.set m (Blk.row (rdS nb l.length cap (rat l.length at_ err 8) (rerr l.length at_ err 8)) 99)).length := by simp
    revert hK hb hml
    generalize M.set m (Blk.row (rdS nb l.length cap (rat l.length at_ err 8) (rerr l.length at_ err 8)) 99) = M1
    generalize (l.drop at_).take 8 = b at hbl
    intro hK hb hml
    refine loop_code tabOK (by kernel_rfl) (fun n ts M' => ∃ k : Nat, k + n = 8 ∧ M' = M1 ∧ frC [none, none, none, none, none, some (.u64 (numB (b.take k))), none, none, none, none, none, none, none, none, none, none, some (.sl nb at_ 8 8), some (.i .i64 8), some (.i .i64 k), none, none, none, none, none, none, none, none, none, none] ts) 8 ?_ ?_
    · exact ⟨0, rfl, rfl, by simp [frC, numB]⟩
    · rintro n ts _ ⟨k, hk, rfl, hf⟩
      obtain ⟨f, rfl⟩ := frC_open _ _ 0 hf
      clear hf
      (refine top_in ?_; simp -implicitDefEqProofs only [go_sem, -List.reduceReplicate, ↓L_gdZ_tt, ↓L_gdZ_tf, ↓L_gdZ_ft, ↓L_gdZ_ff, ↓T_and, ↓T_imp, ↓T_all, Nat.reduceBEq, Nat.reduceAdd, Nat.reduceSub, Nat.reduceMul, Nat.reduceLT, Nat.reduceLeDiff, Nat.reduceEqDiff, Int.reduceLT, Int.reduceLE, Int.reduceAdd, Int.reduceSub, Int.reduceMul, Int.reduceNeg, Int.reduceToNat, Int.reduceEq, Int.reduceNe, reduceIte, reduceCtorEq, BitVec.reduceOfInt, BitVec.reduceToNat]; try simp only [top_out])
      refine ⟨fun h => ?_, fun h => ?_⟩
      · rw [hb.is8 (by omega), hb.cell8 (by omega)]
        refine ⟨by omega, by omega, hb.le (by omega), rfl, n - 1, by omega, k + 1, by omega, ?_, by rw [w64 (by omega) (by omega)]; simp⟩
        rw [numB_take (by omega)]
      · obtain rfl : k = 8 := by omega
        rw [List.take_of_length_le (by omega)]
        exact dropC_all hml hK

theorem err_ok (m nb cap : Nat) (len : Nat) (at_ : Nat) (err : Int) (M : List Blk) (K : SV → List Blk → Prop) (hR : M[m]? = some (.row (rdS nb len cap at_ err) 99)) (hK : K (.tup [.i .i64 err, .i .i64 at_]) M) :
    callVC Try.prog 44 [.p m 0] M K := by
  unfold rdS at hR
  refine fn_rule tabOK Try.func44 rfl Try.call44 (by kernel_rfl) (fun hM => ?_)
  (refine top_in ?_; simp -implicitDefEqProofs only [Try.ntmps44, Try.results44, go_sem, -List.reduceReplicate, ↓L_gdZ_tt, ↓L_gdZ_tf, ↓L_gdZ_ft, ↓L_gdZ_ff, ↓T_and, ↓T_imp, ↓T_all, Nat.reduceBEq, Nat.reduceAdd, Nat.reduceSub, Nat.reduceMul, Nat.reduceLT, Nat.reduceLeDiff, Nat.reduceEqDiff, Int.reduceLT, Int.reduceLE, Int.reduceAdd, Int.reduceSub, Int.reduceMul, Int.reduceNeg, Int.reduceToNat, Int.reduceEq, Int.reduceNe, reduceIte, reduceCtorEq, BitVec.reduceOfInt, BitVec.reduceToNat, hR]; try simp only [top_out])
  refine draw_rule tabOK (by kernel_rfl : _) (.p 0 (.p 1 (.p 2 (.p 3 (.p 4 (.p 5 (.p 6 (.p 7 (.p 8 (.p 9 .nil)))))))))) (by kernel_rfl) (by kernel_rfl) ?_
  (refine top_in ?_; simp -implicitDefEqProofs only [go_sem, -List.reduceReplicate, ↓L_gdZ_tt, ↓L_gdZ_tf, ↓L_gdZ_ft, ↓L_gdZ_ff, ↓T_and, ↓T_imp, ↓T_all, Nat.reduceBEq, Nat.reduceAdd, Nat.reduceSub, Nat.reduceMul, Nat.reduceLT, Nat.reduceLeDiff, Nat.reduceEqDiff, Int.reduceLT, Int.reduceLE, Int.reduceAdd, Int.reduceSub, Int.reduceMul, Int.reduceNeg, Int.reduceToNat, Int.reduceEq, Int.reduceNe, reduceIte, reduceCtorEq, BitVec.reduceOfInt, BitVec.reduceToNat, hR]; try simp only [top_out])
  exact dropC_all (Nat.le_refl _) hK

def zerosB (l : List (BitVec 8)) : Bool := l.all (· == 0#8)
theorem zeros_ok (m nb cap : Nat) (l : List (BitVec 8)) (at_ : Nat) (err : Int) (n : Nat) (M : List Blk) (K : SV → List Blk → Prop) (hR : M[m]? = some (.row (rdS nb l.length cap at_ err) 99)) (ha : BAt M nb 0 l) (hne : m ≠ nb)
    (hat : at_ ≤ l.length) (hl : l.length ≤ 140737488355000) (hcap : l.length ≤ cap) (hn : n ≤ 140737488355000)
    (hn0 : 0 < n) (hK : ∀ (at' : Nat) (err' : Int), at' ≤ l.length → (err' = 0 ↔ (rok l.length at_ err n = true ∧ zerosB ((l.drop at_).take n) = true)) → (err' = 0 → at' = at_ + n) →
      K (.tup []) (M.set m (.row (rdS nb l.length cap at' err') 99))) :
    callVC Try.prog 56 [.p m 0, .i .i64 n] M K := by
  refine fn_rule tabOK Try.func56 rfl Try.call56 (by kernel_rfl) (fun hM => ?_)
  (refine top_in ?_; simp -implicitDefEqProofs only [Try.ntmps56, Try.results56, go_sem, -List.reduceReplicate, ↓L_gdZ_tt, ↓L_gdZ_tf, ↓L_gdZ_ft, ↓L_gdZ_ff, ↓T_and, ↓T_imp, ↓T_all, Nat.reduceBEq, Nat.reduceAdd, Nat.reduceSub, Nat.reduceMul, Nat.reduceLT, Nat.reduceLeDiff, Nat.reduceEqDiff, Int.reduceLT, Int.reduceLE, Int.reduceAdd, Int.reduceSub, Int.reduceMul, Int.reduceNeg, Int.reduceToNat, Int.reduceEq, Int.reduceNe, reduceIte, reduceCtorEq, BitVec.reduceOfInt, BitVec.reduceToNat]; try simp only [top_out])
  refine take_ok m nb cap l at_ err n M _ hR ha hat hl hcap hn ?_
  cases hr : rok l.length at_ err n
  · (refine top_in ?_; simp -implicitDefEqProofs only [go_sem, -List.reduceReplicate, ↓L_gdZ_tt, ↓L_gdZ_tf, ↓L_gdZ_ft, ↓L_gdZ_ff, ↓T_and, ↓T_imp, ↓T_all, Nat.reduceBEq, Nat.reduceAdd, Nat.reduceSub, Nat.reduceMul, Nat.reduceLT, Nat.reduceLeDiff, Nat.reduceEqDiff, Int.reduceLT, Int.reduceLE, Int.reduceAdd, Int.reduceSub, Int.reduceMul, Int.reduceNeg, Int.reduceToNat, Int.reduceEq, Int.reduceNe, reduceIte, reduceCtorEq, BitVec.reduceOfInt, BitVec.reduceToNat, Bool.false_eq_true]; try simp only [top_out])
    have hK := hK (rat l.length at_ err n) (rerr l.length at_ err n) (by unfold rat; split <;> omega) (by
      rw [hr]
      refine ⟨fun h => ?_, fun h => by cases h.1⟩
      exfalso
      simp [rok] at hr
      unfold rerr at h
      by_cases he : err = 0
      · rw [if_pos he, if_neg (by have := hr he; omega)] at h; cases h
      · rw [if_neg he] at h; exact he h) (fun h => by
      exfalso
      simp [rok] at hr
      unfold rerr at h
      by_cases he : err = 0
      · rw [if_pos he, if_neg (by have := hr he; omega)] at h; cases h
      · rw [if_neg he] at h; exact he h)
    refine loop_rounds tabOK (by kernel_rfl) 1 ?_
    (refine top_in ?_; simp -implicitDefEqProofs only [go_sem, -List.reduceReplicate, ↓L_gdZ_tt, ↓L_gdZ_tf, ↓L_gdZ_ft, ↓L_gdZ_ff, ↓T_and, ↓T_imp, ↓T_all, Nat.reduceBEq, Nat.reduceAdd, Nat.reduceSub, Nat.reduceMul, Nat.reduceLT, Nat.reduceLeDiff, Nat.reduceEqDiff, Int.reduceLT, Int.reduceLE, Int.reduceAdd, Int.reduceSub, Int.reduceMul, Int.reduceNeg, Int.reduceToNat, Int.reduceEq, Int.reduceNe, reduceIte, reduceCtorEq, BitVec.reduceOfInt, BitVec.reduceToNat]; try simp only [top_out])
    exact dropC_all (by simp) hK
  · have he : err = 0 ∧ at_ + n ≤ l.length := by simpa [rok] using hr
    obtain ⟨rfl, hlen⟩ := he
    have e1 : rat l.length at_ 0 n = at_ + n := if_pos ⟨rfl, hlen⟩
    have e2 : rerr l.length at_ 0 n = 0 := by unfold rerr; rw [if_pos rfl, if_pos hlen]
    have hn' : (n = 0) = False := by simp; omega
    (refine top_in ?_; simp -implicitDefEqProofs only [go_sem, -List.reduceReplicate, ↓L_gdZ_tt, ↓L_gdZ_tf, ↓L_gdZ_ft, ↓L_gdZ_ff, ↓T_and, ↓T_imp, ↓T_all, Nat.reduceBEq, Nat.reduceAdd, Nat.reduceSub, Nat.reduceMul, Nat.reduceLT, Nat.reduceLeDiff, Nat.reduceEqDiff, Int.reduceLT, Int.reduceLE, Int.reduceAdd, Int.reduceSub, Int.reduceMul, Int.reduceNeg, Int.reduceToNat, Int.reduceEq, Int.reduceNe, reduceIte, reduceCtorEq, BitVec.reduceOfInt, BitVec.reduceToNat, e1, e2, hn']; try simp only [top_out])
    have hb : BAt (M.set m (Blk.row (rdS nb l.length cap (at_ + n) 0) 99)) nb at_ ((l.drop at_).take n) := by
      have := (ha.set (B := .row (rdS nb l.length cap (at_ + n) 0) 99) hne).sub (a := at_) (k := n) hlen
      rwa [Nat.zero_add] at this
    have hbl : ((l.drop at_).take n).length = n := by simp; omega
    have hlt : m < M.length := (List.getElem?_eq_some_iff.1 hR).1
    revert hK hb
    generalize (l.drop at_).take n = b at hbl
    intro hK hb
    refine loop_code tabOK (by kernel_rfl) (fun i ts M' => ∃ k : Nat, k + i = n ∧ zerosB (b.take k) = true ∧ M' = M.set m (Blk.row (rdS nb l.length cap (at_ + n) 0) 99) ∧ frC [some (.p m 0), none, none, none, some (.sl nb at_ n n), none, none, none, none, none, none, none, none, none, some (.sl nb at_ n n), some (.i .i64 n), some (.i .i64 k), none, none, none, none, none, none, none, none, none, none, none, none, none, none, none, none, none, none, none, none, none] ts) n ?_ ?_
    · exact ⟨0, by omega, rfl, rfl, by simp [frC]⟩
    · rintro i ts _ ⟨k, hk, hz, rfl, hf⟩
      unfold rdS at hb ⊢
      obtain ⟨f, rfl⟩ := frC_open _ _ 0 hf
      clear hf
      (refine top_in ?_; simp -implicitDefEqProofs only [go_sem, -List.reduceReplicate, ↓L_gdZ_tt, ↓L_gdZ_tf, ↓L_gdZ_ft, ↓L_gdZ_ff, ↓T_and, ↓T_imp, ↓T_all, Nat.reduceBEq, Nat.reduceAdd, Nat.reduceSub, Nat.reduceMul, Nat.reduceLT, Nat.reduceLeDiff, Nat.reduceEqDiff, Int.reduceLT, Int.reduceLE, Int.reduceAdd, Int.reduceSub, Int.reduceMul, Int.reduceNeg, Int.reduceToNat, Int.reduceEq, Int.reduceNe, reduceIte, reduceCtorEq, BitVec.reduceOfInt, BitVec.reduceToNat, List.getElem?_set_self hlt, List.set_set]; try simp only [top_out])
      refine ⟨fun h => ?_, fun h => ?_⟩
      · rw [hb.is8 (by omega), hb.cell8 (by omega)]
        refine ⟨by omega, by omega, hb.le (by omega), rfl, fun h1 => ?_, fun h1 => ?_⟩
        · refine dropC_all (by simp) ?_
          rw [w64 (x := (k : Int) - n) (by omega) (by omega), w64 (by omega) (by omega), show ((at_ + n : Nat) : Int) + ((k : Int) - n) = ((at_ + k : Nat) : Int) by omega]
          refine hK (at_ + k) 11 (by omega) ⟨fun h => (by cases h), fun h => ?_⟩ (fun h => (by cases h))
          exfalso
          have := List.all_eq_true.1 h.2 (b.getD k 0#8) (by rw [List.getD_eq_getElem?_getD, List.getElem?_eq_getElem (by omega)]; exact List.getElem_mem _)
          rw [bne, this] at h1; cases h1
        · refine ⟨i - 1, by omega, k + 1, by omega, ?_, w64 (by omega) (by omega)⟩
          rw [take_snoc (by omega), zerosB, List.all_append, ← zerosB, hz]
          simpa using h1
      · obtain rfl : k = n := by omega
        rw [List.take_of_length_le (by omega)] at hz
        exact dropC_all (by simp) (hK (at_ + k) 0 hlen ⟨fun _ => ⟨hr, hz⟩, fun _ => rfl⟩ (fun _ => rfl))
end Go.Proofs.Ytdkdbeamimkljaa.Eng
