/- The document's product of bytes and both inverses, as the program reckons them. -/
import Derived.Test.YtbiolfeincepoaaT4
import Derived.Test.YtbiolfeincepoaaT3
namespace Go.Proofs.Ytbiolfeincepoaa.Eng
open Go Go.RowKit
set_option linter.unusedSimpArgs false
set_option linter.unusedVariables false

/-- the document's product: a's shifts, then the reduction -/
def accN (a b : BitVec 8) : Nat → BitVec 64
  | 0 => 0#64
  | k + 1 => if ((b >>> k) &&& 1#8) = 1#8 then accN a b k ^^^ (a.setWidth 64 <<< k) else accN a b k
def redN (p : BitVec 64) : Nat → BitVec 64
  | 0 => p
  | k + 1 => if ((redN p k >>> (14 - k)) &&& 1#64) = 1#64 then redN p k ^^^ (283#64 <<< (14 - k - 8)) else redN p k
def ref8 (a b : BitVec 8) : BitVec 8 := (redN (accN a b 8) 7).setWidth 8

theorem refmul8_ok (a b : BitVec 8) (M : List Blk) (K : SV → List Blk → Prop) (hK : K (.u8 (ref8 a b)) M) :
    callVC Try.prog 34 [.u8 a, .u8 b] M K := by
  refine fn_rule tabOK Try.func34 rfl Try.call34 (by kernel_rfl) (fun hM => ?_)
  (refine top_in ?_; simp -implicitDefEqProofs only [Try.ntmps34, Try.results34, go_sem, -List.reduceReplicate, ↓L_gdZ_tt, ↓L_gdZ_tf, ↓L_gdZ_ft, ↓L_gdZ_ff, ↓T_and, ↓T_imp, ↓T_all, Nat.reduceBEq, Nat.reduceAdd, Nat.reduceSub, Nat.reduceMul, Nat.reduceLT, Nat.reduceLeDiff, Nat.reduceEqDiff, Int.reduceLT, Int.reduceLE, Int.reduceAdd, Int.reduceSub, Int.reduceMul, Int.reduceNeg, Int.reduceToNat, Int.reduceEq, Int.reduceNe, reduceIte, reduceCtorEq, BitVec.reduceOfInt, BitVec.reduceToNat]; try simp only [top_out])
  have hM0 := hM
  refine loop_code tabOK (by kernel_rfl) (fun n ts M' => M = M' ∧ ∃ k : Nat, k + n = 8 ∧ frC [none, some (.u8 b), none, none, none, some (.u64 (a.setWidth 64)), some (.u64 (accN a b k)), some (.i .i64 k), none, none, none, none, none, none, none, none, none, none, none, none, none, none, none, none, none, none, none, none, none, none, none, none, none, none, none, none, none, none, none, none, none, none, none, none, none] ts) 8 ?_ ?_
  · exact ⟨rfl, 0, rfl, by simp [frC, accN]⟩
  · rintro n ts _ ⟨rfl, k, hk, hf⟩
    obtain ⟨f, rfl⟩ := frC_open _ _ 0 hf
    clear hf
    (refine top_in ?_; simp -implicitDefEqProofs only [go_sem, -List.reduceReplicate, ↓L_gdZ_tt, ↓L_gdZ_tf, ↓L_gdZ_ft, ↓L_gdZ_ff, ↓T_and, ↓T_imp, ↓T_all, Nat.reduceBEq, Nat.reduceAdd, Nat.reduceSub, Nat.reduceMul, Nat.reduceLT, Nat.reduceLeDiff, Nat.reduceEqDiff, Int.reduceLT, Int.reduceLE, Int.reduceAdd, Int.reduceSub, Int.reduceMul, Int.reduceNeg, Int.reduceToNat, Int.reduceEq, Int.reduceNe, reduceIte, reduceCtorEq, BitVec.reduceOfInt, BitVec.reduceToNat]; try simp only [top_out])
    refine ⟨fun h => ?_, fun h => ?_⟩
    · rw [w64 (x := (k : Int) + 1) (by omega) (by omega), show (BitVec.ofInt 64 (k : Int)).toNat = k by rw [BitVec.ofInt_natCast, BitVec.toNat_ofNat]; omega]
      refine ⟨fun h1 => ?_, fun h1 => ?_⟩
      all_goals
        refine ⟨n - 1, by omega, k + 1, by omega, ?_, by omega⟩
        simp only [beq_iff_eq, beq_eq_false_iff_ne, ne_eq] at h1
        simp only [accN, h1, if_true, if_false]
    · obtain rfl : k = 8 := by omega
      refine loop_code tabOK (by kernel_rfl) (fun n ts M' => M = M' ∧ n < 8 ∧ frC [none, none, none, none, none, none, some (.u64 (redN (accN a b 8) (7 - n))), none, some (.i .i64 (n + 7)), none, none, none, none, none, none, none, none, none, none, none, none, none, none, none, none, none, none, none, none, none, none, none, none, none, none, none, none, none, none, none, none, none, none, none, none] ts) 7 ?_ ?_
      · exact ⟨rfl, by omega, by simp [frC, redN]⟩
      · clear hk h f
        rintro n ts _ ⟨rfl, hn, hf⟩
        obtain ⟨f, rfl⟩ := frC_open _ _ 0 hf
        clear hf
        (refine top_in ?_; simp -implicitDefEqProofs only [go_sem, -List.reduceReplicate, ↓L_gdZ_tt, ↓L_gdZ_tf, ↓L_gdZ_ft, ↓L_gdZ_ff, ↓T_and, ↓T_imp, ↓T_all, Nat.reduceBEq, Nat.reduceAdd, Nat.reduceSub, Nat.reduceMul, Nat.reduceLT, Nat.reduceLeDiff, Nat.reduceEqDiff, Int.reduceLT, Int.reduceLE, Int.reduceAdd, Int.reduceSub, Int.reduceMul, Int.reduceNeg, Int.reduceToNat, Int.reduceEq, Int.reduceNe, reduceIte, reduceCtorEq, BitVec.reduceOfInt, BitVec.reduceToNat]; try simp only [top_out])
        refine ⟨fun h => ?_, fun h => ?_⟩
        · obtain ⟨m, rfl⟩ : ∃ m, n = m + 1 := ⟨n - 1, by omega⟩
          rw [w64 (x := ((m + 1 : Nat) : Int) + 7 - 1) (by omega) (by omega), w64 (x := ((m + 1 : Nat) : Int) + 7 - 8) (by omega) (by omega)]
          have e1 : (BitVec.ofInt 64 (((m + 1 : Nat) : Int) + 7)).toNat = 14 - (7 - (m + 1)) := by
            rw [show ((m + 1 : Nat) : Int) + 7 = ((14 - (7 - (m + 1)) : Nat) : Int) by omega, BitVec.ofInt_natCast, BitVec.toNat_ofNat]; omega
          have e2 : (BitVec.ofInt 64 (((m + 1 : Nat) : Int) + 7 - 8)).toNat = 14 - (7 - (m + 1)) - 8 := by
            rw [show ((m + 1 : Nat) : Int) + 7 - 8 = ((14 - (7 - (m + 1)) - 8 : Nat) : Int) by omega, BitVec.ofInt_natCast, BitVec.toNat_ofNat]; omega
          rw [e1, e2]
          have e3 : redN (accN a b 8) (7 - m) = redN (accN a b 8) ((7 - (m + 1)) + 1) := by congr 1; omega
          refine ⟨fun h1 => ?_, fun h1 => ?_⟩
          all_goals
            refine ⟨m, by omega, by omega, ?_, by omega⟩
            simp only [beq_iff_eq, beq_eq_false_iff_ne, ne_eq] at h1
            rw [e3]
            simp only [redN, h1, if_true, if_false]
        · obtain rfl : n = 0 := by omega
          exact dropC_self hM0 rfl hK

def inv8N (a : BitVec 8) : Nat → BitVec 8 × BitVec 8
  | 0 => (a, 1#8)
  | k + 1 => let a' := mul8L 8 (inv8N a k).1 (inv8N a k).1 0#8; (a', mul8L 8 (inv8N a k).2 a' 0#8)
def inv8 (a : BitVec 8) : BitVec 8 := (inv8N a 7).2

theorem inv8_ok (a : BitVec 8) (M : List Blk) (K : SV → List Blk → Prop) (hK : K (.u8 (inv8 a)) M) :
    callVC Try.prog 39 [.u8 a] M K := by
  refine fn_rule tabOK Try.func39 rfl Try.call39 (by kernel_rfl) (fun hM => ?_)
  (refine top_in ?_; simp -implicitDefEqProofs only [Try.ntmps39, Try.results39, go_sem, -List.reduceReplicate, ↓L_gdZ_tt, ↓L_gdZ_tf, ↓L_gdZ_ft, ↓L_gdZ_ff, ↓T_and, ↓T_imp, ↓T_all, Nat.reduceBEq, Nat.reduceAdd, Nat.reduceSub, Nat.reduceMul, Nat.reduceLT, Nat.reduceLeDiff, Nat.reduceEqDiff, Int.reduceLT, Int.reduceLE, Int.reduceAdd, Int.reduceSub, Int.reduceMul, Int.reduceNeg, Int.reduceToNat, Int.reduceEq, Int.reduceNe, reduceIte, reduceCtorEq, BitVec.reduceOfInt, BitVec.reduceToNat]; try simp only [top_out])
  refine loop_code tabOK (by kernel_rfl) (fun n ts M' => M = M' ∧ ∃ k : Nat, k + n = 7 ∧ frC [some (.u8 (inv8N a k).1), none, none, some (.u8 (inv8N a k).2), some (.i .i64 k), none, none, none, none, none, none, none, none, none] ts) 7 ?_ ?_
  · exact ⟨rfl, 0, rfl, by simp [frC, inv8N]⟩
  · rintro n ts _ ⟨rfl, k, hk, hf⟩
    obtain ⟨f, rfl⟩ := frC_open _ _ 0 hf
    clear hf
    (refine top_in ?_; simp -implicitDefEqProofs only [go_sem, -List.reduceReplicate, ↓L_gdZ_tt, ↓L_gdZ_tf, ↓L_gdZ_ft, ↓L_gdZ_ff, ↓T_and, ↓T_imp, ↓T_all, Nat.reduceBEq, Nat.reduceAdd, Nat.reduceSub, Nat.reduceMul, Nat.reduceLT, Nat.reduceLeDiff, Nat.reduceEqDiff, Int.reduceLT, Int.reduceLE, Int.reduceAdd, Int.reduceSub, Int.reduceMul, Int.reduceNeg, Int.reduceToNat, Int.reduceEq, Int.reduceNe, reduceIte, reduceCtorEq, BitVec.reduceOfInt, BitVec.reduceToNat]; try simp only [top_out])
    refine ⟨fun h => ?_, fun h => ?_⟩
    · have hw := w64 (x := (k : Int) + 1) (by omega) (by omega)
      refine mul8_ok _ _ _ _ ?_
      (refine top_in ?_; simp -implicitDefEqProofs only [go_sem, -List.reduceReplicate, ↓L_gdZ_tt, ↓L_gdZ_tf, ↓L_gdZ_ft, ↓L_gdZ_ff, ↓T_and, ↓T_imp, ↓T_all, Nat.reduceBEq, Nat.reduceAdd, Nat.reduceSub, Nat.reduceMul, Nat.reduceLT, Nat.reduceLeDiff, Nat.reduceEqDiff, Int.reduceLT, Int.reduceLE, Int.reduceAdd, Int.reduceSub, Int.reduceMul, Int.reduceNeg, Int.reduceToNat, Int.reduceEq, Int.reduceNe, reduceIte, reduceCtorEq, BitVec.reduceOfInt, BitVec.reduceToNat]; try simp only [top_out])
      refine mul8_ok _ _ _ _ ?_
      (refine top_in ?_; simp -implicitDefEqProofs only [go_sem, -List.reduceReplicate, ↓L_gdZ_tt, ↓L_gdZ_tf, ↓L_gdZ_ft, ↓L_gdZ_ff, ↓T_and, ↓T_imp, ↓T_all, Nat.reduceBEq, Nat.reduceAdd, Nat.reduceSub, Nat.reduceMul, Nat.reduceLT, Nat.reduceLeDiff, Nat.reduceEqDiff, Int.reduceLT, Int.reduceLE, Int.reduceAdd, Int.reduceSub, Int.reduceMul, Int.reduceNeg, Int.reduceToNat, Int.reduceEq, Int.reduceNe, reduceIte, reduceCtorEq, BitVec.reduceOfInt, BitVec.reduceToNat, hw]; try simp only [top_out])
      exact ⟨n - 1, by omega, k + 1, by omega, rfl, rfl, rfl⟩
    · obtain rfl : k = 7 := by omega
      exact dropC_self hM rfl hK

/-- no byte ahead of b has the product 1 with a -/
theorem refinv8_ok (a r : BitVec 8) (hr : (∀ b : Nat, 1 ≤ b → b < 256 → ref8 a (BitVec.ofNat 8 b) = 1#8 → BitVec.ofNat 8 b = r) ∧ ((∀ b : Nat, 1 ≤ b → b < 256 → ref8 a (BitVec.ofNat 8 b) ≠ 1#8) → r = 0#8)) (M : List Blk) (K : SV → List Blk → Prop) (hK : K (.u8 r) M) :
    callVC Try.prog 44 [.u8 a] M K := by
  refine fn_rule tabOK Try.func44 rfl Try.call44 (by kernel_rfl) (fun hM => ?_)
  (refine top_in ?_; simp -implicitDefEqProofs only [Try.ntmps44, Try.results44, go_sem, -List.reduceReplicate, ↓L_gdZ_tt, ↓L_gdZ_tf, ↓L_gdZ_ft, ↓L_gdZ_ff, ↓T_and, ↓T_imp, ↓T_all, Nat.reduceBEq, Nat.reduceAdd, Nat.reduceSub, Nat.reduceMul, Nat.reduceLT, Nat.reduceLeDiff, Nat.reduceEqDiff, Int.reduceLT, Int.reduceLE, Int.reduceAdd, Int.reduceSub, Int.reduceMul, Int.reduceNeg, Int.reduceToNat, Int.reduceEq, Int.reduceNe, reduceIte, reduceCtorEq, BitVec.reduceOfInt, BitVec.reduceToNat]; try simp only [top_out])
  refine loop_code tabOK (by kernel_rfl) (fun n ts M' => M = M' ∧ ∃ k : Nat, k + n = 256 ∧ 1 ≤ k ∧ (∀ b : Nat, 1 ≤ b → b < k → ref8 a (BitVec.ofNat 8 b) ≠ 1#8) ∧ frC [some (.u8 a), none, none, some (.i .i64 k), none, none, none, none, none, none, none, none, none, none, none, none, none] ts) 255 ?_ ?_
  · exact ⟨rfl, 1, rfl, by omega, fun b h1 h2 => by omega, by simp [frC]⟩
  · rintro n ts _ ⟨rfl, k, hk, h1, hno, hf⟩
    obtain ⟨f, rfl⟩ := frC_open _ _ 0 hf
    clear hf
    (refine top_in ?_; simp -implicitDefEqProofs only [go_sem, -List.reduceReplicate, ↓L_gdZ_tt, ↓L_gdZ_tf, ↓L_gdZ_ft, ↓L_gdZ_ff, ↓T_and, ↓T_imp, ↓T_all, Nat.reduceBEq, Nat.reduceAdd, Nat.reduceSub, Nat.reduceMul, Nat.reduceLT, Nat.reduceLeDiff, Nat.reduceEqDiff, Int.reduceLT, Int.reduceLE, Int.reduceAdd, Int.reduceSub, Int.reduceMul, Int.reduceNeg, Int.reduceToNat, Int.reduceEq, Int.reduceNe, reduceIte, reduceCtorEq, BitVec.reduceOfInt, BitVec.reduceToNat]; try simp only [top_out])
    refine ⟨fun h => ?_, fun h => ?_⟩
    · refine refmul8_ok _ _ _ _ ?_
      (refine top_in ?_; simp -implicitDefEqProofs only [go_sem, -List.reduceReplicate, ↓L_gdZ_tt, ↓L_gdZ_tf, ↓L_gdZ_ft, ↓L_gdZ_ff, ↓T_and, ↓T_imp, ↓T_all, Nat.reduceBEq, Nat.reduceAdd, Nat.reduceSub, Nat.reduceMul, Nat.reduceLT, Nat.reduceLeDiff, Nat.reduceEqDiff, Int.reduceLT, Int.reduceLE, Int.reduceAdd, Int.reduceSub, Int.reduceMul, Int.reduceNeg, Int.reduceToNat, Int.reduceEq, Int.reduceNe, reduceIte, reduceCtorEq, BitVec.reduceOfInt, BitVec.reduceToNat]; try simp only [top_out])
      rw [w64 (x := (k : Int) + 1) (by omega) (by omega), BitVec.ofInt_natCast]
      refine ⟨fun h2 => ?_, fun h2 => ?_⟩
      · simp only [beq_iff_eq] at h2
        rw [hr.1 k h1 (by omega) h2]
        exact dropC_self hM rfl hK
      · simp only [beq_eq_false_iff_ne, ne_eq] at h2
        refine ⟨n - 1, by omega, k + 1, by omega, by omega, fun b hb1 hb2 => ?_, by omega⟩
        by_cases e : b = k
        · subst e; exact h2
        · exact hno b hb1 (by omega)
    · obtain rfl : k = 256 := by omega
      rw [hr.2 hno] at hK
      exact dropC_self hM rfl hK
end Go.Proofs.Ytbiolfeincepoaa.Eng
