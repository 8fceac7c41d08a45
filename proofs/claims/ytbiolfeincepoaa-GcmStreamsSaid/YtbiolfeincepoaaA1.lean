/- The byte's substitution, as the program and the document reckon it. -/
import Derived.Test.YtbiolfeincepoaaFb
import Derived.Test.YtbiolfeincepoaaU1
namespace Go.Proofs.Ytbiolfeincepoaa.Eng
open Go Go.RowKit
set_option linter.unusedSimpArgs false
set_option linter.unusedVariables false

def sbN (v : BitVec 8) : Nat → BitVec 8
  | 0 => 99#8
  | k + 1 => sbN v k ^^^ (v <<< k ||| v >>> (8 - k))
def sbR (v : BitVec 8) : Nat → BitVec 8
  | 0 => 0#8
  | k + 1 => sbR v k ||| ((v >>> k ^^^ v >>> ((k + 4) % 8) ^^^ v >>> ((k + 5) % 8) ^^^ v >>> ((k + 6) % 8) ^^^ v >>> ((k + 7) % 8) ^^^ 99#8 >>> k) &&& 1#8) <<< k
def sbox (x : BitVec 8) : BitVec 8 := sbN (inv8 x) 5
theorem sbR_sbN (v : BitVec 8) : sbR v 8 = sbN v 5 := all8 (p := fun v => sbR v 8 = sbN v 5) (by decide +kernel) v

theorem sbox_ok (x : BitVec 8) (M : List Blk) (K : SV → List Blk → Prop) (hK : K (.u8 (sbox x)) M) : callVC Try.prog 23 [.u8 x] M K := by
  refine fn_rule tabOK Try.func23 rfl Try.call23 (by kernel_rfl) (fun hM => ?_)
  (refine top_in ?_; simp -implicitDefEqProofs only [Try.ntmps23, Try.results23, go_sem, -List.reduceReplicate, ↓L_gdZ_tt, ↓L_gdZ_tf, ↓L_gdZ_ft, ↓L_gdZ_ff, ↓T_and, ↓T_imp, ↓T_all, Nat.reduceBEq, Nat.reduceAdd, Nat.reduceSub, Nat.reduceMul, Nat.reduceLT, Nat.reduceLeDiff, Nat.reduceEqDiff, Int.reduceLT, Int.reduceLE, Int.reduceAdd, Int.reduceSub, Int.reduceMul, Int.reduceNeg, Int.reduceToNat, Int.reduceEq, Int.reduceNe, reduceIte, reduceCtorEq, BitVec.reduceOfInt, BitVec.reduceToNat]; try simp only [top_out])
  refine inv8_ok _ _ _ ?_
  (refine top_in ?_; simp -implicitDefEqProofs only [go_sem, -List.reduceReplicate, ↓L_gdZ_tt, ↓L_gdZ_tf, ↓L_gdZ_ft, ↓L_gdZ_ff, ↓T_and, ↓T_imp, ↓T_all, Nat.reduceBEq, Nat.reduceAdd, Nat.reduceSub, Nat.reduceMul, Nat.reduceLT, Nat.reduceLeDiff, Nat.reduceEqDiff, Int.reduceLT, Int.reduceLE, Int.reduceAdd, Int.reduceSub, Int.reduceMul, Int.reduceNeg, Int.reduceToNat, Int.reduceEq, Int.reduceNe, reduceIte, reduceCtorEq, BitVec.reduceOfInt, BitVec.reduceToNat]; try simp only [top_out])
  have hK' : ∀ v, inv8 x = v → K (.u8 (sbN v 5)) M := fun v h => h ▸ hK
  generalize hv : inv8 x = v
  have hK := hK' v hv
  clear hK' hv
  refine loop_code tabOK (by kernel_rfl) (fun n ts M' => M = M' ∧ ∃ k : Nat, k + n = 5 ∧ frC [none, none, none, some (.u8 v), some (.u8 (sbN v k)), none, none, none, none, some (.agg [.i .i64 0, .i .i64 1, .i .i64 2, .i .i64 3, .i .i64 4]), some (.i .i64 k), none, none, none, none, none, none, none, none, none, none, none, none, none, none] ts) 5 ?_ ?_
  · exact ⟨rfl, 0, rfl, by simp [frC, sbN]⟩
  · rintro n ts _ ⟨rfl, k, hk, hf⟩
    obtain ⟨f, rfl⟩ := frC_open _ _ 0 hf
    clear hf
    (refine top_in ?_; simp -implicitDefEqProofs only [go_sem, -List.reduceReplicate, ↓L_gdZ_tt, ↓L_gdZ_tf, ↓L_gdZ_ft, ↓L_gdZ_ff, ↓T_and, ↓T_imp, ↓T_all, Nat.reduceBEq, Nat.reduceAdd, Nat.reduceSub, Nat.reduceMul, Nat.reduceLT, Nat.reduceLeDiff, Nat.reduceEqDiff, Int.reduceLT, Int.reduceLE, Int.reduceAdd, Int.reduceSub, Int.reduceMul, Int.reduceNeg, Int.reduceToNat, Int.reduceEq, Int.reduceNe, reduceIte, reduceCtorEq, BitVec.reduceOfInt, BitVec.reduceToNat]; try simp only [top_out])
    refine ⟨fun h => ?_, fun h => ?_⟩
    · have e : isI IntKind.i64 [SV.i IntKind.i64 0, SV.i IntKind.i64 1, SV.i IntKind.i64 2, SV.i IntKind.i64 3, SV.i IntKind.i64 4] k = true ∧
          cellI [SV.i IntKind.i64 0, SV.i IntKind.i64 1, SV.i IntKind.i64 2, SV.i IntKind.i64 3, SV.i IntKind.i64 4] k = k := by
        rcases (by omega : k = 0 ∨ k = 1 ∨ k = 2 ∨ k = 3 ∨ k = 4) with rfl | rfl | rfl | rfl | rfl <;> exact ⟨rfl, rfl⟩
      rw [e.1, e.2]
      refine ⟨by omega, h, rfl, ?_⟩
      refine draw_rule tabOK (by kernel_rfl : _) (.p 0 (.p 1 (.p 2 (.p 3 (.p 4 (.p 5 (.p 6 (.p 7 (.p 8 (.p 9 (.p 10 .nil))))))))))) (by kernel_rfl) (by kernel_rfl) ?_
      (refine top_in ?_; simp -implicitDefEqProofs only [go_sem, -List.reduceReplicate, ↓L_gdZ_tt, ↓L_gdZ_tf, ↓L_gdZ_ft, ↓L_gdZ_ff, ↓T_and, ↓T_imp, ↓T_all, Nat.reduceBEq, Nat.reduceAdd, Nat.reduceSub, Nat.reduceMul, Nat.reduceLT, Nat.reduceLeDiff, Nat.reduceEqDiff, Int.reduceLT, Int.reduceLE, Int.reduceAdd, Int.reduceSub, Int.reduceMul, Int.reduceNeg, Int.reduceToNat, Int.reduceEq, Int.reduceNe, reduceIte, reduceCtorEq, BitVec.reduceOfInt, BitVec.reduceToNat]; try simp only [top_out])
      rw [w64 (x := 8 - (k : Int)) (by omega) (by omega), show 8 - (k : Int) = ((8 - k : Nat) : Int) by omega, Int.toNat_natCast, w64 (x := (k : Int) + 1) (by omega) (by omega)]
      exact ⟨by omega, by omega, n - 1, by omega, k + 1, by omega, rfl, by omega⟩
    · obtain rfl : k = 5 := by omega
      exact dropC_self hM rfl hK
theorem refsbox_ok (x : BitVec 8) (M : List Blk) (K : SV → List Blk → Prop) (hK : K (.u8 (sbox x)) M) : callVC Try.prog 33 [.u8 x] M K := by
  refine fn_rule tabOK Try.func33 rfl Try.call33 (by kernel_rfl) (fun hM => ?_)
  (refine top_in ?_; simp -implicitDefEqProofs only [Try.ntmps33, Try.results33, go_sem, -List.reduceReplicate, ↓L_gdZ_tt, ↓L_gdZ_tf, ↓L_gdZ_ft, ↓L_gdZ_ff, ↓T_and, ↓T_imp, ↓T_all, Nat.reduceBEq, Nat.reduceAdd, Nat.reduceSub, Nat.reduceMul, Nat.reduceLT, Nat.reduceLeDiff, Nat.reduceEqDiff, Int.reduceLT, Int.reduceLE, Int.reduceAdd, Int.reduceSub, Int.reduceMul, Int.reduceNeg, Int.reduceToNat, Int.reduceEq, Int.reduceNe, reduceIte, reduceCtorEq, BitVec.reduceOfInt, BitVec.reduceToNat]; try simp only [top_out])
  refine refinv8_ok _ _ (ref_inv x) _ _ ?_
  (refine top_in ?_; simp -implicitDefEqProofs only [go_sem, -List.reduceReplicate, ↓L_gdZ_tt, ↓L_gdZ_tf, ↓L_gdZ_ft, ↓L_gdZ_ff, ↓T_and, ↓T_imp, ↓T_all, Nat.reduceBEq, Nat.reduceAdd, Nat.reduceSub, Nat.reduceMul, Nat.reduceLT, Nat.reduceLeDiff, Nat.reduceEqDiff, Int.reduceLT, Int.reduceLE, Int.reduceAdd, Int.reduceSub, Int.reduceMul, Int.reduceNeg, Int.reduceToNat, Int.reduceEq, Int.reduceNe, reduceIte, reduceCtorEq, BitVec.reduceOfInt, BitVec.reduceToNat]; try simp only [top_out])
  have hK' : ∀ v, inv8 x = v → K (.u8 (sbR v 8)) M := fun v h => by subst h; rw [sbR_sbN]; exact hK
  generalize hv : inv8 x = v
  have hK := hK' v hv
  clear hK' hv
  refine loop_code tabOK (by kernel_rfl) (fun n ts M' => M = M' ∧ ∃ k : Nat, k + n = 8 ∧ frC [none, none, none, some (.u8 v), some (.u8 (sbR v k)), some (.i .i64 k), none, none, none, none, none, none, none, none, none, none, none, none, none, none, none, none, none, none, none, none, none, none, none, none, none, none, none, none, none, none, none, none, none, none, none, none, none, none, none, none, none, none, none, none, none, none, none, none, none, none, none] ts) 8 ?_ ?_
  · exact ⟨rfl, 0, rfl, by simp [frC, sbR]⟩
  · rintro n ts _ ⟨rfl, k, hk, hf⟩
    obtain ⟨f, rfl⟩ := frC_open _ _ 0 hf
    clear hf
    (refine top_in ?_; simp -implicitDefEqProofs only [go_sem, -List.reduceReplicate, ↓L_gdZ_tt, ↓L_gdZ_tf, ↓L_gdZ_ft, ↓L_gdZ_ff, ↓T_and, ↓T_imp, ↓T_all, Nat.reduceBEq, Nat.reduceAdd, Nat.reduceSub, Nat.reduceMul, Nat.reduceLT, Nat.reduceLeDiff, Nat.reduceEqDiff, Int.reduceLT, Int.reduceLE, Int.reduceAdd, Int.reduceSub, Int.reduceMul, Int.reduceNeg, Int.reduceToNat, Int.reduceEq, Int.reduceNe, reduceIte, reduceCtorEq, BitVec.reduceOfInt, BitVec.reduceToNat]; try simp only [top_out])
    refine ⟨fun h => ?_, fun h => ?_⟩
    · have e0 : ∀ j : Nat, j ≤ 7 → (BitVec.ofInt 64 ((IntKind.i64.wrap ((k : Int) + j)).tmod 8)).toNat = (k + j) % 8 := fun j hj => by
        rw [w64 (by omega) (by omega), Int.tmod_eq_emod_of_nonneg (by omega), show ((k : Int) + j) % 8 = (((k + j) % 8 : Nat) : Int) by omega, BitVec.ofInt_natCast, BitVec.toNat_ofNat]
        omega
      have e1 : (BitVec.ofInt 64 (k : Int)).toNat = k := by rw [BitVec.ofInt_natCast, BitVec.toNat_ofNat]; omega
      have e4 := e0 4 (by omega)
      have e5 := e0 5 (by omega)
      have e6 := e0 6 (by omega)
      have e7 := e0 7 (by omega)
      simp only [Int.cast_ofNat_Int] at e4 e5 e6 e7
      rw [e1, e4, e5, e6, e7, w64 (x := (k : Int) + 1) (by omega) (by omega)]
      exact ⟨n - 1, by omega, k + 1, by omega, rfl, by omega⟩
    · obtain rfl : k = 8 := by omega
      exact dropC_self hM rfl hK
end Go.Proofs.Ytbiolfeincepoaa.Eng
