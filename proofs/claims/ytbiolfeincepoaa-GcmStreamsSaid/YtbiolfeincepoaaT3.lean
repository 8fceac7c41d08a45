/- The product of two bytes, as field.Mul8 reckons it. -/
import Derived.Test.YtbiolfeincepoaaTab
import Derived.Test.YtbiolfeincepoaaEngS
namespace Go.Proofs.Ytbiolfeincepoaa.Eng
open Go Go.RowKit
set_option linter.unusedSimpArgs false
set_option linter.unusedVariables false

def xt (a : BitVec 8) : BitVec 8 := if (a &&& 128#8) != 0#8 then (a <<< 1) ^^^ 27#8 else a <<< 1
def mul8L : Nat → BitVec 8 → BitVec 8 → BitVec 8 → BitVec 8
  | 0, _, _, p => p
  | n + 1, a, b, p => mul8L n (xt a) (b >>> 1) (if (b &&& 1#8) != 0#8 then p ^^^ a else p)

theorem mul8_ok (a b : BitVec 8) (M : List Blk) (K : SV → List Blk → Prop) (hK : K (.u8 (mul8L 8 a b 0#8)) M) : callVC Try.prog 49 [.u8 a, .u8 b] M K := by
  refine fn_rule tabOK Try.func49 rfl Try.call49 (by kernel_rfl) (fun hM => ?_)
  (refine top_in ?_; simp -implicitDefEqProofs only [Try.ntmps49, Try.results49, go_sem, -List.reduceReplicate, ↓L_gdZ_tt, ↓L_gdZ_tf, ↓L_gdZ_ft, ↓L_gdZ_ff, ↓T_and, ↓T_imp, ↓T_all, Nat.reduceBEq, Nat.reduceAdd, Nat.reduceSub, Nat.reduceMul, Nat.reduceLT, Nat.reduceLeDiff, Nat.reduceEqDiff, Int.reduceLT, Int.reduceLE, Int.reduceAdd, Int.reduceSub, Int.reduceMul, Int.reduceNeg, Int.reduceToNat, Int.reduceEq, Int.reduceNe, reduceIte, reduceCtorEq, BitVec.reduceOfInt, BitVec.reduceToNat]; try simp only [top_out])
  refine loop_code tabOK (by kernel_rfl) (fun n ts M' => M' = M ∧ ∃ (k : Nat) (a' b' p' : BitVec 8), k + n = 8 ∧ frC [some (.u8 a'), some (.u8 b'), none, none, none, some (.u8 p'), none, some (.i .i64 k), none, none, none, none, none, none, none, none, none, none, none, none, none, none, none, none, none, none, none] ts ∧ mul8L n a' b' p' = mul8L 8 a b 0#8) 8 ?_ ?_
  · exact ⟨rfl, 0, a, b, 0#8, rfl, by simp [frC], rfl⟩
  · rintro n ts _ ⟨rfl, k, a', b', p', hk, hf, hm⟩
    obtain ⟨f, rfl⟩ := frC_open _ _ 0 hf
    clear hf
    (refine top_in ?_; simp -implicitDefEqProofs only [go_sem, -List.reduceReplicate, ↓L_gdZ_tt, ↓L_gdZ_tf, ↓L_gdZ_ft, ↓L_gdZ_ff, ↓T_and, ↓T_imp, ↓T_all, Nat.reduceBEq, Nat.reduceAdd, Nat.reduceSub, Nat.reduceMul, Nat.reduceLT, Nat.reduceLeDiff, Nat.reduceEqDiff, Int.reduceLT, Int.reduceLE, Int.reduceAdd, Int.reduceSub, Int.reduceMul, Int.reduceNeg, Int.reduceToNat, Int.reduceEq, Int.reduceNe, reduceIte, reduceCtorEq, BitVec.reduceOfInt, BitVec.reduceToNat]; try simp only [top_out])
    refine ⟨fun hlt => ?_, fun hge => ?_⟩
    · obtain ⟨n, rfl⟩ : ∃ m, n = m + 1 := ⟨n - 1, by omega⟩
      refine ⟨fun h1 => ⟨fun h2 => ?_, fun h2 => ?_⟩, fun h1 => ⟨fun h2 => ?_, fun h2 => ?_⟩⟩
      all_goals
        refine ⟨n, by omega, k + 1, xt a', b' >>> 1, (if (b' &&& 1#8) != 0#8 then p' ^^^ a' else p'), by omega, ?_, hm⟩
        rw [w64 (by omega) (by omega)]
        simp [xt, h1, h2]
    · have : n = 0 := by omega
      subst this
      rw [← hm] at hK
      exact dropC_self hM rfl hK
end Go.Proofs.Ytbiolfeincepoaa.Eng
