/- The widths of numbers; numbers as bytes, laid behind a list. -/
import Derived.Test.YtdkdbeamimkljaaU1
namespace Go.Proofs.Ytdkdbeamimkljaa.Eng
open Go Go.RowKit
set_option linter.unusedSimpArgs false
set_option linter.unusedVariables false

/-- the n bytes of a number, highest first -/
def beL (n : Nat) (x : BitVec 64) : List (BitVec 8) := gl n fun j => (x >>> (8 * (n - 1 - j))).setWidth 8
@[go_sem] theorem beL_len (n : Nat) (x : BitVec 64) : (beL n x).length = n := gl_len
theorem set_right {α : Type} (l r : List α) (j : Nat) (v : α) : (l ++ r).set (l.length + j) v = l ++ r.set j v := by
  rw [List.set_append_right _ _ (by omega)]; congr 2; omega

theorem width_uint8 (M : List Blk) (K : SV → List Blk → Prop) (hK : K (.i .i64 1) M) : callVC Try.prog 63 [] M K := by
  refine fn_rule tabOK Try.func63 rfl Try.call63 (by kernel_rfl) (fun hM => ?_)
  (refine top_in ?_; simp -implicitDefEqProofs only [Try.ntmps63, Try.results63, go_sem, -List.reduceReplicate, ↓L_gdZ_tt, ↓L_gdZ_tf, ↓L_gdZ_ft, ↓L_gdZ_ff, ↓T_and, ↓T_imp, ↓T_all, Nat.reduceBEq, Nat.reduceAdd, Nat.reduceSub, Nat.reduceMul, Nat.reduceLT, Nat.reduceLeDiff, Nat.reduceEqDiff, Int.reduceLT, Int.reduceLE, Int.reduceAdd, Int.reduceSub, Int.reduceMul, Int.reduceNeg, Int.reduceToNat, Int.reduceEq, Int.reduceNe, reduceIte, reduceCtorEq, BitVec.reduceOfInt, BitVec.reduceToNat]; try simp only [top_out])
  refine loop_code tabOK (by kernel_rfl) (fun m ts M' => ∃ k : Nat, k + m = 1 ∧ M' = M ∧ frC [none, some (.i .i64 k), some (.u64 (255#64 >>> (8 * k))), none, none, none, none, none, none, none, none, none, none] ts) 1 ?_ ?_
  · exact ⟨0, rfl, rfl, by simp only [frC]; exact ⟨rfl, rfl, trivial⟩⟩
  · rintro m ts _ ⟨k, hk, rfl, hf⟩
    obtain ⟨f, rfl⟩ := frC_open _ _ 0 hf
    clear hf
    (refine top_in ?_; simp -implicitDefEqProofs only [go_sem, -List.reduceReplicate, ↓L_gdZ_tt, ↓L_gdZ_tf, ↓L_gdZ_ft, ↓L_gdZ_ff, ↓T_and, ↓T_imp, ↓T_all, Nat.reduceBEq, Nat.reduceAdd, Nat.reduceSub, Nat.reduceMul, Nat.reduceLT, Nat.reduceLeDiff, Nat.reduceEqDiff, Int.reduceLT, Int.reduceLE, Int.reduceAdd, Int.reduceSub, Int.reduceMul, Int.reduceNeg, Int.reduceToNat, Int.reduceEq, Int.reduceNe, reduceIte, reduceCtorEq, BitVec.reduceOfInt, BitVec.reduceToNat]; try simp only [top_out])
    refine ⟨fun h => ?_, fun h => ?_⟩
    · have hlt : k < 1 := (by decide : ∀ k, k < 2 → ((255#64 >>> (8 * k)) != 0#64) = true → k < 1) k (by omega) h
      refine ⟨m - 1, by omega, k + 1, by omega, w64 (by omega) (by omega), ?_⟩
      rw [← BitVec.shiftRight_add, Nat.mul_add]
    · have hlt : k = 1 := (by decide : ∀ k, k < 2 → ((255#64 >>> (8 * k)) != 0#64) = false → k = 1) k (by omega) h
      subst hlt
      exact dropC_self hM rfl hK

theorem width_uint32 (M : List Blk) (K : SV → List Blk → Prop) (hK : K (.i .i64 4) M) : callVC Try.prog 54 [] M K := by
  refine fn_rule tabOK Try.func54 rfl Try.call54 (by kernel_rfl) (fun hM => ?_)
  (refine top_in ?_; simp -implicitDefEqProofs only [Try.ntmps54, Try.results54, go_sem, -List.reduceReplicate, ↓L_gdZ_tt, ↓L_gdZ_tf, ↓L_gdZ_ft, ↓L_gdZ_ff, ↓T_and, ↓T_imp, ↓T_all, Nat.reduceBEq, Nat.reduceAdd, Nat.reduceSub, Nat.reduceMul, Nat.reduceLT, Nat.reduceLeDiff, Nat.reduceEqDiff, Int.reduceLT, Int.reduceLE, Int.reduceAdd, Int.reduceSub, Int.reduceMul, Int.reduceNeg, Int.reduceToNat, Int.reduceEq, Int.reduceNe, reduceIte, reduceCtorEq, BitVec.reduceOfInt, BitVec.reduceToNat]; try simp only [top_out])
  refine loop_code tabOK (by kernel_rfl) (fun m ts M' => ∃ k : Nat, k + m = 4 ∧ M' = M ∧ frC [none, some (.i .i64 k), some (.u64 (4294967295#64 >>> (8 * k))), none, none, none, none, none, none, none, none, none, none] ts) 4 ?_ ?_
  · exact ⟨0, rfl, rfl, by simp only [frC]; exact ⟨rfl, rfl, trivial⟩⟩
  · rintro m ts _ ⟨k, hk, rfl, hf⟩
    obtain ⟨f, rfl⟩ := frC_open _ _ 0 hf
    clear hf
    (refine top_in ?_; simp -implicitDefEqProofs only [go_sem, -List.reduceReplicate, ↓L_gdZ_tt, ↓L_gdZ_tf, ↓L_gdZ_ft, ↓L_gdZ_ff, ↓T_and, ↓T_imp, ↓T_all, Nat.reduceBEq, Nat.reduceAdd, Nat.reduceSub, Nat.reduceMul, Nat.reduceLT, Nat.reduceLeDiff, Nat.reduceEqDiff, Int.reduceLT, Int.reduceLE, Int.reduceAdd, Int.reduceSub, Int.reduceMul, Int.reduceNeg, Int.reduceToNat, Int.reduceEq, Int.reduceNe, reduceIte, reduceCtorEq, BitVec.reduceOfInt, BitVec.reduceToNat]; try simp only [top_out])
    refine ⟨fun h => ?_, fun h => ?_⟩
    · have hlt : k < 4 := (by decide : ∀ k, k < 5 → ((4294967295#64 >>> (8 * k)) != 0#64) = true → k < 4) k (by omega) h
      refine ⟨m - 1, by omega, k + 1, by omega, w64 (by omega) (by omega), ?_⟩
      rw [← BitVec.shiftRight_add, Nat.mul_add]
    · have hlt : k = 4 := (by decide : ∀ k, k < 5 → ((4294967295#64 >>> (8 * k)) != 0#64) = false → k = 4) k (by omega) h
      subst hlt
      exact dropC_self hM rfl hK

theorem width_uint64 (M : List Blk) (K : SV → List Blk → Prop) (hK : K (.i .i64 8) M) : callVC Try.prog 55 [] M K := by
  refine fn_rule tabOK Try.func55 rfl Try.call55 (by kernel_rfl) (fun hM => ?_)
  (refine top_in ?_; simp -implicitDefEqProofs only [Try.ntmps55, Try.results55, go_sem, -List.reduceReplicate, ↓L_gdZ_tt, ↓L_gdZ_tf, ↓L_gdZ_ft, ↓L_gdZ_ff, ↓T_and, ↓T_imp, ↓T_all, Nat.reduceBEq, Nat.reduceAdd, Nat.reduceSub, Nat.reduceMul, Nat.reduceLT, Nat.reduceLeDiff, Nat.reduceEqDiff, Int.reduceLT, Int.reduceLE, Int.reduceAdd, Int.reduceSub, Int.reduceMul, Int.reduceNeg, Int.reduceToNat, Int.reduceEq, Int.reduceNe, reduceIte, reduceCtorEq, BitVec.reduceOfInt, BitVec.reduceToNat]; try simp only [top_out])
  refine loop_code tabOK (by kernel_rfl) (fun m ts M' => ∃ k : Nat, k + m = 8 ∧ M' = M ∧ frC [none, some (.i .i64 k), some (.u64 (18446744073709551615#64 >>> (8 * k))), none, none, none, none, none, none, none, none, none] ts) 8 ?_ ?_
  · exact ⟨0, rfl, rfl, by simp only [frC]; exact ⟨rfl, rfl, trivial⟩⟩
  · rintro m ts _ ⟨k, hk, rfl, hf⟩
    obtain ⟨f, rfl⟩ := frC_open _ _ 0 hf
    clear hf
    (refine top_in ?_; simp -implicitDefEqProofs only [go_sem, -List.reduceReplicate, ↓L_gdZ_tt, ↓L_gdZ_tf, ↓L_gdZ_ft, ↓L_gdZ_ff, ↓T_and, ↓T_imp, ↓T_all, Nat.reduceBEq, Nat.reduceAdd, Nat.reduceSub, Nat.reduceMul, Nat.reduceLT, Nat.reduceLeDiff, Nat.reduceEqDiff, Int.reduceLT, Int.reduceLE, Int.reduceAdd, Int.reduceSub, Int.reduceMul, Int.reduceNeg, Int.reduceToNat, Int.reduceEq, Int.reduceNe, reduceIte, reduceCtorEq, BitVec.reduceOfInt, BitVec.reduceToNat]; try simp only [top_out])
    refine ⟨fun h => ?_, fun h => ?_⟩
    · have hlt : k < 8 := (by decide : ∀ k, k < 9 → ((18446744073709551615#64 >>> (8 * k)) != 0#64) = true → k < 8) k (by omega) h
      refine ⟨m - 1, by omega, k + 1, by omega, w64 (by omega) (by omega), ?_⟩
      rw [← BitVec.shiftRight_add, Nat.mul_add]
    · have hlt : k = 8 := (by decide : ∀ k, k < 9 → ((18446744073709551615#64 >>> (8 * k)) != 0#64) = false → k = 8) k (by omega) h
      subst hlt
      exact dropC_self hM rfl hK

theorem put32_ok (n off cap : Nat) (l : List (BitVec 8)) (x : BitVec 32) (M : List Blk) (K : SV → List Blk → Prop) (ha : BAt M n off l) (hl : l.length ≤ 140737488355000)
    (hK : ∀ ty, K (.sl M.length 0 (l.length + 4) (l.length + 4)) (M ++ [.row (bS (l ++ beL 4 (x.setWidth 64))) ty])) :
    callVC Try.prog 32 [.sl n off l.length cap, .u32 x] M K := by
  have wl : IntKind.i64.wrap ((l.length : Int) + 4) = ((l.length + 4 : Nat) : Int) := by rw [w64 (by omega) (by omega)]; simp
  refine fn_rule tabOK Try.func32 rfl Try.call32 (by kernel_rfl) (fun hM => ?_)
  (refine top_in ?_; simp -implicitDefEqProofs only [Try.ntmps32, Try.results32, go_sem, -List.reduceReplicate, ↓L_gdZ_tt, ↓L_gdZ_tf, ↓L_gdZ_ft, ↓L_gdZ_ff, ↓T_and, ↓T_imp, ↓T_all, Nat.reduceBEq, Nat.reduceAdd, Nat.reduceSub, Nat.reduceMul, Nat.reduceLT, Nat.reduceLeDiff, Nat.reduceEqDiff, Int.reduceLT, Int.reduceLE, Int.reduceAdd, Int.reduceSub, Int.reduceMul, Int.reduceNeg, Int.reduceToNat, Int.reduceEq, Int.reduceNe, reduceIte, reduceCtorEq, BitVec.reduceOfInt, BitVec.reduceToNat]; try simp only [top_out])
  refine width_uint32 _ _ ?_
  (refine top_in ?_; simp -implicitDefEqProofs only [go_sem, -List.reduceReplicate, ↓L_gdZ_tt, ↓L_gdZ_tf, ↓L_gdZ_ft, ↓L_gdZ_ff, ↓T_and, ↓T_imp, ↓T_all, Nat.reduceBEq, Nat.reduceAdd, Nat.reduceSub, Nat.reduceMul, Nat.reduceLT, Nat.reduceLeDiff, Nat.reduceEqDiff, Int.reduceLT, Int.reduceLE, Int.reduceAdd, Int.reduceSub, Int.reduceMul, Int.reduceNeg, Int.reduceToNat, Int.reduceEq, Int.reduceNe, reduceIte, reduceCtorEq, BitVec.reduceOfInt, BitVec.reduceToNat, wl]; try simp only [top_out])
  refine ⟨by omega, by omega, by omega, by omega, ?_⟩
  refine copy8 M.length 0 (List.replicate (l.length + 4) 0#8) l 5 rfl (by simp [get_app0]) (by simp) ha.app.src ?_
  have e0 : (List.replicate (l.length + 4) 0#8).take 0 ++ l.take (l.length + 4) ++ (List.replicate (l.length + 4) 0#8).drop (0 + Nat.min l.length (l.length + 4)) = l ++ List.replicate 4 0#8 := by
    rw [show Nat.min l.length (l.length + 4) = l.length from Nat.min_eq_left (by omega), List.take_of_length_le (by omega : l.length ≤ l.length + 4), List.take_zero, List.nil_append, List.drop_replicate]
    congr 2; omega
  rw [e0]
  (refine top_in ?_; simp -implicitDefEqProofs only [go_sem, -List.reduceReplicate, ↓L_gdZ_tt, ↓L_gdZ_tf, ↓L_gdZ_ft, ↓L_gdZ_ff, ↓T_and, ↓T_imp, ↓T_all, Nat.reduceBEq, Nat.reduceAdd, Nat.reduceSub, Nat.reduceMul, Nat.reduceLT, Nat.reduceLeDiff, Nat.reduceEqDiff, Int.reduceLT, Int.reduceLE, Int.reduceAdd, Int.reduceSub, Int.reduceMul, Int.reduceNeg, Int.reduceToNat, Int.reduceEq, Int.reduceNe, reduceIte, reduceCtorEq, BitVec.reduceOfInt, BitVec.reduceToNat]; try simp only [top_out])
  refine loop_code tabOK (by kernel_rfl) (fun m ts M' => ∃ k : Nat, k + m = 4 ∧ M' = M ++ [.row (bS (l ++ gl 4 fun j => if 4 ≤ j + k then ((x.setWidth 64) >>> (8 * (4 - 1 - j))).setWidth 8 else 0#8)) 5] ∧
    frC [none, some (.u32 x), none, none, none, none, some (.sl M.length 0 (l.length + 4) (l.length + 4)), none, none, none, none, none, none, none, none, none, none, some (.i .i64 4), some (.i .i64 k), none, none, none, none, none, none, none, none, none, none, none, none, none, none, none, none, none] ts) 4 ?_ ?_
  · refine ⟨0, rfl, ?_, by simp [frC]⟩
    rw [← gl_const]
    refine congrArg (fun r => M ++ [Blk.row (bS (l ++ r)) 5]) (gl_ext fun j hj => ?_)
    rw [if_neg (by omega)]
  · rintro m ts _ ⟨k, hk, rfl, hf⟩
    obtain ⟨f, rfl⟩ := frC_open _ _ 0 hf
    clear hf
    (refine top_in ?_; simp -implicitDefEqProofs only [go_sem, -List.reduceReplicate, ↓L_gdZ_tt, ↓L_gdZ_tf, ↓L_gdZ_ft, ↓L_gdZ_ff, ↓T_and, ↓T_imp, ↓T_all, Nat.reduceBEq, Nat.reduceAdd, Nat.reduceSub, Nat.reduceMul, Nat.reduceLT, Nat.reduceLeDiff, Nat.reduceEqDiff, Int.reduceLT, Int.reduceLE, Int.reduceAdd, Int.reduceSub, Int.reduceMul, Int.reduceNeg, Int.reduceToNat, Int.reduceEq, Int.reduceNe, reduceIte, reduceCtorEq, BitVec.reduceOfInt, BitVec.reduceToNat]; try simp only [top_out])
    refine ⟨fun h => ?_, fun h => ?_⟩
    · rw [w64 (x := 8 * (k : Int)) (by omega) (by omega), w64 (x := ((l.length + 4 : Nat) : Int) - 1) (by omega) (by omega), w64 (x := ((l.length + 4 : Nat) : Int) - 1 - k) (by omega) (by omega), w64 (x := (k : Int) + 1) (by omega) (by omega),
        show ((l.length + 4 : Nat) : Int) - 1 - k = ((l.length + (3 - k) : Nat) : Int) by omega, show 8 * (k : Int) = ((8 * k : Nat) : Int) by omega, Int.toNat_natCast, Int.toNat_natCast, set_right, gl_set]
      refine ⟨by omega, by omega, by omega, by omega, by omega, m - 1, by omega, k + 1, by omega, ?_, by omega⟩
      refine congrArg (fun r => M ++ [Blk.row (bS (l ++ r)) 5]) (gl_ext fun j hj => ?_)
      by_cases hjk : j = 3 - k
      · rw [if_pos hjk, if_pos (by omega)]; congr 2; omega
      · rw [if_neg hjk]
        by_cases hl : 4 ≤ j + k
        · rw [if_pos hl, if_pos (by omega)]
        · rw [if_neg hl, if_neg (by omega)]
    · obtain rfl : k = 4 := by omega
      refine dropC_all (by simp) ?_
      have : (gl 4 fun j => if 4 ≤ j + 4 then ((x.setWidth 64) >>> (8 * (3 - j))).setWidth 8 else 0#8) = beL 4 (x.setWidth 64) := gl_ext fun j hj => by rw [if_pos (by omega)]
      rw [this]
      exact hK _

theorem put64_ok (n off cap : Nat) (l : List (BitVec 8)) (x : BitVec 64) (M : List Blk) (K : SV → List Blk → Prop) (ha : BAt M n off l) (hl : l.length ≤ 140737488355000)
    (hK : ∀ ty, K (.sl M.length 0 (l.length + 8) (l.length + 8)) (M ++ [.row (bS (l ++ beL 8 x)) ty])) :
    callVC Try.prog 33 [.sl n off l.length cap, .u64 x] M K := by
  have wl : IntKind.i64.wrap ((l.length : Int) + 8) = ((l.length + 8 : Nat) : Int) := by rw [w64 (by omega) (by omega)]; simp
  refine fn_rule tabOK Try.func33 rfl Try.call33 (by kernel_rfl) (fun hM => ?_)
  (refine top_in ?_; simp -implicitDefEqProofs only [Try.ntmps33, Try.results33, go_sem, -List.reduceReplicate, ↓L_gdZ_tt, ↓L_gdZ_tf, ↓L_gdZ_ft, ↓L_gdZ_ff, ↓T_and, ↓T_imp, ↓T_all, Nat.reduceBEq, Nat.reduceAdd, Nat.reduceSub, Nat.reduceMul, Nat.reduceLT, Nat.reduceLeDiff, Nat.reduceEqDiff, Int.reduceLT, Int.reduceLE, Int.reduceAdd, Int.reduceSub, Int.reduceMul, Int.reduceNeg, Int.reduceToNat, Int.reduceEq, Int.reduceNe, reduceIte, reduceCtorEq, BitVec.reduceOfInt, BitVec.reduceToNat]; try simp only [top_out])
  refine width_uint64 _ _ ?_
  (refine top_in ?_; simp -implicitDefEqProofs only [go_sem, -List.reduceReplicate, ↓L_gdZ_tt, ↓L_gdZ_tf, ↓L_gdZ_ft, ↓L_gdZ_ff, ↓T_and, ↓T_imp, ↓T_all, Nat.reduceBEq, Nat.reduceAdd, Nat.reduceSub, Nat.reduceMul, Nat.reduceLT, Nat.reduceLeDiff, Nat.reduceEqDiff, Int.reduceLT, Int.reduceLE, Int.reduceAdd, Int.reduceSub, Int.reduceMul, Int.reduceNeg, Int.reduceToNat, Int.reduceEq, Int.reduceNe, reduceIte, reduceCtorEq, BitVec.reduceOfInt, BitVec.reduceToNat, wl]; try simp only [top_out])
  refine ⟨by omega, by omega, by omega, by omega, ?_⟩
  refine copy8 M.length 0 (List.replicate (l.length + 8) 0#8) l 5 rfl (by simp [get_app0]) (by simp) ha.app.src ?_
  have e0 : (List.replicate (l.length + 8) 0#8).take 0 ++ l.take (l.length + 8) ++ (List.replicate (l.length + 8) 0#8).drop (0 + Nat.min l.length (l.length + 8)) = l ++ List.replicate 8 0#8 := by
    rw [show Nat.min l.length (l.length + 8) = l.length from Nat.min_eq_left (by omega), List.take_of_length_le (by omega : l.length ≤ l.length + 8), List.take_zero, List.nil_append, List.drop_replicate]
    congr 2; omega
  rw [e0]
  (refine top_in ?_; simp -implicitDefEqProofs only [go_sem, -List.reduceReplicate, ↓L_gdZ_tt, ↓L_gdZ_tf, ↓L_gdZ_ft, ↓L_gdZ_ff, ↓T_and, ↓T_imp, ↓T_all, Nat.reduceBEq, Nat.reduceAdd, Nat.reduceSub, Nat.reduceMul, Nat.reduceLT, Nat.reduceLeDiff, Nat.reduceEqDiff, Int.reduceLT, Int.reduceLE, Int.reduceAdd, Int.reduceSub, Int.reduceMul, Int.reduceNeg, Int.reduceToNat, Int.reduceEq, Int.reduceNe, reduceIte, reduceCtorEq, BitVec.reduceOfInt, BitVec.reduceToNat]; try simp only [top_out])
  refine loop_code tabOK (by kernel_rfl) (fun m ts M' => ∃ k : Nat, k + m = 8 ∧ M' = M ++ [.row (bS (l ++ gl 8 fun j => if 8 ≤ j + k then (x >>> (8 * (8 - 1 - j))).setWidth 8 else 0#8)) 5] ∧
    frC [none, some (.u64 x), none, none, none, none, some (.sl M.length 0 (l.length + 8) (l.length + 8)), none, none, none, none, none, none, none, none, none, none, some (.i .i64 8), some (.i .i64 k), none, none, none, none, none, none, none, none, none, none, none, none, none, none, none, none] ts) 8 ?_ ?_
  · refine ⟨0, rfl, ?_, by simp [frC]⟩
    rw [← gl_const]
    refine congrArg (fun r => M ++ [Blk.row (bS (l ++ r)) 5]) (gl_ext fun j hj => ?_)
    rw [if_neg (by omega)]
  · rintro m ts _ ⟨k, hk, rfl, hf⟩
    obtain ⟨f, rfl⟩ := frC_open _ _ 0 hf
    clear hf
    (refine top_in ?_; simp -implicitDefEqProofs only [go_sem, -List.reduceReplicate, ↓L_gdZ_tt, ↓L_gdZ_tf, ↓L_gdZ_ft, ↓L_gdZ_ff, ↓T_and, ↓T_imp, ↓T_all, Nat.reduceBEq, Nat.reduceAdd, Nat.reduceSub, Nat.reduceMul, Nat.reduceLT, Nat.reduceLeDiff, Nat.reduceEqDiff, Int.reduceLT, Int.reduceLE, Int.reduceAdd, Int.reduceSub, Int.reduceMul, Int.reduceNeg, Int.reduceToNat, Int.reduceEq, Int.reduceNe, reduceIte, reduceCtorEq, BitVec.reduceOfInt, BitVec.reduceToNat]; try simp only [top_out])
    refine ⟨fun h => ?_, fun h => ?_⟩
    · rw [w64 (x := 8 * (k : Int)) (by omega) (by omega), w64 (x := ((l.length + 8 : Nat) : Int) - 1) (by omega) (by omega), w64 (x := ((l.length + 8 : Nat) : Int) - 1 - k) (by omega) (by omega), w64 (x := (k : Int) + 1) (by omega) (by omega),
        show ((l.length + 8 : Nat) : Int) - 1 - k = ((l.length + (7 - k) : Nat) : Int) by omega, show 8 * (k : Int) = ((8 * k : Nat) : Int) by omega, Int.toNat_natCast, Int.toNat_natCast, set_right, gl_set]
      refine ⟨by omega, by omega, by omega, by omega, by omega, m - 1, by omega, k + 1, by omega, ?_, by omega⟩
      refine congrArg (fun r => M ++ [Blk.row (bS (l ++ r)) 5]) (gl_ext fun j hj => ?_)
      by_cases hjk : j = 7 - k
      · rw [if_pos hjk, if_pos (by omega)]; congr 2; omega
      · rw [if_neg hjk]
        by_cases hl : 8 ≤ j + k
        · rw [if_pos hl, if_pos (by omega)]
        · rw [if_neg hl, if_neg (by omega)]
    · obtain rfl : k = 8 := by omega
      refine dropC_all (by simp) ?_
      have : (gl 8 fun j => if 8 ≤ j + 8 then (x >>> (8 * (7 - j))).setWidth 8 else 0#8) = beL 8 x := gl_ext fun j hj => by rw [if_pos (by omega)]
      rw [this]
      exact hK _

theorem put32n_ok (x : BitVec 32) (M : List Blk) (K : SV → List Blk → Prop) (hK : ∀ ty, K (.sl (M.length + 1) 0 4 4) (M ++ [.row [] 0, .row (bS (beL 4 (x.setWidth 64))) ty])) :
    callVC Try.prog 32 [.sn, .u32 x] M K := by
  refine call_nil (a := []) 0 ?_
  refine put32_ok M.length 0 0 [] x _ _ (BAt.row (z := []) (ty := 0) (by rw [get_app0]; rfl)) (by simp) (fun ty => ?_)
  have := hK ty
  simpa using this
theorem put64n_ok (x : BitVec 64) (M : List Blk) (K : SV → List Blk → Prop) (hK : ∀ ty, K (.sl (M.length + 1) 0 8 8) (M ++ [.row [] 0, .row (bS (beL 8 x)) ty])) :
    callVC Try.prog 33 [.sn, .u64 x] M K := by
  refine call_nil (a := []) 0 ?_
  refine put64_ok M.length 0 0 [] x _ _ (BAt.row (z := []) (ty := 0) (by rw [get_app0]; rfl)) (by simp) (fun ty => ?_)
  have := hK ty
  simpa using this
end Go.Proofs.Ytdkdbeamimkljaa.Eng
