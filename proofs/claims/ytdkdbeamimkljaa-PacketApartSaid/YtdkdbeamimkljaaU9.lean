/- Unlike triples, unlike nonces: the law of chapter 9. -/
import Derived.Test.YtdkdbeamimkljaaU8
namespace Go.Proofs.Ytdkdbeamimkljaa.Eng
open Go Go.RowKit
set_option linter.unusedSimpArgs false
set_option linter.unusedVariables false

theorem numB_beL {n : Nat} (hn : n ≤ 8) {x : BitVec 64} (hx : ∀ i, 8 * n ≤ i → x.getLsbD i = false) : numB (beL n x) = x := by
  apply BitVec.eq_of_getLsbD_eq
  intro i hi
  rw [numB_bit n (beL n x) (beL_len n x) i hi]
  by_cases h : i / 8 < n
  · have e0 : (beL n x).getD (n - 1 - i / 8) 0#8 = (x >>> (8 * (n - 1 - (n - 1 - i / 8)))).setWidth 8 := gl_getD (by omega) _
    rw [e0, BitVec.getLsbD_setWidth, BitVec.getLsbD_ushiftRight]
    have e1 : 8 * (n - 1 - (n - 1 - i / 8)) + i % 8 = i := by omega
    rw [e1]
    simp [h]; omega
  · rw [hx i (by omega)]; simp [h]
theorem lt_bits {n : Nat} {x : BitVec 64} (h : x.toNat < 2 ^ n) {i : Nat} (hi : n ≤ i) : x.getLsbD i = false := by
  rw [← BitVec.testBit_toNat]
  exact Nat.testBit_lt_two_pow (Nat.lt_of_lt_of_le h (Nat.pow_le_pow_right (by omega) hi))
theorem nonceX {s g : Int} {c : BitVec 64} (h : nonceB s g c = true) : (BitVec.ofInt 64 g + (if s = 1 then 2147483648#64 else 0#64)).toNat = (g + s * 2147483648).toNat ∧ (g + s * 2147483648).toNat < 2 ^ 32 := by
  obtain ⟨hs, g1, g2, _⟩ := nonceB_true h
  obtain ⟨n, rfl⟩ := Int.eq_ofNat_of_zero_le (show 0 ≤ g by omega)
  have d : (BitVec.ofNat 64 n).toNat = n := by rw [BitVec.toNat_ofNat]; exact Nat.mod_eq_of_lt (by omega)
  have b : (2147483648#64).toNat = 2147483648 := rfl
  rcases hs with rfl | rfl
  · rw [if_neg (by decide), BitVec.add_zero, BitVec.ofInt_natCast, d]
    exact ⟨by omega, by omega⟩
  · rw [if_pos rfl, BitVec.ofInt_natCast, BitVec.toNat_add, d, b, Nat.mod_eq_of_lt (by omega : n + 2147483648 < 2 ^ 64)]
    exact ⟨by omega, by omega⟩
theorem nonceL_inj {s g s' g' : Int} {c c' : BitVec 64} (h : nonceB s g c = true) (h' : nonceB s' g' c' = true) (e : nonceL s g c = nonceL s' g' c') : s = s' ∧ g = g' ∧ c = c' := by
  unfold nonceL at e
  obtain ⟨e1, e2⟩ := List.append_inj e (by rw [beL_len, beL_len])
  obtain ⟨x1, x2⟩ := nonceX h
  obtain ⟨y1, y2⟩ := nonceX h'
  have f2 := congrArg numB e2
  rw [numB_beL (by omega) (fun i hi => BitVec.getLsbD_of_ge _ _ (by omega)), numB_beL (by omega) (fun i hi => BitVec.getLsbD_of_ge _ _ (by omega))] at f2
  have f1 := congrArg numB e1
  rw [numB_beL (by omega) (fun i hi => lt_bits (n := 32) (by omega) (by omega)), numB_beL (by omega) (fun i hi => lt_bits (n := 32) (by omega) (by omega))] at f1
  have f3 := congrArg BitVec.toNat f1
  rw [x1, y1] at f3
  obtain ⟨hs, g1, g2, _⟩ := nonceB_true h
  obtain ⟨hs', g1', g2', _⟩ := nonceB_true h'
  exact ⟨by omega, by omega, f2⟩

set_option maxHeartbeats 1000000 in
theorem law_packetApart (s g : Int) (c : BitVec 64) (s' g' : Int) (c' : BitVec 64) : callVC Try.prog 5 [.i .i64 s, .i .i64 g, .u64 c, .i .i64 s', .i .i64 g', .u64 c'] [] (fun v _ => v = .b true) := by
  refine fn_rule tabOK Try.func5 rfl Try.call5 (by kernel_rfl) (fun hM => ?_)
  (refine top_in ?_; simp -implicitDefEqProofs only [Try.ntmps5, Try.results5, go_sem, -List.reduceReplicate, ↓L_gdZ_tt, ↓L_gdZ_tf, ↓L_gdZ_ft, ↓L_gdZ_ff, ↓T_and, ↓T_imp, ↓T_all, Nat.reduceBEq, Nat.reduceAdd, Nat.reduceSub, Nat.reduceMul, Nat.reduceLT, Nat.reduceLeDiff, Nat.reduceEqDiff, Int.reduceLT, Int.reduceLE, Int.reduceAdd, Int.reduceSub, Int.reduceMul, Int.reduceNeg, Int.reduceToNat, Int.reduceEq, Int.reduceNe, reduceIte, reduceCtorEq, BitVec.reduceOfInt, BitVec.reduceToNat]; try simp only [top_out])
  refine pfirst_ok _ _ ?_
  (refine top_in ?_; simp -implicitDefEqProofs only [go_sem, -List.reduceReplicate, ↓L_gdZ_tt, ↓L_gdZ_tf, ↓L_gdZ_ft, ↓L_gdZ_ff, ↓T_and, ↓T_imp, ↓T_all, Nat.reduceBEq, Nat.reduceAdd, Nat.reduceSub, Nat.reduceMul, Nat.reduceLT, Nat.reduceLeDiff, Nat.reduceEqDiff, Int.reduceLT, Int.reduceLE, Int.reduceAdd, Int.reduceSub, Int.reduceMul, Int.reduceNeg, Int.reduceToNat, Int.reduceEq, Int.reduceNe, reduceIte, reduceCtorEq, BitVec.reduceOfInt, BitVec.reduceToNat]; try simp only [top_out])
  refine nonce_u s g c _ _ (fun z ty => ?_)
  (refine top_in ?_; simp -implicitDefEqProofs only [go_sem, -List.reduceReplicate, ↓L_gdZ_tt, ↓L_gdZ_tf, ↓L_gdZ_ft, ↓L_gdZ_ff, ↓T_and, ↓T_imp, ↓T_all, Nat.reduceBEq, Nat.reduceAdd, Nat.reduceSub, Nat.reduceMul, Nat.reduceLT, Nat.reduceLeDiff, Nat.reduceEqDiff, Int.reduceLT, Int.reduceLE, Int.reduceAdd, Int.reduceSub, Int.reduceMul, Int.reduceNeg, Int.reduceToNat, Int.reduceEq, Int.reduceNe, reduceIte, reduceCtorEq, BitVec.reduceOfInt, BitVec.reduceToNat]; try simp only [top_out])
  refine nonce_u s' g' c' _ _ (fun z2 ty2 => ?_)
  have l1 : (nonceU s g c).length = if nonceB s g c = true then 12 else 0 := by unfold nonceU; split; rw [nonceL_len]; rfl
  have l2 : (nonceU s' g' c').length = if nonceB s' g' c' = true then 12 else 0 := by unfold nonceU; split; rw [nonceL_len]; rfl
  cases h : nonceB s g c <;> cases h' : nonceB s' g' c'
  · (refine top_in ?_; simp -implicitDefEqProofs only [go_sem, -List.reduceReplicate, ↓L_gdZ_tt, ↓L_gdZ_tf, ↓L_gdZ_ft, ↓L_gdZ_ff, ↓T_and, ↓T_imp, ↓T_all, Nat.reduceBEq, Nat.reduceAdd, Nat.reduceSub, Nat.reduceMul, Nat.reduceLT, Nat.reduceLeDiff, Nat.reduceEqDiff, Int.reduceLT, Int.reduceLE, Int.reduceAdd, Int.reduceSub, Int.reduceMul, Int.reduceNeg, Int.reduceToNat, Int.reduceEq, Int.reduceNe, reduceIte, reduceCtorEq, BitVec.reduceOfInt, BitVec.reduceToNat, l1, l2, h, h', Bool.false_eq_true]; try simp only [top_out])
    exact ⟨fun h => absurd h (by decide), fun _ => drop0 rfl rfl⟩
  · (refine top_in ?_; simp -implicitDefEqProofs only [go_sem, -List.reduceReplicate, ↓L_gdZ_tt, ↓L_gdZ_tf, ↓L_gdZ_ft, ↓L_gdZ_ff, ↓T_and, ↓T_imp, ↓T_all, Nat.reduceBEq, Nat.reduceAdd, Nat.reduceSub, Nat.reduceMul, Nat.reduceLT, Nat.reduceLeDiff, Nat.reduceEqDiff, Int.reduceLT, Int.reduceLE, Int.reduceAdd, Int.reduceSub, Int.reduceMul, Int.reduceNeg, Int.reduceToNat, Int.reduceEq, Int.reduceNe, reduceIte, reduceCtorEq, BitVec.reduceOfInt, BitVec.reduceToNat, l1, l2, h, h', Bool.false_eq_true]; try simp only [top_out])
    exact ⟨fun h => absurd h (by decide), fun _ => ⟨fun _ => drop0 rfl rfl, fun _ => drop0 rfl rfl⟩⟩
  · (refine top_in ?_; simp -implicitDefEqProofs only [go_sem, -List.reduceReplicate, ↓L_gdZ_tt, ↓L_gdZ_tf, ↓L_gdZ_ft, ↓L_gdZ_ff, ↓T_and, ↓T_imp, ↓T_all, Nat.reduceBEq, Nat.reduceAdd, Nat.reduceSub, Nat.reduceMul, Nat.reduceLT, Nat.reduceLeDiff, Nat.reduceEqDiff, Int.reduceLT, Int.reduceLE, Int.reduceAdd, Int.reduceSub, Int.reduceMul, Int.reduceNeg, Int.reduceToNat, Int.reduceEq, Int.reduceNe, reduceIte, reduceCtorEq, BitVec.reduceOfInt, BitVec.reduceToNat, l1, l2, h, h', Bool.false_eq_true]; try simp only [top_out])
    exact ⟨fun _ => ⟨fun _ => ⟨fun _ => drop0 rfl rfl, fun _ => drop0 rfl rfl⟩, fun h => absurd h (by decide)⟩, fun h => absurd h (by decide)⟩
  · (refine top_in ?_; simp -implicitDefEqProofs only [go_sem, -List.reduceReplicate, ↓L_gdZ_tt, ↓L_gdZ_tf, ↓L_gdZ_ft, ↓L_gdZ_ff, ↓T_and, ↓T_imp, ↓T_all, Nat.reduceBEq, Nat.reduceAdd, Nat.reduceSub, Nat.reduceMul, Nat.reduceLT, Nat.reduceLeDiff, Nat.reduceEqDiff, Int.reduceLT, Int.reduceLE, Int.reduceAdd, Int.reduceSub, Int.reduceMul, Int.reduceNeg, Int.reduceToNat, Int.reduceEq, Int.reduceNe, reduceIte, reduceCtorEq, BitVec.reduceOfInt, BitVec.reduceToNat, l1, l2, h, h']; try simp only [top_out])
    refine ⟨fun _ => ⟨fun h => absurd h (by decide), fun _ => ?_⟩, fun h => absurd h (by decide)⟩
    have k1 : (nonceU s g c).length = 12 := by rw [l1, h]; rfl
    have k2 : (nonceU s' g' c').length = 12 := by rw [l2, h']; rfl
    refine same_ok2 0 0 _ 1 0 _ 12 12 (nonceU s g c) (nonceU s' g' c') _ _ (BAt.row (z := z) (ty := ty) rfl) (BAt.row (z := z2) (ty := ty2) rfl) (by omega) (by omega) k1.symm k2.symm ?_
    have fact : (nonceU s g c == nonceU s' g' c') = (s == s' && (g == g' && c == c')) := by
      rw [Bool.eq_iff_iff, beq_iff_eq, Bool.and_eq_true, Bool.and_eq_true, beq_iff_eq, beq_iff_eq, beq_iff_eq]
      constructor
      · intro e
        unfold nonceU at e
        rw [if_pos h, if_pos h'] at e
        exact nonceL_inj h h' e
      · rintro ⟨rfl, rfl, rfl⟩; rfl
    rw [fact]
    (refine top_in ?_; simp -implicitDefEqProofs only [go_sem, -List.reduceReplicate, ↓L_gdZ_tt, ↓L_gdZ_tf, ↓L_gdZ_ft, ↓L_gdZ_ff, ↓T_and, ↓T_imp, ↓T_all, Nat.reduceBEq, Nat.reduceAdd, Nat.reduceSub, Nat.reduceMul, Nat.reduceLT, Nat.reduceLeDiff, Nat.reduceEqDiff, Int.reduceLT, Int.reduceLE, Int.reduceAdd, Int.reduceSub, Int.reduceMul, Int.reduceNeg, Int.reduceToNat, Int.reduceEq, Int.reduceNe, reduceIte, reduceCtorEq, BitVec.reduceOfInt, BitVec.reduceToNat]; try simp only [top_out])
    repeat' (with_reducible first | refine And.intro ?_ ?_ | intro)
    all_goals
      refine drop0 rfl ?_
      simp_all
end Go.Proofs.Ytdkdbeamimkljaa.Eng
