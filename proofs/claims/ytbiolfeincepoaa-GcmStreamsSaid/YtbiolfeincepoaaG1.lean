/- The counter blocks, the stream's closure, the lengths' block. -/
import Derived.Test.YtbiolfeincepoaaAp
import Derived.Test.YtbiolfeincepoaaFd
import Derived.Test.YtbiolfeincepoaaU1
namespace Go.Proofs.Ytbiolfeincepoaa.Eng
open Go Go.RowKit
set_option linter.unusedSimpArgs false
set_option linter.unusedVariables false

def ctrL (nonce : List (BitVec 8)) (i : BitVec 32) : List (BitVec 8) := gl 16 fun j => if j < 12 then nonce.getD j 0#8 else (i >>> (8 * (15 - j))).setWidth 8
theorem ctrL_len (nonce : List (BitVec 8)) (i : BitVec 32) : (ctrL nonce i).length = 16 := gl_len
theorem set_ext {n j : Nat} {v : BitVec 8} {f g : Nat → BitVec 8} (h : ∀ i, i < n → g i = if i = j then v else f i) : (gl n f).set j v = gl n g := by
  rw [gl_set]; exact gl_ext fun i hi => (h i hi).symm
/-- the first p cells of a list, zeros behind them -/
def preL (n p : Nat) (l : List (BitVec 8)) : List (BitVec 8) := gl n fun j => if j < p then l.getD j 0#8 else 0#8
theorem preL_len (n p : Nat) (l : List (BitVec 8)) : (preL n p l).length = n := gl_len
theorem preL_0 (n : Nat) (l : List (BitVec 8)) : preL n 0 l = List.replicate n 0#8 := by
  unfold preL; rw [← gl_const]; exact gl_ext fun j _ => if_neg (by omega)
theorem preL_all {n : Nat} {l : List (BitVec 8)} (h : l.length = n) : preL n n l = l := by
  conv => rhs; rw [gl_self h 0#8]
  exact gl_ext fun j hj => if_pos hj
theorem preL_set {n p : Nat} {l : List (BitVec 8)} {v : BitVec 8} (h : v = l.getD p 0#8) : (preL n p l).set p v = preL n (p + 1) l := by
  subst h
  unfold preL
  rw [gl_set]
  refine gl_ext fun i hi => ?_
  split
  · subst_vars; rw [if_pos (by omega)]
  · split
    · rw [if_pos (by omega)]
    · rw [if_neg (by omega)]
theorem preL_getD {n p j : Nat} {l : List (BitVec 8)} (hj : j < p) (hn : j < n) : (preL n p l).getD j 0#8 = l.getD j 0#8 := by
  unfold preL; rw [gl_getD hn, if_pos hj]
theorem counter_ok (n off cap : Nat) (nonce : List (BitVec 8)) (i : BitVec 32) (M : List Blk) (K : SV → List Blk → Prop) (ha : BAt M n off nonce) (hl : nonce.length = 12) (hK : K (.agg (bS (ctrL nonce i))) M) :
    callVC Try.prog 32 [.sl n off 12 cap, .u32 i] M K := by
  refine fn_rule tabOK Try.func32 rfl Try.call32 (by kernel_rfl) (fun hM => ?_)
  (refine top_in ?_; simp -implicitDefEqProofs only [Try.ntmps32, Try.results32, go_sem, -List.reduceReplicate, ↓L_gdZ_tt, ↓L_gdZ_tf, ↓L_gdZ_ft, ↓L_gdZ_ff, ↓T_and, ↓T_imp, ↓T_all, Nat.reduceBEq, Nat.reduceAdd, Nat.reduceSub, Nat.reduceMul, Nat.reduceLT, Nat.reduceLeDiff, Nat.reduceEqDiff, Int.reduceLT, Int.reduceLE, Int.reduceAdd, Int.reduceSub, Int.reduceMul, Int.reduceNeg, Int.reduceToNat, Int.reduceEq, Int.reduceNe, reduceIte, reduceCtorEq, BitVec.reduceOfInt, BitVec.reduceToNat]; try simp only [top_out])
  have hs : SrcIs (M ++ [.row (bS (List.replicate 16 0#8)) 42, .row (bS (List.replicate 16 0#8)) 42]) (.sl n off 12 cap) nonce := by
    have := (ha.app (L := [.row (bS (List.replicate 16 0#8)) 42, .row (bS (List.replicate 16 0#8)) 42])).src (cap := cap)
    rwa [hl] at this
  refine copy8 (M.length + 1) 0 (List.replicate 16 0#8) nonce 42 rfl (by rw [get_app]; rfl) (by simp) hs ?_
  have e0 : (List.replicate 16 0#8).take 0 ++ nonce.take 16 ++ (List.replicate 16 0#8).drop (0 + Nat.min nonce.length 16) = gl 16 fun j => if j < 12 then nonce.getD j 0#8 else 0#8 := by
    have e1 : nonce.take 16 = nonce := List.take_of_length_le (by omega)
    rw [hl, e1]
    refine gl_eq (by simp [hl]) 0#8 fun j hj => ?_
    rw [List.take_zero, List.nil_append, List.getD_eq_getElem?_getD]
    by_cases h : j < 12
    · rw [List.getElem?_append_left (by omega), if_pos h, List.getD_eq_getElem?_getD]
    · rw [List.getElem?_append_right (by omega), if_neg h, hl, List.getElem?_drop, List.getElem?_replicate]
      split <;> rfl
  rw [e0]
  (refine top_in ?_; simp -implicitDefEqProofs only [go_sem, -List.reduceReplicate, ↓L_gdZ_tt, ↓L_gdZ_tf, ↓L_gdZ_ft, ↓L_gdZ_ff, ↓T_and, ↓T_imp, ↓T_all, Nat.reduceBEq, Nat.reduceAdd, Nat.reduceSub, Nat.reduceMul, Nat.reduceLT, Nat.reduceLeDiff, Nat.reduceEqDiff, Int.reduceLT, Int.reduceLE, Int.reduceAdd, Int.reduceSub, Int.reduceMul, Int.reduceNeg, Int.reduceToNat, Int.reduceEq, Int.reduceNe, reduceIte, reduceCtorEq, BitVec.reduceOfInt, BitVec.reduceToNat, hl]; try simp only [top_out])
  refine loop_code tabOK (by kernel_rfl) (fun m ts M' => ∃ k : Nat, k + m = 4 ∧ frC [none, some (.u32 i), none, none, some (.p M.length 0), some (.p (M.length + 1) 0), none, none, none, none, some (.i .i64 k), none, none, none, none, none, none, none, none, none, none, none, none] ts ∧
    M' = M ++ [.row (bS (List.replicate 16 0#8)) 42, .row (bS (gl 16 fun j => if j < 12 then nonce.getD j 0#8 else if 16 - k ≤ j then (i >>> (8 * (15 - j))).setWidth 8 else 0#8)) 42]) 4 ?_ ?_
  · refine ⟨0, rfl, by simp [frC], ?_⟩
    have : (gl 16 fun j => if j < 12 then nonce.getD j 0#8 else if 16 - 0 ≤ j then (i >>> (8 * (15 - j))).setWidth 8 else 0#8) = gl 16 fun j => if j < 12 then nonce.getD j 0#8 else 0#8 := gl_ext fun j hj => by
      split
      · rfl
      · rw [if_neg (by omega)]
    rw [this]
  · rintro m ts _ ⟨k, hk, hf, rfl⟩
    by_cases hk4 : k < 4
    · have hlt : ((k : Int) < 4) = True := by simp; omega
      have w1 : IntKind.i64.wrap (15 - (k : Int)) = ((15 - k : Nat) : Int) := by rw [w64 (by omega) (by omega)]; omega
      have w2 : IntKind.i64.wrap (8 * (k : Int)) = ((8 * k : Nat) : Int) := by rw [w64 (by omega) (by omega)]; omega
      obtain ⟨f, rfl⟩ := frC_open _ _ 0 hf
      clear hf
      (refine top_in ?_; simp -implicitDefEqProofs only [go_sem, -List.reduceReplicate, ↓L_gdZ_tt, ↓L_gdZ_tf, ↓L_gdZ_ft, ↓L_gdZ_ff, ↓T_and, ↓T_imp, ↓T_all, Nat.reduceBEq, Nat.reduceAdd, Nat.reduceSub, Nat.reduceMul, Nat.reduceLT, Nat.reduceLeDiff, Nat.reduceEqDiff, Int.reduceLT, Int.reduceLE, Int.reduceAdd, Int.reduceSub, Int.reduceMul, Int.reduceNeg, Int.reduceToNat, Int.reduceEq, Int.reduceNe, reduceIte, reduceCtorEq, BitVec.reduceOfInt, BitVec.reduceToNat, hlt, w1, w2]; try simp only [top_out])
      refine ⟨by omega, by omega, by omega, by omega, by omega, m - 1, by omega, k + 1, by omega, by rw [w64 (by omega) (by omega)]; rfl, ?_⟩
      rw [set_ext]
      intro j hj
      by_cases e : j = 15 - k
      · subst e; rw [if_pos rfl, if_neg (by omega), if_pos (by omega), show 15 - (15 - k) = k by omega]
      · rw [if_neg e]
        split
        · rfl
        · split
          · rw [if_pos (by omega)]
          · rw [if_neg (by omega)]
    · have hlt : ((k : Int) < 4) = False := by simp; omega
      obtain rfl : k = 4 := by omega
      have e : (gl 16 fun j => if j < 12 then nonce.getD j 0#8 else if 16 - 4 ≤ j then (i >>> (8 * (15 - j))).setWidth 8 else 0#8) = ctrL nonce i := gl_ext fun j hj => by
        split
        · rfl
        · rw [if_pos (by omega)]
      rw [e]
      obtain ⟨f, rfl⟩ := frC_open _ _ 0 hf
      clear hf
      (refine top_in ?_; simp -implicitDefEqProofs only [go_sem, -List.reduceReplicate, ↓L_gdZ_tt, ↓L_gdZ_tf, ↓L_gdZ_ft, ↓L_gdZ_ff, ↓T_and, ↓T_imp, ↓T_all, Nat.reduceBEq, Nat.reduceAdd, Nat.reduceSub, Nat.reduceMul, Nat.reduceLT, Nat.reduceLeDiff, Nat.reduceEqDiff, Int.reduceLT, Int.reduceLE, Int.reduceAdd, Int.reduceSub, Int.reduceMul, Int.reduceNeg, Int.reduceToNat, Int.reduceEq, Int.reduceNe, reduceIte, reduceCtorEq, BitVec.reduceOfInt, BitVec.reduceToNat, hlt, ctrL_len]; try simp only [top_out])
      exact dropC_append hM (bS_lt _ _) hK

theorem byte_of (n : Nat) (c : Nat) (hc : c ≤ 24) : BitVec.ofInt 8 ((n : Int).fdiv (2 ^ min c 64)) = (BitVec.ofNat 32 n >>> c).setWidth 8 := by
  rw [Nat.min_eq_left (by omega), Int.fdiv_eq_ediv_of_nonneg _ (by exact_mod_cast Nat.zero_le _)]
  have h : ((n : Int) / 2 ^ c) = ((n / 2 ^ c : Nat) : Int) := by norm_cast
  rw [h, BitVec.ofInt_natCast]
  refine BitVec.eq_of_getLsbD_eq fun j hj => ?_
  rw [BitVec.getLsbD_ofNat, BitVec.getLsbD_setWidth, BitVec.getLsbD_ushiftRight, BitVec.getLsbD_ofNat, Nat.testBit_div_two_pow]
  have h8 : j < 8 := hj
  simp [h8, show c + j < 32 by omega, Nat.add_comm]
theorem refcounter_ok (n off cap : Nat) (nonce : List (BitVec 8)) (i : Nat) (M : List Blk) (K : SV → List Blk → Prop) (ha : BAt M n off nonce) (hl : nonce.length = 12) (hK : K (.agg (bS (ctrL nonce (BitVec.ofNat 32 i)))) M) :
    callVC Try.prog 35 [.sl n off 12 cap, .i .i64 i] M K := by
  refine fn_rule tabOK Try.func35 rfl Try.call35 (by kernel_rfl) (fun hM => ?_)
  (refine top_in ?_; simp -implicitDefEqProofs only [Try.ntmps35, Try.results35, go_sem, -List.reduceReplicate, ↓L_gdZ_tt, ↓L_gdZ_tf, ↓L_gdZ_ft, ↓L_gdZ_ff, ↓T_and, ↓T_imp, ↓T_all, Nat.reduceBEq, Nat.reduceAdd, Nat.reduceSub, Nat.reduceMul, Nat.reduceLT, Nat.reduceLeDiff, Nat.reduceEqDiff, Int.reduceLT, Int.reduceLE, Int.reduceAdd, Int.reduceSub, Int.reduceMul, Int.reduceNeg, Int.reduceToNat, Int.reduceEq, Int.reduceNe, reduceIte, reduceCtorEq, BitVec.reduceOfInt, BitVec.reduceToNat]; try simp only [top_out])
  refine loop_code tabOK (by kernel_rfl) (fun m ts M' => ∃ k : Nat, k + m = 12 ∧ frC [some (.sl n off 12 cap), some (.i .i64 i), none, none, some (.p M.length 0), some (.p (M.length + 1) 0), some (.i .i64 k), none, none, none, none, none, none, none, none, none, none, none, none, none, none, none, none, none, none, none, none, none, none, none, none, none, none] ts ∧
    M' = M ++ [.row (bS (List.replicate 16 0#8)) 42, .row (bS (gl 16 fun j => if j < k then nonce.getD j 0#8 else 0#8)) 42]) 12 ?_ ?_
  · refine ⟨0, rfl, by simp [frC], ?_⟩
    simp only [Nat.not_lt_zero, if_false, gl_const]
  · rintro m ts _ ⟨k, hk, hf, rfl⟩
    obtain ⟨f, rfl⟩ := frC_open _ _ 0 hf
    clear hf
    (refine top_in ?_; simp -implicitDefEqProofs only [go_sem, -List.reduceReplicate, ↓L_gdZ_tt, ↓L_gdZ_tf, ↓L_gdZ_ft, ↓L_gdZ_ff, ↓T_and, ↓T_imp, ↓T_all, Nat.reduceBEq, Nat.reduceAdd, Nat.reduceSub, Nat.reduceMul, Nat.reduceLT, Nat.reduceLeDiff, Nat.reduceEqDiff, Int.reduceLT, Int.reduceLE, Int.reduceAdd, Int.reduceSub, Int.reduceMul, Int.reduceNeg, Int.reduceToNat, Int.reduceEq, Int.reduceNe, reduceIte, reduceCtorEq, BitVec.reduceOfInt, BitVec.reduceToNat, get_lt ha.lt]; try simp only [top_out])
    refine ⟨fun h => ?_, fun h => ?_⟩
    · rw [ha.is8 (by omega), ha.cell8 (by omega)]
      have := ha.le (j := k + 1) (by omega)
      refine ⟨by omega, by omega, by omega, rfl, by omega, by omega, by omega, by omega, m - 1, by omega, k + 1, by omega, by rw [w64 (by omega) (by omega)]; rfl, ?_⟩
      rw [set_ext]
      intro j hj
      by_cases e : j = k
      · subst e; rw [if_pos rfl, if_pos (by omega)]
      · rw [if_neg e]
        split
        · rw [if_pos (by omega)]
        · rw [if_neg (by omega)]
    · obtain rfl : k = 12 := by omega
      refine loop_code tabOK (by kernel_rfl) (fun m ts M' => ∃ k : Nat, k + m = 4 ∧ frC [none, some (.i .i64 i), none, none, some (.p M.length 0), some (.p (M.length + 1) 0), none, some (.i .i64 k), none, none, none, none, none, none, none, none, none, none, none, none, none, none, none, none, none, none, none, none, none, none, none, none, none] ts ∧
        M' = M ++ [.row (bS (List.replicate 16 0#8)) 42, .row (bS (gl 16 fun j => if j < 12 + k then (ctrL nonce (BitVec.ofNat 32 i)).getD j 0#8 else 0#8)) 42]) 4 ?_ ?_
      · refine ⟨0, rfl, by simp [frC], ?_⟩
        have : (gl 16 fun j => if j < 12 + 0 then (ctrL nonce (BitVec.ofNat 32 i)).getD j 0#8 else 0#8) = gl 16 fun j => if j < 12 then nonce.getD j 0#8 else 0#8 := gl_ext fun j hj => by
          by_cases h : j < 12
          · unfold ctrL; rw [gl_getD hj, if_pos h, if_pos h, if_pos h]
          · rw [if_neg h, if_neg h]
        rw [this]
      · clear h hk
        rintro m ts _ ⟨k, hk, hf, rfl⟩
        by_cases hk4 : k < 4
        · have hlt : ((k : Int) < 4) = True := by simp; omega
          have w1 : IntKind.i64.wrap (12 + (k : Int)) = ((12 + k : Nat) : Int) := by rw [w64 (by omega) (by omega)]; omega
          have w2 : IntKind.i64.wrap (8 * (k : Int)) = ((8 * k : Nat) : Int) := by rw [w64 (by omega) (by omega)]; omega
          have w3 : IntKind.i64.wrap (24 - ((8 * k : Nat) : Int)) = ((24 - 8 * k : Nat) : Int) := by rw [w64 (by omega) (by omega)]; omega
          have w4 : (BitVec.ofInt 64 ((24 - 8 * k : Nat) : Int)).toNat = 24 - 8 * k := by rw [BitVec.ofInt_natCast, BitVec.toNat_ofNat]; omega
          have b1 := byte_of i (24 - 8 * k) (by omega)
          have c1 : (ctrL nonce (BitVec.ofNat 32 i)).getD (12 + k) 0#8 = (BitVec.ofNat 32 i >>> (24 - 8 * k)).setWidth 8 := by
            unfold ctrL; rw [gl_getD (by omega), if_neg (by omega), show 8 * (15 - (12 + k)) = 24 - 8 * k by omega]
          obtain ⟨f, rfl⟩ := frC_open _ _ 0 hf
          clear hf
          (refine top_in ?_; simp -implicitDefEqProofs only [go_sem, -List.reduceReplicate, ↓L_gdZ_tt, ↓L_gdZ_tf, ↓L_gdZ_ft, ↓L_gdZ_ff, ↓T_and, ↓T_imp, ↓T_all, Nat.reduceBEq, Nat.reduceAdd, Nat.reduceSub, Nat.reduceMul, Nat.reduceLT, Nat.reduceLeDiff, Nat.reduceEqDiff, Int.reduceLT, Int.reduceLE, Int.reduceAdd, Int.reduceSub, Int.reduceMul, Int.reduceNeg, Int.reduceToNat, Int.reduceEq, Int.reduceNe, reduceIte, reduceCtorEq, BitVec.reduceOfInt, BitVec.reduceToNat, hlt, w1, w2, w3, w4]; try simp only [top_out])
          rw [b1, ← c1]
          refine ⟨by omega, by omega, by omega, by omega, m - 1, by omega, k + 1, by omega, by rw [w64 (by omega) (by omega)]; rfl, ?_⟩
          rw [set_ext]
          intro j hj
          by_cases e : j = 12 + k
          · subst e; rw [if_pos rfl, if_pos (by omega)]
          · rw [if_neg e]
            split
            · rw [if_pos (by omega)]
            · rw [if_neg (by omega)]
        · have hlt : ((k : Int) < 4) = False := by simp; omega
          obtain rfl : k = 4 := by omega
          have e : (gl 16 fun j => if j < 12 + 4 then (ctrL nonce (BitVec.ofNat 32 i)).getD j 0#8 else 0#8) = ctrL nonce (BitVec.ofNat 32 i) := by
            conv => rhs; rw [gl_self (ctrL_len nonce (BitVec.ofNat 32 i)) 0#8]
            exact gl_ext fun j hj => if_pos (by omega)
          rw [e]
          obtain ⟨f, rfl⟩ := frC_open _ _ 0 hf
          clear hf
          (refine top_in ?_; simp -implicitDefEqProofs only [go_sem, -List.reduceReplicate, ↓L_gdZ_tt, ↓L_gdZ_tf, ↓L_gdZ_ft, ↓L_gdZ_ff, ↓T_and, ↓T_imp, ↓T_all, Nat.reduceBEq, Nat.reduceAdd, Nat.reduceSub, Nat.reduceMul, Nat.reduceLT, Nat.reduceLeDiff, Nat.reduceEqDiff, Int.reduceLT, Int.reduceLE, Int.reduceAdd, Int.reduceSub, Int.reduceMul, Int.reduceNeg, Int.reduceToNat, Int.reduceEq, Int.reduceNe, reduceIte, reduceCtorEq, BitVec.reduceOfInt, BitVec.reduceToNat, hlt, ctrL_len]; try simp only [top_out])
          exact dropC_append hM (bS_lt _ _) hK

theorem set_lt {M L : List Blk} {a : Nat} {B : Blk} (h : a < M.length) : (M ++ L).set a B = M.set a B ++ L := List.set_append_left _ _ h
/-- the closure that gives one block of the stream after the other -/
theorem next_ok (a b d m nn no nc : Nat) (nonce C : List (BitVec 8)) (i : BitVec 32) (t1 t2 t3 t4 : TypeId) (M : List Blk) (K : SV → List Blk → Prop) (hA : M[a]? = some (.row [.u32 i] t1)) (hB : M[b]? = some (.row [.p m 0] t2)) (hD : M[d]? = some (.row [.sl nn no 12 nc] t3))
    (hC : M[m]? = some (.row (bS C) t4)) (hCl : C.length = 496) (hn : BAt M nn no nonce) (hl : nonce.length = 12) (hne : a ≠ m) (hne2 : a ≠ nn) (hne3 : a ≠ b) (hne4 : a ≠ d)
    (hK : K (.agg (bS (aesN C (ctrL nonce (i + 1#32)) 14))) (M.set a (.row [.u32 (i + 1#32)] t1))) : callVC Try.prog 40 [.p a 0, .p b 0, .p d 0] M K := by
  have ha : a < M.length := (List.getElem?_eq_some_iff.1 hA).1
  have hb : b < M.length := (List.getElem?_eq_some_iff.1 hB).1
  have hd : d < M.length := (List.getElem?_eq_some_iff.1 hD).1
  have hm : m < M.length := (List.getElem?_eq_some_iff.1 hC).1
  refine fn_rule tabOK Try.func40 rfl Try.call40 (by kernel_rfl) (fun hM => ?_)
  (refine top_in ?_; simp -implicitDefEqProofs only [Try.ntmps40, Try.results40, go_sem, -List.reduceReplicate, ↓L_gdZ_tt, ↓L_gdZ_tf, ↓L_gdZ_ft, ↓L_gdZ_ff, ↓T_and, ↓T_imp, ↓T_all, Nat.reduceBEq, Nat.reduceAdd, Nat.reduceSub, Nat.reduceMul, Nat.reduceLT, Nat.reduceLeDiff, Nat.reduceEqDiff, Int.reduceLT, Int.reduceLE, Int.reduceAdd, Int.reduceSub, Int.reduceMul, Int.reduceNeg, Int.reduceToNat, Int.reduceEq, Int.reduceNe, reduceIte, reduceCtorEq, BitVec.reduceOfInt, BitVec.reduceToNat, get_lt ha, get_lt hb, get_lt hd, hA, hB, hD, set_lt ha]; try simp only [top_out])
  obtain ⟨M2, hM2⟩ : ∃ M2, M.set a (.row [.u32 (i + 1#32)] t1) = M2 := ⟨_, rfl⟩
  rw [hM2] at hK ⊢
  have hl2 : M2.length = M.length := by rw [← hM2, List.length_set]
  have hM' : ∀ (n : Nat) (B : Blk), M2[n]? = some B → B.lt M2.length = true := by
    intro n B hB
    rw [← hM2] at hB
    rw [hl2]
    by_cases e : a = n
    · subst e; rw [List.getElem?_set_self ha] at hB; cases hB; rfl
    · rw [List.getElem?_set_ne e] at hB; exact hM n B hB
  have sA : M2[a]? = some (.row [.u32 (i + 1#32)] t1) := by rw [← hM2]; exact List.getElem?_set_self ha
  have sB : M2[b]? = some (.row [.p m 0] t2) := by rw [← hM2, List.getElem?_set_ne hne3]; exact hB
  have sD : M2[d]? = some (.row [.sl nn no 12 nc] t3) := by rw [← hM2, List.getElem?_set_ne hne4]; exact hD
  have sC : M2[m]? = some (.row (bS C) t4) := by rw [← hM2, List.getElem?_set_ne hne]; exact hC
  have sN : BAt M2 nn no nonce := by
    have e : cellsAt M2 nn = cellsAt M nn := by rw [← hM2]; unfold cellsAt; rw [List.getElem?_set_ne hne2]
    exact ⟨by rw [hl2]; exact hn.lt, by rw [e]; exact hn.len, by rw [e]; exact hn.cells⟩
  rw [← hl2] at ha hb hd ⊢
  clear hM2 hl2 hA hB hD hC hn hM hm
  have hm : m < M2.length := (List.getElem?_eq_some_iff.1 sC).1
  refine draw_rule tabOK (by kernel_rfl : _) (.p 0 (.p 1 (.p 2 (.e 3 [0] (.e 4 [] (.e 5 [] .nil .no) .no) .no)))) (by kernel_rfl) (by kernel_rfl) ?_
  (refine top_in ?_; simp -implicitDefEqProofs only [go_sem, -List.reduceReplicate, ↓L_gdZ_tt, ↓L_gdZ_tf, ↓L_gdZ_ft, ↓L_gdZ_ff, ↓T_and, ↓T_imp, ↓T_all, Nat.reduceBEq, Nat.reduceAdd, Nat.reduceSub, Nat.reduceMul, Nat.reduceLT, Nat.reduceLeDiff, Nat.reduceEqDiff, Int.reduceLT, Int.reduceLE, Int.reduceAdd, Int.reduceSub, Int.reduceMul, Int.reduceNeg, Int.reduceToNat, Int.reduceEq, Int.reduceNe, reduceIte, reduceCtorEq, BitVec.reduceOfInt, BitVec.reduceToNat, get_lt ha, get_lt hb, get_lt hd, sA, sB, sD]; try simp only [top_out])
  refine counter_ok nn no nc nonce (i + 1#32) _ _ sN.app hl ?_
  (refine top_in ?_; simp -implicitDefEqProofs only [go_sem, -List.reduceReplicate, ↓L_gdZ_tt, ↓L_gdZ_tf, ↓L_gdZ_ft, ↓L_gdZ_ff, ↓T_and, ↓T_imp, ↓T_all, Nat.reduceBEq, Nat.reduceAdd, Nat.reduceSub, Nat.reduceMul, Nat.reduceLT, Nat.reduceLeDiff, Nat.reduceEqDiff, Int.reduceLT, Int.reduceLE, Int.reduceAdd, Int.reduceSub, Int.reduceMul, Int.reduceNeg, Int.reduceToNat, Int.reduceEq, Int.reduceNe, reduceIte, reduceCtorEq, BitVec.reduceOfInt, BitVec.reduceToNat, ctrL_len, get_lt ha, get_lt hb, get_lt hd, sA, sB, sD]; try simp only [top_out])
  refine block_ok m C t4 (ctrL nonce (i + 1#32)) _ _ (by rw [get_lt hm]; exact sC) hCl (ctrL_len _ _) ?_
  (refine top_in ?_; simp -implicitDefEqProofs only [go_sem, -List.reduceReplicate, ↓L_gdZ_tt, ↓L_gdZ_tf, ↓L_gdZ_ft, ↓L_gdZ_ff, ↓T_and, ↓T_imp, ↓T_all, Nat.reduceBEq, Nat.reduceAdd, Nat.reduceSub, Nat.reduceMul, Nat.reduceLT, Nat.reduceLeDiff, Nat.reduceEqDiff, Int.reduceLT, Int.reduceLE, Int.reduceAdd, Int.reduceSub, Int.reduceMul, Int.reduceNeg, Int.reduceToNat, Int.reduceEq, Int.reduceNe, reduceIte, reduceCtorEq, BitVec.reduceOfInt, BitVec.reduceToNat, ctrL_len, aesN_len, get_lt ha, get_lt hb, get_lt hd, sA, sB, sD]; try simp only [top_out])
  exact dropC_append hM' (bS_lt _ _) hK

/-- the block of two sizes -/
def lenL (a s : Nat) : List (BitVec 8) := gl 16 fun j => if j < 8 then ((BitVec.ofNat 64 a * 8#64) >>> (8 * (7 - j))).setWidth 8 else ((BitVec.ofNat 64 s * 8#64) >>> (8 * (15 - j))).setWidth 8
theorem lenL_len (a s : Nat) : (lenL a s).length = 16 := gl_len
theorem lengths_ok (a s : Nat) (M : List Blk) (K : SV → List Blk → Prop) (hK : K (.agg (bS (lenL a s))) M) :
    callVC Try.prog 31 [.i .i64 a, .i .i64 s] M K := by
  refine fn_rule tabOK Try.func31 rfl Try.call31 (by kernel_rfl) (fun hM => ?_)
  (refine top_in ?_; simp -implicitDefEqProofs only [Try.ntmps31, Try.results31, go_sem, -List.reduceReplicate, ↓L_gdZ_tt, ↓L_gdZ_tf, ↓L_gdZ_ft, ↓L_gdZ_ff, ↓T_and, ↓T_imp, ↓T_all, Nat.reduceBEq, Nat.reduceAdd, Nat.reduceSub, Nat.reduceMul, Nat.reduceLT, Nat.reduceLeDiff, Nat.reduceEqDiff, Int.reduceLT, Int.reduceLE, Int.reduceAdd, Int.reduceSub, Int.reduceMul, Int.reduceNeg, Int.reduceToNat, Int.reduceEq, Int.reduceNe, reduceIte, reduceCtorEq, BitVec.reduceOfInt, BitVec.reduceToNat]; try simp only [top_out])
  refine loop_code tabOK (by kernel_rfl) (fun m ts M' => ∃ k : Nat, k + m = 8 ∧ frC [some (.i .i64 a), some (.i .i64 s), none, none, some (.p M.length 0), some (.p (M.length + 1) 0), none, some (.i .i64 k), none, none, none, none, none, none, none, none, none, none, none, none, none, none, none, none, none, none, none, none, none, none, none, none] ts ∧
    M' = M ++ [.row (bS (List.replicate 16 0#8)) 42, .row (bS (gl 16 fun j => if j < 8 then (if 8 - k ≤ j then (lenL a s).getD j 0#8 else 0#8) else (if 16 - k ≤ j then (lenL a s).getD j 0#8 else 0#8))) 42]) 8 ?_ ?_
  · refine ⟨0, rfl, by simp [frC], ?_⟩
    have : (gl 16 fun j => if j < 8 then (if 8 - 0 ≤ j then (lenL a s).getD j 0#8 else 0#8) else (if 16 - 0 ≤ j then (lenL a s).getD j 0#8 else 0#8)) = List.replicate 16 0#8 := by
      rw [← gl_const]
      exact gl_ext fun j hj => by
        by_cases h : j < 8
        · rw [if_pos h, if_neg (by omega)]
        · rw [if_neg h, if_neg (by omega)]
    rw [this]
  · rintro m ts _ ⟨k, hk, hf, rfl⟩
    by_cases hk8 : k < 8
    · have hlt : ((k : Int) < 8) = True := by simp; omega
      have w0 : IntKind.i64.wrap (7 - (k : Int)) = ((7 - k : Nat) : Int) := by rw [w64 (by omega) (by omega)]; omega
      have w1 : IntKind.i64.wrap (15 - (k : Int)) = ((15 - k : Nat) : Int) := by rw [w64 (by omega) (by omega)]; omega
      have w2 : IntKind.i64.wrap (8 * (k : Int)) = ((8 * k : Nat) : Int) := by rw [w64 (by omega) (by omega)]; omega
      have e1 : BitVec.ofInt 64 (a : Int) = BitVec.ofNat 64 a := BitVec.ofInt_natCast _ _
      have e2 : BitVec.ofInt 64 (s : Int) = BitVec.ofNat 64 s := BitVec.ofInt_natCast _ _
      have c1 : (lenL a s).getD (7 - k) 0#8 = ((BitVec.ofNat 64 a * 8#64) >>> (8 * k)).setWidth 8 := by
        unfold lenL; rw [gl_getD (by omega), if_pos (by omega), show 8 * (7 - (7 - k)) = 8 * k by omega]
      have c2 : (lenL a s).getD (15 - k) 0#8 = ((BitVec.ofNat 64 s * 8#64) >>> (8 * k)).setWidth 8 := by
        unfold lenL; rw [gl_getD (by omega), if_neg (by omega), show 8 * (15 - (15 - k)) = 8 * k by omega]
      obtain ⟨f, rfl⟩ := frC_open _ _ 0 hf
      clear hf
      (refine top_in ?_; simp -implicitDefEqProofs only [go_sem, -List.reduceReplicate, ↓L_gdZ_tt, ↓L_gdZ_tf, ↓L_gdZ_ft, ↓L_gdZ_ff, ↓T_and, ↓T_imp, ↓T_all, Nat.reduceBEq, Nat.reduceAdd, Nat.reduceSub, Nat.reduceMul, Nat.reduceLT, Nat.reduceLeDiff, Nat.reduceEqDiff, Int.reduceLT, Int.reduceLE, Int.reduceAdd, Int.reduceSub, Int.reduceMul, Int.reduceNeg, Int.reduceToNat, Int.reduceEq, Int.reduceNe, reduceIte, reduceCtorEq, BitVec.reduceOfInt, BitVec.reduceToNat, hlt, w0, w1, w2, e1, e2]; try simp only [top_out])
      rw [← c1, ← c2]
      repeat (with_reducible refine And.intro (by omega) ?_)
      refine ⟨m - 1, by omega, k + 1, by omega, by rw [w64 (by omega) (by omega)]; rfl, ?_⟩
      rw [gl_set, set_ext]
      intro j hj
      by_cases e : j = 15 - k
      · subst e; rw [if_pos rfl, if_neg (by omega), if_pos (by omega)]
      · rw [if_neg e]
        by_cases e' : j = 7 - k
        · subst e'; rw [if_pos rfl, if_pos (by omega), if_pos (by omega)]
        · rw [if_neg e']
          by_cases h : j < 8
          · rw [if_pos h, if_pos h]
            by_cases h' : 8 - k ≤ j
            · rw [if_pos h', if_pos (by omega)]
            · rw [if_neg h', if_neg (by omega)]
          · rw [if_neg h, if_neg h]
            by_cases h' : 16 - k ≤ j
            · rw [if_pos h', if_pos (by omega)]
            · rw [if_neg h', if_neg (by omega)]
    · have hlt : ((k : Int) < 8) = False := by simp; omega
      obtain rfl : k = 8 := by omega
      have e : (gl 16 fun j => if j < 8 then (if 8 - 8 ≤ j then (lenL a s).getD j 0#8 else 0#8) else (if 16 - 8 ≤ j then (lenL a s).getD j 0#8 else 0#8)) = lenL a s := by
        conv => rhs; rw [gl_self (lenL_len a s) 0#8]
        exact gl_ext fun j hj => by
          by_cases h : j < 8
          · rw [if_pos h, if_pos (by omega)]
          · rw [if_neg h, if_pos (by omega)]
      rw [e]
      obtain ⟨f, rfl⟩ := frC_open _ _ 0 hf
      clear hf
      (refine top_in ?_; simp -implicitDefEqProofs only [go_sem, -List.reduceReplicate, ↓L_gdZ_tt, ↓L_gdZ_tf, ↓L_gdZ_ft, ↓L_gdZ_ff, ↓T_and, ↓T_imp, ↓T_all, Nat.reduceBEq, Nat.reduceAdd, Nat.reduceSub, Nat.reduceMul, Nat.reduceLT, Nat.reduceLeDiff, Nat.reduceEqDiff, Int.reduceLT, Int.reduceLE, Int.reduceAdd, Int.reduceSub, Int.reduceMul, Int.reduceNeg, Int.reduceToNat, Int.reduceEq, Int.reduceNe, reduceIte, reduceCtorEq, BitVec.reduceOfInt, BitVec.reduceToNat, hlt, lenL_len]; try simp only [top_out])
      exact dropC_append hM (bS_lt _ _) hK
end Go.Proofs.Ytbiolfeincepoaa.Eng
