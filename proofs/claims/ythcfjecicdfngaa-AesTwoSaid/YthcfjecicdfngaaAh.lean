/- Two ciphers beside one another. -/
import Derived.Test.YthcfjecicdfngaaAf
namespace Go.Proofs.Ythcfjecicdfngaa.Eng
open Go Go.RowKit
set_option linter.unusedSimpArgs false
set_option linter.unusedVariables false

theorem BAt.pre {M : List Blk} {n : Nat} {l z : List (BitVec 8)} {ty : TypeId} (h : M[n]? = some (.row (bS (l ++ z)) ty)) : BAt M n 0 l := BAt.row h
theorem neq_self (l : List (BitVec 8)) : (l != l) = false := by simp
def pl (a b : List (BitVec 8)) (k : Nat) : List (BitVec 8) := gl 32 fun j => if j < k then a.getD j 0#8 else b.getD j 0#8
theorem pl_len (a b : List (BitVec 8)) (k : Nat) : (pl a b k).length = 32 := gl_len
theorem pl_0 {a b : List (BitVec 8)} (h : b.length = 32) : pl a b 0 = b := by
  conv => rhs; rw [gl_self h 0#8]
  exact gl_ext fun i _ => if_neg (by omega)
theorem pl_32 {a b : List (BitVec 8)} (h : a.length = 32) : pl a b 32 = a := by
  conv => rhs; rw [gl_self h 0#8]
  exact gl_ext fun i hi => if_pos hi
theorem pl_set {a b l : List (BitVec 8)} {k : Nat} (hk : k < 32) : (pl a b k ++ l).set k (a.getD k 0#8) = pl a b (k + 1) ++ l := by
  rw [List.set_append_left _ _ (by rw [pl_len]; exact hk)]
  congr 1
  unfold pl
  rw [gl_set]
  refine gl_ext fun i hi => ?_
  split
  · subst_vars; rw [if_pos (by omega)]
  · split
    · rw [if_pos (by omega)]
    · rw [if_neg (by omega)]
set_option maxHeartbeats 4000000 in
set_option maxRecDepth 20000 in
theorem law_aesTwo (n0 c0 n1 c1 n2 c2 cnt : Nat) (key other B : List (BitVec 8)) (M : List Blk) (h0 : BAt M n0 0 key) (h1 : BAt M n1 0 other) (h2 : BAt M n2 0 B) (hB : B.length = 16 * cnt) (l0 : key.length ≤ 140737488355000) (l1 : other.length ≤ 140737488355000) (l2 : cnt ≤ 140737488355000)
    (hc0 : key.length ≤ c0) (hc1 : other.length ≤ c1) (hc2 : cnt ≤ c2) :
    callVC Try.prog 8 [.sl n0 0 key.length c0, .sl n1 0 other.length c1, .sl n2 0 cnt c2] M (fun v _ => v = .b true) := by
  refine fn_rule tabOK Try.func8 rfl Try.call8 (by kernel_rfl) (fun hM => ?_)
  (refine top_in ?_; simp -implicitDefEqProofs only [Try.ntmps8, Try.results8, go_sem, -List.reduceReplicate, ↓L_gdZ_tt, ↓L_gdZ_tf, ↓L_gdZ_ft, ↓L_gdZ_ff, ↓T_and, ↓T_imp, ↓T_all, Nat.reduceBEq, Nat.reduceAdd, Nat.reduceSub, Nat.reduceMul, Nat.reduceLT, Nat.reduceLeDiff, Nat.reduceEqDiff, Int.reduceLT, Int.reduceLE, Int.reduceAdd, Int.reduceSub, Int.reduceMul, Int.reduceNeg, Int.reduceToNat, Int.reduceEq, Int.reduceNe, reduceIte, reduceCtorEq, BitVec.reduceOfInt, BitVec.reduceToNat]; try simp only [top_out])
  refine first4_ok _ _ ?_
  (refine top_in ?_; simp -implicitDefEqProofs only [go_sem, -List.reduceReplicate, ↓L_gdZ_tt, ↓L_gdZ_tf, ↓L_gdZ_ft, ↓L_gdZ_ff, ↓T_and, ↓T_imp, ↓T_all, Nat.reduceBEq, Nat.reduceAdd, Nat.reduceSub, Nat.reduceMul, Nat.reduceLT, Nat.reduceLeDiff, Nat.reduceEqDiff, Int.reduceLT, Int.reduceLE, Int.reduceAdd, Int.reduceSub, Int.reduceMul, Int.reduceNeg, Int.reduceToNat, Int.reduceEq, Int.reduceNe, reduceIte, reduceCtorEq, BitVec.reduceOfInt, BitVec.reduceToNat]; try simp only [top_out])
  refine ⟨fun a => ⟨fun b => ⟨fun _ => dropC_self hM rfl rfl, fun c => ?_⟩, fun _ => dropC_self hM rfl rfl⟩, fun _ => dropC_self hM rfl rfl⟩
  have k32 := beqIN' a
  have o32 := beqIN' b
  refine bytes_ok n0 0 c0 key _ _ h0 (by omega) fun z ty => ?_
  (refine top_in ?_; simp -implicitDefEqProofs only [go_sem, -List.reduceReplicate, ↓L_gdZ_tt, ↓L_gdZ_tf, ↓L_gdZ_ft, ↓L_gdZ_ff, ↓T_and, ↓T_imp, ↓T_all, Nat.reduceBEq, Nat.reduceAdd, Nat.reduceSub, Nat.reduceMul, Nat.reduceLT, Nat.reduceLeDiff, Nat.reduceEqDiff, Int.reduceLT, Int.reduceLE, Int.reduceAdd, Int.reduceSub, Int.reduceMul, Int.reduceNeg, Int.reduceToNat, Int.reduceEq, Int.reduceNe, reduceIte, reduceCtorEq, BitVec.reduceOfInt, BitVec.reduceToNat, k32, o32]; try simp only [top_out])
  refine ⟨by decide, ?_⟩
  refine app8 M.length key z [77#8] ty rfl rfl rfl (by rw [get_app0]; rfl) k32.symm (by omega) (src_u8 (by rw [get_app]; rfl)) (by simp; omega) ?_
  intro z' ty'
  (refine top_in ?_; simp -implicitDefEqProofs only [go_sem, -List.reduceReplicate, ↓L_gdZ_tt, ↓L_gdZ_tf, ↓L_gdZ_ft, ↓L_gdZ_ff, ↓T_and, ↓T_imp, ↓T_all, Nat.reduceBEq, Nat.reduceAdd, Nat.reduceSub, Nat.reduceMul, Nat.reduceLT, Nat.reduceLeDiff, Nat.reduceEqDiff, Int.reduceLT, Int.reduceLE, Int.reduceAdd, Int.reduceSub, Int.reduceMul, Int.reduceNeg, Int.reduceToNat, Int.reduceEq, Int.reduceNe, reduceIte, reduceCtorEq, BitVec.reduceOfInt, BitVec.reduceToNat, k32, o32]; try simp only [top_out])
  have p := new_ok (M.length + 2) 0 (33 + z'.length) key
  rw [k32] at p
  refine ⟨by omega, ?_⟩
  refine p _ _ (BAt.pre (z := 77#8 :: z') (ty := ty') (by rw [get_app]; rfl)) (by omega) (by omega) (fun _ => ?_) (fun h => absurd rfl h)
  clear p
  have hcl := ciph_len k32
  (refine top_in ?_; simp -implicitDefEqProofs only [go_sem, -List.reduceReplicate, ↓L_gdZ_tt, ↓L_gdZ_tf, ↓L_gdZ_ft, ↓L_gdZ_ff, ↓T_and, ↓T_imp, ↓T_all, Nat.reduceBEq, Nat.reduceAdd, Nat.reduceSub, Nat.reduceMul, Nat.reduceLT, Nat.reduceLeDiff, Nat.reduceEqDiff, Int.reduceLT, Int.reduceLE, Int.reduceAdd, Int.reduceSub, Int.reduceMul, Int.reduceNeg, Int.reduceToNat, Int.reduceEq, Int.reduceNe, reduceIte, reduceCtorEq, BitVec.reduceOfInt, BitVec.reduceToNat, k32, o32, hcl]; try simp only [top_out])
  refine ⟨by omega, ?_⟩
  refine same_ok2 (M.length + 2) 0 (33 + z'.length) n0 0 c0 32 32 key key _ _ (BAt.pre (z := 77#8 :: z') (ty := ty') (by rw [get_app]; rfl)) h0.app (by omega) (by omega) k32.symm k32.symm ?_
  rw [beq_self_eq_true]
  (refine top_in ?_; simp -implicitDefEqProofs only [go_sem, -List.reduceReplicate, ↓L_gdZ_tt, ↓L_gdZ_tf, ↓L_gdZ_ft, ↓L_gdZ_ff, ↓T_and, ↓T_imp, ↓T_all, Nat.reduceBEq, Nat.reduceAdd, Nat.reduceSub, Nat.reduceMul, Nat.reduceLT, Nat.reduceLeDiff, Nat.reduceEqDiff, Int.reduceLT, Int.reduceLE, Int.reduceAdd, Int.reduceSub, Int.reduceMul, Int.reduceNeg, Int.reduceToNat, Int.reduceEq, Int.reduceNe, reduceIte, reduceCtorEq, BitVec.reduceOfInt, BitVec.reduceToNat, k32, o32, hcl]; try simp only [top_out])
  refine loop_code tabOK (by kernel_rfl) (fun n ts M' => ∃ k : Nat, k + n = 32 ∧ frC (some (.sl n0 0 32 c0) :: some (.sl n1 0 32 c1) :: some (.sl n2 0 cnt c2) :: none :: none :: none :: none :: some (.b true) :: some (.sl (M.length + 2) 0 33 (33 + z'.length)) :: some (.p (M.length + 3) 0) :: some (.i .i64 0) :: some (.b true) :: some (.i .i64 k) :: none :: none :: none :: none :: none :: none :: none :: none :: none :: none :: none :: none :: none :: none :: none :: none :: none :: none :: none :: none :: none :: none :: none :: none :: none :: none :: none :: none :: none :: none :: none :: none :: none :: none :: none :: none :: none :: none :: none :: none :: none :: none :: none :: none :: none :: none :: none :: none :: none :: none :: none :: none :: none :: none :: none :: none :: none :: none :: none :: none :: none :: none :: none :: none :: none :: none :: none :: none :: none :: none :: none :: none :: none :: none :: none :: none :: none :: none :: none :: none :: none :: none :: none :: none :: none :: none :: none :: none :: none :: none :: none :: none :: none :: none :: none :: none :: none :: none :: none :: none :: none :: none :: none :: none :: none :: none :: none :: none :: none :: none :: none :: none :: none :: none :: none :: none :: none :: none :: none :: none :: none :: none :: none :: none :: none :: none :: none :: none :: none :: none :: none :: none :: none :: none :: none :: none :: none :: none :: none :: none :: none :: none :: none :: none :: none :: none :: none :: none :: none :: none :: none :: none :: none :: none :: none :: none :: none :: none :: none :: none :: none :: none :: none :: []) ts ∧
    M' = M ++ [.dead, .row (bS [77#8]) 5, .row (bS (pl other key k ++ 77#8 :: z')) ty', .row (bS (ciph key)) 50]) 32 ?_ ?_
  · refine ⟨0, rfl, by simp [frC], ?_⟩
    rw [pl_0 k32]
    rfl
  · rintro n ts _ ⟨k, hk, hf, rfl⟩
    have hpl := pl_len other key k
    obtain ⟨f, rfl⟩ := frC_open _ _ 0 hf
    clear hf
    (refine top_in ?_; simp -implicitDefEqProofs only [go_sem, -List.reduceReplicate, ↓L_gdZ_tt, ↓L_gdZ_tf, ↓L_gdZ_ft, ↓L_gdZ_ff, ↓T_and, ↓T_imp, ↓T_all, Nat.reduceBEq, Nat.reduceAdd, Nat.reduceSub, Nat.reduceMul, Nat.reduceLT, Nat.reduceLeDiff, Nat.reduceEqDiff, Int.reduceLT, Int.reduceLE, Int.reduceAdd, Int.reduceSub, Int.reduceMul, Int.reduceNeg, Int.reduceToNat, Int.reduceEq, Int.reduceNe, reduceIte, reduceCtorEq, BitVec.reduceOfInt, BitVec.reduceToNat, get_lt h1.lt, hpl, hcl]; try simp only [top_out])
    refine ⟨fun h => ?_, fun h => ?_⟩
    · have e8 := h1.is8 (show k < other.length by omega)
      have f8 := h1.cell8 (show k < other.length by omega)
      rw [Nat.zero_add] at e8 f8
      rw [e8, f8, pl_set (by omega)]
      have := h1.le (j := k + 1) (by omega)
      exact ⟨by omega, by omega, by omega, rfl, by omega, by omega, by omega, by omega, n - 1, by omega, k + 1, by omega, w64 (by omega) (by omega), rfl⟩
    · obtain rfl : k = 32 := by omega
      rw [pl_32 o32]
      clear hpl h hk
      have p := new_ok (M.length + 2) 0 (33 + z'.length) other
      rw [o32] at p
      refine ⟨by omega, ?_⟩
      refine p _ _ (BAt.pre (z := 77#8 :: z') (ty := ty') (by rw [get_app]; rfl)) (by omega) (by omega) (fun _ => ?_) (fun h => absurd rfl h)
      clear p
      have hco := ciph_len o32
      (refine top_in ?_; simp -implicitDefEqProofs only [go_sem, -List.reduceReplicate, ↓L_gdZ_tt, ↓L_gdZ_tf, ↓L_gdZ_ft, ↓L_gdZ_ff, ↓T_and, ↓T_imp, ↓T_all, Nat.reduceBEq, Nat.reduceAdd, Nat.reduceSub, Nat.reduceMul, Nat.reduceLT, Nat.reduceLeDiff, Nat.reduceEqDiff, Int.reduceLT, Int.reduceLE, Int.reduceAdd, Int.reduceSub, Int.reduceMul, Int.reduceNeg, Int.reduceToNat, Int.reduceEq, Int.reduceNe, reduceIte, reduceCtorEq, BitVec.reduceOfInt, BitVec.reduceToNat, k32, o32, hcl, hco]; try simp only [top_out])
      refine ⟨by omega, ?_⟩
      refine same_ok2 (M.length + 2) 0 (33 + z'.length) n1 0 c1 32 32 other other _ _ (BAt.pre (z := 77#8 :: z') (ty := ty') (by rw [get_app]; rfl)) h1.app (by omega) (by omega) o32.symm o32.symm ?_
      rw [beq_self_eq_true]
      have g77 : (other ++ 77#8 :: z').getD 32 0#8 = 77#8 := by
        rw [List.getD_eq_getElem?_getD, List.getElem?_append_right (by omega), o32]; rfl
      (refine top_in ?_; simp -implicitDefEqProofs only [go_sem, -List.reduceReplicate, ↓L_gdZ_tt, ↓L_gdZ_tf, ↓L_gdZ_ft, ↓L_gdZ_ff, ↓T_and, ↓T_imp, ↓T_all, Nat.reduceBEq, Nat.reduceAdd, Nat.reduceSub, Nat.reduceMul, Nat.reduceLT, Nat.reduceLeDiff, Nat.reduceEqDiff, Int.reduceLT, Int.reduceLE, Int.reduceAdd, Int.reduceSub, Int.reduceMul, Int.reduceNeg, Int.reduceToNat, Int.reduceEq, Int.reduceNe, reduceIte, reduceCtorEq, BitVec.reduceOfInt, BitVec.reduceToNat, k32, o32, hcl, hco, g77]; try simp only [top_out])
      refine ⟨by omega, by omega, ?_⟩
      refine loop_code tabOK (by kernel_rfl) (fun n ts M' => ∃ k : Nat, k + n = 32 ∧ frC (some (.sl n0 0 32 c0) :: some (.sl n1 0 32 c1) :: some (.sl n2 0 cnt c2) :: none :: none :: none :: none :: some (.b true) :: some (.sl (M.length + 2) 0 33 (33 + z'.length)) :: some (.p (M.length + 3) 0) :: some (.i .i64 0) :: some (.b true) :: none :: some (.p (M.length + 4) 0) :: some (.i .i64 0) :: some (.i .i64 k) :: none :: none :: none :: none :: none :: none :: none :: none :: none :: none :: none :: none :: none :: none :: none :: none :: none :: none :: none :: none :: none :: none :: none :: none :: none :: none :: none :: none :: none :: none :: none :: none :: none :: none :: none :: none :: none :: none :: none :: none :: none :: none :: none :: none :: none :: none :: none :: none :: none :: none :: none :: none :: none :: none :: none :: none :: none :: none :: none :: none :: none :: none :: none :: none :: none :: none :: none :: none :: none :: none :: none :: none :: none :: none :: none :: none :: none :: none :: none :: none :: none :: none :: none :: none :: none :: none :: none :: none :: none :: none :: none :: none :: none :: none :: none :: none :: none :: none :: none :: none :: none :: none :: none :: none :: none :: none :: none :: none :: none :: none :: none :: none :: none :: none :: none :: none :: none :: none :: none :: none :: none :: none :: none :: none :: none :: none :: none :: none :: none :: none :: none :: none :: none :: none :: none :: none :: none :: none :: none :: none :: none :: none :: none :: none :: none :: none :: none :: none :: none :: none :: none :: none :: none :: none :: none :: none :: none :: none :: none :: none :: []) ts ∧
        M' = M ++ [.dead, .row (bS [77#8]) 5, .row (bS (pl (List.replicate 32 0#8) other k ++ 77#8 :: z')) ty', .row (bS (ciph key)) 50, .row (bS (ciph other)) 50]) 32 ?_ ?_
      · refine ⟨0, rfl, by simp [frC], ?_⟩
        rw [pl_0 o32]
      · rintro n ts _ ⟨k, hk, hf, rfl⟩
        have hpl := pl_len (List.replicate 32 0#8) other k
        obtain ⟨f, rfl⟩ := frC_open _ _ 0 hf
        clear hf
        (refine top_in ?_; simp -implicitDefEqProofs only [go_sem, -List.reduceReplicate, ↓L_gdZ_tt, ↓L_gdZ_tf, ↓L_gdZ_ft, ↓L_gdZ_ff, ↓T_and, ↓T_imp, ↓T_all, Nat.reduceBEq, Nat.reduceAdd, Nat.reduceSub, Nat.reduceMul, Nat.reduceLT, Nat.reduceLeDiff, Nat.reduceEqDiff, Int.reduceLT, Int.reduceLE, Int.reduceAdd, Int.reduceSub, Int.reduceMul, Int.reduceNeg, Int.reduceToNat, Int.reduceEq, Int.reduceNe, reduceIte, reduceCtorEq, BitVec.reduceOfInt, BitVec.reduceToNat, hpl, hcl, hco]; try simp only [top_out])
        refine ⟨fun h => ?_, fun h => ?_⟩
        · have e0 : (List.replicate 32 0#8).getD k 0#8 = 0#8 := by
            rw [List.getD_eq_getElem?_getD, List.getElem?_replicate]; split <;> rfl
          have hs := pl_set (a := List.replicate 32 0#8) (b := other) (l := 77#8 :: z') (show k < 32 by omega)
          rw [e0] at hs
          rw [hs]
          exact ⟨by omega, by omega, by omega, by omega, n - 1, by omega, k + 1, by omega, w64 (by omega) (by omega), rfl⟩
        · obtain rfl : k = 32 := by omega
          clear h hk
          generalize pl (List.replicate 32 0#8) other 32 ++ 77#8 :: z' = zs
          have p := refnew_ok n0 0 c0 key
          rw [k32] at p
          refine p _ _ h0.app (by omega) (by omega) (fun _ => ?_) (fun h => absurd rfl h)
          clear p
          have hrl := ciphR_len k32
          (refine top_in ?_; simp -implicitDefEqProofs only [go_sem, -List.reduceReplicate, ↓L_gdZ_tt, ↓L_gdZ_tf, ↓L_gdZ_ft, ↓L_gdZ_ff, ↓T_and, ↓T_imp, ↓T_all, Nat.reduceBEq, Nat.reduceAdd, Nat.reduceSub, Nat.reduceMul, Nat.reduceLT, Nat.reduceLeDiff, Nat.reduceEqDiff, Int.reduceLT, Int.reduceLE, Int.reduceAdd, Int.reduceSub, Int.reduceMul, Int.reduceNeg, Int.reduceToNat, Int.reduceEq, Int.reduceNe, reduceIte, reduceCtorEq, BitVec.reduceOfInt, BitVec.reduceToNat, k32, o32, hcl, hco, hrl]; try simp only [top_out])
          have p := refnew_ok n1 0 c1 other
          rw [o32] at p
          refine p _ _ h1.app (by omega) (by omega) (fun _ => ?_) (fun h => absurd rfl h)
          clear p
          have hro := ciphR_len o32
          (refine top_in ?_; simp -implicitDefEqProofs only [go_sem, -List.reduceReplicate, ↓L_gdZ_tt, ↓L_gdZ_tf, ↓L_gdZ_ft, ↓L_gdZ_ff, ↓T_and, ↓T_imp, ↓T_all, Nat.reduceBEq, Nat.reduceAdd, Nat.reduceSub, Nat.reduceMul, Nat.reduceLT, Nat.reduceLeDiff, Nat.reduceEqDiff, Int.reduceLT, Int.reduceLE, Int.reduceAdd, Int.reduceSub, Int.reduceMul, Int.reduceNeg, Int.reduceToNat, Int.reduceEq, Int.reduceNe, reduceIte, reduceCtorEq, BitVec.reduceOfInt, BitVec.reduceToNat, k32, o32, hcl, hco, hrl, hro]; try simp only [top_out])
          refine num4_ok _ _ _ ?_
          (refine top_in ?_; simp -implicitDefEqProofs only [go_sem, -List.reduceReplicate, ↓L_gdZ_tt, ↓L_gdZ_tf, ↓L_gdZ_ft, ↓L_gdZ_ff, ↓T_and, ↓T_imp, ↓T_all, Nat.reduceBEq, Nat.reduceAdd, Nat.reduceSub, Nat.reduceMul, Nat.reduceLT, Nat.reduceLeDiff, Nat.reduceEqDiff, Int.reduceLT, Int.reduceLE, Int.reduceAdd, Int.reduceSub, Int.reduceMul, Int.reduceNeg, Int.reduceToNat, Int.reduceEq, Int.reduceNe, reduceIte, reduceCtorEq, BitVec.reduceOfInt, BitVec.reduceToNat, q00, k32, o32, hcl, hco, hrl, hro]; try simp only [top_out])
          refine num4_ok _ _ _ ?_
          (refine top_in ?_; simp -implicitDefEqProofs only [go_sem, -List.reduceReplicate, ↓L_gdZ_tt, ↓L_gdZ_tf, ↓L_gdZ_ft, ↓L_gdZ_ff, ↓T_and, ↓T_imp, ↓T_all, Nat.reduceBEq, Nat.reduceAdd, Nat.reduceSub, Nat.reduceMul, Nat.reduceLT, Nat.reduceLeDiff, Nat.reduceEqDiff, Int.reduceLT, Int.reduceLE, Int.reduceAdd, Int.reduceSub, Int.reduceMul, Int.reduceNeg, Int.reduceToNat, Int.reduceEq, Int.reduceNe, reduceIte, reduceCtorEq, BitVec.reduceOfInt, BitVec.reduceToNat, q00, k32, o32, hcl, hco, hrl, hro]; try simp only [top_out])
          refine loop_gc tabOK (by kernel_rfl) (fun i ts M' => ∃ k : Nat, k + i = cnt ∧ frC (none :: none :: some (.sl n2 0 cnt c2) :: none :: none :: none :: none :: none :: none :: some (.p M.length 0) :: none :: none :: none :: some (.p (M.length + 1) 0) :: none :: none :: some (.p (M.length + 2) 0) :: none :: some (.p (M.length + 3) 0) :: none :: some (.i .i64 k) :: none :: none :: none :: none :: none :: none :: none :: none :: none :: none :: none :: none :: none :: none :: none :: none :: none :: none :: none :: none :: none :: none :: none :: none :: none :: none :: none :: none :: none :: none :: none :: none :: none :: none :: none :: none :: none :: none :: none :: none :: none :: none :: none :: none :: none :: none :: none :: none :: none :: none :: none :: none :: none :: none :: none :: none :: none :: none :: none :: none :: none :: none :: none :: none :: none :: none :: none :: none :: none :: none :: none :: none :: none :: none :: none :: none :: none :: none :: none :: none :: none :: none :: none :: none :: none :: none :: none :: none :: none :: none :: none :: none :: none :: none :: none :: none :: none :: none :: none :: none :: none :: none :: none :: none :: none :: none :: none :: none :: none :: none :: none :: none :: none :: none :: none :: none :: none :: none :: none :: none :: none :: none :: none :: none :: none :: none :: none :: none :: none :: none :: none :: none :: none :: none :: none :: none :: none :: none :: none :: none :: none :: none :: none :: none :: none :: none :: none :: none :: none :: none :: none :: none :: none :: none :: none :: []) ts ∧
            M' = M ++ [.row (bS (ciph key)) 50, .row (bS (ciph other)) 50, .row (bS (ciphR key)) 58, .row (bS (ciphR other)) 58]) cnt ?_ ?_
          · refine covF_gc hM [some 3, some 4, some 5, some 6] (none :: none :: some (.sl n2 0 cnt c2) :: none :: none :: none :: none :: none :: none :: some (.p M.length 0) :: none :: none :: none :: some (.p (M.length + 1) 0) :: none :: none :: some (.p (M.length + 2) 0) :: none :: some (.p (M.length + 3) 0) :: none :: some (.i .i64 0) :: none :: none :: none :: none :: none :: none :: none :: none :: none :: none :: none :: none :: none :: none :: none :: none :: none :: none :: none :: none :: none :: none :: none :: none :: none :: none :: none :: none :: none :: none :: none :: none :: none :: none :: none :: none :: none :: none :: none :: none :: none :: none :: none :: none :: none :: none :: none :: none :: none :: none :: none :: none :: none :: none :: none :: none :: none :: none :: none :: none :: none :: none :: none :: none :: none :: none :: none :: none :: none :: none :: none :: none :: none :: none :: none :: none :: none :: none :: none :: none :: none :: none :: none :: none :: none :: none :: none :: none :: none :: none :: none :: none :: none :: none :: none :: none :: none :: none :: none :: none :: none :: none :: none :: none :: none :: none :: none :: none :: none :: none :: none :: none :: none :: none :: none :: none :: none :: none :: none :: none :: none :: none :: none :: none :: none :: none :: none :: none :: none :: none :: none :: none :: none :: none :: none :: none :: none :: none :: none :: none :: none :: none :: none :: none :: none :: none :: none :: none :: none :: none :: none :: none :: none :: none :: none :: []) [.row (bS (ciph key)) 50, .row (bS (ciph other)) 50, .row (bS (ciphR key)) 58, .row (bS (ciphR other)) 58] rfl ⟨keep8 rfl, keep8 rfl, keep8 rfl, keep8 rfl, trivial⟩ (by simp only [List.all_cons, List.all_nil, lt_row, Bool.and_true]) ?_ ?_ (fun ts' h => ⟨0, by omega, by simpa using h, rfl⟩)
            · simp only [Int.natCast_add, cast_lit, Nat.add_assoc, rnSl_n, frRn_nil, frRn_s, frRn_n, frLt_nil, frLt_s, frLt_n, rn_i, rn_u8, rn_u32, rn_u64, rn_b, rn_str, rn_sn, rn_pn, rn_agg, rn_tup, rnL_nil, rnL_cons, rn_bS, rn_nil, rn_sl_at, rn_sl_at0, rn_p_at, rn_p_at0, rnSl_s, rnP_s, lt_i, lt_u8, lt_u32, lt_u64, lt_b, lt_sl, lt_p, lt_agg, lt_tup, ltL_nil', ltL_cons, bS_lt, List.getElem?_cons_succ, List.getElem?_cons_zero, Option.join_some, Nat.add_zero, Nat.zero_add, implies_true, and_self, and_true, true_and, Bool.and_true, Bool.true_and, Bool.and_self, List.length_cons, List.length_nil, List.length_append, decide_eq_true_eq, Bool.and_eq_true, rn_sl h2.lt]
            · have := h2.lt
              simp only [Int.natCast_add, cast_lit, Nat.add_assoc, rnSl_n, frRn_nil, frRn_s, frRn_n, frLt_nil, frLt_s, frLt_n, rn_i, rn_u8, rn_u32, rn_u64, rn_b, rn_str, rn_sn, rn_pn, rn_agg, rn_tup, rnL_nil, rnL_cons, rn_bS, rn_nil, rn_sl_at, rn_sl_at0, rn_p_at, rn_p_at0, rnSl_s, rnP_s, lt_i, lt_u8, lt_u32, lt_u64, lt_b, lt_sl, lt_p, lt_agg, lt_tup, ltL_nil', ltL_cons, bS_lt, List.getElem?_cons_succ, List.getElem?_cons_zero, Option.join_some, Nat.add_zero, Nat.zero_add, implies_true, and_self, and_true, true_and, Bool.and_true, Bool.true_and, Bool.and_self, List.length_cons, List.length_nil, List.length_append, decide_eq_true_eq, Bool.and_eq_true]; omega
          · clear f
            rintro i ts _ ⟨k, hk, hf, rfl⟩
            by_cases hkc : k < cnt
            · have hlt : ((k : Int) < (cnt : Int)) = True := by simp; omega
              have xl : ((B.drop (16 * k)).take 16).length = 16 := by simp; omega
              have hrd : List.take 16 (List.drop (k * 16) (cellsB M[n2]?)) = bS ((B.drop (16 * k)).take 16) := by
                have := (h2.sub (a := 16 * k) (k := 16) (by omega)).cells
                rw [xl, Nat.zero_add, Nat.mul_comm] at this
                rw [Nat.mul_comm 16 k] at *
                exact this
              have hle := h2.le (j := (k + 1) * 16) (by omega)
              rw [Nat.zero_add] at hle
              generalize hx : (B.drop (16 * k)).take 16 = x at xl hrd
              have a1 := aesN_len (ciph key) x 14
              have a2 := aesN_len (ciph other) x 14
              obtain ⟨f, rfl⟩ := frC_open _ _ 0 hf
              clear hf
              (refine top_in ?_; simp -implicitDefEqProofs only [go_sem, -List.reduceReplicate, ↓L_gdZ_tt, ↓L_gdZ_tf, ↓L_gdZ_ft, ↓L_gdZ_ff, ↓T_and, ↓T_imp, ↓T_all, Nat.reduceBEq, Nat.reduceAdd, Nat.reduceSub, Nat.reduceMul, Nat.reduceLT, Nat.reduceLeDiff, Nat.reduceEqDiff, Int.reduceLT, Int.reduceLE, Int.reduceAdd, Int.reduceSub, Int.reduceMul, Int.reduceNeg, Int.reduceToNat, Int.reduceEq, Int.reduceNe, reduceIte, reduceCtorEq, BitVec.reduceOfInt, BitVec.reduceToNat, get_lt h2.lt, hcl, hco, hrl, hro, hlt, hrd]; try simp only [top_out])
              repeat (with_reducible refine And.intro (by omega) ?_)
              refine block_ok M.length (ciph key) 50 x _ _ (by rw [get_app0]; rfl) hcl xl ?_
              (refine top_in ?_; simp -implicitDefEqProofs only [go_sem, -List.reduceReplicate, ↓L_gdZ_tt, ↓L_gdZ_tf, ↓L_gdZ_ft, ↓L_gdZ_ff, ↓T_and, ↓T_imp, ↓T_all, Nat.reduceBEq, Nat.reduceAdd, Nat.reduceSub, Nat.reduceMul, Nat.reduceLT, Nat.reduceLeDiff, Nat.reduceEqDiff, Int.reduceLT, Int.reduceLE, Int.reduceAdd, Int.reduceSub, Int.reduceMul, Int.reduceNeg, Int.reduceToNat, Int.reduceEq, Int.reduceNe, reduceIte, reduceCtorEq, BitVec.reduceOfInt, BitVec.reduceToNat, get_lt h2.lt, hcl, hco, hrl, hro, hrd, xl, a1, a2, neq_self]; try simp only [top_out])
              repeat (with_reducible refine And.intro (by omega) ?_)
              refine block_ok (M.length + 1) (ciph other) 50 x _ _ (by rw [get_app]; rfl) hco xl ?_
              (refine top_in ?_; simp -implicitDefEqProofs only [go_sem, -List.reduceReplicate, ↓L_gdZ_tt, ↓L_gdZ_tf, ↓L_gdZ_ft, ↓L_gdZ_ff, ↓T_and, ↓T_imp, ↓T_all, Nat.reduceBEq, Nat.reduceAdd, Nat.reduceSub, Nat.reduceMul, Nat.reduceLT, Nat.reduceLeDiff, Nat.reduceEqDiff, Int.reduceLT, Int.reduceLE, Int.reduceAdd, Int.reduceSub, Int.reduceMul, Int.reduceNeg, Int.reduceToNat, Int.reduceEq, Int.reduceNe, reduceIte, reduceCtorEq, BitVec.reduceOfInt, BitVec.reduceToNat, get_lt h2.lt, hcl, hco, hrl, hro, hrd, xl, a1, a2, neq_self]; try simp only [top_out])
              repeat (with_reducible refine And.intro (by omega) ?_)
              refine block_ok M.length (ciph key) 50 x _ _ (by rw [get_app0]; rfl) hcl xl ?_
              (refine top_in ?_; simp -implicitDefEqProofs only [go_sem, -List.reduceReplicate, ↓L_gdZ_tt, ↓L_gdZ_tf, ↓L_gdZ_ft, ↓L_gdZ_ff, ↓T_and, ↓T_imp, ↓T_all, Nat.reduceBEq, Nat.reduceAdd, Nat.reduceSub, Nat.reduceMul, Nat.reduceLT, Nat.reduceLeDiff, Nat.reduceEqDiff, Int.reduceLT, Int.reduceLE, Int.reduceAdd, Int.reduceSub, Int.reduceMul, Int.reduceNeg, Int.reduceToNat, Int.reduceEq, Int.reduceNe, reduceIte, reduceCtorEq, BitVec.reduceOfInt, BitVec.reduceToNat, get_lt h2.lt, hcl, hco, hrl, hro, hrd, xl, a1, a2, neq_self]; try simp only [top_out])
              repeat (with_reducible refine And.intro (by omega) ?_)
              refine refblock_ok (M.length + 2) (ciphR key) 58 x _ _ (by rw [get_app]; rfl) hrl xl ciphR_two ?_
              rw [← aes_ref]
              (refine top_in ?_; simp -implicitDefEqProofs only [go_sem, -List.reduceReplicate, ↓L_gdZ_tt, ↓L_gdZ_tf, ↓L_gdZ_ft, ↓L_gdZ_ff, ↓T_and, ↓T_imp, ↓T_all, Nat.reduceBEq, Nat.reduceAdd, Nat.reduceSub, Nat.reduceMul, Nat.reduceLT, Nat.reduceLeDiff, Nat.reduceEqDiff, Int.reduceLT, Int.reduceLE, Int.reduceAdd, Int.reduceSub, Int.reduceMul, Int.reduceNeg, Int.reduceToNat, Int.reduceEq, Int.reduceNe, reduceIte, reduceCtorEq, BitVec.reduceOfInt, BitVec.reduceToNat, get_lt h2.lt, hcl, hco, hrl, hro, hrd, xl, a1, a2, neq_self]; try simp only [top_out])
              repeat (with_reducible refine And.intro (by omega) ?_)
              refine refblock_ok (M.length + 3) (ciphR other) 58 x _ _ (by rw [get_app]; rfl) hro xl ciphR_two ?_
              rw [← aes_ref]
              (refine top_in ?_; simp -implicitDefEqProofs only [go_sem, -List.reduceReplicate, ↓L_gdZ_tt, ↓L_gdZ_tf, ↓L_gdZ_ft, ↓L_gdZ_ff, ↓T_and, ↓T_imp, ↓T_all, Nat.reduceBEq, Nat.reduceAdd, Nat.reduceSub, Nat.reduceMul, Nat.reduceLT, Nat.reduceLeDiff, Nat.reduceEqDiff, Int.reduceLT, Int.reduceLE, Int.reduceAdd, Int.reduceSub, Int.reduceMul, Int.reduceNeg, Int.reduceToNat, Int.reduceEq, Int.reduceNe, reduceIte, reduceCtorEq, BitVec.reduceOfInt, BitVec.reduceToNat, get_lt h2.lt, hcl, hco, hrl, hro, hrd, xl, a1, a2, neq_self]; try simp only [top_out])
              rw [w64 (x := (k : Int) + 1) (by omega) (by omega)]
              refine covF_gc hM [some 0, some 1, some 2, some 3] (none :: none :: some (.sl n2 0 cnt c2) :: none :: none :: none :: none :: none :: none :: some (.p M.length 0) :: none :: none :: none :: some (.p (M.length + 1) 0) :: none :: none :: some (.p (M.length + 2) 0) :: none :: some (.p (M.length + 3) 0) :: none :: some (.i .i64 ((k : Int) + 1)) :: none :: none :: none :: none :: none :: none :: none :: none :: none :: none :: none :: none :: none :: none :: none :: none :: none :: none :: none :: none :: none :: none :: none :: none :: none :: none :: none :: none :: none :: none :: none :: none :: none :: none :: none :: none :: none :: none :: none :: none :: none :: none :: none :: none :: none :: none :: none :: none :: none :: none :: none :: none :: none :: none :: none :: none :: none :: none :: none :: none :: none :: none :: none :: none :: none :: none :: none :: none :: none :: none :: none :: none :: none :: none :: none :: none :: none :: none :: none :: none :: none :: none :: none :: none :: none :: none :: none :: none :: none :: none :: none :: none :: none :: none :: none :: none :: none :: none :: none :: none :: none :: none :: none :: none :: none :: none :: none :: none :: none :: none :: none :: none :: none :: none :: none :: none :: none :: none :: none :: none :: none :: none :: none :: none :: none :: none :: none :: none :: none :: none :: none :: none :: none :: none :: none :: none :: none :: none :: none :: none :: none :: none :: none :: none :: none :: none :: none :: none :: none :: none :: none :: none :: none :: none :: none :: []) [.row (bS (ciph key)) 50, .row (bS (ciph other)) 50, .row (bS (ciphR key)) 58, .row (bS (ciphR other)) 58] rfl ⟨keep8 rfl, keep8 rfl, keep8 rfl, keep8 rfl, trivial⟩ (by simp only [List.all_cons, List.all_nil, lt_row, Bool.and_true]) ?_ ?_ (fun ts' h => ⟨i - 1, by omega, k + 1, by omega, by simpa using h, rfl⟩)
              · simp only [Int.natCast_add, cast_lit, Nat.add_assoc, rnSl_n, frRn_nil, frRn_s, frRn_n, frLt_nil, frLt_s, frLt_n, rn_i, rn_u8, rn_u32, rn_u64, rn_b, rn_str, rn_sn, rn_pn, rn_agg, rn_tup, rnL_nil, rnL_cons, rn_bS, rn_nil, rn_sl_at, rn_sl_at0, rn_p_at, rn_p_at0, rnSl_s, rnP_s, lt_i, lt_u8, lt_u32, lt_u64, lt_b, lt_sl, lt_p, lt_agg, lt_tup, ltL_nil', ltL_cons, bS_lt, List.getElem?_cons_succ, List.getElem?_cons_zero, Option.join_some, Nat.add_zero, Nat.zero_add, implies_true, and_self, and_true, true_and, Bool.and_true, Bool.true_and, Bool.and_self, List.length_cons, List.length_nil, List.length_append, decide_eq_true_eq, Bool.and_eq_true, rn_sl h2.lt]
              · have := h2.lt
                simp only [Int.natCast_add, cast_lit, Nat.add_assoc, rnSl_n, frRn_nil, frRn_s, frRn_n, frLt_nil, frLt_s, frLt_n, rn_i, rn_u8, rn_u32, rn_u64, rn_b, rn_str, rn_sn, rn_pn, rn_agg, rn_tup, rnL_nil, rnL_cons, rn_bS, rn_nil, rn_sl_at, rn_sl_at0, rn_p_at, rn_p_at0, rnSl_s, rnP_s, lt_i, lt_u8, lt_u32, lt_u64, lt_b, lt_sl, lt_p, lt_agg, lt_tup, ltL_nil', ltL_cons, bS_lt, List.getElem?_cons_succ, List.getElem?_cons_zero, Option.join_some, Nat.add_zero, Nat.zero_add, implies_true, and_self, and_true, true_and, Bool.and_true, Bool.true_and, Bool.and_self, List.length_cons, List.length_nil, List.length_append, decide_eq_true_eq, Bool.and_eq_true]; omega
            · have hlt : ((k : Int) < (cnt : Int)) = False := by simp; omega
              obtain ⟨f, rfl⟩ := frC_open _ _ 0 hf
              clear hf
              (refine top_in ?_; simp -implicitDefEqProofs only [go_sem, -List.reduceReplicate, ↓L_gdZ_tt, ↓L_gdZ_tf, ↓L_gdZ_ft, ↓L_gdZ_ff, ↓T_and, ↓T_imp, ↓T_all, Nat.reduceBEq, Nat.reduceAdd, Nat.reduceSub, Nat.reduceMul, Nat.reduceLT, Nat.reduceLeDiff, Nat.reduceEqDiff, Int.reduceLT, Int.reduceLE, Int.reduceAdd, Int.reduceSub, Int.reduceMul, Int.reduceNeg, Int.reduceToNat, Int.reduceEq, Int.reduceNe, reduceIte, reduceCtorEq, BitVec.reduceOfInt, BitVec.reduceToNat, hcl, hco, hrl, hro, hlt]; try simp only [top_out])
              exact dropC_append hM rfl rfl
end Go.Proofs.Ythcfjecicdfngaa.Eng
