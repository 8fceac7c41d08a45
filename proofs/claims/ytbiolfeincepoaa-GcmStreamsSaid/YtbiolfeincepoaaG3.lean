/- The fold over bytes. -/
import Derived.Test.YtbiolfeincepoaaG2
namespace Go.Proofs.Ytbiolfeincepoaa.Eng
open Go Go.RowKit
set_option linter.unusedSimpArgs false
set_option linter.unusedVariables false

def foldN (h y b : List (BitVec 8)) : Nat → List (BitVec 8)
  | 0 => y
  | r + 1 => mulL (xorL (foldN h y b r) (pad16 (b.drop (16 * r)))) h
theorem mulL_len' (x y : List (BitVec 8)) : (mulL x y).length = 16 := gl_len
theorem foldN_len {h y b : List (BitVec 8)} (hy : y.length = 16) : ∀ r, (foldN h y b r).length = 16
  | 0 => hy
  | _ + 1 => mulL_len' _ _
def foldL (h y b : List (BitVec 8)) : List (BitVec 8) := foldN h y b ((b.length + 15) / 16)
theorem foldL_len {h y b : List (BitVec 8)} (hy : y.length = 16) : (foldL h y b).length = 16 := foldN_len hy _

theorem fold_ok (y h b : List (BitVec 8)) (n ob len cb : Nat) (M : List Blk) (K : SV → List Blk → Prop) (hy : y.length = 16) (hh : h.length = 16) (hb : BAt M n ob b) (hlen : len = b.length) (hcap : len ≤ cb) (hmax : len ≤ 140737488355000)
    (hK : K (.agg (bS (foldL h y b))) M) : callVC Try.prog 29 [.agg (bS y), .agg (bS h), .sl n ob len cb] M K := by
  subst hlen
  refine fn_rule tabOK Try.func29 rfl Try.call29 (by kernel_rfl) (fun hM => ?_)
  (refine top_in ?_; simp -implicitDefEqProofs only [Try.ntmps29, Try.results29, go_sem, -List.reduceReplicate, ↓L_gdZ_tt, ↓L_gdZ_tf, ↓L_gdZ_ft, ↓L_gdZ_ff, ↓T_and, ↓T_imp, ↓T_all, Nat.reduceBEq, Nat.reduceAdd, Nat.reduceSub, Nat.reduceMul, Nat.reduceLT, Nat.reduceLeDiff, Nat.reduceEqDiff, Int.reduceLT, Int.reduceLE, Int.reduceAdd, Int.reduceSub, Int.reduceMul, Int.reduceNeg, Int.reduceToNat, Int.reduceEq, Int.reduceNe, reduceIte, reduceCtorEq, BitVec.reduceOfInt, BitVec.reduceToNat, hy, hh]; try simp only [top_out])
  refine loop_gc tabOK (by kernel_rfl) (fun i ts M' => ∃ (r k o c : Nat), k + i = b.length ∧ (k = 16 * r ∨ k = b.length) ∧ r = (k + 15) / 16 ∧ BAt M n o (b.drop k) ∧ b.length - k ≤ c ∧
      frC [none, none, some (.sl n o (b.length - k) c), some (.p M.length 0), some (.p (M.length + 1) 0), none, some (.p (M.length + 2) 0), none, none, none, none, none, none, none, none, none, none, none, none, none, none, none, none, none] ts ∧
      M' = M ++ [.row (bS (foldN h y b r)) 42, .row (bS h) 42, .row (bS (List.replicate 16 0#8)) 42]) b.length ?_ ?_
  · exact covF_self ⟨0, 0, ob, cb, by omega, .inl rfl, rfl, hb, by omega, by simp [frC], rfl⟩
  · rintro i ts _ ⟨r, k, o, c, hk, hr, hrk, hbk, hc, hf, rfl⟩
    have hfl := foldN_len (h := h) (b := b) hy r
    by_cases hlt : k < b.length
    · obtain rfl : k = 16 * r := by omega
      have hp : (0 < ((b.length - 16 * r : Nat) : Int)) = True := by simp; omega
      have hnx : foldN h y b (r + 1) = mulL (xorL (foldN h y b r) (pad16 (b.drop (16 * r)))) h := rfl
      generalize hfy : foldN h y b r = fy at hfl hnx
      obtain ⟨f, rfl⟩ := frC_open _ _ 0 hf
      clear hf
      (refine top_in ?_; simp -implicitDefEqProofs only [go_sem, -List.reduceReplicate, ↓L_gdZ_tt, ↓L_gdZ_tf, ↓L_gdZ_ft, ↓L_gdZ_ff, ↓T_and, ↓T_imp, ↓T_all, Nat.reduceBEq, Nat.reduceAdd, Nat.reduceSub, Nat.reduceMul, Nat.reduceLT, Nat.reduceLeDiff, Nat.reduceEqDiff, Int.reduceLT, Int.reduceLE, Int.reduceAdd, Int.reduceSub, Int.reduceMul, Int.reduceNeg, Int.reduceToNat, Int.reduceEq, Int.reduceNe, reduceIte, reduceCtorEq, BitVec.reduceOfInt, BitVec.reduceToNat, hp, hfl, hh]; try simp only [top_out])
      have hdl : (b.drop (16 * r)).length = b.length - 16 * r := List.length_drop
      generalize hq : min (b.length - 16 * r) 16 = q
      generalize hre : b.drop (16 * r) = re at hdl hbk hnx
      have hs := hbk.app (L := [.row (bS fy) 42, .row (bS h) 42, .row (bS (List.replicate 16 0#8)) 42, .row (bS (List.replicate 16 0#8)) 42]) |>.src (cap := c)
      rw [hdl] at hs
      refine copy8 (M.length + 3) 0 (List.replicate 16 0#8) re 42 rfl (by rw [get_app]; rfl) (by simp) hs ?_
      rw [pad16_copy, show Nat.min re.length 16 = q by rw [hdl]; exact hq]
      have hpl := pad16_len re
      (refine top_in ?_; simp -implicitDefEqProofs only [go_sem, -List.reduceReplicate, ↓L_gdZ_tt, ↓L_gdZ_tf, ↓L_gdZ_ft, ↓L_gdZ_ff, ↓T_and, ↓T_imp, ↓T_all, Nat.reduceBEq, Nat.reduceAdd, Nat.reduceSub, Nat.reduceMul, Nat.reduceLT, Nat.reduceLeDiff, Nat.reduceEqDiff, Int.reduceLT, Int.reduceLE, Int.reduceAdd, Int.reduceSub, Int.reduceMul, Int.reduceNeg, Int.reduceToNat, Int.reduceEq, Int.reduceNe, reduceIte, reduceCtorEq, BitVec.reduceOfInt, BitVec.reduceToNat, hpl, hfl, hh]; try simp only [top_out])
      refine draw_rule tabOK (by kernel_rfl : _) (.p 0 (.p 1 (.p 3 (.e 2 [3] (.e 4 [] (.e 5 [] .nil .no) .no) .no)))) (by kernel_rfl) (by kernel_rfl) ?_
      (refine top_in ?_; simp -implicitDefEqProofs only [go_sem, -List.reduceReplicate, ↓L_gdZ_tt, ↓L_gdZ_tf, ↓L_gdZ_ft, ↓L_gdZ_ff, ↓T_and, ↓T_imp, ↓T_all, Nat.reduceBEq, Nat.reduceAdd, Nat.reduceSub, Nat.reduceMul, Nat.reduceLT, Nat.reduceLeDiff, Nat.reduceEqDiff, Int.reduceLT, Int.reduceLE, Int.reduceAdd, Int.reduceSub, Int.reduceMul, Int.reduceNeg, Int.reduceToNat, Int.reduceEq, Int.reduceNe, reduceIte, reduceCtorEq, BitVec.reduceOfInt, BitVec.reduceToNat, hpl, hfl, hh]; try simp only [top_out])
      refine xor_ok _ _ hfl hpl _ _ ?_
      have hxl := xorL_len fy (pad16 re)
      (refine top_in ?_; simp -implicitDefEqProofs only [go_sem, -List.reduceReplicate, ↓L_gdZ_tt, ↓L_gdZ_tf, ↓L_gdZ_ft, ↓L_gdZ_ff, ↓T_and, ↓T_imp, ↓T_all, Nat.reduceBEq, Nat.reduceAdd, Nat.reduceSub, Nat.reduceMul, Nat.reduceLT, Nat.reduceLeDiff, Nat.reduceEqDiff, Int.reduceLT, Int.reduceLE, Int.reduceAdd, Int.reduceSub, Int.reduceMul, Int.reduceNeg, Int.reduceToNat, Int.reduceEq, Int.reduceNe, reduceIte, reduceCtorEq, BitVec.reduceOfInt, BitVec.reduceToNat, hpl, hfl, hh, hxl]; try simp only [top_out])
      refine mul128_ok _ _ hxl hh _ _ ?_
      rw [← hnx]
      have hnl := foldN_len (h := h) (b := b) hy (r + 1)
      (refine top_in ?_; simp -implicitDefEqProofs only [go_sem, -List.reduceReplicate, ↓L_gdZ_tt, ↓L_gdZ_tf, ↓L_gdZ_ft, ↓L_gdZ_ff, ↓T_and, ↓T_imp, ↓T_all, Nat.reduceBEq, Nat.reduceAdd, Nat.reduceSub, Nat.reduceMul, Nat.reduceLT, Nat.reduceLeDiff, Nat.reduceEqDiff, Int.reduceLT, Int.reduceLE, Int.reduceAdd, Int.reduceSub, Int.reduceMul, Int.reduceNeg, Int.reduceToNat, Int.reduceEq, Int.reduceNe, reduceIte, reduceCtorEq, BitVec.reduceOfInt, BitVec.reduceToNat, hpl, hfl, hh, hxl, hnl]; try simp only [top_out])
      repeat (with_reducible refine And.intro (by omega) ?_)
      have hdr : b.drop (16 * r + q) = re.drop q := by rw [← hre, List.drop_drop]
      have hq' : 16 * r + q = 16 * (r + 1) ∨ 16 * r + q = b.length := by omega
      have hsub : b.length - (16 * r + q) = b.length - 16 * r - q := by omega
      have hb' := hbk.adv (c := c) (q := q) (by omega) (by omega)
      generalize (if c = q then o else o + q) = o' at hb'
      refine covF_gc hM [some 0, some 1, some 2] [none, none, some (.sl n o' (b.length - 16 * r - q) (c - q)), some (.p M.length 0), some (.p (M.length + 1) 0), none, some (.p (M.length + 2) 0), none, none, none, none, none, none, none, none, none, none, none, none, none, none, none, none, none]
        [.row (bS (foldN h y b (r + 1))) 42, .row (bS h) 42, .row (bS (List.replicate 16 0#8)) 42] rfl ⟨keep8 rfl, keep8 rfl, keep8 rfl, trivial⟩ (by simp [lt_row]) ?_ ?_
        (fun ts' h => ⟨i - q, by omega, r + 1, 16 * r + q, o', c - q, by omega, hq', by omega, by rw [hdr]; exact hb', by omega, by rw [hsub]; exact h, rfl⟩)
      · simp only [Int.natCast_add, cast_lit, Nat.add_assoc, rnSl_n, frRn_nil, frRn_s, frRn_n, frLt_nil, frLt_s, frLt_n, rn_i, rn_u8, rn_u32, rn_u64, rn_b, rn_str, rn_sn, rn_pn, rn_agg, rn_tup, rnL_nil, rnL_cons, rn_bS, rn_nil, rn_sl_at, rn_sl_at0, rn_p_at, rn_p_at0, rnSl_s, rnP_s, lt_i, lt_u8, lt_u32, lt_u64, lt_b, lt_sl, lt_p, lt_agg, lt_tup, ltL_nil', ltL_cons, bS_lt, List.getElem?_cons_succ, List.getElem?_cons_zero, Option.join_some, Nat.add_zero, Nat.zero_add, implies_true, and_self, and_true, true_and, Bool.and_true, Bool.true_and, Bool.and_self, List.length_cons, List.length_nil, List.length_append, decide_eq_true_eq, Bool.and_eq_true, rn_sl hb.lt]
      · have := hb.lt
        simp only [Int.natCast_add, cast_lit, Nat.add_assoc, rnSl_n, frRn_nil, frRn_s, frRn_n, frLt_nil, frLt_s, frLt_n, rn_i, rn_u8, rn_u32, rn_u64, rn_b, rn_str, rn_sn, rn_pn, rn_agg, rn_tup, rnL_nil, rnL_cons, rn_bS, rn_nil, rn_sl_at, rn_sl_at0, rn_p_at, rn_p_at0, rnSl_s, rnP_s, lt_i, lt_u8, lt_u32, lt_u64, lt_b, lt_sl, lt_p, lt_agg, lt_tup, ltL_nil', ltL_cons, bS_lt, List.getElem?_cons_succ, List.getElem?_cons_zero, Option.join_some, Nat.add_zero, Nat.zero_add, implies_true, and_self, and_true, true_and, Bool.and_true, Bool.true_and, Bool.and_self, List.length_cons, List.length_nil, List.length_append, decide_eq_true_eq, Bool.and_eq_true]; omega
    · obtain rfl : k = b.length := by omega
      have hp : (0 < ((b.length - b.length : Nat) : Int)) = False := by simp
      obtain ⟨f, rfl⟩ := frC_open _ _ 0 hf
      clear hf
      (refine top_in ?_; simp -implicitDefEqProofs only [go_sem, -List.reduceReplicate, ↓L_gdZ_tt, ↓L_gdZ_tf, ↓L_gdZ_ft, ↓L_gdZ_ff, ↓T_and, ↓T_imp, ↓T_all, Nat.reduceBEq, Nat.reduceAdd, Nat.reduceSub, Nat.reduceMul, Nat.reduceLT, Nat.reduceLeDiff, Nat.reduceEqDiff, Int.reduceLT, Int.reduceLE, Int.reduceAdd, Int.reduceSub, Int.reduceMul, Int.reduceNeg, Int.reduceToNat, Int.reduceEq, Int.reduceNe, reduceIte, reduceCtorEq, BitVec.reduceOfInt, BitVec.reduceToNat, hp, hfl]; try simp only [top_out])
      refine dropC_append hM (bS_lt _ _) ?_
      rw [hrk]
      exact hK

theorem fstep_set {z re : List (BitVec 8)} {k : Nat} : (gl 16 fun j => if j < k then z.getD j 0#8 ^^^ re.getD j 0#8 else z.getD j 0#8).set k (z.getD k 0#8 ^^^ re.getD k 0#8) = gl 16 fun j => if j < k + 1 then z.getD j 0#8 ^^^ re.getD j 0#8 else z.getD j 0#8 := by
  rw [gl_set]
  refine gl_ext fun i hi => ?_
  split
  · subst_vars; rw [if_pos (by omega)]
  · split
    · rw [if_pos (by omega)]
    · rw [if_neg (by omega)]
set_option maxHeartbeats 1000000 in
theorem folded_ok (y h b : List (BitVec 8)) (n ob len cb : Nat) (M : List Blk) (K : SV → List Blk → Prop) (hy : y.length = 16) (hh : h.length = 16) (hb : BAt M n ob b) (hlen : len = b.length) (hmax : len ≤ 140737488355000)
    (hK : K (.agg (bS (foldL h y b))) M) : callVC Try.prog 37 [.agg (bS y), .agg (bS h), .sl n ob len cb] M K := by
  subst hlen
  refine fn_rule tabOK Try.func37 rfl Try.call37 (by kernel_rfl) (fun hM => ?_)
  (refine top_in ?_; simp -implicitDefEqProofs only [Try.ntmps37, Try.results37, go_sem, -List.reduceReplicate, ↓L_gdZ_tt, ↓L_gdZ_tf, ↓L_gdZ_ft, ↓L_gdZ_ff, ↓T_and, ↓T_imp, ↓T_all, Nat.reduceBEq, Nat.reduceAdd, Nat.reduceSub, Nat.reduceMul, Nat.reduceLT, Nat.reduceLeDiff, Nat.reduceEqDiff, Int.reduceLT, Int.reduceLE, Int.reduceAdd, Int.reduceSub, Int.reduceMul, Int.reduceNeg, Int.reduceToNat, Int.reduceEq, Int.reduceNe, reduceIte, reduceCtorEq, BitVec.reduceOfInt, BitVec.reduceToNat, hy, hh]; try simp only [top_out])
  refine loop_code tabOK (by kernel_rfl) (fun i ts M' => ∃ r : Nat, r + i = (b.length + 15) / 16 ∧
      frC [none, none, some (.sl n ob b.length cb), some (.p M.length 0), some (.p (M.length + 1) 0), none, some (.p (M.length + 2) 0), some (.i .i64 (16 * r : Nat)), none, none, none, none, none, none, none, none, none, none, none, none, none, none, none, none, none, none, none, none, none, none, none, none, none, none, none, none, none, none, none, none, none, none, none] ts ∧
      M' = M ++ [.row (bS (foldN h y b r)) 42, .row (bS h) 42, .row (bS (List.replicate 16 0#8)) 42]) ((b.length + 15) / 16) ?_ ?_
  · exact ⟨0, by omega, by simp [frC], rfl⟩
  · rintro i ts _ ⟨r, hr, hf, rfl⟩
    have hfl := foldN_len (h := h) (b := b) hy r
    by_cases hlt : 16 * r < b.length
    · have hp : (((16 * r : Nat) : Int) < (b.length : Int)) = True := by simp; omega
      have hnx : foldN h y b (r + 1) = mulL (xorL (foldN h y b r) (pad16 (b.drop (16 * r)))) h := rfl
      have hnl := foldN_len (h := h) (b := b) hy (r + 1)
      generalize hfy : foldN h y b r = fy at hfl hnx
      generalize hre : b.drop (16 * r) = re at hnx
      obtain ⟨f, rfl⟩ := frC_open _ _ 0 hf
      clear hf
      (refine top_in ?_; simp -implicitDefEqProofs only [go_sem, -List.reduceReplicate, ↓L_gdZ_tt, ↓L_gdZ_tf, ↓L_gdZ_ft, ↓L_gdZ_ff, ↓T_and, ↓T_imp, ↓T_all, Nat.reduceBEq, Nat.reduceAdd, Nat.reduceSub, Nat.reduceMul, Nat.reduceLT, Nat.reduceLeDiff, Nat.reduceEqDiff, Int.reduceLT, Int.reduceLE, Int.reduceAdd, Int.reduceSub, Int.reduceMul, Int.reduceNeg, Int.reduceToNat, Int.reduceEq, Int.reduceNe, reduceIte, reduceCtorEq, BitVec.reduceOfInt, BitVec.reduceToNat, hp, hfl, hh]; try simp only [top_out])
      refine loop_code tabOK (by kernel_rfl) (fun i ts M' => ∃ k : Nat, k + i = 16 ∧ (k = 0 ∨ 16 * r + (k - 1) < b.length) ∧
          frC [none, none, some (.sl n ob b.length cb), some (.p M.length 0), some (.p (M.length + 1) 0), none, some (.p (M.length + 2) 0), some (.i .i64 (16 * r : Nat)), some (.i .i64 k), none, none, none, none, none, none, none, none, none, none, none, none, none, none, none, none, none, none, none, none, none, none, none, none, none, none, none, none, none, none, none, none, none, none] ts ∧
          M' = M ++ [.row (bS (gl 16 fun j => if j < k then fy.getD j 0#8 ^^^ re.getD j 0#8 else fy.getD j 0#8)) 42, .row (bS h) 42, .row (bS (List.replicate 16 0#8)) 42]) 16 ?_ ?_
      · refine ⟨0, rfl, .inl rfl, by simp [frC], ?_⟩
        simp only [Nat.not_lt_zero, if_false]
        rw [← gl_self hfl]
      · rintro i2 ts _ ⟨k, hk, hk0, hf, rfl⟩
        by_cases hgo : k < 16 ∧ 16 * r + k < b.length
        · have c1 : ((k : Int) < 16) = True := by simp; omega
          have w1 : IntKind.i64.wrap (((16 * r : Nat) : Int) + (k : Int)) = ((16 * r + k : Nat) : Int) := by rw [w64 (by omega) (by omega)]; omega
          have c2 : (((16 * r + k : Nat) : Int) < (b.length : Int)) = True := by simp; omega
          have e8 := hb.is8 hgo.2
          have f8 := hb.cell8 hgo.2
          have hle := hb.le (j := 16 * r + k + 1) (by omega)
          have g1 : (gl 16 fun j => if j < k then fy.getD j 0#8 ^^^ re.getD j 0#8 else fy.getD j 0#8).getD k 0#8 = fy.getD k 0#8 := by rw [gl_getD (by omega), if_neg (by omega)]
          have g2 : b.getD (16 * r + k) 0#8 = re.getD k 0#8 := by
            rw [← hre, List.getD_eq_getElem?_getD, List.getD_eq_getElem?_getD, List.getElem?_drop]
          obtain ⟨f, rfl⟩ := frC_open _ _ 0 hf
          clear hf
          (refine top_in ?_; simp -implicitDefEqProofs only [go_sem, -List.reduceReplicate, ↓L_gdZ_tt, ↓L_gdZ_tf, ↓L_gdZ_ft, ↓L_gdZ_ff, ↓T_and, ↓T_imp, ↓T_all, Nat.reduceBEq, Nat.reduceAdd, Nat.reduceSub, Nat.reduceMul, Nat.reduceLT, Nat.reduceLeDiff, Nat.reduceEqDiff, Int.reduceLT, Int.reduceLE, Int.reduceAdd, Int.reduceSub, Int.reduceMul, Int.reduceNeg, Int.reduceToNat, Int.reduceEq, Int.reduceNe, reduceIte, reduceCtorEq, BitVec.reduceOfInt, BitVec.reduceToNat, c1, c2, w1, hh, get_lt hb.lt]; try simp only [top_out])
          refine draw_rule tabOK (by kernel_rfl : _) (.p 0 (.p 1 (.p 2 (.p 3 (.p 4 (.p 5 (.p 6 (.p 7 (.p 8 (.p 9 (.p 10 (.p 11 (.e 12 [] .nil .no))))))))))))) (by kernel_rfl) (by kernel_rfl) ?_
          (refine top_in ?_; simp -implicitDefEqProofs only [go_sem, -List.reduceReplicate, ↓L_gdZ_tt, ↓L_gdZ_tf, ↓L_gdZ_ft, ↓L_gdZ_ff, ↓T_and, ↓T_imp, ↓T_all, Nat.reduceBEq, Nat.reduceAdd, Nat.reduceSub, Nat.reduceMul, Nat.reduceLT, Nat.reduceLeDiff, Nat.reduceEqDiff, Int.reduceLT, Int.reduceLE, Int.reduceAdd, Int.reduceSub, Int.reduceMul, Int.reduceNeg, Int.reduceToNat, Int.reduceEq, Int.reduceNe, reduceIte, reduceCtorEq, BitVec.reduceOfInt, BitVec.reduceToNat, c1, c2, w1, hh, get_lt hb.lt, e8, f8, g1, g2, fstep_set]; try simp only [top_out])
          repeat (with_reducible refine And.intro (by omega) ?_)
          exact ⟨i2 - 1, by omega, k + 1, by omega, .inr (by omega), w64 (by omega) (by omega), rfl⟩
        · have e : (gl 16 fun j => if j < k then fy.getD j 0#8 ^^^ re.getD j 0#8 else fy.getD j 0#8) = xorL fy (pad16 re) := by
            unfold xorL pad16
            refine gl_ext fun j hj => ?_
            rw [gl_getD hj]
            by_cases hjk : j < k
            · rw [if_pos hjk]
            · rw [if_neg hjk]
              have : re.getD j 0#8 = 0#8 := by
                rw [← hre, List.getD_eq_getElem?_getD, List.getElem?_drop, List.getElem?_eq_none (by omega)]; rfl
              rw [this, BitVec.xor_zero]
          have hxl := xorL_len fy (pad16 re)
          rw [e]
          have c3 : ((k : Int) < 16) = False ∨ (((k : Int) < 16) = True ∧ (IntKind.i64.wrap (((16 * r : Nat) : Int) + (k : Int)) < (b.length : Int)) = False) := by
            by_cases h16 : k < 16
            · exact .inr ⟨by simp; omega, by rw [w64 (by omega) (by omega)]; simp; omega⟩
            · exact .inl (by simp; omega)
          rcases c3 with c1 | ⟨c1, c2⟩
          · obtain ⟨f, rfl⟩ := frC_open _ _ 0 hf
            clear hf
            (refine top_in ?_; simp -implicitDefEqProofs only [go_sem, -List.reduceReplicate, ↓L_gdZ_tt, ↓L_gdZ_tf, ↓L_gdZ_ft, ↓L_gdZ_ff, ↓T_and, ↓T_imp, ↓T_all, Nat.reduceBEq, Nat.reduceAdd, Nat.reduceSub, Nat.reduceMul, Nat.reduceLT, Nat.reduceLeDiff, Nat.reduceEqDiff, Int.reduceLT, Int.reduceLE, Int.reduceAdd, Int.reduceSub, Int.reduceMul, Int.reduceNeg, Int.reduceToNat, Int.reduceEq, Int.reduceNe, reduceIte, reduceCtorEq, BitVec.reduceOfInt, BitVec.reduceToNat, c1, hh, hxl]; try simp only [top_out])
            refine refmul128_ok _ _ hxl hh _ _ ?_
            rw [ref128 _ _ hh, ← hnx]
            (refine top_in ?_; simp -implicitDefEqProofs only [go_sem, -List.reduceReplicate, ↓L_gdZ_tt, ↓L_gdZ_tf, ↓L_gdZ_ft, ↓L_gdZ_ff, ↓T_and, ↓T_imp, ↓T_all, Nat.reduceBEq, Nat.reduceAdd, Nat.reduceSub, Nat.reduceMul, Nat.reduceLT, Nat.reduceLeDiff, Nat.reduceEqDiff, Int.reduceLT, Int.reduceLE, Int.reduceAdd, Int.reduceSub, Int.reduceMul, Int.reduceNeg, Int.reduceToNat, Int.reduceEq, Int.reduceNe, reduceIte, reduceCtorEq, BitVec.reduceOfInt, BitVec.reduceToNat, c1, hh, hxl, hnl]; try simp only [top_out])
            repeat (with_reducible refine And.intro (by omega) ?_)
            exact ⟨i - 1, by omega, r + 1, by omega, by rw [w64 (by omega) (by omega)]; omega, rfl⟩
          · obtain ⟨f, rfl⟩ := frC_open _ _ 0 hf
            clear hf
            (refine top_in ?_; simp -implicitDefEqProofs only [go_sem, -List.reduceReplicate, ↓L_gdZ_tt, ↓L_gdZ_tf, ↓L_gdZ_ft, ↓L_gdZ_ff, ↓T_and, ↓T_imp, ↓T_all, Nat.reduceBEq, Nat.reduceAdd, Nat.reduceSub, Nat.reduceMul, Nat.reduceLT, Nat.reduceLeDiff, Nat.reduceEqDiff, Int.reduceLT, Int.reduceLE, Int.reduceAdd, Int.reduceSub, Int.reduceMul, Int.reduceNeg, Int.reduceToNat, Int.reduceEq, Int.reduceNe, reduceIte, reduceCtorEq, BitVec.reduceOfInt, BitVec.reduceToNat, c1, c2, hh, hxl]; try simp only [top_out])
            refine refmul128_ok _ _ hxl hh _ _ ?_
            rw [ref128 _ _ hh, ← hnx]
            (refine top_in ?_; simp -implicitDefEqProofs only [go_sem, -List.reduceReplicate, ↓L_gdZ_tt, ↓L_gdZ_tf, ↓L_gdZ_ft, ↓L_gdZ_ff, ↓T_and, ↓T_imp, ↓T_all, Nat.reduceBEq, Nat.reduceAdd, Nat.reduceSub, Nat.reduceMul, Nat.reduceLT, Nat.reduceLeDiff, Nat.reduceEqDiff, Int.reduceLT, Int.reduceLE, Int.reduceAdd, Int.reduceSub, Int.reduceMul, Int.reduceNeg, Int.reduceToNat, Int.reduceEq, Int.reduceNe, reduceIte, reduceCtorEq, BitVec.reduceOfInt, BitVec.reduceToNat, c1, c2, hh, hxl, hnl]; try simp only [top_out])
            repeat (with_reducible refine And.intro (by omega) ?_)
            exact ⟨i - 1, by omega, r + 1, by omega, by rw [w64 (by omega) (by omega)]; omega, rfl⟩
    · have hp : (((16 * r : Nat) : Int) < (b.length : Int)) = False := by simp; omega
      obtain ⟨f, rfl⟩ := frC_open _ _ 0 hf
      clear hf
      (refine top_in ?_; simp -implicitDefEqProofs only [go_sem, -List.reduceReplicate, ↓L_gdZ_tt, ↓L_gdZ_tf, ↓L_gdZ_ft, ↓L_gdZ_ff, ↓T_and, ↓T_imp, ↓T_all, Nat.reduceBEq, Nat.reduceAdd, Nat.reduceSub, Nat.reduceMul, Nat.reduceLT, Nat.reduceLeDiff, Nat.reduceEqDiff, Int.reduceLT, Int.reduceLE, Int.reduceAdd, Int.reduceSub, Int.reduceMul, Int.reduceNeg, Int.reduceToNat, Int.reduceEq, Int.reduceNe, reduceIte, reduceCtorEq, BitVec.reduceOfInt, BitVec.reduceToNat, hp, hfl]; try simp only [top_out])
      refine dropC_append hM (bS_lt _ _) ?_
      obtain rfl : r = (b.length + 15) / 16 := by omega
      exact hK
end Go.Proofs.Ytbiolfeincepoaa.Eng
