/- Bytes held against bytes, bytes in new memory. -/
import Derived.Test.YtccnffjjahdneaaTab
import Derived.Test.YtccnffjjahdneaaEngM
namespace Go.Proofs.Ytccnffjjahdneaa.Eng
open Go Go.RowKit
set_option linter.unusedSimpArgs false
set_option linter.unusedVariables false

theorem beqT {a b : Int} (h : (a == b) = true) : a = b := by simpa using h
theorem beqF {a b : Int} (h : (a == b) = false) : a ≠ b := by simpa using h
theorem bneT {a b : Int} (h : (a != b) = true) : a ≠ b := by simpa using h
theorem bneF {a b : Int} (h : (a != b) = false) : a = b := by simpa using h
theorem take_snoc {l : List (BitVec 8)} {k : Nat} (h : k < l.length) : l.take (k + 1) = l.take k ++ [l.getD k 0#8] := by
  rw [List.take_succ_eq_append_getElem h, List.getD_eq_getElem?_getD, List.getElem?_eq_getElem h]; rfl
theorem same_take {a b : List (BitVec 8)} (h : a.length = b.length) (ha : a.take a.length = b.take a.length) : a = b := by
  rw [List.take_length, h, List.take_length] at ha; exact ha

theorem same_ok (n off cap n' off' cap' : Nat) (a b : List (BitVec 8)) (M : List Blk) (K : SV → List Blk → Prop) (ha : BAt M n off a) (hb : BAt M n' off' b) (hla : a.length ≤ 140737488355328) (hlb : b.length ≤ 140737488355328) (hK : K (.b (a == b)) M) :
    callVC Try.prog 16 [.sl n off a.length cap, .sl n' off' b.length cap'] M K := by
  refine fn_rule tabOK Try.func16 rfl Try.call16 (by kernel_rfl) (fun hM => ?_)
  (refine top_in ?_; simp -implicitDefEqProofs only [Try.ntmps16, Try.results16, go_sem, -List.reduceReplicate, ↓L_gdZ_tt, ↓L_gdZ_tf, ↓L_gdZ_ft, ↓L_gdZ_ff, ↓T_and, ↓T_imp, ↓T_all, Nat.reduceBEq, Nat.reduceAdd, Nat.reduceSub, Nat.reduceMul, Nat.reduceLT, Nat.reduceLeDiff, Nat.reduceEqDiff, Int.reduceLT, Int.reduceLE, Int.reduceAdd, Int.reduceSub, Int.reduceMul, Int.reduceNeg, Int.reduceToNat, Int.reduceEq, Int.reduceNe, reduceIte, reduceCtorEq, BitVec.reduceOfInt, BitVec.reduceToNat]; try simp only [top_out])
  refine ⟨fun h => ?_, fun h => ?_⟩
  · refine dropC_self hM rfl ?_
    have : (a == b) = false := by
      rw [beq_eq_false_iff_ne]; intro e; subst e; simp at h
    rw [this] at hK; exact hK
  · have hl : a.length = b.length := by simp at h; omega
    clear h
    refine loop_code tabOK (by kernel_rfl) (fun m ts M' => ∃ k : Nat, k + m = a.length ∧ a.take k = b.take k ∧ M' = M ∧ frC [some (.sl n off a.length cap), some (.sl n' off' b.length cap'), none, none, none, some (.i .i64 k), none, none, none, none, none, none, none, none, none, none, none, none, none, none, none, none, none, none, none, none] ts) a.length ?_ ?_
    · exact ⟨0, by omega, rfl, rfl, by simp [frC]⟩
    · rintro m ts _ ⟨k, hk, he, rfl, hf⟩
      obtain ⟨f, rfl⟩ := frC_open _ _ 0 hf
      clear hf
      (refine top_in ?_; simp -implicitDefEqProofs only [go_sem, -List.reduceReplicate, ↓L_gdZ_tt, ↓L_gdZ_tf, ↓L_gdZ_ft, ↓L_gdZ_ff, ↓T_and, ↓T_imp, ↓T_all, Nat.reduceBEq, Nat.reduceAdd, Nat.reduceSub, Nat.reduceMul, Nat.reduceLT, Nat.reduceLeDiff, Nat.reduceEqDiff, Int.reduceLT, Int.reduceLE, Int.reduceAdd, Int.reduceSub, Int.reduceMul, Int.reduceNeg, Int.reduceToNat, Int.reduceEq, Int.reduceNe, reduceIte, reduceCtorEq, BitVec.reduceOfInt, BitVec.reduceToNat]; try simp only [top_out])
      refine ⟨fun h => ?_, fun h => ?_⟩
      · refine draw_rule tabOK (by kernel_rfl : _) (.p 0 (.p 1 (.p 2 (.p 3 (.p 4 (.p 5 (.p 6 (.p 7 (.p 8 .nil))))))))) (by kernel_rfl) (by kernel_rfl) ?_
        (refine top_in ?_; simp -implicitDefEqProofs only [go_sem, -List.reduceReplicate, ↓L_gdZ_tt, ↓L_gdZ_tf, ↓L_gdZ_ft, ↓L_gdZ_ff, ↓T_and, ↓T_imp, ↓T_all, Nat.reduceBEq, Nat.reduceAdd, Nat.reduceSub, Nat.reduceMul, Nat.reduceLT, Nat.reduceLeDiff, Nat.reduceEqDiff, Int.reduceLT, Int.reduceLE, Int.reduceAdd, Int.reduceSub, Int.reduceMul, Int.reduceNeg, Int.reduceToNat, Int.reduceEq, Int.reduceNe, reduceIte, reduceCtorEq, BitVec.reduceOfInt, BitVec.reduceToNat, ha.is8 (show k < a.length by omega), hb.is8 (show k < b.length by omega), ha.cell8 (show k < a.length by omega), hb.cell8 (show k < b.length by omega), ha.le (show k + 1 ≤ a.length by omega), hb.le (show k + 1 ≤ b.length by omega)]; try simp only [top_out])
        refine ⟨by omega, by omega, by omega, by omega, fun h1 => dropC_self hM rfl ?_, fun h1 => ⟨m - 1, by omega, k + 1, by omega, ?_, w64 (by omega) (by omega)⟩⟩
        · have : (a == b) = false := by
            rw [beq_eq_false_iff_ne]; intro e; subst e; simp at h1
          rw [this] at hK; exact hK
        · rw [take_snoc (by omega), take_snoc (by omega), he]
          rw [eq_of_beq (by simpa using h1 : (a.getD k 0#8 == b.getD k 0#8) = true)]
      · have hka : k = a.length := by omega
        subst hka
        have e := same_take hl he
        subst e
        refine dropC_self hM rfl ?_
        simpa using hK

theorem bytes_ok (n off cap : Nat) (l : List (BitVec 8)) (M : List Blk) (K : SV → List Blk → Prop) (ha : BAt M n off l) (hl : l.length ≤ 140737488355327)
    (hK : ∀ z ty, K (.sl M.length 0 l.length (l.length + z.length)) (M ++ [.row (bS (l ++ z)) ty])) :
    callVC Try.prog 15 [.sl n off l.length cap] M K := by
  refine fn_rule tabOK Try.func15 rfl Try.call15 (by kernel_rfl) (fun hM => ?_)
  (refine top_in ?_; simp -implicitDefEqProofs only [Try.ntmps15, Try.results15, go_sem, -List.reduceReplicate, ↓L_gdZ_tt, ↓L_gdZ_tf, ↓L_gdZ_ft, ↓L_gdZ_ff, ↓T_and, ↓T_imp, ↓T_all, Nat.reduceBEq, Nat.reduceAdd, Nat.reduceSub, Nat.reduceMul, Nat.reduceLT, Nat.reduceLeDiff, Nat.reduceEqDiff, Int.reduceLT, Int.reduceLE, Int.reduceAdd, Int.reduceSub, Int.reduceMul, Int.reduceNeg, Int.reduceToNat, Int.reduceEq, Int.reduceNe, reduceIte, reduceCtorEq, BitVec.reduceOfInt, BitVec.reduceToNat]; try simp only [top_out])
  refine loop_gc tabOK (by kernel_rfl) (fun m ts M' => ∃ (k : Nat) (z : List (BitVec 8)) (ty : TypeId), k + m = l.length ∧ M' = M ++ [.row (bS (l.take k ++ z)) ty] ∧ frC [some (.sl n off l.length cap), none, none, some (.sl M.length 0 k (k + z.length)), some (.i .i64 k), none, none, none, none, none, none, none, none, none, none, none, none, none, none] ts) l.length ?_ ?_
  · refine covF_gc0 hM [none] [some (.sl n off l.length cap), none, none, some (.sl M.length 0 0 0), some (.i .i64 0), none, none, none, none, none, none, none, none, none, none, none, none, none, none] [.row (bS []) 0] rfl ⟨rfl, trivial⟩ rfl ?_ ?_ (fun ts' h => ⟨0, [], 0, by omega, rfl, h⟩)
    · simp only [Int.natCast_add, cast_lit, Nat.add_assoc, rnSl_n, frRn_nil, frRn_s, frRn_n, frLt_nil, frLt_s, frLt_n, rn_i, rn_u8, rn_u32, rn_u64, rn_b, rn_str, rn_sn, rn_pn, rn_agg, rn_tup, rnL_nil, rnL_cons, rn_bS, rn_nil, rn_sl_at, rn_sl_at0, rn_p_at, rn_p_at0, rnSl_s, rnP_s, lt_i, lt_u8, lt_u32, lt_u64, lt_b, lt_sl, lt_p, lt_agg, lt_tup, ltL_nil', ltL_cons, bS_lt, List.getElem?_cons_succ, List.getElem?_cons_zero, Option.join_some, Nat.add_zero, Nat.zero_add, implies_true, and_self, and_true, true_and, Bool.and_true, Bool.true_and, Bool.and_self, List.length_cons, List.length_nil, List.length_append, decide_eq_true_eq, Bool.and_eq_true, rn_sl ha.lt]
    · have := ha.lt
      simp only [Int.natCast_add, cast_lit, Nat.add_assoc, rnSl_n, frRn_nil, frRn_s, frRn_n, frLt_nil, frLt_s, frLt_n, rn_i, rn_u8, rn_u32, rn_u64, rn_b, rn_str, rn_sn, rn_pn, rn_agg, rn_tup, rnL_nil, rnL_cons, rn_bS, rn_nil, rn_sl_at, rn_sl_at0, rn_p_at, rn_p_at0, rnSl_s, rnP_s, lt_i, lt_u8, lt_u32, lt_u64, lt_b, lt_sl, lt_p, lt_agg, lt_tup, ltL_nil', ltL_cons, bS_lt, List.getElem?_cons_succ, List.getElem?_cons_zero, Option.join_some, Nat.add_zero, Nat.zero_add, implies_true, and_self, and_true, true_and, Bool.and_true, Bool.true_and, Bool.and_self, List.length_cons, List.length_nil, List.length_append, decide_eq_true_eq, Bool.and_eq_true]; omega
  · rintro m ts _ ⟨k, z, ty, hk, rfl, hf⟩
    obtain ⟨f, rfl⟩ := frC_open _ _ 0 hf
    clear hf
    (refine top_in ?_; simp -implicitDefEqProofs only [go_sem, -List.reduceReplicate, ↓L_gdZ_tt, ↓L_gdZ_tf, ↓L_gdZ_ft, ↓L_gdZ_ff, ↓T_and, ↓T_imp, ↓T_all, Nat.reduceBEq, Nat.reduceAdd, Nat.reduceSub, Nat.reduceMul, Nat.reduceLT, Nat.reduceLeDiff, Nat.reduceEqDiff, Int.reduceLT, Int.reduceLE, Int.reduceAdd, Int.reduceSub, Int.reduceMul, Int.reduceNeg, Int.reduceToNat, Int.reduceEq, Int.reduceNe, reduceIte, reduceCtorEq, BitVec.reduceOfInt, BitVec.reduceToNat, get_lt ha.lt]; try simp only [top_out])
    refine ⟨fun h => ?_, fun h => ?_⟩
    · rw [ha.is8 (by omega), ha.cell8 (by omega)]
      refine ⟨by omega, by omega, ha.le (by omega), rfl, by decide, ?_⟩
      refine app8 M.length (l.take k) z [l.getD k 0#8] ty rfl rfl rfl (by simp [get_app0]) (by simp; omega) (by simp; omega) (src_u8 (by rw [get_app]; rfl)) (by simp; omega) ?_
      intro z' ty'
      (refine top_in ?_; simp -implicitDefEqProofs only [go_sem, -List.reduceReplicate, ↓L_gdZ_tt, ↓L_gdZ_tf, ↓L_gdZ_ft, ↓L_gdZ_ff, ↓T_and, ↓T_imp, ↓T_all, Nat.reduceBEq, Nat.reduceAdd, Nat.reduceSub, Nat.reduceMul, Nat.reduceLT, Nat.reduceLeDiff, Nat.reduceEqDiff, Int.reduceLT, Int.reduceLE, Int.reduceAdd, Int.reduceSub, Int.reduceMul, Int.reduceNeg, Int.reduceToNat, Int.reduceEq, Int.reduceNe, reduceIte, reduceCtorEq, BitVec.reduceOfInt, BitVec.reduceToNat]; try simp only [top_out])
      have hmin : min k l.length = k := by omega
      rw [w64 (by omega) (by omega), List.length_take, hmin]
      refine covF_gc hM [some 2] [some (.sl n off l.length cap), none, none, some (.sl M.length 0 (k + 1) (k + 1 + z'.length)), some (.i .i64 (k + 1 : Nat)), none, none, none, none, none, none, none, none, none, none, none, none, none, none] [.row (bS (l.take k ++ l.getD k 0#8 :: z')) ty'] rfl ⟨keep8 rfl, trivial⟩ (by simp [lt_row]) ?_ ?_ (fun ts' h => ⟨m - 1, by omega, k + 1, z', ty', by omega, by rw [take_snoc (by omega)]; simp, h⟩)
      · simp only [Int.natCast_add, cast_lit, Nat.add_assoc, rnSl_n, frRn_nil, frRn_s, frRn_n, frLt_nil, frLt_s, frLt_n, rn_i, rn_u8, rn_u32, rn_u64, rn_b, rn_str, rn_sn, rn_pn, rn_agg, rn_tup, rnL_nil, rnL_cons, rn_bS, rn_nil, rn_sl_at, rn_sl_at0, rn_p_at, rn_p_at0, rnSl_s, rnP_s, lt_i, lt_u8, lt_u32, lt_u64, lt_b, lt_sl, lt_p, lt_agg, lt_tup, ltL_nil', ltL_cons, bS_lt, List.getElem?_cons_succ, List.getElem?_cons_zero, Option.join_some, Nat.add_zero, Nat.zero_add, implies_true, and_self, and_true, true_and, Bool.and_true, Bool.true_and, Bool.and_self, List.length_cons, List.length_nil, List.length_append, decide_eq_true_eq, Bool.and_eq_true, rn_sl ha.lt]
      · have := ha.lt
        simp only [Int.natCast_add, cast_lit, Nat.add_assoc, rnSl_n, frRn_nil, frRn_s, frRn_n, frLt_nil, frLt_s, frLt_n, rn_i, rn_u8, rn_u32, rn_u64, rn_b, rn_str, rn_sn, rn_pn, rn_agg, rn_tup, rnL_nil, rnL_cons, rn_bS, rn_nil, rn_sl_at, rn_sl_at0, rn_p_at, rn_p_at0, rnSl_s, rnP_s, lt_i, lt_u8, lt_u32, lt_u64, lt_b, lt_sl, lt_p, lt_agg, lt_tup, ltL_nil', ltL_cons, bS_lt, List.getElem?_cons_succ, List.getElem?_cons_zero, Option.join_some, Nat.add_zero, Nat.zero_add, implies_true, and_self, and_true, true_and, Bool.and_true, Bool.true_and, Bool.and_self, List.length_cons, List.length_nil, List.length_append, decide_eq_true_eq, Bool.and_eq_true]; omega
    · obtain rfl : k = l.length := by omega
      rw [List.take_length]
      exact dropC_all (by simp) (hK z ty)
theorem same_ok2 (n off cap n' off' cap' la lb : Nat) (a b : List (BitVec 8)) (M : List Blk) (K : SV → List Blk → Prop) (ha : BAt M n off a) (hb : BAt M n' off' b) (hla : a.length ≤ 140737488355328) (hlb : b.length ≤ 140737488355328) (ea : la = a.length) (eb : lb = b.length) (hK : K (.b (a == b)) M) :
    callVC Try.prog 16 [.sl n off la cap, .sl n' off' lb cap'] M K := by
  subst ea eb; exact same_ok n off cap n' off' cap' a b M K ha hb hla hlb hK
theorem bytes_ok2 (n off cap len : Nat) (l : List (BitVec 8)) (M : List Blk) (K : SV → List Blk → Prop) (ha : BAt M n off l) (hl : l.length ≤ 140737488355327) (hlen : len = l.length)
    (hK : ∀ z ty, K (.sl M.length 0 l.length (l.length + z.length)) (M ++ [.row (bS (l ++ z)) ty])) :
    callVC Try.prog 15 [.sl n off len cap] M K := by
  subst hlen; exact bytes_ok n off cap l M K ha hl hK
end Go.Proofs.Ytccnffjjahdneaa.Eng
