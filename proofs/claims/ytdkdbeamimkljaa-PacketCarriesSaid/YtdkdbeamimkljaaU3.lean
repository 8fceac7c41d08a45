/- The document's numbers as bytes; heads and nonces: what may be. -/
import Derived.Test.YtdkdbeamimkljaaU2
namespace Go.Proofs.Ytdkdbeamimkljaa.Eng
open Go Go.RowKit
set_option linter.unusedSimpArgs false
set_option linter.unusedVariables false

theorem beL_take {n k : Nat} {x : BitVec 64} (h : k < n) : (beL n x).take (k + 1) = (beL n x).take k ++ [(x >>> (8 * (n - 1 - k))).setWidth 8] := by
  rw [take_snoc (by rw [beL_len]; exact h)]
  unfold beL
  rw [gl_getD h]

theorem number_ok (x : BitVec 64) (n : Nat) (hn : n ≤ 8) (M : List Blk) (K : SV → List Blk → Prop)
    (hK : ∀ z ty, K (.sl M.length 0 n (n + z.length)) (M ++ [.row (bS (beL n x ++ z)) ty])) :
    callVC Try.prog 34 [.u64 x, .i .i64 n] M K := by
  refine fn_rule tabOK Try.func34 rfl Try.call34 (by kernel_rfl) (fun hM => ?_)
  (refine top_in ?_; simp -implicitDefEqProofs only [Try.ntmps34, Try.results34, go_sem, -List.reduceReplicate, ↓L_gdZ_tt, ↓L_gdZ_tf, ↓L_gdZ_ft, ↓L_gdZ_ff, ↓T_and, ↓T_imp, ↓T_all, Nat.reduceBEq, Nat.reduceAdd, Nat.reduceSub, Nat.reduceMul, Nat.reduceLT, Nat.reduceLeDiff, Nat.reduceEqDiff, Int.reduceLT, Int.reduceLE, Int.reduceAdd, Int.reduceSub, Int.reduceMul, Int.reduceNeg, Int.reduceToNat, Int.reduceEq, Int.reduceNe, reduceIte, reduceCtorEq, BitVec.reduceOfInt, BitVec.reduceToNat]; try simp only [top_out])
  rw [w64 (by omega) (by omega)]
  refine loop_gc tabOK (by kernel_rfl) (fun m ts M' => ∃ (k : Nat) (z : List (BitVec 8)) (ty : TypeId), k + m = n ∧ M' = M ++ [.row (bS ((beL n x).take k ++ z)) ty] ∧ frC [some (.u64 x), none, none, none, none, some (.sl M.length 0 k (k + z.length)), some (.i .i64 ((n : Int) - 1 - k)), none, none, none, none, none, none, none, none, none, none, none, none, none, none, none] ts) n ?_ ?_
  · refine covF_gc0 hM [none] [some (.u64 x), none, none, none, none, some (.sl M.length 0 0 0), some (.i .i64 ((n : Int) - 1)), none, none, none, none, none, none, none, none, none, none, none, none, none, none, none] [.row (bS []) 0] rfl ⟨rfl, trivial⟩ rfl ?_ ?_ (fun ts' h => ⟨0, [], 0, by omega, rfl, by simpa using h⟩)
    · simp only [Int.natCast_add, cast_lit, Nat.add_assoc, rnSl_n, frRn_nil, frRn_s, frRn_n, frLt_nil, frLt_s, frLt_n, rn_i, rn_u8, rn_u32, rn_u64, rn_b, rn_str, rn_sn, rn_pn, rn_agg, rn_tup, rnL_nil, rnL_cons, rn_bS, rn_nil, rn_sl_at, rn_sl_at0, rn_p_at, rn_p_at0, rnSl_s, rnP_s, lt_i, lt_u8, lt_u32, lt_u64, lt_b, lt_sl, lt_p, lt_agg, lt_tup, ltL_nil', ltL_cons, bS_lt, List.getElem?_cons_succ, List.getElem?_cons_zero, Option.join_some, Nat.add_zero, Nat.zero_add, implies_true, and_self, and_true, true_and, Bool.and_true, Bool.true_and, Bool.and_self, List.length_cons, List.length_nil, List.length_append, decide_eq_true_eq, Bool.and_eq_true]
    · simp only [Int.natCast_add, cast_lit, Nat.add_assoc, rnSl_n, frRn_nil, frRn_s, frRn_n, frLt_nil, frLt_s, frLt_n, rn_i, rn_u8, rn_u32, rn_u64, rn_b, rn_str, rn_sn, rn_pn, rn_agg, rn_tup, rnL_nil, rnL_cons, rn_bS, rn_nil, rn_sl_at, rn_sl_at0, rn_p_at, rn_p_at0, rnSl_s, rnP_s, lt_i, lt_u8, lt_u32, lt_u64, lt_b, lt_sl, lt_p, lt_agg, lt_tup, ltL_nil', ltL_cons, bS_lt, List.getElem?_cons_succ, List.getElem?_cons_zero, Option.join_some, Nat.add_zero, Nat.zero_add, implies_true, and_self, and_true, true_and, Bool.and_true, Bool.true_and, Bool.and_self, List.length_cons, List.length_nil, List.length_append, decide_eq_true_eq, Bool.and_eq_true]; omega
  · rintro m ts _ ⟨k, z, ty, hk, rfl, hf⟩
    obtain ⟨f, rfl⟩ := frC_open _ _ 0 hf
    clear hf
    (refine top_in ?_; simp -implicitDefEqProofs only [go_sem, -List.reduceReplicate, ↓L_gdZ_tt, ↓L_gdZ_tf, ↓L_gdZ_ft, ↓L_gdZ_ff, ↓T_and, ↓T_imp, ↓T_all, Nat.reduceBEq, Nat.reduceAdd, Nat.reduceSub, Nat.reduceMul, Nat.reduceLT, Nat.reduceLeDiff, Nat.reduceEqDiff, Int.reduceLT, Int.reduceLE, Int.reduceAdd, Int.reduceSub, Int.reduceMul, Int.reduceNeg, Int.reduceToNat, Int.reduceEq, Int.reduceNe, reduceIte, reduceCtorEq, BitVec.reduceOfInt, BitVec.reduceToNat]; try simp only [top_out])
    refine ⟨fun h => ?_, fun h => ?_⟩
    · have hb : (beL n x).length = n := beL_len n x
      have hmin : min k n = k := by omega
      have e1 : (n : Int) - 1 - k = ((n - 1 - k : Nat) : Int) := by omega
      rw [w64 (x := 8 * _) (by omega) (by omega), e1, show 8 * ((n - 1 - k : Nat) : Int) = ((8 * (n - 1 - k) : Nat) : Int) by omega, Int.toNat_natCast]
      refine ⟨by omega, by decide, ?_⟩
      refine app8 M.length ((beL n x).take k) z [(x >>> (8 * (n - 1 - k))).setWidth 8] ty rfl rfl rfl (by simp [get_app0]) (by simp [hb]; omega) (by simp [hb]; omega) (src_u8 (by rw [get_app]; rfl)) (by simp [hb]; omega) ?_
      intro z' ty'
      (refine top_in ?_; simp -implicitDefEqProofs only [go_sem, -List.reduceReplicate, ↓L_gdZ_tt, ↓L_gdZ_tf, ↓L_gdZ_ft, ↓L_gdZ_ff, ↓T_and, ↓T_imp, ↓T_all, Nat.reduceBEq, Nat.reduceAdd, Nat.reduceSub, Nat.reduceMul, Nat.reduceLT, Nat.reduceLeDiff, Nat.reduceEqDiff, Int.reduceLT, Int.reduceLE, Int.reduceAdd, Int.reduceSub, Int.reduceMul, Int.reduceNeg, Int.reduceToNat, Int.reduceEq, Int.reduceNe, reduceIte, reduceCtorEq, BitVec.reduceOfInt, BitVec.reduceToNat, List.length_take, hb, hmin]; try simp only [top_out])
      refine covF_gc hM [some 2] [some (.u64 x), none, none, none, none, some (.sl M.length 0 (k + 1) (k + 1 + z'.length)), some (.i .i64 ((n : Int) - 1 - (k + 1))), none, none, none, none, none, none, none, none, none, none, none, none, none, none, none] [.row (bS ((beL n x).take k ++ (x >>> (8 * (n - 1 - k))).setWidth 8 :: z')) ty'] rfl ⟨keep8 rfl, trivial⟩ (by simp [lt_row]) ?_ ?_ (fun ts' h => ⟨m - 1, by omega, k + 1, z', ty', by omega, by rw [beL_take (by omega)]; simp, by simpa using h⟩)
      · rw [w64 (x := _ - 1) (by omega) (by omega), show ((n - 1 - k : Nat) : Int) - 1 = (n : Int) - 1 - (k + 1) by omega]
        simp only [Int.natCast_add, cast_lit, Nat.add_assoc, rnSl_n, frRn_nil, frRn_s, frRn_n, frLt_nil, frLt_s, frLt_n, rn_i, rn_u8, rn_u32, rn_u64, rn_b, rn_str, rn_sn, rn_pn, rn_agg, rn_tup, rnL_nil, rnL_cons, rn_bS, rn_nil, rn_sl_at, rn_sl_at0, rn_p_at, rn_p_at0, rnSl_s, rnP_s, lt_i, lt_u8, lt_u32, lt_u64, lt_b, lt_sl, lt_p, lt_agg, lt_tup, ltL_nil', ltL_cons, bS_lt, List.getElem?_cons_succ, List.getElem?_cons_zero, Option.join_some, Nat.add_zero, Nat.zero_add, implies_true, and_self, and_true, true_and, Bool.and_true, Bool.true_and, Bool.and_self, List.length_cons, List.length_nil, List.length_append, decide_eq_true_eq, Bool.and_eq_true]
      · simp only [Int.natCast_add, cast_lit, Nat.add_assoc, rnSl_n, frRn_nil, frRn_s, frRn_n, frLt_nil, frLt_s, frLt_n, rn_i, rn_u8, rn_u32, rn_u64, rn_b, rn_str, rn_sn, rn_pn, rn_agg, rn_tup, rnL_nil, rnL_cons, rn_bS, rn_nil, rn_sl_at, rn_sl_at0, rn_p_at, rn_p_at0, rnSl_s, rnP_s, lt_i, lt_u8, lt_u32, lt_u64, lt_b, lt_sl, lt_p, lt_agg, lt_tup, ltL_nil', ltL_cons, bS_lt, List.getElem?_cons_succ, List.getElem?_cons_zero, Option.join_some, Nat.add_zero, Nat.zero_add, implies_true, and_self, and_true, true_and, Bool.and_true, Bool.true_and, Bool.and_self, List.length_cons, List.length_nil, List.length_append, decide_eq_true_eq, Bool.and_eq_true]; omega
    · obtain rfl : k = n := by omega
      have e : (beL k x).take k = beL k x := List.take_of_length_le (by rw [beL_len]; omega)
      rw [e]
      exact dropC_all (by simp) (hK z ty)

def headB (t l g : Int) (c : BitVec 64) : Bool := decide (1 ≤ t) && decide (t ≤ 3) && decide (1 ≤ l) && decide (l ≤ 4294967295) && decide (1 ≤ g) && decide (g ≤ 2147483647) && decide (c.toNat ≤ 18446744073709551614)
def hdS (t l g : Int) (c : BitVec 64) : SV := .agg [.i .i64 t, .i .i64 l, .i .i64 g, .u64 c]

/-- an answer that is a bool, nothing else left -/
theorem dropB {M L : List Blk} {b b' : Bool} {K : SV → List Blk → Prop} (hM : ∀ (n : Nat) (B : Blk), M[n]? = some B → B.lt M.length = true) (hK : K (.b b) M) (h : b = b') : dropC M.length (.b b') (M ++ L) K :=
  dropC_append hM rfl (h ▸ hK)
theorem dropB0 {M : List Blk} {b b' : Bool} {K : SV → List Blk → Prop} (hM : ∀ (n : Nat) (B : Blk), M[n]? = some B → B.lt M.length = true) (hK : K (.b b) M) (h : b = b') : dropC M.length (.b b') M K :=
  dropC_self hM rfl (h ▸ hK)

theorem isHead_ok (t l g : Int) (c : BitVec 64) (M : List Blk) (K : SV → List Blk → Prop) (hK : K (.b (headB t l g c)) M) : callVC Try.prog 31 [hdS t l g c] M K := by
  unfold hdS
  refine fn_rule tabOK Try.func31 rfl Try.call31 (by kernel_rfl) (fun hM => ?_)
  (refine top_in ?_; simp -implicitDefEqProofs only [Try.ntmps31, Try.results31, go_sem, -List.reduceReplicate, ↓L_gdZ_tt, ↓L_gdZ_tf, ↓L_gdZ_ft, ↓L_gdZ_ff, ↓T_and, ↓T_imp, ↓T_all, Nat.reduceBEq, Nat.reduceAdd, Nat.reduceSub, Nat.reduceMul, Nat.reduceLT, Nat.reduceLeDiff, Nat.reduceEqDiff, Int.reduceLT, Int.reduceLE, Int.reduceAdd, Int.reduceSub, Int.reduceMul, Int.reduceNeg, Int.reduceToNat, Int.reduceEq, Int.reduceNe, reduceIte, reduceCtorEq, BitVec.reduceOfInt, BitVec.reduceToNat]; try simp only [top_out])
  repeat' (with_reducible first | refine And.intro ?_ ?_ | intro)
  all_goals
    refine dropB hM hK ?_
    simp [headB, *]

def fitsB (k n : Int) : Bool := if k = 3 then decide (9 ≤ n) && decide (n ≤ 1280) else decide (n = 12)
theorem fits_ok (k n : Int) (M : List Blk) (K : SV → List Blk → Prop) (hK : K (.b (fitsB k n)) M) : callVC Try.prog 51 [.i .i64 k, .i .i64 n] M K := by
  refine fn_rule tabOK Try.func51 rfl Try.call51 (by kernel_rfl) (fun hM => ?_)
  (refine top_in ?_; simp -implicitDefEqProofs only [Try.ntmps51, Try.results51, go_sem, -List.reduceReplicate, ↓L_gdZ_tt, ↓L_gdZ_tf, ↓L_gdZ_ft, ↓L_gdZ_ff, ↓T_and, ↓T_imp, ↓T_all, Nat.reduceBEq, Nat.reduceAdd, Nat.reduceSub, Nat.reduceMul, Nat.reduceLT, Nat.reduceLeDiff, Nat.reduceEqDiff, Int.reduceLT, Int.reduceLE, Int.reduceAdd, Int.reduceSub, Int.reduceMul, Int.reduceNeg, Int.reduceToNat, Int.reduceEq, Int.reduceNe, reduceIte, reduceCtorEq, BitVec.reduceOfInt, BitVec.reduceToNat]; try simp only [top_out])
  repeat' (with_reducible first | refine And.intro ?_ ?_ | intro)
  all_goals
    refine dropB0 hM hK ?_
    unfold fitsB
    first
      | (rw [if_pos (by simpa using ‹(k == 3) = true›)]; simp [*]; done)
      | (rw [if_neg (by simpa using ‹(k == 3) = false›)]; rfl)
theorem reffits_ok (k n : Int) (M : List Blk) (K : SV → List Blk → Prop) (hK : K (.b (fitsB k n)) M) : callVC Try.prog 37 [.i .i64 k, .i .i64 n] M K := by
  refine fn_rule tabOK Try.func37 rfl Try.call37 (by kernel_rfl) (fun hM => ?_)
  (refine top_in ?_; simp -implicitDefEqProofs only [Try.ntmps37, Try.results37, go_sem, -List.reduceReplicate, ↓L_gdZ_tt, ↓L_gdZ_tf, ↓L_gdZ_ft, ↓L_gdZ_ff, ↓T_and, ↓T_imp, ↓T_all, Nat.reduceBEq, Nat.reduceAdd, Nat.reduceSub, Nat.reduceMul, Nat.reduceLT, Nat.reduceLeDiff, Nat.reduceEqDiff, Int.reduceLT, Int.reduceLE, Int.reduceAdd, Int.reduceSub, Int.reduceMul, Int.reduceNeg, Int.reduceToNat, Int.reduceEq, Int.reduceNe, reduceIte, reduceCtorEq, BitVec.reduceOfInt, BitVec.reduceToNat]; try simp only [top_out])
  repeat' (with_reducible first | refine And.intro ?_ ?_ | intro)
  all_goals
    refine dropB0 hM hK ?_
    unfold fitsB
    first
      | (rw [if_pos (by simpa using ‹(k == 3) = true›)]; simp [*]; done)
      | (rw [if_neg (by simpa using ‹(k == 3) = false›)]; rfl)
theorem num_ok (x : Int) (M : List Blk) (K : SV → List Blk → Prop) (hK : K (.i .i64 x) M) : callVC Try.prog 16 [.i .i64 x] M K := by
  refine fn_rule tabOK Try.func16 rfl Try.call16 (by kernel_rfl) (fun hM => ?_)
  (refine top_in ?_; simp -implicitDefEqProofs only [Try.ntmps16, Try.results16, go_sem, -List.reduceReplicate, ↓L_gdZ_tt, ↓L_gdZ_tf, ↓L_gdZ_ft, ↓L_gdZ_ff, ↓T_and, ↓T_imp, ↓T_all, Nat.reduceBEq, Nat.reduceAdd, Nat.reduceSub, Nat.reduceMul, Nat.reduceLT, Nat.reduceLeDiff, Nat.reduceEqDiff, Int.reduceLT, Int.reduceLE, Int.reduceAdd, Int.reduceSub, Int.reduceMul, Int.reduceNeg, Int.reduceToNat, Int.reduceEq, Int.reduceNe, reduceIte, reduceCtorEq, BitVec.reduceOfInt, BitVec.reduceToNat]; try simp only [top_out])
  exact dropC_self hM rfl hK
def sameHB (t l g : Int) (c : BitVec 64) (t' l' g' : Int) (c' : BitVec 64) : Bool := t == t' && l == l' && g == g' && c == c'
theorem sameHead_ok (t l g : Int) (c : BitVec 64) (t' l' g' : Int) (c' : BitVec 64) (M : List Blk) (K : SV → List Blk → Prop) (hK : K (.b (sameHB t l g c t' l' g' c')) M) : callVC Try.prog 21 [hdS t l g c, hdS t' l' g' c'] M K := by
  unfold hdS
  refine fn_rule tabOK Try.func21 rfl Try.call21 (by kernel_rfl) (fun hM => ?_)
  (refine top_in ?_; simp -implicitDefEqProofs only [Try.ntmps21, Try.results21, go_sem, -List.reduceReplicate, ↓L_gdZ_tt, ↓L_gdZ_tf, ↓L_gdZ_ft, ↓L_gdZ_ff, ↓T_and, ↓T_imp, ↓T_all, Nat.reduceBEq, Nat.reduceAdd, Nat.reduceSub, Nat.reduceMul, Nat.reduceLT, Nat.reduceLeDiff, Nat.reduceEqDiff, Int.reduceLT, Int.reduceLE, Int.reduceAdd, Int.reduceSub, Int.reduceMul, Int.reduceNeg, Int.reduceToNat, Int.reduceEq, Int.reduceNe, reduceIte, reduceCtorEq, BitVec.reduceOfInt, BitVec.reduceToNat]; try simp only [top_out])
  repeat' (with_reducible first | refine And.intro ?_ ?_ | intro)
  all_goals
    refine dropB hM hK ?_
    simp_all [sameHB]

def nonceB (s g : Int) (c : BitVec 64) : Bool := (s == 0 || s == 1) && decide (1 ≤ g) && decide (g ≤ 2147483647) && decide (c.toNat ≤ 18446744073709551614)
def nonceL (s g : Int) (c : BitVec 64) : List (BitVec 8) := beL 4 (BitVec.ofInt 64 g + (if s = 1 then 2147483648#64 else 0#64)) ++ beL 8 c
theorem nonceL_len (s g : Int) (c : BitVec 64) : (nonceL s g c).length = 12 := by simp [nonceL, beL_len]
theorem nonce32 {s g : Int} (hs : s = 0 ∨ s = 1) (h0 : 1 ≤ g) (h1 : g ≤ 2147483647) : (BitVec.ofInt 32 s <<< 31 + BitVec.ofInt 32 g).setWidth 64 = BitVec.ofInt 64 g + (if s = 1 then 2147483648#64 else 0#64) := by
  obtain ⟨n, rfl⟩ := Int.eq_ofNat_of_zero_le (show 0 ≤ g by omega)
  have e0 : BitVec.ofInt 32 0 <<< 31 = 0#32 := by decide
  have e1 : BitVec.ofInt 32 1 <<< 31 = 2147483648#32 := by decide
  have a : (2147483648#32).toNat = 2147483648 := rfl
  have b : (2147483648#64).toNat = 2147483648 := rfl
  have c : (BitVec.ofNat 32 n).toNat = n := by rw [BitVec.toNat_ofNat]; exact Nat.mod_eq_of_lt (by omega)
  have d : (BitVec.ofNat 64 n).toNat = n := by rw [BitVec.toNat_ofNat]; exact Nat.mod_eq_of_lt (by omega)
  apply BitVec.eq_of_toNat_eq
  rcases hs with rfl | rfl
  · rw [e0, if_neg (by decide), BitVec.ofInt_natCast, BitVec.ofInt_natCast, BitVec.zero_add, BitVec.add_zero, BitVec.toNat_setWidth, c, d]
    exact Nat.mod_eq_of_lt (by omega)
  · rw [e1, if_pos rfl, BitVec.ofInt_natCast, BitVec.ofInt_natCast]
    rw [BitVec.toNat_setWidth, BitVec.toNat_add, BitVec.toNat_add, a, b, c, d, Nat.mod_eq_of_lt (by omega : 2147483648 + n < 2 ^ 32), Nat.mod_eq_of_lt (by omega : 2147483648 + n < 2 ^ 64), Nat.mod_eq_of_lt (by omega : n + 2147483648 < 2 ^ 64), Nat.add_comm]

theorem nonceB_true {s g : Int} {c : BitVec 64} (h : nonceB s g c = true) : (s = 0 ∨ s = 1) ∧ 1 ≤ g ∧ g ≤ 2147483647 ∧ c.toNat ≤ 18446744073709551614 := by
  simp only [nonceB, Bool.and_eq_true, Bool.or_eq_true, beq_iff_eq, decide_eq_true_eq] at h
  exact ⟨h.1.1.1, h.1.1.2, h.1.2, h.2⟩
theorem nonceB_of {s g : Int} {c : BitVec 64} (h : nonceB s g c = false) (hs : s = 0 ∨ s = 1) (h1 : 1 ≤ g) (h2 : g ≤ 2147483647) (h3 : c.toNat ≤ 18446744073709551614) : False := by
  have : nonceB s g c = true := by
    simp only [nonceB, Bool.and_eq_true, Bool.or_eq_true, beq_iff_eq, decide_eq_true_eq]
    exact ⟨⟨⟨hs, h1⟩, h2⟩, h3⟩
  rw [this] at h; cases h

theorem nonce_ok (s g : Int) (c : BitVec 64) (M : List Blk) (K : SV → List Blk → Prop) (h1 : nonceB s g c = true → ∀ z ty, K (.sl M.length 0 12 (12 + z.length)) (M ++ [.row (bS (nonceL s g c ++ z)) ty])) (h0 : nonceB s g c = false → K .sn M) :
    callVC Try.prog 14 [.i .i64 s, .i .i64 g, .u64 c] M K := by
  cases h : nonceB s g c
  · refine fn_rule tabOK Try.func14 rfl Try.call14 (by kernel_rfl) (fun hM => ?_)
    (refine top_in ?_; simp -implicitDefEqProofs only [Try.ntmps14, Try.results14, go_sem, -List.reduceReplicate, ↓L_gdZ_tt, ↓L_gdZ_tf, ↓L_gdZ_ft, ↓L_gdZ_ff, ↓T_and, ↓T_imp, ↓T_all, Nat.reduceBEq, Nat.reduceAdd, Nat.reduceSub, Nat.reduceMul, Nat.reduceLT, Nat.reduceLeDiff, Nat.reduceEqDiff, Int.reduceLT, Int.reduceLE, Int.reduceAdd, Int.reduceSub, Int.reduceMul, Int.reduceNeg, Int.reduceToNat, Int.reduceEq, Int.reduceNe, reduceIte, reduceCtorEq, BitVec.reduceOfInt, BitVec.reduceToNat]; try simp only [top_out])
    repeat' (with_reducible first | refine And.intro ?_ ?_ | intro)
    all_goals first
      | exact dropC_self hM rfl (h0 h)
      | (exfalso
         refine nonceB_of h ?_ (by omega) (by omega) (by omega)
         first | exact .inl (by simpa using ‹(s != 0) = false›) | exact .inr (by simpa using ‹(s != 1) = false›))
  · obtain ⟨hs, g1, g2, hc⟩ := nonceB_true h
    have a1 : (g < 1) = False := by simp; omega
    have a2 : (2147483647 < g) = False := by simp; omega
    have a3 : (18446744073709551614 < c.toNat) = False := by simp; omega
    have key : ∀ M' : List Blk, M' = M → callVC Try.prog 14 [.i .i64 s, .i .i64 g, .u64 c] M' K := by
      rintro M rfl
      refine fn_rule tabOK Try.func14 rfl Try.call14 (by kernel_rfl) (fun hM => ?_)
      (refine top_in ?_; simp -implicitDefEqProofs only [Try.ntmps14, Try.results14, go_sem, -List.reduceReplicate, ↓L_gdZ_tt, ↓L_gdZ_tf, ↓L_gdZ_ft, ↓L_gdZ_ff, ↓T_and, ↓T_imp, ↓T_all, Nat.reduceBEq, Nat.reduceAdd, Nat.reduceSub, Nat.reduceMul, Nat.reduceLT, Nat.reduceLeDiff, Nat.reduceEqDiff, Int.reduceLT, Int.reduceLE, Int.reduceAdd, Int.reduceSub, Int.reduceMul, Int.reduceNeg, Int.reduceToNat, Int.reduceEq, Int.reduceNe, reduceIte, reduceCtorEq, BitVec.reduceOfInt, BitVec.reduceToNat, a1, a2, a3]; try simp only [top_out])
      repeat' (with_reducible first | refine And.intro ?_ ?_ | intro)
      all_goals first
        | (exfalso
           have e1 : (s != 0) = true := by assumption
           have e2 : (s != 1) = true := by assumption
           rcases hs with rfl | rfl
           · cases e1
           · cases e2)
        | (refine put32n_ok _ _ _ ?_
           intro ty
           (refine top_in ?_; simp -implicitDefEqProofs only [go_sem, -List.reduceReplicate, ↓L_gdZ_tt, ↓L_gdZ_tf, ↓L_gdZ_ft, ↓L_gdZ_ff, ↓T_and, ↓T_imp, ↓T_all, Nat.reduceBEq, Nat.reduceAdd, Nat.reduceSub, Nat.reduceMul, Nat.reduceLT, Nat.reduceLeDiff, Nat.reduceEqDiff, Int.reduceLT, Int.reduceLE, Int.reduceAdd, Int.reduceSub, Int.reduceMul, Int.reduceNeg, Int.reduceToNat, Int.reduceEq, Int.reduceNe, reduceIte, reduceCtorEq, BitVec.reduceOfInt, BitVec.reduceToNat]; try simp only [top_out])
           refine put64_ok (M.length + 1) 0 4 (beL 4 ((BitVec.ofInt 32 s <<< 31 + BitVec.ofInt 32 g).setWidth 64)) c _ _ (BAt.row (z := []) (by rw [get_app, List.append_nil]; rfl)) (by rw [beL_len]; omega) ?_
           intro ty'
           (refine top_in ?_; simp -implicitDefEqProofs only [go_sem, -List.reduceReplicate, ↓L_gdZ_tt, ↓L_gdZ_tf, ↓L_gdZ_ft, ↓L_gdZ_ff, ↓T_and, ↓T_imp, ↓T_all, Nat.reduceBEq, Nat.reduceAdd, Nat.reduceSub, Nat.reduceMul, Nat.reduceLT, Nat.reduceLeDiff, Nat.reduceEqDiff, Int.reduceLT, Int.reduceLE, Int.reduceAdd, Int.reduceSub, Int.reduceMul, Int.reduceNeg, Int.reduceToNat, Int.reduceEq, Int.reduceNe, reduceIte, reduceCtorEq, BitVec.reduceOfInt, BitVec.reduceToNat]; try simp only [top_out])
           rw [nonce32 hs g1 g2]
           refine drop8 2 hM rfl rfl ?_
           have := h1 h [] ty'
           rw [List.append_nil] at this
           exact this)
    exact key M rfl
theorem refnonce_ok (s g : Int) (c : BitVec 64) (M : List Blk) (K : SV → List Blk → Prop) (h1 : nonceB s g c = true → ∀ z ty, K (.sl M.length 0 12 (12 + z.length)) (M ++ [.row (bS (nonceL s g c ++ z)) ty])) (h0 : nonceB s g c = false → K .sn M) :
    callVC Try.prog 15 [.i .i64 s, .i .i64 g, .u64 c] M K := by
  cases h : nonceB s g c
  · refine fn_rule tabOK Try.func15 rfl Try.call15 (by kernel_rfl) (fun hM => ?_)
    (refine top_in ?_; simp -implicitDefEqProofs only [Try.ntmps15, Try.results15, go_sem, -List.reduceReplicate, ↓L_gdZ_tt, ↓L_gdZ_tf, ↓L_gdZ_ft, ↓L_gdZ_ff, ↓T_and, ↓T_imp, ↓T_all, Nat.reduceBEq, Nat.reduceAdd, Nat.reduceSub, Nat.reduceMul, Nat.reduceLT, Nat.reduceLeDiff, Nat.reduceEqDiff, Int.reduceLT, Int.reduceLE, Int.reduceAdd, Int.reduceSub, Int.reduceMul, Int.reduceNeg, Int.reduceToNat, Int.reduceEq, Int.reduceNe, reduceIte, reduceCtorEq, BitVec.reduceOfInt, BitVec.reduceToNat]; try simp only [top_out])
    repeat' (with_reducible first | refine And.intro ?_ ?_ | intro)
    all_goals first
      | exact dropC_self hM rfl (h0 h)
      | (exfalso
         exact nonceB_of h (by omega) (by omega) (by omega) (by omega))
  · obtain ⟨hs, g1, g2, hc⟩ := nonceB_true h
    have a0 : (s < 0) = False := by simp; omega
    have a4 : (1 < s) = False := by simp; omega
    have a1 : (g < 1) = False := by simp; omega
    have a2 : (2147483647 < g) = False := by simp; omega
    have a3 : (18446744073709551614 < c.toNat) = False := by simp; omega
    refine fn_rule tabOK Try.func15 rfl Try.call15 (by kernel_rfl) (fun hM => ?_)
    (refine top_in ?_; simp -implicitDefEqProofs only [Try.ntmps15, Try.results15, go_sem, -List.reduceReplicate, ↓L_gdZ_tt, ↓L_gdZ_tf, ↓L_gdZ_ft, ↓L_gdZ_ff, ↓T_and, ↓T_imp, ↓T_all, Nat.reduceBEq, Nat.reduceAdd, Nat.reduceSub, Nat.reduceMul, Nat.reduceLT, Nat.reduceLeDiff, Nat.reduceEqDiff, Int.reduceLT, Int.reduceLE, Int.reduceAdd, Int.reduceSub, Int.reduceMul, Int.reduceNeg, Int.reduceToNat, Int.reduceEq, Int.reduceNe, reduceIte, reduceCtorEq, BitVec.reduceOfInt, BitVec.reduceToNat, a0, a1, a2, a3, a4]; try simp only [top_out])
    have step : ∀ x : BitVec 64, x = BitVec.ofInt 64 g + (if s = 1 then 2147483648#64 else 0#64) → beL 4 x ++ beL 8 c = nonceL s g c := fun x hx => by rw [hx]; rfl
    refine ⟨fun h5 => ?_, fun h5 => ?_⟩
    · have hs1 : s = 1 := by simpa using h5
      have step := step (BitVec.ofInt 64 g + 2147483648#64) (by rw [if_pos hs1])
      refine number_ok _ 4 (by omega) _ _ (fun z ty => ?_)
      (refine top_in ?_; simp -implicitDefEqProofs only [go_sem, -List.reduceReplicate, ↓L_gdZ_tt, ↓L_gdZ_tf, ↓L_gdZ_ft, ↓L_gdZ_ff, ↓T_and, ↓T_imp, ↓T_all, Nat.reduceBEq, Nat.reduceAdd, Nat.reduceSub, Nat.reduceMul, Nat.reduceLT, Nat.reduceLeDiff, Nat.reduceEqDiff, Int.reduceLT, Int.reduceLE, Int.reduceAdd, Int.reduceSub, Int.reduceMul, Int.reduceNeg, Int.reduceToNat, Int.reduceEq, Int.reduceNe, reduceIte, reduceCtorEq, BitVec.reduceOfInt, BitVec.reduceToNat]; try simp only [top_out])
      refine number_ok c 8 (by omega) _ _ (fun z2 ty2 => ?_)
      (refine top_in ?_; simp -implicitDefEqProofs only [go_sem, -List.reduceReplicate, ↓L_gdZ_tt, ↓L_gdZ_tf, ↓L_gdZ_ft, ↓L_gdZ_ff, ↓T_and, ↓T_imp, ↓T_all, Nat.reduceBEq, Nat.reduceAdd, Nat.reduceSub, Nat.reduceMul, Nat.reduceLT, Nat.reduceLeDiff, Nat.reduceEqDiff, Int.reduceLT, Int.reduceLE, Int.reduceAdd, Int.reduceSub, Int.reduceMul, Int.reduceNeg, Int.reduceToNat, Int.reduceEq, Int.reduceNe, reduceIte, reduceCtorEq, BitVec.reduceOfInt, BitVec.reduceToNat]; try simp only [top_out])
      refine app8 M.length _ z (beL 8 c) ty rfl rfl rfl (by rw [get_app0]; rfl) rfl rfl (src_row (z := z2) (ty := ty2) (by rw [get_app]; rfl) (beL_len _ _).symm) (by simp [beL_len]) ?_
      · intro z' ty'
        (refine top_in ?_; simp -implicitDefEqProofs only [go_sem, -List.reduceReplicate, ↓L_gdZ_tt, ↓L_gdZ_tf, ↓L_gdZ_ft, ↓L_gdZ_ff, ↓T_and, ↓T_imp, ↓T_all, Nat.reduceBEq, Nat.reduceAdd, Nat.reduceSub, Nat.reduceMul, Nat.reduceLT, Nat.reduceLeDiff, Nat.reduceEqDiff, Int.reduceLT, Int.reduceLE, Int.reduceAdd, Int.reduceSub, Int.reduceMul, Int.reduceNeg, Int.reduceToNat, Int.reduceEq, Int.reduceNe, reduceIte, reduceCtorEq, BitVec.reduceOfInt, BitVec.reduceToNat]; try simp only [top_out])
        refine drop8 2 hM rfl rfl ?_
        rw [← List.append_assoc, step]
        exact h1 h z' ty'
    · have hs1 : ¬ s = 1 := by simpa using h5
      have step := step (BitVec.ofInt 64 g) (by rw [if_neg hs1, BitVec.add_zero])
      refine number_ok _ 4 (by omega) _ _ (fun z ty => ?_)
      (refine top_in ?_; simp -implicitDefEqProofs only [go_sem, -List.reduceReplicate, ↓L_gdZ_tt, ↓L_gdZ_tf, ↓L_gdZ_ft, ↓L_gdZ_ff, ↓T_and, ↓T_imp, ↓T_all, Nat.reduceBEq, Nat.reduceAdd, Nat.reduceSub, Nat.reduceMul, Nat.reduceLT, Nat.reduceLeDiff, Nat.reduceEqDiff, Int.reduceLT, Int.reduceLE, Int.reduceAdd, Int.reduceSub, Int.reduceMul, Int.reduceNeg, Int.reduceToNat, Int.reduceEq, Int.reduceNe, reduceIte, reduceCtorEq, BitVec.reduceOfInt, BitVec.reduceToNat]; try simp only [top_out])
      refine number_ok c 8 (by omega) _ _ (fun z2 ty2 => ?_)
      (refine top_in ?_; simp -implicitDefEqProofs only [go_sem, -List.reduceReplicate, ↓L_gdZ_tt, ↓L_gdZ_tf, ↓L_gdZ_ft, ↓L_gdZ_ff, ↓T_and, ↓T_imp, ↓T_all, Nat.reduceBEq, Nat.reduceAdd, Nat.reduceSub, Nat.reduceMul, Nat.reduceLT, Nat.reduceLeDiff, Nat.reduceEqDiff, Int.reduceLT, Int.reduceLE, Int.reduceAdd, Int.reduceSub, Int.reduceMul, Int.reduceNeg, Int.reduceToNat, Int.reduceEq, Int.reduceNe, reduceIte, reduceCtorEq, BitVec.reduceOfInt, BitVec.reduceToNat]; try simp only [top_out])
      refine app8 M.length _ z (beL 8 c) ty rfl rfl rfl (by rw [get_app0]; rfl) rfl rfl (src_row (z := z2) (ty := ty2) (by rw [get_app]; rfl) (beL_len _ _).symm) (by simp [beL_len]) ?_
      · intro z' ty'
        (refine top_in ?_; simp -implicitDefEqProofs only [go_sem, -List.reduceReplicate, ↓L_gdZ_tt, ↓L_gdZ_tf, ↓L_gdZ_ft, ↓L_gdZ_ff, ↓T_and, ↓T_imp, ↓T_all, Nat.reduceBEq, Nat.reduceAdd, Nat.reduceSub, Nat.reduceMul, Nat.reduceLT, Nat.reduceLeDiff, Nat.reduceEqDiff, Int.reduceLT, Int.reduceLE, Int.reduceAdd, Int.reduceSub, Int.reduceMul, Int.reduceNeg, Int.reduceToNat, Int.reduceEq, Int.reduceNe, reduceIte, reduceCtorEq, BitVec.reduceOfInt, BitVec.reduceToNat]; try simp only [top_out])
        refine drop8 2 hM rfl rfl ?_
        rw [← List.append_assoc, step]
        exact h1 h z' ty'

def headL (t l g : Int) (c : BitVec 64) : List (BitVec 8) := [BitVec.ofInt 8 t, 0#8, 0#8, 0#8] ++ beL 4 (BitVec.ofInt 64 l) ++ beL 4 (BitVec.ofInt 64 g) ++ beL 8 c
theorem headL_len (t l g : Int) (c : BitVec 64) : (headL t l g c).length = 20 := by simp [headL, beL_len]
theorem headB_true {t l g : Int} {c : BitVec 64} (h : headB t l g c = true) : 1 ≤ t ∧ t ≤ 3 ∧ 1 ≤ l ∧ l ≤ 4294967295 ∧ 1 ≤ g ∧ g ≤ 2147483647 ∧ c.toNat ≤ 18446744073709551614 := by
  simp only [headB, Bool.and_eq_true, decide_eq_true_eq] at h
  omega
theorem headB_of {t l g : Int} {c : BitVec 64} (h : headB t l g c = false) (h1 : 1 ≤ t) (h2 : t ≤ 3) (h3 : 1 ≤ l) (h4 : l ≤ 4294967295) (h5 : 1 ≤ g) (h6 : g ≤ 2147483647) (h7 : c.toNat ≤ 18446744073709551614) : False := by
  have : headB t l g c = true := by
    simp only [headB, Bool.and_eq_true, decide_eq_true_eq]
    omega
  rw [this] at h; cases h
theorem w32_64 {l : Int} (h0 : 0 ≤ l) (h1 : l ≤ 4294967295) : (BitVec.ofInt 32 l).setWidth 64 = BitVec.ofInt 64 l := by
  obtain ⟨n, rfl⟩ := Int.eq_ofNat_of_zero_le h0
  have c : (BitVec.ofNat 32 n).toNat = n := by rw [BitVec.toNat_ofNat]; exact Nat.mod_eq_of_lt (by omega)
  have d : (BitVec.ofNat 64 n).toNat = n := by rw [BitVec.toNat_ofNat]; exact Nat.mod_eq_of_lt (by omega)
  apply BitVec.eq_of_toNat_eq
  rw [BitVec.ofInt_natCast, BitVec.ofInt_natCast, BitVec.toNat_setWidth, c, d]
  exact Nat.mod_eq_of_lt (by omega)

theorem putHead_ok (t l g : Int) (c : BitVec 64) (M : List Blk) (K : SV → List Blk → Prop) (h1 : headB t l g c = true → ∀ z ty, K (.tup [.sl M.length 0 20 (20 + z.length), .i .i64 0]) (M ++ [.row (bS (headL t l g c ++ z)) ty]))
    (h0 : headB t l g c = false → K (.tup [.sn, .i .i64 90]) M) : callVC Try.prog 11 [hdS t l g c] M K := by
  unfold hdS
  refine fn_rule tabOK Try.func11 rfl Try.call11 (by kernel_rfl) (fun hM => ?_)
  (refine top_in ?_; simp -implicitDefEqProofs only [Try.ntmps11, Try.results11, go_sem, -List.reduceReplicate, ↓L_gdZ_tt, ↓L_gdZ_tf, ↓L_gdZ_ft, ↓L_gdZ_ff, ↓T_and, ↓T_imp, ↓T_all, Nat.reduceBEq, Nat.reduceAdd, Nat.reduceSub, Nat.reduceMul, Nat.reduceLT, Nat.reduceLeDiff, Nat.reduceEqDiff, Int.reduceLT, Int.reduceLE, Int.reduceAdd, Int.reduceSub, Int.reduceMul, Int.reduceNeg, Int.reduceToNat, Int.reduceEq, Int.reduceNe, reduceIte, reduceCtorEq, BitVec.reduceOfInt, BitVec.reduceToNat]; try simp only [top_out])
  refine isHead_ok t l g c _ _ ?_
  (refine top_in ?_; simp -implicitDefEqProofs only [go_sem, -List.reduceReplicate, ↓L_gdZ_tt, ↓L_gdZ_tf, ↓L_gdZ_ft, ↓L_gdZ_ff, ↓T_and, ↓T_imp, ↓T_all, Nat.reduceBEq, Nat.reduceAdd, Nat.reduceSub, Nat.reduceMul, Nat.reduceLT, Nat.reduceLeDiff, Nat.reduceEqDiff, Int.reduceLT, Int.reduceLE, Int.reduceAdd, Int.reduceSub, Int.reduceMul, Int.reduceNeg, Int.reduceToNat, Int.reduceEq, Int.reduceNe, reduceIte, reduceCtorEq, BitVec.reduceOfInt, BitVec.reduceToNat]; try simp only [top_out])
  refine ⟨fun h => dropC_append hM rfl (h0 (by simpa using h)), fun h => ⟨by decide, ?_⟩⟩
  have h : headB t l g c = true := by simpa using h
  obtain ⟨g1, g2, g3, g4, g5, g6, g7⟩ := headB_true h
  refine put32_ok (M.length + 1) 0 4 [BitVec.ofInt 8 t, 0#8, 0#8, 0#8] _ _ _ (BAt.row (z := []) (ty := 5) (by rw [get_app]; rfl)) (by simp) (fun ty => ?_)
  rw [w32_64 (by omega) g4]
  (refine top_in ?_; simp -implicitDefEqProofs only [go_sem, -List.reduceReplicate, ↓L_gdZ_tt, ↓L_gdZ_tf, ↓L_gdZ_ft, ↓L_gdZ_ff, ↓T_and, ↓T_imp, ↓T_all, Nat.reduceBEq, Nat.reduceAdd, Nat.reduceSub, Nat.reduceMul, Nat.reduceLT, Nat.reduceLeDiff, Nat.reduceEqDiff, Int.reduceLT, Int.reduceLE, Int.reduceAdd, Int.reduceSub, Int.reduceMul, Int.reduceNeg, Int.reduceToNat, Int.reduceEq, Int.reduceNe, reduceIte, reduceCtorEq, BitVec.reduceOfInt, BitVec.reduceToNat]; try simp only [top_out])
  refine put32_ok (M.length + 2) 0 8 ([BitVec.ofInt 8 t, 0#8, 0#8, 0#8] ++ beL 4 (BitVec.ofInt 64 l)) _ _ _ (BAt.row (z := []) (ty := ty) (by rw [get_app]; simp)) (by simp [beL_len]) (fun ty => ?_)
  rw [w32_64 (by omega) (by omega)]
  (refine top_in ?_; simp -implicitDefEqProofs only [go_sem, -List.reduceReplicate, ↓L_gdZ_tt, ↓L_gdZ_tf, ↓L_gdZ_ft, ↓L_gdZ_ff, ↓T_and, ↓T_imp, ↓T_all, Nat.reduceBEq, Nat.reduceAdd, Nat.reduceSub, Nat.reduceMul, Nat.reduceLT, Nat.reduceLeDiff, Nat.reduceEqDiff, Int.reduceLT, Int.reduceLE, Int.reduceAdd, Int.reduceSub, Int.reduceMul, Int.reduceNeg, Int.reduceToNat, Int.reduceEq, Int.reduceNe, reduceIte, reduceCtorEq, BitVec.reduceOfInt, BitVec.reduceToNat]; try simp only [top_out])
  refine put64_ok (M.length + 3) 0 12 ([BitVec.ofInt 8 t, 0#8, 0#8, 0#8] ++ beL 4 (BitVec.ofInt 64 l) ++ beL 4 (BitVec.ofInt 64 g)) _ _ _ (BAt.row (z := []) (ty := ty) (by rw [get_app]; simp)) (by simp [beL_len]) (fun ty => ?_)
  (refine top_in ?_; simp -implicitDefEqProofs only [go_sem, -List.reduceReplicate, ↓L_gdZ_tt, ↓L_gdZ_tf, ↓L_gdZ_ft, ↓L_gdZ_ff, ↓T_and, ↓T_imp, ↓T_all, Nat.reduceBEq, Nat.reduceAdd, Nat.reduceSub, Nat.reduceMul, Nat.reduceLT, Nat.reduceLeDiff, Nat.reduceEqDiff, Int.reduceLT, Int.reduceLE, Int.reduceAdd, Int.reduceSub, Int.reduceMul, Int.reduceNeg, Int.reduceToNat, Int.reduceEq, Int.reduceNe, reduceIte, reduceCtorEq, BitVec.reduceOfInt, BitVec.reduceToNat]; try simp only [top_out])
  refine drop8t 4 hM rfl rfl ?_
  have := h1 h [] ty
  simpa [headL] using this

theorem refPutHead_ok (t l g : Int) (c : BitVec 64) (M : List Blk) (K : SV → List Blk → Prop) (h1 : headB t l g c = true → ∀ z ty, K (.tup [.sl M.length 0 20 (20 + z.length), .i .i64 0]) (M ++ [.row (bS (headL t l g c ++ z)) ty]))
    (h0 : headB t l g c = false → K (.tup [.sn, .i .i64 90]) M) : callVC Try.prog 12 [hdS t l g c] M K := by
  unfold hdS
  cases h : headB t l g c
  · refine fn_rule tabOK Try.func12 rfl Try.call12 (by kernel_rfl) (fun hM => ?_)
    (refine top_in ?_; simp -implicitDefEqProofs only [Try.ntmps12, Try.results12, go_sem, -List.reduceReplicate, ↓L_gdZ_tt, ↓L_gdZ_tf, ↓L_gdZ_ft, ↓L_gdZ_ff, ↓T_and, ↓T_imp, ↓T_all, Nat.reduceBEq, Nat.reduceAdd, Nat.reduceSub, Nat.reduceMul, Nat.reduceLT, Nat.reduceLeDiff, Nat.reduceEqDiff, Int.reduceLT, Int.reduceLE, Int.reduceAdd, Int.reduceSub, Int.reduceMul, Int.reduceNeg, Int.reduceToNat, Int.reduceEq, Int.reduceNe, reduceIte, reduceCtorEq, BitVec.reduceOfInt, BitVec.reduceToNat]; try simp only [top_out])
    repeat' (with_reducible first | refine And.intro ?_ ?_ | intro)
    all_goals first
      | exact dropC_append hM rfl (h0 h)
      | (exfalso
         exact headB_of h (by omega) (by omega) (by omega) (by omega) (by omega) (by omega) (by omega))
  · obtain ⟨g1, g2, g3, g4, g5, g6, g7⟩ := headB_true h
    have a1 : (t < 1) = False := by simp; omega
    have a2 : (3 < t) = False := by simp; omega
    have a3 : (l < 1) = False := by simp; omega
    have a4 : (4294967295 < l) = False := by simp; omega
    have a5 : (g < 1) = False := by simp; omega
    have a6 : (2147483647 < g) = False := by simp; omega
    have a7 : (18446744073709551614 < c.toNat) = False := by simp; omega
    refine fn_rule tabOK Try.func12 rfl Try.call12 (by kernel_rfl) (fun hM => ?_)
    (refine top_in ?_; simp -implicitDefEqProofs only [Try.ntmps12, Try.results12, go_sem, -List.reduceReplicate, ↓L_gdZ_tt, ↓L_gdZ_tf, ↓L_gdZ_ft, ↓L_gdZ_ff, ↓T_and, ↓T_imp, ↓T_all, Nat.reduceBEq, Nat.reduceAdd, Nat.reduceSub, Nat.reduceMul, Nat.reduceLT, Nat.reduceLeDiff, Nat.reduceEqDiff, Int.reduceLT, Int.reduceLE, Int.reduceAdd, Int.reduceSub, Int.reduceMul, Int.reduceNeg, Int.reduceToNat, Int.reduceEq, Int.reduceNe, reduceIte, reduceCtorEq, BitVec.reduceOfInt, BitVec.reduceToNat, a1, a2, a3, a4, a5, a6, a7]; try simp only [top_out])
    refine ⟨by decide, ?_⟩
    refine number_ok _ 4 (by omega) _ _ (fun z ty => ?_)
    (refine top_in ?_; simp -implicitDefEqProofs only [go_sem, -List.reduceReplicate, ↓L_gdZ_tt, ↓L_gdZ_tf, ↓L_gdZ_ft, ↓L_gdZ_ff, ↓T_and, ↓T_imp, ↓T_all, Nat.reduceBEq, Nat.reduceAdd, Nat.reduceSub, Nat.reduceMul, Nat.reduceLT, Nat.reduceLeDiff, Nat.reduceEqDiff, Int.reduceLT, Int.reduceLE, Int.reduceAdd, Int.reduceSub, Int.reduceMul, Int.reduceNeg, Int.reduceToNat, Int.reduceEq, Int.reduceNe, reduceIte, reduceCtorEq, BitVec.reduceOfInt, BitVec.reduceToNat]; try simp only [top_out])
    refine app8 (M.length + 1) [BitVec.ofInt 8 t, 0#8, 0#8, 0#8] [] (beL 4 (BitVec.ofInt 64 l)) 5 rfl rfl rfl (by rw [get_app]; rfl) rfl rfl (src_row (z := z) (ty := ty) (by rw [get_app]; rfl) (beL_len _ _).symm) (by simp [beL_len]) (fun z' ty' => ?_)
    (refine top_in ?_; simp -implicitDefEqProofs only [go_sem, -List.reduceReplicate, ↓L_gdZ_tt, ↓L_gdZ_tf, ↓L_gdZ_ft, ↓L_gdZ_ff, ↓T_and, ↓T_imp, ↓T_all, Nat.reduceBEq, Nat.reduceAdd, Nat.reduceSub, Nat.reduceMul, Nat.reduceLT, Nat.reduceLeDiff, Nat.reduceEqDiff, Int.reduceLT, Int.reduceLE, Int.reduceAdd, Int.reduceSub, Int.reduceMul, Int.reduceNeg, Int.reduceToNat, Int.reduceEq, Int.reduceNe, reduceIte, reduceCtorEq, BitVec.reduceOfInt, BitVec.reduceToNat]; try simp only [top_out])
    refine number_ok _ 4 (by omega) _ _ (fun z2 ty2 => ?_)
    (refine top_in ?_; simp -implicitDefEqProofs only [go_sem, -List.reduceReplicate, ↓L_gdZ_tt, ↓L_gdZ_tf, ↓L_gdZ_ft, ↓L_gdZ_ff, ↓T_and, ↓T_imp, ↓T_all, Nat.reduceBEq, Nat.reduceAdd, Nat.reduceSub, Nat.reduceMul, Nat.reduceLT, Nat.reduceLeDiff, Nat.reduceEqDiff, Int.reduceLT, Int.reduceLE, Int.reduceAdd, Int.reduceSub, Int.reduceMul, Int.reduceNeg, Int.reduceToNat, Int.reduceEq, Int.reduceNe, reduceIte, reduceCtorEq, BitVec.reduceOfInt, BitVec.reduceToNat]; try simp only [top_out])
    refine app8 (M.length + 3) ([BitVec.ofInt 8 t, 0#8, 0#8, 0#8] ++ beL 4 (BitVec.ofInt 64 l)) z' (beL 4 (BitVec.ofInt 64 g)) ty' rfl rfl rfl (by rw [get_app]; simp) (by simp [beL_len]) (by simp [beL_len]) (src_row (z := z2) (ty := ty2) (by rw [get_app]; rfl) (beL_len _ _).symm) (by simp [beL_len]) (fun z3 ty3 => ?_)
    (refine top_in ?_; simp -implicitDefEqProofs only [go_sem, -List.reduceReplicate, ↓L_gdZ_tt, ↓L_gdZ_tf, ↓L_gdZ_ft, ↓L_gdZ_ff, ↓T_and, ↓T_imp, ↓T_all, Nat.reduceBEq, Nat.reduceAdd, Nat.reduceSub, Nat.reduceMul, Nat.reduceLT, Nat.reduceLeDiff, Nat.reduceEqDiff, Int.reduceLT, Int.reduceLE, Int.reduceAdd, Int.reduceSub, Int.reduceMul, Int.reduceNeg, Int.reduceToNat, Int.reduceEq, Int.reduceNe, reduceIte, reduceCtorEq, BitVec.reduceOfInt, BitVec.reduceToNat]; try simp only [top_out])
    refine number_ok _ 8 (by omega) _ _ (fun z4 ty4 => ?_)
    (refine top_in ?_; simp -implicitDefEqProofs only [go_sem, -List.reduceReplicate, ↓L_gdZ_tt, ↓L_gdZ_tf, ↓L_gdZ_ft, ↓L_gdZ_ff, ↓T_and, ↓T_imp, ↓T_all, Nat.reduceBEq, Nat.reduceAdd, Nat.reduceSub, Nat.reduceMul, Nat.reduceLT, Nat.reduceLeDiff, Nat.reduceEqDiff, Int.reduceLT, Int.reduceLE, Int.reduceAdd, Int.reduceSub, Int.reduceMul, Int.reduceNeg, Int.reduceToNat, Int.reduceEq, Int.reduceNe, reduceIte, reduceCtorEq, BitVec.reduceOfInt, BitVec.reduceToNat]; try simp only [top_out])
    refine app8 (M.length + 5) ([BitVec.ofInt 8 t, 0#8, 0#8, 0#8] ++ beL 4 (BitVec.ofInt 64 l) ++ beL 4 (BitVec.ofInt 64 g)) z3 (beL 8 c) ty3 rfl rfl rfl (by rw [get_app]; simp) (by simp [beL_len]) (by simp [beL_len]) (src_row (z := z4) (ty := ty4) (by rw [get_app]; rfl) (beL_len _ _).symm) (by simp [beL_len]) (fun z5 ty5 => ?_)
    (refine top_in ?_; simp -implicitDefEqProofs only [go_sem, -List.reduceReplicate, ↓L_gdZ_tt, ↓L_gdZ_tf, ↓L_gdZ_ft, ↓L_gdZ_ff, ↓T_and, ↓T_imp, ↓T_all, Nat.reduceBEq, Nat.reduceAdd, Nat.reduceSub, Nat.reduceMul, Nat.reduceLT, Nat.reduceLeDiff, Nat.reduceEqDiff, Int.reduceLT, Int.reduceLE, Int.reduceAdd, Int.reduceSub, Int.reduceMul, Int.reduceNeg, Int.reduceToNat, Int.reduceEq, Int.reduceNe, reduceIte, reduceCtorEq, BitVec.reduceOfInt, BitVec.reduceToNat]; try simp only [top_out])
    refine drop8t 7 hM rfl rfl ?_
    have := h1 h z5 ty5
    simpa [headL] using this
end Go.Proofs.Ytdkdbeamimkljaa.Eng
