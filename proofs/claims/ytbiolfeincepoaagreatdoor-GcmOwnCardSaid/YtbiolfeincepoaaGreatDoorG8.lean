/- The chapter's example walked. -/
import Derived.Test.YtbiolfeincepoaaGreatDoorMg
import Derived.Test.YtbiolfeincepoaaGreatDoorMd
namespace Go.Proofs.YtbiolfeincepoaaGreatDoor.Eng
open Go Go.RowKit
set_option linter.unusedSimpArgs false
set_option linter.unusedVariables false

def stepL (f b : BitVec 8) (n : Nat) : List (BitVec 8) := gl n fun i => f + BitVec.ofNat 8 i * b
theorem stepL_len (f b : BitVec 8) (n : Nat) : (stepL f b n).length = n := gl_len
theorem num5_ok (x : Int) (M : List Blk) (K : SV → List Blk → Prop) (hK : K (.i .i64 x) M) : callVC Tryz.prog 8 [.i .i64 x] M K := by
  refine fn_rule tabOK Tryz.func8 rfl Tryz.call8 (by kernel_rfl) (fun hM => ?_)
  (refine top_in ?_; simp -implicitDefEqProofs only [Tryz.ntmps8, Tryz.results8, go_sem, -List.reduceReplicate, ↓L_gdZ_tt, ↓L_gdZ_tf, ↓L_gdZ_ft, ↓L_gdZ_ff, ↓T_and, ↓T_imp, ↓T_all]; try simp only [top_out])
  exact dropC_self hM rfl hK
theorem steps_ok (a0 b : BitVec 8) (n : Nat) (hn : n ≤ 140737488355000) (M : List Blk) (K : SV → List Blk → Prop) (hK : ∀ z ty, K (.sl M.length 0 n (n + z.length)) (M ++ [.row (bS (stepL a0 b n ++ z)) ty])) :
    callVC Tryz.prog 15 [.u8 a0, .u8 b, .i .i64 n] M K := by
  refine fn_rule tabOK Tryz.func15 rfl Tryz.call15 (by kernel_rfl) (fun hM => ?_)
  (refine top_in ?_; simp -implicitDefEqProofs only [Tryz.ntmps15, Tryz.results15, go_sem, -List.reduceReplicate, ↓L_gdZ_tt, ↓L_gdZ_tf, ↓L_gdZ_ft, ↓L_gdZ_ff, ↓T_and, ↓T_imp, ↓T_all]; try simp only [top_out])
  refine loop_gc tabOK (by kernel_rfl) (fun m ts M' => ∃ (k : Nat) (z : List (BitVec 8)) (ty : TypeId), k + m = n ∧ M' = M ++ [.row (bS ((stepL a0 b n).take k ++ z)) ty] ∧ frC [none, some (.u8 b), some (.i .i64 n), none, none, none, none, some (.sl M.length 0 k (k + z.length)), some (.u8 (a0 + BitVec.ofNat 8 k * b)), some (.i .i64 k), none, none, none, none, none, none, none, none, none, none, none, none, none, none] ts) n ?_ ?_
  · refine covF_gc0 hM [none] [none, some (.u8 b), some (.i .i64 n), none, none, none, none, some (.sl M.length 0 0 0), some (.u8 a0), some (.i .i64 0), none, none, none, none, none, none, none, none, none, none, none, none, none, none] [.row (bS []) 0] rfl ⟨rfl, trivial⟩ rfl ?_ ?_ (fun ts' h => ⟨0, [], 0, by omega, rfl, by simpa using h⟩)
    · simp only [Int.natCast_add, cast_lit, Nat.add_assoc, rnSl_n, frRn_nil, frRn_s, frRn_n, frLt_nil, frLt_s, frLt_n, rn_i, rn_u8, rn_u32, rn_u64, rn_b, rn_str, rn_sn, rn_pn, rn_agg, rn_tup, rnL_nil, rnL_cons, rn_bS, rn_nil, rn_sl_at, rn_sl_at0, rn_p_at, rn_p_at0, rnSl_s, rnP_s, lt_i, lt_u8, lt_u32, lt_u64, lt_b, lt_sl, lt_p, lt_agg, lt_tup, ltL_nil', ltL_cons, bS_lt, List.getElem?_cons_succ, List.getElem?_cons_zero, Option.join_some, Nat.add_zero, Nat.zero_add, implies_true, and_self, and_true, true_and, Bool.and_true, Bool.true_and, Bool.and_self, List.length_cons, List.length_nil, List.length_append, decide_eq_true_eq, Bool.and_eq_true]
    · simp only [Int.natCast_add, cast_lit, Nat.add_assoc, rnSl_n, frRn_nil, frRn_s, frRn_n, frLt_nil, frLt_s, frLt_n, rn_i, rn_u8, rn_u32, rn_u64, rn_b, rn_str, rn_sn, rn_pn, rn_agg, rn_tup, rnL_nil, rnL_cons, rn_bS, rn_nil, rn_sl_at, rn_sl_at0, rn_p_at, rn_p_at0, rnSl_s, rnP_s, lt_i, lt_u8, lt_u32, lt_u64, lt_b, lt_sl, lt_p, lt_agg, lt_tup, ltL_nil', ltL_cons, bS_lt, List.getElem?_cons_succ, List.getElem?_cons_zero, Option.join_some, Nat.add_zero, Nat.zero_add, implies_true, and_self, and_true, true_and, Bool.and_true, Bool.true_and, Bool.and_self, List.length_cons, List.length_nil, List.length_append, decide_eq_true_eq, Bool.and_eq_true]; omega
  · rintro m ts _ ⟨k, z, ty, hk, rfl, hf⟩
    have hl := stepL_len a0 b n
    by_cases hkn : k < n
    · have hp : ((k : Int) < (n : Int)) = True := by simp; omega
      have htk : ((stepL a0 b n).take k).length = k := by rw [List.length_take]; omega
      have hg : a0 + BitVec.ofNat 8 k * b = (stepL a0 b n).getD k 0#8 := by unfold stepL; rw [gl_getD hkn]
      have hn1 : a0 + BitVec.ofNat 8 k * b + b = a0 + BitVec.ofNat 8 (k + 1) * b := by rw [BitVec.ofNat_add, BitVec.add_mul, BitVec.add_assoc, show BitVec.ofNat 8 1 * b = b from BitVec.one_mul b]
      obtain ⟨f, rfl⟩ := frC_open _ _ 0 hf
      clear hf
      (refine top_in ?_; simp -implicitDefEqProofs only [go_sem, -List.reduceReplicate, ↓L_gdZ_tt, ↓L_gdZ_tf, ↓L_gdZ_ft, ↓L_gdZ_ff, ↓T_and, ↓T_imp, ↓T_all, hp]; try simp only [top_out])
      refine ⟨by decide, ?_⟩
      rw [hg]
      refine app8 M.length ((stepL a0 b n).take k) z [(stepL a0 b n).getD k 0#8] ty rfl rfl rfl (by rw [get_app0]; rfl) htk.symm (by omega) (src_u8 (by rw [get_app]; rfl)) (by simp; omega) ?_
      intro z' ty'
      rw [← take_snoc (by omega), htk]
      (refine top_in ?_; simp -implicitDefEqProofs only [go_sem, -List.reduceReplicate, ↓L_gdZ_tt, ↓L_gdZ_tf, ↓L_gdZ_ft, ↓L_gdZ_ff, ↓T_and, ↓T_imp, ↓T_all]; try simp only [top_out])
      rw [← hg, hn1, w64 (x := (k : Int) + 1) (by omega) (by omega)]
      refine covF_gc hM [some 2] [none, some (.u8 b), some (.i .i64 n), none, none, none, none, some (.sl M.length 0 (k + 1) (k + 1 + z'.length)), some (.u8 (a0 + BitVec.ofNat 8 (k + 1) * b)), some (.i .i64 (k + 1 : Nat)), none, none, none, none, none, none, none, none, none, none, none, none, none, none] [.row (bS ((stepL a0 b n).take (k + 1) ++ z')) ty'] rfl ⟨keep8 rfl, trivial⟩ (by simp [lt_row]) ?_ ?_ (fun ts' h => ⟨m - 1, by omega, k + 1, z', ty', by omega, rfl, h⟩)
      · simp only [Int.natCast_add, cast_lit, Nat.add_assoc, rnSl_n, frRn_nil, frRn_s, frRn_n, frLt_nil, frLt_s, frLt_n, rn_i, rn_u8, rn_u32, rn_u64, rn_b, rn_str, rn_sn, rn_pn, rn_agg, rn_tup, rnL_nil, rnL_cons, rn_bS, rn_nil, rn_sl_at, rn_sl_at0, rn_p_at, rn_p_at0, rnSl_s, rnP_s, lt_i, lt_u8, lt_u32, lt_u64, lt_b, lt_sl, lt_p, lt_agg, lt_tup, ltL_nil', ltL_cons, bS_lt, List.getElem?_cons_succ, List.getElem?_cons_zero, Option.join_some, Nat.add_zero, Nat.zero_add, implies_true, and_self, and_true, true_and, Bool.and_true, Bool.true_and, Bool.and_self, List.length_cons, List.length_nil, List.length_append, decide_eq_true_eq, Bool.and_eq_true]
      · simp only [Int.natCast_add, cast_lit, Nat.add_assoc, rnSl_n, frRn_nil, frRn_s, frRn_n, frLt_nil, frLt_s, frLt_n, rn_i, rn_u8, rn_u32, rn_u64, rn_b, rn_str, rn_sn, rn_pn, rn_agg, rn_tup, rnL_nil, rnL_cons, rn_bS, rn_nil, rn_sl_at, rn_sl_at0, rn_p_at, rn_p_at0, rnSl_s, rnP_s, lt_i, lt_u8, lt_u32, lt_u64, lt_b, lt_sl, lt_p, lt_agg, lt_tup, ltL_nil', ltL_cons, bS_lt, List.getElem?_cons_succ, List.getElem?_cons_zero, Option.join_some, Nat.add_zero, Nat.zero_add, implies_true, and_self, and_true, true_and, Bool.and_true, Bool.true_and, Bool.and_self, List.length_cons, List.length_nil, List.length_append, decide_eq_true_eq, Bool.and_eq_true]; omega
    · obtain rfl : k = n := by omega
      have hp : ((k : Int) < (k : Int)) = False := by simp
      obtain ⟨f, rfl⟩ := frC_open _ _ 0 hf
      clear hf
      (refine top_in ?_; simp -implicitDefEqProofs only [go_sem, -List.reduceReplicate, ↓L_gdZ_tt, ↓L_gdZ_tf, ↓L_gdZ_ft, ↓L_gdZ_ff, ↓T_and, ↓T_imp, ↓T_all, hp]; try simp only [top_out])
      rw [List.take_of_length_le (by omega)]
      exact dropC_all (by simp) (hK z ty)

def k5 : List (BitVec 8) := stepL 3#8 7#8 32
def n5 : List (BitVec 8) := stepL 200#8 255#8 12
def w5 : List (BitVec 8) := [228#8, 212#8, 229#8, 190#8, 127#8, 114#8, 122#8, 154#8, 16#8, 64#8, 77#8, 112#8, 167#8, 65#8, 232#8, 191#8]
def run5 : Bool := forceB boxL fun bx => forceB k5 fun k => evalK (bx ++ List.replicate 240 0#8) k 60 0 [] fun ks => forceB (ctrL n5 1#32) fun c => evalA (bx ++ ks) 14 0 (xorL c (keyAt (bx ++ ks) 0)) fun o => o == w5
set_option maxRecDepth 100000 in
theorem run5_true : run5 = true := by decide +kernel
theorem want5 : encE k5 (ctrL n5 1#32) = w5 := by
  have h := run5_true
  unfold run5 at h
  rw [forceB_eq, forceB_eq] at h
  have h0 : ([] : List (BitVec 8)) = kx k5 0 := rfl
  rw [h0, show boxL ++ List.replicate 240 0#8 = box0 from rfl, evalK_eq k5 _ 60 0, forceB_eq] at h
  have h2 := evalA_eq (ciph k5) (ctrL n5 1#32) (fun o => o == w5) 14 0
  have h3 : (aesN (ciph k5) (ctrL n5 1#32) 14 == w5) = true := h2.symm.trans h
  exact eq_of_beq h3
theorem xb_zero (k : Nat) : xb zero16 k = false := by
  unfold xb
  have : zero16.getD (k / 8) 0#8 = 0#8 := by
    unfold zero16; rw [List.getD_eq_getElem?_getD, List.getElem?_replicate]; split <;> rfl
  rw [this]
  simp
theorem mulN_zero (a b : BitVec 64) : ∀ k, (mulN zero16 a b k).1 = 0#64 ∧ (mulN zero16 a b k).2.1 = 0#64
  | 0 => ⟨rfl, rfl⟩
  | k + 1 => by
    have ih := mulN_zero a b k
    simp only [mulN, xb_zero, Bool.false_eq_true, if_false]
    exact ih
theorem mulL_zero16 (y : List (BitVec 8)) : mulL zero16 y = zero16 := by
  unfold mulL
  rw [(mulN_zero _ _ 128).1, (mulN_zero _ _ 128).2]
  rfl
theorem len00 : xorL zero16 (lenL 0 0) = zero16 := by decide +kernel
theorem xor_zero16 {x : List (BitVec 8)} (hx : x.length = 16) : xorL zero16 x = x := by
  conv => rhs; rw [gl_self hx 0#8]
  unfold xorL
  refine gl_ext fun j hj => ?_
  have : zero16.getD j 0#8 = 0#8 := by
    unfold zero16; rw [List.getD_eq_getElem?_getD, List.getElem?_replicate]; split <;> rfl
  rw [this, BitVec.zero_xor]
theorem tag00 (E : List (BitVec 8) → List (BitVec 8)) (hE : ∀ x, (E x).length = 16) (nonce : List (BitVec 8)) : tagL E nonce [] [] = E (ctrL nonce 1#32) := by
  unfold tagL
  have f0 : ∀ h y, foldL h y [] = y := fun h y => rfl
  rw [f0, f0, show ([] : List (BitVec 8)).length = 0 from rfl, len00, mulL_zero16, xor_zero16 (hE _)]
theorem k5_len : k5.length = 32 := gl_len
theorem n5_len : n5.length = 12 := gl_len
theorem w5_len : w5.length = 16 := rfl
theorem seal5E : sealE k5 n5 [] [] = 0 := sealE_ok k5_len n5_len (by simp) (by simp)
theorem seal5 : sealU k5 n5 [] [] = w5 := by
  unfold sealU
  rw [if_pos seal5E]
  unfold sealL
  rw [show cryL (encE k5) n5 [] = [] from rfl, List.nil_append, tag00 _ (encE_len k5), want5]
theorem open5B : openB k5 n5 [] w5 = true := by
  refine openB_ok ⟨k5_len, n5_len, by simp, by rw [w5_len]; omega, by rw [w5_len]; omega⟩ ?_
  unfold openT
  rw [w5_len, show w5.take (16 - 16) = [] from rfl, show w5.drop (16 - 16) = w5 from rfl, tag00 _ (encE_len k5), want5]
theorem open5 : openU k5 n5 [] w5 = [] := by
  unfold openU
  rw [if_pos open5B]
  rfl
set_option maxHeartbeats 1000000 in
theorem first5_ok (M : List Blk) (K : SV → List Blk → Prop) (hK : K (.b true) M) : callVC Tryz.prog 4 [] M K := by
  refine fn_rule tabOK Tryz.func4 rfl Tryz.call4 (by kernel_rfl) (fun hM => ?_)
  (refine top_in ?_; simp -implicitDefEqProofs only [Tryz.ntmps4, Tryz.results4, go_sem, -List.reduceReplicate, ↓L_gdZ_tt, ↓L_gdZ_tf, ↓L_gdZ_ft, ↓L_gdZ_ff, ↓T_and, ↓T_imp, ↓T_all]; try simp only [top_out])
  refine steps_ok 3#8 7#8 32 (by omega) _ _ fun z ty => ?_
  rw [show stepL 3#8 7#8 32 = k5 from rfl]
  (refine top_in ?_; simp -implicitDefEqProofs only [go_sem, -List.reduceReplicate, ↓L_gdZ_tt, ↓L_gdZ_tf, ↓L_gdZ_ft, ↓L_gdZ_ff, ↓T_and, ↓T_imp, ↓T_all]; try simp only [top_out])
  refine steps_ok 200#8 255#8 12 (by omega) _ _ fun z1 ty1 => ?_
  rw [show stepL 200#8 255#8 12 = n5 from rfl]
  (refine top_in ?_; simp -implicitDefEqProofs only [go_sem, -List.reduceReplicate, ↓L_gdZ_tt, ↓L_gdZ_tf, ↓L_gdZ_ft, ↓L_gdZ_ff, ↓T_and, ↓T_imp, ↓T_all]; try simp only [top_out])
  refine call_nil' [_, _] [_] 2 rfl ?_
  refine call_nil' [_, _, _] [] 3 rfl ?_
  simp only [List.cons_append, List.nil_append]
  have e1 := k5_len
  have e2 := n5_len
  refine seal_u M.length 0 32 (32 + z.length) (M.length + 1) 0 12 (12 + z1.length) (M.length + 2) 0 0 0 (M.length + 3) 0 0 0 k5 n5 [] [] _ _ (BAt.row (z := z) (ty := ty) (by rw [get_app0]; rfl)) e1.symm (by omega) (by omega) (BAt.row (z := z1) (ty := ty1) (by rw [get_app]; rfl)) e2.symm
    (BAt.row (z := []) (ty := 0) (by rw [get_app]; rfl)) rfl (by omega) (BAt.row (z := []) (ty := 0) (by rw [get_app]; rfl)) rfl (by omega) fun z2 ty2 => ?_
  rw [seal5, seal5E, w5_len]
  (refine top_in ?_; simp -implicitDefEqProofs only [go_sem, -List.reduceReplicate, ↓L_gdZ_tt, ↓L_gdZ_tf, ↓L_gdZ_ft, ↓L_gdZ_ff, ↓T_and, ↓T_imp, ↓T_all]; try simp only [top_out])
  refine ⟨by decide, ?_⟩
  have hw : ∀ L : List Blk, BAt (M ++ (.row (bS (k5 ++ z)) ty :: .row (bS (n5 ++ z1)) ty1 :: .row (bS []) 0 :: .row (bS []) 0 :: .row (bS (w5 ++ z2)) ty2 :: .row [SV.u8 228#8, SV.u8 212#8, SV.u8 229#8, SV.u8 190#8, SV.u8 127#8, SV.u8 114#8, SV.u8 122#8, SV.u8 154#8, SV.u8 16#8, SV.u8 64#8, SV.u8 77#8, SV.u8 112#8, SV.u8 167#8, SV.u8 65#8, SV.u8 232#8, SV.u8 191#8] 5 :: L)) (M.length + 5) 0 w5 :=
    fun L => BAt.row (z := []) (ty := 5) (by rw [get_app]; rfl)
  refine same_ok2 (M.length + 4) 0 (16 + z2.length) (M.length + 5) 0 16 16 16 w5 w5 _ _ (BAt.row (z := z2) (ty := ty2) (by rw [get_app]; rfl)) (hw []) (by rw [w5_len]; omega) (by rw [w5_len]; omega) rfl rfl ?_
  rw [beq_self_eq_true]
  (refine top_in ?_; simp -implicitDefEqProofs only [go_sem, -List.reduceReplicate, ↓L_gdZ_tt, ↓L_gdZ_tf, ↓L_gdZ_ft, ↓L_gdZ_ff, ↓T_and, ↓T_imp, ↓T_all]; try simp only [top_out])
  refine call_nil' [_, _] [_] 6 rfl ?_
  simp only [List.cons_append, List.nil_append]
  refine open_u M.length 0 32 (32 + z.length) (M.length + 1) 0 12 (12 + z1.length) (M.length + 6) 0 0 0 (M.length + 5) 0 16 16 k5 n5 [] w5 _ _ (BAt.row (z := z) (ty := ty) (by rw [get_app0]; rfl)) e1.symm (by omega) (by omega) (BAt.row (z := z1) (ty := ty1) (by rw [get_app]; rfl)) e2.symm
    (BAt.row (z := []) (ty := 0) (by rw [get_app]; rfl)) rfl (by omega) (hw _) rfl (by omega) (by omega) fun z3 ty3 => ?_
  rw [open5, open5B]
  (refine top_in ?_; simp -implicitDefEqProofs only [go_sem, -List.reduceReplicate, ↓L_gdZ_tt, ↓L_gdZ_tf, ↓L_gdZ_ft, ↓L_gdZ_ff, ↓T_and, ↓T_imp, ↓T_all]; try simp only [top_out])
  refine num5_ok _ _ _ ?_
  (refine top_in ?_; simp -implicitDefEqProofs only [go_sem, -List.reduceReplicate, ↓L_gdZ_tt, ↓L_gdZ_tf, ↓L_gdZ_ft, ↓L_gdZ_ff, ↓T_and, ↓T_imp, ↓T_all]; try simp only [top_out])
  exact dropC_append hM rfl hK
end Go.Proofs.YtbiolfeincepoaaGreatDoor.Eng
