/- Joined texts: V1, V2, V3, V4. -/
import Derived.Test.YtdkdbeamimkljaaGreatDoorMc
namespace Go.Proofs.YtdkdbeamimkljaaGreatDoor.Eng
set_option linter.unusedSimpArgs false
set_option linter.unusedVariables false
open Go Go.RowKit
def adS (f : Int) (hi lo : BitVec 64) : SV := .agg [.i .i64 f, .u64 hi, .u64 lo]
def validB (f : Int) (hi lo : BitVec 64) : Bool := f == 6 || (f == 4 && hi == 0#64 && decide (lo.toNat < 4294967296))
def addrL (f : Int) (hi lo : BitVec 64) : List (BitVec 8) := if f = 4 then beL 4 lo else beL 8 hi ++ beL 8 lo
theorem addrL_len (f : Int) (hi lo : BitVec 64) : (addrL f hi lo).length = if f = 4 then 4 else 16 := by
  unfold addrL; split <;> simp [beL_len]
theorem valid_ok (f : Int) (hi lo : BitVec 64) (M : List Blk) (K : SV → List Blk → Prop) (hK : K (.b (validB f hi lo)) M) : callVC Tryz.prog 35 [adS f hi lo] M K := by
  unfold adS
  refine fn_rule tabOK Tryz.func35 rfl Tryz.call35 (by kernel_rfl) (fun hM => ?_)
  (refine top_in ?_; simp -implicitDefEqProofs only [Tryz.ntmps35, Tryz.results35, go_sem, -List.reduceReplicate, ↓L_gdZ_tt, ↓L_gdZ_tf, ↓L_gdZ_ft, ↓L_gdZ_ff, ↓T_and, ↓T_imp, ↓T_all]; try simp only [top_out])
  repeat' (with_reducible first | refine And.intro ?_ ?_ | intro)
  all_goals
    refine dropB hM hK ?_
    simp_all [validB]
theorem refvalid_ok (f : Int) (hi lo : BitVec 64) (M : List Blk) (K : SV → List Blk → Prop) (hK : K (.b (validB f hi lo)) M) : callVC Tryz.prog 44 [adS f hi lo] M K := by
  unfold adS
  refine fn_rule tabOK Tryz.func44 rfl Tryz.call44 (by kernel_rfl) (fun hM => ?_)
  (refine top_in ?_; simp -implicitDefEqProofs only [Tryz.ntmps44, Tryz.results44, go_sem, -List.reduceReplicate, ↓L_gdZ_tt, ↓L_gdZ_tf, ↓L_gdZ_ft, ↓L_gdZ_ff, ↓T_and, ↓T_imp, ↓T_all]; try simp only [top_out])
  repeat' (with_reducible first | refine And.intro ?_ ?_ | intro)
  all_goals
    refine dropB hM hK ?_
    simp_all [validB]
def bitsI (f : Int) : Int := if f = 4 then 32 else if f = 6 then 128 else 0
theorem refbits_ok (f : Int) (M : List Blk) (K : SV → List Blk → Prop) (hK : K (.i .i64 (bitsI f)) M) : callVC Tryz.prog 45 [.i .i64 f] M K := by
  refine fn_rule tabOK Tryz.func45 rfl Tryz.call45 (by kernel_rfl) (fun hM => ?_)
  (refine top_in ?_; simp -implicitDefEqProofs only [Tryz.ntmps45, Tryz.results45, go_sem, -List.reduceReplicate, ↓L_gdZ_tt, ↓L_gdZ_tf, ↓L_gdZ_ft, ↓L_gdZ_ff, ↓T_and, ↓T_imp, ↓T_all]; try simp only [top_out])
  repeat' (with_reducible first | refine And.intro ?_ ?_ | intro)
  all_goals
    simp only [beq_iff_eq, beq_eq_false_iff_ne, ne_eq] at *
    refine dropC_self hM rfl ?_
    simpa [bitsI, *] using hK
theorem shr1 (x : BitVec 64) (n : Nat) : ((x >>> n) &&& 1#64 == 1#64) = x.getLsbD n := by
  have h : (x >>> n) &&& 1#64 = if x.getLsbD n then 1#64 else 0#64 := by
    apply BitVec.eq_of_getLsbD_eq
    intro i hi
    rw [BitVec.getLsbD_and, BitVec.getLsbD_ushiftRight]
    cases i with
    | zero => cases h : x.getLsbD n <;> simp [h]
    | succ i => cases h : x.getLsbD n <;> simp
  rw [h]; cases x.getLsbD n <;> rfl
theorem refbit_ok (f : Int) (hi lo : BitVec 64) (i k : Nat) (hk : (i : Int) + k + 1 = bitsI f) (M : List Blk) (K : SV → List Blk → Prop) (hK : K (.b (if 64 ≤ k then hi.getLsbD (k - 64) else lo.getLsbD k)) M) :
    callVC Tryz.prog 46 [adS f hi lo, .i .i64 i] M K := by
  have hb : bitsI f ≤ 128 := by unfold bitsI; split; decide; split <;> decide
  unfold adS
  refine fn_rule tabOK Tryz.func46 rfl Tryz.call46 (by kernel_rfl) (fun hM => ?_)
  (refine top_in ?_; simp -implicitDefEqProofs only [Tryz.ntmps46, Tryz.results46, go_sem, -List.reduceReplicate, ↓L_gdZ_tt, ↓L_gdZ_tf, ↓L_gdZ_ft, ↓L_gdZ_ff, ↓T_and, ↓T_imp, ↓T_all]; try simp only [top_out])
  refine refbits_ok f _ _ ?_
  (refine top_in ?_; simp -implicitDefEqProofs only [go_sem, -List.reduceReplicate, ↓L_gdZ_tt, ↓L_gdZ_tf, ↓L_gdZ_ft, ↓L_gdZ_ff, ↓T_and, ↓T_imp, ↓T_all]; try simp only [top_out])
  rw [w64 (x := bitsI f - 1) (by omega) (by omega), w64 (x := bitsI f - 1 - i) (by omega) (by omega), show bitsI f - 1 - (i : Int) = (k : Int) by omega]
  refine ⟨fun h => ?_, fun h => ?_⟩
  · have h64 : 64 ≤ k := by omega
    rw [if_pos h64] at hK
    rw [w64 (x := (k : Int) - 64) (by omega) (by omega), show (k : Int) - 64 = ((k - 64 : Nat) : Int) by omega]
    refine ⟨by omega, dropC_append hM rfl ?_⟩
    rw [Int.toNat_natCast, shr1]; exact hK
  · rw [if_neg (by omega)] at hK
    refine ⟨by omega, dropC_append hM rfl ?_⟩
    rw [Int.toNat_natCast, shr1]; exact hK
theorem low32 {lo : BitVec 64} (h : lo.toNat < 4294967296) : (lo.setWidth 32).setWidth 64 = lo := by
  apply BitVec.eq_of_toNat_eq
  rw [BitVec.toNat_setWidth, BitVec.toNat_setWidth, Nat.mod_eq_of_lt (by omega : lo.toNat % 2 ^ 32 < 2 ^ 64)]
  exact Nat.mod_eq_of_lt (by omega)
theorem validB_true {f : Int} {hi lo : BitVec 64} (h : validB f hi lo = true) : f = 6 ∨ (f = 4 ∧ hi = 0#64 ∧ lo.toNat < 4294967296) := by
  simp only [validB, Bool.or_eq_true, Bool.and_eq_true, beq_iff_eq, decide_eq_true_eq] at h
  rcases h with h | h
  · exact .inl h
  · exact .inr ⟨h.1.1, h.1.2, h.2⟩
theorem putAddr_ok (f : Int) (hi lo : BitVec 64) (M : List Blk) (K : SV → List Blk → Prop) (h1 : validB f hi lo = true → ∀ ty, K (.sl M.length 0 (addrL f hi lo).length (addrL f hi lo).length) (M ++ [.row (bS (addrL f hi lo)) ty]))
    (h0 : validB f hi lo = false → K .sn M) : callVC Tryz.prog 36 [adS f hi lo] M K := by
  unfold adS
  refine fn_rule tabOK Tryz.func36 rfl Tryz.call36 (by kernel_rfl) (fun hM => ?_)
  (refine top_in ?_; simp -implicitDefEqProofs only [Tryz.ntmps36, Tryz.results36, go_sem, -List.reduceReplicate, ↓L_gdZ_tt, ↓L_gdZ_tf, ↓L_gdZ_ft, ↓L_gdZ_ff, ↓T_and, ↓T_imp, ↓T_all]; try simp only [top_out])
  refine valid_ok f hi lo _ _ ?_
  (refine top_in ?_; simp -implicitDefEqProofs only [go_sem, -List.reduceReplicate, ↓L_gdZ_tt, ↓L_gdZ_tf, ↓L_gdZ_ft, ↓L_gdZ_ff, ↓T_and, ↓T_imp, ↓T_all]; try simp only [top_out])
  refine ⟨fun h => dropC_append hM rfl (h0 (nt h)), fun h => ?_⟩
  have hv := nf h
  have h1 := h1 hv
  refine ⟨fun h4 => ?_, fun h4 => ?_⟩
  · have h4 : f = 4 := by simpa using h4
    subst h4
    have hlo : lo.toNat < 4294967296 := by
      rcases validB_true hv with h | ⟨_, _, h⟩
      · cases h
      · exact h
    refine put32n_ok (lo.setWidth 32) _ _ (fun ty => ?_)
    (refine top_in ?_; simp -implicitDefEqProofs only [go_sem, -List.reduceReplicate, ↓L_gdZ_tt, ↓L_gdZ_tf, ↓L_gdZ_ft, ↓L_gdZ_ff, ↓T_and, ↓T_imp, ↓T_all]; try simp only [top_out])
    rw [low32 hlo]
    refine drop8 2 hM rfl rfl ?_
    have := h1 ty
    rw [addrL_len] at this
    exact this
  · have h4 : f ≠ 4 := by simpa using h4
    have h6 : f = 6 := by
      rcases validB_true hv with h | ⟨h, _⟩
      · exact h
      · exact absurd h h4
    subst h6
    refine draw_rule tabOK (by kernel_rfl : _) (.p 0 (.p 1 (.p 3 (.p 4 (.e 2 [3, 4] (.e 5 [] (.p 6 .nil) .no) .no))))) (by kernel_rfl) (by kernel_rfl) ?_
    (refine top_in ?_; simp -implicitDefEqProofs only [go_sem, -List.reduceReplicate, ↓L_gdZ_tt, ↓L_gdZ_tf, ↓L_gdZ_ft, ↓L_gdZ_ff, ↓T_and, ↓T_imp, ↓T_all]; try simp only [top_out])
    refine put64n_ok hi _ _ (fun ty => ?_)
    (refine top_in ?_; simp -implicitDefEqProofs only [go_sem, -List.reduceReplicate, ↓L_gdZ_tt, ↓L_gdZ_tf, ↓L_gdZ_ft, ↓L_gdZ_ff, ↓T_and, ↓T_imp, ↓T_all]; try simp only [top_out])
    have hb8 := beL_len 8 hi
    have p8 := put64_ok (M.length + 2) 0 8 (beL 8 hi) lo
    rw [hb8] at p8
    refine p8 _ _ (BAt.row (z := []) (ty := ty) (by rw [get_app, List.append_nil]; rfl)) (by omega) (fun ty => ?_)
    (refine top_in ?_; simp -implicitDefEqProofs only [go_sem, -List.reduceReplicate, ↓L_gdZ_tt, ↓L_gdZ_tf, ↓L_gdZ_ft, ↓L_gdZ_ff, ↓T_and, ↓T_imp, ↓T_all]; try simp only [top_out])
    refine drop8 3 hM rfl rfl ?_
    have := h1 ty
    rw [addrL_len] at this
    exact this
def hiB (v : BitVec 8) (k : Nat) : Int := ((v >>> (8 - k)).toNat : Int)
theorem hiB_next (v : BitVec 8) (k : Nat) (hk : k < 8) : 2 * hiB v k + (if v.getLsbD (7 - k) = true then 1 else 0) = hiB v (k + 1) :=
  (by decide +kernel : ∀ v : BitVec 8, ∀ k, k < 8 → 2 * hiB v k + (if v.getLsbD (7 - k) = true then 1 else 0) = hiB v (k + 1)) v k hk
theorem hiB_0 (v : BitVec 8) : hiB v 0 = 0 := (by decide +kernel : ∀ v : BitVec 8, hiB v 0 = 0) v
theorem hiB_8 (v : BitVec 8) : BitVec.ofInt 8 (hiB v 8) = v := (by decide +kernel : ∀ v : BitVec 8, BitVec.ofInt 8 (hiB v 8) = v) v
theorem hiB_le (v : BitVec 8) (k : Nat) : 0 ≤ hiB v k ∧ hiB v k ≤ 255 := by unfold hiB; have := BitVec.isLt (v >>> (8 - k)); omega
theorem addr_bit {f : Int} {hi lo : BitVec 64} (h : validB f hi lo = true) {j k : Nat} (hj : j < (addrL f hi lo).length) (hk : k < 8) (n : Nat) (hn : ((8 * j + k : Nat) : Int) + n + 1 = bitsI f) :
    (if 64 ≤ n then hi.getLsbD (n - 64) else lo.getLsbD n) = ((addrL f hi lo).getD j 0#8).getLsbD (7 - k) := by
  rcases validB_true h with rfl | ⟨rfl, _, _⟩
  · have hn' : 8 * j + k + n + 1 = 128 := by unfold bitsI at hn; simp at hn; omega
    rw [addrL_len] at hj
    unfold addrL
    rw [if_neg (show ¬ ((6 : Int) = 4) by decide)]
    by_cases h8 : j < 8
    · have e : (beL 8 hi ++ beL 8 lo).getD j 0#8 = (hi >>> (8 * (8 - 1 - j))).setWidth 8 := by
        rw [List.getD_eq_getElem?_getD, List.getElem?_append_left (by rw [beL_len]; exact h8), ← List.getD_eq_getElem?_getD]
        exact gl_getD h8 _
      rw [e, if_pos (by omega), BitVec.getLsbD_setWidth, BitVec.getLsbD_ushiftRight, show 8 * (8 - 1 - j) + (7 - k) = n - 64 by omega]
      simp; omega
    · have e : (beL 8 hi ++ beL 8 lo).getD j 0#8 = (lo >>> (8 * (8 - 1 - (j - 8)))).setWidth 8 := by
        rw [List.getD_eq_getElem?_getD, List.getElem?_append_right (by rw [beL_len]; omega), ← List.getD_eq_getElem?_getD, beL_len]
        exact gl_getD (by simp at hj; omega) _
      rw [e, if_neg (by omega), BitVec.getLsbD_setWidth, BitVec.getLsbD_ushiftRight, show 8 * (8 - 1 - (j - 8)) + (7 - k) = n by omega]
      simp; omega
  · have hn' : 8 * j + k + n + 1 = 32 := by unfold bitsI at hn; simp at hn; omega
    have e : (addrL 4 hi lo).getD j 0#8 = (lo >>> (8 * (4 - 1 - j))).setWidth 8 := by
      unfold addrL; rw [if_pos rfl]; exact gl_getD (by omega) _
    rw [e, if_neg (by omega), BitVec.getLsbD_setWidth, BitVec.getLsbD_ushiftRight, show 8 * (4 - 1 - j) + (7 - k) = n by omega]
    simp; omega
theorem keepA {τ : Nat → Option Nat} {L : List Blk} {k : Nat} {f : Int} {hi lo : BitVec 64} {ty : TypeId} (h : L[k]? = some (.row [.i .i64 f, .u64 hi, .u64 lo] ty)) : BlkRn τ L (some k) (.row [.i .i64 f, .u64 hi, .u64 lo] ty) :=
  ⟨_, h, rfl, fun ρ => rfl⟩
theorem lt_ad {m : Nat} {f : Int} {hi lo : BitVec 64} {ty : TypeId} : Blk.lt m (.row [.i .i64 f, .u64 hi, .u64 lo] ty) = true := rfl
set_option maxHeartbeats 1000000 in
theorem refPutAddr_ok (fa : Int) (hi lo : BitVec 64) (M : List Blk) (K : SV → List Blk → Prop) (h1 : validB fa hi lo = true → ∀ z ty, K (.sl M.length 0 (addrL fa hi lo).length ((addrL fa hi lo).length + z.length)) (M ++ [.row (bS (addrL fa hi lo ++ z)) ty]))
    (h0 : validB fa hi lo = false → K .sn M) : callVC Tryz.prog 22 [adS fa hi lo] M K := by
  unfold adS
  refine fn_rule tabOK Tryz.func22 rfl Tryz.call22 (by kernel_rfl) (fun hM => ?_)
  (refine top_in ?_; simp -implicitDefEqProofs only [Tryz.ntmps22, Tryz.results22, go_sem, -List.reduceReplicate, ↓L_gdZ_tt, ↓L_gdZ_tf, ↓L_gdZ_ft, ↓L_gdZ_ff, ↓T_and, ↓T_imp, ↓T_all]; try simp only [top_out])
  refine refvalid_ok fa hi lo _ _ ?_
  (refine top_in ?_; simp -implicitDefEqProofs only [go_sem, -List.reduceReplicate, ↓L_gdZ_tt, ↓L_gdZ_tf, ↓L_gdZ_ft, ↓L_gdZ_ff, ↓T_and, ↓T_imp, ↓T_all]; try simp only [top_out])
  refine ⟨fun h => dropC_append hM rfl (h0 (nt h)), fun h => ?_⟩
  have hv := nf h
  have h1 := h1 hv
  have hal : 8 * ((addrL fa hi lo).length : Int) = bitsI fa := by
    rw [addrL_len]
    rcases validB_true hv with rfl | ⟨rfl, _, _⟩ <;> simp [bitsI]
  have hle : (addrL fa hi lo).length ≤ 16 := by rw [addrL_len]; split <;> omega
  refine loop_gc tabOK (by kernel_rfl) (fun m ts M' => ∃ (j : Nat) (z : List (BitVec 8)) (ty : TypeId), j + m = (addrL fa hi lo).length ∧ M' = M ++ [.row [.i .i64 fa, .u64 hi, .u64 lo] 50, .row (bS ((addrL fa hi lo).take j ++ z)) ty] ∧
    frC [none, some (.p M.length 0), none, none, some (.sl (M.length + 1) 0 j (j + z.length)), some (.i .i64 (8 * j)), none, none, none, none, none, none, none, none, none, none, none, none, none, none, none, none, none, none, none, none, none, none, none, none, none, none, none, none, none, none, none, none, none, none] ts) (addrL fa hi lo).length ?_ ?_
  · refine covF_gc hM [some 0, none] [none, some (.p M.length 0), none, none, some (.sl (M.length + 1) 0 0 0), some (.i .i64 0), none, none, none, none, none, none, none, none, none, none, none, none, none, none, none, none, none, none, none, none, none, none, none, none, none, none, none, none, none, none, none, none, none, none] [.row [.i .i64 fa, .u64 hi, .u64 lo] 50, .row (bS []) 0] rfl ⟨keepA rfl, rfl, trivial⟩ rfl ?_ ?_ (fun ts' h => ⟨0, [], 0, by omega, rfl, by simpa using h⟩)
    · simp only [Int.natCast_add, cast_lit, Nat.add_assoc, rnSl_n, frRn_nil, frRn_s, frRn_n, frLt_nil, frLt_s, frLt_n, rn_i, rn_u8, rn_u32, rn_u64, rn_b, rn_str, rn_sn, rn_pn, rn_agg, rn_tup, rnL_nil, rnL_cons, rn_bS, rn_nil, rn_sl_at, rn_sl_at0, rn_p_at, rn_p_at0, rnSl_s, rnP_s, lt_i, lt_u8, lt_u32, lt_u64, lt_b, lt_sl, lt_p, lt_agg, lt_tup, ltL_nil', ltL_cons, bS_lt, List.getElem?_cons_succ, List.getElem?_cons_zero, Option.join_some, Nat.add_zero, Nat.zero_add, implies_true, and_self, and_true, true_and, Bool.and_true, Bool.true_and, Bool.and_self, List.length_cons, List.length_nil, List.length_append, decide_eq_true_eq, Bool.and_eq_true]
    · simp only [Int.natCast_add, cast_lit, Nat.add_assoc, rnSl_n, frRn_nil, frRn_s, frRn_n, frLt_nil, frLt_s, frLt_n, rn_i, rn_u8, rn_u32, rn_u64, rn_b, rn_str, rn_sn, rn_pn, rn_agg, rn_tup, rnL_nil, rnL_cons, rn_bS, rn_nil, rn_sl_at, rn_sl_at0, rn_p_at, rn_p_at0, rnSl_s, rnP_s, lt_i, lt_u8, lt_u32, lt_u64, lt_b, lt_sl, lt_p, lt_agg, lt_tup, ltL_nil', ltL_cons, bS_lt, List.getElem?_cons_succ, List.getElem?_cons_zero, Option.join_some, Nat.add_zero, Nat.zero_add, implies_true, and_self, and_true, true_and, Bool.and_true, Bool.true_and, Bool.and_self, List.length_cons, List.length_nil, List.length_append, decide_eq_true_eq, Bool.and_eq_true]; omega
  · rintro m ts _ ⟨j, z, ty, hj, rfl, hf⟩
    obtain ⟨f, rfl⟩ := frC_open _ _ 0 hf
    clear hf
    (refine top_in ?_; simp -implicitDefEqProofs only [go_sem, -List.reduceReplicate, ↓L_gdZ_tt, ↓L_gdZ_tf, ↓L_gdZ_ft, ↓L_gdZ_ff, ↓T_and, ↓T_imp, ↓T_all]; try simp only [top_out])
    refine refbits_ok fa _ _ ?_
    (refine top_in ?_; simp -implicitDefEqProofs only [go_sem, -List.reduceReplicate, ↓L_gdZ_tt, ↓L_gdZ_tf, ↓L_gdZ_ft, ↓L_gdZ_ff, ↓T_and, ↓T_imp, ↓T_all]; try simp only [top_out])
    refine ⟨fun h => ?_, fun h => ?_⟩
    · have hj' : j < (addrL fa hi lo).length := by omega
      refine loop_code tabOK (by kernel_rfl) (fun i ts M' => ∃ k : Nat, k + i = 8 ∧ M' = M ++ [.row [.i .i64 fa, .u64 hi, .u64 lo] 50, .row (bS ((addrL fa hi lo).take j ++ z)) ty] ∧
        frC [none, some (.p M.length 0), none, none, some (.sl (M.length + 1) 0 j (j + z.length)), some (.i .i64 (8 * j)), some (.i .i64 (hiB ((addrL fa hi lo).getD j 0#8) k)), some (.i .i64 k), none, none, none, none, none, none, none, none, none, none, none, none, none, none, none, none, none, none, none, none, none, none, none, none, none, none, none, none, none, none, none, none] ts) 8 ?_ ?_
      · refine ⟨0, rfl, rfl, ?_⟩
        simp [frC, hiB_0]
      · rintro i ts _ ⟨k, hk, rfl, hf⟩
        obtain ⟨f, rfl⟩ := frC_open _ _ 0 hf
        clear hf
        (refine top_in ?_; simp -implicitDefEqProofs only [go_sem, -List.reduceReplicate, ↓L_gdZ_tt, ↓L_gdZ_tf, ↓L_gdZ_ft, ↓L_gdZ_ff, ↓T_and, ↓T_imp, ↓T_all]; try simp only [top_out])
        have hq := hiB_le ((addrL fa hi lo).getD j 0#8) k
        have hq' := hiB_le ((addrL fa hi lo).getD j 0#8) (k + 1)
        refine ⟨fun h => ?_, fun h => ?_⟩
        · have hk8 : k < 8 := by omega
          have hn := hiB_next ((addrL fa hi lo).getD j 0#8) k hk8
          rw [w64 (x := 8 * (j : Int) + k) (by omega) (by omega), w64 (x := 2 * hiB _ _) (by omega) (by omega), show 8 * (j : Int) + k = ((8 * j + k : Nat) : Int) by omega]
          obtain ⟨n, hn'⟩ : ∃ n : Nat, ((8 * j + k : Nat) : Int) + n + 1 = bitsI fa := ⟨(bitsI fa - (8 * j + k : Nat) - 1).toNat, by omega⟩
          refine refbit_ok fa hi lo (8 * j + k) n hn' _ _ ?_
          rw [addr_bit hv hj' hk8 n hn']
          (refine top_in ?_; simp -implicitDefEqProofs only [go_sem, -List.reduceReplicate, ↓L_gdZ_tt, ↓L_gdZ_tf, ↓L_gdZ_ft, ↓L_gdZ_ff, ↓T_and, ↓T_imp, ↓T_all]; try simp only [top_out])
          rw [w64 (x := (k : Int) + 1) (by omega) (by omega)]
          refine ⟨fun h1 => ?_, fun h1 => ?_⟩
          · rw [if_pos h1] at hn
            exact ⟨i - 1, by omega, k + 1, by omega, by rw [w64 (by omega) (by omega)]; exact hn, by omega⟩
          · rw [if_neg (by rw [h1]; simp)] at hn
            exact ⟨i - 1, by omega, k + 1, by omega, by omega, by omega⟩
        · obtain rfl : k = 8 := by omega
          rw [hiB_8]
          have hmin : min j (addrL fa hi lo).length = j := by omega
          refine ⟨by decide, ?_⟩
          refine app8 (M.length + 1) ((addrL fa hi lo).take j) z [(addrL fa hi lo).getD j 0#8] ty rfl rfl rfl (by rw [get_app]; rfl) (by simp; omega) (by simp; omega) (src_u8 (by rw [get_app]; rfl)) (by simp; omega) ?_
          intro z' ty'
          (refine top_in ?_; simp -implicitDefEqProofs only [go_sem, -List.reduceReplicate, ↓L_gdZ_tt, ↓L_gdZ_tf, ↓L_gdZ_ft, ↓L_gdZ_ff, ↓T_and, ↓T_imp, ↓T_all]; try simp only [top_out])
          rw [w64 (x := 8 * (j : Int) + 8) (by omega) (by omega), List.length_take, hmin]
          refine covF_gc hM [some 0, some 3] [none, some (.p M.length 0), none, none, some (.sl (M.length + 1) 0 (j + 1) (j + 1 + z'.length)), some (.i .i64 (8 * (j + 1))), none, none, none, none, none, none, none, none, none, none, none, none, none, none, none, none, none, none, none, none, none, none, none, none, none, none, none, none, none, none, none, none, none, none] [.row [.i .i64 fa, .u64 hi, .u64 lo] 50, .row (bS ((addrL fa hi lo).take j ++ (addrL fa hi lo).getD j 0#8 :: z')) ty'] rfl ⟨keepA rfl, keep8 rfl, trivial⟩ (by simp only [List.all_cons, List.all_nil, lt_row, lt_ad, Bool.and_true]) ?_ ?_ (fun ts' h => ⟨m - 1, by omega, j + 1, z', ty', by omega, by rw [take_snoc (by omega)]; simp, by simpa using h⟩)
          · rw [show 8 * (j : Int) + 8 = 8 * (j + 1) by omega]
            simp only [Int.natCast_add, cast_lit, Nat.add_assoc, rnSl_n, frRn_nil, frRn_s, frRn_n, frLt_nil, frLt_s, frLt_n, rn_i, rn_u8, rn_u32, rn_u64, rn_b, rn_str, rn_sn, rn_pn, rn_agg, rn_tup, rnL_nil, rnL_cons, rn_bS, rn_nil, rn_sl_at, rn_sl_at0, rn_p_at, rn_p_at0, rnSl_s, rnP_s, lt_i, lt_u8, lt_u32, lt_u64, lt_b, lt_sl, lt_p, lt_agg, lt_tup, ltL_nil', ltL_cons, bS_lt, List.getElem?_cons_succ, List.getElem?_cons_zero, Option.join_some, Nat.add_zero, Nat.zero_add, implies_true, and_self, and_true, true_and, Bool.and_true, Bool.true_and, Bool.and_self, List.length_cons, List.length_nil, List.length_append, decide_eq_true_eq, Bool.and_eq_true]
          · simp only [Int.natCast_add, cast_lit, Nat.add_assoc, rnSl_n, frRn_nil, frRn_s, frRn_n, frLt_nil, frLt_s, frLt_n, rn_i, rn_u8, rn_u32, rn_u64, rn_b, rn_str, rn_sn, rn_pn, rn_agg, rn_tup, rnL_nil, rnL_cons, rn_bS, rn_nil, rn_sl_at, rn_sl_at0, rn_p_at, rn_p_at0, rnSl_s, rnP_s, lt_i, lt_u8, lt_u32, lt_u64, lt_b, lt_sl, lt_p, lt_agg, lt_tup, ltL_nil', ltL_cons, bS_lt, List.getElem?_cons_succ, List.getElem?_cons_zero, Option.join_some, Nat.add_zero, Nat.zero_add, implies_true, and_self, and_true, true_and, Bool.and_true, Bool.true_and, Bool.and_self, List.length_cons, List.length_nil, List.length_append, decide_eq_true_eq, Bool.and_eq_true]; omega
    · obtain rfl : j = (addrL fa hi lo).length := by omega
      rw [List.take_length]
      exact drop8 1 hM rfl rfl (h1 z ty)
def plS (sf : Int) (sh sl : BitVec 64) (df : Int) (dh dl : BitVec 64) (x : SV) : SV := .agg [.i .i64 sf, .u64 sh, .u64 sl, .i .i64 df, .u64 dh, .u64 dl, x]
def payB (sf : Int) (sh sl : BitVec 64) (df : Int) (dh dl : BitVec 64) (n : Nat) : Bool := validB sf sh sl && validB df dh dl && sf == df && decide (1 + 2 * (addrL sf sh sl).length + n ≤ 1280)
def payL (sf : Int) (sh sl : BitVec 64) (df : Int) (dh dl : BitVec 64) (b : List (BitVec 8)) : List (BitVec 8) := [BitVec.ofInt 8 sf] ++ addrL sf sh sl ++ addrL df dh dl ++ b
def addrU (f : Int) (hi lo : BitVec 64) : List (BitVec 8) := if validB f hi lo = true then addrL f hi lo else []
theorem addrL_le (f : Int) (hi lo : BitVec 64) : (addrL f hi lo).length ≤ 16 ∧ 0 < (addrL f hi lo).length := by rw [addrL_len]; split <;> omega
theorem addrU_le (f : Int) (hi lo : BitVec 64) : (addrU f hi lo).length ≤ 16 := by unfold addrU; split; exact (addrL_le _ _ _).1; simp
theorem addrU_pos {f : Int} {hi lo : BitVec 64} : (addrU f hi lo).length = 0 ↔ validB f hi lo = false := by
  unfold addrU
  cases h : validB f hi lo
  · simp
  · have := (addrL_le f hi lo).2
    rw [if_pos rfl]
    exact ⟨fun e => by omega, fun e => by cases e⟩
theorem refPutAddr_u (f : Int) (hi lo : BitVec 64) (M : List Blk) (K : SV → List Blk → Prop) (hK : ∀ z ty, K (.sl M.length 0 (addrU f hi lo).length ((addrU f hi lo).length + z.length)) (M ++ [.row (bS (addrU f hi lo ++ z)) ty])) :
    callVC Tryz.prog 22 [adS f hi lo] M K := by
  refine callVC_drop (callVC_names (fun hM => ?_) Tryz.call22)
  refine refPutAddr_ok f hi lo _ _ (fun hb z ty => dropC_all (by simp) ?_) (fun hb => ?_)
  · have := hK z ty; rw [addrU, if_pos hb] at this; exact this
  · have := hK [] 0; rw [addrU, hb, if_neg (by simp)] at this
    exact drop8n0 hM this
theorem drop8te {M L : List Blk} {K : SV → List Blk → Prop} {n len cap : Nat} {ty : TypeId} {e : Int} (k : Nat) (l z : List (BitVec 8)) (hM : ∀ (n : Nat) (B : Blk), M[n]? = some B → B.lt M.length = true) (hn : n = M.length + k)
    (hk : L[k]? = some (.row (bS (l ++ z)) ty)) (h1 : len = l.length) (h2 : cap = l.length + z.length) (hK : K (.tup [.sl M.length 0 l.length (l.length + z.length), .i .i64 e]) (M ++ [.row (bS (l ++ z)) ty])) : dropC M.length (.tup [.sl n 0 len cap, .i .i64 e]) (M ++ L) K := by
  subst h1 h2; exact drop8t k hM hn hk hK
theorem payL_len (sf : Int) (sh sl : BitVec 64) (df : Int) (dh dl : BitVec 64) (b : List (BitVec 8)) : (payL sf sh sl df dh dl b).length = 1 + (addrL sf sh sl).length + (addrL df dh dl).length + b.length := by
  unfold payL; simp; omega
set_option maxHeartbeats 1000000 in
theorem putPayload_ok (sf : Int) (sh sl : BitVec 64) (df : Int) (dh dl : BitVec 64) (n off cap : Nat) (b : List (BitVec 8)) (M : List Blk) (K : SV → List Blk → Prop) (ha : BAt M n off b) (hb : b.length ≤ 140737488355000) (hcap : b.length ≤ cap)
    (h1 : payB sf sh sl df dh dl b.length = true → ∀ z ty, K (.tup [.sl M.length 0 (payL sf sh sl df dh dl b).length ((payL sf sh sl df dh dl b).length + z.length), .i .i64 0]) (M ++ [.row (bS (payL sf sh sl df dh dl b ++ z)) ty]))
    (h0 : payB sf sh sl df dh dl b.length = false → K (.tup [.sn, .i .i64 90]) M) :
    callVC Tryz.prog 14 [plS sf sh sl df dh dl (.sl n off b.length cap)] M K := by
  have hs := addrL_le sf sh sl
  have hd := addrL_le df dh dl
  unfold plS
  refine fn_rule tabOK Tryz.func14 rfl Tryz.call14 (by kernel_rfl) (fun hM => ?_)
  (refine top_in ?_; simp -implicitDefEqProofs only [Tryz.ntmps14, Tryz.results14, go_sem, -List.reduceReplicate, ↓L_gdZ_tt, ↓L_gdZ_tf, ↓L_gdZ_ft, ↓L_gdZ_ff, ↓T_and, ↓T_imp, ↓T_all]; try simp only [top_out])
  refine valid_ok sf sh sl _ _ ?_
  (refine top_in ?_; simp -implicitDefEqProofs only [go_sem, -List.reduceReplicate, ↓L_gdZ_tt, ↓L_gdZ_tf, ↓L_gdZ_ft, ↓L_gdZ_ff, ↓T_and, ↓T_imp, ↓T_all, List.take_succ_cons, List.take_zero, List.drop_succ_cons, List.drop_zero]; try simp only [top_out])
  refine ⟨fun h => ?_, fun h => dropC_append hM rfl (h0 (by rw [payB, nt h]; rfl))⟩
  have hv := nf h
  refine valid_ok df dh dl _ _ ?_
  (refine top_in ?_; simp -implicitDefEqProofs only [go_sem, -List.reduceReplicate, ↓L_gdZ_tt, ↓L_gdZ_tf, ↓L_gdZ_ft, ↓L_gdZ_ff, ↓T_and, ↓T_imp, ↓T_all, List.take_succ_cons, List.take_zero, List.drop_succ_cons, List.drop_zero]; try simp only [top_out])
  refine ⟨fun h => ?_, fun h => dropC_append hM rfl (h0 (by rw [payB, nt h]; simp))⟩
  have hv2 := nf h
  refine ⟨fun h => dropC_append hM rfl (h0 (by rw [payB, show (sf == df) = false by simpa using h]; simp)), fun h => ?_⟩
  obtain rfl : sf = df := by simpa using h
  refine ⟨by decide, ?_⟩
  have e2 : (addrL sf dh dl).length = (addrL sf sh sl).length := by rw [addrL_len, addrL_len]
  refine putAddr_ok sf sh sl _ _ (fun _ ty => ?_) (fun h => by rw [hv] at h; cases h)
  (refine top_in ?_; simp -implicitDefEqProofs only [go_sem, -List.reduceReplicate, ↓L_gdZ_tt, ↓L_gdZ_tf, ↓L_gdZ_ft, ↓L_gdZ_ff, ↓T_and, ↓T_imp, ↓T_all, List.take_succ_cons, List.take_zero, List.drop_succ_cons, List.drop_zero]; try simp only [top_out])
  refine app8 (M.length + 1) [BitVec.ofInt 8 sf] [] (addrL sf sh sl) 5 rfl rfl rfl (by rw [get_app]; rfl) rfl rfl (src_row (z := []) (by rw [get_app, List.append_nil]; rfl) rfl) (by simp; omega) ?_
  intro z' ty'
  (refine top_in ?_; simp -implicitDefEqProofs only [go_sem, -List.reduceReplicate, ↓L_gdZ_tt, ↓L_gdZ_tf, ↓L_gdZ_ft, ↓L_gdZ_ff, ↓T_and, ↓T_imp, ↓T_all, List.take_succ_cons, List.take_zero, List.drop_succ_cons, List.drop_zero]; try simp only [top_out])
  refine putAddr_ok sf dh dl _ _ (fun _ ty => ?_) (fun h => by rw [hv2] at h; cases h)
  (refine top_in ?_; simp -implicitDefEqProofs only [go_sem, -List.reduceReplicate, ↓L_gdZ_tt, ↓L_gdZ_tf, ↓L_gdZ_ft, ↓L_gdZ_ff, ↓T_and, ↓T_imp, ↓T_all]; try simp only [top_out])
  refine app8 (M.length + 3) ([BitVec.ofInt 8 sf] ++ addrL sf sh sl) z' (addrL sf dh dl) ty' rfl rfl rfl (by rw [get_app]; rfl) (by simp; omega) (by simp; omega) (src_row (z := []) (by rw [get_app, List.append_nil]; rfl) rfl) (by simp; omega) ?_
  intro z3 ty3
  (refine top_in ?_; simp -implicitDefEqProofs only [go_sem, -List.reduceReplicate, ↓L_gdZ_tt, ↓L_gdZ_tf, ↓L_gdZ_ft, ↓L_gdZ_ff, ↓T_and, ↓T_imp, ↓T_all]; try simp only [top_out])
  rw [w64 (x := 1280 - _) (by omega) (by omega)]
  refine ⟨fun h => dropC_append hM rfl (h0 ?_), fun h => ?_⟩
  · rw [payB, show decide (1 + 2 * (addrL sf sh sl).length + b.length ≤ 1280) = false by simp; omega]; simp
  · have hp : payB sf sh sl sf dh dl b.length = true := by
      rw [payB, hv, hv2, show decide (1 + 2 * (addrL sf sh sl).length + b.length ≤ 1280) = true by simp; omega]; simp
    refine app8 (M.length + 5) ([BitVec.ofInt 8 sf] ++ addrL sf sh sl ++ addrL sf dh dl) z3 b ty3 rfl rfl rfl (by rw [get_app]; simp) (by simp; omega) (by simp; omega) ha.app.src (by simp; omega) ?_
    intro z5 ty5
    (refine top_in ?_; simp -implicitDefEqProofs only [go_sem, -List.reduceReplicate, ↓L_gdZ_tt, ↓L_gdZ_tf, ↓L_gdZ_ft, ↓L_gdZ_ff, ↓T_and, ↓T_imp, ↓T_all]; try simp only [top_out])
    exact drop8te 6 (payL sf sh sl sf dh dl b) z5 hM rfl (by simp [payL]) (by rw [payL_len]; omega) (by rw [payL_len]; omega) (h1 hp z5 ty5)
def aHi (x : List (BitVec 8)) : BitVec 64 := numB (x.take (x.length - 8))
theorem numB_top {x : List (BitVec 8)} : numB x >>> 56 = if 8 ≤ x.length then (x.getD (x.length - 8) 0#8).setWidth 64 else 0#64 := by
  apply BitVec.eq_of_getLsbD_eq
  intro i hi
  rw [BitVec.getLsbD_ushiftRight]
  by_cases h8 : i < 8
  · rw [numB_bit x.length x rfl (56 + i) (by omega)]
    have e0 : (56 + i) / 8 = 7 := by omega
    have e1 : (56 + i) % 8 = i := by omega
    rw [e0, e1]
    by_cases h : 8 ≤ x.length
    · rw [if_pos h, BitVec.getLsbD_setWidth, show x.length - 1 - 7 = x.length - 8 by omega]
      rw [decide_eq_true (by omega : 7 < x.length), decide_eq_true (by omega : i < 64)]
    · rw [if_neg h]; simp; omega
  · have : (numB x).getLsbD (56 + i) = false := BitVec.getLsbD_of_ge _ _ (by omega)
    rw [this]
    split
    · rw [BitVec.getLsbD_setWidth, BitVec.getLsbD_of_ge _ _ (by omega)]; simp
    · simp
theorem numB_low {x : List (BitVec 8)} (h : 8 ≤ x.length) : numB x = numB (x.drop (x.length - 8)) := by
  apply BitVec.eq_of_getLsbD_eq
  intro i hi
  have hl : (x.drop (x.length - 8)).length = 8 := by simp; omega
  rw [numB_bit _ x rfl i hi, numB_bit 8 _ hl i hi]
  have e : (x.drop (x.length - 8)).getD (8 - 1 - i / 8) 0#8 = x.getD (x.length - 1 - i / 8) 0#8 := by
    rw [List.getD_eq_getElem?_getD, List.getElem?_drop, List.getD_eq_getElem?_getD, show x.length - 8 + (8 - 1 - i / 8) = x.length - 1 - i / 8 by omega]
  rw [e, show decide (i / 8 < x.length) = decide (i / 8 < 8) by rw [decide_eq_decide]; omega]
theorem hi_step {l : List (BitVec 8)} {k : Nat} (h : k < l.length) : numB (l.take (k - 8)) <<< 8 ||| numB (l.take k) >>> 56 = numB (l.take (k + 1 - 8)) := by
  have hk : (l.take k).length = k := by simp; omega
  rw [numB_top, hk]
  by_cases h8 : 8 ≤ k
  · rw [if_pos h8, show k + 1 - 8 = (k - 8) + 1 by omega, numB_take (by omega)]
    congr 2
    rw [List.getD_eq_getElem?_getD, List.getElem?_take_of_lt (by omega), ← List.getD_eq_getElem?_getD]
  · rw [if_neg h8, show k - 8 = 0 by omega, show k + 1 - 8 = 0 by omega, List.take_zero]
    decide
set_option maxHeartbeats 1000000 in
theorem refAddr_ok (n off cap : Nat) (l : List (BitVec 8)) (M : List Blk) (K : SV → List Blk → Prop) (ha : BAt M n off l) (hl : l.length = 4 ∨ l.length = 16)
    (hK : K (adS (if l.length = 4 then 4 else 6) (aHi l) (numB l)) M) : callVC Tryz.prog 57 [.sl n off l.length cap] M K := by
  refine fn_rule tabOK Tryz.func57 rfl Tryz.call57 (by kernel_rfl) (fun hM => ?_)
  (refine top_in ?_; simp -implicitDefEqProofs only [Tryz.ntmps57, Tryz.results57, go_sem, -List.reduceReplicate, ↓L_gdZ_tt, ↓L_gdZ_tf, ↓L_gdZ_ft, ↓L_gdZ_ff, ↓T_and, ↓T_imp, ↓T_all]; try simp only [top_out])
  have hl16 : l.length ≤ 16 := by omega
  refine ⟨fun h => ?_, fun h => ?_⟩
  · have hfa : (if l.length = 4 then (4 : Int) else 6) = 4 := if_pos (by have := beqT h; omega)
    clear h
    rw [hfa] at hK
    refine loop_code tabOK (by kernel_rfl) (fun m ts M' => ∃ k : Nat, k + m = l.length ∧ M' = M ++ [.row [.i .i64 0, .u64 0#64, .u64 0#64] 50, .row [.i .i64 4, .u64 (numB (l.take (k - 8))), .u64 (numB (l.take k))] 50] ∧
      frC [some (.sl n off l.length cap), none, some (.p M.length 0), some (.p (M.length + 1) 0), some (.i .i64 k), none, none, none, none, none, none, none, none, none, none, none, none, none, none, none, none, none, none, none, none, none, none, none, none, none, none, none, none, none, none] ts) l.length ?_ ?_
    · exact ⟨0, by omega, by simp [numB], by simp [frC]⟩
    · rintro m ts _ ⟨k, hk, rfl, hf⟩
      obtain ⟨f, rfl⟩ := frC_open _ _ 0 hf
      clear hf
      (refine top_in ?_; simp -implicitDefEqProofs only [go_sem, -List.reduceReplicate, ↓L_gdZ_tt, ↓L_gdZ_tf, ↓L_gdZ_ft, ↓L_gdZ_ff, ↓T_and, ↓T_imp, ↓T_all, get_lt ha.lt]; try simp only [top_out])
      refine ⟨fun h => ?_, fun h => ?_⟩
      · refine draw_rule tabOK (by kernel_rfl : _) (.p 0 (.p 1 (.p 2 (.p 3 (.p 4 (.p 5 (.p 6 (.p 7 (.p 8 (.p 9 (.e 10 [] .nil .no))))))))))) (by kernel_rfl) (by kernel_rfl) ?_
        (refine top_in ?_; simp -implicitDefEqProofs only [go_sem, -List.reduceReplicate, ↓L_gdZ_tt, ↓L_gdZ_tf, ↓L_gdZ_ft, ↓L_gdZ_ff, ↓T_and, ↓T_imp, ↓T_all, get_lt ha.lt]; try simp only [top_out])
        rw [ha.is8 (by omega), ha.cell8 (by omega), hi_step (by omega), ← numB_take (by omega)]
        exact ⟨by omega, by omega, ha.le (by omega), rfl, m - 1, by omega, k + 1, by omega, rfl, w64 (by omega) (by omega)⟩
      · obtain rfl : k = l.length := by omega
        rw [List.take_length]
        exact dropC_append hM rfl hK
  · have hfa : (if l.length = 4 then (4 : Int) else 6) = 6 := if_neg (by have := beqF h; omega)
    clear h
    rw [hfa] at hK
    refine loop_code tabOK (by kernel_rfl) (fun m ts M' => ∃ k : Nat, k + m = l.length ∧ M' = M ++ [.row [.i .i64 0, .u64 0#64, .u64 0#64] 50, .row [.i .i64 6, .u64 (numB (l.take (k - 8))), .u64 (numB (l.take k))] 50] ∧
      frC [some (.sl n off l.length cap), none, some (.p M.length 0), some (.p (M.length + 1) 0), some (.i .i64 k), none, none, none, none, none, none, none, none, none, none, none, none, none, none, none, none, none, none, none, none, none, none, none, none, none, none, none, none, none, none] ts) l.length ?_ ?_
    · exact ⟨0, by omega, by simp [numB], by simp [frC]⟩
    · rintro m ts _ ⟨k, hk, rfl, hf⟩
      obtain ⟨f, rfl⟩ := frC_open _ _ 0 hf
      clear hf
      (refine top_in ?_; simp -implicitDefEqProofs only [go_sem, -List.reduceReplicate, ↓L_gdZ_tt, ↓L_gdZ_tf, ↓L_gdZ_ft, ↓L_gdZ_ff, ↓T_and, ↓T_imp, ↓T_all, get_lt ha.lt]; try simp only [top_out])
      refine ⟨fun h => ?_, fun h => ?_⟩
      · refine draw_rule tabOK (by kernel_rfl : _) (.p 0 (.p 1 (.p 2 (.p 3 (.p 4 (.p 5 (.p 6 (.p 7 (.p 8 (.p 9 (.e 10 [] .nil .no))))))))))) (by kernel_rfl) (by kernel_rfl) ?_
        (refine top_in ?_; simp -implicitDefEqProofs only [go_sem, -List.reduceReplicate, ↓L_gdZ_tt, ↓L_gdZ_tf, ↓L_gdZ_ft, ↓L_gdZ_ff, ↓T_and, ↓T_imp, ↓T_all, get_lt ha.lt]; try simp only [top_out])
        rw [ha.is8 (by omega), ha.cell8 (by omega), hi_step (by omega), ← numB_take (by omega)]
        exact ⟨by omega, by omega, ha.le (by omega), rfl, m - 1, by omega, k + 1, by omega, rfl, w64 (by omega) (by omega)⟩
      · obtain rfl : k = l.length := by omega
        rw [List.take_length]
        exact dropC_append hM rfl hK
theorem sameAddr_ok (fa : Int) (hi lo : BitVec 64) (fb : Int) (hi' lo' : BitVec 64) (M : List Blk) (K : SV → List Blk → Prop) (hK : K (.b (fa == fb && hi == hi' && lo == lo')) M) : callVC Tryz.prog 32 [adS fa hi lo, adS fb hi' lo'] M K := by
  unfold adS
  refine fn_rule tabOK Tryz.func32 rfl Tryz.call32 (by kernel_rfl) (fun hM => ?_)
  (refine top_in ?_; simp -implicitDefEqProofs only [Tryz.ntmps32, Tryz.results32, go_sem, -List.reduceReplicate, ↓L_gdZ_tt, ↓L_gdZ_tf, ↓L_gdZ_ft, ↓L_gdZ_ff, ↓T_and, ↓T_imp, ↓T_all]; try simp only [top_out])
  repeat' (with_reducible first | refine And.intro ?_ ?_ | intro)
  all_goals
    refine dropB hM hK ?_
    simp_all
theorem left_ok (m nb cap : Nat) (l : List (BitVec 8)) (at_ : Nat) (err : Int) (M : List Blk) (K : SV → List Blk → Prop) (hR : M[m]? = some (.row (rdS nb l.length cap at_ err) 105)) (hat : at_ ≤ l.length) (hl : l.length ≤ 140737488355000)
    (hK : K (.i .i64 (if err = 0 then ((l.length - at_ : Nat) : Int) else 0)) M) : callVC Tryz.prog 28 [.p m 0] M K := by
  unfold rdS at hR
  refine fn_rule tabOK Tryz.func28 rfl Tryz.call28 (by kernel_rfl) (fun hM => ?_)
  (refine top_in ?_; simp -implicitDefEqProofs only [Tryz.ntmps28, Tryz.results28, go_sem, -List.reduceReplicate, ↓L_gdZ_tt, ↓L_gdZ_tf, ↓L_gdZ_ft, ↓L_gdZ_ff, ↓T_and, ↓T_imp, ↓T_all, hR]; try simp only [top_out])
  refine ⟨fun h => ?_, fun h => ?_⟩
  · rw [if_neg (bneT h)] at hK
    exact dropC_self hM rfl hK
  · rw [if_pos (bneF h)] at hK
    refine draw_rule tabOK (by kernel_rfl : _) (.p 0 (.p 1 (.p 2 (.p 3 (.p 4 (.p 5 (.p 6 (.p 7 (.p 8 (.p 9 (.p 10 .nil))))))))))) (by kernel_rfl) (by kernel_rfl) ?_
    (refine top_in ?_; simp -implicitDefEqProofs only [go_sem, -List.reduceReplicate, ↓L_gdZ_tt, ↓L_gdZ_tf, ↓L_gdZ_ft, ↓L_gdZ_ff, ↓T_and, ↓T_imp, ↓T_all, hR]; try simp only [top_out])
    rw [w64 (by omega) (by omega), show (l.length : Int) - at_ = ((l.length - at_ : Nat) : Int) by omega]
    exact dropC_self hM rfl hK
theorem rdBytes_ok (m nb cap : Nat) (l : List (BitVec 8)) (at_ : Nat) (n : Nat) (M : List Blk) (K : SV → List Blk → Prop) (hR : M[m]? = some (.row (rdS nb l.length cap at_ 0) 105)) (ha : BAt M nb 0 l)
    (hat : at_ + n ≤ l.length) (hl : l.length ≤ 140737488355000) (hcap : l.length ≤ cap)
    (hK : K (.sl nb (if n = 0 then 0 else at_) n n) (M.set m (.row (rdS nb l.length cap (at_ + n) 0) 105))) :
    callVC Tryz.prog 27 [.p m 0, .i .i64 n] M K := by
  refine fn_rule tabOK Tryz.func27 rfl Tryz.call27 (by kernel_rfl) (fun hM => ?_)
  (refine top_in ?_; simp -implicitDefEqProofs only [Tryz.ntmps27, Tryz.results27, go_sem, -List.reduceReplicate, ↓L_gdZ_tt, ↓L_gdZ_tf, ↓L_gdZ_ft, ↓L_gdZ_ff, ↓T_and, ↓T_imp, ↓T_all]; try simp only [top_out])
  refine take_ok m nb cap l at_ 0 n M _ hR ha (by omega) hl hcap (by omega) ?_
  (refine top_in ?_; simp -implicitDefEqProofs only [go_sem, -List.reduceReplicate, ↓L_gdZ_tt, ↓L_gdZ_tf, ↓L_gdZ_ft, ↓L_gdZ_ff, ↓T_and, ↓T_imp, ↓T_all]; try simp only [top_out])
  have h1 : rok l.length at_ 0 n = true := by simp [rok]; omega
  have h2 : rat l.length at_ 0 n = at_ + n := if_pos ⟨rfl, hat⟩
  have h3 : rerr l.length at_ 0 n = 0 := by unfold rerr; rw [if_pos rfl, if_pos hat]
  rw [if_pos h1, h2, h3]
  exact dropC_all (by simp) hK
theorem dropC_set {M N : List Blk} {v : SV} {m : Nat} {X : Blk} {K : SV → List Blk → Prop} (hM : ∀ (n : Nat) (B : Blk), M[n]? = some B → B.lt M.length = true) (hX : X.lt M.length = true) (hv : v.lt M.length = true) (hK : K v (M.set m X)) : dropC M.length v (M.set m X ++ N) K := by
  have := dropC_append (M := M.set m X) (N := N) (v := v) (K := K) (fun n B h => by
    rw [List.length_set]
    by_cases e : m = n
    · subst e
      by_cases hlt : m < M.length
      · rw [List.getElem?_set_self hlt] at h; cases h; exact hX
      · rw [List.getElem?_eq_none (by simp; omega)] at h; cases h
    · rw [List.getElem?_set_ne e] at h; exact hM n B h) (by rw [List.length_set]; exact hv) hK
  rwa [List.length_set] at this
theorem rd_lt {nb len cap a m : Nat} {e : Int} {ty : TypeId} (h : nb < m) : Blk.lt m (.row (rdS nb len cap a e) ty) = true := by simp [rdS, Blk.lt, ltL, SV.lt, h]
theorem address4_ok (m nb cap : Nat) (l : List (BitVec 8)) (at_ : Nat) (err : Int) (M : List Blk) (K : SV → List Blk → Prop) (hR : M[m]? = some (.row (rdS nb l.length cap at_ err) 105)) (ha : BAt M nb 0 l) (hne : m ≠ nb)
    (hat : at_ ≤ l.length) (hl : l.length ≤ 140737488355000) (hcap : l.length ≤ cap)
    (hK : K (adS 4 0#64 (((getV l at_ err 4).setWidth 32).setWidth 64)) (M.set m (.row (rdS nb l.length cap (rat l.length at_ err 4) (rerr l.length at_ err 4)) 105))) :
    callVC Tryz.prog 25 [.p m 0, .i .i64 4] M K := by
  have hm : m < M.length := (List.getElem?_eq_some_iff.1 hR).1
  refine fn_rule tabOK Tryz.func25 rfl Tryz.call25 (by kernel_rfl) (fun hM => ?_)
  (refine top_in ?_; simp -implicitDefEqProofs only [Tryz.ntmps25, Tryz.results25, go_sem, -List.reduceReplicate, ↓L_gdZ_tt, ↓L_gdZ_tf, ↓L_gdZ_ft, ↓L_gdZ_ff, ↓T_and, ↓T_imp, ↓T_all]; try simp only [top_out])
  refine get32_ok m nb cap l at_ err _ _ (by rw [get_lt hm]; exact hR) ha.app hne hat hl hcap ?_
  rw [List.set_append_left _ _ hm]
  have hX := @rd_lt nb l.length cap (rat l.length at_ err 4) M.length (rerr l.length at_ err 4) 105 ha.lt
  have hlen : (M.set m (Blk.row (rdS nb l.length cap (rat l.length at_ err 4) (rerr l.length at_ err 4)) 105)).length = M.length := List.length_set
  have hd : ∀ (N : List Blk) (v : SV), v.lt M.length = true → K v (M.set m (Blk.row (rdS nb l.length cap (rat l.length at_ err 4) (rerr l.length at_ err 4)) 105)) → dropC M.length v (M.set m (Blk.row (rdS nb l.length cap (rat l.length at_ err 4) (rerr l.length at_ err 4)) 105) ++ N) K := fun N v => dropC_set hM hX
  generalize M.set m (Blk.row (rdS nb l.length cap (rat l.length at_ err 4) (rerr l.length at_ err 4)) 105) = M1 at *
  rw [← hlen]
  (refine top_in ?_; simp -implicitDefEqProofs only [go_sem, -List.reduceReplicate, ↓L_gdZ_tt, ↓L_gdZ_tf, ↓L_gdZ_ft, ↓L_gdZ_ff, ↓T_and, ↓T_imp, ↓T_all]; try simp only [top_out])
  rw [hlen]
  exact hd _ _ rfl hK
theorem address6_ok (m nb cap : Nat) (l : List (BitVec 8)) (at_ : Nat) (err : Int) (M : List Blk) (K : SV → List Blk → Prop) (hR : M[m]? = some (.row (rdS nb l.length cap at_ err) 105)) (ha : BAt M nb 0 l) (hne : m ≠ nb)
    (hat : at_ ≤ l.length) (hl : l.length ≤ 140737488355000) (hcap : l.length ≤ cap)
    (hK : K (adS 6 (getV l at_ err 8) (getV l (rat l.length at_ err 8) (rerr l.length at_ err 8) 8)) (M.set m (.row (rdS nb l.length cap (rat l.length (rat l.length at_ err 8) (rerr l.length at_ err 8) 8) (rerr l.length (rat l.length at_ err 8) (rerr l.length at_ err 8) 8)) 105))) :
    callVC Tryz.prog 25 [.p m 0, .i .i64 6] M K := by
  have hm : m < M.length := (List.getElem?_eq_some_iff.1 hR).1
  have h64 : ((6 : Int) == 4) = false := rfl
  refine fn_rule tabOK Tryz.func25 rfl Tryz.call25 (by kernel_rfl) (fun hM => ?_)
  (refine top_in ?_; simp -implicitDefEqProofs only [Tryz.ntmps25, Tryz.results25, go_sem, -List.reduceReplicate, ↓L_gdZ_tt, ↓L_gdZ_tf, ↓L_gdZ_ft, ↓L_gdZ_ff, ↓T_and, ↓T_imp, ↓T_all, h64]; try simp only [top_out])
  refine get64_ok m nb cap l at_ err _ _ (by rw [get_lt hm]; exact hR) ha.app hne hat hl hcap ?_
  rw [List.set_append_left _ _ hm]
  have hlt : ∀ B : Blk, (M.set m B).length = M.length := fun B => List.length_set
  have hat2 : rat l.length at_ err 8 ≤ l.length := rat_le hat
  have ha2 := ha.set (B := Blk.row (rdS nb l.length cap (rat l.length at_ err 8) (rerr l.length at_ err 8)) 105) hne
  have hR2 := List.getElem?_set_self (a := Blk.row (rdS nb l.length cap (rat l.length at_ err 8) (rerr l.length at_ err 8)) 105) hm
  have hs2 : ∀ B : Blk, (M.set m (Blk.row (rdS nb l.length cap (rat l.length at_ err 8) (rerr l.length at_ err 8)) 105)).set m B = M.set m B := fun B => by rw [List.set_set]
  have hlen := hlt (Blk.row (rdS nb l.length cap (rat l.length at_ err 8) (rerr l.length at_ err 8)) 105)
  generalize getV l at_ err 8 = v1 at *
  generalize rat l.length at_ err 8 = a1 at *
  generalize rerr l.length at_ err 8 = e1 at *
  generalize M.set m (Blk.row (rdS nb l.length cap a1 e1) 105) = M1 at *
  rw [← hlen]
  (refine top_in ?_; simp -implicitDefEqProofs only [go_sem, -List.reduceReplicate, ↓L_gdZ_tt, ↓L_gdZ_tf, ↓L_gdZ_ft, ↓L_gdZ_ff, ↓T_and, ↓T_imp, ↓T_all, h64]; try simp only [top_out])
  have hm1 : m < M1.length := by omega
  refine get64_ok m nb cap l a1 e1 _ _ (by rw [get_lt hm1]; exact hR2) ha2.app hne hat2 hl hcap ?_
  rw [List.set_append_left _ _ hm1, hs2]
  have hX := @rd_lt nb l.length cap (rat l.length a1 e1 8) M.length (rerr l.length a1 e1 8) 105 ha.lt
  have hd : ∀ (N : List Blk) (v : SV), v.lt M.length = true → K v (M.set m (Blk.row (rdS nb l.length cap (rat l.length a1 e1 8) (rerr l.length a1 e1 8)) 105)) → dropC M.length v (M.set m (Blk.row (rdS nb l.length cap (rat l.length a1 e1 8) (rerr l.length a1 e1 8)) 105) ++ N) K := fun N v => dropC_set hM hX
  have hlen2 := hlt (Blk.row (rdS nb l.length cap (rat l.length a1 e1 8) (rerr l.length a1 e1 8)) 105)
  generalize M.set m (Blk.row (rdS nb l.length cap (rat l.length a1 e1 8) (rerr l.length a1 e1 8)) 105) = M2 at *
  rw [hlen, ← hlen2]
  (refine top_in ?_; simp -implicitDefEqProofs only [go_sem, -List.reduceReplicate, ↓L_gdZ_tt, ↓L_gdZ_tf, ↓L_gdZ_ft, ↓L_gdZ_ff, ↓T_and, ↓T_imp, ↓T_all, h64]; try simp only [top_out])
  rw [hlen2]
  exact hd _ _ rfl hK
end Go.Proofs.YtdkdbeamimkljaaGreatDoor.Eng
