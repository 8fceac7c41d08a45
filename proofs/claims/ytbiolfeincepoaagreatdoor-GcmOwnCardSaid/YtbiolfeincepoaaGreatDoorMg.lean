/- Joined texts: G4, G5, G6, G7, G9p. -/
import Derived.Test.YtbiolfeincepoaaGreatDoorMf
import Derived.Test.YtbiolfeincepoaaGreatDoorMa
namespace Go.Proofs.YtbiolfeincepoaaGreatDoor.Eng
set_option linter.unusedSimpArgs false
set_option linter.unusedVariables false
open Go Go.RowKit
def zero16 : List (BitVec 8) := List.replicate 16 0#8
theorem zero16_len : zero16.length = 16 := rfl
def tagL (E : List (BitVec 8) → List (BitVec 8)) (nonce ad sealed_ : List (BitVec 8)) : List (BitVec 8) :=
  xorL (mulL (xorL (foldL (E zero16) (foldL (E zero16) zero16 ad) sealed_) (lenL ad.length sealed_.length)) (E zero16)) (E (ctrL nonce 1#32))
theorem tagL_len (E : List (BitVec 8) → List (BitVec 8)) (nonce ad s : List (BitVec 8)) : (tagL E nonce ad s).length = 16 := xorL_len _ _
theorem bS_zero16 : bS zero16 = List.replicate 16 (SV.u8 0#8) := rfl
set_option maxHeartbeats 1000000 in
theorem tag_ok (m nn no nc na oa la ca ns os ls cs : Nat) (C nonce ad s : List (BitVec 8)) (t4 : TypeId) (M : List Blk) (K : SV → List Blk → Prop) (hC : M[m]? = some (.row (bS C) t4)) (hCl : C.length = 496) (hn : BAt M nn no nonce) (hl : nonce.length = 12)
    (ha : BAt M na oa ad) (hla : la = ad.length) (hca : la ≤ ca) (hma : la ≤ 140737488355000) (hs : BAt M ns os s) (hls : ls = s.length) (hcs : ls ≤ cs) (hms : ls ≤ 140737488355000)
    (hK : K (.agg (bS (tagL (fun x => aesN C x 14) nonce ad s))) M) :
    callVC Tryz.prog 18 [.p m 0, .sl nn no 12 nc, .sl na oa la ca, .sl ns os ls cs] M K := by
  subst hla hls
  have hm : m < M.length := (List.getElem?_eq_some_iff.1 hC).1
  have hC' : ∀ L : List Blk, (M ++ L)[m]? = some (.row (bS C) t4) := fun L => by rw [get_lt hm]; exact hC
  have hel : ∀ x, (aesN C x 14).length = 16 := fun x => aesN_len _ _ _
  have hz := zero16_len
  refine fn_rule tabOK Tryz.func18 rfl Tryz.call18 (by kernel_rfl) (fun hM => ?_)
  (refine top_in ?_; simp -implicitDefEqProofs only [Tryz.ntmps18, Tryz.results18, go_sem, -List.reduceReplicate, ↓L_gdZ_tt, ↓L_gdZ_tf, ↓L_gdZ_ft, ↓L_gdZ_ff, ↓T_and, ↓T_imp, ↓T_all]; try simp only [top_out])
  rw [← show zero16 = List.replicate 16 0#8 from rfl]
  have hfa : (foldL (aesN C zero16 14) zero16 ad).length = 16 := foldL_len hz
  have hfs : (foldL (aesN C zero16 14) (foldL (aesN C zero16 14) zero16 ad) s).length = 16 := foldL_len hfa
  have hll := lenL_len ad.length s.length
  have hx1 := xorL_len (foldL (aesN C zero16 14) (foldL (aesN C zero16 14) zero16 ad) s) (lenL ad.length s.length)
  have hx2 := mulL_len' (xorL (foldL (aesN C zero16 14) (foldL (aesN C zero16 14) zero16 ad) s) (lenL ad.length s.length)) (aesN C zero16 14)
  have hcl := ctrL_len nonce 1#32
  have hxt := tagL_len (fun x => aesN C x 14) nonce ad s
  refine block_ok m C t4 zero16 _ _ (hC' _) hCl hz ?_
  (refine top_in ?_; simp -implicitDefEqProofs only [go_sem, -List.reduceReplicate, ↓L_gdZ_tt, ↓L_gdZ_tf, ↓L_gdZ_ft, ↓L_gdZ_ff, ↓T_and, ↓T_imp, ↓T_all, hz, hel, hfa, hfs, hx1, hx2, hll, hcl, get_lt hm, hC]; try simp only [top_out])
  rw [← show zero16 = List.replicate 16 0#8 from rfl]
  refine fold_ok zero16 _ ad na oa _ ca _ _ hz (hel _) ha.app rfl hca hma ?_
  (refine top_in ?_; simp -implicitDefEqProofs only [go_sem, -List.reduceReplicate, ↓L_gdZ_tt, ↓L_gdZ_tf, ↓L_gdZ_ft, ↓L_gdZ_ff, ↓T_and, ↓T_imp, ↓T_all, hz, hel, hfa, hfs, hx1, hx2, hll, hcl, get_lt hm, hC]; try simp only [top_out])
  refine fold_ok _ _ s ns os _ cs _ _ hfa (hel _) hs.app rfl hcs hms ?_
  (refine top_in ?_; simp -implicitDefEqProofs only [go_sem, -List.reduceReplicate, ↓L_gdZ_tt, ↓L_gdZ_tf, ↓L_gdZ_ft, ↓L_gdZ_ff, ↓T_and, ↓T_imp, ↓T_all, hz, hel, hfa, hfs, hx1, hx2, hll, hcl, get_lt hm, hC]; try simp only [top_out])
  refine draw_rule tabOK (by kernel_rfl : _) (.p 0 (.p 1 (.p 2 (.p 3 (.p 4 (.p 7 (.e 5 [0, 7] (.e 6 [7] (.e 8 [] (.e 9 [] .nil .no) .no) .no) .no))))))) (by kernel_rfl) (by kernel_rfl) ?_
  (refine top_in ?_; simp -implicitDefEqProofs only [go_sem, -List.reduceReplicate, ↓L_gdZ_tt, ↓L_gdZ_tf, ↓L_gdZ_ft, ↓L_gdZ_ff, ↓T_and, ↓T_imp, ↓T_all, hz, hel, hfa, hfs, hx1, hx2, hll, hcl, get_lt hm, hC]; try simp only [top_out])
  refine lengths_ok _ _ _ _ ?_
  (refine top_in ?_; simp -implicitDefEqProofs only [go_sem, -List.reduceReplicate, ↓L_gdZ_tt, ↓L_gdZ_tf, ↓L_gdZ_ft, ↓L_gdZ_ff, ↓T_and, ↓T_imp, ↓T_all, hz, hel, hfa, hfs, hx1, hx2, hll, hcl, get_lt hm, hC]; try simp only [top_out])
  refine xor_ok _ _ hfs hll _ _ ?_
  (refine top_in ?_; simp -implicitDefEqProofs only [go_sem, -List.reduceReplicate, ↓L_gdZ_tt, ↓L_gdZ_tf, ↓L_gdZ_ft, ↓L_gdZ_ff, ↓T_and, ↓T_imp, ↓T_all, hz, hel, hfa, hfs, hx1, hx2, hll, hcl, get_lt hm, hC]; try simp only [top_out])
  refine mul128_ok _ _ hx1 (hel _) _ _ ?_
  (refine top_in ?_; simp -implicitDefEqProofs only [go_sem, -List.reduceReplicate, ↓L_gdZ_tt, ↓L_gdZ_tf, ↓L_gdZ_ft, ↓L_gdZ_ff, ↓T_and, ↓T_imp, ↓T_all, hz, hel, hfa, hfs, hx1, hx2, hll, hcl, get_lt hm, hC]; try simp only [top_out])
  repeat (with_reducible refine And.intro (by omega) ?_)
  refine draw_rule tabOK (by kernel_rfl : _) (.p 0 (.p 1 (.p 2 (.e 3 [0] (.e 4 [0] (.e 5 [] (.e 6 [] .nil .no) .no) .no) .no)))) (by kernel_rfl) (by kernel_rfl) ?_
  (refine top_in ?_; simp -implicitDefEqProofs only [go_sem, -List.reduceReplicate, ↓L_gdZ_tt, ↓L_gdZ_tf, ↓L_gdZ_ft, ↓L_gdZ_ff, ↓T_and, ↓T_imp, ↓T_all, hz, hel, hfa, hfs, hx1, hx2, hll, hcl, get_lt hm, hC]; try simp only [top_out])
  refine counter_ok nn no nc nonce 1#32 _ _ hn.app hl ?_
  (refine top_in ?_; simp -implicitDefEqProofs only [go_sem, -List.reduceReplicate, ↓L_gdZ_tt, ↓L_gdZ_tf, ↓L_gdZ_ft, ↓L_gdZ_ff, ↓T_and, ↓T_imp, ↓T_all, hz, hel, hfa, hfs, hx1, hx2, hll, hcl, get_lt hm, hC]; try simp only [top_out])
  refine block_ok m C t4 (ctrL nonce 1#32) _ _ (hC' _) hCl hcl ?_
  (refine top_in ?_; simp -implicitDefEqProofs only [go_sem, -List.reduceReplicate, ↓L_gdZ_tt, ↓L_gdZ_tf, ↓L_gdZ_ft, ↓L_gdZ_ff, ↓T_and, ↓T_imp, ↓T_all, hz, hel, hfa, hfs, hx1, hx2, hll, hcl, get_lt hm, hC]; try simp only [top_out])
  refine xor_ok _ _ hx2 (hel _) _ _ ?_
  rw [show xorL (mulL (xorL (foldL (aesN C zero16 14) (foldL (aesN C zero16 14) zero16 ad) s) (lenL ad.length s.length)) (aesN C zero16 14)) (aesN C (ctrL nonce 1#32) 14) = tagL (fun x => aesN C x 14) nonce ad s from rfl]
  (refine top_in ?_; simp -implicitDefEqProofs only [go_sem, -List.reduceReplicate, ↓L_gdZ_tt, ↓L_gdZ_tf, ↓L_gdZ_ft, ↓L_gdZ_ff, ↓T_and, ↓T_imp, ↓T_all, hz, hel, hfa, hfs, hx1, hx2, hll, hcl, get_lt hm, hC, hxt]; try simp only [top_out])
  repeat (with_reducible refine And.intro (by omega) ?_)
  exact dropC_append hM (bS_lt _ _) hK
theorem byte_of64 (n : Nat) (c : Nat) (hc : c ≤ 56) : BitVec.ofInt 8 ((n : Int).fdiv (2 ^ min c 64)) = (BitVec.ofNat 64 n >>> c).setWidth 8 := by
  rw [Nat.min_eq_left (by omega), Int.fdiv_eq_ediv_of_nonneg _ (by exact_mod_cast Nat.zero_le _)]
  have h : ((n : Int) / 2 ^ c) = ((n / 2 ^ c : Nat) : Int) := by norm_cast
  rw [h, BitVec.ofInt_natCast]
  refine BitVec.eq_of_getLsbD_eq fun j hj => ?_
  rw [BitVec.getLsbD_ofNat, BitVec.getLsbD_setWidth, BitVec.getLsbD_ushiftRight, BitVec.getLsbD_ofNat, Nat.testBit_div_two_pow]
  have h8 : j < 8 := hj
  simp [h8, show c + j < 64 by omega, Nat.add_comm]
theorem lenL_a {a s k : Nat} (hk : k < 8) : (lenL a s).getD k 0#8 = (BitVec.ofNat 64 (8 * a) >>> (56 - 8 * k)).setWidth 8 := by
  unfold lenL
  rw [gl_getD (by omega), if_pos hk, show 8 * (7 - k) = 56 - 8 * k by omega, show 8 * a = a * 8 from Nat.mul_comm _ _, BitVec.ofNat_mul]
theorem lenL_s {a s k : Nat} (hk : k < 8) : (lenL a s).getD (8 + k) 0#8 = (BitVec.ofNat 64 (8 * s) >>> (56 - 8 * k)).setWidth 8 := by
  unfold lenL
  rw [gl_getD (by omega), if_neg (by omega), show 8 * (15 - (8 + k)) = 56 - 8 * k by omega, show 8 * s = s * 8 from Nat.mul_comm _ _, BitVec.ofNat_mul]
theorem foldL_16 {h y b : List (BitVec 8)} (hb : b.length = 16) : foldL h y b = mulL (xorL y b) h := by
  unfold foldL
  rw [hb]
  show mulL (xorL y (pad16 (b.drop (16 * 0)))) h = _
  have : pad16 (b.drop (16 * 0)) = b := (gl_self hb 0#8).symm
  rw [this]
set_option maxHeartbeats 2000000 in
theorem reftag_ok (m nn no nc na oa la ca ns os ls cs : Nat) (C nonce ad s : List (BitVec 8)) (t4 : TypeId) (M : List Blk) (K : SV → List Blk → Prop) (hC : M[m]? = some (.row (bS C) t4)) (hCl : C.length = 752) (hT : ∀ v : BitVec 8, C.getD (256 + v.toNat) 0#8 = mul8L 8 2#8 v 0#8)
    (hn : BAt M nn no nonce) (hl : nonce.length = 12) (ha : BAt M na oa ad) (hla : la = ad.length) (hma : la ≤ 140737488355000) (hs : BAt M ns os s) (hls : ls = s.length) (hms : ls ≤ 140737488355000)
    (hK : K (.agg (bS (tagL (fun x => refN4 C x 14) nonce ad s))) M) :
    callVC Tryz.prog 24 [.p m 0, .sl nn no 12 nc, .sl na oa la ca, .sl ns os ls cs] M K := by
  subst hla hls
  have hm : m < M.length := (List.getElem?_eq_some_iff.1 hC).1
  have hC' : ∀ L : List Blk, (M ++ L)[m]? = some (.row (bS C) t4) := fun L => by rw [get_lt hm]; exact hC
  have hel : ∀ x, (refN4 C x 14).length = 16 := fun x => refN4_len _ _ _
  have hz := zero16_len
  refine fn_rule tabOK Tryz.func24 rfl Tryz.call24 (by kernel_rfl) (fun hM => ?_)
  (refine top_in ?_; simp -implicitDefEqProofs only [Tryz.ntmps24, Tryz.results24, go_sem, -List.reduceReplicate, ↓L_gdZ_tt, ↓L_gdZ_tf, ↓L_gdZ_ft, ↓L_gdZ_ff, ↓T_and, ↓T_imp, ↓T_all]; try simp only [top_out])
  rw [← show zero16 = List.replicate 16 0#8 from rfl]
  have hfa : (foldL (refN4 C zero16 14) zero16 ad).length = 16 := foldL_len hz
  have hfs : (foldL (refN4 C zero16 14) (foldL (refN4 C zero16 14) zero16 ad) s).length = 16 := foldL_len hfa
  have hll := lenL_len ad.length s.length
  have hcl := ctrL_len nonce 1#32
  have hxt := tagL_len (fun x => refN4 C x 14) nonce ad s
  refine refblock_ok m C t4 zero16 _ _ (hC' _) hCl hz hT ?_
  (refine top_in ?_; simp -implicitDefEqProofs only [go_sem, -List.reduceReplicate, ↓L_gdZ_tt, ↓L_gdZ_tf, ↓L_gdZ_ft, ↓L_gdZ_ff, ↓T_and, ↓T_imp, ↓T_all, hz, hel, hfa, hfs, hcl, get_lt hm, hC]; try simp only [top_out])
  refine folded_ok zero16 _ ad na oa _ ca _ _ hz (hel _) ha.app rfl hma ?_
  (refine top_in ?_; simp -implicitDefEqProofs only [go_sem, -List.reduceReplicate, ↓L_gdZ_tt, ↓L_gdZ_tf, ↓L_gdZ_ft, ↓L_gdZ_ff, ↓T_and, ↓T_imp, ↓T_all, hz, hel, hfa, hfs, hcl, get_lt hm, hC]; try simp only [top_out])
  refine folded_ok _ _ s ns os _ cs _ _ hfa (hel _) hs.app rfl hms ?_
  (refine top_in ?_; simp -implicitDefEqProofs only [go_sem, -List.reduceReplicate, ↓L_gdZ_tt, ↓L_gdZ_tf, ↓L_gdZ_ft, ↓L_gdZ_ff, ↓T_and, ↓T_imp, ↓T_all, hz, hel, hfa, hfs, hcl, get_lt hm, hC]; try simp only [top_out])
  have hty : tagL (fun x => refN4 C x 14) nonce ad s = xorL (foldL (refN4 C zero16 14) (foldL (refN4 C zero16 14) (foldL (refN4 C zero16 14) zero16 ad) s) (lenL ad.length s.length)) (refN4 C (ctrL nonce 1#32) 14) := by
    rw [foldL_16 hll]; rfl
  generalize foldL (refN4 C zero16 14) (foldL (refN4 C zero16 14) zero16 ad) s = y at hfs hty ⊢
  have hh := hel zero16
  generalize refN4 C zero16 14 = h at hh hty ⊢
  refine loop_gc tabOK (by kernel_rfl) (fun i ts M' => ∃ (k : Nat) (z : List (BitVec 8)) (ty : TypeId), k + i = 8 ∧ frC (some (.p m 0) :: some (.sl nn no 12 nc) :: some (.sl na oa ad.length ca) :: some (.sl ns os s.length cs) :: none :: none :: none :: none :: some (.p M.length 0) :: none :: some (.p (M.length + 2) 0) :: some (.p (M.length + 3) 0) :: some (.sl (M.length + 4) 0 k (k + z.length)) :: some (.i .i64 k) :: none :: none :: none :: none :: none :: none :: none :: none :: none :: none :: none :: none :: none :: none :: none :: none :: none :: none :: none :: none :: none :: none :: none :: none :: none :: none :: none :: none :: none :: none :: none :: none :: none :: none :: none :: none :: none :: none :: none :: none :: none :: none :: none :: none :: none :: none :: none :: none :: none :: none :: none :: none :: none :: none :: none :: none :: none :: none :: []) ts ∧
    M' = M ++ [.row (bS zero16) 61, .row (bS zero16) 61, .row (bS h) 61, .row (bS y) 61, .row (bS ((lenL ad.length s.length).take k ++ z)) ty]) 8 ?_ ?_
  · refine covF_gc hM [some 0, some 1, some 2, some 3, none] (some (.p m 0) :: some (.sl nn no 12 nc) :: some (.sl na oa ad.length ca) :: some (.sl ns os s.length cs) :: none :: none :: none :: none :: some (.p M.length 0) :: none :: some (.p (M.length + 2) 0) :: some (.p (M.length + 3) 0) :: some (.sl (M.length + 4) 0 0 0) :: some (.i .i64 0) :: none :: none :: none :: none :: none :: none :: none :: none :: none :: none :: none :: none :: none :: none :: none :: none :: none :: none :: none :: none :: none :: none :: none :: none :: none :: none :: none :: none :: none :: none :: none :: none :: none :: none :: none :: none :: none :: none :: none :: none :: none :: none :: none :: none :: none :: none :: none :: none :: none :: none :: none :: none :: none :: none :: none :: none :: none :: none :: [])
      [.row (bS zero16) 61, .row (bS zero16) 61, .row (bS h) 61, .row (bS y) 61, .row (bS []) 0] rfl ⟨keep8 rfl, keep8 rfl, keep8 rfl, keep8 rfl, rfl, trivial⟩ (by simp [lt_row]) ?_ ?_
      (fun ts' h => ⟨0, [], 0, by omega, by simpa using h, rfl⟩)
    · simp only [Int.natCast_add, cast_lit, Nat.add_assoc, rnSl_n, frRn_nil, frRn_s, frRn_n, frLt_nil, frLt_s, frLt_n, rn_i, rn_u8, rn_u32, rn_u64, rn_b, rn_str, rn_sn, rn_pn, rn_agg, rn_tup, rnL_nil, rnL_cons, rn_bS, rn_nil, rn_sl_at, rn_sl_at0, rn_p_at, rn_p_at0, rnSl_s, rnP_s, lt_i, lt_u8, lt_u32, lt_u64, lt_b, lt_sl, lt_p, lt_agg, lt_tup, ltL_nil', ltL_cons, bS_lt, List.getElem?_cons_succ, List.getElem?_cons_zero, Option.join_some, Nat.add_zero, Nat.zero_add, implies_true, and_self, and_true, true_and, Bool.and_true, Bool.true_and, Bool.and_self, List.length_cons, List.length_nil, List.length_append, decide_eq_true_eq, Bool.and_eq_true, rn_sl ha.lt, rn_sl hn.lt, rn_sl hs.lt, rn_p hm]
      trace_state
    · have := ha.lt
      have := hn.lt
      have := hs.lt
      simp only [Int.natCast_add, cast_lit, Nat.add_assoc, rnSl_n, frRn_nil, frRn_s, frRn_n, frLt_nil, frLt_s, frLt_n, rn_i, rn_u8, rn_u32, rn_u64, rn_b, rn_str, rn_sn, rn_pn, rn_agg, rn_tup, rnL_nil, rnL_cons, rn_bS, rn_nil, rn_sl_at, rn_sl_at0, rn_p_at, rn_p_at0, rnSl_s, rnP_s, lt_i, lt_u8, lt_u32, lt_u64, lt_b, lt_sl, lt_p, lt_agg, lt_tup, ltL_nil', ltL_cons, bS_lt, List.getElem?_cons_succ, List.getElem?_cons_zero, Option.join_some, Nat.add_zero, Nat.zero_add, implies_true, and_self, and_true, true_and, Bool.and_true, Bool.true_and, Bool.and_self, List.length_cons, List.length_nil, List.length_append, decide_eq_true_eq, Bool.and_eq_true]; omega
  · rintro i ts _ ⟨k, z, ty, hk, hf, rfl⟩
    by_cases hk8 : k < 8
    · have hp : ((k : Int) < 8) = True := by simp; omega
      have w1 : IntKind.i64.wrap (8 * (ad.length : Int)) = ((8 * ad.length : Nat) : Int) := by rw [w64 (by omega) (by omega)]; omega
      have w2 : IntKind.i64.wrap (8 * (k : Int)) = ((8 * k : Nat) : Int) := by rw [w64 (by omega) (by omega)]; omega
      have w3 : IntKind.i64.wrap (56 - ((8 * k : Nat) : Int)) = ((56 - 8 * k : Nat) : Int) := by rw [w64 (by omega) (by omega)]; omega
      have w4 : (BitVec.ofInt 64 ((56 - 8 * k : Nat) : Int)).toNat = 56 - 8 * k := by rw [BitVec.ofInt_natCast, BitVec.toNat_ofNat]; omega
      have b1 := byte_of64 (8 * ad.length) (56 - 8 * k) (by omega)
      rw [← lenL_a (a := ad.length) (s := s.length) hk8] at b1
      have htk : ((lenL ad.length s.length).take (k)).length = k := by rw [List.length_take]; omega
      obtain ⟨f, rfl⟩ := frC_open _ _ 0 hf
      clear hf
      (refine top_in ?_; simp -implicitDefEqProofs only [go_sem, -List.reduceReplicate, ↓L_gdZ_tt, ↓L_gdZ_tf, ↓L_gdZ_ft, ↓L_gdZ_ff, ↓T_and, ↓T_imp, ↓T_all, hp, w1, w2, w3, w4, b1]; try simp only [top_out])
      repeat (with_reducible refine And.intro (by omega) ?_)
      refine app8 (M.length + 4) ((lenL ad.length s.length).take (k)) z [(lenL ad.length s.length).getD (k) 0#8] ty rfl rfl rfl (by rw [get_app]; rfl) htk.symm (by omega) (src_u8 (by rw [get_app]; rfl)) (by simp; omega) ?_
      intro z' ty'
      rw [← take_snoc (by omega), htk]
      (refine top_in ?_; simp -implicitDefEqProofs only [go_sem, -List.reduceReplicate, ↓L_gdZ_tt, ↓L_gdZ_tf, ↓L_gdZ_ft, ↓L_gdZ_ff, ↓T_and, ↓T_imp, ↓T_all]; try simp only [top_out])
      rw [w64 (x := (k : Int) + 1) (by omega) (by omega)]
      refine covF_gc hM [some 0, some 1, some 2, some 3, some 6] (some (.p m 0) :: some (.sl nn no 12 nc) :: some (.sl na oa ad.length ca) :: some (.sl ns os s.length cs) :: none :: none :: none :: none :: some (.p M.length 0) :: none :: some (.p (M.length + 2) 0) :: some (.p (M.length + 3) 0) :: some (.sl (M.length + 4) 0 (k + 1) (k + 1 + z'.length)) :: some (.i .i64 ((k : Int) + 1)) :: none :: none :: none :: none :: none :: none :: none :: none :: none :: none :: none :: none :: none :: none :: none :: none :: none :: none :: none :: none :: none :: none :: none :: none :: none :: none :: none :: none :: none :: none :: none :: none :: none :: none :: none :: none :: none :: none :: none :: none :: none :: none :: none :: none :: none :: none :: none :: none :: none :: none :: none :: none :: none :: none :: none :: none :: none :: none :: [])
        [.row (bS zero16) 61, .row (bS zero16) 61, .row (bS h) 61, .row (bS y) 61, .row (bS ((lenL ad.length s.length).take (k + 1) ++ z')) ty'] rfl ⟨keep8 rfl, keep8 rfl, keep8 rfl, keep8 rfl, keep8 rfl, trivial⟩ (by simp [lt_row]) ?_ ?_
        (fun ts' h => ⟨i - 1, by omega, k + 1, z', ty', by omega, by simpa [Nat.add_assoc] using h, rfl⟩)
      · simp only [Int.natCast_add, cast_lit, Nat.add_assoc, rnSl_n, frRn_nil, frRn_s, frRn_n, frLt_nil, frLt_s, frLt_n, rn_i, rn_u8, rn_u32, rn_u64, rn_b, rn_str, rn_sn, rn_pn, rn_agg, rn_tup, rnL_nil, rnL_cons, rn_bS, rn_nil, rn_sl_at, rn_sl_at0, rn_p_at, rn_p_at0, rnSl_s, rnP_s, lt_i, lt_u8, lt_u32, lt_u64, lt_b, lt_sl, lt_p, lt_agg, lt_tup, ltL_nil', ltL_cons, bS_lt, List.getElem?_cons_succ, List.getElem?_cons_zero, Option.join_some, Nat.add_zero, Nat.zero_add, implies_true, and_self, and_true, true_and, Bool.and_true, Bool.true_and, Bool.and_self, List.length_cons, List.length_nil, List.length_append, decide_eq_true_eq, Bool.and_eq_true, rn_sl ha.lt, rn_sl hn.lt, rn_sl hs.lt, rn_p hm]
      · have := ha.lt
        have := hn.lt
        have := hs.lt
        simp only [Int.natCast_add, cast_lit, Nat.add_assoc, rnSl_n, frRn_nil, frRn_s, frRn_n, frLt_nil, frLt_s, frLt_n, rn_i, rn_u8, rn_u32, rn_u64, rn_b, rn_str, rn_sn, rn_pn, rn_agg, rn_tup, rnL_nil, rnL_cons, rn_bS, rn_nil, rn_sl_at, rn_sl_at0, rn_p_at, rn_p_at0, rnSl_s, rnP_s, lt_i, lt_u8, lt_u32, lt_u64, lt_b, lt_sl, lt_p, lt_agg, lt_tup, ltL_nil', ltL_cons, bS_lt, List.getElem?_cons_succ, List.getElem?_cons_zero, Option.join_some, Nat.add_zero, Nat.zero_add, implies_true, and_self, and_true, true_and, Bool.and_true, Bool.true_and, Bool.and_self, List.length_cons, List.length_nil, List.length_append, decide_eq_true_eq, Bool.and_eq_true]; omega
    · obtain rfl : k = 8 := by omega
      have hp : (((8 : Nat) : Int) < 8) = False := by simp
      obtain ⟨f, rfl⟩ := frC_open _ _ 0 hf
      clear hf
      (refine top_in ?_; simp -implicitDefEqProofs only [go_sem, -List.reduceReplicate, ↓L_gdZ_tt, ↓L_gdZ_tf, ↓L_gdZ_ft, ↓L_gdZ_ff, ↓T_and, ↓T_imp, ↓T_all, hp]; try simp only [top_out])
      refine loop_gc tabOK (by kernel_rfl) (fun i ts M' => ∃ (k : Nat) (z : List (BitVec 8)) (ty : TypeId), k + i = 8 ∧ frC (some (.p m 0) :: some (.sl nn no 12 nc) :: some (.sl na oa ad.length ca) :: some (.sl ns os s.length cs) :: none :: none :: none :: none :: some (.p M.length 0) :: none :: some (.p (M.length + 2) 0) :: some (.p (M.length + 3) 0) :: some (.sl (M.length + 4) 0 (8 + k) (8 + k + z.length)) :: none :: some (.i .i64 k) :: none :: none :: none :: none :: none :: none :: none :: none :: none :: none :: none :: none :: none :: none :: none :: none :: none :: none :: none :: none :: none :: none :: none :: none :: none :: none :: none :: none :: none :: none :: none :: none :: none :: none :: none :: none :: none :: none :: none :: none :: none :: none :: none :: none :: none :: none :: none :: none :: none :: none :: none :: none :: none :: none :: none :: none :: none :: []) ts ∧
        M' = M ++ [.row (bS zero16) 61, .row (bS zero16) 61, .row (bS h) 61, .row (bS y) 61, .row (bS ((lenL ad.length s.length).take (8 + k) ++ z)) ty]) 8 ?_ ?_
      · exact covF_self ⟨0, z, ty, by omega, by simp [frC], rfl⟩
      · clear hk hp f
        rintro i ts _ ⟨k, z, ty, hk, hf, rfl⟩
        by_cases hk8 : k < 8
        · have hp : ((k : Int) < 8) = True := by simp; omega
          have w1 : IntKind.i64.wrap (8 * (s.length : Int)) = ((8 * s.length : Nat) : Int) := by rw [w64 (by omega) (by omega)]; omega
          have w2 : IntKind.i64.wrap (8 * (k : Int)) = ((8 * k : Nat) : Int) := by rw [w64 (by omega) (by omega)]; omega
          have w3 : IntKind.i64.wrap (56 - ((8 * k : Nat) : Int)) = ((56 - 8 * k : Nat) : Int) := by rw [w64 (by omega) (by omega)]; omega
          have w4 : (BitVec.ofInt 64 ((56 - 8 * k : Nat) : Int)).toNat = 56 - 8 * k := by rw [BitVec.ofInt_natCast, BitVec.toNat_ofNat]; omega
          have b1 := byte_of64 (8 * s.length) (56 - 8 * k) (by omega)
          rw [← lenL_s (a := ad.length) (s := s.length) hk8] at b1
          have htk : ((lenL ad.length s.length).take (8 + k)).length = 8 + k := by rw [List.length_take]; omega
          obtain ⟨f, rfl⟩ := frC_open _ _ 0 hf
          clear hf
          (refine top_in ?_; simp -implicitDefEqProofs only [go_sem, -List.reduceReplicate, ↓L_gdZ_tt, ↓L_gdZ_tf, ↓L_gdZ_ft, ↓L_gdZ_ff, ↓T_and, ↓T_imp, ↓T_all, hp, w1, w2, w3, w4, b1]; try simp only [top_out])
          repeat (with_reducible refine And.intro (by omega) ?_)
          refine app8 (M.length + 4) ((lenL ad.length s.length).take (8 + k)) z [(lenL ad.length s.length).getD (8 + k) 0#8] ty rfl rfl rfl (by rw [get_app]; rfl) htk.symm (by omega) (src_u8 (by rw [get_app]; rfl)) (by simp; omega) ?_
          intro z' ty'
          rw [← take_snoc (by omega), htk]
          (refine top_in ?_; simp -implicitDefEqProofs only [go_sem, -List.reduceReplicate, ↓L_gdZ_tt, ↓L_gdZ_tf, ↓L_gdZ_ft, ↓L_gdZ_ff, ↓T_and, ↓T_imp, ↓T_all]; try simp only [top_out])
          rw [w64 (x := (k : Int) + 1) (by omega) (by omega)]
          refine covF_gc hM [some 0, some 1, some 2, some 3, some 6] (some (.p m 0) :: some (.sl nn no 12 nc) :: some (.sl na oa ad.length ca) :: some (.sl ns os s.length cs) :: none :: none :: none :: none :: some (.p M.length 0) :: none :: some (.p (M.length + 2) 0) :: some (.p (M.length + 3) 0) :: some (.sl (M.length + 4) 0 (8 + k + 1) (8 + k + 1 + z'.length)) :: none :: some (.i .i64 ((k : Int) + 1)) :: none :: none :: none :: none :: none :: none :: none :: none :: none :: none :: none :: none :: none :: none :: none :: none :: none :: none :: none :: none :: none :: none :: none :: none :: none :: none :: none :: none :: none :: none :: none :: none :: none :: none :: none :: none :: none :: none :: none :: none :: none :: none :: none :: none :: none :: none :: none :: none :: none :: none :: none :: none :: none :: none :: none :: none :: none :: [])
            [.row (bS zero16) 61, .row (bS zero16) 61, .row (bS h) 61, .row (bS y) 61, .row (bS ((lenL ad.length s.length).take (8 + k + 1) ++ z')) ty'] rfl ⟨keep8 rfl, keep8 rfl, keep8 rfl, keep8 rfl, keep8 rfl, trivial⟩ (by simp [lt_row]) ?_ ?_
            (fun ts' h => ⟨i - 1, by omega, k + 1, z', ty', by omega, by simpa [Nat.add_assoc] using h, rfl⟩)
          · simp only [Int.natCast_add, cast_lit, Nat.add_assoc, rnSl_n, frRn_nil, frRn_s, frRn_n, frLt_nil, frLt_s, frLt_n, rn_i, rn_u8, rn_u32, rn_u64, rn_b, rn_str, rn_sn, rn_pn, rn_agg, rn_tup, rnL_nil, rnL_cons, rn_bS, rn_nil, rn_sl_at, rn_sl_at0, rn_p_at, rn_p_at0, rnSl_s, rnP_s, lt_i, lt_u8, lt_u32, lt_u64, lt_b, lt_sl, lt_p, lt_agg, lt_tup, ltL_nil', ltL_cons, bS_lt, List.getElem?_cons_succ, List.getElem?_cons_zero, Option.join_some, Nat.add_zero, Nat.zero_add, implies_true, and_self, and_true, true_and, Bool.and_true, Bool.true_and, Bool.and_self, List.length_cons, List.length_nil, List.length_append, decide_eq_true_eq, Bool.and_eq_true, rn_sl ha.lt, rn_sl hn.lt, rn_sl hs.lt, rn_p hm]
          · have := ha.lt
            have := hn.lt
            have := hs.lt
            simp only [Int.natCast_add, cast_lit, Nat.add_assoc, rnSl_n, frRn_nil, frRn_s, frRn_n, frLt_nil, frLt_s, frLt_n, rn_i, rn_u8, rn_u32, rn_u64, rn_b, rn_str, rn_sn, rn_pn, rn_agg, rn_tup, rnL_nil, rnL_cons, rn_bS, rn_nil, rn_sl_at, rn_sl_at0, rn_p_at, rn_p_at0, rnSl_s, rnP_s, lt_i, lt_u8, lt_u32, lt_u64, lt_b, lt_sl, lt_p, lt_agg, lt_tup, ltL_nil', ltL_cons, bS_lt, List.getElem?_cons_succ, List.getElem?_cons_zero, Option.join_some, Nat.add_zero, Nat.zero_add, implies_true, and_self, and_true, true_and, Bool.and_true, Bool.true_and, Bool.and_self, List.length_cons, List.length_nil, List.length_append, decide_eq_true_eq, Bool.and_eq_true]; omega
        · obtain rfl : k = 8 := by omega
          have hp : (((8 : Nat) : Int) < 8) = False := by simp
          obtain ⟨f, rfl⟩ := frC_open _ _ 0 hf
          clear hf
          (refine top_in ?_; simp -implicitDefEqProofs only [go_sem, -List.reduceReplicate, ↓L_gdZ_tt, ↓L_gdZ_tf, ↓L_gdZ_ft, ↓L_gdZ_ff, ↓T_and, ↓T_imp, ↓T_all, hp, hh, hfs, hz]; try simp only [top_out])
          rw [List.take_of_length_le (by omega)]
          refine folded_ok y h (lenL ad.length s.length) (M.length + 4) 0 _ (16 + z.length) _ _ hfs hh (BAt.row (z := z) (ty := ty) (by rw [get_app]; rfl)) hll.symm (by omega) ?_
          have hfl : (foldL h y (lenL ad.length s.length)).length = 16 := foldL_len hfs
          (refine top_in ?_; simp -implicitDefEqProofs only [go_sem, -List.reduceReplicate, ↓L_gdZ_tt, ↓L_gdZ_tf, ↓L_gdZ_ft, ↓L_gdZ_ff, ↓T_and, ↓T_imp, ↓T_all, hp, hh, hfs, hz, hfl]; try simp only [top_out])
          refine refcounter_ok nn no nc nonce 1 _ _ hn.app hl ?_
          rw [show BitVec.ofNat 32 1 = 1#32 from rfl]
          (refine top_in ?_; simp -implicitDefEqProofs only [go_sem, -List.reduceReplicate, ↓L_gdZ_tt, ↓L_gdZ_tf, ↓L_gdZ_ft, ↓L_gdZ_ff, ↓T_and, ↓T_imp, ↓T_all, hp, hh, hfs, hz, hfl, hcl]; try simp only [top_out])
          refine refblock_ok m C t4 (ctrL nonce 1#32) _ _ (hC' _) hCl hcl hT ?_
          (refine top_in ?_; simp -implicitDefEqProofs only [go_sem, -List.reduceReplicate, ↓L_gdZ_tt, ↓L_gdZ_tf, ↓L_gdZ_ft, ↓L_gdZ_ff, ↓T_and, ↓T_imp, ↓T_all, hp, hh, hfs, hz, hfl, hcl, hel]; try simp only [top_out])
          refine refxor_ok _ _ hfl (hel _) _ _ ?_
          rw [← hty]
          (refine top_in ?_; simp -implicitDefEqProofs only [go_sem, -List.reduceReplicate, ↓L_gdZ_tt, ↓L_gdZ_tf, ↓L_gdZ_ft, ↓L_gdZ_ff, ↓T_and, ↓T_imp, ↓T_all, hp, hh, hfs, hz, hfl, hcl, hel, hxt]; try simp only [top_out])
          exact dropC_append hM (bS_lt _ _) hK
def encE (key : List (BitVec 8)) : List (BitVec 8) → List (BitVec 8) := fun x => aesN (ciph key) x 14
theorem encE_len (key x : List (BitVec 8)) : (encE key x).length = 16 := aesN_len _ _ _
theorem encE_ref (key : List (BitVec 8)) : (fun x => refN4 (ciphR key) x 14) = encE key := funext fun x => (aes_ref 14).symm
def sealL (key nonce ad text : List (BitVec 8)) : List (BitVec 8) := cryL (encE key) nonce text ++ tagL (encE key) nonce ad (cryL (encE key) nonce text)
theorem sealL_len (key nonce ad text : List (BitVec 8)) : (sealL key nonce ad text).length = text.length + 16 := by
  unfold sealL; rw [List.length_append, cryL_len, tagL_len]
def sealE (key nonce ad text : List (BitVec 8)) : Int := if key.length ≠ 32 then 40 else if nonce.length ≠ 12 then 50 else if 65536 < ad.length ∨ 65536 < text.length then 51 else 0
theorem sealE_0 {key nonce ad text : List (BitVec 8)} (h : sealE key nonce ad text = 0) : key.length = 32 ∧ nonce.length = 12 ∧ ad.length ≤ 65536 ∧ text.length ≤ 65536 := by
  unfold sealE at h
  split at h
  · cases h
  · split at h
    · cases h
    · split at h
      · cases h
      · omega
theorem sealE_ok {key nonce ad text : List (BitVec 8)} (h1 : key.length = 32) (h2 : nonce.length = 12) (h3 : ad.length ≤ 65536) (h4 : text.length ≤ 65536) : sealE key nonce ad text = 0 := by
  unfold sealE
  rw [if_neg (by omega), if_neg (by omega), if_neg (by omega)]
theorem bneN {n k : Nat} (h : n ≠ k) : ((n : Int) != (k : Int)) = true := by simp; omega
theorem bneNe {n : Nat} : ((n : Int) != (n : Int)) = false := by simp
set_option maxHeartbeats 2000000 in
theorem seal_ok (nk ok lk ck nn no ln nc na oa la ca nt ot lt ct : Nat) (key nonce ad text : List (BitVec 8)) (M : List Blk) (K : SV → List Blk → Prop)
    (hk : BAt M nk ok key) (hlk : lk = key.length) (hck : lk ≤ ck) (hmk : lk ≤ 140737488355000) (hn : BAt M nn no nonce) (hln : ln = nonce.length) (ha : BAt M na oa ad) (hla : la = ad.length) (hca : la ≤ ca)
    (ht : BAt M nt ot text) (hlt : lt = text.length) (hct : lt ≤ ct)
    (h1 : sealE key nonce ad text = 0 → ∀ z ty, K (.tup [.sl M.length 0 (text.length + 16) (text.length + 16 + z.length), .i .i64 0]) (M ++ [.row (bS (sealL key nonce ad text ++ z)) ty]))
    (h0 : sealE key nonce ad text ≠ 0 → K (.tup [.sn, .i .i64 (sealE key nonce ad text)]) M) :
    callVC Tryz.prog 6 [.sl nk ok lk ck, .sl nn no ln nc, .sl na oa la ca, .sl nt ot lt ct] M K := by
  subst hlk hln hla hlt
  by_cases k32 : key.length = 32
  · have b1 : ((key.length : Int) != 32) = false := beqIN k32
    by_cases n12 : nonce.length = 12
    · have b2 : ((nonce.length : Int) != 12) = false := by rw [n12]; rfl
      by_cases hbig : 65536 < ad.length ∨ 65536 < text.length
      · have he : sealE key nonce ad text = 51 := by unfold sealE; rw [if_neg (by omega), if_neg (by omega), if_pos hbig]
        have hK := h0 (by rw [he]; decide)
        rw [he] at hK
        refine fn_rule tabOK Tryz.func6 rfl Tryz.call6 (by kernel_rfl) (fun hM => ?_)
        (refine top_in ?_; simp -implicitDefEqProofs only [Tryz.ntmps6, Tryz.results6, go_sem, -List.reduceReplicate, ↓L_gdZ_tt, ↓L_gdZ_tf, ↓L_gdZ_ft, ↓L_gdZ_ff, ↓T_and, ↓T_imp, ↓T_all, b1, b2]; try simp only [top_out])
        repeat' (with_reducible first | refine And.intro ?_ ?_ | intro)
        all_goals first
          | exact dropC_self hM rfl hK
          | (exfalso; omega)
      · have he := sealE_ok k32 n12 (ad := ad) (text := text) (by omega) (by omega)
        have hK := h1 he
        have b3 : (65536 < (ad.length : Int)) = False := by simp; omega
        have b4 : (65536 < (text.length : Int)) = False := by simp; omega
        refine fn_rule tabOK Tryz.func6 rfl Tryz.call6 (by kernel_rfl) (fun hM => ?_)
        (refine top_in ?_; simp -implicitDefEqProofs only [Tryz.ntmps6, Tryz.results6, go_sem, -List.reduceReplicate, ↓L_gdZ_tt, ↓L_gdZ_tf, ↓L_gdZ_ft, ↓L_gdZ_ff, ↓T_and, ↓T_imp, ↓T_all, b1, b2, b3, b4]; try simp only [top_out])
        refine new_ok nk ok ck key _ _ hk (by omega) hck (fun _ => ?_) (fun h => absurd k32 h)
        (refine top_in ?_; simp -implicitDefEqProofs only [go_sem, -List.reduceReplicate, ↓L_gdZ_tt, ↓L_gdZ_tf, ↓L_gdZ_ft, ↓L_gdZ_ff, ↓T_and, ↓T_imp, ↓T_all, q00, n12]; try simp only [top_out])
        refine crypt_ok M.length nn no nc nt ot text.length ct (ciph key) nonce text 74 _ _ (by rw [get_app0]; rfl) (ciph_len k32) hn.app n12 ht.app rfl hct (by omega) ?_
        intro z ty
        (refine top_in ?_; simp -implicitDefEqProofs only [go_sem, -List.reduceReplicate, ↓L_gdZ_tt, ↓L_gdZ_tf, ↓L_gdZ_ft, ↓L_gdZ_ff, ↓T_and, ↓T_imp, ↓T_all, n12]; try simp only [top_out])
        have hcl := cryL_len (encE key) nonce text
        rw [show (fun x => aesN (ciph key) x 14) = encE key from rfl]
        refine tag_ok M.length nn no nc na oa ad.length ca (M.length + 1) 0 text.length _ (ciph key) nonce ad (cryL (encE key) nonce text) 74 _ _ (by rw [get_app0]; rfl) (ciph_len k32) hn.app n12 ha.app rfl hca (by omega) (BAt.row (z := z) (ty := ty) (by rw [get_app]; rfl)) hcl.symm (by omega) (by omega) ?_
        rw [show (fun x => aesN (ciph key) x 14) = encE key from rfl]
        have htl := tagL_len (encE key) nonce ad (cryL (encE key) nonce text)
        generalize htg : tagL (encE key) nonce ad (cryL (encE key) nonce text) = tg at htl
        (refine top_in ?_; simp -implicitDefEqProofs only [go_sem, -List.reduceReplicate, ↓L_gdZ_tt, ↓L_gdZ_tf, ↓L_gdZ_ft, ↓L_gdZ_ff, ↓T_and, ↓T_imp, ↓T_all, n12, htl]; try simp only [top_out])
        refine app8 (M.length + 1) (cryL (encE key) nonce text) z tg ty rfl rfl rfl (by rw [get_app]; rfl) hcl.symm (by omega) (src_row (z := []) (ty := 61) (by rw [get_app, List.append_nil]; rfl) htl.symm) (by omega) ?_
        intro z' ty'
        have hse : cryL (encE key) nonce text ++ tg = sealL key nonce ad text := by unfold sealL; rw [htg]
        rw [hse, hcl, htl]
        (refine top_in ?_; simp -implicitDefEqProofs only [go_sem, -List.reduceReplicate, ↓L_gdZ_tt, ↓L_gdZ_tf, ↓L_gdZ_ft, ↓L_gdZ_ff, ↓T_and, ↓T_imp, ↓T_all]; try simp only [top_out])
        refine dropC_gc (L := [.row (bS (ciph key)) 74, .dead, .row (bS tg) 61, .row (bS (sealL key nonce ad text ++ z')) ty']) hM [some 3] (.tup [.sl M.length 0 (text.length + 16) (text.length + 16 + z'.length), .i .i64 0]) [.row (bS (sealL key nonce ad text ++ z')) ty'] rfl ⟨keep8 rfl, trivial⟩ (by simp [lt_row]) (by simp [SV.lt, ltL]) (fun ρ => ?_) (hK z' ty')
        simp only [rn_tup, rnL_cons, rnL_nil, rn_sl_at0, rn_i, List.getElem?_cons_zero, Option.join_some, rnSl_s, Nat.add_assoc]
    · have b2 : ((nonce.length : Int) != 12) = true := bneN n12
      have he : sealE key nonce ad text = 50 := by unfold sealE; rw [if_neg (by omega), if_pos n12]
      have hK := h0 (by rw [he]; decide)
      rw [he] at hK
      refine fn_rule tabOK Tryz.func6 rfl Tryz.call6 (by kernel_rfl) (fun hM => ?_)
      (refine top_in ?_; simp -implicitDefEqProofs only [Tryz.ntmps6, Tryz.results6, go_sem, -List.reduceReplicate, ↓L_gdZ_tt, ↓L_gdZ_tf, ↓L_gdZ_ft, ↓L_gdZ_ff, ↓T_and, ↓T_imp, ↓T_all, b1, b2]; try simp only [top_out])
      exact dropC_self hM rfl hK
  · have b1 : ((key.length : Int) != 32) = true := bneN k32
    have he : sealE key nonce ad text = 40 := by unfold sealE; rw [if_pos k32]
    have hK := h0 (by rw [he]; decide)
    rw [he] at hK
    refine fn_rule tabOK Tryz.func6 rfl Tryz.call6 (by kernel_rfl) (fun hM => ?_)
    (refine top_in ?_; simp -implicitDefEqProofs only [Tryz.ntmps6, Tryz.results6, go_sem, -List.reduceReplicate, ↓L_gdZ_tt, ↓L_gdZ_tf, ↓L_gdZ_ft, ↓L_gdZ_ff, ↓T_and, ↓T_imp, ↓T_all, b1]; try simp only [top_out])
    exact dropC_self hM rfl hK
set_option maxHeartbeats 2000000 in
theorem refseal_ok (nk ok lk ck nn no ln nc na oa la ca nt ot lt ct : Nat) (key nonce ad text : List (BitVec 8)) (M : List Blk) (K : SV → List Blk → Prop)
    (hk : BAt M nk ok key) (hlk : lk = key.length) (hck : lk ≤ ck) (hmk : lk ≤ 140737488355000) (hn : BAt M nn no nonce) (hln : ln = nonce.length) (ha : BAt M na oa ad) (hla : la = ad.length) (hca : la ≤ ca)
    (ht : BAt M nt ot text) (hlt : lt = text.length) (hct : lt ≤ ct)
    (h1 : sealE key nonce ad text = 0 → ∀ z ty, K (.tup [.sl M.length 0 (text.length + 16) (text.length + 16 + z.length), .i .i64 0]) (M ++ [.row (bS (sealL key nonce ad text ++ z)) ty]))
    (h0 : sealE key nonce ad text ≠ 0 → K (.tup [.sn, .i .i64 (sealE key nonce ad text)]) M) :
    callVC Tryz.prog 13 [.sl nk ok lk ck, .sl nn no ln nc, .sl na oa la ca, .sl nt ot lt ct] M K := by
  subst hlk hln hla hlt
  by_cases k32 : key.length = 32
  · have b1 : ((key.length : Int) != 32) = false := beqIN k32
    by_cases n12 : nonce.length = 12
    · have b2 : ((nonce.length : Int) != 12) = false := by rw [n12]; rfl
      by_cases hbig : 65536 < ad.length ∨ 65536 < text.length
      · have he : sealE key nonce ad text = 51 := by unfold sealE; rw [if_neg (by omega), if_neg (by omega), if_pos hbig]
        have hK := h0 (by rw [he]; decide)
        rw [he] at hK
        refine fn_rule tabOK Tryz.func13 rfl Tryz.call13 (by kernel_rfl) (fun hM => ?_)
        (refine top_in ?_; simp -implicitDefEqProofs only [Tryz.ntmps13, Tryz.results13, go_sem, -List.reduceReplicate, ↓L_gdZ_tt, ↓L_gdZ_tf, ↓L_gdZ_ft, ↓L_gdZ_ff, ↓T_and, ↓T_imp, ↓T_all, b1, b2]; try simp only [top_out])
        repeat' (with_reducible first | refine And.intro ?_ ?_ | intro)
        all_goals first
          | exact dropC_self hM rfl hK
          | (exfalso; omega)
      · have he := sealE_ok k32 n12 (ad := ad) (text := text) (by omega) (by omega)
        have hK := h1 he
        have b3 : (65536 < (ad.length : Int)) = False := by simp; omega
        have b4 : (65536 < (text.length : Int)) = False := by simp; omega
        refine fn_rule tabOK Tryz.func13 rfl Tryz.call13 (by kernel_rfl) (fun hM => ?_)
        (refine top_in ?_; simp -implicitDefEqProofs only [Tryz.ntmps13, Tryz.results13, go_sem, -List.reduceReplicate, ↓L_gdZ_tt, ↓L_gdZ_tf, ↓L_gdZ_ft, ↓L_gdZ_ff, ↓T_and, ↓T_imp, ↓T_all, b1, b2, b3, b4]; try simp only [top_out])
        refine refnew_ok nk ok ck key _ _ hk (by omega) hck (fun _ => ?_) (fun h => absurd k32 h)
        (refine top_in ?_; simp -implicitDefEqProofs only [go_sem, -List.reduceReplicate, ↓L_gdZ_tt, ↓L_gdZ_tf, ↓L_gdZ_ft, ↓L_gdZ_ff, ↓T_and, ↓T_imp, ↓T_all, q00, n12]; try simp only [top_out])
        have hcl := cryL_len (encE key) nonce text
        have htl := tagL_len (encE key) nonce ad (cryL (encE key) nonce text)
        refine streamed_ok M.length nn no nc nt ot text.length ct (ciphR key) nonce text 93 _ _ (by rw [get_app0]; rfl) (ciphR_len k32) ciphR_two hn.app n12 ht.app rfl (by omega) ?_
        intro z ty
        rw [encE_ref]
        (refine top_in ?_; simp -implicitDefEqProofs only [go_sem, -List.reduceReplicate, ↓L_gdZ_tt, ↓L_gdZ_tf, ↓L_gdZ_ft, ↓L_gdZ_ff, ↓T_and, ↓T_imp, ↓T_all, n12]; try simp only [top_out])
        refine reftag_ok M.length nn no nc na oa ad.length ca (M.length + 1) 0 text.length _ (ciphR key) nonce ad (cryL (encE key) nonce text) 93 _ _ (by rw [get_app0]; rfl) (ciphR_len k32) ciphR_two hn.app n12 ha.app rfl (by omega) (BAt.row (z := z) (ty := ty) (by rw [get_app]; rfl)) hcl.symm (by omega) ?_
        rw [encE_ref]
        have hse : cryL (encE key) nonce text ++ tagL (encE key) nonce ad (cryL (encE key) nonce text) = sealL key nonce ad text := rfl
        have hSl := sealL_len key nonce ad text
        have hS0 : (sealL key nonce ad text).take text.length = cryL (encE key) nonce text := by rw [← hse, List.take_append_of_le_length (by omega), List.take_of_length_le (by omega)]
        have hSg : ∀ k, k < 16 → (sealL key nonce ad text).getD (text.length + k) 0#8 = (tagL (encE key) nonce ad (cryL (encE key) nonce text)).getD k 0#8 := fun k hk => by
          rw [← hse, List.getD_eq_getElem?_getD, List.getElem?_append_right (by omega), hcl, Nat.add_sub_cancel_left, ← List.getD_eq_getElem?_getD]
        generalize tagL (encE key) nonce ad (cryL (encE key) nonce text) = tg at htl hSg
        rw [← hS0]
        generalize sealL key nonce ad text = S at hSl hSg hK
        (refine top_in ?_; simp -implicitDefEqProofs only [go_sem, -List.reduceReplicate, ↓L_gdZ_tt, ↓L_gdZ_tf, ↓L_gdZ_ft, ↓L_gdZ_ff, ↓T_and, ↓T_imp, ↓T_all, n12, htl]; try simp only [top_out])
        refine loop_gc tabOK (by kernel_rfl) (fun i ts M' => ∃ (k : Nat) (z : List (BitVec 8)) (ty : TypeId), k + i = 16 ∧ frC [none, none, none, none, none, none, none, none, none, none, none, none, some (.sl M.length 0 (text.length + k) (text.length + k + z.length)), some (.p (M.length + 1) 0), some (.i .i64 k), none, none, none, none, none, none, none, none, none, none, none, none, none, none, none, none, none, none, none, none, none, none, none, none, none, none, none, none, none, none, none, none, none, none, none, none, none, none, none] ts ∧
          M' = M ++ [.row (bS (S.take (text.length + k) ++ z)) ty, .row (bS tg) 61]) 16 ?_ ?_
        · refine covF_gc hM [some 1, some 2] [none, none, none, none, none, none, none, none, none, none, none, none, some (.sl M.length 0 text.length (text.length + z.length)), some (.p (M.length + 1) 0), some (.i .i64 0), none, none, none, none, none, none, none, none, none, none, none, none, none, none, none, none, none, none, none, none, none, none, none, none, none, none, none, none, none, none, none, none, none, none, none, none, none, none, none]
            [.row (bS (S.take text.length ++ z)) ty, .row (bS tg) 61] rfl ⟨keep8 rfl, keep8 rfl, trivial⟩ (by simp [lt_row]) ?_ ?_ (fun ts' h => ⟨0, z, ty, by omega, by simpa using h, by simp⟩)
          · simp only [Int.natCast_add, cast_lit, Nat.add_assoc, rnSl_n, frRn_nil, frRn_s, frRn_n, frLt_nil, frLt_s, frLt_n, rn_i, rn_u8, rn_u32, rn_u64, rn_b, rn_str, rn_sn, rn_pn, rn_agg, rn_tup, rnL_nil, rnL_cons, rn_bS, rn_nil, rn_sl_at, rn_sl_at0, rn_p_at, rn_p_at0, rnSl_s, rnP_s, lt_i, lt_u8, lt_u32, lt_u64, lt_b, lt_sl, lt_p, lt_agg, lt_tup, ltL_nil', ltL_cons, bS_lt, List.getElem?_cons_succ, List.getElem?_cons_zero, Option.join_some, Nat.add_zero, Nat.zero_add, implies_true, and_self, and_true, true_and, Bool.and_true, Bool.true_and, Bool.and_self, List.length_cons, List.length_nil, List.length_append, decide_eq_true_eq, Bool.and_eq_true]
          · simp only [Int.natCast_add, cast_lit, Nat.add_assoc, rnSl_n, frRn_nil, frRn_s, frRn_n, frLt_nil, frLt_s, frLt_n, rn_i, rn_u8, rn_u32, rn_u64, rn_b, rn_str, rn_sn, rn_pn, rn_agg, rn_tup, rnL_nil, rnL_cons, rn_bS, rn_nil, rn_sl_at, rn_sl_at0, rn_p_at, rn_p_at0, rnSl_s, rnP_s, lt_i, lt_u8, lt_u32, lt_u64, lt_b, lt_sl, lt_p, lt_agg, lt_tup, ltL_nil', ltL_cons, bS_lt, List.getElem?_cons_succ, List.getElem?_cons_zero, Option.join_some, Nat.add_zero, Nat.zero_add, implies_true, and_self, and_true, true_and, Bool.and_true, Bool.true_and, Bool.and_self, List.length_cons, List.length_nil, List.length_append, decide_eq_true_eq, Bool.and_eq_true]; omega
        · rintro i ts _ ⟨k, z, ty, hki, hf, rfl⟩
          have hlk : (S.take (text.length + k)).length = text.length + k := by rw [List.length_take]; omega
          by_cases hk16 : k < 16
          · have hp : ((k : Int) < 16) = True := by simp; omega
            obtain ⟨f, rfl⟩ := frC_open _ _ 0 hf
            clear hf
            (refine top_in ?_; simp -implicitDefEqProofs only [go_sem, -List.reduceReplicate, ↓L_gdZ_tt, ↓L_gdZ_tf, ↓L_gdZ_ft, ↓L_gdZ_ff, ↓T_and, ↓T_imp, ↓T_all, hp, htl]; try simp only [top_out])
            repeat (with_reducible refine And.intro (by omega) ?_)
            rw [← hSg k hk16]
            refine app8 M.length (S.take (text.length + k)) z [S.getD (text.length + k) 0#8] ty rfl rfl rfl (by rw [get_app0]; rfl) hlk.symm (by omega) (src_u8 (by rw [get_app]; rfl)) (by simp; omega) ?_
            intro z' ty'
            rw [← take_snoc (by omega), hlk]
            (refine top_in ?_; simp -implicitDefEqProofs only [go_sem, -List.reduceReplicate, ↓L_gdZ_tt, ↓L_gdZ_tf, ↓L_gdZ_ft, ↓L_gdZ_ff, ↓T_and, ↓T_imp, ↓T_all, htl]; try simp only [top_out])
            rw [w64 (x := (k : Int) + 1) (by omega) (by omega)]
            refine covF_gc hM [some 3, some 1] [none, none, none, none, none, none, none, none, none, none, none, none, some (.sl M.length 0 (text.length + (k + 1)) (text.length + (k + 1) + z'.length)), some (.p (M.length + 1) 0), some (.i .i64 (k + 1 : Nat)), none, none, none, none, none, none, none, none, none, none, none, none, none, none, none, none, none, none, none, none, none, none, none, none, none, none, none, none, none, none, none, none, none, none, none, none, none, none, none]
              [.row (bS (S.take (text.length + (k + 1)) ++ z')) ty', .row (bS tg) 61] rfl ⟨keep8 rfl, keep8 rfl, trivial⟩ (by simp [lt_row]) ?_ ?_ (fun ts' h => ⟨i - 1, by omega, k + 1, z', ty', by omega, by simpa [Nat.add_assoc] using h, rfl⟩)
            · simp only [Int.natCast_add, cast_lit, Nat.add_assoc, rnSl_n, frRn_nil, frRn_s, frRn_n, frLt_nil, frLt_s, frLt_n, rn_i, rn_u8, rn_u32, rn_u64, rn_b, rn_str, rn_sn, rn_pn, rn_agg, rn_tup, rnL_nil, rnL_cons, rn_bS, rn_nil, rn_sl_at, rn_sl_at0, rn_p_at, rn_p_at0, rnSl_s, rnP_s, lt_i, lt_u8, lt_u32, lt_u64, lt_b, lt_sl, lt_p, lt_agg, lt_tup, ltL_nil', ltL_cons, bS_lt, List.getElem?_cons_succ, List.getElem?_cons_zero, Option.join_some, Nat.add_zero, Nat.zero_add, implies_true, and_self, and_true, true_and, Bool.and_true, Bool.true_and, Bool.and_self, List.length_cons, List.length_nil, List.length_append, decide_eq_true_eq, Bool.and_eq_true]
            · simp only [Int.natCast_add, cast_lit, Nat.add_assoc, rnSl_n, frRn_nil, frRn_s, frRn_n, frLt_nil, frLt_s, frLt_n, rn_i, rn_u8, rn_u32, rn_u64, rn_b, rn_str, rn_sn, rn_pn, rn_agg, rn_tup, rnL_nil, rnL_cons, rn_bS, rn_nil, rn_sl_at, rn_sl_at0, rn_p_at, rn_p_at0, rnSl_s, rnP_s, lt_i, lt_u8, lt_u32, lt_u64, lt_b, lt_sl, lt_p, lt_agg, lt_tup, ltL_nil', ltL_cons, bS_lt, List.getElem?_cons_succ, List.getElem?_cons_zero, Option.join_some, Nat.add_zero, Nat.zero_add, implies_true, and_self, and_true, true_and, Bool.and_true, Bool.true_and, Bool.and_self, List.length_cons, List.length_nil, List.length_append, decide_eq_true_eq, Bool.and_eq_true]; omega
          · obtain rfl : k = 16 := by omega
            have hp : (((16 : Nat) : Int) < 16) = False := by simp
            obtain ⟨f, rfl⟩ := frC_open _ _ 0 hf
            clear hf
            (refine top_in ?_; simp -implicitDefEqProofs only [go_sem, -List.reduceReplicate, ↓L_gdZ_tt, ↓L_gdZ_tf, ↓L_gdZ_ft, ↓L_gdZ_ff, ↓T_and, ↓T_imp, ↓T_all, hp, htl]; try simp only [top_out])
            rw [List.take_of_length_le (by omega)]
            refine dropC_gc (L := [.row (bS (S ++ z)) ty, .row (bS tg) 61]) hM [some 0] (.tup [.sl M.length 0 (text.length + 16) (text.length + 16 + z.length), .i .i64 0]) [.row (bS (S ++ z)) ty] rfl ⟨keep8 rfl, trivial⟩ (by simp [lt_row]) (by simp [SV.lt, ltL]) (fun ρ => ?_) (hK z ty)
            simp only [rn_tup, rnL_cons, rnL_nil, rn_sl_at0, rn_i, List.getElem?_cons_zero, Option.join_some, rnSl_s, Nat.add_assoc, Nat.add_zero]
    · have b2 : ((nonce.length : Int) != 12) = true := bneN n12
      have he : sealE key nonce ad text = 50 := by unfold sealE; rw [if_neg (by omega), if_pos n12]
      have hK := h0 (by rw [he]; decide)
      rw [he] at hK
      refine fn_rule tabOK Tryz.func13 rfl Tryz.call13 (by kernel_rfl) (fun hM => ?_)
      (refine top_in ?_; simp -implicitDefEqProofs only [Tryz.ntmps13, Tryz.results13, go_sem, -List.reduceReplicate, ↓L_gdZ_tt, ↓L_gdZ_tf, ↓L_gdZ_ft, ↓L_gdZ_ff, ↓T_and, ↓T_imp, ↓T_all, b1, b2]; try simp only [top_out])
      exact dropC_self hM rfl hK
  · have b1 : ((key.length : Int) != 32) = true := bneN k32
    have he : sealE key nonce ad text = 40 := by unfold sealE; rw [if_pos k32]
    have hK := h0 (by rw [he]; decide)
    rw [he] at hK
    refine fn_rule tabOK Tryz.func13 rfl Tryz.call13 (by kernel_rfl) (fun hM => ?_)
    (refine top_in ?_; simp -implicitDefEqProofs only [Tryz.ntmps13, Tryz.results13, go_sem, -List.reduceReplicate, ↓L_gdZ_tt, ↓L_gdZ_tf, ↓L_gdZ_ft, ↓L_gdZ_ff, ↓T_and, ↓T_imp, ↓T_all, b1]; try simp only [top_out])
    exact dropC_self hM rfl hK
theorem neq_self (l : List (BitVec 8)) : (l != l) = false := by simp
def openP (key nonce ad s : List (BitVec 8)) : Prop := key.length = 32 ∧ nonce.length = 12 ∧ ad.length ≤ 65536 ∧ 16 ≤ s.length ∧ s.length ≤ 65552
def openT (key nonce ad s : List (BitVec 8)) : List (BitVec 8) := tagL (encE key) nonce ad (s.take (s.length - 16))
def openL (key nonce s : List (BitVec 8)) : List (BitVec 8) := cryL (encE key) nonce (s.take (s.length - 16))
theorem openL_len (key nonce s : List (BitVec 8)) : (openL key nonce s).length = s.length - 16 := by
  unfold openL; rw [cryL_len, List.length_take]; omega
def openB (key nonce ad s : List (BitVec 8)) : Bool := decide (key.length = 32) && (decide (nonce.length = 12) && (decide (ad.length ≤ 65536) && (decide (16 ≤ s.length) && (decide (s.length ≤ 65552) && s.drop (s.length - 16) == openT key nonce ad s))))
theorem openB_t {key nonce ad s : List (BitVec 8)} (h : openB key nonce ad s = true) : openP key nonce ad s ∧ s.drop (s.length - 16) = openT key nonce ad s := by
  simpa [openB, openP, and_assoc] using h
theorem openB_ok {key nonce ad s : List (BitVec 8)} (h : openP key nonce ad s) (h2 : s.drop (s.length - 16) = openT key nonce ad s) : openB key nonce ad s = true := by
  obtain ⟨a, b, c, d, e⟩ := h
  simp [openB, a, b, c, d, e, h2]
theorem openB_n {key nonce ad s : List (BitVec 8)} (h : ¬ openP key nonce ad s) : openB key nonce ad s = false := by
  cases hb : openB key nonce ad s with
  | false => rfl
  | true => exact absurd (openB_t hb).1 h
theorem openB_d {key nonce ad s : List (BitVec 8)} (h : s.drop (s.length - 16) ≠ openT key nonce ad s) : openB key nonce ad s = false := by
  cases hb : openB key nonce ad s with
  | false => rfl
  | true => exact absurd (openB_t hb).2 h
set_option maxHeartbeats 2000000 in
theorem open_ok (nk ok lk ck nn no ln nc na oa la ca nt ot lt ct : Nat) (key nonce ad s : List (BitVec 8)) (M : List Blk) (K : SV → List Blk → Prop)
    (hk : BAt M nk ok key) (hlk : lk = key.length) (hck : lk ≤ ck) (hmk : lk ≤ 140737488355000) (hn : BAt M nn no nonce) (hln : ln = nonce.length) (ha : BAt M na oa ad) (hla : la = ad.length) (hca : la ≤ ca)
    (ht : BAt M nt ot s) (hlt : lt = s.length) (hct : lt ≤ ct) (hms : lt ≤ 140737488355000)
    (h1 : openB key nonce ad s = true → ∀ z ty, K (.tup [.sl M.length 0 (s.length - 16) (s.length - 16 + z.length), .b true]) (M ++ [.row (bS (openL key nonce s ++ z)) ty]))
    (h0 : openB key nonce ad s = false → K (.tup [.sn, .b false]) M) :
    callVC Tryz.prog 10 [.sl nk ok lk ck, .sl nn no ln nc, .sl na oa la ca, .sl nt ot lt ct] M K := by
  subst hlk hln hla hlt
  have w16 : IntKind.i64.wrap ((s.length : Int) - 16) = (s.length : Int) - 16 := w64 (by omega) (by omega)
  by_cases k32 : key.length = 32
  · have b1 : ((key.length : Int) != 32) = false := beqIN k32
    by_cases n12 : nonce.length = 12
    · have b2 : ((nonce.length : Int) != 12) = false := by rw [n12]; rfl
      by_cases hbig : ad.length ≤ 65536 ∧ 16 ≤ s.length ∧ s.length ≤ 65552
      · have hP : openP key nonce ad s := ⟨k32, n12, hbig.1, hbig.2.1, hbig.2.2⟩
        have b3 : (65536 < (ad.length : Int)) = False := by simp; omega
        have b4 : ((s.length : Int) - 16 < 0) = False := by simp; omega
        have b5 : (65536 < (s.length : Int) - 16) = False := by simp; omega
        have e16 : (s.length : Int) - 16 = ((s.length - 16 : Nat) : Int) := by omega
        refine fn_rule tabOK Tryz.func10 rfl Tryz.call10 (by kernel_rfl) (fun hM => ?_)
        (refine top_in ?_; simp -implicitDefEqProofs only [Tryz.ntmps10, Tryz.results10, go_sem, -List.reduceReplicate, ↓L_gdZ_tt, ↓L_gdZ_tf, ↓L_gdZ_ft, ↓L_gdZ_ff, ↓T_and, ↓T_imp, ↓T_all, b1, b2, b3, b4, b5, w16]; try simp only [top_out])
        refine new_ok nk ok ck key _ _ hk (by omega) hck (fun _ => ?_) (fun h => absurd k32 h)
        (refine top_in ?_; simp -implicitDefEqProofs only [go_sem, -List.reduceReplicate, ↓L_gdZ_tt, ↓L_gdZ_tf, ↓L_gdZ_ft, ↓L_gdZ_ff, ↓T_and, ↓T_imp, ↓T_all, q00, n12, e16]; try simp only [top_out])
        obtain ⟨n, hn16⟩ : ∃ n, n + 16 = s.length := ⟨s.length - 16, by omega⟩
        have hsn : s.length - 16 = n := by omega
        have hdl : (s.drop n).length = 16 := by rw [List.length_drop]; omega
        have htk : (s.take n).length = n := by rw [List.length_take]; omega
        have c0 : (ct = n) = False := by simp; omega
        have c1 : s.length - n = 16 := by omega
        have hTl : (openT key nonce ad s).length = 16 := tagL_len _ _ _ _
        have hbd := ht.sub (a := n) (k := 16) (by omega)
        rw [List.take_of_length_le (by omega)] at hbd
        have hbt := ht.sub (a := 0) (k := n) (by omega)
        rw [List.drop_zero, Nat.add_zero] at hbt
        rw [hsn]
        refine draw_rule tabOK (by kernel_rfl : _) (.p 0 (.p 1 (.p 2 (.p 3 (.e 4 [] .nil .no))))) (by kernel_rfl) (by kernel_rfl) ?_
        (refine top_in ?_; simp -implicitDefEqProofs only [go_sem, -List.reduceReplicate, ↓L_gdZ_tt, ↓L_gdZ_tf, ↓L_gdZ_ft, ↓L_gdZ_ff, ↓T_and, ↓T_imp, ↓T_all, n12, c0, c1]; try simp only [top_out])
        repeat (with_reducible refine And.intro (by omega) ?_)
        have hs := (hbd.app (L := [.row (bS (ciph key)) 74, .row (bS (List.replicate 16 0#8)) 61])).src (cap := ct - n)
        rw [hdl] at hs
        refine copy8 (M.length + 1) 0 (List.replicate 16 0#8) (s.drop n) 61 rfl (by rw [get_app]; rfl) (by simp) hs ?_
        rw [pad16_copy, show pad16 (s.drop n) = s.drop n from (gl_self hdl 0#8).symm]
        (refine top_in ?_; simp -implicitDefEqProofs only [go_sem, -List.reduceReplicate, ↓L_gdZ_tt, ↓L_gdZ_tf, ↓L_gdZ_ft, ↓L_gdZ_ff, ↓T_and, ↓T_imp, ↓T_all, n12, c0, c1]; try simp only [top_out])
        refine draw_rule tabOK (by kernel_rfl : _) (.p 0 (.p 1 (.p 2 (.p 3 (.p 4 (.p 5 (.p 6 (.e 7 [0] (.p 8 .nil) .no)))))))) (by kernel_rfl) (by kernel_rfl) ?_
        (refine top_in ?_; simp -implicitDefEqProofs only [go_sem, -List.reduceReplicate, ↓L_gdZ_tt, ↓L_gdZ_tf, ↓L_gdZ_ft, ↓L_gdZ_ff, ↓T_and, ↓T_imp, ↓T_all, n12, c0, c1, hdl]; try simp only [top_out])
        repeat (with_reducible refine And.intro (by omega) ?_)
        refine tag_ok M.length nn no nc na oa ad.length ca nt ot n ct (ciph key) nonce ad (s.take n) 74 _ _ (by rw [get_app0]; rfl) (ciph_len k32) hn.app n12 ha.app rfl hca (by omega) hbt.app htk.symm (by omega) (by omega) ?_
        have hT : tagL (fun x => aesN (ciph key) x 14) nonce ad (s.take n) = openT key nonce ad s := by unfold openT; rw [hsn]; rfl
        rw [hT]
        (refine top_in ?_; simp -implicitDefEqProofs only [go_sem, -List.reduceReplicate, ↓L_gdZ_tt, ↓L_gdZ_tf, ↓L_gdZ_ft, ↓L_gdZ_ff, ↓T_and, ↓T_imp, ↓T_all, n12, c0, c1, hdl, hTl]; try simp only [top_out])
        refine ⟨fun hd => dropC_append hM rfl (h0 (openB_d (by rw [hsn]; simpa using hd))), fun hd => ?_⟩
        have hK := h1 (openB_ok hP (by rw [hsn]; simpa using hd))
        have hL : cryL (encE key) nonce (s.take n) = openL key nonce s := by unfold openL; rw [hsn]
        rw [hsn] at hK
        repeat (with_reducible refine And.intro (by omega) ?_)
        refine crypt_ok M.length nn no nc nt ot n ct (ciph key) nonce (s.take n) 74 _ _ (by rw [get_app0]; rfl) (ciph_len k32) hn.app n12 hbt.app htk.symm (by omega) (by omega) ?_
        intro z ty
        rw [show (fun x => aesN (ciph key) x 14) = encE key from rfl, hL, htk]
        (refine top_in ?_; simp -implicitDefEqProofs only [go_sem, -List.reduceReplicate, ↓L_gdZ_tt, ↓L_gdZ_tf, ↓L_gdZ_ft, ↓L_gdZ_ff, ↓T_and, ↓T_imp, ↓T_all]; try simp only [top_out])
        refine dropC_gc (L := [.row (bS (ciph key)) 74, .row (bS (s.drop n)) 61, .row (bS (openL key nonce s ++ z)) ty]) hM [some 2] (.tup [.sl M.length 0 n (n + z.length), .b true]) [.row (bS (openL key nonce s ++ z)) ty] rfl ⟨keep8 rfl, trivial⟩ (by simp [lt_row]) (by simp [SV.lt, ltL]) (fun ρ => ?_) (hK z ty)
        simp only [rn_tup, rnL_cons, rnL_nil, rn_sl_at0, rn_b, List.getElem?_cons_zero, Option.join_some, rnSl_s]
      · have hK := h0 (openB_n fun h => hbig ⟨h.2.2.1, h.2.2.2.1, h.2.2.2.2⟩)
        refine fn_rule tabOK Tryz.func10 rfl Tryz.call10 (by kernel_rfl) (fun hM => ?_)
        (refine top_in ?_; simp -implicitDefEqProofs only [Tryz.ntmps10, Tryz.results10, go_sem, -List.reduceReplicate, ↓L_gdZ_tt, ↓L_gdZ_tf, ↓L_gdZ_ft, ↓L_gdZ_ff, ↓T_and, ↓T_imp, ↓T_all, b1, b2, w16]; try simp only [top_out])
        repeat' (with_reducible first | refine And.intro ?_ ?_ | intro)
        all_goals first
          | exact dropC_self hM rfl hK
          | (exfalso; omega)
    · have b2 : ((nonce.length : Int) != 12) = true := bneN n12
      have hK := h0 (openB_n fun h => n12 h.2.1)
      refine fn_rule tabOK Tryz.func10 rfl Tryz.call10 (by kernel_rfl) (fun hM => ?_)
      (refine top_in ?_; simp -implicitDefEqProofs only [Tryz.ntmps10, Tryz.results10, go_sem, -List.reduceReplicate, ↓L_gdZ_tt, ↓L_gdZ_tf, ↓L_gdZ_ft, ↓L_gdZ_ff, ↓T_and, ↓T_imp, ↓T_all, b1, b2, w16]; try simp only [top_out])
      repeat' (with_reducible first | refine And.intro ?_ ?_ | intro)
      all_goals exact dropC_self hM rfl hK
  · have b1 : ((key.length : Int) != 32) = true := bneN k32
    have hK := h0 (openB_n fun h => k32 h.1)
    refine fn_rule tabOK Tryz.func10 rfl Tryz.call10 (by kernel_rfl) (fun hM => ?_)
    (refine top_in ?_; simp -implicitDefEqProofs only [Tryz.ntmps10, Tryz.results10, go_sem, -List.reduceReplicate, ↓L_gdZ_tt, ↓L_gdZ_tf, ↓L_gdZ_ft, ↓L_gdZ_ff, ↓T_and, ↓T_imp, ↓T_all, b1, w16]; try simp only [top_out])
    repeat' (with_reducible first | refine And.intro ?_ ?_ | intro)
    all_goals exact dropC_self hM rfl hK
def sealU (key nonce ad text : List (BitVec 8)) : List (BitVec 8) := if sealE key nonce ad text = 0 then sealL key nonce ad text else []
def openU (key nonce ad s : List (BitVec 8)) : List (BitVec 8) := if openB key nonce ad s = true then openL key nonce s else []
theorem sealU_len (key nonce ad text : List (BitVec 8)) : (sealU key nonce ad text).length ≤ 65552 := by
  unfold sealU
  split
  · rename_i h
    have := sealE_0 h
    rw [sealL_len]; omega
  · simp
theorem openU_len (key nonce ad s : List (BitVec 8)) : (openU key nonce ad s).length ≤ s.length := by
  unfold openU
  split
  · rw [openL_len]; omega
  · simp
theorem seal_u (nk ok lk ck nn no ln nc na oa la ca nt ot lt ct : Nat) (key nonce ad text : List (BitVec 8)) (M : List Blk) (K : SV → List Blk → Prop)
    (hk : BAt M nk ok key) (hlk : lk = key.length) (hck : lk ≤ ck) (hmk : lk ≤ 140737488355000) (hn : BAt M nn no nonce) (hln : ln = nonce.length) (ha : BAt M na oa ad) (hla : la = ad.length) (hca : la ≤ ca)
    (ht : BAt M nt ot text) (hlt : lt = text.length) (hct : lt ≤ ct)
    (hK : ∀ z ty, K (.tup [.sl M.length 0 (sealU key nonce ad text).length ((sealU key nonce ad text).length + z.length), .i .i64 (sealE key nonce ad text)]) (M ++ [.row (bS (sealU key nonce ad text ++ z)) ty])) :
    callVC Tryz.prog 6 [.sl nk ok lk ck, .sl nn no ln nc, .sl na oa la ca, .sl nt ot lt ct] M K := by
  refine callVC_drop (callVC_names (fun hM => ?_) Tryz.call6)
  refine seal_ok nk ok lk ck nn no ln nc na oa la ca nt ot lt ct key nonce ad text M _ hk hlk hck hmk hn hln ha hla hca ht hlt hct (fun h z ty => ?_) (fun h => ?_)
  · have := hK z ty
    unfold sealU at this
    rw [if_pos h, h, sealL_len] at this
    exact dropC_all (by simp) this
  · have := hK [] 0
    unfold sealU at this
    rw [if_neg h] at this
    exact drop8nt hM this
theorem refseal_u (nk ok lk ck nn no ln nc na oa la ca nt ot lt ct : Nat) (key nonce ad text : List (BitVec 8)) (M : List Blk) (K : SV → List Blk → Prop)
    (hk : BAt M nk ok key) (hlk : lk = key.length) (hck : lk ≤ ck) (hmk : lk ≤ 140737488355000) (hn : BAt M nn no nonce) (hln : ln = nonce.length) (ha : BAt M na oa ad) (hla : la = ad.length) (hca : la ≤ ca)
    (ht : BAt M nt ot text) (hlt : lt = text.length) (hct : lt ≤ ct)
    (hK : ∀ z ty, K (.tup [.sl M.length 0 (sealU key nonce ad text).length ((sealU key nonce ad text).length + z.length), .i .i64 (sealE key nonce ad text)]) (M ++ [.row (bS (sealU key nonce ad text ++ z)) ty])) :
    callVC Tryz.prog 13 [.sl nk ok lk ck, .sl nn no ln nc, .sl na oa la ca, .sl nt ot lt ct] M K := by
  refine callVC_drop (callVC_names (fun hM => ?_) Tryz.call13)
  refine refseal_ok nk ok lk ck nn no ln nc na oa la ca nt ot lt ct key nonce ad text M _ hk hlk hck hmk hn hln ha hla hca ht hlt hct (fun h z ty => ?_) (fun h => ?_)
  · have := hK z ty
    unfold sealU at this
    rw [if_pos h, h, sealL_len] at this
    exact dropC_all (by simp) this
  · have := hK [] 0
    unfold sealU at this
    rw [if_neg h] at this
    exact drop8nt hM this
theorem open_u (nk ok lk ck nn no ln nc na oa la ca nt ot lt ct : Nat) (key nonce ad s : List (BitVec 8)) (M : List Blk) (K : SV → List Blk → Prop)
    (hk : BAt M nk ok key) (hlk : lk = key.length) (hck : lk ≤ ck) (hmk : lk ≤ 140737488355000) (hn : BAt M nn no nonce) (hln : ln = nonce.length) (ha : BAt M na oa ad) (hla : la = ad.length) (hca : la ≤ ca)
    (ht : BAt M nt ot s) (hlt : lt = s.length) (hct : lt ≤ ct) (hms : lt ≤ 140737488355000)
    (hK : ∀ z ty, K (.tup [.sl M.length 0 (openU key nonce ad s).length ((openU key nonce ad s).length + z.length), .b (openB key nonce ad s)]) (M ++ [.row (bS (openU key nonce ad s ++ z)) ty])) :
    callVC Tryz.prog 10 [.sl nk ok lk ck, .sl nn no ln nc, .sl na oa la ca, .sl nt ot lt ct] M K := by
  refine callVC_drop (callVC_names (fun hM => ?_) Tryz.call10)
  refine open_ok nk ok lk ck nn no ln nc na oa la ca nt ot lt ct key nonce ad s M _ hk hlk hck hmk hn hln ha hla hca ht hlt hct hms (fun h z ty => ?_) (fun h => ?_)
  · have := hK z ty
    unfold openU at this
    rw [if_pos h, h, openL_len] at this
    exact dropC_all (by simp) this
  · have := hK [] 0
    unfold openU at this
    rw [if_neg (by rw [h]; decide), h] at this
    exact drop8nb hM this
theorem cry_twice (E : List (BitVec 8) → List (BitVec 8)) (nonce text : List (BitVec 8)) : cryL E nonce (cryL E nonce text) = text := by
  have h : (cryL E nonce text).length = text.length := cryL_len _ _ _
  refine getD_ext' (n := text.length) (by rw [cryL_len, h]) rfl fun j hj => ?_
  unfold cryL
  rw [gl_getD (by rw [gl_len]; exact hj), gl_getD hj, BitVec.xor_assoc, BitVec.xor_self, BitVec.xor_zero]
theorem seal_take (key nonce ad text : List (BitVec 8)) : (sealL key nonce ad text).take ((sealL key nonce ad text).length - 16) = cryL (encE key) nonce text := by
  rw [sealL_len, Nat.add_sub_cancel, sealL, List.take_append_of_le_length (by rw [cryL_len]; exact Nat.le_refl _), List.take_of_length_le (by rw [cryL_len]; exact Nat.le_refl _)]
theorem seal_drop (key nonce ad text : List (BitVec 8)) : (sealL key nonce ad text).drop ((sealL key nonce ad text).length - 16) = tagL (encE key) nonce ad (cryL (encE key) nonce text) := by
  rw [sealL_len, Nat.add_sub_cancel, sealL, List.drop_append_of_le_length (by rw [cryL_len]; exact Nat.le_refl _), List.drop_eq_nil_of_le (by rw [cryL_len]; exact Nat.le_refl _), List.nil_append]
theorem open_seal {key nonce ad text : List (BitVec 8)} (h : sealE key nonce ad text = 0) : openB key nonce ad (sealL key nonce ad text) = true ∧ openL key nonce (sealL key nonce ad text) = text := by
  obtain ⟨h1, h2, h3, h4⟩ := sealE_0 h
  refine ⟨openB_ok ⟨h1, h2, h3, by rw [sealL_len]; omega, by rw [sealL_len]; omega⟩ ?_, ?_⟩
  · unfold openT; rw [seal_take, seal_drop]
  · unfold openL; rw [seal_take, cry_twice]
theorem seal_open {key nonce ad s : List (BitVec 8)} (h : openB key nonce ad s = true) : sealE key nonce ad (openL key nonce s) = 0 ∧ sealL key nonce ad (openL key nonce s) = s := by
  obtain ⟨⟨h1, h2, h3, h4, h5⟩, h6⟩ := openB_t h
  refine ⟨sealE_ok h1 h2 h3 (by rw [openL_len]; omega), ?_⟩
  unfold sealL openL
  rw [cry_twice]
  unfold openT at h6
  rw [← h6, List.take_append_drop]
end Go.Proofs.YtbiolfeincepoaaGreatDoor.Eng
