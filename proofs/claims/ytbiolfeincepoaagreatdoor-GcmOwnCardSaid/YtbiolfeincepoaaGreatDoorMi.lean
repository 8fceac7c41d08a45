/- Joined texts: H1, H2. -/
import Derived.Test.YtbiolfeincepoaaGreatDoorMg
namespace Go.Proofs.YtbiolfeincepoaaGreatDoor.Eng
set_option linter.unusedSimpArgs false
set_option linter.unusedVariables false
open Go Go.RowKit
set_option maxHeartbeats 2000000 in
theorem tag_g (e : SV) (m nn no nc ns os ls cs : Nat) (C nonce ad s : List (BitVec 8)) (t4 : TypeId) (M : List Blk) (K : SV → List Blk → Prop) (hC : M[m]? = some (.row (bS C) t4)) (hCl : C.length = 496) (hn : BAt M nn no nonce) (hl : nonce.length = 12)
    (hle : ∀ {M' : List Blk} {e' a' b' : Nat} {K : SV → Prop}, lenB (.slice e' a' b') M' e K = K (.i .i64 ad.length)) (heo : e.one = true) (het : e.lt M.length = true) (hma : ad.length ≤ 140737488355000)
    (hfold : ∀ (y h : List (BitVec 8)) (L : List Blk) (K : SV → List Blk → Prop), y.length = 16 → h.length = 16 → K (.agg (bS (foldL h y ad))) (M ++ L) → callVC Tryz.prog 48 [.agg (bS y), .agg (bS h), e] (M ++ L) K) (hs : BAt M ns os s) (hls : ls = s.length) (hcs : ls ≤ cs) (hms : ls ≤ 140737488355000)
    (hK : K (.agg (bS (tagL (fun x => aesN C x 14) nonce ad s))) M) :
    callVC Tryz.prog 18 [.p m 0, .sl nn no 12 nc, e, .sl ns os ls cs] M K := by
  subst hls
  have hm : m < M.length := (List.getElem?_eq_some_iff.1 hC).1
  have hC' : ∀ L : List Blk, (M ++ L)[m]? = some (.row (bS C) t4) := fun L => by rw [get_lt hm]; exact hC
  have hel : ∀ x, (aesN C x 14).length = 16 := fun x => aesN_len _ _ _
  have hz := zero16_len
  refine fn_rule tabOK Tryz.func18 rfl Tryz.call18 (by kernel_rfl) (fun hM => ?_)
  (refine top_in ?_; simp -implicitDefEqProofs only [Tryz.ntmps18, Tryz.results18, go_sem, -List.reduceReplicate, ↓L_gdZ_tt, ↓L_gdZ_tf, ↓L_gdZ_ft, ↓L_gdZ_ff, ↓T_and, ↓T_imp, ↓T_all, heo, hle]; try simp only [top_out])
  rw [← show zero16 = List.replicate 16 0#8 from rfl]
  have hfa : (foldL (aesN C zero16 14) zero16 ad).length = 16 := foldL_len hz
  have hfs : (foldL (aesN C zero16 14) (foldL (aesN C zero16 14) zero16 ad) s).length = 16 := foldL_len hfa
  have hll := lenL_len ad.length s.length
  have hx1 := xorL_len (foldL (aesN C zero16 14) (foldL (aesN C zero16 14) zero16 ad) s) (lenL ad.length s.length)
  have hx2 := mulL_len' (xorL (foldL (aesN C zero16 14) (foldL (aesN C zero16 14) zero16 ad) s) (lenL ad.length s.length)) (aesN C zero16 14)
  have hcl := ctrL_len nonce 1#32
  have hxt := tagL_len (fun x => aesN C x 14) nonce ad s
  refine block_ok m C t4 zero16 _ _ (hC' _) hCl hz ?_
  (refine top_in ?_; simp -implicitDefEqProofs only [go_sem, -List.reduceReplicate, ↓L_gdZ_tt, ↓L_gdZ_tf, ↓L_gdZ_ft, ↓L_gdZ_ff, ↓T_and, ↓T_imp, ↓T_all, heo, hle, hz, hel, hfa, hfs, hx1, hx2, hll, hcl, get_lt hm, hC]; try simp only [top_out])
  rw [← show zero16 = List.replicate 16 0#8 from rfl]
  refine hfold zero16 _ _ _ hz (hel _) ?_
  (refine top_in ?_; simp -implicitDefEqProofs only [go_sem, -List.reduceReplicate, ↓L_gdZ_tt, ↓L_gdZ_tf, ↓L_gdZ_ft, ↓L_gdZ_ff, ↓T_and, ↓T_imp, ↓T_all, heo, hle, hz, hel, hfa, hfs, hx1, hx2, hll, hcl, get_lt hm, hC]; try simp only [top_out])
  refine fold_ok _ _ s ns os _ cs _ _ hfa (hel _) hs.app rfl hcs hms ?_
  (refine top_in ?_; simp -implicitDefEqProofs only [go_sem, -List.reduceReplicate, ↓L_gdZ_tt, ↓L_gdZ_tf, ↓L_gdZ_ft, ↓L_gdZ_ff, ↓T_and, ↓T_imp, ↓T_all, heo, hle, hz, hel, hfa, hfs, hx1, hx2, hll, hcl, get_lt hm, hC]; try simp only [top_out])
  refine draw_rule tabOK (by kernel_rfl : _) (.p 0 (.p 1 (.p 2 (.p 3 (.p 4 (.p 7 (.e 5 [0, 7] (.e 6 [7] (.e 8 [] (.e 9 [] .nil .no) .no) .no) .no))))))) (by kernel_rfl) (by kernel_rfl) ?_
  (refine top_in ?_; simp -implicitDefEqProofs only [go_sem, -List.reduceReplicate, ↓L_gdZ_tt, ↓L_gdZ_tf, ↓L_gdZ_ft, ↓L_gdZ_ff, ↓T_and, ↓T_imp, ↓T_all, heo, hle, hz, hel, hfa, hfs, hx1, hx2, hll, hcl, get_lt hm, hC]; try simp only [top_out])
  refine lengths_ok _ _ _ _ ?_
  (refine top_in ?_; simp -implicitDefEqProofs only [go_sem, -List.reduceReplicate, ↓L_gdZ_tt, ↓L_gdZ_tf, ↓L_gdZ_ft, ↓L_gdZ_ff, ↓T_and, ↓T_imp, ↓T_all, heo, hle, hz, hel, hfa, hfs, hx1, hx2, hll, hcl, get_lt hm, hC]; try simp only [top_out])
  refine xor_ok _ _ hfs hll _ _ ?_
  (refine top_in ?_; simp -implicitDefEqProofs only [go_sem, -List.reduceReplicate, ↓L_gdZ_tt, ↓L_gdZ_tf, ↓L_gdZ_ft, ↓L_gdZ_ff, ↓T_and, ↓T_imp, ↓T_all, heo, hle, hz, hel, hfa, hfs, hx1, hx2, hll, hcl, get_lt hm, hC]; try simp only [top_out])
  refine mul128_ok _ _ hx1 (hel _) _ _ ?_
  (refine top_in ?_; simp -implicitDefEqProofs only [go_sem, -List.reduceReplicate, ↓L_gdZ_tt, ↓L_gdZ_tf, ↓L_gdZ_ft, ↓L_gdZ_ff, ↓T_and, ↓T_imp, ↓T_all, heo, hle, hz, hel, hfa, hfs, hx1, hx2, hll, hcl, get_lt hm, hC]; try simp only [top_out])
  repeat (with_reducible refine And.intro (by omega) ?_)
  refine draw_rule tabOK (by kernel_rfl : _) (.p 0 (.p 1 (.p 2 (.e 3 [0] (.e 4 [0] (.e 5 [] (.e 6 [] .nil .no) .no) .no) .no)))) (by kernel_rfl) (by kernel_rfl) ?_
  (refine top_in ?_; simp -implicitDefEqProofs only [go_sem, -List.reduceReplicate, ↓L_gdZ_tt, ↓L_gdZ_tf, ↓L_gdZ_ft, ↓L_gdZ_ff, ↓T_and, ↓T_imp, ↓T_all, heo, hle, hz, hel, hfa, hfs, hx1, hx2, hll, hcl, get_lt hm, hC]; try simp only [top_out])
  refine counter_ok nn no nc nonce 1#32 _ _ hn.app hl ?_
  (refine top_in ?_; simp -implicitDefEqProofs only [go_sem, -List.reduceReplicate, ↓L_gdZ_tt, ↓L_gdZ_tf, ↓L_gdZ_ft, ↓L_gdZ_ff, ↓T_and, ↓T_imp, ↓T_all, heo, hle, hz, hel, hfa, hfs, hx1, hx2, hll, hcl, get_lt hm, hC]; try simp only [top_out])
  refine block_ok m C t4 (ctrL nonce 1#32) _ _ (hC' _) hCl hcl ?_
  (refine top_in ?_; simp -implicitDefEqProofs only [go_sem, -List.reduceReplicate, ↓L_gdZ_tt, ↓L_gdZ_tf, ↓L_gdZ_ft, ↓L_gdZ_ff, ↓T_and, ↓T_imp, ↓T_all, heo, hle, hz, hel, hfa, hfs, hx1, hx2, hll, hcl, get_lt hm, hC]; try simp only [top_out])
  refine xor_ok _ _ hx2 (hel _) _ _ ?_
  rw [show xorL (mulL (xorL (foldL (aesN C zero16 14) (foldL (aesN C zero16 14) zero16 ad) s) (lenL ad.length s.length)) (aesN C zero16 14)) (aesN C (ctrL nonce 1#32) 14) = tagL (fun x => aesN C x 14) nonce ad s from rfl]
  (refine top_in ?_; simp -implicitDefEqProofs only [go_sem, -List.reduceReplicate, ↓L_gdZ_tt, ↓L_gdZ_tf, ↓L_gdZ_ft, ↓L_gdZ_ff, ↓T_and, ↓T_imp, ↓T_all, heo, hle, hz, hel, hfa, hfs, hx1, hx2, hll, hcl, get_lt hm, hC, hxt]; try simp only [top_out])
  repeat (with_reducible refine And.intro (by omega) ?_)
  exact dropC_append hM (bS_lt _ _) hK
set_option maxHeartbeats 2000000 in
theorem reftag_g (e : SV) (m nn no nc ns os ls cs : Nat) (C nonce ad s : List (BitVec 8)) (t4 : TypeId) (M : List Blk) (K : SV → List Blk → Prop) (hC : M[m]? = some (.row (bS C) t4)) (hCl : C.length = 752) (hT : ∀ v : BitVec 8, C.getD (256 + v.toNat) 0#8 = mul8L 8 2#8 v 0#8)
    (hn : BAt M nn no nonce) (hl : nonce.length = 12) (hle : ∀ {M' : List Blk} {e' a' b' : Nat} {K : SV → Prop}, lenB (.slice e' a' b') M' e K = K (.i .i64 ad.length)) (heo : e.one = true) (het : e.lt M.length = true) (hma : ad.length ≤ 140737488355000)
    (hfold : ∀ (y h : List (BitVec 8)) (L : List Blk) (K : SV → List Blk → Prop), y.length = 16 → h.length = 16 → K (.agg (bS (foldL h y ad))) (M ++ L) → callVC Tryz.prog 93 [.agg (bS y), .agg (bS h), e] (M ++ L) K) (hs : BAt M ns os s) (hls : ls = s.length) (hms : ls ≤ 140737488355000)
    (hK : K (.agg (bS (tagL (fun x => refN4 C x 14) nonce ad s))) M) :
    callVC Tryz.prog 24 [.p m 0, .sl nn no 12 nc, e, .sl ns os ls cs] M K := by
  subst hls
  have hetk : ∀ k : Nat, e.lt (M.length + k) = true := fun k => lt_mono (Nat.le_add_right _ _) e het
  have hm : m < M.length := (List.getElem?_eq_some_iff.1 hC).1
  have hC' : ∀ L : List Blk, (M ++ L)[m]? = some (.row (bS C) t4) := fun L => by rw [get_lt hm]; exact hC
  have hel : ∀ x, (refN4 C x 14).length = 16 := fun x => refN4_len _ _ _
  have hz := zero16_len
  refine fn_rule tabOK Tryz.func24 rfl Tryz.call24 (by kernel_rfl) (fun hM => ?_)
  (refine top_in ?_; simp -implicitDefEqProofs only [Tryz.ntmps24, Tryz.results24, go_sem, -List.reduceReplicate, ↓L_gdZ_tt, ↓L_gdZ_tf, ↓L_gdZ_ft, ↓L_gdZ_ff, ↓T_and, ↓T_imp, ↓T_all, heo, hle]; try simp only [top_out])
  rw [← show zero16 = List.replicate 16 0#8 from rfl]
  have hfa : (foldL (refN4 C zero16 14) zero16 ad).length = 16 := foldL_len hz
  have hfs : (foldL (refN4 C zero16 14) (foldL (refN4 C zero16 14) zero16 ad) s).length = 16 := foldL_len hfa
  have hll := lenL_len ad.length s.length
  have hcl := ctrL_len nonce 1#32
  have hxt := tagL_len (fun x => refN4 C x 14) nonce ad s
  refine refblock_ok m C t4 zero16 _ _ (hC' _) hCl hz hT ?_
  (refine top_in ?_; simp -implicitDefEqProofs only [go_sem, -List.reduceReplicate, ↓L_gdZ_tt, ↓L_gdZ_tf, ↓L_gdZ_ft, ↓L_gdZ_ff, ↓T_and, ↓T_imp, ↓T_all, heo, hle, hz, hel, hfa, hfs, hcl, get_lt hm, hC]; try simp only [top_out])
  refine hfold zero16 _ _ _ hz (hel _) ?_
  (refine top_in ?_; simp -implicitDefEqProofs only [go_sem, -List.reduceReplicate, ↓L_gdZ_tt, ↓L_gdZ_tf, ↓L_gdZ_ft, ↓L_gdZ_ff, ↓T_and, ↓T_imp, ↓T_all, heo, hle, hz, hel, hfa, hfs, hcl, get_lt hm, hC]; try simp only [top_out])
  refine folded_ok _ _ s ns os _ cs _ _ hfa (hel _) hs.app rfl hms ?_
  (refine top_in ?_; simp -implicitDefEqProofs only [go_sem, -List.reduceReplicate, ↓L_gdZ_tt, ↓L_gdZ_tf, ↓L_gdZ_ft, ↓L_gdZ_ff, ↓T_and, ↓T_imp, ↓T_all, heo, hle, hz, hel, hfa, hfs, hcl, get_lt hm, hC]; try simp only [top_out])
  have hty : tagL (fun x => refN4 C x 14) nonce ad s = xorL (foldL (refN4 C zero16 14) (foldL (refN4 C zero16 14) (foldL (refN4 C zero16 14) zero16 ad) s) (lenL ad.length s.length)) (refN4 C (ctrL nonce 1#32) 14) := by
    rw [foldL_16 hll]; rfl
  generalize foldL (refN4 C zero16 14) (foldL (refN4 C zero16 14) zero16 ad) s = y at hfs hty ⊢
  have hh := hel zero16
  generalize refN4 C zero16 14 = h at hh hty ⊢
  refine loop_gc tabOK (by kernel_rfl) (fun i ts M' => ∃ (k : Nat) (z : List (BitVec 8)) (ty : TypeId), k + i = 8 ∧ frC (some (.p m 0) :: some (.sl nn no 12 nc) :: some (e) :: some (.sl ns os s.length cs) :: none :: none :: none :: none :: some (.p M.length 0) :: none :: some (.p (M.length + 2) 0) :: some (.p (M.length + 3) 0) :: some (.sl (M.length + 4) 0 k (k + z.length)) :: some (.i .i64 k) :: none :: none :: none :: none :: none :: none :: none :: none :: none :: none :: none :: none :: none :: none :: none :: none :: none :: none :: none :: none :: none :: none :: none :: none :: none :: none :: none :: none :: none :: none :: none :: none :: none :: none :: none :: none :: none :: none :: none :: none :: none :: none :: none :: none :: none :: none :: none :: none :: none :: none :: none :: none :: none :: none :: none :: none :: none :: none :: []) ts ∧
    M' = M ++ [.row (bS zero16) 61, .row (bS zero16) 61, .row (bS h) 61, .row (bS y) 61, .row (bS ((lenL ad.length s.length).take k ++ z)) ty]) 8 ?_ ?_
  · refine covF_gc hM [some 0, some 1, some 2, some 3, none] (some (.p m 0) :: some (.sl nn no 12 nc) :: some (e) :: some (.sl ns os s.length cs) :: none :: none :: none :: none :: some (.p M.length 0) :: none :: some (.p (M.length + 2) 0) :: some (.p (M.length + 3) 0) :: some (.sl (M.length + 4) 0 0 0) :: some (.i .i64 0) :: none :: none :: none :: none :: none :: none :: none :: none :: none :: none :: none :: none :: none :: none :: none :: none :: none :: none :: none :: none :: none :: none :: none :: none :: none :: none :: none :: none :: none :: none :: none :: none :: none :: none :: none :: none :: none :: none :: none :: none :: none :: none :: none :: none :: none :: none :: none :: none :: none :: none :: none :: none :: none :: none :: none :: none :: none :: none :: [])
      [.row (bS zero16) 61, .row (bS zero16) 61, .row (bS h) 61, .row (bS y) 61, .row (bS []) 0] rfl ⟨keep8 rfl, keep8 rfl, keep8 rfl, keep8 rfl, rfl, trivial⟩ (by simp [lt_row]) ?_ ?_
      (fun ts' h => ⟨0, [], 0, by omega, by simpa using h, rfl⟩)
    · simp only [Int.natCast_add, cast_lit, Nat.add_assoc, rnSl_n, frRn_nil, frRn_s, frRn_n, frLt_nil, frLt_s, frLt_n, rn_i, rn_u8, rn_u32, rn_u64, rn_b, rn_str, rn_sn, rn_pn, rn_agg, rn_tup, rnL_nil, rnL_cons, rn_bS, rn_nil, rn_sl_at, rn_sl_at0, rn_p_at, rn_p_at0, rnSl_s, rnP_s, lt_i, lt_u8, lt_u32, lt_u64, lt_b, lt_sl, lt_p, lt_agg, lt_tup, ltL_nil', ltL_cons, bS_lt, List.getElem?_cons_succ, List.getElem?_cons_zero, Option.join_some, Nat.add_zero, Nat.zero_add, implies_true, and_self, and_true, true_and, Bool.and_true, Bool.true_and, Bool.and_self, List.length_cons, List.length_nil, List.length_append, decide_eq_true_eq, Bool.and_eq_true, rn_lt e het, rn_sl hn.lt, rn_sl hs.lt, rn_p hm]
    · have := hn.lt
      have := hs.lt
      simp only [Int.natCast_add, cast_lit, Nat.add_assoc, rnSl_n, frRn_nil, frRn_s, frRn_n, frLt_nil, frLt_s, frLt_n, rn_i, rn_u8, rn_u32, rn_u64, rn_b, rn_str, rn_sn, rn_pn, rn_agg, rn_tup, rnL_nil, rnL_cons, rn_bS, rn_nil, rn_sl_at, rn_sl_at0, rn_p_at, rn_p_at0, rnSl_s, rnP_s, lt_i, lt_u8, lt_u32, lt_u64, lt_b, lt_sl, lt_p, lt_agg, lt_tup, ltL_nil', ltL_cons, bS_lt, List.getElem?_cons_succ, List.getElem?_cons_zero, Option.join_some, Nat.add_zero, Nat.zero_add, implies_true, and_self, and_true, true_and, Bool.and_true, Bool.true_and, Bool.and_self, List.length_cons, List.length_nil, List.length_append, decide_eq_true_eq, Bool.and_eq_true, het, hetk, true_and]; omega
  · rintro i ts _ ⟨k, z, ty, hk, hf, rfl⟩
    by_cases hk8 : k < 8
    · have hp : ((k : Int) < 8) = True := by simp; omega
      have w1 : IntKind.i64.wrap (8 * (ad.length : Int)) = ((8 * ad.length : Nat) : Int) := by rw [w64 (by omega) (by omega)]; omega
      have w2 : IntKind.i64.wrap (8 * (k : Int)) = ((8 * k : Nat) : Int) := by rw [w64 (by omega) (by omega)]; omega
      have w3 : IntKind.i64.wrap (56 - ((8 * k : Nat) : Int)) = ((56 - 8 * k : Nat) : Int) := by rw [w64 (by omega) (by omega)]; omega
      have w4 : (BitVec.ofInt 64 ((56 - 8 * k : Nat) : Int)).toNat = 56 - 8 * k := by rw [BitVec.ofInt_natCast, BitVec.toNat_ofNat]; omega
      have b1 := byte_of64 (8 * ad.length) (56 - 8 * k) (by omega)
      rw [← lenL_a (a := ad.length) (s := s.length) hk8] at b1
      have htk : ((lenL ad.length s.length).take (k)).length = k := by rw [List.length_take]; omega
      obtain ⟨f, rfl⟩ := frC_open _ _ 0 hf
      clear hf
      (refine top_in ?_; simp -implicitDefEqProofs only [go_sem, -List.reduceReplicate, ↓L_gdZ_tt, ↓L_gdZ_tf, ↓L_gdZ_ft, ↓L_gdZ_ff, ↓T_and, ↓T_imp, ↓T_all, heo, hle, hp, w1, w2, w3, w4, b1]; try simp only [top_out])
      repeat (with_reducible refine And.intro (by omega) ?_)
      refine app8 (M.length + 4) ((lenL ad.length s.length).take (k)) z [(lenL ad.length s.length).getD (k) 0#8] ty rfl rfl rfl (by rw [get_app]; rfl) htk.symm (by omega) (src_u8 (by rw [get_app]; rfl)) (by simp; omega) ?_
      intro z' ty'
      rw [← take_snoc (by omega), htk]
      (refine top_in ?_; simp -implicitDefEqProofs only [go_sem, -List.reduceReplicate, ↓L_gdZ_tt, ↓L_gdZ_tf, ↓L_gdZ_ft, ↓L_gdZ_ff, ↓T_and, ↓T_imp, ↓T_all]; try simp only [top_out])
      rw [w64 (x := (k : Int) + 1) (by omega) (by omega)]
      refine covF_gc hM [some 0, some 1, some 2, some 3, some 6] (some (.p m 0) :: some (.sl nn no 12 nc) :: some (e) :: some (.sl ns os s.length cs) :: none :: none :: none :: none :: some (.p M.length 0) :: none :: some (.p (M.length + 2) 0) :: some (.p (M.length + 3) 0) :: some (.sl (M.length + 4) 0 (k + 1) (k + 1 + z'.length)) :: some (.i .i64 ((k : Int) + 1)) :: none :: none :: none :: none :: none :: none :: none :: none :: none :: none :: none :: none :: none :: none :: none :: none :: none :: none :: none :: none :: none :: none :: none :: none :: none :: none :: none :: none :: none :: none :: none :: none :: none :: none :: none :: none :: none :: none :: none :: none :: none :: none :: none :: none :: none :: none :: none :: none :: none :: none :: none :: none :: none :: none :: none :: none :: none :: none :: [])
        [.row (bS zero16) 61, .row (bS zero16) 61, .row (bS h) 61, .row (bS y) 61, .row (bS ((lenL ad.length s.length).take (k + 1) ++ z')) ty'] rfl ⟨keep8 rfl, keep8 rfl, keep8 rfl, keep8 rfl, keep8 rfl, trivial⟩ (by simp [lt_row]) ?_ ?_
        (fun ts' h => ⟨i - 1, by omega, k + 1, z', ty', by omega, by simpa [Nat.add_assoc] using h, rfl⟩)
      · simp only [Int.natCast_add, cast_lit, Nat.add_assoc, rnSl_n, frRn_nil, frRn_s, frRn_n, frLt_nil, frLt_s, frLt_n, rn_i, rn_u8, rn_u32, rn_u64, rn_b, rn_str, rn_sn, rn_pn, rn_agg, rn_tup, rnL_nil, rnL_cons, rn_bS, rn_nil, rn_sl_at, rn_sl_at0, rn_p_at, rn_p_at0, rnSl_s, rnP_s, lt_i, lt_u8, lt_u32, lt_u64, lt_b, lt_sl, lt_p, lt_agg, lt_tup, ltL_nil', ltL_cons, bS_lt, List.getElem?_cons_succ, List.getElem?_cons_zero, Option.join_some, Nat.add_zero, Nat.zero_add, implies_true, and_self, and_true, true_and, Bool.and_true, Bool.true_and, Bool.and_self, List.length_cons, List.length_nil, List.length_append, decide_eq_true_eq, Bool.and_eq_true, rn_lt e het, rn_sl hn.lt, rn_sl hs.lt, rn_p hm]
      · have := hn.lt
        have := hs.lt
        simp only [Int.natCast_add, cast_lit, Nat.add_assoc, rnSl_n, frRn_nil, frRn_s, frRn_n, frLt_nil, frLt_s, frLt_n, rn_i, rn_u8, rn_u32, rn_u64, rn_b, rn_str, rn_sn, rn_pn, rn_agg, rn_tup, rnL_nil, rnL_cons, rn_bS, rn_nil, rn_sl_at, rn_sl_at0, rn_p_at, rn_p_at0, rnSl_s, rnP_s, lt_i, lt_u8, lt_u32, lt_u64, lt_b, lt_sl, lt_p, lt_agg, lt_tup, ltL_nil', ltL_cons, bS_lt, List.getElem?_cons_succ, List.getElem?_cons_zero, Option.join_some, Nat.add_zero, Nat.zero_add, implies_true, and_self, and_true, true_and, Bool.and_true, Bool.true_and, Bool.and_self, List.length_cons, List.length_nil, List.length_append, decide_eq_true_eq, Bool.and_eq_true, het, hetk, true_and]; omega
    · obtain rfl : k = 8 := by omega
      have hp : (((8 : Nat) : Int) < 8) = False := by simp
      obtain ⟨f, rfl⟩ := frC_open _ _ 0 hf
      clear hf
      (refine top_in ?_; simp -implicitDefEqProofs only [go_sem, -List.reduceReplicate, ↓L_gdZ_tt, ↓L_gdZ_tf, ↓L_gdZ_ft, ↓L_gdZ_ff, ↓T_and, ↓T_imp, ↓T_all, heo, hle, hp]; try simp only [top_out])
      refine loop_gc tabOK (by kernel_rfl) (fun i ts M' => ∃ (k : Nat) (z : List (BitVec 8)) (ty : TypeId), k + i = 8 ∧ frC (some (.p m 0) :: some (.sl nn no 12 nc) :: some (e) :: some (.sl ns os s.length cs) :: none :: none :: none :: none :: some (.p M.length 0) :: none :: some (.p (M.length + 2) 0) :: some (.p (M.length + 3) 0) :: some (.sl (M.length + 4) 0 (8 + k) (8 + k + z.length)) :: none :: some (.i .i64 k) :: none :: none :: none :: none :: none :: none :: none :: none :: none :: none :: none :: none :: none :: none :: none :: none :: none :: none :: none :: none :: none :: none :: none :: none :: none :: none :: none :: none :: none :: none :: none :: none :: none :: none :: none :: none :: none :: none :: none :: none :: none :: none :: none :: none :: none :: none :: none :: none :: none :: none :: none :: none :: none :: none :: none :: none :: none :: []) ts ∧
        M' = M ++ [.row (bS zero16) 61, .row (bS zero16) 61, .row (bS h) 61, .row (bS y) 61, .row (bS ((lenL ad.length s.length).take (8 + k) ++ z)) ty]) 8 ?_ ?_
      · exact covF_self ⟨0, z, ty, by omega, by simp [frC], rfl⟩
      · clear hk hp f
        rintro i ts _ ⟨k, z, ty, hk, hf, rfl⟩
        by_cases hk8 : k < 8
        · have hp : ((k : Int) < 8) = True := by simp; omega
          have w1 : IntKind.i64.wrap (8 * (s.length : Int)) = ((8 * s.length : Nat) : Int) := by rw [w64 (by omega) (by omega)]; omega
          have w2 : IntKind.i64.wrap (8 * (k : Int)) = ((8 * k : Nat) : Int) := by rw [w64 (by omega) (by omega)]; omega
          have w3 : IntKind.i64.wrap (56 - ((8 * k : Nat) : Int)) = ((56 - 8 * k : Nat) : Int) := by rw [w64 (by omega) (by omega)]; omega
          have w4 : (BitVec.ofInt 64 ((56 - 8 * k : Nat) : Int)).toNat = 56 - 8 * k := by rw [BitVec.ofInt_natCast, BitVec.toNat_ofNat]; omega
          have b1 := byte_of64 (8 * s.length) (56 - 8 * k) (by omega)
          rw [← lenL_s (a := ad.length) (s := s.length) hk8] at b1
          have htk : ((lenL ad.length s.length).take (8 + k)).length = 8 + k := by rw [List.length_take]; omega
          obtain ⟨f, rfl⟩ := frC_open _ _ 0 hf
          clear hf
          (refine top_in ?_; simp -implicitDefEqProofs only [go_sem, -List.reduceReplicate, ↓L_gdZ_tt, ↓L_gdZ_tf, ↓L_gdZ_ft, ↓L_gdZ_ff, ↓T_and, ↓T_imp, ↓T_all, heo, hle, hp, w1, w2, w3, w4, b1]; try simp only [top_out])
          repeat (with_reducible refine And.intro (by omega) ?_)
          refine app8 (M.length + 4) ((lenL ad.length s.length).take (8 + k)) z [(lenL ad.length s.length).getD (8 + k) 0#8] ty rfl rfl rfl (by rw [get_app]; rfl) htk.symm (by omega) (src_u8 (by rw [get_app]; rfl)) (by simp; omega) ?_
          intro z' ty'
          rw [← take_snoc (by omega), htk]
          (refine top_in ?_; simp -implicitDefEqProofs only [go_sem, -List.reduceReplicate, ↓L_gdZ_tt, ↓L_gdZ_tf, ↓L_gdZ_ft, ↓L_gdZ_ff, ↓T_and, ↓T_imp, ↓T_all]; try simp only [top_out])
          rw [w64 (x := (k : Int) + 1) (by omega) (by omega)]
          refine covF_gc hM [some 0, some 1, some 2, some 3, some 6] (some (.p m 0) :: some (.sl nn no 12 nc) :: some (e) :: some (.sl ns os s.length cs) :: none :: none :: none :: none :: some (.p M.length 0) :: none :: some (.p (M.length + 2) 0) :: some (.p (M.length + 3) 0) :: some (.sl (M.length + 4) 0 (8 + k + 1) (8 + k + 1 + z'.length)) :: none :: some (.i .i64 ((k : Int) + 1)) :: none :: none :: none :: none :: none :: none :: none :: none :: none :: none :: none :: none :: none :: none :: none :: none :: none :: none :: none :: none :: none :: none :: none :: none :: none :: none :: none :: none :: none :: none :: none :: none :: none :: none :: none :: none :: none :: none :: none :: none :: none :: none :: none :: none :: none :: none :: none :: none :: none :: none :: none :: none :: none :: none :: none :: none :: none :: [])
            [.row (bS zero16) 61, .row (bS zero16) 61, .row (bS h) 61, .row (bS y) 61, .row (bS ((lenL ad.length s.length).take (8 + k + 1) ++ z')) ty'] rfl ⟨keep8 rfl, keep8 rfl, keep8 rfl, keep8 rfl, keep8 rfl, trivial⟩ (by simp [lt_row]) ?_ ?_
            (fun ts' h => ⟨i - 1, by omega, k + 1, z', ty', by omega, by simpa [Nat.add_assoc] using h, rfl⟩)
          · simp only [Int.natCast_add, cast_lit, Nat.add_assoc, rnSl_n, frRn_nil, frRn_s, frRn_n, frLt_nil, frLt_s, frLt_n, rn_i, rn_u8, rn_u32, rn_u64, rn_b, rn_str, rn_sn, rn_pn, rn_agg, rn_tup, rnL_nil, rnL_cons, rn_bS, rn_nil, rn_sl_at, rn_sl_at0, rn_p_at, rn_p_at0, rnSl_s, rnP_s, lt_i, lt_u8, lt_u32, lt_u64, lt_b, lt_sl, lt_p, lt_agg, lt_tup, ltL_nil', ltL_cons, bS_lt, List.getElem?_cons_succ, List.getElem?_cons_zero, Option.join_some, Nat.add_zero, Nat.zero_add, implies_true, and_self, and_true, true_and, Bool.and_true, Bool.true_and, Bool.and_self, List.length_cons, List.length_nil, List.length_append, decide_eq_true_eq, Bool.and_eq_true, rn_lt e het, rn_sl hn.lt, rn_sl hs.lt, rn_p hm]
          · have := hn.lt
            have := hs.lt
            simp only [Int.natCast_add, cast_lit, Nat.add_assoc, rnSl_n, frRn_nil, frRn_s, frRn_n, frLt_nil, frLt_s, frLt_n, rn_i, rn_u8, rn_u32, rn_u64, rn_b, rn_str, rn_sn, rn_pn, rn_agg, rn_tup, rnL_nil, rnL_cons, rn_bS, rn_nil, rn_sl_at, rn_sl_at0, rn_p_at, rn_p_at0, rnSl_s, rnP_s, lt_i, lt_u8, lt_u32, lt_u64, lt_b, lt_sl, lt_p, lt_agg, lt_tup, ltL_nil', ltL_cons, bS_lt, List.getElem?_cons_succ, List.getElem?_cons_zero, Option.join_some, Nat.add_zero, Nat.zero_add, implies_true, and_self, and_true, true_and, Bool.and_true, Bool.true_and, Bool.and_self, List.length_cons, List.length_nil, List.length_append, decide_eq_true_eq, Bool.and_eq_true, het, hetk, true_and]; omega
        · obtain rfl : k = 8 := by omega
          have hp : (((8 : Nat) : Int) < 8) = False := by simp
          obtain ⟨f, rfl⟩ := frC_open _ _ 0 hf
          clear hf
          (refine top_in ?_; simp -implicitDefEqProofs only [go_sem, -List.reduceReplicate, ↓L_gdZ_tt, ↓L_gdZ_tf, ↓L_gdZ_ft, ↓L_gdZ_ff, ↓T_and, ↓T_imp, ↓T_all, heo, hle, hp, hh, hfs, hz]; try simp only [top_out])
          rw [List.take_of_length_le (by omega)]
          refine folded_ok y h (lenL ad.length s.length) (M.length + 4) 0 _ (16 + z.length) _ _ hfs hh (BAt.row (z := z) (ty := ty) (by rw [get_app]; rfl)) hll.symm (by omega) ?_
          have hfl : (foldL h y (lenL ad.length s.length)).length = 16 := foldL_len hfs
          (refine top_in ?_; simp -implicitDefEqProofs only [go_sem, -List.reduceReplicate, ↓L_gdZ_tt, ↓L_gdZ_tf, ↓L_gdZ_ft, ↓L_gdZ_ff, ↓T_and, ↓T_imp, ↓T_all, hp, hh, hfs, hz, hfl]; try simp only [top_out])
          refine refcounter_ok nn no nc nonce 1 _ _ hn.app hl ?_
          rw [show BitVec.ofNat 32 1 = 1#32 from rfl]
          (refine top_in ?_; simp -implicitDefEqProofs only [go_sem, -List.reduceReplicate, ↓L_gdZ_tt, ↓L_gdZ_tf, ↓L_gdZ_ft, ↓L_gdZ_ff, ↓T_and, ↓T_imp, ↓T_all, hp, hh, hfs, hz, hfl, hcl]; try simp only [top_out])
          refine refblock_ok m C t4 (ctrL nonce 1#32) _ _ (hC' _) hCl hcl hT ?_
          (refine top_in ?_; simp -implicitDefEqProofs only [go_sem, -List.reduceReplicate, ↓L_gdZ_tt, ↓L_gdZ_tf, ↓L_gdZ_ft, ↓L_gdZ_ff, ↓T_and, ↓T_imp, ↓T_all, hp, hh, hfs, hz, hfl, hcl, hel]; try simp only [top_out])
          refine refxor_ok _ _ hfl (hel _) _ _ ?_
          rw [← hty]
          (refine top_in ?_; simp -implicitDefEqProofs only [go_sem, -List.reduceReplicate, ↓L_gdZ_tt, ↓L_gdZ_tf, ↓L_gdZ_ft, ↓L_gdZ_ff, ↓T_and, ↓T_imp, ↓T_all, hp, hh, hfs, hz, hfl, hcl, hel, hxt]; try simp only [top_out])
          exact dropC_append hM (bS_lt _ _) hK
theorem fold_e (y h : List (BitVec 8)) (M : List Blk) (K : SV → List Blk → Prop) (e : SV) (hle : ∀ {M' : List Blk} {e' a' b' : Nat} {K : SV → Prop}, lenB (.slice e' a' b') M' e K = K (.i .i64 0)) (heo : e.one = true) (hy : y.length = 16) (hh : h.length = 16)
    (hK : K (.agg (bS (foldL h y []))) M) : callVC Tryz.prog 48 [.agg (bS y), .agg (bS h), e] M K := by
  refine fn_rule tabOK Tryz.func48 rfl Tryz.call48 (by kernel_rfl) (fun hM => ?_)
  (refine top_in ?_; simp -implicitDefEqProofs only [Tryz.ntmps48, Tryz.results48, go_sem, -List.reduceReplicate, ↓L_gdZ_tt, ↓L_gdZ_tf, ↓L_gdZ_ft, ↓L_gdZ_ff, ↓T_and, ↓T_imp, ↓T_all, hy, hh, heo, hle]; try simp only [top_out])
  refine loop_code tabOK (by kernel_rfl) (fun i ts M' => i = 0 ∧ frC [none, none, some (e), some (.p M.length 0), some (.p (M.length + 1) 0), none, some (.p (M.length + 2) 0), none, none, none, none, none, none, none, none, none, none, none, none, none, none, none, none, none] ts ∧ M' = M ++ [.row (bS y) 61, .row (bS h) 61, .row (bS (List.replicate 16 0#8)) 61]) 0 ⟨rfl, by simp [frC], rfl⟩ ?_
  rintro i ts _ ⟨rfl, hf, rfl⟩
  obtain ⟨f, rfl⟩ := frC_open _ _ 0 hf
  clear hf
  (refine top_in ?_; simp -implicitDefEqProofs only [go_sem, -List.reduceReplicate, ↓L_gdZ_tt, ↓L_gdZ_tf, ↓L_gdZ_ft, ↓L_gdZ_ff, ↓T_and, ↓T_imp, ↓T_all, heo, hle, hy, hh]; try simp only [top_out])
  exact dropC_append hM (bS_lt _ _) hK
theorem folded_e (y h : List (BitVec 8)) (M : List Blk) (K : SV → List Blk → Prop) (e : SV) (hle : ∀ {M' : List Blk} {e' a' b' : Nat} {K : SV → Prop}, lenB (.slice e' a' b') M' e K = K (.i .i64 0)) (heo : e.one = true) (hy : y.length = 16) (hh : h.length = 16)
    (hK : K (.agg (bS (foldL h y []))) M) : callVC Tryz.prog 93 [.agg (bS y), .agg (bS h), e] M K := by
  refine fn_rule tabOK Tryz.func93 rfl Tryz.call93 (by kernel_rfl) (fun hM => ?_)
  (refine top_in ?_; simp -implicitDefEqProofs only [Tryz.ntmps93, Tryz.results93, go_sem, -List.reduceReplicate, ↓L_gdZ_tt, ↓L_gdZ_tf, ↓L_gdZ_ft, ↓L_gdZ_ff, ↓T_and, ↓T_imp, ↓T_all, hy, hh, heo, hle]; try simp only [top_out])
  refine loop_code tabOK (by kernel_rfl) (fun i ts M' => i = 0 ∧ frC [none, none, some (e), some (.p M.length 0), some (.p (M.length + 1) 0), none, some (.p (M.length + 2) 0), some (.i .i64 0), none, none, none, none, none, none, none, none, none, none, none, none, none, none, none, none, none, none, none, none, none, none, none, none, none, none, none, none, none, none, none, none, none, none, none] ts ∧ M' = M ++ [.row (bS y) 61, .row (bS h) 61, .row (bS (List.replicate 16 0#8)) 61]) 0 ⟨rfl, by simp [frC], rfl⟩ ?_
  rintro i ts _ ⟨rfl, hf, rfl⟩
  obtain ⟨f, rfl⟩ := frC_open _ _ 0 hf
  clear hf
  (refine top_in ?_; simp -implicitDefEqProofs only [go_sem, -List.reduceReplicate, ↓L_gdZ_tt, ↓L_gdZ_tf, ↓L_gdZ_ft, ↓L_gdZ_ff, ↓T_and, ↓T_imp, ↓T_all, heo, hle, hy, hh]; try simp only [top_out])
  exact dropC_append hM (bS_lt _ _) hK
theorem crypt_e (m nn no nc : Nat) (C nonce : List (BitVec 8)) (t4 : TypeId) (M : List Blk) (K : SV → List Blk → Prop) (e : SV) (hle : ∀ {M' : List Blk} {e' a' b' : Nat} {K : SV → Prop}, lenB (.slice e' a' b') M' e K = K (.i .i64 0)) (heo : e.one = true) (hC : M[m]? = some (.row (bS C) t4))
    (hK : ∀ z ty, K (.sl M.length 0 0 (0 + z.length)) (M ++ [.row (bS (cryL (fun x => aesN C x 14) nonce [] ++ z)) ty])) :
    callVC Tryz.prog 17 [.p m 0, .sl nn no 12 nc, e] M K := by
  have w0 : IntKind.i64.wrap ((0 : Int) + 16) = 16 := by decide
  have w1 : IntKind.i64.wrap 16 = 16 := by decide
  refine fn_rule tabOK Tryz.func17 rfl Tryz.call17 (by kernel_rfl) (fun hM => ?_)
  (refine top_in ?_; simp -implicitDefEqProofs only [Tryz.ntmps17, Tryz.results17, go_sem, -List.reduceReplicate, ↓L_gdZ_tt, ↓L_gdZ_tf, ↓L_gdZ_ft, ↓L_gdZ_ff, ↓T_and, ↓T_imp, ↓T_all, w0, w1, heo, hle, Int.zero_add]; try simp only [top_out])
  refine ⟨by decide, by decide, ?_⟩
  refine stream_ok m nn no nc _ _ ?_
  (refine top_in ?_; simp -implicitDefEqProofs only [go_sem, -List.reduceReplicate, ↓L_gdZ_tt, ↓L_gdZ_tf, ↓L_gdZ_ft, ↓L_gdZ_ff, ↓T_and, ↓T_imp, ↓T_all, heo, hle]; try simp only [top_out])
  refine loop_code tabOK (by kernel_rfl) (fun i ts M' => i = 0 ∧ frC [none, none, some (e), none, none, none, none, some (.sl M.length 0 0 16), some (.fn (.func 113) [] [.p (M.length + 3) 0, .p (M.length + 1) 0, .p (M.length + 2) 0]), none, none, none, none, none, none, none, none, none, none, none, none, none, none, none, none, none, none, none, none, none, none, none, none, none, none, none] ts ∧ M' = M ++ [.row (bS (List.replicate 16 0#8)) 5, .row [.p m 0] 57, .row [.sl nn no 12 nc] 22, .row [.u32 1#32] 88]) 0 ⟨rfl, by simp [frC], rfl⟩ ?_
  rintro i ts _ ⟨rfl, hf, rfl⟩
  obtain ⟨f, rfl⟩ := frC_open _ _ 0 hf
  clear hf
  (refine top_in ?_; simp -implicitDefEqProofs only [go_sem, -List.reduceReplicate, ↓L_gdZ_tt, ↓L_gdZ_tf, ↓L_gdZ_ft, ↓L_gdZ_ff, ↓T_and, ↓T_imp, ↓T_all, heo, hle]; try simp only [top_out])
  have hk := hK (List.replicate 16 0#8) 5
  rw [show cryL (fun x => aesN C x 14) nonce [] = [] from rfl, List.nil_append, List.length_replicate, Nat.zero_add] at hk
  refine dropC_gc (L := [.row (bS (List.replicate 16 0#8)) 5, .row [.p m 0] 57, .row [.sl nn no 12 nc] 22, .row [.u32 1#32] 88]) hM [some 0] (.sl M.length 0 0 16) [.row (bS (List.replicate 16 0#8)) 5] rfl ⟨keep8 rfl, trivial⟩ (by simp [lt_row]) (by simp [SV.lt]) (fun ρ => ?_) hk
  simp only [rn_sl_at0, List.getElem?_cons_zero, Option.join_some, rnSl_s, Nat.add_zero]
theorem streamed_e (m nn no nc : Nat) (C nonce : List (BitVec 8)) (M : List Blk) (K : SV → List Blk → Prop) (e : SV) (hle : ∀ {M' : List Blk} {e' a' b' : Nat} {K : SV → Prop}, lenB (.slice e' a' b') M' e K = K (.i .i64 0)) (heo : e.one = true)
    (hK : ∀ z ty, K (.sl M.length 0 0 (0 + z.length)) (M ++ [.row (bS (cryL (fun x => refN4 C x 14) nonce [] ++ z)) ty])) :
    callVC Tryz.prog 23 [.p m 0, .sl nn no 12 nc, e] M K := by
  refine fn_rule tabOK Tryz.func23 rfl Tryz.call23 (by kernel_rfl) (fun hM => ?_)
  (refine top_in ?_; simp -implicitDefEqProofs only [Tryz.ntmps23, Tryz.results23, go_sem, -List.reduceReplicate, ↓L_gdZ_tt, ↓L_gdZ_tf, ↓L_gdZ_ft, ↓L_gdZ_ff, ↓T_and, ↓T_imp, ↓T_all, heo, hle]; try simp only [top_out])
  refine loop_code tabOK (by kernel_rfl) (fun i ts M' => i = 0 ∧ frC [none, none, some (e), none, none, none, none, some (.sn), none, some (.i .i64 0), none, none, none, none, none, none, none, none, none, none, none, none, none, none, none, none, none, none, none, none, none, none, none, none, none, none, none, none, none, none, none] ts ∧ M' = M ++ [.row (bS (List.replicate 16 0#8)) 61]) 0 ⟨rfl, by simp [frC], rfl⟩ ?_
  rintro i ts _ ⟨rfl, hf, rfl⟩
  obtain ⟨f, rfl⟩ := frC_open _ _ 0 hf
  clear hf
  (refine top_in ?_; simp -implicitDefEqProofs only [go_sem, -List.reduceReplicate, ↓L_gdZ_tt, ↓L_gdZ_tf, ↓L_gdZ_ft, ↓L_gdZ_ff, ↓T_and, ↓T_imp, ↓T_all, heo, hle]; try simp only [top_out])
  exact drop8n hM (hK [] 0)
set_option maxHeartbeats 400000 in
set_option maxRecDepth 20000 in
theorem seal_e (nk ok ck nn no nc : Nat) (key nonce : List (BitVec 8)) (M : List Blk) (K : SV → List Blk → Prop) (hk : BAt M nk ok key) (k32 : key.length = 32) (hck : 32 ≤ ck) (hn : BAt M nn no nonce) (n12 : nonce.length = 12) (e : SV) (hle : ∀ {M' : List Blk} {e' a' b' : Nat} {K : SV → Prop}, lenB (.slice e' a' b') M' e K = K (.i .i64 0)) (heo : e.one = true) (het : e.lt M.length = true)
    (hK : ∀ z ty, K (.tup [.sl M.length 0 16 (16 + z.length), .i .i64 0]) (M ++ [.row (bS (sealL key nonce [] [] ++ z)) ty])) :
    callVC Tryz.prog 6 [.sl nk ok key.length ck, .sl nn no 12 nc, e, e] M K := by
  have b1 : ((key.length : Int) != 32) = false := by rw [k32]; rfl
  have b2 : ((12 : Int) != 12) = false := rfl
  refine fn_rule tabOK Tryz.func6 rfl Tryz.call6 (by kernel_rfl) (fun hM => ?_)
  (refine top_in ?_; simp -implicitDefEqProofs only [Tryz.ntmps6, Tryz.results6, go_sem, -List.reduceReplicate, ↓L_gdZ_tt, ↓L_gdZ_tf, ↓L_gdZ_ft, ↓L_gdZ_ff, ↓T_and, ↓T_imp, ↓T_all, b1, b2, heo, hle]; try simp only [top_out])
  refine new_ok nk ok ck key _ _ hk (by omega) (by omega) (fun _ => ?_) (fun h => absurd k32 h)
  (refine top_in ?_; simp -implicitDefEqProofs only [go_sem, -List.reduceReplicate, ↓L_gdZ_tt, ↓L_gdZ_tf, ↓L_gdZ_ft, ↓L_gdZ_ff, ↓T_and, ↓T_imp, ↓T_all, q00, heo, hle]; try simp only [top_out])
  refine crypt_e M.length nn no nc (ciph key) nonce 74 _ _ e (@hle) heo (by rw [get_app0]; rfl) ?_
  intro z ty
  (refine top_in ?_; simp -implicitDefEqProofs only [go_sem, -List.reduceReplicate, ↓L_gdZ_tt, ↓L_gdZ_tf, ↓L_gdZ_ft, ↓L_gdZ_ff, ↓T_and, ↓T_imp, ↓T_all, heo, hle]; try simp only [top_out])
  rw [show (fun x => aesN (ciph key) x 14) = encE key from rfl]
  have hcl : (cryL (encE key) nonce []).length = 0 := cryL_len (encE key) nonce []
  refine tag_g e M.length nn no nc (M.length + 1) 0 0 _ (ciph key) nonce [] (cryL (encE key) nonce []) 74 _ _ (by rw [get_app0]; rfl) (ciph_len k32) hn.app n12 (@hle) heo (lt_mono (by simp) e het) (by simp) (fun y h L K hy hh hK => fold_e y h _ K e (@hle) heo hy hh hK) (BAt.row (z := z) (ty := ty) (by rw [get_app]; rfl)) hcl.symm (by omega) (by omega) ?_
  rw [show (fun x => aesN (ciph key) x 14) = encE key from rfl]
  have htl := tagL_len (encE key) nonce [] (cryL (encE key) nonce [])
  generalize htg : tagL (encE key) nonce [] (cryL (encE key) nonce []) = tg at htl
  (refine top_in ?_; simp -implicitDefEqProofs only [go_sem, -List.reduceReplicate, ↓L_gdZ_tt, ↓L_gdZ_tf, ↓L_gdZ_ft, ↓L_gdZ_ff, ↓T_and, ↓T_imp, ↓T_all, heo, hle, htl]; try simp only [top_out])
  refine app8 (M.length + 1) (cryL (encE key) nonce []) z tg ty rfl rfl rfl (by rw [get_app]; rfl) hcl.symm (by omega) (src_row (z := []) (ty := 61) (by rw [get_app, List.append_nil]; rfl) htl.symm) (by omega) ?_
  intro z' ty'
  have hse : cryL (encE key) nonce [] ++ tg = sealL key nonce [] [] := by unfold sealL; rw [htg]
  rw [hse, hcl, htl]
  (refine top_in ?_; simp -implicitDefEqProofs only [go_sem, -List.reduceReplicate, ↓L_gdZ_tt, ↓L_gdZ_tf, ↓L_gdZ_ft, ↓L_gdZ_ff, ↓T_and, ↓T_imp, ↓T_all]; try simp only [top_out])
  refine dropC_gc (L := [.row (bS (ciph key)) 74, .dead, .row (bS tg) 61, .row (bS (sealL key nonce [] [] ++ z')) ty']) hM [some 3] (.tup [.sl M.length 0 16 (16 + z'.length), .i .i64 0]) [.row (bS (sealL key nonce [] [] ++ z')) ty'] rfl ⟨keep8 rfl, trivial⟩ (by simp [lt_row]) (by simp [SV.lt, ltL]) (fun ρ => ?_) (hK z' ty')
  simp only [rn_tup, rnL_cons, rnL_nil, rn_sl_at0, rn_i, List.getElem?_cons_zero, Option.join_some, rnSl_s, Nat.add_assoc]
end Go.Proofs.YtbiolfeincepoaaGreatDoor.Eng
