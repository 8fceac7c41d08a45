/- Joined texts: G4, G5, G6, G7, G9p. -/
import Derived.Test.YtdkdbeamimkljaaGreatDoorMj
import Derived.Test.YtdkdbeamimkljaaGreatDoorMa
namespace Go.Proofs.YtdkdbeamimkljaaGreatDoor.Eng
set_option linter.unusedSimpArgs false
set_option linter.unusedVariables false
open Go Go.RowKit
def zero16 : List (BitVec 8) := List.replicate 16 0#8
theorem zero16_len : zero16.length = 16 := rfl
def tagL (E : List (BitVec 8) → List (BitVec 8)) (nonce ad sealed_ : List (BitVec 8)) : List (BitVec 8) :=
  xorL (mulL (xorL (foldL (E zero16) (foldL (E zero16) zero16 ad) sealed_) (lenL ad.length sealed_.length)) (E zero16)) (E (ctrL nonce 1#32))
theorem tagL_len (E : List (BitVec 8) → List (BitVec 8)) (nonce ad s : List (BitVec 8)) : (tagL E nonce ad s).length = 16 := xorL_len _ _
set_option maxHeartbeats 1000000 in
theorem tag_ok (m nn no nc na oa la ca ns os ls cs : Nat) (C nonce ad s : List (BitVec 8)) (t4 : TypeId) (M : List Blk) (K : SV → List Blk → Prop) (hC : M[m]? = some (.row (bS C) t4)) (hCl : C.length = 496) (hn : BAt M nn no nonce) (hl : nonce.length = 12)
    (ha : BAt M na oa ad) (hla : la = ad.length) (hca : la ≤ ca) (hma : la ≤ 140737488355000) (hs : BAt M ns os s) (hls : ls = s.length) (hcs : ls ≤ cs) (hms : ls ≤ 140737488355000)
    (hK : K (.agg (bS (tagL (fun x => aesN C x 14) nonce ad s))) M) :
    callVC Tryz.prog 53 [.p m 0, .sl nn no 12 nc, .sl na oa la ca, .sl ns os ls cs] M K := by
  subst hla hls
  have hm : m < M.length := (List.getElem?_eq_some_iff.1 hC).1
  have hC' : ∀ L : List Blk, (M ++ L)[m]? = some (.row (bS C) t4) := fun L => by rw [get_lt hm]; exact hC
  have hel : ∀ x, (aesN C x 14).length = 16 := fun x => aesN_len _ _ _
  have hz := zero16_len
  refine fn_rule tabOK Tryz.func53 rfl Tryz.call53 (by kernel_rfl) (fun hM => ?_)
  (refine top_in ?_; simp -implicitDefEqProofs only [Tryz.ntmps53, Tryz.results53, go_sem, -List.reduceReplicate, ↓L_gdZ_tt, ↓L_gdZ_tf, ↓L_gdZ_ft, ↓L_gdZ_ff, ↓T_and, ↓T_imp, ↓T_all]; try simp only [top_out])
  rw [← show zero16 = List.replicate 16 0#8 from rfl]
  have hfa : (foldL (aesN C zero16 14) zero16 ad).length = 16 := foldL_len hz
  have hfs : (foldL (aesN C zero16 14) (foldL (aesN C zero16 14) zero16 ad) s).length = 16 := foldL_len hfa
  have hll := lenL_len ad.length s.length
  have hx1 := xorL_len (foldL (aesN C zero16 14) (foldL (aesN C zero16 14) zero16 ad) s) (lenL ad.length s.length)
  have hx2 := mulL_len' (xorL (foldL (aesN C zero16 14) (foldL (aesN C zero16 14) zero16 ad) s) (lenL ad.length s.length)) (aesN C zero16 14)
  have hcl := ctrL_len nonce 1#32
  have hxt := tagL_len (fun x => aesN C x 14) nonce ad s
  refine block_ok m C t4 zero16 _ _ (hC' _) hCl hz ?_
  (refine top_in ?_; simp -implicitDefEqProofs only [go_sem, -List.reduceReplicate, ↓L_gdZ_tt, ↓L_gdZ_tf, ↓L_gdZ_ft, ↓L_gdZ_ff, ↓T_and, ↓T_imp, ↓T_all, hz, hel, hfa, hfs, hx1, hx2, hll, hcl, get_lt hm, hC]; try simp only [top_out])
  rw [← show zero16 = List.replicate 16 0#8 from rfl]
  refine fold_ok zero16 _ ad na oa _ ca _ _ hz (hel _) ha.app rfl hca hma ?_
  (refine top_in ?_; simp -implicitDefEqProofs only [go_sem, -List.reduceReplicate, ↓L_gdZ_tt, ↓L_gdZ_tf, ↓L_gdZ_ft, ↓L_gdZ_ff, ↓T_and, ↓T_imp, ↓T_all, hz, hel, hfa, hfs, hx1, hx2, hll, hcl, get_lt hm, hC]; try simp only [top_out])
  refine fold_ok _ _ s ns os _ cs _ _ hfa (hel _) hs.app rfl hcs hms ?_
  (refine top_in ?_; simp -implicitDefEqProofs only [go_sem, -List.reduceReplicate, ↓L_gdZ_tt, ↓L_gdZ_tf, ↓L_gdZ_ft, ↓L_gdZ_ff, ↓T_and, ↓T_imp, ↓T_all, hz, hel, hfa, hfs, hx1, hx2, hll, hcl, get_lt hm, hC]; try simp only [top_out])
  refine draw_rule tabOK (by kernel_rfl : _) (.p 0 (.p 1 (.p 2 (.p 3 (.p 4 (.p 7 (.e 5 [0, 7] (.e 6 [7] (.e 8 [] (.e 9 [] .nil .no) .no) .no) .no))))))) (by kernel_rfl) (by kernel_rfl) ?_
  (refine top_in ?_; simp -implicitDefEqProofs only [go_sem, -List.reduceReplicate, ↓L_gdZ_tt, ↓L_gdZ_tf, ↓L_gdZ_ft, ↓L_gdZ_ff, ↓T_and, ↓T_imp, ↓T_all, hz, hel, hfa, hfs, hx1, hx2, hll, hcl, get_lt hm, hC]; try simp only [top_out])
  refine lengths_ok _ _ _ _ ?_
  (refine top_in ?_; simp -implicitDefEqProofs only [go_sem, -List.reduceReplicate, ↓L_gdZ_tt, ↓L_gdZ_tf, ↓L_gdZ_ft, ↓L_gdZ_ff, ↓T_and, ↓T_imp, ↓T_all, hz, hel, hfa, hfs, hx1, hx2, hll, hcl, get_lt hm, hC]; try simp only [top_out])
  refine xor_ok _ _ hfs hll _ _ ?_
  (refine top_in ?_; simp -implicitDefEqProofs only [go_sem, -List.reduceReplicate, ↓L_gdZ_tt, ↓L_gdZ_tf, ↓L_gdZ_ft, ↓L_gdZ_ff, ↓T_and, ↓T_imp, ↓T_all, hz, hel, hfa, hfs, hx1, hx2, hll, hcl, get_lt hm, hC]; try simp only [top_out])
  refine mul128_ok _ _ hx1 (hel _) _ _ ?_
  (refine top_in ?_; simp -implicitDefEqProofs only [go_sem, -List.reduceReplicate, ↓L_gdZ_tt, ↓L_gdZ_tf, ↓L_gdZ_ft, ↓L_gdZ_ff, ↓T_and, ↓T_imp, ↓T_all, hz, hel, hfa, hfs, hx1, hx2, hll, hcl, get_lt hm, hC]; try simp only [top_out])
  repeat (with_reducible refine And.intro (by omega) ?_)
  refine draw_rule tabOK (by kernel_rfl : _) (.p 0 (.p 1 (.p 2 (.e 3 [0] (.e 4 [0] (.e 5 [] (.e 6 [] .nil .no) .no) .no) .no)))) (by kernel_rfl) (by kernel_rfl) ?_
  (refine top_in ?_; simp -implicitDefEqProofs only [go_sem, -List.reduceReplicate, ↓L_gdZ_tt, ↓L_gdZ_tf, ↓L_gdZ_ft, ↓L_gdZ_ff, ↓T_and, ↓T_imp, ↓T_all, hz, hel, hfa, hfs, hx1, hx2, hll, hcl, get_lt hm, hC]; try simp only [top_out])
  refine counter_ok nn no nc nonce 1#32 _ _ hn.app hl ?_
  (refine top_in ?_; simp -implicitDefEqProofs only [go_sem, -List.reduceReplicate, ↓L_gdZ_tt, ↓L_gdZ_tf, ↓L_gdZ_ft, ↓L_gdZ_ff, ↓T_and, ↓T_imp, ↓T_all, hz, hel, hfa, hfs, hx1, hx2, hll, hcl, get_lt hm, hC]; try simp only [top_out])
  refine block_ok m C t4 (ctrL nonce 1#32) _ _ (hC' _) hCl hcl ?_
  (refine top_in ?_; simp -implicitDefEqProofs only [go_sem, -List.reduceReplicate, ↓L_gdZ_tt, ↓L_gdZ_tf, ↓L_gdZ_ft, ↓L_gdZ_ff, ↓T_and, ↓T_imp, ↓T_all, hz, hel, hfa, hfs, hx1, hx2, hll, hcl, get_lt hm, hC]; try simp only [top_out])
  refine xor_ok _ _ hx2 (hel _) _ _ ?_
  rw [show xorL (mulL (xorL (foldL (aesN C zero16 14) (foldL (aesN C zero16 14) zero16 ad) s) (lenL ad.length s.length)) (aesN C zero16 14)) (aesN C (ctrL nonce 1#32) 14) = tagL (fun x => aesN C x 14) nonce ad s from rfl]
  (refine top_in ?_; simp -implicitDefEqProofs only [go_sem, -List.reduceReplicate, ↓L_gdZ_tt, ↓L_gdZ_tf, ↓L_gdZ_ft, ↓L_gdZ_ff, ↓T_and, ↓T_imp, ↓T_all, hz, hel, hfa, hfs, hx1, hx2, hll, hcl, get_lt hm, hC, hxt]; try simp only [top_out])
  repeat (with_reducible refine And.intro (by omega) ?_)
  exact dropC_append hM (bS_lt _ _) hK
def encE (key : List (BitVec 8)) : List (BitVec 8) → List (BitVec 8) := fun x => aesN (ciph key) x 14
def sealL (key nonce ad text : List (BitVec 8)) : List (BitVec 8) := cryL (encE key) nonce text ++ tagL (encE key) nonce ad (cryL (encE key) nonce text)
theorem sealL_len (key nonce ad text : List (BitVec 8)) : (sealL key nonce ad text).length = text.length + 16 := by
  unfold sealL; rw [List.length_append, cryL_len, tagL_len]
def sealE (key nonce ad text : List (BitVec 8)) : Int := if key.length ≠ 32 then 40 else if nonce.length ≠ 12 then 50 else if 65536 < ad.length ∨ 65536 < text.length then 51 else 0
theorem sealE_0 {key nonce ad text : List (BitVec 8)} (h : sealE key nonce ad text = 0) : key.length = 32 ∧ nonce.length = 12 ∧ ad.length ≤ 65536 ∧ text.length ≤ 65536 := by
  unfold sealE at h
  split at h
  · cases h
  · split at h
    · cases h
    · split at h
      · cases h
      · omega
theorem sealE_ok {key nonce ad text : List (BitVec 8)} (h1 : key.length = 32) (h2 : nonce.length = 12) (h3 : ad.length ≤ 65536) (h4 : text.length ≤ 65536) : sealE key nonce ad text = 0 := by
  unfold sealE
  rw [if_neg (by omega), if_neg (by omega), if_neg (by omega)]
theorem bneN {n k : Nat} (h : n ≠ k) : ((n : Int) != (k : Int)) = true := by simp; omega
set_option maxHeartbeats 2000000 in
theorem seal_ok (nk ok lk ck nn no ln nc na oa la ca nt ot lt ct : Nat) (key nonce ad text : List (BitVec 8)) (M : List Blk) (K : SV → List Blk → Prop)
    (hk : BAt M nk ok key) (hlk : lk = key.length) (hck : lk ≤ ck) (hmk : lk ≤ 140737488355000) (hn : BAt M nn no nonce) (hln : ln = nonce.length) (ha : BAt M na oa ad) (hla : la = ad.length) (hca : la ≤ ca)
    (ht : BAt M nt ot text) (hlt : lt = text.length) (hct : lt ≤ ct)
    (h1 : sealE key nonce ad text = 0 → ∀ z ty, K (.tup [.sl M.length 0 (text.length + 16) (text.length + 16 + z.length), .i .i64 0]) (M ++ [.row (bS (sealL key nonce ad text ++ z)) ty]))
    (h0 : sealE key nonce ad text ≠ 0 → K (.tup [.sn, .i .i64 (sealE key nonce ad text)]) M) :
    callVC Tryz.prog 31 [.sl nk ok lk ck, .sl nn no ln nc, .sl na oa la ca, .sl nt ot lt ct] M K := by
  subst hlk hln hla hlt
  by_cases k32 : key.length = 32
  · have b1 : ((key.length : Int) != 32) = false := beqIN k32
    by_cases n12 : nonce.length = 12
    · have b2 : ((nonce.length : Int) != 12) = false := by rw [n12]; rfl
      by_cases hbig : 65536 < ad.length ∨ 65536 < text.length
      · have he : sealE key nonce ad text = 51 := by unfold sealE; rw [if_neg (by omega), if_neg (by omega), if_pos hbig]
        have hK := h0 (by rw [he]; decide)
        rw [he] at hK
        refine fn_rule tabOK Tryz.func31 rfl Tryz.call31 (by kernel_rfl) (fun hM => ?_)
        (refine top_in ?_; simp -implicitDefEqProofs only [Tryz.ntmps31, Tryz.results31, go_sem, -List.reduceReplicate, ↓L_gdZ_tt, ↓L_gdZ_tf, ↓L_gdZ_ft, ↓L_gdZ_ff, ↓T_and, ↓T_imp, ↓T_all, b1, b2]; try simp only [top_out])
        repeat' (with_reducible first | refine And.intro ?_ ?_ | intro)
        all_goals first
          | exact dropC_self hM rfl hK
          | (exfalso; omega)
      · have he := sealE_ok k32 n12 (ad := ad) (text := text) (by omega) (by omega)
        have hK := h1 he
        have b3 : (65536 < (ad.length : Int)) = False := by simp; omega
        have b4 : (65536 < (text.length : Int)) = False := by simp; omega
        refine fn_rule tabOK Tryz.func31 rfl Tryz.call31 (by kernel_rfl) (fun hM => ?_)
        (refine top_in ?_; simp -implicitDefEqProofs only [Tryz.ntmps31, Tryz.results31, go_sem, -List.reduceReplicate, ↓L_gdZ_tt, ↓L_gdZ_tf, ↓L_gdZ_ft, ↓L_gdZ_ff, ↓T_and, ↓T_imp, ↓T_all, b1, b2, b3, b4]; try simp only [top_out])
        refine new_ok nk ok ck key _ _ hk (by omega) hck (fun _ => ?_) (fun h => absurd k32 h)
        (refine top_in ?_; simp -implicitDefEqProofs only [go_sem, -List.reduceReplicate, ↓L_gdZ_tt, ↓L_gdZ_tf, ↓L_gdZ_ft, ↓L_gdZ_ff, ↓T_and, ↓T_imp, ↓T_all, q00, n12]; try simp only [top_out])
        refine crypt_ok M.length nn no nc nt ot text.length ct (ciph key) nonce text 124 _ _ (by rw [get_app0]; rfl) (ciph_len k32) hn.app n12 ht.app rfl hct (by omega) ?_
        intro z ty
        (refine top_in ?_; simp -implicitDefEqProofs only [go_sem, -List.reduceReplicate, ↓L_gdZ_tt, ↓L_gdZ_tf, ↓L_gdZ_ft, ↓L_gdZ_ff, ↓T_and, ↓T_imp, ↓T_all, n12]; try simp only [top_out])
        have hcl := cryL_len (encE key) nonce text
        rw [show (fun x => aesN (ciph key) x 14) = encE key from rfl]
        refine tag_ok M.length nn no nc na oa ad.length ca (M.length + 1) 0 text.length _ (ciph key) nonce ad (cryL (encE key) nonce text) 124 _ _ (by rw [get_app0]; rfl) (ciph_len k32) hn.app n12 ha.app rfl hca (by omega) (BAt.row (z := z) (ty := ty) (by rw [get_app]; rfl)) hcl.symm (by omega) (by omega) ?_
        rw [show (fun x => aesN (ciph key) x 14) = encE key from rfl]
        have htl := tagL_len (encE key) nonce ad (cryL (encE key) nonce text)
        generalize htg : tagL (encE key) nonce ad (cryL (encE key) nonce text) = tg at htl
        (refine top_in ?_; simp -implicitDefEqProofs only [go_sem, -List.reduceReplicate, ↓L_gdZ_tt, ↓L_gdZ_tf, ↓L_gdZ_ft, ↓L_gdZ_ff, ↓T_and, ↓T_imp, ↓T_all, n12, htl]; try simp only [top_out])
        refine app8 (M.length + 1) (cryL (encE key) nonce text) z tg ty rfl rfl rfl (by rw [get_app]; rfl) hcl.symm (by omega) (src_row (z := []) (ty := 113) (by rw [get_app, List.append_nil]; rfl) htl.symm) (by omega) ?_
        intro z' ty'
        have hse : cryL (encE key) nonce text ++ tg = sealL key nonce ad text := by unfold sealL; rw [htg]
        rw [hse, hcl, htl]
        (refine top_in ?_; simp -implicitDefEqProofs only [go_sem, -List.reduceReplicate, ↓L_gdZ_tt, ↓L_gdZ_tf, ↓L_gdZ_ft, ↓L_gdZ_ff, ↓T_and, ↓T_imp, ↓T_all]; try simp only [top_out])
        refine dropC_gc (L := [.row (bS (ciph key)) 124, .dead, .row (bS tg) 113, .row (bS (sealL key nonce ad text ++ z')) ty']) hM [some 3] (.tup [.sl M.length 0 (text.length + 16) (text.length + 16 + z'.length), .i .i64 0]) [.row (bS (sealL key nonce ad text ++ z')) ty'] rfl ⟨keep8 rfl, trivial⟩ (by simp [lt_row]) (by simp [SV.lt, ltL]) (fun ρ => ?_) (hK z' ty')
        simp only [rn_tup, rnL_cons, rnL_nil, rn_sl_at0, rn_i, List.getElem?_cons_zero, Option.join_some, rnSl_s, Nat.add_assoc]
    · have b2 : ((nonce.length : Int) != 12) = true := bneN n12
      have he : sealE key nonce ad text = 50 := by unfold sealE; rw [if_neg (by omega), if_pos n12]
      have hK := h0 (by rw [he]; decide)
      rw [he] at hK
      refine fn_rule tabOK Tryz.func31 rfl Tryz.call31 (by kernel_rfl) (fun hM => ?_)
      (refine top_in ?_; simp -implicitDefEqProofs only [Tryz.ntmps31, Tryz.results31, go_sem, -List.reduceReplicate, ↓L_gdZ_tt, ↓L_gdZ_tf, ↓L_gdZ_ft, ↓L_gdZ_ff, ↓T_and, ↓T_imp, ↓T_all, b1, b2]; try simp only [top_out])
      exact dropC_self hM rfl hK
  · have b1 : ((key.length : Int) != 32) = true := bneN k32
    have he : sealE key nonce ad text = 40 := by unfold sealE; rw [if_pos k32]
    have hK := h0 (by rw [he]; decide)
    rw [he] at hK
    refine fn_rule tabOK Tryz.func31 rfl Tryz.call31 (by kernel_rfl) (fun hM => ?_)
    (refine top_in ?_; simp -implicitDefEqProofs only [Tryz.ntmps31, Tryz.results31, go_sem, -List.reduceReplicate, ↓L_gdZ_tt, ↓L_gdZ_tf, ↓L_gdZ_ft, ↓L_gdZ_ff, ↓T_and, ↓T_imp, ↓T_all, b1]; try simp only [top_out])
    exact dropC_self hM rfl hK
def openP (key nonce ad s : List (BitVec 8)) : Prop := key.length = 32 ∧ nonce.length = 12 ∧ ad.length ≤ 65536 ∧ 16 ≤ s.length ∧ s.length ≤ 65552
def openT (key nonce ad s : List (BitVec 8)) : List (BitVec 8) := tagL (encE key) nonce ad (s.take (s.length - 16))
def openL (key nonce s : List (BitVec 8)) : List (BitVec 8) := cryL (encE key) nonce (s.take (s.length - 16))
theorem openL_len (key nonce s : List (BitVec 8)) : (openL key nonce s).length = s.length - 16 := by
  unfold openL; rw [cryL_len, List.length_take]; omega
def openB (key nonce ad s : List (BitVec 8)) : Bool := decide (key.length = 32) && (decide (nonce.length = 12) && (decide (ad.length ≤ 65536) && (decide (16 ≤ s.length) && (decide (s.length ≤ 65552) && s.drop (s.length - 16) == openT key nonce ad s))))
theorem openB_t {key nonce ad s : List (BitVec 8)} (h : openB key nonce ad s = true) : openP key nonce ad s ∧ s.drop (s.length - 16) = openT key nonce ad s := by
  simpa [openB, openP, and_assoc] using h
theorem openB_ok {key nonce ad s : List (BitVec 8)} (h : openP key nonce ad s) (h2 : s.drop (s.length - 16) = openT key nonce ad s) : openB key nonce ad s = true := by
  obtain ⟨a, b, c, d, e⟩ := h
  simp [openB, a, b, c, d, e, h2]
theorem openB_n {key nonce ad s : List (BitVec 8)} (h : ¬ openP key nonce ad s) : openB key nonce ad s = false := by
  cases hb : openB key nonce ad s with
  | false => rfl
  | true => exact absurd (openB_t hb).1 h
theorem openB_d {key nonce ad s : List (BitVec 8)} (h : s.drop (s.length - 16) ≠ openT key nonce ad s) : openB key nonce ad s = false := by
  cases hb : openB key nonce ad s with
  | false => rfl
  | true => exact absurd (openB_t hb).2 h
set_option maxHeartbeats 2000000 in
theorem open_ok (nk ok lk ck nn no ln nc na oa la ca nt ot lt ct : Nat) (key nonce ad s : List (BitVec 8)) (M : List Blk) (K : SV → List Blk → Prop)
    (hk : BAt M nk ok key) (hlk : lk = key.length) (hck : lk ≤ ck) (hmk : lk ≤ 140737488355000) (hn : BAt M nn no nonce) (hln : ln = nonce.length) (ha : BAt M na oa ad) (hla : la = ad.length) (hca : la ≤ ca)
    (ht : BAt M nt ot s) (hlt : lt = s.length) (hct : lt ≤ ct) (hms : lt ≤ 140737488355000)
    (h1 : openB key nonce ad s = true → ∀ z ty, K (.tup [.sl M.length 0 (s.length - 16) (s.length - 16 + z.length), .b true]) (M ++ [.row (bS (openL key nonce s ++ z)) ty]))
    (h0 : openB key nonce ad s = false → K (.tup [.sn, .b false]) M) :
    callVC Tryz.prog 34 [.sl nk ok lk ck, .sl nn no ln nc, .sl na oa la ca, .sl nt ot lt ct] M K := by
  subst hlk hln hla hlt
  have w16 : IntKind.i64.wrap ((s.length : Int) - 16) = (s.length : Int) - 16 := w64 (by omega) (by omega)
  by_cases k32 : key.length = 32
  · have b1 : ((key.length : Int) != 32) = false := beqIN k32
    by_cases n12 : nonce.length = 12
    · have b2 : ((nonce.length : Int) != 12) = false := by rw [n12]; rfl
      by_cases hbig : ad.length ≤ 65536 ∧ 16 ≤ s.length ∧ s.length ≤ 65552
      · have hP : openP key nonce ad s := ⟨k32, n12, hbig.1, hbig.2.1, hbig.2.2⟩
        have b3 : (65536 < (ad.length : Int)) = False := by simp; omega
        have b4 : ((s.length : Int) - 16 < 0) = False := by simp; omega
        have b5 : (65536 < (s.length : Int) - 16) = False := by simp; omega
        have e16 : (s.length : Int) - 16 = ((s.length - 16 : Nat) : Int) := by omega
        refine fn_rule tabOK Tryz.func34 rfl Tryz.call34 (by kernel_rfl) (fun hM => ?_)
        (refine top_in ?_; simp -implicitDefEqProofs only [Tryz.ntmps34, Tryz.results34, go_sem, -List.reduceReplicate, ↓L_gdZ_tt, ↓L_gdZ_tf, ↓L_gdZ_ft, ↓L_gdZ_ff, ↓T_and, ↓T_imp, ↓T_all, b1, b2, b3, b4, b5, w16]; try simp only [top_out])
        refine new_ok nk ok ck key _ _ hk (by omega) hck (fun _ => ?_) (fun h => absurd k32 h)
        (refine top_in ?_; simp -implicitDefEqProofs only [go_sem, -List.reduceReplicate, ↓L_gdZ_tt, ↓L_gdZ_tf, ↓L_gdZ_ft, ↓L_gdZ_ff, ↓T_and, ↓T_imp, ↓T_all, q00, n12, e16]; try simp only [top_out])
        obtain ⟨n, hn16⟩ : ∃ n, n + 16 = s.length := ⟨s.length - 16, by omega⟩
        have hsn : s.length - 16 = n := by omega
        have hdl : (s.drop n).length = 16 := by rw [List.length_drop]; omega
        have htk : (s.take n).length = n := by rw [List.length_take]; omega
        have c0 : (ct = n) = False := by simp; omega
        have c1 : s.length - n = 16 := by omega
        have hTl : (openT key nonce ad s).length = 16 := tagL_len _ _ _ _
        have hbd := ht.sub (a := n) (k := 16) (by omega)
        rw [List.take_of_length_le (by omega)] at hbd
        have hbt := ht.sub (a := 0) (k := n) (by omega)
        rw [List.drop_zero, Nat.add_zero] at hbt
        rw [hsn]
        refine draw_rule tabOK (by kernel_rfl : _) (.p 0 (.p 1 (.p 2 (.p 3 (.e 4 [] .nil .no))))) (by kernel_rfl) (by kernel_rfl) ?_
        (refine top_in ?_; simp -implicitDefEqProofs only [go_sem, -List.reduceReplicate, ↓L_gdZ_tt, ↓L_gdZ_tf, ↓L_gdZ_ft, ↓L_gdZ_ff, ↓T_and, ↓T_imp, ↓T_all, n12, c0, c1]; try simp only [top_out])
        repeat (with_reducible refine And.intro (by omega) ?_)
        have hs := (hbd.app (L := [.row (bS (ciph key)) 124, .row (bS (List.replicate 16 0#8)) 113])).src (cap := ct - n)
        rw [hdl] at hs
        refine copy8 (M.length + 1) 0 (List.replicate 16 0#8) (s.drop n) 113 rfl (by rw [get_app]; rfl) (by simp) hs ?_
        rw [pad16_copy, show pad16 (s.drop n) = s.drop n from (gl_self hdl 0#8).symm]
        (refine top_in ?_; simp -implicitDefEqProofs only [go_sem, -List.reduceReplicate, ↓L_gdZ_tt, ↓L_gdZ_tf, ↓L_gdZ_ft, ↓L_gdZ_ff, ↓T_and, ↓T_imp, ↓T_all, n12, c0, c1]; try simp only [top_out])
        refine draw_rule tabOK (by kernel_rfl : _) (.p 0 (.p 1 (.p 2 (.p 3 (.p 4 (.p 5 (.p 6 (.e 7 [0] (.p 8 .nil) .no)))))))) (by kernel_rfl) (by kernel_rfl) ?_
        (refine top_in ?_; simp -implicitDefEqProofs only [go_sem, -List.reduceReplicate, ↓L_gdZ_tt, ↓L_gdZ_tf, ↓L_gdZ_ft, ↓L_gdZ_ff, ↓T_and, ↓T_imp, ↓T_all, n12, c0, c1, hdl]; try simp only [top_out])
        repeat (with_reducible refine And.intro (by omega) ?_)
        refine tag_ok M.length nn no nc na oa ad.length ca nt ot n ct (ciph key) nonce ad (s.take n) 124 _ _ (by rw [get_app0]; rfl) (ciph_len k32) hn.app n12 ha.app rfl hca (by omega) hbt.app htk.symm (by omega) (by omega) ?_
        have hT : tagL (fun x => aesN (ciph key) x 14) nonce ad (s.take n) = openT key nonce ad s := by unfold openT; rw [hsn]; rfl
        rw [hT]
        (refine top_in ?_; simp -implicitDefEqProofs only [go_sem, -List.reduceReplicate, ↓L_gdZ_tt, ↓L_gdZ_tf, ↓L_gdZ_ft, ↓L_gdZ_ff, ↓T_and, ↓T_imp, ↓T_all, n12, c0, c1, hdl, hTl]; try simp only [top_out])
        refine ⟨fun hd => dropC_append hM rfl (h0 (openB_d (by rw [hsn]; simpa using hd))), fun hd => ?_⟩
        have hK := h1 (openB_ok hP (by rw [hsn]; simpa using hd))
        have hL : cryL (encE key) nonce (s.take n) = openL key nonce s := by unfold openL; rw [hsn]
        rw [hsn] at hK
        repeat (with_reducible refine And.intro (by omega) ?_)
        refine crypt_ok M.length nn no nc nt ot n ct (ciph key) nonce (s.take n) 124 _ _ (by rw [get_app0]; rfl) (ciph_len k32) hn.app n12 hbt.app htk.symm (by omega) (by omega) ?_
        intro z ty
        rw [show (fun x => aesN (ciph key) x 14) = encE key from rfl, hL, htk]
        (refine top_in ?_; simp -implicitDefEqProofs only [go_sem, -List.reduceReplicate, ↓L_gdZ_tt, ↓L_gdZ_tf, ↓L_gdZ_ft, ↓L_gdZ_ff, ↓T_and, ↓T_imp, ↓T_all]; try simp only [top_out])
        refine dropC_gc (L := [.row (bS (ciph key)) 124, .row (bS (s.drop n)) 113, .row (bS (openL key nonce s ++ z)) ty]) hM [some 2] (.tup [.sl M.length 0 n (n + z.length), .b true]) [.row (bS (openL key nonce s ++ z)) ty] rfl ⟨keep8 rfl, trivial⟩ (by simp [lt_row]) (by simp [SV.lt, ltL]) (fun ρ => ?_) (hK z ty)
        simp only [rn_tup, rnL_cons, rnL_nil, rn_sl_at0, rn_b, List.getElem?_cons_zero, Option.join_some, rnSl_s]
      · have hK := h0 (openB_n fun h => hbig ⟨h.2.2.1, h.2.2.2.1, h.2.2.2.2⟩)
        refine fn_rule tabOK Tryz.func34 rfl Tryz.call34 (by kernel_rfl) (fun hM => ?_)
        (refine top_in ?_; simp -implicitDefEqProofs only [Tryz.ntmps34, Tryz.results34, go_sem, -List.reduceReplicate, ↓L_gdZ_tt, ↓L_gdZ_tf, ↓L_gdZ_ft, ↓L_gdZ_ff, ↓T_and, ↓T_imp, ↓T_all, b1, b2, w16]; try simp only [top_out])
        repeat' (with_reducible first | refine And.intro ?_ ?_ | intro)
        all_goals first
          | exact dropC_self hM rfl hK
          | (exfalso; omega)
    · have b2 : ((nonce.length : Int) != 12) = true := bneN n12
      have hK := h0 (openB_n fun h => n12 h.2.1)
      refine fn_rule tabOK Tryz.func34 rfl Tryz.call34 (by kernel_rfl) (fun hM => ?_)
      (refine top_in ?_; simp -implicitDefEqProofs only [Tryz.ntmps34, Tryz.results34, go_sem, -List.reduceReplicate, ↓L_gdZ_tt, ↓L_gdZ_tf, ↓L_gdZ_ft, ↓L_gdZ_ff, ↓T_and, ↓T_imp, ↓T_all, b1, b2, w16]; try simp only [top_out])
      repeat' (with_reducible first | refine And.intro ?_ ?_ | intro)
      all_goals exact dropC_self hM rfl hK
  · have b1 : ((key.length : Int) != 32) = true := bneN k32
    have hK := h0 (openB_n fun h => k32 h.1)
    refine fn_rule tabOK Tryz.func34 rfl Tryz.call34 (by kernel_rfl) (fun hM => ?_)
    (refine top_in ?_; simp -implicitDefEqProofs only [Tryz.ntmps34, Tryz.results34, go_sem, -List.reduceReplicate, ↓L_gdZ_tt, ↓L_gdZ_tf, ↓L_gdZ_ft, ↓L_gdZ_ff, ↓T_and, ↓T_imp, ↓T_all, b1, w16]; try simp only [top_out])
    repeat' (with_reducible first | refine And.intro ?_ ?_ | intro)
    all_goals exact dropC_self hM rfl hK
def sealU (key nonce ad text : List (BitVec 8)) : List (BitVec 8) := if sealE key nonce ad text = 0 then sealL key nonce ad text else []
def openU (key nonce ad s : List (BitVec 8)) : List (BitVec 8) := if openB key nonce ad s = true then openL key nonce s else []
theorem seal_u (nk ok lk ck nn no ln nc na oa la ca nt ot lt ct : Nat) (key nonce ad text : List (BitVec 8)) (M : List Blk) (K : SV → List Blk → Prop)
    (hk : BAt M nk ok key) (hlk : lk = key.length) (hck : lk ≤ ck) (hmk : lk ≤ 140737488355000) (hn : BAt M nn no nonce) (hln : ln = nonce.length) (ha : BAt M na oa ad) (hla : la = ad.length) (hca : la ≤ ca)
    (ht : BAt M nt ot text) (hlt : lt = text.length) (hct : lt ≤ ct)
    (hK : ∀ z ty, K (.tup [.sl M.length 0 (sealU key nonce ad text).length ((sealU key nonce ad text).length + z.length), .i .i64 (sealE key nonce ad text)]) (M ++ [.row (bS (sealU key nonce ad text ++ z)) ty])) :
    callVC Tryz.prog 31 [.sl nk ok lk ck, .sl nn no ln nc, .sl na oa la ca, .sl nt ot lt ct] M K := by
  refine callVC_drop (callVC_names (fun hM => ?_) Tryz.call31)
  refine seal_ok nk ok lk ck nn no ln nc na oa la ca nt ot lt ct key nonce ad text M _ hk hlk hck hmk hn hln ha hla hca ht hlt hct (fun h z ty => ?_) (fun h => ?_)
  · have := hK z ty
    unfold sealU at this
    rw [if_pos h, h, sealL_len] at this
    exact dropC_all (by simp) this
  · have := hK [] 0
    unfold sealU at this
    rw [if_neg h] at this
    exact drop8nt hM this
theorem open_u (nk ok lk ck nn no ln nc na oa la ca nt ot lt ct : Nat) (key nonce ad s : List (BitVec 8)) (M : List Blk) (K : SV → List Blk → Prop)
    (hk : BAt M nk ok key) (hlk : lk = key.length) (hck : lk ≤ ck) (hmk : lk ≤ 140737488355000) (hn : BAt M nn no nonce) (hln : ln = nonce.length) (ha : BAt M na oa ad) (hla : la = ad.length) (hca : la ≤ ca)
    (ht : BAt M nt ot s) (hlt : lt = s.length) (hct : lt ≤ ct) (hms : lt ≤ 140737488355000)
    (hK : ∀ z ty, K (.tup [.sl M.length 0 (openU key nonce ad s).length ((openU key nonce ad s).length + z.length), .b (openB key nonce ad s)]) (M ++ [.row (bS (openU key nonce ad s ++ z)) ty])) :
    callVC Tryz.prog 34 [.sl nk ok lk ck, .sl nn no ln nc, .sl na oa la ca, .sl nt ot lt ct] M K := by
  refine callVC_drop (callVC_names (fun hM => ?_) Tryz.call34)
  refine open_ok nk ok lk ck nn no ln nc na oa la ca nt ot lt ct key nonce ad s M _ hk hlk hck hmk hn hln ha hla hca ht hlt hct hms (fun h z ty => ?_) (fun h => ?_)
  · have := hK z ty
    unfold openU at this
    rw [if_pos h, h, openL_len] at this
    exact dropC_all (by simp) this
  · have := hK [] 0
    unfold openU at this
    rw [if_neg (by rw [h]; decide), h] at this
    exact drop8nb hM this
theorem cry_twice (E : List (BitVec 8) → List (BitVec 8)) (nonce text : List (BitVec 8)) : cryL E nonce (cryL E nonce text) = text := by
  have h : (cryL E nonce text).length = text.length := cryL_len _ _ _
  refine getD_ext' (n := text.length) (by rw [cryL_len, h]) rfl fun j hj => ?_
  unfold cryL
  rw [gl_getD (by rw [gl_len]; exact hj), gl_getD hj, BitVec.xor_assoc, BitVec.xor_self, BitVec.xor_zero]
theorem seal_take (key nonce ad text : List (BitVec 8)) : (sealL key nonce ad text).take ((sealL key nonce ad text).length - 16) = cryL (encE key) nonce text := by
  rw [sealL_len, Nat.add_sub_cancel, sealL, List.take_append_of_le_length (by rw [cryL_len]; exact Nat.le_refl _), List.take_of_length_le (by rw [cryL_len]; exact Nat.le_refl _)]
theorem seal_drop (key nonce ad text : List (BitVec 8)) : (sealL key nonce ad text).drop ((sealL key nonce ad text).length - 16) = tagL (encE key) nonce ad (cryL (encE key) nonce text) := by
  rw [sealL_len, Nat.add_sub_cancel, sealL, List.drop_append_of_le_length (by rw [cryL_len]; exact Nat.le_refl _), List.drop_eq_nil_of_le (by rw [cryL_len]; exact Nat.le_refl _), List.nil_append]
theorem open_seal {key nonce ad text : List (BitVec 8)} (h : sealE key nonce ad text = 0) : openB key nonce ad (sealL key nonce ad text) = true ∧ openL key nonce (sealL key nonce ad text) = text := by
  obtain ⟨h1, h2, h3, h4⟩ := sealE_0 h
  refine ⟨openB_ok ⟨h1, h2, h3, by rw [sealL_len]; omega, by rw [sealL_len]; omega⟩ ?_, ?_⟩
  · unfold openT; rw [seal_take, seal_drop]
  · unfold openL; rw [seal_take, cry_twice]
theorem seal_open {key nonce ad s : List (BitVec 8)} (h : openB key nonce ad s = true) : sealE key nonce ad (openL key nonce s) = 0 ∧ sealL key nonce ad (openL key nonce s) = s := by
  obtain ⟨⟨h1, h2, h3, h4, h5⟩, h6⟩ := openB_t h
  refine ⟨sealE_ok h1 h2 h3 (by rw [openL_len]; omega), ?_⟩
  unfold sealL openL
  rw [cry_twice]
  unfold openT at h6
  rw [← h6, List.take_append_drop]
end Go.Proofs.YtdkdbeamimkljaaGreatDoor.Eng
