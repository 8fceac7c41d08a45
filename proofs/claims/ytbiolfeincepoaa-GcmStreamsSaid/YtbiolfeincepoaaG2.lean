/- A text xored with its stream. -/
import Derived.Test.YtbiolfeincepoaaG1
namespace Go.Proofs.Ytbiolfeincepoaa.Eng
open Go Go.RowKit
set_option linter.unusedSimpArgs false
set_option linter.unusedVariables false

theorem rn_fn {τ : Nat → Option Nat} {f : Fn} {x c : List SV} : (SV.fn f x c).rn τ = .fn f (rnL τ x) (rnL τ c) := rfl
theorem keepP {m0 : Nat} {ks : List (Option Nat)} {L : List Blk} {k m off : Nat} {ty : TypeId} (hm : m < m0) (h : L[k]? = some (.row [.p m off] ty)) : BlkRn (tau m0 ks) L (some k) (.row [.p m off] ty) :=
  ⟨_, h, rfl, fun ρ => by rw [rnL, rnL, rn_p hm]⟩
theorem keepSl {m0 : Nat} {ks : List (Option Nat)} {L : List Blk} {k n o l c : Nat} {ty : TypeId} (hn : n < m0) (h : L[k]? = some (.row [.sl n o l c] ty)) : BlkRn (tau m0 ks) L (some k) (.row [.sl n o l c] ty) :=
  ⟨_, h, rfl, fun ρ => by rw [rnL, rnL, rn_sl hn]⟩
theorem keep32 {τ : Nat → Option Nat} {L : List Blk} {k : Nat} {x : BitVec 32} {ty : TypeId} (h : L[k]? = some (.row [.u32 x] ty)) : BlkRn τ L (some k) (.row [.u32 x] ty) :=
  ⟨_, h, rfl, fun ρ => rfl⟩

theorem stream_ok (m nn no nc : Nat) (M : List Blk) (K : SV → List Blk → Prop)
    (hK : K (.fn (.func 40) [] [.p (M.length + 2) 0, .p M.length 0, .p (M.length + 1) 0]) (M ++ [.row [.p m 0] 38, .row [.sl nn no 12 nc] 22, .row [.u32 1#32] 67])) :
    callVC Try.prog 26 [.p m 0, .sl nn no 12 nc] M K := by
  refine fn_rule tabOK Try.func26 rfl Try.call26 (by kernel_rfl) (fun hM => ?_)
  (refine top_in ?_; simp -implicitDefEqProofs only [Try.ntmps26, Try.results26, go_sem, -List.reduceReplicate, ↓L_gdZ_tt, ↓L_gdZ_tf, ↓L_gdZ_ft, ↓L_gdZ_ff, ↓T_and, ↓T_imp, ↓T_all, Nat.reduceBEq, Nat.reduceAdd, Nat.reduceSub, Nat.reduceMul, Nat.reduceLT, Nat.reduceLeDiff, Nat.reduceEqDiff, Int.reduceLT, Int.reduceLE, Int.reduceAdd, Int.reduceSub, Int.reduceMul, Int.reduceNeg, Int.reduceToNat, Int.reduceEq, Int.reduceNe, reduceIte, reduceCtorEq, BitVec.reduceOfInt, BitVec.reduceToNat]; try simp only [top_out])
  exact dropC_all (by simp) hK

def cryL (E : List (BitVec 8) → List (BitVec 8)) (nonce text : List (BitVec 8)) : List (BitVec 8) := gl text.length fun j => text.getD j 0#8 ^^^ (E (ctrL nonce (BitVec.ofNat 32 (2 + j / 16)))).getD (j % 16) 0#8
theorem cryL_len (E : List (BitVec 8) → List (BitVec 8)) (nonce text : List (BitVec 8)) : (cryL E nonce text).length = text.length := gl_len
def pad16 (l : List (BitVec 8)) : List (BitVec 8) := gl 16 fun j => l.getD j 0#8
theorem pad16_len (l : List (BitVec 8)) : (pad16 l).length = 16 := gl_len
theorem pad16_copy (l : List (BitVec 8)) : (List.replicate 16 0#8).take 0 ++ l.take 16 ++ (List.replicate 16 0#8).drop (0 + Nat.min l.length 16) = pad16 l := by
  refine gl_eq (by rw [List.length_append, List.length_append, List.length_take, List.length_take, List.length_drop, List.length_replicate, show Nat.min l.length 16 = min l.length 16 from rfl]; omega) 0#8 fun j hj => ?_
  rw [List.take_zero, List.nil_append, Nat.zero_add, List.getD_eq_getElem?_getD, List.getD_eq_getElem?_getD]
  have hm : Nat.min l.length 16 = min l.length 16 := rfl
  rw [hm]
  by_cases h : j < l.length
  · rw [List.getElem?_append_left (by simp; omega), List.getElem?_take_of_lt hj]
  · rw [List.getElem?_append_right (by simp; omega), List.getElem?_drop, List.getElem?_replicate, List.getElem?_eq_none (l := l) (by omega)]
    split <;> rfl
theorem getD_ext' {x y : List (BitVec 8)} {n : Nat} (hx : x.length = n) (hy : y.length = n) (h : ∀ j, j < n → x.getD j 0#8 = y.getD j 0#8) : x = y := by
  rw [gl_self hx 0#8, gl_self hy 0#8]
  exact gl_ext h
theorem cryL_step (E : List (BitVec 8) → List (BitVec 8)) {nonce text : List (BitVec 8)} {r : Nat} (hr : 16 * r < text.length) :
    (cryL E nonce text).take (16 * r) ++ (xorL (pad16 (text.drop (16 * r))) (E (ctrL nonce (BitVec.ofNat 32 (2 + r))))).take (min (text.length - 16 * r) 16) = (cryL E nonce text).take (16 * r + min (text.length - 16 * r) 16) := by
  have hl := cryL_len E nonce text
  have hx := xorL_len (pad16 (text.drop (16 * r))) (E (ctrL nonce (BitVec.ofNat 32 (2 + r))))
  rw [List.take_add]
  congr 1
  refine getD_ext' (n := min (text.length - 16 * r) 16) (by simp [hx]) (by simp [hl]) fun j hj => ?_
  rw [List.getD_eq_getElem?_getD, List.getD_eq_getElem?_getD, List.getElem?_take_of_lt hj, List.getElem?_take_of_lt hj, List.getElem?_drop, ← List.getD_eq_getElem?_getD, ← List.getD_eq_getElem?_getD]
  unfold xorL cryL pad16
  rw [gl_getD (by omega), gl_getD (by omega), gl_getD (by omega), List.getD_eq_getElem?_getD (l := text.drop _), List.getElem?_drop, ← List.getD_eq_getElem?_getD, show (16 * r + j) / 16 = r by omega, show (16 * r + j) % 16 = j by omega]
theorem BAt.adv {M : List Blk} {n o c q : Nat} {l : List (BitVec 8)} (h : BAt M n o l) (hq : q ≤ l.length) (hc : l.length ≤ c) : BAt M n (if c = q then o else o + q) (l.drop q) := by
  by_cases e : c = q
  · rw [if_pos e]
    have : l.drop q = [] := List.drop_eq_nil_of_le (by omega)
    rw [this]
    exact ⟨h.lt, by have := h.len; simp; omega, by simp; rfl⟩
  · rw [if_neg e]
    have := h.sub (a := q) (k := l.length - q) (by omega)
    rwa [List.take_of_length_le (by rw [List.length_drop]; exact Nat.le_refl _)] at this
theorem min_nat (a b : Nat) : Nat.min a b = min a b := rfl
set_option maxHeartbeats 1000000 in
theorem crypt_ok (m nn no nc nt ot len ct : Nat) (C nonce text : List (BitVec 8)) (t4 : TypeId) (M : List Blk) (K : SV → List Blk → Prop) (hC : M[m]? = some (.row (bS C) t4)) (hCl : C.length = 496) (hn : BAt M nn no nonce) (hl : nonce.length = 12)
    (ht : BAt M nt ot text) (hlen : len = text.length) (hcap : len ≤ ct) (hmax : len ≤ 140737488355000)
    (hK : ∀ z ty, K (.sl M.length 0 text.length (text.length + z.length)) (M ++ [.row (bS (cryL (fun x => aesN C x 14) nonce text ++ z)) ty])) :
    callVC Try.prog 18 [.p m 0, .sl nn no 12 nc, .sl nt ot len ct] M K := by
  subst hlen
  have hm : m < M.length := (List.getElem?_eq_some_iff.1 hC).1
  have w0 : IntKind.i64.wrap ((text.length : Int) + 16) = ((text.length + 16 : Nat) : Int) := by rw [w64 (by omega) (by omega)]; omega
  refine fn_rule tabOK Try.func18 rfl Try.call18 (by kernel_rfl) (fun hM => ?_)
  (refine top_in ?_; simp -implicitDefEqProofs only [Try.ntmps18, Try.results18, go_sem, -List.reduceReplicate, ↓L_gdZ_tt, ↓L_gdZ_tf, ↓L_gdZ_ft, ↓L_gdZ_ff, ↓T_and, ↓T_imp, ↓T_all, Nat.reduceBEq, Nat.reduceAdd, Nat.reduceSub, Nat.reduceMul, Nat.reduceLT, Nat.reduceLeDiff, Nat.reduceEqDiff, Int.reduceLT, Int.reduceLE, Int.reduceAdd, Int.reduceSub, Int.reduceMul, Int.reduceNeg, Int.reduceToNat, Int.reduceEq, Int.reduceNe, reduceIte, reduceCtorEq, BitVec.reduceOfInt, BitVec.reduceToNat, w0]; try simp only [top_out])
  refine ⟨by omega, by omega, by omega, ?_⟩
  refine stream_ok m nn no nc _ _ ?_
  (refine top_in ?_; simp -implicitDefEqProofs only [go_sem, -List.reduceReplicate, ↓L_gdZ_tt, ↓L_gdZ_tf, ↓L_gdZ_ft, ↓L_gdZ_ff, ↓T_and, ↓T_imp, ↓T_all, Nat.reduceBEq, Nat.reduceAdd, Nat.reduceSub, Nat.reduceMul, Nat.reduceLT, Nat.reduceLeDiff, Nat.reduceEqDiff, Int.reduceLT, Int.reduceLE, Int.reduceAdd, Int.reduceSub, Int.reduceMul, Int.reduceNeg, Int.reduceToNat, Int.reduceEq, Int.reduceNe, reduceIte, reduceCtorEq, BitVec.reduceOfInt, BitVec.reduceToNat]; try simp only [top_out])
  generalize hE : (fun x => aesN C x 14) = E at hK
  have hcl := cryL_len E nonce text
  refine loop_gc tabOK (by kernel_rfl) (fun n ts M' => ∃ (r k o c : Nat) (z : List (BitVec 8)) (ty : TypeId), k + n = text.length ∧ (k = 16 * r ∨ k = text.length) ∧ BAt M nt o (text.drop k) ∧ text.length - k ≤ c ∧
      frC [none, none, some (.sl nt o (text.length - k) c), none, none, none, none, some (.sl M.length 0 k (k + z.length)), some (.fn (.func 40) [] [.p (M.length + 3) 0, .p (M.length + 1) 0, .p (M.length + 2) 0]), none, none, none, none, none, none, none, none, none, none, none, none, none, none, none, none, none, none, none, none, none, none, none, none, none, none, none] ts ∧
      M' = M ++ [.row (bS ((cryL E nonce text).take k ++ z)) ty, .row [.p m 0] 38, .row [.sl nn no 12 nc] 22, .row [.u32 (BitVec.ofNat 32 (1 + r))] 67]) text.length ?_ ?_
  · refine covF_self ⟨0, 0, ot, ct, List.replicate (text.length + 16) 0#8, _, by omega, .inl rfl, ht, by omega, by simp [frC], rfl⟩
  · rintro n ts _ ⟨r, k, o, c, z, ty, hk, hr, hb, hc, hf, rfl⟩
    by_cases hlt : k < text.length
    · obtain rfl : k = 16 * r := by omega
      have hp : (0 < ((text.length - 16 * r : Nat) : Int)) = True := by simp; omega
      obtain ⟨f, rfl⟩ := frC_open _ _ 0 hf
      clear hf
      (refine top_in ?_; simp -implicitDefEqProofs only [go_sem, -List.reduceReplicate, ↓L_gdZ_tt, ↓L_gdZ_tf, ↓L_gdZ_ft, ↓L_gdZ_ff, ↓T_and, ↓T_imp, ↓T_all, Nat.reduceBEq, Nat.reduceAdd, Nat.reduceSub, Nat.reduceMul, Nat.reduceLT, Nat.reduceLeDiff, Nat.reduceEqDiff, Int.reduceLT, Int.reduceLE, Int.reduceAdd, Int.reduceSub, Int.reduceMul, Int.reduceNeg, Int.reduceToNat, Int.reduceEq, Int.reduceNe, reduceIte, reduceCtorEq, BitVec.reduceOfInt, BitVec.reduceToNat, hp]; try simp only [top_out])
      have hdl : (text.drop (16 * r)).length = text.length - 16 * r := List.length_drop
      generalize hq : min (text.length - 16 * r) 16 = q
      have hst := cryL_step E (nonce := nonce) hlt
      rw [hq] at hst
      generalize hre : text.drop (16 * r) = re at hdl hst hb
      have hs := hb.app (L := [.row (bS ((cryL E nonce text).take (16 * r) ++ z)) ty, .row [.p m 0] 38, .row [.sl nn no 12 nc] 22, .row [.u32 (BitVec.ofNat 32 (1 + r))] 67, .row (bS (List.replicate 16 0#8)) 42]) |>.src (cap := c)
      rw [hdl] at hs
      refine copy8 (M.length + 4) 0 (List.replicate 16 0#8) re 42 rfl (by rw [get_app]; rfl) (by simp) hs ?_
      rw [pad16_copy, show Nat.min re.length 16 = q by rw [hdl]; exact hq]
      have hpl := pad16_len re
      (refine top_in ?_; simp -implicitDefEqProofs only [go_sem, -List.reduceReplicate, ↓L_gdZ_tt, ↓L_gdZ_tf, ↓L_gdZ_ft, ↓L_gdZ_ff, ↓T_and, ↓T_imp, ↓T_all, Nat.reduceBEq, Nat.reduceAdd, Nat.reduceSub, Nat.reduceMul, Nat.reduceLT, Nat.reduceLeDiff, Nat.reduceEqDiff, Int.reduceLT, Int.reduceLE, Int.reduceAdd, Int.reduceSub, Int.reduceMul, Int.reduceNeg, Int.reduceToNat, Int.reduceEq, Int.reduceNe, reduceIte, reduceCtorEq, BitVec.reduceOfInt, BitVec.reduceToNat, hpl]; try simp only [top_out])
      refine draw_rule tabOK (by kernel_rfl : _) (.p 0 (.p 1 (.e 2 [0] (.e 3 [] (.e 4 [] .nil .no) .no) .no))) (by kernel_rfl) (by kernel_rfl) ?_
      (refine top_in ?_; simp -implicitDefEqProofs only [go_sem, -List.reduceReplicate, ↓L_gdZ_tt, ↓L_gdZ_tf, ↓L_gdZ_ft, ↓L_gdZ_ff, ↓T_and, ↓T_imp, ↓T_all, Nat.reduceBEq, Nat.reduceAdd, Nat.reduceSub, Nat.reduceMul, Nat.reduceLT, Nat.reduceLeDiff, Nat.reduceEqDiff, Int.reduceLT, Int.reduceLE, Int.reduceAdd, Int.reduceSub, Int.reduceMul, Int.reduceNeg, Int.reduceToNat, Int.reduceEq, Int.reduceNe, reduceIte, reduceCtorEq, BitVec.reduceOfInt, BitVec.reduceToNat, hpl]; try simp only [top_out])
      refine next_ok (M.length + 3) (M.length + 1) (M.length + 2) m nn no nc nonce C (BitVec.ofNat 32 (1 + r)) _ _ _ t4 _ _ (by rw [get_app]; rfl) (by rw [get_app]; rfl) (by rw [get_app]; rfl) (by rw [get_lt hm]; exact hC) hCl hn.app hl (by omega) (by have := hn.lt; omega) (by omega) (by omega) ?_
      rw [show aesN C (ctrL nonce (BitVec.ofNat 32 (1 + r) + 1#32)) 14 = E (ctrL nonce (BitVec.ofNat 32 (2 + r))) by rw [← hE, show BitVec.ofNat 32 (1 + r) + 1#32 = BitVec.ofNat 32 (2 + r) by rw [show 2 + r = 1 + r + 1 by omega, BitVec.ofNat_add (1 + r)]]]
      have hel : (E (ctrL nonce (BitVec.ofNat 32 (2 + r)))).length = 16 := by rw [← hE]; exact aesN_len _ _ _
      (refine top_in ?_; simp -implicitDefEqProofs only [go_sem, -List.reduceReplicate, ↓L_gdZ_tt, ↓L_gdZ_tf, ↓L_gdZ_ft, ↓L_gdZ_ff, ↓T_and, ↓T_imp, ↓T_all, Nat.reduceBEq, Nat.reduceAdd, Nat.reduceSub, Nat.reduceMul, Nat.reduceLT, Nat.reduceLeDiff, Nat.reduceEqDiff, Int.reduceLT, Int.reduceLE, Int.reduceAdd, Int.reduceSub, Int.reduceMul, Int.reduceNeg, Int.reduceToNat, Int.reduceEq, Int.reduceNe, reduceIte, reduceCtorEq, BitVec.reduceOfInt, BitVec.reduceToNat, hpl, hel]; try simp only [top_out])
      refine xor_ok _ _ hpl hel _ _ ?_
      have hxl := xorL_len (pad16 re) (E (ctrL nonce (BitVec.ofNat 32 (2 + r))))
      have hb2 : BitVec.ofNat 32 (1 + r) + 1#32 = BitVec.ofNat 32 (1 + (r + 1)) := by rw [show 1 + (r + 1) = 1 + r + 1 by omega, BitVec.ofNat_add (1 + r)]
      rw [hb2]
      (refine top_in ?_; simp -implicitDefEqProofs only [go_sem, -List.reduceReplicate, ↓L_gdZ_tt, ↓L_gdZ_tf, ↓L_gdZ_ft, ↓L_gdZ_ff, ↓T_and, ↓T_imp, ↓T_all, Nat.reduceBEq, Nat.reduceAdd, Nat.reduceSub, Nat.reduceMul, Nat.reduceLT, Nat.reduceLeDiff, Nat.reduceEqDiff, Int.reduceLT, Int.reduceLE, Int.reduceAdd, Int.reduceSub, Int.reduceMul, Int.reduceNeg, Int.reduceToNat, Int.reduceEq, Int.reduceNe, reduceIte, reduceCtorEq, BitVec.reduceOfInt, BitVec.reduceToNat, hpl, hel, hxl]; try simp only [top_out])
      repeat (with_reducible refine And.intro (by omega) ?_)
      generalize hxx : xorL (pad16 re) (E (ctrL nonce (BitVec.ofNat 32 (2 + r)))) = xx at hxl hst
      have htl : (xx.take q).length = q := by rw [List.length_take]; omega
      have htk : ((cryL E nonce text).take (16 * r)).length = 16 * r := by rw [List.length_take]; omega
      refine app8 M.length ((cryL E nonce text).take (16 * r)) z (xx.take q) ty rfl rfl rfl (by rw [get_app0]; rfl) htk.symm (by rw [htk]) ?_ (by omega) ?_
      · have := (BAt.row (M := M ++ [.row (bS ((cryL E nonce text).take (16 * r) ++ z)) ty, .row [.p m 0] 38, .row [.sl nn no 12 nc] 22, .row [.u32 (BitVec.ofNat 32 (1 + (r + 1)))] 67, .row (bS xx) 42]) (n := M.length + 4) (l := xx.take q) (z := xx.drop q) (ty := 42) (by rw [get_app, List.take_append_drop]; rfl)).src (cap := 16)
        rw [htl] at this
        exact this
      intro z' ty'
      rw [hst, htl, htk]
      (refine top_in ?_; simp -implicitDefEqProofs only [go_sem, -List.reduceReplicate, ↓L_gdZ_tt, ↓L_gdZ_tf, ↓L_gdZ_ft, ↓L_gdZ_ff, ↓T_and, ↓T_imp, ↓T_all, Nat.reduceBEq, Nat.reduceAdd, Nat.reduceSub, Nat.reduceMul, Nat.reduceLT, Nat.reduceLeDiff, Nat.reduceEqDiff, Int.reduceLT, Int.reduceLE, Int.reduceAdd, Int.reduceSub, Int.reduceMul, Int.reduceNeg, Int.reduceToNat, Int.reduceEq, Int.reduceNe, reduceIte, reduceCtorEq, BitVec.reduceOfInt, BitVec.reduceToNat]; try simp only [top_out])
      have hsub : text.length - (16 * r + q) = text.length - 16 * r - q := by omega
      repeat (with_reducible refine And.intro (by omega) ?_)
      have hdr : text.drop (16 * r + q) = re.drop q := by rw [← hre, List.drop_drop]
      have hq' : 16 * r + q = 16 * (r + 1) ∨ 16 * r + q = text.length := by omega
      have hb' := hb.adv (c := c) (q := q) (by omega) (by omega)
      generalize (if c = q then o else o + q) = o' at hb'
      refine covF_gc hM [some 5, some 1, some 2, some 3] [none, none, some (.sl nt o' (text.length - 16 * r - q) (c - q)), none, none, none, none, some (.sl M.length 0 (16 * r + q) (16 * r + (q + z'.length))), some (.fn (.func 40) [] [.p (M.length + 3) 0, .p (M.length + 1) 0, .p (M.length + 2) 0]), none, none, none, none, none, none, none, none, none, none, none, none, none, none, none, none, none, none, none, none, none, none, none, none, none, none, none]
        [.row (bS ((cryL E nonce text).take (16 * r + q) ++ z')) ty', .row [.p m 0] 38, .row [.sl nn no 12 nc] 22, .row [.u32 (BitVec.ofNat 32 (1 + (r + 1)))] 67] rfl ⟨keep8 rfl, keepP hm rfl, keepSl hn.lt rfl, keep32 rfl, trivial⟩ ?_ ?_ ?_
        (fun ts' h => ⟨n - q, by omega, r + 1, 16 * r + q, o', c - q, z', ty', by omega, hq', by rw [hdr]; exact hb', by omega, by rw [hsub, Nat.add_assoc]; exact h, rfl⟩)
      · have := hn.lt
        simp only [List.all_cons, List.all_nil, lt_row, Bool.and_true, Bool.true_and, Blk.lt, Int.natCast_add, cast_lit, Nat.add_assoc, rnSl_n, frRn_nil, frRn_s, frRn_n, frLt_nil, frLt_s, frLt_n, rn_i, rn_u8, rn_u32, rn_u64, rn_b, rn_str, rn_sn, rn_pn, rn_agg, rn_tup, rnL_nil, rnL_cons, rn_bS, rn_nil, rn_sl_at, rn_sl_at0, rn_p_at, rn_p_at0, rnSl_s, rnP_s, lt_i, lt_u8, lt_u32, lt_u64, lt_b, lt_sl, lt_p, lt_agg, lt_tup, ltL_nil', ltL_cons, bS_lt, List.getElem?_cons_succ, List.getElem?_cons_zero, Option.join_some, Nat.add_zero, Nat.zero_add, implies_true, and_self, and_true, true_and, Bool.and_true, Bool.true_and, Bool.and_self, List.length_cons, List.length_nil, List.length_append, decide_eq_true_eq, Bool.and_eq_true]; omega
      · simp only [Int.natCast_add, cast_lit, Nat.add_assoc, rnSl_n, frRn_nil, frRn_s, frRn_n, frLt_nil, frLt_s, frLt_n, rn_i, rn_u8, rn_u32, rn_u64, rn_b, rn_str, rn_sn, rn_pn, rn_agg, rn_tup, rnL_nil, rnL_cons, rn_bS, rn_nil, rn_sl_at, rn_sl_at0, rn_p_at, rn_p_at0, rnSl_s, rnP_s, lt_i, lt_u8, lt_u32, lt_u64, lt_b, lt_sl, lt_p, lt_agg, lt_tup, ltL_nil', ltL_cons, bS_lt, List.getElem?_cons_succ, List.getElem?_cons_zero, Option.join_some, Nat.add_zero, Nat.zero_add, implies_true, and_self, and_true, true_and, Bool.and_true, Bool.true_and, Bool.and_self, List.length_cons, List.length_nil, List.length_append, decide_eq_true_eq, Bool.and_eq_true, rn_fn, rn_sl ht.lt]
      · have := ht.lt
        simp only [Int.natCast_add, cast_lit, Nat.add_assoc, rnSl_n, frRn_nil, frRn_s, frRn_n, frLt_nil, frLt_s, frLt_n, rn_i, rn_u8, rn_u32, rn_u64, rn_b, rn_str, rn_sn, rn_pn, rn_agg, rn_tup, rnL_nil, rnL_cons, rn_bS, rn_nil, rn_sl_at, rn_sl_at0, rn_p_at, rn_p_at0, rnSl_s, rnP_s, lt_i, lt_u8, lt_u32, lt_u64, lt_b, lt_sl, lt_p, lt_agg, lt_tup, ltL_nil', ltL_cons, bS_lt, List.getElem?_cons_succ, List.getElem?_cons_zero, Option.join_some, Nat.add_zero, Nat.zero_add, implies_true, and_self, and_true, true_and, Bool.and_true, Bool.true_and, Bool.and_self, List.length_cons, List.length_nil, List.length_append, decide_eq_true_eq, Bool.and_eq_true, lt_fn]
        omega
    · obtain rfl : k = text.length := by omega
      have hp : (0 < ((text.length - text.length : Nat) : Int)) = False := by simp
      obtain ⟨f, rfl⟩ := frC_open _ _ 0 hf
      clear hf
      (refine top_in ?_; simp -implicitDefEqProofs only [go_sem, -List.reduceReplicate, ↓L_gdZ_tt, ↓L_gdZ_tf, ↓L_gdZ_ft, ↓L_gdZ_ff, ↓T_and, ↓T_imp, ↓T_all, Nat.reduceBEq, Nat.reduceAdd, Nat.reduceSub, Nat.reduceMul, Nat.reduceLT, Nat.reduceLeDiff, Nat.reduceEqDiff, Int.reduceLT, Int.reduceLE, Int.reduceAdd, Int.reduceSub, Int.reduceMul, Int.reduceNeg, Int.reduceToNat, Int.reduceEq, Int.reduceNe, reduceIte, reduceCtorEq, BitVec.reduceOfInt, BitVec.reduceToNat, hp]; try simp only [top_out])
      rw [List.take_of_length_le (by omega)]
      refine dropC_gc (L := [.row (bS (cryL E nonce text ++ z)) ty, .row [.p m 0] 38, .row [.sl nn no 12 nc] 22, .row [.u32 (BitVec.ofNat 32 (1 + r))] 67]) hM [some 0] (.sl M.length 0 text.length (text.length + z.length)) [.row (bS (cryL E nonce text ++ z)) ty] rfl ⟨keep8 rfl, trivial⟩ (by simp [lt_row]) (by simp [SV.lt]) (fun ρ => ?_) (hK z ty)
      simp only [rn_sl_at0, List.getElem?_cons_zero, Option.join_some, rnSl_s, Nat.add_zero]

theorem cryL_snoc (E : List (BitVec 8) → List (BitVec 8)) {nonce text : List (BitVec 8)} {k : Nat} (hk : k < text.length) :
    (cryL E nonce text).take k ++ [text.getD k 0#8 ^^^ (E (ctrL nonce (BitVec.ofNat 32 (2 + k / 16)))).getD (k % 16) 0#8] = (cryL E nonce text).take (k + 1) := by
  rw [take_snoc (by rw [cryL_len]; exact hk)]
  unfold cryL
  rw [gl_getD hk]
set_option maxHeartbeats 1000000 in
theorem streamed_ok (m nn no nc nt ot len ct : Nat) (C nonce text : List (BitVec 8)) (t4 : TypeId) (M : List Blk) (K : SV → List Blk → Prop) (hC : M[m]? = some (.row (bS C) t4)) (hCl : C.length = 752) (hT : ∀ v : BitVec 8, C.getD (256 + v.toNat) 0#8 = mul8L 8 2#8 v 0#8)
    (hn : BAt M nn no nonce) (hl : nonce.length = 12) (ht : BAt M nt ot text) (hlen : len = text.length) (hmax : len ≤ 140737488355000)
    (hK : ∀ z ty, K (.sl M.length 0 text.length (text.length + z.length)) (M ++ [.row (bS (cryL (fun x => refN4 C x 14) nonce text ++ z)) ty])) :
    callVC Try.prog 21 [.p m 0, .sl nn no 12 nc, .sl nt ot len ct] M K := by
  subst hlen
  have hm : m < M.length := (List.getElem?_eq_some_iff.1 hC).1
  refine fn_rule tabOK Try.func21 rfl Try.call21 (by kernel_rfl) (fun hM => ?_)
  (refine top_in ?_; simp -implicitDefEqProofs only [Try.ntmps21, Try.results21, go_sem, -List.reduceReplicate, ↓L_gdZ_tt, ↓L_gdZ_tf, ↓L_gdZ_ft, ↓L_gdZ_ff, ↓T_and, ↓T_imp, ↓T_all, Nat.reduceBEq, Nat.reduceAdd, Nat.reduceSub, Nat.reduceMul, Nat.reduceLT, Nat.reduceLeDiff, Nat.reduceEqDiff, Int.reduceLT, Int.reduceLE, Int.reduceAdd, Int.reduceSub, Int.reduceMul, Int.reduceNeg, Int.reduceToNat, Int.reduceEq, Int.reduceNe, reduceIte, reduceCtorEq, BitVec.reduceOfInt, BitVec.reduceToNat]; try simp only [top_out])
  generalize hE : (fun x => refN4 C x 14) = E at hK
  have hel : ∀ x, (E x).length = 16 := fun x => by rw [← hE]; exact refN4_len _ _ _
  have hcl := cryL_len E nonce text
  refine loop_gc tabOK (by kernel_rfl) (fun n ts M' => ∃ (k : Nat) (s z : List (BitVec 8)) (ty : TypeId), k + n = text.length ∧ s.length = 16 ∧ (k % 16 ≠ 0 → s = E (ctrL nonce (BitVec.ofNat 32 (2 + k / 16)))) ∧
      frC [some (.p m 0), some (.sl nn no 12 nc), some (.sl nt ot text.length ct), none, none, none, none, some (.sl M.length 0 k (k + z.length)), some (.p (M.length + 1) 0), some (.i .i64 k), none, none, none, none, none, none, none, none, none, none, none, none, none, none, none, none, none, none, none, none, none, none, none, none, none, none, none, none, none, none, none] ts ∧
      M' = M ++ [.row (bS ((cryL E nonce text).take k ++ z)) ty, .row (bS s) 42]) text.length ?_ ?_
  · refine covF_gc hM [none, some 0] [some (.p m 0), some (.sl nn no 12 nc), some (.sl nt ot text.length ct), none, none, none, none, some (.sl M.length 0 0 0), some (.p (M.length + 1) 0), some (.i .i64 0), none, none, none, none, none, none, none, none, none, none, none, none, none, none, none, none, none, none, none, none, none, none, none, none, none, none, none, none, none, none, none]
      [.row (bS []) 0, .row (bS (List.replicate 16 0#8)) 42] rfl ⟨rfl, keep8 rfl, trivial⟩ (by simp [lt_row]) ?_ ?_ (fun ts' h => ⟨0, List.replicate 16 0#8, [], 0, by omega, by simp, fun h => absurd rfl h, h, rfl⟩)
    · simp only [Int.natCast_add, cast_lit, Nat.add_assoc, rnSl_n, frRn_nil, frRn_s, frRn_n, frLt_nil, frLt_s, frLt_n, rn_i, rn_u8, rn_u32, rn_u64, rn_b, rn_str, rn_sn, rn_pn, rn_agg, rn_tup, rnL_nil, rnL_cons, rn_bS, rn_nil, rn_sl_at, rn_sl_at0, rn_p_at, rn_p_at0, rnSl_s, rnP_s, lt_i, lt_u8, lt_u32, lt_u64, lt_b, lt_sl, lt_p, lt_agg, lt_tup, ltL_nil', ltL_cons, bS_lt, List.getElem?_cons_succ, List.getElem?_cons_zero, Option.join_some, Nat.add_zero, Nat.zero_add, implies_true, and_self, and_true, true_and, Bool.and_true, Bool.true_and, Bool.and_self, List.length_cons, List.length_nil, List.length_append, decide_eq_true_eq, Bool.and_eq_true, rn_sl ht.lt, rn_sl hn.lt, rn_p hm]
    · have := ht.lt
      have := hn.lt
      simp only [Int.natCast_add, cast_lit, Nat.add_assoc, rnSl_n, frRn_nil, frRn_s, frRn_n, frLt_nil, frLt_s, frLt_n, rn_i, rn_u8, rn_u32, rn_u64, rn_b, rn_str, rn_sn, rn_pn, rn_agg, rn_tup, rnL_nil, rnL_cons, rn_bS, rn_nil, rn_sl_at, rn_sl_at0, rn_p_at, rn_p_at0, rnSl_s, rnP_s, lt_i, lt_u8, lt_u32, lt_u64, lt_b, lt_sl, lt_p, lt_agg, lt_tup, ltL_nil', ltL_cons, bS_lt, List.getElem?_cons_succ, List.getElem?_cons_zero, Option.join_some, Nat.add_zero, Nat.zero_add, implies_true, and_self, and_true, true_and, Bool.and_true, Bool.true_and, Bool.and_self, List.length_cons, List.length_nil, List.length_append, decide_eq_true_eq, Bool.and_eq_true]; omega
  · rintro n ts _ ⟨k, s, z, ty, hk, hsl, hs, hf, rfl⟩
    by_cases hlt : k < text.length
    · have hp : ((k : Int) < (text.length : Int)) = True := by simp; omega
      have q1 : (k : Int).tdiv 16 = ((k / 16 : Nat) : Int) := by rw [Int.tdiv_eq_ediv_of_nonneg (by omega)]; omega
      have r1 : (k : Int).tmod 16 = ((k % 16 : Nat) : Int) := by rw [Int.tmod_eq_emod_of_nonneg (by omega)]; omega
      have w1 : IntKind.i64.wrap ((k / 16 : Nat) : Int) = ((k / 16 : Nat) : Int) := w64 (by omega) (by omega)
      have w2 : IntKind.i64.wrap (2 + ((k / 16 : Nat) : Int)) = ((2 + k / 16 : Nat) : Int) := by rw [w64 (by omega) (by omega)]; omega
      have e8 := ht.is8 hlt
      have f8 := ht.cell8 hlt
      by_cases h0 : k % 16 = 0
      · have b0 : (((k % 16 : Nat) : Int) == 0) = true := by simp [h0]
        obtain ⟨f, rfl⟩ := frC_open _ _ 0 hf
        clear hf
        (refine top_in ?_; simp -implicitDefEqProofs only [go_sem, -List.reduceReplicate, ↓L_gdZ_tt, ↓L_gdZ_tf, ↓L_gdZ_ft, ↓L_gdZ_ff, ↓T_and, ↓T_imp, ↓T_all, Nat.reduceBEq, Nat.reduceAdd, Nat.reduceSub, Nat.reduceMul, Nat.reduceLT, Nat.reduceLeDiff, Nat.reduceEqDiff, Int.reduceLT, Int.reduceLE, Int.reduceAdd, Int.reduceSub, Int.reduceMul, Int.reduceNeg, Int.reduceToNat, Int.reduceEq, Int.reduceNe, reduceIte, reduceCtorEq, BitVec.reduceOfInt, BitVec.reduceToNat, hp, q1, r1, w1, w2, b0, hsl]; try simp only [top_out])
        refine refcounter_ok nn no nc nonce (2 + k / 16) _ _ hn.app hl ?_
        (refine top_in ?_; simp -implicitDefEqProofs only [go_sem, -List.reduceReplicate, ↓L_gdZ_tt, ↓L_gdZ_tf, ↓L_gdZ_ft, ↓L_gdZ_ff, ↓T_and, ↓T_imp, ↓T_all, Nat.reduceBEq, Nat.reduceAdd, Nat.reduceSub, Nat.reduceMul, Nat.reduceLT, Nat.reduceLeDiff, Nat.reduceEqDiff, Int.reduceLT, Int.reduceLE, Int.reduceAdd, Int.reduceSub, Int.reduceMul, Int.reduceNeg, Int.reduceToNat, Int.reduceEq, Int.reduceNe, reduceIte, reduceCtorEq, BitVec.reduceOfInt, BitVec.reduceToNat, ctrL_len]; try simp only [top_out])
        refine refblock_ok m C t4 (ctrL nonce (BitVec.ofNat 32 (2 + k / 16))) _ _ (by rw [get_lt hm]; exact hC) hCl (ctrL_len _ _) hT ?_
        rw [show refN4 C (ctrL nonce (BitVec.ofNat 32 (2 + k / 16))) 14 = E (ctrL nonce (BitVec.ofNat 32 (2 + k / 16))) by rw [← hE]]
        have hs0 := hsl
        have hsl := hel (ctrL nonce (BitVec.ofNat 32 (2 + k / 16)))
        (refine top_in ?_; simp -implicitDefEqProofs only [go_sem, -List.reduceReplicate, ↓L_gdZ_tt, ↓L_gdZ_tf, ↓L_gdZ_ft, ↓L_gdZ_ff, ↓T_and, ↓T_imp, ↓T_all, Nat.reduceBEq, Nat.reduceAdd, Nat.reduceSub, Nat.reduceMul, Nat.reduceLT, Nat.reduceLeDiff, Nat.reduceEqDiff, Int.reduceLT, Int.reduceLE, Int.reduceAdd, Int.reduceSub, Int.reduceMul, Int.reduceNeg, Int.reduceToNat, Int.reduceEq, Int.reduceNe, reduceIte, reduceCtorEq, BitVec.reduceOfInt, BitVec.reduceToNat, ctrL_len, hsl, hs0]; try simp only [top_out])
        refine draw_rule tabOK (by kernel_rfl : _) (.p 0 (.p 1 (.p 2 (.p 3 (.p 4 (.p 5 (.p 6 (.p 7 (.p 8 (.p 9 (.e 10 [] (.e 11 [] (.p 12 .nil) .no) .no))))))))))) (by kernel_rfl) (by kernel_rfl) ?_
        (refine top_in ?_; simp -implicitDefEqProofs only [go_sem, -List.reduceReplicate, ↓L_gdZ_tt, ↓L_gdZ_tf, ↓L_gdZ_ft, ↓L_gdZ_ff, ↓T_and, ↓T_imp, ↓T_all, Nat.reduceBEq, Nat.reduceAdd, Nat.reduceSub, Nat.reduceMul, Nat.reduceLT, Nat.reduceLeDiff, Nat.reduceEqDiff, Int.reduceLT, Int.reduceLE, Int.reduceAdd, Int.reduceSub, Int.reduceMul, Int.reduceNeg, Int.reduceToNat, Int.reduceEq, Int.reduceNe, reduceIte, reduceCtorEq, BitVec.reduceOfInt, BitVec.reduceToNat, hsl, r1, get_lt ht.lt, e8, f8]; try simp only [top_out])
        have htk : ((cryL E nonce text).take k).length = k := by rw [List.length_take]; omega
        have hle := ht.le (j := k + 1) (by omega)
        repeat (with_reducible refine And.intro (by omega) ?_)
        refine app8 M.length ((cryL E nonce text).take k) z [text.getD k 0#8 ^^^ (E (ctrL nonce (BitVec.ofNat 32 (2 + k / 16)))).getD (k % 16) 0#8] ty rfl rfl rfl (by rw [get_app0]; rfl) htk.symm (by rw [htk]) (src_u8 (by rw [get_app]; rfl)) (by simp; omega) ?_
        intro z' ty'
        rw [cryL_snoc E hlt, htk]
        (refine top_in ?_; simp -implicitDefEqProofs only [go_sem, -List.reduceReplicate, ↓L_gdZ_tt, ↓L_gdZ_tf, ↓L_gdZ_ft, ↓L_gdZ_ff, ↓T_and, ↓T_imp, ↓T_all, Nat.reduceBEq, Nat.reduceAdd, Nat.reduceSub, Nat.reduceMul, Nat.reduceLT, Nat.reduceLeDiff, Nat.reduceEqDiff, Int.reduceLT, Int.reduceLE, Int.reduceAdd, Int.reduceSub, Int.reduceMul, Int.reduceNeg, Int.reduceToNat, Int.reduceEq, Int.reduceNe, reduceIte, reduceCtorEq, BitVec.reduceOfInt, BitVec.reduceToNat, hsl]; try simp only [top_out])
        rw [w64 (x := (k : Int) + 1) (by omega) (by omega)]
        refine covF_gc hM [some 4, some 1] [some (.p m 0), some (.sl nn no 12 nc), some (.sl nt ot text.length ct), none, none, none, none, some (.sl M.length 0 (k + 1) (k + 1 + z'.length)), some (.p (M.length + 1) 0), some (.i .i64 (k + 1 : Nat)), none, none, none, none, none, none, none, none, none, none, none, none, none, none, none, none, none, none, none, none, none, none, none, none, none, none, none, none, none, none, none]
          [.row (bS ((cryL E nonce text).take (k + 1) ++ z')) ty', .row (bS (E (ctrL nonce (BitVec.ofNat 32 (2 + k / 16))))) 42] rfl ⟨keep8 rfl, keep8 rfl, trivial⟩ (by simp [lt_row]) ?_ ?_
          (fun ts' h => ⟨n - 1, by omega, k + 1, _, z', ty', by omega, hsl, fun h => by rw [show (k + 1) / 16 = k / 16 by omega], h, rfl⟩)
        · simp only [Int.natCast_add, cast_lit, Nat.add_assoc, rnSl_n, frRn_nil, frRn_s, frRn_n, frLt_nil, frLt_s, frLt_n, rn_i, rn_u8, rn_u32, rn_u64, rn_b, rn_str, rn_sn, rn_pn, rn_agg, rn_tup, rnL_nil, rnL_cons, rn_bS, rn_nil, rn_sl_at, rn_sl_at0, rn_p_at, rn_p_at0, rnSl_s, rnP_s, lt_i, lt_u8, lt_u32, lt_u64, lt_b, lt_sl, lt_p, lt_agg, lt_tup, ltL_nil', ltL_cons, bS_lt, List.getElem?_cons_succ, List.getElem?_cons_zero, Option.join_some, Nat.add_zero, Nat.zero_add, implies_true, and_self, and_true, true_and, Bool.and_true, Bool.true_and, Bool.and_self, List.length_cons, List.length_nil, List.length_append, decide_eq_true_eq, Bool.and_eq_true, rn_sl ht.lt, rn_sl hn.lt, rn_p hm]
        · have := ht.lt
          have := hn.lt
          simp only [Int.natCast_add, cast_lit, Nat.add_assoc, rnSl_n, frRn_nil, frRn_s, frRn_n, frLt_nil, frLt_s, frLt_n, rn_i, rn_u8, rn_u32, rn_u64, rn_b, rn_str, rn_sn, rn_pn, rn_agg, rn_tup, rnL_nil, rnL_cons, rn_bS, rn_nil, rn_sl_at, rn_sl_at0, rn_p_at, rn_p_at0, rnSl_s, rnP_s, lt_i, lt_u8, lt_u32, lt_u64, lt_b, lt_sl, lt_p, lt_agg, lt_tup, ltL_nil', ltL_cons, bS_lt, List.getElem?_cons_succ, List.getElem?_cons_zero, Option.join_some, Nat.add_zero, Nat.zero_add, implies_true, and_self, and_true, true_and, Bool.and_true, Bool.true_and, Bool.and_self, List.length_cons, List.length_nil, List.length_append, decide_eq_true_eq, Bool.and_eq_true]; omega
      · have b0 : (((k % 16 : Nat) : Int) == 0) = false := beq_eq_false_iff_ne.2 (by omega)
        obtain rfl := hs h0
        obtain ⟨f, rfl⟩ := frC_open _ _ 0 hf
        clear hf
        (refine top_in ?_; simp -implicitDefEqProofs only [go_sem, -List.reduceReplicate, ↓L_gdZ_tt, ↓L_gdZ_tf, ↓L_gdZ_ft, ↓L_gdZ_ff, ↓T_and, ↓T_imp, ↓T_all, Nat.reduceBEq, Nat.reduceAdd, Nat.reduceSub, Nat.reduceMul, Nat.reduceLT, Nat.reduceLeDiff, Nat.reduceEqDiff, Int.reduceLT, Int.reduceLE, Int.reduceAdd, Int.reduceSub, Int.reduceMul, Int.reduceNeg, Int.reduceToNat, Int.reduceEq, Int.reduceNe, reduceIte, reduceCtorEq, BitVec.reduceOfInt, BitVec.reduceToNat, hp, q1, r1, w1, w2, b0, hsl, get_lt ht.lt]; try simp only [top_out])
        refine draw_rule tabOK (by kernel_rfl : _) (.p 0 (.p 1 (.p 2 (.p 3 (.p 4 (.p 5 (.p 6 (.p 7 (.p 8 (.p 9 (.e 10 [] (.e 11 [] (.p 12 .nil) .no) .no))))))))))) (by kernel_rfl) (by kernel_rfl) ?_
        (refine top_in ?_; simp -implicitDefEqProofs only [go_sem, -List.reduceReplicate, ↓L_gdZ_tt, ↓L_gdZ_tf, ↓L_gdZ_ft, ↓L_gdZ_ff, ↓T_and, ↓T_imp, ↓T_all, Nat.reduceBEq, Nat.reduceAdd, Nat.reduceSub, Nat.reduceMul, Nat.reduceLT, Nat.reduceLeDiff, Nat.reduceEqDiff, Int.reduceLT, Int.reduceLE, Int.reduceAdd, Int.reduceSub, Int.reduceMul, Int.reduceNeg, Int.reduceToNat, Int.reduceEq, Int.reduceNe, reduceIte, reduceCtorEq, BitVec.reduceOfInt, BitVec.reduceToNat, hsl, r1, get_lt ht.lt, e8, f8]; try simp only [top_out])
        have htk : ((cryL E nonce text).take k).length = k := by rw [List.length_take]; omega
        have hle := ht.le (j := k + 1) (by omega)
        repeat (with_reducible refine And.intro (by omega) ?_)
        refine app8 M.length ((cryL E nonce text).take k) z [text.getD k 0#8 ^^^ (E (ctrL nonce (BitVec.ofNat 32 (2 + k / 16)))).getD (k % 16) 0#8] ty rfl rfl rfl (by rw [get_app0]; rfl) htk.symm (by rw [htk]) (src_u8 (by rw [get_app]; rfl)) (by simp; omega) ?_
        intro z' ty'
        rw [cryL_snoc E hlt, htk]
        (refine top_in ?_; simp -implicitDefEqProofs only [go_sem, -List.reduceReplicate, ↓L_gdZ_tt, ↓L_gdZ_tf, ↓L_gdZ_ft, ↓L_gdZ_ff, ↓T_and, ↓T_imp, ↓T_all, Nat.reduceBEq, Nat.reduceAdd, Nat.reduceSub, Nat.reduceMul, Nat.reduceLT, Nat.reduceLeDiff, Nat.reduceEqDiff, Int.reduceLT, Int.reduceLE, Int.reduceAdd, Int.reduceSub, Int.reduceMul, Int.reduceNeg, Int.reduceToNat, Int.reduceEq, Int.reduceNe, reduceIte, reduceCtorEq, BitVec.reduceOfInt, BitVec.reduceToNat, hsl]; try simp only [top_out])
        rw [w64 (x := (k : Int) + 1) (by omega) (by omega)]
        refine covF_gc hM [some 3, some 1] [some (.p m 0), some (.sl nn no 12 nc), some (.sl nt ot text.length ct), none, none, none, none, some (.sl M.length 0 (k + 1) (k + 1 + z'.length)), some (.p (M.length + 1) 0), some (.i .i64 (k + 1 : Nat)), none, none, none, none, none, none, none, none, none, none, none, none, none, none, none, none, none, none, none, none, none, none, none, none, none, none, none, none, none, none, none]
          [.row (bS ((cryL E nonce text).take (k + 1) ++ z')) ty', .row (bS (E (ctrL nonce (BitVec.ofNat 32 (2 + k / 16))))) 42] rfl ⟨keep8 rfl, keep8 rfl, trivial⟩ (by simp [lt_row]) ?_ ?_
          (fun ts' h => ⟨n - 1, by omega, k + 1, _, z', ty', by omega, hsl, fun h => by rw [show (k + 1) / 16 = k / 16 by omega], h, rfl⟩)
        · simp only [Int.natCast_add, cast_lit, Nat.add_assoc, rnSl_n, frRn_nil, frRn_s, frRn_n, frLt_nil, frLt_s, frLt_n, rn_i, rn_u8, rn_u32, rn_u64, rn_b, rn_str, rn_sn, rn_pn, rn_agg, rn_tup, rnL_nil, rnL_cons, rn_bS, rn_nil, rn_sl_at, rn_sl_at0, rn_p_at, rn_p_at0, rnSl_s, rnP_s, lt_i, lt_u8, lt_u32, lt_u64, lt_b, lt_sl, lt_p, lt_agg, lt_tup, ltL_nil', ltL_cons, bS_lt, List.getElem?_cons_succ, List.getElem?_cons_zero, Option.join_some, Nat.add_zero, Nat.zero_add, implies_true, and_self, and_true, true_and, Bool.and_true, Bool.true_and, Bool.and_self, List.length_cons, List.length_nil, List.length_append, decide_eq_true_eq, Bool.and_eq_true, rn_sl ht.lt, rn_sl hn.lt, rn_p hm]
        · have := ht.lt
          have := hn.lt
          simp only [Int.natCast_add, cast_lit, Nat.add_assoc, rnSl_n, frRn_nil, frRn_s, frRn_n, frLt_nil, frLt_s, frLt_n, rn_i, rn_u8, rn_u32, rn_u64, rn_b, rn_str, rn_sn, rn_pn, rn_agg, rn_tup, rnL_nil, rnL_cons, rn_bS, rn_nil, rn_sl_at, rn_sl_at0, rn_p_at, rn_p_at0, rnSl_s, rnP_s, lt_i, lt_u8, lt_u32, lt_u64, lt_b, lt_sl, lt_p, lt_agg, lt_tup, ltL_nil', ltL_cons, bS_lt, List.getElem?_cons_succ, List.getElem?_cons_zero, Option.join_some, Nat.add_zero, Nat.zero_add, implies_true, and_self, and_true, true_and, Bool.and_true, Bool.true_and, Bool.and_self, List.length_cons, List.length_nil, List.length_append, decide_eq_true_eq, Bool.and_eq_true]; omega
    · obtain rfl : k = text.length := by omega
      have hp : ((text.length : Int) < (text.length : Int)) = False := by simp
      obtain ⟨f, rfl⟩ := frC_open _ _ 0 hf
      clear hf
      (refine top_in ?_; simp -implicitDefEqProofs only [go_sem, -List.reduceReplicate, ↓L_gdZ_tt, ↓L_gdZ_tf, ↓L_gdZ_ft, ↓L_gdZ_ff, ↓T_and, ↓T_imp, ↓T_all, Nat.reduceBEq, Nat.reduceAdd, Nat.reduceSub, Nat.reduceMul, Nat.reduceLT, Nat.reduceLeDiff, Nat.reduceEqDiff, Int.reduceLT, Int.reduceLE, Int.reduceAdd, Int.reduceSub, Int.reduceMul, Int.reduceNeg, Int.reduceToNat, Int.reduceEq, Int.reduceNe, reduceIte, reduceCtorEq, BitVec.reduceOfInt, BitVec.reduceToNat, hp]; try simp only [top_out])
      rw [List.take_of_length_le (by omega)]
      refine dropC_gc (L := [.row (bS (cryL E nonce text ++ z)) ty, .row (bS s) 42]) hM [some 0] (.sl M.length 0 text.length (text.length + z.length)) [.row (bS (cryL E nonce text ++ z)) ty] rfl ⟨keep8 rfl, trivial⟩ (by simp [lt_row]) (by simp [SV.lt]) (fun ρ => ?_) (hK z ty)
      simp only [rn_sl_at0, List.getElem?_cons_zero, Option.join_some, rnSl_s, Nat.add_zero]
end Go.Proofs.Ytbiolfeincepoaa.Eng
