/- Joined texts: W1, W2, W4. -/
import Derived.Test.YtdkdbeamimkljaaGreatDoorMk
import Derived.Test.YtdkdbeamimkljaaGreatDoorMc
import Derived.Test.YtdkdbeamimkljaaGreatDoorMe
namespace Go.Proofs.YtdkdbeamimkljaaGreatDoor.Eng
set_option linter.unusedSimpArgs false
set_option linter.unusedVariables false
open Go Go.RowKit
theorem drop8ntL {M L : List Blk} {K : SV → List Blk → Prop} {e : Int} (hM : ∀ (n : Nat) (B : Blk), M[n]? = some B → B.lt M.length = true)
    (hK : ∀ ty, K (.tup [.sl M.length 0 0 0, .i .i64 e]) (M ++ [.row (bS []) ty])) : dropC M.length (.tup [.sn, .i .i64 e]) (M ++ L) K := by
  refine dropC_gc (L := L) (v := .tup [.sn, .i .i64 e]) (K := K) hM [none] (.tup [.sl M.length 0 0 0, .i .i64 e]) [.row [] 0] rfl ⟨rfl, trivial⟩ (by simp [Blk.lt, ltL]) (by simp [SV.lt, ltL]) (fun ρ => ?_) (hK 0)
  have h0 : den ρ ((SV.sl M.length 0 0 0).rn (tau M.length [none])) = den ρ .sn := rn_nil
  simp only [rn_tup, rnL_cons, rnL_nil, rn_i]
  simp only [den, denL] at h0 ⊢
  rw [h0]
def pkS (t l g : Int) (c : BitVec 64) (x : SV) : SV := .agg [.i .i64 t, .i .i64 l, .i .i64 g, .u64 c, x]
def psealB (key : List (BitVec 8)) (s t l g : Int) (c : BitVec 64) (n : Nat) : Bool := nonceB s g c && headB t l g c && fitsB t n
def psealE (key : List (BitVec 8)) (s t l g : Int) (c : BitVec 64) (n : Nat) : Int := if key.length ≠ 32 then 40 else if psealB key s t l g c n = true then 0 else 90
def psealL (key : List (BitVec 8)) (s t l g : Int) (c : BitVec 64) (text : List (BitVec 8)) : List (BitVec 8) := headL t l g c ++ sealL key (nonceL s g c) (headL t l g c) text
def psealU (key : List (BitVec 8)) (s t l g : Int) (c : BitVec 64) (text : List (BitVec 8)) : List (BitVec 8) := if psealE key s t l g c text.length = 0 then psealL key s t l g c text else []
theorem psealL_len (key : List (BitVec 8)) (s t l g : Int) (c : BitVec 64) (text : List (BitVec 8)) : (psealL key s t l g c text).length = text.length + 36 := by
  unfold psealL; rw [List.length_append, headL_len, sealL_len]; omega
theorem fits_le {t : Int} {n : Nat} (h : fitsB t n = true) : n ≤ 1280 := by
  unfold fitsB at h
  split at h
  · simp at h; omega
  · simp at h; omega
theorem psealE_key {key : List (BitVec 8)} {s t l g : Int} {c : BitVec 64} {n : Nat} (h : key.length ≠ 32) : psealE key s t l g c n = 40 := if_pos h
theorem psealE_no {key : List (BitVec 8)} {s t l g : Int} {c : BitVec 64} {n : Nat} (h : key.length = 32) (hb : psealB key s t l g c n = false) : psealE key s t l g c n = 90 := by
  unfold psealE; rw [if_neg (by omega), if_neg (by rw [hb]; decide)]
theorem psealE_yes {key : List (BitVec 8)} {s t l g : Int} {c : BitVec 64} {n : Nat} (h : key.length = 32) (hb : psealB key s t l g c n = true) : psealE key s t l g c n = 0 := by
  unfold psealE; rw [if_neg (by omega), if_pos hb]
set_option maxHeartbeats 2000000 in
theorem pseal_u (nk ok lk ck nt ot lt ct : Nat) (key text : List (BitVec 8)) (s t l g : Int) (c : BitVec 64) (M : List Blk) (K : SV → List Blk → Prop)
    (hk : BAt M nk ok key) (hlk : lk = key.length) (hck : lk ≤ ck) (hmk : lk ≤ 140737488355000) (ht : BAt M nt ot text) (hlt : lt = text.length) (hct : lt ≤ ct)
    (hK : ∀ z ty, K (.tup [.sl M.length 0 (psealU key s t l g c text).length ((psealU key s t l g c text).length + z.length), .i .i64 (psealE key s t l g c text.length)]) (M ++ [.row (bS (psealU key s t l g c text ++ z)) ty])) :
    callVC Tryz.prog 8 [.sl nk ok lk ck, .i .i64 s, pkS t l g c (.sl nt ot lt ct)] M K := by
  subst hlk hlt
  have no : psealE key s t l g c text.length ≠ 0 → ∀ ty, K (.tup [.sl M.length 0 0 0, .i .i64 (psealE key s t l g c text.length)]) (M ++ [.row (bS []) ty]) := fun h ty => by
    have := hK [] ty
    unfold psealU at this
    rw [if_neg h] at this
    exact this
  unfold pkS
  by_cases k32 : key.length = 32
  · have b1 : ((key.length : Int) != 32) = false := beqIN k32
    cases hn : nonceB s g c with
    | false =>
      have hb : psealB key s t l g c text.length = false := by unfold psealB; rw [hn]; rfl
      have he := psealE_no k32 hb
      rw [he] at no
      refine fn_rule tabOK Tryz.func8 rfl Tryz.call8 (by kernel_rfl) (fun hM => ?_)
      (refine top_in ?_; simp -implicitDefEqProofs only [Tryz.ntmps8, Tryz.results8, go_sem, -List.reduceReplicate, ↓L_gdZ_tt, ↓L_gdZ_tf, ↓L_gdZ_ft, ↓L_gdZ_ff, ↓T_and, ↓T_imp, ↓T_all, b1, List.take_succ_cons, List.take_zero, List.drop_succ_cons, List.drop_zero]; try simp only [top_out])
      refine nonce_ok s g c _ _ (fun h => by rw [hn] at h; cases h) (fun _ => ?_)
      (refine top_in ?_; simp -implicitDefEqProofs only [go_sem, -List.reduceReplicate, ↓L_gdZ_tt, ↓L_gdZ_tf, ↓L_gdZ_ft, ↓L_gdZ_ff, ↓T_and, ↓T_imp, ↓T_all, b1, List.take_succ_cons, List.take_zero, List.drop_succ_cons, List.drop_zero]; try simp only [top_out])
      exact drop8ntL hM (no (by decide))
    | true =>
      refine fn_rule tabOK Tryz.func8 rfl Tryz.call8 (by kernel_rfl) (fun hM => ?_)
      (refine top_in ?_; simp -implicitDefEqProofs only [Tryz.ntmps8, Tryz.results8, go_sem, -List.reduceReplicate, ↓L_gdZ_tt, ↓L_gdZ_tf, ↓L_gdZ_ft, ↓L_gdZ_ff, ↓T_and, ↓T_imp, ↓T_all, b1, List.take_succ_cons, List.take_zero, List.drop_succ_cons, List.drop_zero]; try simp only [top_out])
      refine nonce_ok s g c _ _ (fun _ z ty => ?_) (fun h => by rw [hn] at h; cases h)
      (refine top_in ?_; simp -implicitDefEqProofs only [go_sem, -List.reduceReplicate, ↓L_gdZ_tt, ↓L_gdZ_tf, ↓L_gdZ_ft, ↓L_gdZ_ff, ↓T_and, ↓T_imp, ↓T_all, b1, List.take_succ_cons, List.take_zero, List.drop_succ_cons, List.drop_zero, nonceL_len]; try simp only [top_out])
      repeat (with_reducible refine And.intro (by omega) ?_)
      refine isHead_ok t l g c _ _ ?_
      (refine top_in ?_; simp -implicitDefEqProofs only [go_sem, -List.reduceReplicate, ↓L_gdZ_tt, ↓L_gdZ_tf, ↓L_gdZ_ft, ↓L_gdZ_ff, ↓T_and, ↓T_imp, ↓T_all, b1, List.take_succ_cons, List.take_zero, List.drop_succ_cons, List.drop_zero, nonceL_len, headL_len]; try simp only [top_out])
      cases hh : headB t l g c with
      | false =>
        have hb : psealB key s t l g c text.length = false := by unfold psealB; rw [hh, Bool.and_false]; rfl
        have he := psealE_no k32 hb
        rw [he] at no
        (refine top_in ?_; simp -implicitDefEqProofs only [go_sem, -List.reduceReplicate, ↓L_gdZ_tt, ↓L_gdZ_tf, ↓L_gdZ_ft, ↓L_gdZ_ff, ↓T_and, ↓T_imp, ↓T_all, b1, List.take_succ_cons, List.take_zero, List.drop_succ_cons, List.drop_zero, nonceL_len, headL_len]; try simp only [top_out])
        exact drop8ntL hM (no (by decide))
      | true =>
        (refine top_in ?_; simp -implicitDefEqProofs only [go_sem, -List.reduceReplicate, ↓L_gdZ_tt, ↓L_gdZ_tf, ↓L_gdZ_ft, ↓L_gdZ_ff, ↓T_and, ↓T_imp, ↓T_all, b1, List.take_succ_cons, List.take_zero, List.drop_succ_cons, List.drop_zero, nonceL_len, headL_len]; try simp only [top_out])
        refine fits_ok t text.length _ _ ?_
        (refine top_in ?_; simp -implicitDefEqProofs only [go_sem, -List.reduceReplicate, ↓L_gdZ_tt, ↓L_gdZ_tf, ↓L_gdZ_ft, ↓L_gdZ_ff, ↓T_and, ↓T_imp, ↓T_all, b1, List.take_succ_cons, List.take_zero, List.drop_succ_cons, List.drop_zero, nonceL_len, headL_len]; try simp only [top_out])
        cases hf : fitsB t text.length with
        | false =>
          have hb : psealB key s t l g c text.length = false := by unfold psealB; rw [hf, Bool.and_false]
          have he := psealE_no k32 hb
          rw [he] at no
          (refine top_in ?_; simp -implicitDefEqProofs only [go_sem, -List.reduceReplicate, ↓L_gdZ_tt, ↓L_gdZ_tf, ↓L_gdZ_ft, ↓L_gdZ_ff, ↓T_and, ↓T_imp, ↓T_all, b1, List.take_succ_cons, List.take_zero, List.drop_succ_cons, List.drop_zero, nonceL_len, headL_len]; try simp only [top_out])
          exact drop8ntL hM (no (by decide))
        | true =>
          have hb : psealB key s t l g c text.length = true := by unfold psealB; rw [hn, hh, hf]; rfl
          have he := psealE_yes k32 hb
          have hfl := fits_le hf
          have hse : sealE key (nonceL s g c) (headL t l g c) text = 0 := sealE_ok k32 (nonceL_len _ _ _) (by rw [headL_len]; omega) (by omega)
          have hsu : sealU key (nonceL s g c) (headL t l g c) text = sealL key (nonceL s g c) (headL t l g c) text := if_pos hse
          have hU : psealU key s t l g c text = headL t l g c ++ sealL key (nonceL s g c) (headL t l g c) text := by unfold psealU; rw [if_pos he]; rfl
          have hsl := sealL_len key (nonceL s g c) (headL t l g c) text
          rw [he, hU] at hK
          (refine top_in ?_; simp -implicitDefEqProofs only [go_sem, -List.reduceReplicate, ↓L_gdZ_tt, ↓L_gdZ_tf, ↓L_gdZ_ft, ↓L_gdZ_ff, ↓T_and, ↓T_imp, ↓T_all, b1, List.take_succ_cons, List.take_zero, List.drop_succ_cons, List.drop_zero, nonceL_len, headL_len]; try simp only [top_out])
          refine putHead_ok t l g c _ _ (fun _ z1 ty1 => ?_) (fun h => by rw [hh] at h; cases h)
          (refine top_in ?_; simp -implicitDefEqProofs only [go_sem, -List.reduceReplicate, ↓L_gdZ_tt, ↓L_gdZ_tf, ↓L_gdZ_ft, ↓L_gdZ_ff, ↓T_and, ↓T_imp, ↓T_all, b1, List.take_succ_cons, List.take_zero, List.drop_succ_cons, List.drop_zero, nonceL_len, headL_len]; try simp only [top_out])
          refine seal_u nk ok _ ck (M.length + 1) 0 _ _ (M.length + 2) 0 _ _ nt ot _ ct key (nonceL s g c) (headL t l g c) text _ _ hk.app rfl hck hmk (BAt.row (z := z) (ty := ty) (by rw [get_app]; rfl)) (nonceL_len _ _ _).symm
            (BAt.row (z := z1) (ty := ty1) (by rw [get_app]; rfl)) (headL_len _ _ _ _).symm (by omega) ht.app rfl hct fun z2 ty2 => ?_
          rw [hsu, hse, hsl]
          (refine top_in ?_; simp -implicitDefEqProofs only [go_sem, -List.reduceReplicate, ↓L_gdZ_tt, ↓L_gdZ_tf, ↓L_gdZ_ft, ↓L_gdZ_ff, ↓T_and, ↓T_imp, ↓T_all, b1, List.take_succ_cons, List.take_zero, List.drop_succ_cons, List.drop_zero, nonceL_len, headL_len]; try simp only [top_out])
          refine ⟨fun h => absurd h (by decide), fun _ => ?_⟩
          refine app8 (M.length + 2) (headL t l g c) z1 (sealL key (nonceL s g c) (headL t l g c) text) ty1 rfl rfl rfl (by rw [get_app]; rfl) (headL_len _ _ _ _).symm (by rw [headL_len]) ?_ (by rw [headL_len]; omega) ?_
          · have := (BAt.row (M := M ++ [.row [.i .i64 t, .i .i64 l, .i .i64 g, .u64 c, .sl nt ot text.length ct] 61, .row (bS (nonceL s g c ++ z)) ty, .row (bS (headL t l g c ++ z1)) ty1, .row (bS (sealL key (nonceL s g c) (headL t l g c) text ++ z2)) ty2]) (n := M.length + 3) (l := sealL key (nonceL s g c) (headL t l g c) text) (z := z2) (ty := ty2) (by rw [get_app]; rfl)).src (cap := text.length + (16 + z2.length))
            rw [hsl] at this
            exact this
          intro z3 ty3
          rw [hsl, headL_len]
          (refine top_in ?_; simp -implicitDefEqProofs only [go_sem, -List.reduceReplicate, ↓L_gdZ_tt, ↓L_gdZ_tf, ↓L_gdZ_ft, ↓L_gdZ_ff, ↓T_and, ↓T_imp, ↓T_all]; try simp only [top_out])
          refine dropC_gc (L := [.row [.i .i64 t, .i .i64 l, .i .i64 g, .u64 c, .sl nt ot text.length ct] 61, .row (bS (nonceL s g c ++ z)) ty, .dead, .row (bS (sealL key (nonceL s g c) (headL t l g c) text ++ z2)) ty2, .row (bS (headL t l g c ++ (sealL key (nonceL s g c) (headL t l g c) text ++ z3))) ty3]) hM [some 4] (.tup [.sl M.length 0 (headL t l g c ++ sealL key (nonceL s g c) (headL t l g c) text).length ((headL t l g c ++ sealL key (nonceL s g c) (headL t l g c) text).length + z3.length), .i .i64 0]) [.row (bS (headL t l g c ++ sealL key (nonceL s g c) (headL t l g c) text ++ z3)) ty3] rfl ⟨keep8 (by rw [List.append_assoc]; rfl), trivial⟩ (by simp [lt_row]) (by simp [SV.lt, ltL]) (fun ρ => ?_) (hK z3 ty3)
          have hsum : (headL t l g c ++ sealL key (nonceL s g c) (headL t l g c) text).length = 20 + (text.length + 16) := by rw [List.length_append, headL_len, hsl]
          simp only [rn_tup, rnL_cons, rnL_nil, rn_sl_at0, rn_i, List.getElem?_cons_zero, Option.join_some, rnSl_s, hsum, Nat.add_assoc]
  · have b1 : ((key.length : Int) != 32) = true := bneN k32
    have he : psealE key s t l g c text.length = 40 := psealE_key k32
    rw [he] at no
    refine fn_rule tabOK Tryz.func8 rfl Tryz.call8 (by kernel_rfl) (fun hM => ?_)
    (refine top_in ?_; simp -implicitDefEqProofs only [Tryz.ntmps8, Tryz.results8, go_sem, -List.reduceReplicate, ↓L_gdZ_tt, ↓L_gdZ_tf, ↓L_gdZ_ft, ↓L_gdZ_ff, ↓T_and, ↓T_imp, ↓T_all, b1, List.take_succ_cons, List.take_zero, List.drop_succ_cons, List.drop_zero]; try simp only [top_out])
    exact drop8ntL hM (no (by decide))
def popenN (s : Int) (b : List (BitVec 8)) : List (BitVec 8) := nonceL s (hG b) (hC b)
def popenB (key : List (BitVec 8)) (s : Int) (b : List (BitVec 8)) : Bool := decide (key.length = 32) && (partB b && (nonceB s (hG b) (hC b) && openB key (popenN s b) (b.take 20) (b.drop 20)))
def popenU (key : List (BitVec 8)) (s : Int) (b : List (BitVec 8)) : List (BitVec 8) := if popenB key s b = true then openL key (popenN s b) (b.drop 20) else []
def oT (ok : Bool) (b : List (BitVec 8)) : Int := if ok = true then hT b else 0
def oL (ok : Bool) (b : List (BitVec 8)) : Int := if ok = true then hL b else 0
def oG (ok : Bool) (b : List (BitVec 8)) : Int := if ok = true then hG b else 0
def oC (ok : Bool) (b : List (BitVec 8)) : BitVec 64 := if ok = true then hC b else 0#64
theorem partB_len {b : List (BitVec 8)} (h : partB b = true) : 45 ≤ b.length ∧ b.length ≤ 1316 := by
  simp only [partB, Bool.and_eq_true, decide_eq_true_eq] at h
  have hf := h.2
  unfold fitsB at hf
  split at hf <;> simp at hf <;> omega
theorem drop8pkL {M L : List Blk} {K : SV → List Blk → Prop} (hM : ∀ (n : Nat) (B : Blk), M[n]? = some B → B.lt M.length = true)
    (hK : ∀ ty, K (.tup [pkS 0 0 0 0#64 (.sl M.length 0 0 0), .b false]) (M ++ [.row (bS []) ty])) : dropC M.length (.tup [.agg [.i .i64 0, .i .i64 0, .i .i64 0, .u64 0#64, .sn], .b false]) (M ++ L) K := by
  refine dropC_gc (L := L) (v := .tup [.agg [.i .i64 0, .i .i64 0, .i .i64 0, .u64 0#64, .sn], .b false]) (K := K) hM [none] (.tup [pkS 0 0 0 0#64 (.sl M.length 0 0 0), .b false]) [.row [] 0] rfl ⟨rfl, trivial⟩ (by simp [Blk.lt, ltL]) (by simp [pkS, SV.lt, ltL]) (fun ρ => ?_) (hK 0)
  have h0 : den ρ ((SV.sl M.length 0 0 0).rn (tau M.length [none])) = den ρ .sn := rn_nil
  simp only [pkS, rn_tup, rn_agg, rnL_cons, rnL_nil, rn_i, rn_b, rn_u64]
  simp only [den, denL] at h0 ⊢
  rw [h0]
set_option maxHeartbeats 2000000 in
theorem popen_u (nk ok lk ck n off lb cb : Nat) (key b : List (BitVec 8)) (s : Int) (M : List Blk) (K : SV → List Blk → Prop)
    (hk : BAt M nk ok key) (hlk : lk = key.length) (hck : lk ≤ ck) (hmk : lk ≤ 140737488355000) (hb : BAt M n off b) (hlb : lb = b.length) (hcb : lb ≤ cb) (hmb : lb ≤ 140737488355000)
    (hK : ∀ z ty, K (.tup [pkS (oT (popenB key s b) b) (oL (popenB key s b) b) (oG (popenB key s b) b) (oC (popenB key s b) b) (.sl M.length 0 (popenU key s b).length ((popenU key s b).length + z.length)), .b (popenB key s b)]) (M ++ [.row (bS (popenU key s b ++ z)) ty])) :
    callVC Tryz.prog 13 [.sl nk ok lk ck, .i .i64 s, .sl n off lb cb] M K := by
  subst hlk hlb
  have no : popenB key s b = false → ∀ ty, K (.tup [pkS 0 0 0 0#64 (.sl M.length 0 0 0), .b false]) (M ++ [.row (bS []) ty]) := fun h ty => by
    have := hK [] ty
    unfold popenU at this
    rw [h] at this
    exact this
  cases hp : partB b with
  | false =>
    have hB : popenB key s b = false := by unfold popenB; rw [hp]; simp
    refine fn_rule tabOK Tryz.func13 rfl Tryz.call13 (by kernel_rfl) (fun hM => ?_)
    (refine top_in ?_; simp -implicitDefEqProofs only [Tryz.ntmps13, Tryz.results13, go_sem, -List.reduceReplicate, ↓L_gdZ_tt, ↓L_gdZ_tf, ↓L_gdZ_ft, ↓L_gdZ_ff, ↓T_and, ↓T_imp, ↓T_all]; try simp only [top_out])
    refine apart_ok n off cb b _ _ hb.app hmb hcb (fun h => by rw [hp] at h; cases h) (fun _ => ?_)
    (refine top_in ?_; simp -implicitDefEqProofs only [go_sem, -List.reduceReplicate, ↓L_gdZ_tt, ↓L_gdZ_tf, ↓L_gdZ_ft, ↓L_gdZ_ff, ↓T_and, ↓T_imp, ↓T_all]; try simp only [top_out])
    exact drop8pkL hM (no hB)
  | true =>
    obtain ⟨l45, l13⟩ := partB_len hp
    by_cases k32 : key.length = 32
    · have b1 : ((key.length : Int) != 32) = false := beqIN k32
      refine fn_rule tabOK Tryz.func13 rfl Tryz.call13 (by kernel_rfl) (fun hM => ?_)
      (refine top_in ?_; simp -implicitDefEqProofs only [Tryz.ntmps13, Tryz.results13, go_sem, -List.reduceReplicate, ↓L_gdZ_tt, ↓L_gdZ_tf, ↓L_gdZ_ft, ↓L_gdZ_ff, ↓T_and, ↓T_imp, ↓T_all, b1]; try simp only [top_out])
      refine apart_ok n off cb b _ _ hb.app hmb hcb (fun _ => ?_) (fun h => by rw [hp] at h; cases h)
      (refine top_in ?_; simp -implicitDefEqProofs only [go_sem, -List.reduceReplicate, ↓L_gdZ_tt, ↓L_gdZ_tf, ↓L_gdZ_ft, ↓L_gdZ_ff, ↓T_and, ↓T_imp, ↓T_all, b1, List.take_succ_cons, List.take_zero, List.drop_succ_cons, List.drop_zero]; try simp only [top_out])
      cases hn : nonceB s (hG b) (hC b) with
      | false =>
        have hB : popenB key s b = false := by unfold popenB; rw [hn]; simp
        refine nonce_ok s (hG b) (hC b) _ _ (fun h => by rw [hn] at h; cases h) (fun _ => ?_)
        (refine top_in ?_; simp -implicitDefEqProofs only [go_sem, -List.reduceReplicate, ↓L_gdZ_tt, ↓L_gdZ_tf, ↓L_gdZ_ft, ↓L_gdZ_ff, ↓T_and, ↓T_imp, ↓T_all, b1, List.take_succ_cons, List.take_zero, List.drop_succ_cons, List.drop_zero, nonceL_len]; try simp only [top_out])
        exact drop8pkL hM (no hB)
      | true =>
        refine nonce_ok s (hG b) (hC b) _ _ (fun _ z ty => ?_) (fun h => by rw [hn] at h; cases h)
        (refine top_in ?_; simp -implicitDefEqProofs only [go_sem, -List.reduceReplicate, ↓L_gdZ_tt, ↓L_gdZ_tf, ↓L_gdZ_ft, ↓L_gdZ_ff, ↓T_and, ↓T_imp, ↓T_all, b1, List.take_succ_cons, List.take_zero, List.drop_succ_cons, List.drop_zero, nonceL_len]; try simp only [top_out])
        repeat (with_reducible refine And.intro (by omega) ?_)
        have b20 : BAt M n off (b.take 20) := by
          have := hb.sub (a := 0) (k := 20) (by omega)
          rwa [List.drop_zero, Nat.add_zero] at this
        have d20 : BAt M n (off + 20) (b.drop 20) := by
          have := hb.sub (a := 20) (k := b.length - 20) (by omega)
          rwa [List.take_of_length_le (by rw [List.length_drop]; exact Nat.le_refl _)] at this
        have hBo : popenB key s b = openB key (popenN s b) (b.take 20) (b.drop 20) := by unfold popenB; rw [hp, hn]; simp [k32]
        have hl20 : (b.take 20).length = 20 := by rw [List.length_take]; omega
        have hld : (b.drop 20).length = b.length - 20 := List.length_drop
        refine open_u nk ok _ ck (M.length + 2) 0 12 (12 + z.length) n off 20 20 n (off + 20) (b.length - 20) (b.length - 20) key (popenN s b) (b.take 20) (b.drop 20) _ _ hk.app rfl hck hmk (BAt.row (z := z) (ty := ty) (by rw [get_app]; rfl)) (nonceL_len _ _ _).symm
          b20.app hl20.symm (by omega) d20.app hld.symm (Nat.le_refl _) (by omega) fun z2 ty2 => ?_
        cases ho : openB key (popenN s b) (b.take 20) (b.drop 20) with
        | false =>
          (refine top_in ?_; simp -implicitDefEqProofs only [go_sem, -List.reduceReplicate, ↓L_gdZ_tt, ↓L_gdZ_tf, ↓L_gdZ_ft, ↓L_gdZ_ff, ↓T_and, ↓T_imp, ↓T_all, b1, List.take_succ_cons, List.take_zero, List.drop_succ_cons, List.drop_zero, nonceL_len]; try simp only [top_out])
          exact drop8pkL hM (no (by rw [hBo, ho]))
        | true =>
          rw [hBo, ho] at hK
          have hU : popenU key s b = openU key (popenN s b) (b.take 20) (b.drop 20) := by unfold popenU openU; rw [hBo, ho]
          rw [hU] at hK
          (refine top_in ?_; simp -implicitDefEqProofs only [go_sem, -List.reduceReplicate, ↓L_gdZ_tt, ↓L_gdZ_tf, ↓L_gdZ_ft, ↓L_gdZ_ff, ↓T_and, ↓T_imp, ↓T_all, b1, List.take_succ_cons, List.take_zero, List.drop_succ_cons, List.drop_zero, nonceL_len]; try simp only [top_out])
          refine dropC_gc (L := [.row [.i .i64 (hT b), .i .i64 (hL b), .i .i64 (hG b), .u64 (hC b), .sl (M.length + 3) 0 (openU key (popenN s b) (b.take 20) (b.drop 20)).length ((openU key (popenN s b) (b.take 20) (b.drop 20)).length + z2.length)] 61, .row [.i .i64 (hT b), .i .i64 (hL b), .i .i64 (hG b), .u64 (hC b), .sl n off 20 20, .sl n (off + 20) (b.length - 20) (b.length - 20)] 90, .row (bS (nonceL s (hG b) (hC b) ++ z)) ty, .row (bS (openU key (popenN s b) (b.take 20) (b.drop 20) ++ z2)) ty2])
            hM [some 3] (.tup [pkS (hT b) (hL b) (hG b) (hC b) (.sl M.length 0 (openU key (popenN s b) (b.take 20) (b.drop 20)).length ((openU key (popenN s b) (b.take 20) (b.drop 20)).length + z2.length)), .b true]) [.row (bS (openU key (popenN s b) (b.take 20) (b.drop 20) ++ z2)) ty2] rfl ⟨keep8 rfl, trivial⟩ (by simp [lt_row]) (by simp [pkS, SV.lt, ltL]) (fun ρ => ?_) (hK z2 ty2)
          simp only [pkS, rn_tup, rn_agg, rnL_cons, rnL_nil, rn_sl_at0, rn_i, rn_b, rn_u64, List.getElem?_cons_zero, Option.join_some, rnSl_s]
    · have b1 : ((key.length : Int) != 32) = true := bneN k32
      have hB : popenB key s b = false := by unfold popenB; simp [k32]
      refine fn_rule tabOK Tryz.func13 rfl Tryz.call13 (by kernel_rfl) (fun hM => ?_)
      (refine top_in ?_; simp -implicitDefEqProofs only [Tryz.ntmps13, Tryz.results13, go_sem, -List.reduceReplicate, ↓L_gdZ_tt, ↓L_gdZ_tf, ↓L_gdZ_ft, ↓L_gdZ_ff, ↓T_and, ↓T_imp, ↓T_all, b1]; try simp only [top_out])
      refine apart_ok n off cb b _ _ hb.app hmb hcb (fun _ => ?_) (fun h => by rw [hp] at h; cases h)
      (refine top_in ?_; simp -implicitDefEqProofs only [go_sem, -List.reduceReplicate, ↓L_gdZ_tt, ↓L_gdZ_tf, ↓L_gdZ_ft, ↓L_gdZ_ff, ↓T_and, ↓T_imp, ↓T_all, b1, List.take_succ_cons, List.take_zero, List.drop_succ_cons, List.drop_zero]; try simp only [top_out])
      exact drop8pkL hM (no hB)
theorem numB_beL_bit {n : Nat} {x : BitVec 64} {i : Nat} (hi : i < 64) : (numB (beL n x)).getLsbD i = (decide (i / 8 < n) && x.getLsbD i) := by
  rw [numB_bit n (beL n x) (beL_len n x) i hi]
  by_cases h : i / 8 < n
  · unfold beL
    rw [gl_getD (by omega), BitVec.getLsbD_setWidth, BitVec.getLsbD_ushiftRight, show 8 * (n - 1 - (n - 1 - i / 8)) + i % 8 = i by omega, show decide (i % 8 < 8) = true from decide_eq_true (by omega), Bool.true_and]
  · simp [h]
theorem numB_beL8 (x : BitVec 64) : numB (beL 8 x) = x := by
  apply BitVec.eq_of_getLsbD_eq
  intro i hi
  rw [numB_beL_bit hi, show decide (i / 8 < 8) = true by simp; omega, Bool.true_and]
theorem numB_beL4 {l : Int} (h1 : 1 ≤ l) (h2 : l ≤ 4294967295) : (((numB (beL 4 (BitVec.ofInt 64 l))).setWidth 32).toNat : Int) = l := by
  have e : (numB (beL 4 (BitVec.ofInt 64 l))).setWidth 32 = (BitVec.ofInt 64 l).setWidth 32 := by
    apply BitVec.eq_of_getLsbD_eq
    intro i hi
    rw [BitVec.getLsbD_setWidth, BitVec.getLsbD_setWidth, numB_beL_bit (by omega), show decide (i / 8 < 4) = true by simp; omega, Bool.true_and]
  obtain ⟨n, rfl⟩ : ∃ n : Nat, l = n := ⟨l.toNat, by omega⟩
  rw [e, BitVec.ofInt_natCast, BitVec.toNat_setWidth, BitVec.toNat_ofNat]
  omega
theorem hd_back {t l g : Int} {c : BitVec 64} (h : headB t l g c = true) (X : List (BitVec 8)) :
    hT (headL t l g c ++ X) = t ∧ hL (headL t l g c ++ X) = l ∧ hG (headL t l g c ++ X) = g ∧ hC (headL t l g c ++ X) = c ∧ zerosB (((headL t l g c ++ X).drop 1).take 3) = true := by
  obtain ⟨a1, a2, a3, a4, a5, a6, a7⟩ := headB_true h
  have e : headL t l g c ++ X = BitVec.ofInt 8 t :: 0#8 :: 0#8 :: 0#8 :: (beL 4 (BitVec.ofInt 64 l) ++ (beL 4 (BitVec.ofInt 64 g) ++ (beL 8 c ++ X))) := by
    unfold headL; simp
  have b4 := beL_len 4 (BitVec.ofInt 64 l)
  have b5 := beL_len 4 (BitVec.ofInt 64 g)
  have b8 := beL_len 8 c
  have l4 := numB_beL4 a3 a4
  have g4 := numB_beL4 a5 (by omega)
  have c8 := numB_beL8 c
  rw [e]
  generalize beL 4 (BitVec.ofInt 64 l) = u at *
  generalize beL 4 (BitVec.ofInt 64 g) = v at *
  generalize beL 8 c = w at *
  have u4 : u.drop 4 = [] := List.drop_eq_nil_of_le (by omega)
  have v4 : v.drop 4 = [] := List.drop_eq_nil_of_le (by omega)
  refine ⟨?_, ?_, ?_, ?_, rfl⟩
  · unfold hT
    obtain ⟨n, rfl⟩ : ∃ n : Nat, t = n := ⟨t.toNat, by omega⟩
    rw [List.getD_cons_zero, BitVec.ofInt_natCast, BitVec.toNat_ofNat]
    omega
  · unfold hL
    have : ((BitVec.ofInt 8 t :: 0#8 :: 0#8 :: 0#8 :: (u ++ (v ++ (w ++ X)))).drop 4).take 4 = u := by
      rw [show (BitVec.ofInt 8 t :: 0#8 :: 0#8 :: 0#8 :: (u ++ (v ++ (w ++ X)))).drop 4 = u ++ (v ++ (w ++ X)) from rfl, List.take_append_of_le_length (by omega), List.take_of_length_le (by omega)]
    rw [this]; exact l4
  · unfold hG
    have : ((BitVec.ofInt 8 t :: 0#8 :: 0#8 :: 0#8 :: (u ++ (v ++ (w ++ X)))).drop 8).take 4 = v := by
      rw [show (BitVec.ofInt 8 t :: 0#8 :: 0#8 :: 0#8 :: (u ++ (v ++ (w ++ X)))).drop 8 = (u ++ (v ++ (w ++ X))).drop 4 from rfl, List.drop_append_of_le_length (by omega), List.drop_eq_nil_of_le (by omega), List.nil_append, List.take_append_of_le_length (by omega), List.take_of_length_le (by omega)]
    rw [this]; exact g4
  · unfold hC
    have : ((BitVec.ofInt 8 t :: 0#8 :: 0#8 :: 0#8 :: (u ++ (v ++ (w ++ X)))).drop 12).take 8 = w := by
      rw [show (BitVec.ofInt 8 t :: 0#8 :: 0#8 :: 0#8 :: (u ++ (v ++ (w ++ X)))).drop 12 = ((u ++ (v ++ (w ++ X))).drop 4).drop 4 by rw [List.drop_drop]; rfl, List.drop_append_of_le_length (by omega), u4, List.nil_append, List.drop_append_of_le_length (by omega), v4, List.nil_append, List.take_append_of_le_length (by omega), List.take_of_length_le (by omega)]
    rw [this]; exact c8
theorem psealE_0 {key : List (BitVec 8)} {s t l g : Int} {c : BitVec 64} {n : Nat} (h : psealE key s t l g c n = 0) : key.length = 32 ∧ nonceB s g c = true ∧ headB t l g c = true ∧ fitsB t n = true := by
  unfold psealE at h
  split at h
  · cases h
  · split at h
    · rename_i h1 h2
      unfold psealB at h2
      simp only [Bool.and_eq_true] at h2
      exact ⟨by omega, h2.1.1, h2.1.2, h2.2⟩
    · cases h
theorem pseal_open {key text : List (BitVec 8)} {s t l g : Int} {c : BitVec 64} (h : psealE key s t l g c text.length = 0) :
    popenB key s (psealL key s t l g c text) = true ∧ hT (psealL key s t l g c text) = t ∧ hL (psealL key s t l g c text) = l ∧ hG (psealL key s t l g c text) = g ∧ hC (psealL key s t l g c text) = c ∧ popenU key s (psealL key s t l g c text) = text := by
  obtain ⟨k32, hn, hh, hf⟩ := psealE_0 h
  have hfl := fits_le hf
  have hlen := psealL_len key s t l g c text
  obtain ⟨eT, eL, eG, eC, eZ⟩ := hd_back hh (sealL key (nonceL s g c) (headL t l g c) text)
  have hse : sealE key (nonceL s g c) (headL t l g c) text = 0 := sealE_ok k32 (nonceL_len _ _ _) (by rw [headL_len]; omega) (by omega)
  obtain ⟨q1, q2⟩ := open_seal hse
  have ht : (psealL key s t l g c text).take 20 = headL t l g c := by
    unfold psealL; rw [List.take_append_of_le_length (by rw [headL_len]; exact Nat.le_refl _), List.take_of_length_le (by rw [headL_len]; exact Nat.le_refl _)]
  have hd : (psealL key s t l g c text).drop 20 = sealL key (nonceL s g c) (headL t l g c) text := by
    unfold psealL; rw [List.drop_append_of_le_length (by rw [headL_len]; exact Nat.le_refl _), List.drop_eq_nil_of_le (by rw [headL_len]; exact Nat.le_refl _), List.nil_append]
  have hdef : headL t l g c ++ sealL key (nonceL s g c) (headL t l g c) text = psealL key s t l g c text := rfl
  rw [hdef] at eT eL eG eC eZ
  have hp : partB (psealL key s t l g c text) = true := by
    unfold partB
    rw [eT, eL, eG, eC, eZ, hh, hlen, show ((text.length + 36 : Nat) : Int) - 36 = (text.length : Int) by omega, hf]
    simp
  have hN : popenN s (psealL key s t l g c text) = nonceL s g c := by unfold popenN; rw [eG, eC]
  have hB : popenB key s (psealL key s t l g c text) = true := by
    unfold popenB
    rw [hp, hN, eG, eC, hn, ht, hd, q1]
    simp [k32]
  refine ⟨hB, eT, eL, eG, eC, ?_⟩
  unfold popenU
  rw [if_pos hB, hN, hd, q2]
theorem popenB_t {key b : List (BitVec 8)} {s : Int} (h : popenB key s b = true) : key.length = 32 ∧ partB b = true ∧ nonceB s (hG b) (hC b) = true ∧ openB key (popenN s b) (b.take 20) (b.drop 20) = true := by
  unfold popenB at h
  simp only [Bool.and_eq_true, decide_eq_true_eq] at h
  exact h
theorem popen_seal {key b : List (BitVec 8)} {s : Int} (h : popenB key s b = true) :
    psealE key s (hT b) (hL b) (hG b) (hC b) (popenU key s b).length = 0 ∧ psealL key s (hT b) (hL b) (hG b) (hC b) (popenU key s b) = b := by
  obtain ⟨k32, hp, hn, ho⟩ := popenB_t h
  obtain ⟨l1, l2⟩ := partB_len hp
  have hU : popenU key s b = openL key (popenN s b) (b.drop 20) := if_pos h
  have hlen : (popenU key s b).length = b.length - 36 := by rw [hU, openL_len, List.length_drop]; omega
  have hp' := hp
  simp only [partB, Bool.and_eq_true, decide_eq_true_eq] at hp'
  obtain ⟨⟨⟨_, hz⟩, hh⟩, hf⟩ := hp'
  have hH : headL (hT b) (hL b) (hG b) (hC b) = b.take 20 := (headL_of (by omega)).2 hz
  refine ⟨?_, ?_⟩
  · refine psealE_yes k32 ?_
    unfold psealB
    rw [hn, hh, hlen, show ((b.length - 36 : Nat) : Int) = (b.length : Int) - 36 by omega, hf]
    rfl
  · unfold psealL
    rw [hH, hU]
    have := (seal_open ho).2
    unfold popenN at this ⊢
    rw [this, List.take_append_drop]
theorem getB_t {l : List (BitVec 8)} (h : getB l = true) : gN l ≠ 0 ∧ 1 + 2 * gN l ≤ l.length ∧ l.length ≤ 1280 := by
  simp only [getB, Bool.and_eq_true, decide_eq_true_eq] at h; exact ⟨h.1.1, h.1.2, h.2⟩
end Go.Proofs.YtdkdbeamimkljaaGreatDoor.Eng
