/- Joined texts: Y1, Y2, Y3. -/
import Derived.Test.YtdkdbeamimkljaaGreatDoorMl
import Derived.Test.YtdkdbeamimkljaaGreatDoorMp
import Derived.Test.YtdkdbeamimkljaaGreatDoorMm
namespace Go.Proofs.YtdkdbeamimkljaaGreatDoor.Eng
set_option linter.unusedSimpArgs false
set_option linter.unusedVariables false
open Go Go.RowKit
theorem cut_same {b b' : List (BitVec 8)} {n a k : Nat} (h : b'.take n = b.take n) (hk : a + k ≤ n) : (b'.drop a).take k = (b.drop a).take k := by
  have e : ∀ l : List (BitVec 8), (l.drop a).take k = ((l.take n).drop a).take k := fun l => by
    rw [List.drop_take, List.take_take, Nat.min_eq_left (by omega)]
  rw [e b', h, ← e b]
theorem getD_same {b b' : List (BitVec 8)} {n j : Nat} (h : b'.take n = b.take n) (hj : j < n) : b'.getD j 0#8 = b.getD j 0#8 := by
  have e : ∀ l : List (BitVec 8), l.getD j 0#8 = (l.take n).getD j 0#8 := fun l => by
    rw [List.getD_eq_getElem?_getD, List.getD_eq_getElem?_getD, List.getElem?_take_of_lt hj]
  rw [e b', h, ← e b]
theorem popen_turn {key b b' : List (BitVec 8)} {s : Int} (h : popenB key s b = true) (hl : b'.length = b.length) (ht : b'.take (b.length - 16) = b.take (b.length - 16)) (hne : b' ≠ b) : popenB key s b' = false := by
  cases h' : popenB key s b' with
  | false => rfl
  | true =>
    exfalso
    obtain ⟨_, hp, _, _⟩ := popenB_t h
    obtain ⟨l1, l2⟩ := partB_len hp
    have e1 := (popen_seal h).2
    have e2 := (popen_seal h').2
    have eT : hT b' = hT b := by unfold hT; rw [getD_same ht (by omega)]
    have eL : hL b' = hL b := by unfold hL; rw [cut_same ht (by omega)]
    have eG : hG b' = hG b := by unfold hG; rw [cut_same ht (by omega)]
    have eC : hC b' = hC b := by unfold hC; rw [cut_same ht (by omega)]
    have eU : popenU key s b' = popenU key s b := by
      unfold popenU
      rw [if_pos h, if_pos h']
      unfold popenN openL
      rw [eG, eC, List.length_drop, List.length_drop, hl, cut_same ht (by omega)]
    rw [eT, eL, eG, eC, eU, e1] at e2
    exact hne e2.symm
theorem psealB_3 {key : List (BitVec 8)} {i n : Nat} (hi : i ≤ 30) (h1 : 9 ≤ n) (h2 : n ≤ 1280) : psealB key 0 3 1 1 (BitVec.ofInt 64 i) n = true := by
  have hc : (BitVec.ofInt 64 (i : Int)).toNat = i := by rw [BitVec.ofInt_natCast, BitVec.toNat_ofNat]; omega
  unfold psealB nonceB headB fitsB
  rw [hc]
  simp
  omega
theorem numB_beL4' {x : BitVec 64} (h : x.toNat < 4294967296) : numB (beL 4 x) = x := by
  apply BitVec.eq_of_getLsbD_eq
  intro i hi
  rw [numB_beL_bit hi]
  by_cases g : i / 8 < 4
  · rw [decide_eq_true g, Bool.true_and]
  · rw [decide_eq_false g, Bool.false_and]
    rw [BitVec.getLsbD, Nat.testBit_lt_two_pow (Nat.lt_of_lt_of_le h (Nat.pow_le_pow_right (n := 2) (i := 32) (by decide) (by omega)))]
theorem addr_back {f : Int} {hi lo : BitVec 64} (h : validB f hi lo = true) : aHi (addrL f hi lo) = hi ∧ numB (addrL f hi lo) = lo := by
  rcases validB_true h with rfl | ⟨rfl, rfl, h2⟩
  · have e : addrL 6 hi lo = beL 8 hi ++ beL 8 lo := rfl
    have l8 := beL_len 8 hi
    have k8 := beL_len 8 lo
    rw [e]
    constructor
    · unfold aHi
      rw [List.length_append, l8, k8, List.take_append_of_le_length (by omega), List.take_of_length_le (by omega)]
      exact numB_beL8 hi
    · rw [numB_low (by rw [List.length_append]; omega), List.length_append, l8, k8, List.drop_append_of_le_length (by omega), List.drop_eq_nil_of_le (by omega), List.nil_append]
      exact numB_beL8 lo
  · have e : addrL 4 0#64 lo = beL 4 lo := rfl
    have l4 := beL_len 4 lo
    rw [e]
    refine ⟨?_, numB_beL4' h2⟩
    unfold aHi
    rw [l4]
    rfl
theorem put_get {sf : Int} {sh sl : BitVec 64} {df : Int} {dh dl : BitVec 64} {b : List (BitVec 8)} (h : payB sf sh sl df dh dl b.length = true) :
    getB (payL sf sh sl df dh dl b) = true ∧ gB (payL sf sh sl df dh dl b) = b ∧ (∀ x, gP (payL sf sh sl df dh dl b) x = plS sf sh sl df dh dl x) ∧ 9 ≤ (payL sf sh sl df dh dl b).length ∧ (payL sf sh sl df dh dl b).length ≤ 1280 := by
  simp only [payB, Bool.and_eq_true, decide_eq_true_eq, beq_iff_eq] at h
  obtain ⟨⟨⟨h1, h2⟩, rfl⟩, h3⟩ := h
  have hL := payL_len sf sh sl sf dh dl b
  have a1 := addrL_len sf sh sl
  have a2 := addrL_len sf dh dl
  obtain ⟨b1, b2⟩ := addr_back h1
  obtain ⟨b3, b4⟩ := addr_back h2
  have hg : (payL sf sh sl sf dh dl b).getD 0 0#8 = BitVec.ofInt 8 sf := rfl
  have hn : gN (payL sf sh sl sf dh dl b) = (addrL sf sh sl).length ∧ gF (payL sf sh sl sf dh dl b) = sf := by
    unfold gN gF
    rw [hg, a1]
    rcases validB_true h1 with rfl | ⟨rfl, _, _⟩ <;> exact ⟨rfl, rfl⟩
  have a12 : (addrL sf dh dl).length = (addrL sf sh sl).length := by rw [a1, a2]
  have e : payL sf sh sl sf dh dl b = BitVec.ofInt 8 sf :: (addrL sf sh sl ++ (addrL sf dh dl ++ b)) := by unfold payL; simp
  have hX : gX (payL sf sh sl sf dh dl b) = addrL sf sh sl := by
    unfold gX; rw [hn.1, e, List.drop_succ_cons, List.drop_zero, List.take_left]
  have hY : gY (payL sf sh sl sf dh dl b) = addrL sf dh dl := by
    unfold gY; rw [hn.1, e, Nat.add_comm 1, List.drop_succ_cons, List.drop_left, ← a12, List.take_left]
  have hB : gB (payL sf sh sl sf dh dl b) = b := by
    unfold gB; rw [hn.1, e, Nat.add_comm 1, List.drop_succ_cons, Nat.two_mul, ← List.drop_drop, List.drop_left, ← a12, List.drop_left]
  have h4 : 4 ≤ (addrL sf sh sl).length := by rw [a1]; split <;> omega
  refine ⟨?_, hB, fun x => ?_, by omega, by omega⟩
  · have hn1 := hn.1
    unfold getB
    simp only [Bool.and_eq_true, decide_eq_true_eq]
    exact ⟨⟨by omega, by omega⟩, by omega⟩
  · unfold gP
    rw [hX, hY, hn.2, b1, b2, b3, b4]
def cI (i : Nat) : BitVec 64 := BitVec.ofInt 64 i
theorem psealE_3 {key : List (BitVec 8)} {i n : Nat} (k32 : key.length = 32) (hi : i ≤ 30) (h1 : 9 ≤ n) (h2 : n ≤ 1280) : psealE key 0 3 1 1 (cI i) n = 0 := psealE_yes k32 (psealB_3 hi h1 h2)
theorem pseal_o (nk ck nt ct : Nat) (key text : List (BitVec 8)) (i : Nat) (M : List Blk) (K : SV → List Blk → Prop) (hk : BAt M nk 0 key) (k32 : key.length = 32) (hck : 32 ≤ ck) (ht : BAt M nt 0 text) (hct : text.length ≤ ct) (hi : i ≤ 30) (h1 : 9 ≤ text.length) (h2 : text.length ≤ 1280)
    (hK : ∀ M' y, OwnB M' y (psealL key 0 3 1 1 (cI i) text) → NmG (fun n => M.length ≤ n) y → Ag (fun _ => False) M M' → K (.tup [y, .i .i64 0]) M') :
    callVC Tryz.prog 8 [.sl nk 0 32 ck, .i .i64 0, pkS 3 1 1 (cI i) (.sl nt 0 text.length ct)] M K := by
  have hE := psealE_3 (key := key) (i := i) k32 hi h1 h2
  have hU : psealU key 0 3 1 1 (cI i) text = psealL key 0 3 1 1 (cI i) text := if_pos hE
  have hL := psealL_len key 0 3 1 1 (cI i) text
  refine pseal_u nk 0 32 ck nt 0 text.length ct key text 0 3 1 1 (cI i) M K hk k32.symm hck (by omega) ht rfl hct (fun z ty => ?_)
  rw [hU, hE]
  exact hK _ _ (OwnB.new (by omega)) (fun d hd => by cases hd; exact Nat.le_refl _) Ag.app
theorem popen_o (nk ck n cb : Nat) (key text : List (BitVec 8)) (i : Nat) (M : List Blk) (K : SV → List Blk → Prop) (hk : BAt M nk 0 key) (k32 : key.length = 32) (hck : 32 ≤ ck) (hi : i ≤ 30) (h1 : 9 ≤ text.length) (h2 : text.length ≤ 1280) (hb : BAt M n 0 (psealL key 0 3 1 1 (cI i) text)) (hcb : text.length + 36 ≤ cb)
    (hK : ∀ M' y, OwnB M' y text → NmG (fun n => M.length ≤ n) y → Ag (fun _ => False) M M' → K (.tup [pkS 3 1 1 (cI i) y, .b true]) M') :
    callVC Tryz.prog 13 [.sl nk 0 32 ck, .i .i64 0, .sl n 0 (text.length + 36) cb] M K := by
  have hE := psealE_3 (key := key) (i := i) k32 hi h1 h2
  obtain ⟨p1, p2, p3, p4, p5, p6⟩ := pseal_open hE
  have hL := psealL_len key 0 3 1 1 (cI i) text
  refine popen_u nk 0 32 ck n 0 (text.length + 36) cb key _ 0 M K hk k32.symm hck (by omega) hb hL.symm hcb (by omega) (fun z ty => ?_)
  rw [p6, p1]
  unfold oT oL oG oC
  rw [if_pos rfl, if_pos rfl, if_pos rfl, if_pos rfl, p2, p3, p4, p5]
  exact hK _ _ (OwnB.new (by omega)) (fun d hd => by cases hd; exact Nat.le_refl _) Ag.app
theorem popen_no (nk ck n lb cb : Nat) (key b : List (BitVec 8)) (M : List Blk) (K : SV → List Blk → Prop) (hk : BAt M nk 0 key) (k32 : key.length = 32) (hck : 32 ≤ ck) (hb : BAt M n 0 b) (hlb : lb = b.length) (hcb : lb ≤ cb) (hl : b.length ≤ 100000) (hno : popenB key 0 b = false)
    (hK : ∀ M' t l g c y, y.one = true → y.lt M'.length = true → Ag (fun _ => False) M M' → K (.tup [pkS t l g c y, .b false]) M') :
    callVC Tryz.prog 13 [.sl nk 0 32 ck, .i .i64 0, .sl n 0 lb cb] M K := by
  refine popen_u nk 0 32 ck n 0 lb cb key b 0 M K hk k32.symm hck (by omega) hb hlb hcb (by omega) (fun z ty => ?_)
  rw [hno]
  exact hK _ _ _ _ _ _ rfl (by simp [SV.lt]) Ag.app
theorem nonce_o (i : Nat) (M : List Blk) (K : SV → List Blk → Prop) (hi : i ≤ 30) (hK : ∀ M' y, OwnB M' y (nonceL 0 1 (cI i)) → NmG (fun n => M.length ≤ n) y → Ag (fun _ => False) M M' → K y M') :
    callVC Tryz.prog 15 [.i .i64 0, .i .i64 1, .u64 (cI i)] M K := by
  have hL := nonceL_len 0 1 (cI i)
  have hb : nonceB 0 1 (cI i) = true := by
    have hc : (cI i).toNat = i := by unfold cI; rw [BitVec.ofInt_natCast, BitVec.toNat_ofNat]; omega
    unfold nonceB
    rw [hc]
    simp
    omega
  refine nonce_ok 0 1 (cI i) M K (fun _ z ty => ?_) (fun h => by rw [hb] at h; cases h)
  have := OwnB.new (M := M) (z := z) (ty := ty) (l := nonceL 0 1 (cI i)) (by omega)
  rw [hL] at this
  exact hK _ _ this (fun d hd => by cases hd; exact Nat.le_refl _) Ag.app
theorem putHead_o (i : Nat) (M : List Blk) (K : SV → List Blk → Prop) (hi : i ≤ 30) (hK : ∀ M' y, OwnB M' y (headL 3 1 1 (cI i)) → NmG (fun n => M.length ≤ n) y → Ag (fun _ => False) M M' → K (.tup [y, .i .i64 0]) M') :
    callVC Tryz.prog 16 [hdS 3 1 1 (cI i)] M K := by
  have hL := headL_len 3 1 1 (cI i)
  have hb : headB 3 1 1 (cI i) = true := by
    have hc : (cI i).toNat = i := by unfold cI; rw [BitVec.ofInt_natCast, BitVec.toNat_ofNat]; omega
    unfold headB
    rw [hc]
    simp
    omega
  refine putHead_ok 3 1 1 (cI i) M K (fun _ z ty => ?_) (fun h => by rw [hb] at h; cases h)
  have := OwnB.new (M := M) (z := z) (ty := ty) (l := headL 3 1 1 (cI i)) (by omega)
  rw [hL] at this
  exact hK _ _ this (fun d hd => by cases hd; exact Nat.le_refl _) Ag.app
theorem putPay_o (sf : Int) (sh sl : BitVec 64) (df : Int) (dh dl : BitVec 64) (n cap : Nat) (b : List (BitVec 8)) (M : List Blk) (K : SV → List Blk → Prop) (ha : BAt M n 0 b) (hcap : b.length ≤ cap) (hp : payB sf sh sl df dh dl b.length = true)
    (hK : ∀ M' y, OwnB M' y (payL sf sh sl df dh dl b) → NmG (fun n => M.length ≤ n) y → Ag (fun _ => False) M M' → K (.tup [y, .i .i64 0]) M') :
    callVC Tryz.prog 14 [plS sf sh sl df dh dl (.sl n 0 b.length cap)] M K := by
  obtain ⟨_, _, _, g4, g5⟩ := put_get hp
  have hL := payL_len sf sh sl df dh dl b
  refine putPayload_ok sf sh sl df dh dl n 0 cap b M K ha (by omega) hcap (fun _ z ty => ?_) (fun h => by rw [hp] at h; cases h)
  exact hK _ _ (OwnB.new (by omega)) (fun d hd => by cases hd; exact Nat.le_refl _) Ag.app
theorem getPay_o (n cap : Nat) (l : List (BitVec 8)) (M : List Blk) (K : SV → List Blk → Prop) (ha : BAt M n 0 l) (hl : l.length ≤ 1280) (hcap : l.length ≤ cap)
    (h1 : getB l = true → ∀ M' y, OwnG M' y (gB l) → NmG (fun n => M.length ≤ n) y → Ag (fun _ => False) M M' → K (.tup [gP l y, .i .i64 0]) M')
    (h0 : getB l = false → K (.tup [plS 0 0#64 0#64 0 0#64 0#64 .sn, .i .i64 90]) M) :
    callVC Tryz.prog 7 [.sl n 0 l.length cap] M K := by
  refine getPayload_ok n 0 cap l M K ha (by omega) hcap (fun h => ?_) h0
  refine h1 h _ _ ⟨by unfold gB; rw [List.length_drop]; omega, .inr ?_⟩ (fun d hd => by cases hd; exact Nat.le_refl _) Ag.app
  obtain ⟨_, g2, _⟩ := getB_t h
  by_cases e : (gB l).length = 0
  · refine ⟨M.length, [], [], l, 5, by rw [if_pos e]; simp [e], ?_⟩
    rw [get_app0, List.eq_nil_of_length_eq_zero e]; rfl
  · refine ⟨M.length, l.take (1 + 2 * gN l), [], [], 5, by rw [if_neg e, List.length_take, Nat.min_eq_left g2]; rfl, ?_⟩
    rw [get_app0]
    unfold gB
    rw [List.append_nil, List.append_nil, List.take_append_drop]; rfl
theorem getPay_l (n len cap : Nat) (l : List (BitVec 8)) (M : List Blk) (K : SV → List Blk → Prop) (ha : BAt M n 0 l) (hlen : len = l.length) (hl : l.length ≤ 1280) (hcap : l.length ≤ cap)
    (h1 : getB l = true → ∀ M' y, OwnG M' y (gB l) → NmG (fun n => M.length ≤ n) y → Ag (fun _ => False) M M' → K (.tup [gP l y, .i .i64 0]) M')
    (h0 : getB l = false → K (.tup [plS 0 0#64 0#64 0 0#64 0#64 .sn, .i .i64 90]) M) :
    callVC Tryz.prog 7 [.sl n 0 len cap] M K := by
  subst hlen
  exact getPay_o n cap l M K ha hl hcap h1 h0
theorem refGetPay_o (n cap : Nat) (l : List (BitVec 8)) (M : List Blk) (K : SV → List Blk → Prop) (ha : BAt M n 0 l) (hl : l.length ≤ 1280) (hcap : l.length ≤ cap)
    (h1 : getB l = true → ∀ M' y, OwnB M' y (gB l) → NmG (fun n => M.length ≤ n) y → Ag (fun _ => False) M M' → K (.tup [gP l y, .i .i64 0]) M')
    (h0 : getB l = false → K (.tup [plS 0 0#64 0#64 0 0#64 0#64 .sn, .i .i64 90]) M) :
    callVC Tryz.prog 39 [.sl n 0 l.length cap] M K := by
  refine refGetPayload_ok n 0 cap l M K ha (by omega) hcap (fun h z ty => ?_) h0
  exact h1 h _ _ (OwnB.new (by unfold gB; rw [List.length_drop]; omega)) (fun d hd => by cases hd; exact Nat.le_refl _) Ag.app
theorem refGetPay_l (n len cap : Nat) (l : List (BitVec 8)) (M : List Blk) (K : SV → List Blk → Prop) (ha : BAt M n 0 l) (hlen : len = l.length) (hl : l.length ≤ 1280) (hcap : l.length ≤ cap)
    (h1 : getB l = true → ∀ M' y, OwnB M' y (gB l) → NmG (fun n => M.length ≤ n) y → Ag (fun _ => False) M M' → K (.tup [gP l y, .i .i64 0]) M')
    (h0 : getB l = false → K (.tup [plS 0 0#64 0#64 0 0#64 0#64 .sn, .i .i64 90]) M) :
    callVC Tryz.prog 39 [.sl n 0 len cap] M K := by
  subst hlen
  exact refGetPay_o n cap l M K ha hl hcap h1 h0
theorem samePay_e (sf : Int) (sh sl : BitVec 64) (df : Int) (dh dl : BitVec 64) (x y : SV) (a : List (BitVec 8)) (M : List Blk) (K : SV → List Blk → Prop) (ha : Byt M x a) (hb : Byt M y a) (hK : K (.b true) M) :
    callVC Tryz.prog 10 [plS sf sh sl df dh dl x, plS sf sh sl df dh dl y] M K := by
  have o1 := ha.one
  have o2 := hb.one
  unfold plS
  refine fn_rule tabOK Tryz.func10 rfl Tryz.call10 (by kernel_rfl) (fun hM => ?_)
  (refine top_in ?_; simp -implicitDefEqProofs only [Tryz.ntmps10, Tryz.results10, go_sem, -List.reduceReplicate, ↓L_gdZ_tt, ↓L_gdZ_tf, ↓L_gdZ_ft, ↓L_gdZ_ff, ↓T_and, ↓T_imp, ↓T_all, List.take_succ_cons, List.take_zero, List.drop_succ_cons, List.drop_zero, o1, o2]; try simp only [top_out])
  refine sameAddr_ok _ _ _ _ _ _ _ _ ?_
  (refine top_in ?_; simp -implicitDefEqProofs only [go_sem, -List.reduceReplicate, ↓L_gdZ_tt, ↓L_gdZ_tf, ↓L_gdZ_ft, ↓L_gdZ_ff, ↓T_and, ↓T_imp, ↓T_all, List.take_succ_cons, List.take_zero, List.drop_succ_cons, List.drop_zero, o1, o2, beq_self_eq_true, Bool.and_self]; try simp only [top_out])
  refine sameAddr_ok _ _ _ _ _ _ _ _ ?_
  (refine top_in ?_; simp -implicitDefEqProofs only [go_sem, -List.reduceReplicate, ↓L_gdZ_tt, ↓L_gdZ_tf, ↓L_gdZ_ft, ↓L_gdZ_ff, ↓T_and, ↓T_imp, ↓T_all, List.take_succ_cons, List.take_zero, List.drop_succ_cons, List.drop_zero, o1, o2, beq_self_eq_true, Bool.and_self]; try simp only [top_out])
  refine same_byt _ x y a a _ ha.app hb.app ?_
  (refine top_in ?_; simp -implicitDefEqProofs only [go_sem, -List.reduceReplicate, ↓L_gdZ_tt, ↓L_gdZ_tf, ↓L_gdZ_ft, ↓L_gdZ_ff, ↓T_and, ↓T_imp, ↓T_all, beq_self_eq_true, Bool.and_self]; try simp only [top_out])
  exact dropC_append hM rfl hK
set_option maxHeartbeats 1000000 in
theorem refPut_e (sf : Int) (sh sl : BitVec 64) (df : Int) (dh dl : BitVec 64) (e : SV) (b : List (BitVec 8)) (M : List Blk) (K : SV → List Blk → Prop) (he : Byt M e b)
    (h1 : payB sf sh sl df dh dl b.length = true → ∀ M' y, OwnB M' y (payL sf sh sl df dh dl b) → NmG (fun n => M.length ≤ n) y → Ag (fun _ => False) M M' → K (.tup [y, .i .i64 0]) M')
    (h0 : payB sf sh sl df dh dl b.length = false → K (.tup [.sn, .i .i64 90]) M) :
    callVC Tryz.prog 6 [plS sf sh sl df dh dl e] M K := by
  have hs := addrU_le sf sh sl
  have hd := addrU_le df dh dl
  have oe := he.one
  have hb := he.1
  have le : ∀ {M' : List Blk} {e' a' b' : Nat} {K : SV → Prop}, lenB (.slice e' a' b') M' e K = K (.i .i64 b.length) := he.lenB
  unfold plS
  refine fn_rule tabOK Tryz.func6 rfl Tryz.call6 (by kernel_rfl) (fun hM => ?_)
  (refine top_in ?_; simp -implicitDefEqProofs only [Tryz.ntmps6, Tryz.results6, go_sem, -List.reduceReplicate, ↓L_gdZ_tt, ↓L_gdZ_tf, ↓L_gdZ_ft, ↓L_gdZ_ff, ↓T_and, ↓T_imp, ↓T_all, oe, le]; try simp only [top_out])
  refine refPutAddr_u sf sh sl _ _ (fun z ty => ?_)
  (refine top_in ?_; simp -implicitDefEqProofs only [go_sem, -List.reduceReplicate, ↓L_gdZ_tt, ↓L_gdZ_tf, ↓L_gdZ_ft, ↓L_gdZ_ff, ↓T_and, ↓T_imp, ↓T_all, oe, le]; try simp only [top_out])
  refine refPutAddr_u df dh dl _ _ (fun z2 ty2 => ?_)
  (refine top_in ?_; simp -implicitDefEqProofs only [go_sem, -List.reduceReplicate, ↓L_gdZ_tt, ↓L_gdZ_tf, ↓L_gdZ_ft, ↓L_gdZ_ff, ↓T_and, ↓T_imp, ↓T_all, oe, le]; try simp only [top_out])
  rw [w64 (x := 2 * ((addrU sf sh sl).length : Int)) (by omega) (by omega), w64 (x := 1279 - 2 * ((addrU sf sh sl).length : Int)) (by omega) (by omega)]
  refine ⟨fun h => ?_, fun h => dropC_append hM rfl (h0 ?_)⟩
  · have p1 : (addrU sf sh sl).length ≠ 0 := by have := beqF h; omega
    have hv : validB sf sh sl = true := by
      cases hv : validB sf sh sl
      · exact absurd (addrU_pos.2 hv) p1
      · rfl
    refine ⟨fun h => ?_, fun h => dropC_append hM rfl (h0 ?_)⟩
    · have p2 : (addrU df dh dl).length = (addrU sf sh sl).length := by have := bneF h; omega
      have hv2 : validB df dh dl = true := by
        cases hv : validB df dh dl
        · exact absurd (addrU_pos.2 hv) (by omega)
        · rfl
      have a1 : addrU sf sh sl = addrL sf sh sl := if_pos hv
      have a2 : addrU df dh dl = addrL df dh dl := if_pos hv2
      rw [a1, a2] at p2
      rw [a1, a2]
      rw [a1] at hs
      rw [a2] at hd
      have hfd : sf = df := by
        rw [addrL_len, addrL_len] at p2
        rcases validB_true hv with rfl | ⟨rfl, _, _⟩ <;> rcases validB_true hv2 with rfl | ⟨rfl, _, _⟩ <;> first | rfl | (simp at p2)
      subst hfd
      refine ⟨fun h => dropC_append hM rfl (h0 ?_), fun h => ?_⟩
      · rw [payB, show decide (1 + 2 * (addrL sf sh sl).length + b.length ≤ 1280) = false by simp; omega]; simp
      · have hp : payB sf sh sl sf dh dl b.length = true := by
          rw [payB, hv, hv2, show decide (1 + 2 * (addrL sf sh sl).length + b.length ≤ 1280) = true by simp; omega]; simp
        refine ⟨by decide, ?_⟩
        refine app8 (M.length + 3) [BitVec.ofInt 8 sf] [] (addrL sf sh sl) 5 rfl rfl rfl (by rw [get_app]; rfl) rfl rfl (src_row (z := z) (ty := ty) (by rw [get_app]; rfl) rfl) (by simp; omega) ?_
        intro z3 ty3
        (refine top_in ?_; simp -implicitDefEqProofs only [go_sem, -List.reduceReplicate, ↓L_gdZ_tt, ↓L_gdZ_tf, ↓L_gdZ_ft, ↓L_gdZ_ff, ↓T_and, ↓T_imp, ↓T_all, oe, le]; try simp only [top_out])
        refine app8 (M.length + 4) ([BitVec.ofInt 8 sf] ++ addrL sf sh sl) z3 (addrL sf dh dl) ty3 rfl rfl rfl (by rw [get_app]; rfl) (by simp; omega) (by simp; omega) (src_row (z := z2) (ty := ty2) (by rw [get_app]; rfl) rfl) (by simp; omega) ?_
        intro z4 ty4
        (refine top_in ?_; simp -implicitDefEqProofs only [go_sem, -List.reduceReplicate, ↓L_gdZ_tt, ↓L_gdZ_tf, ↓L_gdZ_ft, ↓L_gdZ_ff, ↓T_and, ↓T_imp, ↓T_all, List.drop_succ_cons, List.drop_zero, oe, le]; try simp only [top_out])
        refine app8 (M.length + 5) ([BitVec.ofInt 8 sf] ++ addrL sf sh sl ++ addrL sf dh dl) z4 b ty4 rfl rfl rfl (by rw [get_app]; simp) (by simp; omega) (by simp; omega) he.app.src (by simp; omega) ?_
        intro z5 ty5
        (refine top_in ?_; simp -implicitDefEqProofs only [go_sem, -List.reduceReplicate, ↓L_gdZ_tt, ↓L_gdZ_tf, ↓L_gdZ_ft, ↓L_gdZ_ff, ↓T_and, ↓T_imp, ↓T_all]; try simp only [top_out])
        have hL := payL_len sf sh sl sf dh dl b
        exact drop8te (ty := ty5) 6 (payL sf sh sl sf dh dl b) z5 hM rfl (by simp [payL]) (by rw [payL_len]; omega) (by rw [payL_len]; omega) (h1 hp _ _ (OwnB.new (by omega)) (fun d hd => by cases hd; exact Nat.le_refl _) Ag.app)
    · have p2 : (addrU df dh dl).length ≠ (addrU sf sh sl).length := by have := bneT h; omega
      rw [payB]
      cases hv2 : validB df dh dl
      · simp
      · have hne : sf ≠ df := by
          rintro rfl
          apply p2
          unfold addrU
          rw [if_pos hv, if_pos hv2, addrL_len, addrL_len]
        rw [show (sf == df) = false by simpa using hne]; simp
  · rw [payB, addrU_pos.1 (by have := beqT h; omega)]; rfl
def markR (k : Nat) : List (BitVec 8) := (List.range k).map fun i : Nat => BitVec.ofInt 8 (47 + 11 * (i : Int))
theorem markR_len (k : Nat) : (markR k).length = k := by unfold markR; simp
theorem markR_succ (k : Nat) : markR (k + 1) = markR k ++ [BitVec.ofInt 8 (47 + 11 * (k : Int))] := by
  unfold markR; rw [List.range_succ, List.map_append]; rfl
def roomR (l : List (BitVec 8)) : List (BitVec 8) := l ++ markR 40
theorem roomR_len (l : List (BitVec 8)) : (roomR l).length = l.length + 40 := by unfold roomR; rw [List.length_append, markR_len]
theorem roomy9_ok (x : SV) (l : List (BitVec 8)) (M : List Blk) (K : SV → List Blk → Prop) (h : Byt M x l) (hl : l.length ≤ 900000)
    (hK : ∀ M' y, OwnB M' y (roomR l) → NmG (fun n => M.length ≤ n) y → Ag (fun _ => False) M M' → K y M') :
    callVC Tryz.prog 5 [x] M K := by
  have o1 := h.one
  refine fn_rule tabOK Tryz.func5 rfl Tryz.call5 (by kernel_rfl) (fun hM => ?_)
  (refine top_in ?_; simp -implicitDefEqProofs only [Tryz.ntmps5, Tryz.results5, go_sem, -List.reduceReplicate, ↓L_gdZ_tt, ↓L_gdZ_tf, ↓L_gdZ_ft, ↓L_gdZ_ff, ↓T_and, ↓T_imp, ↓T_all, o1]; try simp only [top_out])
  refine bytes_own x l _ _ h (by omega) (fun M1 y1 ho1 n1 A1 => ?_)
  (refine top_in ?_; simp -implicitDefEqProofs only [go_sem, -List.reduceReplicate, ↓L_gdZ_tt, ↓L_gdZ_tf, ↓L_gdZ_ft, ↓L_gdZ_ff, ↓T_and, ↓T_imp, ↓T_all, ho1.one]; try simp only [top_out])
  refine loop_code tabOK (by kernel_rfl) (fun m ts M' => ∃ (k : Nat) (s : SV), k + m = 40 ∧ Ag (fun _ => False) M M' ∧ OwnB M' s (l ++ markR k) ∧ NmG (fun n => M.length ≤ n) s ∧ frC [none, none, none, some (s), some (.i .i64 k), none, none, none, none, none, none, none, none, none, none, none, none, none, none] ts) 40 ?_ ?_
  · exact ⟨0, y1, by omega, A1, by rw [show markR 0 = [] from rfl, List.append_nil]; exact ho1, n1, by simp [frC]⟩
  · rintro m ts M2 ⟨k, s, hk, hA, hs, hn, hf⟩
    have hm := hA.1
    have os := hs.one
    have hml := markR_len k
    obtain ⟨f, rfl⟩ := frC_open _ _ 0 hf
    clear hf
    (refine top_in ?_; simp -implicitDefEqProofs only [go_sem, -List.reduceReplicate, ↓L_gdZ_tt, ↓L_gdZ_tf, ↓L_gdZ_ft, ↓L_gdZ_ff, ↓T_and, ↓T_imp, ↓T_all, os]; try simp only [top_out])
    refine ⟨fun h1 => ?_, fun h1 => ?_⟩
    · have w1 : IntKind.i64.wrap (11 * (k : Int)) = 11 * (k : Int) := w64 (by omega) (by omega)
      have w2 : IntKind.i64.wrap (47 + 11 * (k : Int)) = 47 + 11 * (k : Int) := w64 (by omega) (by omega)
      (refine top_in ?_; simp -implicitDefEqProofs only [go_sem, -List.reduceReplicate, ↓L_gdZ_tt, ↓L_gdZ_tf, ↓L_gdZ_ft, ↓L_gdZ_ff, ↓T_and, ↓T_imp, ↓T_all, os, w1, w2]; try simp only [top_out])
      refine ⟨by decide, ?_⟩
      refine appO (w := [BitVec.ofInt 8 (47 + 11 * (k : Int))]) rfl rfl rfl hs.app (src_u8 (by rw [get_app0]; rfl)) (by simp; omega) (fun M3 y3 ho3 n3 A3 => ?_)
      rw [List.append_assoc, ← markR_succ] at ho3
      rw [List.length_append, List.length_singleton] at n3
      (refine top_in ?_; simp -implicitDefEqProofs only [go_sem, -List.reduceReplicate, ↓L_gdZ_tt, ↓L_gdZ_tf, ↓L_gdZ_ft, ↓L_gdZ_ff, ↓T_and, ↓T_imp, ↓T_all, ho3.one]; try simp only [top_out])
      exact ⟨m - 1, by omega, k + 1, y3, by omega, Ag.trans hA (S' := fun n => dnS s = some n) (Ag.app.then A3) (fun n hn1 h => by have := hn n h; omega), ho3, fun d hd => by have := n3 d hd; omega, rfl, by rw [w64 (by omega) (by omega)]; omega⟩
    · obtain rfl : k = 40 := by omega
      exact dropC_all hm (hK M2 s hs hn hA)
theorem xor_one (x : BitVec 8) : x ^^^ 1#8 ≠ x := fun h => by
  have h2 : x ^^^ (x ^^^ 1#8) = x ^^^ x := by rw [h]
  rw [← BitVec.xor_assoc, BitVec.xor_self, BitVec.zero_xor] at h2
  exact absurd h2 (by decide)
theorem getD_set_self {l : List (BitVec 8)} {j : Nat} {v : BitVec 8} (h : j < l.length) : (l.set j v).getD j 0#8 = v := by
  rw [List.getD_eq_getElem?_getD, List.getElem?_set_self h]; rfl
theorem set_left {l r : List (BitVec 8)} {j : Nat} {v : BitVec 8} (h : j < l.length) : (l ++ r).set j v = l.set j v ++ r := List.set_append_left _ _ h
theorem getD_left {l r : List (BitVec 8)} {j : Nat} (h : j < l.length) : (l ++ r).getD j 0#8 = l.getD j 0#8 := by
  rw [List.getD_eq_getElem?_getD, List.getElem?_append_left h, List.getD_eq_getElem?_getD]
set_option maxHeartbeats 2000000 in
theorem turnedL_ok (nk ck nz cz np cp i : Nat) (key text rz rp : List (BitVec 8)) (tz tp : TypeId) (M : List Blk) (K : SV → List Blk → Prop) (hk : BAt M nk 0 key) (k32 : key.length = 32) (hck : 32 ≤ ck) (hi : i ≤ 30) (h1 : 9 ≤ text.length) (h2 : text.length ≤ 1280)
    (hz : M[nz]? = some (.row (bS (psealL key 0 3 1 1 (cI i) text ++ rz)) tz)) (hcz : text.length + 36 ≤ cz) (hp : M[np]? = some (.row (bS (text ++ rp)) tp)) (hcp : text.length ≤ cp) (n1 : nk ≠ nz) (n2 : nk ≠ np) (n3 : nz ≠ np)
    (hK : ∀ M' text', text'.length = text.length → M'[np]? = some (.row (bS (text' ++ rp)) tp) → Ag (fun n => n = nz ∨ n = np) M M' → K (.b true) M') :
    callVC Tryz.prog 17 [.sl nk 0 32 ck, .sl nz 0 (text.length + 36) cz, .sl np 0 text.length cp] M K := by
  have hE := psealE_3 (key := key) (i := i) k32 hi h1 h2
  obtain ⟨p1, p2, p3, p4, p5, p6⟩ := pseal_open hE
  have hL := psealL_len key 0 3 1 1 (cI i) text
  generalize hS : psealL key 0 3 1 1 (cI i) text = S at *
  have wz := kwMem hz
  have wp := kwMem hp
  have e1 : IntKind.i64.wrap (((text.length + 36 : Nat) : Int) - 1) = ((text.length + 35 : Nat) : Int) := by rw [w64 (by omega) (by omega)]; omega
  have e2 : IntKind.i64.wrap ((text.length : Int) - 1) = ((text.length - 1 : Nat) : Int) := by rw [w64 (by omega) (by omega)]; omega
  have d1 : text.length + 35 < (S ++ rz).length := by rw [List.length_append]; omega
  have g1 := getD_left (l := S) (r := rz) (j := text.length + 35) (by omega)
  have g2 := set_left (l := S) (r := rz) (j := text.length + 35) (v := S.getD (text.length + 35) 0#8 ^^^ 1#8) (by omega)
  refine fn_rule tabOK Tryz.func17 rfl Tryz.call17 (by kernel_rfl) (fun hM => ?_)
  (refine top_in ?_; simp -implicitDefEqProofs only [Tryz.ntmps17, Tryz.results17, go_sem, -List.reduceReplicate, ↓L_gdZ_tt, ↓L_gdZ_tf, ↓L_gdZ_ft, ↓L_gdZ_ff, ↓T_and, ↓T_imp, ↓T_all, e1, hz, d1, g1, g2]; try simp only [top_out])
  repeat (with_reducible refine And.intro (by omega) ?_)
  generalize hS' : S.set (text.length + 35) (S.getD (text.length + 35) 0#8 ^^^ 1#8) = S'
  have hl' : S'.length = S.length := by rw [← hS', List.length_set]
  have hA1 : Ag (fun n => n = nz ∨ n = np) M (M.set nz (.row (bS (S' ++ rz)) tz)) := (Ag.set (S := fun n => n = nz) rfl).mono (fun n h => .inl h)
  refine popen_no nk ck nz _ cz key S' _ _ (hk.ag hA1 (fun h => h.elim (fun e => n1 e) (fun e => n2 e))) k32 hck (BAt.row (z := rz) (ty := tz) (gss0 wz)) (by omega) hcz (by omega) (popen_turn p1 hl' ?_ ?_) (fun M1 tt ll gg cc yy oy ly A1 => ?_)
  · rw [← hS', List.take_set_of_le (by omega)]
  · intro e
    have : S'.getD (text.length + 35) 0#8 = S.getD (text.length + 35) 0#8 := by rw [e]
    rw [← hS', getD_set_self (by omega)] at this
    exact xor_one _ this
  have hp1 : M1[np]? = some (.row (bS (text ++ rp)) tp) := A1.get ((List.getElem?_set_ne n3).trans hp) (fun h => h)
  have x1 := A1.1
  rw [List.length_set] at x1
  have wp1 := kwMem hp1
  have d2 : text.length - 1 < (text ++ rp).length := by rw [List.length_append]; omega
  have g3 := getD_left (l := text) (r := rp) (j := text.length - 1) (by omega)
  have g4 := set_left (l := text) (r := rp) (j := text.length - 1) (v := text.getD (text.length - 1) 0#8 + 1#8) (by omega)
  unfold pkS
  (refine top_in ?_; simp -implicitDefEqProofs only [go_sem, -List.reduceReplicate, ↓L_gdZ_tt, ↓L_gdZ_tf, ↓L_gdZ_ft, ↓L_gdZ_ff, ↓T_and, ↓T_imp, ↓T_all, oy, e2, get_lt wp1, hp1, d2, g3, g4]; try simp only [top_out])
  repeat (with_reducible refine And.intro (by omega) ?_)
  generalize ht' : text.set (text.length - 1) (text.getD (text.length - 1) 0#8 + 1#8) = text'
  have hlt : text'.length = text.length := by rw [← ht', List.length_set]
  obtain ⟨B7, hB7⟩ : ∃ B7, Blk.row [SV.i .i64 tt, SV.i .i64 ll, SV.i .i64 gg, SV.u64 cc, yy] 61 = B7 := ⟨_, rfl⟩
  rw [hB7]
  have hA2 : Ag (fun n => n = nz ∨ n = np) M ((M1 ++ [B7]).set np (.row (bS (text' ++ rp)) tp)) :=
    hA1.then (((A1.then Ag.app).mono (fun n h => h.elim)).then ((Ag.set (S := fun n => n = np) rfl).mono (fun n h => .inr h)))
  have hp2 : ((M1 ++ [B7]).set np (.row (bS (text' ++ rp)) tp))[np]? = some (.row (bS (text' ++ rp)) tp) := gss0 (by rw [List.length_append]; omega)
  generalize (M1 ++ [B7]).set np (.row (bS (text' ++ rp)) tp) = M2 at hA2 hp2
  refine getPay_l np text.length cp text' M2 _ (BAt.row hp2) hlt.symm (by omega) (by omega) (fun hg M3 y3 hy3 ny3 A3 => ?_) (fun hg => ?_)
  · have hp3 := A3.get hp2 (fun h => h)
    unfold gP plS
    (refine top_in ?_; simp -implicitDefEqProofs only [go_sem, -List.reduceReplicate, ↓L_gdZ_tt, ↓L_gdZ_tf, ↓L_gdZ_ft, ↓L_gdZ_ff, ↓T_and, ↓T_imp, ↓T_all, hy3.one]; try simp only [top_out])
    refine refGetPay_l np text.length cp text' _ _ ((BAt.row hp3).ag (S := fun _ => False) Ag.app (fun e => e)) hlt.symm (by omega) (by omega) (fun _ M4 y4 hy4 ny4 A4 => ?_) (fun hg' => by rw [hg] at hg'; cases hg')
    have hr9 := A4.at0 noS rfl
    have w9 := kwMem hr9
    have b3 : Byt M4 y3 (gB text') := hy3.byt.app.ag A4 (fun _ _ e => e)
    unfold gP plS
    (refine top_in ?_; simp -implicitDefEqProofs only [go_sem, -List.reduceReplicate, ↓L_gdZ_tt, ↓L_gdZ_tf, ↓L_gdZ_ft, ↓L_gdZ_ff, ↓T_and, ↓T_imp, ↓T_all, hy3.one, hy4.one, get_lt w9, hr9]; try simp only [top_out])
    refine samePay_e _ _ _ _ _ _ y3 y4 (gB text') _ _ b3.app hy4.byt.app ?_
    (refine top_in ?_; simp -implicitDefEqProofs only [go_sem, -List.reduceReplicate, ↓L_gdZ_tt, ↓L_gdZ_tf, ↓L_gdZ_ft, ↓L_gdZ_ff, ↓T_and, ↓T_imp, ↓T_all]; try simp only [top_out])
    refine num_ok 0 _ _ ?_
    (refine top_in ?_; simp -implicitDefEqProofs only [go_sem, -List.reduceReplicate, ↓L_gdZ_tt, ↓L_gdZ_tf, ↓L_gdZ_ft, ↓L_gdZ_ff, ↓T_and, ↓T_imp, ↓T_all]; try simp only [top_out])
    have hA4 : Ag (fun n => n = nz ∨ n = np) M M4 := hA2.then ((A3.then (Ag.app.then A4)).mono (fun n h => h.elim))
    have hp4 := A4.get ((get_lt (kwMem hp3)).trans hp3) (fun h => h)
    exact dropC_all (by have := hA4.1; simp; omega) (hK _ text' hlt ((get_lt (kwMem hp4)).trans hp4) (hA4.then Ag.app))
  · unfold plS
    (refine top_in ?_; simp -implicitDefEqProofs only [go_sem, -List.reduceReplicate, ↓L_gdZ_tt, ↓L_gdZ_tf, ↓L_gdZ_ft, ↓L_gdZ_ff, ↓T_and, ↓T_imp, ↓T_all]; try simp only [top_out])
    refine refGetPay_l np text.length cp text' _ _ ((BAt.row hp2).ag (S := fun _ => False) Ag.app (fun e => e)) hlt.symm (by omega) (by omega) (fun hg' => by rw [hg] at hg'; cases hg') (fun _ => ?_)
    unfold plS
    (refine top_in ?_; simp -implicitDefEqProofs only [go_sem, -List.reduceReplicate, ↓L_gdZ_tt, ↓L_gdZ_tf, ↓L_gdZ_ft, ↓L_gdZ_ff, ↓T_and, ↓T_imp, ↓T_all]; try simp only [top_out])
    refine samePay_e _ _ _ _ _ _ .sn .sn [] _ _ Byt.sn Byt.sn ?_
    (refine top_in ?_; simp -implicitDefEqProofs only [go_sem, -List.reduceReplicate, ↓L_gdZ_tt, ↓L_gdZ_tf, ↓L_gdZ_ft, ↓L_gdZ_ff, ↓T_and, ↓T_imp, ↓T_all]; try simp only [top_out])
    refine num_ok 90 _ _ ?_
    (refine top_in ?_; simp -implicitDefEqProofs only [go_sem, -List.reduceReplicate, ↓L_gdZ_tt, ↓L_gdZ_tf, ↓L_gdZ_ft, ↓L_gdZ_ff, ↓T_and, ↓T_imp, ↓T_all]; try simp only [top_out])
    exact dropC_all (by have := hA2.1; simp; omega) (hK _ text' hlt ((get_lt (kwMem hp2)).trans hp2) (hA2.then Ag.app))
end Go.Proofs.YtdkdbeamimkljaaGreatDoor.Eng
