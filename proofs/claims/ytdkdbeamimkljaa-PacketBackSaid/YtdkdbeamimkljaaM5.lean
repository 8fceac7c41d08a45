/- Joined texts: V5, V6, V7, V8. -/
import Derived.Test.YtdkdbeamimkljaaM4
import Derived.Test.YtdkdbeamimkljaaEngP
/- The payload of any bytes. -/
namespace Go.Proofs.Ytdkdbeamimkljaa.Eng
open Go Go.RowKit
set_option linter.unusedSimpArgs false
set_option linter.unusedVariables false

/-- how long an address is, by the first byte -/
def gN (l : List (BitVec 8)) : Nat := if l.getD 0 0#8 = 4#8 then 4 else if l.getD 0 0#8 = 6#8 then 16 else 0
def gF (l : List (BitVec 8)) : Int := (l.getD 0 0#8).toNat
def gX (l : List (BitVec 8)) : List (BitVec 8) := (l.drop 1).take (gN l)
def gY (l : List (BitVec 8)) : List (BitVec 8) := (l.drop (1 + gN l)).take (gN l)
def gB (l : List (BitVec 8)) : List (BitVec 8) := l.drop (1 + 2 * gN l)
def getB (l : List (BitVec 8)) : Bool := decide (gN l ≠ 0) && decide (1 + 2 * gN l ≤ l.length) && decide (l.length ≤ 1280)
def gP (l : List (BitVec 8)) (x : SV) : SV := plS (gF l) (aHi (gX l)) (numB (gX l)) (gF l) (aHi (gY l)) (numB (gY l)) x
/-- an answer with a slice into new bytes -/
theorem dropP {M L : List Blk} {K : SV → List Blk → Prop} {n off len cap : Nat} {ty : TypeId} {sf df e : Int} {sh sl dh dl : BitVec 64} (k : Nat) (l : List (BitVec 8)) (hM : ∀ (n : Nat) (B : Blk), M[n]? = some B → B.lt M.length = true) (hn : n = M.length + k)
    (hk : L[k]? = some (.row (bS l) ty)) (hK : K (.tup [plS sf sh sl df dh dl (.sl M.length off len cap), .i .i64 e]) (M ++ [.row (bS l) ty])) : dropC M.length (.tup [plS sf sh sl df dh dl (.sl n off len cap), .i .i64 e]) (M ++ L) K := by
  subst hn
  refine dropC_gc hM [some k] (.tup [plS sf sh sl df dh dl (.sl M.length off len cap), .i .i64 e]) [.row (bS l) ty] rfl ⟨keep8 hk, trivial⟩ (by simp [lt_row]) (by simp [SV.lt, ltL, plS]) (fun ρ => ?_) hK
  simp only [plS, rn_tup, rn_agg, rnL_cons, rnL_nil, rn_sl_at0, rn_i, rn_u64]
  rfl

theorem v0_eq (l : List (BitVec 8)) : (getV l 0 0 1).setWidth 8 = l.getD 0 0#8 := by
  cases l with
  | nil => rfl
  | cons x r => rw [getV_ok (rerr_zero.2 ⟨rfl, by simp⟩)]; simp [numB]
theorem gX6 {l : List (BitVec 8)} (h : gN l = 16) (hl : 33 ≤ l.length) : aHi (gX l) = numB ((l.drop 1).take 8) ∧ numB (gX l) = numB ((l.drop 9).take 8) := by
  have hx : (gX l).length = 16 := by unfold gX; rw [h]; simp; omega
  refine ⟨?_, ?_⟩
  · rw [aHi, hx, gX, h, List.take_take]; rfl
  · rw [numB_low (by omega), hx, gX, h, List.drop_take, List.drop_drop]
theorem gY6 {l : List (BitVec 8)} (h : gN l = 16) (hl : 33 ≤ l.length) : aHi (gY l) = numB ((l.drop 17).take 8) ∧ numB (gY l) = numB ((l.drop 25).take 8) := by
  have hx : (gY l).length = 16 := by unfold gY; rw [h]; simp; omega
  refine ⟨?_, ?_⟩
  · rw [aHi, hx, gY, h, List.take_take]; rfl
  · rw [numB_low (by omega), hx, gY, h, List.drop_take, List.drop_drop]
theorem gX4 {l : List (BitVec 8)} (h : gN l = 4) (hl : 9 ≤ l.length) : aHi (gX l) = 0#64 ∧ numB (gX l) = numB ((l.drop 1).take 4) := by
  have hx : (gX l).length = 4 := by unfold gX; rw [h]; simp; omega
  refine ⟨?_, ?_⟩
  · rw [aHi, hx]; rfl
  · rw [gX, h]
theorem gY4 {l : List (BitVec 8)} (h : gN l = 4) (hl : 9 ≤ l.length) : aHi (gY l) = 0#64 ∧ numB (gY l) = numB ((l.drop 5).take 4) := by
  have hx : (gY l).length = 4 := by unfold gY; rw [h]; simp; omega
  refine ⟨?_, ?_⟩
  · rw [aHi, hx]; rfl
  · rw [gY, h]
theorem nat8 {x : BitVec 8} {n : Nat} (hn : n < 256) : (((x.toNat : Nat) : Int) = (n : Int)) ↔ x = BitVec.ofNat 8 n := by
  constructor
  · intro h; apply BitVec.eq_of_toNat_eq; rw [BitVec.toNat_ofNat]; omega
  · rintro rfl; rw [BitVec.toNat_ofNat]; omega

set_option maxHeartbeats 1000000 in
theorem getPayload_ok (n off cap : Nat) (l : List (BitVec 8)) (M : List Blk) (K : SV → List Blk → Prop) (ha : BAt M n off l) (hl : l.length ≤ 140737488355000) (hcap : l.length ≤ cap)
    (h1 : getB l = true → K (.tup [gP l (.sl M.length (if (gB l).length = 0 then 0 else 1 + 2 * gN l) (gB l).length (gB l).length), .i .i64 0]) (M ++ [.row (bS l) 5]))
    (h0 : getB l = false → K (.tup [plS 0 0#64 0#64 0 0#64 0#64 .sn, .i .i64 90]) M) :
    callVC Try.prog 24 [.sl n off l.length cap] M K := by
  refine fn_rule tabOK Try.func24 rfl Try.call24 (by kernel_rfl) (fun hM => ?_)
  (refine top_in ?_; simp -implicitDefEqProofs only [Try.ntmps24, Try.results24, go_sem, -List.reduceReplicate, ↓L_gdZ_tt, ↓L_gdZ_tf, ↓L_gdZ_ft, ↓L_gdZ_ff, ↓T_and, ↓T_imp, ↓T_all, Nat.reduceBEq, Nat.reduceAdd, Nat.reduceSub, Nat.reduceMul, Nat.reduceLT, Nat.reduceLeDiff, Nat.reduceEqDiff, Int.reduceLT, Int.reduceLE, Int.reduceAdd, Int.reduceSub, Int.reduceMul, Int.reduceNeg, Int.reduceToNat, Int.reduceEq, Int.reduceNe, reduceIte, reduceCtorEq, BitVec.reduceOfInt, BitVec.reduceToNat]; try simp only [top_out])
  refine ⟨fun h => dropC_append hM rfl (h0 ?_), fun h => ?_⟩
  · unfold getB; simp; omega
  · refine newReader_ok n off cap l _ _ ha.app hl ?_
    (refine top_in ?_; simp -implicitDefEqProofs only [go_sem, -List.reduceReplicate, ↓L_gdZ_tt, ↓L_gdZ_tf, ↓L_gdZ_ft, ↓L_gdZ_ff, ↓T_and, ↓T_imp, ↓T_all, Nat.reduceBEq, Nat.reduceAdd, Nat.reduceSub, Nat.reduceMul, Nat.reduceLT, Nat.reduceLeDiff, Nat.reduceEqDiff, Int.reduceLT, Int.reduceLE, Int.reduceAdd, Int.reduceSub, Int.reduceMul, Int.reduceNeg, Int.reduceToNat, Int.reduceEq, Int.reduceNe, reduceIte, reduceCtorEq, BitVec.reduceOfInt, BitVec.reduceToNat]; try simp only [top_out])
    have hB : ∀ (X Y : Blk) (L : List Blk), BAt (M ++ X :: Blk.row (bS l) 5 :: L) (M.length + 1) 0 l := fun X Y L => BAt.row (z := []) (ty := 5) (by rw [get_app, List.append_nil]; rfl)
    have hne : M.length + 2 ≠ M.length + 1 := by omega
    refine get8_ok (M.length + 2) (M.length + 1) l.length l 0 0 _ _ (by rw [get_app]; rfl) (hB _ (Blk.dead) _) hne (by omega) (by omega) (by omega) ?_
    (refine top_in ?_; simp -implicitDefEqProofs only [go_sem, -List.reduceReplicate, ↓L_gdZ_tt, ↓L_gdZ_tf, ↓L_gdZ_ft, ↓L_gdZ_ff, ↓T_and, ↓T_imp, ↓T_all, Nat.reduceBEq, Nat.reduceAdd, Nat.reduceSub, Nat.reduceMul, Nat.reduceLT, Nat.reduceLeDiff, Nat.reduceEqDiff, Int.reduceLT, Int.reduceLE, Int.reduceAdd, Int.reduceSub, Int.reduceMul, Int.reduceNeg, Int.reduceToNat, Int.reduceEq, Int.reduceNe, reduceIte, reduceCtorEq, BitVec.reduceOfInt, BitVec.reduceToNat]; try simp only [top_out])
    rw [v0_eq]
    have j6 : ∀ h : l.getD 0 0#8 = 6#8, gN l = 16 := fun h => by rw [gN, h]; rfl
    have j4 : ∀ h : l.getD 0 0#8 = 4#8, gN l = 4 := fun h => by rw [gN, h]; rfl
    have jl : ∀ h : l.getD 0 0#8 ≠ 0#8, 1 ≤ l.length := fun h => by cases l; exact absurd rfl h; simp
    have g0 : ∀ h : (l.length < 1 + 2 * gN l), getB l = false := fun h => by unfold getB; simp; omega
    refine ⟨fun h4 => ⟨fun h6 => dropC_append hM rfl (h0 ?_), fun h6 => ?_⟩, fun h4 => ?_⟩
    · have k4 := fun e => bneT h4 ((nat8 (n := 4) (by omega)).2 e)
      have k6 := fun e => bneT h6 ((nat8 (n := 6) (by omega)).2 e)
      have : gN l = 0 := by unfold gN; rw [if_neg k4, if_neg k6]
      unfold getB; rw [this]; rfl
    · have k6 := (nat8 (n := 6) (by omega)).1 (bneF h6)
      have hN := j6 k6
      have hl1 := jl (by rw [k6]; decide)
      have r1 : rat l.length 0 0 1 = 1 := if_pos ⟨rfl, by omega⟩
      have r2 : rerr l.length 0 0 1 = 0 := rerr_zero.2 ⟨rfl, by omega⟩
      rw [k6, r1, r2, show (((6#8).toNat : Nat) : Int) = 6 from rfl]
      refine address6_ok (M.length + 2) (M.length + 1) l.length l 1 0 _ _ (by rw [get_app]; rfl) (hB _ Blk.dead _) hne hl1 (by omega) (by omega) ?_
      (refine top_in ?_; simp -implicitDefEqProofs only [go_sem, -List.reduceReplicate, ↓L_gdZ_tt, ↓L_gdZ_tf, ↓L_gdZ_ft, ↓L_gdZ_ff, ↓T_and, ↓T_imp, ↓T_all, Nat.reduceBEq, Nat.reduceAdd, Nat.reduceSub, Nat.reduceMul, Nat.reduceLT, Nat.reduceLeDiff, Nat.reduceEqDiff, Int.reduceLT, Int.reduceLE, Int.reduceAdd, Int.reduceSub, Int.reduceMul, Int.reduceNeg, Int.reduceToNat, Int.reduceEq, Int.reduceNe, reduceIte, reduceCtorEq, BitVec.reduceOfInt, BitVec.reduceToNat]; try simp only [top_out])
      generalize e1 : rerr l.length 1 0 8 = q1
      generalize e2 : rat l.length 1 0 8 = a1
      generalize e3 : rerr l.length a1 q1 8 = q2
      generalize e4 : rat l.length a1 q1 8 = a2
      have b1 : a1 ≤ l.length := e2 ▸ rat_le hl1
      have b2 : a2 ≤ l.length := e4 ▸ rat_le b1
      refine address6_ok (M.length + 2) (M.length + 1) l.length l a2 q2 _ _ (by rw [get_app]; rfl) (hB _ Blk.dead _) hne b2 (by omega) (by omega) ?_
      (refine top_in ?_; simp -implicitDefEqProofs only [go_sem, -List.reduceReplicate, ↓L_gdZ_tt, ↓L_gdZ_tf, ↓L_gdZ_ft, ↓L_gdZ_ff, ↓T_and, ↓T_imp, ↓T_all, Nat.reduceBEq, Nat.reduceAdd, Nat.reduceSub, Nat.reduceMul, Nat.reduceLT, Nat.reduceLeDiff, Nat.reduceEqDiff, Int.reduceLT, Int.reduceLE, Int.reduceAdd, Int.reduceSub, Int.reduceMul, Int.reduceNeg, Int.reduceToNat, Int.reduceEq, Int.reduceNe, reduceIte, reduceCtorEq, BitVec.reduceOfInt, BitVec.reduceToNat, adS, List.cons_append, List.nil_append]; try simp only [top_out])
      generalize e5 : rerr l.length a2 q2 8 = q3
      generalize e6 : rat l.length a2 q2 8 = a3
      generalize e7 : rerr l.length a3 q3 8 = q4
      generalize e8 : rat l.length a3 q3 8 = a4
      have b3 : a3 ≤ l.length := e6 ▸ rat_le b2
      have b4 : a4 ≤ l.length := e8 ▸ rat_le b3
      refine err_ok (M.length + 2) (M.length + 1) l.length l.length a4 q4 _ _ (by rw [get_app]; rfl) ?_
      (refine top_in ?_; simp -implicitDefEqProofs only [go_sem, -List.reduceReplicate, ↓L_gdZ_tt, ↓L_gdZ_tf, ↓L_gdZ_ft, ↓L_gdZ_ff, ↓T_and, ↓T_imp, ↓T_all, Nat.reduceBEq, Nat.reduceAdd, Nat.reduceSub, Nat.reduceMul, Nat.reduceLT, Nat.reduceLeDiff, Nat.reduceEqDiff, Int.reduceLT, Int.reduceLE, Int.reduceAdd, Int.reduceSub, Int.reduceMul, Int.reduceNeg, Int.reduceToNat, Int.reduceEq, Int.reduceNe, reduceIte, reduceCtorEq, BitVec.reduceOfInt, BitVec.reduceToNat]; try simp only [top_out])
      refine ⟨fun hq => dropC_append hM rfl (h0 ?_), fun hq => ?_⟩
      · refine g0 ?_
        rw [hN]
        refine Nat.lt_of_not_le fun hge => bneT hq ?_
        have c1 := rerr_zero.2 (⟨rfl, by omega⟩ : (0 : Int) = 0 ∧ 1 + 8 ≤ l.length)
        have d1 := rat_ok c1
        rw [e1] at c1; rw [e2] at d1
        have c2 := rerr_zero.2 (⟨c1, by omega⟩ : q1 = 0 ∧ a1 + 8 ≤ l.length)
        have d2 := rat_ok c2
        rw [e3] at c2; rw [e4] at d2
        have c3 := rerr_zero.2 (⟨c2, by omega⟩ : q2 = 0 ∧ a2 + 8 ≤ l.length)
        have d3 := rat_ok c3
        rw [e5] at c3; rw [e6] at d3
        exact e7 ▸ rerr_zero.2 ⟨c3, by omega⟩
      · have c4 := bneF hq
        obtain ⟨c3, x4⟩ := rerr_zero.1 (e7.trans c4)
        obtain ⟨c2, x3⟩ := rerr_zero.1 (e5.trans c3)
        obtain ⟨c1, x2⟩ := rerr_zero.1 (e3.trans c2)
        obtain ⟨_, x1⟩ := rerr_zero.1 (e1.trans c1)
        have d1 : a1 = 9 := by rw [← e2, rat_ok (e1.trans c1)]
        have d2 : a2 = 17 := by rw [← e4, rat_ok (e3.trans c2), d1]
        have d3 : a3 = 25 := by rw [← e6, rat_ok (e5.trans c3), d2]
        have d4 : a4 = 33 := by rw [← e8, rat_ok (e7.trans c4), d3]
        have h33 : 33 ≤ l.length := by omega
        have hg : getB l = true := by unfold getB; rw [hN]; simp; omega
        have hF : gF l = 6 := by rw [gF, k6]; rfl
        obtain ⟨p1, p2⟩ := gX6 hN h33
        obtain ⟨p3, p4⟩ := gY6 hN h33
        rw [getV_ok (e1.trans c1), getV_ok (e3.trans c2), getV_ok (e5.trans c3), getV_ok (e7.trans c4), d1, d2, d3, ← p1, ← p2, ← p3, ← p4]
        subst c4
        refine left_ok (M.length + 2) (M.length + 1) l.length l a4 0 _ _ (by rw [get_app]; rfl) b4 (by omega) ?_
        rw [if_pos rfl]
        (refine top_in ?_; simp -implicitDefEqProofs only [go_sem, -List.reduceReplicate, ↓L_gdZ_tt, ↓L_gdZ_tf, ↓L_gdZ_ft, ↓L_gdZ_ff, ↓T_and, ↓T_imp, ↓T_all, Nat.reduceBEq, Nat.reduceAdd, Nat.reduceSub, Nat.reduceMul, Nat.reduceLT, Nat.reduceLeDiff, Nat.reduceEqDiff, Int.reduceLT, Int.reduceLE, Int.reduceAdd, Int.reduceSub, Int.reduceMul, Int.reduceNeg, Int.reduceToNat, Int.reduceEq, Int.reduceNe, reduceIte, reduceCtorEq, BitVec.reduceOfInt, BitVec.reduceToNat]; try simp only [top_out])
        refine rdBytes_ok (M.length + 2) (M.length + 1) l.length l a4 (l.length - a4) _ _ (by rw [get_app]; rfl) (hB _ Blk.dead _) (by omega) (by omega) (by omega) ?_
        (refine top_in ?_; simp -implicitDefEqProofs only [go_sem, -List.reduceReplicate, ↓L_gdZ_tt, ↓L_gdZ_tf, ↓L_gdZ_ft, ↓L_gdZ_ff, ↓T_and, ↓T_imp, ↓T_all, Nat.reduceBEq, Nat.reduceAdd, Nat.reduceSub, Nat.reduceMul, Nat.reduceLT, Nat.reduceLeDiff, Nat.reduceEqDiff, Int.reduceLT, Int.reduceLE, Int.reduceAdd, Int.reduceSub, Int.reduceMul, Int.reduceNeg, Int.reduceToNat, Int.reduceEq, Int.reduceNe, reduceIte, reduceCtorEq, BitVec.reduceOfInt, BitVec.reduceToNat]; try simp only [top_out])
        have hlen : (gB l).length = l.length - a4 := by unfold gB; rw [hN, d4]; simp
        have h1 := h1 hg
        rw [gP, hF, hlen, hN, show 1 + 2 * 16 = a4 from d4.symm] at h1
        exact dropP 1 l hM rfl rfl h1
    · have k4 := (nat8 (n := 4) (by omega)).1 (bneF h4)
      have hN := j4 k4
      have hl1 := jl (by rw [k4]; decide)
      have r1 : rat l.length 0 0 1 = 1 := if_pos ⟨rfl, by omega⟩
      have r2 : rerr l.length 0 0 1 = 0 := rerr_zero.2 ⟨rfl, by omega⟩
      rw [k4, r1, r2, show (((4#8).toNat : Nat) : Int) = 4 from rfl]
      refine address4_ok (M.length + 2) (M.length + 1) l.length l 1 0 _ _ (by rw [get_app]; rfl) (hB _ Blk.dead _) hne hl1 (by omega) (by omega) ?_
      (refine top_in ?_; simp -implicitDefEqProofs only [go_sem, -List.reduceReplicate, ↓L_gdZ_tt, ↓L_gdZ_tf, ↓L_gdZ_ft, ↓L_gdZ_ff, ↓T_and, ↓T_imp, ↓T_all, Nat.reduceBEq, Nat.reduceAdd, Nat.reduceSub, Nat.reduceMul, Nat.reduceLT, Nat.reduceLeDiff, Nat.reduceEqDiff, Int.reduceLT, Int.reduceLE, Int.reduceAdd, Int.reduceSub, Int.reduceMul, Int.reduceNeg, Int.reduceToNat, Int.reduceEq, Int.reduceNe, reduceIte, reduceCtorEq, BitVec.reduceOfInt, BitVec.reduceToNat]; try simp only [top_out])
      generalize e1 : rerr l.length 1 0 4 = q1
      generalize e2 : rat l.length 1 0 4 = a1
      have b1 : a1 ≤ l.length := e2 ▸ rat_le hl1
      refine address4_ok (M.length + 2) (M.length + 1) l.length l a1 q1 _ _ (by rw [get_app]; rfl) (hB _ Blk.dead _) hne b1 (by omega) (by omega) ?_
      (refine top_in ?_; simp -implicitDefEqProofs only [go_sem, -List.reduceReplicate, ↓L_gdZ_tt, ↓L_gdZ_tf, ↓L_gdZ_ft, ↓L_gdZ_ff, ↓T_and, ↓T_imp, ↓T_all, Nat.reduceBEq, Nat.reduceAdd, Nat.reduceSub, Nat.reduceMul, Nat.reduceLT, Nat.reduceLeDiff, Nat.reduceEqDiff, Int.reduceLT, Int.reduceLE, Int.reduceAdd, Int.reduceSub, Int.reduceMul, Int.reduceNeg, Int.reduceToNat, Int.reduceEq, Int.reduceNe, reduceIte, reduceCtorEq, BitVec.reduceOfInt, BitVec.reduceToNat, adS, List.cons_append, List.nil_append]; try simp only [top_out])
      generalize e7 : rerr l.length a1 q1 4 = q4
      generalize e8 : rat l.length a1 q1 4 = a4
      have b4 : a4 ≤ l.length := e8 ▸ rat_le b1
      refine err_ok (M.length + 2) (M.length + 1) l.length l.length a4 q4 _ _ (by rw [get_app]; rfl) ?_
      (refine top_in ?_; simp -implicitDefEqProofs only [go_sem, -List.reduceReplicate, ↓L_gdZ_tt, ↓L_gdZ_tf, ↓L_gdZ_ft, ↓L_gdZ_ff, ↓T_and, ↓T_imp, ↓T_all, Nat.reduceBEq, Nat.reduceAdd, Nat.reduceSub, Nat.reduceMul, Nat.reduceLT, Nat.reduceLeDiff, Nat.reduceEqDiff, Int.reduceLT, Int.reduceLE, Int.reduceAdd, Int.reduceSub, Int.reduceMul, Int.reduceNeg, Int.reduceToNat, Int.reduceEq, Int.reduceNe, reduceIte, reduceCtorEq, BitVec.reduceOfInt, BitVec.reduceToNat]; try simp only [top_out])
      refine ⟨fun hq => dropC_append hM rfl (h0 ?_), fun hq => ?_⟩
      · refine g0 ?_
        rw [hN]
        refine Nat.lt_of_not_le fun hge => bneT hq ?_
        have c1 := rerr_zero.2 (⟨rfl, by omega⟩ : (0 : Int) = 0 ∧ 1 + 4 ≤ l.length)
        have d1 := rat_ok c1
        rw [e1] at c1; rw [e2] at d1
        exact e7 ▸ rerr_zero.2 ⟨c1, by omega⟩
      · have c4 := bneF hq
        obtain ⟨c1, x2⟩ := rerr_zero.1 (e7.trans c4)
        obtain ⟨_, x1⟩ := rerr_zero.1 (e1.trans c1)
        have d1 : a1 = 5 := by rw [← e2, rat_ok (e1.trans c1)]
        have d4 : a4 = 9 := by rw [← e8, rat_ok (e7.trans c4), d1]
        have h9 : 9 ≤ l.length := by omega
        have hg : getB l = true := by unfold getB; rw [hN]; simp; omega
        have hF : gF l = 4 := by rw [gF, k4]; rfl
        obtain ⟨p1, p2⟩ := gX4 hN h9
        obtain ⟨p3, p4⟩ := gY4 hN h9
        have l1 : ((l.drop 1).take 4).length = 4 := by simp; omega
        have l2 : ((l.drop 5).take 4).length = 4 := by simp; omega
        rw [getV_ok (e1.trans c1), getV_ok (e7.trans c4), d1, numB_32 l1, numB_32 l2, ← p2, ← p4]
        subst c4
        refine left_ok (M.length + 2) (M.length + 1) l.length l a4 0 _ _ (by rw [get_app]; rfl) b4 (by omega) ?_
        rw [if_pos rfl]
        (refine top_in ?_; simp -implicitDefEqProofs only [go_sem, -List.reduceReplicate, ↓L_gdZ_tt, ↓L_gdZ_tf, ↓L_gdZ_ft, ↓L_gdZ_ff, ↓T_and, ↓T_imp, ↓T_all, Nat.reduceBEq, Nat.reduceAdd, Nat.reduceSub, Nat.reduceMul, Nat.reduceLT, Nat.reduceLeDiff, Nat.reduceEqDiff, Int.reduceLT, Int.reduceLE, Int.reduceAdd, Int.reduceSub, Int.reduceMul, Int.reduceNeg, Int.reduceToNat, Int.reduceEq, Int.reduceNe, reduceIte, reduceCtorEq, BitVec.reduceOfInt, BitVec.reduceToNat]; try simp only [top_out])
        refine rdBytes_ok (M.length + 2) (M.length + 1) l.length l a4 (l.length - a4) _ _ (by rw [get_app]; rfl) (hB _ Blk.dead _) (by omega) (by omega) (by omega) ?_
        (refine top_in ?_; simp -implicitDefEqProofs only [go_sem, -List.reduceReplicate, ↓L_gdZ_tt, ↓L_gdZ_tf, ↓L_gdZ_ft, ↓L_gdZ_ff, ↓T_and, ↓T_imp, ↓T_all, Nat.reduceBEq, Nat.reduceAdd, Nat.reduceSub, Nat.reduceMul, Nat.reduceLT, Nat.reduceLeDiff, Nat.reduceEqDiff, Int.reduceLT, Int.reduceLE, Int.reduceAdd, Int.reduceSub, Int.reduceMul, Int.reduceNeg, Int.reduceToNat, Int.reduceEq, Int.reduceNe, reduceIte, reduceCtorEq, BitVec.reduceOfInt, BitVec.reduceToNat]; try simp only [top_out])
        have hlen : (gB l).length = l.length - a4 := by unfold gB; rw [hN, d4]; simp
        have h1 := h1 hg
        rw [gP, hF, hlen, hN, show 1 + 2 * 4 = a4 from d4.symm, p1, p3] at h1
        exact dropP 1 l hM rfl rfl h1
end Go.Proofs.Ytdkdbeamimkljaa.Eng

/- The document's payload of any bytes; payloads held against one another. -/
namespace Go.Proofs.Ytdkdbeamimkljaa.Eng
open Go Go.RowKit
set_option linter.unusedSimpArgs false
set_option linter.unusedVariables false

set_option maxHeartbeats 1000000 in
theorem refGetPayload_ok (n off cap : Nat) (l : List (BitVec 8)) (M : List Blk) (K : SV → List Blk → Prop) (ha : BAt M n off l) (hl : l.length ≤ 140737488355000) (hcap : l.length ≤ cap)
    (h1 : getB l = true → ∀ z ty, K (.tup [gP l (.sl M.length 0 (gB l).length ((gB l).length + z.length)), .i .i64 0]) (M ++ [.row (bS (gB l ++ z)) ty]))
    (h0 : getB l = false → K (.tup [plS 0 0#64 0#64 0 0#64 0#64 .sn, .i .i64 90]) M) :
    callVC Try.prog 25 [.sl n off l.length cap] M K := by
  have j6 : ∀ h : l.getD 0 0#8 = 6#8, gN l = 16 := fun h => by rw [gN, h]; rfl
  have j4 : ∀ h : l.getD 0 0#8 = 4#8, gN l = 4 := fun h => by rw [gN, h]; rfl
  have jl : ∀ h : l.getD 0 0#8 ≠ 0#8, 1 ≤ l.length := fun h => by cases l; exact absurd rfl h; simp
  have x0 : 1 ≤ l.length → Eng.cell8 (cellsB M[n]?) off = l.getD 0 0#8 := fun h => ha.cell8 (j := 0) (by omega)
  have x1 : 1 ≤ l.length → Eng.is8 (cellsB M[n]?) off = true := fun h => ha.is8 (j := 0) (by omega)
  have x2 : 1 ≤ l.length → off + 1 ≤ (cellsB M[n]?).length := fun h => ha.le (j := 1) (by omega)
  by_cases k4 : l.getD 0 0#8 = 4#8
  · have hN := j4 k4
    have hl1 := jl (by rw [k4]; decide)
    have hp : (0 < (l.length : Int)) = True := by simp; omega
    have hc4 : (Eng.cell8 (cellsB M[n]?) off == 4#8) = true := by rw [x0 hl1, k4]; rfl
    have hc6 : (Eng.cell8 (cellsB M[n]?) off == 6#8) = false := by rw [x0 hl1, k4]; rfl
    have w8 : IntKind.i64.wrap 8 = 8 := rfl
    have w9 : IntKind.i64.wrap 9 = 9 := rfl
    have w5 : IntKind.i64.wrap 5 = 5 := rfl
    refine fn_rule tabOK Try.func25 rfl Try.call25 (by kernel_rfl) (fun hM => ?_)
    (refine top_in ?_; simp -implicitDefEqProofs only [Try.ntmps25, Try.results25, go_sem, -List.reduceReplicate, ↓L_gdZ_tt, ↓L_gdZ_tf, ↓L_gdZ_ft, ↓L_gdZ_ff, ↓T_and, ↓T_imp, ↓T_all, Nat.reduceBEq, Nat.reduceAdd, Nat.reduceSub, Nat.reduceMul, Nat.reduceLT, Nat.reduceLeDiff, Nat.reduceEqDiff, Int.reduceLT, Int.reduceLE, Int.reduceAdd, Int.reduceSub, Int.reduceMul, Int.reduceNeg, Int.reduceToNat, Int.reduceEq, Int.reduceNe, reduceIte, reduceCtorEq, BitVec.reduceOfInt, BitVec.reduceToNat, get_lt ha.lt, hp, hc4, hc6, x1 hl1, w8, w9, w5]; try simp only [top_out])
    have hg0 : l.length < 9 → getB l = false := fun h => by unfold getB; rw [hN]; simp; omega
    refine ⟨x2 hl1, x2 hl1, fun _ => ⟨fun h9 => ⟨fun h12 => dropC_append hM rfl (h0 (by unfold getB; simp; omega)), fun h12 => ?_⟩, fun h9 => dropC_append hM rfl (h0 (hg0 (by omega)))⟩, fun h => absurd h (by decide)⟩
    have hg : getB l = true := by unfold getB; rw [hN]; simp; omega
    have hF : gF l = 4 := by rw [gF, k4]; rfl
    have c1 : (cap = 1) = False := by simp; omega
    have c2 : (cap = 5) = False := by simp; omega
    have hX : (gX l).length = 4 := by unfold gX; rw [hN]; simp; omega
    have hY : (gY l).length = 4 := by unfold gY; rw [hN]; simp; omega
    have hbX : BAt M n (off + 1) (gX l) := by unfold gX; rw [hN]; exact ha.sub (by omega)
    have hbY : BAt M n (off + 5) (gY l) := by unfold gY; rw [hN]; exact ha.sub (by omega)
    have hBl : (gB l).length = l.length - 9 := by unfold gB; rw [hN]; simp
    have hbB : BAt M n (if cap = 9 then off else off + 9) (gB l) := by
      unfold gB; rw [hN]
      by_cases hc : cap = 9
      · rw [if_pos hc]
        have := ha.sub (a := 0) (k := 0) (by omega)
        rw [List.drop_eq_nil_of_le (by omega : l.length ≤ 1 + 2 * 4)]; simpa using this
      · rw [if_neg hc]
        have := ha.sub (a := 9) (k := l.length - 9) (by omega)
        rwa [List.take_of_length_le (by simp)] at this
    refine ⟨by omega, ?_⟩
    have pX := refAddr_ok n (off + 1) (cap - 1) (gX l)
    rw [hX] at pX
    rw [if_neg (by omega : ¬ cap = 1)]
    refine pX _ _ hbX.app (by omega) ?_
    (refine top_in ?_; simp -implicitDefEqProofs only [go_sem, -List.reduceReplicate, ↓L_gdZ_tt, ↓L_gdZ_tf, ↓L_gdZ_ft, ↓L_gdZ_ff, ↓T_and, ↓T_imp, ↓T_all, Nat.reduceBEq, Nat.reduceAdd, Nat.reduceSub, Nat.reduceMul, Nat.reduceLT, Nat.reduceLeDiff, Nat.reduceEqDiff, Int.reduceLT, Int.reduceLE, Int.reduceAdd, Int.reduceSub, Int.reduceMul, Int.reduceNeg, Int.reduceToNat, Int.reduceEq, Int.reduceNe, reduceIte, reduceCtorEq, BitVec.reduceOfInt, BitVec.reduceToNat, adS, w8, w9, w5, c1, c2, if_true, if_false, List.cons_append, List.nil_append]; try simp only [top_out])
    refine ⟨by omega, ?_⟩
    have pY := refAddr_ok n (off + 5) (cap - 5) (gY l)
    rw [hY] at pY
    refine pY _ _ hbY.app (by omega) ?_
    (refine top_in ?_; simp -implicitDefEqProofs only [go_sem, -List.reduceReplicate, ↓L_gdZ_tt, ↓L_gdZ_tf, ↓L_gdZ_ft, ↓L_gdZ_ff, ↓T_and, ↓T_imp, ↓T_all, Nat.reduceBEq, Nat.reduceAdd, Nat.reduceSub, Nat.reduceMul, Nat.reduceLT, Nat.reduceLeDiff, Nat.reduceEqDiff, Int.reduceLT, Int.reduceLE, Int.reduceAdd, Int.reduceSub, Int.reduceMul, Int.reduceNeg, Int.reduceToNat, Int.reduceEq, Int.reduceNe, reduceIte, reduceCtorEq, BitVec.reduceOfInt, BitVec.reduceToNat, adS, w8, w9, w5, c1, c2, if_true, if_false, List.cons_append, List.nil_append]; try simp only [top_out])
    refine draw_rule tabOK (by kernel_rfl : _) (.p 0 (.p 1 (.p 2 (.p 3 (.p 4 (.p 5 (.p 6 (.e 7 [0, 1] (.p 8 (.e 9 [] (.p 10 .nil) .no)) .no)))))))) (by kernel_rfl) (by kernel_rfl) ?_
    (refine top_in ?_; simp -implicitDefEqProofs only [go_sem, -List.reduceReplicate, ↓L_gdZ_tt, ↓L_gdZ_tf, ↓L_gdZ_ft, ↓L_gdZ_ff, ↓T_and, ↓T_imp, ↓T_all, Nat.reduceBEq, Nat.reduceAdd, Nat.reduceSub, Nat.reduceMul, Nat.reduceLT, Nat.reduceLeDiff, Nat.reduceEqDiff, Int.reduceLT, Int.reduceLE, Int.reduceAdd, Int.reduceSub, Int.reduceMul, Int.reduceNeg, Int.reduceToNat, Int.reduceEq, Int.reduceNe, reduceIte, reduceCtorEq, BitVec.reduceOfInt, BitVec.reduceToNat, adS, w8, w9, w5, c1, c2, if_true, if_false, List.cons_append, List.nil_append]; try simp only [top_out])
    refine ⟨by omega, ?_⟩
    have pB := bytes_ok n (if cap = 9 then off else off + 9) (cap - 9) (gB l)
    rw [hBl] at pB
    refine pB _ _ hbB.app (by omega) (fun z ty => ?_)
    (refine top_in ?_; simp -implicitDefEqProofs only [go_sem, -List.reduceReplicate, ↓L_gdZ_tt, ↓L_gdZ_tf, ↓L_gdZ_ft, ↓L_gdZ_ff, ↓T_and, ↓T_imp, ↓T_all, Nat.reduceBEq, Nat.reduceAdd, Nat.reduceSub, Nat.reduceMul, Nat.reduceLT, Nat.reduceLeDiff, Nat.reduceEqDiff, Int.reduceLT, Int.reduceLE, Int.reduceAdd, Int.reduceSub, Int.reduceMul, Int.reduceNeg, Int.reduceToNat, Int.reduceEq, Int.reduceNe, reduceIte, reduceCtorEq, BitVec.reduceOfInt, BitVec.reduceToNat, List.cons_append, List.nil_append]; try simp only [top_out])
    have h1 := h1 hg z ty
    rw [gP, hF, hBl] at h1
    exact dropP 3 (gB l ++ z) hM rfl rfl h1
  · by_cases k6 : l.getD 0 0#8 = 6#8
    · have hN := j6 k6
      have hl1 := jl (by rw [k6]; decide)
      have hp : (0 < (l.length : Int)) = True := by simp; omega
      have hc4 : (Eng.cell8 (cellsB M[n]?) off == 4#8) = false := by rw [x0 hl1, k6]; rfl
      have hc6 : (Eng.cell8 (cellsB M[n]?) off == 6#8) = true := by rw [x0 hl1, k6]; rfl
      have w8 : IntKind.i64.wrap 32 = 32 := rfl
      have w9 : IntKind.i64.wrap 33 = 33 := rfl
      have w5 : IntKind.i64.wrap 17 = 17 := rfl
      refine fn_rule tabOK Try.func25 rfl Try.call25 (by kernel_rfl) (fun hM => ?_)
      (refine top_in ?_; simp -implicitDefEqProofs only [Try.ntmps25, Try.results25, go_sem, -List.reduceReplicate, ↓L_gdZ_tt, ↓L_gdZ_tf, ↓L_gdZ_ft, ↓L_gdZ_ff, ↓T_and, ↓T_imp, ↓T_all, Nat.reduceBEq, Nat.reduceAdd, Nat.reduceSub, Nat.reduceMul, Nat.reduceLT, Nat.reduceLeDiff, Nat.reduceEqDiff, Int.reduceLT, Int.reduceLE, Int.reduceAdd, Int.reduceSub, Int.reduceMul, Int.reduceNeg, Int.reduceToNat, Int.reduceEq, Int.reduceNe, reduceIte, reduceCtorEq, BitVec.reduceOfInt, BitVec.reduceToNat, get_lt ha.lt, hp, hc4, hc6, x1 hl1, w8, w9, w5]; try simp only [top_out])
      have hg0 : l.length < 33 → getB l = false := fun h => by unfold getB; rw [hN]; simp; omega
      refine ⟨x2 hl1, x2 hl1, fun _ => ⟨fun h9 => ⟨fun h12 => dropC_append hM rfl (h0 (by unfold getB; simp; omega)), fun h12 => ?_⟩, fun h9 => dropC_append hM rfl (h0 (hg0 (by omega)))⟩, fun h => absurd h (by decide)⟩
      have hg : getB l = true := by unfold getB; rw [hN]; simp; omega
      have hF : gF l = 6 := by rw [gF, k6]; rfl
      have c1 : (cap = 1) = False := by simp; omega
      have c2 : (cap = 17) = False := by simp; omega
      have hX : (gX l).length = 16 := by unfold gX; rw [hN]; simp; omega
      have hY : (gY l).length = 16 := by unfold gY; rw [hN]; simp; omega
      have hbX : BAt M n (off + 1) (gX l) := by unfold gX; rw [hN]; exact ha.sub (by omega)
      have hbY : BAt M n (off + 17) (gY l) := by unfold gY; rw [hN]; exact ha.sub (by omega)
      have hBl : (gB l).length = l.length - 33 := by unfold gB; rw [hN]; simp
      have hbB : BAt M n (if cap = 33 then off else off + 33) (gB l) := by
        unfold gB; rw [hN]
        by_cases hc : cap = 33
        · rw [if_pos hc]
          have := ha.sub (a := 0) (k := 0) (by omega)
          rw [List.drop_eq_nil_of_le (by omega : l.length ≤ 1 + 2 * 16)]; simpa using this
        · rw [if_neg hc]
          have := ha.sub (a := 33) (k := l.length - 33) (by omega)
          rwa [List.take_of_length_le (by simp)] at this
      refine ⟨by omega, ?_⟩
      have pX := refAddr_ok n (off + 1) (cap - 1) (gX l)
      rw [hX] at pX
      rw [if_neg (by omega : ¬ cap = 1)]
      refine pX _ _ hbX.app (by omega) ?_
      (refine top_in ?_; simp -implicitDefEqProofs only [go_sem, -List.reduceReplicate, ↓L_gdZ_tt, ↓L_gdZ_tf, ↓L_gdZ_ft, ↓L_gdZ_ff, ↓T_and, ↓T_imp, ↓T_all, Nat.reduceBEq, Nat.reduceAdd, Nat.reduceSub, Nat.reduceMul, Nat.reduceLT, Nat.reduceLeDiff, Nat.reduceEqDiff, Int.reduceLT, Int.reduceLE, Int.reduceAdd, Int.reduceSub, Int.reduceMul, Int.reduceNeg, Int.reduceToNat, Int.reduceEq, Int.reduceNe, reduceIte, reduceCtorEq, BitVec.reduceOfInt, BitVec.reduceToNat, adS, w8, w9, w5, c1, c2, if_true, if_false, List.cons_append, List.nil_append]; try simp only [top_out])
      refine ⟨by omega, ?_⟩
      have pY := refAddr_ok n (off + 17) (cap - 17) (gY l)
      rw [hY] at pY
      refine pY _ _ hbY.app (by omega) ?_
      (refine top_in ?_; simp -implicitDefEqProofs only [go_sem, -List.reduceReplicate, ↓L_gdZ_tt, ↓L_gdZ_tf, ↓L_gdZ_ft, ↓L_gdZ_ff, ↓T_and, ↓T_imp, ↓T_all, Nat.reduceBEq, Nat.reduceAdd, Nat.reduceSub, Nat.reduceMul, Nat.reduceLT, Nat.reduceLeDiff, Nat.reduceEqDiff, Int.reduceLT, Int.reduceLE, Int.reduceAdd, Int.reduceSub, Int.reduceMul, Int.reduceNeg, Int.reduceToNat, Int.reduceEq, Int.reduceNe, reduceIte, reduceCtorEq, BitVec.reduceOfInt, BitVec.reduceToNat, adS, w8, w9, w5, c1, c2, if_true, if_false, List.cons_append, List.nil_append]; try simp only [top_out])
      refine draw_rule tabOK (by kernel_rfl : _) (.p 0 (.p 1 (.p 2 (.p 3 (.p 4 (.p 5 (.p 6 (.e 7 [0, 1] (.p 8 (.e 9 [] (.p 10 .nil) .no)) .no)))))))) (by kernel_rfl) (by kernel_rfl) ?_
      (refine top_in ?_; simp -implicitDefEqProofs only [go_sem, -List.reduceReplicate, ↓L_gdZ_tt, ↓L_gdZ_tf, ↓L_gdZ_ft, ↓L_gdZ_ff, ↓T_and, ↓T_imp, ↓T_all, Nat.reduceBEq, Nat.reduceAdd, Nat.reduceSub, Nat.reduceMul, Nat.reduceLT, Nat.reduceLeDiff, Nat.reduceEqDiff, Int.reduceLT, Int.reduceLE, Int.reduceAdd, Int.reduceSub, Int.reduceMul, Int.reduceNeg, Int.reduceToNat, Int.reduceEq, Int.reduceNe, reduceIte, reduceCtorEq, BitVec.reduceOfInt, BitVec.reduceToNat, adS, w8, w9, w5, c1, c2, if_true, if_false, List.cons_append, List.nil_append]; try simp only [top_out])
      refine ⟨by omega, ?_⟩
      have pB := bytes_ok n (if cap = 33 then off else off + 33) (cap - 33) (gB l)
      rw [hBl] at pB
      refine pB _ _ hbB.app (by omega) (fun z ty => ?_)
      (refine top_in ?_; simp -implicitDefEqProofs only [go_sem, -List.reduceReplicate, ↓L_gdZ_tt, ↓L_gdZ_tf, ↓L_gdZ_ft, ↓L_gdZ_ff, ↓T_and, ↓T_imp, ↓T_all, Nat.reduceBEq, Nat.reduceAdd, Nat.reduceSub, Nat.reduceMul, Nat.reduceLT, Nat.reduceLeDiff, Nat.reduceEqDiff, Int.reduceLT, Int.reduceLE, Int.reduceAdd, Int.reduceSub, Int.reduceMul, Int.reduceNeg, Int.reduceToNat, Int.reduceEq, Int.reduceNe, reduceIte, reduceCtorEq, BitVec.reduceOfInt, BitVec.reduceToNat, List.cons_append, List.nil_append]; try simp only [top_out])
      have h1 := h1 hg z ty
      rw [gP, hF, hBl] at h1
      exact dropP 3 (gB l ++ z) hM rfl rfl h1
    · have hN : gN l = 0 := by unfold gN; rw [if_neg k4, if_neg k6]
      have hg : getB l = false := by unfold getB; rw [hN]; rfl
      by_cases hl1 : 1 ≤ l.length
      · have hp : (0 < (l.length : Int)) = True := by simp; omega
        have hc4 : (Eng.cell8 (cellsB M[n]?) off == 4#8) = false := by rw [x0 hl1]; simpa using k4
        have hc6 : (Eng.cell8 (cellsB M[n]?) off == 6#8) = false := by rw [x0 hl1]; simpa using k6
        refine fn_rule tabOK Try.func25 rfl Try.call25 (by kernel_rfl) (fun hM => ?_)
        (refine top_in ?_; simp -implicitDefEqProofs only [Try.ntmps25, Try.results25, go_sem, -List.reduceReplicate, ↓L_gdZ_tt, ↓L_gdZ_tf, ↓L_gdZ_ft, ↓L_gdZ_ff, ↓T_and, ↓T_imp, ↓T_all, Nat.reduceBEq, Nat.reduceAdd, Nat.reduceSub, Nat.reduceMul, Nat.reduceLT, Nat.reduceLeDiff, Nat.reduceEqDiff, Int.reduceLT, Int.reduceLE, Int.reduceAdd, Int.reduceSub, Int.reduceMul, Int.reduceNeg, Int.reduceToNat, Int.reduceEq, Int.reduceNe, reduceIte, reduceCtorEq, BitVec.reduceOfInt, BitVec.reduceToNat, get_lt ha.lt, hp, hc4, hc6, x1 hl1]; try simp only [top_out])
        exact ⟨x2 hl1, x2 hl1, dropC_append hM rfl (h0 hg)⟩
      · have hp : (0 < (l.length : Int)) = False := by simp; cases l; rfl; simp at hl1
        refine fn_rule tabOK Try.func25 rfl Try.call25 (by kernel_rfl) (fun hM => ?_)
        (refine top_in ?_; simp -implicitDefEqProofs only [Try.ntmps25, Try.results25, go_sem, -List.reduceReplicate, ↓L_gdZ_tt, ↓L_gdZ_tf, ↓L_gdZ_ft, ↓L_gdZ_ff, ↓T_and, ↓T_imp, ↓T_all, Nat.reduceBEq, Nat.reduceAdd, Nat.reduceSub, Nat.reduceMul, Nat.reduceLT, Nat.reduceLeDiff, Nat.reduceEqDiff, Int.reduceLT, Int.reduceLE, Int.reduceAdd, Int.reduceSub, Int.reduceMul, Int.reduceNeg, Int.reduceToNat, Int.reduceEq, Int.reduceNe, reduceIte, reduceCtorEq, BitVec.reduceOfInt, BitVec.reduceToNat, get_lt ha.lt, hp]; try simp only [top_out])
        exact dropC_append hM rfl (h0 hg)

theorem same_nil (M : List Blk) (K : SV → List Blk → Prop) (hK : K (.b true) M) : callVC Try.prog 13 [.sn, .sn] M K := by
  refine callVC_drop (callVC_names (fun hM => ?_) Try.call13)
  refine call_nil (a := []) 0 ?_
  refine call_nil (a := [.sl M.length 0 0 0]) (b := []) 0 ?_
  have hb : ∀ L : List Blk, BAt (M ++ Blk.row [] 0 :: L) M.length 0 [] := fun L => BAt.row (z := []) (ty := 0) (by rw [get_app0]; rfl)
  refine same_ok2 M.length 0 0 (M ++ [Blk.row [] 0]).length 0 0 0 0 [] [] _ _ (hb []).app (BAt.row (z := []) (ty := 0) (by rw [get_app0]; rfl)) (by simp) (by simp) rfl rfl ?_
  rw [List.append_assoc]
  exact dropC_append hM rfl hK
def samePB (sf : Int) (sh sl : BitVec 64) (df : Int) (dh dl : BitVec 64) (sf' : Int) (sh' sl' : BitVec 64) (df' : Int) (dh' dl' : BitVec 64) : Bool := (sf == sf' && sh == sh' && sl == sl') && (df == df' && dh == dh' && dl == dl')
theorem samePayload_ok (sf : Int) (sh sl : BitVec 64) (df : Int) (dh dl : BitVec 64) (sf' : Int) (sh' sl' : BitVec 64) (df' : Int) (dh' dl' : BitVec 64) (n off cap n' off' cap' la lb : Nat) (a b : List (BitVec 8)) (M : List Blk) (K : SV → List Blk → Prop)
    (ha : BAt M n off a) (hb : BAt M n' off' b) (hla : a.length ≤ 140737488355328) (hlb : b.length ≤ 140737488355328) (ea : la = a.length) (eb : lb = b.length) (hK : K (.b (samePB sf sh sl df dh dl sf' sh' sl' df' dh' dl' && a == b)) M) :
    callVC Try.prog 26 [plS sf sh sl df dh dl (.sl n off la cap), plS sf' sh' sl' df' dh' dl' (.sl n' off' lb cap')] M K := by
  unfold plS
  refine fn_rule tabOK Try.func26 rfl Try.call26 (by kernel_rfl) (fun hM => ?_)
  (refine top_in ?_; simp -implicitDefEqProofs only [Try.ntmps26, Try.results26, go_sem, -List.reduceReplicate, ↓L_gdZ_tt, ↓L_gdZ_tf, ↓L_gdZ_ft, ↓L_gdZ_ff, ↓T_and, ↓T_imp, ↓T_all, Nat.reduceBEq, Nat.reduceAdd, Nat.reduceSub, Nat.reduceMul, Nat.reduceLT, Nat.reduceLeDiff, Nat.reduceEqDiff, Int.reduceLT, Int.reduceLE, Int.reduceAdd, Int.reduceSub, Int.reduceMul, Int.reduceNeg, Int.reduceToNat, Int.reduceEq, Int.reduceNe, reduceIte, reduceCtorEq, BitVec.reduceOfInt, BitVec.reduceToNat, List.take_succ_cons, List.take_zero, List.drop_succ_cons, List.drop_zero]; try simp only [top_out])
  refine sameAddr_ok _ _ _ _ _ _ _ _ ?_
  (refine top_in ?_; simp -implicitDefEqProofs only [go_sem, -List.reduceReplicate, ↓L_gdZ_tt, ↓L_gdZ_tf, ↓L_gdZ_ft, ↓L_gdZ_ff, ↓T_and, ↓T_imp, ↓T_all, Nat.reduceBEq, Nat.reduceAdd, Nat.reduceSub, Nat.reduceMul, Nat.reduceLT, Nat.reduceLeDiff, Nat.reduceEqDiff, Int.reduceLT, Int.reduceLE, Int.reduceAdd, Int.reduceSub, Int.reduceMul, Int.reduceNeg, Int.reduceToNat, Int.reduceEq, Int.reduceNe, reduceIte, reduceCtorEq, BitVec.reduceOfInt, BitVec.reduceToNat, List.take_succ_cons, List.take_zero, List.drop_succ_cons, List.drop_zero]; try simp only [top_out])
  refine sameAddr_ok _ _ _ _ _ _ _ _ ?_
  (refine top_in ?_; simp -implicitDefEqProofs only [go_sem, -List.reduceReplicate, ↓L_gdZ_tt, ↓L_gdZ_tf, ↓L_gdZ_ft, ↓L_gdZ_ff, ↓T_and, ↓T_imp, ↓T_all, Nat.reduceBEq, Nat.reduceAdd, Nat.reduceSub, Nat.reduceMul, Nat.reduceLT, Nat.reduceLeDiff, Nat.reduceEqDiff, Int.reduceLT, Int.reduceLE, Int.reduceAdd, Int.reduceSub, Int.reduceMul, Int.reduceNeg, Int.reduceToNat, Int.reduceEq, Int.reduceNe, reduceIte, reduceCtorEq, BitVec.reduceOfInt, BitVec.reduceToNat, List.take_succ_cons, List.take_zero, List.drop_succ_cons, List.drop_zero]; try simp only [top_out])
  refine same_ok2 n off cap n' off' cap' la lb a b _ _ ha.app hb.app hla hlb ea eb ?_
  (refine top_in ?_; simp -implicitDefEqProofs only [go_sem, -List.reduceReplicate, ↓L_gdZ_tt, ↓L_gdZ_tf, ↓L_gdZ_ft, ↓L_gdZ_ff, ↓T_and, ↓T_imp, ↓T_all, Nat.reduceBEq, Nat.reduceAdd, Nat.reduceSub, Nat.reduceMul, Nat.reduceLT, Nat.reduceLeDiff, Nat.reduceEqDiff, Int.reduceLT, Int.reduceLE, Int.reduceAdd, Int.reduceSub, Int.reduceMul, Int.reduceNeg, Int.reduceToNat, Int.reduceEq, Int.reduceNe, reduceIte, reduceCtorEq, BitVec.reduceOfInt, BitVec.reduceToNat]; try simp only [top_out])
  repeat' (with_reducible first | refine And.intro ?_ ?_ | intro)
  all_goals
    refine dropB hM hK ?_
    unfold samePB
    simp only [*]
    try rfl
theorem samePayload_nil (sf : Int) (sh sl : BitVec 64) (df : Int) (dh dl : BitVec 64) (M : List Blk) (K : SV → List Blk → Prop) (hK : K (.b true) M) :
    callVC Try.prog 26 [plS sf sh sl df dh dl .sn, plS sf sh sl df dh dl .sn] M K := by
  unfold plS
  refine fn_rule tabOK Try.func26 rfl Try.call26 (by kernel_rfl) (fun hM => ?_)
  (refine top_in ?_; simp -implicitDefEqProofs only [Try.ntmps26, Try.results26, go_sem, -List.reduceReplicate, ↓L_gdZ_tt, ↓L_gdZ_tf, ↓L_gdZ_ft, ↓L_gdZ_ff, ↓T_and, ↓T_imp, ↓T_all, Nat.reduceBEq, Nat.reduceAdd, Nat.reduceSub, Nat.reduceMul, Nat.reduceLT, Nat.reduceLeDiff, Nat.reduceEqDiff, Int.reduceLT, Int.reduceLE, Int.reduceAdd, Int.reduceSub, Int.reduceMul, Int.reduceNeg, Int.reduceToNat, Int.reduceEq, Int.reduceNe, reduceIte, reduceCtorEq, BitVec.reduceOfInt, BitVec.reduceToNat, List.take_succ_cons, List.take_zero, List.drop_succ_cons, List.drop_zero]; try simp only [top_out])
  refine sameAddr_ok _ _ _ _ _ _ _ _ ?_
  (refine top_in ?_; simp -implicitDefEqProofs only [go_sem, -List.reduceReplicate, ↓L_gdZ_tt, ↓L_gdZ_tf, ↓L_gdZ_ft, ↓L_gdZ_ff, ↓T_and, ↓T_imp, ↓T_all, Nat.reduceBEq, Nat.reduceAdd, Nat.reduceSub, Nat.reduceMul, Nat.reduceLT, Nat.reduceLeDiff, Nat.reduceEqDiff, Int.reduceLT, Int.reduceLE, Int.reduceAdd, Int.reduceSub, Int.reduceMul, Int.reduceNeg, Int.reduceToNat, Int.reduceEq, Int.reduceNe, reduceIte, reduceCtorEq, BitVec.reduceOfInt, BitVec.reduceToNat, List.take_succ_cons, List.take_zero, List.drop_succ_cons, List.drop_zero]; try simp only [top_out])
  refine sameAddr_ok _ _ _ _ _ _ _ _ ?_
  (refine top_in ?_; simp -implicitDefEqProofs only [go_sem, -List.reduceReplicate, ↓L_gdZ_tt, ↓L_gdZ_tf, ↓L_gdZ_ft, ↓L_gdZ_ff, ↓T_and, ↓T_imp, ↓T_all, Nat.reduceBEq, Nat.reduceAdd, Nat.reduceSub, Nat.reduceMul, Nat.reduceLT, Nat.reduceLeDiff, Nat.reduceEqDiff, Int.reduceLT, Int.reduceLE, Int.reduceAdd, Int.reduceSub, Int.reduceMul, Int.reduceNeg, Int.reduceToNat, Int.reduceEq, Int.reduceNe, reduceIte, reduceCtorEq, BitVec.reduceOfInt, BitVec.reduceToNat, List.take_succ_cons, List.take_zero, List.drop_succ_cons, List.drop_zero]; try simp only [top_out])
  refine same_nil _ _ ?_
  (refine top_in ?_; simp -implicitDefEqProofs only [go_sem, -List.reduceReplicate, ↓L_gdZ_tt, ↓L_gdZ_tf, ↓L_gdZ_ft, ↓L_gdZ_ff, ↓T_and, ↓T_imp, ↓T_all, Nat.reduceBEq, Nat.reduceAdd, Nat.reduceSub, Nat.reduceMul, Nat.reduceLT, Nat.reduceLeDiff, Nat.reduceEqDiff, Int.reduceLT, Int.reduceLE, Int.reduceAdd, Int.reduceSub, Int.reduceMul, Int.reduceNeg, Int.reduceToNat, Int.reduceEq, Int.reduceNe, reduceIte, reduceCtorEq, BitVec.reduceOfInt, BitVec.reduceToNat, beq_self_eq_true, Bool.and_self]; try simp only [top_out])
  exact dropC_append hM rfl hK
end Go.Proofs.Ytdkdbeamimkljaa.Eng

/- Addresses, payloads and packets among a law's arguments. -/
namespace Go.Proofs.Ytdkdbeamimkljaa.Eng
open Go Go.RowKit Go.ChangeShapes Go.WideShapes
set_option linter.unusedSimpArgs false
set_option linter.unusedVariables false

theorem cAddr : Try.prog.cellsOf 45 = 3 := by kernel_rfl
theorem cPay : Try.prog.cellsOf 47 = 7 := by kernel_rfl
theorem cPk : Try.prog.cellsOf 57 = 5 := by kernel_rfl
theorem cSl : Try.prog.cellsOf 25 = 1 := by kernel_rfl
theorem tPay : Try.prog.cellTypes Try.prog.depth 47 = some [3, 22, 22, 3, 22, 22, 25] := by kernel_rfl
theorem tPk : Try.prog.cellTypes Try.prog.depth 57 = some [3, 3, 3, 22, 25] := by kernel_rfl
set_option maxRecDepth 100000 in
theorem addr_cells {H : Type} {enc : TypeId × Value → H} {W : World} {cs : List Value} {d : DataW H} {ps : List MemPlace} {n : Nat} (hf : DataW.trod enc Try.prog W 0 (fun _ => true) true n 45 cs = some (d, ps)) :
    ∃ (f : Int) (hi lo : BitVec 64), cs = [.int .i64 f, .int .u64 hi.toNat, .int .u64 lo.toNat] := by
  obtain ⟨xs, n, _, hx, hl, hxl, hi⟩ := DataW.trod_struct Try.underlying45 hf
  rw [cAddr] at hl
  match cs, hl with
  | [a, b, c], _ =>
    obtain ⟨f, g0, w0⟩ := field_int hi hxl 0 (ty := 3) (off := 0) rfl Try.underlying3 cInt
    obtain ⟨l, g1, w1⟩ := field_int hi hxl 1 (ty := 22) (off := 1) rfl Try.underlying22 cU64
    obtain ⟨k, g2, w2⟩ := field_int hi hxl 2 (ty := 22) (off := 2) rfl Try.underlying22 cU64
    obtain ⟨y, rfl⟩ := u64_of w1
    obtain ⟨z, rfl⟩ := u64_of w2
    simp at g0 g1 g2
    subst g0 g1 g2
    exact ⟨f, y, z, rfl⟩
set_option maxRecDepth 100000 in
theorem open_addr {H : Type} {enc : TypeId × Value → H} {W : World} {base : Nat} {v : Value} {d : DataW H} {ps : List MemPlace} (hval : Value.okWide Try.prog W .any base 45 v)
    (hd : DataW.Trod enc Try.prog W 0 (fun _ => true) true 45 v d ps) : ∃ (f : Int) (hi lo : BitVec 64), ∀ ρ, den ρ (adS f hi lo) = v := by
  obtain ⟨cs, xs, n, rfl, hl, _, hxl, _, hi⟩ := open_struct Try.underlying45 hval hd
  obtain ⟨fuel, hf⟩ := hd
  obtain ⟨f, a, b, h⟩ := addr_cells (cs := cs) (by simpa [Value.cells] using hf)
  subst h
  exact ⟨f, a, b, fun ρ => by simp [adS, den, denL]⟩

set_option maxRecDepth 100000 in
theorem given_payload {H : Type} {enc : TypeId × Value → H} {W : World} {base : Nat} {vs : List Value} {ρ : Ren} {M : List Blk} {svs : List SV} (G : Given Try.prog W vs ρ M svs) {v : Value} {d : DataW H} {ps : List MemPlace}
    (hval : Value.okWide Try.prog W .any base 47 v) (hd : DataW.Trod enc Try.prog W 0 (fun _ => true) true 47 v d ps) (hsz : ∀ n ∈ d.weights Try.prog 47, n ≤ reachBytes) :
    ∃ (f : Int) (a b : BitVec 64) (f' : Int) (a' b' : BitVec 64) (ρ' : Ren) (x : List (BitVec 8)) (cap : Nat), x.length ≤ cap ∧ cap ≤ 140737488351232 ∧
      Given Try.prog W (vs ++ [v]) ρ' (M ++ [.ro (bS x)]) (svs ++ [plS f a b f' a' b' (.sl M.length 0 x.length cap)]) := by
  obtain ⟨cs, xs, n, rfl, hl, hdd, hxl, hrow, hi⟩ := open_struct Try.underlying47 hval hd
  rw [cPay] at hl
  obtain ⟨d0, p0, _, h0⟩ := field_cell hi hxl 0 (ty := 45) (off := 0) rfl cAddr
  obtain ⟨d1, p1, _, h1⟩ := field_cell hi hxl 1 (ty := 45) (off := 3) rfl cAddr
  obtain ⟨d2, p2, e2, h2⟩ := field_cell hi hxl 2 (ty := 25) (off := 6) rfl cSl
  obtain ⟨f, a, b, g0⟩ := addr_cells h0
  obtain ⟨f', a', b', g1⟩ := addr_cells h1
  match cs, hl with
  | [c0, c1, c2, c3, c4, c5, c6], _ =>
    simp at g0 g1
    obtain ⟨rfl, rfl, rfl⟩ := g0
    obtain ⟨rfl, rfl, rfl⟩ := g1
    obtain ⟨ts, ht, _, hcell⟩ := hrow
    rw [tPay] at ht
    cases ht
    obtain ⟨u, hu, hok⟩ := hcell 6 c6 rfl
    simp at hu
    subst hu
    have hw : ∀ m ∈ d2.weights Try.prog 25, m ≤ reachBytes := fun m hm => hsz m (by
      rw [hdd]
      match xs, hxl, e2 with
      | [y0, y1, y2], _, e2 =>
        simp at e2
        subst e2
        simp only [DataW.weights, Try.underlying47, List.map_cons, List.map_nil, DataW.weightsEach, List.mem_append]
        exact .inr (.inr (.inl hm)))
    obtain ⟨x, cap, o, l1, l2, ha, hx⟩ := bytes_cell Try.underlying25 Try.underlying5 c8 b8 hok h2 hw
    refine ⟨f, a, b, f', a', b', _, x, cap, l1, l2, given_in G ha (fun ρ hρ => ?_) (by simp [plS, SV.lt, ltL])⟩
    have := hx M.length ρ hρ
    simp only [plS, den, denL] at this ⊢
    rw [this]

set_option maxRecDepth 100000 in
theorem given_packet {H : Type} {enc : TypeId × Value → H} {W : World} {base : Nat} {vs : List Value} {ρ : Ren} {M : List Blk} {svs : List SV} (G : Given Try.prog W vs ρ M svs) {v : Value} {d : DataW H} {ps : List MemPlace}
    (hval : Value.okWide Try.prog W .any base 57 v) (hd : DataW.Trod enc Try.prog W 0 (fun _ => true) true 57 v d ps) (hsz : ∀ n ∈ d.weights Try.prog 57, n ≤ reachBytes) :
    ∃ (t l g : Int) (c : BitVec 64) (ρ' : Ren) (x : List (BitVec 8)) (cap : Nat), x.length ≤ cap ∧ cap ≤ 140737488351232 ∧
      Given Try.prog W (vs ++ [v]) ρ' (M ++ [.ro (bS x)]) (svs ++ [.agg [.i .i64 t, .i .i64 l, .i .i64 g, .u64 c, .sl M.length 0 x.length cap]]) := by
  obtain ⟨cs, xs, n, rfl, hl, hdd, hxl, hrow, hi⟩ := open_struct Try.underlying57 hval hd
  rw [cPk] at hl
  obtain ⟨d0, p0, _, h0⟩ := field_cell hi hxl 0 (ty := 24) (off := 0) rfl cHead
  obtain ⟨d2, p2, e2, h2⟩ := field_cell hi hxl 1 (ty := 25) (off := 4) rfl cSl
  obtain ⟨ys, m, _, hy, hyl, hyx, hyi⟩ := DataW.trod_struct Try.underlying24 h0
  match cs, hl with
  | [c0, c1, c2, c3, c4], _ =>
    obtain ⟨t, g0, w0⟩ := field_int hyi hyx 0 (ty := 3) (off := 0) rfl Try.underlying3 cInt
    obtain ⟨l, g1, w1⟩ := field_int hyi hyx 1 (ty := 3) (off := 1) rfl Try.underlying3 cInt
    obtain ⟨g, g2, w2⟩ := field_int hyi hyx 2 (ty := 3) (off := 2) rfl Try.underlying3 cInt
    obtain ⟨k, g3, w3⟩ := field_int hyi hyx 3 (ty := 22) (off := 3) rfl Try.underlying22 cU64
    obtain ⟨y, rfl⟩ := u64_of w3
    simp at g0 g1 g2 g3
    subst g0 g1 g2 g3
    obtain ⟨ts, ht, _, hcell⟩ := hrow
    rw [tPk] at ht
    cases ht
    obtain ⟨u, hu, hok⟩ := hcell 4 c4 rfl
    simp at hu
    subst hu
    have hw : ∀ m ∈ d2.weights Try.prog 25, m ≤ reachBytes := fun m hm => hsz m (by
      rw [hdd]
      match xs, hxl, e2 with
      | [y0, y1], _, e2 =>
        simp at e2
        subst e2
        simp only [DataW.weights, Try.underlying57, List.map_cons, List.map_nil, DataW.weightsEach, List.mem_append]
        exact .inr (.inl hm))
    obtain ⟨x, cap, o, l1, l2, ha, hx⟩ := bytes_cell Try.underlying25 Try.underlying5 c8 b8 hok h2 hw
    refine ⟨t, l, g, y, _, x, cap, l1, l2, given_in G ha (fun ρ hρ => ?_) (by simp [SV.lt, ltL])⟩
    have := hx M.length ρ hρ
    simp only [den, denL] at this ⊢
    rw [this]
end Go.Proofs.Ytdkdbeamimkljaa.Eng

/- The laws of chapter 9 about payloads. -/
namespace Go.Proofs.Ytdkdbeamimkljaa.Eng
open Go Go.RowKit
set_option linter.unusedSimpArgs false
set_option linter.unusedVariables false

theorem payB_le {sf : Int} {sh sl : BitVec 64} {df : Int} {dh dl : BitVec 64} {n : Nat} (h : payB sf sh sl df dh dl n = true) : n ≤ 1280 := by
  simp only [payB, Bool.and_eq_true, decide_eq_true_eq] at h; omega
set_option maxHeartbeats 1000000 in
theorem law_packetPayloads (sf : Int) (sh sl : BitVec 64) (df : Int) (dh dl : BitVec 64) (x : List (BitVec 8)) (n cap : Nat) (M : List Blk) (hl : x.length ≤ 140737488351232) (ha : BAt M n 0 x) (hc : x.length ≤ cap) :
    callVC Try.prog 6 [plS sf sh sl df dh dl (.sl n 0 x.length cap)] M (fun v _ => v = .b true) := by
  have hn := ha.lt
  have hd := addrL_le df dh dl
  have hs := addrL_le sf sh sl
  unfold plS
  refine fn_rule tabOK Try.func6 rfl Try.call6 (by kernel_rfl) (fun hM => ?_)
  (refine top_in ?_; simp -implicitDefEqProofs only [Try.ntmps6, Try.results6, go_sem, -List.reduceReplicate, ↓L_gdZ_tt, ↓L_gdZ_tf, ↓L_gdZ_ft, ↓L_gdZ_ff, ↓T_and, ↓T_imp, ↓T_all, Nat.reduceBEq, Nat.reduceAdd, Nat.reduceSub, Nat.reduceMul, Nat.reduceLT, Nat.reduceLeDiff, Nat.reduceEqDiff, Int.reduceLT, Int.reduceLE, Int.reduceAdd, Int.reduceSub, Int.reduceMul, Int.reduceNeg, Int.reduceToNat, Int.reduceEq, Int.reduceNe, reduceIte, reduceCtorEq, BitVec.reduceOfInt, BitVec.reduceToNat, List.take_succ_cons, List.take_zero, List.drop_succ_cons, List.drop_zero]; try simp only [top_out])
  refine draw_rule tabOK (by kernel_rfl : _) (.p 0 (.p 1 (.p 2 (.p 3 (.p 4 (.p 5 (.e 6 [0, 1, 2, 3] (.p 7 (.e 8 [] (.p 9 (.p 10 (.p 11 (.p 12 (.p 13 .nil))))) .no)) .no))))))) (by kernel_rfl) (by kernel_rfl) ?_
  (refine top_in ?_; simp -implicitDefEqProofs only [go_sem, -List.reduceReplicate, ↓L_gdZ_tt, ↓L_gdZ_tf, ↓L_gdZ_ft, ↓L_gdZ_ff, ↓T_and, ↓T_imp, ↓T_all, Nat.reduceBEq, Nat.reduceAdd, Nat.reduceSub, Nat.reduceMul, Nat.reduceLT, Nat.reduceLeDiff, Nat.reduceEqDiff, Int.reduceLT, Int.reduceLE, Int.reduceAdd, Int.reduceSub, Int.reduceMul, Int.reduceNeg, Int.reduceToNat, Int.reduceEq, Int.reduceNe, reduceIte, reduceCtorEq, BitVec.reduceOfInt, BitVec.reduceToNat, List.take_succ_cons, List.take_zero, List.drop_succ_cons, List.drop_zero, List.cons_append, List.nil_append]; try simp only [top_out])
  refine bytes_ok n 0 cap x _ _ ha.app (by omega) (fun z ty => ?_)
  (refine top_in ?_; simp -implicitDefEqProofs only [go_sem, -List.reduceReplicate, ↓L_gdZ_tt, ↓L_gdZ_tf, ↓L_gdZ_ft, ↓L_gdZ_ff, ↓T_and, ↓T_imp, ↓T_all, Nat.reduceBEq, Nat.reduceAdd, Nat.reduceSub, Nat.reduceMul, Nat.reduceLT, Nat.reduceLeDiff, Nat.reduceEqDiff, Int.reduceLT, Int.reduceLE, Int.reduceAdd, Int.reduceSub, Int.reduceMul, Int.reduceNeg, Int.reduceToNat, Int.reduceEq, Int.reduceNe, reduceIte, reduceCtorEq, BitVec.reduceOfInt, BitVec.reduceToNat, List.take_succ_cons, List.take_zero, List.drop_succ_cons, List.drop_zero, List.cons_append, List.nil_append]; try simp only [top_out])
  cases hp : payB sf sh sl df dh dl x.length
  · refine putPayload_ok sf sh sl df dh dl (M.length + 1) 0 _ x _ _ (BAt.row (z := z) (ty := ty) (by rw [get_app]; rfl)) (by omega) (by omega) (fun h => by rw [hp] at h; cases h) (fun _ => ?_)
    (refine top_in ?_; simp -implicitDefEqProofs only [go_sem, -List.reduceReplicate, ↓L_gdZ_tt, ↓L_gdZ_tf, ↓L_gdZ_ft, ↓L_gdZ_ff, ↓T_and, ↓T_imp, ↓T_all, Nat.reduceBEq, Nat.reduceAdd, Nat.reduceSub, Nat.reduceMul, Nat.reduceLT, Nat.reduceLeDiff, Nat.reduceEqDiff, Int.reduceLT, Int.reduceLE, Int.reduceAdd, Int.reduceSub, Int.reduceMul, Int.reduceNeg, Int.reduceToNat, Int.reduceEq, Int.reduceNe, reduceIte, reduceCtorEq, BitVec.reduceOfInt, BitVec.reduceToNat]; try simp only [top_out])
    refine refPutPayload_ok sf sh sl df dh dl n 0 cap x _ _ ha.app (by omega) hc (fun h => by rw [hp] at h; cases h) (fun _ => ?_)
    (refine top_in ?_; simp -implicitDefEqProofs only [go_sem, -List.reduceReplicate, ↓L_gdZ_tt, ↓L_gdZ_tf, ↓L_gdZ_ft, ↓L_gdZ_ff, ↓T_and, ↓T_imp, ↓T_all, Nat.reduceBEq, Nat.reduceAdd, Nat.reduceSub, Nat.reduceMul, Nat.reduceLT, Nat.reduceLeDiff, Nat.reduceEqDiff, Int.reduceLT, Int.reduceLE, Int.reduceAdd, Int.reduceSub, Int.reduceMul, Int.reduceNeg, Int.reduceToNat, Int.reduceEq, Int.reduceNe, reduceIte, reduceCtorEq, BitVec.reduceOfInt, BitVec.reduceToNat]; try simp only [top_out])
    refine same_nil _ _ ?_
    (refine top_in ?_; simp -implicitDefEqProofs only [go_sem, -List.reduceReplicate, ↓L_gdZ_tt, ↓L_gdZ_tf, ↓L_gdZ_ft, ↓L_gdZ_ff, ↓T_and, ↓T_imp, ↓T_all, Nat.reduceBEq, Nat.reduceAdd, Nat.reduceSub, Nat.reduceMul, Nat.reduceLT, Nat.reduceLeDiff, Nat.reduceEqDiff, Int.reduceLT, Int.reduceLE, Int.reduceAdd, Int.reduceSub, Int.reduceMul, Int.reduceNeg, Int.reduceToNat, Int.reduceEq, Int.reduceNe, reduceIte, reduceCtorEq, BitVec.reduceOfInt, BitVec.reduceToNat]; try simp only [top_out])
    refine num_ok _ _ _ ?_
    (refine top_in ?_; simp -implicitDefEqProofs only [go_sem, -List.reduceReplicate, ↓L_gdZ_tt, ↓L_gdZ_tf, ↓L_gdZ_ft, ↓L_gdZ_ff, ↓T_and, ↓T_imp, ↓T_all, Nat.reduceBEq, Nat.reduceAdd, Nat.reduceSub, Nat.reduceMul, Nat.reduceLT, Nat.reduceLeDiff, Nat.reduceEqDiff, Int.reduceLT, Int.reduceLE, Int.reduceAdd, Int.reduceSub, Int.reduceMul, Int.reduceNeg, Int.reduceToNat, Int.reduceEq, Int.reduceNe, reduceIte, reduceCtorEq, BitVec.reduceOfInt, BitVec.reduceToNat]; try simp only [top_out])
    refine pfirst_ok _ _ ?_
    (refine top_in ?_; simp -implicitDefEqProofs only [go_sem, -List.reduceReplicate, ↓L_gdZ_tt, ↓L_gdZ_tf, ↓L_gdZ_ft, ↓L_gdZ_ff, ↓T_and, ↓T_imp, ↓T_all, Nat.reduceBEq, Nat.reduceAdd, Nat.reduceSub, Nat.reduceMul, Nat.reduceLT, Nat.reduceLeDiff, Nat.reduceEqDiff, Int.reduceLT, Int.reduceLE, Int.reduceAdd, Int.reduceSub, Int.reduceMul, Int.reduceNeg, Int.reduceToNat, Int.reduceEq, Int.reduceNe, reduceIte, reduceCtorEq, BitVec.reduceOfInt, BitVec.reduceToNat]; try simp only [top_out])
    exact dropC_append hM rfl rfl
  · have hlen := payB_le hp
    have hL := payL_len sf sh sl df dh dl x
    refine putPayload_ok sf sh sl df dh dl (M.length + 1) 0 _ x _ _ (BAt.row (z := z) (ty := ty) (by rw [get_app]; rfl)) (by omega) (by omega) (fun _ z2 ty2 => ?_) (fun h => by rw [hp] at h; cases h)
    (refine top_in ?_; simp -implicitDefEqProofs only [go_sem, -List.reduceReplicate, ↓L_gdZ_tt, ↓L_gdZ_tf, ↓L_gdZ_ft, ↓L_gdZ_ff, ↓T_and, ↓T_imp, ↓T_all, Nat.reduceBEq, Nat.reduceAdd, Nat.reduceSub, Nat.reduceMul, Nat.reduceLT, Nat.reduceLeDiff, Nat.reduceEqDiff, Int.reduceLT, Int.reduceLE, Int.reduceAdd, Int.reduceSub, Int.reduceMul, Int.reduceNeg, Int.reduceToNat, Int.reduceEq, Int.reduceNe, reduceIte, reduceCtorEq, BitVec.reduceOfInt, BitVec.reduceToNat]; try simp only [top_out])
    refine refPutPayload_ok sf sh sl df dh dl n 0 cap x _ _ ha.app (by omega) hc (fun _ z3 ty3 => ?_) (fun h => by rw [hp] at h; cases h)
    (refine top_in ?_; simp -implicitDefEqProofs only [go_sem, -List.reduceReplicate, ↓L_gdZ_tt, ↓L_gdZ_tf, ↓L_gdZ_ft, ↓L_gdZ_ff, ↓T_and, ↓T_imp, ↓T_all, Nat.reduceBEq, Nat.reduceAdd, Nat.reduceSub, Nat.reduceMul, Nat.reduceLT, Nat.reduceLeDiff, Nat.reduceEqDiff, Int.reduceLT, Int.reduceLE, Int.reduceAdd, Int.reduceSub, Int.reduceMul, Int.reduceNeg, Int.reduceToNat, Int.reduceEq, Int.reduceNe, reduceIte, reduceCtorEq, BitVec.reduceOfInt, BitVec.reduceToNat]; try simp only [top_out])
    refine same_ok (M.length + 2) 0 _ (M.length + 3) 0 _ (payL sf sh sl df dh dl x) (payL sf sh sl df dh dl x) _ _ (BAt.row (z := z2) (ty := ty2) (by rw [get_app]; rfl)) (BAt.row (z := z3) (ty := ty3) (by rw [get_app]; rfl)) (by omega) (by omega) ?_
    (refine top_in ?_; simp -implicitDefEqProofs only [go_sem, -List.reduceReplicate, ↓L_gdZ_tt, ↓L_gdZ_tf, ↓L_gdZ_ft, ↓L_gdZ_ff, ↓T_and, ↓T_imp, ↓T_all, Nat.reduceBEq, Nat.reduceAdd, Nat.reduceSub, Nat.reduceMul, Nat.reduceLT, Nat.reduceLeDiff, Nat.reduceEqDiff, Int.reduceLT, Int.reduceLE, Int.reduceAdd, Int.reduceSub, Int.reduceMul, Int.reduceNeg, Int.reduceToNat, Int.reduceEq, Int.reduceNe, reduceIte, reduceCtorEq, BitVec.reduceOfInt, BitVec.reduceToNat]; try simp only [top_out])
    refine num_ok _ _ _ ?_
    (refine top_in ?_; simp -implicitDefEqProofs only [go_sem, -List.reduceReplicate, ↓L_gdZ_tt, ↓L_gdZ_tf, ↓L_gdZ_ft, ↓L_gdZ_ff, ↓T_and, ↓T_imp, ↓T_all, Nat.reduceBEq, Nat.reduceAdd, Nat.reduceSub, Nat.reduceMul, Nat.reduceLT, Nat.reduceLeDiff, Nat.reduceEqDiff, Int.reduceLT, Int.reduceLE, Int.reduceAdd, Int.reduceSub, Int.reduceMul, Int.reduceNeg, Int.reduceToNat, Int.reduceEq, Int.reduceNe, reduceIte, reduceCtorEq, BitVec.reduceOfInt, BitVec.reduceToNat]; try simp only [top_out])
    refine pfirst_ok _ _ ?_
    (refine top_in ?_; simp -implicitDefEqProofs only [go_sem, -List.reduceReplicate, ↓L_gdZ_tt, ↓L_gdZ_tf, ↓L_gdZ_ft, ↓L_gdZ_ff, ↓T_and, ↓T_imp, ↓T_all, Nat.reduceBEq, Nat.reduceAdd, Nat.reduceSub, Nat.reduceMul, Nat.reduceLT, Nat.reduceLeDiff, Nat.reduceEqDiff, Int.reduceLT, Int.reduceLE, Int.reduceAdd, Int.reduceSub, Int.reduceMul, Int.reduceNeg, Int.reduceToNat, Int.reduceEq, Int.reduceNe, reduceIte, reduceCtorEq, BitVec.reduceOfInt, BitVec.reduceToNat]; try simp only [top_out])
    exact dropC_append hM rfl rfl

theorem BAt.tail {M : List Blk} {n : Nat} {l : List (BitVec 8)} (h : BAt M n 0 l) {a : Nat} (ha : a ≤ l.length) : BAt M n (if (l.drop a).length = 0 then 0 else a) (l.drop a) := by
  by_cases e : (l.drop a).length = 0
  · rw [if_pos e, List.eq_nil_of_length_eq_zero e]
    have := h.sub (a := 0) (k := 0) (by omega)
    simpa using this
  · rw [if_neg e]
    have := h.sub (a := a) (k := (l.drop a).length) (by rw [List.length_drop]; omega)
    rwa [Nat.zero_add, List.take_length] at this
theorem getB_le {l : List (BitVec 8)} (h : getB l = true) : 1 + 2 * gN l ≤ l.length := by
  simp only [getB, Bool.and_eq_true, decide_eq_true_eq] at h; exact h.1.2
set_option maxHeartbeats 1000000 in
theorem law_packetCarries (x : List (BitVec 8)) (n cap : Nat) (M : List Blk) (hl : x.length ≤ 140737488351232) (ha : BAt M n 0 x) (hc : x.length ≤ cap) :
    callVC Try.prog 7 [.sl n 0 x.length cap] M (fun v _ => v = .b true) := by
  have hn := ha.lt
  refine fn_rule tabOK Try.func7 rfl Try.call7 (by kernel_rfl) (fun hM => ?_)
  (refine top_in ?_; simp -implicitDefEqProofs only [Try.ntmps7, Try.results7, go_sem, -List.reduceReplicate, ↓L_gdZ_tt, ↓L_gdZ_tf, ↓L_gdZ_ft, ↓L_gdZ_ff, ↓T_and, ↓T_imp, ↓T_all, Nat.reduceBEq, Nat.reduceAdd, Nat.reduceSub, Nat.reduceMul, Nat.reduceLT, Nat.reduceLeDiff, Nat.reduceEqDiff, Int.reduceLT, Int.reduceLE, Int.reduceAdd, Int.reduceSub, Int.reduceMul, Int.reduceNeg, Int.reduceToNat, Int.reduceEq, Int.reduceNe, reduceIte, reduceCtorEq, BitVec.reduceOfInt, BitVec.reduceToNat]; try simp only [top_out])
  refine bytes_ok n 0 cap x _ _ ha (by omega) (fun z ty => ?_)
  (refine top_in ?_; simp -implicitDefEqProofs only [go_sem, -List.reduceReplicate, ↓L_gdZ_tt, ↓L_gdZ_tf, ↓L_gdZ_ft, ↓L_gdZ_ff, ↓T_and, ↓T_imp, ↓T_all, Nat.reduceBEq, Nat.reduceAdd, Nat.reduceSub, Nat.reduceMul, Nat.reduceLT, Nat.reduceLeDiff, Nat.reduceEqDiff, Int.reduceLT, Int.reduceLE, Int.reduceAdd, Int.reduceSub, Int.reduceMul, Int.reduceNeg, Int.reduceToNat, Int.reduceEq, Int.reduceNe, reduceIte, reduceCtorEq, BitVec.reduceOfInt, BitVec.reduceToNat]; try simp only [top_out])
  have hb : BAt (M ++ [Blk.row (bS (x ++ z)) ty]) M.length 0 x := BAt.row (z := z) (ty := ty) (by rw [get_app0]; rfl)
  cases hp : getB x
  · refine getPayload_ok M.length 0 _ x _ _ hb (by omega) (by omega) (fun h => by rw [hp] at h; cases h) (fun _ => ?_)
    unfold plS
    (refine top_in ?_; simp -implicitDefEqProofs only [go_sem, -List.reduceReplicate, ↓L_gdZ_tt, ↓L_gdZ_tf, ↓L_gdZ_ft, ↓L_gdZ_ff, ↓T_and, ↓T_imp, ↓T_all, Nat.reduceBEq, Nat.reduceAdd, Nat.reduceSub, Nat.reduceMul, Nat.reduceLT, Nat.reduceLeDiff, Nat.reduceEqDiff, Int.reduceLT, Int.reduceLE, Int.reduceAdd, Int.reduceSub, Int.reduceMul, Int.reduceNeg, Int.reduceToNat, Int.reduceEq, Int.reduceNe, reduceIte, reduceCtorEq, BitVec.reduceOfInt, BitVec.reduceToNat]; try simp only [top_out])
    refine refGetPayload_ok n 0 cap x _ _ ha.app (by omega) hc (fun h => by rw [hp] at h; cases h) (fun _ => ?_)
    unfold plS
    (refine top_in ?_; simp -implicitDefEqProofs only [go_sem, -List.reduceReplicate, ↓L_gdZ_tt, ↓L_gdZ_tf, ↓L_gdZ_ft, ↓L_gdZ_ff, ↓T_and, ↓T_imp, ↓T_all, Nat.reduceBEq, Nat.reduceAdd, Nat.reduceSub, Nat.reduceMul, Nat.reduceLT, Nat.reduceLeDiff, Nat.reduceEqDiff, Int.reduceLT, Int.reduceLE, Int.reduceAdd, Int.reduceSub, Int.reduceMul, Int.reduceNeg, Int.reduceToNat, Int.reduceEq, Int.reduceNe, reduceIte, reduceCtorEq, BitVec.reduceOfInt, BitVec.reduceToNat]; try simp only [top_out])
    refine samePayload_nil _ _ _ _ _ _ _ _ ?_
    (refine top_in ?_; simp -implicitDefEqProofs only [go_sem, -List.reduceReplicate, ↓L_gdZ_tt, ↓L_gdZ_tf, ↓L_gdZ_ft, ↓L_gdZ_ff, ↓T_and, ↓T_imp, ↓T_all, Nat.reduceBEq, Nat.reduceAdd, Nat.reduceSub, Nat.reduceMul, Nat.reduceLT, Nat.reduceLeDiff, Nat.reduceEqDiff, Int.reduceLT, Int.reduceLE, Int.reduceAdd, Int.reduceSub, Int.reduceMul, Int.reduceNeg, Int.reduceToNat, Int.reduceEq, Int.reduceNe, reduceIte, reduceCtorEq, BitVec.reduceOfInt, BitVec.reduceToNat]; try simp only [top_out])
    refine num_ok _ _ _ ?_
    (refine top_in ?_; simp -implicitDefEqProofs only [go_sem, -List.reduceReplicate, ↓L_gdZ_tt, ↓L_gdZ_tf, ↓L_gdZ_ft, ↓L_gdZ_ff, ↓T_and, ↓T_imp, ↓T_all, Nat.reduceBEq, Nat.reduceAdd, Nat.reduceSub, Nat.reduceMul, Nat.reduceLT, Nat.reduceLeDiff, Nat.reduceEqDiff, Int.reduceLT, Int.reduceLE, Int.reduceAdd, Int.reduceSub, Int.reduceMul, Int.reduceNeg, Int.reduceToNat, Int.reduceEq, Int.reduceNe, reduceIte, reduceCtorEq, BitVec.reduceOfInt, BitVec.reduceToNat]; try simp only [top_out])
    refine pfirst_ok _ _ ?_
    (refine top_in ?_; simp -implicitDefEqProofs only [go_sem, -List.reduceReplicate, ↓L_gdZ_tt, ↓L_gdZ_tf, ↓L_gdZ_ft, ↓L_gdZ_ff, ↓T_and, ↓T_imp, ↓T_all, Nat.reduceBEq, Nat.reduceAdd, Nat.reduceSub, Nat.reduceMul, Nat.reduceLT, Nat.reduceLeDiff, Nat.reduceEqDiff, Int.reduceLT, Int.reduceLE, Int.reduceAdd, Int.reduceSub, Int.reduceMul, Int.reduceNeg, Int.reduceToNat, Int.reduceEq, Int.reduceNe, reduceIte, reduceCtorEq, BitVec.reduceOfInt, BitVec.reduceToNat]; try simp only [top_out])
    exact dropC_append hM rfl rfl
  · have hle := getB_le hp
    have hbl : (gB x).length ≤ x.length := by unfold gB; simp
    refine getPayload_ok M.length 0 _ x _ _ hb (by omega) (by omega) (fun _ => ?_) (fun h => by rw [hp] at h; cases h)
    unfold gP plS
    (refine top_in ?_; simp -implicitDefEqProofs only [go_sem, -List.reduceReplicate, ↓L_gdZ_tt, ↓L_gdZ_tf, ↓L_gdZ_ft, ↓L_gdZ_ff, ↓T_and, ↓T_imp, ↓T_all, Nat.reduceBEq, Nat.reduceAdd, Nat.reduceSub, Nat.reduceMul, Nat.reduceLT, Nat.reduceLeDiff, Nat.reduceEqDiff, Int.reduceLT, Int.reduceLE, Int.reduceAdd, Int.reduceSub, Int.reduceMul, Int.reduceNeg, Int.reduceToNat, Int.reduceEq, Int.reduceNe, reduceIte, reduceCtorEq, BitVec.reduceOfInt, BitVec.reduceToNat]; try simp only [top_out])
    refine refGetPayload_ok n 0 cap x _ _ ha.app (by omega) hc (fun _ z2 ty2 => ?_) (fun h => by rw [hp] at h; cases h)
    unfold gP plS
    (refine top_in ?_; simp -implicitDefEqProofs only [go_sem, -List.reduceReplicate, ↓L_gdZ_tt, ↓L_gdZ_tf, ↓L_gdZ_ft, ↓L_gdZ_ff, ↓T_and, ↓T_imp, ↓T_all, Nat.reduceBEq, Nat.reduceAdd, Nat.reduceSub, Nat.reduceMul, Nat.reduceLT, Nat.reduceLeDiff, Nat.reduceEqDiff, Int.reduceLT, Int.reduceLE, Int.reduceAdd, Int.reduceSub, Int.reduceMul, Int.reduceNeg, Int.reduceToNat, Int.reduceEq, Int.reduceNe, reduceIte, reduceCtorEq, BitVec.reduceOfInt, BitVec.reduceToNat]; try simp only [top_out])
    refine samePayload_ok _ _ _ _ _ _ _ _ _ _ _ _ (M.length + 1) _ _ (M.length + 3) 0 _ _ _ (gB x) (gB x) _ _ (BAt.tail (l := x) (a := 1 + 2 * gN x) (BAt.row (z := []) (ty := 5) (by rw [get_app, List.append_nil]; rfl)) hle) (BAt.row (z := z2) (ty := ty2) (by rw [get_app]; rfl)) (by omega) (by omega) rfl rfl ?_
    rw [show ∀ a b c d e f, samePB a b c d e f a b c d e f = true from fun a b c d e f => by simp [samePB]]
    (refine top_in ?_; simp -implicitDefEqProofs only [go_sem, -List.reduceReplicate, ↓L_gdZ_tt, ↓L_gdZ_tf, ↓L_gdZ_ft, ↓L_gdZ_ff, ↓T_and, ↓T_imp, ↓T_all, Nat.reduceBEq, Nat.reduceAdd, Nat.reduceSub, Nat.reduceMul, Nat.reduceLT, Nat.reduceLeDiff, Nat.reduceEqDiff, Int.reduceLT, Int.reduceLE, Int.reduceAdd, Int.reduceSub, Int.reduceMul, Int.reduceNeg, Int.reduceToNat, Int.reduceEq, Int.reduceNe, reduceIte, reduceCtorEq, BitVec.reduceOfInt, BitVec.reduceToNat, beq_self_eq_true, Bool.and_self]; try simp only [top_out])
    refine num_ok _ _ _ ?_
    (refine top_in ?_; simp -implicitDefEqProofs only [go_sem, -List.reduceReplicate, ↓L_gdZ_tt, ↓L_gdZ_tf, ↓L_gdZ_ft, ↓L_gdZ_ff, ↓T_and, ↓T_imp, ↓T_all, Nat.reduceBEq, Nat.reduceAdd, Nat.reduceSub, Nat.reduceMul, Nat.reduceLT, Nat.reduceLeDiff, Nat.reduceEqDiff, Int.reduceLT, Int.reduceLE, Int.reduceAdd, Int.reduceSub, Int.reduceMul, Int.reduceNeg, Int.reduceToNat, Int.reduceEq, Int.reduceNe, reduceIte, reduceCtorEq, BitVec.reduceOfInt, BitVec.reduceToNat]; try simp only [top_out])
    refine pfirst_ok _ _ ?_
    (refine top_in ?_; simp -implicitDefEqProofs only [go_sem, -List.reduceReplicate, ↓L_gdZ_tt, ↓L_gdZ_tf, ↓L_gdZ_ft, ↓L_gdZ_ff, ↓T_and, ↓T_imp, ↓T_all, Nat.reduceBEq, Nat.reduceAdd, Nat.reduceSub, Nat.reduceMul, Nat.reduceLT, Nat.reduceLeDiff, Nat.reduceEqDiff, Int.reduceLT, Int.reduceLE, Int.reduceAdd, Int.reduceSub, Int.reduceMul, Int.reduceNeg, Int.reduceToNat, Int.reduceEq, Int.reduceNe, reduceIte, reduceCtorEq, BitVec.reduceOfInt, BitVec.reduceToNat]; try simp only [top_out])
    exact dropC_append hM rfl rfl
end Go.Proofs.Ytdkdbeamimkljaa.Eng
