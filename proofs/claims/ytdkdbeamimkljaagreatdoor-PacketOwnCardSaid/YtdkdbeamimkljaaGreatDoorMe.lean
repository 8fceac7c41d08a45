/- Joined texts: V5, V6. -/
import Derived.Test.YtdkdbeamimkljaaGreatDoorMd
namespace Go.Proofs.YtdkdbeamimkljaaGreatDoor.Eng
set_option linter.unusedSimpArgs false
set_option linter.unusedVariables false
open Go Go.RowKit
def gN (l : List (BitVec 8)) : Nat := if l.getD 0 0#8 = 4#8 then 4 else if l.getD 0 0#8 = 6#8 then 16 else 0
def gF (l : List (BitVec 8)) : Int := (l.getD 0 0#8).toNat
def gX (l : List (BitVec 8)) : List (BitVec 8) := (l.drop 1).take (gN l)
def gY (l : List (BitVec 8)) : List (BitVec 8) := (l.drop (1 + gN l)).take (gN l)
def gB (l : List (BitVec 8)) : List (BitVec 8) := l.drop (1 + 2 * gN l)
def getB (l : List (BitVec 8)) : Bool := decide (gN l ≠ 0) && decide (1 + 2 * gN l ≤ l.length) && decide (l.length ≤ 1280)
def gP (l : List (BitVec 8)) (x : SV) : SV := plS (gF l) (aHi (gX l)) (numB (gX l)) (gF l) (aHi (gY l)) (numB (gY l)) x
theorem dropP {M L : List Blk} {K : SV → List Blk → Prop} {n off len cap : Nat} {ty : TypeId} {sf df e : Int} {sh sl dh dl : BitVec 64} (k : Nat) (l : List (BitVec 8)) (hM : ∀ (n : Nat) (B : Blk), M[n]? = some B → B.lt M.length = true) (hn : n = M.length + k)
    (hk : L[k]? = some (.row (bS l) ty)) (hK : K (.tup [plS sf sh sl df dh dl (.sl M.length off len cap), .i .i64 e]) (M ++ [.row (bS l) ty])) : dropC M.length (.tup [plS sf sh sl df dh dl (.sl n off len cap), .i .i64 e]) (M ++ L) K := by
  subst hn
  refine dropC_gc hM [some k] (.tup [plS sf sh sl df dh dl (.sl M.length off len cap), .i .i64 e]) [.row (bS l) ty] rfl ⟨keep8 hk, trivial⟩ (by simp [lt_row]) (by simp [SV.lt, ltL, plS]) (fun ρ => ?_) hK
  simp only [plS, rn_tup, rn_agg, rnL_cons, rnL_nil, rn_sl_at0, rn_i, rn_u64]
  rfl
theorem v0_eq (l : List (BitVec 8)) : (getV l 0 0 1).setWidth 8 = l.getD 0 0#8 := by
  cases l with
  | nil => rfl
  | cons x r => rw [getV_ok (rerr_zero.2 ⟨rfl, by simp⟩)]; simp [numB]
theorem gX6 {l : List (BitVec 8)} (h : gN l = 16) (hl : 33 ≤ l.length) : aHi (gX l) = numB ((l.drop 1).take 8) ∧ numB (gX l) = numB ((l.drop 9).take 8) := by
  have hx : (gX l).length = 16 := by unfold gX; rw [h]; simp; omega
  refine ⟨?_, ?_⟩
  · rw [aHi, hx, gX, h, List.take_take]; rfl
  · rw [numB_low (by omega), hx, gX, h, List.drop_take, List.drop_drop]
theorem gY6 {l : List (BitVec 8)} (h : gN l = 16) (hl : 33 ≤ l.length) : aHi (gY l) = numB ((l.drop 17).take 8) ∧ numB (gY l) = numB ((l.drop 25).take 8) := by
  have hx : (gY l).length = 16 := by unfold gY; rw [h]; simp; omega
  refine ⟨?_, ?_⟩
  · rw [aHi, hx, gY, h, List.take_take]; rfl
  · rw [numB_low (by omega), hx, gY, h, List.drop_take, List.drop_drop]
theorem gX4 {l : List (BitVec 8)} (h : gN l = 4) (hl : 9 ≤ l.length) : aHi (gX l) = 0#64 ∧ numB (gX l) = numB ((l.drop 1).take 4) := by
  have hx : (gX l).length = 4 := by unfold gX; rw [h]; simp; omega
  refine ⟨?_, ?_⟩
  · rw [aHi, hx]; rfl
  · rw [gX, h]
theorem gY4 {l : List (BitVec 8)} (h : gN l = 4) (hl : 9 ≤ l.length) : aHi (gY l) = 0#64 ∧ numB (gY l) = numB ((l.drop 5).take 4) := by
  have hx : (gY l).length = 4 := by unfold gY; rw [h]; simp; omega
  refine ⟨?_, ?_⟩
  · rw [aHi, hx]; rfl
  · rw [gY, h]
theorem nat8 {x : BitVec 8} {n : Nat} (hn : n < 256) : (((x.toNat : Nat) : Int) = (n : Int)) ↔ x = BitVec.ofNat 8 n := by
  constructor
  · intro h; apply BitVec.eq_of_toNat_eq; rw [BitVec.toNat_ofNat]; omega
  · rintro rfl; rw [BitVec.toNat_ofNat]; omega
set_option maxHeartbeats 1000000 in
theorem getPayload_ok (n off cap : Nat) (l : List (BitVec 8)) (M : List Blk) (K : SV → List Blk → Prop) (ha : BAt M n off l) (hl : l.length ≤ 140737488355000) (hcap : l.length ≤ cap)
    (h1 : getB l = true → K (.tup [gP l (.sl M.length (if (gB l).length = 0 then 0 else 1 + 2 * gN l) (gB l).length (gB l).length), .i .i64 0]) (M ++ [.row (bS l) 5]))
    (h0 : getB l = false → K (.tup [plS 0 0#64 0#64 0 0#64 0#64 .sn, .i .i64 90]) M) :
    callVC Tryz.prog 7 [.sl n off l.length cap] M K := by
  refine fn_rule tabOK Tryz.func7 rfl Tryz.call7 (by kernel_rfl) (fun hM => ?_)
  (refine top_in ?_; simp -implicitDefEqProofs only [Tryz.ntmps7, Tryz.results7, go_sem, -List.reduceReplicate, ↓L_gdZ_tt, ↓L_gdZ_tf, ↓L_gdZ_ft, ↓L_gdZ_ff, ↓T_and, ↓T_imp, ↓T_all]; try simp only [top_out])
  refine ⟨fun h => dropC_append hM rfl (h0 ?_), fun h => ?_⟩
  · unfold getB; simp; omega
  · refine newReader_ok n off cap l _ _ ha.app hl ?_
    (refine top_in ?_; simp -implicitDefEqProofs only [go_sem, -List.reduceReplicate, ↓L_gdZ_tt, ↓L_gdZ_tf, ↓L_gdZ_ft, ↓L_gdZ_ff, ↓T_and, ↓T_imp, ↓T_all]; try simp only [top_out])
    have hB : ∀ (X Y : Blk) (L : List Blk), BAt (M ++ X :: Blk.row (bS l) 5 :: L) (M.length + 1) 0 l := fun X Y L => BAt.row (z := []) (ty := 5) (by rw [get_app, List.append_nil]; rfl)
    have hne : M.length + 2 ≠ M.length + 1 := by omega
    refine get8_ok (M.length + 2) (M.length + 1) l.length l 0 0 _ _ (by rw [get_app]; rfl) (hB _ (Blk.dead) _) hne (by omega) (by omega) (by omega) ?_
    (refine top_in ?_; simp -implicitDefEqProofs only [go_sem, -List.reduceReplicate, ↓L_gdZ_tt, ↓L_gdZ_tf, ↓L_gdZ_ft, ↓L_gdZ_ff, ↓T_and, ↓T_imp, ↓T_all]; try simp only [top_out])
    rw [v0_eq]
    have j6 : ∀ h : l.getD 0 0#8 = 6#8, gN l = 16 := fun h => by rw [gN, h]; rfl
    have j4 : ∀ h : l.getD 0 0#8 = 4#8, gN l = 4 := fun h => by rw [gN, h]; rfl
    have jl : ∀ h : l.getD 0 0#8 ≠ 0#8, 1 ≤ l.length := fun h => by cases l; exact absurd rfl h; simp
    have g0 : ∀ h : (l.length < 1 + 2 * gN l), getB l = false := fun h => by unfold getB; simp; omega
    refine ⟨fun h4 => ⟨fun h6 => dropC_append hM rfl (h0 ?_), fun h6 => ?_⟩, fun h4 => ?_⟩
    · have k4 := fun e => bneT h4 ((nat8 (n := 4) (by omega)).2 e)
      have k6 := fun e => bneT h6 ((nat8 (n := 6) (by omega)).2 e)
      have : gN l = 0 := by unfold gN; rw [if_neg k4, if_neg k6]
      unfold getB; rw [this]; rfl
    · have k6 := (nat8 (n := 6) (by omega)).1 (bneF h6)
      have hN := j6 k6
      have hl1 := jl (by rw [k6]; decide)
      have r1 : rat l.length 0 0 1 = 1 := if_pos ⟨rfl, by omega⟩
      have r2 : rerr l.length 0 0 1 = 0 := rerr_zero.2 ⟨rfl, by omega⟩
      rw [k6, r1, r2, show (((6#8).toNat : Nat) : Int) = 6 from rfl]
      refine address6_ok (M.length + 2) (M.length + 1) l.length l 1 0 _ _ (by rw [get_app]; rfl) (hB _ Blk.dead _) hne hl1 (by omega) (by omega) ?_
      (refine top_in ?_; simp -implicitDefEqProofs only [go_sem, -List.reduceReplicate, ↓L_gdZ_tt, ↓L_gdZ_tf, ↓L_gdZ_ft, ↓L_gdZ_ff, ↓T_and, ↓T_imp, ↓T_all]; try simp only [top_out])
      generalize e1 : rerr l.length 1 0 8 = q1
      generalize e2 : rat l.length 1 0 8 = a1
      generalize e3 : rerr l.length a1 q1 8 = q2
      generalize e4 : rat l.length a1 q1 8 = a2
      have b1 : a1 ≤ l.length := e2 ▸ rat_le hl1
      have b2 : a2 ≤ l.length := e4 ▸ rat_le b1
      refine address6_ok (M.length + 2) (M.length + 1) l.length l a2 q2 _ _ (by rw [get_app]; rfl) (hB _ Blk.dead _) hne b2 (by omega) (by omega) ?_
      (refine top_in ?_; simp -implicitDefEqProofs only [go_sem, -List.reduceReplicate, ↓L_gdZ_tt, ↓L_gdZ_tf, ↓L_gdZ_ft, ↓L_gdZ_ff, ↓T_and, ↓T_imp, ↓T_all, adS, List.cons_append, List.nil_append]; try simp only [top_out])
      generalize e5 : rerr l.length a2 q2 8 = q3
      generalize e6 : rat l.length a2 q2 8 = a3
      generalize e7 : rerr l.length a3 q3 8 = q4
      generalize e8 : rat l.length a3 q3 8 = a4
      have b3 : a3 ≤ l.length := e6 ▸ rat_le b2
      have b4 : a4 ≤ l.length := e8 ▸ rat_le b3
      refine err_ok (M.length + 2) (M.length + 1) l.length l.length a4 q4 _ _ (by rw [get_app]; rfl) ?_
      (refine top_in ?_; simp -implicitDefEqProofs only [go_sem, -List.reduceReplicate, ↓L_gdZ_tt, ↓L_gdZ_tf, ↓L_gdZ_ft, ↓L_gdZ_ff, ↓T_and, ↓T_imp, ↓T_all]; try simp only [top_out])
      refine ⟨fun hq => dropC_append hM rfl (h0 ?_), fun hq => ?_⟩
      · refine g0 ?_
        rw [hN]
        refine Nat.lt_of_not_le fun hge => bneT hq ?_
        have c1 := rerr_zero.2 (⟨rfl, by omega⟩ : (0 : Int) = 0 ∧ 1 + 8 ≤ l.length)
        have d1 := rat_ok c1
        rw [e1] at c1; rw [e2] at d1
        have c2 := rerr_zero.2 (⟨c1, by omega⟩ : q1 = 0 ∧ a1 + 8 ≤ l.length)
        have d2 := rat_ok c2
        rw [e3] at c2; rw [e4] at d2
        have c3 := rerr_zero.2 (⟨c2, by omega⟩ : q2 = 0 ∧ a2 + 8 ≤ l.length)
        have d3 := rat_ok c3
        rw [e5] at c3; rw [e6] at d3
        exact e7 ▸ rerr_zero.2 ⟨c3, by omega⟩
      · have c4 := bneF hq
        obtain ⟨c3, x4⟩ := rerr_zero.1 (e7.trans c4)
        obtain ⟨c2, x3⟩ := rerr_zero.1 (e5.trans c3)
        obtain ⟨c1, x2⟩ := rerr_zero.1 (e3.trans c2)
        obtain ⟨_, x1⟩ := rerr_zero.1 (e1.trans c1)
        have d1 : a1 = 9 := by rw [← e2, rat_ok (e1.trans c1)]
        have d2 : a2 = 17 := by rw [← e4, rat_ok (e3.trans c2), d1]
        have d3 : a3 = 25 := by rw [← e6, rat_ok (e5.trans c3), d2]
        have d4 : a4 = 33 := by rw [← e8, rat_ok (e7.trans c4), d3]
        have h33 : 33 ≤ l.length := by omega
        have hg : getB l = true := by unfold getB; rw [hN]; simp; omega
        have hF : gF l = 6 := by rw [gF, k6]; rfl
        obtain ⟨p1, p2⟩ := gX6 hN h33
        obtain ⟨p3, p4⟩ := gY6 hN h33
        rw [getV_ok (e1.trans c1), getV_ok (e3.trans c2), getV_ok (e5.trans c3), getV_ok (e7.trans c4), d1, d2, d3, ← p1, ← p2, ← p3, ← p4]
        subst c4
        refine left_ok (M.length + 2) (M.length + 1) l.length l a4 0 _ _ (by rw [get_app]; rfl) b4 (by omega) ?_
        rw [if_pos rfl]
        (refine top_in ?_; simp -implicitDefEqProofs only [go_sem, -List.reduceReplicate, ↓L_gdZ_tt, ↓L_gdZ_tf, ↓L_gdZ_ft, ↓L_gdZ_ff, ↓T_and, ↓T_imp, ↓T_all]; try simp only [top_out])
        refine rdBytes_ok (M.length + 2) (M.length + 1) l.length l a4 (l.length - a4) _ _ (by rw [get_app]; rfl) (hB _ Blk.dead _) (by omega) (by omega) (by omega) ?_
        (refine top_in ?_; simp -implicitDefEqProofs only [go_sem, -List.reduceReplicate, ↓L_gdZ_tt, ↓L_gdZ_tf, ↓L_gdZ_ft, ↓L_gdZ_ff, ↓T_and, ↓T_imp, ↓T_all]; try simp only [top_out])
        have hlen : (gB l).length = l.length - a4 := by unfold gB; rw [hN, d4]; simp
        have h1 := h1 hg
        rw [gP, hF, hlen, hN, show 1 + 2 * 16 = a4 from d4.symm] at h1
        exact dropP 1 l hM rfl rfl h1
    · have k4 := (nat8 (n := 4) (by omega)).1 (bneF h4)
      have hN := j4 k4
      have hl1 := jl (by rw [k4]; decide)
      have r1 : rat l.length 0 0 1 = 1 := if_pos ⟨rfl, by omega⟩
      have r2 : rerr l.length 0 0 1 = 0 := rerr_zero.2 ⟨rfl, by omega⟩
      rw [k4, r1, r2, show (((4#8).toNat : Nat) : Int) = 4 from rfl]
      refine address4_ok (M.length + 2) (M.length + 1) l.length l 1 0 _ _ (by rw [get_app]; rfl) (hB _ Blk.dead _) hne hl1 (by omega) (by omega) ?_
      (refine top_in ?_; simp -implicitDefEqProofs only [go_sem, -List.reduceReplicate, ↓L_gdZ_tt, ↓L_gdZ_tf, ↓L_gdZ_ft, ↓L_gdZ_ff, ↓T_and, ↓T_imp, ↓T_all]; try simp only [top_out])
      generalize e1 : rerr l.length 1 0 4 = q1
      generalize e2 : rat l.length 1 0 4 = a1
      have b1 : a1 ≤ l.length := e2 ▸ rat_le hl1
      refine address4_ok (M.length + 2) (M.length + 1) l.length l a1 q1 _ _ (by rw [get_app]; rfl) (hB _ Blk.dead _) hne b1 (by omega) (by omega) ?_
      (refine top_in ?_; simp -implicitDefEqProofs only [go_sem, -List.reduceReplicate, ↓L_gdZ_tt, ↓L_gdZ_tf, ↓L_gdZ_ft, ↓L_gdZ_ff, ↓T_and, ↓T_imp, ↓T_all, adS, List.cons_append, List.nil_append]; try simp only [top_out])
      generalize e7 : rerr l.length a1 q1 4 = q4
      generalize e8 : rat l.length a1 q1 4 = a4
      have b4 : a4 ≤ l.length := e8 ▸ rat_le b1
      refine err_ok (M.length + 2) (M.length + 1) l.length l.length a4 q4 _ _ (by rw [get_app]; rfl) ?_
      (refine top_in ?_; simp -implicitDefEqProofs only [go_sem, -List.reduceReplicate, ↓L_gdZ_tt, ↓L_gdZ_tf, ↓L_gdZ_ft, ↓L_gdZ_ff, ↓T_and, ↓T_imp, ↓T_all]; try simp only [top_out])
      refine ⟨fun hq => dropC_append hM rfl (h0 ?_), fun hq => ?_⟩
      · refine g0 ?_
        rw [hN]
        refine Nat.lt_of_not_le fun hge => bneT hq ?_
        have c1 := rerr_zero.2 (⟨rfl, by omega⟩ : (0 : Int) = 0 ∧ 1 + 4 ≤ l.length)
        have d1 := rat_ok c1
        rw [e1] at c1; rw [e2] at d1
        exact e7 ▸ rerr_zero.2 ⟨c1, by omega⟩
      · have c4 := bneF hq
        obtain ⟨c1, x2⟩ := rerr_zero.1 (e7.trans c4)
        obtain ⟨_, x1⟩ := rerr_zero.1 (e1.trans c1)
        have d1 : a1 = 5 := by rw [← e2, rat_ok (e1.trans c1)]
        have d4 : a4 = 9 := by rw [← e8, rat_ok (e7.trans c4), d1]
        have h9 : 9 ≤ l.length := by omega
        have hg : getB l = true := by unfold getB; rw [hN]; simp; omega
        have hF : gF l = 4 := by rw [gF, k4]; rfl
        obtain ⟨p1, p2⟩ := gX4 hN h9
        obtain ⟨p3, p4⟩ := gY4 hN h9
        have l1 : ((l.drop 1).take 4).length = 4 := by simp; omega
        have l2 : ((l.drop 5).take 4).length = 4 := by simp; omega
        rw [getV_ok (e1.trans c1), getV_ok (e7.trans c4), d1, numB_32 l1, numB_32 l2, ← p2, ← p4]
        subst c4
        refine left_ok (M.length + 2) (M.length + 1) l.length l a4 0 _ _ (by rw [get_app]; rfl) b4 (by omega) ?_
        rw [if_pos rfl]
        (refine top_in ?_; simp -implicitDefEqProofs only [go_sem, -List.reduceReplicate, ↓L_gdZ_tt, ↓L_gdZ_tf, ↓L_gdZ_ft, ↓L_gdZ_ff, ↓T_and, ↓T_imp, ↓T_all]; try simp only [top_out])
        refine rdBytes_ok (M.length + 2) (M.length + 1) l.length l a4 (l.length - a4) _ _ (by rw [get_app]; rfl) (hB _ Blk.dead _) (by omega) (by omega) (by omega) ?_
        (refine top_in ?_; simp -implicitDefEqProofs only [go_sem, -List.reduceReplicate, ↓L_gdZ_tt, ↓L_gdZ_tf, ↓L_gdZ_ft, ↓L_gdZ_ff, ↓T_and, ↓T_imp, ↓T_all]; try simp only [top_out])
        have hlen : (gB l).length = l.length - a4 := by unfold gB; rw [hN, d4]; simp
        have h1 := h1 hg
        rw [gP, hF, hlen, hN, show 1 + 2 * 4 = a4 from d4.symm, p1, p3] at h1
        exact dropP 1 l hM rfl rfl h1
set_option maxHeartbeats 1000000 in
theorem refGetPayload_ok (n off cap : Nat) (l : List (BitVec 8)) (M : List Blk) (K : SV → List Blk → Prop) (ha : BAt M n off l) (hl : l.length ≤ 140737488355000) (hcap : l.length ≤ cap)
    (h1 : getB l = true → ∀ z ty, K (.tup [gP l (.sl M.length 0 (gB l).length ((gB l).length + z.length)), .i .i64 0]) (M ++ [.row (bS (gB l ++ z)) ty]))
    (h0 : getB l = false → K (.tup [plS 0 0#64 0#64 0 0#64 0#64 .sn, .i .i64 90]) M) :
    callVC Tryz.prog 39 [.sl n off l.length cap] M K := by
  have j6 : ∀ h : l.getD 0 0#8 = 6#8, gN l = 16 := fun h => by rw [gN, h]; rfl
  have j4 : ∀ h : l.getD 0 0#8 = 4#8, gN l = 4 := fun h => by rw [gN, h]; rfl
  have jl : ∀ h : l.getD 0 0#8 ≠ 0#8, 1 ≤ l.length := fun h => by cases l; exact absurd rfl h; simp
  have x0 : 1 ≤ l.length → Eng.cell8 (cellsB M[n]?) off = l.getD 0 0#8 := fun h => ha.cell8 (j := 0) (by omega)
  have x1 : 1 ≤ l.length → Eng.is8 (cellsB M[n]?) off = true := fun h => ha.is8 (j := 0) (by omega)
  have x2 : 1 ≤ l.length → off + 1 ≤ (cellsB M[n]?).length := fun h => ha.le (j := 1) (by omega)
  by_cases k4 : l.getD 0 0#8 = 4#8
  · have hN := j4 k4
    have hl1 := jl (by rw [k4]; decide)
    have hp : (0 < (l.length : Int)) = True := by simp; omega
    have hc4 : (Eng.cell8 (cellsB M[n]?) off == 4#8) = true := by rw [x0 hl1, k4]; rfl
    have hc6 : (Eng.cell8 (cellsB M[n]?) off == 6#8) = false := by rw [x0 hl1, k4]; rfl
    have w8 : IntKind.i64.wrap 8 = 8 := rfl
    have w9 : IntKind.i64.wrap 9 = 9 := rfl
    have w5 : IntKind.i64.wrap 5 = 5 := rfl
    refine fn_rule tabOK Tryz.func39 rfl Tryz.call39 (by kernel_rfl) (fun hM => ?_)
    (refine top_in ?_; simp -implicitDefEqProofs only [Tryz.ntmps39, Tryz.results39, go_sem, -List.reduceReplicate, ↓L_gdZ_tt, ↓L_gdZ_tf, ↓L_gdZ_ft, ↓L_gdZ_ff, ↓T_and, ↓T_imp, ↓T_all, get_lt ha.lt, hp, hc4, hc6, x1 hl1, w8, w9, w5]; try simp only [top_out])
    have hg0 : l.length < 9 → getB l = false := fun h => by unfold getB; rw [hN]; simp; omega
    refine ⟨x2 hl1, x2 hl1, fun _ => ⟨fun h9 => ⟨fun h12 => dropC_append hM rfl (h0 (by unfold getB; simp; omega)), fun h12 => ?_⟩, fun h9 => dropC_append hM rfl (h0 (hg0 (by omega)))⟩, fun h => absurd h (by decide)⟩
    have hg : getB l = true := by unfold getB; rw [hN]; simp; omega
    have hF : gF l = 4 := by rw [gF, k4]; rfl
    have c1 : (cap = 1) = False := by simp; omega
    have c2 : (cap = 5) = False := by simp; omega
    have hX : (gX l).length = 4 := by unfold gX; rw [hN]; simp; omega
    have hY : (gY l).length = 4 := by unfold gY; rw [hN]; simp; omega
    have hbX : BAt M n (off + 1) (gX l) := by unfold gX; rw [hN]; exact ha.sub (by omega)
    have hbY : BAt M n (off + 5) (gY l) := by unfold gY; rw [hN]; exact ha.sub (by omega)
    have hBl : (gB l).length = l.length - 9 := by unfold gB; rw [hN]; simp
    have hbB : BAt M n (if cap = 9 then off else off + 9) (gB l) := by
      unfold gB; rw [hN]
      by_cases hc : cap = 9
      · rw [if_pos hc]
        have := ha.sub (a := 0) (k := 0) (by omega)
        rw [List.drop_eq_nil_of_le (by omega : l.length ≤ 1 + 2 * 4)]; simpa using this
      · rw [if_neg hc]
        have := ha.sub (a := 9) (k := l.length - 9) (by omega)
        rwa [List.take_of_length_le (by simp)] at this
    refine ⟨by omega, ?_⟩
    have pX := refAddr_ok n (off + 1) (cap - 1) (gX l)
    rw [hX] at pX
    rw [if_neg (by omega : ¬ cap = 1)]
    refine pX _ _ hbX.app (by omega) ?_
    (refine top_in ?_; simp -implicitDefEqProofs only [go_sem, -List.reduceReplicate, ↓L_gdZ_tt, ↓L_gdZ_tf, ↓L_gdZ_ft, ↓L_gdZ_ff, ↓T_and, ↓T_imp, ↓T_all, adS, w8, w9, w5, c1, c2, if_true, if_false, List.cons_append, List.nil_append]; try simp only [top_out])
    refine ⟨by omega, ?_⟩
    have pY := refAddr_ok n (off + 5) (cap - 5) (gY l)
    rw [hY] at pY
    refine pY _ _ hbY.app (by omega) ?_
    (refine top_in ?_; simp -implicitDefEqProofs only [go_sem, -List.reduceReplicate, ↓L_gdZ_tt, ↓L_gdZ_tf, ↓L_gdZ_ft, ↓L_gdZ_ff, ↓T_and, ↓T_imp, ↓T_all, adS, w8, w9, w5, c1, c2, if_true, if_false, List.cons_append, List.nil_append]; try simp only [top_out])
    refine draw_rule tabOK (by kernel_rfl : _) (.p 0 (.p 1 (.p 2 (.p 3 (.p 4 (.p 5 (.p 6 (.e 7 [0, 1] (.p 8 (.e 9 [] (.p 10 .nil) .no)) .no)))))))) (by kernel_rfl) (by kernel_rfl) ?_
    (refine top_in ?_; simp -implicitDefEqProofs only [go_sem, -List.reduceReplicate, ↓L_gdZ_tt, ↓L_gdZ_tf, ↓L_gdZ_ft, ↓L_gdZ_ff, ↓T_and, ↓T_imp, ↓T_all, adS, w8, w9, w5, c1, c2, if_true, if_false, List.cons_append, List.nil_append]; try simp only [top_out])
    refine ⟨by omega, ?_⟩
    have pB := bytes_ok n (if cap = 9 then off else off + 9) (cap - 9) (gB l)
    rw [hBl] at pB
    refine pB _ _ hbB.app (by omega) (fun z ty => ?_)
    (refine top_in ?_; simp -implicitDefEqProofs only [go_sem, -List.reduceReplicate, ↓L_gdZ_tt, ↓L_gdZ_tf, ↓L_gdZ_ft, ↓L_gdZ_ff, ↓T_and, ↓T_imp, ↓T_all, List.cons_append, List.nil_append]; try simp only [top_out])
    have h1 := h1 hg z ty
    rw [gP, hF, hBl] at h1
    exact dropP 3 (gB l ++ z) hM rfl rfl h1
  · by_cases k6 : l.getD 0 0#8 = 6#8
    · have hN := j6 k6
      have hl1 := jl (by rw [k6]; decide)
      have hp : (0 < (l.length : Int)) = True := by simp; omega
      have hc4 : (Eng.cell8 (cellsB M[n]?) off == 4#8) = false := by rw [x0 hl1, k6]; rfl
      have hc6 : (Eng.cell8 (cellsB M[n]?) off == 6#8) = true := by rw [x0 hl1, k6]; rfl
      have w8 : IntKind.i64.wrap 32 = 32 := rfl
      have w9 : IntKind.i64.wrap 33 = 33 := rfl
      have w5 : IntKind.i64.wrap 17 = 17 := rfl
      refine fn_rule tabOK Tryz.func39 rfl Tryz.call39 (by kernel_rfl) (fun hM => ?_)
      (refine top_in ?_; simp -implicitDefEqProofs only [Tryz.ntmps39, Tryz.results39, go_sem, -List.reduceReplicate, ↓L_gdZ_tt, ↓L_gdZ_tf, ↓L_gdZ_ft, ↓L_gdZ_ff, ↓T_and, ↓T_imp, ↓T_all, get_lt ha.lt, hp, hc4, hc6, x1 hl1, w8, w9, w5]; try simp only [top_out])
      have hg0 : l.length < 33 → getB l = false := fun h => by unfold getB; rw [hN]; simp; omega
      refine ⟨x2 hl1, x2 hl1, fun _ => ⟨fun h9 => ⟨fun h12 => dropC_append hM rfl (h0 (by unfold getB; simp; omega)), fun h12 => ?_⟩, fun h9 => dropC_append hM rfl (h0 (hg0 (by omega)))⟩, fun h => absurd h (by decide)⟩
      have hg : getB l = true := by unfold getB; rw [hN]; simp; omega
      have hF : gF l = 6 := by rw [gF, k6]; rfl
      have c1 : (cap = 1) = False := by simp; omega
      have c2 : (cap = 17) = False := by simp; omega
      have hX : (gX l).length = 16 := by unfold gX; rw [hN]; simp; omega
      have hY : (gY l).length = 16 := by unfold gY; rw [hN]; simp; omega
      have hbX : BAt M n (off + 1) (gX l) := by unfold gX; rw [hN]; exact ha.sub (by omega)
      have hbY : BAt M n (off + 17) (gY l) := by unfold gY; rw [hN]; exact ha.sub (by omega)
      have hBl : (gB l).length = l.length - 33 := by unfold gB; rw [hN]; simp
      have hbB : BAt M n (if cap = 33 then off else off + 33) (gB l) := by
        unfold gB; rw [hN]
        by_cases hc : cap = 33
        · rw [if_pos hc]
          have := ha.sub (a := 0) (k := 0) (by omega)
          rw [List.drop_eq_nil_of_le (by omega : l.length ≤ 1 + 2 * 16)]; simpa using this
        · rw [if_neg hc]
          have := ha.sub (a := 33) (k := l.length - 33) (by omega)
          rwa [List.take_of_length_le (by simp)] at this
      refine ⟨by omega, ?_⟩
      have pX := refAddr_ok n (off + 1) (cap - 1) (gX l)
      rw [hX] at pX
      rw [if_neg (by omega : ¬ cap = 1)]
      refine pX _ _ hbX.app (by omega) ?_
      (refine top_in ?_; simp -implicitDefEqProofs only [go_sem, -List.reduceReplicate, ↓L_gdZ_tt, ↓L_gdZ_tf, ↓L_gdZ_ft, ↓L_gdZ_ff, ↓T_and, ↓T_imp, ↓T_all, adS, w8, w9, w5, c1, c2, if_true, if_false, List.cons_append, List.nil_append]; try simp only [top_out])
      refine ⟨by omega, ?_⟩
      have pY := refAddr_ok n (off + 17) (cap - 17) (gY l)
      rw [hY] at pY
      refine pY _ _ hbY.app (by omega) ?_
      (refine top_in ?_; simp -implicitDefEqProofs only [go_sem, -List.reduceReplicate, ↓L_gdZ_tt, ↓L_gdZ_tf, ↓L_gdZ_ft, ↓L_gdZ_ff, ↓T_and, ↓T_imp, ↓T_all, adS, w8, w9, w5, c1, c2, if_true, if_false, List.cons_append, List.nil_append]; try simp only [top_out])
      refine draw_rule tabOK (by kernel_rfl : _) (.p 0 (.p 1 (.p 2 (.p 3 (.p 4 (.p 5 (.p 6 (.e 7 [0, 1] (.p 8 (.e 9 [] (.p 10 .nil) .no)) .no)))))))) (by kernel_rfl) (by kernel_rfl) ?_
      (refine top_in ?_; simp -implicitDefEqProofs only [go_sem, -List.reduceReplicate, ↓L_gdZ_tt, ↓L_gdZ_tf, ↓L_gdZ_ft, ↓L_gdZ_ff, ↓T_and, ↓T_imp, ↓T_all, adS, w8, w9, w5, c1, c2, if_true, if_false, List.cons_append, List.nil_append]; try simp only [top_out])
      refine ⟨by omega, ?_⟩
      have pB := bytes_ok n (if cap = 33 then off else off + 33) (cap - 33) (gB l)
      rw [hBl] at pB
      refine pB _ _ hbB.app (by omega) (fun z ty => ?_)
      (refine top_in ?_; simp -implicitDefEqProofs only [go_sem, -List.reduceReplicate, ↓L_gdZ_tt, ↓L_gdZ_tf, ↓L_gdZ_ft, ↓L_gdZ_ff, ↓T_and, ↓T_imp, ↓T_all, List.cons_append, List.nil_append]; try simp only [top_out])
      have h1 := h1 hg z ty
      rw [gP, hF, hBl] at h1
      exact dropP 3 (gB l ++ z) hM rfl rfl h1
    · have hN : gN l = 0 := by unfold gN; rw [if_neg k4, if_neg k6]
      have hg : getB l = false := by unfold getB; rw [hN]; rfl
      by_cases hl1 : 1 ≤ l.length
      · have hp : (0 < (l.length : Int)) = True := by simp; omega
        have hc4 : (Eng.cell8 (cellsB M[n]?) off == 4#8) = false := by rw [x0 hl1]; simpa using k4
        have hc6 : (Eng.cell8 (cellsB M[n]?) off == 6#8) = false := by rw [x0 hl1]; simpa using k6
        refine fn_rule tabOK Tryz.func39 rfl Tryz.call39 (by kernel_rfl) (fun hM => ?_)
        (refine top_in ?_; simp -implicitDefEqProofs only [Tryz.ntmps39, Tryz.results39, go_sem, -List.reduceReplicate, ↓L_gdZ_tt, ↓L_gdZ_tf, ↓L_gdZ_ft, ↓L_gdZ_ff, ↓T_and, ↓T_imp, ↓T_all, get_lt ha.lt, hp, hc4, hc6, x1 hl1]; try simp only [top_out])
        exact ⟨x2 hl1, x2 hl1, dropC_append hM rfl (h0 hg)⟩
      · have hp : (0 < (l.length : Int)) = False := by simp; cases l; rfl; simp at hl1
        refine fn_rule tabOK Tryz.func39 rfl Tryz.call39 (by kernel_rfl) (fun hM => ?_)
        (refine top_in ?_; simp -implicitDefEqProofs only [Tryz.ntmps39, Tryz.results39, go_sem, -List.reduceReplicate, ↓L_gdZ_tt, ↓L_gdZ_tf, ↓L_gdZ_ft, ↓L_gdZ_ff, ↓T_and, ↓T_imp, ↓T_all, get_lt ha.lt, hp]; try simp only [top_out])
        exact dropC_append hM rfl (h0 hg)
end Go.Proofs.YtdkdbeamimkljaaGreatDoor.Eng
