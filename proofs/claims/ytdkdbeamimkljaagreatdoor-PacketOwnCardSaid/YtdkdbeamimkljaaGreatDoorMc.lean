/- Joined texts: U5, U6, U7. -/
import Derived.Test.YtdkdbeamimkljaaGreatDoorMb
namespace Go.Proofs.YtdkdbeamimkljaaGreatDoor.Eng
set_option linter.unusedSimpArgs false
set_option linter.unusedVariables false
open Go Go.RowKit
theorem rerr_zero {len a n : Nat} {e : Int} : rerr len a e n = 0 ↔ e = 0 ∧ a + n ≤ len := by
  unfold rerr
  by_cases he : e = 0
  · rw [if_pos he]
    by_cases h : a + n ≤ len
    · rw [if_pos h]; exact ⟨fun _ => ⟨he, h⟩, fun _ => rfl⟩
    · rw [if_neg h]; exact ⟨fun h => (by cases h), fun h' => absurd h'.2 h⟩
  · rw [if_neg he]; exact ⟨fun h => absurd h he, fun h => absurd h.1 he⟩
theorem rat_ok {len a n : Nat} {e : Int} (h : rerr len a e n = 0) : rat len a e n = a + n := if_pos (rerr_zero.1 h)
theorem rat_le {len a n : Nat} {e : Int} (h : a ≤ len) : rat len a e n ≤ len := by unfold rat; split <;> omega
theorem getV_ok {l : List (BitVec 8)} {a n : Nat} {e : Int} (h : rerr l.length a e n = 0) : getV l a e n = numB ((l.drop a).take n) := by
  have := rerr_zero.1 h
  rw [getV, if_pos]
  simp [rok, this.1, this.2]
def hT (l : List (BitVec 8)) : Int := (l.getD 0 0#8).toNat
def hL (l : List (BitVec 8)) : Int := ((numB ((l.drop 4).take 4)).setWidth 32).toNat
def hG (l : List (BitVec 8)) : Int := ((numB ((l.drop 8).take 4)).setWidth 32).toNat
def hC (l : List (BitVec 8)) : BitVec 64 := numB ((l.drop 12).take 8)
def partB (l : List (BitVec 8)) : Bool := decide (20 ≤ l.length) && zerosB ((l.drop 1).take 3) && headB (hT l) (hL l) (hG l) (hC l) && fitsB (hT l) ((l.length : Int) - 36)
theorem apart_ok (n off cap : Nat) (l : List (BitVec 8)) (M : List Blk) (K : SV → List Blk → Prop) (ha : BAt M n off l) (hl : l.length ≤ 140737488355000) (hcap : l.length ≤ cap)
    (h1 : partB l = true → K (.tup [.agg [.i .i64 (hT l), .i .i64 (hL l), .i .i64 (hG l), .u64 (hC l), .sl n off 20 20, .sl n (off + 20) (l.length - 20) (l.length - 20)], .b true]) M)
    (h0 : partB l = false → K (.tup [.agg [.i .i64 0, .i .i64 0, .i .i64 0, .u64 0#64, .sn, .sn], .b false]) M) :
    callVC Tryz.prog 33 [.sl n off l.length cap] M K := by
  refine fn_rule tabOK Tryz.func33 rfl Tryz.call33 (by kernel_rfl) (fun hM => ?_)
  (refine top_in ?_; simp -implicitDefEqProofs only [Tryz.ntmps33, Tryz.results33, go_sem, -List.reduceReplicate, ↓L_gdZ_tt, ↓L_gdZ_tf, ↓L_gdZ_ft, ↓L_gdZ_ff, ↓T_and, ↓T_imp, ↓T_all]; try simp only [top_out])
  have e20 : (min (l.length : Int) 20).toNat = (l.take 20).length := by simp; omega
  have h20 : (l.take 20).length ≤ 20 := by simp; omega
  rw [e20]
  refine ⟨by omega, by omega, ?_⟩
  have hb : BAt M n off (l.take 20) := by
    have := ha.sub (a := 0) (k := (l.take 20).length) (by simp; omega)
    have e : (l.drop 0).take (l.take 20).length = l.take 20 := by simp [List.take_take]
    rwa [e] at this
  refine newReader_ok n off _ (l.take 20) _ _ hb.app (by omega) ?_
  (refine top_in ?_; simp -implicitDefEqProofs only [go_sem, -List.reduceReplicate, ↓L_gdZ_tt, ↓L_gdZ_tf, ↓L_gdZ_ft, ↓L_gdZ_ff, ↓T_and, ↓T_imp, ↓T_all]; try simp only [top_out])
  generalize hl' : l.take 20 = l' at *
  have hB : ∀ (X : Blk) (L : List Blk), BAt (M ++ X :: Blk.row (bS l') 5 :: L) (M.length + 1) 0 l' := fun X L => BAt.row (z := []) (ty := 5) (by rw [get_app, List.append_nil]; rfl)
  have hne : M.length + 2 ≠ M.length + 1 := by omega
  refine get8_ok (M.length + 2) (M.length + 1) l'.length l' 0 0 _ _ (by rw [get_app]; rfl) (hB _ _) hne (by omega) (by omega) (by omega) ?_
  (refine top_in ?_; simp -implicitDefEqProofs only [go_sem, -List.reduceReplicate, ↓L_gdZ_tt, ↓L_gdZ_tf, ↓L_gdZ_ft, ↓L_gdZ_ff, ↓T_and, ↓T_imp, ↓T_all]; try simp only [top_out])
  generalize e1 : rerr l'.length 0 0 1 = r1
  generalize e2 : rat l'.length 0 0 1 = a1
  have ha1 : a1 ≤ l'.length := e2 ▸ rat_le (by omega)
  refine zeros_ok (M.length + 2) (M.length + 1) l'.length l' a1 r1 3 _ _ (by rw [get_app]; rfl) (hB _ _) hne ha1 (by omega) (by omega) (by omega) (by omega) (fun a2 r2 ha2 hz hz2 => ?_)
  (refine top_in ?_; simp -implicitDefEqProofs only [go_sem, -List.reduceReplicate, ↓L_gdZ_tt, ↓L_gdZ_tf, ↓L_gdZ_ft, ↓L_gdZ_ff, ↓T_and, ↓T_imp, ↓T_all]; try simp only [top_out])
  refine get32_ok (M.length + 2) (M.length + 1) l'.length l' a2 r2 _ _ (by rw [get_app]; rfl) (hB _ _) hne ha2 (by omega) (by omega) ?_
  (refine top_in ?_; simp -implicitDefEqProofs only [go_sem, -List.reduceReplicate, ↓L_gdZ_tt, ↓L_gdZ_tf, ↓L_gdZ_ft, ↓L_gdZ_ff, ↓T_and, ↓T_imp, ↓T_all]; try simp only [top_out])
  generalize e3 : rerr l'.length a2 r2 4 = r3
  generalize e4 : rat l'.length a2 r2 4 = a3
  have ha3 : a3 ≤ l'.length := e4 ▸ rat_le ha2
  refine get32_ok (M.length + 2) (M.length + 1) l'.length l' a3 r3 _ _ (by rw [get_app]; rfl) (hB _ _) hne ha3 (by omega) (by omega) ?_
  (refine top_in ?_; simp -implicitDefEqProofs only [go_sem, -List.reduceReplicate, ↓L_gdZ_tt, ↓L_gdZ_tf, ↓L_gdZ_ft, ↓L_gdZ_ff, ↓T_and, ↓T_imp, ↓T_all]; try simp only [top_out])
  generalize e5 : rerr l'.length a3 r3 4 = r4
  generalize e6 : rat l'.length a3 r3 4 = a4
  have ha4 : a4 ≤ l'.length := e6 ▸ rat_le ha3
  refine get64_ok (M.length + 2) (M.length + 1) l'.length l' a4 r4 _ _ (by rw [get_app]; rfl) (hB _ _) hne ha4 (by omega) (by omega) ?_
  (refine top_in ?_; simp -implicitDefEqProofs only [go_sem, -List.reduceReplicate, ↓L_gdZ_tt, ↓L_gdZ_tf, ↓L_gdZ_ft, ↓L_gdZ_ff, ↓T_and, ↓T_imp, ↓T_all]; try simp only [top_out])
  generalize e7 : rerr l'.length a4 r4 8 = r5
  generalize e8 : rat l'.length a4 r4 8 = a5
  refine err_ok (M.length + 2) (M.length + 1) l'.length l'.length a5 r5 _ _ (by rw [get_app]; rfl) ?_
  (refine top_in ?_; simp -implicitDefEqProofs only [go_sem, -List.reduceReplicate, ↓L_gdZ_tt, ↓L_gdZ_tf, ↓L_gdZ_ft, ↓L_gdZ_ff, ↓T_and, ↓T_imp, ↓T_all]; try simp only [top_out])
  have sub : ∀ a k, a + k ≤ 20 → (l'.drop a).take k = (l.drop a).take k := fun a k h => by
    rw [← hl', List.drop_take, List.take_take, Nat.min_eq_left (by omega)]
  have facts : r5 = 0 → 20 ≤ l.length ∧ zerosB ((l.drop 1).take 3) = true ∧ a2 = 4 ∧ a3 = 8 ∧ a4 = 12 ∧ r4 = 0 ∧ r3 = 0 := by
    intro h
    obtain ⟨h4, b4⟩ := rerr_zero.1 (e7.trans h)
    obtain ⟨h3, b3⟩ := rerr_zero.1 (e5.trans h4)
    obtain ⟨h2, b2⟩ := rerr_zero.1 (e3.trans h3)
    obtain ⟨g1, g2⟩ := hz.1 h2
    have g3 : r1 = 0 := by simp [rok] at g1; exact g1.1
    have ha1' : a1 = 1 := by rw [← e2, rat_ok (e1.trans g3)]
    have ha2' := hz2 h2
    have ha3' : a3 = a2 + 4 := by rw [← e4, rat_ok (e3.trans h3)]
    have ha4' : a4 = a3 + 4 := by rw [← e6, rat_ok (e5.trans h4)]
    have hlen : l'.length = min 20 l.length := by rw [← hl']; simp
    rw [ha1', sub 1 3 (by omega)] at g2
    exact ⟨by omega, g2, by omega, by omega, by omega, h4, h3⟩
  have back : 20 ≤ l.length → zerosB ((l.drop 1).take 3) = true → r5 = 0 := by
    intro h20 hzz
    have hlen : l'.length = 20 := by rw [← hl']; simp; omega
    have g1 : r1 = 0 := e1 ▸ rerr_zero.2 ⟨rfl, by omega⟩
    have ha1' : a1 = 1 := by rw [← e2, rat_ok (e1.trans g1)]
    have h2 : r2 = 0 := hz.2 ⟨by simp [rok, g1]; omega, by rw [ha1', sub 1 3 (by omega)]; exact hzz⟩
    have ha2' := hz2 h2
    have h3 : r3 = 0 := e3 ▸ rerr_zero.2 ⟨h2, by omega⟩
    have ha3' : a3 = a2 + 4 := by rw [← e4, rat_ok (e3.trans h3)]
    have h4 : r4 = 0 := e5 ▸ rerr_zero.2 ⟨h3, by omega⟩
    have ha4' : a4 = a3 + 4 := by rw [← e6, rat_ok (e5.trans h4)]
    exact e7 ▸ rerr_zero.2 ⟨h4, by omega⟩
  refine ⟨fun h => ?_, fun h => dropC_append hM rfl (h0 ?_)⟩
  · have hr : r5 = 0 := by simpa using h
    obtain ⟨f1, f2, f3, f4, f5, f6, f7⟩ := facts hr
    obtain ⟨_, b4⟩ := rerr_zero.1 (e7.trans hr)
    obtain ⟨_, b3⟩ := rerr_zero.1 (e5.trans f6)
    obtain ⟨k2, b2⟩ := rerr_zero.1 (e3.trans f7)
    have g1 : r1 = 0 := by have := (hz.1 k2).1; simp [rok] at this; exact this.1
    have v0 : (((getV l' 0 0 1).setWidth 8).toNat : Int) = hT l := by
      rw [getV_ok (e1.trans g1), sub 0 1 (by omega), hT]
      obtain ⟨x, r, rfl⟩ := List.exists_cons_of_length_pos (by omega : 0 < l.length)
      simp [numB]
    have v1 : (((getV l' a2 r2 4).setWidth 32).toNat : Int) = hL l := by rw [getV_ok (e3.trans f7), f3, sub 4 4 (by omega), hL]
    have v2 : (((getV l' a3 r3 4).setWidth 32).toNat : Int) = hG l := by rw [getV_ok (e5.trans f6), f4, sub 8 4 (by omega), hG]
    have v3 : getV l' a4 r4 8 = hC l := by rw [getV_ok (e7.trans hr), f5, sub 12 8 (by omega), hC]
    simp only [v0, v1, v2, v3, List.take_succ_cons, List.take_zero]
    refine isHead_ok (hT l) (hL l) (hG l) (hC l) _ _ ?_
    (refine top_in ?_; simp -implicitDefEqProofs only [go_sem, -List.reduceReplicate, ↓L_gdZ_tt, ↓L_gdZ_tf, ↓L_gdZ_ft, ↓L_gdZ_ff, ↓T_and, ↓T_imp, ↓T_all]; try simp only [top_out])
    have part0 : (headB (hT l) (hL l) (hG l) (hC l) = false ∨ fitsB (hT l) ((l.length : Int) - 36) = false) → partB l = false := by
      intro h
      unfold partB
      rcases h with h | h <;> rw [h] <;> simp
    refine ⟨fun h => ?_, fun h => dropC_append hM rfl (h0 (part0 (.inl (by simpa using h))))⟩
    have hh : headB (hT l) (hL l) (hG l) (hC l) = true := by simpa using h
    rw [w64 (x := (l.length : Int) - 20) (by omega) (by omega), w64 (x := (l.length : Int) - 20 - 16) (by omega) (by omega), show (l.length : Int) - 20 - 16 = (l.length : Int) - 36 by omega]
    refine fits_ok _ _ _ _ ?_
    (refine top_in ?_; simp -implicitDefEqProofs only [go_sem, -List.reduceReplicate, ↓L_gdZ_tt, ↓L_gdZ_tf, ↓L_gdZ_ft, ↓L_gdZ_ff, ↓T_and, ↓T_imp, ↓T_all]; try simp only [top_out])
    refine ⟨fun h => dropC_append hM rfl (h0 (part0 (.inr (by simpa using h)))), fun h => ?_⟩
    have hf : fitsB (hT l) ((l.length : Int) - 36) = true := by simpa using h
    have h36 : 21 ≤ l.length := by
      unfold fitsB at hf
      split at hf <;> simp at hf <;> omega
    have c0 : (l.length = 20) = False := by simp; omega
    refine draw_rule tabOK (by kernel_rfl : _) (.p 0 (.p 1 (.p 2 (.p 3 (.p 4 (.p 5 (.p 6 (.p 7 (.p 8 (.e 9 [4, 6, 7] (.p 10 (.e 11 [] .nil .no)) .no)))))))))) (by kernel_rfl) (by kernel_rfl) ?_
    (refine top_in ?_; simp -implicitDefEqProofs only [go_sem, -List.reduceReplicate, ↓L_gdZ_tt, ↓L_gdZ_tf, ↓L_gdZ_ft, ↓L_gdZ_ff, ↓T_and, ↓T_imp, ↓T_all, c0]; try simp only [top_out])
    refine ⟨by omega, by omega, by omega, by omega, by omega, by omega, by omega, ?_⟩
    have part1 : partB l = true := by
      unfold partB; rw [hh, hf, f2]; simp; omega
    have hn := ha.lt
    refine dropC_append hM (by simp [SV.lt, ltL, hn]) (h1 part1)
  · cases h5 : partB l with
    | false => rfl
    | true =>
      exfalso
      simp only [partB, Bool.and_eq_true, decide_eq_true_eq] at h5
      have := back h5.1.1.1 h5.1.1.2
      simp [this] at h
theorem getHead_ok (n off cap : Nat) (l : List (BitVec 8)) (M : List Blk) (K : SV → List Blk → Prop) (ha : BAt M n off l) (hl : l.length ≤ 140737488355000) (hcap : l.length ≤ cap)
    (h1 : partB l = true → K (.tup [hdS (hT l) (hL l) (hG l) (hC l), .i .i64 0]) M) (h0 : partB l = false → K (.tup [hdS 0 0 0 0#64, .i .i64 90]) M) :
    callVC Tryz.prog 20 [.sl n off l.length cap] M K := by
  refine fn_rule tabOK Tryz.func20 rfl Tryz.call20 (by kernel_rfl) (fun hM => ?_)
  (refine top_in ?_; simp -implicitDefEqProofs only [Tryz.ntmps20, Tryz.results20, go_sem, -List.reduceReplicate, ↓L_gdZ_tt, ↓L_gdZ_tf, ↓L_gdZ_ft, ↓L_gdZ_ff, ↓T_and, ↓T_imp, ↓T_all]; try simp only [top_out])
  have hn := ha.lt
  refine apart_ok n off cap l _ _ ha.app hl hcap (fun h => ?_) (fun h => ?_)
  · (refine top_in ?_; simp -implicitDefEqProofs only [go_sem, -List.reduceReplicate, ↓L_gdZ_tt, ↓L_gdZ_tf, ↓L_gdZ_ft, ↓L_gdZ_ff, ↓T_and, ↓T_imp, ↓T_all, List.take_succ_cons, List.take_zero]; try simp only [top_out])
    exact dropC_append hM rfl (h1 h)
  · (refine top_in ?_; simp -implicitDefEqProofs only [go_sem, -List.reduceReplicate, ↓L_gdZ_tt, ↓L_gdZ_tf, ↓L_gdZ_ft, ↓L_gdZ_ff, ↓T_and, ↓T_imp, ↓T_all]; try simp only [top_out])
    exact dropC_append hM rfl (h0 h)
theorem numB_bit : ∀ (n : Nat) (l : List (BitVec 8)), l.length = n → ∀ i, i < 64 → (numB l).getLsbD i = (decide (i / 8 < n) && (l.getD (n - 1 - i / 8) 0#8).getLsbD (i % 8))
  | 0, l, hl, i, _ => by
    obtain rfl := List.length_eq_zero_iff.1 hl
    simp [numB]
  | n + 1, l, hl, i, hi => by
    have ht : l.take (n + 1) = l := List.take_of_length_le (by omega)
    have hs : numB l = numB (l.take n) <<< 8 ||| (l.getD n 0#8).setWidth 64 := by rw [← numB_take (by omega), ht]
    rw [hs, BitVec.getLsbD_or, BitVec.getLsbD_shiftLeft, BitVec.getLsbD_setWidth]
    by_cases h8 : i < 8
    · have e0 : i / 8 = 0 := by omega
      have e1 : i % 8 = i := by omega
      simp [h8, hi, e0, e1]
    · have ih := numB_bit n (l.take n) (by simp; omega) (i - 8) (by omega)
      rw [ih]
      have e0 : (i - 8) / 8 = i / 8 - 1 := by omega
      have e1 : (i - 8) % 8 = i % 8 := by omega
      have e2 : (l.getD n 0#8).getLsbD i = false := BitVec.getLsbD_of_ge _ _ (by omega)
      have e3 : n - 1 - (i / 8 - 1) = n + 1 - 1 - i / 8 := by omega
      have e4 : (decide (i / 8 - 1 < n)) = decide (i / 8 < n + 1) := by rw [decide_eq_decide]; omega
      rw [e0, e1, e2, e3, e4]
      by_cases h9 : i / 8 < n + 1
      · have e5 : (l.take n).getD (n + 1 - 1 - i / 8) 0#8 = l.getD (n + 1 - 1 - i / 8) 0#8 := by
          rw [List.getD_eq_getElem?_getD, List.getElem?_take_of_lt (by omega), List.getD_eq_getElem?_getD]
        rw [e5]
        simp [h8, hi, h9]
      · simp [h9]
theorem beL_numB {n : Nat} (hn : n ≤ 8) {b : List (BitVec 8)} (hb : b.length = n) : beL n (numB b) = b := by
  symm
  refine gl_eq hb 0#8 (fun j hj => ?_)
  apply BitVec.eq_of_getLsbD_eq
  intro i hi
  rw [BitVec.getLsbD_setWidth, BitVec.getLsbD_ushiftRight, numB_bit n b hb _ (by omega)]
  have e0 : (8 * (n - 1 - j) + i) / 8 = n - 1 - j := by omega
  have e1 : (8 * (n - 1 - j) + i) % 8 = i := by omega
  have e2 : n - 1 - (n - 1 - j) = j := by omega
  rw [e0, e1, e2]
  simp [hi]; omega
theorem numB_32 {b : List (BitVec 8)} (hb : b.length = 4) : ((numB b).setWidth 32).setWidth 64 = numB b := by
  apply BitVec.eq_of_getLsbD_eq
  intro i hi
  rw [BitVec.getLsbD_setWidth, BitVec.getLsbD_setWidth, numB_bit 4 b hb i hi]
  by_cases h : i < 32
  · simp [h, hi]
  · have : ¬ (i / 8 < 4) := by omega
    simp [h, this]
theorem nf {b : Bool} (h : (!b) = false) : b = true := by cases b; cases h; rfl
theorem nt {b : Bool} (h : (!b) = true) : b = false := by cases b; rfl; cases h
theorem headL_of {l : List (BitVec 8)} (h : 20 ≤ l.length) : headL (hT l) (hL l) (hG l) (hC l) = l.take 20 ↔ zerosB ((l.drop 1).take 3) = true := by
  have b4 : ((l.drop 4).take 4).length = 4 := by simp; omega
  have b8 : ((l.drop 8).take 4).length = 4 := by simp; omega
  have bc : ((l.drop 12).take 8).length = 8 := by simp; omega
  have conv : ∀ x : BitVec 32, BitVec.ofInt 64 (x.toNat : Int) = x.setWidth 64 := fun x => by
    rw [BitVec.ofInt_natCast]
    apply BitVec.eq_of_toNat_eq
    rw [BitVec.toNat_ofNat, BitVec.toNat_setWidth]
  have e1 : beL 4 (BitVec.ofInt 64 (hL l)) = (l.drop 4).take 4 := by rw [hL, conv, numB_32 b4, beL_numB (by omega) b4]
  have e2 : beL 4 (BitVec.ofInt 64 (hG l)) = (l.drop 8).take 4 := by rw [hG, conv, numB_32 b8, beL_numB (by omega) b8]
  have e3 : beL 8 (hC l) = (l.drop 12).take 8 := by rw [hC, beL_numB (by omega) bc]
  have e0 : BitVec.ofInt 8 (hT l) = l.getD 0 0#8 := by
    rw [hT, BitVec.ofInt_natCast]; simp
  obtain ⟨x, l, rfl⟩ := List.exists_cons_of_length_pos (by omega : 0 < l.length)
  obtain ⟨x1, l, rfl⟩ := List.exists_cons_of_length_pos (by simp at h; omega : 0 < l.length)
  obtain ⟨x2, l, rfl⟩ := List.exists_cons_of_length_pos (by simp at h; omega : 0 < l.length)
  obtain ⟨x3, l, rfl⟩ := List.exists_cons_of_length_pos (by simp at h; omega : 0 < l.length)
  unfold headL
  rw [e0, e1, e2, e3]
  have e5 : ((l.take 4) ++ ((l.drop 4).take 4 ++ (l.drop 8).take 8)) = l.take 16 := by
    have a1 : l.take 8 = l.take 4 ++ (l.drop 4).take 4 := by rw [← List.take_add]
    have a2 : l.take 16 = l.take 8 ++ (l.drop 8).take 8 := by rw [← List.take_add]
    rw [a2, a1, List.append_assoc]
  simp only [List.getD_cons_zero, List.drop_succ_cons, List.drop_zero, List.cons_append, List.nil_append, List.append_assoc, List.take_succ_cons, e5, List.cons.injEq, true_and, and_true, zerosB, List.all_cons, List.take_zero, List.all_nil, Bool.and_true, Bool.and_eq_true, beq_iff_eq]
  constructor
  · rintro ⟨rfl, rfl, rfl⟩; exact ⟨rfl, rfl, rfl⟩
  · rintro ⟨rfl, rfl, rfl⟩; exact ⟨rfl, rfl, rfl⟩
def wantL : List (BitVec 8) := [3#8, 0#8, 0#8, 0#8, 0#8, 0#8, 0#8, 7#8, 0#8, 0#8, 0#8, 1#8, 0#8, 0#8, 0#8, 0#8, 0#8, 0#8, 1#8, 2#8]
def wantN : List (BitVec 8) := [128#8, 0#8, 0#8, 1#8, 0#8, 0#8, 0#8, 0#8, 0#8, 0#8, 1#8, 2#8]
theorem want_head : headL 3 7 1 258#64 = wantL := by decide +kernel
theorem want_nonce : nonceL 1 1 258#64 = wantN := by decide +kernel
theorem want_headB : headB 3 7 1 258#64 = true := by decide +kernel
theorem want_nonceB : nonceB 1 1 258#64 = true := by decide +kernel
theorem want_part : partB (wantL ++ List.replicate 25 0#8) = true := by decide +kernel
theorem want_T : hT (wantL ++ List.replicate 25 0#8) = 3 := by decide +kernel
theorem want_L : hL (wantL ++ List.replicate 25 0#8) = 7 := by decide +kernel
theorem want_G : hG (wantL ++ List.replicate 25 0#8) = 1 := by decide +kernel
theorem want_C : hC (wantL ++ List.replicate 25 0#8) = 258#64 := by decide +kernel
set_option maxHeartbeats 1000000 in
theorem pfirst_ok (M : List Blk) (K : SV → List Blk → Prop) (hK : K (.b true) M) : callVC Tryz.prog 4 [] M K := by
  refine fn_rule tabOK Tryz.func4 rfl Tryz.call4 (by kernel_rfl) (fun hM => ?_)
  (refine top_in ?_; simp -implicitDefEqProofs only [Tryz.ntmps4, Tryz.results4, go_sem, -List.reduceReplicate, ↓L_gdZ_tt, ↓L_gdZ_tf, ↓L_gdZ_ft, ↓L_gdZ_ff, ↓T_and, ↓T_imp, ↓T_all]; try simp only [top_out])
  refine putHead_ok 3 7 1 258#64 _ _ (fun _ z ty => ?_) (fun h => by rw [want_headB] at h; cases h)
  rw [want_head]
  (refine top_in ?_; simp -implicitDefEqProofs only [go_sem, -List.reduceReplicate, ↓L_gdZ_tt, ↓L_gdZ_tf, ↓L_gdZ_ft, ↓L_gdZ_ff, ↓T_and, ↓T_imp, ↓T_all]; try simp only [top_out])
  refine ⟨by decide, ?_⟩
  refine same_ok2 (M.length + 1) 0 _ (M.length + 2) 0 _ 20 20 wantL wantL _ _ (BAt.row (z := z) (ty := ty) (by rw [get_app]; rfl)) (BAt.row (z := []) (ty := 5) (by rw [get_app]; rfl)) (by decide) (by decide) rfl rfl ?_
  rw [show (wantL == wantL) = true from by decide]
  (refine top_in ?_; simp -implicitDefEqProofs only [go_sem, -List.reduceReplicate, ↓L_gdZ_tt, ↓L_gdZ_tf, ↓L_gdZ_ft, ↓L_gdZ_ff, ↓T_and, ↓T_imp, ↓T_all]; try simp only [top_out])
  refine nonce_ok 1 1 258#64 _ _ (fun _ z2 ty2 => ?_) (fun h => by rw [want_nonceB] at h; cases h)
  rw [want_nonce]
  (refine top_in ?_; simp -implicitDefEqProofs only [go_sem, -List.reduceReplicate, ↓L_gdZ_tt, ↓L_gdZ_tf, ↓L_gdZ_ft, ↓L_gdZ_ff, ↓T_and, ↓T_imp, ↓T_all]; try simp only [top_out])
  refine ⟨by decide, ?_⟩
  refine same_ok2 (M.length + 3) 0 _ (M.length + 4) 0 _ 12 12 wantN wantN _ _ (BAt.row (z := z2) (ty := ty2) (by rw [get_app]; rfl)) (BAt.row (z := []) (ty := 5) (by rw [get_app]; rfl)) (by decide) (by decide) rfl rfl ?_
  rw [show (wantN == wantN) = true from by decide]
  (refine top_in ?_; simp -implicitDefEqProofs only [go_sem, -List.reduceReplicate, ↓L_gdZ_tt, ↓L_gdZ_tf, ↓L_gdZ_ft, ↓L_gdZ_ff, ↓T_and, ↓T_imp, ↓T_all]; try simp only [top_out])
  refine app8z (tstr := 9) (M.length + 2) wantL [] 25 5 rfl rfl rfl rfl (by rw [get_app]; rfl) rfl rfl (by decide) (fun z3 ty3 => ?_)
  (refine top_in ?_; simp -implicitDefEqProofs only [go_sem, -List.reduceReplicate, ↓L_gdZ_tt, ↓L_gdZ_tf, ↓L_gdZ_ft, ↓L_gdZ_ff, ↓T_and, ↓T_imp, ↓T_all]; try simp only [top_out])
  refine getHead_ok (M.length + 5) 0 _ (wantL ++ List.replicate 25 0#8) _ _ (BAt.row (z := z3) (ty := ty3) (by rw [get_app]; simp)) (by decide) (by simp [wantL]; omega) (fun _ => ?_) (fun h => by rw [want_part] at h; cases h)
  rw [want_T, want_L, want_G, want_C]
  unfold hdS
  (refine top_in ?_; simp -implicitDefEqProofs only [go_sem, -List.reduceReplicate, ↓L_gdZ_tt, ↓L_gdZ_tf, ↓L_gdZ_ft, ↓L_gdZ_ff, ↓T_and, ↓T_imp, ↓T_all]; try simp only [top_out])
  refine sameHead_ok 3 7 1 258#64 3 7 1 258#64 _ _ ?_
  rw [show sameHB 3 7 1 258#64 3 7 1 258#64 = true from by decide]
  (refine top_in ?_; simp -implicitDefEqProofs only [go_sem, -List.reduceReplicate, ↓L_gdZ_tt, ↓L_gdZ_tf, ↓L_gdZ_ft, ↓L_gdZ_ff, ↓T_and, ↓T_imp, ↓T_all]; try simp only [top_out])
  refine num_ok _ _ _ ?_
  (refine top_in ?_; simp -implicitDefEqProofs only [go_sem, -List.reduceReplicate, ↓L_gdZ_tt, ↓L_gdZ_tf, ↓L_gdZ_ft, ↓L_gdZ_ff, ↓T_and, ↓T_imp, ↓T_all]; try simp only [top_out])
  refine num_ok _ _ _ ?_
  (refine top_in ?_; simp -implicitDefEqProofs only [go_sem, -List.reduceReplicate, ↓L_gdZ_tt, ↓L_gdZ_tf, ↓L_gdZ_ft, ↓L_gdZ_ff, ↓T_and, ↓T_imp, ↓T_all]; try simp only [top_out])
  exact dropC_append hM rfl hK
end Go.Proofs.YtdkdbeamimkljaaGreatDoor.Eng
