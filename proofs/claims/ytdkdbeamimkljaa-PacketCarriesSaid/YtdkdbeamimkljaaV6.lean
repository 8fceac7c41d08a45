/- The document's payload of any bytes; payloads held against one another. -/
import Derived.Test.YtdkdbeamimkljaaV5
namespace Go.Proofs.Ytdkdbeamimkljaa.Eng
open Go Go.RowKit
set_option linter.unusedSimpArgs false
set_option linter.unusedVariables false

set_option maxHeartbeats 1000000 in
theorem refGetPayload_ok (n off cap : Nat) (l : List (BitVec 8)) (M : List Blk) (K : SV → List Blk → Prop) (ha : BAt M n off l) (hl : l.length ≤ 140737488355000) (hcap : l.length ≤ cap)
    (h1 : getB l = true → ∀ z ty, K (.tup [gP l (.sl M.length 0 (gB l).length ((gB l).length + z.length)), .i .i64 0]) (M ++ [.row (bS (gB l ++ z)) ty]))
    (h0 : getB l = false → K (.tup [plS 0 0#64 0#64 0 0#64 0#64 .sn, .i .i64 90]) M) :
    callVC Try.prog 25 [.sl n off l.length cap] M K := by
  have j6 : ∀ h : l.getD 0 0#8 = 6#8, gN l = 16 := fun h => by rw [gN, h]; rfl
  have j4 : ∀ h : l.getD 0 0#8 = 4#8, gN l = 4 := fun h => by rw [gN, h]; rfl
  have jl : ∀ h : l.getD 0 0#8 ≠ 0#8, 1 ≤ l.length := fun h => by cases l; exact absurd rfl h; simp
  have x0 : 1 ≤ l.length → Eng.cell8 (cellsB M[n]?) off = l.getD 0 0#8 := fun h => ha.cell8 (j := 0) (by omega)
  have x1 : 1 ≤ l.length → Eng.is8 (cellsB M[n]?) off = true := fun h => ha.is8 (j := 0) (by omega)
  have x2 : 1 ≤ l.length → off + 1 ≤ (cellsB M[n]?).length := fun h => ha.le (j := 1) (by omega)
  by_cases k4 : l.getD 0 0#8 = 4#8
  · have hN := j4 k4
    have hl1 := jl (by rw [k4]; decide)
    have hp : (0 < (l.length : Int)) = True := by simp; omega
    have hc4 : (Eng.cell8 (cellsB M[n]?) off == 4#8) = true := by rw [x0 hl1, k4]; rfl
    have hc6 : (Eng.cell8 (cellsB M[n]?) off == 6#8) = false := by rw [x0 hl1, k4]; rfl
    have w8 : IntKind.i64.wrap 8 = 8 := rfl
    have w9 : IntKind.i64.wrap 9 = 9 := rfl
    have w5 : IntKind.i64.wrap 5 = 5 := rfl
    refine fn_rule tabOK Try.func25 rfl Try.call25 (by kernel_rfl) (fun hM => ?_)
    (refine top_in ?_; simp -implicitDefEqProofs only [Try.ntmps25, Try.results25, go_sem, -List.reduceReplicate, ↓L_gdZ_tt, ↓L_gdZ_tf, ↓L_gdZ_ft, ↓L_gdZ_ff, ↓T_and, ↓T_imp, ↓T_all, Nat.reduceBEq, Nat.reduceAdd, Nat.reduceSub, Nat.reduceMul, Nat.reduceLT, Nat.reduceLeDiff, Nat.reduceEqDiff, Int.reduceLT, Int.reduceLE, Int.reduceAdd, Int.reduceSub, Int.reduceMul, Int.reduceNeg, Int.reduceToNat, Int.reduceEq, Int.reduceNe, reduceIte, reduceCtorEq, BitVec.reduceOfInt, BitVec.reduceToNat, get_lt ha.lt, hp, hc4, hc6, x1 hl1, w8, w9, w5]; try simp only [top_out])
    have hg0 : l.length < 9 → getB l = false := fun h => by unfold getB; rw [hN]; simp; omega
    refine ⟨x2 hl1, x2 hl1, fun _ => ⟨fun h9 => ⟨fun h12 => dropC_append hM rfl (h0 (by unfold getB; simp; omega)), fun h12 => ?_⟩, fun h9 => dropC_append hM rfl (h0 (hg0 (by omega)))⟩, fun h => absurd h (by decide)⟩
    have hg : getB l = true := by unfold getB; rw [hN]; simp; omega
    have hF : gF l = 4 := by rw [gF, k4]; rfl
    have c1 : (cap = 1) = False := by simp; omega
    have c2 : (cap = 5) = False := by simp; omega
    have hX : (gX l).length = 4 := by unfold gX; rw [hN]; simp; omega
    have hY : (gY l).length = 4 := by unfold gY; rw [hN]; simp; omega
    have hbX : BAt M n (off + 1) (gX l) := by unfold gX; rw [hN]; exact ha.sub (by omega)
    have hbY : BAt M n (off + 5) (gY l) := by unfold gY; rw [hN]; exact ha.sub (by omega)
    have hBl : (gB l).length = l.length - 9 := by unfold gB; rw [hN]; simp
    have hbB : BAt M n (if cap = 9 then off else off + 9) (gB l) := by
      unfold gB; rw [hN]
      by_cases hc : cap = 9
      · rw [if_pos hc]
        have := ha.sub (a := 0) (k := 0) (by omega)
        rw [List.drop_eq_nil_of_le (by omega : l.length ≤ 1 + 2 * 4)]; simpa using this
      · rw [if_neg hc]
        have := ha.sub (a := 9) (k := l.length - 9) (by omega)
        rwa [List.take_of_length_le (by simp)] at this
    refine ⟨by omega, ?_⟩
    have pX := refAddr_ok n (off + 1) (cap - 1) (gX l)
    rw [hX] at pX
    rw [if_neg (by omega : ¬ cap = 1)]
    refine pX _ _ hbX.app (by omega) ?_
    (refine top_in ?_; simp -implicitDefEqProofs only [go_sem, -List.reduceReplicate, ↓L_gdZ_tt, ↓L_gdZ_tf, ↓L_gdZ_ft, ↓L_gdZ_ff, ↓T_and, ↓T_imp, ↓T_all, Nat.reduceBEq, Nat.reduceAdd, Nat.reduceSub, Nat.reduceMul, Nat.reduceLT, Nat.reduceLeDiff, Nat.reduceEqDiff, Int.reduceLT, Int.reduceLE, Int.reduceAdd, Int.reduceSub, Int.reduceMul, Int.reduceNeg, Int.reduceToNat, Int.reduceEq, Int.reduceNe, reduceIte, reduceCtorEq, BitVec.reduceOfInt, BitVec.reduceToNat, adS, w8, w9, w5, c1, c2, if_true, if_false, List.cons_append, List.nil_append]; try simp only [top_out])
    refine ⟨by omega, ?_⟩
    have pY := refAddr_ok n (off + 5) (cap - 5) (gY l)
    rw [hY] at pY
    refine pY _ _ hbY.app (by omega) ?_
    (refine top_in ?_; simp -implicitDefEqProofs only [go_sem, -List.reduceReplicate, ↓L_gdZ_tt, ↓L_gdZ_tf, ↓L_gdZ_ft, ↓L_gdZ_ff, ↓T_and, ↓T_imp, ↓T_all, Nat.reduceBEq, Nat.reduceAdd, Nat.reduceSub, Nat.reduceMul, Nat.reduceLT, Nat.reduceLeDiff, Nat.reduceEqDiff, Int.reduceLT, Int.reduceLE, Int.reduceAdd, Int.reduceSub, Int.reduceMul, Int.reduceNeg, Int.reduceToNat, Int.reduceEq, Int.reduceNe, reduceIte, reduceCtorEq, BitVec.reduceOfInt, BitVec.reduceToNat, adS, w8, w9, w5, c1, c2, if_true, if_false, List.cons_append, List.nil_append]; try simp only [top_out])
    refine draw_rule tabOK (by kernel_rfl : _) (.p 0 (.p 1 (.p 2 (.p 3 (.p 4 (.p 5 (.p 6 (.e 7 [0, 1] (.p 8 (.e 9 [] (.p 10 .nil) .no)) .no)))))))) (by kernel_rfl) (by kernel_rfl) ?_
    (refine top_in ?_; simp -implicitDefEqProofs only [go_sem, -List.reduceReplicate, ↓L_gdZ_tt, ↓L_gdZ_tf, ↓L_gdZ_ft, ↓L_gdZ_ff, ↓T_and, ↓T_imp, ↓T_all, Nat.reduceBEq, Nat.reduceAdd, Nat.reduceSub, Nat.reduceMul, Nat.reduceLT, Nat.reduceLeDiff, Nat.reduceEqDiff, Int.reduceLT, Int.reduceLE, Int.reduceAdd, Int.reduceSub, Int.reduceMul, Int.reduceNeg, Int.reduceToNat, Int.reduceEq, Int.reduceNe, reduceIte, reduceCtorEq, BitVec.reduceOfInt, BitVec.reduceToNat, adS, w8, w9, w5, c1, c2, if_true, if_false, List.cons_append, List.nil_append]; try simp only [top_out])
    refine ⟨by omega, ?_⟩
    have pB := bytes_ok n (if cap = 9 then off else off + 9) (cap - 9) (gB l)
    rw [hBl] at pB
    refine pB _ _ hbB.app (by omega) (fun z ty => ?_)
    (refine top_in ?_; simp -implicitDefEqProofs only [go_sem, -List.reduceReplicate, ↓L_gdZ_tt, ↓L_gdZ_tf, ↓L_gdZ_ft, ↓L_gdZ_ff, ↓T_and, ↓T_imp, ↓T_all, Nat.reduceBEq, Nat.reduceAdd, Nat.reduceSub, Nat.reduceMul, Nat.reduceLT, Nat.reduceLeDiff, Nat.reduceEqDiff, Int.reduceLT, Int.reduceLE, Int.reduceAdd, Int.reduceSub, Int.reduceMul, Int.reduceNeg, Int.reduceToNat, Int.reduceEq, Int.reduceNe, reduceIte, reduceCtorEq, BitVec.reduceOfInt, BitVec.reduceToNat, List.cons_append, List.nil_append]; try simp only [top_out])
    have h1 := h1 hg z ty
    rw [gP, hF, hBl] at h1
    exact dropP 3 (gB l ++ z) hM rfl rfl h1
  · by_cases k6 : l.getD 0 0#8 = 6#8
    · have hN := j6 k6
      have hl1 := jl (by rw [k6]; decide)
      have hp : (0 < (l.length : Int)) = True := by simp; omega
      have hc4 : (Eng.cell8 (cellsB M[n]?) off == 4#8) = false := by rw [x0 hl1, k6]; rfl
      have hc6 : (Eng.cell8 (cellsB M[n]?) off == 6#8) = true := by rw [x0 hl1, k6]; rfl
      have w8 : IntKind.i64.wrap 32 = 32 := rfl
      have w9 : IntKind.i64.wrap 33 = 33 := rfl
      have w5 : IntKind.i64.wrap 17 = 17 := rfl
      refine fn_rule tabOK Try.func25 rfl Try.call25 (by kernel_rfl) (fun hM => ?_)
      (refine top_in ?_; simp -implicitDefEqProofs only [Try.ntmps25, Try.results25, go_sem, -List.reduceReplicate, ↓L_gdZ_tt, ↓L_gdZ_tf, ↓L_gdZ_ft, ↓L_gdZ_ff, ↓T_and, ↓T_imp, ↓T_all, Nat.reduceBEq, Nat.reduceAdd, Nat.reduceSub, Nat.reduceMul, Nat.reduceLT, Nat.reduceLeDiff, Nat.reduceEqDiff, Int.reduceLT, Int.reduceLE, Int.reduceAdd, Int.reduceSub, Int.reduceMul, Int.reduceNeg, Int.reduceToNat, Int.reduceEq, Int.reduceNe, reduceIte, reduceCtorEq, BitVec.reduceOfInt, BitVec.reduceToNat, get_lt ha.lt, hp, hc4, hc6, x1 hl1, w8, w9, w5]; try simp only [top_out])
      have hg0 : l.length < 33 → getB l = false := fun h => by unfold getB; rw [hN]; simp; omega
      refine ⟨x2 hl1, x2 hl1, fun _ => ⟨fun h9 => ⟨fun h12 => dropC_append hM rfl (h0 (by unfold getB; simp; omega)), fun h12 => ?_⟩, fun h9 => dropC_append hM rfl (h0 (hg0 (by omega)))⟩, fun h => absurd h (by decide)⟩
      have hg : getB l = true := by unfold getB; rw [hN]; simp; omega
      have hF : gF l = 6 := by rw [gF, k6]; rfl
      have c1 : (cap = 1) = False := by simp; omega
      have c2 : (cap = 17) = False := by simp; omega
      have hX : (gX l).length = 16 := by unfold gX; rw [hN]; simp; omega
      have hY : (gY l).length = 16 := by unfold gY; rw [hN]; simp; omega
      have hbX : BAt M n (off + 1) (gX l) := by unfold gX; rw [hN]; exact ha.sub (by omega)
      have hbY : BAt M n (off + 17) (gY l) := by unfold gY; rw [hN]; exact ha.sub (by omega)
      have hBl : (gB l).length = l.length - 33 := by unfold gB; rw [hN]; simp
      have hbB : BAt M n (if cap = 33 then off else off + 33) (gB l) := by
        unfold gB; rw [hN]
        by_cases hc : cap = 33
        · rw [if_pos hc]
          have := ha.sub (a := 0) (k := 0) (by omega)
          rw [List.drop_eq_nil_of_le (by omega : l.length ≤ 1 + 2 * 16)]; simpa using this
        · rw [if_neg hc]
          have := ha.sub (a := 33) (k := l.length - 33) (by omega)
          rwa [List.take_of_length_le (by simp)] at this
      refine ⟨by omega, ?_⟩
      have pX := refAddr_ok n (off + 1) (cap - 1) (gX l)
      rw [hX] at pX
      rw [if_neg (by omega : ¬ cap = 1)]
      refine pX _ _ hbX.app (by omega) ?_
      (refine top_in ?_; simp -implicitDefEqProofs only [go_sem, -List.reduceReplicate, ↓L_gdZ_tt, ↓L_gdZ_tf, ↓L_gdZ_ft, ↓L_gdZ_ff, ↓T_and, ↓T_imp, ↓T_all, Nat.reduceBEq, Nat.reduceAdd, Nat.reduceSub, Nat.reduceMul, Nat.reduceLT, Nat.reduceLeDiff, Nat.reduceEqDiff, Int.reduceLT, Int.reduceLE, Int.reduceAdd, Int.reduceSub, Int.reduceMul, Int.reduceNeg, Int.reduceToNat, Int.reduceEq, Int.reduceNe, reduceIte, reduceCtorEq, BitVec.reduceOfInt, BitVec.reduceToNat, adS, w8, w9, w5, c1, c2, if_true, if_false, List.cons_append, List.nil_append]; try simp only [top_out])
      refine ⟨by omega, ?_⟩
      have pY := refAddr_ok n (off + 17) (cap - 17) (gY l)
      rw [hY] at pY
      refine pY _ _ hbY.app (by omega) ?_
      (refine top_in ?_; simp -implicitDefEqProofs only [go_sem, -List.reduceReplicate, ↓L_gdZ_tt, ↓L_gdZ_tf, ↓L_gdZ_ft, ↓L_gdZ_ff, ↓T_and, ↓T_imp, ↓T_all, Nat.reduceBEq, Nat.reduceAdd, Nat.reduceSub, Nat.reduceMul, Nat.reduceLT, Nat.reduceLeDiff, Nat.reduceEqDiff, Int.reduceLT, Int.reduceLE, Int.reduceAdd, Int.reduceSub, Int.reduceMul, Int.reduceNeg, Int.reduceToNat, Int.reduceEq, Int.reduceNe, reduceIte, reduceCtorEq, BitVec.reduceOfInt, BitVec.reduceToNat, adS, w8, w9, w5, c1, c2, if_true, if_false, List.cons_append, List.nil_append]; try simp only [top_out])
      refine draw_rule tabOK (by kernel_rfl : _) (.p 0 (.p 1 (.p 2 (.p 3 (.p 4 (.p 5 (.p 6 (.e 7 [0, 1] (.p 8 (.e 9 [] (.p 10 .nil) .no)) .no)))))))) (by kernel_rfl) (by kernel_rfl) ?_
      (refine top_in ?_; simp -implicitDefEqProofs only [go_sem, -List.reduceReplicate, ↓L_gdZ_tt, ↓L_gdZ_tf, ↓L_gdZ_ft, ↓L_gdZ_ff, ↓T_and, ↓T_imp, ↓T_all, Nat.reduceBEq, Nat.reduceAdd, Nat.reduceSub, Nat.reduceMul, Nat.reduceLT, Nat.reduceLeDiff, Nat.reduceEqDiff, Int.reduceLT, Int.reduceLE, Int.reduceAdd, Int.reduceSub, Int.reduceMul, Int.reduceNeg, Int.reduceToNat, Int.reduceEq, Int.reduceNe, reduceIte, reduceCtorEq, BitVec.reduceOfInt, BitVec.reduceToNat, adS, w8, w9, w5, c1, c2, if_true, if_false, List.cons_append, List.nil_append]; try simp only [top_out])
      refine ⟨by omega, ?_⟩
      have pB := bytes_ok n (if cap = 33 then off else off + 33) (cap - 33) (gB l)
      rw [hBl] at pB
      refine pB _ _ hbB.app (by omega) (fun z ty => ?_)
      (refine top_in ?_; simp -implicitDefEqProofs only [go_sem, -List.reduceReplicate, ↓L_gdZ_tt, ↓L_gdZ_tf, ↓L_gdZ_ft, ↓L_gdZ_ff, ↓T_and, ↓T_imp, ↓T_all, Nat.reduceBEq, Nat.reduceAdd, Nat.reduceSub, Nat.reduceMul, Nat.reduceLT, Nat.reduceLeDiff, Nat.reduceEqDiff, Int.reduceLT, Int.reduceLE, Int.reduceAdd, Int.reduceSub, Int.reduceMul, Int.reduceNeg, Int.reduceToNat, Int.reduceEq, Int.reduceNe, reduceIte, reduceCtorEq, BitVec.reduceOfInt, BitVec.reduceToNat, List.cons_append, List.nil_append]; try simp only [top_out])
      have h1 := h1 hg z ty
      rw [gP, hF, hBl] at h1
      exact dropP 3 (gB l ++ z) hM rfl rfl h1
    · have hN : gN l = 0 := by unfold gN; rw [if_neg k4, if_neg k6]
      have hg : getB l = false := by unfold getB; rw [hN]; rfl
      by_cases hl1 : 1 ≤ l.length
      · have hp : (0 < (l.length : Int)) = True := by simp; omega
        have hc4 : (Eng.cell8 (cellsB M[n]?) off == 4#8) = false := by rw [x0 hl1]; simpa using k4
        have hc6 : (Eng.cell8 (cellsB M[n]?) off == 6#8) = false := by rw [x0 hl1]; simpa using k6
        refine fn_rule tabOK Try.func25 rfl Try.call25 (by kernel_rfl) (fun hM => ?_)
        (refine top_in ?_; simp -implicitDefEqProofs only [Try.ntmps25, Try.results25, go_sem, -List.reduceReplicate, ↓L_gdZ_tt, ↓L_gdZ_tf, ↓L_gdZ_ft, ↓L_gdZ_ff, ↓T_and, ↓T_imp, ↓T_all, Nat.reduceBEq, Nat.reduceAdd, Nat.reduceSub, Nat.reduceMul, Nat.reduceLT, Nat.reduceLeDiff, Nat.reduceEqDiff, Int.reduceLT, Int.reduceLE, Int.reduceAdd, Int.reduceSub, Int.reduceMul, Int.reduceNeg, Int.reduceToNat, Int.reduceEq, Int.reduceNe, reduceIte, reduceCtorEq, BitVec.reduceOfInt, BitVec.reduceToNat, get_lt ha.lt, hp, hc4, hc6, x1 hl1]; try simp only [top_out])
        exact ⟨x2 hl1, x2 hl1, dropC_append hM rfl (h0 hg)⟩
      · have hp : (0 < (l.length : Int)) = False := by simp; cases l; rfl; simp at hl1
        refine fn_rule tabOK Try.func25 rfl Try.call25 (by kernel_rfl) (fun hM => ?_)
        (refine top_in ?_; simp -implicitDefEqProofs only [Try.ntmps25, Try.results25, go_sem, -List.reduceReplicate, ↓L_gdZ_tt, ↓L_gdZ_tf, ↓L_gdZ_ft, ↓L_gdZ_ff, ↓T_and, ↓T_imp, ↓T_all, Nat.reduceBEq, Nat.reduceAdd, Nat.reduceSub, Nat.reduceMul, Nat.reduceLT, Nat.reduceLeDiff, Nat.reduceEqDiff, Int.reduceLT, Int.reduceLE, Int.reduceAdd, Int.reduceSub, Int.reduceMul, Int.reduceNeg, Int.reduceToNat, Int.reduceEq, Int.reduceNe, reduceIte, reduceCtorEq, BitVec.reduceOfInt, BitVec.reduceToNat, get_lt ha.lt, hp]; try simp only [top_out])
        exact dropC_append hM rfl (h0 hg)

theorem same_nil (M : List Blk) (K : SV → List Blk → Prop) (hK : K (.b true) M) : callVC Try.prog 13 [.sn, .sn] M K := by
  refine callVC_drop (callVC_names (fun hM => ?_) Try.call13)
  refine call_nil (a := []) 0 ?_
  refine call_nil (a := [.sl M.length 0 0 0]) (b := []) 0 ?_
  have hb : ∀ L : List Blk, BAt (M ++ Blk.row [] 0 :: L) M.length 0 [] := fun L => BAt.row (z := []) (ty := 0) (by rw [get_app0]; rfl)
  refine same_ok2 M.length 0 0 (M ++ [Blk.row [] 0]).length 0 0 0 0 [] [] _ _ (hb []).app (BAt.row (z := []) (ty := 0) (by rw [get_app0]; rfl)) (by simp) (by simp) rfl rfl ?_
  rw [List.append_assoc]
  exact dropC_append hM rfl hK
def samePB (sf : Int) (sh sl : BitVec 64) (df : Int) (dh dl : BitVec 64) (sf' : Int) (sh' sl' : BitVec 64) (df' : Int) (dh' dl' : BitVec 64) : Bool := (sf == sf' && sh == sh' && sl == sl') && (df == df' && dh == dh' && dl == dl')
theorem samePayload_ok (sf : Int) (sh sl : BitVec 64) (df : Int) (dh dl : BitVec 64) (sf' : Int) (sh' sl' : BitVec 64) (df' : Int) (dh' dl' : BitVec 64) (n off cap n' off' cap' la lb : Nat) (a b : List (BitVec 8)) (M : List Blk) (K : SV → List Blk → Prop)
    (ha : BAt M n off a) (hb : BAt M n' off' b) (hla : a.length ≤ 140737488355328) (hlb : b.length ≤ 140737488355328) (ea : la = a.length) (eb : lb = b.length) (hK : K (.b (samePB sf sh sl df dh dl sf' sh' sl' df' dh' dl' && a == b)) M) :
    callVC Try.prog 26 [plS sf sh sl df dh dl (.sl n off la cap), plS sf' sh' sl' df' dh' dl' (.sl n' off' lb cap')] M K := by
  unfold plS
  refine fn_rule tabOK Try.func26 rfl Try.call26 (by kernel_rfl) (fun hM => ?_)
  (refine top_in ?_; simp -implicitDefEqProofs only [Try.ntmps26, Try.results26, go_sem, -List.reduceReplicate, ↓L_gdZ_tt, ↓L_gdZ_tf, ↓L_gdZ_ft, ↓L_gdZ_ff, ↓T_and, ↓T_imp, ↓T_all, Nat.reduceBEq, Nat.reduceAdd, Nat.reduceSub, Nat.reduceMul, Nat.reduceLT, Nat.reduceLeDiff, Nat.reduceEqDiff, Int.reduceLT, Int.reduceLE, Int.reduceAdd, Int.reduceSub, Int.reduceMul, Int.reduceNeg, Int.reduceToNat, Int.reduceEq, Int.reduceNe, reduceIte, reduceCtorEq, BitVec.reduceOfInt, BitVec.reduceToNat, List.take_succ_cons, List.take_zero, List.drop_succ_cons, List.drop_zero]; try simp only [top_out])
  refine sameAddr_ok _ _ _ _ _ _ _ _ ?_
  (refine top_in ?_; simp -implicitDefEqProofs only [go_sem, -List.reduceReplicate, ↓L_gdZ_tt, ↓L_gdZ_tf, ↓L_gdZ_ft, ↓L_gdZ_ff, ↓T_and, ↓T_imp, ↓T_all, Nat.reduceBEq, Nat.reduceAdd, Nat.reduceSub, Nat.reduceMul, Nat.reduceLT, Nat.reduceLeDiff, Nat.reduceEqDiff, Int.reduceLT, Int.reduceLE, Int.reduceAdd, Int.reduceSub, Int.reduceMul, Int.reduceNeg, Int.reduceToNat, Int.reduceEq, Int.reduceNe, reduceIte, reduceCtorEq, BitVec.reduceOfInt, BitVec.reduceToNat, List.take_succ_cons, List.take_zero, List.drop_succ_cons, List.drop_zero]; try simp only [top_out])
  refine sameAddr_ok _ _ _ _ _ _ _ _ ?_
  (refine top_in ?_; simp -implicitDefEqProofs only [go_sem, -List.reduceReplicate, ↓L_gdZ_tt, ↓L_gdZ_tf, ↓L_gdZ_ft, ↓L_gdZ_ff, ↓T_and, ↓T_imp, ↓T_all, Nat.reduceBEq, Nat.reduceAdd, Nat.reduceSub, Nat.reduceMul, Nat.reduceLT, Nat.reduceLeDiff, Nat.reduceEqDiff, Int.reduceLT, Int.reduceLE, Int.reduceAdd, Int.reduceSub, Int.reduceMul, Int.reduceNeg, Int.reduceToNat, Int.reduceEq, Int.reduceNe, reduceIte, reduceCtorEq, BitVec.reduceOfInt, BitVec.reduceToNat, List.take_succ_cons, List.take_zero, List.drop_succ_cons, List.drop_zero]; try simp only [top_out])
  refine same_ok2 n off cap n' off' cap' la lb a b _ _ ha.app hb.app hla hlb ea eb ?_
  (refine top_in ?_; simp -implicitDefEqProofs only [go_sem, -List.reduceReplicate, ↓L_gdZ_tt, ↓L_gdZ_tf, ↓L_gdZ_ft, ↓L_gdZ_ff, ↓T_and, ↓T_imp, ↓T_all, Nat.reduceBEq, Nat.reduceAdd, Nat.reduceSub, Nat.reduceMul, Nat.reduceLT, Nat.reduceLeDiff, Nat.reduceEqDiff, Int.reduceLT, Int.reduceLE, Int.reduceAdd, Int.reduceSub, Int.reduceMul, Int.reduceNeg, Int.reduceToNat, Int.reduceEq, Int.reduceNe, reduceIte, reduceCtorEq, BitVec.reduceOfInt, BitVec.reduceToNat]; try simp only [top_out])
  repeat' (with_reducible first | refine And.intro ?_ ?_ | intro)
  all_goals
    refine dropB hM hK ?_
    unfold samePB
    simp only [*]
    try rfl
theorem samePayload_nil (sf : Int) (sh sl : BitVec 64) (df : Int) (dh dl : BitVec 64) (M : List Blk) (K : SV → List Blk → Prop) (hK : K (.b true) M) :
    callVC Try.prog 26 [plS sf sh sl df dh dl .sn, plS sf sh sl df dh dl .sn] M K := by
  unfold plS
  refine fn_rule tabOK Try.func26 rfl Try.call26 (by kernel_rfl) (fun hM => ?_)
  (refine top_in ?_; simp -implicitDefEqProofs only [Try.ntmps26, Try.results26, go_sem, -List.reduceReplicate, ↓L_gdZ_tt, ↓L_gdZ_tf, ↓L_gdZ_ft, ↓L_gdZ_ff, ↓T_and, ↓T_imp, ↓T_all, Nat.reduceBEq, Nat.reduceAdd, Nat.reduceSub, Nat.reduceMul, Nat.reduceLT, Nat.reduceLeDiff, Nat.reduceEqDiff, Int.reduceLT, Int.reduceLE, Int.reduceAdd, Int.reduceSub, Int.reduceMul, Int.reduceNeg, Int.reduceToNat, Int.reduceEq, Int.reduceNe, reduceIte, reduceCtorEq, BitVec.reduceOfInt, BitVec.reduceToNat, List.take_succ_cons, List.take_zero, List.drop_succ_cons, List.drop_zero]; try simp only [top_out])
  refine sameAddr_ok _ _ _ _ _ _ _ _ ?_
  (refine top_in ?_; simp -implicitDefEqProofs only [go_sem, -List.reduceReplicate, ↓L_gdZ_tt, ↓L_gdZ_tf, ↓L_gdZ_ft, ↓L_gdZ_ff, ↓T_and, ↓T_imp, ↓T_all, Nat.reduceBEq, Nat.reduceAdd, Nat.reduceSub, Nat.reduceMul, Nat.reduceLT, Nat.reduceLeDiff, Nat.reduceEqDiff, Int.reduceLT, Int.reduceLE, Int.reduceAdd, Int.reduceSub, Int.reduceMul, Int.reduceNeg, Int.reduceToNat, Int.reduceEq, Int.reduceNe, reduceIte, reduceCtorEq, BitVec.reduceOfInt, BitVec.reduceToNat, List.take_succ_cons, List.take_zero, List.drop_succ_cons, List.drop_zero]; try simp only [top_out])
  refine sameAddr_ok _ _ _ _ _ _ _ _ ?_
  (refine top_in ?_; simp -implicitDefEqProofs only [go_sem, -List.reduceReplicate, ↓L_gdZ_tt, ↓L_gdZ_tf, ↓L_gdZ_ft, ↓L_gdZ_ff, ↓T_and, ↓T_imp, ↓T_all, Nat.reduceBEq, Nat.reduceAdd, Nat.reduceSub, Nat.reduceMul, Nat.reduceLT, Nat.reduceLeDiff, Nat.reduceEqDiff, Int.reduceLT, Int.reduceLE, Int.reduceAdd, Int.reduceSub, Int.reduceMul, Int.reduceNeg, Int.reduceToNat, Int.reduceEq, Int.reduceNe, reduceIte, reduceCtorEq, BitVec.reduceOfInt, BitVec.reduceToNat, List.take_succ_cons, List.take_zero, List.drop_succ_cons, List.drop_zero]; try simp only [top_out])
  refine same_nil _ _ ?_
  (refine top_in ?_; simp -implicitDefEqProofs only [go_sem, -List.reduceReplicate, ↓L_gdZ_tt, ↓L_gdZ_tf, ↓L_gdZ_ft, ↓L_gdZ_ff, ↓T_and, ↓T_imp, ↓T_all, Nat.reduceBEq, Nat.reduceAdd, Nat.reduceSub, Nat.reduceMul, Nat.reduceLT, Nat.reduceLeDiff, Nat.reduceEqDiff, Int.reduceLT, Int.reduceLE, Int.reduceAdd, Int.reduceSub, Int.reduceMul, Int.reduceNeg, Int.reduceToNat, Int.reduceEq, Int.reduceNe, reduceIte, reduceCtorEq, BitVec.reduceOfInt, BitVec.reduceToNat, beq_self_eq_true, Bool.and_self]; try simp only [top_out])
  exact dropC_append hM rfl hK
end Go.Proofs.Ytdkdbeamimkljaa.Eng
