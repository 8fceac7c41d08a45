/- Numbers and their bytes, there and back; the document's head of any bytes. -/
import Derived.Test.YtdkdbeamimkljaaU5
namespace Go.Proofs.Ytdkdbeamimkljaa.Eng
open Go Go.RowKit
set_option linter.unusedSimpArgs false
set_option linter.unusedVariables false

theorem numB_bit : ∀ (n : Nat) (l : List (BitVec 8)), l.length = n → ∀ i, i < 64 → (numB l).getLsbD i = (decide (i / 8 < n) && (l.getD (n - 1 - i / 8) 0#8).getLsbD (i % 8))
  | 0, l, hl, i, _ => by
    obtain rfl := List.length_eq_zero_iff.1 hl
    simp [numB]
  | n + 1, l, hl, i, hi => by
    have ht : l.take (n + 1) = l := List.take_of_length_le (by omega)
    have hs : numB l = numB (l.take n) <<< 8 ||| (l.getD n 0#8).setWidth 64 := by rw [← numB_take (by omega), ht]
    rw [hs, BitVec.getLsbD_or, BitVec.getLsbD_shiftLeft, BitVec.getLsbD_setWidth]
    by_cases h8 : i < 8
    · have e0 : i / 8 = 0 := by omega
      have e1 : i % 8 = i := by omega
      simp [h8, hi, e0, e1]
    · have ih := numB_bit n (l.take n) (by simp; omega) (i - 8) (by omega)
      rw [ih]
      have e0 : (i - 8) / 8 = i / 8 - 1 := by omega
      have e1 : (i - 8) % 8 = i % 8 := by omega
      have e2 : (l.getD n 0#8).getLsbD i = false := BitVec.getLsbD_of_ge _ _ (by omega)
      have e3 : n - 1 - (i / 8 - 1) = n + 1 - 1 - i / 8 := by omega
      have e4 : (decide (i / 8 - 1 < n)) = decide (i / 8 < n + 1) := by rw [decide_eq_decide]; omega
      rw [e0, e1, e2, e3, e4]
      by_cases h9 : i / 8 < n + 1
      · have e5 : (l.take n).getD (n + 1 - 1 - i / 8) 0#8 = l.getD (n + 1 - 1 - i / 8) 0#8 := by
          rw [List.getD_eq_getElem?_getD, List.getElem?_take_of_lt (by omega), List.getD_eq_getElem?_getD]
        rw [e5]
        simp [h8, hi, h9]
      · simp [h9]

theorem beL_numB {n : Nat} (hn : n ≤ 8) {b : List (BitVec 8)} (hb : b.length = n) : beL n (numB b) = b := by
  symm
  refine gl_eq hb 0#8 (fun j hj => ?_)
  apply BitVec.eq_of_getLsbD_eq
  intro i hi
  rw [BitVec.getLsbD_setWidth, BitVec.getLsbD_ushiftRight, numB_bit n b hb _ (by omega)]
  have e0 : (8 * (n - 1 - j) + i) / 8 = n - 1 - j := by omega
  have e1 : (8 * (n - 1 - j) + i) % 8 = i := by omega
  have e2 : n - 1 - (n - 1 - j) = j := by omega
  rw [e0, e1, e2]
  simp [hi]; omega

theorem numB_32 {b : List (BitVec 8)} (hb : b.length = 4) : ((numB b).setWidth 32).setWidth 64 = numB b := by
  apply BitVec.eq_of_getLsbD_eq
  intro i hi
  rw [BitVec.getLsbD_setWidth, BitVec.getLsbD_setWidth, numB_bit 4 b hb i hi]
  by_cases h : i < 32
  · simp [h, hi]
  · have : ¬ (i / 8 < 4) := by omega
    simp [h, this]
theorem numB_32n {b : List (BitVec 8)} (hb : b.length = 4) : ((numB b).setWidth 32).toNat = (numB b).toNat := by
  conv => rhs; rw [← numB_32 hb]
  rw [BitVec.toNat_setWidth 64]
  exact (Nat.mod_eq_of_lt (Nat.lt_of_lt_of_le (BitVec.isLt _) (by decide))).symm

theorem nf {b : Bool} (h : (!b) = false) : b = true := by cases b; cases h; rfl
theorem nt {b : Bool} (h : (!b) = true) : b = false := by cases b; rfl; cases h

theorem read_ok (n off cap : Nat) (l : List (BitVec 8)) (M : List Blk) (K : SV → List Blk → Prop) (ha : BAt M n off l) (hl : l.length ≤ 140737488355000) (hK : K (.u64 (numB l)) M) :
    callVC Try.prog 36 [.sl n off l.length cap] M K := by
  refine fn_rule tabOK Try.func36 rfl Try.call36 (by kernel_rfl) (fun hM => ?_)
  (refine top_in ?_; simp -implicitDefEqProofs only [Try.ntmps36, Try.results36, go_sem, -List.reduceReplicate, ↓L_gdZ_tt, ↓L_gdZ_tf, ↓L_gdZ_ft, ↓L_gdZ_ff, ↓T_and, ↓T_imp, ↓T_all, Nat.reduceBEq, Nat.reduceAdd, Nat.reduceSub, Nat.reduceMul, Nat.reduceLT, Nat.reduceLeDiff, Nat.reduceEqDiff, Int.reduceLT, Int.reduceLE, Int.reduceAdd, Int.reduceSub, Int.reduceMul, Int.reduceNeg, Int.reduceToNat, Int.reduceEq, Int.reduceNe, reduceIte, reduceCtorEq, BitVec.reduceOfInt, BitVec.reduceToNat]; try simp only [top_out])
  refine loop_code tabOK (by kernel_rfl) (fun i ts M' => ∃ k : Nat, k + i = l.length ∧ M' = M ∧ frC [some (.sl n off l.length cap), none, none, some (.u64 (numB (l.take k))), some (.i .i64 k), none, none, none, none, none, none, none, none, none, none, none, none, none, none, none] ts) l.length ?_ ?_
  · exact ⟨0, by omega, rfl, by simp [frC, numB]⟩
  · rintro i ts _ ⟨k, hk, rfl, hf⟩
    obtain ⟨f, rfl⟩ := frC_open _ _ 0 hf
    clear hf
    (refine top_in ?_; simp -implicitDefEqProofs only [go_sem, -List.reduceReplicate, ↓L_gdZ_tt, ↓L_gdZ_tf, ↓L_gdZ_ft, ↓L_gdZ_ff, ↓T_and, ↓T_imp, ↓T_all, Nat.reduceBEq, Nat.reduceAdd, Nat.reduceSub, Nat.reduceMul, Nat.reduceLT, Nat.reduceLeDiff, Nat.reduceEqDiff, Int.reduceLT, Int.reduceLE, Int.reduceAdd, Int.reduceSub, Int.reduceMul, Int.reduceNeg, Int.reduceToNat, Int.reduceEq, Int.reduceNe, reduceIte, reduceCtorEq, BitVec.reduceOfInt, BitVec.reduceToNat]; try simp only [top_out])
    refine ⟨fun h => ?_, fun h => ?_⟩
    · rw [ha.is8 (by omega), ha.cell8 (by omega)]
      refine ⟨by omega, by omega, ha.le (by omega), rfl, i - 1, by omega, k + 1, by omega, ?_, w64 (by omega) (by omega)⟩
      rw [numB_take (by omega)]
    · obtain rfl : k = l.length := by omega
      rw [List.take_length]
      exact dropC_self hM rfl hK

/-- the bytes of the head that bytes say -/
theorem headL_of {l : List (BitVec 8)} (h : 20 ≤ l.length) : headL (hT l) (hL l) (hG l) (hC l) = l.take 20 ↔ zerosB ((l.drop 1).take 3) = true := by
  have b4 : ((l.drop 4).take 4).length = 4 := by simp; omega
  have b8 : ((l.drop 8).take 4).length = 4 := by simp; omega
  have bc : ((l.drop 12).take 8).length = 8 := by simp; omega
  have conv : ∀ x : BitVec 32, BitVec.ofInt 64 (x.toNat : Int) = x.setWidth 64 := fun x => by
    rw [BitVec.ofInt_natCast]
    apply BitVec.eq_of_toNat_eq
    rw [BitVec.toNat_ofNat, BitVec.toNat_setWidth]
  have e1 : beL 4 (BitVec.ofInt 64 (hL l)) = (l.drop 4).take 4 := by rw [hL, conv, numB_32 b4, beL_numB (by omega) b4]
  have e2 : beL 4 (BitVec.ofInt 64 (hG l)) = (l.drop 8).take 4 := by rw [hG, conv, numB_32 b8, beL_numB (by omega) b8]
  have e3 : beL 8 (hC l) = (l.drop 12).take 8 := by rw [hC, beL_numB (by omega) bc]
  have e0 : BitVec.ofInt 8 (hT l) = l.getD 0 0#8 := by
    rw [hT, BitVec.ofInt_natCast]; simp
  obtain ⟨x, l, rfl⟩ := List.exists_cons_of_length_pos (by omega : 0 < l.length)
  obtain ⟨x1, l, rfl⟩ := List.exists_cons_of_length_pos (by simp at h; omega : 0 < l.length)
  obtain ⟨x2, l, rfl⟩ := List.exists_cons_of_length_pos (by simp at h; omega : 0 < l.length)
  obtain ⟨x3, l, rfl⟩ := List.exists_cons_of_length_pos (by simp at h; omega : 0 < l.length)
  unfold headL
  rw [e0, e1, e2, e3]
  have e5 : ((l.take 4) ++ ((l.drop 4).take 4 ++ (l.drop 8).take 8)) = l.take 16 := by
    have a1 : l.take 8 = l.take 4 ++ (l.drop 4).take 4 := by rw [← List.take_add]
    have a2 : l.take 16 = l.take 8 ++ (l.drop 8).take 8 := by rw [← List.take_add]
    rw [a2, a1, List.append_assoc]
  simp only [List.getD_cons_zero, List.drop_succ_cons, List.drop_zero, List.cons_append, List.nil_append, List.append_assoc, List.take_succ_cons, e5, List.cons.injEq, true_and, and_true, zerosB, List.all_cons, List.take_zero, List.all_nil, Bool.and_true, Bool.and_eq_true, beq_iff_eq]
  constructor
  · rintro ⟨rfl, rfl, rfl⟩; exact ⟨rfl, rfl, rfl⟩
  · rintro ⟨rfl, rfl, rfl⟩; exact ⟨rfl, rfl, rfl⟩

set_option maxHeartbeats 2000000 in
set_option maxRecDepth 20000 in
theorem refGetHead_ok (n off cap : Nat) (l : List (BitVec 8)) (M : List Blk) (K : SV → List Blk → Prop) (ha : BAt M n off l) (hl : l.length ≤ 140737488355000) (hcap : l.length ≤ cap)
    (h1 : partB l = true → K (.tup [hdS (hT l) (hL l) (hG l) (hC l), .i .i64 0]) M) (h0 : partB l = false → K (.tup [hdS 0 0 0 0#64, .i .i64 90]) M) :
    callVC Try.prog 20 [.sl n off l.length cap] M K := by
  refine fn_rule tabOK Try.func20 rfl Try.call20 (by kernel_rfl) (fun hM => ?_)
  (refine top_in ?_; simp -implicitDefEqProofs only [Try.ntmps20, Try.results20, go_sem, -List.reduceReplicate, ↓L_gdZ_tt, ↓L_gdZ_tf, ↓L_gdZ_ft, ↓L_gdZ_ff, ↓T_and, ↓T_imp, ↓T_all, Nat.reduceBEq, Nat.reduceAdd, Nat.reduceSub, Nat.reduceMul, Nat.reduceLT, Nat.reduceLeDiff, Nat.reduceEqDiff, Int.reduceLT, Int.reduceLE, Int.reduceAdd, Int.reduceSub, Int.reduceMul, Int.reduceNeg, Int.reduceToNat, Int.reduceEq, Int.reduceNe, reduceIte, reduceCtorEq, BitVec.reduceOfInt, BitVec.reduceToNat]; try simp only [top_out])
  have part0 : ∀ h : partB l = true, 36 ≤ l.length ∧ zerosB ((l.drop 1).take 3) = true ∧ headB (hT l) (hL l) (hG l) (hC l) = true ∧ fitsB (hT l) ((l.length : Int) - 36) = true := by
    intro h
    simp only [partB, Bool.and_eq_true, decide_eq_true_eq] at h
    refine ⟨?_, h.1.1.2, h.1.2, h.2⟩
    have hf := h.2
    unfold fitsB at hf
    split at hf <;> simp at hf <;> omega
  refine ⟨fun h => ?_, fun h => ?_⟩
  · refine dropC_append hM rfl (h0 ?_)
    cases hp : partB l with
    | false => rfl
    | true => have := (part0 hp).1; omega
  · refine draw_rule tabOK (by kernel_rfl : _) (.p 0 (.p 1 (.p 2 (.p 3 (.p 4 (.p 5 (.p 8 (.p 9 (.p 12 (.p 13 (.e 6 [1, 2, 9, 13] (.p 7 (.e 10 [1, 2, 13] (.p 11 (.e 14 [1, 2] (.p 15 (.e 16 [1, 2, 5, 9, 13] (.e 17 [] .nil .no) .no)) (.e 16 [1, 2, 5, 9, 13] (.e 14 [1, 2] (.p 15 (.e 17 [] .nil .no)) .no) .no))) (.e 16 [1, 2, 5, 9, 13] (.e 10 [1, 2, 13] (.p 11 (.e 14 [1, 2] (.p 15 (.e 17 [] .nil .no)) .no)) .no) .no))) (.e 16 [1, 2, 5, 9, 13] (.e 6 [1, 2, 9, 13] (.p 7 (.e 10 [1, 2, 13] (.p 11 (.e 14 [1, 2] (.p 15 (.e 17 [] .nil .no)) .no)) .no)) .no) .no)))))))))))) (by kernel_rfl) (by kernel_rfl) ?_
    have c4 : (cap = 4) = False := by simp; omega
    have c8 : (cap = 8) = False := by simp; omega
    have c12 : (cap = 12) = False := by simp; omega
    (refine top_in ?_; simp -implicitDefEqProofs only [go_sem, -List.reduceReplicate, ↓L_gdZ_tt, ↓L_gdZ_tf, ↓L_gdZ_ft, ↓L_gdZ_ff, ↓T_and, ↓T_imp, ↓T_all, Nat.reduceBEq, Nat.reduceAdd, Nat.reduceSub, Nat.reduceMul, Nat.reduceLT, Nat.reduceLeDiff, Nat.reduceEqDiff, Int.reduceLT, Int.reduceLE, Int.reduceAdd, Int.reduceSub, Int.reduceMul, Int.reduceNeg, Int.reduceToNat, Int.reduceEq, Int.reduceNe, reduceIte, reduceCtorEq, BitVec.reduceOfInt, BitVec.reduceToNat, get_lt ha.lt, c4, c8, c12]; try simp only [top_out])
    have x0 : Eng.cell8 (cellsB M[n]?) off = l.getD 0 0#8 := ha.cell8 (j := 0) (by omega)
    have x1 : Eng.is8 (cellsB M[n]?) off = true := ha.is8 (j := 0) (by omega)
    have l4 : ((l.drop 4).take 4).length = 4 := by simp; omega
    have l8 : ((l.drop 8).take 4).length = 4 := by simp; omega
    have l12 : ((l.drop 12).take 8).length = 8 := by simp; omega
    have w4 : IntKind.i64.wrap ((numB ((l.drop 4).take 4)).toNat : Int) = hL l := by
      rw [hL, numB_32n l4, ← numB_32n l4]; exact w64 (by omega) (by have := BitVec.isLt ((numB ((l.drop 4).take 4)).setWidth 32); omega)
    have w8 : IntKind.i64.wrap ((numB ((l.drop 8).take 4)).toNat : Int) = hG l := by
      rw [hG, numB_32n l8, ← numB_32n l8]; exact w64 (by omega) (by have := BitVec.isLt ((numB ((l.drop 8).take 4)).setWidth 32); omega)
    have wC : numB ((l.drop 12).take 8) = hC l := rfl
    have wT : ((l.getD 0 0#8).toNat : Int) = hT l := rfl
    have r4 : ∀ (L : List Blk) (K : SV → List Blk → Prop), K (.u64 (numB ((l.drop 4).take 4))) (M ++ L) → callVC Try.prog 36 [.sl n (off + 4) 4 (cap - 4)] (M ++ L) K := fun L K h => by
      have := read_ok n (off + 4) (cap - 4) ((l.drop 4).take 4) (M ++ L) K (ha.app.sub (by omega)) (by omega) h
      rwa [l4] at this
    have r8 : ∀ (L : List Blk) (K : SV → List Blk → Prop), K (.u64 (numB ((l.drop 8).take 4))) (M ++ L) → callVC Try.prog 36 [.sl n (off + 8) 4 (cap - 8)] (M ++ L) K := fun L K h => by
      have := read_ok n (off + 8) (cap - 8) ((l.drop 8).take 4) (M ++ L) K (ha.app.sub (by omega)) (by omega) h
      rwa [l8] at this
    have r12 : ∀ (L : List Blk) (K : SV → List Blk → Prop), K (.u64 (numB ((l.drop 12).take 8))) (M ++ L) → callVC Try.prog 36 [.sl n (off + 12) 8 (cap - 12)] (M ++ L) K := fun L K h => by
      have := read_ok n (off + 12) (cap - 12) ((l.drop 12).take 8) (M ++ L) K (ha.app.sub (by omega)) (by omega) h
      rwa [l12] at this
    have x2 : off + 1 ≤ (cellsB M[n]?).length := ha.le (j := 1) (by omega)
    have l20 : (l.take 20).length = 20 := by simp; omega
    have b20 : BAt M n off (l.take 20) := by
      have := ha.sub (a := 0) (k := 20) (by omega)
      rwa [List.drop_zero] at this
    have pt : (headL (hT l) (hL l) (hG l) (hC l) == l.take 20) = zerosB ((l.drop 1).take 3) := by
      rw [Bool.eq_iff_iff, beq_iff_eq]; exact headL_of (by omega)
    have pf : ∀ (a b c : Bool), headB (hT l) (hL l) (hG l) (hC l) = a → zerosB ((l.drop 1).take 3) = b → fitsB (hT l) ((l.length : Int) - 36) = c → (a && b && c) = false → partB l = false := by
      intro a b c e1 e2 e3 e
      unfold partB
      rw [e1, e2, e3, show decide (20 ≤ l.length) = true by simp; omega]
      cases a <;> cases b <;> cases c <;> first | rfl | cases e
    rw [x1, x0, wT]
    refine ⟨by omega, ha.le (j := 1) (by omega), rfl, by omega, by omega, by omega, ?_⟩
    repeat' (first | with_reducible refine And.intro ?_ ?_ | ((with_reducible first | refine r4 _ _ ?_ | refine r8 _ _ ?_ | refine r12 _ _ ?_); (refine top_in ?_; simp -implicitDefEqProofs only [go_sem, -List.reduceReplicate, ↓L_gdZ_tt, ↓L_gdZ_tf, ↓L_gdZ_ft, ↓L_gdZ_ff, ↓T_and, ↓T_imp, ↓T_all, Nat.reduceBEq, Nat.reduceAdd, Nat.reduceSub, Nat.reduceMul, Nat.reduceLT, Nat.reduceLeDiff, Nat.reduceEqDiff, Int.reduceLT, Int.reduceLE, Int.reduceAdd, Int.reduceSub, Int.reduceMul, Int.reduceNeg, Int.reduceToNat, Int.reduceEq, Int.reduceNe, reduceIte, reduceCtorEq, BitVec.reduceOfInt, BitVec.reduceToNat, get_lt ha.lt, c4, c8, c12, w4, w8, wC]; try simp only [top_out])))
    any_goals (first | omega | exact x2 | with_reducible rfl)
    all_goals
      refine refPutHead_ok (hT l) (hL l) (hG l) (hC l) _ _ (fun hb z ty => ?_) (fun hb => ?_)
      · (refine top_in ?_; simp -implicitDefEqProofs only [go_sem, -List.reduceReplicate, ↓L_gdZ_tt, ↓L_gdZ_tf, ↓L_gdZ_ft, ↓L_gdZ_ff, ↓T_and, ↓T_imp, ↓T_all, Nat.reduceBEq, Nat.reduceAdd, Nat.reduceSub, Nat.reduceMul, Nat.reduceLT, Nat.reduceLeDiff, Nat.reduceEqDiff, Int.reduceLT, Int.reduceLE, Int.reduceAdd, Int.reduceSub, Int.reduceMul, Int.reduceNeg, Int.reduceToNat, Int.reduceEq, Int.reduceNe, reduceIte, reduceCtorEq, BitVec.reduceOfInt, BitVec.reduceToNat]; try simp only [top_out])
        refine ⟨by omega, ?_⟩
        refine same_ok2 (M.length + 2) 0 _ n off cap 20 20 (headL (hT l) (hL l) (hG l) (hC l)) (l.take 20) _ _ (BAt.row (z := z) (ty := ty) (by rw [get_app]; rfl)) b20.app (by rw [headL_len]; omega) (by omega) (headL_len _ _ _ _).symm l20.symm ?_
        rw [pt]
        (refine top_in ?_; simp -implicitDefEqProofs only [go_sem, -List.reduceReplicate, ↓L_gdZ_tt, ↓L_gdZ_tf, ↓L_gdZ_ft, ↓L_gdZ_ff, ↓T_and, ↓T_imp, ↓T_all, Nat.reduceBEq, Nat.reduceAdd, Nat.reduceSub, Nat.reduceMul, Nat.reduceLT, Nat.reduceLeDiff, Nat.reduceEqDiff, Int.reduceLT, Int.reduceLE, Int.reduceAdd, Int.reduceSub, Int.reduceMul, Int.reduceNeg, Int.reduceToNat, Int.reduceEq, Int.reduceNe, reduceIte, reduceCtorEq, BitVec.reduceOfInt, BitVec.reduceToNat]; try simp only [top_out])
        rw [w64 (by omega) (by omega)]
        refine reffits_ok _ _ _ _ ?_
        (refine top_in ?_; simp -implicitDefEqProofs only [go_sem, -List.reduceReplicate, ↓L_gdZ_tt, ↓L_gdZ_tf, ↓L_gdZ_ft, ↓L_gdZ_ff, ↓T_and, ↓T_imp, ↓T_all, Nat.reduceBEq, Nat.reduceAdd, Nat.reduceSub, Nat.reduceMul, Nat.reduceLT, Nat.reduceLeDiff, Nat.reduceEqDiff, Int.reduceLT, Int.reduceLE, Int.reduceAdd, Int.reduceSub, Int.reduceMul, Int.reduceNeg, Int.reduceToNat, Int.reduceEq, Int.reduceNe, reduceIte, reduceCtorEq, BitVec.reduceOfInt, BitVec.reduceToNat]; try simp only [top_out])
        refine ⟨fun _ => ⟨fun h5 => ⟨fun h6 => ?_, fun h6 => ?_⟩, fun h5 => ?_⟩, fun h5 => absurd h5 (by decide)⟩
        · exact dropC_append hM rfl (h0 (pf _ _ false hb (nf h5) (nt h6) (by simp)))
        · refine dropC_append hM rfl (h1 ?_)
          unfold partB
          rw [hb, nf h5, nf h6]; simp; omega
        · exact dropC_append hM rfl (h0 (pf _ false _ hb (nt h5) rfl (by simp)))
      · (refine top_in ?_; simp -implicitDefEqProofs only [go_sem, -List.reduceReplicate, ↓L_gdZ_tt, ↓L_gdZ_tf, ↓L_gdZ_ft, ↓L_gdZ_ff, ↓T_and, ↓T_imp, ↓T_all, Nat.reduceBEq, Nat.reduceAdd, Nat.reduceSub, Nat.reduceMul, Nat.reduceLT, Nat.reduceLeDiff, Nat.reduceEqDiff, Int.reduceLT, Int.reduceLE, Int.reduceAdd, Int.reduceSub, Int.reduceMul, Int.reduceNeg, Int.reduceToNat, Int.reduceEq, Int.reduceNe, reduceIte, reduceCtorEq, BitVec.reduceOfInt, BitVec.reduceToNat]; try simp only [top_out])
        refine ⟨by omega, ?_⟩
        refine call_nil (a := []) 0 ?_
        refine same_ok2 _ 0 _ n off cap 0 20 [] (l.take 20) _ _ (BAt.row (z := []) (ty := 0) (by rw [get_app0]; rfl)) b20.app.app (by simp) (by omega) rfl l20.symm ?_
        (refine top_in ?_; simp -implicitDefEqProofs only [go_sem, -List.reduceReplicate, ↓L_gdZ_tt, ↓L_gdZ_tf, ↓L_gdZ_ft, ↓L_gdZ_ff, ↓T_and, ↓T_imp, ↓T_all, Nat.reduceBEq, Nat.reduceAdd, Nat.reduceSub, Nat.reduceMul, Nat.reduceLT, Nat.reduceLeDiff, Nat.reduceEqDiff, Int.reduceLT, Int.reduceLE, Int.reduceAdd, Int.reduceSub, Int.reduceMul, Int.reduceNeg, Int.reduceToNat, Int.reduceEq, Int.reduceNe, reduceIte, reduceCtorEq, BitVec.reduceOfInt, BitVec.reduceToNat]; try simp only [top_out])
        rw [w64 (by omega) (by omega)]
        refine reffits_ok _ _ _ _ ?_
        (refine top_in ?_; simp -implicitDefEqProofs only [go_sem, -List.reduceReplicate, ↓L_gdZ_tt, ↓L_gdZ_tf, ↓L_gdZ_ft, ↓L_gdZ_ff, ↓T_and, ↓T_imp, ↓T_all, Nat.reduceBEq, Nat.reduceAdd, Nat.reduceSub, Nat.reduceMul, Nat.reduceLT, Nat.reduceLeDiff, Nat.reduceEqDiff, Int.reduceLT, Int.reduceLE, Int.reduceAdd, Int.reduceSub, Int.reduceMul, Int.reduceNeg, Int.reduceToNat, Int.reduceEq, Int.reduceNe, reduceIte, reduceCtorEq, BitVec.reduceOfInt, BitVec.reduceToNat]; try simp only [top_out])
        exact ⟨fun h5 => absurd h5 (by decide), fun _ => dropC_append hM rfl (h0 (pf false _ _ hb rfl rfl (by simp)))⟩
end Go.Proofs.Ytdkdbeamimkljaa.Eng
