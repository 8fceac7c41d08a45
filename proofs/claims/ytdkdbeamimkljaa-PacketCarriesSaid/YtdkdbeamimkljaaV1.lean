/- Addresses: what is one, and its bytes. -/
import Derived.Test.YtdkdbeamimkljaaU7
namespace Go.Proofs.Ytdkdbeamimkljaa.Eng
open Go Go.RowKit
set_option linter.unusedSimpArgs false
set_option linter.unusedVariables false

def adC (f : Int) (hi lo : BitVec 64) : List SV := [.i .i64 f, .u64 hi, .u64 lo]
def adS (f : Int) (hi lo : BitVec 64) : SV := .agg [.i .i64 f, .u64 hi, .u64 lo]
def validB (f : Int) (hi lo : BitVec 64) : Bool := f == 6 || (f == 4 && hi == 0#64 && decide (lo.toNat < 4294967296))
def addrL (f : Int) (hi lo : BitVec 64) : List (BitVec 8) := if f = 4 then beL 4 lo else beL 8 hi ++ beL 8 lo
theorem addrL_len (f : Int) (hi lo : BitVec 64) : (addrL f hi lo).length = if f = 4 then 4 else 16 := by
  unfold addrL; split <;> simp [beL_len]

theorem valid_ok (f : Int) (hi lo : BitVec 64) (M : List Blk) (K : SV → List Blk → Prop) (hK : K (.b (validB f hi lo)) M) : callVC Try.prog 38 [adS f hi lo] M K := by
  unfold adS
  refine fn_rule tabOK Try.func38 rfl Try.call38 (by kernel_rfl) (fun hM => ?_)
  (refine top_in ?_; simp -implicitDefEqProofs only [Try.ntmps38, Try.results38, go_sem, -List.reduceReplicate, ↓L_gdZ_tt, ↓L_gdZ_tf, ↓L_gdZ_ft, ↓L_gdZ_ff, ↓T_and, ↓T_imp, ↓T_all, Nat.reduceBEq, Nat.reduceAdd, Nat.reduceSub, Nat.reduceMul, Nat.reduceLT, Nat.reduceLeDiff, Nat.reduceEqDiff, Int.reduceLT, Int.reduceLE, Int.reduceAdd, Int.reduceSub, Int.reduceMul, Int.reduceNeg, Int.reduceToNat, Int.reduceEq, Int.reduceNe, reduceIte, reduceCtorEq, BitVec.reduceOfInt, BitVec.reduceToNat]; try simp only [top_out])
  repeat' (with_reducible first | refine And.intro ?_ ?_ | intro)
  all_goals
    refine dropB hM hK ?_
    simp_all [validB]
theorem refvalid_ok (f : Int) (hi lo : BitVec 64) (M : List Blk) (K : SV → List Blk → Prop) (hK : K (.b (validB f hi lo)) M) : callVC Try.prog 59 [adS f hi lo] M K := by
  unfold adS
  refine fn_rule tabOK Try.func59 rfl Try.call59 (by kernel_rfl) (fun hM => ?_)
  (refine top_in ?_; simp -implicitDefEqProofs only [Try.ntmps59, Try.results59, go_sem, -List.reduceReplicate, ↓L_gdZ_tt, ↓L_gdZ_tf, ↓L_gdZ_ft, ↓L_gdZ_ff, ↓T_and, ↓T_imp, ↓T_all, Nat.reduceBEq, Nat.reduceAdd, Nat.reduceSub, Nat.reduceMul, Nat.reduceLT, Nat.reduceLeDiff, Nat.reduceEqDiff, Int.reduceLT, Int.reduceLE, Int.reduceAdd, Int.reduceSub, Int.reduceMul, Int.reduceNeg, Int.reduceToNat, Int.reduceEq, Int.reduceNe, reduceIte, reduceCtorEq, BitVec.reduceOfInt, BitVec.reduceToNat]; try simp only [top_out])
  repeat' (with_reducible first | refine And.intro ?_ ?_ | intro)
  all_goals
    refine dropB hM hK ?_
    simp_all [validB]
def bitsI (f : Int) : Int := if f = 4 then 32 else if f = 6 then 128 else 0
theorem refbits_ok (f : Int) (M : List Blk) (K : SV → List Blk → Prop) (hK : K (.i .i64 (bitsI f)) M) : callVC Try.prog 60 [.i .i64 f] M K := by
  refine fn_rule tabOK Try.func60 rfl Try.call60 (by kernel_rfl) (fun hM => ?_)
  (refine top_in ?_; simp -implicitDefEqProofs only [Try.ntmps60, Try.results60, go_sem, -List.reduceReplicate, ↓L_gdZ_tt, ↓L_gdZ_tf, ↓L_gdZ_ft, ↓L_gdZ_ff, ↓T_and, ↓T_imp, ↓T_all, Nat.reduceBEq, Nat.reduceAdd, Nat.reduceSub, Nat.reduceMul, Nat.reduceLT, Nat.reduceLeDiff, Nat.reduceEqDiff, Int.reduceLT, Int.reduceLE, Int.reduceAdd, Int.reduceSub, Int.reduceMul, Int.reduceNeg, Int.reduceToNat, Int.reduceEq, Int.reduceNe, reduceIte, reduceCtorEq, BitVec.reduceOfInt, BitVec.reduceToNat]; try simp only [top_out])
  repeat' (with_reducible first | refine And.intro ?_ ?_ | intro)
  all_goals
    simp only [beq_iff_eq, beq_eq_false_iff_ne, ne_eq] at *
    refine dropC_self hM rfl ?_
    simpa [bitsI, *] using hK
theorem shr1 (x : BitVec 64) (n : Nat) : ((x >>> n) &&& 1#64 == 1#64) = x.getLsbD n := by
  have h : (x >>> n) &&& 1#64 = if x.getLsbD n then 1#64 else 0#64 := by
    apply BitVec.eq_of_getLsbD_eq
    intro i hi
    rw [BitVec.getLsbD_and, BitVec.getLsbD_ushiftRight]
    cases i with
    | zero => cases h : x.getLsbD n <;> simp [h]
    | succ i => cases h : x.getLsbD n <;> simp
  rw [h]; cases x.getLsbD n <;> rfl
theorem refbit_ok (f : Int) (hi lo : BitVec 64) (i k : Nat) (hk : (i : Int) + k + 1 = bitsI f) (M : List Blk) (K : SV → List Blk → Prop) (hK : K (.b (if 64 ≤ k then hi.getLsbD (k - 64) else lo.getLsbD k)) M) :
    callVC Try.prog 61 [adS f hi lo, .i .i64 i] M K := by
  have hb : bitsI f ≤ 128 := by unfold bitsI; split; decide; split <;> decide
  unfold adS
  refine fn_rule tabOK Try.func61 rfl Try.call61 (by kernel_rfl) (fun hM => ?_)
  (refine top_in ?_; simp -implicitDefEqProofs only [Try.ntmps61, Try.results61, go_sem, -List.reduceReplicate, ↓L_gdZ_tt, ↓L_gdZ_tf, ↓L_gdZ_ft, ↓L_gdZ_ff, ↓T_and, ↓T_imp, ↓T_all, Nat.reduceBEq, Nat.reduceAdd, Nat.reduceSub, Nat.reduceMul, Nat.reduceLT, Nat.reduceLeDiff, Nat.reduceEqDiff, Int.reduceLT, Int.reduceLE, Int.reduceAdd, Int.reduceSub, Int.reduceMul, Int.reduceNeg, Int.reduceToNat, Int.reduceEq, Int.reduceNe, reduceIte, reduceCtorEq, BitVec.reduceOfInt, BitVec.reduceToNat]; try simp only [top_out])
  refine refbits_ok f _ _ ?_
  (refine top_in ?_; simp -implicitDefEqProofs only [go_sem, -List.reduceReplicate, ↓L_gdZ_tt, ↓L_gdZ_tf, ↓L_gdZ_ft, ↓L_gdZ_ff, ↓T_and, ↓T_imp, ↓T_all, Nat.reduceBEq, Nat.reduceAdd, Nat.reduceSub, Nat.reduceMul, Nat.reduceLT, Nat.reduceLeDiff, Nat.reduceEqDiff, Int.reduceLT, Int.reduceLE, Int.reduceAdd, Int.reduceSub, Int.reduceMul, Int.reduceNeg, Int.reduceToNat, Int.reduceEq, Int.reduceNe, reduceIte, reduceCtorEq, BitVec.reduceOfInt, BitVec.reduceToNat]; try simp only [top_out])
  rw [w64 (x := bitsI f - 1) (by omega) (by omega), w64 (x := bitsI f - 1 - i) (by omega) (by omega), show bitsI f - 1 - (i : Int) = (k : Int) by omega]
  refine ⟨fun h => ?_, fun h => ?_⟩
  · have h64 : 64 ≤ k := by omega
    rw [if_pos h64] at hK
    rw [w64 (x := (k : Int) - 64) (by omega) (by omega), show (k : Int) - 64 = ((k - 64 : Nat) : Int) by omega]
    refine ⟨by omega, dropC_append hM rfl ?_⟩
    rw [Int.toNat_natCast, shr1]; exact hK
  · rw [if_neg (by omega)] at hK
    refine ⟨by omega, dropC_append hM rfl ?_⟩
    rw [Int.toNat_natCast, shr1]; exact hK

theorem low32 {lo : BitVec 64} (h : lo.toNat < 4294967296) : (lo.setWidth 32).setWidth 64 = lo := by
  apply BitVec.eq_of_toNat_eq
  rw [BitVec.toNat_setWidth, BitVec.toNat_setWidth, Nat.mod_eq_of_lt (by omega : lo.toNat % 2 ^ 32 < 2 ^ 64)]
  exact Nat.mod_eq_of_lt (by omega)
theorem validB_true {f : Int} {hi lo : BitVec 64} (h : validB f hi lo = true) : f = 6 ∨ (f = 4 ∧ hi = 0#64 ∧ lo.toNat < 4294967296) := by
  simp only [validB, Bool.or_eq_true, Bool.and_eq_true, beq_iff_eq, decide_eq_true_eq] at h
  rcases h with h | h
  · exact .inl h
  · exact .inr ⟨h.1.1, h.1.2, h.2⟩

theorem putAddr_ok (f : Int) (hi lo : BitVec 64) (M : List Blk) (K : SV → List Blk → Prop) (h1 : validB f hi lo = true → ∀ ty, K (.sl M.length 0 (addrL f hi lo).length (addrL f hi lo).length) (M ++ [.row (bS (addrL f hi lo)) ty]))
    (h0 : validB f hi lo = false → K .sn M) : callVC Try.prog 39 [adS f hi lo] M K := by
  unfold adS
  refine fn_rule tabOK Try.func39 rfl Try.call39 (by kernel_rfl) (fun hM => ?_)
  (refine top_in ?_; simp -implicitDefEqProofs only [Try.ntmps39, Try.results39, go_sem, -List.reduceReplicate, ↓L_gdZ_tt, ↓L_gdZ_tf, ↓L_gdZ_ft, ↓L_gdZ_ff, ↓T_and, ↓T_imp, ↓T_all, Nat.reduceBEq, Nat.reduceAdd, Nat.reduceSub, Nat.reduceMul, Nat.reduceLT, Nat.reduceLeDiff, Nat.reduceEqDiff, Int.reduceLT, Int.reduceLE, Int.reduceAdd, Int.reduceSub, Int.reduceMul, Int.reduceNeg, Int.reduceToNat, Int.reduceEq, Int.reduceNe, reduceIte, reduceCtorEq, BitVec.reduceOfInt, BitVec.reduceToNat]; try simp only [top_out])
  refine valid_ok f hi lo _ _ ?_
  (refine top_in ?_; simp -implicitDefEqProofs only [go_sem, -List.reduceReplicate, ↓L_gdZ_tt, ↓L_gdZ_tf, ↓L_gdZ_ft, ↓L_gdZ_ff, ↓T_and, ↓T_imp, ↓T_all, Nat.reduceBEq, Nat.reduceAdd, Nat.reduceSub, Nat.reduceMul, Nat.reduceLT, Nat.reduceLeDiff, Nat.reduceEqDiff, Int.reduceLT, Int.reduceLE, Int.reduceAdd, Int.reduceSub, Int.reduceMul, Int.reduceNeg, Int.reduceToNat, Int.reduceEq, Int.reduceNe, reduceIte, reduceCtorEq, BitVec.reduceOfInt, BitVec.reduceToNat]; try simp only [top_out])
  refine ⟨fun h => dropC_append hM rfl (h0 (nt h)), fun h => ?_⟩
  have hv := nf h
  have h1 := h1 hv
  refine ⟨fun h4 => ?_, fun h4 => ?_⟩
  · have h4 : f = 4 := by simpa using h4
    subst h4
    have hlo : lo.toNat < 4294967296 := by
      rcases validB_true hv with h | ⟨_, _, h⟩
      · cases h
      · exact h
    refine put32n_ok (lo.setWidth 32) _ _ (fun ty => ?_)
    (refine top_in ?_; simp -implicitDefEqProofs only [go_sem, -List.reduceReplicate, ↓L_gdZ_tt, ↓L_gdZ_tf, ↓L_gdZ_ft, ↓L_gdZ_ff, ↓T_and, ↓T_imp, ↓T_all, Nat.reduceBEq, Nat.reduceAdd, Nat.reduceSub, Nat.reduceMul, Nat.reduceLT, Nat.reduceLeDiff, Nat.reduceEqDiff, Int.reduceLT, Int.reduceLE, Int.reduceAdd, Int.reduceSub, Int.reduceMul, Int.reduceNeg, Int.reduceToNat, Int.reduceEq, Int.reduceNe, reduceIte, reduceCtorEq, BitVec.reduceOfInt, BitVec.reduceToNat]; try simp only [top_out])
    rw [low32 hlo]
    refine drop8 2 hM rfl rfl ?_
    have := h1 ty
    rw [addrL_len] at this
    exact this
  · have h4 : f ≠ 4 := by simpa using h4
    have h6 : f = 6 := by
      rcases validB_true hv with h | ⟨h, _⟩
      · exact h
      · exact absurd h h4
    subst h6
    refine draw_rule tabOK (by kernel_rfl : _) (.p 0 (.p 1 (.p 3 (.p 4 (.e 2 [3, 4] (.e 5 [] (.p 6 .nil) .no) .no))))) (by kernel_rfl) (by kernel_rfl) ?_
    (refine top_in ?_; simp -implicitDefEqProofs only [go_sem, -List.reduceReplicate, ↓L_gdZ_tt, ↓L_gdZ_tf, ↓L_gdZ_ft, ↓L_gdZ_ff, ↓T_and, ↓T_imp, ↓T_all, Nat.reduceBEq, Nat.reduceAdd, Nat.reduceSub, Nat.reduceMul, Nat.reduceLT, Nat.reduceLeDiff, Nat.reduceEqDiff, Int.reduceLT, Int.reduceLE, Int.reduceAdd, Int.reduceSub, Int.reduceMul, Int.reduceNeg, Int.reduceToNat, Int.reduceEq, Int.reduceNe, reduceIte, reduceCtorEq, BitVec.reduceOfInt, BitVec.reduceToNat]; try simp only [top_out])
    refine put64n_ok hi _ _ (fun ty => ?_)
    (refine top_in ?_; simp -implicitDefEqProofs only [go_sem, -List.reduceReplicate, ↓L_gdZ_tt, ↓L_gdZ_tf, ↓L_gdZ_ft, ↓L_gdZ_ff, ↓T_and, ↓T_imp, ↓T_all, Nat.reduceBEq, Nat.reduceAdd, Nat.reduceSub, Nat.reduceMul, Nat.reduceLT, Nat.reduceLeDiff, Nat.reduceEqDiff, Int.reduceLT, Int.reduceLE, Int.reduceAdd, Int.reduceSub, Int.reduceMul, Int.reduceNeg, Int.reduceToNat, Int.reduceEq, Int.reduceNe, reduceIte, reduceCtorEq, BitVec.reduceOfInt, BitVec.reduceToNat]; try simp only [top_out])
    have hb8 := beL_len 8 hi
    have p8 := put64_ok (M.length + 2) 0 8 (beL 8 hi) lo
    rw [hb8] at p8
    refine p8 _ _ (BAt.row (z := []) (ty := ty) (by rw [get_app, List.append_nil]; rfl)) (by omega) (fun ty => ?_)
    (refine top_in ?_; simp -implicitDefEqProofs only [go_sem, -List.reduceReplicate, ↓L_gdZ_tt, ↓L_gdZ_tf, ↓L_gdZ_ft, ↓L_gdZ_ff, ↓T_and, ↓T_imp, ↓T_all, Nat.reduceBEq, Nat.reduceAdd, Nat.reduceSub, Nat.reduceMul, Nat.reduceLT, Nat.reduceLeDiff, Nat.reduceEqDiff, Int.reduceLT, Int.reduceLE, Int.reduceAdd, Int.reduceSub, Int.reduceMul, Int.reduceNeg, Int.reduceToNat, Int.reduceEq, Int.reduceNe, reduceIte, reduceCtorEq, BitVec.reduceOfInt, BitVec.reduceToNat]; try simp only [top_out])
    refine drop8 3 hM rfl rfl ?_
    have := h1 ty
    rw [addrL_len] at this
    exact this

/-- a byte's highest bits -/
def hiB (v : BitVec 8) (k : Nat) : Int := ((v >>> (8 - k)).toNat : Int)
theorem hiB_next (v : BitVec 8) (k : Nat) (hk : k < 8) : 2 * hiB v k + (if v.getLsbD (7 - k) = true then 1 else 0) = hiB v (k + 1) :=
  (by decide +kernel : ∀ v : BitVec 8, ∀ k, k < 8 → 2 * hiB v k + (if v.getLsbD (7 - k) = true then 1 else 0) = hiB v (k + 1)) v k hk
theorem hiB_0 (v : BitVec 8) : hiB v 0 = 0 := (by decide +kernel : ∀ v : BitVec 8, hiB v 0 = 0) v
theorem hiB_8 (v : BitVec 8) : BitVec.ofInt 8 (hiB v 8) = v := (by decide +kernel : ∀ v : BitVec 8, BitVec.ofInt 8 (hiB v 8) = v) v
theorem hiB_le (v : BitVec 8) (k : Nat) : 0 ≤ hiB v k ∧ hiB v k ≤ 255 := by unfold hiB; have := BitVec.isLt (v >>> (8 - k)); omega
theorem addr_bit {f : Int} {hi lo : BitVec 64} (h : validB f hi lo = true) {j k : Nat} (hj : j < (addrL f hi lo).length) (hk : k < 8) (n : Nat) (hn : ((8 * j + k : Nat) : Int) + n + 1 = bitsI f) :
    (if 64 ≤ n then hi.getLsbD (n - 64) else lo.getLsbD n) = ((addrL f hi lo).getD j 0#8).getLsbD (7 - k) := by
  rcases validB_true h with rfl | ⟨rfl, _, _⟩
  · have hn' : 8 * j + k + n + 1 = 128 := by unfold bitsI at hn; simp at hn; omega
    rw [addrL_len] at hj
    unfold addrL
    rw [if_neg (show ¬ ((6 : Int) = 4) by decide)]
    by_cases h8 : j < 8
    · have e : (beL 8 hi ++ beL 8 lo).getD j 0#8 = (hi >>> (8 * (8 - 1 - j))).setWidth 8 := by
        rw [List.getD_eq_getElem?_getD, List.getElem?_append_left (by rw [beL_len]; exact h8), ← List.getD_eq_getElem?_getD]
        exact gl_getD h8 _
      rw [e, if_pos (by omega), BitVec.getLsbD_setWidth, BitVec.getLsbD_ushiftRight, show 8 * (8 - 1 - j) + (7 - k) = n - 64 by omega]
      simp; omega
    · have e : (beL 8 hi ++ beL 8 lo).getD j 0#8 = (lo >>> (8 * (8 - 1 - (j - 8)))).setWidth 8 := by
        rw [List.getD_eq_getElem?_getD, List.getElem?_append_right (by rw [beL_len]; omega), ← List.getD_eq_getElem?_getD, beL_len]
        exact gl_getD (by simp at hj; omega) _
      rw [e, if_neg (by omega), BitVec.getLsbD_setWidth, BitVec.getLsbD_ushiftRight, show 8 * (8 - 1 - (j - 8)) + (7 - k) = n by omega]
      simp; omega
  · have hn' : 8 * j + k + n + 1 = 32 := by unfold bitsI at hn; simp at hn; omega
    have e : (addrL 4 hi lo).getD j 0#8 = (lo >>> (8 * (4 - 1 - j))).setWidth 8 := by
      unfold addrL; rw [if_pos rfl]; exact gl_getD (by omega) _
    rw [e, if_neg (by omega), BitVec.getLsbD_setWidth, BitVec.getLsbD_ushiftRight, show 8 * (4 - 1 - j) + (7 - k) = n by omega]
    simp; omega
theorem keepA {τ : Nat → Option Nat} {L : List Blk} {k : Nat} {f : Int} {hi lo : BitVec 64} {ty : TypeId} (h : L[k]? = some (.row [.i .i64 f, .u64 hi, .u64 lo] ty)) : BlkRn τ L (some k) (.row [.i .i64 f, .u64 hi, .u64 lo] ty) :=
  ⟨_, h, rfl, fun ρ => rfl⟩

theorem lt_ad {m : Nat} {f : Int} {hi lo : BitVec 64} {ty : TypeId} : Blk.lt m (.row [.i .i64 f, .u64 hi, .u64 lo] ty) = true := rfl
set_option maxHeartbeats 1000000 in
theorem refPutAddr_ok (fa : Int) (hi lo : BitVec 64) (M : List Blk) (K : SV → List Blk → Prop) (h1 : validB fa hi lo = true → ∀ z ty, K (.sl M.length 0 (addrL fa hi lo).length ((addrL fa hi lo).length + z.length)) (M ++ [.row (bS (addrL fa hi lo ++ z)) ty]))
    (h0 : validB fa hi lo = false → K .sn M) : callVC Try.prog 40 [adS fa hi lo] M K := by
  unfold adS
  refine fn_rule tabOK Try.func40 rfl Try.call40 (by kernel_rfl) (fun hM => ?_)
  (refine top_in ?_; simp -implicitDefEqProofs only [Try.ntmps40, Try.results40, go_sem, -List.reduceReplicate, ↓L_gdZ_tt, ↓L_gdZ_tf, ↓L_gdZ_ft, ↓L_gdZ_ff, ↓T_and, ↓T_imp, ↓T_all, Nat.reduceBEq, Nat.reduceAdd, Nat.reduceSub, Nat.reduceMul, Nat.reduceLT, Nat.reduceLeDiff, Nat.reduceEqDiff, Int.reduceLT, Int.reduceLE, Int.reduceAdd, Int.reduceSub, Int.reduceMul, Int.reduceNeg, Int.reduceToNat, Int.reduceEq, Int.reduceNe, reduceIte, reduceCtorEq, BitVec.reduceOfInt, BitVec.reduceToNat]; try simp only [top_out])
  refine refvalid_ok fa hi lo _ _ ?_
  (refine top_in ?_; simp -implicitDefEqProofs only [go_sem, -List.reduceReplicate, ↓L_gdZ_tt, ↓L_gdZ_tf, ↓L_gdZ_ft, ↓L_gdZ_ff, ↓T_and, ↓T_imp, ↓T_all, Nat.reduceBEq, Nat.reduceAdd, Nat.reduceSub, Nat.reduceMul, Nat.reduceLT, Nat.reduceLeDiff, Nat.reduceEqDiff, Int.reduceLT, Int.reduceLE, Int.reduceAdd, Int.reduceSub, Int.reduceMul, Int.reduceNeg, Int.reduceToNat, Int.reduceEq, Int.reduceNe, reduceIte, reduceCtorEq, BitVec.reduceOfInt, BitVec.reduceToNat]; try simp only [top_out])
  refine ⟨fun h => dropC_append hM rfl (h0 (nt h)), fun h => ?_⟩
  have hv := nf h
  have h1 := h1 hv
  have hal : 8 * ((addrL fa hi lo).length : Int) = bitsI fa := by
    rw [addrL_len]
    rcases validB_true hv with rfl | ⟨rfl, _, _⟩ <;> simp [bitsI]
  have hle : (addrL fa hi lo).length ≤ 16 := by rw [addrL_len]; split <;> omega
  refine loop_gc tabOK (by kernel_rfl) (fun m ts M' => ∃ (j : Nat) (z : List (BitVec 8)) (ty : TypeId), j + m = (addrL fa hi lo).length ∧ M' = M ++ [.row [.i .i64 fa, .u64 hi, .u64 lo] 45, .row (bS ((addrL fa hi lo).take j ++ z)) ty] ∧
    frC [none, some (.p M.length 0), none, none, some (.sl (M.length + 1) 0 j (j + z.length)), some (.i .i64 (8 * j)), none, none, none, none, none, none, none, none, none, none, none, none, none, none, none, none, none, none, none, none, none, none, none, none, none, none, none, none, none, none, none, none, none, none] ts) (addrL fa hi lo).length ?_ ?_
  · refine covF_gc hM [some 0, none] [none, some (.p M.length 0), none, none, some (.sl (M.length + 1) 0 0 0), some (.i .i64 0), none, none, none, none, none, none, none, none, none, none, none, none, none, none, none, none, none, none, none, none, none, none, none, none, none, none, none, none, none, none, none, none, none, none] [.row [.i .i64 fa, .u64 hi, .u64 lo] 45, .row (bS []) 0] rfl ⟨keepA rfl, rfl, trivial⟩ rfl ?_ ?_ (fun ts' h => ⟨0, [], 0, by omega, rfl, by simpa using h⟩)
    · simp only [Int.natCast_add, cast_lit, Nat.add_assoc, rnSl_n, frRn_nil, frRn_s, frRn_n, frLt_nil, frLt_s, frLt_n, rn_i, rn_u8, rn_u32, rn_u64, rn_b, rn_str, rn_sn, rn_pn, rn_agg, rn_tup, rnL_nil, rnL_cons, rn_bS, rn_nil, rn_sl_at, rn_sl_at0, rn_p_at, rn_p_at0, rnSl_s, rnP_s, lt_i, lt_u8, lt_u32, lt_u64, lt_b, lt_sl, lt_p, lt_agg, lt_tup, ltL_nil', ltL_cons, bS_lt, List.getElem?_cons_succ, List.getElem?_cons_zero, Option.join_some, Nat.add_zero, Nat.zero_add, implies_true, and_self, and_true, true_and, Bool.and_true, Bool.true_and, Bool.and_self, List.length_cons, List.length_nil, List.length_append, decide_eq_true_eq, Bool.and_eq_true]
    · simp only [Int.natCast_add, cast_lit, Nat.add_assoc, rnSl_n, frRn_nil, frRn_s, frRn_n, frLt_nil, frLt_s, frLt_n, rn_i, rn_u8, rn_u32, rn_u64, rn_b, rn_str, rn_sn, rn_pn, rn_agg, rn_tup, rnL_nil, rnL_cons, rn_bS, rn_nil, rn_sl_at, rn_sl_at0, rn_p_at, rn_p_at0, rnSl_s, rnP_s, lt_i, lt_u8, lt_u32, lt_u64, lt_b, lt_sl, lt_p, lt_agg, lt_tup, ltL_nil', ltL_cons, bS_lt, List.getElem?_cons_succ, List.getElem?_cons_zero, Option.join_some, Nat.add_zero, Nat.zero_add, implies_true, and_self, and_true, true_and, Bool.and_true, Bool.true_and, Bool.and_self, List.length_cons, List.length_nil, List.length_append, decide_eq_true_eq, Bool.and_eq_true]; omega
  · rintro m ts _ ⟨j, z, ty, hj, rfl, hf⟩
    obtain ⟨f, rfl⟩ := frC_open _ _ 0 hf
    clear hf
    (refine top_in ?_; simp -implicitDefEqProofs only [go_sem, -List.reduceReplicate, ↓L_gdZ_tt, ↓L_gdZ_tf, ↓L_gdZ_ft, ↓L_gdZ_ff, ↓T_and, ↓T_imp, ↓T_all, Nat.reduceBEq, Nat.reduceAdd, Nat.reduceSub, Nat.reduceMul, Nat.reduceLT, Nat.reduceLeDiff, Nat.reduceEqDiff, Int.reduceLT, Int.reduceLE, Int.reduceAdd, Int.reduceSub, Int.reduceMul, Int.reduceNeg, Int.reduceToNat, Int.reduceEq, Int.reduceNe, reduceIte, reduceCtorEq, BitVec.reduceOfInt, BitVec.reduceToNat]; try simp only [top_out])
    refine refbits_ok fa _ _ ?_
    (refine top_in ?_; simp -implicitDefEqProofs only [go_sem, -List.reduceReplicate, ↓L_gdZ_tt, ↓L_gdZ_tf, ↓L_gdZ_ft, ↓L_gdZ_ff, ↓T_and, ↓T_imp, ↓T_all, Nat.reduceBEq, Nat.reduceAdd, Nat.reduceSub, Nat.reduceMul, Nat.reduceLT, Nat.reduceLeDiff, Nat.reduceEqDiff, Int.reduceLT, Int.reduceLE, Int.reduceAdd, Int.reduceSub, Int.reduceMul, Int.reduceNeg, Int.reduceToNat, Int.reduceEq, Int.reduceNe, reduceIte, reduceCtorEq, BitVec.reduceOfInt, BitVec.reduceToNat]; try simp only [top_out])
    refine ⟨fun h => ?_, fun h => ?_⟩
    · have hj' : j < (addrL fa hi lo).length := by omega
      refine loop_code tabOK (by kernel_rfl) (fun i ts M' => ∃ k : Nat, k + i = 8 ∧ M' = M ++ [.row [.i .i64 fa, .u64 hi, .u64 lo] 45, .row (bS ((addrL fa hi lo).take j ++ z)) ty] ∧
        frC [none, some (.p M.length 0), none, none, some (.sl (M.length + 1) 0 j (j + z.length)), some (.i .i64 (8 * j)), some (.i .i64 (hiB ((addrL fa hi lo).getD j 0#8) k)), some (.i .i64 k), none, none, none, none, none, none, none, none, none, none, none, none, none, none, none, none, none, none, none, none, none, none, none, none, none, none, none, none, none, none, none, none] ts) 8 ?_ ?_
      · refine ⟨0, rfl, rfl, ?_⟩
        simp [frC, hiB_0]
      · rintro i ts _ ⟨k, hk, rfl, hf⟩
        obtain ⟨f, rfl⟩ := frC_open _ _ 0 hf
        clear hf
        (refine top_in ?_; simp -implicitDefEqProofs only [go_sem, -List.reduceReplicate, ↓L_gdZ_tt, ↓L_gdZ_tf, ↓L_gdZ_ft, ↓L_gdZ_ff, ↓T_and, ↓T_imp, ↓T_all, Nat.reduceBEq, Nat.reduceAdd, Nat.reduceSub, Nat.reduceMul, Nat.reduceLT, Nat.reduceLeDiff, Nat.reduceEqDiff, Int.reduceLT, Int.reduceLE, Int.reduceAdd, Int.reduceSub, Int.reduceMul, Int.reduceNeg, Int.reduceToNat, Int.reduceEq, Int.reduceNe, reduceIte, reduceCtorEq, BitVec.reduceOfInt, BitVec.reduceToNat]; try simp only [top_out])
        have hq := hiB_le ((addrL fa hi lo).getD j 0#8) k
        have hq' := hiB_le ((addrL fa hi lo).getD j 0#8) (k + 1)
        refine ⟨fun h => ?_, fun h => ?_⟩
        · have hk8 : k < 8 := by omega
          have hn := hiB_next ((addrL fa hi lo).getD j 0#8) k hk8
          rw [w64 (x := 8 * (j : Int) + k) (by omega) (by omega), w64 (x := 2 * hiB _ _) (by omega) (by omega), show 8 * (j : Int) + k = ((8 * j + k : Nat) : Int) by omega]
          obtain ⟨n, hn'⟩ : ∃ n : Nat, ((8 * j + k : Nat) : Int) + n + 1 = bitsI fa := ⟨(bitsI fa - (8 * j + k : Nat) - 1).toNat, by omega⟩
          refine refbit_ok fa hi lo (8 * j + k) n hn' _ _ ?_
          rw [addr_bit hv hj' hk8 n hn']
          (refine top_in ?_; simp -implicitDefEqProofs only [go_sem, -List.reduceReplicate, ↓L_gdZ_tt, ↓L_gdZ_tf, ↓L_gdZ_ft, ↓L_gdZ_ff, ↓T_and, ↓T_imp, ↓T_all, Nat.reduceBEq, Nat.reduceAdd, Nat.reduceSub, Nat.reduceMul, Nat.reduceLT, Nat.reduceLeDiff, Nat.reduceEqDiff, Int.reduceLT, Int.reduceLE, Int.reduceAdd, Int.reduceSub, Int.reduceMul, Int.reduceNeg, Int.reduceToNat, Int.reduceEq, Int.reduceNe, reduceIte, reduceCtorEq, BitVec.reduceOfInt, BitVec.reduceToNat]; try simp only [top_out])
          rw [w64 (x := (k : Int) + 1) (by omega) (by omega)]
          refine ⟨fun h1 => ?_, fun h1 => ?_⟩
          · rw [if_pos h1] at hn
            exact ⟨i - 1, by omega, k + 1, by omega, by rw [w64 (by omega) (by omega)]; exact hn, by omega⟩
          · rw [if_neg (by rw [h1]; simp)] at hn
            exact ⟨i - 1, by omega, k + 1, by omega, by omega, by omega⟩
        · obtain rfl : k = 8 := by omega
          rw [hiB_8]
          have hmin : min j (addrL fa hi lo).length = j := by omega
          refine ⟨by decide, ?_⟩
          refine app8 (M.length + 1) ((addrL fa hi lo).take j) z [(addrL fa hi lo).getD j 0#8] ty rfl rfl rfl (by rw [get_app]; rfl) (by simp; omega) (by simp; omega) (src_u8 (by rw [get_app]; rfl)) (by simp; omega) ?_
          intro z' ty'
          (refine top_in ?_; simp -implicitDefEqProofs only [go_sem, -List.reduceReplicate, ↓L_gdZ_tt, ↓L_gdZ_tf, ↓L_gdZ_ft, ↓L_gdZ_ff, ↓T_and, ↓T_imp, ↓T_all, Nat.reduceBEq, Nat.reduceAdd, Nat.reduceSub, Nat.reduceMul, Nat.reduceLT, Nat.reduceLeDiff, Nat.reduceEqDiff, Int.reduceLT, Int.reduceLE, Int.reduceAdd, Int.reduceSub, Int.reduceMul, Int.reduceNeg, Int.reduceToNat, Int.reduceEq, Int.reduceNe, reduceIte, reduceCtorEq, BitVec.reduceOfInt, BitVec.reduceToNat]; try simp only [top_out])
          rw [w64 (x := 8 * (j : Int) + 8) (by omega) (by omega), List.length_take, hmin]
          refine covF_gc hM [some 0, some 3] [none, some (.p M.length 0), none, none, some (.sl (M.length + 1) 0 (j + 1) (j + 1 + z'.length)), some (.i .i64 (8 * (j + 1))), none, none, none, none, none, none, none, none, none, none, none, none, none, none, none, none, none, none, none, none, none, none, none, none, none, none, none, none, none, none, none, none, none, none] [.row [.i .i64 fa, .u64 hi, .u64 lo] 45, .row (bS ((addrL fa hi lo).take j ++ (addrL fa hi lo).getD j 0#8 :: z')) ty'] rfl ⟨keepA rfl, keep8 rfl, trivial⟩ (by simp only [List.all_cons, List.all_nil, lt_row, lt_ad, Bool.and_true]) ?_ ?_ (fun ts' h => ⟨m - 1, by omega, j + 1, z', ty', by omega, by rw [take_snoc (by omega)]; simp, by simpa using h⟩)
          · rw [show 8 * (j : Int) + 8 = 8 * (j + 1) by omega]
            simp only [Int.natCast_add, cast_lit, Nat.add_assoc, rnSl_n, frRn_nil, frRn_s, frRn_n, frLt_nil, frLt_s, frLt_n, rn_i, rn_u8, rn_u32, rn_u64, rn_b, rn_str, rn_sn, rn_pn, rn_agg, rn_tup, rnL_nil, rnL_cons, rn_bS, rn_nil, rn_sl_at, rn_sl_at0, rn_p_at, rn_p_at0, rnSl_s, rnP_s, lt_i, lt_u8, lt_u32, lt_u64, lt_b, lt_sl, lt_p, lt_agg, lt_tup, ltL_nil', ltL_cons, bS_lt, List.getElem?_cons_succ, List.getElem?_cons_zero, Option.join_some, Nat.add_zero, Nat.zero_add, implies_true, and_self, and_true, true_and, Bool.and_true, Bool.true_and, Bool.and_self, List.length_cons, List.length_nil, List.length_append, decide_eq_true_eq, Bool.and_eq_true]
          · simp only [Int.natCast_add, cast_lit, Nat.add_assoc, rnSl_n, frRn_nil, frRn_s, frRn_n, frLt_nil, frLt_s, frLt_n, rn_i, rn_u8, rn_u32, rn_u64, rn_b, rn_str, rn_sn, rn_pn, rn_agg, rn_tup, rnL_nil, rnL_cons, rn_bS, rn_nil, rn_sl_at, rn_sl_at0, rn_p_at, rn_p_at0, rnSl_s, rnP_s, lt_i, lt_u8, lt_u32, lt_u64, lt_b, lt_sl, lt_p, lt_agg, lt_tup, ltL_nil', ltL_cons, bS_lt, List.getElem?_cons_succ, List.getElem?_cons_zero, Option.join_some, Nat.add_zero, Nat.zero_add, implies_true, and_self, and_true, true_and, Bool.and_true, Bool.true_and, Bool.and_self, List.length_cons, List.length_nil, List.length_append, decide_eq_true_eq, Bool.and_eq_true]; omega
    · obtain rfl : j = (addrL fa hi lo).length := by omega
      rw [List.take_length]
      exact drop8 1 hM rfl rfl (h1 z ty)
end Go.Proofs.Ytdkdbeamimkljaa.Eng
