/- Prefixes: held against each other, their order. -/
import Derived.Test.YtdcplcfedcmcmaaMb
import Derived.Test.YtdcplcfedcmcmaaMa
namespace Go.Proofs.Ytdcplcfedcmcmaa.Eng
open Go Go.RowKit
set_option linter.unusedSimpArgs false
set_option linter.unusedVariables false

theorem nanI_ok (a : Int) (M : List Blk) (K : SV → List Blk → Prop) (hK : K (.b false) M) : callVC Try.prog 89 [.i .i64 a] M K := by
  refine fn_rule tabOK Try.func89 rfl Try.call89 (by kernel_rfl) (fun hM => ?_)
  (refine top_in ?_; simp -implicitDefEqProofs only [Try.ntmps89, Try.results89, go_sem, -List.reduceReplicate, ↓L_gdZ_tt, ↓L_gdZ_tf, ↓L_gdZ_ft, ↓L_gdZ_ff, ↓T_and, ↓T_imp, ↓T_all]; try simp only [top_out])
  have : (a != a) = false := by simp
  rw [this]
  exact dropC_self hM rfl hK
theorem nanU_ok (a : BitVec 64) (M : List Blk) (K : SV → List Blk → Prop) (hK : K (.b false) M) : callVC Try.prog 90 [.u64 a] M K := by
  refine fn_rule tabOK Try.func90 rfl Try.call90 (by kernel_rfl) (fun hM => ?_)
  (refine top_in ?_; simp -implicitDefEqProofs only [Try.ntmps90, Try.results90, go_sem, -List.reduceReplicate, ↓L_gdZ_tt, ↓L_gdZ_tf, ↓L_gdZ_ft, ↓L_gdZ_ff, ↓T_and, ↓T_imp, ↓T_all]; try simp only [top_out])
  have : (a != a) = false := by simp
  rw [this]
  exact dropC_self hM rfl hK
theorem cmpI_ok (a b : Int) (M : List Blk) (K : SV → List Blk → Prop) (hK : K (.i .i64 (ordI a b)) M) : callVC Try.prog 67 [.i .i64 a, .i .i64 b] M K := by
  refine fn_rule tabOK Try.func67 rfl Try.call67 (by kernel_rfl) (fun hM => ?_)
  (refine top_in ?_; simp -implicitDefEqProofs only [Try.ntmps67, Try.results67, go_sem, -List.reduceReplicate, ↓L_gdZ_tt, ↓L_gdZ_tf, ↓L_gdZ_ft, ↓L_gdZ_ff, ↓T_and, ↓T_imp, ↓T_all]; try simp only [top_out])
  refine nanI_ok _ _ _ ?_
  (refine top_in ?_; simp -implicitDefEqProofs only [go_sem, -List.reduceReplicate, ↓L_gdZ_tt, ↓L_gdZ_tf, ↓L_gdZ_ft, ↓L_gdZ_ff, ↓T_and, ↓T_imp, ↓T_all]; try simp only [top_out])
  refine nanI_ok _ _ _ ?_
  (refine top_in ?_; simp -implicitDefEqProofs only [go_sem, -List.reduceReplicate, ↓L_gdZ_tt, ↓L_gdZ_tf, ↓L_gdZ_ft, ↓L_gdZ_ff, ↓T_and, ↓T_imp, ↓T_all]; try simp only [top_out])
  unfold ordI at hK
  refine ⟨fun h => dropC_self hM rfl ?_, fun h => ⟨fun h' => dropC_self hM rfl ?_, fun h' => dropC_self hM rfl ?_⟩⟩
  · rwa [if_pos h] at hK
  · rwa [if_neg h, if_pos h'] at hK
  · rwa [if_neg h, if_neg h'] at hK
theorem cmpU_ok (a b : BitVec 64) (M : List Blk) (K : SV → List Blk → Prop) (hK : K (.i .i64 (ordN a b)) M) : callVC Try.prog 68 [.u64 a, .u64 b] M K := by
  refine fn_rule tabOK Try.func68 rfl Try.call68 (by kernel_rfl) (fun hM => ?_)
  (refine top_in ?_; simp -implicitDefEqProofs only [Try.ntmps68, Try.results68, go_sem, -List.reduceReplicate, ↓L_gdZ_tt, ↓L_gdZ_tf, ↓L_gdZ_ft, ↓L_gdZ_ff, ↓T_and, ↓T_imp, ↓T_all]; try simp only [top_out])
  refine nanU_ok _ _ _ ?_
  (refine top_in ?_; simp -implicitDefEqProofs only [go_sem, -List.reduceReplicate, ↓L_gdZ_tt, ↓L_gdZ_tf, ↓L_gdZ_ft, ↓L_gdZ_ff, ↓T_and, ↓T_imp, ↓T_all]; try simp only [top_out])
  refine nanU_ok _ _ _ ?_
  (refine top_in ?_; simp -implicitDefEqProofs only [go_sem, -List.reduceReplicate, ↓L_gdZ_tt, ↓L_gdZ_tf, ↓L_gdZ_ft, ↓L_gdZ_ff, ↓T_and, ↓T_imp, ↓T_all]; try simp only [top_out])
  unfold ordN at hK
  refine ⟨fun h => dropC_self hM rfl ?_, fun h => ⟨fun h' => dropC_self hM rfl ?_, fun h' => dropC_self hM rfl ?_⟩⟩
  · rwa [if_pos h] at hK
  · rwa [if_neg h, if_pos h'] at hK
  · rwa [if_neg h, if_neg h'] at hK
theorem or4_ok (n : Nat) (a b c d : Int) (ty : TypeId) (M : List Blk) (K : SV → List Blk → Prop) (h : M[n]? = some (.row [.i .i64 a, .i .i64 b, .i .i64 c, .i .i64 d] ty)) (hK : K (.i .i64 (orI [a, b, c, d])) M) : callVC Try.prog 66 [.sl n 0 4 4] M K := by
  simp only [orI] at hK
  refine fn_rule tabOK Try.func66 rfl Try.call66 (by kernel_rfl) (fun hM => ?_)
  (refine top_in ?_; simp -implicitDefEqProofs only [Try.ntmps66, Try.results66, go_sem, -List.reduceReplicate, ↓L_gdZ_tt, ↓L_gdZ_tf, ↓L_gdZ_ft, ↓L_gdZ_ff, ↓T_and, ↓T_imp, ↓T_all]; try simp only [top_out])
  have w1 : IntKind.i64.wrap 1 = 1 := w64 (by decide) (by decide)
  have w2 : IntKind.i64.wrap 2 = 2 := w64 (by decide) (by decide)
  have w3 : IntKind.i64.wrap 3 = 3 := w64 (by decide) (by decide)
  have w4 : IntKind.i64.wrap 4 = 4 := w64 (by decide) (by decide)
  refine loop_rounds tabOK (by kernel_rfl) 5 ?_
  (refine top_in ?_; simp -implicitDefEqProofs only [go_sem, -List.reduceReplicate, ↓L_gdZ_tt, ↓L_gdZ_tf, ↓L_gdZ_ft, ↓L_gdZ_ff, ↓T_and, ↓T_imp, ↓T_all, h, w1, w2, w3, w4, isI, cellI, decide_true]; try simp only [top_out])
  refine ⟨fun e => dropC_self hM rfl ?_, fun e => ⟨fun e1 => dropC_self hM rfl ?_, fun e1 => ⟨fun e2 => dropC_self hM rfl ?_, fun e2 => ⟨fun e3 => dropC_self hM rfl ?_, fun e3 => dropC_self hM rfl ?_⟩⟩⟩⟩
  · rwa [if_neg (bneT e)] at hK
  · rwa [if_pos (bneF e), if_neg (bneT e1)] at hK
  · rwa [if_pos (bneF e), if_pos (bneF e1), if_neg (bneT e2)] at hK
  · rwa [if_pos (bneF e), if_pos (bneF e1), if_pos (bneF e2), if_neg (bneT e3)] at hK
  · rwa [if_pos (bneF e), if_pos (bneF e1), if_pos (bneF e2), if_pos (bneF e3)] at hK
theorem ordI2_ok (a b : Int) (M : List Blk) (K : SV → List Blk → Prop) (hK : K (.i .i64 (ordI a b)) M) : callVC Try.prog 41 [.i .i64 a, .i .i64 b] M K := by
  refine fn_rule tabOK Try.func41 rfl Try.call41 (by kernel_rfl) (fun hM => ?_)
  (refine top_in ?_; simp -implicitDefEqProofs only [Try.ntmps41, Try.results41, go_sem, -List.reduceReplicate, ↓L_gdZ_tt, ↓L_gdZ_tf, ↓L_gdZ_ft, ↓L_gdZ_ff, ↓T_and, ↓T_imp, ↓T_all]; try simp only [top_out])
  unfold ordI at hK
  refine ⟨fun h => dropC_self hM rfl ?_, fun h => ⟨fun h' => dropC_self hM rfl ?_, fun h' => dropC_self hM rfl ?_⟩⟩
  · rwa [if_pos h] at hK
  · rwa [if_neg h, if_pos h'] at hK
  · rwa [if_neg h, if_neg h'] at hK
theorem ordN2_ok (a b : BitVec 64) (M : List Blk) (K : SV → List Blk → Prop) (hK : K (.i .i64 (ordN a b)) M) : callVC Try.prog 42 [.u64 a, .u64 b] M K := by
  refine fn_rule tabOK Try.func42 rfl Try.call42 (by kernel_rfl) (fun hM => ?_)
  (refine top_in ?_; simp -implicitDefEqProofs only [Try.ntmps42, Try.results42, go_sem, -List.reduceReplicate, ↓L_gdZ_tt, ↓L_gdZ_tf, ↓L_gdZ_ft, ↓L_gdZ_ff, ↓T_and, ↓T_imp, ↓T_all]; try simp only [top_out])
  unfold ordN at hK
  refine ⟨fun h => dropC_self hM rfl ?_, fun h => ⟨fun h' => dropC_self hM rfl ?_, fun h' => dropC_self hM rfl ?_⟩⟩
  · rwa [if_pos h] at hK
  · rwa [if_neg h, if_pos h'] at hK
  · rwa [if_neg h, if_neg h'] at hK
theorem pcmp_ok (p q : Pfx) (M : List Blk) (K : SV → List Blk → Prop) (hK : K (.i .i64 (cmpP p q)) M) : callVC Try.prog 33 [.agg (pxC p), .agg (pxC q)] M K := by
  unfold pxC
  refine fn_rule tabOK Try.func33 rfl Try.call33 (by kernel_rfl) (fun hM => ?_)
  (refine top_in ?_; simp -implicitDefEqProofs only [Try.ntmps33, Try.results33, go_sem, -List.reduceReplicate, ↓L_gdZ_tt, ↓L_gdZ_tf, ↓L_gdZ_ft, ↓L_gdZ_ff, ↓T_and, ↓T_imp, ↓T_all]; try simp only [top_out])
  refine draw_rule tabOK (by kernel_rfl : _) (.p 0 (.p 1 (.p 2 (.p 3 (.p 4 (.p 5 (.p 7 (.p 8 (.p 9 (.p 10 (.p 12 (.p 13 (.p 14 (.p 15 (.p 16 (.p 17 (.p 19 (.p 20 (.p 21 (.p 22 (.p 23 (.p 24 (.e 6 [7, 8, 9, 10, 12, 13, 14, 15, 16, 17, 19, 20, 21, 22, 23, 24] (.e 11 [12, 13, 14, 15, 16, 17, 19, 20, 21, 22, 23, 24] (.e 18 [19, 20, 21, 22, 23, 24] (.e 25 [] (.e 26 [] (.e 27 [] (.p 28 .nil) .no) .no) .no) .no) .no) .no))))))))))))))))))))))) (by kernel_rfl) (by kernel_rfl) ?_
  (refine top_in ?_; simp -implicitDefEqProofs only [go_sem, -List.reduceReplicate, ↓L_gdZ_tt, ↓L_gdZ_tf, ↓L_gdZ_ft, ↓L_gdZ_ff, ↓T_and, ↓T_imp, ↓T_all]; try simp only [top_out])
  refine cmpI_ok _ _ _ _ ?_
  (refine top_in ?_; simp -implicitDefEqProofs only [go_sem, -List.reduceReplicate, ↓L_gdZ_tt, ↓L_gdZ_tf, ↓L_gdZ_ft, ↓L_gdZ_ff, ↓T_and, ↓T_imp, ↓T_all]; try simp only [top_out])
  refine cmpI_ok _ _ _ _ ?_
  (refine top_in ?_; simp -implicitDefEqProofs only [go_sem, -List.reduceReplicate, ↓L_gdZ_tt, ↓L_gdZ_tf, ↓L_gdZ_ft, ↓L_gdZ_ff, ↓T_and, ↓T_imp, ↓T_all]; try simp only [top_out])
  refine cmpU_ok _ _ _ _ ?_
  (refine top_in ?_; simp -implicitDefEqProofs only [go_sem, -List.reduceReplicate, ↓L_gdZ_tt, ↓L_gdZ_tf, ↓L_gdZ_ft, ↓L_gdZ_ff, ↓T_and, ↓T_imp, ↓T_all]; try simp only [top_out])
  refine cmpU_ok _ _ _ _ ?_
  (refine top_in ?_; simp -implicitDefEqProofs only [go_sem, -List.reduceReplicate, ↓L_gdZ_tt, ↓L_gdZ_tf, ↓L_gdZ_ft, ↓L_gdZ_ff, ↓T_and, ↓T_imp, ↓T_all]; try simp only [top_out])
  refine ⟨by decide, ?_⟩
  refine or4_ok _ _ _ _ _ _ _ _ (by rw [get_app]; rfl) ?_
  (refine top_in ?_; simp -implicitDefEqProofs only [go_sem, -List.reduceReplicate, ↓L_gdZ_tt, ↓L_gdZ_tf, ↓L_gdZ_ft, ↓L_gdZ_ff, ↓T_and, ↓T_imp, ↓T_all]; try simp only [top_out])
  exact dropC_append hM rfl hK
theorem rcmp_ok (p q : Pfx) (M : List Blk) (K : SV → List Blk → Prop) (hK : K (.i .i64 (cmpP p q)) M) : callVC Try.prog 21 [.agg (pxC p), .agg (pxC q)] M K := by
  unfold pxC
  refine fn_rule tabOK Try.func21 rfl Try.call21 (by kernel_rfl) (fun hM => ?_)
  (refine top_in ?_; simp -implicitDefEqProofs only [Try.ntmps21, Try.results21, go_sem, -List.reduceReplicate, ↓L_gdZ_tt, ↓L_gdZ_tf, ↓L_gdZ_ft, ↓L_gdZ_ff, ↓T_and, ↓T_imp, ↓T_all]; try simp only [top_out])
  refine draw_rule tabOK (by kernel_rfl : _) (.p 0 (.p 1 (.p 2 (.p 3 (.p 4 (.p 5 (.p 7 (.p 8 (.p 9 (.p 10 (.p 12 (.p 13 (.p 14 (.p 15 (.p 16 (.p 17 (.p 19 (.p 20 (.p 21 (.p 22 (.p 23 (.p 24 (.e 6 [7, 8, 9, 10, 12, 13, 14, 15, 16, 17, 19, 20, 21, 22, 23, 24] (.e 11 [12, 13, 14, 15, 16, 17, 19, 20, 21, 22, 23, 24] (.e 18 [19, 20, 21, 22, 23, 24] (.e 25 [] (.e 26 [] (.p 27 .nil) .no) .no) .no) .no) .no))))))))))))))))))))))) (by kernel_rfl) (by kernel_rfl) ?_
  (refine top_in ?_; simp -implicitDefEqProofs only [go_sem, -List.reduceReplicate, ↓L_gdZ_tt, ↓L_gdZ_tf, ↓L_gdZ_ft, ↓L_gdZ_ff, ↓T_and, ↓T_imp, ↓T_all]; try simp only [top_out])
  refine ordI2_ok _ _ _ _ ?_
  (refine top_in ?_; simp -implicitDefEqProofs only [go_sem, -List.reduceReplicate, ↓L_gdZ_tt, ↓L_gdZ_tf, ↓L_gdZ_ft, ↓L_gdZ_ff, ↓T_and, ↓T_imp, ↓T_all]; try simp only [top_out])
  refine ordI2_ok _ _ _ _ ?_
  (refine top_in ?_; simp -implicitDefEqProofs only [go_sem, -List.reduceReplicate, ↓L_gdZ_tt, ↓L_gdZ_tf, ↓L_gdZ_ft, ↓L_gdZ_ff, ↓T_and, ↓T_imp, ↓T_all]; try simp only [top_out])
  refine ordN2_ok _ _ _ _ ?_
  (refine top_in ?_; simp -implicitDefEqProofs only [go_sem, -List.reduceReplicate, ↓L_gdZ_tt, ↓L_gdZ_tf, ↓L_gdZ_ft, ↓L_gdZ_ff, ↓T_and, ↓T_imp, ↓T_all]; try simp only [top_out])
  refine ordN2_ok _ _ _ _ ?_
  (refine top_in ?_; simp -implicitDefEqProofs only [go_sem, -List.reduceReplicate, ↓L_gdZ_tt, ↓L_gdZ_tf, ↓L_gdZ_ft, ↓L_gdZ_ff, ↓T_and, ↓T_imp, ↓T_all]; try simp only [top_out])
  refine ⟨by decide, ?_⟩
  have w1 : IntKind.i64.wrap 1 = 1 := w64 (by decide) (by decide)
  have w2 : IntKind.i64.wrap 2 = 2 := w64 (by decide) (by decide)
  have w3 : IntKind.i64.wrap 3 = 3 := w64 (by decide) (by decide)
  have w4 : IntKind.i64.wrap 4 = 4 := w64 (by decide) (by decide)
  refine loop_rounds tabOK (by kernel_rfl) 5 ?_
  (refine top_in ?_; simp -implicitDefEqProofs only [go_sem, -List.reduceReplicate, ↓L_gdZ_tt, ↓L_gdZ_tf, ↓L_gdZ_ft, ↓L_gdZ_ff, ↓T_and, ↓T_imp, ↓T_all, w1, w2, w3, w4, isI, cellI, decide_true]; try simp only [top_out])
  unfold cmpP at hK
  simp only [orI] at hK
  refine ⟨fun e => dropC_append hM rfl ?_, fun e => ⟨fun e1 => dropC_append hM rfl ?_, fun e1 => ⟨fun e2 => dropC_append hM rfl ?_, fun e2 => ⟨fun e3 => dropC_append hM rfl ?_, fun e3 => dropC_append hM rfl ?_⟩⟩⟩⟩
  · rwa [if_neg (bneT e)] at hK
  · rwa [if_pos (bneF e), if_neg (bneT e1)] at hK
  · rwa [if_pos (bneF e), if_pos (bneF e1), if_neg (bneT e2)] at hK
  · rwa [if_pos (bneF e), if_pos (bneF e1), if_pos (bneF e2), if_neg (bneT e3)] at hK
  · rwa [if_pos (bneF e), if_pos (bneF e1), if_pos (bneF e2), if_pos (bneF e3)] at hK
theorem sameA_ok (a b : Int) (h h' l l' : BitVec 64) (M : List Blk) (K : SV → List Blk → Prop) (hK : K (.b (decide (a = b ∧ h = h' ∧ l = l'))) M) : callVC Try.prog 37 [.agg [.i .i64 a, .u64 h, .u64 l], .agg [.i .i64 b, .u64 h', .u64 l']] M K := by
  refine fn_rule tabOK Try.func37 rfl Try.call37 (by kernel_rfl) (fun hM => ?_)
  (refine top_in ?_; simp -implicitDefEqProofs only [Try.ntmps37, Try.results37, go_sem, -List.reduceReplicate, ↓L_gdZ_tt, ↓L_gdZ_tf, ↓L_gdZ_ft, ↓L_gdZ_ff, ↓T_and, ↓T_imp, ↓T_all]; try simp only [top_out])
  repeat' (with_reducible first | refine And.intro ?_ ?_ | intro)
  all_goals first | refine dropB hM hK ?_ | refine dropB0 hM hK ?_
  all_goals simp_all
  all_goals try rfl
theorem pfx_eq {p q : Pfx} : (p = q) ↔ ((p.fam = q.fam ∧ p.hi = q.hi ∧ p.lo = q.lo) ∧ p.bits = q.bits) := by
  obtain ⟨a, b, c, d⟩ := p
  obtain ⟨a', b', c', d'⟩ := q
  simp [and_assoc]
theorem sameX_ok (p q : Pfx) (M : List Blk) (K : SV → List Blk → Prop) (hK : K (.b (decide (p = q))) M) : callVC Try.prog 19 [.agg (pxC p), .agg (pxC q)] M K := by
  have e := @pfx_eq p q
  unfold pxC
  refine fn_rule tabOK Try.func19 rfl Try.call19 (by kernel_rfl) (fun hM => ?_)
  (refine top_in ?_; simp -implicitDefEqProofs only [Try.ntmps19, Try.results19, go_sem, -List.reduceReplicate, ↓L_gdZ_tt, ↓L_gdZ_tf, ↓L_gdZ_ft, ↓L_gdZ_ff, ↓T_and, ↓T_imp, ↓T_all]; try simp only [top_out])
  refine sameA_ok _ _ _ _ _ _ _ _ ?_
  (refine top_in ?_; simp -implicitDefEqProofs only [go_sem, -List.reduceReplicate, ↓L_gdZ_tt, ↓L_gdZ_tf, ↓L_gdZ_ft, ↓L_gdZ_ff, ↓T_and, ↓T_imp, ↓T_all]; try simp only [top_out])
  repeat' (with_reducible first | refine And.intro ?_ ?_ | intro)
  all_goals first | refine dropB hM hK ?_ | refine dropB0 hM hK ?_
  all_goals simp_all
  all_goals try rfl
theorem okA_ok (p : Pfx) (M : List Blk) (K : SV → List Blk → Prop) (hK : K (.b (validA p)) M) : callVC Try.prog 71 [.agg [.i .i64 p.fam, .u64 p.hi, .u64 p.lo]] M K := by
  unfold validA at hK
  refine fn_rule tabOK Try.func71 rfl Try.call71 (by kernel_rfl) (fun hM => ?_)
  (refine top_in ?_; simp -implicitDefEqProofs only [Try.ntmps71, Try.results71, go_sem, -List.reduceReplicate, ↓L_gdZ_tt, ↓L_gdZ_tf, ↓L_gdZ_ft, ↓L_gdZ_ff, ↓T_and, ↓T_imp, ↓T_all]; try simp only [top_out])
  repeat' (with_reducible first | refine And.intro ?_ ?_ | intro)
  all_goals first | refine dropB hM hK ?_ | refine dropB0 hM hK ?_
  all_goals simp_all
  all_goals try rfl
theorem okA2_ok (p : Pfx) (M : List Blk) (K : SV → List Blk → Prop) (hK : K (.b (validA p)) M) : callVC Try.prog 38 [.agg [.i .i64 p.fam, .u64 p.hi, .u64 p.lo]] M K := by
  unfold validA at hK
  refine fn_rule tabOK Try.func38 rfl Try.call38 (by kernel_rfl) (fun hM => ?_)
  (refine top_in ?_; simp -implicitDefEqProofs only [Try.ntmps38, Try.results38, go_sem, -List.reduceReplicate, ↓L_gdZ_tt, ↓L_gdZ_tf, ↓L_gdZ_ft, ↓L_gdZ_ff, ↓T_and, ↓T_imp, ↓T_all]; try simp only [top_out])
  repeat' (with_reducible first | refine And.intro ?_ ?_ | intro)
  all_goals first | refine dropB hM hK ?_ | refine dropB0 hM hK ?_
  all_goals simp_all
  all_goals try rfl
theorem widthP_ok (f : Int) (M : List Blk) (K : SV → List Blk → Prop) (hK : K (.i .i64 (widthP f)) M) : callVC Try.prog 72 [.i .i64 f] M K := by
  unfold widthP at hK
  refine fn_rule tabOK Try.func72 rfl Try.call72 (by kernel_rfl) (fun hM => ?_)
  (refine top_in ?_; simp -implicitDefEqProofs only [Try.ntmps72, Try.results72, go_sem, -List.reduceReplicate, ↓L_gdZ_tt, ↓L_gdZ_tf, ↓L_gdZ_ft, ↓L_gdZ_ff, ↓T_and, ↓T_imp, ↓T_all]; try simp only [top_out])
  refine ⟨fun h => dropC_self hM rfl ?_, fun h => ⟨fun h' => dropC_self hM rfl ?_, fun h' => dropC_self hM rfl ?_⟩⟩
  all_goals simp_all
theorem widthR_ok (f : Int) (M : List Blk) (K : SV → List Blk → Prop) (hK : K (.i .i64 (widthP f)) M) : callVC Try.prog 39 [.i .i64 f] M K := by
  unfold widthP at hK
  refine fn_rule tabOK Try.func39 rfl Try.call39 (by kernel_rfl) (fun hM => ?_)
  (refine top_in ?_; simp -implicitDefEqProofs only [Try.ntmps39, Try.results39, go_sem, -List.reduceReplicate, ↓L_gdZ_tt, ↓L_gdZ_tf, ↓L_gdZ_ft, ↓L_gdZ_ff, ↓T_and, ↓T_imp, ↓T_all]; try simp only [top_out])
  refine ⟨fun h => dropC_self hM rfl ?_, fun h => ⟨fun h' => dropC_self hM rfl ?_, fun h' => dropC_self hM rfl ?_⟩⟩
  all_goals simp_all
theorem ones_ok (n : Int) (h0 : 0 ≤ n) (M : List Blk) (K : SV → List Blk → Prop) (hK : K (.u64 (onesP n)) M) : callVC Try.prog 92 [.i .i64 n] M K := by
  refine fn_rule tabOK Try.func92 rfl Try.call92 (by kernel_rfl) (fun hM => ?_)
  (refine top_in ?_; simp -implicitDefEqProofs only [Try.ntmps92, Try.results92, go_sem, -List.reduceReplicate, ↓L_gdZ_tt, ↓L_gdZ_tf, ↓L_gdZ_ft, ↓L_gdZ_ff, ↓T_and, ↓T_imp, ↓T_all]; try simp only [top_out])
  exact ⟨h0, dropC_self hM rfl hK⟩
theorem cut_ok (p : Pfx) (hv : validA p = true) (h0 : 0 ≤ p.bits) (h1 : p.bits ≤ widthP p.fam) (M : List Blk) (K : SV → List Blk → Prop) (hK : K (.agg [.i .i64 p.fam, .u64 (cutP p).1, .u64 (cutP p).2]) M) : callVC Try.prog 73 [.agg [.i .i64 p.fam, .u64 p.hi, .u64 p.lo], .i .i64 p.bits] M K := by
  have hf : p.fam = 6 ∨ p.fam = 4 := by
    unfold validA at hv
    simp only [Bool.or_eq_true, Bool.and_eq_true, decide_eq_true_eq] at hv
    omega
  unfold cutP at hK
  refine fn_rule tabOK Try.func73 rfl Try.call73 (by kernel_rfl) (fun hM => ?_)
  (refine top_in ?_; simp -implicitDefEqProofs only [Try.ntmps73, Try.results73, go_sem, -List.reduceReplicate, ↓L_gdZ_tt, ↓L_gdZ_tf, ↓L_gdZ_ft, ↓L_gdZ_ff, ↓T_and, ↓T_imp, ↓T_all]; try simp only [top_out])
  refine ⟨fun h => ?_, fun h => ?_⟩
  · have h4 := beqT h
    have hb : p.bits ≤ 32 := by rw [h4] at h1; simpa [widthP] using h1
    rw [if_pos h4] at hK
    refine draw_rule tabOK (by kernel_rfl : _) (.p 0 (.p 1 (.p 2 (.p 3 (.e 4 [0, 1] (.p 5 (.p 6 (.e 7 [] .nil .no))) .no))))) (by kernel_rfl) (by kernel_rfl) ?_
    (refine top_in ?_; simp -implicitDefEqProofs only [go_sem, -List.reduceReplicate, ↓L_gdZ_tt, ↓L_gdZ_tf, ↓L_gdZ_ft, ↓L_gdZ_ff, ↓T_and, ↓T_imp, ↓T_all]; try simp only [top_out])
    rw [w64 (by omega) (by omega)]
    refine ones_ok _ (by omega) _ _ ?_
    (refine top_in ?_; simp -implicitDefEqProofs only [go_sem, -List.reduceReplicate, ↓L_gdZ_tt, ↓L_gdZ_tf, ↓L_gdZ_ft, ↓L_gdZ_ff, ↓T_and, ↓T_imp, ↓T_all]; try simp only [top_out])
    exact dropC_append hM rfl hK
  · have h4 := beqF h
    have h6 : p.fam = 6 := by omega
    have hb : p.bits ≤ 128 := by rw [h6] at h1; simpa [widthP] using h1
    rw [if_neg h4] at hK
    refine draw_rule tabOK (by kernel_rfl : _) (.p 0 (.p 1 (.p 2 (.p 3 (.p 4 (.e 5 [0, 1] (.p 6 (.p 7 (.e 8 [] .nil .no))) .no)))))) (by kernel_rfl) (by kernel_rfl) ?_
    (refine top_in ?_; simp -implicitDefEqProofs only [go_sem, -List.reduceReplicate, ↓L_gdZ_tt, ↓L_gdZ_tf, ↓L_gdZ_ft, ↓L_gdZ_ff, ↓T_and, ↓T_imp, ↓T_all]; try simp only [top_out])
    rw [w64 (by omega) (by omega)]
    refine ones_ok _ (by omega) _ _ ?_
    (refine top_in ?_; simp -implicitDefEqProofs only [go_sem, -List.reduceReplicate, ↓L_gdZ_tt, ↓L_gdZ_tf, ↓L_gdZ_ft, ↓L_gdZ_ff, ↓T_and, ↓T_imp, ↓T_all]; try simp only [top_out])
    refine draw_rule tabOK (by kernel_rfl : _) (.p 0 (.p 1 (.p 2 (.p 3 (.p 4 (.e 5 [0, 1] (.p 6 (.p 7 (.e 8 [] .nil .no))) .no)))))) (by kernel_rfl) (by kernel_rfl) ?_
    (refine top_in ?_; simp -implicitDefEqProofs only [go_sem, -List.reduceReplicate, ↓L_gdZ_tt, ↓L_gdZ_tf, ↓L_gdZ_ft, ↓L_gdZ_ff, ↓T_and, ↓T_imp, ↓T_all]; try simp only [top_out])
    rw [w64 (by omega) (by omega)]
    refine ones_ok _ (by omega) _ _ ?_
    (refine top_in ?_; simp -implicitDefEqProofs only [go_sem, -List.reduceReplicate, ↓L_gdZ_tt, ↓L_gdZ_tf, ↓L_gdZ_ft, ↓L_gdZ_ff, ↓T_and, ↓T_imp, ↓T_all]; try simp only [top_out])
    exact dropC_append hM rfl hK
theorem pvalid_ok (p : Pfx) (M : List Blk) (K : SV → List Blk → Prop) (hK : K (.b (validP p)) M) : callVC Try.prog 48 [.agg (pxC p)] M K := by
  rw [valid_cut] at hK
  unfold pxC
  refine fn_rule tabOK Try.func48 rfl Try.call48 (by kernel_rfl) (fun hM => ?_)
  (refine top_in ?_; simp -implicitDefEqProofs only [Try.ntmps48, Try.results48, go_sem, -List.reduceReplicate, ↓L_gdZ_tt, ↓L_gdZ_tf, ↓L_gdZ_ft, ↓L_gdZ_ff, ↓T_and, ↓T_imp, ↓T_all]; try simp only [top_out])
  refine draw_rule tabOK (by kernel_rfl : _) (.p 0 (.p 1 (.e 2 [] (.p 3 (.p 4 (.p 5 (.p 6 (.p 7 (.p 8 (.p 9 (.p 10 (.p 11 (.p 12 (.p 13 (.e 14 [9, 10] (.p 15 (.p 16 (.p 17 (.p 18 (.p 19 (.p 20 (.p 21 (.p 23 (.p 24 (.e 22 [23, 24] (.p 25 (.p 26 (.p 27 .nil))) .no)))))))))) .no)))))))))))) .no))) (by kernel_rfl) (by kernel_rfl) ?_
  (refine top_in ?_; simp -implicitDefEqProofs only [go_sem, -List.reduceReplicate, ↓L_gdZ_tt, ↓L_gdZ_tf, ↓L_gdZ_ft, ↓L_gdZ_ff, ↓T_and, ↓T_imp, ↓T_all]; try simp only [top_out])
  refine okA_ok _ _ _ ?_
  (refine top_in ?_; simp -implicitDefEqProofs only [go_sem, -List.reduceReplicate, ↓L_gdZ_tt, ↓L_gdZ_tf, ↓L_gdZ_ft, ↓L_gdZ_ff, ↓T_and, ↓T_imp, ↓T_all]; try simp only [top_out])
  refine ⟨fun e => ⟨fun e0 => ?_, fun e0 => ?_⟩, fun e => ?_⟩
  · refine widthP_ok _ _ _ ?_
    (refine top_in ?_; simp -implicitDefEqProofs only [go_sem, -List.reduceReplicate, ↓L_gdZ_tt, ↓L_gdZ_tf, ↓L_gdZ_ft, ↓L_gdZ_ff, ↓T_and, ↓T_imp, ↓T_all]; try simp only [top_out])
    refine ⟨fun e1 => ?_, fun e1 => ?_⟩
    · refine cut_ok p e e0 e1 _ _ ?_
      (refine top_in ?_; simp -implicitDefEqProofs only [go_sem, -List.reduceReplicate, ↓L_gdZ_tt, ↓L_gdZ_tf, ↓L_gdZ_ft, ↓L_gdZ_ff, ↓T_and, ↓T_imp, ↓T_all]; try simp only [top_out])
      refine ⟨rfl, dropB hM hK ?_⟩
      have hpair : (cutP p = (p.hi, p.lo)) ↔ ((cutP p).1 = p.hi ∧ (cutP p).2 = p.lo) := Prod.ext_iff
      simp [e, e0, e1, eqL, eqS, hpair, Bool.decide_and]
      rfl
    · exact dropB hM hK (by simp [e, e0, e1])
  · exact dropB hM hK (by simp [e, e0])
  · exact dropB hM hK (by simp [e])
theorem bit_ok (p : Pfx) (i : Int) (hv : p.fam = 6 ∨ p.fam = 4) (h0 : 0 ≤ i) (h1 : i < widthP p.fam) (M : List Blk) (K : SV → List Blk → Prop) (hK : K (.b (bitP p (widthP p.fam - 1 - i.toNat))) M) : callVC Try.prog 40 [.agg [.i .i64 p.fam, .u64 p.hi, .u64 p.lo], .i .i64 i] M K := by
  have hw : widthP p.fam ≤ 128 ∧ 1 ≤ widthP p.fam := by unfold widthP; rcases hv with h | h <;> rw [h] <;> decide
  refine fn_rule tabOK Try.func40 rfl Try.call40 (by kernel_rfl) (fun hM => ?_)
  (refine top_in ?_; simp -implicitDefEqProofs only [Try.ntmps40, Try.results40, go_sem, -List.reduceReplicate, ↓L_gdZ_tt, ↓L_gdZ_tf, ↓L_gdZ_ft, ↓L_gdZ_ff, ↓T_and, ↓T_imp, ↓T_all]; try simp only [top_out])
  refine widthR_ok _ _ _ ?_
  (refine top_in ?_; simp -implicitDefEqProofs only [go_sem, -List.reduceReplicate, ↓L_gdZ_tt, ↓L_gdZ_tf, ↓L_gdZ_ft, ↓L_gdZ_ff, ↓T_and, ↓T_imp, ↓T_all]; try simp only [top_out])
  rw [w64 (x := (widthP p.fam : Int) - 1) (by omega) (by omega), w64 (x := (widthP p.fam : Int) - 1 - i) (by omega) (by omega), bit_eq, bit_eq]
  unfold bitP at hK
  refine ⟨fun e => ?_, fun e => ⟨by omega, dropB hM hK ?_⟩⟩
  · rw [w64 (x := (widthP p.fam : Int) - 1 - i - 64) (by omega) (by omega)]
    refine ⟨by omega, dropB hM hK ?_⟩
    rw [if_neg (by omega)]
    congr 1; omega
  · rw [if_pos (by omega)]
    congr 1; omega
theorem rvalid_ok (p : Pfx) (M : List Blk) (K : SV → List Blk → Prop) (hK : K (.b (validP p)) M) : callVC Try.prog 20 [.agg (pxC p)] M K := by
  have hP : validA p = true → 0 ≤ p.bits → p.bits ≤ widthP p.fam → validP p = (List.range (widthP p.fam - p.bits.toNat)).all fun k => !bitP p k := by
    intro h1 h2 h3
    unfold validP
    rw [h1, decide_eq_true h2, decide_eq_true h3]; simp
  unfold pxC
  refine fn_rule tabOK Try.func20 rfl Try.call20 (by kernel_rfl) (fun hM => ?_)
  (refine top_in ?_; simp -implicitDefEqProofs only [Try.ntmps20, Try.results20, go_sem, -List.reduceReplicate, ↓L_gdZ_tt, ↓L_gdZ_tf, ↓L_gdZ_ft, ↓L_gdZ_ff, ↓T_and, ↓T_imp, ↓T_all]; try simp only [top_out])
  refine okA2_ok _ _ _ ?_
  (refine top_in ?_; simp -implicitDefEqProofs only [go_sem, -List.reduceReplicate, ↓L_gdZ_tt, ↓L_gdZ_tf, ↓L_gdZ_ft, ↓L_gdZ_ff, ↓T_and, ↓T_imp, ↓T_all]; try simp only [top_out])
  refine widthR_ok _ _ _ ?_
  (refine top_in ?_; simp -implicitDefEqProofs only [go_sem, -List.reduceReplicate, ↓L_gdZ_tt, ↓L_gdZ_tf, ↓L_gdZ_ft, ↓L_gdZ_ff, ↓T_and, ↓T_imp, ↓T_all]; try simp only [top_out])
  have h0 : validA p = false ∨ p.bits < 0 ∨ (widthP p.fam : Int) < p.bits → validP p = false := by
    intro h
    unfold validP
    rcases h with h | h | h
    · rw [h]; rfl
    · rw [decide_eq_false (show ¬ 0 ≤ p.bits by omega)]; simp
    · rw [decide_eq_false (show ¬ p.bits ≤ widthP p.fam by omega)]; simp
  refine ⟨fun e => ⟨fun e0 => ⟨fun e1 => dropB hM hK (h0 (.inr (.inr e1))), fun e1 => ?_⟩, fun e0 => dropB hM hK (h0 (.inr (.inl (by omega))))⟩, fun e => dropB hM hK (h0 (.inl (by simpa using e)))⟩
  have hv : validA p = true := by simpa using e
  have hfam : p.fam = 6 ∨ p.fam = 4 := by
    unfold validA at hv
    simp only [Bool.or_eq_true, Bool.and_eq_true, decide_eq_true_eq] at hv
    omega
  have hw : widthP p.fam ≤ 128 := by unfold widthP; rcases hfam with h | h <;> rw [h] <;> decide
  have hP' := hP hv (by omega) (by omega)
  refine loop_code tabOK (by kernel_rfl) (fun n ts M' => ∃ k : Nat, k + n = widthP p.fam ∧ p.bits.toNat ≤ k ∧ (∀ j, p.bits.toNat ≤ j → j < k → bitP p (widthP p.fam - 1 - j) = false) ∧ M' = M ++ [.row (pxC p) 49] ∧ frC [none, some (.p M.length 0), none, none, some (.i .i64 (widthP p.fam)), some (.i .i64 k), none, none, none, none, none, none, none, none, none, none, none, none, none, none, none, none, none, none, none, none, none, none, none, none, none, none, none, none, none, none, none, none, none] ts) (widthP p.fam - p.bits.toNat) ?_ ?_
  · exact ⟨p.bits.toNat, by omega, by omega, fun j h1 h2 => by omega, rfl, by simp [frC]; omega⟩
  · rintro n ts _ ⟨k, hk, hb, hj, rfl, hf⟩
    unfold pxC
    obtain ⟨f, rfl⟩ := frC_open _ _ 0 hf
    clear hf
    (refine top_in ?_; simp -implicitDefEqProofs only [go_sem, -List.reduceReplicate, ↓L_gdZ_tt, ↓L_gdZ_tf, ↓L_gdZ_ft, ↓L_gdZ_ff, ↓T_and, ↓T_imp, ↓T_all]; try simp only [top_out])
    refine ⟨fun h => ?_, fun h => ?_⟩
    · refine bit_ok p k hfam (by omega) (by omega) _ _ ?_
      (refine top_in ?_; simp -implicitDefEqProofs only [go_sem, -List.reduceReplicate, ↓L_gdZ_tt, ↓L_gdZ_tf, ↓L_gdZ_ft, ↓L_gdZ_ff, ↓T_and, ↓T_imp, ↓T_all]; try simp only [top_out])
      refine ⟨fun h1 => dropB hM hK ?_, fun h1 => ⟨n - 1, by omega, k + 1, by omega, by omega, fun j j1 j2 => ?_, w64 (by omega) (by omega)⟩⟩
      · rw [hP', ← Bool.not_eq_true, List.all_eq_true]
        intro g
        have := g (widthP p.fam - 1 - k) (List.mem_range.2 (by omega))
        rw [h1] at this; cases this
      · rcases Nat.lt_or_ge j k with g | g
        · exact hj j j1 g
        · obtain rfl : j = k := by omega
          simpa using h1
    · refine dropB hM hK ?_
      rw [hP', List.all_eq_true]
      intro j hj'
      have := List.mem_range.1 hj'
      have g := hj (widthP p.fam - 1 - j) (by omega) (by omega)
      rw [show widthP p.fam - 1 - (widthP p.fam - 1 - j) = j by omega] at g
      rw [g]; rfl
end Go.Proofs.Ytdcplcfedcmcmaa.Eng
