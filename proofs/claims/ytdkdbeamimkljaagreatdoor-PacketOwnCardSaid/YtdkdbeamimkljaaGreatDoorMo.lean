/- Joined texts: B5, B6, B7. -/
import Derived.Test.YtdkdbeamimkljaaGreatDoorMn
namespace Go.Proofs.YtdkdbeamimkljaaGreatDoor.Eng
set_option linter.unusedSimpArgs false
set_option linter.unusedVariables false
open Go Go.RowKit
theorem SlO.sn {M : List Blk} : SlO M .sn [] := Own.sn
theorem boolsWrite_no (b : Nat) (base pass id : Int) (F : Nat → SV) (M : List Blk) (K : SV → List Blk → Prop) (h : Bk M b base pass F) (h0 : F 5 = .sn) (hK : K (.i .i64 id) M) :
    callVC Tryz.prog 62 [.p b 0, .i .i64 id] M K := by
  obtain ⟨R, ty, hb, hR⟩ := h
  have hl := hR.len
  have g := getD_of ((hR.f 5 (by decide) (by decide)).1.trans (congrArg some h0))
  refine fn_rule tabOK Tryz.func62 rfl Tryz.call62 (by kernel_rfl) (fun hM => ?_)
  (refine top_in ?_; simp -implicitDefEqProofs only [Tryz.ntmps62, Tryz.results62, go_sem, -List.reduceReplicate, ↓L_gdZ_tt, ↓L_gdZ_tf, ↓L_gdZ_ft, ↓L_gdZ_ff, ↓T_and, ↓T_imp, ↓T_all, hb, g, hl]; try simp only [top_out])
  refine loop_code tabOK (by kernel_rfl) (fun m ts M' => m = 0 ∧ M' = M ∧ frC [some (.p b 0), some (.i .i64 id), none, none, none, some (.i .i64 0), none, none, none, none, none, none, none, none, none, none, none, none, none, none, none, none, none, none, none, none, none, none, none, none, none, none, none, none, none, none, none, none, none, none, none, none, none, none] ts) 0 ?_ ?_
  · exact ⟨rfl, rfl, by simp [frC]⟩
  · rintro m ts M ⟨rfl, rfl, hf⟩
    obtain ⟨f, rfl⟩ := frC_open _ _ 0 hf
    clear hf
    (refine top_in ?_; simp -implicitDefEqProofs only [go_sem, -List.reduceReplicate, ↓L_gdZ_tt, ↓L_gdZ_tf, ↓L_gdZ_ft, ↓L_gdZ_ff, ↓T_and, ↓T_imp, ↓T_all, hb, g, hl]; try simp only [top_out])
    exact dropC_all (Nat.le_refl _) hK
theorem boolsGrow_no (b : Nat) (base pass id t : Int) (F : Nat → SV) (M : List Blk) (K : SV → List Blk → Prop) (h : Bk M b base pass F) (h0 : F 5 = .sn) (hK : K (.i .i64 id) M) :
    callVC Tryz.prog 96 [.p b 0, .i .i64 id, .i .i64 t] M K := by
  obtain ⟨R, ty, hb, hR⟩ := h
  have hl := hR.len
  have g := getD_of ((hR.f 5 (by decide) (by decide)).1.trans (congrArg some h0))
  refine fn_rule tabOK Tryz.func96 rfl Tryz.call96 (by kernel_rfl) (fun hM => ?_)
  (refine top_in ?_; simp -implicitDefEqProofs only [Tryz.ntmps96, Tryz.results96, go_sem, -List.reduceReplicate, ↓L_gdZ_tt, ↓L_gdZ_tf, ↓L_gdZ_ft, ↓L_gdZ_ff, ↓T_and, ↓T_imp, ↓T_all, hb, g, hl]; try simp only [top_out])
  refine loop_code tabOK (by kernel_rfl) (fun m ts M' => m = 0 ∧ M' = M ∧ frC (some (.p b 0) :: some (.i .i64 id) :: none :: none :: none :: none :: none :: some (.i .i64 0) :: none :: none :: none :: none :: none :: none :: none :: none :: none :: none :: none :: none :: none :: none :: none :: none :: none :: none :: none :: none :: none :: none :: none :: none :: none :: none :: none :: none :: none :: none :: none :: none :: none :: none :: none :: none :: none :: none :: none :: none :: none :: none :: none :: none :: none :: none :: none :: none :: none :: none :: none :: none :: none :: none :: none :: none :: none :: none :: []) ts) 0 ?_ ?_
  · exact ⟨rfl, rfl, by simp [frC]⟩
  · rintro m ts M ⟨rfl, rfl, hf⟩
    obtain ⟨f, rfl⟩ := frC_open _ _ 0 hf
    clear hf
    (refine top_in ?_; simp -implicitDefEqProofs only [go_sem, -List.reduceReplicate, ↓L_gdZ_tt, ↓L_gdZ_tf, ↓L_gdZ_ft, ↓L_gdZ_ff, ↓T_and, ↓T_imp, ↓T_all, hb, g, hl]; try simp only [top_out])
    exact dropC_all (Nat.le_refl _) hK
theorem boolsHold_no (b : Nat) (base pass id : Int) (F : Nat → SV) (M : List Blk) (K : SV → List Blk → Prop) (h : Bk M b base pass F) (h0 : F 5 = .sn) (hK : K (.tup [.i .i64 id, .b true]) M) :
    callVC Tryz.prog 79 [.p b 0, .i .i64 id] M K := by
  obtain ⟨R, ty, hb, hR⟩ := h
  have hl := hR.len
  have g := getD_of ((hR.f 5 (by decide) (by decide)).1.trans (congrArg some h0))
  refine fn_rule tabOK Tryz.func79 rfl Tryz.call79 (by kernel_rfl) (fun hM => ?_)
  (refine top_in ?_; simp -implicitDefEqProofs only [Tryz.ntmps79, Tryz.results79, go_sem, -List.reduceReplicate, ↓L_gdZ_tt, ↓L_gdZ_tf, ↓L_gdZ_ft, ↓L_gdZ_ff, ↓T_and, ↓T_imp, ↓T_all, hb, g, hl]; try simp only [top_out])
  refine loop_code tabOK (by kernel_rfl) (fun m ts M' => m = 0 ∧ M' = M ∧ frC [some (.p b 0), some (.i .i64 id), none, none, none, none, some (.b true), some (.i .i64 0), none, none, none, none, none, none, none, none, none, none, none, none, none, none, none, none, none, none, none, none, none, none, none, none, none, none, none, none, none, none, none, none, none, none, none, none, none, none, none, none, none, none, none, none, none, none, none, none, none, none] ts) 0 ?_ ?_
  · exact ⟨rfl, rfl, by simp [frC]⟩
  · rintro m ts M ⟨rfl, rfl, hf⟩
    obtain ⟨f, rfl⟩ := frC_open _ _ 0 hf
    clear hf
    (refine top_in ?_; simp -implicitDefEqProofs only [go_sem, -List.reduceReplicate, ↓L_gdZ_tt, ↓L_gdZ_tf, ↓L_gdZ_ft, ↓L_gdZ_ff, ↓T_and, ↓T_imp, ↓T_all, hb, g, hl]; try simp only [top_out])
    exact dropC_all (Nat.le_refl _) hK
theorem intsWrite_no (b : Nat) (base pass id : Int) (F : Nat → SV) (M : List Blk) (K : SV → List Blk → Prop) (h : Bk M b base pass F) (h0 : F 8 = .sn) (hK : K (.i .i64 id) M) :
    callVC Tryz.prog 63 [.p b 0, .i .i64 id] M K := by
  obtain ⟨R, ty, hb, hR⟩ := h
  have hl := hR.len
  have g := getD_of ((hR.f 8 (by decide) (by decide)).1.trans (congrArg some h0))
  refine fn_rule tabOK Tryz.func63 rfl Tryz.call63 (by kernel_rfl) (fun hM => ?_)
  (refine top_in ?_; simp -implicitDefEqProofs only [Tryz.ntmps63, Tryz.results63, go_sem, -List.reduceReplicate, ↓L_gdZ_tt, ↓L_gdZ_tf, ↓L_gdZ_ft, ↓L_gdZ_ff, ↓T_and, ↓T_imp, ↓T_all, hb, g, hl]; try simp only [top_out])
  refine loop_code tabOK (by kernel_rfl) (fun m ts M' => m = 0 ∧ M' = M ∧ frC [some (.p b 0), some (.i .i64 id), none, none, none, some (.i .i64 0), none, none, none, none, none, none, none, none, none, none, none, none, none, none, none, none, none, none, none, none, none, none, none, none, none, none, none, none, none, none, none, none, none, none, none, none, none, none] ts) 0 ?_ ?_
  · exact ⟨rfl, rfl, by simp [frC]⟩
  · rintro m ts M ⟨rfl, rfl, hf⟩
    obtain ⟨f, rfl⟩ := frC_open _ _ 0 hf
    clear hf
    (refine top_in ?_; simp -implicitDefEqProofs only [go_sem, -List.reduceReplicate, ↓L_gdZ_tt, ↓L_gdZ_tf, ↓L_gdZ_ft, ↓L_gdZ_ff, ↓T_and, ↓T_imp, ↓T_all, hb, g, hl]; try simp only [top_out])
    exact dropC_all (Nat.le_refl _) hK
theorem intsGrow_no (b : Nat) (base pass id t : Int) (F : Nat → SV) (M : List Blk) (K : SV → List Blk → Prop) (h : Bk M b base pass F) (h0 : F 8 = .sn) (hK : K (.i .i64 id) M) :
    callVC Tryz.prog 97 [.p b 0, .i .i64 id, .i .i64 t] M K := by
  obtain ⟨R, ty, hb, hR⟩ := h
  have hl := hR.len
  have g := getD_of ((hR.f 8 (by decide) (by decide)).1.trans (congrArg some h0))
  refine fn_rule tabOK Tryz.func97 rfl Tryz.call97 (by kernel_rfl) (fun hM => ?_)
  (refine top_in ?_; simp -implicitDefEqProofs only [Tryz.ntmps97, Tryz.results97, go_sem, -List.reduceReplicate, ↓L_gdZ_tt, ↓L_gdZ_tf, ↓L_gdZ_ft, ↓L_gdZ_ff, ↓T_and, ↓T_imp, ↓T_all, hb, g, hl]; try simp only [top_out])
  refine loop_code tabOK (by kernel_rfl) (fun m ts M' => m = 0 ∧ M' = M ∧ frC (some (.p b 0) :: some (.i .i64 id) :: none :: none :: none :: none :: none :: some (.i .i64 0) :: none :: none :: none :: none :: none :: none :: none :: none :: none :: none :: none :: none :: none :: none :: none :: none :: none :: none :: none :: none :: none :: none :: none :: none :: none :: none :: none :: none :: none :: none :: none :: none :: none :: none :: none :: none :: none :: none :: none :: none :: none :: none :: none :: none :: none :: none :: none :: none :: none :: none :: none :: none :: none :: none :: none :: none :: none :: none :: []) ts) 0 ?_ ?_
  · exact ⟨rfl, rfl, by simp [frC]⟩
  · rintro m ts M ⟨rfl, rfl, hf⟩
    obtain ⟨f, rfl⟩ := frC_open _ _ 0 hf
    clear hf
    (refine top_in ?_; simp -implicitDefEqProofs only [go_sem, -List.reduceReplicate, ↓L_gdZ_tt, ↓L_gdZ_tf, ↓L_gdZ_ft, ↓L_gdZ_ff, ↓T_and, ↓T_imp, ↓T_all, hb, g, hl]; try simp only [top_out])
    exact dropC_all (Nat.le_refl _) hK
theorem intsHold_no (b : Nat) (base pass id : Int) (F : Nat → SV) (M : List Blk) (K : SV → List Blk → Prop) (h : Bk M b base pass F) (h0 : F 8 = .sn) (hK : K (.tup [.i .i64 id, .b true]) M) :
    callVC Tryz.prog 80 [.p b 0, .i .i64 id] M K := by
  obtain ⟨R, ty, hb, hR⟩ := h
  have hl := hR.len
  have g := getD_of ((hR.f 8 (by decide) (by decide)).1.trans (congrArg some h0))
  refine fn_rule tabOK Tryz.func80 rfl Tryz.call80 (by kernel_rfl) (fun hM => ?_)
  (refine top_in ?_; simp -implicitDefEqProofs only [Tryz.ntmps80, Tryz.results80, go_sem, -List.reduceReplicate, ↓L_gdZ_tt, ↓L_gdZ_tf, ↓L_gdZ_ft, ↓L_gdZ_ff, ↓T_and, ↓T_imp, ↓T_all, hb, g, hl]; try simp only [top_out])
  refine loop_code tabOK (by kernel_rfl) (fun m ts M' => m = 0 ∧ M' = M ∧ frC [some (.p b 0), some (.i .i64 id), none, none, none, none, some (.b true), some (.i .i64 0), none, none, none, none, none, none, none, none, none, none, none, none, none, none, none, none, none, none, none, none, none, none, none, none, none, none, none, none, none, none, none, none, none, none, none, none, none, none, none, none, none, none, none, none, none, none, none, none, none, none] ts) 0 ?_ ?_
  · exact ⟨rfl, rfl, by simp [frC]⟩
  · rintro m ts M ⟨rfl, rfl, hf⟩
    obtain ⟨f, rfl⟩ := frC_open _ _ 0 hf
    clear hf
    (refine top_in ?_; simp -implicitDefEqProofs only [go_sem, -List.reduceReplicate, ↓L_gdZ_tt, ↓L_gdZ_tf, ↓L_gdZ_ft, ↓L_gdZ_ff, ↓T_and, ↓T_imp, ↓T_all, hb, g, hl]; try simp only [top_out])
    exact dropC_all (Nat.le_refl _) hK
theorem textsWrite_no (b : Nat) (base pass id : Int) (F : Nat → SV) (M : List Blk) (K : SV → List Blk → Prop) (h : Bk M b base pass F) (h0 : F 11 = .sn) (hK : K (.i .i64 id) M) :
    callVC Tryz.prog 64 [.p b 0, .i .i64 id] M K := by
  obtain ⟨R, ty, hb, hR⟩ := h
  have hl := hR.len
  have g := getD_of ((hR.f 11 (by decide) (by decide)).1.trans (congrArg some h0))
  refine fn_rule tabOK Tryz.func64 rfl Tryz.call64 (by kernel_rfl) (fun hM => ?_)
  (refine top_in ?_; simp -implicitDefEqProofs only [Tryz.ntmps64, Tryz.results64, go_sem, -List.reduceReplicate, ↓L_gdZ_tt, ↓L_gdZ_tf, ↓L_gdZ_ft, ↓L_gdZ_ff, ↓T_and, ↓T_imp, ↓T_all, hb, g, hl]; try simp only [top_out])
  refine loop_code tabOK (by kernel_rfl) (fun m ts M' => m = 0 ∧ M' = M ∧ frC [some (.p b 0), some (.i .i64 id), none, none, none, some (.i .i64 0), none, none, none, none, none, none, none, none, none, none, none, none, none, none, none, none, none, none, none, none, none, none, none, none, none, none, none, none, none, none, none, none, none, none, none, none, none, none] ts) 0 ?_ ?_
  · exact ⟨rfl, rfl, by simp [frC]⟩
  · rintro m ts M ⟨rfl, rfl, hf⟩
    obtain ⟨f, rfl⟩ := frC_open _ _ 0 hf
    clear hf
    (refine top_in ?_; simp -implicitDefEqProofs only [go_sem, -List.reduceReplicate, ↓L_gdZ_tt, ↓L_gdZ_tf, ↓L_gdZ_ft, ↓L_gdZ_ff, ↓T_and, ↓T_imp, ↓T_all, hb, g, hl]; try simp only [top_out])
    exact dropC_all (Nat.le_refl _) hK
theorem textsGrow_no (b : Nat) (base pass id t : Int) (F : Nat → SV) (M : List Blk) (K : SV → List Blk → Prop) (h : Bk M b base pass F) (h0 : F 11 = .sn) (hK : K (.i .i64 id) M) :
    callVC Tryz.prog 98 [.p b 0, .i .i64 id, .i .i64 t] M K := by
  obtain ⟨R, ty, hb, hR⟩ := h
  have hl := hR.len
  have g := getD_of ((hR.f 11 (by decide) (by decide)).1.trans (congrArg some h0))
  refine fn_rule tabOK Tryz.func98 rfl Tryz.call98 (by kernel_rfl) (fun hM => ?_)
  (refine top_in ?_; simp -implicitDefEqProofs only [Tryz.ntmps98, Tryz.results98, go_sem, -List.reduceReplicate, ↓L_gdZ_tt, ↓L_gdZ_tf, ↓L_gdZ_ft, ↓L_gdZ_ff, ↓T_and, ↓T_imp, ↓T_all, hb, g, hl]; try simp only [top_out])
  refine loop_code tabOK (by kernel_rfl) (fun m ts M' => m = 0 ∧ M' = M ∧ frC (some (.p b 0) :: some (.i .i64 id) :: none :: none :: none :: none :: none :: some (.i .i64 0) :: none :: none :: none :: none :: none :: none :: none :: none :: none :: none :: none :: none :: none :: none :: none :: none :: none :: none :: none :: none :: none :: none :: none :: none :: none :: none :: none :: none :: none :: none :: none :: none :: none :: none :: none :: none :: none :: none :: none :: none :: none :: none :: none :: none :: none :: none :: none :: none :: none :: none :: none :: none :: none :: none :: none :: none :: none :: none :: []) ts) 0 ?_ ?_
  · exact ⟨rfl, rfl, by simp [frC]⟩
  · rintro m ts M ⟨rfl, rfl, hf⟩
    obtain ⟨f, rfl⟩ := frC_open _ _ 0 hf
    clear hf
    (refine top_in ?_; simp -implicitDefEqProofs only [go_sem, -List.reduceReplicate, ↓L_gdZ_tt, ↓L_gdZ_tf, ↓L_gdZ_ft, ↓L_gdZ_ff, ↓T_and, ↓T_imp, ↓T_all, hb, g, hl]; try simp only [top_out])
    exact dropC_all (Nat.le_refl _) hK
theorem textsHold_no (b : Nat) (base pass id : Int) (F : Nat → SV) (M : List Blk) (K : SV → List Blk → Prop) (h : Bk M b base pass F) (h0 : F 11 = .sn) (hK : K (.tup [.i .i64 id, .b true]) M) :
    callVC Tryz.prog 81 [.p b 0, .i .i64 id] M K := by
  obtain ⟨R, ty, hb, hR⟩ := h
  have hl := hR.len
  have g := getD_of ((hR.f 11 (by decide) (by decide)).1.trans (congrArg some h0))
  refine fn_rule tabOK Tryz.func81 rfl Tryz.call81 (by kernel_rfl) (fun hM => ?_)
  (refine top_in ?_; simp -implicitDefEqProofs only [Tryz.ntmps81, Tryz.results81, go_sem, -List.reduceReplicate, ↓L_gdZ_tt, ↓L_gdZ_tf, ↓L_gdZ_ft, ↓L_gdZ_ff, ↓T_and, ↓T_imp, ↓T_all, hb, g, hl]; try simp only [top_out])
  refine loop_code tabOK (by kernel_rfl) (fun m ts M' => m = 0 ∧ M' = M ∧ frC [some (.p b 0), some (.i .i64 id), none, none, none, none, some (.b true), some (.i .i64 0), none, none, none, none, none, none, none, none, none, none, none, none, none, none, none, none, none, none, none, none, none, none, none, none, none, none, none, none, none, none, none, none, none, none, none, none, none, none, none, none, none, none, none, none, none, none, none, none, none, none] ts) 0 ?_ ?_
  · exact ⟨rfl, rfl, by simp [frC]⟩
  · rintro m ts M ⟨rfl, rfl, hf⟩
    obtain ⟨f, rfl⟩ := frC_open _ _ 0 hf
    clear hf
    (refine top_in ?_; simp -implicitDefEqProofs only [go_sem, -List.reduceReplicate, ↓L_gdZ_tt, ↓L_gdZ_tf, ↓L_gdZ_ft, ↓L_gdZ_ff, ↓T_and, ↓T_imp, ↓T_all, hb, g, hl]; try simp only [top_out])
    exact dropC_all (Nat.le_refl _) hK
theorem byteListsWrite_no (b : Nat) (base pass id : Int) (F : Nat → SV) (M : List Blk) (K : SV → List Blk → Prop) (h : Bk M b base pass F) (h0 : F 14 = .sn) (hK : K (.i .i64 id) M) :
    callVC Tryz.prog 65 [.p b 0, .i .i64 id] M K := by
  obtain ⟨R, ty, hb, hR⟩ := h
  have hl := hR.len
  have g := getD_of ((hR.f 14 (by decide) (by decide)).1.trans (congrArg some h0))
  refine fn_rule tabOK Tryz.func65 rfl Tryz.call65 (by kernel_rfl) (fun hM => ?_)
  (refine top_in ?_; simp -implicitDefEqProofs only [Tryz.ntmps65, Tryz.results65, go_sem, -List.reduceReplicate, ↓L_gdZ_tt, ↓L_gdZ_tf, ↓L_gdZ_ft, ↓L_gdZ_ff, ↓T_and, ↓T_imp, ↓T_all, hb, g, hl]; try simp only [top_out])
  refine loop_code tabOK (by kernel_rfl) (fun m ts M' => m = 0 ∧ M' = M ∧ frC [some (.p b 0), some (.i .i64 id), none, none, none, some (.i .i64 0), none, none, none, none, none, none, none, none, none, none, none, none, none, none, none, none, none, none, none, none, none, none, none, none, none, none, none, none, none, none, none, none, none, none, none, none, none, none] ts) 0 ?_ ?_
  · exact ⟨rfl, rfl, by simp [frC]⟩
  · rintro m ts M ⟨rfl, rfl, hf⟩
    obtain ⟨f, rfl⟩ := frC_open _ _ 0 hf
    clear hf
    (refine top_in ?_; simp -implicitDefEqProofs only [go_sem, -List.reduceReplicate, ↓L_gdZ_tt, ↓L_gdZ_tf, ↓L_gdZ_ft, ↓L_gdZ_ff, ↓T_and, ↓T_imp, ↓T_all, hb, g, hl]; try simp only [top_out])
    exact dropC_all (Nat.le_refl _) hK
theorem byteListsGrow_no (b : Nat) (base pass id t : Int) (F : Nat → SV) (M : List Blk) (K : SV → List Blk → Prop) (h : Bk M b base pass F) (h0 : F 14 = .sn) (hK : K (.i .i64 id) M) :
    callVC Tryz.prog 99 [.p b 0, .i .i64 id, .i .i64 t] M K := by
  obtain ⟨R, ty, hb, hR⟩ := h
  have hl := hR.len
  have g := getD_of ((hR.f 14 (by decide) (by decide)).1.trans (congrArg some h0))
  refine fn_rule tabOK Tryz.func99 rfl Tryz.call99 (by kernel_rfl) (fun hM => ?_)
  (refine top_in ?_; simp -implicitDefEqProofs only [Tryz.ntmps99, Tryz.results99, go_sem, -List.reduceReplicate, ↓L_gdZ_tt, ↓L_gdZ_tf, ↓L_gdZ_ft, ↓L_gdZ_ff, ↓T_and, ↓T_imp, ↓T_all, hb, g, hl]; try simp only [top_out])
  refine loop_code tabOK (by kernel_rfl) (fun m ts M' => m = 0 ∧ M' = M ∧ frC (some (.p b 0) :: some (.i .i64 id) :: none :: none :: none :: none :: none :: some (.i .i64 0) :: none :: none :: none :: none :: none :: none :: none :: none :: none :: none :: none :: none :: none :: none :: none :: none :: none :: none :: none :: none :: none :: none :: none :: none :: none :: none :: none :: none :: none :: none :: none :: none :: none :: none :: none :: none :: none :: none :: none :: none :: none :: none :: none :: none :: none :: none :: none :: none :: none :: none :: none :: none :: none :: none :: none :: none :: none :: none :: []) ts) 0 ?_ ?_
  · exact ⟨rfl, rfl, by simp [frC]⟩
  · rintro m ts M ⟨rfl, rfl, hf⟩
    obtain ⟨f, rfl⟩ := frC_open _ _ 0 hf
    clear hf
    (refine top_in ?_; simp -implicitDefEqProofs only [go_sem, -List.reduceReplicate, ↓L_gdZ_tt, ↓L_gdZ_tf, ↓L_gdZ_ft, ↓L_gdZ_ff, ↓T_and, ↓T_imp, ↓T_all, hb, g, hl]; try simp only [top_out])
    exact dropC_all (Nat.le_refl _) hK
theorem byteListsHold_no (b : Nat) (base pass id : Int) (F : Nat → SV) (M : List Blk) (K : SV → List Blk → Prop) (h : Bk M b base pass F) (h0 : F 14 = .sn) (hK : K (.tup [.i .i64 id, .b true]) M) :
    callVC Tryz.prog 82 [.p b 0, .i .i64 id] M K := by
  obtain ⟨R, ty, hb, hR⟩ := h
  have hl := hR.len
  have g := getD_of ((hR.f 14 (by decide) (by decide)).1.trans (congrArg some h0))
  refine fn_rule tabOK Tryz.func82 rfl Tryz.call82 (by kernel_rfl) (fun hM => ?_)
  (refine top_in ?_; simp -implicitDefEqProofs only [Tryz.ntmps82, Tryz.results82, go_sem, -List.reduceReplicate, ↓L_gdZ_tt, ↓L_gdZ_tf, ↓L_gdZ_ft, ↓L_gdZ_ff, ↓T_and, ↓T_imp, ↓T_all, hb, g, hl]; try simp only [top_out])
  refine loop_code tabOK (by kernel_rfl) (fun m ts M' => m = 0 ∧ M' = M ∧ frC [some (.p b 0), some (.i .i64 id), none, none, none, none, some (.b true), some (.i .i64 0), none, none, none, none, none, none, none, none, none, none, none, none, none, none, none, none, none, none, none, none, none, none, none, none, none, none, none, none, none, none, none, none, none, none, none, none, none, none, none, none, none, none, none, none, none, none, none, none, none, none] ts) 0 ?_ ?_
  · exact ⟨rfl, rfl, by simp [frC]⟩
  · rintro m ts M ⟨rfl, rfl, hf⟩
    obtain ⟨f, rfl⟩ := frC_open _ _ 0 hf
    clear hf
    (refine top_in ?_; simp -implicitDefEqProofs only [go_sem, -List.reduceReplicate, ↓L_gdZ_tt, ↓L_gdZ_tf, ↓L_gdZ_ft, ↓L_gdZ_ff, ↓T_and, ↓T_imp, ↓T_all, hb, g, hl]; try simp only [top_out])
    exact dropC_all (Nat.le_refl _) hK
theorem prefixesWrite_no (b : Nat) (base pass id : Int) (F : Nat → SV) (M : List Blk) (K : SV → List Blk → Prop) (h : Bk M b base pass F) (h0 : F 17 = .sn) (hK : K (.i .i64 id) M) :
    callVC Tryz.prog 66 [.p b 0, .i .i64 id] M K := by
  obtain ⟨R, ty, hb, hR⟩ := h
  have hl := hR.len
  have g := getD_of ((hR.f 17 (by decide) (by decide)).1.trans (congrArg some h0))
  refine fn_rule tabOK Tryz.func66 rfl Tryz.call66 (by kernel_rfl) (fun hM => ?_)
  (refine top_in ?_; simp -implicitDefEqProofs only [Tryz.ntmps66, Tryz.results66, go_sem, -List.reduceReplicate, ↓L_gdZ_tt, ↓L_gdZ_tf, ↓L_gdZ_ft, ↓L_gdZ_ff, ↓T_and, ↓T_imp, ↓T_all, hb, g, hl]; try simp only [top_out])
  refine loop_code tabOK (by kernel_rfl) (fun m ts M' => m = 0 ∧ M' = M ∧ frC [some (.p b 0), some (.i .i64 id), none, none, none, some (.i .i64 0), none, none, none, none, none, none, none, none, none, none, none, none, none, none, none, none, none, none, none, none, none, none, none, none, none, none, none, none, none, none, none, none, none, none, none, none, none, none] ts) 0 ?_ ?_
  · exact ⟨rfl, rfl, by simp [frC]⟩
  · rintro m ts M ⟨rfl, rfl, hf⟩
    obtain ⟨f, rfl⟩ := frC_open _ _ 0 hf
    clear hf
    (refine top_in ?_; simp -implicitDefEqProofs only [go_sem, -List.reduceReplicate, ↓L_gdZ_tt, ↓L_gdZ_tf, ↓L_gdZ_ft, ↓L_gdZ_ff, ↓T_and, ↓T_imp, ↓T_all, hb, g, hl]; try simp only [top_out])
    exact dropC_all (Nat.le_refl _) hK
theorem prefixesGrow_no (b : Nat) (base pass id t : Int) (F : Nat → SV) (M : List Blk) (K : SV → List Blk → Prop) (h : Bk M b base pass F) (h0 : F 17 = .sn) (hK : K (.i .i64 id) M) :
    callVC Tryz.prog 100 [.p b 0, .i .i64 id, .i .i64 t] M K := by
  obtain ⟨R, ty, hb, hR⟩ := h
  have hl := hR.len
  have g := getD_of ((hR.f 17 (by decide) (by decide)).1.trans (congrArg some h0))
  refine fn_rule tabOK Tryz.func100 rfl Tryz.call100 (by kernel_rfl) (fun hM => ?_)
  (refine top_in ?_; simp -implicitDefEqProofs only [Tryz.ntmps100, Tryz.results100, go_sem, -List.reduceReplicate, ↓L_gdZ_tt, ↓L_gdZ_tf, ↓L_gdZ_ft, ↓L_gdZ_ff, ↓T_and, ↓T_imp, ↓T_all, hb, g, hl]; try simp only [top_out])
  refine loop_code tabOK (by kernel_rfl) (fun m ts M' => m = 0 ∧ M' = M ∧ frC (some (.p b 0) :: some (.i .i64 id) :: none :: none :: none :: none :: none :: some (.i .i64 0) :: none :: none :: none :: none :: none :: none :: none :: none :: none :: none :: none :: none :: none :: none :: none :: none :: none :: none :: none :: none :: none :: none :: none :: none :: none :: none :: none :: none :: none :: none :: none :: none :: none :: none :: none :: none :: none :: none :: none :: none :: none :: none :: none :: none :: none :: none :: none :: none :: none :: none :: none :: none :: none :: none :: none :: none :: none :: none :: []) ts) 0 ?_ ?_
  · exact ⟨rfl, rfl, by simp [frC]⟩
  · rintro m ts M ⟨rfl, rfl, hf⟩
    obtain ⟨f, rfl⟩ := frC_open _ _ 0 hf
    clear hf
    (refine top_in ?_; simp -implicitDefEqProofs only [go_sem, -List.reduceReplicate, ↓L_gdZ_tt, ↓L_gdZ_tf, ↓L_gdZ_ft, ↓L_gdZ_ff, ↓T_and, ↓T_imp, ↓T_all, hb, g, hl]; try simp only [top_out])
    exact dropC_all (Nat.le_refl _) hK
theorem prefixesHold_no (b : Nat) (base pass id : Int) (F : Nat → SV) (M : List Blk) (K : SV → List Blk → Prop) (h : Bk M b base pass F) (h0 : F 17 = .sn) (hK : K (.tup [.i .i64 id, .b true]) M) :
    callVC Tryz.prog 83 [.p b 0, .i .i64 id] M K := by
  obtain ⟨R, ty, hb, hR⟩ := h
  have hl := hR.len
  have g := getD_of ((hR.f 17 (by decide) (by decide)).1.trans (congrArg some h0))
  refine fn_rule tabOK Tryz.func83 rfl Tryz.call83 (by kernel_rfl) (fun hM => ?_)
  (refine top_in ?_; simp -implicitDefEqProofs only [Tryz.ntmps83, Tryz.results83, go_sem, -List.reduceReplicate, ↓L_gdZ_tt, ↓L_gdZ_tf, ↓L_gdZ_ft, ↓L_gdZ_ff, ↓T_and, ↓T_imp, ↓T_all, hb, g, hl]; try simp only [top_out])
  refine loop_code tabOK (by kernel_rfl) (fun m ts M' => m = 0 ∧ M' = M ∧ frC [some (.p b 0), some (.i .i64 id), none, none, none, none, some (.b true), some (.i .i64 0), none, none, none, none, none, none, none, none, none, none, none, none, none, none, none, none, none, none, none, none, none, none, none, none, none, none, none, none, none, none, none, none, none, none, none, none, none, none, none, none, none, none, none, none, none, none, none, none, none, none] ts) 0 ?_ ?_
  · exact ⟨rfl, rfl, by simp [frC]⟩
  · rintro m ts M ⟨rfl, rfl, hf⟩
    obtain ⟨f, rfl⟩ := frC_open _ _ 0 hf
    clear hf
    (refine top_in ?_; simp -implicitDefEqProofs only [go_sem, -List.reduceReplicate, ↓L_gdZ_tt, ↓L_gdZ_tf, ↓L_gdZ_ft, ↓L_gdZ_ff, ↓T_and, ↓T_imp, ↓T_all, hb, g, hl]; try simp only [top_out])
    exact dropC_all (Nat.le_refl _) hK
theorem openingsWrite_no (b : Nat) (base pass id : Int) (F : Nat → SV) (M : List Blk) (K : SV → List Blk → Prop) (h : Bk M b base pass F) (h0 : F 20 = .sn) (hK : K (.i .i64 id) M) :
    callVC Tryz.prog 67 [.p b 0, .i .i64 id] M K := by
  obtain ⟨R, ty, hb, hR⟩ := h
  have hl := hR.len
  have g := getD_of ((hR.f 20 (by decide) (by decide)).1.trans (congrArg some h0))
  refine fn_rule tabOK Tryz.func67 rfl Tryz.call67 (by kernel_rfl) (fun hM => ?_)
  (refine top_in ?_; simp -implicitDefEqProofs only [Tryz.ntmps67, Tryz.results67, go_sem, -List.reduceReplicate, ↓L_gdZ_tt, ↓L_gdZ_tf, ↓L_gdZ_ft, ↓L_gdZ_ff, ↓T_and, ↓T_imp, ↓T_all, hb, g, hl]; try simp only [top_out])
  refine loop_code tabOK (by kernel_rfl) (fun m ts M' => m = 0 ∧ M' = M ∧ frC [some (.p b 0), some (.i .i64 id), none, none, none, some (.i .i64 0), none, none, none, none, none, none, none, none, none, none, none, none, none, none, none, none, none, none, none, none, none, none, none, none, none, none, none, none, none, none, none, none, none, none, none, none, none, none] ts) 0 ?_ ?_
  · exact ⟨rfl, rfl, by simp [frC]⟩
  · rintro m ts M ⟨rfl, rfl, hf⟩
    obtain ⟨f, rfl⟩ := frC_open _ _ 0 hf
    clear hf
    (refine top_in ?_; simp -implicitDefEqProofs only [go_sem, -List.reduceReplicate, ↓L_gdZ_tt, ↓L_gdZ_tf, ↓L_gdZ_ft, ↓L_gdZ_ff, ↓T_and, ↓T_imp, ↓T_all, hb, g, hl]; try simp only [top_out])
    exact dropC_all (Nat.le_refl _) hK
theorem openingsGrow_no (b : Nat) (base pass id t : Int) (F : Nat → SV) (M : List Blk) (K : SV → List Blk → Prop) (h : Bk M b base pass F) (h0 : F 20 = .sn) (hK : K (.i .i64 id) M) :
    callVC Tryz.prog 101 [.p b 0, .i .i64 id, .i .i64 t] M K := by
  obtain ⟨R, ty, hb, hR⟩ := h
  have hl := hR.len
  have g := getD_of ((hR.f 20 (by decide) (by decide)).1.trans (congrArg some h0))
  refine fn_rule tabOK Tryz.func101 rfl Tryz.call101 (by kernel_rfl) (fun hM => ?_)
  (refine top_in ?_; simp -implicitDefEqProofs only [Tryz.ntmps101, Tryz.results101, go_sem, -List.reduceReplicate, ↓L_gdZ_tt, ↓L_gdZ_tf, ↓L_gdZ_ft, ↓L_gdZ_ff, ↓T_and, ↓T_imp, ↓T_all, hb, g, hl]; try simp only [top_out])
  refine loop_code tabOK (by kernel_rfl) (fun m ts M' => m = 0 ∧ M' = M ∧ frC (some (.p b 0) :: some (.i .i64 id) :: none :: none :: none :: none :: none :: some (.i .i64 0) :: none :: none :: none :: none :: none :: none :: none :: none :: none :: none :: none :: none :: none :: none :: none :: none :: none :: none :: none :: none :: none :: none :: none :: none :: none :: none :: none :: none :: none :: none :: none :: none :: none :: none :: none :: none :: none :: none :: none :: none :: none :: none :: none :: none :: none :: none :: none :: none :: none :: none :: none :: none :: none :: none :: none :: none :: none :: none :: []) ts) 0 ?_ ?_
  · exact ⟨rfl, rfl, by simp [frC]⟩
  · rintro m ts M ⟨rfl, rfl, hf⟩
    obtain ⟨f, rfl⟩ := frC_open _ _ 0 hf
    clear hf
    (refine top_in ?_; simp -implicitDefEqProofs only [go_sem, -List.reduceReplicate, ↓L_gdZ_tt, ↓L_gdZ_tf, ↓L_gdZ_ft, ↓L_gdZ_ff, ↓T_and, ↓T_imp, ↓T_all, hb, g, hl]; try simp only [top_out])
    exact dropC_all (Nat.le_refl _) hK
theorem openingsHold_no (b : Nat) (base pass id : Int) (F : Nat → SV) (M : List Blk) (K : SV → List Blk → Prop) (h : Bk M b base pass F) (h0 : F 20 = .sn) (hK : K (.tup [.i .i64 id, .b true]) M) :
    callVC Tryz.prog 84 [.p b 0, .i .i64 id] M K := by
  obtain ⟨R, ty, hb, hR⟩ := h
  have hl := hR.len
  have g := getD_of ((hR.f 20 (by decide) (by decide)).1.trans (congrArg some h0))
  refine fn_rule tabOK Tryz.func84 rfl Tryz.call84 (by kernel_rfl) (fun hM => ?_)
  (refine top_in ?_; simp -implicitDefEqProofs only [Tryz.ntmps84, Tryz.results84, go_sem, -List.reduceReplicate, ↓L_gdZ_tt, ↓L_gdZ_tf, ↓L_gdZ_ft, ↓L_gdZ_ff, ↓T_and, ↓T_imp, ↓T_all, hb, g, hl]; try simp only [top_out])
  refine loop_code tabOK (by kernel_rfl) (fun m ts M' => m = 0 ∧ M' = M ∧ frC [some (.p b 0), some (.i .i64 id), none, none, none, none, some (.b true), some (.i .i64 0), none, none, none, none, none, none, none, none, none, none, none, none, none, none, none, none, none, none, none, none, none, none, none, none, none, none, none, none, none, none, none, none, none, none, none, none, none, none, none, none, none, none, none, none, none, none, none, none, none, none] ts) 0 ?_ ?_
  · exact ⟨rfl, rfl, by simp [frC]⟩
  · rintro m ts M ⟨rfl, rfl, hf⟩
    obtain ⟨f, rfl⟩ := frC_open _ _ 0 hf
    clear hf
    (refine top_in ?_; simp -implicitDefEqProofs only [go_sem, -List.reduceReplicate, ↓L_gdZ_tt, ↓L_gdZ_tf, ↓L_gdZ_ft, ↓L_gdZ_ff, ↓T_and, ↓T_imp, ↓T_all, hb, g, hl]; try simp only [top_out])
    exact dropC_all (Nat.le_refl _) hK
theorem peersWrite_no (b : Nat) (base pass id : Int) (F : Nat → SV) (M : List Blk) (K : SV → List Blk → Prop) (h : Bk M b base pass F) (h0 : F 23 = .sn) (hK : K (.i .i64 id) M) :
    callVC Tryz.prog 68 [.p b 0, .i .i64 id] M K := by
  obtain ⟨R, ty, hb, hR⟩ := h
  have hl := hR.len
  have g := getD_of ((hR.f 23 (by decide) (by decide)).1.trans (congrArg some h0))
  refine fn_rule tabOK Tryz.func68 rfl Tryz.call68 (by kernel_rfl) (fun hM => ?_)
  (refine top_in ?_; simp -implicitDefEqProofs only [Tryz.ntmps68, Tryz.results68, go_sem, -List.reduceReplicate, ↓L_gdZ_tt, ↓L_gdZ_tf, ↓L_gdZ_ft, ↓L_gdZ_ff, ↓T_and, ↓T_imp, ↓T_all, hb, g, hl]; try simp only [top_out])
  refine loop_code tabOK (by kernel_rfl) (fun m ts M' => m = 0 ∧ M' = M ∧ frC [some (.p b 0), some (.i .i64 id), none, none, none, some (.i .i64 0), none, none, none, none, none, none, none, none, none, none, none, none, none, none, none, none, none, none, none, none, none, none, none, none, none, none, none, none, none, none, none, none, none, none, none, none, none, none] ts) 0 ?_ ?_
  · exact ⟨rfl, rfl, by simp [frC]⟩
  · rintro m ts M ⟨rfl, rfl, hf⟩
    obtain ⟨f, rfl⟩ := frC_open _ _ 0 hf
    clear hf
    (refine top_in ?_; simp -implicitDefEqProofs only [go_sem, -List.reduceReplicate, ↓L_gdZ_tt, ↓L_gdZ_tf, ↓L_gdZ_ft, ↓L_gdZ_ff, ↓T_and, ↓T_imp, ↓T_all, hb, g, hl]; try simp only [top_out])
    exact dropC_all (Nat.le_refl _) hK
theorem peersGrow_no (b : Nat) (base pass id t : Int) (F : Nat → SV) (M : List Blk) (K : SV → List Blk → Prop) (h : Bk M b base pass F) (h0 : F 23 = .sn) (hK : K (.i .i64 id) M) :
    callVC Tryz.prog 102 [.p b 0, .i .i64 id, .i .i64 t] M K := by
  obtain ⟨R, ty, hb, hR⟩ := h
  have hl := hR.len
  have g := getD_of ((hR.f 23 (by decide) (by decide)).1.trans (congrArg some h0))
  refine fn_rule tabOK Tryz.func102 rfl Tryz.call102 (by kernel_rfl) (fun hM => ?_)
  (refine top_in ?_; simp -implicitDefEqProofs only [Tryz.ntmps102, Tryz.results102, go_sem, -List.reduceReplicate, ↓L_gdZ_tt, ↓L_gdZ_tf, ↓L_gdZ_ft, ↓L_gdZ_ff, ↓T_and, ↓T_imp, ↓T_all, hb, g, hl]; try simp only [top_out])
  refine loop_code tabOK (by kernel_rfl) (fun m ts M' => m = 0 ∧ M' = M ∧ frC (some (.p b 0) :: some (.i .i64 id) :: none :: none :: none :: none :: none :: some (.i .i64 0) :: none :: none :: none :: none :: none :: none :: none :: none :: none :: none :: none :: none :: none :: none :: none :: none :: none :: none :: none :: none :: none :: none :: none :: none :: none :: none :: none :: none :: none :: none :: none :: none :: none :: none :: none :: none :: none :: none :: none :: none :: none :: none :: none :: none :: none :: none :: none :: none :: none :: none :: none :: none :: none :: none :: none :: none :: none :: none :: []) ts) 0 ?_ ?_
  · exact ⟨rfl, rfl, by simp [frC]⟩
  · rintro m ts M ⟨rfl, rfl, hf⟩
    obtain ⟨f, rfl⟩ := frC_open _ _ 0 hf
    clear hf
    (refine top_in ?_; simp -implicitDefEqProofs only [go_sem, -List.reduceReplicate, ↓L_gdZ_tt, ↓L_gdZ_tf, ↓L_gdZ_ft, ↓L_gdZ_ff, ↓T_and, ↓T_imp, ↓T_all, hb, g, hl]; try simp only [top_out])
    exact dropC_all (Nat.le_refl _) hK
theorem peersHold_no (b : Nat) (base pass id : Int) (F : Nat → SV) (M : List Blk) (K : SV → List Blk → Prop) (h : Bk M b base pass F) (h0 : F 23 = .sn) (hK : K (.tup [.i .i64 id, .b true]) M) :
    callVC Tryz.prog 85 [.p b 0, .i .i64 id] M K := by
  obtain ⟨R, ty, hb, hR⟩ := h
  have hl := hR.len
  have g := getD_of ((hR.f 23 (by decide) (by decide)).1.trans (congrArg some h0))
  refine fn_rule tabOK Tryz.func85 rfl Tryz.call85 (by kernel_rfl) (fun hM => ?_)
  (refine top_in ?_; simp -implicitDefEqProofs only [Tryz.ntmps85, Tryz.results85, go_sem, -List.reduceReplicate, ↓L_gdZ_tt, ↓L_gdZ_tf, ↓L_gdZ_ft, ↓L_gdZ_ff, ↓T_and, ↓T_imp, ↓T_all, hb, g, hl]; try simp only [top_out])
  refine loop_code tabOK (by kernel_rfl) (fun m ts M' => m = 0 ∧ M' = M ∧ frC [some (.p b 0), some (.i .i64 id), none, none, none, none, some (.b true), some (.i .i64 0), none, none, none, none, none, none, none, none, none, none, none, none, none, none, none, none, none, none, none, none, none, none, none, none, none, none, none, none, none, none, none, none, none, none, none, none, none, none, none, none, none, none, none, none, none, none, none, none, none, none] ts) 0 ?_ ?_
  · exact ⟨rfl, rfl, by simp [frC]⟩
  · rintro m ts M ⟨rfl, rfl, hf⟩
    obtain ⟨f, rfl⟩ := frC_open _ _ 0 hf
    clear hf
    (refine top_in ?_; simp -implicitDefEqProofs only [go_sem, -List.reduceReplicate, ↓L_gdZ_tt, ↓L_gdZ_tf, ↓L_gdZ_ft, ↓L_gdZ_ff, ↓T_and, ↓T_imp, ↓T_all, hb, g, hl]; try simp only [top_out])
    exact dropC_all (Nat.le_refl _) hK
theorem lanesWrite_no (b : Nat) (base pass id : Int) (F : Nat → SV) (M : List Blk) (K : SV → List Blk → Prop) (h : Bk M b base pass F) (h0 : F 26 = .sn) (hK : K (.i .i64 id) M) :
    callVC Tryz.prog 69 [.p b 0, .i .i64 id] M K := by
  obtain ⟨R, ty, hb, hR⟩ := h
  have hl := hR.len
  have g := getD_of ((hR.f 26 (by decide) (by decide)).1.trans (congrArg some h0))
  refine fn_rule tabOK Tryz.func69 rfl Tryz.call69 (by kernel_rfl) (fun hM => ?_)
  (refine top_in ?_; simp -implicitDefEqProofs only [Tryz.ntmps69, Tryz.results69, go_sem, -List.reduceReplicate, ↓L_gdZ_tt, ↓L_gdZ_tf, ↓L_gdZ_ft, ↓L_gdZ_ff, ↓T_and, ↓T_imp, ↓T_all, hb, g, hl]; try simp only [top_out])
  refine loop_code tabOK (by kernel_rfl) (fun m ts M' => m = 0 ∧ M' = M ∧ frC [some (.p b 0), some (.i .i64 id), none, none, none, some (.i .i64 0), none, none, none, none, none, none, none, none, none, none, none, none, none, none, none, none, none, none, none, none, none, none, none, none, none, none, none, none, none, none, none, none, none, none, none, none, none, none] ts) 0 ?_ ?_
  · exact ⟨rfl, rfl, by simp [frC]⟩
  · rintro m ts M ⟨rfl, rfl, hf⟩
    obtain ⟨f, rfl⟩ := frC_open _ _ 0 hf
    clear hf
    (refine top_in ?_; simp -implicitDefEqProofs only [go_sem, -List.reduceReplicate, ↓L_gdZ_tt, ↓L_gdZ_tf, ↓L_gdZ_ft, ↓L_gdZ_ff, ↓T_and, ↓T_imp, ↓T_all, hb, g, hl]; try simp only [top_out])
    exact dropC_all (Nat.le_refl _) hK
theorem lanesGrow_no (b : Nat) (base pass id t : Int) (F : Nat → SV) (M : List Blk) (K : SV → List Blk → Prop) (h : Bk M b base pass F) (h0 : F 26 = .sn) (hK : K (.i .i64 id) M) :
    callVC Tryz.prog 103 [.p b 0, .i .i64 id, .i .i64 t] M K := by
  obtain ⟨R, ty, hb, hR⟩ := h
  have hl := hR.len
  have g := getD_of ((hR.f 26 (by decide) (by decide)).1.trans (congrArg some h0))
  refine fn_rule tabOK Tryz.func103 rfl Tryz.call103 (by kernel_rfl) (fun hM => ?_)
  (refine top_in ?_; simp -implicitDefEqProofs only [Tryz.ntmps103, Tryz.results103, go_sem, -List.reduceReplicate, ↓L_gdZ_tt, ↓L_gdZ_tf, ↓L_gdZ_ft, ↓L_gdZ_ff, ↓T_and, ↓T_imp, ↓T_all, hb, g, hl]; try simp only [top_out])
  refine loop_code tabOK (by kernel_rfl) (fun m ts M' => m = 0 ∧ M' = M ∧ frC (some (.p b 0) :: some (.i .i64 id) :: none :: none :: none :: none :: none :: some (.i .i64 0) :: none :: none :: none :: none :: none :: none :: none :: none :: none :: none :: none :: none :: none :: none :: none :: none :: none :: none :: none :: none :: none :: none :: none :: none :: none :: none :: none :: none :: none :: none :: none :: none :: none :: none :: none :: none :: none :: none :: none :: none :: none :: none :: none :: none :: none :: none :: none :: none :: none :: none :: none :: none :: none :: none :: none :: none :: none :: none :: []) ts) 0 ?_ ?_
  · exact ⟨rfl, rfl, by simp [frC]⟩
  · rintro m ts M ⟨rfl, rfl, hf⟩
    obtain ⟨f, rfl⟩ := frC_open _ _ 0 hf
    clear hf
    (refine top_in ?_; simp -implicitDefEqProofs only [go_sem, -List.reduceReplicate, ↓L_gdZ_tt, ↓L_gdZ_tf, ↓L_gdZ_ft, ↓L_gdZ_ff, ↓T_and, ↓T_imp, ↓T_all, hb, g, hl]; try simp only [top_out])
    exact dropC_all (Nat.le_refl _) hK
theorem lanesHold_no (b : Nat) (base pass id : Int) (F : Nat → SV) (M : List Blk) (K : SV → List Blk → Prop) (h : Bk M b base pass F) (h0 : F 26 = .sn) (hK : K (.tup [.i .i64 id, .b true]) M) :
    callVC Tryz.prog 86 [.p b 0, .i .i64 id] M K := by
  obtain ⟨R, ty, hb, hR⟩ := h
  have hl := hR.len
  have g := getD_of ((hR.f 26 (by decide) (by decide)).1.trans (congrArg some h0))
  refine fn_rule tabOK Tryz.func86 rfl Tryz.call86 (by kernel_rfl) (fun hM => ?_)
  (refine top_in ?_; simp -implicitDefEqProofs only [Tryz.ntmps86, Tryz.results86, go_sem, -List.reduceReplicate, ↓L_gdZ_tt, ↓L_gdZ_tf, ↓L_gdZ_ft, ↓L_gdZ_ff, ↓T_and, ↓T_imp, ↓T_all, hb, g, hl]; try simp only [top_out])
  refine loop_code tabOK (by kernel_rfl) (fun m ts M' => m = 0 ∧ M' = M ∧ frC [some (.p b 0), some (.i .i64 id), none, none, none, none, some (.b true), some (.i .i64 0), none, none, none, none, none, none, none, none, none, none, none, none, none, none, none, none, none, none, none, none, none, none, none, none, none, none, none, none, none, none, none, none, none, none, none, none, none, none, none, none, none, none, none, none, none, none, none, none, none, none] ts) 0 ?_ ?_
  · exact ⟨rfl, rfl, by simp [frC]⟩
  · rintro m ts M ⟨rfl, rfl, hf⟩
    obtain ⟨f, rfl⟩ := frC_open _ _ 0 hf
    clear hf
    (refine top_in ?_; simp -implicitDefEqProofs only [go_sem, -List.reduceReplicate, ↓L_gdZ_tt, ↓L_gdZ_tf, ↓L_gdZ_ft, ↓L_gdZ_ff, ↓T_and, ↓T_imp, ↓T_all, hb, g, hl]; try simp only [top_out])
    exact dropC_all (Nat.le_refl _) hK
theorem rowsWrite_no (b : Nat) (base pass id : Int) (F : Nat → SV) (M : List Blk) (K : SV → List Blk → Prop) (h : Bk M b base pass F) (h0 : F 29 = .sn) (hK : K (.i .i64 id) M) :
    callVC Tryz.prog 70 [.p b 0, .i .i64 id] M K := by
  obtain ⟨R, ty, hb, hR⟩ := h
  have hl := hR.len
  have g := getD_of ((hR.f 29 (by decide) (by decide)).1.trans (congrArg some h0))
  refine fn_rule tabOK Tryz.func70 rfl Tryz.call70 (by kernel_rfl) (fun hM => ?_)
  (refine top_in ?_; simp -implicitDefEqProofs only [Tryz.ntmps70, Tryz.results70, go_sem, -List.reduceReplicate, ↓L_gdZ_tt, ↓L_gdZ_tf, ↓L_gdZ_ft, ↓L_gdZ_ff, ↓T_and, ↓T_imp, ↓T_all, hb, g, hl]; try simp only [top_out])
  refine loop_code tabOK (by kernel_rfl) (fun m ts M' => m = 0 ∧ M' = M ∧ frC [some (.p b 0), some (.i .i64 id), none, none, none, some (.i .i64 0), none, none, none, none, none, none, none, none, none, none, none, none, none, none, none, none, none, none, none, none, none, none, none, none, none, none, none, none, none, none, none, none, none, none, none, none, none, none] ts) 0 ?_ ?_
  · exact ⟨rfl, rfl, by simp [frC]⟩
  · rintro m ts M ⟨rfl, rfl, hf⟩
    obtain ⟨f, rfl⟩ := frC_open _ _ 0 hf
    clear hf
    (refine top_in ?_; simp -implicitDefEqProofs only [go_sem, -List.reduceReplicate, ↓L_gdZ_tt, ↓L_gdZ_tf, ↓L_gdZ_ft, ↓L_gdZ_ff, ↓T_and, ↓T_imp, ↓T_all, hb, g, hl]; try simp only [top_out])
    exact dropC_all (Nat.le_refl _) hK
theorem rowsGrow_no (b : Nat) (base pass id t : Int) (F : Nat → SV) (M : List Blk) (K : SV → List Blk → Prop) (h : Bk M b base pass F) (h0 : F 29 = .sn) (hK : K (.i .i64 id) M) :
    callVC Tryz.prog 104 [.p b 0, .i .i64 id, .i .i64 t] M K := by
  obtain ⟨R, ty, hb, hR⟩ := h
  have hl := hR.len
  have g := getD_of ((hR.f 29 (by decide) (by decide)).1.trans (congrArg some h0))
  refine fn_rule tabOK Tryz.func104 rfl Tryz.call104 (by kernel_rfl) (fun hM => ?_)
  (refine top_in ?_; simp -implicitDefEqProofs only [Tryz.ntmps104, Tryz.results104, go_sem, -List.reduceReplicate, ↓L_gdZ_tt, ↓L_gdZ_tf, ↓L_gdZ_ft, ↓L_gdZ_ff, ↓T_and, ↓T_imp, ↓T_all, hb, g, hl]; try simp only [top_out])
  refine loop_code tabOK (by kernel_rfl) (fun m ts M' => m = 0 ∧ M' = M ∧ frC (some (.p b 0) :: some (.i .i64 id) :: none :: none :: none :: none :: none :: some (.i .i64 0) :: none :: none :: none :: none :: none :: none :: none :: none :: none :: none :: none :: none :: none :: none :: none :: none :: none :: none :: none :: none :: none :: none :: none :: none :: none :: none :: none :: none :: none :: none :: none :: none :: none :: none :: none :: none :: none :: none :: none :: none :: none :: none :: none :: none :: none :: none :: none :: none :: none :: none :: none :: none :: none :: none :: none :: none :: none :: none :: []) ts) 0 ?_ ?_
  · exact ⟨rfl, rfl, by simp [frC]⟩
  · rintro m ts M ⟨rfl, rfl, hf⟩
    obtain ⟨f, rfl⟩ := frC_open _ _ 0 hf
    clear hf
    (refine top_in ?_; simp -implicitDefEqProofs only [go_sem, -List.reduceReplicate, ↓L_gdZ_tt, ↓L_gdZ_tf, ↓L_gdZ_ft, ↓L_gdZ_ff, ↓T_and, ↓T_imp, ↓T_all, hb, g, hl]; try simp only [top_out])
    exact dropC_all (Nat.le_refl _) hK
theorem rowsHold_no (b : Nat) (base pass id : Int) (F : Nat → SV) (M : List Blk) (K : SV → List Blk → Prop) (h : Bk M b base pass F) (h0 : F 29 = .sn) (hK : K (.tup [.i .i64 id, .b true]) M) :
    callVC Tryz.prog 87 [.p b 0, .i .i64 id] M K := by
  obtain ⟨R, ty, hb, hR⟩ := h
  have hl := hR.len
  have g := getD_of ((hR.f 29 (by decide) (by decide)).1.trans (congrArg some h0))
  refine fn_rule tabOK Tryz.func87 rfl Tryz.call87 (by kernel_rfl) (fun hM => ?_)
  (refine top_in ?_; simp -implicitDefEqProofs only [Tryz.ntmps87, Tryz.results87, go_sem, -List.reduceReplicate, ↓L_gdZ_tt, ↓L_gdZ_tf, ↓L_gdZ_ft, ↓L_gdZ_ff, ↓T_and, ↓T_imp, ↓T_all, hb, g, hl]; try simp only [top_out])
  refine loop_code tabOK (by kernel_rfl) (fun m ts M' => m = 0 ∧ M' = M ∧ frC [some (.p b 0), some (.i .i64 id), none, none, none, none, some (.b true), some (.i .i64 0), none, none, none, none, none, none, none, none, none, none, none, none, none, none, none, none, none, none, none, none, none, none, none, none, none, none, none, none, none, none, none, none, none, none, none, none, none, none, none, none, none, none, none, none, none, none, none, none, none, none] ts) 0 ?_ ?_
  · exact ⟨rfl, rfl, by simp [frC]⟩
  · rintro m ts M ⟨rfl, rfl, hf⟩
    obtain ⟨f, rfl⟩ := frC_open _ _ 0 hf
    clear hf
    (refine top_in ?_; simp -implicitDefEqProofs only [go_sem, -List.reduceReplicate, ↓L_gdZ_tt, ↓L_gdZ_tf, ↓L_gdZ_ft, ↓L_gdZ_ff, ↓T_and, ↓T_imp, ↓T_all, hb, g, hl]; try simp only [top_out])
    exact dropC_all (Nat.le_refl _) hK
theorem setsWrite_no (b : Nat) (base pass id : Int) (F : Nat → SV) (M : List Blk) (K : SV → List Blk → Prop) (h : Bk M b base pass F) (h0 : F 32 = .sn) (hK : K (.i .i64 id) M) :
    callVC Tryz.prog 71 [.p b 0, .i .i64 id] M K := by
  obtain ⟨R, ty, hb, hR⟩ := h
  have hl := hR.len
  have g := getD_of ((hR.f 32 (by decide) (by decide)).1.trans (congrArg some h0))
  refine fn_rule tabOK Tryz.func71 rfl Tryz.call71 (by kernel_rfl) (fun hM => ?_)
  (refine top_in ?_; simp -implicitDefEqProofs only [Tryz.ntmps71, Tryz.results71, go_sem, -List.reduceReplicate, ↓L_gdZ_tt, ↓L_gdZ_tf, ↓L_gdZ_ft, ↓L_gdZ_ff, ↓T_and, ↓T_imp, ↓T_all, hb, g, hl]; try simp only [top_out])
  refine loop_code tabOK (by kernel_rfl) (fun m ts M' => m = 0 ∧ M' = M ∧ frC [some (.p b 0), some (.i .i64 id), none, none, none, some (.i .i64 0), none, none, none, none, none, none, none, none, none, none, none, none, none, none, none, none, none, none, none, none, none, none, none, none, none, none, none, none, none, none, none, none, none, none, none, none, none, none] ts) 0 ?_ ?_
  · exact ⟨rfl, rfl, by simp [frC]⟩
  · rintro m ts M ⟨rfl, rfl, hf⟩
    obtain ⟨f, rfl⟩ := frC_open _ _ 0 hf
    clear hf
    (refine top_in ?_; simp -implicitDefEqProofs only [go_sem, -List.reduceReplicate, ↓L_gdZ_tt, ↓L_gdZ_tf, ↓L_gdZ_ft, ↓L_gdZ_ff, ↓T_and, ↓T_imp, ↓T_all, hb, g, hl]; try simp only [top_out])
    exact dropC_all (Nat.le_refl _) hK
theorem setsGrow_no (b : Nat) (base pass id t : Int) (F : Nat → SV) (M : List Blk) (K : SV → List Blk → Prop) (h : Bk M b base pass F) (h0 : F 32 = .sn) (hK : K (.i .i64 id) M) :
    callVC Tryz.prog 105 [.p b 0, .i .i64 id, .i .i64 t] M K := by
  obtain ⟨R, ty, hb, hR⟩ := h
  have hl := hR.len
  have g := getD_of ((hR.f 32 (by decide) (by decide)).1.trans (congrArg some h0))
  refine fn_rule tabOK Tryz.func105 rfl Tryz.call105 (by kernel_rfl) (fun hM => ?_)
  (refine top_in ?_; simp -implicitDefEqProofs only [Tryz.ntmps105, Tryz.results105, go_sem, -List.reduceReplicate, ↓L_gdZ_tt, ↓L_gdZ_tf, ↓L_gdZ_ft, ↓L_gdZ_ff, ↓T_and, ↓T_imp, ↓T_all, hb, g, hl]; try simp only [top_out])
  refine loop_code tabOK (by kernel_rfl) (fun m ts M' => m = 0 ∧ M' = M ∧ frC (some (.p b 0) :: some (.i .i64 id) :: none :: none :: none :: none :: none :: some (.i .i64 0) :: none :: none :: none :: none :: none :: none :: none :: none :: none :: none :: none :: none :: none :: none :: none :: none :: none :: none :: none :: none :: none :: none :: none :: none :: none :: none :: none :: none :: none :: none :: none :: none :: none :: none :: none :: none :: none :: none :: none :: none :: none :: none :: none :: none :: none :: none :: none :: none :: none :: none :: none :: none :: none :: none :: none :: none :: none :: none :: []) ts) 0 ?_ ?_
  · exact ⟨rfl, rfl, by simp [frC]⟩
  · rintro m ts M ⟨rfl, rfl, hf⟩
    obtain ⟨f, rfl⟩ := frC_open _ _ 0 hf
    clear hf
    (refine top_in ?_; simp -implicitDefEqProofs only [go_sem, -List.reduceReplicate, ↓L_gdZ_tt, ↓L_gdZ_tf, ↓L_gdZ_ft, ↓L_gdZ_ff, ↓T_and, ↓T_imp, ↓T_all, hb, g, hl]; try simp only [top_out])
    exact dropC_all (Nat.le_refl _) hK
theorem setsHold_no (b : Nat) (base pass id : Int) (F : Nat → SV) (M : List Blk) (K : SV → List Blk → Prop) (h : Bk M b base pass F) (h0 : F 32 = .sn) (hK : K (.tup [.i .i64 id, .b true]) M) :
    callVC Tryz.prog 88 [.p b 0, .i .i64 id] M K := by
  obtain ⟨R, ty, hb, hR⟩ := h
  have hl := hR.len
  have g := getD_of ((hR.f 32 (by decide) (by decide)).1.trans (congrArg some h0))
  refine fn_rule tabOK Tryz.func88 rfl Tryz.call88 (by kernel_rfl) (fun hM => ?_)
  (refine top_in ?_; simp -implicitDefEqProofs only [Tryz.ntmps88, Tryz.results88, go_sem, -List.reduceReplicate, ↓L_gdZ_tt, ↓L_gdZ_tf, ↓L_gdZ_ft, ↓L_gdZ_ff, ↓T_and, ↓T_imp, ↓T_all, hb, g, hl]; try simp only [top_out])
  refine loop_code tabOK (by kernel_rfl) (fun m ts M' => m = 0 ∧ M' = M ∧ frC [some (.p b 0), some (.i .i64 id), none, none, none, none, some (.b true), some (.i .i64 0), none, none, none, none, none, none, none, none, none, none, none, none, none, none, none, none, none, none, none, none, none, none, none, none, none, none, none, none, none, none, none, none, none, none, none, none, none, none, none, none, none, none, none, none, none, none, none, none, none, none] ts) 0 ?_ ?_
  · exact ⟨rfl, rfl, by simp [frC]⟩
  · rintro m ts M ⟨rfl, rfl, hf⟩
    obtain ⟨f, rfl⟩ := frC_open _ _ 0 hf
    clear hf
    (refine top_in ?_; simp -implicitDefEqProofs only [go_sem, -List.reduceReplicate, ↓L_gdZ_tt, ↓L_gdZ_tf, ↓L_gdZ_ft, ↓L_gdZ_ff, ↓T_and, ↓T_imp, ↓T_all, hb, g, hl]; try simp only [top_out])
    exact dropC_all (Nat.le_refl _) hK
theorem pendingsWrite_no (b : Nat) (base pass id : Int) (F : Nat → SV) (M : List Blk) (K : SV → List Blk → Prop) (h : Bk M b base pass F) (h0 : F 35 = .sn) (hK : K (.i .i64 id) M) :
    callVC Tryz.prog 72 [.p b 0, .i .i64 id] M K := by
  obtain ⟨R, ty, hb, hR⟩ := h
  have hl := hR.len
  have g := getD_of ((hR.f 35 (by decide) (by decide)).1.trans (congrArg some h0))
  refine fn_rule tabOK Tryz.func72 rfl Tryz.call72 (by kernel_rfl) (fun hM => ?_)
  (refine top_in ?_; simp -implicitDefEqProofs only [Tryz.ntmps72, Tryz.results72, go_sem, -List.reduceReplicate, ↓L_gdZ_tt, ↓L_gdZ_tf, ↓L_gdZ_ft, ↓L_gdZ_ff, ↓T_and, ↓T_imp, ↓T_all, hb, g, hl]; try simp only [top_out])
  refine loop_code tabOK (by kernel_rfl) (fun m ts M' => m = 0 ∧ M' = M ∧ frC [some (.p b 0), some (.i .i64 id), none, none, none, some (.i .i64 0), none, none, none, none, none, none, none, none, none, none, none, none, none, none, none, none, none, none, none, none, none, none, none, none, none, none, none, none, none, none, none, none, none, none, none, none, none, none] ts) 0 ?_ ?_
  · exact ⟨rfl, rfl, by simp [frC]⟩
  · rintro m ts M ⟨rfl, rfl, hf⟩
    obtain ⟨f, rfl⟩ := frC_open _ _ 0 hf
    clear hf
    (refine top_in ?_; simp -implicitDefEqProofs only [go_sem, -List.reduceReplicate, ↓L_gdZ_tt, ↓L_gdZ_tf, ↓L_gdZ_ft, ↓L_gdZ_ff, ↓T_and, ↓T_imp, ↓T_all, hb, g, hl]; try simp only [top_out])
    exact dropC_all (Nat.le_refl _) hK
theorem pendingsGrow_no (b : Nat) (base pass id t : Int) (F : Nat → SV) (M : List Blk) (K : SV → List Blk → Prop) (h : Bk M b base pass F) (h0 : F 35 = .sn) (hK : K (.i .i64 id) M) :
    callVC Tryz.prog 106 [.p b 0, .i .i64 id, .i .i64 t] M K := by
  obtain ⟨R, ty, hb, hR⟩ := h
  have hl := hR.len
  have g := getD_of ((hR.f 35 (by decide) (by decide)).1.trans (congrArg some h0))
  refine fn_rule tabOK Tryz.func106 rfl Tryz.call106 (by kernel_rfl) (fun hM => ?_)
  (refine top_in ?_; simp -implicitDefEqProofs only [Tryz.ntmps106, Tryz.results106, go_sem, -List.reduceReplicate, ↓L_gdZ_tt, ↓L_gdZ_tf, ↓L_gdZ_ft, ↓L_gdZ_ff, ↓T_and, ↓T_imp, ↓T_all, hb, g, hl]; try simp only [top_out])
  refine loop_code tabOK (by kernel_rfl) (fun m ts M' => m = 0 ∧ M' = M ∧ frC (some (.p b 0) :: some (.i .i64 id) :: none :: none :: none :: none :: none :: some (.i .i64 0) :: none :: none :: none :: none :: none :: none :: none :: none :: none :: none :: none :: none :: none :: none :: none :: none :: none :: none :: none :: none :: none :: none :: none :: none :: none :: none :: none :: none :: none :: none :: none :: none :: none :: none :: none :: none :: none :: none :: none :: none :: none :: none :: none :: none :: none :: none :: none :: none :: none :: none :: none :: none :: none :: none :: none :: none :: none :: none :: []) ts) 0 ?_ ?_
  · exact ⟨rfl, rfl, by simp [frC]⟩
  · rintro m ts M ⟨rfl, rfl, hf⟩
    obtain ⟨f, rfl⟩ := frC_open _ _ 0 hf
    clear hf
    (refine top_in ?_; simp -implicitDefEqProofs only [go_sem, -List.reduceReplicate, ↓L_gdZ_tt, ↓L_gdZ_tf, ↓L_gdZ_ft, ↓L_gdZ_ff, ↓T_and, ↓T_imp, ↓T_all, hb, g, hl]; try simp only [top_out])
    exact dropC_all (Nat.le_refl _) hK
theorem pendingsHold_no (b : Nat) (base pass id : Int) (F : Nat → SV) (M : List Blk) (K : SV → List Blk → Prop) (h : Bk M b base pass F) (h0 : F 35 = .sn) (hK : K (.tup [.i .i64 id, .b true]) M) :
    callVC Tryz.prog 89 [.p b 0, .i .i64 id] M K := by
  obtain ⟨R, ty, hb, hR⟩ := h
  have hl := hR.len
  have g := getD_of ((hR.f 35 (by decide) (by decide)).1.trans (congrArg some h0))
  refine fn_rule tabOK Tryz.func89 rfl Tryz.call89 (by kernel_rfl) (fun hM => ?_)
  (refine top_in ?_; simp -implicitDefEqProofs only [Tryz.ntmps89, Tryz.results89, go_sem, -List.reduceReplicate, ↓L_gdZ_tt, ↓L_gdZ_tf, ↓L_gdZ_ft, ↓L_gdZ_ff, ↓T_and, ↓T_imp, ↓T_all, hb, g, hl]; try simp only [top_out])
  refine loop_code tabOK (by kernel_rfl) (fun m ts M' => m = 0 ∧ M' = M ∧ frC [some (.p b 0), some (.i .i64 id), none, none, none, none, some (.b true), some (.i .i64 0), none, none, none, none, none, none, none, none, none, none, none, none, none, none, none, none, none, none, none, none, none, none, none, none, none, none, none, none, none, none, none, none, none, none, none, none, none, none, none, none, none, none, none, none, none, none, none, none, none, none] ts) 0 ?_ ?_
  · exact ⟨rfl, rfl, by simp [frC]⟩
  · rintro m ts M ⟨rfl, rfl, hf⟩
    obtain ⟨f, rfl⟩ := frC_open _ _ 0 hf
    clear hf
    (refine top_in ?_; simp -implicitDefEqProofs only [go_sem, -List.reduceReplicate, ↓L_gdZ_tt, ↓L_gdZ_tf, ↓L_gdZ_ft, ↓L_gdZ_ff, ↓T_and, ↓T_imp, ↓T_all, hb, g, hl]; try simp only [top_out])
    exact dropC_all (Nat.le_refl _) hK
theorem changesWrite_no (b : Nat) (base pass id : Int) (F : Nat → SV) (M : List Blk) (K : SV → List Blk → Prop) (h : Bk M b base pass F) (h0 : F 38 = .sn) (hK : K (.i .i64 id) M) :
    callVC Tryz.prog 73 [.p b 0, .i .i64 id] M K := by
  obtain ⟨R, ty, hb, hR⟩ := h
  have hl := hR.len
  have g := getD_of ((hR.f 38 (by decide) (by decide)).1.trans (congrArg some h0))
  refine fn_rule tabOK Tryz.func73 rfl Tryz.call73 (by kernel_rfl) (fun hM => ?_)
  (refine top_in ?_; simp -implicitDefEqProofs only [Tryz.ntmps73, Tryz.results73, go_sem, -List.reduceReplicate, ↓L_gdZ_tt, ↓L_gdZ_tf, ↓L_gdZ_ft, ↓L_gdZ_ff, ↓T_and, ↓T_imp, ↓T_all, hb, g, hl]; try simp only [top_out])
  refine loop_code tabOK (by kernel_rfl) (fun m ts M' => m = 0 ∧ M' = M ∧ frC [some (.p b 0), some (.i .i64 id), none, none, none, some (.i .i64 0), none, none, none, none, none, none, none, none, none, none, none, none, none, none, none, none, none, none, none, none, none, none, none, none, none, none, none, none, none, none, none, none, none, none, none, none, none, none] ts) 0 ?_ ?_
  · exact ⟨rfl, rfl, by simp [frC]⟩
  · rintro m ts M ⟨rfl, rfl, hf⟩
    obtain ⟨f, rfl⟩ := frC_open _ _ 0 hf
    clear hf
    (refine top_in ?_; simp -implicitDefEqProofs only [go_sem, -List.reduceReplicate, ↓L_gdZ_tt, ↓L_gdZ_tf, ↓L_gdZ_ft, ↓L_gdZ_ff, ↓T_and, ↓T_imp, ↓T_all, hb, g, hl]; try simp only [top_out])
    exact dropC_all (Nat.le_refl _) hK
theorem changesGrow_no (b : Nat) (base pass id t : Int) (F : Nat → SV) (M : List Blk) (K : SV → List Blk → Prop) (h : Bk M b base pass F) (h0 : F 38 = .sn) (hK : K (.i .i64 id) M) :
    callVC Tryz.prog 107 [.p b 0, .i .i64 id, .i .i64 t] M K := by
  obtain ⟨R, ty, hb, hR⟩ := h
  have hl := hR.len
  have g := getD_of ((hR.f 38 (by decide) (by decide)).1.trans (congrArg some h0))
  refine fn_rule tabOK Tryz.func107 rfl Tryz.call107 (by kernel_rfl) (fun hM => ?_)
  (refine top_in ?_; simp -implicitDefEqProofs only [Tryz.ntmps107, Tryz.results107, go_sem, -List.reduceReplicate, ↓L_gdZ_tt, ↓L_gdZ_tf, ↓L_gdZ_ft, ↓L_gdZ_ff, ↓T_and, ↓T_imp, ↓T_all, hb, g, hl]; try simp only [top_out])
  refine loop_code tabOK (by kernel_rfl) (fun m ts M' => m = 0 ∧ M' = M ∧ frC (some (.p b 0) :: some (.i .i64 id) :: none :: none :: none :: none :: none :: some (.i .i64 0) :: none :: none :: none :: none :: none :: none :: none :: none :: none :: none :: none :: none :: none :: none :: none :: none :: none :: none :: none :: none :: none :: none :: none :: none :: none :: none :: none :: none :: none :: none :: none :: none :: none :: none :: none :: none :: none :: none :: none :: none :: none :: none :: none :: none :: none :: none :: none :: none :: none :: none :: none :: none :: none :: none :: none :: none :: none :: none :: []) ts) 0 ?_ ?_
  · exact ⟨rfl, rfl, by simp [frC]⟩
  · rintro m ts M ⟨rfl, rfl, hf⟩
    obtain ⟨f, rfl⟩ := frC_open _ _ 0 hf
    clear hf
    (refine top_in ?_; simp -implicitDefEqProofs only [go_sem, -List.reduceReplicate, ↓L_gdZ_tt, ↓L_gdZ_tf, ↓L_gdZ_ft, ↓L_gdZ_ff, ↓T_and, ↓T_imp, ↓T_all, hb, g, hl]; try simp only [top_out])
    exact dropC_all (Nat.le_refl _) hK
theorem changesHold_no (b : Nat) (base pass id : Int) (F : Nat → SV) (M : List Blk) (K : SV → List Blk → Prop) (h : Bk M b base pass F) (h0 : F 38 = .sn) (hK : K (.tup [.i .i64 id, .b true]) M) :
    callVC Tryz.prog 90 [.p b 0, .i .i64 id] M K := by
  obtain ⟨R, ty, hb, hR⟩ := h
  have hl := hR.len
  have g := getD_of ((hR.f 38 (by decide) (by decide)).1.trans (congrArg some h0))
  refine fn_rule tabOK Tryz.func90 rfl Tryz.call90 (by kernel_rfl) (fun hM => ?_)
  (refine top_in ?_; simp -implicitDefEqProofs only [Tryz.ntmps90, Tryz.results90, go_sem, -List.reduceReplicate, ↓L_gdZ_tt, ↓L_gdZ_tf, ↓L_gdZ_ft, ↓L_gdZ_ff, ↓T_and, ↓T_imp, ↓T_all, hb, g, hl]; try simp only [top_out])
  refine loop_code tabOK (by kernel_rfl) (fun m ts M' => m = 0 ∧ M' = M ∧ frC [some (.p b 0), some (.i .i64 id), none, none, none, none, some (.b true), some (.i .i64 0), none, none, none, none, none, none, none, none, none, none, none, none, none, none, none, none, none, none, none, none, none, none, none, none, none, none, none, none, none, none, none, none, none, none, none, none, none, none, none, none, none, none, none, none, none, none, none, none, none, none] ts) 0 ?_ ?_
  · exact ⟨rfl, rfl, by simp [frC]⟩
  · rintro m ts M ⟨rfl, rfl, hf⟩
    obtain ⟨f, rfl⟩ := frC_open _ _ 0 hf
    clear hf
    (refine top_in ?_; simp -implicitDefEqProofs only [go_sem, -List.reduceReplicate, ↓L_gdZ_tt, ↓L_gdZ_tf, ↓L_gdZ_ft, ↓L_gdZ_ff, ↓T_and, ↓T_imp, ↓T_all, hb, g, hl]; try simp only [top_out])
    exact dropC_all (Nat.le_refl _) hK
theorem faultsWrite_no (b : Nat) (base pass id : Int) (F : Nat → SV) (M : List Blk) (K : SV → List Blk → Prop) (h : Bk M b base pass F) (h0 : F 41 = .sn) (hK : K (.i .i64 id) M) :
    callVC Tryz.prog 74 [.p b 0, .i .i64 id] M K := by
  obtain ⟨R, ty, hb, hR⟩ := h
  have hl := hR.len
  have g := getD_of ((hR.f 41 (by decide) (by decide)).1.trans (congrArg some h0))
  refine fn_rule tabOK Tryz.func74 rfl Tryz.call74 (by kernel_rfl) (fun hM => ?_)
  (refine top_in ?_; simp -implicitDefEqProofs only [Tryz.ntmps74, Tryz.results74, go_sem, -List.reduceReplicate, ↓L_gdZ_tt, ↓L_gdZ_tf, ↓L_gdZ_ft, ↓L_gdZ_ff, ↓T_and, ↓T_imp, ↓T_all, hb, g, hl]; try simp only [top_out])
  refine loop_code tabOK (by kernel_rfl) (fun m ts M' => m = 0 ∧ M' = M ∧ frC [some (.p b 0), some (.i .i64 id), none, none, none, some (.i .i64 0), none, none, none, none, none, none, none, none, none, none, none, none, none, none, none, none, none, none, none, none, none, none, none, none, none, none, none, none, none, none, none, none, none, none, none, none, none, none] ts) 0 ?_ ?_
  · exact ⟨rfl, rfl, by simp [frC]⟩
  · rintro m ts M ⟨rfl, rfl, hf⟩
    obtain ⟨f, rfl⟩ := frC_open _ _ 0 hf
    clear hf
    (refine top_in ?_; simp -implicitDefEqProofs only [go_sem, -List.reduceReplicate, ↓L_gdZ_tt, ↓L_gdZ_tf, ↓L_gdZ_ft, ↓L_gdZ_ff, ↓T_and, ↓T_imp, ↓T_all, hb, g, hl]; try simp only [top_out])
    exact dropC_all (Nat.le_refl _) hK
theorem faultsGrow_no (b : Nat) (base pass id t : Int) (F : Nat → SV) (M : List Blk) (K : SV → List Blk → Prop) (h : Bk M b base pass F) (h0 : F 41 = .sn) (hK : K (.i .i64 id) M) :
    callVC Tryz.prog 108 [.p b 0, .i .i64 id, .i .i64 t] M K := by
  obtain ⟨R, ty, hb, hR⟩ := h
  have hl := hR.len
  have g := getD_of ((hR.f 41 (by decide) (by decide)).1.trans (congrArg some h0))
  refine fn_rule tabOK Tryz.func108 rfl Tryz.call108 (by kernel_rfl) (fun hM => ?_)
  (refine top_in ?_; simp -implicitDefEqProofs only [Tryz.ntmps108, Tryz.results108, go_sem, -List.reduceReplicate, ↓L_gdZ_tt, ↓L_gdZ_tf, ↓L_gdZ_ft, ↓L_gdZ_ff, ↓T_and, ↓T_imp, ↓T_all, hb, g, hl]; try simp only [top_out])
  refine loop_code tabOK (by kernel_rfl) (fun m ts M' => m = 0 ∧ M' = M ∧ frC (some (.p b 0) :: some (.i .i64 id) :: none :: none :: none :: none :: none :: some (.i .i64 0) :: none :: none :: none :: none :: none :: none :: none :: none :: none :: none :: none :: none :: none :: none :: none :: none :: none :: none :: none :: none :: none :: none :: none :: none :: none :: none :: none :: none :: none :: none :: none :: none :: none :: none :: none :: none :: none :: none :: none :: none :: none :: none :: none :: none :: none :: none :: none :: none :: none :: none :: none :: none :: none :: none :: none :: none :: none :: none :: []) ts) 0 ?_ ?_
  · exact ⟨rfl, rfl, by simp [frC]⟩
  · rintro m ts M ⟨rfl, rfl, hf⟩
    obtain ⟨f, rfl⟩ := frC_open _ _ 0 hf
    clear hf
    (refine top_in ?_; simp -implicitDefEqProofs only [go_sem, -List.reduceReplicate, ↓L_gdZ_tt, ↓L_gdZ_tf, ↓L_gdZ_ft, ↓L_gdZ_ff, ↓T_and, ↓T_imp, ↓T_all, hb, g, hl]; try simp only [top_out])
    exact dropC_all (Nat.le_refl _) hK
theorem faultsHold_no (b : Nat) (base pass id : Int) (F : Nat → SV) (M : List Blk) (K : SV → List Blk → Prop) (h : Bk M b base pass F) (h0 : F 41 = .sn) (hK : K (.tup [.i .i64 id, .b true]) M) :
    callVC Tryz.prog 91 [.p b 0, .i .i64 id] M K := by
  obtain ⟨R, ty, hb, hR⟩ := h
  have hl := hR.len
  have g := getD_of ((hR.f 41 (by decide) (by decide)).1.trans (congrArg some h0))
  refine fn_rule tabOK Tryz.func91 rfl Tryz.call91 (by kernel_rfl) (fun hM => ?_)
  (refine top_in ?_; simp -implicitDefEqProofs only [Tryz.ntmps91, Tryz.results91, go_sem, -List.reduceReplicate, ↓L_gdZ_tt, ↓L_gdZ_tf, ↓L_gdZ_ft, ↓L_gdZ_ff, ↓T_and, ↓T_imp, ↓T_all, hb, g, hl]; try simp only [top_out])
  refine loop_code tabOK (by kernel_rfl) (fun m ts M' => m = 0 ∧ M' = M ∧ frC [some (.p b 0), some (.i .i64 id), none, none, none, none, some (.b true), some (.i .i64 0), none, none, none, none, none, none, none, none, none, none, none, none, none, none, none, none, none, none, none, none, none, none, none, none, none, none, none, none, none, none, none, none, none, none, none, none, none, none, none, none, none, none, none, none, none, none, none, none, none, none] ts) 0 ?_ ?_
  · exact ⟨rfl, rfl, by simp [frC]⟩
  · rintro m ts M ⟨rfl, rfl, hf⟩
    obtain ⟨f, rfl⟩ := frC_open _ _ 0 hf
    clear hf
    (refine top_in ?_; simp -implicitDefEqProofs only [go_sem, -List.reduceReplicate, ↓L_gdZ_tt, ↓L_gdZ_tf, ↓L_gdZ_ft, ↓L_gdZ_ff, ↓T_and, ↓T_imp, ↓T_all, hb, g, hl]; try simp only [top_out])
    exact dropC_all (Nat.le_refl _) hK
theorem flightsWrite_no (b : Nat) (base pass id : Int) (F : Nat → SV) (M : List Blk) (K : SV → List Blk → Prop) (h : Bk M b base pass F) (h0 : F 44 = .sn) (hK : K (.i .i64 id) M) :
    callVC Tryz.prog 75 [.p b 0, .i .i64 id] M K := by
  obtain ⟨R, ty, hb, hR⟩ := h
  have hl := hR.len
  have g := getD_of ((hR.f 44 (by decide) (by decide)).1.trans (congrArg some h0))
  refine fn_rule tabOK Tryz.func75 rfl Tryz.call75 (by kernel_rfl) (fun hM => ?_)
  (refine top_in ?_; simp -implicitDefEqProofs only [Tryz.ntmps75, Tryz.results75, go_sem, -List.reduceReplicate, ↓L_gdZ_tt, ↓L_gdZ_tf, ↓L_gdZ_ft, ↓L_gdZ_ff, ↓T_and, ↓T_imp, ↓T_all, hb, g, hl]; try simp only [top_out])
  refine loop_code tabOK (by kernel_rfl) (fun m ts M' => m = 0 ∧ M' = M ∧ frC [some (.p b 0), some (.i .i64 id), none, none, none, some (.i .i64 0), none, none, none, none, none, none, none, none, none, none, none, none, none, none, none, none, none, none, none, none, none, none, none, none, none, none, none, none, none, none, none, none, none, none, none, none, none, none] ts) 0 ?_ ?_
  · exact ⟨rfl, rfl, by simp [frC]⟩
  · rintro m ts M ⟨rfl, rfl, hf⟩
    obtain ⟨f, rfl⟩ := frC_open _ _ 0 hf
    clear hf
    (refine top_in ?_; simp -implicitDefEqProofs only [go_sem, -List.reduceReplicate, ↓L_gdZ_tt, ↓L_gdZ_tf, ↓L_gdZ_ft, ↓L_gdZ_ff, ↓T_and, ↓T_imp, ↓T_all, hb, g, hl]; try simp only [top_out])
    exact dropC_all (Nat.le_refl _) hK
theorem flightsGrow_no (b : Nat) (base pass id t : Int) (F : Nat → SV) (M : List Blk) (K : SV → List Blk → Prop) (h : Bk M b base pass F) (h0 : F 44 = .sn) (hK : K (.i .i64 id) M) :
    callVC Tryz.prog 109 [.p b 0, .i .i64 id, .i .i64 t] M K := by
  obtain ⟨R, ty, hb, hR⟩ := h
  have hl := hR.len
  have g := getD_of ((hR.f 44 (by decide) (by decide)).1.trans (congrArg some h0))
  refine fn_rule tabOK Tryz.func109 rfl Tryz.call109 (by kernel_rfl) (fun hM => ?_)
  (refine top_in ?_; simp -implicitDefEqProofs only [Tryz.ntmps109, Tryz.results109, go_sem, -List.reduceReplicate, ↓L_gdZ_tt, ↓L_gdZ_tf, ↓L_gdZ_ft, ↓L_gdZ_ff, ↓T_and, ↓T_imp, ↓T_all, hb, g, hl]; try simp only [top_out])
  refine loop_code tabOK (by kernel_rfl) (fun m ts M' => m = 0 ∧ M' = M ∧ frC (some (.p b 0) :: some (.i .i64 id) :: none :: none :: none :: none :: none :: some (.i .i64 0) :: none :: none :: none :: none :: none :: none :: none :: none :: none :: none :: none :: none :: none :: none :: none :: none :: none :: none :: none :: none :: none :: none :: none :: none :: none :: none :: none :: none :: none :: none :: none :: none :: none :: none :: none :: none :: none :: none :: none :: none :: none :: none :: none :: none :: none :: none :: none :: none :: none :: none :: none :: none :: none :: none :: none :: none :: none :: none :: []) ts) 0 ?_ ?_
  · exact ⟨rfl, rfl, by simp [frC]⟩
  · rintro m ts M ⟨rfl, rfl, hf⟩
    obtain ⟨f, rfl⟩ := frC_open _ _ 0 hf
    clear hf
    (refine top_in ?_; simp -implicitDefEqProofs only [go_sem, -List.reduceReplicate, ↓L_gdZ_tt, ↓L_gdZ_tf, ↓L_gdZ_ft, ↓L_gdZ_ff, ↓T_and, ↓T_imp, ↓T_all, hb, g, hl]; try simp only [top_out])
    exact dropC_all (Nat.le_refl _) hK
theorem flightsHold_no (b : Nat) (base pass id : Int) (F : Nat → SV) (M : List Blk) (K : SV → List Blk → Prop) (h : Bk M b base pass F) (h0 : F 44 = .sn) (hK : K (.tup [.i .i64 id, .b true]) M) :
    callVC Tryz.prog 92 [.p b 0, .i .i64 id] M K := by
  obtain ⟨R, ty, hb, hR⟩ := h
  have hl := hR.len
  have g := getD_of ((hR.f 44 (by decide) (by decide)).1.trans (congrArg some h0))
  refine fn_rule tabOK Tryz.func92 rfl Tryz.call92 (by kernel_rfl) (fun hM => ?_)
  (refine top_in ?_; simp -implicitDefEqProofs only [Tryz.ntmps92, Tryz.results92, go_sem, -List.reduceReplicate, ↓L_gdZ_tt, ↓L_gdZ_tf, ↓L_gdZ_ft, ↓L_gdZ_ff, ↓T_and, ↓T_imp, ↓T_all, hb, g, hl]; try simp only [top_out])
  refine loop_code tabOK (by kernel_rfl) (fun m ts M' => m = 0 ∧ M' = M ∧ frC [some (.p b 0), some (.i .i64 id), none, none, none, none, some (.b true), some (.i .i64 0), none, none, none, none, none, none, none, none, none, none, none, none, none, none, none, none, none, none, none, none, none, none, none, none, none, none, none, none, none, none, none, none, none, none, none, none, none, none, none, none, none, none, none, none, none, none, none, none, none, none] ts) 0 ?_ ?_
  · exact ⟨rfl, rfl, by simp [frC]⟩
  · rintro m ts M ⟨rfl, rfl, hf⟩
    obtain ⟨f, rfl⟩ := frC_open _ _ 0 hf
    clear hf
    (refine top_in ?_; simp -implicitDefEqProofs only [go_sem, -List.reduceReplicate, ↓L_gdZ_tt, ↓L_gdZ_tf, ↓L_gdZ_ft, ↓L_gdZ_ff, ↓T_and, ↓T_imp, ↓T_all, hb, g, hl]; try simp only [top_out])
    exact dropC_all (Nat.le_refl _) hK
theorem opsWrite_no (b : Nat) (base pass id : Int) (F : Nat → SV) (M : List Blk) (K : SV → List Blk → Prop) (h : Bk M b base pass F) (h0 : F 47 = .sn) (hK : K (.i .i64 id) M) :
    callVC Tryz.prog 76 [.p b 0, .i .i64 id] M K := by
  obtain ⟨R, ty, hb, hR⟩ := h
  have hl := hR.len
  have g := getD_of ((hR.f 47 (by decide) (by decide)).1.trans (congrArg some h0))
  refine fn_rule tabOK Tryz.func76 rfl Tryz.call76 (by kernel_rfl) (fun hM => ?_)
  (refine top_in ?_; simp -implicitDefEqProofs only [Tryz.ntmps76, Tryz.results76, go_sem, -List.reduceReplicate, ↓L_gdZ_tt, ↓L_gdZ_tf, ↓L_gdZ_ft, ↓L_gdZ_ff, ↓T_and, ↓T_imp, ↓T_all, hb, g, hl]; try simp only [top_out])
  refine loop_code tabOK (by kernel_rfl) (fun m ts M' => m = 0 ∧ M' = M ∧ frC [some (.p b 0), some (.i .i64 id), none, none, none, some (.i .i64 0), none, none, none, none, none, none, none, none, none, none, none, none, none, none, none, none, none, none, none, none, none, none, none, none, none, none, none, none, none, none, none, none, none, none, none, none, none, none] ts) 0 ?_ ?_
  · exact ⟨rfl, rfl, by simp [frC]⟩
  · rintro m ts M ⟨rfl, rfl, hf⟩
    obtain ⟨f, rfl⟩ := frC_open _ _ 0 hf
    clear hf
    (refine top_in ?_; simp -implicitDefEqProofs only [go_sem, -List.reduceReplicate, ↓L_gdZ_tt, ↓L_gdZ_tf, ↓L_gdZ_ft, ↓L_gdZ_ff, ↓T_and, ↓T_imp, ↓T_all, hb, g, hl]; try simp only [top_out])
    exact dropC_all (Nat.le_refl _) hK
theorem opsGrow_no (b : Nat) (base pass id t : Int) (F : Nat → SV) (M : List Blk) (K : SV → List Blk → Prop) (h : Bk M b base pass F) (h0 : F 47 = .sn) (hK : K (.i .i64 id) M) :
    callVC Tryz.prog 110 [.p b 0, .i .i64 id, .i .i64 t] M K := by
  obtain ⟨R, ty, hb, hR⟩ := h
  have hl := hR.len
  have g := getD_of ((hR.f 47 (by decide) (by decide)).1.trans (congrArg some h0))
  refine fn_rule tabOK Tryz.func110 rfl Tryz.call110 (by kernel_rfl) (fun hM => ?_)
  (refine top_in ?_; simp -implicitDefEqProofs only [Tryz.ntmps110, Tryz.results110, go_sem, -List.reduceReplicate, ↓L_gdZ_tt, ↓L_gdZ_tf, ↓L_gdZ_ft, ↓L_gdZ_ff, ↓T_and, ↓T_imp, ↓T_all, hb, g, hl]; try simp only [top_out])
  refine loop_code tabOK (by kernel_rfl) (fun m ts M' => m = 0 ∧ M' = M ∧ frC (some (.p b 0) :: some (.i .i64 id) :: none :: none :: none :: none :: none :: some (.i .i64 0) :: none :: none :: none :: none :: none :: none :: none :: none :: none :: none :: none :: none :: none :: none :: none :: none :: none :: none :: none :: none :: none :: none :: none :: none :: none :: none :: none :: none :: none :: none :: none :: none :: none :: none :: none :: none :: none :: none :: none :: none :: none :: none :: none :: none :: none :: none :: none :: none :: none :: none :: none :: none :: none :: none :: none :: none :: none :: none :: []) ts) 0 ?_ ?_
  · exact ⟨rfl, rfl, by simp [frC]⟩
  · rintro m ts M ⟨rfl, rfl, hf⟩
    obtain ⟨f, rfl⟩ := frC_open _ _ 0 hf
    clear hf
    (refine top_in ?_; simp -implicitDefEqProofs only [go_sem, -List.reduceReplicate, ↓L_gdZ_tt, ↓L_gdZ_tf, ↓L_gdZ_ft, ↓L_gdZ_ff, ↓T_and, ↓T_imp, ↓T_all, hb, g, hl]; try simp only [top_out])
    exact dropC_all (Nat.le_refl _) hK
theorem opsHold_no (b : Nat) (base pass id : Int) (F : Nat → SV) (M : List Blk) (K : SV → List Blk → Prop) (h : Bk M b base pass F) (h0 : F 47 = .sn) (hK : K (.tup [.i .i64 id, .b true]) M) :
    callVC Tryz.prog 93 [.p b 0, .i .i64 id] M K := by
  obtain ⟨R, ty, hb, hR⟩ := h
  have hl := hR.len
  have g := getD_of ((hR.f 47 (by decide) (by decide)).1.trans (congrArg some h0))
  refine fn_rule tabOK Tryz.func93 rfl Tryz.call93 (by kernel_rfl) (fun hM => ?_)
  (refine top_in ?_; simp -implicitDefEqProofs only [Tryz.ntmps93, Tryz.results93, go_sem, -List.reduceReplicate, ↓L_gdZ_tt, ↓L_gdZ_tf, ↓L_gdZ_ft, ↓L_gdZ_ff, ↓T_and, ↓T_imp, ↓T_all, hb, g, hl]; try simp only [top_out])
  refine loop_code tabOK (by kernel_rfl) (fun m ts M' => m = 0 ∧ M' = M ∧ frC [some (.p b 0), some (.i .i64 id), none, none, none, none, some (.b true), some (.i .i64 0), none, none, none, none, none, none, none, none, none, none, none, none, none, none, none, none, none, none, none, none, none, none, none, none, none, none, none, none, none, none, none, none, none, none, none, none, none, none, none, none, none, none, none, none, none, none, none, none, none, none] ts) 0 ?_ ?_
  · exact ⟨rfl, rfl, by simp [frC]⟩
  · rintro m ts M ⟨rfl, rfl, hf⟩
    obtain ⟨f, rfl⟩ := frC_open _ _ 0 hf
    clear hf
    (refine top_in ?_; simp -implicitDefEqProofs only [go_sem, -List.reduceReplicate, ↓L_gdZ_tt, ↓L_gdZ_tf, ↓L_gdZ_ft, ↓L_gdZ_ff, ↓T_and, ↓T_imp, ↓T_all, hb, g, hl]; try simp only [top_out])
    exact dropC_all (Nat.le_refl _) hK
theorem eventsWrite_no (b : Nat) (base pass id : Int) (F : Nat → SV) (M : List Blk) (K : SV → List Blk → Prop) (h : Bk M b base pass F) (h0 : F 50 = .sn) (hK : K (.i .i64 id) M) :
    callVC Tryz.prog 77 [.p b 0, .i .i64 id] M K := by
  obtain ⟨R, ty, hb, hR⟩ := h
  have hl := hR.len
  have g := getD_of ((hR.f 50 (by decide) (by decide)).1.trans (congrArg some h0))
  refine fn_rule tabOK Tryz.func77 rfl Tryz.call77 (by kernel_rfl) (fun hM => ?_)
  (refine top_in ?_; simp -implicitDefEqProofs only [Tryz.ntmps77, Tryz.results77, go_sem, -List.reduceReplicate, ↓L_gdZ_tt, ↓L_gdZ_tf, ↓L_gdZ_ft, ↓L_gdZ_ff, ↓T_and, ↓T_imp, ↓T_all, hb, g, hl]; try simp only [top_out])
  refine loop_code tabOK (by kernel_rfl) (fun m ts M' => m = 0 ∧ M' = M ∧ frC [some (.p b 0), some (.i .i64 id), none, none, none, some (.i .i64 0), none, none, none, none, none, none, none, none, none, none, none, none, none, none, none, none, none, none, none, none, none, none, none, none, none, none, none, none, none, none, none, none, none, none, none, none, none, none] ts) 0 ?_ ?_
  · exact ⟨rfl, rfl, by simp [frC]⟩
  · rintro m ts M ⟨rfl, rfl, hf⟩
    obtain ⟨f, rfl⟩ := frC_open _ _ 0 hf
    clear hf
    (refine top_in ?_; simp -implicitDefEqProofs only [go_sem, -List.reduceReplicate, ↓L_gdZ_tt, ↓L_gdZ_tf, ↓L_gdZ_ft, ↓L_gdZ_ff, ↓T_and, ↓T_imp, ↓T_all, hb, g, hl]; try simp only [top_out])
    exact dropC_all (Nat.le_refl _) hK
theorem eventsGrow_no (b : Nat) (base pass id t : Int) (F : Nat → SV) (M : List Blk) (K : SV → List Blk → Prop) (h : Bk M b base pass F) (h0 : F 50 = .sn) (hK : K (.i .i64 id) M) :
    callVC Tryz.prog 111 [.p b 0, .i .i64 id, .i .i64 t] M K := by
  obtain ⟨R, ty, hb, hR⟩ := h
  have hl := hR.len
  have g := getD_of ((hR.f 50 (by decide) (by decide)).1.trans (congrArg some h0))
  refine fn_rule tabOK Tryz.func111 rfl Tryz.call111 (by kernel_rfl) (fun hM => ?_)
  (refine top_in ?_; simp -implicitDefEqProofs only [Tryz.ntmps111, Tryz.results111, go_sem, -List.reduceReplicate, ↓L_gdZ_tt, ↓L_gdZ_tf, ↓L_gdZ_ft, ↓L_gdZ_ff, ↓T_and, ↓T_imp, ↓T_all, hb, g, hl]; try simp only [top_out])
  refine loop_code tabOK (by kernel_rfl) (fun m ts M' => m = 0 ∧ M' = M ∧ frC (some (.p b 0) :: some (.i .i64 id) :: none :: none :: none :: none :: none :: some (.i .i64 0) :: none :: none :: none :: none :: none :: none :: none :: none :: none :: none :: none :: none :: none :: none :: none :: none :: none :: none :: none :: none :: none :: none :: none :: none :: none :: none :: none :: none :: none :: none :: none :: none :: none :: none :: none :: none :: none :: none :: none :: none :: none :: none :: none :: none :: none :: none :: none :: none :: none :: none :: none :: none :: none :: none :: none :: none :: none :: none :: []) ts) 0 ?_ ?_
  · exact ⟨rfl, rfl, by simp [frC]⟩
  · rintro m ts M ⟨rfl, rfl, hf⟩
    obtain ⟨f, rfl⟩ := frC_open _ _ 0 hf
    clear hf
    (refine top_in ?_; simp -implicitDefEqProofs only [go_sem, -List.reduceReplicate, ↓L_gdZ_tt, ↓L_gdZ_tf, ↓L_gdZ_ft, ↓L_gdZ_ff, ↓T_and, ↓T_imp, ↓T_all, hb, g, hl]; try simp only [top_out])
    exact dropC_all (Nat.le_refl _) hK
theorem eventsHold_no (b : Nat) (base pass id : Int) (F : Nat → SV) (M : List Blk) (K : SV → List Blk → Prop) (h : Bk M b base pass F) (h0 : F 50 = .sn) (hK : K (.tup [.i .i64 id, .b true]) M) :
    callVC Tryz.prog 94 [.p b 0, .i .i64 id] M K := by
  obtain ⟨R, ty, hb, hR⟩ := h
  have hl := hR.len
  have g := getD_of ((hR.f 50 (by decide) (by decide)).1.trans (congrArg some h0))
  refine fn_rule tabOK Tryz.func94 rfl Tryz.call94 (by kernel_rfl) (fun hM => ?_)
  (refine top_in ?_; simp -implicitDefEqProofs only [Tryz.ntmps94, Tryz.results94, go_sem, -List.reduceReplicate, ↓L_gdZ_tt, ↓L_gdZ_tf, ↓L_gdZ_ft, ↓L_gdZ_ff, ↓T_and, ↓T_imp, ↓T_all, hb, g, hl]; try simp only [top_out])
  refine loop_code tabOK (by kernel_rfl) (fun m ts M' => m = 0 ∧ M' = M ∧ frC [some (.p b 0), some (.i .i64 id), none, none, none, none, some (.b true), some (.i .i64 0), none, none, none, none, none, none, none, none, none, none, none, none, none, none, none, none, none, none, none, none, none, none, none, none, none, none, none, none, none, none, none, none, none, none, none, none, none, none, none, none, none, none, none, none, none, none, none, none, none, none] ts) 0 ?_ ?_
  · exact ⟨rfl, rfl, by simp [frC]⟩
  · rintro m ts M ⟨rfl, rfl, hf⟩
    obtain ⟨f, rfl⟩ := frC_open _ _ 0 hf
    clear hf
    (refine top_in ?_; simp -implicitDefEqProofs only [go_sem, -List.reduceReplicate, ↓L_gdZ_tt, ↓L_gdZ_tf, ↓L_gdZ_ft, ↓L_gdZ_ff, ↓T_and, ↓T_imp, ↓T_all, hb, g, hl]; try simp only [top_out])
    exact dropC_all (Nat.le_refl _) hK
def NoKind (F : Nat → SV) : Prop := ∀ q, 5 ≤ q → q < 53 → F q = .sn
set_option maxHeartbeats 4000000 in
set_option maxRecDepth 20000 in
theorem write_ok (b : Nat) (base pass : Int) (F : Nat → SV) (c : Nat → Nat) (ks : List (SV × List (BitVec 8))) (M : List Blk) (K : SV → List Blk → Prop) (h : Bk M b base pass F) (cb : c b = 1) (hx : SlO M (F 2) (ks.map (·.1))) (cx : NmG (fun n => c n = 2) (F 2)) (hk : KB M c ks) (hno : NoKind F) (hid : 0 ≤ base ∧ base ≤ 100000) (hl : ks.length ≤ 100000)
    (hK : ∀ v M', KB M' c (markTo pass base ks ks.length) → Ag (fun n => 6 ≤ c n) M M' → K v M') :
    callVC Tryz.prog 41 [.p b 0] M K := by
  have hB := h
  obtain ⟨R, ty, hb, hR⟩ := h
  have hl3 := hR.len
  obtain ⟨i1, i2⟩ := isI_of hR.b
  refine fn_rule tabOK Tryz.func41 rfl Tryz.call41 (by kernel_rfl) (fun hM => ?_)
  (refine top_in ?_; simp -implicitDefEqProofs only [Tryz.ntmps41, Tryz.results41, go_sem, -List.reduceReplicate, ↓L_gdZ_tt, ↓L_gdZ_tf, ↓L_gdZ_ft, ↓L_gdZ_ff, ↓T_and, ↓T_imp, ↓T_all, hb, i1, i2, hl3]; try simp only [top_out])
  refine bytesWrite_ok b base pass base F c ks M _ hB cb hx cx hk (by omega) (by omega) (fun M1 hk1 A1 => ?_)
  have hB1 := hB.ag A1 (by rw [cb]; decide)
  (refine top_in ?_; simp -implicitDefEqProofs only [go_sem, -List.reduceReplicate, ↓L_gdZ_tt, ↓L_gdZ_tf, ↓L_gdZ_ft, ↓L_gdZ_ff, ↓T_and, ↓T_imp, ↓T_all]; try simp only [top_out])
  refine boolsWrite_no b base pass _ F M1 _ hB1 (hno 5 (by decide) (by decide)) ?_
  (refine top_in ?_; simp -implicitDefEqProofs only [go_sem, -List.reduceReplicate, ↓L_gdZ_tt, ↓L_gdZ_tf, ↓L_gdZ_ft, ↓L_gdZ_ff, ↓T_and, ↓T_imp, ↓T_all]; try simp only [top_out])
  refine intsWrite_no b base pass _ F M1 _ hB1 (hno 8 (by decide) (by decide)) ?_
  (refine top_in ?_; simp -implicitDefEqProofs only [go_sem, -List.reduceReplicate, ↓L_gdZ_tt, ↓L_gdZ_tf, ↓L_gdZ_ft, ↓L_gdZ_ff, ↓T_and, ↓T_imp, ↓T_all]; try simp only [top_out])
  refine textsWrite_no b base pass _ F M1 _ hB1 (hno 11 (by decide) (by decide)) ?_
  (refine top_in ?_; simp -implicitDefEqProofs only [go_sem, -List.reduceReplicate, ↓L_gdZ_tt, ↓L_gdZ_tf, ↓L_gdZ_ft, ↓L_gdZ_ff, ↓T_and, ↓T_imp, ↓T_all]; try simp only [top_out])
  refine byteListsWrite_no b base pass _ F M1 _ hB1 (hno 14 (by decide) (by decide)) ?_
  (refine top_in ?_; simp -implicitDefEqProofs only [go_sem, -List.reduceReplicate, ↓L_gdZ_tt, ↓L_gdZ_tf, ↓L_gdZ_ft, ↓L_gdZ_ff, ↓T_and, ↓T_imp, ↓T_all]; try simp only [top_out])
  refine prefixesWrite_no b base pass _ F M1 _ hB1 (hno 17 (by decide) (by decide)) ?_
  (refine top_in ?_; simp -implicitDefEqProofs only [go_sem, -List.reduceReplicate, ↓L_gdZ_tt, ↓L_gdZ_tf, ↓L_gdZ_ft, ↓L_gdZ_ff, ↓T_and, ↓T_imp, ↓T_all]; try simp only [top_out])
  refine openingsWrite_no b base pass _ F M1 _ hB1 (hno 20 (by decide) (by decide)) ?_
  (refine top_in ?_; simp -implicitDefEqProofs only [go_sem, -List.reduceReplicate, ↓L_gdZ_tt, ↓L_gdZ_tf, ↓L_gdZ_ft, ↓L_gdZ_ff, ↓T_and, ↓T_imp, ↓T_all]; try simp only [top_out])
  refine peersWrite_no b base pass _ F M1 _ hB1 (hno 23 (by decide) (by decide)) ?_
  (refine top_in ?_; simp -implicitDefEqProofs only [go_sem, -List.reduceReplicate, ↓L_gdZ_tt, ↓L_gdZ_tf, ↓L_gdZ_ft, ↓L_gdZ_ff, ↓T_and, ↓T_imp, ↓T_all]; try simp only [top_out])
  refine lanesWrite_no b base pass _ F M1 _ hB1 (hno 26 (by decide) (by decide)) ?_
  (refine top_in ?_; simp -implicitDefEqProofs only [go_sem, -List.reduceReplicate, ↓L_gdZ_tt, ↓L_gdZ_tf, ↓L_gdZ_ft, ↓L_gdZ_ff, ↓T_and, ↓T_imp, ↓T_all]; try simp only [top_out])
  refine rowsWrite_no b base pass _ F M1 _ hB1 (hno 29 (by decide) (by decide)) ?_
  (refine top_in ?_; simp -implicitDefEqProofs only [go_sem, -List.reduceReplicate, ↓L_gdZ_tt, ↓L_gdZ_tf, ↓L_gdZ_ft, ↓L_gdZ_ff, ↓T_and, ↓T_imp, ↓T_all]; try simp only [top_out])
  refine setsWrite_no b base pass _ F M1 _ hB1 (hno 32 (by decide) (by decide)) ?_
  (refine top_in ?_; simp -implicitDefEqProofs only [go_sem, -List.reduceReplicate, ↓L_gdZ_tt, ↓L_gdZ_tf, ↓L_gdZ_ft, ↓L_gdZ_ff, ↓T_and, ↓T_imp, ↓T_all]; try simp only [top_out])
  refine pendingsWrite_no b base pass _ F M1 _ hB1 (hno 35 (by decide) (by decide)) ?_
  (refine top_in ?_; simp -implicitDefEqProofs only [go_sem, -List.reduceReplicate, ↓L_gdZ_tt, ↓L_gdZ_tf, ↓L_gdZ_ft, ↓L_gdZ_ff, ↓T_and, ↓T_imp, ↓T_all]; try simp only [top_out])
  refine changesWrite_no b base pass _ F M1 _ hB1 (hno 38 (by decide) (by decide)) ?_
  (refine top_in ?_; simp -implicitDefEqProofs only [go_sem, -List.reduceReplicate, ↓L_gdZ_tt, ↓L_gdZ_tf, ↓L_gdZ_ft, ↓L_gdZ_ff, ↓T_and, ↓T_imp, ↓T_all]; try simp only [top_out])
  refine faultsWrite_no b base pass _ F M1 _ hB1 (hno 41 (by decide) (by decide)) ?_
  (refine top_in ?_; simp -implicitDefEqProofs only [go_sem, -List.reduceReplicate, ↓L_gdZ_tt, ↓L_gdZ_tf, ↓L_gdZ_ft, ↓L_gdZ_ff, ↓T_and, ↓T_imp, ↓T_all]; try simp only [top_out])
  refine flightsWrite_no b base pass _ F M1 _ hB1 (hno 44 (by decide) (by decide)) ?_
  (refine top_in ?_; simp -implicitDefEqProofs only [go_sem, -List.reduceReplicate, ↓L_gdZ_tt, ↓L_gdZ_tf, ↓L_gdZ_ft, ↓L_gdZ_ff, ↓T_and, ↓T_imp, ↓T_all]; try simp only [top_out])
  refine opsWrite_no b base pass _ F M1 _ hB1 (hno 47 (by decide) (by decide)) ?_
  (refine top_in ?_; simp -implicitDefEqProofs only [go_sem, -List.reduceReplicate, ↓L_gdZ_tt, ↓L_gdZ_tf, ↓L_gdZ_ft, ↓L_gdZ_ff, ↓T_and, ↓T_imp, ↓T_all]; try simp only [top_out])
  refine eventsWrite_no b base pass _ F M1 _ hB1 (hno 50 (by decide) (by decide)) ?_
  (refine top_in ?_; simp -implicitDefEqProofs only [go_sem, -List.reduceReplicate, ↓L_gdZ_tt, ↓L_gdZ_tf, ↓L_gdZ_ft, ↓L_gdZ_ff, ↓T_and, ↓T_imp, ↓T_all]; try simp only [top_out])
  exact dropC_all A1.1 (hK _ M1 hk1 A1)
set_option maxHeartbeats 4000000 in
set_option maxRecDepth 20000 in
theorem holds_ok (b : Nat) (base pass : Int) (F : Nat → SV) (xs gs : List SV) (M : List Blk) (K : SV → List Blk → Prop) (h : Bk M b base pass F) (hx : SlO M (F 2) xs) (hg : SlO M (F 4) gs) (hxm : ∀ (i : Nat) y, xs[i]? = some y → Shows M pass (base + (i : Int) + 1) y) (hgm : ∀ (i : Nat) y, gs[i]? = some y → Shows M pass (base + (i : Int) + 1) y) (hno : NoKind F) (hid : 0 ≤ base ∧ base ≤ 100000) (hl : xs.length ≤ 100000)
    (hK : K (.b true) M) : callVC Tryz.prog 42 [.p b 0] M K := by
  have hB := h
  obtain ⟨R, ty, hb, hR⟩ := h
  have hl3 := hR.len
  obtain ⟨i1, i2⟩ := isI_of hR.b
  refine fn_rule tabOK Tryz.func42 rfl Tryz.call42 (by kernel_rfl) (fun hM => ?_)
  (refine top_in ?_; simp -implicitDefEqProofs only [Tryz.ntmps42, Tryz.results42, go_sem, -List.reduceReplicate, ↓L_gdZ_tt, ↓L_gdZ_tf, ↓L_gdZ_ft, ↓L_gdZ_ff, ↓T_and, ↓T_imp, ↓T_all, hb, i1, i2, hl3]; try simp only [top_out])
  refine bytesHold_ok b base pass base F xs gs M _ hB hx hg hxm hgm (by omega) (by omega) ?_
  (refine top_in ?_; simp -implicitDefEqProofs only [go_sem, -List.reduceReplicate, ↓L_gdZ_tt, ↓L_gdZ_tf, ↓L_gdZ_ft, ↓L_gdZ_ff, ↓T_and, ↓T_imp, ↓T_all]; try simp only [top_out])
  refine boolsHold_no b base pass _ F M _ hB (hno 5 (by decide) (by decide)) ?_
  (refine top_in ?_; simp -implicitDefEqProofs only [go_sem, -List.reduceReplicate, ↓L_gdZ_tt, ↓L_gdZ_tf, ↓L_gdZ_ft, ↓L_gdZ_ff, ↓T_and, ↓T_imp, ↓T_all]; try simp only [top_out])
  refine intsHold_no b base pass _ F M _ hB (hno 8 (by decide) (by decide)) ?_
  (refine top_in ?_; simp -implicitDefEqProofs only [go_sem, -List.reduceReplicate, ↓L_gdZ_tt, ↓L_gdZ_tf, ↓L_gdZ_ft, ↓L_gdZ_ff, ↓T_and, ↓T_imp, ↓T_all]; try simp only [top_out])
  refine textsHold_no b base pass _ F M _ hB (hno 11 (by decide) (by decide)) ?_
  (refine top_in ?_; simp -implicitDefEqProofs only [go_sem, -List.reduceReplicate, ↓L_gdZ_tt, ↓L_gdZ_tf, ↓L_gdZ_ft, ↓L_gdZ_ff, ↓T_and, ↓T_imp, ↓T_all]; try simp only [top_out])
  refine byteListsHold_no b base pass _ F M _ hB (hno 14 (by decide) (by decide)) ?_
  (refine top_in ?_; simp -implicitDefEqProofs only [go_sem, -List.reduceReplicate, ↓L_gdZ_tt, ↓L_gdZ_tf, ↓L_gdZ_ft, ↓L_gdZ_ff, ↓T_and, ↓T_imp, ↓T_all]; try simp only [top_out])
  refine prefixesHold_no b base pass _ F M _ hB (hno 17 (by decide) (by decide)) ?_
  (refine top_in ?_; simp -implicitDefEqProofs only [go_sem, -List.reduceReplicate, ↓L_gdZ_tt, ↓L_gdZ_tf, ↓L_gdZ_ft, ↓L_gdZ_ff, ↓T_and, ↓T_imp, ↓T_all]; try simp only [top_out])
  refine openingsHold_no b base pass _ F M _ hB (hno 20 (by decide) (by decide)) ?_
  (refine top_in ?_; simp -implicitDefEqProofs only [go_sem, -List.reduceReplicate, ↓L_gdZ_tt, ↓L_gdZ_tf, ↓L_gdZ_ft, ↓L_gdZ_ff, ↓T_and, ↓T_imp, ↓T_all]; try simp only [top_out])
  refine peersHold_no b base pass _ F M _ hB (hno 23 (by decide) (by decide)) ?_
  (refine top_in ?_; simp -implicitDefEqProofs only [go_sem, -List.reduceReplicate, ↓L_gdZ_tt, ↓L_gdZ_tf, ↓L_gdZ_ft, ↓L_gdZ_ff, ↓T_and, ↓T_imp, ↓T_all]; try simp only [top_out])
  refine lanesHold_no b base pass _ F M _ hB (hno 26 (by decide) (by decide)) ?_
  (refine top_in ?_; simp -implicitDefEqProofs only [go_sem, -List.reduceReplicate, ↓L_gdZ_tt, ↓L_gdZ_tf, ↓L_gdZ_ft, ↓L_gdZ_ff, ↓T_and, ↓T_imp, ↓T_all]; try simp only [top_out])
  refine rowsHold_no b base pass _ F M _ hB (hno 29 (by decide) (by decide)) ?_
  (refine top_in ?_; simp -implicitDefEqProofs only [go_sem, -List.reduceReplicate, ↓L_gdZ_tt, ↓L_gdZ_tf, ↓L_gdZ_ft, ↓L_gdZ_ff, ↓T_and, ↓T_imp, ↓T_all]; try simp only [top_out])
  refine setsHold_no b base pass _ F M _ hB (hno 32 (by decide) (by decide)) ?_
  (refine top_in ?_; simp -implicitDefEqProofs only [go_sem, -List.reduceReplicate, ↓L_gdZ_tt, ↓L_gdZ_tf, ↓L_gdZ_ft, ↓L_gdZ_ff, ↓T_and, ↓T_imp, ↓T_all]; try simp only [top_out])
  refine pendingsHold_no b base pass _ F M _ hB (hno 35 (by decide) (by decide)) ?_
  (refine top_in ?_; simp -implicitDefEqProofs only [go_sem, -List.reduceReplicate, ↓L_gdZ_tt, ↓L_gdZ_tf, ↓L_gdZ_ft, ↓L_gdZ_ff, ↓T_and, ↓T_imp, ↓T_all]; try simp only [top_out])
  refine changesHold_no b base pass _ F M _ hB (hno 38 (by decide) (by decide)) ?_
  (refine top_in ?_; simp -implicitDefEqProofs only [go_sem, -List.reduceReplicate, ↓L_gdZ_tt, ↓L_gdZ_tf, ↓L_gdZ_ft, ↓L_gdZ_ff, ↓T_and, ↓T_imp, ↓T_all]; try simp only [top_out])
  refine faultsHold_no b base pass _ F M _ hB (hno 41 (by decide) (by decide)) ?_
  (refine top_in ?_; simp -implicitDefEqProofs only [go_sem, -List.reduceReplicate, ↓L_gdZ_tt, ↓L_gdZ_tf, ↓L_gdZ_ft, ↓L_gdZ_ff, ↓T_and, ↓T_imp, ↓T_all]; try simp only [top_out])
  refine flightsHold_no b base pass _ F M _ hB (hno 44 (by decide) (by decide)) ?_
  (refine top_in ?_; simp -implicitDefEqProofs only [go_sem, -List.reduceReplicate, ↓L_gdZ_tt, ↓L_gdZ_tf, ↓L_gdZ_ft, ↓L_gdZ_ff, ↓T_and, ↓T_imp, ↓T_all]; try simp only [top_out])
  refine opsHold_no b base pass _ F M _ hB (hno 47 (by decide) (by decide)) ?_
  (refine top_in ?_; simp -implicitDefEqProofs only [go_sem, -List.reduceReplicate, ↓L_gdZ_tt, ↓L_gdZ_tf, ↓L_gdZ_ft, ↓L_gdZ_ff, ↓T_and, ↓T_imp, ↓T_all]; try simp only [top_out])
  refine eventsHold_no b base pass _ F M _ hB (hno 50 (by decide) (by decide)) ?_
  (refine top_in ?_; simp -implicitDefEqProofs only [go_sem, -List.reduceReplicate, ↓L_gdZ_tt, ↓L_gdZ_tf, ↓L_gdZ_ft, ↓L_gdZ_ff, ↓T_and, ↓T_imp, ↓T_all]; try simp only [top_out])
  exact dropC_all (Nat.le_refl _) hK
theorem PG.next {M : List Blk} {c : Nat → Nat} {pass id : Int} {ps : List (SV × SV)} {N : Nat} (h : PG M c pass id ps N ps.length) : PG M c pass id ps (N + 1) 0 := fun k p hp => by
  have hk := (List.getElem?_eq_some_iff.1 hp).1
  have := h k p hp
  rw [if_pos hk] at this
  rw [if_neg (by omega)]
  exact this
set_option maxHeartbeats 4000000 in
set_option maxRecDepth 20000 in
theorem grow_ok (b : Nat) (base pass : Int) (F : Nat → SV) (c : Nat → Nat) (ps : List (SV × SV)) (N : Nat) (M : List Blk) (K : SV → List Blk → Prop) (h : Bk M b base pass F) (cb : c b = 1) (hx : SlO M (F 2) (ps.map (·.1))) (cx : NmG (fun n => c n = 2) (F 2)) (h4 : F 4 = .sn) (hps : PG M c pass base ps N 0) (hsame : ∀ (k : Nat) p, ps[k]? = some p → p.2 = p.1) (hno : NoKind F) (hN : N < 900000) (hid : 0 ≤ base ∧ base ≤ 100000) (hl : ps.length ≤ 100000)
    (hK : ∀ (v : SV) (M' : List Blk) (F' : Nat → SV) (c' : Nat → Nat) (ps' : List (SV × SV)), ps'.map (·.1) = ps.map (·.1) → Bk M' b base pass F' → (∀ j, j ≠ 4 → F' j = F j) → (∀ n, n < M.length → c' n = c n) → SlO M' (F' 4) (ps'.map (·.2)) → NmG (fun n => c' n = 4) (F' 4) → PG M' c' pass base ps' (N + 70) 0 → Ag (fun n => c n = 1 ∨ c n = 4 ∨ 6 ≤ c n) M M' → K v M') :
    callVC Tryz.prog 43 [.p b 0] M K := by
  have hbl : b < M.length := by obtain ⟨R, ty, hb, _⟩ := h; exact kwMem hb
  refine fn_rule tabOK Tryz.func43 rfl Tryz.call43 (by kernel_rfl) (fun hM => ?_)
  (refine top_in ?_; simp -implicitDefEqProofs only [Tryz.ntmps43, Tryz.results43, go_sem, -List.reduceReplicate, ↓L_gdZ_tt, ↓L_gdZ_tf, ↓L_gdZ_ft, ↓L_gdZ_ff, ↓T_and, ↓T_imp, ↓T_all]; try simp only [top_out])
  refine loop_code tabOK (by kernel_rfl) (fun m ts M' => ∃ (t : Nat) (ps1 : List (SV × SV)) (F1 : Nat → SV) (c1 : Nat → Nat), t + m = 70 ∧ ps1.map (·.1) = ps.map (·.1) ∧ (t = 0 → ∀ (k : Nat) p, ps1[k]? = some p → p.2 = p.1) ∧ Bk M' b base pass F1 ∧ (∀ j, j ≠ 4 → F1 j = F j) ∧ (∀ n, n < M.length → c1 n = c n) ∧ SlO M' (F1 4) (if t = 0 then [] else ps1.map (·.2)) ∧ NmG (fun n => c1 n = 4) (F1 4) ∧ PG M' c1 pass base ps1 (N + t) 0 ∧ Ag (fun n => c n = 1 ∨ c n = 4 ∨ 6 ≤ c n) M M' ∧ frC (some (.p b 0) :: none :: some (.i .i64 t) :: none :: none :: none :: none :: none :: none :: none :: none :: none :: none :: none :: none :: none :: none :: none :: none :: none :: none :: none :: none :: none :: none :: none :: none :: none :: none :: none :: none :: none :: none :: none :: none :: none :: none :: none :: none :: none :: none :: none :: none :: none :: none :: none :: none :: none :: none :: none :: none :: none :: none :: none :: none :: none :: none :: none :: none :: none :: none :: none :: none :: none :: none :: none :: none :: none :: none :: none :: none :: none :: none :: none :: none :: none :: none :: none :: none :: none :: []) ts) 70 ?_ ?_
  · exact ⟨0, ps, F, c, by omega, rfl, fun _ => hsame, h, fun _ _ => rfl, fun _ _ => rfl, by rw [h4]; exact SlO.sn, by rw [h4]; exact NmG.sn, hps, Ag.refl, by simp [frC]⟩
  · rintro m ts M1 ⟨t, ps1, F1, c1, htm, hfst, hsm, hB1, hF1, hc1, hg1, cg1, hps1, hA, hf⟩
    have hm := hA.1
    have hpl : ps1.length = ps.length := by rw [← List.length_map (f := fun p : SV × SV => p.1), hfst, List.length_map]
    have hBk1 := hB1
    obtain ⟨R1, ty1, hb1, hR1⟩ := hB1
    have hl1 := hR1.len
    obtain ⟨i1, i2⟩ := isI_of hR1.b
    obtain ⟨f, rfl⟩ := frC_open _ _ 0 hf
    clear hf
    (refine top_in ?_; simp -implicitDefEqProofs only [go_sem, -List.reduceReplicate, ↓L_gdZ_tt, ↓L_gdZ_tf, ↓L_gdZ_ft, ↓L_gdZ_ff, ↓T_and, ↓T_imp, ↓T_all, hb1, i1, i2, hl1]; try simp only [top_out])
    refine ⟨fun e1 => ?_, fun e1 => ?_⟩
    · have hx1 : SlO M1 (F1 2) (ps1.map (·.1)) := by rw [hfst, hF1 2 (by decide)]; exact hx.ag hA (fun d hd e => by have := cx d hd; omega)
      have cx1 : NmG (fun n => c1 n = 2) (F1 2) := by rw [hF1 2 (by decide)]; exact fun d hd => (hc1 d (Own.dn hx d hd)).trans (cx d hd)
      refine bytesGrow_ok b base pass base t F1 c1 ps1 (N + t) M1 _ hBk1 ((hc1 b hbl).trans cb) hx1 cx1 hg1 cg1 hps1 hsm (by omega) (by omega) (by omega) (by omega) (fun M2 F2 c2 ps2 hf2 hB2 hF2 hc2 hg2 cg2 hps2 A2 => ?_)
      (refine top_in ?_; simp -implicitDefEqProofs only [go_sem, -List.reduceReplicate, ↓L_gdZ_tt, ↓L_gdZ_tf, ↓L_gdZ_ft, ↓L_gdZ_ff, ↓T_and, ↓T_imp, ↓T_all]; try simp only [top_out])
      refine boolsGrow_no b base pass _ _ F2 M2 _ hB2 (by rw [hF2 5 (by decide), hF1 5 (by decide)]; exact hno 5 (by decide) (by decide)) ?_
      (refine top_in ?_; simp -implicitDefEqProofs only [go_sem, -List.reduceReplicate, ↓L_gdZ_tt, ↓L_gdZ_tf, ↓L_gdZ_ft, ↓L_gdZ_ff, ↓T_and, ↓T_imp, ↓T_all]; try simp only [top_out])
      refine intsGrow_no b base pass _ _ F2 M2 _ hB2 (by rw [hF2 8 (by decide), hF1 8 (by decide)]; exact hno 8 (by decide) (by decide)) ?_
      (refine top_in ?_; simp -implicitDefEqProofs only [go_sem, -List.reduceReplicate, ↓L_gdZ_tt, ↓L_gdZ_tf, ↓L_gdZ_ft, ↓L_gdZ_ff, ↓T_and, ↓T_imp, ↓T_all]; try simp only [top_out])
      refine textsGrow_no b base pass _ _ F2 M2 _ hB2 (by rw [hF2 11 (by decide), hF1 11 (by decide)]; exact hno 11 (by decide) (by decide)) ?_
      (refine top_in ?_; simp -implicitDefEqProofs only [go_sem, -List.reduceReplicate, ↓L_gdZ_tt, ↓L_gdZ_tf, ↓L_gdZ_ft, ↓L_gdZ_ff, ↓T_and, ↓T_imp, ↓T_all]; try simp only [top_out])
      refine byteListsGrow_no b base pass _ _ F2 M2 _ hB2 (by rw [hF2 14 (by decide), hF1 14 (by decide)]; exact hno 14 (by decide) (by decide)) ?_
      (refine top_in ?_; simp -implicitDefEqProofs only [go_sem, -List.reduceReplicate, ↓L_gdZ_tt, ↓L_gdZ_tf, ↓L_gdZ_ft, ↓L_gdZ_ff, ↓T_and, ↓T_imp, ↓T_all]; try simp only [top_out])
      refine prefixesGrow_no b base pass _ _ F2 M2 _ hB2 (by rw [hF2 17 (by decide), hF1 17 (by decide)]; exact hno 17 (by decide) (by decide)) ?_
      (refine top_in ?_; simp -implicitDefEqProofs only [go_sem, -List.reduceReplicate, ↓L_gdZ_tt, ↓L_gdZ_tf, ↓L_gdZ_ft, ↓L_gdZ_ff, ↓T_and, ↓T_imp, ↓T_all]; try simp only [top_out])
      refine openingsGrow_no b base pass _ _ F2 M2 _ hB2 (by rw [hF2 20 (by decide), hF1 20 (by decide)]; exact hno 20 (by decide) (by decide)) ?_
      (refine top_in ?_; simp -implicitDefEqProofs only [go_sem, -List.reduceReplicate, ↓L_gdZ_tt, ↓L_gdZ_tf, ↓L_gdZ_ft, ↓L_gdZ_ff, ↓T_and, ↓T_imp, ↓T_all]; try simp only [top_out])
      refine peersGrow_no b base pass _ _ F2 M2 _ hB2 (by rw [hF2 23 (by decide), hF1 23 (by decide)]; exact hno 23 (by decide) (by decide)) ?_
      (refine top_in ?_; simp -implicitDefEqProofs only [go_sem, -List.reduceReplicate, ↓L_gdZ_tt, ↓L_gdZ_tf, ↓L_gdZ_ft, ↓L_gdZ_ff, ↓T_and, ↓T_imp, ↓T_all]; try simp only [top_out])
      refine lanesGrow_no b base pass _ _ F2 M2 _ hB2 (by rw [hF2 26 (by decide), hF1 26 (by decide)]; exact hno 26 (by decide) (by decide)) ?_
      (refine top_in ?_; simp -implicitDefEqProofs only [go_sem, -List.reduceReplicate, ↓L_gdZ_tt, ↓L_gdZ_tf, ↓L_gdZ_ft, ↓L_gdZ_ff, ↓T_and, ↓T_imp, ↓T_all]; try simp only [top_out])
      refine rowsGrow_no b base pass _ _ F2 M2 _ hB2 (by rw [hF2 29 (by decide), hF1 29 (by decide)]; exact hno 29 (by decide) (by decide)) ?_
      (refine top_in ?_; simp -implicitDefEqProofs only [go_sem, -List.reduceReplicate, ↓L_gdZ_tt, ↓L_gdZ_tf, ↓L_gdZ_ft, ↓L_gdZ_ff, ↓T_and, ↓T_imp, ↓T_all]; try simp only [top_out])
      refine setsGrow_no b base pass _ _ F2 M2 _ hB2 (by rw [hF2 32 (by decide), hF1 32 (by decide)]; exact hno 32 (by decide) (by decide)) ?_
      (refine top_in ?_; simp -implicitDefEqProofs only [go_sem, -List.reduceReplicate, ↓L_gdZ_tt, ↓L_gdZ_tf, ↓L_gdZ_ft, ↓L_gdZ_ff, ↓T_and, ↓T_imp, ↓T_all]; try simp only [top_out])
      refine pendingsGrow_no b base pass _ _ F2 M2 _ hB2 (by rw [hF2 35 (by decide), hF1 35 (by decide)]; exact hno 35 (by decide) (by decide)) ?_
      (refine top_in ?_; simp -implicitDefEqProofs only [go_sem, -List.reduceReplicate, ↓L_gdZ_tt, ↓L_gdZ_tf, ↓L_gdZ_ft, ↓L_gdZ_ff, ↓T_and, ↓T_imp, ↓T_all]; try simp only [top_out])
      refine changesGrow_no b base pass _ _ F2 M2 _ hB2 (by rw [hF2 38 (by decide), hF1 38 (by decide)]; exact hno 38 (by decide) (by decide)) ?_
      (refine top_in ?_; simp -implicitDefEqProofs only [go_sem, -List.reduceReplicate, ↓L_gdZ_tt, ↓L_gdZ_tf, ↓L_gdZ_ft, ↓L_gdZ_ff, ↓T_and, ↓T_imp, ↓T_all]; try simp only [top_out])
      refine faultsGrow_no b base pass _ _ F2 M2 _ hB2 (by rw [hF2 41 (by decide), hF1 41 (by decide)]; exact hno 41 (by decide) (by decide)) ?_
      (refine top_in ?_; simp -implicitDefEqProofs only [go_sem, -List.reduceReplicate, ↓L_gdZ_tt, ↓L_gdZ_tf, ↓L_gdZ_ft, ↓L_gdZ_ff, ↓T_and, ↓T_imp, ↓T_all]; try simp only [top_out])
      refine flightsGrow_no b base pass _ _ F2 M2 _ hB2 (by rw [hF2 44 (by decide), hF1 44 (by decide)]; exact hno 44 (by decide) (by decide)) ?_
      (refine top_in ?_; simp -implicitDefEqProofs only [go_sem, -List.reduceReplicate, ↓L_gdZ_tt, ↓L_gdZ_tf, ↓L_gdZ_ft, ↓L_gdZ_ff, ↓T_and, ↓T_imp, ↓T_all]; try simp only [top_out])
      refine opsGrow_no b base pass _ _ F2 M2 _ hB2 (by rw [hF2 47 (by decide), hF1 47 (by decide)]; exact hno 47 (by decide) (by decide)) ?_
      (refine top_in ?_; simp -implicitDefEqProofs only [go_sem, -List.reduceReplicate, ↓L_gdZ_tt, ↓L_gdZ_tf, ↓L_gdZ_ft, ↓L_gdZ_ff, ↓T_and, ↓T_imp, ↓T_all]; try simp only [top_out])
      refine eventsGrow_no b base pass _ _ F2 M2 _ hB2 (by rw [hF2 50 (by decide), hF1 50 (by decide)]; exact hno 50 (by decide) (by decide)) ?_
      (refine top_in ?_; simp -implicitDefEqProofs only [go_sem, -List.reduceReplicate, ↓L_gdZ_tt, ↓L_gdZ_tf, ↓L_gdZ_ft, ↓L_gdZ_ff, ↓T_and, ↓T_imp, ↓T_all]; try simp only [top_out])
      have hpl2 : ps2.length = ps1.length := by rw [← List.length_map (f := fun p : SV × SV => p.1), hf2, List.length_map]
      rw [← hpl2] at hps2
      exact ⟨m - 1, by omega, t + 1, ps2, F2, c2, by omega, hf2.trans hfst, fun h => by omega, hB2, fun j hj => (hF2 j hj).trans (hF1 j hj), fun n hn => (hc2 n (by omega)).trans (hc1 n hn), by rw [if_neg (by omega)]; exact hg2, cg2, hps2.next, Ag.trans hA A2 (fun n hn h => by rw [hc1 n hn] at h; exact h), w64 (by omega) (by omega)⟩
    · obtain rfl : t = 70 := by omega
      rw [if_neg (by decide)] at hg1
      exact dropC_all hm (hK _ M1 F1 c1 ps1 hfst hBk1 hF1 hc1 hg1 cg1 hps1 hA)
set_option maxHeartbeats 4000000 in
set_option maxRecDepth 20000 in
theorem wasOf_ok (b : Nat) (base pass : Int) (F : Nat → SV) (M : List Blk) (K : SV → List Blk → Prop) (h : Bk M b base pass F) (hno : NoKind F) (hK : K (.b true) M) :
    callVC Tryz.prog 59 [.p b 0] M K := by
  obtain ⟨R, ty, hb, hR⟩ := h
  have hl3 := hR.len
  have g5 := getD_of ((hR.f 5 (by decide) (by decide)).1.trans (congrArg some (hno 5 (by decide) (by decide))))
  have g8 := getD_of ((hR.f 8 (by decide) (by decide)).1.trans (congrArg some (hno 8 (by decide) (by decide))))
  have g11 := getD_of ((hR.f 11 (by decide) (by decide)).1.trans (congrArg some (hno 11 (by decide) (by decide))))
  have g14 := getD_of ((hR.f 14 (by decide) (by decide)).1.trans (congrArg some (hno 14 (by decide) (by decide))))
  have g17 := getD_of ((hR.f 17 (by decide) (by decide)).1.trans (congrArg some (hno 17 (by decide) (by decide))))
  have g20 := getD_of ((hR.f 20 (by decide) (by decide)).1.trans (congrArg some (hno 20 (by decide) (by decide))))
  have g23 := getD_of ((hR.f 23 (by decide) (by decide)).1.trans (congrArg some (hno 23 (by decide) (by decide))))
  have g26 := getD_of ((hR.f 26 (by decide) (by decide)).1.trans (congrArg some (hno 26 (by decide) (by decide))))
  have g29 := getD_of ((hR.f 29 (by decide) (by decide)).1.trans (congrArg some (hno 29 (by decide) (by decide))))
  have g32 := getD_of ((hR.f 32 (by decide) (by decide)).1.trans (congrArg some (hno 32 (by decide) (by decide))))
  have g35 := getD_of ((hR.f 35 (by decide) (by decide)).1.trans (congrArg some (hno 35 (by decide) (by decide))))
  have g38 := getD_of ((hR.f 38 (by decide) (by decide)).1.trans (congrArg some (hno 38 (by decide) (by decide))))
  have g41 := getD_of ((hR.f 41 (by decide) (by decide)).1.trans (congrArg some (hno 41 (by decide) (by decide))))
  have g44 := getD_of ((hR.f 44 (by decide) (by decide)).1.trans (congrArg some (hno 44 (by decide) (by decide))))
  have g47 := getD_of ((hR.f 47 (by decide) (by decide)).1.trans (congrArg some (hno 47 (by decide) (by decide))))
  have g50 := getD_of ((hR.f 50 (by decide) (by decide)).1.trans (congrArg some (hno 50 (by decide) (by decide))))
  refine fn_rule tabOK Tryz.func59 rfl Tryz.call59 (by kernel_rfl) (fun hM => ?_)
  (refine top_in ?_; simp -implicitDefEqProofs only [Tryz.ntmps59, Tryz.results59, go_sem, -List.reduceReplicate, ↓L_gdZ_tt, ↓L_gdZ_tf, ↓L_gdZ_ft, ↓L_gdZ_ff, ↓T_and, ↓T_imp, ↓T_all, hb, hl3, g5, g8, g11, g14, g17, g20, g23, g26, g29, g32, g35, g38, g41, g44, g47, g50]; try simp only [top_out])
  refine loop_code tabOK (by kernel_rfl) (fun m ts M' => m = 0 ∧ M' = M ∧ frC (some (.p b 0) :: none :: none :: some (.i .i64 0) :: none :: none :: none :: none :: none :: none :: none :: none :: none :: none :: none :: none :: none :: none :: none :: none :: none :: none :: none :: none :: none :: none :: none :: none :: none :: none :: none :: none :: none :: none :: none :: none :: none :: none :: none :: none :: none :: none :: none :: none :: none :: none :: none :: none :: none :: none :: none :: none :: none :: none :: none :: none :: none :: none :: none :: none :: none :: none :: none :: none :: none :: none :: none :: none :: none :: none :: none :: none :: none :: none :: none :: none :: none :: none :: none :: none :: none :: none :: none :: none :: none :: none :: none :: none :: none :: none :: none :: none :: none :: none :: none :: none :: none :: none :: none :: none :: none :: none :: none :: none :: none :: none :: none :: none :: none :: none :: none :: none :: none :: none :: none :: none :: none :: none :: none :: none :: none :: none :: none :: none :: none :: none :: none :: none :: none :: none :: none :: none :: none :: none :: none :: none :: none :: none :: none :: none :: none :: none :: none :: none :: none :: none :: none :: none :: none :: none :: none :: none :: none :: none :: none :: none :: none :: none :: none :: []) ts) 0 ⟨rfl, rfl, by simp [frC]⟩ ?_
  rintro m ts M ⟨rfl, rfl, hf⟩
  obtain ⟨f, rfl⟩ := frC_open _ _ 0 hf
  clear hf
  (refine top_in ?_; simp -implicitDefEqProofs only [go_sem, -List.reduceReplicate, ↓L_gdZ_tt, ↓L_gdZ_tf, ↓L_gdZ_ft, ↓L_gdZ_ff, ↓T_and, ↓T_imp, ↓T_all, hb, g5, g8, g11, g14, g17, g20, g23, g26, g29, g32, g35, g38, g41, g44, g47, g50, hl3]; try simp only [top_out])
  refine loop_code tabOK (by kernel_rfl) (fun m ts M' => m = 0 ∧ M' = M ∧ frC (some (.p b 0) :: none :: none :: none :: some (.i .i64 0) :: none :: none :: none :: none :: none :: none :: none :: none :: none :: none :: none :: none :: none :: none :: none :: none :: none :: none :: none :: none :: none :: none :: none :: none :: none :: none :: none :: none :: none :: none :: none :: none :: none :: none :: none :: none :: none :: none :: none :: none :: none :: none :: none :: none :: none :: none :: none :: none :: none :: none :: none :: none :: none :: none :: none :: none :: none :: none :: none :: none :: none :: none :: none :: none :: none :: none :: none :: none :: none :: none :: none :: none :: none :: none :: none :: none :: none :: none :: none :: none :: none :: none :: none :: none :: none :: none :: none :: none :: none :: none :: none :: none :: none :: none :: none :: none :: none :: none :: none :: none :: none :: none :: none :: none :: none :: none :: none :: none :: none :: none :: none :: none :: none :: none :: none :: none :: none :: none :: none :: none :: none :: none :: none :: none :: none :: none :: none :: none :: none :: none :: none :: none :: none :: none :: none :: none :: none :: none :: none :: none :: none :: none :: none :: none :: none :: none :: none :: none :: none :: none :: none :: none :: none :: none :: []) ts) 0 ⟨rfl, rfl, by simp [frC]⟩ ?_
  rintro m ts M ⟨rfl, rfl, hf⟩
  obtain ⟨f, rfl⟩ := frC_open _ _ 0 hf
  clear hf
  (refine top_in ?_; simp -implicitDefEqProofs only [go_sem, -List.reduceReplicate, ↓L_gdZ_tt, ↓L_gdZ_tf, ↓L_gdZ_ft, ↓L_gdZ_ff, ↓T_and, ↓T_imp, ↓T_all, hb, g5, g8, g11, g14, g17, g20, g23, g26, g29, g32, g35, g38, g41, g44, g47, g50, hl3]; try simp only [top_out])
  refine loop_code tabOK (by kernel_rfl) (fun m ts M' => m = 0 ∧ M' = M ∧ frC (some (.p b 0) :: none :: none :: none :: none :: some (.i .i64 0) :: none :: none :: none :: none :: none :: none :: none :: none :: none :: none :: none :: none :: none :: none :: none :: none :: none :: none :: none :: none :: none :: none :: none :: none :: none :: none :: none :: none :: none :: none :: none :: none :: none :: none :: none :: none :: none :: none :: none :: none :: none :: none :: none :: none :: none :: none :: none :: none :: none :: none :: none :: none :: none :: none :: none :: none :: none :: none :: none :: none :: none :: none :: none :: none :: none :: none :: none :: none :: none :: none :: none :: none :: none :: none :: none :: none :: none :: none :: none :: none :: none :: none :: none :: none :: none :: none :: none :: none :: none :: none :: none :: none :: none :: none :: none :: none :: none :: none :: none :: none :: none :: none :: none :: none :: none :: none :: none :: none :: none :: none :: none :: none :: none :: none :: none :: none :: none :: none :: none :: none :: none :: none :: none :: none :: none :: none :: none :: none :: none :: none :: none :: none :: none :: none :: none :: none :: none :: none :: none :: none :: none :: none :: none :: none :: none :: none :: none :: none :: none :: none :: none :: none :: none :: []) ts) 0 ⟨rfl, rfl, by simp [frC]⟩ ?_
  rintro m ts M ⟨rfl, rfl, hf⟩
  obtain ⟨f, rfl⟩ := frC_open _ _ 0 hf
  clear hf
  (refine top_in ?_; simp -implicitDefEqProofs only [go_sem, -List.reduceReplicate, ↓L_gdZ_tt, ↓L_gdZ_tf, ↓L_gdZ_ft, ↓L_gdZ_ff, ↓T_and, ↓T_imp, ↓T_all, hb, g5, g8, g11, g14, g17, g20, g23, g26, g29, g32, g35, g38, g41, g44, g47, g50, hl3]; try simp only [top_out])
  refine loop_code tabOK (by kernel_rfl) (fun m ts M' => m = 0 ∧ M' = M ∧ frC (some (.p b 0) :: none :: none :: none :: none :: none :: some (.i .i64 0) :: none :: none :: none :: none :: none :: none :: none :: none :: none :: none :: none :: none :: none :: none :: none :: none :: none :: none :: none :: none :: none :: none :: none :: none :: none :: none :: none :: none :: none :: none :: none :: none :: none :: none :: none :: none :: none :: none :: none :: none :: none :: none :: none :: none :: none :: none :: none :: none :: none :: none :: none :: none :: none :: none :: none :: none :: none :: none :: none :: none :: none :: none :: none :: none :: none :: none :: none :: none :: none :: none :: none :: none :: none :: none :: none :: none :: none :: none :: none :: none :: none :: none :: none :: none :: none :: none :: none :: none :: none :: none :: none :: none :: none :: none :: none :: none :: none :: none :: none :: none :: none :: none :: none :: none :: none :: none :: none :: none :: none :: none :: none :: none :: none :: none :: none :: none :: none :: none :: none :: none :: none :: none :: none :: none :: none :: none :: none :: none :: none :: none :: none :: none :: none :: none :: none :: none :: none :: none :: none :: none :: none :: none :: none :: none :: none :: none :: none :: none :: none :: none :: none :: none :: []) ts) 0 ⟨rfl, rfl, by simp [frC]⟩ ?_
  rintro m ts M ⟨rfl, rfl, hf⟩
  obtain ⟨f, rfl⟩ := frC_open _ _ 0 hf
  clear hf
  (refine top_in ?_; simp -implicitDefEqProofs only [go_sem, -List.reduceReplicate, ↓L_gdZ_tt, ↓L_gdZ_tf, ↓L_gdZ_ft, ↓L_gdZ_ff, ↓T_and, ↓T_imp, ↓T_all, hb, g5, g8, g11, g14, g17, g20, g23, g26, g29, g32, g35, g38, g41, g44, g47, g50, hl3]; try simp only [top_out])
  refine loop_code tabOK (by kernel_rfl) (fun m ts M' => m = 0 ∧ M' = M ∧ frC (some (.p b 0) :: none :: none :: none :: none :: none :: none :: some (.i .i64 0) :: none :: none :: none :: none :: none :: none :: none :: none :: none :: none :: none :: none :: none :: none :: none :: none :: none :: none :: none :: none :: none :: none :: none :: none :: none :: none :: none :: none :: none :: none :: none :: none :: none :: none :: none :: none :: none :: none :: none :: none :: none :: none :: none :: none :: none :: none :: none :: none :: none :: none :: none :: none :: none :: none :: none :: none :: none :: none :: none :: none :: none :: none :: none :: none :: none :: none :: none :: none :: none :: none :: none :: none :: none :: none :: none :: none :: none :: none :: none :: none :: none :: none :: none :: none :: none :: none :: none :: none :: none :: none :: none :: none :: none :: none :: none :: none :: none :: none :: none :: none :: none :: none :: none :: none :: none :: none :: none :: none :: none :: none :: none :: none :: none :: none :: none :: none :: none :: none :: none :: none :: none :: none :: none :: none :: none :: none :: none :: none :: none :: none :: none :: none :: none :: none :: none :: none :: none :: none :: none :: none :: none :: none :: none :: none :: none :: none :: none :: none :: none :: none :: none :: []) ts) 0 ⟨rfl, rfl, by simp [frC]⟩ ?_
  rintro m ts M ⟨rfl, rfl, hf⟩
  obtain ⟨f, rfl⟩ := frC_open _ _ 0 hf
  clear hf
  (refine top_in ?_; simp -implicitDefEqProofs only [go_sem, -List.reduceReplicate, ↓L_gdZ_tt, ↓L_gdZ_tf, ↓L_gdZ_ft, ↓L_gdZ_ff, ↓T_and, ↓T_imp, ↓T_all, hb, g5, g8, g11, g14, g17, g20, g23, g26, g29, g32, g35, g38, g41, g44, g47, g50, hl3]; try simp only [top_out])
  refine loop_code tabOK (by kernel_rfl) (fun m ts M' => m = 0 ∧ M' = M ∧ frC (some (.p b 0) :: none :: none :: none :: none :: none :: none :: none :: some (.i .i64 0) :: none :: none :: none :: none :: none :: none :: none :: none :: none :: none :: none :: none :: none :: none :: none :: none :: none :: none :: none :: none :: none :: none :: none :: none :: none :: none :: none :: none :: none :: none :: none :: none :: none :: none :: none :: none :: none :: none :: none :: none :: none :: none :: none :: none :: none :: none :: none :: none :: none :: none :: none :: none :: none :: none :: none :: none :: none :: none :: none :: none :: none :: none :: none :: none :: none :: none :: none :: none :: none :: none :: none :: none :: none :: none :: none :: none :: none :: none :: none :: none :: none :: none :: none :: none :: none :: none :: none :: none :: none :: none :: none :: none :: none :: none :: none :: none :: none :: none :: none :: none :: none :: none :: none :: none :: none :: none :: none :: none :: none :: none :: none :: none :: none :: none :: none :: none :: none :: none :: none :: none :: none :: none :: none :: none :: none :: none :: none :: none :: none :: none :: none :: none :: none :: none :: none :: none :: none :: none :: none :: none :: none :: none :: none :: none :: none :: none :: none :: none :: none :: none :: []) ts) 0 ⟨rfl, rfl, by simp [frC]⟩ ?_
  rintro m ts M ⟨rfl, rfl, hf⟩
  obtain ⟨f, rfl⟩ := frC_open _ _ 0 hf
  clear hf
  (refine top_in ?_; simp -implicitDefEqProofs only [go_sem, -List.reduceReplicate, ↓L_gdZ_tt, ↓L_gdZ_tf, ↓L_gdZ_ft, ↓L_gdZ_ff, ↓T_and, ↓T_imp, ↓T_all, hb, g5, g8, g11, g14, g17, g20, g23, g26, g29, g32, g35, g38, g41, g44, g47, g50, hl3]; try simp only [top_out])
  exact dropC_all (Nat.le_refl _) hK
set_option maxHeartbeats 4000000 in
set_option maxRecDepth 20000 in
theorem wasToo_ok (b : Nat) (base pass : Int) (F : Nat → SV) (M : List Blk) (K : SV → List Blk → Prop) (h : Bk M b base pass F) (hno : NoKind F) (hK : K (.b true) M) :
    callVC Tryz.prog 60 [.p b 0] M K := by
  obtain ⟨R, ty, hb, hR⟩ := h
  have hl3 := hR.len
  have g5 := getD_of ((hR.f 5 (by decide) (by decide)).1.trans (congrArg some (hno 5 (by decide) (by decide))))
  have g8 := getD_of ((hR.f 8 (by decide) (by decide)).1.trans (congrArg some (hno 8 (by decide) (by decide))))
  have g11 := getD_of ((hR.f 11 (by decide) (by decide)).1.trans (congrArg some (hno 11 (by decide) (by decide))))
  have g14 := getD_of ((hR.f 14 (by decide) (by decide)).1.trans (congrArg some (hno 14 (by decide) (by decide))))
  have g17 := getD_of ((hR.f 17 (by decide) (by decide)).1.trans (congrArg some (hno 17 (by decide) (by decide))))
  have g20 := getD_of ((hR.f 20 (by decide) (by decide)).1.trans (congrArg some (hno 20 (by decide) (by decide))))
  have g23 := getD_of ((hR.f 23 (by decide) (by decide)).1.trans (congrArg some (hno 23 (by decide) (by decide))))
  have g26 := getD_of ((hR.f 26 (by decide) (by decide)).1.trans (congrArg some (hno 26 (by decide) (by decide))))
  have g29 := getD_of ((hR.f 29 (by decide) (by decide)).1.trans (congrArg some (hno 29 (by decide) (by decide))))
  have g32 := getD_of ((hR.f 32 (by decide) (by decide)).1.trans (congrArg some (hno 32 (by decide) (by decide))))
  have g35 := getD_of ((hR.f 35 (by decide) (by decide)).1.trans (congrArg some (hno 35 (by decide) (by decide))))
  have g38 := getD_of ((hR.f 38 (by decide) (by decide)).1.trans (congrArg some (hno 38 (by decide) (by decide))))
  have g41 := getD_of ((hR.f 41 (by decide) (by decide)).1.trans (congrArg some (hno 41 (by decide) (by decide))))
  have g44 := getD_of ((hR.f 44 (by decide) (by decide)).1.trans (congrArg some (hno 44 (by decide) (by decide))))
  have g47 := getD_of ((hR.f 47 (by decide) (by decide)).1.trans (congrArg some (hno 47 (by decide) (by decide))))
  have g50 := getD_of ((hR.f 50 (by decide) (by decide)).1.trans (congrArg some (hno 50 (by decide) (by decide))))
  refine fn_rule tabOK Tryz.func60 rfl Tryz.call60 (by kernel_rfl) (fun hM => ?_)
  (refine top_in ?_; simp -implicitDefEqProofs only [Tryz.ntmps60, Tryz.results60, go_sem, -List.reduceReplicate, ↓L_gdZ_tt, ↓L_gdZ_tf, ↓L_gdZ_ft, ↓L_gdZ_ff, ↓T_and, ↓T_imp, ↓T_all, hb, hl3, g5, g8, g11, g14, g17, g20, g23, g26, g29, g32, g35, g38, g41, g44, g47, g50]; try simp only [top_out])
  refine loop_code tabOK (by kernel_rfl) (fun m ts M' => m = 0 ∧ M' = M ∧ frC (some (.p b 0) :: none :: none :: some (.i .i64 0) :: none :: none :: none :: none :: none :: none :: none :: none :: none :: none :: none :: none :: none :: none :: none :: none :: none :: none :: none :: none :: none :: none :: none :: none :: none :: none :: none :: none :: none :: none :: none :: none :: none :: none :: none :: none :: none :: none :: none :: none :: none :: none :: none :: none :: none :: none :: none :: none :: none :: none :: none :: none :: none :: none :: none :: none :: none :: none :: none :: none :: none :: none :: none :: none :: none :: none :: none :: none :: none :: none :: none :: none :: none :: none :: none :: none :: none :: none :: none :: none :: none :: none :: none :: none :: none :: none :: none :: none :: none :: none :: none :: none :: none :: none :: none :: none :: none :: none :: none :: none :: none :: none :: none :: none :: none :: none :: none :: none :: none :: none :: none :: none :: none :: none :: none :: none :: none :: none :: none :: none :: none :: none :: none :: none :: none :: none :: none :: none :: none :: []) ts) 0 ⟨rfl, rfl, by simp [frC]⟩ ?_
  rintro m ts M ⟨rfl, rfl, hf⟩
  obtain ⟨f, rfl⟩ := frC_open _ _ 0 hf
  clear hf
  (refine top_in ?_; simp -implicitDefEqProofs only [go_sem, -List.reduceReplicate, ↓L_gdZ_tt, ↓L_gdZ_tf, ↓L_gdZ_ft, ↓L_gdZ_ff, ↓T_and, ↓T_imp, ↓T_all, hb, g5, g8, g11, g14, g17, g20, g23, g26, g29, g32, g35, g38, g41, g44, g47, g50, hl3]; try simp only [top_out])
  refine loop_code tabOK (by kernel_rfl) (fun m ts M' => m = 0 ∧ M' = M ∧ frC (some (.p b 0) :: none :: none :: none :: some (.i .i64 0) :: none :: none :: none :: none :: none :: none :: none :: none :: none :: none :: none :: none :: none :: none :: none :: none :: none :: none :: none :: none :: none :: none :: none :: none :: none :: none :: none :: none :: none :: none :: none :: none :: none :: none :: none :: none :: none :: none :: none :: none :: none :: none :: none :: none :: none :: none :: none :: none :: none :: none :: none :: none :: none :: none :: none :: none :: none :: none :: none :: none :: none :: none :: none :: none :: none :: none :: none :: none :: none :: none :: none :: none :: none :: none :: none :: none :: none :: none :: none :: none :: none :: none :: none :: none :: none :: none :: none :: none :: none :: none :: none :: none :: none :: none :: none :: none :: none :: none :: none :: none :: none :: none :: none :: none :: none :: none :: none :: none :: none :: none :: none :: none :: none :: none :: none :: none :: none :: none :: none :: none :: none :: none :: none :: none :: none :: none :: none :: none :: []) ts) 0 ⟨rfl, rfl, by simp [frC]⟩ ?_
  rintro m ts M ⟨rfl, rfl, hf⟩
  obtain ⟨f, rfl⟩ := frC_open _ _ 0 hf
  clear hf
  (refine top_in ?_; simp -implicitDefEqProofs only [go_sem, -List.reduceReplicate, ↓L_gdZ_tt, ↓L_gdZ_tf, ↓L_gdZ_ft, ↓L_gdZ_ff, ↓T_and, ↓T_imp, ↓T_all, hb, g5, g8, g11, g14, g17, g20, g23, g26, g29, g32, g35, g38, g41, g44, g47, g50, hl3]; try simp only [top_out])
  refine loop_code tabOK (by kernel_rfl) (fun m ts M' => m = 0 ∧ M' = M ∧ frC (some (.p b 0) :: none :: none :: none :: none :: some (.i .i64 0) :: none :: none :: none :: none :: none :: none :: none :: none :: none :: none :: none :: none :: none :: none :: none :: none :: none :: none :: none :: none :: none :: none :: none :: none :: none :: none :: none :: none :: none :: none :: none :: none :: none :: none :: none :: none :: none :: none :: none :: none :: none :: none :: none :: none :: none :: none :: none :: none :: none :: none :: none :: none :: none :: none :: none :: none :: none :: none :: none :: none :: none :: none :: none :: none :: none :: none :: none :: none :: none :: none :: none :: none :: none :: none :: none :: none :: none :: none :: none :: none :: none :: none :: none :: none :: none :: none :: none :: none :: none :: none :: none :: none :: none :: none :: none :: none :: none :: none :: none :: none :: none :: none :: none :: none :: none :: none :: none :: none :: none :: none :: none :: none :: none :: none :: none :: none :: none :: none :: none :: none :: none :: none :: none :: none :: none :: none :: none :: []) ts) 0 ⟨rfl, rfl, by simp [frC]⟩ ?_
  rintro m ts M ⟨rfl, rfl, hf⟩
  obtain ⟨f, rfl⟩ := frC_open _ _ 0 hf
  clear hf
  (refine top_in ?_; simp -implicitDefEqProofs only [go_sem, -List.reduceReplicate, ↓L_gdZ_tt, ↓L_gdZ_tf, ↓L_gdZ_ft, ↓L_gdZ_ff, ↓T_and, ↓T_imp, ↓T_all, hb, g5, g8, g11, g14, g17, g20, g23, g26, g29, g32, g35, g38, g41, g44, g47, g50, hl3]; try simp only [top_out])
  refine loop_code tabOK (by kernel_rfl) (fun m ts M' => m = 0 ∧ M' = M ∧ frC (some (.p b 0) :: none :: none :: none :: none :: none :: some (.i .i64 0) :: none :: none :: none :: none :: none :: none :: none :: none :: none :: none :: none :: none :: none :: none :: none :: none :: none :: none :: none :: none :: none :: none :: none :: none :: none :: none :: none :: none :: none :: none :: none :: none :: none :: none :: none :: none :: none :: none :: none :: none :: none :: none :: none :: none :: none :: none :: none :: none :: none :: none :: none :: none :: none :: none :: none :: none :: none :: none :: none :: none :: none :: none :: none :: none :: none :: none :: none :: none :: none :: none :: none :: none :: none :: none :: none :: none :: none :: none :: none :: none :: none :: none :: none :: none :: none :: none :: none :: none :: none :: none :: none :: none :: none :: none :: none :: none :: none :: none :: none :: none :: none :: none :: none :: none :: none :: none :: none :: none :: none :: none :: none :: none :: none :: none :: none :: none :: none :: none :: none :: none :: none :: none :: none :: none :: none :: none :: []) ts) 0 ⟨rfl, rfl, by simp [frC]⟩ ?_
  rintro m ts M ⟨rfl, rfl, hf⟩
  obtain ⟨f, rfl⟩ := frC_open _ _ 0 hf
  clear hf
  (refine top_in ?_; simp -implicitDefEqProofs only [go_sem, -List.reduceReplicate, ↓L_gdZ_tt, ↓L_gdZ_tf, ↓L_gdZ_ft, ↓L_gdZ_ff, ↓T_and, ↓T_imp, ↓T_all, hb, g5, g8, g11, g14, g17, g20, g23, g26, g29, g32, g35, g38, g41, g44, g47, g50, hl3]; try simp only [top_out])
  refine loop_code tabOK (by kernel_rfl) (fun m ts M' => m = 0 ∧ M' = M ∧ frC (some (.p b 0) :: none :: none :: none :: none :: none :: none :: some (.i .i64 0) :: none :: none :: none :: none :: none :: none :: none :: none :: none :: none :: none :: none :: none :: none :: none :: none :: none :: none :: none :: none :: none :: none :: none :: none :: none :: none :: none :: none :: none :: none :: none :: none :: none :: none :: none :: none :: none :: none :: none :: none :: none :: none :: none :: none :: none :: none :: none :: none :: none :: none :: none :: none :: none :: none :: none :: none :: none :: none :: none :: none :: none :: none :: none :: none :: none :: none :: none :: none :: none :: none :: none :: none :: none :: none :: none :: none :: none :: none :: none :: none :: none :: none :: none :: none :: none :: none :: none :: none :: none :: none :: none :: none :: none :: none :: none :: none :: none :: none :: none :: none :: none :: none :: none :: none :: none :: none :: none :: none :: none :: none :: none :: none :: none :: none :: none :: none :: none :: none :: none :: none :: none :: none :: none :: none :: none :: []) ts) 0 ⟨rfl, rfl, by simp [frC]⟩ ?_
  rintro m ts M ⟨rfl, rfl, hf⟩
  obtain ⟨f, rfl⟩ := frC_open _ _ 0 hf
  clear hf
  (refine top_in ?_; simp -implicitDefEqProofs only [go_sem, -List.reduceReplicate, ↓L_gdZ_tt, ↓L_gdZ_tf, ↓L_gdZ_ft, ↓L_gdZ_ff, ↓T_and, ↓T_imp, ↓T_all, hb, g5, g8, g11, g14, g17, g20, g23, g26, g29, g32, g35, g38, g41, g44, g47, g50, hl3]; try simp only [top_out])
  exact dropC_all (Nat.le_refl _) hK
set_option maxHeartbeats 4000000 in
set_option maxRecDepth 20000 in
theorem was_ok (b : Nat) (base pass : Int) (F : Nat → SV) (xs ws : List SV) (M : List Blk) (K : SV → List Blk → Prop) (h : Bk M b base pass F) (hno : NoKind F) (hx : SlO M (F 2) xs) (hw : SlO M (F 3) ws) (hlw : ws.length = xs.length) (hl : xs.length ≤ 1000000) (hs : ∀ (i : Nat) x w, xs[i]? = some x → ws[i]? = some w → ∃ l, Byt M x l ∧ Byt M w l) (hK : K (.b true) M) :
    callVC Tryz.prog 58 [.p b 0] M K := by
  obtain ⟨R, ty, hb, hR⟩ := h
  have hl3 := hR.len
  obtain ⟨h2, o2⟩ := hR.f 2 (by decide) (by decide)
  have g2 := getD_of h2
  obtain ⟨h3, o3⟩ := hR.f 3 (by decide) (by decide)
  have g3 := getD_of h3
  have lx : ∀ {M' : List Blk} {e a' b' : Nat} {K : SV → Prop}, lenB (.slice e a' b') M' (F 2) K = K (.i .i64 xs.length) := hx.lenB
  have g5 := getD_of ((hR.f 5 (by decide) (by decide)).1.trans (congrArg some (hno 5 (by decide) (by decide))))
  have g8 := getD_of ((hR.f 8 (by decide) (by decide)).1.trans (congrArg some (hno 8 (by decide) (by decide))))
  have g11 := getD_of ((hR.f 11 (by decide) (by decide)).1.trans (congrArg some (hno 11 (by decide) (by decide))))
  have g14 := getD_of ((hR.f 14 (by decide) (by decide)).1.trans (congrArg some (hno 14 (by decide) (by decide))))
  have g17 := getD_of ((hR.f 17 (by decide) (by decide)).1.trans (congrArg some (hno 17 (by decide) (by decide))))
  have g20 := getD_of ((hR.f 20 (by decide) (by decide)).1.trans (congrArg some (hno 20 (by decide) (by decide))))
  have g23 := getD_of ((hR.f 23 (by decide) (by decide)).1.trans (congrArg some (hno 23 (by decide) (by decide))))
  have g26 := getD_of ((hR.f 26 (by decide) (by decide)).1.trans (congrArg some (hno 26 (by decide) (by decide))))
  have g29 := getD_of ((hR.f 29 (by decide) (by decide)).1.trans (congrArg some (hno 29 (by decide) (by decide))))
  have g32 := getD_of ((hR.f 32 (by decide) (by decide)).1.trans (congrArg some (hno 32 (by decide) (by decide))))
  have g35 := getD_of ((hR.f 35 (by decide) (by decide)).1.trans (congrArg some (hno 35 (by decide) (by decide))))
  have g38 := getD_of ((hR.f 38 (by decide) (by decide)).1.trans (congrArg some (hno 38 (by decide) (by decide))))
  have g41 := getD_of ((hR.f 41 (by decide) (by decide)).1.trans (congrArg some (hno 41 (by decide) (by decide))))
  have g44 := getD_of ((hR.f 44 (by decide) (by decide)).1.trans (congrArg some (hno 44 (by decide) (by decide))))
  have g47 := getD_of ((hR.f 47 (by decide) (by decide)).1.trans (congrArg some (hno 47 (by decide) (by decide))))
  have g50 := getD_of ((hR.f 50 (by decide) (by decide)).1.trans (congrArg some (hno 50 (by decide) (by decide))))
  refine fn_rule tabOK Tryz.func58 rfl Tryz.call58 (by kernel_rfl) (fun hM => ?_)
  (refine top_in ?_; simp -implicitDefEqProofs only [Tryz.ntmps58, Tryz.results58, go_sem, -List.reduceReplicate, ↓L_gdZ_tt, ↓L_gdZ_tf, ↓L_gdZ_ft, ↓L_gdZ_ff, ↓T_and, ↓T_imp, ↓T_all, hb, g2, hl3, o2, lx]; try simp only [top_out])
  refine loop_code tabOK (by kernel_rfl) (fun m ts M' => ∃ i : Nat, i + m = xs.length ∧ M' = M ∧ frC (some (.p b 0) :: none :: none :: some (.i .i64 i) :: none :: none :: none :: none :: none :: none :: none :: none :: none :: none :: none :: none :: none :: none :: none :: none :: none :: none :: none :: none :: none :: none :: none :: none :: none :: none :: none :: none :: none :: none :: none :: none :: none :: none :: none :: none :: none :: none :: none :: none :: none :: none :: none :: none :: none :: none :: none :: none :: none :: none :: none :: none :: none :: none :: none :: none :: none :: none :: none :: none :: none :: none :: none :: none :: none :: none :: none :: none :: none :: none :: none :: none :: none :: none :: none :: none :: none :: none :: none :: none :: none :: none :: none :: none :: none :: none :: none :: none :: none :: none :: none :: none :: none :: none :: none :: none :: none :: none :: none :: none :: none :: none :: none :: none :: none :: none :: none :: none :: none :: none :: none :: none :: none :: none :: none :: none :: none :: none :: none :: none :: none :: none :: none :: none :: none :: none :: none :: none :: none :: none :: none :: none :: none :: none :: none :: none :: none :: none :: none :: none :: none :: none :: none :: none :: none :: none :: none :: none :: none :: none :: none :: none :: none :: none :: none :: none :: none :: none :: none :: none :: none :: none :: none :: none :: none :: none :: none :: none :: none :: none :: none :: none :: none :: none :: none :: none :: none :: none :: none :: none :: none :: none :: none :: none :: none :: none :: none :: none :: none :: none :: none :: none :: none :: none :: none :: none :: none :: none :: none :: none :: none :: none :: none :: none :: none :: none :: none :: none :: none :: none :: none :: none :: none :: none :: none :: none :: none :: none :: none :: none :: none :: none :: none :: none :: none :: none :: none :: none :: none :: none :: none :: none :: none :: none :: none :: none :: none :: none :: []) ts) xs.length ⟨0, by omega, rfl, by simp [frC]⟩ ?_
  rintro m ts M ⟨i, him, rfl, hf⟩
  obtain ⟨f, rfl⟩ := frC_open _ _ 0 hf
  clear hf
  (refine top_in ?_; simp -implicitDefEqProofs only [go_sem, -List.reduceReplicate, ↓L_gdZ_tt, ↓L_gdZ_tf, ↓L_gdZ_ft, ↓L_gdZ_ff, ↓T_and, ↓T_imp, ↓T_all, hb, g2, hl3, o2, lx, g5]; try simp only [top_out])
  refine ⟨fun c1 => ?_, fun c1 => ?_⟩
  · obtain ⟨x, hxi⟩ : ∃ x, xs[i]? = some x := ⟨_, List.getElem?_eq_getElem (by omega)⟩
    obtain ⟨w, hwi⟩ : ∃ w, ws[i]? = some w := ⟨_, List.getElem?_eq_getElem (by omega)⟩
    obtain ⟨l, b1, b2⟩ := hs i x w hxi hwi
    obtain ⟨nx, cx2, hxs, lx1, lx2, gx⟩ := hx.at hxi
    obtain ⟨nw, cw2, hws, lw1, lw2, gw⟩ := hw.at hwi
    have ox := b1.one
    have ow := b2.one
    refine draw_rule tabOK (by kernel_rfl : _) (.p 0 (.p 1 (.p 2 (.p 3 (.p 4 (.p 5 (.p 6 (.p 7 (.p 8 (.p 9 (.p 10 (.p 11 (.p 12 (.p 13 (.e 14 [] (.p 15 .nil) .no))))))))))))))) (by kernel_rfl) (by kernel_rfl) ?_
    (refine top_in ?_; simp -implicitDefEqProofs only [go_sem, -List.reduceReplicate, ↓L_gdZ_tt, ↓L_gdZ_tf, ↓L_gdZ_ft, ↓L_gdZ_ff, ↓T_and, ↓T_imp, ↓T_all, hb, g2, g3, hl3, o2, o3, hxs, hws, gx, gw, ox, ow]; try simp only [top_out])
    repeat (with_reducible refine And.intro (by omega) ?_)
    refine same_byt _ _ _ _ _ _ b1 b2 ?_
    (refine top_in ?_; simp -implicitDefEqProofs only [go_sem, -List.reduceReplicate, ↓L_gdZ_tt, ↓L_gdZ_tf, ↓L_gdZ_ft, ↓L_gdZ_ff, ↓T_and, ↓T_imp, ↓T_all, beq_self_eq_true]; try simp only [top_out])
    exact ⟨m - 1, by omega, i + 1, by omega, w64 (by omega) (by omega)⟩
  · refine loop_code tabOK (by kernel_rfl) (fun m ts M' => m = 0 ∧ M' = M ∧ frC (some (.p b 0) :: none :: none :: none :: some (.i .i64 0) :: none :: none :: none :: none :: none :: none :: none :: none :: none :: none :: none :: none :: none :: none :: none :: none :: none :: none :: none :: none :: none :: none :: none :: none :: none :: none :: none :: none :: none :: none :: none :: none :: none :: none :: none :: none :: none :: none :: none :: none :: none :: none :: none :: none :: none :: none :: none :: none :: none :: none :: none :: none :: none :: none :: none :: none :: none :: none :: none :: none :: none :: none :: none :: none :: none :: none :: none :: none :: none :: none :: none :: none :: none :: none :: none :: none :: none :: none :: none :: none :: none :: none :: none :: none :: none :: none :: none :: none :: none :: none :: none :: none :: none :: none :: none :: none :: none :: none :: none :: none :: none :: none :: none :: none :: none :: none :: none :: none :: none :: none :: none :: none :: none :: none :: none :: none :: none :: none :: none :: none :: none :: none :: none :: none :: none :: none :: none :: none :: none :: none :: none :: none :: none :: none :: none :: none :: none :: none :: none :: none :: none :: none :: none :: none :: none :: none :: none :: none :: none :: none :: none :: none :: none :: none :: none :: none :: none :: none :: none :: none :: none :: none :: none :: none :: none :: none :: none :: none :: none :: none :: none :: none :: none :: none :: none :: none :: none :: none :: none :: none :: none :: none :: none :: none :: none :: none :: none :: none :: none :: none :: none :: none :: none :: none :: none :: none :: none :: none :: none :: none :: none :: none :: none :: none :: none :: none :: none :: none :: none :: none :: none :: none :: none :: none :: none :: none :: none :: none :: none :: none :: none :: none :: none :: none :: none :: none :: none :: none :: none :: none :: none :: none :: none :: none :: none :: none :: none :: []) ts) 0 ⟨rfl, rfl, by simp [frC]⟩ ?_
    rintro m ts M ⟨rfl, rfl, hf⟩
    obtain ⟨f, rfl⟩ := frC_open _ _ 0 hf
    clear hf
    (refine top_in ?_; simp -implicitDefEqProofs only [go_sem, -List.reduceReplicate, ↓L_gdZ_tt, ↓L_gdZ_tf, ↓L_gdZ_ft, ↓L_gdZ_ff, ↓T_and, ↓T_imp, ↓T_all, hb, g5, g8, g11, g14, g17, g20, g23, g26, g29, g32, g35, g38, g41, g44, g47, g50, hl3]; try simp only [top_out])
    refine loop_code tabOK (by kernel_rfl) (fun m ts M' => m = 0 ∧ M' = M ∧ frC (some (.p b 0) :: none :: none :: none :: none :: some (.i .i64 0) :: none :: none :: none :: none :: none :: none :: none :: none :: none :: none :: none :: none :: none :: none :: none :: none :: none :: none :: none :: none :: none :: none :: none :: none :: none :: none :: none :: none :: none :: none :: none :: none :: none :: none :: none :: none :: none :: none :: none :: none :: none :: none :: none :: none :: none :: none :: none :: none :: none :: none :: none :: none :: none :: none :: none :: none :: none :: none :: none :: none :: none :: none :: none :: none :: none :: none :: none :: none :: none :: none :: none :: none :: none :: none :: none :: none :: none :: none :: none :: none :: none :: none :: none :: none :: none :: none :: none :: none :: none :: none :: none :: none :: none :: none :: none :: none :: none :: none :: none :: none :: none :: none :: none :: none :: none :: none :: none :: none :: none :: none :: none :: none :: none :: none :: none :: none :: none :: none :: none :: none :: none :: none :: none :: none :: none :: none :: none :: none :: none :: none :: none :: none :: none :: none :: none :: none :: none :: none :: none :: none :: none :: none :: none :: none :: none :: none :: none :: none :: none :: none :: none :: none :: none :: none :: none :: none :: none :: none :: none :: none :: none :: none :: none :: none :: none :: none :: none :: none :: none :: none :: none :: none :: none :: none :: none :: none :: none :: none :: none :: none :: none :: none :: none :: none :: none :: none :: none :: none :: none :: none :: none :: none :: none :: none :: none :: none :: none :: none :: none :: none :: none :: none :: none :: none :: none :: none :: none :: none :: none :: none :: none :: none :: none :: none :: none :: none :: none :: none :: none :: none :: none :: none :: none :: none :: none :: none :: none :: none :: none :: none :: none :: none :: none :: none :: none :: none :: []) ts) 0 ⟨rfl, rfl, by simp [frC]⟩ ?_
    rintro m ts M ⟨rfl, rfl, hf⟩
    obtain ⟨f, rfl⟩ := frC_open _ _ 0 hf
    clear hf
    (refine top_in ?_; simp -implicitDefEqProofs only [go_sem, -List.reduceReplicate, ↓L_gdZ_tt, ↓L_gdZ_tf, ↓L_gdZ_ft, ↓L_gdZ_ff, ↓T_and, ↓T_imp, ↓T_all, hb, g5, g8, g11, g14, g17, g20, g23, g26, g29, g32, g35, g38, g41, g44, g47, g50, hl3]; try simp only [top_out])
    refine loop_code tabOK (by kernel_rfl) (fun m ts M' => m = 0 ∧ M' = M ∧ frC (some (.p b 0) :: none :: none :: none :: none :: none :: some (.i .i64 0) :: none :: none :: none :: none :: none :: none :: none :: none :: none :: none :: none :: none :: none :: none :: none :: none :: none :: none :: none :: none :: none :: none :: none :: none :: none :: none :: none :: none :: none :: none :: none :: none :: none :: none :: none :: none :: none :: none :: none :: none :: none :: none :: none :: none :: none :: none :: none :: none :: none :: none :: none :: none :: none :: none :: none :: none :: none :: none :: none :: none :: none :: none :: none :: none :: none :: none :: none :: none :: none :: none :: none :: none :: none :: none :: none :: none :: none :: none :: none :: none :: none :: none :: none :: none :: none :: none :: none :: none :: none :: none :: none :: none :: none :: none :: none :: none :: none :: none :: none :: none :: none :: none :: none :: none :: none :: none :: none :: none :: none :: none :: none :: none :: none :: none :: none :: none :: none :: none :: none :: none :: none :: none :: none :: none :: none :: none :: none :: none :: none :: none :: none :: none :: none :: none :: none :: none :: none :: none :: none :: none :: none :: none :: none :: none :: none :: none :: none :: none :: none :: none :: none :: none :: none :: none :: none :: none :: none :: none :: none :: none :: none :: none :: none :: none :: none :: none :: none :: none :: none :: none :: none :: none :: none :: none :: none :: none :: none :: none :: none :: none :: none :: none :: none :: none :: none :: none :: none :: none :: none :: none :: none :: none :: none :: none :: none :: none :: none :: none :: none :: none :: none :: none :: none :: none :: none :: none :: none :: none :: none :: none :: none :: none :: none :: none :: none :: none :: none :: none :: none :: none :: none :: none :: none :: none :: none :: none :: none :: none :: none :: none :: none :: none :: none :: none :: none :: []) ts) 0 ⟨rfl, rfl, by simp [frC]⟩ ?_
    rintro m ts M ⟨rfl, rfl, hf⟩
    obtain ⟨f, rfl⟩ := frC_open _ _ 0 hf
    clear hf
    (refine top_in ?_; simp -implicitDefEqProofs only [go_sem, -List.reduceReplicate, ↓L_gdZ_tt, ↓L_gdZ_tf, ↓L_gdZ_ft, ↓L_gdZ_ff, ↓T_and, ↓T_imp, ↓T_all, hb, g5, g8, g11, g14, g17, g20, g23, g26, g29, g32, g35, g38, g41, g44, g47, g50, hl3]; try simp only [top_out])
    refine loop_code tabOK (by kernel_rfl) (fun m ts M' => m = 0 ∧ M' = M ∧ frC (some (.p b 0) :: none :: none :: none :: none :: none :: none :: none :: some (.i .i64 0) :: none :: none :: none :: none :: none :: none :: none :: none :: none :: none :: none :: none :: none :: none :: none :: none :: none :: none :: none :: none :: none :: none :: none :: none :: none :: none :: none :: none :: none :: none :: none :: none :: none :: none :: none :: none :: none :: none :: none :: none :: none :: none :: none :: none :: none :: none :: none :: none :: none :: none :: none :: none :: none :: none :: none :: none :: none :: none :: none :: none :: none :: none :: none :: none :: none :: none :: none :: none :: none :: none :: none :: none :: none :: none :: none :: none :: none :: none :: none :: none :: none :: none :: none :: none :: none :: none :: none :: none :: none :: none :: none :: none :: none :: none :: none :: none :: none :: none :: none :: none :: none :: none :: none :: none :: none :: none :: none :: none :: none :: none :: none :: none :: none :: none :: none :: none :: none :: none :: none :: none :: none :: none :: none :: none :: none :: none :: none :: none :: none :: none :: none :: none :: none :: none :: none :: none :: none :: none :: none :: none :: none :: none :: none :: none :: none :: none :: none :: none :: none :: none :: none :: none :: none :: none :: none :: none :: none :: none :: none :: none :: none :: none :: none :: none :: none :: none :: none :: none :: none :: none :: none :: none :: none :: none :: none :: none :: none :: none :: none :: none :: none :: none :: none :: none :: none :: none :: none :: none :: none :: none :: none :: none :: none :: none :: none :: none :: none :: none :: none :: none :: none :: none :: none :: none :: none :: none :: none :: none :: none :: none :: none :: none :: none :: none :: none :: none :: none :: none :: none :: none :: none :: none :: none :: none :: none :: none :: none :: none :: none :: none :: none :: none :: none :: []) ts) 0 ⟨rfl, rfl, by simp [frC]⟩ ?_
    rintro m ts M ⟨rfl, rfl, hf⟩
    obtain ⟨f, rfl⟩ := frC_open _ _ 0 hf
    clear hf
    (refine top_in ?_; simp -implicitDefEqProofs only [go_sem, -List.reduceReplicate, ↓L_gdZ_tt, ↓L_gdZ_tf, ↓L_gdZ_ft, ↓L_gdZ_ff, ↓T_and, ↓T_imp, ↓T_all, hb, g5, g8, g11, g14, g17, g20, g23, g26, g29, g32, g35, g38, g41, g44, g47, g50, hl3]; try simp only [top_out])
    refine loop_code tabOK (by kernel_rfl) (fun m ts M' => m = 0 ∧ M' = M ∧ frC (some (.p b 0) :: none :: none :: none :: none :: none :: none :: none :: none :: none :: some (.i .i64 0) :: none :: none :: none :: none :: none :: none :: none :: none :: none :: none :: none :: none :: none :: none :: none :: none :: none :: none :: none :: none :: none :: none :: none :: none :: none :: none :: none :: none :: none :: none :: none :: none :: none :: none :: none :: none :: none :: none :: none :: none :: none :: none :: none :: none :: none :: none :: none :: none :: none :: none :: none :: none :: none :: none :: none :: none :: none :: none :: none :: none :: none :: none :: none :: none :: none :: none :: none :: none :: none :: none :: none :: none :: none :: none :: none :: none :: none :: none :: none :: none :: none :: none :: none :: none :: none :: none :: none :: none :: none :: none :: none :: none :: none :: none :: none :: none :: none :: none :: none :: none :: none :: none :: none :: none :: none :: none :: none :: none :: none :: none :: none :: none :: none :: none :: none :: none :: none :: none :: none :: none :: none :: none :: none :: none :: none :: none :: none :: none :: none :: none :: none :: none :: none :: none :: none :: none :: none :: none :: none :: none :: none :: none :: none :: none :: none :: none :: none :: none :: none :: none :: none :: none :: none :: none :: none :: none :: none :: none :: none :: none :: none :: none :: none :: none :: none :: none :: none :: none :: none :: none :: none :: none :: none :: none :: none :: none :: none :: none :: none :: none :: none :: none :: none :: none :: none :: none :: none :: none :: none :: none :: none :: none :: none :: none :: none :: none :: none :: none :: none :: none :: none :: none :: none :: none :: none :: none :: none :: none :: none :: none :: none :: none :: none :: none :: none :: none :: none :: none :: none :: none :: none :: none :: none :: none :: none :: none :: none :: none :: none :: none :: none :: []) ts) 0 ⟨rfl, rfl, by simp [frC]⟩ ?_
    rintro m ts M ⟨rfl, rfl, hf⟩
    obtain ⟨f, rfl⟩ := frC_open _ _ 0 hf
    clear hf
    (refine top_in ?_; simp -implicitDefEqProofs only [go_sem, -List.reduceReplicate, ↓L_gdZ_tt, ↓L_gdZ_tf, ↓L_gdZ_ft, ↓L_gdZ_ff, ↓T_and, ↓T_imp, ↓T_all, hb, g5, g8, g11, g14, g17, g20, g23, g26, g29, g32, g35, g38, g41, g44, g47, g50, hl3]; try simp only [top_out])
    exact dropC_all (Nat.le_refl _) hK
end Go.Proofs.YtdkdbeamimkljaaGreatDoor.Eng
