/- The chapter's example, as the program reckons it. -/
import Derived.Test.YtccnffjjahdneaaN6
namespace Go.Proofs.Ytccnffjjahdneaa.Eng
open Go Go.RowKit
set_option linter.unusedSimpArgs false
set_option linter.unusedVariables false
set_option linter.unusedSimpArgs false
set_option linter.unusedVariables false

theorem HoldsB.app {M L : List Blk} {fs : List (Int × Int × List (BitVec 8))} {xs : List (Int × Int × SV)} (h : HoldsB M fs xs) : HoldsB (M ++ L) fs xs := ⟨h.1, fun i f x hf hx => (h.2 i f x hf hx).app⟩
theorem holds2 {M : List Blk} {a a' b b' : Int} {x y : SV} {l r : List (BitVec 8)} (h1 : BytesAt M x l) (h2 : BytesAt M y r) : HoldsB M [(a, a', l), (b, b', r)] [(a, a', x), (b, b', y)] := by
  refine ⟨rfl, fun i f z hf hz => ?_⟩
  match i with
  | 0 => cases hf; cases hz; exact h1
  | 1 => cases hf; cases hz; exact h2
  | i + 2 => simp at hf
set_option maxHeartbeats 2000000 in
theorem known_ok (M : List Blk) (K : SV → List Blk → Prop) (hK : K (.b true) M) :
    callVC Try.prog 9 [] M K := by
  refine fn_rule tabOK Try.func9 rfl Try.call9 (by kernel_rfl) (fun hM => ?_)
  (refine top_in ?_; simp -implicitDefEqProofs only [Try.ntmps9, Try.results9, go_sem, -List.reduceReplicate, ↓L_gdZ_tt, ↓L_gdZ_tf, ↓L_gdZ_ft, ↓L_gdZ_ff, ↓T_and, ↓T_imp, ↓T_all, Nat.reduceBEq, Nat.reduceAdd, Nat.reduceSub, Nat.reduceMul, Nat.reduceLT, Nat.reduceLeDiff, Nat.reduceEqDiff, Int.reduceLT, Int.reduceLE, Int.reduceAdd, Int.reduceSub, Int.reduceMul, Int.reduceNeg, Int.reduceToNat, Int.reduceEq, Int.reduceNe, reduceIte, reduceCtorEq, BitVec.reduceOfInt, BitVec.reduceToNat]; try simp only [top_out])
  refine new_ok _ _ ?_
  (refine top_in ?_; simp -implicitDefEqProofs only [go_sem, -List.reduceReplicate, ↓L_gdZ_tt, ↓L_gdZ_tf, ↓L_gdZ_ft, ↓L_gdZ_ff, ↓T_and, ↓T_imp, ↓T_all, Nat.reduceBEq, Nat.reduceAdd, Nat.reduceSub, Nat.reduceMul, Nat.reduceLT, Nat.reduceLeDiff, Nat.reduceEqDiff, Int.reduceLT, Int.reduceLE, Int.reduceAdd, Int.reduceSub, Int.reduceMul, Int.reduceNeg, Int.reduceToNat, Int.reduceEq, Int.reduceNe, reduceIte, reduceCtorEq, BitVec.reduceOfInt, BitVec.reduceToNat]; try simp only [top_out])
  refine ⟨by decide, ?_⟩
  refine send_ok (M.length + 1) M.length 0 1 (M.length + 2) 0 2 [65#8, 66#8] [] 0 63 _ _ (by rw [get_app]; rfl) (by rw [get_app0]; rfl) (by decide) (by decide) (by decide) rfl (BAt.row (z := []) (ty := 5) (by rw [get_app]; rfl)) (by rw [liveN_eq, get_app]; rfl) (by omega) (by decide) (fun z1 t1 => ?_)
  (refine top_in ?_; simp -implicitDefEqProofs only [go_sem, -List.reduceReplicate, ↓L_gdZ_tt, ↓L_gdZ_tf, ↓L_gdZ_ft, ↓L_gdZ_ff, ↓T_and, ↓T_imp, ↓T_all, Nat.reduceBEq, Nat.reduceAdd, Nat.reduceSub, Nat.reduceMul, Nat.reduceLT, Nat.reduceLeDiff, Nat.reduceEqDiff, Int.reduceLT, Int.reduceLE, Int.reduceAdd, Int.reduceSub, Int.reduceMul, Int.reduceNeg, Int.reduceToNat, Int.reduceEq, Int.reduceNe, reduceIte, reduceCtorEq, BitVec.reduceOfInt, BitVec.reduceToNat]; try simp only [top_out])
  refine send_nil (M.length + 1) M.length 1 0 _ 1 63 _ _ (by rw [get_app]; rfl) (by rw [get_app0]; rfl) (by simp) (by decide) (by decide) rfl ?_
  (refine top_in ?_; simp -implicitDefEqProofs only [go_sem, -List.reduceReplicate, ↓L_gdZ_tt, ↓L_gdZ_tf, ↓L_gdZ_ft, ↓L_gdZ_ff, ↓T_and, ↓T_imp, ↓T_all, Nat.reduceBEq, Nat.reduceAdd, Nat.reduceSub, Nat.reduceMul, Nat.reduceLT, Nat.reduceLeDiff, Nat.reduceEqDiff, Int.reduceLT, Int.reduceLE, Int.reduceAdd, Int.reduceSub, Int.reduceMul, Int.reduceNeg, Int.reduceToNat, Int.reduceEq, Int.reduceNe, reduceIte, reduceCtorEq, BitVec.reduceOfInt, BitVec.reduceToNat]; try simp only [top_out])
  refine copy_ok (M.length + 1) M.length (M.length + 3) (2 + z1.length) 2 1 1 [65#8, 66#8] _ 2 63 _ _ (by rw [get_app]; rfl) (by rw [get_app0]; rfl) (by simp) (by decide) (by decide) rfl rfl (BAt.row (z := z1) (ty := t1) (by rw [get_app]; rfl)) (by rw [liveN_eq, get_app]; rfl) (by omega) (by decide) (fun z2 t2 => ?_)
  (refine top_in ?_; simp -implicitDefEqProofs only [go_sem, -List.reduceReplicate, ↓L_gdZ_tt, ↓L_gdZ_tf, ↓L_gdZ_ft, ↓L_gdZ_ff, ↓T_and, ↓T_imp, ↓T_all, Nat.reduceBEq, Nat.reduceAdd, Nat.reduceSub, Nat.reduceMul, Nat.reduceLT, Nat.reduceLeDiff, Nat.reduceEqDiff, Int.reduceLT, Int.reduceLE, Int.reduceAdd, Int.reduceSub, Int.reduceMul, Int.reduceNeg, Int.reduceToNat, Int.reduceEq, Int.reduceNe, reduceIte, reduceCtorEq, BitVec.reduceOfInt, BitVec.reduceToNat]; try simp only [top_out])
  refine flip_ok (M.length + 1) M.length (M.length + 3) (2 + z1.length) 3 1 1 3 1 [65#8, 66#8] z1 t1 _ 3 63 _ _ (by rw [get_app]; rfl) (by rw [get_app0]; rfl) rfl (by rw [get_app]; rfl) (fun h => absurd h (by decide)) (fun _ _ _ _ => ?_)
  (refine top_in ?_; simp -implicitDefEqProofs only [go_sem, -List.reduceReplicate, ↓L_gdZ_tt, ↓L_gdZ_tf, ↓L_gdZ_ft, ↓L_gdZ_ff, ↓T_and, ↓T_imp, ↓T_all, Nat.reduceBEq, Nat.reduceAdd, Nat.reduceSub, Nat.reduceMul, Nat.reduceLT, Nat.reduceLeDiff, Nat.reduceEqDiff, Int.reduceLT, Int.reduceLE, Int.reduceAdd, Int.reduceSub, Int.reduceMul, Int.reduceNeg, Int.reduceToNat, Int.reduceEq, Int.reduceNe, reduceIte, reduceCtorEq, BitVec.reduceOfInt, BitVec.reduceToNat]; try simp only [top_out])
  refine take_ok (M.length + 1) M.length 3 1 1 (.sl (M.length + 3) 0 2 (2 + z1.length)) _ 3 63 _ _ (by rw [get_app]; rfl) (by rw [get_app0]; rfl) rfl rfl (by simp [SV.lt]) ?_
  (refine top_in ?_; simp -implicitDefEqProofs only [go_sem, -List.reduceReplicate, ↓L_gdZ_tt, ↓L_gdZ_tf, ↓L_gdZ_ft, ↓L_gdZ_ff, ↓T_and, ↓T_imp, ↓T_all, Nat.reduceBEq, Nat.reduceAdd, Nat.reduceSub, Nat.reduceMul, Nat.reduceLT, Nat.reduceLeDiff, Nat.reduceEqDiff, Int.reduceLT, Int.reduceLE, Int.reduceAdd, Int.reduceSub, Int.reduceMul, Int.reduceNeg, Int.reduceToNat, Int.reduceEq, Int.reduceNe, reduceIte, reduceCtorEq, BitVec.reduceOfInt, BitVec.reduceToNat]; try simp only [top_out])
  refine under_ok (M.length + 1) M.length 3 [(2, 0, .sn, [], 1), (3, 1, .sl (M.length + 5) 0 2 (2 + z2.length), [65#8, 66#8], 2)] 3 63 _ _ (by rw [get_app]; rfl) (by rw [get_app0]; rfl) (fun f hf => ?_) (fun f hf => ?_) (by simp) (by simp) (fun f hf => ?_) ?_ (fun L xs zz cap ty hL hH => ?_)
  · simp only [List.mem_cons, List.not_mem_nil, or_false] at hf
    rcases hf with rfl | rfl
    · exact ⟨by decide, .inl ⟨rfl, rfl⟩⟩
    · exact ⟨by simp, .inr ⟨_, _, rfl, BAt.row (z := z2) (ty := t2) (by rw [get_app]; rfl), There.row (l := [65#8, 66#8]) (z := z2) (ty := t2) (by rw [get_app]; rfl)⟩⟩
  · simp only [List.mem_cons, List.not_mem_nil, or_false] at hf
    rcases hf with rfl | rfl <;> simp
  · simp only [List.mem_cons, List.not_mem_nil, or_false] at hf
    rcases hf with rfl | rfl <;> simp
  · simp
  (refine top_in ?_; simp -implicitDefEqProofs only [go_sem, -List.reduceReplicate, ↓L_gdZ_tt, ↓L_gdZ_tf, ↓L_gdZ_ft, ↓L_gdZ_ff, ↓T_and, ↓T_imp, ↓T_all, Nat.reduceBEq, Nat.reduceAdd, Nat.reduceSub, Nat.reduceMul, Nat.reduceLT, Nat.reduceLeDiff, Nat.reduceEqDiff, Int.reduceLT, Int.reduceLE, Int.reduceAdd, Int.reduceSub, Int.reduceMul, Int.reduceNeg, Int.reduceToNat, Int.reduceEq, Int.reduceNe, reduceIte, reduceCtorEq, BitVec.reduceOfInt, BitVec.reduceToNat]; try simp only [top_out])
  refine ⟨by decide, ?_⟩
  refine sameFlight_ok _ 1 1 1 1 (.sl (M.length + 3) 0 2 (2 + z1.length)) (.sl (M.length + (L.length + 7)) 0 2 2) [65#8, 66#8 ^^^ 3#8] [65#8, 65#8] _ ⟨by simp, .inr ⟨_, _, rfl, BAt.row (z := z1) (ty := t1) (by rw [get_app]; rfl)⟩⟩ ⟨by simp, .inr ⟨_, _, rfl, BAt.row (z := []) (ty := 5) (by rw [get_app]; simp [get_app0]; rfl)⟩⟩ ?_
  rw [show sameFB 1 1 [65#8, 66#8 ^^^ 3#8] 1 1 [65#8, 65#8] = true from by decide]
  (refine top_in ?_; simp -implicitDefEqProofs only [go_sem, -List.reduceReplicate, ↓L_gdZ_tt, ↓L_gdZ_tf, ↓L_gdZ_ft, ↓L_gdZ_ff, ↓T_and, ↓T_imp, ↓T_all, Nat.reduceBEq, Nat.reduceAdd, Nat.reduceSub, Nat.reduceMul, Nat.reduceLT, Nat.reduceLeDiff, Nat.reduceEqDiff, Int.reduceLT, Int.reduceLE, Int.reduceAdd, Int.reduceSub, Int.reduceMul, Int.reduceNeg, Int.reduceToNat, Int.reduceEq, Int.reduceNe, reduceIte, reduceCtorEq, BitVec.reduceOfInt, BitVec.reduceToNat]; try simp only [top_out])
  refine ⟨by decide, by decide, ?_⟩
  have hL1 := kw hL
  refine sameFlights_ok (M.length + 8) cap (M.length + (L.length + 9)) 2 [(2, 0, []), (3, 1, [65#8, 66#8])] [(2, 0, []), (3, 1, [65#8, 66#8])] xs [(2, 0, .sn), (3, 1, .sl (M.length + (L.length + 8)) 0 2 2)] zz [] ty 32 _ _ ?_ ?_ ?_ ?_ (by simp) (by simp) ?_
  · rw [get_app]
    show (L ++ _)[1]? = _
    rw [List.getElem?_append_left hL1]; exact hL
  · rw [get_app]
    show (L ++ _)[L.length + 2]? = _
    rw [get_app]; rfl
  · have h4 : HoldsB _ [(2, 0, []), (3, 1, [65#8, 66#8])] xs := hH.toB (fun f hf => by
      simp only [List.map_cons, List.map_nil, List.mem_cons, List.not_mem_nil, or_false] at hf
      rcases hf with rfl | rfl <;> simp)
    have h3 := h4.app (L := [Blk.row [SV.u8 65#8, SV.u8 65#8] 5, Blk.row [SV.u8 65#8, SV.u8 66#8] 5, Blk.row [SV.i IntKind.i64 2, SV.i IntKind.i64 0, SV.sn, SV.i IntKind.i64 3, SV.i IntKind.i64 1, SV.sl (M.length + (L.length + 8)) 0 2 2] 32])
    simpa only [List.append_assoc, List.cons_append, List.nil_append] using h3
  · refine holds2 ⟨by simp, .inl ⟨rfl, rfl⟩⟩ ⟨by simp, .inr ⟨_, _, rfl, BAt.row (z := []) (ty := 5) ?_⟩⟩
    rw [get_app]
    show (L ++ _)[L.length + 1]? = _
    rw [get_app]; rfl
  · (refine top_in ?_; simp -implicitDefEqProofs only [go_sem, -List.reduceReplicate, ↓L_gdZ_tt, ↓L_gdZ_tf, ↓L_gdZ_ft, ↓L_gdZ_ff, ↓T_and, ↓T_imp, ↓T_all, Nat.reduceBEq, Nat.reduceAdd, Nat.reduceSub, Nat.reduceMul, Nat.reduceLT, Nat.reduceLeDiff, Nat.reduceEqDiff, Int.reduceLT, Int.reduceLE, Int.reduceAdd, Int.reduceSub, Int.reduceMul, Int.reduceNeg, Int.reduceToNat, Int.reduceEq, Int.reduceNe, reduceIte, reduceCtorEq, BitVec.reduceOfInt, BitVec.reduceToNat]; try simp only [top_out])
    refine num_ok 0 _ _ ?_
    (refine top_in ?_; simp -implicitDefEqProofs only [go_sem, -List.reduceReplicate, ↓L_gdZ_tt, ↓L_gdZ_tf, ↓L_gdZ_ft, ↓L_gdZ_ff, ↓T_and, ↓T_imp, ↓T_all, Nat.reduceBEq, Nat.reduceAdd, Nat.reduceSub, Nat.reduceMul, Nat.reduceLT, Nat.reduceLeDiff, Nat.reduceEqDiff, Int.reduceLT, Int.reduceLE, Int.reduceAdd, Int.reduceSub, Int.reduceMul, Int.reduceNeg, Int.reduceToNat, Int.reduceEq, Int.reduceNe, reduceIte, reduceCtorEq, BitVec.reduceOfInt, BitVec.reduceToNat]; try simp only [top_out])
    refine num_ok 0 _ _ ?_
    (refine top_in ?_; simp -implicitDefEqProofs only [go_sem, -List.reduceReplicate, ↓L_gdZ_tt, ↓L_gdZ_tf, ↓L_gdZ_ft, ↓L_gdZ_ff, ↓T_and, ↓T_imp, ↓T_all, Nat.reduceBEq, Nat.reduceAdd, Nat.reduceSub, Nat.reduceMul, Nat.reduceLT, Nat.reduceLeDiff, Nat.reduceEqDiff, Int.reduceLT, Int.reduceLE, Int.reduceAdd, Int.reduceSub, Int.reduceMul, Int.reduceNeg, Int.reduceToNat, Int.reduceEq, Int.reduceNe, reduceIte, reduceCtorEq, BitVec.reduceOfInt, BitVec.reduceToNat]; try simp only [top_out])
    refine num_ok 0 _ _ ?_
    (refine top_in ?_; simp -implicitDefEqProofs only [go_sem, -List.reduceReplicate, ↓L_gdZ_tt, ↓L_gdZ_tf, ↓L_gdZ_ft, ↓L_gdZ_ff, ↓T_and, ↓T_imp, ↓T_all, Nat.reduceBEq, Nat.reduceAdd, Nat.reduceSub, Nat.reduceMul, Nat.reduceLT, Nat.reduceLeDiff, Nat.reduceEqDiff, Int.reduceLT, Int.reduceLE, Int.reduceAdd, Int.reduceSub, Int.reduceMul, Int.reduceNeg, Int.reduceToNat, Int.reduceEq, Int.reduceNe, reduceIte, reduceCtorEq, BitVec.reduceOfInt, BitVec.reduceToNat]; try simp only [top_out])
    exact dropC_append hM rfl hK
end Go.Proofs.Ytccnffjjahdneaa.Eng
