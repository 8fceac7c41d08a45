/- A flight leaves, as the book has it. -/
import Derived.Test.YtccnffjjahdneaaOi
namespace Go.Proofs.Ytccnffjjahdneaa.Eng
open Go Go.RowKit
set_option linter.unusedSimpArgs false
set_option linter.unusedVariables false
set_option linter.unusedSimpArgs false
set_option linter.unusedVariables false

set_option maxHeartbeats 1000000 in
theorem leaves_no (nx m c : Nat) (g ki to no xx a : Int) (se : Bool) (x w : SV) (fs : List Ent) (M : List Blk) (F : Nat → Prop) (K : SV → List Blk → Prop) (h : NetSt M F nx m g c fs) (hn : ∀ e, e ∈ fs → e.1 ≠ no) (hxo : x.one = true) (hK : K (.b true) M) :
    callVC Try.prog 23 [.p nx 0, opS ki se to no xx a x, w, .b false] M K := by
  unfold opS
  have hN : ∀ N, NetSt (M ++ N) F nx m g c fs := fun N => h.ag (S := fun _ => False) (M' := M ++ N) Ag.app (fun _ _ e => e)
  refine fn_rule tabOK Try.func23 rfl Try.call23 (by kernel_rfl) (fun hM => ?_)
  (refine top_in ?_; simp -implicitDefEqProofs only [Try.ntmps23, Try.results23, go_sem, -List.reduceReplicate, ↓L_gdZ_tt, ↓L_gdZ_tf, ↓L_gdZ_ft, ↓L_gdZ_ff, ↓T_and, ↓T_imp, ↓T_all, Nat.reduceBEq, Nat.reduceAdd, Nat.reduceSub, Nat.reduceMul, Nat.reduceLT, Nat.reduceLeDiff, Nat.reduceEqDiff, Int.reduceLT, Int.reduceLE, Int.reduceAdd, Int.reduceSub, Int.reduceMul, Int.reduceNeg, Int.reduceToNat, Int.reduceEq, Int.reduceNe, reduceIte, reduceCtorEq, BitVec.reduceOfInt, BitVec.reduceToNat, hxo]; try simp only [top_out])
  refine ⟨fun _ => ?_, fun _ => ?_⟩
  · refine drop_none nx m g no _ c 63 _ _ (hN _).row (hN _).map (find_no hn) ?_
    (refine top_in ?_; simp -implicitDefEqProofs only [go_sem, -List.reduceReplicate, ↓L_gdZ_tt, ↓L_gdZ_tf, ↓L_gdZ_ft, ↓L_gdZ_ff, ↓T_and, ↓T_imp, ↓T_all, Nat.reduceBEq, Nat.reduceAdd, Nat.reduceSub, Nat.reduceMul, Nat.reduceLT, Nat.reduceLeDiff, Nat.reduceEqDiff, Int.reduceLT, Int.reduceLE, Int.reduceAdd, Int.reduceSub, Int.reduceMul, Int.reduceNeg, Int.reduceToNat, Int.reduceEq, Int.reduceNe, reduceIte, reduceCtorEq, BitVec.reduceOfInt, BitVec.reduceToNat]; try simp only [top_out])
    refine num_ok 218 _ _ ?_
    (refine top_in ?_; simp -implicitDefEqProofs only [go_sem, -List.reduceReplicate, ↓L_gdZ_tt, ↓L_gdZ_tf, ↓L_gdZ_ft, ↓L_gdZ_ff, ↓T_and, ↓T_imp, ↓T_all, Nat.reduceBEq, Nat.reduceAdd, Nat.reduceSub, Nat.reduceMul, Nat.reduceLT, Nat.reduceLeDiff, Nat.reduceEqDiff, Int.reduceLT, Int.reduceLE, Int.reduceAdd, Int.reduceSub, Int.reduceMul, Int.reduceNeg, Int.reduceToNat, Int.reduceEq, Int.reduceNe, reduceIte, reduceCtorEq, BitVec.reduceOfInt, BitVec.reduceToNat]; try simp only [top_out])
    rw [show (((218:Int) == 0) == false) = true from rfl]
    exact dropC_append hM rfl hK
  · refine take_none nx m g no _ c 63 _ _ (hN _).row (hN _).map (find_no hn) ?_
    (refine top_in ?_; simp -implicitDefEqProofs only [go_sem, -List.reduceReplicate, ↓L_gdZ_tt, ↓L_gdZ_tf, ↓L_gdZ_ft, ↓L_gdZ_ff, ↓T_and, ↓T_imp, ↓T_all, Nat.reduceBEq, Nat.reduceAdd, Nat.reduceSub, Nat.reduceMul, Nat.reduceLT, Nat.reduceLeDiff, Nat.reduceEqDiff, Int.reduceLT, Int.reduceLE, Int.reduceAdd, Int.reduceSub, Int.reduceMul, Int.reduceNeg, Int.reduceToNat, Int.reduceEq, Int.reduceNe, reduceIte, reduceCtorEq, BitVec.reduceOfInt, BitVec.reduceToNat]; try simp only [top_out])
    refine sameFlight_ok _ 0 0 0 0 .sn .sn [] [] _ ⟨by simp, .inl ⟨rfl, rfl⟩⟩ ⟨by simp, .inl ⟨rfl, rfl⟩⟩ ?_
    rw [show sameFB 0 0 [] 0 0 [] = true from by decide]
    (refine top_in ?_; simp -implicitDefEqProofs only [go_sem, -List.reduceReplicate, ↓L_gdZ_tt, ↓L_gdZ_tf, ↓L_gdZ_ft, ↓L_gdZ_ff, ↓T_and, ↓T_imp, ↓T_all, Nat.reduceBEq, Nat.reduceAdd, Nat.reduceSub, Nat.reduceMul, Nat.reduceLT, Nat.reduceLeDiff, Nat.reduceEqDiff, Int.reduceLT, Int.reduceLE, Int.reduceAdd, Int.reduceSub, Int.reduceMul, Int.reduceNeg, Int.reduceToNat, Int.reduceEq, Int.reduceNe, reduceIte, reduceCtorEq, BitVec.reduceOfInt, BitVec.reduceToNat]; try simp only [top_out])
    refine num_ok 218 _ _ ?_
    (refine top_in ?_; simp -implicitDefEqProofs only [go_sem, -List.reduceReplicate, ↓L_gdZ_tt, ↓L_gdZ_tf, ↓L_gdZ_ft, ↓L_gdZ_ff, ↓T_and, ↓T_imp, ↓T_all, Nat.reduceBEq, Nat.reduceAdd, Nat.reduceSub, Nat.reduceMul, Nat.reduceLT, Nat.reduceLeDiff, Nat.reduceEqDiff, Int.reduceLT, Int.reduceLE, Int.reduceAdd, Int.reduceSub, Int.reduceMul, Int.reduceNeg, Int.reduceToNat, Int.reduceEq, Int.reduceNe, reduceIte, reduceCtorEq, BitVec.reduceOfInt, BitVec.reduceToNat]; try simp only [top_out])
    rw [show (((218:Int) == 0) == false) = true from rfl]
    exact dropC_append hM rfl hK
set_option maxHeartbeats 1000000 in
theorem leaves_yes (nx m c : Nat) (g ki to no xx a : Int) (se : Bool) (x w y : SV) (fs : List Ent) (bk : List Rfl) (hs : List Bool) (i : Nat) (f : Rfl) (M : List Blk) (F Fb : Nat → Prop) (K : SV → List Blk → Prop) (h : NetSt M F nx m g c fs) (hb : BookSt M Fb w y bk hs) (hv : vwE fs = sel bk hs) (hi : bk[i]? = some f) (hh : hs[i]? = some true) (hno : no = (i : Int) + 1) (hi2 : i ≤ 1048576)
    (hxo : x.one = true) (hd : ∀ n, Fb n → ¬ F n)
    (hK : ∀ M' F', NetSt M' F' nx m g c (fs.filter fun e => e.1 != no) → (∀ n, F' n → F n) → Ag (· = m) M M' → K (.b true) M') :
    callVC Try.prog 23 [.p nx 0, opS ki se to no xx a x, w, .b true] M K := by
  unfold opS
  have hN : ∀ N, NetSt (M ++ N) F nx m g c fs := fun N => h.ag (S := fun _ => False) (M' := M ++ N) Ag.app (fun _ _ e => e)
  obtain ⟨e, he, e1, e2, e3⟩ := there_yes hb hv hi hh
  have hfn := hb.num i f hi
  have hne : e.1 = no := by rw [e1, hfn, hno]; omega
  have hw : IntKind.i64.wrap (no - 1) = (i : Int) := by rw [w64 (by omega) (by omega)]; omega
  clear hno
  have hml := h.inn m h.fm
  refine fn_rule tabOK Try.func23 rfl Try.call23 (by kernel_rfl) (fun hM => ?_)
  (refine top_in ?_; simp -implicitDefEqProofs only [Try.ntmps23, Try.results23, go_sem, -List.reduceReplicate, ↓L_gdZ_tt, ↓L_gdZ_tf, ↓L_gdZ_ft, ↓L_gdZ_ff, ↓T_and, ↓T_imp, ↓T_all, Nat.reduceBEq, Nat.reduceAdd, Nat.reduceSub, Nat.reduceMul, Nat.reduceLT, Nat.reduceLeDiff, Nat.reduceEqDiff, Int.reduceLT, Int.reduceLE, Int.reduceAdd, Int.reduceSub, Int.reduceMul, Int.reduceNeg, Int.reduceToNat, Int.reduceEq, Int.reduceNe, reduceIte, reduceCtorEq, BitVec.reduceOfInt, BitVec.reduceToNat, hxo]; try simp only [top_out])
  refine ⟨fun _ => ?_, fun _ => ?_⟩
  · subst hne
    refine drop_st nx m c g e fs _ F _ (hN _) he (fun M1 h1 hA1 => ?_)
    (refine top_in ?_; simp -implicitDefEqProofs only [go_sem, -List.reduceReplicate, ↓L_gdZ_tt, ↓L_gdZ_tf, ↓L_gdZ_ft, ↓L_gdZ_ff, ↓T_and, ↓T_imp, ↓T_all, Nat.reduceBEq, Nat.reduceAdd, Nat.reduceSub, Nat.reduceMul, Nat.reduceLT, Nat.reduceLeDiff, Nat.reduceEqDiff, Int.reduceLT, Int.reduceLE, Int.reduceAdd, Int.reduceSub, Int.reduceMul, Int.reduceNeg, Int.reduceToNat, Int.reduceEq, Int.reduceNe, reduceIte, reduceCtorEq, BitVec.reduceOfInt, BitVec.reduceToNat]; try simp only [top_out])
    refine num_ok 0 _ _ ?_
    (refine top_in ?_; simp -implicitDefEqProofs only [go_sem, -List.reduceReplicate, ↓L_gdZ_tt, ↓L_gdZ_tf, ↓L_gdZ_ft, ↓L_gdZ_ff, ↓T_and, ↓T_imp, ↓T_all, Nat.reduceBEq, Nat.reduceAdd, Nat.reduceSub, Nat.reduceMul, Nat.reduceLT, Nat.reduceLeDiff, Nat.reduceEqDiff, Int.reduceLT, Int.reduceLE, Int.reduceAdd, Int.reduceSub, Int.reduceMul, Int.reduceNeg, Int.reduceToNat, Int.reduceEq, Int.reduceNe, reduceIte, reduceCtorEq, BitVec.reduceOfInt, BitVec.reduceToNat]; try simp only [top_out])
    have hA : Ag (· = m) M M1 := Ag.trans ((Ag.app (S := fun _ => False)).mono (fun _ e => e.elim)) hA1 (fun _ _ e => e)
    exact dropC_all hA.1 (hK M1 _ h1 (fun n e => e.1) hA)
  · subst hne
    refine take_st nx m c g e fs _ F _ (hN _) he (fun M1 h1 hD1 hA1 => ?_)
    have hb1 := hA1.get (n := M.length) (by simp [go_sem]; rfl) (fun e => by omega)
    have hD := hD1.lt.1
    have c1 := kw hb1
    have hA : Ag (· = m) M M1 := Ag.trans ((Ag.app (S := fun _ => False)).mono (fun _ e => e.elim)) hA1 (fun _ _ e => e)
    have hib : i < bk.length := (List.getElem?_eq_some_iff.1 hi).1
    have hff := hb.data f (List.mem_of_getElem? hi)
    have hfd := hff.ag (F' := Fb) hA (fun d h1 _ => ⟨fun e => hd d h1 (by rw [e]; exact h.fm), h1⟩)
    have hfx := hfd.lt.1
    rcases hb.lst with ⟨_, h0⟩ | ⟨q, cap, zz, ty, rfl, q1, q2, q3, q4⟩
    · rw [h0] at hib; simp at hib
    have q5 := hA.get q1 (fun e => hd q q4 (by rw [e]; exact h.fm))
    have hg3 : (bk.map r3)[i]? = some (r3 f) := by rw [List.getElem?_map, hi]; rfl
    have hcell := flC_get (bk.map r3) zz i hg3
    simp only [r3] at hcell
    have hfl3 := flC_length (bk.map Eng.r3)
    rw [List.length_map] at hfl3
    have c5 := kw q5
    (refine top_in ?_; simp -implicitDefEqProofs only [go_sem, -List.reduceReplicate, ↓L_gdZ_tt, ↓L_gdZ_tf, ↓L_gdZ_ft, ↓L_gdZ_ff, ↓T_and, ↓T_imp, ↓T_all, Nat.reduceBEq, Nat.reduceAdd, Nat.reduceSub, Nat.reduceMul, Nat.reduceLT, Nat.reduceLeDiff, Nat.reduceEqDiff, Int.reduceLT, Int.reduceLE, Int.reduceAdd, Int.reduceSub, Int.reduceMul, Int.reduceNeg, Int.reduceToNat, Int.reduceEq, Int.reduceNe, reduceIte, reduceCtorEq, BitVec.reduceOfInt, BitVec.reduceToNat, hb1, hD, get_lt c1, get_lt c5, hw, q5, hcell, hfx]; try simp only [top_out])
    refine ⟨by omega, by omega, by omega, by omega, ?_⟩
    have hs1 : sameFB e.1 e.2.1 e.2.2.2.1 f.1 f.2.1 f.2.2.2 = true := by unfold sameFB; rw [e1, e2, e3]; simp
    refine sameFlight_ok _ e.1 e.2.1 f.1 f.2.1 _ _ e.2.2.2.1 f.2.2.2 _ hD1.bytes.app ?_ ?_
    · exact hfd.bytes.app
    rw [hs1]
    (refine top_in ?_; simp -implicitDefEqProofs only [go_sem, -List.reduceReplicate, ↓L_gdZ_tt, ↓L_gdZ_tf, ↓L_gdZ_ft, ↓L_gdZ_ff, ↓T_and, ↓T_imp, ↓T_all, Nat.reduceBEq, Nat.reduceAdd, Nat.reduceSub, Nat.reduceMul, Nat.reduceLT, Nat.reduceLeDiff, Nat.reduceEqDiff, Int.reduceLT, Int.reduceLE, Int.reduceAdd, Int.reduceSub, Int.reduceMul, Int.reduceNeg, Int.reduceToNat, Int.reduceEq, Int.reduceNe, reduceIte, reduceCtorEq, BitVec.reduceOfInt, BitVec.reduceToNat]; try simp only [top_out])
    refine num_ok 0 _ _ ?_
    (refine top_in ?_; simp -implicitDefEqProofs only [go_sem, -List.reduceReplicate, ↓L_gdZ_tt, ↓L_gdZ_tf, ↓L_gdZ_ft, ↓L_gdZ_ff, ↓T_and, ↓T_imp, ↓T_all, Nat.reduceBEq, Nat.reduceAdd, Nat.reduceSub, Nat.reduceMul, Nat.reduceLT, Nat.reduceLeDiff, Nat.reduceEqDiff, Int.reduceLT, Int.reduceLE, Int.reduceAdd, Int.reduceSub, Int.reduceMul, Int.reduceNeg, Int.reduceToNat, Int.reduceEq, Int.reduceNe, reduceIte, reduceCtorEq, BitVec.reduceOfInt, BitVec.reduceToNat]; try simp only [top_out])
    have hA2 : Ag (· = m) M (M1 ++ [Blk.row [.i .i64 e.1, .i .i64 e.2.1, e.2.2.1] 32, Blk.row [.i .i64 f.1, .i .i64 f.2.1, f.2.2.1] 32]) := Ag.trans hA ((Ag.app (S := fun _ => False)).mono (fun _ e => e.elim)) (fun _ _ e => e)
    exact dropC_all hA2.1 (hK _ _ (h1.ag (S := fun _ => False) Ag.app (fun _ _ e => e)) (fun n e => e.1) hA2)
end Go.Proofs.Ytccnffjjahdneaa.Eng
