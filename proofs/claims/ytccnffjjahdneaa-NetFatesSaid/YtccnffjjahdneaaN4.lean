/- The net's calls: taken, lost, doubled, spoilt. -/
import Derived.Test.YtccnffjjahdneaaN3
namespace Go.Proofs.Ytccnffjjahdneaa.Eng
open Go Go.RowKit
set_option linter.unusedSimpArgs false
set_option linter.unusedVariables false
set_option linter.unusedSimpArgs false
set_option linter.unusedVariables false

theorem dropC_app' {M N : List Blk} {m : Nat} {v : SV} {K : SV → List Blk → Prop} (hm : M.length = m) (hM : ∀ (n : Nat) (B : Blk), M[n]? = some B → B.lt M.length = true) (hv : v.lt m = true) (hK : K v M) : dropC m v (M ++ N) K := by
  subst hm; exact dropC_append hM hv hK
theorem lt_del {k : Nat} {j : Int} {es : List (Int × SV × Nat)} {c c' : Nat} (h : Blk.lt k (.obj (.map es c)) = true) : Blk.lt k (.obj (.map (delE j es) c')) = true := by
  simp only [Blk.lt, MObj.lt] at h ⊢
  rw [ltL_eq, List.all_eq_true] at h ⊢
  intro y hy
  obtain ⟨z, hz, rfl⟩ := List.mem_map.1 hy
  exact h _ (List.mem_map.2 ⟨z, delE_mem hz, rfl⟩)
theorem take_none (nx m : Nat) (g no : Int) (es : List (Int × SV × Nat)) (c : Nat) (ty : TypeId) (M : List Blk) (K : SV → List Blk → Prop)
    (h1 : M[nx]? = some (.row [.mp m, .i .i64 g] ty)) (h2 : M[m]? = some (.obj (.map es c))) (hf : findE no es = none) (hK : K (.tup [.agg [.i .i64 0, .i .i64 0, .sn], .i .i64 218]) M) :
    callVC Try.prog 14 [.p nx 0, .i .i64 no] M K := by
  have hn1 := kw h1
  have hn2 := kw h2
  refine fn_rule tabOK Try.func14 rfl Try.call14 (by kernel_rfl) (fun hM => ?_)
  (refine top_in ?_; simp -implicitDefEqProofs only [Try.ntmps14, Try.results14, go_sem, -List.reduceReplicate, ↓L_gdZ_tt, ↓L_gdZ_tf, ↓L_gdZ_ft, ↓L_gdZ_ff, ↓T_and, ↓T_imp, ↓T_all, Nat.reduceBEq, Nat.reduceAdd, Nat.reduceSub, Nat.reduceMul, Nat.reduceLT, Nat.reduceLeDiff, Nat.reduceEqDiff, Int.reduceLT, Int.reduceLE, Int.reduceAdd, Int.reduceSub, Int.reduceMul, Int.reduceNeg, Int.reduceToNat, Int.reduceEq, Int.reduceNe, reduceIte, reduceCtorEq, BitVec.reduceOfInt, BitVec.reduceToNat, h1, h2, get_lt hn1, get_lt hn2, hf]; try simp only [top_out])
  exact dropC_append hM rfl hK

theorem take_ok (nx m : Nat) (g no to : Int) (x : SV) (es : List (Int × SV × Nat)) (c : Nat) (ty : TypeId) (M : List Blk) (K : SV → List Blk → Prop)
    (h1 : M[nx]? = some (.row [.mp m, .i .i64 g] ty)) (h2 : M[m]? = some (.obj (.map es c))) (hf : findE no es = some (flS to x)) (hx : x.one = true) (hxl : x.lt M.length = true)
    (hK : K (.tup [.agg [.i .i64 no, .i .i64 to, x], .i .i64 0]) (M.set m (.obj (.map (delE no es) c)))) :
    callVC Try.prog 14 [.p nx 0, .i .i64 no] M K := by
  have hn1 := kw h1
  have hn2 := kw h2
  refine fn_rule tabOK Try.func14 rfl Try.call14 (by kernel_rfl) (fun hM => ?_)
  (refine top_in ?_; simp -implicitDefEqProofs only [Try.ntmps14, Try.results14, go_sem, -List.reduceReplicate, ↓L_gdZ_tt, ↓L_gdZ_tf, ↓L_gdZ_ft, ↓L_gdZ_ff, ↓T_and, ↓T_imp, ↓T_all, Nat.reduceBEq, Nat.reduceAdd, Nat.reduceSub, Nat.reduceMul, Nat.reduceLT, Nat.reduceLeDiff, Nat.reduceEqDiff, Int.reduceLT, Int.reduceLE, Int.reduceAdd, Int.reduceSub, Int.reduceMul, Int.reduceNeg, Int.reduceToNat, Int.reduceEq, Int.reduceNe, reduceIte, reduceCtorEq, BitVec.reduceOfInt, BitVec.reduceToNat, h1, h2, get_lt hn1, get_lt hn2, hf, flS, hx, cellsS_one hx, set_lt hn2]; try simp only [top_out])
  exact dropC_app' (by simp) (names_set hM (lt_del (hM m _ h2))) (by simp [SV.lt, ltL, hxl]) hK

theorem flip_none (nx m : Nat) (g no a x : Int) (es : List (Int × SV × Nat)) (c : Nat) (ty : TypeId) (M : List Blk) (K : SV → List Blk → Prop)
    (h1 : M[nx]? = some (.row [.mp m, .i .i64 g] ty)) (h2 : M[m]? = some (.obj (.map es c))) (hf : findE no es = none) (hK : K (.i .i64 218) M) :
    callVC Try.prog 12 [.p nx 0, .i .i64 no, .i .i64 a, .i .i64 x] M K := by
  have hn1 := kw h1
  have hn2 := kw h2
  refine fn_rule tabOK Try.func12 rfl Try.call12 (by kernel_rfl) (fun hM => ?_)
  (refine top_in ?_; simp -implicitDefEqProofs only [Try.ntmps12, Try.results12, go_sem, -List.reduceReplicate, ↓L_gdZ_tt, ↓L_gdZ_tf, ↓L_gdZ_ft, ↓L_gdZ_ff, ↓T_and, ↓T_imp, ↓T_all, Nat.reduceBEq, Nat.reduceAdd, Nat.reduceSub, Nat.reduceMul, Nat.reduceLT, Nat.reduceLeDiff, Nat.reduceEqDiff, Int.reduceLT, Int.reduceLE, Int.reduceAdd, Int.reduceSub, Int.reduceMul, Int.reduceNeg, Int.reduceToNat, Int.reduceEq, Int.reduceNe, reduceIte, reduceCtorEq, BitVec.reduceOfInt, BitVec.reduceToNat, h1, h2, get_lt hn1, get_lt hn2, hf]; try simp only [top_out])
  exact dropC_append hM rfl hK

theorem flip_ok (nx m d cap : Nat) (g no a x to : Int) (l z : List (BitVec 8)) (td : TypeId) (es : List (Int × SV × Nat)) (c : Nat) (ty : TypeId) (M : List Blk) (K : SV → List Blk → Prop)
    (h1 : M[nx]? = some (.row [.mp m, .i .i64 g] ty)) (h2 : M[m]? = some (.obj (.map es c))) (hf : findE no es = some (flS to (.sl d 0 l.length cap))) (hd : M[d]? = some (.row (bS (l ++ z)) td))
    (hK2 : (a < 0 ∨ (l.length : Int) ≤ a ∨ x < 1 ∨ 255 < x) → K (.i .i64 2) M)
    (hK : 0 ≤ a → a < l.length → 1 ≤ x → x ≤ 255 → K (.i .i64 0) (M.set d (.row (bS (l.set a.toNat (l.getD a.toNat 0#8 ^^^ BitVec.ofInt 8 x) ++ z)) td))) :
    callVC Try.prog 12 [.p nx 0, .i .i64 no, .i .i64 a, .i .i64 x] M K := by
  have hn1 := kw h1
  have hn2 := kw h2
  have hn3 := kw hd
  refine fn_rule tabOK Try.func12 rfl Try.call12 (by kernel_rfl) (fun hM => ?_)
  (refine top_in ?_; simp -implicitDefEqProofs only [Try.ntmps12, Try.results12, go_sem, -List.reduceReplicate, ↓L_gdZ_tt, ↓L_gdZ_tf, ↓L_gdZ_ft, ↓L_gdZ_ff, ↓T_and, ↓T_imp, ↓T_all, Nat.reduceBEq, Nat.reduceAdd, Nat.reduceSub, Nat.reduceMul, Nat.reduceLT, Nat.reduceLeDiff, Nat.reduceEqDiff, Int.reduceLT, Int.reduceLE, Int.reduceAdd, Int.reduceSub, Int.reduceMul, Int.reduceNeg, Int.reduceToNat, Int.reduceEq, Int.reduceNe, reduceIte, reduceCtorEq, BitVec.reduceOfInt, BitVec.reduceToNat, h1, h2, hd, get_lt hn1, get_lt hn2, get_lt hn3, set_lt hn3, hf, flS]; try simp only [top_out])
  refine ⟨fun h0 => ⟨fun h3 => ⟨fun h4 => ⟨fun h5 => ?_, fun h5 => ?_⟩, fun h4 => ?_⟩, fun h3 => ?_⟩, fun h0 => ?_⟩
  · exact dropC_append hM rfl (hK2 (by omega))
  · have ha : a.toNat < l.length := by omega
    have := hK (by omega) (by omega) (by omega) (by omega)
    have e1 : (l ++ z).getD a.toNat 0#8 = l.getD a.toNat 0#8 := by
      rw [List.getD_eq_getElem?_getD, List.getD_eq_getElem?_getD, List.getElem?_append_left ha]
    have e2 : ∀ y, (l ++ z).set a.toNat y = l.set a.toNat y ++ z := fun y => List.set_append_left _ _ ha
    rw [e1, e2]
    exact ⟨by omega, by omega, by omega, by omega, by omega, by omega, by omega, by omega, dropC_app' (by simp) (names_set hM (lt_row _ _ _)) rfl this⟩
  · exact dropC_append hM rfl (hK2 (by omega))
  · exact dropC_append hM rfl (hK2 (by omega))
  · exact dropC_append hM rfl (hK2 (by omega))
theorem drop_none (nx m : Nat) (g no : Int) (es : List (Int × SV × Nat)) (c : Nat) (ty : TypeId) (M : List Blk) (K : SV → List Blk → Prop)
    (h1 : M[nx]? = some (.row [.mp m, .i .i64 g] ty)) (h2 : M[m]? = some (.obj (.map es c))) (hf : findE no es = none) (hK : K (.i .i64 218) M) :
    callVC Try.prog 25 [.p nx 0, .i .i64 no] M K := by
  refine fn_rule tabOK Try.func25 rfl Try.call25 (by kernel_rfl) (fun hM => ?_)
  (refine top_in ?_; simp -implicitDefEqProofs only [Try.ntmps25, Try.results25, go_sem, -List.reduceReplicate, ↓L_gdZ_tt, ↓L_gdZ_tf, ↓L_gdZ_ft, ↓L_gdZ_ff, ↓T_and, ↓T_imp, ↓T_all, Nat.reduceBEq, Nat.reduceAdd, Nat.reduceSub, Nat.reduceMul, Nat.reduceLT, Nat.reduceLeDiff, Nat.reduceEqDiff, Int.reduceLT, Int.reduceLE, Int.reduceAdd, Int.reduceSub, Int.reduceMul, Int.reduceNeg, Int.reduceToNat, Int.reduceEq, Int.reduceNe, reduceIte, reduceCtorEq, BitVec.reduceOfInt, BitVec.reduceToNat]; try simp only [top_out])
  refine take_none nx m g no es c ty M _ h1 h2 hf ?_
  (refine top_in ?_; simp -implicitDefEqProofs only [go_sem, -List.reduceReplicate, ↓L_gdZ_tt, ↓L_gdZ_tf, ↓L_gdZ_ft, ↓L_gdZ_ff, ↓T_and, ↓T_imp, ↓T_all, Nat.reduceBEq, Nat.reduceAdd, Nat.reduceSub, Nat.reduceMul, Nat.reduceLT, Nat.reduceLeDiff, Nat.reduceEqDiff, Int.reduceLT, Int.reduceLE, Int.reduceAdd, Int.reduceSub, Int.reduceMul, Int.reduceNeg, Int.reduceToNat, Int.reduceEq, Int.reduceNe, reduceIte, reduceCtorEq, BitVec.reduceOfInt, BitVec.reduceToNat]; try simp only [top_out])
  exact dropC_append hM rfl hK
theorem drop_ok (nx m : Nat) (g no to : Int) (x : SV) (es : List (Int × SV × Nat)) (c : Nat) (ty : TypeId) (M : List Blk) (K : SV → List Blk → Prop)
    (h1 : M[nx]? = some (.row [.mp m, .i .i64 g] ty)) (h2 : M[m]? = some (.obj (.map es c))) (hf : findE no es = some (flS to x)) (hx : x.one = true) (hxl : x.lt M.length = true)
    (hK : K (.i .i64 0) (M.set m (.obj (.map (delE no es) c)))) :
    callVC Try.prog 25 [.p nx 0, .i .i64 no] M K := by
  refine fn_rule tabOK Try.func25 rfl Try.call25 (by kernel_rfl) (fun hM => ?_)
  (refine top_in ?_; simp -implicitDefEqProofs only [Try.ntmps25, Try.results25, go_sem, -List.reduceReplicate, ↓L_gdZ_tt, ↓L_gdZ_tf, ↓L_gdZ_ft, ↓L_gdZ_ff, ↓T_and, ↓T_imp, ↓T_all, Nat.reduceBEq, Nat.reduceAdd, Nat.reduceSub, Nat.reduceMul, Nat.reduceLT, Nat.reduceLeDiff, Nat.reduceEqDiff, Int.reduceLT, Int.reduceLE, Int.reduceAdd, Int.reduceSub, Int.reduceMul, Int.reduceNeg, Int.reduceToNat, Int.reduceEq, Int.reduceNe, reduceIte, reduceCtorEq, BitVec.reduceOfInt, BitVec.reduceToNat]; try simp only [top_out])
  refine take_ok nx m g no to x es c ty M _ h1 h2 hf hx hxl ?_
  (refine top_in ?_; simp -implicitDefEqProofs only [go_sem, -List.reduceReplicate, ↓L_gdZ_tt, ↓L_gdZ_tf, ↓L_gdZ_ft, ↓L_gdZ_ff, ↓T_and, ↓T_imp, ↓T_all, Nat.reduceBEq, Nat.reduceAdd, Nat.reduceSub, Nat.reduceMul, Nat.reduceLT, Nat.reduceLeDiff, Nat.reduceEqDiff, Int.reduceLT, Int.reduceLE, Int.reduceAdd, Int.reduceSub, Int.reduceMul, Int.reduceNeg, Int.reduceToNat, Int.reduceEq, Int.reduceNe, reduceIte, reduceCtorEq, BitVec.reduceOfInt, BitVec.reduceToNat, hx, cellsS_one hx]; try simp only [top_out])
  exact dropC_app' (by simp) (names_set hM (lt_del (hM m _ h2))) rfl hK
theorem copy_none (nx m : Nat) (g no : Int) (es : List (Int × SV × Nat)) (c : Nat) (ty : TypeId) (M : List Blk) (K : SV → List Blk → Prop)
    (h1 : M[nx]? = some (.row [.mp m, .i .i64 g] ty)) (h2 : M[m]? = some (.obj (.map es c))) (hf : findE no es = none) (hK : K (.tup [.i .i64 0, .i .i64 218]) M) :
    callVC Try.prog 13 [.p nx 0, .i .i64 no] M K := by
  have hn1 := kw h1
  have hn2 := kw h2
  refine fn_rule tabOK Try.func13 rfl Try.call13 (by kernel_rfl) (fun hM => ?_)
  (refine top_in ?_; simp -implicitDefEqProofs only [Try.ntmps13, Try.results13, go_sem, -List.reduceReplicate, ↓L_gdZ_tt, ↓L_gdZ_tf, ↓L_gdZ_ft, ↓L_gdZ_ff, ↓T_and, ↓T_imp, ↓T_all, Nat.reduceBEq, Nat.reduceAdd, Nat.reduceSub, Nat.reduceMul, Nat.reduceLT, Nat.reduceLeDiff, Nat.reduceEqDiff, Int.reduceLT, Int.reduceLE, Int.reduceAdd, Int.reduceSub, Int.reduceMul, Int.reduceNeg, Int.reduceToNat, Int.reduceEq, Int.reduceNe, reduceIte, reduceCtorEq, BitVec.reduceOfInt, BitVec.reduceToNat, h1, h2, get_lt hn1, get_lt hn2, hf]; try simp only [top_out])
  exact dropC_append hM rfl hK
theorem copy_full (nx m : Nat) (g no to : Int) (x : SV) (es : List (Int × SV × Nat)) (c : Nat) (ty : TypeId) (M : List Blk) (K : SV → List Blk → Prop)
    (h1 : M[nx]? = some (.row [.mp m, .i .i64 g] ty)) (h2 : M[m]? = some (.obj (.map es c))) (hfu : 1024 ≤ es.length) (hf : findE no es = some (flS to x)) (hx : x.one = true) (hK : K (.tup [.i .i64 0, .i .i64 0]) M) :
    callVC Try.prog 13 [.p nx 0, .i .i64 no] M K := by
  have hn1 := kw h1
  have hn2 := kw h2
  refine fn_rule tabOK Try.func13 rfl Try.call13 (by kernel_rfl) (fun hM => ?_)
  (refine top_in ?_; simp -implicitDefEqProofs only [Try.ntmps13, Try.results13, go_sem, -List.reduceReplicate, ↓L_gdZ_tt, ↓L_gdZ_tf, ↓L_gdZ_ft, ↓L_gdZ_ff, ↓T_and, ↓T_imp, ↓T_all, Nat.reduceBEq, Nat.reduceAdd, Nat.reduceSub, Nat.reduceMul, Nat.reduceLT, Nat.reduceLeDiff, Nat.reduceEqDiff, Int.reduceLT, Int.reduceLE, Int.reduceAdd, Int.reduceSub, Int.reduceMul, Int.reduceNeg, Int.reduceToNat, Int.reduceEq, Int.reduceNe, reduceIte, reduceCtorEq, BitVec.reduceOfInt, BitVec.reduceToNat, h1, h2, get_lt hn1, get_lt hn2, hf, flS, hx, cellsS_one hx]; try simp only [top_out])
  refine send_full nx m g to x es c ty _ _ (by rw [get_lt hn1]; exact h1) (by rw [get_lt hn2]; exact h2) hfu ?_
  (refine top_in ?_; simp -implicitDefEqProofs only [go_sem, -List.reduceReplicate, ↓L_gdZ_tt, ↓L_gdZ_tf, ↓L_gdZ_ft, ↓L_gdZ_ff, ↓T_and, ↓T_imp, ↓T_all, Nat.reduceBEq, Nat.reduceAdd, Nat.reduceSub, Nat.reduceMul, Nat.reduceLT, Nat.reduceLeDiff, Nat.reduceEqDiff, Int.reduceLT, Int.reduceLE, Int.reduceAdd, Int.reduceSub, Int.reduceMul, Int.reduceNeg, Int.reduceToNat, Int.reduceEq, Int.reduceNe, reduceIte, reduceCtorEq, BitVec.reduceOfInt, BitVec.reduceToNat]; try simp only [top_out])
  exact dropC_append hM rfl hK
set_option maxHeartbeats 1000000 in
theorem copy_ok (nx m n cap : Nat) (g no to : Int) (l : List (BitVec 8)) (es : List (Int × SV × Nat)) (c : Nat) (ty : TypeId) (M : List Blk) (K : SV → List Blk → Prop)
    (h1 : M[nx]? = some (.row [.mp m, .i .i64 g] ty)) (h2 : M[m]? = some (.obj (.map es c))) (hfu : es.length < 1024) (hg0 : 0 ≤ g) (hg1 : g < 4611686018427387904) (hfr : findE (g + 1) es = none)
    (hf : findE no es = some (flS to (.sl n 0 l.length cap))) (hl : BAt M n 0 l) (hv : liveN M n = true) (hne : nx ≠ n) (hll : l.length ≤ 140737488355000)
    (hK : ∀ z ty', K (.tup [.i .i64 (g + 1), .i .i64 0]) ((M.set nx (.row [.mp m, .i .i64 (g + 1)] ty)).set m (.obj (.map (es ++ [(g + 1, flS to (.sl (M.length + 1) 0 l.length (l.length + z.length)), c)]) (c + 1))) ++ [.row [.i .i64 to, .sl n 0 l.length cap] 65, .row (bS (l ++ z)) ty'])) :
    callVC Try.prog 13 [.p nx 0, .i .i64 no] M K := by
  have hn1 := kw h1
  have hn2 := kw h2
  refine fn_rule tabOK Try.func13 rfl Try.call13 (by kernel_rfl) (fun hM => ?_)
  (refine top_in ?_; simp -implicitDefEqProofs only [Try.ntmps13, Try.results13, go_sem, -List.reduceReplicate, ↓L_gdZ_tt, ↓L_gdZ_tf, ↓L_gdZ_ft, ↓L_gdZ_ff, ↓T_and, ↓T_imp, ↓T_all, Nat.reduceBEq, Nat.reduceAdd, Nat.reduceSub, Nat.reduceMul, Nat.reduceLT, Nat.reduceLeDiff, Nat.reduceEqDiff, Int.reduceLT, Int.reduceLE, Int.reduceAdd, Int.reduceSub, Int.reduceMul, Int.reduceNeg, Int.reduceToNat, Int.reduceEq, Int.reduceNe, reduceIte, reduceCtorEq, BitVec.reduceOfInt, BitVec.reduceToNat, h1, h2, get_lt hn1, get_lt hn2, hf, flS]; try simp only [top_out])
  refine send_ok nx m g to n 0 cap l es c ty _ _ (by rw [get_lt hn1]; exact h1) (by rw [get_lt hn2]; exact h2) hfu hg0 hg1 hfr hl.app (live_app hv hl.lt) hne hll (fun z ty' => ?_)
  (refine top_in ?_; simp -implicitDefEqProofs only [go_sem, -List.reduceReplicate, ↓L_gdZ_tt, ↓L_gdZ_tf, ↓L_gdZ_ft, ↓L_gdZ_ff, ↓T_and, ↓T_imp, ↓T_all, Nat.reduceBEq, Nat.reduceAdd, Nat.reduceSub, Nat.reduceMul, Nat.reduceLT, Nat.reduceLeDiff, Nat.reduceEqDiff, Int.reduceLT, Int.reduceLE, Int.reduceAdd, Int.reduceSub, Int.reduceMul, Int.reduceNeg, Int.reduceToNat, Int.reduceEq, Int.reduceNe, reduceIte, reduceCtorEq, BitVec.reduceOfInt, BitVec.reduceToNat, set_lt hn1, set_slt hn2]; try simp only [top_out])
  exact dropC_all (by simp) (hK z ty')
end Go.Proofs.Ytccnffjjahdneaa.Eng
