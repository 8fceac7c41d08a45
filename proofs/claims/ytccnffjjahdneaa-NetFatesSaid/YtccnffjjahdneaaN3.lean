/- The net's calls: a new one, a packet sent. -/
import Derived.Test.YtccnffjjahdneaaN2
import Derived.Test.YtccnffjjahdneaaU0
namespace Go.Proofs.Ytccnffjjahdneaa.Eng
open Go Go.RowKit
set_option linter.unusedSimpArgs false
set_option linter.unusedVariables false
set_option linter.unusedSimpArgs false
set_option linter.unusedVariables false

theorem new_ok (M : List Blk) (K : SV → List Blk → Prop) (hK : K (.p (M.length + 1) 0) (M ++ [.obj (.map [] 0), .row [.mp M.length, .i .i64 0] 63])) :
    callVC Try.prog 10 [] M K := by
  refine fn_rule tabOK Try.func10 rfl Try.call10 (by kernel_rfl) (fun hM => ?_)
  (refine top_in ?_; simp -implicitDefEqProofs only [Try.ntmps10, Try.results10, go_sem, -List.reduceReplicate, ↓L_gdZ_tt, ↓L_gdZ_tf, ↓L_gdZ_ft, ↓L_gdZ_ff, ↓T_and, ↓T_imp, ↓T_all, Nat.reduceBEq, Nat.reduceAdd, Nat.reduceSub, Nat.reduceMul, Nat.reduceLT, Nat.reduceLeDiff, Nat.reduceEqDiff, Int.reduceLT, Int.reduceLE, Int.reduceAdd, Int.reduceSub, Int.reduceMul, Int.reduceNeg, Int.reduceToNat, Int.reduceEq, Int.reduceNe, reduceIte, reduceCtorEq, BitVec.reduceOfInt, BitVec.reduceToNat]; try simp only [top_out])
  exact dropC_all (by simp) hK
theorem num_ok (x : Int) (M : List Blk) (K : SV → List Blk → Prop) (hK : K (.i .i64 x) M) : callVC Try.prog 17 [.i .i64 x] M K := by
  refine fn_rule tabOK Try.func17 rfl Try.call17 (by kernel_rfl) (fun hM => ?_)
  (refine top_in ?_; simp -implicitDefEqProofs only [Try.ntmps17, Try.results17, go_sem, -List.reduceReplicate, ↓L_gdZ_tt, ↓L_gdZ_tf, ↓L_gdZ_ft, ↓L_gdZ_ff, ↓T_and, ↓T_imp, ↓T_all, Nat.reduceBEq, Nat.reduceAdd, Nat.reduceSub, Nat.reduceMul, Nat.reduceLT, Nat.reduceLeDiff, Nat.reduceEqDiff, Int.reduceLT, Int.reduceLE, Int.reduceAdd, Int.reduceSub, Int.reduceMul, Int.reduceNeg, Int.reduceToNat, Int.reduceEq, Int.reduceNe, reduceIte, reduceCtorEq, BitVec.reduceOfInt, BitVec.reduceToNat]; try simp only [top_out])
  exact dropC_self hM rfl hK
theorem clone_ok (n off cap len : Nat) (l : List (BitVec 8)) (M : List Blk) (K : SV → List Blk → Prop) (ha : BAt M n off l) (hv : liveN M n = true) (hl : l.length ≤ 140737488355327) (hlen : len = l.length)
    (hK : ∀ z ty, K (.sl M.length 0 l.length (l.length + z.length)) (M ++ [.row (bS (l ++ z)) ty])) :
    callVC Try.prog 28 [.sl n off len cap] M K := by
  subst hlen
  refine fn_rule tabOK Try.func28 rfl Try.call28 (by kernel_rfl) (fun hM => ?_)
  (refine top_in ?_; simp -implicitDefEqProofs only [Try.ntmps28, Try.results28, go_sem, -List.reduceReplicate, ↓L_gdZ_tt, ↓L_gdZ_tf, ↓L_gdZ_ft, ↓L_gdZ_ff, ↓T_and, ↓T_imp, ↓T_all, Nat.reduceBEq, Nat.reduceAdd, Nat.reduceSub, Nat.reduceMul, Nat.reduceLT, Nat.reduceLeDiff, Nat.reduceEqDiff, Int.reduceLT, Int.reduceLE, Int.reduceAdd, Int.reduceSub, Int.reduceMul, Int.reduceNeg, Int.reduceToNat, Int.reduceEq, Int.reduceNe, reduceIte, reduceCtorEq, BitVec.reduceOfInt, BitVec.reduceToNat, hv]; try simp only [top_out])
  refine ⟨by decide, ?_⟩
  refine app8 M.length [] [] l 5 rfl rfl rfl (by simp [get_app0, bS]) (by simp) (by simp) ha.app.src (by simp; omega) ?_
  intro z' ty'
  (refine top_in ?_; simp -implicitDefEqProofs only [go_sem, -List.reduceReplicate, ↓L_gdZ_tt, ↓L_gdZ_tf, ↓L_gdZ_ft, ↓L_gdZ_ff, ↓T_and, ↓T_imp, ↓T_all, Nat.reduceBEq, Nat.reduceAdd, Nat.reduceSub, Nat.reduceMul, Nat.reduceLT, Nat.reduceLeDiff, Nat.reduceEqDiff, Int.reduceLT, Int.reduceLE, Int.reduceAdd, Int.reduceSub, Int.reduceMul, Int.reduceNeg, Int.reduceToNat, Int.reduceEq, Int.reduceNe, reduceIte, reduceCtorEq, BitVec.reduceOfInt, BitVec.reduceToNat]; try simp only [top_out])
  exact drop8 1 hM rfl rfl (hK z' ty')
theorem clone_nil (M : List Blk) (K : SV → List Blk → Prop) (hK : K .sn M) : callVC Try.prog 28 [.sn] M K := by
  refine fn_rule tabOK Try.func28 rfl Try.call28 (by kernel_rfl) (fun hM => ?_)
  (refine top_in ?_; simp -implicitDefEqProofs only [Try.ntmps28, Try.results28, go_sem, -List.reduceReplicate, ↓L_gdZ_tt, ↓L_gdZ_tf, ↓L_gdZ_ft, ↓L_gdZ_ff, ↓T_and, ↓T_imp, ↓T_all, Nat.reduceBEq, Nat.reduceAdd, Nat.reduceSub, Nat.reduceMul, Nat.reduceLT, Nat.reduceLeDiff, Nat.reduceEqDiff, Int.reduceLT, Int.reduceLE, Int.reduceAdd, Int.reduceSub, Int.reduceMul, Int.reduceNeg, Int.reduceToNat, Int.reduceEq, Int.reduceNe, reduceIte, reduceCtorEq, BitVec.reduceOfInt, BitVec.reduceToNat]; try simp only [top_out])
  exact dropC_self hM rfl hK
/-- an entry's value -/
def flS (to : Int) (x : SV) : SV := .agg [.i .i64 to, x]
theorem set_lt {M L : List Blk} {a : Nat} {B : Blk} (h : a < M.length) : (M ++ L).set a B = M.set a B ++ L := List.set_append_left _ _ h

/-- a memory with one block turned is well named -/
theorem names_set {M : List Blk} {a : Nat} {B : Blk} (hM : ∀ (n : Nat) (B : Blk), M[n]? = some B → B.lt M.length = true) (hB : B.lt M.length = true) : ∀ (n : Nat) (C : Blk), (M.set a B)[n]? = some C → C.lt (M.set a B).length = true := by
  intro n C hC
  rw [List.length_set]
  by_cases e : a = n
  · subst e
    have ha : a < M.length := by
      have := (List.getElem?_eq_some_iff.1 hC).1
      simpa using this
    rw [List.getElem?_set_self ha] at hC; cases hC; exact hB
  · rw [List.getElem?_set_ne e] at hC; exact hM n C hC
theorem BAt.set {M : List Blk} {a n off : Nat} {B : Blk} {l : List (BitVec 8)} (h : BAt M n off l) (hne : a ≠ n) : BAt (M.set a B) n off l := by
  have e : cellsAt (M.set a B) n = cellsAt M n := by unfold cellsAt; rw [List.getElem?_set_ne hne]
  exact ⟨by rw [List.length_set]; exact h.lt, by rw [e]; exact h.len, by rw [e]; exact h.cells⟩
theorem live_set {M : List Blk} {a n : Nat} {B : Blk} (h : liveN M n = true) (hne : a ≠ n) : liveN (M.set a B) n = true := by
  unfold liveN at *; rwa [List.getElem?_set_ne hne]
theorem live_app {M L : List Blk} {n : Nat} (h : liveN M n = true) (hn : n < M.length) : liveN (M ++ L) n = true := by
  unfold liveN at *; rwa [List.getElem?_append_left hn]
theorem kw {n : Nat} {B : Blk} {M : List Blk} (h : M[n]? = some B) : n < M.length := (List.getElem?_eq_some_iff.1 h).1

@[go_sem] theorem get_sapp {M L : List Blk} {a k : Nat} {B : Blk} : (M.set a B ++ L)[M.length + k]? = L[k]? := by
  have := get_app (M.set a B) L k
  rwa [List.length_set] at this
@[go_sem] theorem get_sapp0 {M L : List Blk} {a : Nat} {B : Blk} : (M.set a B ++ L)[M.length]? = L[0]? := get_sapp (k := 0)
@[go_sem] theorem set_sapp {M L : List Blk} {a k : Nat} {B C : Blk} : (M.set a B ++ L).set (M.length + k) C = M.set a B ++ L.set k C := by
  have := set_app (M.set a B) L k C
  rwa [List.length_set] at this
@[go_sem] theorem set_sapp0 {M L : List Blk} {a : Nat} {B C : Blk} : (M.set a B ++ L).set M.length C = M.set a B ++ L.set 0 C := set_sapp (k := 0)
@[go_sem] theorem get_sapp2 {M L : List Blk} {a b k : Nat} {B D : Blk} : ((M.set a B).set b D ++ L)[M.length + k]? = L[k]? := by
  have := get_app ((M.set a B).set b D) L k
  rwa [List.length_set, List.length_set] at this
@[go_sem] theorem get_sapp20 {M L : List Blk} {a b : Nat} {B D : Blk} : ((M.set a B).set b D ++ L)[M.length]? = L[0]? := get_sapp2 (k := 0)
@[go_sem] theorem set_sapp2 {M L : List Blk} {a b k : Nat} {B C D : Blk} : ((M.set a B).set b D ++ L).set (M.length + k) C = (M.set a B).set b D ++ L.set k C := by
  have := set_app ((M.set a B).set b D) L k C
  rwa [List.length_set, List.length_set] at this
@[go_sem] theorem set_sapp20 {M L : List Blk} {a b : Nat} {B C D : Blk} : ((M.set a B).set b D ++ L).set M.length C = (M.set a B).set b D ++ L.set 0 C := set_sapp2 (k := 0)
theorem set_slt {M L : List Blk} {a b : Nat} {B C : Blk} (h : b < M.length) : (M.set a B ++ L).set b C = (M.set a B).set b C ++ L := set_lt (by rw [List.length_set]; exact h)
theorem cellsS_one {x : SV} (h : x.one = true) : cellsS x = [x] := by
  cases x <;> first | rfl | cases h

theorem send_full (nx m : Nat) (g to : Int) (x : SV) (es : List (Int × SV × Nat)) (c : Nat) (ty : TypeId) (M : List Blk) (K : SV → List Blk → Prop)
    (h1 : M[nx]? = some (.row [.mp m, .i .i64 g] ty)) (h2 : M[m]? = some (.obj (.map es c))) (hf : 1024 ≤ es.length) (hK : K (.i .i64 0) M) :
    callVC Try.prog 11 [.p nx 0, .i .i64 to, x] M K := by
  refine fn_rule tabOK Try.func11 rfl Try.call11 (by kernel_rfl) (fun hM => ?_)
  (refine top_in ?_; simp -implicitDefEqProofs only [Try.ntmps11, Try.results11, go_sem, -List.reduceReplicate, ↓L_gdZ_tt, ↓L_gdZ_tf, ↓L_gdZ_ft, ↓L_gdZ_ff, ↓T_and, ↓T_imp, ↓T_all, Nat.reduceBEq, Nat.reduceAdd, Nat.reduceSub, Nat.reduceMul, Nat.reduceLT, Nat.reduceLeDiff, Nat.reduceEqDiff, Int.reduceLT, Int.reduceLE, Int.reduceAdd, Int.reduceSub, Int.reduceMul, Int.reduceNeg, Int.reduceToNat, Int.reduceEq, Int.reduceNe, reduceIte, reduceCtorEq, BitVec.reduceOfInt, BitVec.reduceToNat, h1, h2]; try simp only [top_out])
  exact ⟨fun _ => dropC_self hM rfl hK, fun h => absurd (by omega) h⟩

set_option maxHeartbeats 1000000 in
theorem send_nil (nx m : Nat) (g to : Int) (es : List (Int × SV × Nat)) (c : Nat) (ty : TypeId) (M : List Blk) (K : SV → List Blk → Prop)
    (h1 : M[nx]? = some (.row [.mp m, .i .i64 g] ty)) (h2 : M[m]? = some (.obj (.map es c))) (hf : es.length < 1024) (hg0 : 0 ≤ g) (hg1 : g < 4611686018427387904) (hfr : findE (g + 1) es = none)
    (hK : K (.i .i64 (g + 1)) ((M.set nx (.row [.mp m, .i .i64 (g + 1)] ty)).set m (.obj (.map (es ++ [(g + 1, flS to .sn, c)]) (c + 1))))) :
    callVC Try.prog 11 [.p nx 0, .i .i64 to, .sn] M K := by
  have hn1 := kw h1
  have hn2 := kw h2
  have hnm : nx ≠ m := by intro e; subst e; rw [h1] at h2; cases h2
  have hw : IntKind.i64.wrap (g + 1) = g + 1 := w64 (by omega) (by omega)
  refine fn_rule tabOK Try.func11 rfl Try.call11 (by kernel_rfl) (fun hM => ?_)
  (refine top_in ?_; simp -implicitDefEqProofs only [Try.ntmps11, Try.results11, go_sem, -List.reduceReplicate, ↓L_gdZ_tt, ↓L_gdZ_tf, ↓L_gdZ_ft, ↓L_gdZ_ff, ↓T_and, ↓T_imp, ↓T_all, Nat.reduceBEq, Nat.reduceAdd, Nat.reduceSub, Nat.reduceMul, Nat.reduceLT, Nat.reduceLeDiff, Nat.reduceEqDiff, Int.reduceLT, Int.reduceLE, Int.reduceAdd, Int.reduceSub, Int.reduceMul, Int.reduceNeg, Int.reduceToNat, Int.reduceEq, Int.reduceNe, reduceIte, reduceCtorEq, BitVec.reduceOfInt, BitVec.reduceToNat, h1, h2, hw]; try simp only [top_out])
  refine ⟨fun h => absurd h (by omega), fun _ => ?_⟩
  obtain ⟨M2, hM2⟩ : ∃ M2, M.set nx (.row [.mp m, .i .i64 (g + 1)] ty) = M2 := ⟨_, rfl⟩
  have hl2 : M2.length = M.length := by rw [← hM2, List.length_set]
  have hM' : ∀ (n : Nat) (B : Blk), M2[n]? = some B → B.lt M2.length = true := by rw [← hM2]; exact names_set hM (by have := hM nx _ h1; simpa [Blk.lt, ltL, SV.lt] using this)
  have s1 : M2[nx]? = some (.row [.mp m, .i .i64 (g + 1)] ty) := by rw [← hM2]; exact List.getElem?_set_self hn1
  have s2 : M2[m]? = some (.obj (.map es c)) := by rw [← hM2, List.getElem?_set_ne hnm]; exact h2
  have s3 : ∀ o, (M2.set m (.obj o))[nx]? = some (.row [.mp m, .i .i64 (g + 1)] ty) := fun o => by rw [List.getElem?_set_ne (Ne.symm hnm)]; exact s1
  rw [hM2]
  rw [hM2] at hK
  try rw [← hl2] at hK
  rw [← hl2] at hn1 hn2
  rw [← hl2]
  refine draw_rule tabOK (by kernel_rfl : _) (.p 0 (.p 1 (.p 2 (.p 3 (.p 4 (.p 5 (.p 6 (.p 7 (.p 8 (.p 9 (.e 10 [1, 2, 3, 5, 6, 7] (.p 11 (.e 12 [] .nil .no)) .no))))))))))) (by kernel_rfl) (by kernel_rfl) ?_
  (refine top_in ?_; simp -implicitDefEqProofs only [go_sem, -List.reduceReplicate, ↓L_gdZ_tt, ↓L_gdZ_tf, ↓L_gdZ_ft, ↓L_gdZ_ff, ↓T_and, ↓T_imp, ↓T_all, Nat.reduceBEq, Nat.reduceAdd, Nat.reduceSub, Nat.reduceMul, Nat.reduceLT, Nat.reduceLeDiff, Nat.reduceEqDiff, Int.reduceLT, Int.reduceLE, Int.reduceAdd, Int.reduceSub, Int.reduceMul, Int.reduceNeg, Int.reduceToNat, Int.reduceEq, Int.reduceNe, reduceIte, reduceCtorEq, BitVec.reduceOfInt, BitVec.reduceToNat, s1, s2]; try simp only [top_out])
  refine clone_nil _ _ ?_
  (refine top_in ?_; simp -implicitDefEqProofs only [go_sem, -List.reduceReplicate, ↓L_gdZ_tt, ↓L_gdZ_tf, ↓L_gdZ_ft, ↓L_gdZ_ff, ↓T_and, ↓T_imp, ↓T_all, Nat.reduceBEq, Nat.reduceAdd, Nat.reduceSub, Nat.reduceMul, Nat.reduceLT, Nat.reduceLeDiff, Nat.reduceEqDiff, Int.reduceLT, Int.reduceLE, Int.reduceAdd, Int.reduceSub, Int.reduceMul, Int.reduceNeg, Int.reduceToNat, Int.reduceEq, Int.reduceNe, reduceIte, reduceCtorEq, BitVec.reduceOfInt, BitVec.reduceToNat, s1, s2, hfr, s3]; try simp only [top_out])
  exact dropC_all (by simp) hK
set_option maxHeartbeats 1000000 in
theorem send_ok (nx m : Nat) (g to : Int) (n off cap : Nat) (l : List (BitVec 8)) (es : List (Int × SV × Nat)) (c : Nat) (ty : TypeId) (M : List Blk) (K : SV → List Blk → Prop)
    (h1 : M[nx]? = some (.row [.mp m, .i .i64 g] ty)) (h2 : M[m]? = some (.obj (.map es c))) (hf : es.length < 1024) (hg0 : 0 ≤ g) (hg1 : g < 4611686018427387904) (hfr : findE (g + 1) es = none)
    (hl : BAt M n off l) (hv : liveN M n = true) (hne : nx ≠ n) (hll : l.length ≤ 140737488355000)
    (hK : ∀ z ty', K (.i .i64 (g + 1)) ((M.set nx (.row [.mp m, .i .i64 (g + 1)] ty)).set m (.obj (.map (es ++ [(g + 1, flS to (.sl M.length 0 l.length (l.length + z.length)), c)]) (c + 1))) ++ [.row (bS (l ++ z)) ty'])) :
    callVC Try.prog 11 [.p nx 0, .i .i64 to, .sl n off l.length cap] M K := by
  have hn1 := kw h1
  have hn2 := kw h2
  have hnm : nx ≠ m := by intro e; subst e; rw [h1] at h2; cases h2
  have hw : IntKind.i64.wrap (g + 1) = g + 1 := w64 (by omega) (by omega)
  refine fn_rule tabOK Try.func11 rfl Try.call11 (by kernel_rfl) (fun hM => ?_)
  (refine top_in ?_; simp -implicitDefEqProofs only [Try.ntmps11, Try.results11, go_sem, -List.reduceReplicate, ↓L_gdZ_tt, ↓L_gdZ_tf, ↓L_gdZ_ft, ↓L_gdZ_ff, ↓T_and, ↓T_imp, ↓T_all, Nat.reduceBEq, Nat.reduceAdd, Nat.reduceSub, Nat.reduceMul, Nat.reduceLT, Nat.reduceLeDiff, Nat.reduceEqDiff, Int.reduceLT, Int.reduceLE, Int.reduceAdd, Int.reduceSub, Int.reduceMul, Int.reduceNeg, Int.reduceToNat, Int.reduceEq, Int.reduceNe, reduceIte, reduceCtorEq, BitVec.reduceOfInt, BitVec.reduceToNat, h1, h2, hw]; try simp only [top_out])
  refine ⟨fun h => absurd h (by omega), fun _ => ?_⟩
  obtain ⟨M2, hM2⟩ : ∃ M2, M.set nx (.row [.mp m, .i .i64 (g + 1)] ty) = M2 := ⟨_, rfl⟩
  have hl2 : M2.length = M.length := by rw [← hM2, List.length_set]
  have hM' : ∀ (n : Nat) (B : Blk), M2[n]? = some B → B.lt M2.length = true := by rw [← hM2]; exact names_set hM (by have := hM nx _ h1; simpa [Blk.lt, ltL, SV.lt] using this)
  have s1 : M2[nx]? = some (.row [.mp m, .i .i64 (g + 1)] ty) := by rw [← hM2]; exact List.getElem?_set_self hn1
  have s2 : M2[m]? = some (.obj (.map es c)) := by rw [← hM2, List.getElem?_set_ne hnm]; exact h2
  have s3 : ∀ o, (M2.set m (.obj o))[nx]? = some (.row [.mp m, .i .i64 (g + 1)] ty) := fun o => by rw [List.getElem?_set_ne (Ne.symm hnm)]; exact s1
  rw [hM2]
  rw [hM2] at hK
  try rw [← hl2] at hK
  rw [← hl2] at hn1 hn2
  rw [← hl2]
  have hb : BAt M2 n off l := by rw [← hM2]; exact hl.set hne
  have hv2 : liveN M2 n = true := by rw [← hM2]; exact live_set hv hne
  refine draw_rule tabOK (by kernel_rfl : _) (.p 0 (.p 1 (.p 2 (.p 3 (.p 4 (.p 5 (.p 6 (.p 7 (.p 8 (.p 9 (.e 10 [1, 2, 3, 5, 6, 7] (.p 11 (.e 12 [] .nil .no)) .no))))))))))) (by kernel_rfl) (by kernel_rfl) ?_
  (refine top_in ?_; simp -implicitDefEqProofs only [go_sem, -List.reduceReplicate, ↓L_gdZ_tt, ↓L_gdZ_tf, ↓L_gdZ_ft, ↓L_gdZ_ff, ↓T_and, ↓T_imp, ↓T_all, Nat.reduceBEq, Nat.reduceAdd, Nat.reduceSub, Nat.reduceMul, Nat.reduceLT, Nat.reduceLeDiff, Nat.reduceEqDiff, Int.reduceLT, Int.reduceLE, Int.reduceAdd, Int.reduceSub, Int.reduceMul, Int.reduceNeg, Int.reduceToNat, Int.reduceEq, Int.reduceNe, reduceIte, reduceCtorEq, BitVec.reduceOfInt, BitVec.reduceToNat, s1, s2]; try simp only [top_out])
  refine clone_ok n off cap _ l _ _ hb hv2 (by omega) rfl (fun z ty' => ?_)
  have s4 : ∀ o L, (M2.set m (.obj o) ++ L)[nx]? = some (.row [.mp m, .i .i64 (g + 1)] ty) := fun o L => by rw [get_lt (by rw [List.length_set]; exact hn1)]; exact s3 o
  (refine top_in ?_; simp -implicitDefEqProofs only [go_sem, -List.reduceReplicate, ↓L_gdZ_tt, ↓L_gdZ_tf, ↓L_gdZ_ft, ↓L_gdZ_ff, ↓T_and, ↓T_imp, ↓T_all, Nat.reduceBEq, Nat.reduceAdd, Nat.reduceSub, Nat.reduceMul, Nat.reduceLT, Nat.reduceLeDiff, Nat.reduceEqDiff, Int.reduceLT, Int.reduceLE, Int.reduceAdd, Int.reduceSub, Int.reduceMul, Int.reduceNeg, Int.reduceToNat, Int.reduceEq, Int.reduceNe, reduceIte, reduceCtorEq, BitVec.reduceOfInt, BitVec.reduceToNat, get_lt hn1, get_lt hn2, s1, s2, hfr, set_lt hn2, s4]; try simp only [top_out])
  exact dropC_all (by simp) (hK z ty')
end Go.Proofs.Ytccnffjjahdneaa.Eng
