/- What changes and what does not; the net as a predicate. -/
import Derived.Test.YtccnffjjahdneaaN8
namespace Go.Proofs.Ytccnffjjahdneaa.Eng
open Go Go.RowKit
set_option linter.unusedSimpArgs false
set_option linter.unusedVariables false
set_option linter.unusedSimpArgs false
set_option linter.unusedVariables false

/-- only blocks of S have changed -/
def Ag (S : Nat → Prop) (M M' : List Blk) : Prop := M.length ≤ M'.length ∧ ∀ n, n < M.length → ¬ S n → M'[n]? = M[n]?
theorem Ag.refl {S : Nat → Prop} {M : List Blk} : Ag S M M := ⟨Nat.le_refl _, fun _ _ _ => rfl⟩
theorem Ag.trans {S S' : Nat → Prop} {M M' M'' : List Blk} (h : Ag S M M') (h' : Ag S' M' M'') (hs : ∀ n, n < M.length → S' n → S n) : Ag S M M'' :=
  ⟨Nat.le_trans h.1 h'.1, fun n hn hS => (h'.2 n (Nat.lt_of_lt_of_le hn h.1) (fun h2 => hS (hs n hn h2))).trans (h.2 n hn hS)⟩
theorem Ag.mono {S S' : Nat → Prop} {M M' : List Blk} (h : Ag S M M') (hs : ∀ n, S n → S' n) : Ag S' M M' := ⟨h.1, fun n hn hS => h.2 n hn (fun h2 => hS (hs n h2))⟩
theorem Ag.app {S : Nat → Prop} {M L : List Blk} : Ag S M (M ++ L) := ⟨by simp, fun n hn _ => get_lt hn⟩
theorem Ag.set {S : Nat → Prop} {M : List Blk} {a : Nat} {B : Blk} (ha : S a) : Ag S M (M.set a B) :=
  ⟨by simp, fun n hn hS => List.getElem?_set_ne (fun e => hS (by rw [← e]; exact ha))⟩
theorem Ag.get {S : Nat → Prop} {M M' : List Blk} {n : Nat} {B : Blk} (h : Ag S M M') (hB : M[n]? = some B) (hn : ¬ S n) : M'[n]? = some B := by
  rw [h.2 n (kw hB) hn]; exact hB
theorem BAt.ag {S : Nat → Prop} {M M' : List Blk} {n off : Nat} {l : List (BitVec 8)} (h : BAt M n off l) (hA : Ag S M M') (hn : ¬ S n) : BAt M' n off l := by
  have e : cellsAt M' n = cellsAt M n := by unfold cellsAt; rw [hA.2 n h.lt hn]
  exact ⟨Nat.lt_of_lt_of_le h.lt hA.1, by rw [e]; exact h.len, by rw [e]; exact h.cells⟩
theorem There.ag {S : Nat → Prop} {M M' : List Blk} {d dc : Nat} {l : List (BitVec 8)} (h : There M d dc l) (hA : Ag S M M') (hd : d < M.length) (hn : ¬ S d) : There M' d dc l := by
  have e := hA.2 d hd hn
  rcases h with h | ⟨h1, h2, ty, h3⟩
  · exact .inl (by unfold liveN at *; rw [e]; exact h)
  · exact .inr ⟨h1, h2, ty, by rw [e]; exact h3⟩

set_option maxHeartbeats 1000000 in
theorem send_any (nx m : Nat) (g to : Int) (n cap : Nat) (l : List (BitVec 8)) (es : List (Int × SV × Nat)) (c : Nat) (ty : TypeId) (M : List Blk) (K : SV → List Blk → Prop)
    (h1 : M[nx]? = some (.row [.mp m, .i .i64 g] ty)) (h2 : M[m]? = some (.obj (.map es c))) (hf : es.length < 1024) (hg0 : 0 ≤ g) (hg1 : g < 4611686018427387904) (hfr : findE (g + 1) es = none)
    (hl : BAt M n 0 l) (hv : There M n cap l) (hne : nx ≠ n) (hll : l.length ≤ 140737488355000)
    (hK : ∀ z ty', K (.i .i64 (g + 1)) ((M.set nx (.row [.mp m, .i .i64 (g + 1)] ty)).set m (.obj (.map (es ++ [(g + 1, flS to (.sl M.length 0 l.length (l.length + z.length)), c)]) (c + 1))) ++ [.row (bS (l ++ z)) ty'])) :
    callVC Try.prog 11 [.p nx 0, .i .i64 to, .sl n 0 l.length cap] M K := by
  have hn1 := kw h1
  have hn2 := kw h2
  have hnm : nx ≠ m := by intro e; subst e; rw [h1] at h2; cases h2
  have hw : IntKind.i64.wrap (g + 1) = g + 1 := w64 (by omega) (by omega)
  refine fn_rule tabOK Try.func11 rfl Try.call11 (by kernel_rfl) (fun hM => ?_)
  (refine top_in ?_; simp -implicitDefEqProofs only [Try.ntmps11, Try.results11, go_sem, -List.reduceReplicate, ↓L_gdZ_tt, ↓L_gdZ_tf, ↓L_gdZ_ft, ↓L_gdZ_ff, ↓T_and, ↓T_imp, ↓T_all, Nat.reduceBEq, Nat.reduceAdd, Nat.reduceSub, Nat.reduceMul, Nat.reduceLT, Nat.reduceLeDiff, Nat.reduceEqDiff, Int.reduceLT, Int.reduceLE, Int.reduceAdd, Int.reduceSub, Int.reduceMul, Int.reduceNeg, Int.reduceToNat, Int.reduceEq, Int.reduceNe, reduceIte, reduceCtorEq, BitVec.reduceOfInt, BitVec.reduceToNat, h1, h2, hw]; try simp only [top_out])
  refine ⟨fun h => absurd h (by omega), fun _ => ?_⟩
  obtain ⟨M2, hM2⟩ : ∃ M2, M.set nx (.row [.mp m, .i .i64 (g + 1)] ty) = M2 := ⟨_, rfl⟩
  have hl2 : M2.length = M.length := by rw [← hM2, List.length_set]
  have s1 : M2[nx]? = some (.row [.mp m, .i .i64 (g + 1)] ty) := by rw [← hM2]; exact List.getElem?_set_self hn1
  have s2 : M2[m]? = some (.obj (.map es c)) := by rw [← hM2, List.getElem?_set_ne hnm]; exact h2
  have s3 : ∀ o, (M2.set m (.obj o))[nx]? = some (.row [.mp m, .i .i64 (g + 1)] ty) := fun o => by rw [List.getElem?_set_ne (Ne.symm hnm)]; exact s1
  have hA : Ag (· = nx) M M2 := by rw [← hM2]; exact Ag.set rfl
  rw [hM2]
  rw [hM2] at hK
  try rw [← hl2] at hK
  rw [← hl2] at hn1 hn2
  rw [← hl2]
  have hb : BAt M2 n 0 l := hl.ag hA (Ne.symm hne)
  have hv2 : There M2 n cap l := hv.ag hA hl.lt (Ne.symm hne)
  refine draw_rule tabOK (by kernel_rfl : _) (.p 0 (.p 1 (.p 2 (.p 3 (.p 4 (.p 5 (.p 6 (.p 7 (.p 8 (.p 9 (.e 10 [1, 2, 3, 5, 6, 7] (.p 11 (.e 12 [] .nil .no)) .no))))))))))) (by kernel_rfl) (by kernel_rfl) ?_
  (refine top_in ?_; simp -implicitDefEqProofs only [go_sem, -List.reduceReplicate, ↓L_gdZ_tt, ↓L_gdZ_tf, ↓L_gdZ_ft, ↓L_gdZ_ff, ↓T_and, ↓T_imp, ↓T_all, Nat.reduceBEq, Nat.reduceAdd, Nat.reduceSub, Nat.reduceMul, Nat.reduceLT, Nat.reduceLeDiff, Nat.reduceEqDiff, Int.reduceLT, Int.reduceLE, Int.reduceAdd, Int.reduceSub, Int.reduceMul, Int.reduceNeg, Int.reduceToNat, Int.reduceEq, Int.reduceNe, reduceIte, reduceCtorEq, BitVec.reduceOfInt, BitVec.reduceToNat, s1, s2]; try simp only [top_out])
  refine clone_any n cap _ l _ _ hb hv2 (by omega) rfl (fun z ty' => ?_)
  have s4 : ∀ o L, (M2.set m (.obj o) ++ L)[nx]? = some (.row [.mp m, .i .i64 (g + 1)] ty) := fun o L => by rw [get_lt (by rw [List.length_set]; exact hn1)]; exact s3 o
  (refine top_in ?_; simp -implicitDefEqProofs only [go_sem, -List.reduceReplicate, ↓L_gdZ_tt, ↓L_gdZ_tf, ↓L_gdZ_ft, ↓L_gdZ_ff, ↓T_and, ↓T_imp, ↓T_all, Nat.reduceBEq, Nat.reduceAdd, Nat.reduceSub, Nat.reduceMul, Nat.reduceLT, Nat.reduceLeDiff, Nat.reduceEqDiff, Int.reduceLT, Int.reduceLE, Int.reduceAdd, Int.reduceSub, Int.reduceMul, Int.reduceNeg, Int.reduceToNat, Int.reduceEq, Int.reduceNe, reduceIte, reduceCtorEq, BitVec.reduceOfInt, BitVec.reduceToNat, get_lt hn1, get_lt hn2, s1, s2, hfr, set_lt hn2, s4]; try simp only [top_out])
  exact dropC_all (by simp) (hK z ty')
set_option maxHeartbeats 1000000 in
theorem copy_any (nx m n cap : Nat) (g no to : Int) (l : List (BitVec 8)) (es : List (Int × SV × Nat)) (c : Nat) (ty : TypeId) (M : List Blk) (K : SV → List Blk → Prop)
    (h1 : M[nx]? = some (.row [.mp m, .i .i64 g] ty)) (h2 : M[m]? = some (.obj (.map es c))) (hfu : es.length < 1024) (hg0 : 0 ≤ g) (hg1 : g < 4611686018427387904) (hfr : findE (g + 1) es = none)
    (hf : findE no es = some (flS to (.sl n 0 l.length cap))) (hl : BAt M n 0 l) (hv : There M n cap l) (hne : nx ≠ n) (hll : l.length ≤ 140737488355000)
    (hK : ∀ z ty', K (.tup [.i .i64 (g + 1), .i .i64 0]) ((M.set nx (.row [.mp m, .i .i64 (g + 1)] ty)).set m (.obj (.map (es ++ [(g + 1, flS to (.sl (M.length + 1) 0 l.length (l.length + z.length)), c)]) (c + 1))) ++ [.row [.i .i64 to, .sl n 0 l.length cap] 65, .row (bS (l ++ z)) ty'])) :
    callVC Try.prog 13 [.p nx 0, .i .i64 no] M K := by
  have hn1 := kw h1
  have hn2 := kw h2
  refine fn_rule tabOK Try.func13 rfl Try.call13 (by kernel_rfl) (fun hM => ?_)
  (refine top_in ?_; simp -implicitDefEqProofs only [Try.ntmps13, Try.results13, go_sem, -List.reduceReplicate, ↓L_gdZ_tt, ↓L_gdZ_tf, ↓L_gdZ_ft, ↓L_gdZ_ff, ↓T_and, ↓T_imp, ↓T_all, Nat.reduceBEq, Nat.reduceAdd, Nat.reduceSub, Nat.reduceMul, Nat.reduceLT, Nat.reduceLeDiff, Nat.reduceEqDiff, Int.reduceLT, Int.reduceLE, Int.reduceAdd, Int.reduceSub, Int.reduceMul, Int.reduceNeg, Int.reduceToNat, Int.reduceEq, Int.reduceNe, reduceIte, reduceCtorEq, BitVec.reduceOfInt, BitVec.reduceToNat, h1, h2, get_lt hn1, get_lt hn2, hf, flS]; try simp only [top_out])
  refine send_any nx m g to n cap l es c ty _ _ (by rw [get_lt hn1]; exact h1) (by rw [get_lt hn2]; exact h2) hfu hg0 hg1 hfr hl.app (hv.app hl.lt) hne hll (fun z ty' => ?_)
  (refine top_in ?_; simp -implicitDefEqProofs only [go_sem, -List.reduceReplicate, ↓L_gdZ_tt, ↓L_gdZ_tf, ↓L_gdZ_ft, ↓L_gdZ_ff, ↓T_and, ↓T_imp, ↓T_all, Nat.reduceBEq, Nat.reduceAdd, Nat.reduceSub, Nat.reduceMul, Nat.reduceLT, Nat.reduceLeDiff, Nat.reduceEqDiff, Int.reduceLT, Int.reduceLE, Int.reduceAdd, Int.reduceSub, Int.reduceMul, Int.reduceNeg, Int.reduceToNat, Int.reduceEq, Int.reduceNe, reduceIte, reduceCtorEq, BitVec.reduceOfInt, BitVec.reduceToNat, set_lt hn1, set_slt hn2]; try simp only [top_out])
  exact dropC_all (by simp) (hK z ty')
theorem copy_nil (nx m : Nat) (g no to : Int) (es : List (Int × SV × Nat)) (c : Nat) (ty : TypeId) (M : List Blk) (K : SV → List Blk → Prop)
    (h1 : M[nx]? = some (.row [.mp m, .i .i64 g] ty)) (h2 : M[m]? = some (.obj (.map es c))) (hfu : es.length < 1024) (hg0 : 0 ≤ g) (hg1 : g < 4611686018427387904) (hfr : findE (g + 1) es = none)
    (hf : findE no es = some (flS to .sn))
    (hK : K (.tup [.i .i64 (g + 1), .i .i64 0]) ((M.set nx (.row [.mp m, .i .i64 (g + 1)] ty)).set m (.obj (.map (es ++ [(g + 1, flS to .sn, c)]) (c + 1))) ++ [.row [.i .i64 to, .sn] 65])) :
    callVC Try.prog 13 [.p nx 0, .i .i64 no] M K := by
  have hn1 := kw h1
  have hn2 := kw h2
  refine fn_rule tabOK Try.func13 rfl Try.call13 (by kernel_rfl) (fun hM => ?_)
  (refine top_in ?_; simp -implicitDefEqProofs only [Try.ntmps13, Try.results13, go_sem, -List.reduceReplicate, ↓L_gdZ_tt, ↓L_gdZ_tf, ↓L_gdZ_ft, ↓L_gdZ_ff, ↓T_and, ↓T_imp, ↓T_all, Nat.reduceBEq, Nat.reduceAdd, Nat.reduceSub, Nat.reduceMul, Nat.reduceLT, Nat.reduceLeDiff, Nat.reduceEqDiff, Int.reduceLT, Int.reduceLE, Int.reduceAdd, Int.reduceSub, Int.reduceMul, Int.reduceNeg, Int.reduceToNat, Int.reduceEq, Int.reduceNe, reduceIte, reduceCtorEq, BitVec.reduceOfInt, BitVec.reduceToNat, h1, h2, get_lt hn1, get_lt hn2, hf, flS]; try simp only [top_out])
  refine send_nil nx m g to es c ty _ _ (by rw [get_lt hn1]; exact h1) (by rw [get_lt hn2]; exact h2) hfu hg0 hg1 hfr ?_
  (refine top_in ?_; simp -implicitDefEqProofs only [go_sem, -List.reduceReplicate, ↓L_gdZ_tt, ↓L_gdZ_tf, ↓L_gdZ_ft, ↓L_gdZ_ff, ↓T_and, ↓T_imp, ↓T_all, Nat.reduceBEq, Nat.reduceAdd, Nat.reduceSub, Nat.reduceMul, Nat.reduceLT, Nat.reduceLeDiff, Nat.reduceEqDiff, Int.reduceLT, Int.reduceLE, Int.reduceAdd, Int.reduceSub, Int.reduceMul, Int.reduceNeg, Int.reduceToNat, Int.reduceEq, Int.reduceNe, reduceIte, reduceCtorEq, BitVec.reduceOfInt, BitVec.reduceToNat, set_lt hn1, set_slt hn2]; try simp only [top_out])
  exact dropC_all (by simp) hK

theorem flip_nil (nx m : Nat) (g no a x to : Int) (es : List (Int × SV × Nat)) (c : Nat) (ty : TypeId) (M : List Blk) (K : SV → List Blk → Prop)
    (h1 : M[nx]? = some (.row [.mp m, .i .i64 g] ty)) (h2 : M[m]? = some (.obj (.map es c))) (hf : findE no es = some (flS to .sn)) (hK : K (.i .i64 2) M) :
    callVC Try.prog 12 [.p nx 0, .i .i64 no, .i .i64 a, .i .i64 x] M K := by
  have hn1 := kw h1
  have hn2 := kw h2
  refine fn_rule tabOK Try.func12 rfl Try.call12 (by kernel_rfl) (fun hM => ?_)
  (refine top_in ?_; simp -implicitDefEqProofs only [Try.ntmps12, Try.results12, go_sem, -List.reduceReplicate, ↓L_gdZ_tt, ↓L_gdZ_tf, ↓L_gdZ_ft, ↓L_gdZ_ff, ↓T_and, ↓T_imp, ↓T_all, Nat.reduceBEq, Nat.reduceAdd, Nat.reduceSub, Nat.reduceMul, Nat.reduceLT, Nat.reduceLeDiff, Nat.reduceEqDiff, Int.reduceLT, Int.reduceLE, Int.reduceAdd, Int.reduceSub, Int.reduceMul, Int.reduceNeg, Int.reduceToNat, Int.reduceEq, Int.reduceNe, reduceIte, reduceCtorEq, BitVec.reduceOfInt, BitVec.reduceToNat, h1, h2, get_lt hn1, get_lt hn2, hf, flS]; try simp only [top_out])
  have hd : dropC M.length (.i .i64 2) (M ++ [.row [.i .i64 to, .sn] 65]) K := dropC_append hM rfl hK
  refine ⟨fun h0 => ⟨fun h3 => absurd h3 (by omega), fun _ => hd⟩, fun _ => hd⟩
/-- a flight's data spoilt at a place that may not be -/
theorem flip_bad (nx m d len cap : Nat) (g no a x to : Int) (es : List (Int × SV × Nat)) (c : Nat) (ty : TypeId) (M : List Blk) (K : SV → List Blk → Prop)
    (h1 : M[nx]? = some (.row [.mp m, .i .i64 g] ty)) (h2 : M[m]? = some (.obj (.map es c))) (hf : findE no es = some (flS to (.sl d 0 len cap))) (hb : a < 0 ∨ (len : Int) ≤ a ∨ x < 1 ∨ 255 < x) (hK : K (.i .i64 2) M) :
    callVC Try.prog 12 [.p nx 0, .i .i64 no, .i .i64 a, .i .i64 x] M K := by
  have hn1 := kw h1
  have hn2 := kw h2
  refine fn_rule tabOK Try.func12 rfl Try.call12 (by kernel_rfl) (fun hM => ?_)
  (refine top_in ?_; simp -implicitDefEqProofs only [Try.ntmps12, Try.results12, go_sem, -List.reduceReplicate, ↓L_gdZ_tt, ↓L_gdZ_tf, ↓L_gdZ_ft, ↓L_gdZ_ff, ↓T_and, ↓T_imp, ↓T_all, Nat.reduceBEq, Nat.reduceAdd, Nat.reduceSub, Nat.reduceMul, Nat.reduceLT, Nat.reduceLeDiff, Nat.reduceEqDiff, Int.reduceLT, Int.reduceLE, Int.reduceAdd, Int.reduceSub, Int.reduceMul, Int.reduceNeg, Int.reduceToNat, Int.reduceEq, Int.reduceNe, reduceIte, reduceCtorEq, BitVec.reduceOfInt, BitVec.reduceToNat, h1, h2, get_lt hn1, get_lt hn2, hf, flS]; try simp only [top_out])
  have hd : dropC M.length (.i .i64 2) (M ++ [.row [.i .i64 to, .sl d 0 len cap] 65]) K := dropC_append hM rfl hK
  exact ⟨fun h0 => ⟨fun h3 => ⟨fun h4 => ⟨fun _ => hd, fun h5 => absurd hb (by omega)⟩, fun _ => hd⟩, fun _ => hd⟩, fun _ => hd⟩
/-! the net -/
def dnS : SV → Option Nat
  | .sl d _ _ _ => some d
  | _ => none
/-- an entry's bytes: nil, or a row of its own -/
def DatR (M : List Blk) (F : Nat → Prop) (x : SV) (l : List (BitVec 8)) : Prop :=
  l.length ≤ 140737488355000 ∧ ((x = .sn ∧ l = []) ∨ ∃ d z ty, x = .sl d 0 l.length (l.length + z.length) ∧ M[d]? = some (.row (bS (l ++ z)) ty) ∧ F d)
structure NetSt (M : List Blk) (F : Nat → Prop) (nx m : Nat) (g : Int) (c : Nat) (fs : List Ent) : Prop where
  row : M[nx]? = some (.row [.mp m, .i .i64 g] 63)
  map : M[m]? = some (.obj (.map (fs.map entE) c))
  fx : F nx
  fm : F m
  inn : ∀ n, F n → n < M.length
  g0 : 0 ≤ g
  stamp : ∀ f, f ∈ fs → f.2.2.2.2 < c
  nodup : (fs.map (·.2.2.2.2)).Nodup
  key : ∀ f, f ∈ fs → 1 ≤ f.1 ∧ f.1 ≤ g
  sorted : fs.Pairwise fun a b => a.1 < b.1
  data : ∀ f, f ∈ fs → DatR M F f.2.2.1 f.2.2.2.1
  apart : (fs.filterMap fun f => dnS f.2.2.1).Nodup

/-- what the net holds: number, where to, bytes -/
def vwE (fs : List Ent) : List (Int × Int × List (BitVec 8)) := fs.map fun f => (f.1, f.2.1, f.2.2.2.1)

theorem DatR.ag {S F F' : Nat → Prop} {M M' : List Blk} {x : SV} {l : List (BitVec 8)} (h : DatR M F x l) (hA : Ag S M M') (hd : ∀ d, F d → dnS x = some d → ¬ S d ∧ F' d) : DatR M' F' x l := by
  obtain ⟨h0, h | ⟨d, z, ty, h1, h2, h3⟩⟩ := h
  · exact ⟨h0, .inl h⟩
  · have := hd d h3 (by rw [h1]; rfl)
    exact ⟨h0, .inr ⟨d, z, ty, h1, hA.get h2 this.1, this.2⟩⟩
theorem NetSt.ag {S F : Nat → Prop} {M M' : List Blk} {nx m c : Nat} {g : Int} {fs : List Ent} (h : NetSt M F nx m g c fs) (hA : Ag S M M') (hd : ∀ n, F n → ¬ S n) : NetSt M' F nx m g c fs :=
  ⟨hA.get h.row (hd _ h.fx), hA.get h.map (hd _ h.fm), h.fx, h.fm, fun n hn => Nat.lt_of_lt_of_le (h.inn n hn) hA.1, h.g0, h.stamp, h.nodup, h.key, h.sorted, fun f hf => (h.data f hf).ag hA (fun d h1 _ => ⟨hd d h1, h1⟩), h.apart⟩
theorem find_no {fs : List Ent} {no : Int} (h : ∀ f, f ∈ fs → f.1 ≠ no) : findE no (fs.map entE) = none := by
  induction fs with
  | nil => rfl
  | cons f fs ih =>
    simp only [List.map_cons, findE, entE]
    rw [if_neg (fun e => h f (by simp) e.symm)]
    exact ih (fun g hg => h g (by simp [hg]))
theorem find_yes {fs : List Ent} (hs : fs.Pairwise fun a b => a.1 < b.1) {f : Ent} (hf : f ∈ fs) : findE f.1 (fs.map entE) = some (flS f.2.1 f.2.2.1) := by
  induction fs with
  | nil => cases hf
  | cons a fs ih =>
    rw [List.pairwise_cons] at hs
    simp only [List.map_cons, findE, entE]
    rcases List.mem_cons.1 hf with rfl | hf'
    · rw [if_pos rfl]
    · have := hs.1 f hf'
      rw [if_neg (by omega)]
      exact ih hs.2 hf'
theorem del_is {fs : List Ent} {no : Int} (hs : fs.Pairwise fun a b => a.1 < b.1) : delE no (fs.map entE) = (fs.filter fun f => f.1 != no).map entE := by
  induction fs with
  | nil => rfl
  | cons a fs ih =>
    rw [List.pairwise_cons] at hs
    simp only [List.map_cons, delE, entE]
    by_cases e : no = a.1
    · rw [if_pos e, List.filter_cons_of_neg (by simp [e]), List.filter_eq_self.2]
      intro b hb
      have := hs.1 b hb
      simp; omega
    · rw [if_neg e, List.filter_cons_of_pos (by simp; exact fun h => e h.symm), List.map_cons, ih hs.2]
      rfl
end Go.Proofs.Ytccnffjjahdneaa.Eng
