/- A pair of nets: begun, looked at. -/
import Derived.Test.YtccnffjjahdneaaO6
namespace Go.Proofs.Ytccnffjjahdneaa.Eng
open Go Go.RowKit
set_option linter.unusedSimpArgs false
set_option linter.unusedVariables false
set_option linter.unusedSimpArgs false
set_option linter.unusedVariables false

abbrev Flt := Int × Int × List (BitVec 8)
theorem vw_len {fs : List Ent} {rs : List Rfl} (h : vwE fs = vwR rs) : fs.length = rs.length := by
  have := congrArg List.length h
  simpa [vwE, vwR] using this
theorem vw_get {fs : List Ent} {rs : List Rfl} (h : vwE fs = vwR rs) {i : Nat} {f : Rfl} (hi : rs[i]? = some f) : ∃ e, fs[i]? = some e ∧ e.1 = f.1 ∧ e.2.1 = f.2.1 ∧ e.2.2.2.1 = f.2.2.2 := by
  have h1 := congrArg (·[i]?) h
  simp only [vwE, vwR, List.getElem?_map, hi, Option.map_some] at h1
  cases he : fs[i]? with
  | none => rw [he] at h1; cases h1
  | some e =>
    rw [he] at h1
    simp only [Option.map_some, Option.some.injEq, Prod.mk.injEq] at h1
    exact ⟨e, rfl, h1.1, h1.2.1, h1.2.2⟩
theorem vw_mem {fs : List Ent} {rs : List Rfl} (h : vwE fs = vwR rs) {e : Ent} (he : e ∈ fs) : ∃ f, f ∈ rs ∧ f.1 = e.1 := by
  have : (e.1, e.2.1, e.2.2.2.1) ∈ vwR rs := by rw [← h]; exact List.mem_map.2 ⟨e, he, rfl⟩
  obtain ⟨f, hf, e1⟩ := List.mem_map.1 this
  simp only [Prod.mk.injEq] at e1
  exact ⟨f, hf, e1.1⟩
theorem vw_erase : ∀ {fs : List Ent} {rs : List Rfl}, vwE fs = vwR rs → (fs.Pairwise fun a b => a.1 < b.1) → ∀ {i : Nat} {f : Rfl}, rs[i]? = some f → vwE (fs.filter fun a => a.1 != f.1) = vwR (rs.eraseIdx i)
  | [], rs, h, _, i, f, hi => by
    cases rs with
    | nil => simp at hi
    | cons r rs => simp [vwE, vwR] at h
  | e :: fs, [], h, _, i, f, hi => by simp at hi
  | e :: fs, r :: rs, h, hs, i, f, hi => by
    rw [List.pairwise_cons] at hs
    simp only [vwE, vwR, List.map_cons, List.cons.injEq, Prod.mk.injEq] at h
    obtain ⟨⟨h1, h2, h3⟩, h4⟩ := h
    have h4' : vwE fs = vwR rs := h4
    cases i with
    | zero =>
      simp only [List.getElem?_cons_zero, Option.some.injEq] at hi
      subst hi
      rw [List.filter_cons_of_neg (by simp [h1]), List.eraseIdx_cons_zero, ← h4', List.filter_eq_self.2]
      intro b hb
      have := hs.1 b hb
      simp; omega
    | succ i =>
      have ih := vw_erase h4' hs.2 (i := i) (by simpa using hi)
      obtain ⟨e', he', e1, _⟩ := vw_get h4' (i := i) (f := f) (by simpa using hi)
      have := hs.1 e' (List.mem_of_getElem? he')
      rw [List.filter_cons_of_pos (by simp; omega), List.eraseIdx_cons_succ]
      simp only [vwE, vwR, List.map_cons, h1, h2, h3] at ih ⊢
      rw [ih]
theorem vw_flip : ∀ {fs : List Ent} {rs : List Rfl}, vwE fs = vwR rs → (fs.Pairwise fun a b => a.1 < b.1) → ∀ {i : Nat} {f : Rfl} {x' : SV} {a x : Int}, rs[i]? = some f → vwE (fs.map (flpE f.1 a x)) = vwR (rs.set i (f.1, f.2.1, x', flp f.2.2.2 a x))
  | [], rs, h, _, i, f, x', a, x, hi => by
    cases rs with
    | nil => simp at hi
    | cons r rs => simp [vwE, vwR] at h
  | e :: fs, [], h, _, i, f, x', a, x, hi => by simp at hi
  | e :: fs, r :: rs, h, hs, i, f, x', a, x, hi => by
    rw [List.pairwise_cons] at hs
    simp only [vwE, vwR, List.map_cons, List.cons.injEq, Prod.mk.injEq] at h
    obtain ⟨⟨h1, h2, h3⟩, h4⟩ := h
    have h4' : vwE fs = vwR rs := h4
    cases i with
    | zero =>
      simp only [List.getElem?_cons_zero, Option.some.injEq] at hi
      subst hi
      have hid : fs.map (flpE r.1 a x) = fs := by
        conv => rhs; rw [← List.map_id fs]
        refine List.map_congr_left (fun b hb => ?_)
        have := hs.1 b hb
        unfold flpE
        rw [if_neg (by omega)]; rfl
      rw [List.map_cons, hid, List.set_cons_zero]
      have he : flpE r.1 a x e = (e.1, e.2.1, e.2.2.1, flp e.2.2.2.1 a x, e.2.2.2.2) := by unfold flpE; rw [if_pos h1]
      simp only [vwE, vwR, List.map_cons, he, h1, h2, h3] at h4' ⊢
      rw [h4']
    | succ i =>
      have ih := vw_flip h4' hs.2 (i := i) (x' := x') (a := a) (x := x) (by simpa using hi)
      obtain ⟨e', he', e1, _⟩ := vw_get h4' (i := i) (f := f) (by simpa using hi)
      have := hs.1 e' (List.mem_of_getElem? he')
      have he : flpE f.1 a x e = e := by unfold flpE; rw [if_neg (by omega)]
      rw [List.map_cons, he, List.set_cons_succ]
      simp only [vwE, vwR, List.map_cons, h1, h2, h3] at ih ⊢
      rw [ih]

/-- where bytes are laid before they are handed in -/
def RoomSt (M : List Blk) (F : Nat → Prop) (p : Nat) (y : SV) (z : List (BitVec 8)) : Prop :=
  (y = .sn ∧ z = []) ∨ ∃ d ty, y = .sl d 0 z.length z.length ∧ M[d]? = some (.row (bS z) ty) ∧ F d ∧ d ≠ p
structure PairS (M : List Blk) (F Fn Fr : Nat → Prop) (p nx m c r : Nat) (g : Int) (fs : List Ent) (rs : List Rfl) (y : SV) (z : List (BitVec 8)) (long : Bool) : Prop where
  row : M[p]? = some (.row [.p nx 0, .p r 0, y, .b long] 49)
  room : RoomSt M F p y z
  net : NetSt M Fn nx m g c fs
  ref : RefSt M Fr r g rs
  same : vwE fs = vwR rs
  len : fs.length ≤ 1024
  fn : ∀ n, Fn n → F n ∧ ¬ Fr n ∧ n ≠ p ∧ dnS y ≠ some n
  fr : ∀ n, Fr n → F n ∧ n ≠ p ∧ dnS y ≠ some n
  fp : F p
  inn : ∀ n, F n → n < M.length
def PairSt (M : List Blk) (F : Nat → Prop) (p : Nat) (g : Int) : Prop :=
  ∃ Fn Fr nx m c r fs rs y z long, PairS M F Fn Fr p nx m c r g fs rs y z long
theorem PairS.ag {S F Fn Fr : Nat → Prop} {M M' : List Blk} {p nx m c r : Nat} {g : Int} {fs : List Ent} {rs : List Rfl} {y : SV} {z : List (BitVec 8)} {long : Bool} (h : PairS M F Fn Fr p nx m c r g fs rs y z long) (hA : Ag S M M') (hd : ∀ n, F n → ¬ S n) :
    PairS M' F Fn Fr p nx m c r g fs rs y z long := by
  refine ⟨hA.get h.row (hd _ h.fp), ?_, h.net.ag hA (fun n hn => hd n (h.fn n hn).1), h.ref.ag hA (fun n hn => hd n (h.fr n hn).1), h.same, h.len, h.fn, h.fr, h.fp, fun n hn => Nat.lt_of_lt_of_le (h.inn n hn) hA.1⟩
  rcases h.room with h1 | ⟨d, ty, h1, h2, h3, h4⟩
  · exact .inl h1
  · exact .inr ⟨d, ty, h1, hA.get h2 (hd _ h3), h3, h4⟩
theorem PairSt.ag {S F : Nat → Prop} {M M' : List Blk} {p : Nat} {g : Int} (h : PairSt M F p g) (hA : Ag S M M') (hd : ∀ n, F n → ¬ S n) : PairSt M' F p g := by
  obtain ⟨Fn, Fr, nx, m, c, r, fs, rs, y, z, long, h⟩ := h
  exact ⟨Fn, Fr, nx, m, c, r, fs, rs, y, z, long, h.ag hA hd⟩

theorem begin_fl (M : List Blk) (K : SV → List Blk → Prop) (hK : ∀ M' F Fn Fr p nx m c r y z long, PairS M' F Fn Fr p nx m c r 0 [] [] y z long → (∀ n, F n → M.length ≤ n) → Ag (fun _ => False) M M' → K (.p p 0) M') :
    callVC Try.prog 18 [] M K := by
  refine fn_rule tabOK Try.func18 rfl Try.call18 (by kernel_rfl) (fun hM => ?_)
  (refine top_in ?_; simp -implicitDefEqProofs only [Try.ntmps18, Try.results18, go_sem, -List.reduceReplicate, ↓L_gdZ_tt, ↓L_gdZ_tf, ↓L_gdZ_ft, ↓L_gdZ_ff, ↓T_and, ↓T_imp, ↓T_all, Nat.reduceBEq, Nat.reduceAdd, Nat.reduceSub, Nat.reduceMul, Nat.reduceLT, Nat.reduceLeDiff, Nat.reduceEqDiff, Int.reduceLT, Int.reduceLE, Int.reduceAdd, Int.reduceSub, Int.reduceMul, Int.reduceNeg, Int.reduceToNat, Int.reduceEq, Int.reduceNe, reduceIte, reduceCtorEq, BitVec.reduceOfInt, BitVec.reduceToNat]; try simp only [top_out])
  refine new_st _ _ (fun M1 nx m h1 hnx hm hA1 => ?_)
  (refine top_in ?_; simp -implicitDefEqProofs only [go_sem, -List.reduceReplicate, ↓L_gdZ_tt, ↓L_gdZ_tf, ↓L_gdZ_ft, ↓L_gdZ_ff, ↓T_and, ↓T_imp, ↓T_all, Nat.reduceBEq, Nat.reduceAdd, Nat.reduceSub, Nat.reduceMul, Nat.reduceLT, Nat.reduceLeDiff, Nat.reduceEqDiff, Int.reduceLT, Int.reduceLE, Int.reduceAdd, Int.reduceSub, Int.reduceMul, Int.reduceNeg, Int.reduceToNat, Int.reduceEq, Int.reduceNe, reduceIte, reduceCtorEq, BitVec.reduceOfInt, BitVec.reduceToNat]; try simp only [top_out])
  refine rnew_ok _ _ ?_
  (refine top_in ?_; simp -implicitDefEqProofs only [go_sem, -List.reduceReplicate, ↓L_gdZ_tt, ↓L_gdZ_tf, ↓L_gdZ_ft, ↓L_gdZ_ff, ↓T_and, ↓T_imp, ↓T_all, Nat.reduceBEq, Nat.reduceAdd, Nat.reduceSub, Nat.reduceMul, Nat.reduceLT, Nat.reduceLeDiff, Nat.reduceEqDiff, Int.reduceLT, Int.reduceLE, Int.reduceAdd, Int.reduceSub, Int.reduceMul, Int.reduceNeg, Int.reduceToNat, Int.reduceEq, Int.reduceNe, reduceIte, reduceCtorEq, BitVec.reduceOfInt, BitVec.reduceToNat]; try simp only [top_out])
  have hnl := h1.inn nx (.inl rfl)
  have hlive : liveN (M1 ++ [Blk.row [SV.sn, SV.i IntKind.i64 0] 76, Blk.row [SV.p nx 0, SV.p M1.length 0, SV.sn, SV.b false] 49]) nx = true := by
    rw [liveN_eq, get_lt hnl, h1.row]; rfl
  (refine top_in ?_; simp -implicitDefEqProofs only [go_sem, -List.reduceReplicate, ↓L_gdZ_tt, ↓L_gdZ_tf, ↓L_gdZ_ft, ↓L_gdZ_ff, ↓T_and, ↓T_imp, ↓T_all, Nat.reduceBEq, Nat.reduceAdd, Nat.reduceSub, Nat.reduceMul, Nat.reduceLT, Nat.reduceLeDiff, Nat.reduceEqDiff, Int.reduceLT, Int.reduceLE, Int.reduceAdd, Int.reduceSub, Int.reduceMul, Int.reduceNeg, Int.reduceToNat, Int.reduceEq, Int.reduceNe, reduceIte, reduceCtorEq, BitVec.reduceOfInt, BitVec.reduceToNat, liveN_eq, get_lt hnl, h1.row]; try simp only [top_out])
  have hml := h1.inn m (.inr rfl)
  have hA : Ag (fun _ => False) M (M1 ++ [Blk.row [SV.sn, SV.i IntKind.i64 0] 76, Blk.row [SV.p nx 0, SV.p M1.length 0, SV.sn, SV.b false] 49]) := Ag.trans hA1 (Ag.app (S := fun _ => False)) (fun _ _ h => h)
  have hm1 := hA1.1
  refine dropC_all hA.1 (hK _ (fun n => n = nx ∨ n = m ∨ n = M1.length ∨ n = M1.length + 1) (fun n => n = nx ∨ n = m) (fun n => n = M1.length) (M1.length + 1) nx m 0 M1.length .sn [] false ⟨by simp [go_sem], .inl ⟨rfl, rfl⟩, h1.ag (S := fun _ => False) Ag.app (fun _ _ h => h), ⟨⟨.sn, by simp [go_sem], .inl ⟨rfl, rfl⟩⟩, rfl, ?_, by simp⟩, rfl, by simp, ?_, ?_, by simp, ?_⟩ ?_ hA)
  · intro n hn
    simp; omega
  · rintro n hn
    refine ⟨by omega, by omega, by omega, by simp [dnS]⟩
  · rintro n hn
    refine ⟨by omega, by omega, by simp [dnS]⟩
  · rintro n hn
    simp only [List.length_append, List.length_cons, List.length_nil]
    omega
  · intro n hn; omega
theorem begin_ok (M : List Blk) (K : SV → List Blk → Prop) (hK : ∀ M' F p, PairSt M' F p 0 → (∀ n, F n → M.length ≤ n) → Ag (fun _ => False) M M' → K (.p p 0) M') :
    callVC Try.prog 18 [] M K :=
  begin_fl M K (fun M' F Fn Fr p nx m c r y z long h hF hA => hK M' F p ⟨Fn, Fr, nx, m, c, r, [], [], y, z, long, h⟩ hF hA)
/-- a list that is held against one -/
theorem sameFlights_out (n c : Nat) (gs : List Flt) (x : SV) (vs : List Rfl) (xs : List (Int × Int × SV)) (zz : List SV) (ty : TypeId) (M0 M : List Blk) (K : SV → List Blk → Prop)
    (h1 : M[n]? = some (.row (flC xs ++ zz) ty)) (hx : HoldsB M gs xs) (ho : OutL M0 M x vs) (hl : gs.length ≤ 1048576) (hvs : vwR vs = gs) (hK : K (.b true) M) :
    callVC Try.prog 27 [.sl n 0 gs.length c, x] M K := by
  have hvl : vs.length = gs.length := by rw [← hvs]; simp [vwR]
  have hh : HoldsB M gs (vs.map r3) := by
    refine ⟨by rw [← hvs]; simp [vwR, r3, List.map_map, Function.comp_def], fun i f z hf hz => ?_⟩
    rw [← hvs] at hf
    simp only [vwR, List.getElem?_map] at hf hz
    cases hi : vs[i]? with
    | none => rw [hi] at hf; cases hf
    | some v =>
      rw [hi] at hf hz
      simp only [Option.map_some, Option.some.injEq] at hf hz
      subst hf hz
      exact (ho.2.2 v (List.mem_of_getElem? hi)).bytes
  obtain ⟨_, ⟨rfl, rfl⟩ | ⟨q, cap, zz2, ty2, rfl, g2, g3, g4, g5, g6⟩, _⟩ := ho
  · obtain rfl : gs = [] := by rw [← hvs]; rfl
    refine callVC_drop (callVC_names (fun hM => ?_) Try.call27)
    refine call_nil (a := [.sl n 0 0 c]) (b := []) 0 ?_
    have := sameFlights_ok n c M.length 0 [] [] xs [] zz [] ty 0 (M ++ [Blk.row [] 0]) (fun v M' => dropC M.length v M' K) (by rw [get_lt (kw h1)]; exact h1) (by simp [go_sem, flC]) (hx.ag (S := fun _ => False) Ag.app (fun _ h => h)) ⟨rfl, by simp⟩ (by simp) (by simp) ?_
    · exact this
    · exact dropC_append hM rfl (by simpa using hK)
  · have := sameFlights_ok n c q cap gs gs xs (vs.map r3) zz zz2 ty ty2 M K h1 g2 hx hh hl hl (by simpa using hK)
    rw [hvl]
    exact this
theorem punder_ok (p : Nat) (g : Int) (M : List Blk) (F : Nat → Prop) (K : SV → List Blk → Prop) (h : PairSt M F p g) (hg1 : g < 4611686018427387900) (hK : K (.b true) M) :
    callVC Try.prog 20 [.p p 0] M K := by
  obtain ⟨Fn, Fr, nx, m, c, r, fs, rs, y, z, long, h⟩ := h
  have hrow := h.row
  refine fn_rule tabOK Try.func20 rfl Try.call20 (by kernel_rfl) (fun hM => ?_)
  (refine top_in ?_; simp -implicitDefEqProofs only [Try.ntmps20, Try.results20, go_sem, -List.reduceReplicate, ↓L_gdZ_tt, ↓L_gdZ_tf, ↓L_gdZ_ft, ↓L_gdZ_ff, ↓T_and, ↓T_imp, ↓T_all, Nat.reduceBEq, Nat.reduceAdd, Nat.reduceSub, Nat.reduceMul, Nat.reduceLT, Nat.reduceLeDiff, Nat.reduceEqDiff, Int.reduceLT, Int.reduceLE, Int.reduceAdd, Int.reduceSub, Int.reduceMul, Int.reduceNeg, Int.reduceToNat, Int.reduceEq, Int.reduceNe, reduceIte, reduceCtorEq, BitVec.reduceOfInt, BitVec.reduceToNat, hrow]; try simp only [top_out])
  have hlen := h.len
  refine under_sa nx m c g fs M Fn _ h.net (by omega) hg1 (fun M1 q xs zz cap ty hA1 hq hL hH => ?_)
  have hrow1 := hA1.get hrow (fun h => h)
  (refine top_in ?_; simp -implicitDefEqProofs only [go_sem, -List.reduceReplicate, ↓L_gdZ_tt, ↓L_gdZ_tf, ↓L_gdZ_ft, ↓L_gdZ_ff, ↓T_and, ↓T_imp, ↓T_all, Nat.reduceBEq, Nat.reduceAdd, Nat.reduceSub, Nat.reduceMul, Nat.reduceLT, Nat.reduceLeDiff, Nat.reduceEqDiff, Int.reduceLT, Int.reduceLE, Int.reduceAdd, Int.reduceSub, Int.reduceMul, Int.reduceNeg, Int.reduceToNat, Int.reduceEq, Int.reduceNe, reduceIte, reduceCtorEq, BitVec.reduceOfInt, BitVec.reduceToNat, hrow1]; try simp only [top_out])
  have href := h.ref.ag hA1 (fun _ _ h => h)
  refine runder_ok r g rs M1 Fr _ href (by have := vw_len h.same; omega) (fun M2 x vs ho hvs => ?_)
  have hrow2 := ho.1.get hrow1 (fun h => h)
  (refine top_in ?_; simp -implicitDefEqProofs only [go_sem, -List.reduceReplicate, ↓L_gdZ_tt, ↓L_gdZ_tf, ↓L_gdZ_ft, ↓L_gdZ_ff, ↓T_and, ↓T_imp, ↓T_all, Nat.reduceBEq, Nat.reduceAdd, Nat.reduceSub, Nat.reduceMul, Nat.reduceLT, Nat.reduceLeDiff, Nat.reduceEqDiff, Int.reduceLT, Int.reduceLE, Int.reduceAdd, Int.reduceSub, Int.reduceMul, Int.reduceNeg, Int.reduceToNat, Int.reduceEq, Int.reduceNe, reduceIte, reduceCtorEq, BitVec.reduceOfInt, BitVec.reduceToNat, hrow2]; try simp only [top_out])
  have hfl : fs.length = (vwE fs).length := by simp [vwE]
  rw [hfl]
  refine sameFlights_out q cap (vwE fs) x vs xs zz ty M1 M2 _ (ho.1.get hL (fun h => h)) (hH.ag ho.1 (fun _ h => h)) ho (by rw [← hfl]; omega) (by rw [hvs, h.same]) ?_
  (refine top_in ?_; simp -implicitDefEqProofs only [go_sem, -List.reduceReplicate, ↓L_gdZ_tt, ↓L_gdZ_tf, ↓L_gdZ_ft, ↓L_gdZ_ff, ↓T_and, ↓T_imp, ↓T_all, Nat.reduceBEq, Nat.reduceAdd, Nat.reduceSub, Nat.reduceMul, Nat.reduceLT, Nat.reduceLeDiff, Nat.reduceEqDiff, Int.reduceLT, Int.reduceLE, Int.reduceAdd, Int.reduceSub, Int.reduceMul, Int.reduceNeg, Int.reduceToNat, Int.reduceEq, Int.reduceNe, reduceIte, reduceCtorEq, BitVec.reduceOfInt, BitVec.reduceToNat]; try simp only [top_out])
  exact dropC_ag hM (Ag.trans hA1 ho.1 (fun _ _ h => h)) (fun _ _ h => h) rfl hK
end Go.Proofs.Ytccnffjjahdneaa.Eng
