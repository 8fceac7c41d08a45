/- A book of flights: what is under way of it; leaves, counted. -/
import Derived.Test.YtccnffjjahdneaaOn
namespace Go.Proofs.Ytccnffjjahdneaa.Eng
open Go Go.RowKit
set_option linter.unusedSimpArgs false
set_option linter.unusedVariables false
set_option linter.unusedSimpArgs false
set_option linter.unusedVariables false

def vw1 (f : Rfl) : Flt := (f.1, f.2.1, f.2.2.2)
/-- the flights of the book that are here -/
def sel : List Rfl → List Bool → List Flt
  | f :: bk, b :: hs => if b then vw1 f :: sel bk hs else sel bk hs
  | _, _ => []
theorem sel_snoc : ∀ {bk : List Rfl} {hs : List Bool} {f : Rfl}, bk.length = hs.length → sel (bk ++ [f]) (hs ++ [true]) = sel bk hs ++ [vw1 f]
  | [], [], f, _ => rfl
  | [], _ :: _, _, h => by simp at h
  | _ :: _, [], _, h => by simp at h
  | g :: bk, b :: hs, f, h => by
    have ih := sel_snoc (bk := bk) (hs := hs) (f := f) (by simpa using h)
    simp only [List.cons_append, sel, ih]
    cases b <;> simp
theorem sel_mem : ∀ {bk : List Rfl} {hs : List Bool} {e : Flt}, e ∈ sel bk hs → ∃ (i : Nat) (f : Rfl), bk[i]? = some f ∧ hs[i]? = some true ∧ e = vw1 f
  | [], _, e, h => by simp [sel] at h
  | _ :: _, [], e, h => by simp [sel] at h
  | g :: bk, b :: hs, e, h => by
    cases b with
    | false =>
      obtain ⟨i, f, h1, h2, h3⟩ := sel_mem (bk := bk) (hs := hs) (by simpa [sel] using h)
      exact ⟨i + 1, f, by simpa using h1, by simpa using h2, h3⟩
    | true =>
      simp only [sel, if_true, List.mem_cons] at h
      rcases h with rfl | h
      · exact ⟨0, g, rfl, rfl, rfl⟩
      · obtain ⟨i, f, h1, h2, h3⟩ := sel_mem h
        exact ⟨i + 1, f, by simpa using h1, by simpa using h2, h3⟩
theorem sel_at : ∀ {bk : List Rfl} {hs : List Bool} {i : Nat} {f : Rfl}, bk[i]? = some f → hs[i]? = some true → vw1 f ∈ sel bk hs
  | [], _, i, f, h, _ => by simp at h
  | _ :: _, [], i, f, _, h => by simp at h
  | g :: bk, b :: hs, 0, f, h, h' => by
    simp only [List.getElem?_cons_zero, Option.some.injEq] at h h'
    subst h h'
    simp [sel]
  | g :: bk, b :: hs, i + 1, f, h, h' => by
    have ih := sel_at (bk := bk) (hs := hs) (i := i) (f := f) (by simpa using h) (by simpa using h')
    cases b <;> simp [sel, ih]
theorem sel_off : ∀ {bk : List Rfl} {hs : List Bool} {o i : Nat}, (∀ (j : Nat) f, bk[j]? = some f → f.1 = ((o + j + 1 : Nat) : Int)) → bk.length = hs.length → i < hs.length → sel bk (hs.set i false) = (sel bk hs).filter fun e => e.1 != ((o + i + 1 : Nat) : Int)
  | [], hs, o, i, _, hl, hi => by simp at hl; omega
  | _ :: _, [], _, _, _, _, hi => by simp at hi
  | g :: bk, b :: hs, o, 0, hn, hl, hi => by
    have hg := hn 0 g rfl
    have hf : (sel bk hs).filter (fun e => e.1 != ((o + 0 + 1 : Nat) : Int)) = sel bk hs := by
      rw [List.filter_eq_self]
      intro e he
      obtain ⟨j, f, h1, _, rfl⟩ := sel_mem he
      have := hn (j + 1) f (by simpa using h1)
      simp only [vw1, this, bne_iff_ne, ne_eq]
      omega
    cases b
    · simp only [List.set_cons_zero, sel, Bool.false_eq_true, if_false]; exact hf.symm
    · simp only [List.set_cons_zero, sel, Bool.false_eq_true, if_false, if_true]
      rw [List.filter_cons_of_neg (by simp [vw1, hg]), hf]
  | g :: bk, b :: hs, o, i + 1, hn, hl, hi => by
    have ih := sel_off (bk := bk) (hs := hs) (o := o + 1) (i := i) (fun j f hj => by have := hn (j + 1) f (by simpa using hj); rw [this]; omega) (by simpa using hl) (by simpa using hi)
    have hg := hn 0 g rfl
    have e : o + 1 + i + 1 = o + (i + 1) + 1 := by omega
    rw [e] at ih
    cases b
    · simp only [List.set_cons_succ, sel, Bool.false_eq_true, if_false]; exact ih
    · simp only [List.set_cons_succ, sel, if_true, ih]
      rw [List.filter_cons_of_pos (by simp only [vw1, hg, bne_iff_ne, ne_eq]; omega)]
def updF (no a x : Int) (e : Flt) : Flt := if e.1 = no then (e.1, e.2.1, flp e.2.2 a x) else e
theorem sel_flip : ∀ {bk : List Rfl} {hs : List Bool} {o i : Nat} {f : Rfl} {x' : SV} {a x : Int}, (∀ (j : Nat) f, bk[j]? = some f → f.1 = ((o + j + 1 : Nat) : Int)) → bk[i]? = some f →
    sel (bk.set i (f.1, f.2.1, x', flp f.2.2.2 a x)) hs = (sel bk hs).map (updF ((o + i + 1 : Nat) : Int) a x)
  | [], hs, o, i, f, x', a, x, _, h => by simp at h
  | g :: bk, [], o, i, f, x', a, x, _, _ => by cases i <;> simp [sel]
  | g :: bk, b :: hs, o, 0, f, x', a, x, hn, h => by
    simp only [List.getElem?_cons_zero, Option.some.injEq] at h
    subst h
    have hg := hn 0 g rfl
    have hid : (sel bk hs).map (updF ((o + 0 + 1 : Nat) : Int) a x) = sel bk hs := by
      conv => rhs; rw [← List.map_id (sel bk hs)]
      refine List.map_congr_left (fun e he => ?_)
      obtain ⟨j, f, h1, _, rfl⟩ := sel_mem he
      have := hn (j + 1) f (by simpa using h1)
      unfold updF
      rw [if_neg (by simp only [vw1, this]; omega)]; rfl
    cases b
    · simp only [List.set_cons_zero, sel, Bool.false_eq_true, if_false]; exact hid.symm
    · simp only [List.set_cons_zero, sel, if_true, List.map_cons, hid]
      congr 1
      unfold updF vw1
      rw [if_pos (by simp [hg])]
  | g :: bk, b :: hs, o, i + 1, f, x', a, x, hn, h => by
    have ih := sel_flip (bk := bk) (hs := hs) (o := o + 1) (i := i) (f := f) (x' := x') (a := a) (x := x) (fun j f hj => by have := hn (j + 1) f (by simpa using hj); rw [this]; omega) (by simpa using h)
    have hg := hn 0 g rfl
    have e : o + 1 + i + 1 = o + (i + 1) + 1 := by omega
    rw [e] at ih
    cases b
    · simp only [List.set_cons_succ, sel, Bool.false_eq_true, if_false]; exact ih
    · simp only [List.set_cons_succ, sel, if_true, List.map_cons, ih]
      congr 1
      unfold updF vw1
      rw [if_neg (by simp only [hg]; omega)]
theorem vwE_filter (fs : List Ent) (no : Int) : vwE (fs.filter fun a => a.1 != no) = (vwE fs).filter fun e => e.1 != no := by
  unfold vwE
  rw [List.filter_map]; rfl
theorem vwE_flip (fs : List Ent) (no a x : Int) : vwE (fs.map (flpE no a x)) = (vwE fs).map (updF no a x) := by
  unfold vwE
  rw [List.map_map, List.map_map]
  refine List.map_congr_left (fun f _ => ?_)
  simp only [Function.comp, flpE, updF]
  split <;> rfl

/-- the book in memory -/
structure BookSt (M : List Blk) (F : Nat → Prop) (x y : SV) (bk : List Rfl) (hs : List Bool) : Prop where
  lst : (x = .sn ∧ bk = []) ∨ ∃ q cap zz ty, x = .sl q 0 bk.length cap ∧ M[q]? = some (.row (flC (bk.map r3) ++ zz) ty) ∧ bk.length * 3 + zz.length = cap * 3 ∧ freeW zz ∧ F q
  her : (y = .sn ∧ hs = []) ∨ ∃ q cap zz ty, y = .sl q 0 hs.length cap ∧ M[q]? = some (.row (hs.map .b ++ zz) ty) ∧ hs.length * 1 + zz.length = cap * 1 ∧ (∀ w, w ∈ zz → w ∈ [SV.b false]) ∧ F q
  len : bk.length = hs.length
  data : ∀ f, f ∈ bk → DatR M F f.2.2.1 f.2.2.2
  one : (bk.filterMap fun f => dnS f.2.2.1).Nodup
  qd : ∀ f, f ∈ bk → ∀ d, dnS f.2.2.1 = some d → dnS x ≠ some d ∧ dnS y ≠ some d
  qh : ∀ d, dnS x = some d → dnS y ≠ some d
  inn : ∀ n, F n → n < M.length
  num : ∀ (i : Nat) f, bk[i]? = some f → f.1 = ((0 + i + 1 : Nat) : Int)
theorem BookSt.ag {S F : Nat → Prop} {M M' : List Blk} {x y : SV} {bk : List Rfl} {hs : List Bool} (h : BookSt M F x y bk hs) (hA : Ag S M M') (hd : ∀ n, F n → ¬ S n) : BookSt M' F x y bk hs := by
  refine ⟨?_, ?_, h.len, fun f hf => (h.data f hf).ag hA (fun d h1 _ => ⟨hd d h1, h1⟩), h.one, h.qd, h.qh, fun n hn => Nat.lt_of_lt_of_le (h.inn n hn) hA.1, h.num⟩
  · rcases h.lst with h | ⟨q, cap, zz, ty, h1, h2, h3, h4, h5⟩
    · exact .inl h
    · exact .inr ⟨q, cap, zz, ty, h1, hA.get h2 (hd _ h5), h3, h4, h5⟩
  · rcases h.her with h | ⟨q, cap, zz, ty, h1, h2, h3, h4, h5⟩
    · exact .inl h
    · exact .inr ⟨q, cap, zz, ty, h1, hA.get h2 (hd _ h5), h3, h4, h5⟩
theorem BookSt.lenx {M : List Blk} {F : Nat → Prop} {x y : SV} {bk : List Rfl} {hs : List Bool} (h : BookSt M F x y bk hs) {M' : List Blk} {e a b : Nat} {K : SV → Prop} : lenB (.slice e a b) M' x K = K (.i .i64 bk.length) := by
  rcases h.lst with ⟨rfl, h0⟩ | ⟨q, cap, zz, ty, rfl, _⟩
  · rw [h0]; rfl
  · rfl
theorem BookSt.leny {M : List Blk} {F : Nat → Prop} {x y : SV} {bk : List Rfl} {hs : List Bool} (h : BookSt M F x y bk hs) {M' : List Blk} {e a b : Nat} {K : SV → Prop} : lenB (.slice e a b) M' y K = K (.i .i64 hs.length) := by
  rcases h.her with ⟨rfl, h0⟩ | ⟨q, cap, zz, ty, rfl, _⟩
  · rw [h0]; rfl
  · rfl
theorem BookSt.onex {M : List Blk} {F : Nat → Prop} {x y : SV} {bk : List Rfl} {hs : List Bool} (h : BookSt M F x y bk hs) : x.one = true ∧ y.one = true := by
  constructor
  · rcases h.lst with ⟨rfl, h0⟩ | ⟨q, cap, zz, ty, rfl, _⟩ <;> rfl
  · rcases h.her with ⟨rfl, h0⟩ | ⟨q, cap, zz, ty, rfl, _⟩ <;> rfl
/-- what the book's place says of the net -/
theorem there_yes {M : List Blk} {F : Nat → Prop} {x y : SV} {bk : List Rfl} {hs : List Bool} (h : BookSt M F x y bk hs) {fs : List Ent} (hv : vwE fs = sel bk hs) {i : Nat} {f : Rfl} (hi : bk[i]? = some f) (hh : hs[i]? = some true) :
    ∃ e, e ∈ fs ∧ e.1 = f.1 ∧ e.2.1 = f.2.1 ∧ e.2.2.2.1 = f.2.2.2 := by
  have := sel_at hi hh
  rw [← hv] at this
  obtain ⟨e, he, h1⟩ := List.mem_map.1 this
  simp only [vw1, Prod.mk.injEq] at h1
  exact ⟨e, he, h1.1, h1.2.1, h1.2.2⟩
theorem there_no {M : List Blk} {F : Nat → Prop} {x y : SV} {bk : List Rfl} {hs : List Bool} (h : BookSt M F x y bk hs) {fs : List Ent} (hv : vwE fs = sel bk hs) {no : Int} (hn : ∀ i : Nat, no = ((0 + i + 1 : Nat) : Int) → hs[i]? ≠ some true) : ∀ e, e ∈ fs → e.1 ≠ no := by
  intro e he e1
  have : (e.1, e.2.1, e.2.2.2.1) ∈ sel bk hs := by rw [← hv]; exact List.mem_map.2 ⟨e, he, rfl⟩
  obtain ⟨i, f, h1, h2, h3⟩ := sel_mem this
  simp only [vw1, Prod.mk.injEq] at h3
  exact hn i (by rw [← e1, h3.1, h.num i f h1]) h2
/-- a list that is held against one -/
theorem sameFlights_w (n c : Nat) (gs : List Flt) (x : SV) (vs : List Rfl) (xs : List (Int × Int × SV)) (zz : List SV) (ty : TypeId) (M : List Blk) (K : SV → List Blk → Prop)
    (h1 : M[n]? = some (.row (flC xs ++ zz) ty)) (hx : HoldsB M gs xs) (ho : (x = .sn ∧ vs = []) ∨ ∃ q cap zz ty, x = .sl q 0 vs.length cap ∧ M[q]? = some (.row (flC (vs.map r3) ++ zz) ty)) (hd : ∀ f, f ∈ vs → BytesAt M f.2.2.1 f.2.2.2) (hl : gs.length ≤ 1048576) (hvs : vs.map vw1 = gs) (hK : K (.b true) M) :
    callVC Try.prog 27 [.sl n 0 gs.length c, x] M K := by
  have hvl : vs.length = gs.length := by rw [← hvs]; simp
  have hh : HoldsB M gs (vs.map r3) := by
    refine ⟨by rw [← hvs]; simp [vw1, r3, List.map_map, Function.comp_def], fun i f z hf hz => ?_⟩
    rw [← hvs] at hf
    simp only [List.getElem?_map] at hf hz
    cases hi : vs[i]? with
    | none => rw [hi] at hf; cases hf
    | some v =>
      rw [hi] at hf hz
      simp only [Option.map_some, Option.some.injEq] at hf hz
      subst hf hz
      exact hd v (List.mem_of_getElem? hi)
  obtain ⟨rfl, rfl⟩ | ⟨q, cap, zz2, ty2, rfl, g2⟩ := ho
  · obtain rfl : gs = [] := by rw [← hvs]; rfl
    refine callVC_drop (callVC_names (fun hM => ?_) Try.call27)
    refine call_nil (a := [.sl n 0 0 c]) (b := []) 0 ?_
    have := sameFlights_ok n c M.length 0 [] [] xs [] zz [] ty 0 (M ++ [Blk.row [] 0]) (fun v M' => dropC M.length v M' K) (by rw [get_lt (kw h1)]; exact h1) (by simp [go_sem, flC]) (hx.ag (S := fun _ => False) Ag.app (fun _ h => h)) ⟨rfl, by simp⟩ (by simp) (by simp) ?_
    · exact this
    · exact dropC_append hM rfl (by simpa using hK)
  · have := sameFlights_ok n c q cap gs gs xs (vs.map r3) zz zz2 ty ty2 M K h1 g2 hx hh hl hl (by simpa using hK)
    rw [hvl]
    exact this
set_option maxHeartbeats 1000000 in
theorem counted_ok (nx m c : Nat) (g : Int) (x y : SV) (bk : List Rfl) (hs : List Bool) (fs : List Ent) (M : List Blk) (F Fb : Nat → Prop) (K : SV → List Blk → Prop) (h : NetSt M F nx m g c fs) (hb : BookSt M Fb x y bk hs) (hv : vwE fs = sel bk hs) (hl : bk.length ≤ 1048576) (hfl : fs.length ≤ 1048576) (hg1 : g < 4611686018427387900) (hK : K (.b true) M) :
    callVC Try.prog 24 [.p nx 0, x, y] M K := by
  have hlx : ∀ {M' : List Blk} {e a b : Nat} {K : SV → Prop}, lenB (.slice e a b) M' x K = K (.i .i64 bk.length) := hb.lenx
  refine fn_rule tabOK Try.func24 rfl Try.call24 (by kernel_rfl) (fun hM => ?_)
  (refine top_in ?_; simp -implicitDefEqProofs only [Try.ntmps24, Try.results24, go_sem, -List.reduceReplicate, ↓L_gdZ_tt, ↓L_gdZ_tf, ↓L_gdZ_ft, ↓L_gdZ_ff, ↓T_and, ↓T_imp, ↓T_all, Nat.reduceBEq, Nat.reduceAdd, Nat.reduceSub, Nat.reduceMul, Nat.reduceLT, Nat.reduceLeDiff, Nat.reduceEqDiff, Int.reduceLT, Int.reduceLE, Int.reduceAdd, Int.reduceSub, Int.reduceMul, Int.reduceNeg, Int.reduceToNat, Int.reduceEq, Int.reduceNe, reduceIte, reduceCtorEq, BitVec.reduceOfInt, BitVec.reduceToNat, hlx]; try simp only [top_out])
  refine loop_code tabOK (by kernel_rfl) (fun n ts M' => ∃ (k : Nat) (w : SV) (vs : List Rfl), k + n = bk.length ∧ Ag (fun _ => False) M M' ∧ ((w = .sn ∧ vs = []) ∨ ∃ q cap zz ty, w = .sl q 0 vs.length cap ∧ M'[q]? = some (.row (flC (vs.map r3) ++ zz) ty) ∧ vs.length * 3 + zz.length = cap * 3 ∧ freeW zz ∧ M.length ≤ q) ∧
    vs.length ≤ k ∧ (∀ f, f ∈ vs → f ∈ bk) ∧ vs.map vw1 = sel (bk.take k) (hs.take k) ∧ frC [some (.p nx 0), some (x), some (y), none, none, none, none, some (w), some (.i .i64 k), none, none, none, none, none, none, none, none, none, none, none, none, none, none, none, none, none, none, none, none, none] ts) bk.length ?_ ?_
  · exact ⟨0, .sn, [], by omega, Ag.refl, .inl ⟨rfl, rfl⟩, by simp, by simp, by simp [sel], by simp [frC]⟩
  rintro n ts M1 ⟨k, w, vs, hk, hA1, hw, hvl, hvm, hvs, hf⟩
  obtain ⟨f, rfl⟩ := frC_open _ _ 0 hf
  clear hf
  (refine top_in ?_; simp -implicitDefEqProofs only [go_sem, -List.reduceReplicate, ↓L_gdZ_tt, ↓L_gdZ_tf, ↓L_gdZ_ft, ↓L_gdZ_ff, ↓T_and, ↓T_imp, ↓T_all, Nat.reduceBEq, Nat.reduceAdd, Nat.reduceSub, Nat.reduceMul, Nat.reduceLT, Nat.reduceLeDiff, Nat.reduceEqDiff, Int.reduceLT, Int.reduceLE, Int.reduceAdd, Int.reduceSub, Int.reduceMul, Int.reduceNeg, Int.reduceToNat, Int.reduceEq, Int.reduceNe, reduceIte, reduceCtorEq, BitVec.reduceOfInt, BitVec.reduceToNat, hlx]; try simp only [top_out])
  refine ⟨fun hlt => ?_, fun hlt => ?_⟩
  · have hkb : k < bk.length := by omega
    have hkh : k < hs.length := by rw [← hb.len]; exact hkb
    have hq := hb.lst
    have hh := hb.her
    rcases hq with ⟨_, h0⟩ | ⟨q, cap, zz, ty, rfl, q1, q2, q3, q4⟩
    · rw [h0] at hkb; simp at hkb
    rcases hh with ⟨_, h0⟩ | ⟨r, rcap, rz, rty, rfl, r1, r2, r3', r4⟩
    · rw [h0] at hkh; simp at hkh
    have s1 := hA1.get q1 (fun e => e)
    have s2 := hA1.get r1 (fun e => e)
    have hbi : bk[k]? = some bk[k] := List.getElem?_eq_getElem hkb
    have hhi : hs[k]? = some hs[k] := List.getElem?_eq_getElem hkh
    generalize bk[k] = f at hbi
    generalize hs[k] = b at hhi
    have hgb : (hs.map SV.b ++ rz).getD k uS = .b b := by
      rw [List.getD_eq_getElem?_getD, List.getElem?_append_left (by simpa using hkh), List.getElem?_map, hhi]; rfl
    have hml : (hs.map SV.b).length = hs.length := List.length_map _
    (refine top_in ?_; simp -implicitDefEqProofs only [go_sem, -List.reduceReplicate, ↓L_gdZ_tt, ↓L_gdZ_tf, ↓L_gdZ_ft, ↓L_gdZ_ff, ↓T_and, ↓T_imp, ↓T_all, Nat.reduceBEq, Nat.reduceAdd, Nat.reduceSub, Nat.reduceMul, Nat.reduceLT, Nat.reduceLeDiff, Nat.reduceEqDiff, Int.reduceLT, Int.reduceLE, Int.reduceAdd, Int.reduceSub, Int.reduceMul, Int.reduceNeg, Int.reduceToNat, Int.reduceEq, Int.reduceNe, reduceIte, reduceCtorEq, BitVec.reduceOfInt, BitVec.reduceToNat, s2, hgb]; try simp only [top_out])
    refine ⟨by omega, by omega, by omega, by omega, ?_⟩
    have hg3 : (bk.map r3)[k]? = some (r3 f) := by rw [List.getElem?_map, hbi]; rfl
    have hcell := flC_get (bk.map r3) zz k hg3
    simp only [r3] at hcell
    have hfx := (hb.data f (List.mem_of_getElem? hbi)).lt.1
    have hfl3 := flC_length (bk.map Eng.r3)
    rw [List.length_map] at hfl3
    have hsn : sel (bk.take (k + 1)) (hs.take (k + 1)) = if b then sel (bk.take k) (hs.take k) ++ [vw1 f] else sel (bk.take k) (hs.take k) := by
      rw [List.take_add_one, List.take_add_one, hbi, hhi]
      simp only [Option.toList_some]
      cases b
      · simp only [Bool.false_eq_true, if_false]
        have : ∀ (l : List Rfl) (r : List Bool), l.length = r.length → sel (l ++ [f]) (r ++ [false]) = sel l r := by
          intro l
          induction l with
          | nil => intro r hr; cases r with
            | nil => rfl
            | cons _ _ => simp at hr
          | cons a l ih => intro r hr; cases r with
            | nil => simp at hr
            | cons b r => simp only [List.cons_append, sel, ih r (by simpa using hr)]
        exact this _ _ (by simp; omega)
      · simp only [if_true]
        exact sel_snoc (by simp; omega)
    refine ⟨fun hbt => ?_, fun hbf => ?_⟩
    · subst hbt
      (refine top_in ?_; simp -implicitDefEqProofs only [go_sem, -List.reduceReplicate, ↓L_gdZ_tt, ↓L_gdZ_tf, ↓L_gdZ_ft, ↓L_gdZ_ff, ↓T_and, ↓T_imp, ↓T_all, Nat.reduceBEq, Nat.reduceAdd, Nat.reduceSub, Nat.reduceMul, Nat.reduceLT, Nat.reduceLeDiff, Nat.reduceEqDiff, Int.reduceLT, Int.reduceLE, Int.reduceAdd, Int.reduceSub, Int.reduceMul, Int.reduceNeg, Int.reduceToNat, Int.reduceEq, Int.reduceNe, reduceIte, reduceCtorEq, BitVec.reduceOfInt, BitVec.reduceToNat, s1, hcell, hfx]; try simp only [top_out])
      refine ⟨by omega, by omega, by omega, by omega, by decide, ?_⟩
      have hsrc : ∀ K : List SV → Nat → Prop, K [.i .i64 f.1, .i .i64 f.2.1, f.2.2.1] 1 → srcC (M1 ++ [Blk.row [.i .i64 f.1, .i .i64 f.2.1, f.2.2.1] 32]) 3 (SV.sl M1.length 0 1 1) K := fun K hK => by simp only [srcC]; rw [cells_at0]; (refine top_in ?_; simp -implicitDefEqProofs only [go_sem, -List.reduceReplicate, ↓L_gdZ_tt, ↓L_gdZ_tf, ↓L_gdZ_ft, ↓L_gdZ_ff, ↓T_and, ↓T_imp, ↓T_all, Nat.reduceBEq, Nat.reduceAdd, Nat.reduceSub, Nat.reduceMul, Nat.reduceLT, Nat.reduceLeDiff, Nat.reduceEqDiff, Int.reduceLT, Int.reduceLE, Int.reduceAdd, Int.reduceSub, Int.reduceMul, Int.reduceNeg, Int.reduceToNat, Int.reduceEq, Int.reduceNe, reduceIte, reduceCtorEq, BitVec.reduceOfInt, BitVec.reduceToNat]; try simp only [top_out]); exact hK
      have hvn : (vs ++ [f]).map vw1 = sel (bk.take (k + 1)) (hs.take (k + 1)) := by rw [hsn, if_pos rfl, List.map_append, hvs]; rfl
      have hmem : ∀ f', f' ∈ vs ++ [f] → f' ∈ bk := fun f' hf' => by
        rcases List.mem_append.1 hf' with h | h
        · exact hvm f' h
        · rw [List.mem_singleton.1 h]; exact List.mem_of_getElem? hbi
      have m1 := hA1.1
      rcases hw with ⟨rfl, rfl⟩ | ⟨q2, cap2, zz2, ty2, rfl, g1, g2, g3, g4⟩
      · refine appFn [.i .i64 f.1, .i .i64 f.2.1, f.2.2.1] 1 rfl (by decide) (by decide) rfl rfl hsrc (by decide) (fun z1 t1 c1 hz1 hc1 => ?_)
        (refine top_in ?_; simp -implicitDefEqProofs only [go_sem, -List.reduceReplicate, ↓L_gdZ_tt, ↓L_gdZ_tf, ↓L_gdZ_ft, ↓L_gdZ_ff, ↓T_and, ↓T_imp, ↓T_all, Nat.reduceBEq, Nat.reduceAdd, Nat.reduceSub, Nat.reduceMul, Nat.reduceLT, Nat.reduceLeDiff, Nat.reduceEqDiff, Int.reduceLT, Int.reduceLE, Int.reduceAdd, Int.reduceSub, Int.reduceMul, Int.reduceNeg, Int.reduceToNat, Int.reduceEq, Int.reduceNe, reduceIte, reduceCtorEq, BitVec.reduceOfInt, BitVec.reduceToNat]; try simp only [top_out])
        exact ⟨n - 1, by omega, k + 1, _, [f], by omega, Ag.trans hA1 (S' := fun _ => False) Ag.app (fun _ _ e => e), .inr ⟨M1.length + 1, c1, z1, t1, rfl, by simp [go_sem, flC, Eng.r3], hc1, hz1, by omega⟩, by simp, hmem, hvn, rfl, w64 (by omega) (by omega)⟩
      · refine appFm q2 (flC (vs.map Eng.r3)) zz2 [.i .i64 f.1, .i .i64 f.2.1, f.2.2.1] 1 ty2 rfl (by decide) (by decide) rfl rfl (by rw [get_lt (kw g1)]; exact g1) (by rw [flC_length, List.length_map]) g2 hsrc g3 (by omega) (fun z1 t1 c1 hz1 hc1 => ?_)
        (refine top_in ?_; simp -implicitDefEqProofs only [go_sem, -List.reduceReplicate, ↓L_gdZ_tt, ↓L_gdZ_tf, ↓L_gdZ_ft, ↓L_gdZ_ff, ↓T_and, ↓T_imp, ↓T_all, Nat.reduceBEq, Nat.reduceAdd, Nat.reduceSub, Nat.reduceMul, Nat.reduceLT, Nat.reduceLeDiff, Nat.reduceEqDiff, Int.reduceLT, Int.reduceLE, Int.reduceAdd, Int.reduceSub, Int.reduceMul, Int.reduceNeg, Int.reduceToNat, Int.reduceEq, Int.reduceNe, reduceIte, reduceCtorEq, BitVec.reduceOfInt, BitVec.reduceToNat, set_lt (kw g1)]; try simp only [top_out])
        refine ⟨n - 1, by omega, k + 1, _, vs ++ [f], by omega, Ag.trans hA1 (S' := fun n => n = q2) (Ag.trans (Ag.set rfl) (Ag.app (S := fun _ => False)) (fun _ _ h => h.elim)) (fun n hn e => by omega), .inr ⟨M1.length + 1, c1, z1, t1, by simp, ?_, by simpa using hc1, hz1, by omega⟩, by simp; omega, hmem, hvn, rfl, w64 (by omega) (by omega)⟩
        rw [List.map_append, flC_app]
        simp [go_sem, flC, Eng.r3]
    · subst hbf
      refine ⟨n - 1, by omega, k + 1, w, vs, by omega, hA1, hw, by omega, hvm, by rw [hsn]; exact hvs, rfl, w64 (by omega) (by omega)⟩
  · have hkb : k = bk.length := by omega
    subst hkb
    rw [List.take_length, hb.len, List.take_length, ← hv] at hvs
    have hN1 := h.ag hA1 (fun _ _ e => e)
    refine under_sa nx m c g fs M1 F _ hN1 hfl hg1 (fun M2 q xs zz cap ty hA2 hq hL hH => ?_)
    (refine top_in ?_; simp -implicitDefEqProofs only [go_sem, -List.reduceReplicate, ↓L_gdZ_tt, ↓L_gdZ_tf, ↓L_gdZ_ft, ↓L_gdZ_ff, ↓T_and, ↓T_imp, ↓T_all, Nat.reduceBEq, Nat.reduceAdd, Nat.reduceSub, Nat.reduceMul, Nat.reduceLT, Nat.reduceLeDiff, Nat.reduceEqDiff, Int.reduceLT, Int.reduceLE, Int.reduceAdd, Int.reduceSub, Int.reduceMul, Int.reduceNeg, Int.reduceToNat, Int.reduceEq, Int.reduceNe, reduceIte, reduceCtorEq, BitVec.reduceOfInt, BitVec.reduceToNat]; try simp only [top_out])
    have hfl' : fs.length = (vwE fs).length := (vwE_len fs).symm
    rw [hfl']
    have hA12 := Ag.trans hA1 hA2 (fun _ _ e => e)
    refine sameFlights_w q cap (vwE fs) w vs xs zz ty M2 _ hL hH ?_ (fun f hf => ((hb.data f (hvm f hf)).ag (F' := Fb) hA12 (fun d e _ => ⟨fun e2 => e2, e⟩)).bytes) (by rw [← hfl']; exact hfl) hvs ?_
    · rcases hw with h | ⟨q2, cap2, zz2, ty2, e1, g1, g2, g3, g4⟩
      · exact .inl h
      · exact .inr ⟨q2, cap2, zz2, ty2, e1, hA2.get g1 (fun e => e)⟩
    · (refine top_in ?_; simp -implicitDefEqProofs only [go_sem, -List.reduceReplicate, ↓L_gdZ_tt, ↓L_gdZ_tf, ↓L_gdZ_ft, ↓L_gdZ_ff, ↓T_and, ↓T_imp, ↓T_all, Nat.reduceBEq, Nat.reduceAdd, Nat.reduceSub, Nat.reduceMul, Nat.reduceLT, Nat.reduceLeDiff, Nat.reduceEqDiff, Int.reduceLT, Int.reduceLE, Int.reduceAdd, Int.reduceSub, Int.reduceMul, Int.reduceNeg, Int.reduceToNat, Int.reduceEq, Int.reduceNe, reduceIte, reduceCtorEq, BitVec.reduceOfInt, BitVec.reduceToNat]; try simp only [top_out])
      exact dropC_ag hM hA12 (fun _ _ e => e) rfl hK
end Go.Proofs.Ytccnffjjahdneaa.Eng
