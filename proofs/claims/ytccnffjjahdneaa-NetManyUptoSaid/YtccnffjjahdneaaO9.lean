/- A pair of nets: many packets, every call. -/
import Derived.Test.YtccnffjjahdneaaO8
namespace Go.Proofs.Ytccnffjjahdneaa.Eng
open Go Go.RowKit
set_option linter.unusedSimpArgs false
set_option linter.unusedVariables false
set_option linter.unusedSimpArgs false
set_option linter.unusedVariables false

/-- a step's value -/
def opS (ki : Int) (se : Bool) (to no xx a : Int) (x : SV) : SV := .agg [.i .i64 ki, .b se, .i .i64 to, .i .i64 no, .i .i64 xx, .i .i64 a, x]
set_option maxHeartbeats 4000000 in
theorem many_ok (p : Nat) (g ki to no xx a : Int) (se : Bool) (x : SV) (b : List (BitVec 8)) (M : List Blk) (F : Nat → Prop) (K : SV → List Blk → Prop) (h : PairSt M F p g) (hg1 : g < 4611686018427386000) (hx : Byt M x b) (hxF : ∀ d, dnS x = some d → ¬ F d)
    (hK : ∀ M' F' g', PairSt M' F' p g' → g ≤ g' → g' ≤ g + 1030 → (∀ n, F' n → F n ∨ M.length ≤ n) → Ag F M M' → K (.b true) M') :
    callVC Try.prog 21 [.p p 0, opS ki se to no xx a x] M K := by
  have hlb : ∀ {M' : List Blk} {e a b' : Nat} {K : SV → Prop}, lenB (.slice e a b') M' x K = K (.i .i64 b.length) := hx.lenB
  have hxo := hx.one
  have hrow : ∃ nx r y long, M[p]? = some (.row [.p nx 0, .p r 0, y, .b long] 49) ∧ ∃ z last, M[r]? = some (.row [z, .i .i64 last] 76) ∧ ∃ n : Nat, n ≤ 1024 ∧ ∀ {M' : List Blk} {e a b' : Nat} {K : SV → Prop}, lenB (.slice e a b') M' z K = K (.i .i64 n) := by
    obtain ⟨Fn, Fr, nx, m, c, r, fs, rs, y, z, long, h⟩ := h
    obtain ⟨w, h1, h2⟩ := h.ref.ex
    refine ⟨nx, r, y, long, h.row, w, g, h1, rs.length, by rw [← vw_len h.same]; exact h.len, fun {M' e a b' K} => ?_⟩
    rcases h2 with ⟨rfl, rfl⟩ | ⟨q, cap, zz, ty, rfl, _⟩ <;> rfl
  obtain ⟨nx, r, y, long, hp, w, last, hr, n0, hn0, hlw⟩ := hrow
  have hpl := kw hp
  have hrl := kw hr
  unfold opS
  refine fn_rule tabOK Try.func21 rfl Try.call21 (by kernel_rfl) (fun hM => ?_)
  (refine top_in ?_; simp -implicitDefEqProofs only [Try.ntmps21, Try.results21, go_sem, -List.reduceReplicate, ↓L_gdZ_tt, ↓L_gdZ_tf, ↓L_gdZ_ft, ↓L_gdZ_ff, ↓T_and, ↓T_imp, ↓T_all, Nat.reduceBEq, Nat.reduceAdd, Nat.reduceSub, Nat.reduceMul, Nat.reduceLT, Nat.reduceLeDiff, Nat.reduceEqDiff, Int.reduceLT, Int.reduceLE, Int.reduceAdd, Int.reduceSub, Int.reduceMul, Int.reduceNeg, Int.reduceToNat, Int.reduceEq, Int.reduceNe, reduceIte, reduceCtorEq, BitVec.reduceOfInt, BitVec.reduceToNat, hlb, hxo, get_lt hpl, get_lt hrl, hp, hr, hlw]; try simp only [top_out])
  have hA0 : Ag F M (M ++ [Blk.row [SV.i IntKind.i64 ki, SV.b se, SV.i IntKind.i64 to, SV.i IntKind.i64 no, SV.i IntKind.i64 xx, SV.i IntKind.i64 a, x] 43]) := Ag.app
  have hP0 := h.ag (S := fun _ => False) (M' := M ++ [Blk.row [SV.i IntKind.i64 ki, SV.b se, SV.i IntKind.i64 to, SV.i IntKind.i64 no, SV.i IntKind.i64 xx, SV.i IntKind.i64 a, x] 43]) Ag.app (fun _ _ e => e)
  have hq : dropC M.length (.b true) (M ++ [Blk.row [SV.i IntKind.i64 ki, SV.b se, SV.i IntKind.i64 to, SV.i IntKind.i64 no, SV.i IntKind.i64 xx, SV.i IntKind.i64 a, x] 43]) K :=
    dropC_append hM rfl (hK M F g h (by omega) (by omega) (fun n e => .inl e) Ag.refl)
  refine ⟨fun n1 => ⟨fun n2 => ⟨fun _ => hq, fun n3 => ?_⟩, fun _ => hq⟩, fun _ => hq⟩
  have hdx : ∀ d, dnS x = some d → d < M.length := by
    intro d e
    obtain ⟨_, ⟨rfl, _⟩ | ⟨a, rfl, _⟩ | ⟨n, cap, rfl, hb⟩⟩ := hx
    · cases e
    · cases e
    · cases e; exact hb.lt
  have hw : IntKind.i64.wrap (1024 + xx) = 1024 + xx := w64 (by omega) (by omega)
  have hinn : ∀ n, F n → n < M.length := by
    obtain ⟨Fn, Fr, nx, m, c, r, fs, rs, y, z, long, h⟩ := h
    exact h.inn
  refine loop_code tabOK (by kernel_rfl) (fun m ts M' => ∃ (k : Nat) (F' : Nat → Prop) (g' : Int), k + m = n0 + 1030 ∧ n0 ≤ k ∧ PairSt M' F' p g' ∧ g ≤ g' ∧ g' ≤ g + (k - n0 : Int) ∧ (∀ n, F' n → F n ∨ M.length + 1 ≤ n) ∧ Ag F (M ++ [Blk.row [SV.i IntKind.i64 ki, SV.b se, SV.i IntKind.i64 to, SV.i IntKind.i64 no, SV.i IntKind.i64 xx, SV.i IntKind.i64 a, x] 43]) M' ∧
    frC [some (.p p 0), none, none, some (.p M.length 0), none, some (.i .i64 k), none, none, none, none, none, none, none, none, none, none, none, none, none, none, none, none, none, none, none, none, none, none, none, none, none, none, none, none, none, none, none, none, none, none, none, none, none, none] ts) 1030 ?_ ?_
  · exact ⟨n0, F, g, by omega, by omega, hP0, by omega, by omega, fun n e => .inl e, Ag.refl, by simp [frC]⟩
  · rintro m ts M1 ⟨k, F1, g1, hk, hk0, hP1, hg0, hg2, hF1, hA1, hf⟩
    have hbox : M1[M.length]? = some (Blk.row [SV.i IntKind.i64 ki, SV.b se, SV.i IntKind.i64 to, SV.i IntKind.i64 no, SV.i IntKind.i64 xx, SV.i IntKind.i64 a, x] 43) := hA1.get (by simp [go_sem]) (fun e => by have := hinn _ e; omega)
    have hlen1 := hA1.1
    simp only [List.length_append, List.length_cons, List.length_nil] at hlen1
    obtain ⟨f, rfl⟩ := frC_open _ _ 0 hf
    clear hf
    (refine top_in ?_; simp -implicitDefEqProofs only [go_sem, -List.reduceReplicate, ↓L_gdZ_tt, ↓L_gdZ_tf, ↓L_gdZ_ft, ↓L_gdZ_ff, ↓T_and, ↓T_imp, ↓T_all, Nat.reduceBEq, Nat.reduceAdd, Nat.reduceSub, Nat.reduceMul, Nat.reduceLT, Nat.reduceLeDiff, Nat.reduceEqDiff, Int.reduceLT, Int.reduceLE, Int.reduceAdd, Int.reduceSub, Int.reduceMul, Int.reduceNeg, Int.reduceToNat, Int.reduceEq, Int.reduceNe, reduceIte, reduceCtorEq, BitVec.reduceOfInt, BitVec.reduceToNat, hlb, hbox, hw]; try simp only [top_out])
    refine ⟨fun hlt => ?_, fun hlt => ?_⟩
    · refine sends_ok p g1 to x b M1 F1 _ hP1 (by omega) ((hx.ag (S := fun _ => False) Ag.app (fun _ _ e => e)).ag hA1 hxF) (fun d e e2 => ?_) (fun M2 F2 g3 hP2 hg3 hg4 hF2 hA2 => ?_)
      · rcases hF1 d e2 with e3 | e3
        · exact hxF d e e3
        · have := hdx d e; omega
      · (refine top_in ?_; simp -implicitDefEqProofs only [go_sem, -List.reduceReplicate, ↓L_gdZ_tt, ↓L_gdZ_tf, ↓L_gdZ_ft, ↓L_gdZ_ff, ↓T_and, ↓T_imp, ↓T_all, Nat.reduceBEq, Nat.reduceAdd, Nat.reduceSub, Nat.reduceMul, Nat.reduceLT, Nat.reduceLeDiff, Nat.reduceEqDiff, Int.reduceLT, Int.reduceLE, Int.reduceAdd, Int.reduceSub, Int.reduceMul, Int.reduceNeg, Int.reduceToNat, Int.reduceEq, Int.reduceNe, reduceIte, reduceCtorEq, BitVec.reduceOfInt, BitVec.reduceToNat]; try simp only [top_out])
        refine ⟨m - 1, by omega, k + 1, F2, g3, by omega, by omega, hP2, by omega, by omega, fun n e => ?_, Ag.trans hA1 hA2 (fun n hn e => ?_), w64 (by omega) (by omega)⟩
        · rcases hF2 n e with e | e
          · exact hF1 n e
          · exact .inr (by omega)
        · simp only [List.length_append, List.length_cons, List.length_nil] at hn
          rcases hF1 n e with e | e
          · exact e
          · omega
    · exact dropC_all (by omega) (hK M1 F1 g1 hP1 hg0 (by omega) (fun n e => (hF1 n e).elim .inl (fun e => .inr (by omega))) (Ag.trans hA0 hA1 (fun _ _ e => e)))
theorem PairSt.none_same {fs : List Ent} {rs : List Rfl} (h : vwE fs = vwR rs) {no : Int} (hn : ∀ f, f ∈ rs → f.1 ≠ no) : ∀ f, f ∈ fs → f.1 ≠ no := fun f hf e => by
  obtain ⟨f', h1, h2⟩ := vw_mem h hf
  exact hn f' h1 (h2.trans e)
theorem PairSt.none_same' {fs : List Ent} {rs : List Rfl} (h : vwE fs = vwR rs) {no : Int} (hn : ∀ f, f ∈ fs → f.1 ≠ no) : ∀ f, f ∈ rs → f.1 ≠ no := fun f hf e => by
  obtain ⟨i, hi⟩ := List.getElem?_of_mem hf
  obtain ⟨e', h1, h2, _⟩ := vw_get h hi
  exact hn e' (List.mem_of_getElem? h1) (h2.trans e)
theorem call_from {P : Program} {f : FuncId} {args : List SV} {M : List Blk} {K : SV → List Blk → Prop} (U : List Blk → Prop) (hU : U M) (h : ∀ M2, U M2 → callVC P f args M2 K) : callVC P f args M K := h M hU
theorem draw_from {P : Program} {bs id : Nat} {ops : Array Oper} {ts : List SV} {M : List Blk} {Q : Exit → List SV → List Blk → Prop} (U : List Blk → Prop) (hU : U M) (h : ∀ M2, U M2 → DrawVC P bs id ops ts M2 Q) : DrawVC P bs id ops ts M Q := h M hU
theorem ent_same {fs : List Ent} {rs : List Rfl} (h : vwE fs = vwR rs) (hs : fs.Pairwise fun a b => a.1 < b.1) {f : Ent} (hf : f ∈ fs) {i : Nat} {f' : Rfl} (hi : rs[i]? = some f') (hk : f'.1 = f.1) : f.1 = f'.1 ∧ f.2.1 = f'.2.1 ∧ f.2.2.2.1 = f'.2.2.2 := by
  obtain ⟨e9, he9, v1, v2, v3⟩ := vw_get h hi
  have hfe : e9 = f := by
    obtain ⟨j9, hj9⟩ := List.getElem?_of_mem hf
    rcases Nat.lt_trichotomy i j9 with hij | hij | hij
    · have := List.pairwise_iff_getElem.1 hs i j9 (List.getElem?_eq_some_iff.1 he9).1 (List.getElem?_eq_some_iff.1 hj9).1 hij
      rw [(List.getElem?_eq_some_iff.1 he9).2, (List.getElem?_eq_some_iff.1 hj9).2] at this
      omega
    · subst hij; rw [he9] at hj9; exact Option.some.inj hj9
    · have := List.pairwise_iff_getElem.1 hs j9 i (List.getElem?_eq_some_iff.1 hj9).1 (List.getElem?_eq_some_iff.1 he9).1 hij
      rw [(List.getElem?_eq_some_iff.1 he9).2, (List.getElem?_eq_some_iff.1 hj9).2] at this
      omega
  subst hfe
  exact ⟨v1, v2, v3⟩
/-- the pair behind a call of each net -/
theorem PairS.step {M M1 M2 : List Blk} {F Fn Fr Fn1 Fr2 : Nat → Prop} {p nx m c r c1 : Nat} {g g1 : Int} {fs fs1 : List Ent} {rs rs1 : List Rfl} {y : SV} {z : List (BitVec 8)} {long : Bool} (h : PairS M F Fn Fr p nx m c r g fs rs y z long)
    (hA1 : Ag Fn M M1) (hN : NetSt M1 Fn1 nx m g1 c1 fs1) (hF1 : ∀ n, Fn1 n → Fn n ∨ M.length ≤ n) (hA2 : Ag Fr M1 M2) (hR : RefSt M2 Fr2 r g1 rs1) (hF2 : ∀ n, Fr2 n → Fr n ∨ M1.length ≤ n) (hv : vwE fs1 = vwR rs1) (hl : fs1.length ≤ 1024) :
    PairSt M2 (fun n => F n ∨ Fn1 n ∨ Fr2 n) p g1 ∧ (∀ n, (F n ∨ Fn1 n ∨ Fr2 n) → F n ∨ M.length ≤ n) ∧ Ag F M M2 := by
  have hinn := h.inn
  have lN : ∀ n, Fn n → F n := fun n e => (h.fn n e).1
  have lR : ∀ n, Fr n → F n := fun n e => (h.fr n e).1
  have xNR : ∀ n, Fn n → ¬ Fr n := fun n e => (h.fn n e).2.1
  have pN : ¬ Fn p := fun e => (h.fn p e).2.2.1 rfl
  have pR : ¬ Fr p := fun e => (h.fr p e).2.1 rfl
  have m1 := hA1.1
  have m2 := hA2.1
  have hfp := hinn p h.fp
  have hyd : ∀ d, dnS y = some d → d < M.length := fun d e => by
    rcases h.room with ⟨e2, _⟩ | ⟨d2, ty, e2, _, e3, _⟩
    · rw [e2] at e; cases e
    · rw [e2] at e; cases e; exact hinn _ e3
  have k1 : ∀ n, Fn1 n → Fr n → False := fun n e1 e2 => by
    rcases hF1 n e1 with e | e
    · exact xNR n e e2
    · have := hinn n (lR n e2); omega
  have hAF : Ag F M M2 := Ag.trans (hA1.mono lN) hA2 (fun n _ e => lR n e)
  refine ⟨⟨Fn1, Fr2, nx, m, c1, r, fs1, rs1, y, z, long, hA2.get (hA1.get h.row pN) pR, ?_, hN.ag hA2 (fun n e e2 => k1 n e e2), hR, hv, hl, ?_, ?_, .inl h.fp, ?_⟩, ?_, hAF⟩
  · rcases h.room with h1 | ⟨d, ty, h1, h2, h3, h4⟩
    · exact .inl h1
    · exact .inr ⟨d, ty, h1, hA2.get (hA1.get h2 (fun e => (h.fn d e).2.2.2 (by rw [h1]; rfl))) (fun e => (h.fr d e).2.2 (by rw [h1]; rfl)), .inl h3, h4⟩
  · intro n e
    refine ⟨.inr (.inl e), fun e2 => ?_, fun e2 => ?_, fun e2 => ?_⟩
    · rcases hF2 n e2 with e3 | e3
      · exact k1 n e e3
      · have := hN.inn n e; omega
    · rcases hF1 n e with e3 | e3
      · exact pN (e2 ▸ e3)
      · omega
    · rcases hF1 n e with e3 | e3
      · exact (h.fn n e3).2.2.2 e2
      · have := hyd n e2; omega
  · intro n e
    refine ⟨.inr (.inr e), fun e2 => ?_, fun e2 => ?_⟩
    · rcases hF2 n e with e3 | e3
      · exact pR (e2 ▸ e3)
      · omega
    · rcases hF2 n e with e3 | e3
      · exact (h.fr n e3).2.2 e2
      · have := hyd n e2; omega
  · rintro n (e | e | e)
    · have := hinn n e; omega
    · have := hN.inn n e; omega
    · exact hR.inn n e
  · rintro n (e | e | e)
    · exact .inl e
    · rcases hF1 n e with e3 | e3
      · exact .inl (lN n e3)
      · exact .inr e3
    · rcases hF2 n e with e3 | e3
      · exact .inl (lR n e3)
      · exact .inr (by omega)
set_option maxHeartbeats 4000000 in
set_option maxRecDepth 20000 in
theorem plays_ok (p : Nat) (g ki to no xx a : Int) (se : Bool) (x : SV) (b : List (BitVec 8)) (M : List Blk) (F : Nat → Prop) (K : SV → List Blk → Prop) (h : PairSt M F p g) (hg1 : g < 4611686018427386000) (hx : Byt M x b) (hxF : ∀ d, dnS x = some d → ¬ F d)
    (hK : ∀ M' F' g', PairSt M' F' p g' → g ≤ g' → g' ≤ g + 1030 → (∀ n, F' n → F n ∨ M.length ≤ n) → Ag F M M' → K (.b true) M') :
    callVC Try.prog 19 [.p p 0, opS ki se to no xx a x] M K := by
  have hxo := hx.one
  have hps := h
  obtain ⟨Fn, Fr, nx, m, c, r, fs, rs, y, z, long, h⟩ := h
  have hp := h.row
  have hpl := kw hp
  have hsame := h.same
  have hflen := h.len
  have hrlen := vw_len hsame
  unfold opS
  refine fn_rule tabOK Try.func19 rfl Try.call19 (by kernel_rfl) (fun hM => ?_)
  (refine top_in ?_; simp -implicitDefEqProofs only [Try.ntmps19, Try.results19, go_sem, -List.reduceReplicate, ↓L_gdZ_tt, ↓L_gdZ_tf, ↓L_gdZ_ft, ↓L_gdZ_ff, ↓T_and, ↓T_imp, ↓T_all, Nat.reduceBEq, Nat.reduceAdd, Nat.reduceSub, Nat.reduceMul, Nat.reduceLT, Nat.reduceLeDiff, Nat.reduceEqDiff, Int.reduceLT, Int.reduceLE, Int.reduceAdd, Int.reduceSub, Int.reduceMul, Int.reduceNeg, Int.reduceToNat, Int.reduceEq, Int.reduceNe, reduceIte, reduceCtorEq, BitVec.reduceOfInt, BitVec.reduceToNat, hxo, get_lt hpl, hp]; try simp only [top_out])
  have hA0 : ∀ N, Ag F M (M ++ N) := fun N => Ag.app
  have hP0 : ∀ N, PairSt (M ++ N) F p g := fun N => hps.ag (S := fun _ => False) (M' := M ++ N) Ag.app (fun _ _ e => e)
  have hS0 : ∀ N, PairS (M ++ N) F Fn Fr p nx m c r g fs rs y z long := fun N => h.ag (S := fun _ => False) (M' := M ++ N) Ag.app (fun _ _ e => e)
  have hinn := h.inn
  obtain ⟨B0, hB0⟩ : ∃ B0, Blk.row [SV.i IntKind.i64 ki, SV.b se, SV.i IntKind.i64 to, SV.i IntKind.i64 no, SV.i IntKind.i64 xx, SV.i IntKind.i64 a, x] 43 = B0 := ⟨_, rfl⟩
  have fin : ∀ N M' F' g', PairSt M' F' p g' → g ≤ g' → g' ≤ g + 1030 → (∀ n, F' n → F n ∨ (M ++ N).length ≤ n) → Ag F (M ++ N) M' → dropC M.length (.b true) M' K := fun N M' F' g' h1 h2 h3 h4 h5 =>
    dropC_all (by have := h5.1; simp at this; omega) (hK M' F' g' h1 h2 h3 (fun n e => (h4 n e).elim .inl (fun e => .inr (by simp at e; omega))) (Ag.trans (hA0 N) h5 (fun _ _ e => e)))
  have hx0 : ∀ N, Byt (M ++ N) x b := fun N => hx.ag (S := fun _ => False) Ag.app (fun _ _ e => e)
  have hfp := h.fp
  have lN : ∀ n, Fn n → F n := fun n e => (h.fn n e).1
  have lR : ∀ n, Fr n → F n := fun n e => (h.fr n e).1
  have xNR : ∀ n, Fn n → ¬ Fr n := fun n e => (h.fn n e).2.1
  have pN : ¬ Fn p := fun e => (h.fn p e).2.2.1 rfl
  have pR : ¬ Fr p := fun e => (h.fr p e).2.1 rfl
  refine ⟨fun k1 => ?_, fun _ => ⟨fun k2 => ?_, fun _ => ⟨fun k3 => ?_, fun _ => ⟨fun k4 => ⟨fun _ => ?_, fun k4b => ?_⟩, fun _ => ⟨fun k5 => ?_, fun _ => ⟨fun k6 => ?_, fun _ => ⟨fun k7 => ?_, fun _ => ?_⟩⟩⟩⟩⟩⟩⟩
  · refine sends_ok p g to x b _ F _ (hP0 _) (by omega) (hx0 _) hxF (fun M1 F1 g1 h1 h2 h3 h4 h5 => ?_)
    (refine top_in ?_; simp -implicitDefEqProofs only [go_sem, -List.reduceReplicate, ↓L_gdZ_tt, ↓L_gdZ_tf, ↓L_gdZ_ft, ↓L_gdZ_ff, ↓T_and, ↓T_imp, ↓T_all, Nat.reduceBEq, Nat.reduceAdd, Nat.reduceSub, Nat.reduceMul, Nat.reduceLT, Nat.reduceLeDiff, Nat.reduceEqDiff, Int.reduceLT, Int.reduceLE, Int.reduceAdd, Int.reduceSub, Int.reduceMul, Int.reduceNeg, Int.reduceToNat, Int.reduceEq, Int.reduceNe, reduceIte, reduceCtorEq, BitVec.reduceOfInt, BitVec.reduceToNat]; try simp only [top_out])
    exact fin _ M1 F1 g1 h1 h2 (by omega) h4 h5
  · by_cases hno : ∃ f, f ∈ fs ∧ f.1 = no
    · obtain ⟨f, hfm, rfl⟩ := hno
      have hmF : Fn m := h.net.fm
      have hmp : p ≠ m := fun e => pN (e ▸ hmF)
      have hml := hinn m (lN m hmF)
      refine draw_rule tabOK (by kernel_rfl : _) (.p 0 (.p 1 (.p 2 (.p 3 (.p 4 (.p 5 (.e 6 [] (.p 7 (.p 8 (.p 9 (.e 10 [1, 2, 3, 4, 5] (.e 11 [] (.p 12 .nil) .no) .no)))) (.e 10 [1, 2, 3, 4, 5] (.e 6 [] (.p 7 (.p 8 (.p 9 (.e 11 [] (.p 12 .nil) .no)))) .no) .no)))))))) (by kernel_rfl) (by kernel_rfl) ?_
      (refine top_in ?_; simp -implicitDefEqProofs only [go_sem, -List.reduceReplicate, ↓L_gdZ_tt, ↓L_gdZ_tf, ↓L_gdZ_ft, ↓L_gdZ_ff, ↓T_and, ↓T_imp, ↓T_all, Nat.reduceBEq, Nat.reduceAdd, Nat.reduceSub, Nat.reduceMul, Nat.reduceLT, Nat.reduceLeDiff, Nat.reduceEqDiff, Int.reduceLT, Int.reduceLE, Int.reduceAdd, Int.reduceSub, Int.reduceMul, Int.reduceNeg, Int.reduceToNat, Int.reduceEq, Int.reduceNe, reduceIte, reduceCtorEq, BitVec.reduceOfInt, BitVec.reduceToNat, get_lt hpl, hp]; try simp only [top_out])
      refine ⟨?_, ?_⟩
      · refine take_st nx m c g f fs _ Fn _ (hS0 _).net hfm (fun M1 hN1 hD1 hA1 => ?_)
        have hp1 := hA1.get ((hS0 _).row) hmp
        have hb1 := hA1.get (n := M.length) (by simp [go_sem]; rfl) (fun e => by omega)
        have c1 := kw hp1
        have c2 := kw hb1
        (refine top_in ?_; simp -implicitDefEqProofs only [go_sem, -List.reduceReplicate, ↓L_gdZ_tt, ↓L_gdZ_tf, ↓L_gdZ_ft, ↓L_gdZ_ff, ↓T_and, ↓T_imp, ↓T_all, Nat.reduceBEq, Nat.reduceAdd, Nat.reduceSub, Nat.reduceMul, Nat.reduceLT, Nat.reduceLeDiff, Nat.reduceEqDiff, Int.reduceLT, Int.reduceLE, Int.reduceAdd, Int.reduceSub, Int.reduceMul, Int.reduceNeg, Int.reduceToNat, Int.reduceEq, Int.reduceNe, reduceIte, reduceCtorEq, BitVec.reduceOfInt, BitVec.reduceToNat, hp1, hb1, get_lt c1, get_lt c2]; try simp only [top_out])
        refine ⟨(hD1.lt).1, ?_⟩
        have m1 := hA1.1
        simp only [List.length_append, List.length_cons, List.length_nil] at m1
        refine draw_from (fun M2 => Ag (fun n => M.length + 1 ≤ n) M1 M2 ∧ M2[M1.length]? = some (.row [.i .i64 f.1, .i .i64 f.2.1, f.2.2.1] 32)) ⟨Ag.app, by simp [go_sem]⟩ ?_
        rintro M2 ⟨hA2, hc2⟩
        have hp2 := hA2.get hp1 (fun e => by omega)
        have hb2 := hA2.get hb1 (fun e => by omega)
        have d1 := kw hp2
        have d2 := kw hb2
        have d3 := kw hc2
        have m2 := hA2.1
        have hR2 := ((hS0 _).ref.ag hA1 (fun n e e2 => xNR m hmF (e2 ▸ e))).ag hA2 (fun n e e2 => by have := hinn n (lR n e); omega)
        have hN2 := hN1.ag hA2 (fun n e e2 => by have := hinn n (lN n e.1); omega)
        have hD2 := hD1.ag (F' := Fn) hA2 (fun d e _ => ⟨fun e2 => by have := hinn d (lN d e); omega, e⟩)
        have hrF : Fr r := h.ref.fr
        have hrl := hinn r (lR r hrF)
        have hpr : p ≠ r := fun e => pR (e ▸ hrF)
        refine draw_rule tabOK (by kernel_rfl : _) (.p 0 (.p 1 (.p 2 (.p 3 (.p 4 (.p 5 (.e 6 [] (.p 7 (.p 8 (.p 9 (.e 10 [1, 2, 3, 4, 5] (.e 11 [] (.p 12 .nil) .no) .no)))) (.e 10 [1, 2, 3, 4, 5] (.e 6 [] (.p 7 (.p 8 (.p 9 (.e 11 [] (.p 12 .nil) .no)))) .no) .no)))))))) (by kernel_rfl) (by kernel_rfl) ?_
        (refine top_in ?_; simp -implicitDefEqProofs only [go_sem, -List.reduceReplicate, ↓L_gdZ_tt, ↓L_gdZ_tf, ↓L_gdZ_ft, ↓L_gdZ_ff, ↓T_and, ↓T_imp, ↓T_all, Nat.reduceBEq, Nat.reduceAdd, Nat.reduceSub, Nat.reduceMul, Nat.reduceLT, Nat.reduceLeDiff, Nat.reduceEqDiff, Int.reduceLT, Int.reduceLE, Int.reduceAdd, Int.reduceSub, Int.reduceMul, Int.reduceNeg, Int.reduceToNat, Int.reduceEq, Int.reduceNe, reduceIte, reduceCtorEq, BitVec.reduceOfInt, BitVec.reduceToNat, hp2, hb2, get_lt d1, get_lt d2]; try simp only [top_out])
        refine ⟨?_, ?_⟩
        · refine rtake_ok r f.1 g rs _ Fr _ hR2 (by omega) (fun hn => absurd rfl (PairSt.none_same hsame hn f hfm)) (fun i f' hi hf' hj M3 F3 hR3 hD3 hF3 hA3 => ?_)
          have hp3 := hA3.get hp2 hpr
          have hb3 := hA3.get hb2 (by omega)
          have hc3 := hA3.get hc2 (by omega)
          have e1 := kw hp3
          have e2 := kw hb3
          have e3 := kw hc3
          have m3 := hA3.1
          (refine top_in ?_; simp -implicitDefEqProofs only [go_sem, -List.reduceReplicate, ↓L_gdZ_tt, ↓L_gdZ_tf, ↓L_gdZ_ft, ↓L_gdZ_ff, ↓T_and, ↓T_imp, ↓T_all, Nat.reduceBEq, Nat.reduceAdd, Nat.reduceSub, Nat.reduceMul, Nat.reduceLT, Nat.reduceLeDiff, Nat.reduceEqDiff, Int.reduceLT, Int.reduceLE, Int.reduceAdd, Int.reduceSub, Int.reduceMul, Int.reduceNeg, Int.reduceToNat, Int.reduceEq, Int.reduceNe, reduceIte, reduceCtorEq, BitVec.reduceOfInt, BitVec.reduceToNat, hp3, hb3, hc3, get_lt e1, get_lt e2, get_lt e3]; try simp only [top_out])
          refine ⟨(hD3.lt).1, ?_⟩
          refine call_from (fun M4 => Ag (fun n => M2.length ≤ n ∧ ¬ F3 n) M3 M4) (Ag.app) ?_
          intro M4 hA4
          have hA3' : Ag (· = r) M2 M3 := hA3
          have hF3' : ∀ n, F3 n → Fr n ∨ M2.length ≤ n := fun n e => (hF3 n e).elim .inl (fun e => .inr (e))
          have m4 := hA4.1
          have hN4 := (hN2.ag hA3' (fun n e e2 => xNR n e.1 (e2 ▸ hrF))).ag hA4 (fun n e e2 => by have := hinn n (lN n e.1); omega)
          have hR4 := hR3.ag hA4 (fun n e e2 => e2.2 e)
          have hD4 := (hD2.ag (F' := Fn) hA3' (fun d e _ => ⟨fun e2 => xNR d e (e2 ▸ hrF), e⟩)).ag (F' := Fn) hA4 (fun d e _ => ⟨fun e2 => by have := hinn d (lN d e); omega, e⟩)
          have hD5 := hD3.ag (F' := Fr) hA4 (fun d e _ => ⟨fun e2 => by have := hinn d (lR d e); omega, e⟩)
          refine sameFlight_ok M4 f.1 f.2.1 f'.1 f'.2.1 f.2.2.1 f'.2.2.1 f.2.2.2.1 f'.2.2.2 _ hD4.bytes hD5.bytes ?_
          obtain ⟨e9, he9, v1, v2, v3⟩ := vw_get hsame hi
          have hfe : e9 = f := by
            obtain ⟨j9, hj9⟩ := List.getElem?_of_mem hfm
            rcases Nat.lt_trichotomy i j9 with hij | hij | hij
            · have := List.pairwise_iff_getElem.1 h.net.sorted i j9 (List.getElem?_eq_some_iff.1 he9).1 (List.getElem?_eq_some_iff.1 hj9).1 hij
              rw [(List.getElem?_eq_some_iff.1 he9).2, (List.getElem?_eq_some_iff.1 hj9).2] at this
              omega
            · subst hij; rw [he9] at hj9; exact Option.some.inj hj9
            · have := List.pairwise_iff_getElem.1 h.net.sorted j9 i (List.getElem?_eq_some_iff.1 hj9).1 (List.getElem?_eq_some_iff.1 he9).1 hij
              rw [(List.getElem?_eq_some_iff.1 he9).2, (List.getElem?_eq_some_iff.1 hj9).2] at this
              omega
          subst hfe
          rw [show sameFB e9.1 e9.2.1 e9.2.2.2.1 f'.1 f'.2.1 f'.2.2.2 = true from by rw [v1, v2, v3]; simp [sameFB]]
          (refine top_in ?_; simp -implicitDefEqProofs only [go_sem, -List.reduceReplicate, ↓L_gdZ_tt, ↓L_gdZ_tf, ↓L_gdZ_ft, ↓L_gdZ_ff, ↓T_and, ↓T_imp, ↓T_all, Nat.reduceBEq, Nat.reduceAdd, Nat.reduceSub, Nat.reduceMul, Nat.reduceLT, Nat.reduceLeDiff, Nat.reduceEqDiff, Int.reduceLT, Int.reduceLE, Int.reduceAdd, Int.reduceSub, Int.reduceMul, Int.reduceNeg, Int.reduceToNat, Int.reduceEq, Int.reduceNe, reduceIte, reduceCtorEq, BitVec.reduceOfInt, BitVec.reduceToNat]; try simp only [top_out])
          refine num_ok 0 _ _ ?_
          (refine top_in ?_; simp -implicitDefEqProofs only [go_sem, -List.reduceReplicate, ↓L_gdZ_tt, ↓L_gdZ_tf, ↓L_gdZ_ft, ↓L_gdZ_ff, ↓T_and, ↓T_imp, ↓T_all, Nat.reduceBEq, Nat.reduceAdd, Nat.reduceSub, Nat.reduceMul, Nat.reduceLT, Nat.reduceLeDiff, Nat.reduceEqDiff, Int.reduceLT, Int.reduceLE, Int.reduceAdd, Int.reduceSub, Int.reduceMul, Int.reduceNeg, Int.reduceToNat, Int.reduceEq, Int.reduceNe, reduceIte, reduceCtorEq, BitVec.reduceOfInt, BitVec.reduceToNat]; try simp only [top_out])
          have hyd : ∀ d, dnS y = some d → d < M.length := fun d e => by
            rcases h.room with ⟨e2, _⟩ | ⟨d2, ty, e2, _, e3, _⟩
            · rw [e2] at e; cases e
            · rw [e2] at e; cases e; exact hinn _ e3
          have hAF : Ag F M M4 := Ag.trans (Ag.trans (Ag.trans (Ag.trans (hA0 _) hA1 (fun n _ e => e ▸ lN m hmF)) hA2 (fun n hn e => by omega)) hA3' (fun n _ e => e ▸ lR r hrF)) hA4 (fun n hn e => by have := e.1; omega)
          refine dropC_all hAF.1 (hK M4 (fun n => F n ∨ F3 n) g ⟨_, F3, nx, m, c, r, _, _, y, z, long, (hA3'.get hp2 hpr |> fun q => hA4.get q (fun e => by have := e.1; omega)), ?_, hN4, hR4, ?_, ?_, ?_, ?_, .inl hfp, ?_⟩ (by omega) (by omega) ?_ hAF)
          · rcases h.room with h1 | ⟨d, ty, h1, h2, h3, h4⟩
            · exact .inl h1
            · have hd := hinn d h3
              have hdn : ¬ Fn d := fun e => (h.fn d e).2.2.2 (by rw [h1]; rfl)
              have hdr : ¬ Fr d := fun e => (h.fr d e).2.2 (by rw [h1]; rfl)
              refine .inr ⟨d, ty, h1, ?_, .inl h3, h4⟩
              refine hA4.get (hA3'.get (hA2.get (hA1.get (by rw [get_lt hd]; exact h2) (fun e => hdn (e ▸ hmF))) (fun e => by omega)) (fun e => hdr (e ▸ hrF))) (fun e => by have := e.1; omega)
          · rw [v1]; exact vw_erase hsame h.net.sorted hi
          · exact Nat.le_trans (List.length_filter_le _ _) hflen
          · intro n e
            refine ⟨.inl (lN n e.1), fun e2 => ?_, (h.fn n e.1).2.2.1, (h.fn n e.1).2.2.2⟩
            rcases hF3' n e2 with e3 | e3
            · exact xNR n e.1 e3
            · have := hinn n (lN n e.1); omega
          · intro n e
            refine ⟨.inr e, fun e2 => ?_, fun e2 => ?_⟩
            · rcases hF3' n e with e3 | e3
              · exact pR (e2 ▸ e3)
              · omega
            · rcases hF3' n e with e3 | e3
              · exact (h.fr n e3).2.2 e2
              · have := hyd n e2; omega
          · rintro n (e | e)
            · have := hinn n e; have := hAF.1; omega
            · exact hR4.inn n e
          · rintro n (e | e)
            · exact .inl e
            · rcases hF3' n e with e3 | e3
              · exact .inl (lR n e3)
              · exact .inr (by omega)
        · have hR2' := hR2.ag (S := fun _ => False) (M' := M2 ++ [Blk.row [SV.i IntKind.i64 0, SV.i IntKind.i64 0, SV.sn] 32]) Ag.app (fun _ _ e => e)
          refine rtake_ok r f.1 g rs _ Fr _ hR2' (by omega) (fun hn => absurd rfl (PairSt.none_same hsame hn f hfm)) (fun i f' hi hf' hj M3 F3 hR3 hD3 hF3 hA3 => ?_)
          have hp3 := hA3.get (by rw [get_lt d1]; exact hp2) hpr
          have hb3 := hA3.get (by rw [get_lt d2]; exact hb2) (by omega)
          have hc3 := hA3.get (by rw [get_lt d3]; exact hc2) (by omega)
          have hz3 : M3[M2.length]? = some (Blk.row [SV.i IntKind.i64 0, SV.i IntKind.i64 0, SV.sn] 32) := hA3.get (by simp [go_sem]) (by omega)
          have e1 := kw hp3
          have e2 := kw hb3
          have e3 := kw hc3
          have e4 := kw hz3
          have m3 := hA3.1
          have q3 : ∀ B n, n < M2.length → (M3.set M2.length B)[n]? = M3[n]? := fun B n hn => List.getElem?_set_ne (by omega)
          have q4 := fun B => q3 B _ d1
          have q5 := fun B => q3 B _ d2
          have q6 := fun B => q3 B _ d3
          have q7 : ∀ B, (M3.set M2.length B)[M2.length]? = some B := fun B => List.getElem?_set_self e4
          (refine top_in ?_; simp -implicitDefEqProofs only [go_sem, -List.reduceReplicate, ↓L_gdZ_tt, ↓L_gdZ_tf, ↓L_gdZ_ft, ↓L_gdZ_ff, ↓T_and, ↓T_imp, ↓T_all, Nat.reduceBEq, Nat.reduceAdd, Nat.reduceSub, Nat.reduceMul, Nat.reduceLT, Nat.reduceLeDiff, Nat.reduceEqDiff, Int.reduceLT, Int.reduceLE, Int.reduceAdd, Int.reduceSub, Int.reduceMul, Int.reduceNeg, Int.reduceToNat, Int.reduceEq, Int.reduceNe, reduceIte, reduceCtorEq, BitVec.reduceOfInt, BitVec.reduceToNat, hp3, hb3, hc3, hz3, q4, q5, q6, q7]; try simp only [top_out])
          refine ⟨(hD3.lt).1, ?_⟩
          refine call_from (fun M4 => Ag (fun n => M2.length ≤ n ∧ ¬ F3 n) M3 M4) (Ag.set ⟨Nat.le_refl _, fun e => (hF3 _ e).elim (fun e => by have := hinn _ (lR _ e); omega) (fun e => by simp at e; omega)⟩) ?_
          intro M4 hA4
          have hA3' : Ag (· = r) M2 M3 := Ag.trans ((Ag.app (S := fun _ => False)).mono (fun _ e => e.elim)) hA3 (fun _ _ e => e)
          have hF3' : ∀ n, F3 n → Fr n ∨ M2.length ≤ n := fun n e => (hF3 n e).elim .inl (fun e => .inr ((by simp at e; omega)))
          have m4 := hA4.1
          have hN4 := (hN2.ag hA3' (fun n e e2 => xNR n e.1 (e2 ▸ hrF))).ag hA4 (fun n e e2 => by have := hinn n (lN n e.1); omega)
          have hR4 := hR3.ag hA4 (fun n e e2 => e2.2 e)
          have hD4 := (hD2.ag (F' := Fn) hA3' (fun d e _ => ⟨fun e2 => xNR d e (e2 ▸ hrF), e⟩)).ag (F' := Fn) hA4 (fun d e _ => ⟨fun e2 => by have := hinn d (lN d e); omega, e⟩)
          have hD5 := hD3.ag (F' := Fr) hA4 (fun d e _ => ⟨fun e2 => by have := hinn d (lR d e); omega, e⟩)
          refine sameFlight_ok M4 f.1 f.2.1 f'.1 f'.2.1 f.2.2.1 f'.2.2.1 f.2.2.2.1 f'.2.2.2 _ hD4.bytes hD5.bytes ?_
          obtain ⟨e9, he9, v1, v2, v3⟩ := vw_get hsame hi
          have hfe : e9 = f := by
            obtain ⟨j9, hj9⟩ := List.getElem?_of_mem hfm
            rcases Nat.lt_trichotomy i j9 with hij | hij | hij
            · have := List.pairwise_iff_getElem.1 h.net.sorted i j9 (List.getElem?_eq_some_iff.1 he9).1 (List.getElem?_eq_some_iff.1 hj9).1 hij
              rw [(List.getElem?_eq_some_iff.1 he9).2, (List.getElem?_eq_some_iff.1 hj9).2] at this
              omega
            · subst hij; rw [he9] at hj9; exact Option.some.inj hj9
            · have := List.pairwise_iff_getElem.1 h.net.sorted j9 i (List.getElem?_eq_some_iff.1 hj9).1 (List.getElem?_eq_some_iff.1 he9).1 hij
              rw [(List.getElem?_eq_some_iff.1 he9).2, (List.getElem?_eq_some_iff.1 hj9).2] at this
              omega
          subst hfe
          rw [show sameFB e9.1 e9.2.1 e9.2.2.2.1 f'.1 f'.2.1 f'.2.2.2 = true from by rw [v1, v2, v3]; simp [sameFB]]
          (refine top_in ?_; simp -implicitDefEqProofs only [go_sem, -List.reduceReplicate, ↓L_gdZ_tt, ↓L_gdZ_tf, ↓L_gdZ_ft, ↓L_gdZ_ff, ↓T_and, ↓T_imp, ↓T_all, Nat.reduceBEq, Nat.reduceAdd, Nat.reduceSub, Nat.reduceMul, Nat.reduceLT, Nat.reduceLeDiff, Nat.reduceEqDiff, Int.reduceLT, Int.reduceLE, Int.reduceAdd, Int.reduceSub, Int.reduceMul, Int.reduceNeg, Int.reduceToNat, Int.reduceEq, Int.reduceNe, reduceIte, reduceCtorEq, BitVec.reduceOfInt, BitVec.reduceToNat]; try simp only [top_out])
          refine num_ok 0 _ _ ?_
          (refine top_in ?_; simp -implicitDefEqProofs only [go_sem, -List.reduceReplicate, ↓L_gdZ_tt, ↓L_gdZ_tf, ↓L_gdZ_ft, ↓L_gdZ_ff, ↓T_and, ↓T_imp, ↓T_all, Nat.reduceBEq, Nat.reduceAdd, Nat.reduceSub, Nat.reduceMul, Nat.reduceLT, Nat.reduceLeDiff, Nat.reduceEqDiff, Int.reduceLT, Int.reduceLE, Int.reduceAdd, Int.reduceSub, Int.reduceMul, Int.reduceNeg, Int.reduceToNat, Int.reduceEq, Int.reduceNe, reduceIte, reduceCtorEq, BitVec.reduceOfInt, BitVec.reduceToNat]; try simp only [top_out])
          have hyd : ∀ d, dnS y = some d → d < M.length := fun d e => by
            rcases h.room with ⟨e2, _⟩ | ⟨d2, ty, e2, _, e3, _⟩
            · rw [e2] at e; cases e
            · rw [e2] at e; cases e; exact hinn _ e3
          have hAF : Ag F M M4 := Ag.trans (Ag.trans (Ag.trans (Ag.trans (hA0 _) hA1 (fun n _ e => e ▸ lN m hmF)) hA2 (fun n hn e => by omega)) hA3' (fun n _ e => e ▸ lR r hrF)) hA4 (fun n hn e => by have := e.1; omega)
          refine dropC_all hAF.1 (hK M4 (fun n => F n ∨ F3 n) g ⟨_, F3, nx, m, c, r, _, _, y, z, long, (hA3'.get hp2 hpr |> fun q => hA4.get q (fun e => by have := e.1; omega)), ?_, hN4, hR4, ?_, ?_, ?_, ?_, .inl hfp, ?_⟩ (by omega) (by omega) ?_ hAF)
          · rcases h.room with h1 | ⟨d, ty, h1, h2, h3, h4⟩
            · exact .inl h1
            · have hd := hinn d h3
              have hdn : ¬ Fn d := fun e => (h.fn d e).2.2.2 (by rw [h1]; rfl)
              have hdr : ¬ Fr d := fun e => (h.fr d e).2.2 (by rw [h1]; rfl)
              refine .inr ⟨d, ty, h1, ?_, .inl h3, h4⟩
              refine hA4.get (hA3'.get (hA2.get (hA1.get (by rw [get_lt hd]; exact h2) (fun e => hdn (e ▸ hmF))) (fun e => by omega)) (fun e => hdr (e ▸ hrF))) (fun e => by have := e.1; omega)
          · rw [v1]; exact vw_erase hsame h.net.sorted hi
          · exact Nat.le_trans (List.length_filter_le _ _) hflen
          · intro n e
            refine ⟨.inl (lN n e.1), fun e2 => ?_, (h.fn n e.1).2.2.1, (h.fn n e.1).2.2.2⟩
            rcases hF3' n e2 with e3 | e3
            · exact xNR n e.1 e3
            · have := hinn n (lN n e.1); omega
          · intro n e
            refine ⟨.inr e, fun e2 => ?_, fun e2 => ?_⟩
            · rcases hF3' n e with e3 | e3
              · exact pR (e2 ▸ e3)
              · omega
            · rcases hF3' n e with e3 | e3
              · exact (h.fr n e3).2.2 e2
              · have := hyd n e2; omega
          · rintro n (e | e)
            · have := hinn n e; have := hAF.1; omega
            · exact hR4.inn n e
          · rintro n (e | e)
            · exact .inl e
            · rcases hF3' n e with e3 | e3
              · exact .inl (lR n e3)
              · exact .inr (by omega)
      · refine take_st nx m c g f fs _ Fn _ (hS0 _).net hfm (fun M1 hN1 hD1 hA1 => ?_)
        have hp1 := hA1.get ((hS0 _).row) hmp
        have hb1 := hA1.get (n := M.length) (by simp [go_sem]; rfl) (fun e => by omega)
        have hc1 := hA1.get (n := M.length + 1) (by simp [go_sem]; rfl) (fun e => by omega)
        have c1 := kw hp1
        have c2 := kw hb1
        have c3 := kw hc1
        have q1 : ∀ B, (M1.set (M.length + 1) B)[p]? = M1[p]? := fun B => List.getElem?_set_ne (by omega)
        have q2 : ∀ B, (M1.set (M.length + 1) B)[M.length]? = M1[M.length]? := fun B => List.getElem?_set_ne (by omega)
        (refine top_in ?_; simp -implicitDefEqProofs only [go_sem, -List.reduceReplicate, ↓L_gdZ_tt, ↓L_gdZ_tf, ↓L_gdZ_ft, ↓L_gdZ_ff, ↓T_and, ↓T_imp, ↓T_all, Nat.reduceBEq, Nat.reduceAdd, Nat.reduceSub, Nat.reduceMul, Nat.reduceLT, Nat.reduceLeDiff, Nat.reduceEqDiff, Int.reduceLT, Int.reduceLE, Int.reduceAdd, Int.reduceSub, Int.reduceMul, Int.reduceNeg, Int.reduceToNat, Int.reduceEq, Int.reduceNe, reduceIte, reduceCtorEq, BitVec.reduceOfInt, BitVec.reduceToNat, hp1, hb1, hc1, q1, q2]; try simp only [top_out])
        refine ⟨(hD1.lt).1, ?_⟩
        have m1 := hA1.1
        simp only [List.length_append, List.length_cons, List.length_nil] at m1
        refine draw_from (fun M2 => Ag (fun n => M.length + 1 ≤ n) M1 M2 ∧ M2[(M.length + 1)]? = some (.row [.i .i64 f.1, .i .i64 f.2.1, f.2.2.1] 32)) ⟨Ag.set (Nat.le_refl _), List.getElem?_set_self c3⟩ ?_
        rintro M2 ⟨hA2, hc2⟩
        have hp2 := hA2.get hp1 (fun e => by omega)
        have hb2 := hA2.get hb1 (fun e => by omega)
        have d1 := kw hp2
        have d2 := kw hb2
        have d3 := kw hc2
        have m2 := hA2.1
        have hR2 := ((hS0 _).ref.ag hA1 (fun n e e2 => xNR m hmF (e2 ▸ e))).ag hA2 (fun n e e2 => by have := hinn n (lR n e); omega)
        have hN2 := hN1.ag hA2 (fun n e e2 => by have := hinn n (lN n e.1); omega)
        have hD2 := hD1.ag (F' := Fn) hA2 (fun d e _ => ⟨fun e2 => by have := hinn d (lN d e); omega, e⟩)
        have hrF : Fr r := h.ref.fr
        have hrl := hinn r (lR r hrF)
        have hpr : p ≠ r := fun e => pR (e ▸ hrF)
        refine draw_rule tabOK (by kernel_rfl : _) (.p 0 (.p 1 (.p 2 (.p 3 (.p 4 (.p 5 (.e 6 [] (.p 7 (.p 8 (.p 9 (.e 10 [1, 2, 3, 4, 5] (.e 11 [] (.p 12 .nil) .no) .no)))) (.e 10 [1, 2, 3, 4, 5] (.e 6 [] (.p 7 (.p 8 (.p 9 (.e 11 [] (.p 12 .nil) .no)))) .no) .no)))))))) (by kernel_rfl) (by kernel_rfl) ?_
        (refine top_in ?_; simp -implicitDefEqProofs only [go_sem, -List.reduceReplicate, ↓L_gdZ_tt, ↓L_gdZ_tf, ↓L_gdZ_ft, ↓L_gdZ_ff, ↓T_and, ↓T_imp, ↓T_all, Nat.reduceBEq, Nat.reduceAdd, Nat.reduceSub, Nat.reduceMul, Nat.reduceLT, Nat.reduceLeDiff, Nat.reduceEqDiff, Int.reduceLT, Int.reduceLE, Int.reduceAdd, Int.reduceSub, Int.reduceMul, Int.reduceNeg, Int.reduceToNat, Int.reduceEq, Int.reduceNe, reduceIte, reduceCtorEq, BitVec.reduceOfInt, BitVec.reduceToNat, hp2, hb2, get_lt d1, get_lt d2]; try simp only [top_out])
        refine ⟨?_, ?_⟩
        · refine rtake_ok r f.1 g rs _ Fr _ hR2 (by omega) (fun hn => absurd rfl (PairSt.none_same hsame hn f hfm)) (fun i f' hi hf' hj M3 F3 hR3 hD3 hF3 hA3 => ?_)
          have hp3 := hA3.get hp2 hpr
          have hb3 := hA3.get hb2 (by omega)
          have hc3 := hA3.get hc2 (by omega)
          have e1 := kw hp3
          have e2 := kw hb3
          have e3 := kw hc3
          have m3 := hA3.1
          (refine top_in ?_; simp -implicitDefEqProofs only [go_sem, -List.reduceReplicate, ↓L_gdZ_tt, ↓L_gdZ_tf, ↓L_gdZ_ft, ↓L_gdZ_ff, ↓T_and, ↓T_imp, ↓T_all, Nat.reduceBEq, Nat.reduceAdd, Nat.reduceSub, Nat.reduceMul, Nat.reduceLT, Nat.reduceLeDiff, Nat.reduceEqDiff, Int.reduceLT, Int.reduceLE, Int.reduceAdd, Int.reduceSub, Int.reduceMul, Int.reduceNeg, Int.reduceToNat, Int.reduceEq, Int.reduceNe, reduceIte, reduceCtorEq, BitVec.reduceOfInt, BitVec.reduceToNat, hp3, hb3, hc3, get_lt e1, get_lt e2, get_lt e3]; try simp only [top_out])
          refine ⟨(hD3.lt).1, ?_⟩
          refine call_from (fun M4 => Ag (fun n => M2.length ≤ n ∧ ¬ F3 n) M3 M4) (Ag.app) ?_
          intro M4 hA4
          have hA3' : Ag (· = r) M2 M3 := hA3
          have hF3' : ∀ n, F3 n → Fr n ∨ M2.length ≤ n := fun n e => (hF3 n e).elim .inl (fun e => .inr (e))
          have m4 := hA4.1
          have hN4 := (hN2.ag hA3' (fun n e e2 => xNR n e.1 (e2 ▸ hrF))).ag hA4 (fun n e e2 => by have := hinn n (lN n e.1); omega)
          have hR4 := hR3.ag hA4 (fun n e e2 => e2.2 e)
          have hD4 := (hD2.ag (F' := Fn) hA3' (fun d e _ => ⟨fun e2 => xNR d e (e2 ▸ hrF), e⟩)).ag (F' := Fn) hA4 (fun d e _ => ⟨fun e2 => by have := hinn d (lN d e); omega, e⟩)
          have hD5 := hD3.ag (F' := Fr) hA4 (fun d e _ => ⟨fun e2 => by have := hinn d (lR d e); omega, e⟩)
          refine sameFlight_ok M4 f.1 f.2.1 f'.1 f'.2.1 f.2.2.1 f'.2.2.1 f.2.2.2.1 f'.2.2.2 _ hD4.bytes hD5.bytes ?_
          obtain ⟨e9, he9, v1, v2, v3⟩ := vw_get hsame hi
          have hfe : e9 = f := by
            obtain ⟨j9, hj9⟩ := List.getElem?_of_mem hfm
            rcases Nat.lt_trichotomy i j9 with hij | hij | hij
            · have := List.pairwise_iff_getElem.1 h.net.sorted i j9 (List.getElem?_eq_some_iff.1 he9).1 (List.getElem?_eq_some_iff.1 hj9).1 hij
              rw [(List.getElem?_eq_some_iff.1 he9).2, (List.getElem?_eq_some_iff.1 hj9).2] at this
              omega
            · subst hij; rw [he9] at hj9; exact Option.some.inj hj9
            · have := List.pairwise_iff_getElem.1 h.net.sorted j9 i (List.getElem?_eq_some_iff.1 hj9).1 (List.getElem?_eq_some_iff.1 he9).1 hij
              rw [(List.getElem?_eq_some_iff.1 he9).2, (List.getElem?_eq_some_iff.1 hj9).2] at this
              omega
          subst hfe
          rw [show sameFB e9.1 e9.2.1 e9.2.2.2.1 f'.1 f'.2.1 f'.2.2.2 = true from by rw [v1, v2, v3]; simp [sameFB]]
          (refine top_in ?_; simp -implicitDefEqProofs only [go_sem, -List.reduceReplicate, ↓L_gdZ_tt, ↓L_gdZ_tf, ↓L_gdZ_ft, ↓L_gdZ_ff, ↓T_and, ↓T_imp, ↓T_all, Nat.reduceBEq, Nat.reduceAdd, Nat.reduceSub, Nat.reduceMul, Nat.reduceLT, Nat.reduceLeDiff, Nat.reduceEqDiff, Int.reduceLT, Int.reduceLE, Int.reduceAdd, Int.reduceSub, Int.reduceMul, Int.reduceNeg, Int.reduceToNat, Int.reduceEq, Int.reduceNe, reduceIte, reduceCtorEq, BitVec.reduceOfInt, BitVec.reduceToNat]; try simp only [top_out])
          refine num_ok 0 _ _ ?_
          (refine top_in ?_; simp -implicitDefEqProofs only [go_sem, -List.reduceReplicate, ↓L_gdZ_tt, ↓L_gdZ_tf, ↓L_gdZ_ft, ↓L_gdZ_ff, ↓T_and, ↓T_imp, ↓T_all, Nat.reduceBEq, Nat.reduceAdd, Nat.reduceSub, Nat.reduceMul, Nat.reduceLT, Nat.reduceLeDiff, Nat.reduceEqDiff, Int.reduceLT, Int.reduceLE, Int.reduceAdd, Int.reduceSub, Int.reduceMul, Int.reduceNeg, Int.reduceToNat, Int.reduceEq, Int.reduceNe, reduceIte, reduceCtorEq, BitVec.reduceOfInt, BitVec.reduceToNat]; try simp only [top_out])
          have hyd : ∀ d, dnS y = some d → d < M.length := fun d e => by
            rcases h.room with ⟨e2, _⟩ | ⟨d2, ty, e2, _, e3, _⟩
            · rw [e2] at e; cases e
            · rw [e2] at e; cases e; exact hinn _ e3
          have hAF : Ag F M M4 := Ag.trans (Ag.trans (Ag.trans (Ag.trans (hA0 _) hA1 (fun n _ e => e ▸ lN m hmF)) hA2 (fun n hn e => by omega)) hA3' (fun n _ e => e ▸ lR r hrF)) hA4 (fun n hn e => by have := e.1; omega)
          refine dropC_all hAF.1 (hK M4 (fun n => F n ∨ F3 n) g ⟨_, F3, nx, m, c, r, _, _, y, z, long, (hA3'.get hp2 hpr |> fun q => hA4.get q (fun e => by have := e.1; omega)), ?_, hN4, hR4, ?_, ?_, ?_, ?_, .inl hfp, ?_⟩ (by omega) (by omega) ?_ hAF)
          · rcases h.room with h1 | ⟨d, ty, h1, h2, h3, h4⟩
            · exact .inl h1
            · have hd := hinn d h3
              have hdn : ¬ Fn d := fun e => (h.fn d e).2.2.2 (by rw [h1]; rfl)
              have hdr : ¬ Fr d := fun e => (h.fr d e).2.2 (by rw [h1]; rfl)
              refine .inr ⟨d, ty, h1, ?_, .inl h3, h4⟩
              refine hA4.get (hA3'.get (hA2.get (hA1.get (by rw [get_lt hd]; exact h2) (fun e => hdn (e ▸ hmF))) (fun e => by omega)) (fun e => hdr (e ▸ hrF))) (fun e => by have := e.1; omega)
          · rw [v1]; exact vw_erase hsame h.net.sorted hi
          · exact Nat.le_trans (List.length_filter_le _ _) hflen
          · intro n e
            refine ⟨.inl (lN n e.1), fun e2 => ?_, (h.fn n e.1).2.2.1, (h.fn n e.1).2.2.2⟩
            rcases hF3' n e2 with e3 | e3
            · exact xNR n e.1 e3
            · have := hinn n (lN n e.1); omega
          · intro n e
            refine ⟨.inr e, fun e2 => ?_, fun e2 => ?_⟩
            · rcases hF3' n e with e3 | e3
              · exact pR (e2 ▸ e3)
              · omega
            · rcases hF3' n e with e3 | e3
              · exact (h.fr n e3).2.2 e2
              · have := hyd n e2; omega
          · rintro n (e | e)
            · have := hinn n e; have := hAF.1; omega
            · exact hR4.inn n e
          · rintro n (e | e)
            · exact .inl e
            · rcases hF3' n e with e3 | e3
              · exact .inl (lR n e3)
              · exact .inr (by omega)
        · have hR2' := hR2.ag (S := fun _ => False) (M' := M2 ++ [Blk.row [SV.i IntKind.i64 0, SV.i IntKind.i64 0, SV.sn] 32]) Ag.app (fun _ _ e => e)
          refine rtake_ok r f.1 g rs _ Fr _ hR2' (by omega) (fun hn => absurd rfl (PairSt.none_same hsame hn f hfm)) (fun i f' hi hf' hj M3 F3 hR3 hD3 hF3 hA3 => ?_)
          have hp3 := hA3.get (by rw [get_lt d1]; exact hp2) hpr
          have hb3 := hA3.get (by rw [get_lt d2]; exact hb2) (by omega)
          have hc3 := hA3.get (by rw [get_lt d3]; exact hc2) (by omega)
          have hz3 : M3[M2.length]? = some (Blk.row [SV.i IntKind.i64 0, SV.i IntKind.i64 0, SV.sn] 32) := hA3.get (by simp [go_sem]) (by omega)
          have e1 := kw hp3
          have e2 := kw hb3
          have e3 := kw hc3
          have e4 := kw hz3
          have m3 := hA3.1
          have q3 : ∀ B n, n < M2.length → (M3.set M2.length B)[n]? = M3[n]? := fun B n hn => List.getElem?_set_ne (by omega)
          have q4 := fun B => q3 B _ d1
          have q5 := fun B => q3 B _ d2
          have q6 := fun B => q3 B _ d3
          have q7 : ∀ B, (M3.set M2.length B)[M2.length]? = some B := fun B => List.getElem?_set_self e4
          (refine top_in ?_; simp -implicitDefEqProofs only [go_sem, -List.reduceReplicate, ↓L_gdZ_tt, ↓L_gdZ_tf, ↓L_gdZ_ft, ↓L_gdZ_ff, ↓T_and, ↓T_imp, ↓T_all, Nat.reduceBEq, Nat.reduceAdd, Nat.reduceSub, Nat.reduceMul, Nat.reduceLT, Nat.reduceLeDiff, Nat.reduceEqDiff, Int.reduceLT, Int.reduceLE, Int.reduceAdd, Int.reduceSub, Int.reduceMul, Int.reduceNeg, Int.reduceToNat, Int.reduceEq, Int.reduceNe, reduceIte, reduceCtorEq, BitVec.reduceOfInt, BitVec.reduceToNat, hp3, hb3, hc3, hz3, q4, q5, q6, q7]; try simp only [top_out])
          refine ⟨(hD3.lt).1, ?_⟩
          refine call_from (fun M4 => Ag (fun n => M2.length ≤ n ∧ ¬ F3 n) M3 M4) (Ag.set ⟨Nat.le_refl _, fun e => (hF3 _ e).elim (fun e => by have := hinn _ (lR _ e); omega) (fun e => by simp at e; omega)⟩) ?_
          intro M4 hA4
          have hA3' : Ag (· = r) M2 M3 := Ag.trans ((Ag.app (S := fun _ => False)).mono (fun _ e => e.elim)) hA3 (fun _ _ e => e)
          have hF3' : ∀ n, F3 n → Fr n ∨ M2.length ≤ n := fun n e => (hF3 n e).elim .inl (fun e => .inr ((by simp at e; omega)))
          have m4 := hA4.1
          have hN4 := (hN2.ag hA3' (fun n e e2 => xNR n e.1 (e2 ▸ hrF))).ag hA4 (fun n e e2 => by have := hinn n (lN n e.1); omega)
          have hR4 := hR3.ag hA4 (fun n e e2 => e2.2 e)
          have hD4 := (hD2.ag (F' := Fn) hA3' (fun d e _ => ⟨fun e2 => xNR d e (e2 ▸ hrF), e⟩)).ag (F' := Fn) hA4 (fun d e _ => ⟨fun e2 => by have := hinn d (lN d e); omega, e⟩)
          have hD5 := hD3.ag (F' := Fr) hA4 (fun d e _ => ⟨fun e2 => by have := hinn d (lR d e); omega, e⟩)
          refine sameFlight_ok M4 f.1 f.2.1 f'.1 f'.2.1 f.2.2.1 f'.2.2.1 f.2.2.2.1 f'.2.2.2 _ hD4.bytes hD5.bytes ?_
          obtain ⟨e9, he9, v1, v2, v3⟩ := vw_get hsame hi
          have hfe : e9 = f := by
            obtain ⟨j9, hj9⟩ := List.getElem?_of_mem hfm
            rcases Nat.lt_trichotomy i j9 with hij | hij | hij
            · have := List.pairwise_iff_getElem.1 h.net.sorted i j9 (List.getElem?_eq_some_iff.1 he9).1 (List.getElem?_eq_some_iff.1 hj9).1 hij
              rw [(List.getElem?_eq_some_iff.1 he9).2, (List.getElem?_eq_some_iff.1 hj9).2] at this
              omega
            · subst hij; rw [he9] at hj9; exact Option.some.inj hj9
            · have := List.pairwise_iff_getElem.1 h.net.sorted j9 i (List.getElem?_eq_some_iff.1 hj9).1 (List.getElem?_eq_some_iff.1 he9).1 hij
              rw [(List.getElem?_eq_some_iff.1 he9).2, (List.getElem?_eq_some_iff.1 hj9).2] at this
              omega
          subst hfe
          rw [show sameFB e9.1 e9.2.1 e9.2.2.2.1 f'.1 f'.2.1 f'.2.2.2 = true from by rw [v1, v2, v3]; simp [sameFB]]
          (refine top_in ?_; simp -implicitDefEqProofs only [go_sem, -List.reduceReplicate, ↓L_gdZ_tt, ↓L_gdZ_tf, ↓L_gdZ_ft, ↓L_gdZ_ff, ↓T_and, ↓T_imp, ↓T_all, Nat.reduceBEq, Nat.reduceAdd, Nat.reduceSub, Nat.reduceMul, Nat.reduceLT, Nat.reduceLeDiff, Nat.reduceEqDiff, Int.reduceLT, Int.reduceLE, Int.reduceAdd, Int.reduceSub, Int.reduceMul, Int.reduceNeg, Int.reduceToNat, Int.reduceEq, Int.reduceNe, reduceIte, reduceCtorEq, BitVec.reduceOfInt, BitVec.reduceToNat]; try simp only [top_out])
          refine num_ok 0 _ _ ?_
          (refine top_in ?_; simp -implicitDefEqProofs only [go_sem, -List.reduceReplicate, ↓L_gdZ_tt, ↓L_gdZ_tf, ↓L_gdZ_ft, ↓L_gdZ_ff, ↓T_and, ↓T_imp, ↓T_all, Nat.reduceBEq, Nat.reduceAdd, Nat.reduceSub, Nat.reduceMul, Nat.reduceLT, Nat.reduceLeDiff, Nat.reduceEqDiff, Int.reduceLT, Int.reduceLE, Int.reduceAdd, Int.reduceSub, Int.reduceMul, Int.reduceNeg, Int.reduceToNat, Int.reduceEq, Int.reduceNe, reduceIte, reduceCtorEq, BitVec.reduceOfInt, BitVec.reduceToNat]; try simp only [top_out])
          have hyd : ∀ d, dnS y = some d → d < M.length := fun d e => by
            rcases h.room with ⟨e2, _⟩ | ⟨d2, ty, e2, _, e3, _⟩
            · rw [e2] at e; cases e
            · rw [e2] at e; cases e; exact hinn _ e3
          have hAF : Ag F M M4 := Ag.trans (Ag.trans (Ag.trans (Ag.trans (hA0 _) hA1 (fun n _ e => e ▸ lN m hmF)) hA2 (fun n hn e => by omega)) hA3' (fun n _ e => e ▸ lR r hrF)) hA4 (fun n hn e => by have := e.1; omega)
          refine dropC_all hAF.1 (hK M4 (fun n => F n ∨ F3 n) g ⟨_, F3, nx, m, c, r, _, _, y, z, long, (hA3'.get hp2 hpr |> fun q => hA4.get q (fun e => by have := e.1; omega)), ?_, hN4, hR4, ?_, ?_, ?_, ?_, .inl hfp, ?_⟩ (by omega) (by omega) ?_ hAF)
          · rcases h.room with h1 | ⟨d, ty, h1, h2, h3, h4⟩
            · exact .inl h1
            · have hd := hinn d h3
              have hdn : ¬ Fn d := fun e => (h.fn d e).2.2.2 (by rw [h1]; rfl)
              have hdr : ¬ Fr d := fun e => (h.fr d e).2.2 (by rw [h1]; rfl)
              refine .inr ⟨d, ty, h1, ?_, .inl h3, h4⟩
              refine hA4.get (hA3'.get (hA2.get (hA1.get (by rw [get_lt hd]; exact h2) (fun e => hdn (e ▸ hmF))) (fun e => by omega)) (fun e => hdr (e ▸ hrF))) (fun e => by have := e.1; omega)
          · rw [v1]; exact vw_erase hsame h.net.sorted hi
          · exact Nat.le_trans (List.length_filter_le _ _) hflen
          · intro n e
            refine ⟨.inl (lN n e.1), fun e2 => ?_, (h.fn n e.1).2.2.1, (h.fn n e.1).2.2.2⟩
            rcases hF3' n e2 with e3 | e3
            · exact xNR n e.1 e3
            · have := hinn n (lN n e.1); omega
          · intro n e
            refine ⟨.inr e, fun e2 => ?_, fun e2 => ?_⟩
            · rcases hF3' n e with e3 | e3
              · exact pR (e2 ▸ e3)
              · omega
            · rcases hF3' n e with e3 | e3
              · exact (h.fr n e3).2.2 e2
              · have := hyd n e2; omega
          · rintro n (e | e)
            · have := hinn n e; have := hAF.1; omega
            · exact hR4.inn n e
          · rintro n (e | e)
            · exact .inl e
            · rcases hF3' n e with e3 | e3
              · exact .inl (lR n e3)
              · exact .inr (by omega)
    · have hn : ∀ f, f ∈ fs → f.1 ≠ no := fun f hf e => hno ⟨f, hf, e⟩
      have hn2 := PairSt.none_same' hsame hn
      refine draw_rule tabOK (by kernel_rfl : _) (.p 0 (.p 1 (.p 2 (.p 3 (.p 4 (.p 5 (.e 6 [] (.p 7 (.p 8 (.p 9 (.e 10 [1, 2, 3, 4, 5] (.e 11 [] (.p 12 .nil) .no) .no)))) (.e 10 [1, 2, 3, 4, 5] (.e 6 [] (.p 7 (.p 8 (.p 9 (.e 11 [] (.p 12 .nil) .no)))) .no) .no)))))))) (by kernel_rfl) (by kernel_rfl) ?_
      (refine top_in ?_; simp -implicitDefEqProofs only [go_sem, -List.reduceReplicate, ↓L_gdZ_tt, ↓L_gdZ_tf, ↓L_gdZ_ft, ↓L_gdZ_ff, ↓T_and, ↓T_imp, ↓T_all, Nat.reduceBEq, Nat.reduceAdd, Nat.reduceSub, Nat.reduceMul, Nat.reduceLT, Nat.reduceLeDiff, Nat.reduceEqDiff, Int.reduceLT, Int.reduceLE, Int.reduceAdd, Int.reduceSub, Int.reduceMul, Int.reduceNeg, Int.reduceToNat, Int.reduceEq, Int.reduceNe, reduceIte, reduceCtorEq, BitVec.reduceOfInt, BitVec.reduceToNat, get_lt hpl, hp]; try simp only [top_out])
      refine ⟨?_, ?_⟩
      all_goals
        refine take_none nx m g no _ c 63 _ _ (hS0 _).net.row (hS0 _).net.map (find_no hn) ?_
        (refine top_in ?_; simp -implicitDefEqProofs only [go_sem, -List.reduceReplicate, ↓L_gdZ_tt, ↓L_gdZ_tf, ↓L_gdZ_ft, ↓L_gdZ_ff, ↓T_and, ↓T_imp, ↓T_all, Nat.reduceBEq, Nat.reduceAdd, Nat.reduceSub, Nat.reduceMul, Nat.reduceLT, Nat.reduceLeDiff, Nat.reduceEqDiff, Int.reduceLT, Int.reduceLE, Int.reduceAdd, Int.reduceSub, Int.reduceMul, Int.reduceNeg, Int.reduceToNat, Int.reduceEq, Int.reduceNe, reduceIte, reduceCtorEq, BitVec.reduceOfInt, BitVec.reduceToNat, get_lt hpl, hp]; try simp only [top_out])
        refine draw_rule tabOK (by kernel_rfl : _) (.p 0 (.p 1 (.p 2 (.p 3 (.p 4 (.p 5 (.e 6 [] (.p 7 (.p 8 (.p 9 (.e 10 [1, 2, 3, 4, 5] (.e 11 [] (.p 12 .nil) .no) .no)))) (.e 10 [1, 2, 3, 4, 5] (.e 6 [] (.p 7 (.p 8 (.p 9 (.e 11 [] (.p 12 .nil) .no)))) .no) .no)))))))) (by kernel_rfl) (by kernel_rfl) ?_
        (refine top_in ?_; simp -implicitDefEqProofs only [go_sem, -List.reduceReplicate, ↓L_gdZ_tt, ↓L_gdZ_tf, ↓L_gdZ_ft, ↓L_gdZ_ff, ↓T_and, ↓T_imp, ↓T_all, Nat.reduceBEq, Nat.reduceAdd, Nat.reduceSub, Nat.reduceMul, Nat.reduceLT, Nat.reduceLeDiff, Nat.reduceEqDiff, Int.reduceLT, Int.reduceLE, Int.reduceAdd, Int.reduceSub, Int.reduceMul, Int.reduceNeg, Int.reduceToNat, Int.reduceEq, Int.reduceNe, reduceIte, reduceCtorEq, BitVec.reduceOfInt, BitVec.reduceToNat, get_lt hpl, hp]; try simp only [top_out])
        refine ⟨?_, ?_⟩
        all_goals
          refine rtake_ok r no g rs _ Fr _ (hS0 _).ref (by omega) (fun _ => ?_) (fun i f hi hf => absurd hf (hn2 f (List.mem_of_getElem? hi)))
          (refine top_in ?_; simp -implicitDefEqProofs only [go_sem, -List.reduceReplicate, ↓L_gdZ_tt, ↓L_gdZ_tf, ↓L_gdZ_ft, ↓L_gdZ_ff, ↓T_and, ↓T_imp, ↓T_all, Nat.reduceBEq, Nat.reduceAdd, Nat.reduceSub, Nat.reduceMul, Nat.reduceLT, Nat.reduceLeDiff, Nat.reduceEqDiff, Int.reduceLT, Int.reduceLE, Int.reduceAdd, Int.reduceSub, Int.reduceMul, Int.reduceNeg, Int.reduceToNat, Int.reduceEq, Int.reduceNe, reduceIte, reduceCtorEq, BitVec.reduceOfInt, BitVec.reduceToNat, get_lt hpl, hp]; try simp only [top_out])
          refine sameFlight_ok _ 0 0 0 0 .sn .sn [] [] _ ⟨by simp, .inl ⟨rfl, rfl⟩⟩ ⟨by simp, .inl ⟨rfl, rfl⟩⟩ ?_
          rw [show sameFB 0 0 [] 0 0 [] = true from by decide]
          (refine top_in ?_; simp -implicitDefEqProofs only [go_sem, -List.reduceReplicate, ↓L_gdZ_tt, ↓L_gdZ_tf, ↓L_gdZ_ft, ↓L_gdZ_ff, ↓T_and, ↓T_imp, ↓T_all, Nat.reduceBEq, Nat.reduceAdd, Nat.reduceSub, Nat.reduceMul, Nat.reduceLT, Nat.reduceLeDiff, Nat.reduceEqDiff, Int.reduceLT, Int.reduceLE, Int.reduceAdd, Int.reduceSub, Int.reduceMul, Int.reduceNeg, Int.reduceToNat, Int.reduceEq, Int.reduceNe, reduceIte, reduceCtorEq, BitVec.reduceOfInt, BitVec.reduceToNat]; try simp only [top_out])
          refine num_ok 218 _ _ ?_
          (refine top_in ?_; simp -implicitDefEqProofs only [go_sem, -List.reduceReplicate, ↓L_gdZ_tt, ↓L_gdZ_tf, ↓L_gdZ_ft, ↓L_gdZ_ff, ↓T_and, ↓T_imp, ↓T_all, Nat.reduceBEq, Nat.reduceAdd, Nat.reduceSub, Nat.reduceMul, Nat.reduceLT, Nat.reduceLeDiff, Nat.reduceEqDiff, Int.reduceLT, Int.reduceLE, Int.reduceAdd, Int.reduceSub, Int.reduceMul, Int.reduceNeg, Int.reduceToNat, Int.reduceEq, Int.reduceNe, reduceIte, reduceCtorEq, BitVec.reduceOfInt, BitVec.reduceToNat]; try simp only [top_out])
          exact fin _ _ F g (hP0 _) (by omega) (by omega) (fun n e => .inl e) Ag.refl
  · by_cases hno : ∃ f, f ∈ fs ∧ f.1 = no
    · obtain ⟨f, hfm, rfl⟩ := hno
      refine draw_rule tabOK (by kernel_rfl : _) (.p 0 (.p 1 (.p 2 (.p 3 (.p 4 (.p 5 (.e 6 [] (.p 7 .nil) .no))))))) (by kernel_rfl) (by kernel_rfl) ?_
      (refine top_in ?_; simp -implicitDefEqProofs only [go_sem, -List.reduceReplicate, ↓L_gdZ_tt, ↓L_gdZ_tf, ↓L_gdZ_ft, ↓L_gdZ_ff, ↓T_and, ↓T_imp, ↓T_all, Nat.reduceBEq, Nat.reduceAdd, Nat.reduceSub, Nat.reduceMul, Nat.reduceLT, Nat.reduceLeDiff, Nat.reduceEqDiff, Int.reduceLT, Int.reduceLE, Int.reduceAdd, Int.reduceSub, Int.reduceMul, Int.reduceNeg, Int.reduceToNat, Int.reduceEq, Int.reduceNe, reduceIte, reduceCtorEq, BitVec.reduceOfInt, BitVec.reduceToNat, get_lt hpl, hp]; try simp only [top_out])
      refine drop_st nx m c g f fs _ Fn _ (hS0 _).net hfm (fun M1 hN1 hA1 => ?_)
      have hA1' := hA1.mono (S' := Fn) (fun n e => e ▸ h.net.fm)
      have hp1 := hA1'.get ((hS0 _).row) pN
      have hb1 := hA1.get (n := M.length) (by simp [go_sem]; rfl) (fun e => by have := hinn m (lN m h.net.fm); omega)
      (refine top_in ?_; simp -implicitDefEqProofs only [go_sem, -List.reduceReplicate, ↓L_gdZ_tt, ↓L_gdZ_tf, ↓L_gdZ_ft, ↓L_gdZ_ff, ↓T_and, ↓T_imp, ↓T_all, Nat.reduceBEq, Nat.reduceAdd, Nat.reduceSub, Nat.reduceMul, Nat.reduceLT, Nat.reduceLeDiff, Nat.reduceEqDiff, Int.reduceLT, Int.reduceLE, Int.reduceAdd, Int.reduceSub, Int.reduceMul, Int.reduceNeg, Int.reduceToNat, Int.reduceEq, Int.reduceNe, reduceIte, reduceCtorEq, BitVec.reduceOfInt, BitVec.reduceToNat, hp1, hb1]; try simp only [top_out])
      refine draw_rule tabOK (by kernel_rfl : _) (.p 0 (.p 1 (.p 2 (.p 3 (.p 4 (.p 5 (.e 6 [] (.p 7 .nil) .no))))))) (by kernel_rfl) (by kernel_rfl) ?_
      (refine top_in ?_; simp -implicitDefEqProofs only [go_sem, -List.reduceReplicate, ↓L_gdZ_tt, ↓L_gdZ_tf, ↓L_gdZ_ft, ↓L_gdZ_ff, ↓T_and, ↓T_imp, ↓T_all, Nat.reduceBEq, Nat.reduceAdd, Nat.reduceSub, Nat.reduceMul, Nat.reduceLT, Nat.reduceLeDiff, Nat.reduceEqDiff, Int.reduceLT, Int.reduceLE, Int.reduceAdd, Int.reduceSub, Int.reduceMul, Int.reduceNeg, Int.reduceToNat, Int.reduceEq, Int.reduceNe, reduceIte, reduceCtorEq, BitVec.reduceOfInt, BitVec.reduceToNat, hp1, hb1]; try simp only [top_out])
      refine rdrop_ok r f.1 g rs _ Fr _ ((hS0 _).ref.ag hA1' (fun n e e2 => xNR n e2 e)) (by omega) (fun hn => absurd rfl (PairSt.none_same hsame hn f hfm)) (fun i f' hi hf' hj M2 F2 hR2 hF2 hA2 => ?_)
      (refine top_in ?_; simp -implicitDefEqProofs only [go_sem, -List.reduceReplicate, ↓L_gdZ_tt, ↓L_gdZ_tf, ↓L_gdZ_ft, ↓L_gdZ_ff, ↓T_and, ↓T_imp, ↓T_all, Nat.reduceBEq, Nat.reduceAdd, Nat.reduceSub, Nat.reduceMul, Nat.reduceLT, Nat.reduceLeDiff, Nat.reduceEqDiff, Int.reduceLT, Int.reduceLE, Int.reduceAdd, Int.reduceSub, Int.reduceMul, Int.reduceNeg, Int.reduceToNat, Int.reduceEq, Int.reduceNe, reduceIte, reduceCtorEq, BitVec.reduceOfInt, BitVec.reduceToNat]; try simp only [top_out])
      refine num_ok 0 _ _ ?_
      (refine top_in ?_; simp -implicitDefEqProofs only [go_sem, -List.reduceReplicate, ↓L_gdZ_tt, ↓L_gdZ_tf, ↓L_gdZ_ft, ↓L_gdZ_ff, ↓T_and, ↓T_imp, ↓T_all, Nat.reduceBEq, Nat.reduceAdd, Nat.reduceSub, Nat.reduceMul, Nat.reduceLT, Nat.reduceLeDiff, Nat.reduceEqDiff, Int.reduceLT, Int.reduceLE, Int.reduceAdd, Int.reduceSub, Int.reduceMul, Int.reduceNeg, Int.reduceToNat, Int.reduceEq, Int.reduceNe, reduceIte, reduceCtorEq, BitVec.reduceOfInt, BitVec.reduceToNat]; try simp only [top_out])
      obtain ⟨v1, v2, v3⟩ := ent_same hsame h.net.sorted hfm hi hf'
      obtain ⟨s1, s2, s3⟩ := (hS0 _).step hA1' hN1 (fun n e => .inl e.1) (hA2.mono (S' := Fr) (fun n e => e ▸ h.ref.fr)) hR2 hF2 (by rw [v1]; exact vw_erase hsame h.net.sorted hi) (Nat.le_trans (List.length_filter_le _ _) hflen)
      exact fin _ M2 _ g s1 (by omega) (by omega) s2 s3
    · have hn : ∀ f, f ∈ fs → f.1 ≠ no := fun f hf e => hno ⟨f, hf, e⟩
      have hn2 := PairSt.none_same' hsame hn
      refine draw_rule tabOK (by kernel_rfl : _) (.p 0 (.p 1 (.p 2 (.p 3 (.p 4 (.p 5 (.e 6 [] (.p 7 .nil) .no))))))) (by kernel_rfl) (by kernel_rfl) ?_
      (refine top_in ?_; simp -implicitDefEqProofs only [go_sem, -List.reduceReplicate, ↓L_gdZ_tt, ↓L_gdZ_tf, ↓L_gdZ_ft, ↓L_gdZ_ff, ↓T_and, ↓T_imp, ↓T_all, Nat.reduceBEq, Nat.reduceAdd, Nat.reduceSub, Nat.reduceMul, Nat.reduceLT, Nat.reduceLeDiff, Nat.reduceEqDiff, Int.reduceLT, Int.reduceLE, Int.reduceAdd, Int.reduceSub, Int.reduceMul, Int.reduceNeg, Int.reduceToNat, Int.reduceEq, Int.reduceNe, reduceIte, reduceCtorEq, BitVec.reduceOfInt, BitVec.reduceToNat, get_lt hpl, hp]; try simp only [top_out])
      refine drop_none nx m g no _ c 63 _ _ (hS0 _).net.row (hS0 _).net.map (find_no hn) ?_
      (refine top_in ?_; simp -implicitDefEqProofs only [go_sem, -List.reduceReplicate, ↓L_gdZ_tt, ↓L_gdZ_tf, ↓L_gdZ_ft, ↓L_gdZ_ff, ↓T_and, ↓T_imp, ↓T_all, Nat.reduceBEq, Nat.reduceAdd, Nat.reduceSub, Nat.reduceMul, Nat.reduceLT, Nat.reduceLeDiff, Nat.reduceEqDiff, Int.reduceLT, Int.reduceLE, Int.reduceAdd, Int.reduceSub, Int.reduceMul, Int.reduceNeg, Int.reduceToNat, Int.reduceEq, Int.reduceNe, reduceIte, reduceCtorEq, BitVec.reduceOfInt, BitVec.reduceToNat, get_lt hpl, hp]; try simp only [top_out])
      refine draw_rule tabOK (by kernel_rfl : _) (.p 0 (.p 1 (.p 2 (.p 3 (.p 4 (.p 5 (.e 6 [] (.p 7 .nil) .no))))))) (by kernel_rfl) (by kernel_rfl) ?_
      (refine top_in ?_; simp -implicitDefEqProofs only [go_sem, -List.reduceReplicate, ↓L_gdZ_tt, ↓L_gdZ_tf, ↓L_gdZ_ft, ↓L_gdZ_ff, ↓T_and, ↓T_imp, ↓T_all, Nat.reduceBEq, Nat.reduceAdd, Nat.reduceSub, Nat.reduceMul, Nat.reduceLT, Nat.reduceLeDiff, Nat.reduceEqDiff, Int.reduceLT, Int.reduceLE, Int.reduceAdd, Int.reduceSub, Int.reduceMul, Int.reduceNeg, Int.reduceToNat, Int.reduceEq, Int.reduceNe, reduceIte, reduceCtorEq, BitVec.reduceOfInt, BitVec.reduceToNat, get_lt hpl, hp]; try simp only [top_out])
      refine rdrop_ok r no g rs _ Fr _ (hS0 _).ref (by omega) (fun _ => ?_) (fun i f hi hf => absurd hf (hn2 f (List.mem_of_getElem? hi)))
      (refine top_in ?_; simp -implicitDefEqProofs only [go_sem, -List.reduceReplicate, ↓L_gdZ_tt, ↓L_gdZ_tf, ↓L_gdZ_ft, ↓L_gdZ_ff, ↓T_and, ↓T_imp, ↓T_all, Nat.reduceBEq, Nat.reduceAdd, Nat.reduceSub, Nat.reduceMul, Nat.reduceLT, Nat.reduceLeDiff, Nat.reduceEqDiff, Int.reduceLT, Int.reduceLE, Int.reduceAdd, Int.reduceSub, Int.reduceMul, Int.reduceNeg, Int.reduceToNat, Int.reduceEq, Int.reduceNe, reduceIte, reduceCtorEq, BitVec.reduceOfInt, BitVec.reduceToNat]; try simp only [top_out])
      refine num_ok 218 _ _ ?_
      (refine top_in ?_; simp -implicitDefEqProofs only [go_sem, -List.reduceReplicate, ↓L_gdZ_tt, ↓L_gdZ_tf, ↓L_gdZ_ft, ↓L_gdZ_ff, ↓T_and, ↓T_imp, ↓T_all, Nat.reduceBEq, Nat.reduceAdd, Nat.reduceSub, Nat.reduceMul, Nat.reduceLT, Nat.reduceLeDiff, Nat.reduceEqDiff, Int.reduceLT, Int.reduceLE, Int.reduceAdd, Int.reduceSub, Int.reduceMul, Int.reduceNeg, Int.reduceToNat, Int.reduceEq, Int.reduceNe, reduceIte, reduceCtorEq, BitVec.reduceOfInt, BitVec.reduceToNat]; try simp only [top_out])
      exact fin _ _ F g (hP0 _) (by omega) (by omega) (fun n e => .inl e) Ag.refl
  · exact fin _ _ F g (hP0 _) (by omega) (by omega) (fun n e => .inl e) Ag.refl
  · by_cases hno : ∃ f, f ∈ fs ∧ f.1 = no
    · obtain ⟨f, hfm, rfl⟩ := hno
      have hdf := h.net.data f hfm
      refine draw_rule tabOK (by kernel_rfl : _) (.p 0 (.p 1 (.p 2 (.p 3 (.p 4 (.p 5 (.e 6 [] (.p 7 (.p 8 (.p 9 (.p 10 (.p 11 .nil))))) .no))))))) (by kernel_rfl) (by kernel_rfl) ?_
      (refine top_in ?_; simp -implicitDefEqProofs only [go_sem, -List.reduceReplicate, ↓L_gdZ_tt, ↓L_gdZ_tf, ↓L_gdZ_ft, ↓L_gdZ_ff, ↓T_and, ↓T_imp, ↓T_all, Nat.reduceBEq, Nat.reduceAdd, Nat.reduceSub, Nat.reduceMul, Nat.reduceLT, Nat.reduceLeDiff, Nat.reduceEqDiff, Int.reduceLT, Int.reduceLE, Int.reduceAdd, Int.reduceSub, Int.reduceMul, Int.reduceNeg, Int.reduceToNat, Int.reduceEq, Int.reduceNe, reduceIte, reduceCtorEq, BitVec.reduceOfInt, BitVec.reduceToNat, get_lt hpl, hp]; try simp only [top_out])
      by_cases hfu : fs.length < 1024
      · refine copy_st nx m c g f fs _ Fn _ (hS0 _).net hfu (by omega) hfm (fun M1 F1 x1 hN1 hF1 hA1 => ?_)
        have hp1 := hA1.get ((hS0 _).row) pN
        have hb1 := hA1.get (n := M.length) (by simp [go_sem]; rfl) (fun e => by have := hinn _ (lN _ e); omega)
        (refine top_in ?_; simp -implicitDefEqProofs only [go_sem, -List.reduceReplicate, ↓L_gdZ_tt, ↓L_gdZ_tf, ↓L_gdZ_ft, ↓L_gdZ_ff, ↓T_and, ↓T_imp, ↓T_all, Nat.reduceBEq, Nat.reduceAdd, Nat.reduceSub, Nat.reduceMul, Nat.reduceLT, Nat.reduceLeDiff, Nat.reduceEqDiff, Int.reduceLT, Int.reduceLE, Int.reduceAdd, Int.reduceSub, Int.reduceMul, Int.reduceNeg, Int.reduceToNat, Int.reduceEq, Int.reduceNe, reduceIte, reduceCtorEq, BitVec.reduceOfInt, BitVec.reduceToNat, hp1, hb1]; try simp only [top_out])
        refine draw_rule tabOK (by kernel_rfl : _) (.p 0 (.p 1 (.p 2 (.p 3 (.p 4 (.p 5 (.e 6 [] (.p 7 (.p 8 (.p 9 (.p 10 (.p 11 .nil))))) .no))))))) (by kernel_rfl) (by kernel_rfl) ?_
        (refine top_in ?_; simp -implicitDefEqProofs only [go_sem, -List.reduceReplicate, ↓L_gdZ_tt, ↓L_gdZ_tf, ↓L_gdZ_ft, ↓L_gdZ_ff, ↓T_and, ↓T_imp, ↓T_all, Nat.reduceBEq, Nat.reduceAdd, Nat.reduceSub, Nat.reduceMul, Nat.reduceLT, Nat.reduceLeDiff, Nat.reduceEqDiff, Int.reduceLT, Int.reduceLE, Int.reduceAdd, Int.reduceSub, Int.reduceMul, Int.reduceNeg, Int.reduceToNat, Int.reduceEq, Int.reduceNe, reduceIte, reduceCtorEq, BitVec.reduceOfInt, BitVec.reduceToNat, hp1, hb1]; try simp only [top_out])
        refine rcopy_ok r f.1 g rs _ Fr _ ((hS0 _).ref.ag hA1 (fun n e e2 => xNR n e2 e)) (by omega) h.net.g0 (by omega) (fun hn => absurd rfl (PairSt.none_same hsame hn f hfm)) (fun _ _ _ hfu2 => absurd hfu2 (by omega)) (fun i f' hi hf' hj _ M2 F2 x2 hR2 hF2 hA2 => ?_)
        (refine top_in ?_; simp -implicitDefEqProofs only [go_sem, -List.reduceReplicate, ↓L_gdZ_tt, ↓L_gdZ_tf, ↓L_gdZ_ft, ↓L_gdZ_ff, ↓T_and, ↓T_imp, ↓T_all, Nat.reduceBEq, Nat.reduceAdd, Nat.reduceSub, Nat.reduceMul, Nat.reduceLT, Nat.reduceLeDiff, Nat.reduceEqDiff, Int.reduceLT, Int.reduceLE, Int.reduceAdd, Int.reduceSub, Int.reduceMul, Int.reduceNeg, Int.reduceToNat, Int.reduceEq, Int.reduceNe, reduceIte, reduceCtorEq, BitVec.reduceOfInt, BitVec.reduceToNat]; try simp only [top_out])
        refine num_ok 0 _ _ ?_
        (refine top_in ?_; simp -implicitDefEqProofs only [go_sem, -List.reduceReplicate, ↓L_gdZ_tt, ↓L_gdZ_tf, ↓L_gdZ_ft, ↓L_gdZ_ff, ↓T_and, ↓T_imp, ↓T_all, Nat.reduceBEq, Nat.reduceAdd, Nat.reduceSub, Nat.reduceMul, Nat.reduceLT, Nat.reduceLeDiff, Nat.reduceEqDiff, Int.reduceLT, Int.reduceLE, Int.reduceAdd, Int.reduceSub, Int.reduceMul, Int.reduceNeg, Int.reduceToNat, Int.reduceEq, Int.reduceNe, reduceIte, reduceCtorEq, BitVec.reduceOfInt, BitVec.reduceToNat]; try simp only [top_out])
        obtain ⟨v1, v2, v3⟩ := ent_same hsame h.net.sorted hfm hi hf'
        obtain ⟨s1, s2, s3⟩ := (hS0 _).step hA1 hN1 hF1 hA2 hR2 hF2 (by rw [v2, v3]; unfold vwE vwR at hsame ⊢; rw [List.map_append, List.map_append, hsame]; rfl) (by simp; omega)
        exact fin _ M2 _ (g + 1) s1 (by omega) (by omega) s2 s3
      · refine copy_full nx m g f.1 f.2.1 f.2.2.1 _ c 63 _ _ (hS0 _).net.row (hS0 _).net.map (by simp; omega) (find_yes h.net.sorted hfm) hdf.lt.1 ?_
        (refine top_in ?_; simp -implicitDefEqProofs only [go_sem, -List.reduceReplicate, ↓L_gdZ_tt, ↓L_gdZ_tf, ↓L_gdZ_ft, ↓L_gdZ_ff, ↓T_and, ↓T_imp, ↓T_all, Nat.reduceBEq, Nat.reduceAdd, Nat.reduceSub, Nat.reduceMul, Nat.reduceLT, Nat.reduceLeDiff, Nat.reduceEqDiff, Int.reduceLT, Int.reduceLE, Int.reduceAdd, Int.reduceSub, Int.reduceMul, Int.reduceNeg, Int.reduceToNat, Int.reduceEq, Int.reduceNe, reduceIte, reduceCtorEq, BitVec.reduceOfInt, BitVec.reduceToNat, get_lt hpl, hp]; try simp only [top_out])
        refine draw_rule tabOK (by kernel_rfl : _) (.p 0 (.p 1 (.p 2 (.p 3 (.p 4 (.p 5 (.e 6 [] (.p 7 (.p 8 (.p 9 (.p 10 (.p 11 .nil))))) .no))))))) (by kernel_rfl) (by kernel_rfl) ?_
        (refine top_in ?_; simp -implicitDefEqProofs only [go_sem, -List.reduceReplicate, ↓L_gdZ_tt, ↓L_gdZ_tf, ↓L_gdZ_ft, ↓L_gdZ_ff, ↓T_and, ↓T_imp, ↓T_all, Nat.reduceBEq, Nat.reduceAdd, Nat.reduceSub, Nat.reduceMul, Nat.reduceLT, Nat.reduceLeDiff, Nat.reduceEqDiff, Int.reduceLT, Int.reduceLE, Int.reduceAdd, Int.reduceSub, Int.reduceMul, Int.reduceNeg, Int.reduceToNat, Int.reduceEq, Int.reduceNe, reduceIte, reduceCtorEq, BitVec.reduceOfInt, BitVec.reduceToNat, get_lt hpl, hp]; try simp only [top_out])
        refine rcopy_ok r f.1 g rs _ Fr _ (hS0 _).ref (by omega) h.net.g0 (by omega) (fun hn => absurd rfl (PairSt.none_same hsame hn f hfm)) (fun _ _ _ _ => ?_) (fun i f' hi hf' hj hlt => absurd hlt (by omega))
        (refine top_in ?_; simp -implicitDefEqProofs only [go_sem, -List.reduceReplicate, ↓L_gdZ_tt, ↓L_gdZ_tf, ↓L_gdZ_ft, ↓L_gdZ_ff, ↓T_and, ↓T_imp, ↓T_all, Nat.reduceBEq, Nat.reduceAdd, Nat.reduceSub, Nat.reduceMul, Nat.reduceLT, Nat.reduceLeDiff, Nat.reduceEqDiff, Int.reduceLT, Int.reduceLE, Int.reduceAdd, Int.reduceSub, Int.reduceMul, Int.reduceNeg, Int.reduceToNat, Int.reduceEq, Int.reduceNe, reduceIte, reduceCtorEq, BitVec.reduceOfInt, BitVec.reduceToNat]; try simp only [top_out])
        refine num_ok 0 _ _ ?_
        (refine top_in ?_; simp -implicitDefEqProofs only [go_sem, -List.reduceReplicate, ↓L_gdZ_tt, ↓L_gdZ_tf, ↓L_gdZ_ft, ↓L_gdZ_ff, ↓T_and, ↓T_imp, ↓T_all, Nat.reduceBEq, Nat.reduceAdd, Nat.reduceSub, Nat.reduceMul, Nat.reduceLT, Nat.reduceLeDiff, Nat.reduceEqDiff, Int.reduceLT, Int.reduceLE, Int.reduceAdd, Int.reduceSub, Int.reduceMul, Int.reduceNeg, Int.reduceToNat, Int.reduceEq, Int.reduceNe, reduceIte, reduceCtorEq, BitVec.reduceOfInt, BitVec.reduceToNat]; try simp only [top_out])
        exact fin _ _ F g (hP0 _) (by omega) (by omega) (fun n e => .inl e) Ag.refl
    · have hn : ∀ f, f ∈ fs → f.1 ≠ no := fun f hf e => hno ⟨f, hf, e⟩
      have hn2 := PairSt.none_same' hsame hn
      refine draw_rule tabOK (by kernel_rfl : _) (.p 0 (.p 1 (.p 2 (.p 3 (.p 4 (.p 5 (.e 6 [] (.p 7 (.p 8 (.p 9 (.p 10 (.p 11 .nil))))) .no))))))) (by kernel_rfl) (by kernel_rfl) ?_
      (refine top_in ?_; simp -implicitDefEqProofs only [go_sem, -List.reduceReplicate, ↓L_gdZ_tt, ↓L_gdZ_tf, ↓L_gdZ_ft, ↓L_gdZ_ff, ↓T_and, ↓T_imp, ↓T_all, Nat.reduceBEq, Nat.reduceAdd, Nat.reduceSub, Nat.reduceMul, Nat.reduceLT, Nat.reduceLeDiff, Nat.reduceEqDiff, Int.reduceLT, Int.reduceLE, Int.reduceAdd, Int.reduceSub, Int.reduceMul, Int.reduceNeg, Int.reduceToNat, Int.reduceEq, Int.reduceNe, reduceIte, reduceCtorEq, BitVec.reduceOfInt, BitVec.reduceToNat, get_lt hpl, hp]; try simp only [top_out])
      refine copy_none nx m g no _ c 63 _ _ (hS0 _).net.row (hS0 _).net.map (find_no hn) ?_
      (refine top_in ?_; simp -implicitDefEqProofs only [go_sem, -List.reduceReplicate, ↓L_gdZ_tt, ↓L_gdZ_tf, ↓L_gdZ_ft, ↓L_gdZ_ff, ↓T_and, ↓T_imp, ↓T_all, Nat.reduceBEq, Nat.reduceAdd, Nat.reduceSub, Nat.reduceMul, Nat.reduceLT, Nat.reduceLeDiff, Nat.reduceEqDiff, Int.reduceLT, Int.reduceLE, Int.reduceAdd, Int.reduceSub, Int.reduceMul, Int.reduceNeg, Int.reduceToNat, Int.reduceEq, Int.reduceNe, reduceIte, reduceCtorEq, BitVec.reduceOfInt, BitVec.reduceToNat, get_lt hpl, hp]; try simp only [top_out])
      refine draw_rule tabOK (by kernel_rfl : _) (.p 0 (.p 1 (.p 2 (.p 3 (.p 4 (.p 5 (.e 6 [] (.p 7 (.p 8 (.p 9 (.p 10 (.p 11 .nil))))) .no))))))) (by kernel_rfl) (by kernel_rfl) ?_
      (refine top_in ?_; simp -implicitDefEqProofs only [go_sem, -List.reduceReplicate, ↓L_gdZ_tt, ↓L_gdZ_tf, ↓L_gdZ_ft, ↓L_gdZ_ff, ↓T_and, ↓T_imp, ↓T_all, Nat.reduceBEq, Nat.reduceAdd, Nat.reduceSub, Nat.reduceMul, Nat.reduceLT, Nat.reduceLeDiff, Nat.reduceEqDiff, Int.reduceLT, Int.reduceLE, Int.reduceAdd, Int.reduceSub, Int.reduceMul, Int.reduceNeg, Int.reduceToNat, Int.reduceEq, Int.reduceNe, reduceIte, reduceCtorEq, BitVec.reduceOfInt, BitVec.reduceToNat, get_lt hpl, hp]; try simp only [top_out])
      refine rcopy_ok r no g rs _ Fr _ (hS0 _).ref (by omega) h.net.g0 (by omega) (fun _ => ?_) (fun f hf e _ => absurd e (hn2 f hf)) (fun i f hi hf => absurd hf (hn2 f (List.mem_of_getElem? hi)))
      (refine top_in ?_; simp -implicitDefEqProofs only [go_sem, -List.reduceReplicate, ↓L_gdZ_tt, ↓L_gdZ_tf, ↓L_gdZ_ft, ↓L_gdZ_ff, ↓T_and, ↓T_imp, ↓T_all, Nat.reduceBEq, Nat.reduceAdd, Nat.reduceSub, Nat.reduceMul, Nat.reduceLT, Nat.reduceLeDiff, Nat.reduceEqDiff, Int.reduceLT, Int.reduceLE, Int.reduceAdd, Int.reduceSub, Int.reduceMul, Int.reduceNeg, Int.reduceToNat, Int.reduceEq, Int.reduceNe, reduceIte, reduceCtorEq, BitVec.reduceOfInt, BitVec.reduceToNat]; try simp only [top_out])
      refine num_ok 218 _ _ ?_
      (refine top_in ?_; simp -implicitDefEqProofs only [go_sem, -List.reduceReplicate, ↓L_gdZ_tt, ↓L_gdZ_tf, ↓L_gdZ_ft, ↓L_gdZ_ff, ↓T_and, ↓T_imp, ↓T_all, Nat.reduceBEq, Nat.reduceAdd, Nat.reduceSub, Nat.reduceMul, Nat.reduceLT, Nat.reduceLeDiff, Nat.reduceEqDiff, Int.reduceLT, Int.reduceLE, Int.reduceAdd, Int.reduceSub, Int.reduceMul, Int.reduceNeg, Int.reduceToNat, Int.reduceEq, Int.reduceNe, reduceIte, reduceCtorEq, BitVec.reduceOfInt, BitVec.reduceToNat]; try simp only [top_out])
      exact fin _ _ F g (hP0 _) (by omega) (by omega) (fun n e => .inl e) Ag.refl
  · by_cases hno : ∃ f, f ∈ fs ∧ f.1 = no
    · obtain ⟨f, hfm, rfl⟩ := hno
      refine draw_rule tabOK (by kernel_rfl : _) (.p 0 (.p 1 (.p 2 (.p 3 (.p 4 (.p 5 (.p 6 (.p 7 (.p 8 (.p 9 (.e 10 [] (.p 11 .nil) .no))))))))))) (by kernel_rfl) (by kernel_rfl) ?_
      (refine top_in ?_; simp -implicitDefEqProofs only [go_sem, -List.reduceReplicate, ↓L_gdZ_tt, ↓L_gdZ_tf, ↓L_gdZ_ft, ↓L_gdZ_ff, ↓T_and, ↓T_imp, ↓T_all, Nat.reduceBEq, Nat.reduceAdd, Nat.reduceSub, Nat.reduceMul, Nat.reduceLT, Nat.reduceLeDiff, Nat.reduceEqDiff, Int.reduceLT, Int.reduceLE, Int.reduceAdd, Int.reduceSub, Int.reduceMul, Int.reduceNeg, Int.reduceToNat, Int.reduceEq, Int.reduceNe, reduceIte, reduceCtorEq, BitVec.reduceOfInt, BitVec.reduceToNat, get_lt hpl, hp]; try simp only [top_out])
      by_cases hbad : a < 0 ∨ (f.2.2.2.1.length : Int) ≤ a ∨ xx < 1 ∨ 255 < xx
      · refine flip_st nx m c g a xx f fs _ Fn _ (hS0 _).net hfm (fun _ => ?_) (fun a0 a1 x0 x1 => absurd hbad (by omega))
        (refine top_in ?_; simp -implicitDefEqProofs only [go_sem, -List.reduceReplicate, ↓L_gdZ_tt, ↓L_gdZ_tf, ↓L_gdZ_ft, ↓L_gdZ_ff, ↓T_and, ↓T_imp, ↓T_all, Nat.reduceBEq, Nat.reduceAdd, Nat.reduceSub, Nat.reduceMul, Nat.reduceLT, Nat.reduceLeDiff, Nat.reduceEqDiff, Int.reduceLT, Int.reduceLE, Int.reduceAdd, Int.reduceSub, Int.reduceMul, Int.reduceNeg, Int.reduceToNat, Int.reduceEq, Int.reduceNe, reduceIte, reduceCtorEq, BitVec.reduceOfInt, BitVec.reduceToNat, get_lt hpl, hp]; try simp only [top_out])
        refine draw_rule tabOK (by kernel_rfl : _) (.p 0 (.p 1 (.p 2 (.p 3 (.p 4 (.p 5 (.p 6 (.p 7 (.p 8 (.p 9 (.e 10 [] (.p 11 .nil) .no))))))))))) (by kernel_rfl) (by kernel_rfl) ?_
        (refine top_in ?_; simp -implicitDefEqProofs only [go_sem, -List.reduceReplicate, ↓L_gdZ_tt, ↓L_gdZ_tf, ↓L_gdZ_ft, ↓L_gdZ_ff, ↓T_and, ↓T_imp, ↓T_all, Nat.reduceBEq, Nat.reduceAdd, Nat.reduceSub, Nat.reduceMul, Nat.reduceLT, Nat.reduceLeDiff, Nat.reduceEqDiff, Int.reduceLT, Int.reduceLE, Int.reduceAdd, Int.reduceSub, Int.reduceMul, Int.reduceNeg, Int.reduceToNat, Int.reduceEq, Int.reduceNe, reduceIte, reduceCtorEq, BitVec.reduceOfInt, BitVec.reduceToNat, get_lt hpl, hp]; try simp only [top_out])
        refine rflip_ok r f.1 a xx g rs _ Fr _ (hS0 _).ref (by omega) (fun hn => absurd rfl (PairSt.none_same hsame hn f hfm)) (fun i f' hi hf' _ => ?_) (fun i f' hi hf' hj a0 a1 x0 x1 => absurd hbad (by have := (ent_same hsame h.net.sorted hfm hi hf').2.2; rw [this]; omega))
        (refine top_in ?_; simp -implicitDefEqProofs only [go_sem, -List.reduceReplicate, ↓L_gdZ_tt, ↓L_gdZ_tf, ↓L_gdZ_ft, ↓L_gdZ_ff, ↓T_and, ↓T_imp, ↓T_all, Nat.reduceBEq, Nat.reduceAdd, Nat.reduceSub, Nat.reduceMul, Nat.reduceLT, Nat.reduceLeDiff, Nat.reduceEqDiff, Int.reduceLT, Int.reduceLE, Int.reduceAdd, Int.reduceSub, Int.reduceMul, Int.reduceNeg, Int.reduceToNat, Int.reduceEq, Int.reduceNe, reduceIte, reduceCtorEq, BitVec.reduceOfInt, BitVec.reduceToNat]; try simp only [top_out])
        refine num_ok 2 _ _ ?_
        (refine top_in ?_; simp -implicitDefEqProofs only [go_sem, -List.reduceReplicate, ↓L_gdZ_tt, ↓L_gdZ_tf, ↓L_gdZ_ft, ↓L_gdZ_ff, ↓T_and, ↓T_imp, ↓T_all, Nat.reduceBEq, Nat.reduceAdd, Nat.reduceSub, Nat.reduceMul, Nat.reduceLT, Nat.reduceLeDiff, Nat.reduceEqDiff, Int.reduceLT, Int.reduceLE, Int.reduceAdd, Int.reduceSub, Int.reduceMul, Int.reduceNeg, Int.reduceToNat, Int.reduceEq, Int.reduceNe, reduceIte, reduceCtorEq, BitVec.reduceOfInt, BitVec.reduceToNat]; try simp only [top_out])
        exact fin _ _ F g (hP0 _) (by omega) (by omega) (fun n e => .inl e) Ag.refl
      · refine flip_st nx m c g a xx f fs _ Fn _ (hS0 _).net hfm (fun hb => absurd hb hbad) (fun a0 a1 x0 x1 M1 hN1 hA1 => ?_)
        have hA1' := hA1.mono (S' := Fn) (fun n e => e.1)
        have hp1 := hA1'.get ((hS0 _).row) pN
        have hb1 := hA1'.get (n := M.length) (by simp [go_sem]; rfl) (fun e => by have := hinn _ (lN _ e); omega)
        (refine top_in ?_; simp -implicitDefEqProofs only [go_sem, -List.reduceReplicate, ↓L_gdZ_tt, ↓L_gdZ_tf, ↓L_gdZ_ft, ↓L_gdZ_ff, ↓T_and, ↓T_imp, ↓T_all, Nat.reduceBEq, Nat.reduceAdd, Nat.reduceSub, Nat.reduceMul, Nat.reduceLT, Nat.reduceLeDiff, Nat.reduceEqDiff, Int.reduceLT, Int.reduceLE, Int.reduceAdd, Int.reduceSub, Int.reduceMul, Int.reduceNeg, Int.reduceToNat, Int.reduceEq, Int.reduceNe, reduceIte, reduceCtorEq, BitVec.reduceOfInt, BitVec.reduceToNat, hp1, hb1]; try simp only [top_out])
        refine draw_rule tabOK (by kernel_rfl : _) (.p 0 (.p 1 (.p 2 (.p 3 (.p 4 (.p 5 (.p 6 (.p 7 (.p 8 (.p 9 (.e 10 [] (.p 11 .nil) .no))))))))))) (by kernel_rfl) (by kernel_rfl) ?_
        (refine top_in ?_; simp -implicitDefEqProofs only [go_sem, -List.reduceReplicate, ↓L_gdZ_tt, ↓L_gdZ_tf, ↓L_gdZ_ft, ↓L_gdZ_ff, ↓T_and, ↓T_imp, ↓T_all, Nat.reduceBEq, Nat.reduceAdd, Nat.reduceSub, Nat.reduceMul, Nat.reduceLT, Nat.reduceLeDiff, Nat.reduceEqDiff, Int.reduceLT, Int.reduceLE, Int.reduceAdd, Int.reduceSub, Int.reduceMul, Int.reduceNeg, Int.reduceToNat, Int.reduceEq, Int.reduceNe, reduceIte, reduceCtorEq, BitVec.reduceOfInt, BitVec.reduceToNat, hp1, hb1]; try simp only [top_out])
        refine rflip_ok r f.1 a xx g rs _ Fr _ ((hS0 _).ref.ag hA1' (fun n e e2 => xNR n e2 e)) (by omega) (fun hn => absurd rfl (PairSt.none_same hsame hn f hfm)) (fun i f' hi hf' hb => absurd hb (by rw [← (ent_same hsame h.net.sorted hfm hi hf').2.2]; exact hbad)) (fun i f' hi hf' hj _ _ _ _ M2 F2 x2 hR2 hF2 hA2 => ?_)
        (refine top_in ?_; simp -implicitDefEqProofs only [go_sem, -List.reduceReplicate, ↓L_gdZ_tt, ↓L_gdZ_tf, ↓L_gdZ_ft, ↓L_gdZ_ff, ↓T_and, ↓T_imp, ↓T_all, Nat.reduceBEq, Nat.reduceAdd, Nat.reduceSub, Nat.reduceMul, Nat.reduceLT, Nat.reduceLeDiff, Nat.reduceEqDiff, Int.reduceLT, Int.reduceLE, Int.reduceAdd, Int.reduceSub, Int.reduceMul, Int.reduceNeg, Int.reduceToNat, Int.reduceEq, Int.reduceNe, reduceIte, reduceCtorEq, BitVec.reduceOfInt, BitVec.reduceToNat]; try simp only [top_out])
        refine num_ok 0 _ _ ?_
        (refine top_in ?_; simp -implicitDefEqProofs only [go_sem, -List.reduceReplicate, ↓L_gdZ_tt, ↓L_gdZ_tf, ↓L_gdZ_ft, ↓L_gdZ_ff, ↓T_and, ↓T_imp, ↓T_all, Nat.reduceBEq, Nat.reduceAdd, Nat.reduceSub, Nat.reduceMul, Nat.reduceLT, Nat.reduceLeDiff, Nat.reduceEqDiff, Int.reduceLT, Int.reduceLE, Int.reduceAdd, Int.reduceSub, Int.reduceMul, Int.reduceNeg, Int.reduceToNat, Int.reduceEq, Int.reduceNe, reduceIte, reduceCtorEq, BitVec.reduceOfInt, BitVec.reduceToNat]; try simp only [top_out])
        obtain ⟨v1, v2, v3⟩ := ent_same hsame h.net.sorted hfm hi hf'
        obtain ⟨s1, s2, s3⟩ := (hS0 _).step hA1' hN1 (fun n e => .inl e) hA2 hR2 hF2 (by rw [v1]; exact vw_flip hsame h.net.sorted hi) (by simp; omega)
        exact fin _ M2 _ g s1 (by omega) (by omega) s2 s3
    · have hn : ∀ f, f ∈ fs → f.1 ≠ no := fun f hf e => hno ⟨f, hf, e⟩
      have hn2 := PairSt.none_same' hsame hn
      refine draw_rule tabOK (by kernel_rfl : _) (.p 0 (.p 1 (.p 2 (.p 3 (.p 4 (.p 5 (.p 6 (.p 7 (.p 8 (.p 9 (.e 10 [] (.p 11 .nil) .no))))))))))) (by kernel_rfl) (by kernel_rfl) ?_
      (refine top_in ?_; simp -implicitDefEqProofs only [go_sem, -List.reduceReplicate, ↓L_gdZ_tt, ↓L_gdZ_tf, ↓L_gdZ_ft, ↓L_gdZ_ff, ↓T_and, ↓T_imp, ↓T_all, Nat.reduceBEq, Nat.reduceAdd, Nat.reduceSub, Nat.reduceMul, Nat.reduceLT, Nat.reduceLeDiff, Nat.reduceEqDiff, Int.reduceLT, Int.reduceLE, Int.reduceAdd, Int.reduceSub, Int.reduceMul, Int.reduceNeg, Int.reduceToNat, Int.reduceEq, Int.reduceNe, reduceIte, reduceCtorEq, BitVec.reduceOfInt, BitVec.reduceToNat, get_lt hpl, hp]; try simp only [top_out])
      refine flip_none nx m g no a xx _ c 63 _ _ (hS0 _).net.row (hS0 _).net.map (find_no hn) ?_
      (refine top_in ?_; simp -implicitDefEqProofs only [go_sem, -List.reduceReplicate, ↓L_gdZ_tt, ↓L_gdZ_tf, ↓L_gdZ_ft, ↓L_gdZ_ff, ↓T_and, ↓T_imp, ↓T_all, Nat.reduceBEq, Nat.reduceAdd, Nat.reduceSub, Nat.reduceMul, Nat.reduceLT, Nat.reduceLeDiff, Nat.reduceEqDiff, Int.reduceLT, Int.reduceLE, Int.reduceAdd, Int.reduceSub, Int.reduceMul, Int.reduceNeg, Int.reduceToNat, Int.reduceEq, Int.reduceNe, reduceIte, reduceCtorEq, BitVec.reduceOfInt, BitVec.reduceToNat, get_lt hpl, hp]; try simp only [top_out])
      refine draw_rule tabOK (by kernel_rfl : _) (.p 0 (.p 1 (.p 2 (.p 3 (.p 4 (.p 5 (.p 6 (.p 7 (.p 8 (.p 9 (.e 10 [] (.p 11 .nil) .no))))))))))) (by kernel_rfl) (by kernel_rfl) ?_
      (refine top_in ?_; simp -implicitDefEqProofs only [go_sem, -List.reduceReplicate, ↓L_gdZ_tt, ↓L_gdZ_tf, ↓L_gdZ_ft, ↓L_gdZ_ff, ↓T_and, ↓T_imp, ↓T_all, Nat.reduceBEq, Nat.reduceAdd, Nat.reduceSub, Nat.reduceMul, Nat.reduceLT, Nat.reduceLeDiff, Nat.reduceEqDiff, Int.reduceLT, Int.reduceLE, Int.reduceAdd, Int.reduceSub, Int.reduceMul, Int.reduceNeg, Int.reduceToNat, Int.reduceEq, Int.reduceNe, reduceIte, reduceCtorEq, BitVec.reduceOfInt, BitVec.reduceToNat, get_lt hpl, hp]; try simp only [top_out])
      refine rflip_ok r no a xx g rs _ Fr _ (hS0 _).ref (by omega) (fun _ => ?_) (fun i f hi hf _ => absurd hf (hn2 f (List.mem_of_getElem? hi))) (fun i f hi hf => absurd hf (hn2 f (List.mem_of_getElem? hi)))
      (refine top_in ?_; simp -implicitDefEqProofs only [go_sem, -List.reduceReplicate, ↓L_gdZ_tt, ↓L_gdZ_tf, ↓L_gdZ_ft, ↓L_gdZ_ff, ↓T_and, ↓T_imp, ↓T_all, Nat.reduceBEq, Nat.reduceAdd, Nat.reduceSub, Nat.reduceMul, Nat.reduceLT, Nat.reduceLeDiff, Nat.reduceEqDiff, Int.reduceLT, Int.reduceLE, Int.reduceAdd, Int.reduceSub, Int.reduceMul, Int.reduceNeg, Int.reduceToNat, Int.reduceEq, Int.reduceNe, reduceIte, reduceCtorEq, BitVec.reduceOfInt, BitVec.reduceToNat]; try simp only [top_out])
      refine num_ok 218 _ _ ?_
      (refine top_in ?_; simp -implicitDefEqProofs only [go_sem, -List.reduceReplicate, ↓L_gdZ_tt, ↓L_gdZ_tf, ↓L_gdZ_ft, ↓L_gdZ_ff, ↓T_and, ↓T_imp, ↓T_all, Nat.reduceBEq, Nat.reduceAdd, Nat.reduceSub, Nat.reduceMul, Nat.reduceLT, Nat.reduceLeDiff, Nat.reduceEqDiff, Int.reduceLT, Int.reduceLE, Int.reduceAdd, Int.reduceSub, Int.reduceMul, Int.reduceNeg, Int.reduceToNat, Int.reduceEq, Int.reduceNe, reduceIte, reduceCtorEq, BitVec.reduceOfInt, BitVec.reduceToNat]; try simp only [top_out])
      exact fin _ _ F g (hP0 _) (by omega) (by omega) (fun n e => .inl e) Ag.refl
  · refine punder_ok p g _ F _ (hP0 _) (by omega) ?_
    (refine top_in ?_; simp -implicitDefEqProofs only [go_sem, -List.reduceReplicate, ↓L_gdZ_tt, ↓L_gdZ_tf, ↓L_gdZ_ft, ↓L_gdZ_ff, ↓T_and, ↓T_imp, ↓T_all, Nat.reduceBEq, Nat.reduceAdd, Nat.reduceSub, Nat.reduceMul, Nat.reduceLT, Nat.reduceLeDiff, Nat.reduceEqDiff, Int.reduceLT, Int.reduceLE, Int.reduceAdd, Int.reduceSub, Int.reduceMul, Int.reduceNeg, Int.reduceToNat, Int.reduceEq, Int.reduceNe, reduceIte, reduceCtorEq, BitVec.reduceOfInt, BitVec.reduceToNat]; try simp only [top_out])
    exact fin _ _ F g (hP0 _) (by omega) (by omega) (fun n e => .inl e) Ag.refl
  · refine many_ok p g ki to no xx a se x b _ F _ (hP0 _) hg1 (hx0 _) hxF (fun M1 F1 g1 h1 h2 h3 h4 h5 => ?_)
    (refine top_in ?_; simp -implicitDefEqProofs only [go_sem, -List.reduceReplicate, ↓L_gdZ_tt, ↓L_gdZ_tf, ↓L_gdZ_ft, ↓L_gdZ_ff, ↓T_and, ↓T_imp, ↓T_all, Nat.reduceBEq, Nat.reduceAdd, Nat.reduceSub, Nat.reduceMul, Nat.reduceLT, Nat.reduceLeDiff, Nat.reduceEqDiff, Int.reduceLT, Int.reduceLE, Int.reduceAdd, Int.reduceSub, Int.reduceMul, Int.reduceNeg, Int.reduceToNat, Int.reduceEq, Int.reduceNe, reduceIte, reduceCtorEq, BitVec.reduceOfInt, BitVec.reduceToNat]; try simp only [top_out])
    exact fin _ M1 F1 g1 h1 h2 h3 h4 h5
  · exact fin _ _ F g (hP0 _) (by omega) (by omega) (fun n e => .inl e) Ag.refl
end Go.Proofs.Ytccnffjjahdneaa.Eng
