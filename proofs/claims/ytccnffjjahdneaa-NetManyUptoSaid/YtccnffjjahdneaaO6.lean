/- The document's net: doubled, spoilt. -/
import Derived.Test.YtccnffjjahdneaaO5
namespace Go.Proofs.Ytccnffjjahdneaa.Eng
open Go Go.RowKit
set_option linter.unusedSimpArgs false
set_option linter.unusedVariables false
set_option linter.unusedSimpArgs false
set_option linter.unusedVariables false

theorem flC_set : ∀ (xs : List (Int × Int × SV)) (zz : List SV) (k : Nat) {x : Int × Int × SV} (v : SV), xs[k]? = some x → (flC xs ++ zz).set (k * 3 + 2) v = flC (xs.set k (x.1, x.2.1, v)) ++ zz
  | [], zz, k, x, v, h => by simp at h
  | y :: xs, zz, 0, x, v, h => by
    simp only [List.getElem?_cons_zero, Option.some.injEq] at h
    subst h
    simp [flC]
  | y :: xs, zz, k + 1, x, v, h => by
    have ih := flC_set xs zz k (x := x) v (by simpa using h)
    have e : (k + 1) * 3 + 2 = k * 3 + 2 + 3 := by omega
    simp only [flC, List.cons_append, List.nil_append, e, List.set_cons_succ, ih]
set_option maxHeartbeats 1000000 in
theorem rcopy_ok (r : Nat) (no last : Int) (rs : List Rfl) (M : List Blk) (F : Nat → Prop) (K : SV → List Blk → Prop) (h : RefSt M F r last rs) (hl : rs.length ≤ 1048576) (hl0 : 0 ≤ last) (hl1 : last < 4611686018427387900)
    (hK : (∀ f, f ∈ rs → f.1 ≠ no) → K (.tup [.i .i64 0, .i .i64 218]) M)
    (hfull : ∀ f, f ∈ rs → f.1 = no → 1024 ≤ rs.length → K (.tup [.i .i64 0, .i .i64 0]) M)
    (hK2 : ∀ (i : Nat) f, rs[i]? = some f → f.1 = no → (∀ (j : Nat) f', j < i → rs[j]? = some f' → f'.1 ≠ no) → rs.length < 1024 → ∀ M' F' x', RefSt M' F' r (last + 1) (rs ++ [(last + 1, f.2.1, x', f.2.2.2)]) → (∀ n, F' n → F n ∨ M.length ≤ n) → Ag F M M' → K (.tup [.i .i64 (last + 1), .i .i64 0]) M') :
    callVC Try.prog 33 [.p r 0, .i .i64 no] M K := by
  refine fn_rule tabOK Try.func33 rfl Try.call33 (by kernel_rfl) (fun hM => ?_)
  (refine top_in ?_; simp -implicitDefEqProofs only [Try.ntmps33, Try.results33, go_sem, -List.reduceReplicate, ↓L_gdZ_tt, ↓L_gdZ_tf, ↓L_gdZ_ft, ↓L_gdZ_ff, ↓T_and, ↓T_imp, ↓T_all, Nat.reduceBEq, Nat.reduceAdd, Nat.reduceSub, Nat.reduceMul, Nat.reduceLT, Nat.reduceLeDiff, Nat.reduceEqDiff, Int.reduceLT, Int.reduceLE, Int.reduceAdd, Int.reduceSub, Int.reduceMul, Int.reduceNeg, Int.reduceToNat, Int.reduceEq, Int.reduceNe, reduceIte, reduceCtorEq, BitVec.reduceOfInt, BitVec.reduceToNat]; try simp only [top_out])
  refine place_ok r no last rs _ F _ h hl (fun hn => ?_) (fun i f hi hf hj => ?_)
  · (refine top_in ?_; simp -implicitDefEqProofs only [go_sem, -List.reduceReplicate, ↓L_gdZ_tt, ↓L_gdZ_tf, ↓L_gdZ_ft, ↓L_gdZ_ff, ↓T_and, ↓T_imp, ↓T_all, Nat.reduceBEq, Nat.reduceAdd, Nat.reduceSub, Nat.reduceMul, Nat.reduceLT, Nat.reduceLeDiff, Nat.reduceEqDiff, Int.reduceLT, Int.reduceLE, Int.reduceAdd, Int.reduceSub, Int.reduceMul, Int.reduceNeg, Int.reduceToNat, Int.reduceEq, Int.reduceNe, reduceIte, reduceCtorEq, BitVec.reduceOfInt, BitVec.reduceToNat]; try simp only [top_out])
    exact dropC_self hM rfl (hK hn)
  · obtain ⟨x, h1, h2⟩ := h.ex
    have hr := kw h1
    have hlt := (List.getElem?_eq_some_iff.1 hi).1
    rcases h2 with ⟨rfl, rfl⟩ | ⟨q, cap, zz, ty, rfl, h3, h4, h5, h6, h7, h8⟩
    · cases hlt
    have hq := kw h3
    have hfl := flC_length (rs.map r3)
    rw [List.length_map] at hfl
    have hg : (rs.map r3)[i]? = some (r3 f) := by rw [List.getElem?_map, hi]; rfl
    obtain ⟨c1, c2, c3⟩ := flC_cells _ zz i hg
    obtain ⟨i1, i2⟩ := isI_of c2
    have c3' : (flC (rs.map r3) ++ zz).getD (i * 3 + 2) uS = f.2.2.1 := by rw [List.getD_eq_getElem?_getD, c3]; rfl
    simp only [r3] at i2
    (refine top_in ?_; simp -implicitDefEqProofs only [go_sem, -List.reduceReplicate, ↓L_gdZ_tt, ↓L_gdZ_tf, ↓L_gdZ_ft, ↓L_gdZ_ff, ↓T_and, ↓T_imp, ↓T_all, Nat.reduceBEq, Nat.reduceAdd, Nat.reduceSub, Nat.reduceMul, Nat.reduceLT, Nat.reduceLeDiff, Nat.reduceEqDiff, Int.reduceLT, Int.reduceLE, Int.reduceAdd, Int.reduceSub, Int.reduceMul, Int.reduceNeg, Int.reduceToNat, Int.reduceEq, Int.reduceNe, reduceIte, reduceCtorEq, BitVec.reduceOfInt, BitVec.reduceToNat]; try simp only [top_out])
    refine ⟨fun h => absurd h (by omega), fun _ => ?_⟩
    refine draw_rule tabOK (by kernel_rfl : _) (.p 0 (.p 1 (.p 2 (.p 3 (.p 4 (.p 5 (.p 6 (.p 7 (.p 8 (.p 9 (.p 10 (.p 11 (.p 12 (.p 13 (.p 14 (.p 15 (.p 16 (.e 17 [] (.p 18 .nil) .no)))))))))))))))))) (by kernel_rfl) (by kernel_rfl) ?_
    (refine top_in ?_; simp -implicitDefEqProofs only [go_sem, -List.reduceReplicate, ↓L_gdZ_tt, ↓L_gdZ_tf, ↓L_gdZ_ft, ↓L_gdZ_ff, ↓T_and, ↓T_imp, ↓T_all, Nat.reduceBEq, Nat.reduceAdd, Nat.reduceSub, Nat.reduceMul, Nat.reduceLT, Nat.reduceLeDiff, Nat.reduceEqDiff, Int.reduceLT, Int.reduceLE, Int.reduceAdd, Int.reduceSub, Int.reduceMul, Int.reduceNeg, Int.reduceToNat, Int.reduceEq, Int.reduceNe, reduceIte, reduceCtorEq, BitVec.reduceOfInt, BitVec.reduceToNat, h1, h3, i1, i2, c3']; try simp only [top_out])
    repeat (with_reducible refine And.intro (by first | omega | exact i1) ?_)
    refine rsend_ok r f.2.1 last f.2.2.1 f.2.2.2 rs M F _ h hl0 hl1 (h.data f (List.mem_of_getElem? hi)).byt (h.dned (List.mem_of_getElem? hi)) (fun hfu => ?_) (fun hlt2 M' F' x' h' hF' hA => ?_)
    · (refine top_in ?_; simp -implicitDefEqProofs only [go_sem, -List.reduceReplicate, ↓L_gdZ_tt, ↓L_gdZ_tf, ↓L_gdZ_ft, ↓L_gdZ_ff, ↓T_and, ↓T_imp, ↓T_all, Nat.reduceBEq, Nat.reduceAdd, Nat.reduceSub, Nat.reduceMul, Nat.reduceLT, Nat.reduceLeDiff, Nat.reduceEqDiff, Int.reduceLT, Int.reduceLE, Int.reduceAdd, Int.reduceSub, Int.reduceMul, Int.reduceNeg, Int.reduceToNat, Int.reduceEq, Int.reduceNe, reduceIte, reduceCtorEq, BitVec.reduceOfInt, BitVec.reduceToNat, h1, h3, i1, i2, c3']; try simp only [top_out])
      exact dropC_self hM rfl (hfull f (List.mem_of_getElem? hi) hf hfu)
    · (refine top_in ?_; simp -implicitDefEqProofs only [go_sem, -List.reduceReplicate, ↓L_gdZ_tt, ↓L_gdZ_tf, ↓L_gdZ_ft, ↓L_gdZ_ff, ↓T_and, ↓T_imp, ↓T_all, Nat.reduceBEq, Nat.reduceAdd, Nat.reduceSub, Nat.reduceMul, Nat.reduceLT, Nat.reduceLeDiff, Nat.reduceEqDiff, Int.reduceLT, Int.reduceLE, Int.reduceAdd, Int.reduceSub, Int.reduceMul, Int.reduceNeg, Int.reduceToNat, Int.reduceEq, Int.reduceNe, reduceIte, reduceCtorEq, BitVec.reduceOfInt, BitVec.reduceToNat]; try simp only [top_out])
      exact dropC_all hA.1 (hK2 i f hi hf hj hlt2 M' F' x' h' hF' hA)
set_option maxHeartbeats 1000000 in
theorem rflip_ok (r : Nat) (no a x last : Int) (rs : List Rfl) (M : List Blk) (F : Nat → Prop) (K : SV → List Blk → Prop) (h : RefSt M F r last rs) (hl : rs.length ≤ 1048576)
    (hK : (∀ f, f ∈ rs → f.1 ≠ no) → K (.i .i64 218) M)
    (hbad : ∀ (i : Nat) f, rs[i]? = some f → f.1 = no → (a < 0 ∨ (f.2.2.2.length : Int) ≤ a ∨ x < 1 ∨ 255 < x) → K (.i .i64 2) M)
    (hK2 : ∀ (i : Nat) f, rs[i]? = some f → f.1 = no → (∀ (j : Nat) f', j < i → rs[j]? = some f' → f'.1 ≠ no) → 0 ≤ a → a < f.2.2.2.length → 1 ≤ x → x ≤ 255 → ∀ M' F' x', RefSt M' F' r last (rs.set i (f.1, f.2.1, x', flp f.2.2.2 a x)) → (∀ n, F' n → F n ∨ M.length ≤ n) → Ag F M M' → K (.i .i64 0) M') :
    callVC Try.prog 34 [.p r 0, .i .i64 no, .i .i64 a, .i .i64 x] M K := by
  refine fn_rule tabOK Try.func34 rfl Try.call34 (by kernel_rfl) (fun hM => ?_)
  (refine top_in ?_; simp -implicitDefEqProofs only [Try.ntmps34, Try.results34, go_sem, -List.reduceReplicate, ↓L_gdZ_tt, ↓L_gdZ_tf, ↓L_gdZ_ft, ↓L_gdZ_ff, ↓T_and, ↓T_imp, ↓T_all, Nat.reduceBEq, Nat.reduceAdd, Nat.reduceSub, Nat.reduceMul, Nat.reduceLT, Nat.reduceLeDiff, Nat.reduceEqDiff, Int.reduceLT, Int.reduceLE, Int.reduceAdd, Int.reduceSub, Int.reduceMul, Int.reduceNeg, Int.reduceToNat, Int.reduceEq, Int.reduceNe, reduceIte, reduceCtorEq, BitVec.reduceOfInt, BitVec.reduceToNat]; try simp only [top_out])
  refine place_ok r no last rs _ F _ h hl (fun hn => ?_) (fun i f hi hf hj => ?_)
  · (refine top_in ?_; simp -implicitDefEqProofs only [go_sem, -List.reduceReplicate, ↓L_gdZ_tt, ↓L_gdZ_tf, ↓L_gdZ_ft, ↓L_gdZ_ff, ↓T_and, ↓T_imp, ↓T_all, Nat.reduceBEq, Nat.reduceAdd, Nat.reduceSub, Nat.reduceMul, Nat.reduceLT, Nat.reduceLeDiff, Nat.reduceEqDiff, Int.reduceLT, Int.reduceLE, Int.reduceAdd, Int.reduceSub, Int.reduceMul, Int.reduceNeg, Int.reduceToNat, Int.reduceEq, Int.reduceNe, reduceIte, reduceCtorEq, BitVec.reduceOfInt, BitVec.reduceToNat]; try simp only [top_out])
    exact dropC_self hM rfl (hK hn)
  · obtain ⟨y, h1, h2⟩ := h.ex
    have hr := kw h1
    have hlt := (List.getElem?_eq_some_iff.1 hi).1
    rcases h2 with ⟨rfl, rfl⟩ | ⟨q, cap, zz, ty, rfl, h3, h4, h5, h6, h7, h8⟩
    · cases hlt
    have hq := kw h3
    have hfl := flC_length (rs.map r3)
    rw [List.length_map] at hfl
    have hg : (rs.map r3)[i]? = some (r3 f) := by rw [List.getElem?_map, hi]; rfl
    obtain ⟨c1, c2, c3⟩ := flC_cells _ zz i hg
    have c3' : (flC (rs.map r3) ++ zz).getD (i * 3 + 2) uS = f.2.2.1 := by rw [List.getD_eq_getElem?_getD, c3]; rfl
    have hd := h.data f (List.mem_of_getElem? hi)
    have hb := hd.byt
    have hlb : ∀ {M' : List Blk} {e a b' : Nat} {K : SV → Prop}, lenB (.slice e a b') M' f.2.2.1 K = K (.i .i64 f.2.2.2.length) := hb.lenB
    (refine top_in ?_; simp -implicitDefEqProofs only [go_sem, -List.reduceReplicate, ↓L_gdZ_tt, ↓L_gdZ_tf, ↓L_gdZ_ft, ↓L_gdZ_ff, ↓T_and, ↓T_imp, ↓T_all, Nat.reduceBEq, Nat.reduceAdd, Nat.reduceSub, Nat.reduceMul, Nat.reduceLT, Nat.reduceLeDiff, Nat.reduceEqDiff, Int.reduceLT, Int.reduceLE, Int.reduceAdd, Int.reduceSub, Int.reduceMul, Int.reduceNeg, Int.reduceToNat, Int.reduceEq, Int.reduceNe, reduceIte, reduceCtorEq, BitVec.reduceOfInt, BitVec.reduceToNat, h1, h3, c3', hlb]; try simp only [top_out])
    refine ⟨fun h => absurd h (by omega), fun _ => ?_⟩
    have hbd : (a < 0 ∨ (f.2.2.2.length : Int) ≤ a ∨ x < 1 ∨ 255 < x) → dropC M.length (.i .i64 2) M K := fun hh => dropC_self hM rfl (hbad i f hi hf hh)
    refine ⟨fun n1 => ⟨by omega, by omega, by omega, by omega, by omega, fun n2 => ⟨fun n3 => ⟨fun n4 => hbd (by omega), fun n4 => ⟨by omega, by omega, by omega, by omega, by omega, ?_⟩⟩, fun n3 => hbd (by omega)⟩, fun n2 => hbd (by omega)⟩, fun n1 => hbd (by omega)⟩
    refine bytes_any f.2.2.1 f.2.2.2 M _ hb (fun z tz => ?_)
    have ha : a.toNat < f.2.2.2.length := by omega
    have hq8 : ∀ B, (M ++ [B])[r]? = some (.row [.sl q 0 rs.length cap, .i .i64 last] 76) := fun B => by rw [get_lt hr]; exact h1
    have hqq : ∀ B, (M ++ [B])[q]? = some (.row (flC (rs.map r3) ++ zz) ty) := fun B => by rw [get_lt hq]; exact h3
    (refine top_in ?_; simp -implicitDefEqProofs only [go_sem, -List.reduceReplicate, ↓L_gdZ_tt, ↓L_gdZ_tf, ↓L_gdZ_ft, ↓L_gdZ_ff, ↓T_and, ↓T_imp, ↓T_all, Nat.reduceBEq, Nat.reduceAdd, Nat.reduceSub, Nat.reduceMul, Nat.reduceLT, Nat.reduceLeDiff, Nat.reduceEqDiff, Int.reduceLT, Int.reduceLE, Int.reduceAdd, Int.reduceSub, Int.reduceMul, Int.reduceNeg, Int.reduceToNat, Int.reduceEq, Int.reduceNe, reduceIte, reduceCtorEq, BitVec.reduceOfInt, BitVec.reduceToNat, hq8, hqq]; try simp only [top_out])
    have e1 := flp_app (l := f.2.2.2) (z := z) (i := a) (x := x) ha
    rw [e1]
    refine ⟨by omega, by omega, by omega, by omega, by omega, by omega, by omega, by omega, by omega, by omega, by omega, by omega, by omega, ?_⟩
    have hA : Ag (fun n => n = q) M ((M ++ [Blk.row (bS (flp f.2.2.2 a x ++ z)) tz]).set q (Blk.row ((flC (List.map r3 rs) ++ zz).set (i * 3 + 2) (SV.sl M.length 0 f.2.2.2.length (f.2.2.2.length + z.length))) ty)) :=
      Ag.trans (Ag.app (S := fun _ => False) |>.mono (fun _ e => e.elim)) (S' := fun n => n = q) (Ag.set rfl) (fun _ _ e => e)
    have hml : f.2.2.2.length ≤ 140737488355000 := hb.1
    have hfe : r3 (f.1, f.2.1, SV.sl M.length 0 f.2.2.2.length (f.2.2.2.length + z.length), flp f.2.2.2 a x) = ((r3 f).1, (r3 f).2.1, SV.sl M.length 0 f.2.2.2.length (f.2.2.2.length + z.length)) := rfl
    have hml2 : ∀ g, g ∈ rs.set i (f.1, f.2.1, SV.sl M.length 0 f.2.2.2.length (f.2.2.2.length + z.length), flp f.2.2.2 a x) → g ∈ rs ∨ g = (f.1, f.2.1, SV.sl M.length 0 f.2.2.2.length (f.2.2.2.length + z.length), flp f.2.2.2 a x) := fun g hg => List.mem_or_eq_of_mem_set hg
    have hqn : M.length ≠ q := by omega
    have hrow : ∀ B : Blk, ((M ++ [Blk.row (bS (flp f.2.2.2 a x ++ z)) tz]).set q B)[M.length]? = some (Blk.row (bS (flp f.2.2.2 a x ++ z)) tz) := fun B => by
      rw [List.getElem?_set_ne (Ne.symm hqn)]; simp [go_sem]
    refine dropC_all (by simp) (hK2 i f hi hf hj (by omega) (by omega) (by omega) (by omega) _ (fun n => F n ∨ n = M.length) (.sl M.length 0 f.2.2.2.length (f.2.2.2.length + z.length)) ⟨⟨.sl q 0 rs.length cap, hA.get h1 (Ne.symm h7), .inr ⟨q, cap, zz, ty, by simp, ?_, by simpa using h4, h5, .inl h6, h7, ?_⟩⟩, .inl h.fr, ?_, ?_⟩ (fun n hn => hn.elim .inl (fun e => .inr (by omega))) (hA.mono (fun n e => by rw [e]; exact h6)))
    · rw [List.getElem?_set_self (by simp; omega), flC_set _ zz i _ hg, List.map_set, hfe]
    · intro g hg e
      rcases hml2 g hg with h9 | rfl
      · exact h8 g h9 e
      · cases e; exact hqn rfl
    · intro n hn
      simp only [List.length_set, List.length_append, List.length_cons, List.length_nil]
      rcases hn with hn | rfl
      · have := h.inn n hn; omega
      · omega
    · intro g hg
      rcases hml2 g hg with h9 | rfl
      · exact (h.data g h9).ag hA (fun d e1 e2 => ⟨fun e => h8 g h9 (by rw [e2, e]), .inl e1⟩)
      · refine ⟨by rw [flp_len]; exact hml, .inr ⟨M.length, z, tz, by rw [flp_len], hrow _, .inr rfl⟩⟩
/-- what is told of all: a list of its own, or nil -/
def OutL (M M' : List Blk) (x : SV) (vs : List Rfl) : Prop :=
  Ag (fun _ => False) M M' ∧ ((x = .sn ∧ vs = []) ∨ ∃ q cap zz ty, x = .sl q 0 vs.length cap ∧ M'[q]? = some (.row (flC (vs.map r3) ++ zz) ty) ∧ vs.length * 3 + zz.length = cap * 3 ∧ freeW zz ∧ M.length ≤ q ∧ ∀ f, f ∈ vs → dnS f.2.2.1 ≠ some q) ∧
    ∀ f, f ∈ vs → DatR M' (fun n => M.length ≤ n) f.2.2.1 f.2.2.2
theorem OutL.add {S : Nat → Prop} {M M1 M2 : List Blk} {x : SV} {vs : List Rfl} {a b : Int} {l z : List (BitVec 8)} {q' d' c1 : Nat} {z1 : List SV} {t1 tz : TypeId} (ho : OutL M M1 x vs) (hA : Ag S M1 M2) (hS : ∀ n, S n → M.length ≤ n ∧ ∀ f, f ∈ vs → dnS f.2.2.1 ≠ some n)
    (hq' : M1.length ≤ q') (hd' : M1.length ≤ d') (hne : d' ≠ q') (g2 : M2[q']? = some (.row (flC (vs.map r3) ++ (.i .i64 a :: .i .i64 b :: .sl d' 0 l.length (l.length + z.length) :: z1)) t1)) (g3 : M2[d']? = some (.row (bS (l ++ z)) tz)) (hz1 : freeW z1)
    (hc1 : (vs.length + 1) * 3 + z1.length = c1 * 3) (hl : l.length ≤ 140737488355000) : OutL M M2 (.sl q' 0 (vs.length + 1) c1) (vs ++ [(a, b, .sl d' 0 l.length (l.length + z.length), l)]) := by
  have hm := ho.1.1
  have hold : ∀ f, f ∈ vs → ∀ d, dnS f.2.2.1 = some d → d < M1.length := by
    intro f hf d e
    obtain ⟨_, ⟨e1, _⟩ | ⟨d', z, ty, e1, e2, e3⟩⟩ := ho.2.2 f hf
    · rw [e1] at e; cases e
    · rw [e1] at e; cases e
      exact kw e2
  refine ⟨Ag.trans ho.1 hA (fun n hn h => by have := (hS n h).1; omega), .inr ⟨q', c1, z1, t1, by simp, ?_, by simpa using hc1, hz1, by omega, ?_⟩, ?_⟩
  · rw [List.map_append, flC_app, List.append_assoc]
    exact g2
  · intro f hf
    rcases List.mem_append.1 hf with hf | hf
    · intro e
      have := hold f hf _ e
      omega
    · rw [List.mem_singleton.1 hf]
      intro e
      cases e
      exact hne rfl
  · intro f hf
    rcases List.mem_append.1 hf with hf | hf
    · exact (ho.2.2 f hf).ag hA (fun d h1 h2 => ⟨fun e => (hS d e).2 f hf h2, h1⟩)
    · rw [List.mem_singleton.1 hf]
      exact ⟨hl, .inr ⟨d', z, tz, rfl, g3, by omega⟩⟩
set_option maxHeartbeats 1000000 in
theorem runder_ok (r : Nat) (last : Int) (rs : List Rfl) (M : List Blk) (F : Nat → Prop) (K : SV → List Blk → Prop) (h : RefSt M F r last rs) (hl : rs.length ≤ 1048576)
    (hK : ∀ M' x vs, OutL M M' x vs → vwR vs = vwR rs → K x M') :
    callVC Try.prog 35 [.p r 0] M K := by
  obtain ⟨y, h1, h2⟩ := h.ex
  have hr := kw h1
  have hlen : ∀ {M' : List Blk} {e a b' : Nat} {K : SV → Prop}, lenB (.slice e a b') M' y K = K (.i .i64 rs.length) := by
    intro M' e a b' K
    rcases h2 with ⟨rfl, rfl⟩ | ⟨q, cap, zz, ty, rfl, _⟩ <;> rfl
  refine fn_rule tabOK Try.func35 rfl Try.call35 (by kernel_rfl) (fun hM => ?_)
  (refine top_in ?_; simp -implicitDefEqProofs only [Try.ntmps35, Try.results35, go_sem, -List.reduceReplicate, ↓L_gdZ_tt, ↓L_gdZ_tf, ↓L_gdZ_ft, ↓L_gdZ_ff, ↓T_and, ↓T_imp, ↓T_all, Nat.reduceBEq, Nat.reduceAdd, Nat.reduceSub, Nat.reduceMul, Nat.reduceLT, Nat.reduceLeDiff, Nat.reduceEqDiff, Int.reduceLT, Int.reduceLE, Int.reduceAdd, Int.reduceSub, Int.reduceMul, Int.reduceNeg, Int.reduceToNat, Int.reduceEq, Int.reduceNe, reduceIte, reduceCtorEq, BitVec.reduceOfInt, BitVec.reduceToNat]; try simp only [top_out])
  refine loop_code tabOK (by kernel_rfl) (fun m ts M' => ∃ (k : Nat) (x : SV) (vs : List Rfl), k + m = rs.length ∧ OutL M M' x vs ∧ vs.length = k ∧ vwR vs = (vwR rs).take k ∧ frC [some (.p r 0), none, none, some (x), some (.i .i64 k), none, none, none, none, none, none, none, none, none, none, none, none, none, none, none, none, none, none, none, none, none, none, none, none, none, none, none, none, none, none, none, none, none, none, none, none, none, none, none, none, none] ts) rs.length ?_ ?_
  · exact ⟨0, .sn, [], by omega, ⟨Ag.refl, .inl ⟨rfl, rfl⟩, by simp⟩, rfl, rfl, by simp [frC]⟩
  · rintro m ts M1 ⟨k, x, vs, hk, ho, hvl, hv, hf⟩
    have s1 := ho.1.get h1 (fun h => h)
    obtain ⟨f, rfl⟩ := frC_open _ _ 0 hf
    clear hf
    (refine top_in ?_; simp -implicitDefEqProofs only [go_sem, -List.reduceReplicate, ↓L_gdZ_tt, ↓L_gdZ_tf, ↓L_gdZ_ft, ↓L_gdZ_ff, ↓T_and, ↓T_imp, ↓T_all, Nat.reduceBEq, Nat.reduceAdd, Nat.reduceSub, Nat.reduceMul, Nat.reduceLT, Nat.reduceLeDiff, Nat.reduceEqDiff, Int.reduceLT, Int.reduceLE, Int.reduceAdd, Int.reduceSub, Int.reduceMul, Int.reduceNeg, Int.reduceToNat, Int.reduceEq, Int.reduceNe, reduceIte, reduceCtorEq, BitVec.reduceOfInt, BitVec.reduceToNat, s1, hlen]; try simp only [top_out])
    refine ⟨fun hlt => ?_, fun hlt => ?_⟩
    · rcases h2 with ⟨rfl, rfl⟩ | ⟨q, cap, zz, ty, rfl, h3, h4, h5, h6, h7, h8⟩
      · simp at hk hlt; omega
      have hkl : k < rs.length := by omega
      have s3 := ho.1.get h3 (fun h => h)
      have hi : rs[k]? = some rs[k] := List.getElem?_eq_getElem hkl
      generalize rs[k] = f at hi
      have hfl := flC_length (rs.map r3)
      rw [List.length_map] at hfl
      have hg : (rs.map r3)[k]? = some (r3 f) := by rw [List.getElem?_map, hi]; rfl
      obtain ⟨c1, c2, c3⟩ := flC_cells _ zz k hg
      obtain ⟨i1, j1⟩ := isI_of c1
      obtain ⟨i2, j2⟩ := isI_of c2
      have c3' : (flC (rs.map r3) ++ zz).getD (k * 3 + 2) uS = f.2.2.1 := by rw [List.getD_eq_getElem?_getD, c3]; rfl
      simp only [r3] at j1 j2
      have hd := (h.data f (List.mem_of_getElem? hi)).ag (F' := F) ho.1 (fun d e _ => ⟨fun e => e, e⟩)
      (refine top_in ?_; simp -implicitDefEqProofs only [go_sem, -List.reduceReplicate, ↓L_gdZ_tt, ↓L_gdZ_tf, ↓L_gdZ_ft, ↓L_gdZ_ff, ↓T_and, ↓T_imp, ↓T_all, Nat.reduceBEq, Nat.reduceAdd, Nat.reduceSub, Nat.reduceMul, Nat.reduceLT, Nat.reduceLeDiff, Nat.reduceEqDiff, Int.reduceLT, Int.reduceLE, Int.reduceAdd, Int.reduceSub, Int.reduceMul, Int.reduceNeg, Int.reduceToNat, Int.reduceEq, Int.reduceNe, reduceIte, reduceCtorEq, BitVec.reduceOfInt, BitVec.reduceToNat, s1, s3, c3']; try simp only [top_out])
      repeat (with_reducible refine And.intro (by omega) ?_)
      refine bytes_any f.2.2.1 f.2.2.2 M1 _ hd.byt (fun z tz => ?_)
      have hr1 := kw s1
      have hq1 := kw s3
      (refine top_in ?_; simp -implicitDefEqProofs only [go_sem, -List.reduceReplicate, ↓L_gdZ_tt, ↓L_gdZ_tf, ↓L_gdZ_ft, ↓L_gdZ_ff, ↓T_and, ↓T_imp, ↓T_all, Nat.reduceBEq, Nat.reduceAdd, Nat.reduceSub, Nat.reduceMul, Nat.reduceLT, Nat.reduceLeDiff, Nat.reduceEqDiff, Int.reduceLT, Int.reduceLE, Int.reduceAdd, Int.reduceSub, Int.reduceMul, Int.reduceNeg, Int.reduceToNat, Int.reduceEq, Int.reduceNe, reduceIte, reduceCtorEq, BitVec.reduceOfInt, BitVec.reduceToNat]; try simp only [top_out])
      refine draw_rule tabOK (by kernel_rfl : _) (.p 0 (.p 1 (.p 2 (.p 3 (.p 4 (.p 5 (.p 6 (.p 7 (.p 8 (.p 9 (.p 10 (.p 11 (.p 12 (.p 13 (.p 14 (.p 15 (.p 16 (.p 17 (.p 18 (.e 19 [] (.e 20 [] (.p 21 .nil) .no) .no)))))))))))))))))))) (by kernel_rfl) (by kernel_rfl) ?_
      (refine top_in ?_; simp -implicitDefEqProofs only [go_sem, -List.reduceReplicate, ↓L_gdZ_tt, ↓L_gdZ_tf, ↓L_gdZ_ft, ↓L_gdZ_ff, ↓T_and, ↓T_imp, ↓T_all, Nat.reduceBEq, Nat.reduceAdd, Nat.reduceSub, Nat.reduceMul, Nat.reduceLT, Nat.reduceLeDiff, Nat.reduceEqDiff, Int.reduceLT, Int.reduceLE, Int.reduceAdd, Int.reduceSub, Int.reduceMul, Int.reduceNeg, Int.reduceToNat, Int.reduceEq, Int.reduceNe, reduceIte, reduceCtorEq, BitVec.reduceOfInt, BitVec.reduceToNat, get_lt hr1, get_lt hq1, s1, s3, i1, i2, j1, j2]; try simp only [top_out])
      repeat (with_reducible refine And.intro (by first | omega | decide) ?_)
      have hvn : vwR (vs ++ [(f.1, f.2.1, SV.sl M1.length 0 f.2.2.2.length (f.2.2.2.length + z.length), f.2.2.2)]) = (vwR rs).take (k + 1) := by
        unfold vwR at hv ⊢
        rw [List.map_append, hv, List.take_add_one, List.getElem?_map, hi]; rfl
      have ho' := ho
      obtain ⟨ho1, ⟨rfl, rfl⟩ | ⟨q2, cap2, zz2, ty2, rfl, g3, g4, g5, g6, g7⟩, ho3⟩ := ho
      · simp only [List.length_nil] at hvl
        subst hvl
        refine appFn [.i .i64 f.1, .i .i64 f.2.1, .sl M1.length 0 f.2.2.2.length (f.2.2.2.length + z.length)] 1 rfl (by decide) (by decide) rfl rfl (fun K hK => by simp only [srcC]; rw [cells_at]; (refine top_in ?_; simp -implicitDefEqProofs only [go_sem, -List.reduceReplicate, ↓L_gdZ_tt, ↓L_gdZ_tf, ↓L_gdZ_ft, ↓L_gdZ_ff, ↓T_and, ↓T_imp, ↓T_all, Nat.reduceBEq, Nat.reduceAdd, Nat.reduceSub, Nat.reduceMul, Nat.reduceLT, Nat.reduceLeDiff, Nat.reduceEqDiff, Int.reduceLT, Int.reduceLE, Int.reduceAdd, Int.reduceSub, Int.reduceMul, Int.reduceNeg, Int.reduceToNat, Int.reduceEq, Int.reduceNe, reduceIte, reduceCtorEq, BitVec.reduceOfInt, BitVec.reduceToNat]; try simp only [top_out]); exact hK) (by decide) (fun z1 t1 c1' hz1 hc1 => ?_)
        (refine top_in ?_; simp -implicitDefEqProofs only [go_sem, -List.reduceReplicate, ↓L_gdZ_tt, ↓L_gdZ_tf, ↓L_gdZ_ft, ↓L_gdZ_ff, ↓T_and, ↓T_imp, ↓T_all, Nat.reduceBEq, Nat.reduceAdd, Nat.reduceSub, Nat.reduceMul, Nat.reduceLT, Nat.reduceLeDiff, Nat.reduceEqDiff, Int.reduceLT, Int.reduceLE, Int.reduceAdd, Int.reduceSub, Int.reduceMul, Int.reduceNeg, Int.reduceToNat, Int.reduceEq, Int.reduceNe, reduceIte, reduceCtorEq, BitVec.reduceOfInt, BitVec.reduceToNat, get_lt hr1, get_lt hq1, s1, s3, i1, i2, j1, j2]; try simp only [top_out])
        repeat (with_reducible refine And.intro (by first | omega | decide) ?_)
        refine ⟨m - 1, by omega, 1, _, _, by omega, ho'.add (S := fun _ => False) (q' := M1.length + 2) (d' := M1.length) (t1 := t1) (tz := tz) (z := z) (z1 := z1) (c1 := c1') Ag.app (fun _ h => h.elim) (by omega) (by omega) (by omega) (by simp [go_sem, flC]) (by simp [go_sem]) hz1 hc1 hd.1, rfl, hvn, ?_⟩
        exact ⟨rfl, w64 (by omega) (by omega)⟩
      · have hr2 : (M1.set q2 .dead)[r]? = some (.row [.sl q 0 rs.length cap, .i .i64 last] 76) := by rw [List.getElem?_set_ne (by omega)]; exact s1
        have hq2 : (M1.set q2 .dead)[q]? = some (.row (flC (rs.map r3) ++ zz) ty) := by rw [List.getElem?_set_ne (by have := kw h3; omega)]; exact s3
        have hkr := kw hr2
        have hkq := kw hq2
        refine appFm q2 (flC (vs.map r3)) zz2 [.i .i64 f.1, .i .i64 f.2.1, .sl M1.length 0 f.2.2.2.length (f.2.2.2.length + z.length)] 1 ty2 rfl (by decide) (by decide) rfl rfl (by rw [get_lt (kw g3)]; exact g3) (by rw [flC_length, List.length_map]) g4 (fun K hK => by simp only [srcC]; rw [cells_at]; (refine top_in ?_; simp -implicitDefEqProofs only [go_sem, -List.reduceReplicate, ↓L_gdZ_tt, ↓L_gdZ_tf, ↓L_gdZ_ft, ↓L_gdZ_ff, ↓T_and, ↓T_imp, ↓T_all, Nat.reduceBEq, Nat.reduceAdd, Nat.reduceSub, Nat.reduceMul, Nat.reduceLT, Nat.reduceLeDiff, Nat.reduceEqDiff, Int.reduceLT, Int.reduceLE, Int.reduceAdd, Int.reduceSub, Int.reduceMul, Int.reduceNeg, Int.reduceToNat, Int.reduceEq, Int.reduceNe, reduceIte, reduceCtorEq, BitVec.reduceOfInt, BitVec.reduceToNat]; try simp only [top_out]); exact hK) g5 (by omega) (fun z1 t1 c1' hz1 hc1 => ?_)
        (refine top_in ?_; simp -implicitDefEqProofs only [go_sem, -List.reduceReplicate, ↓L_gdZ_tt, ↓L_gdZ_tf, ↓L_gdZ_ft, ↓L_gdZ_ff, ↓T_and, ↓T_imp, ↓T_all, Nat.reduceBEq, Nat.reduceAdd, Nat.reduceSub, Nat.reduceMul, Nat.reduceLT, Nat.reduceLeDiff, Nat.reduceEqDiff, Int.reduceLT, Int.reduceLE, Int.reduceAdd, Int.reduceSub, Int.reduceMul, Int.reduceNeg, Int.reduceToNat, Int.reduceEq, Int.reduceNe, reduceIte, reduceCtorEq, BitVec.reduceOfInt, BitVec.reduceToNat, set_lt (kw g3), get_lt hkr, get_lt hkq, hr2, hq2, i1, i2, j1, j2]; try simp only [top_out])
        repeat (with_reducible refine And.intro (by first | omega | decide) ?_)
        refine ⟨m - 1, by omega, k + 1, _, _, by omega, ho'.add (S := fun n => n = q2) (q' := M1.length + 2) (d' := M1.length) (t1 := t1) (tz := tz) (z := z) (z1 := z1) (c1 := c1') (Ag.trans (Ag.set rfl) (Ag.app (S := fun _ => False)) (fun _ _ h => h.elim)) (fun n e => by subst e; exact ⟨g6, g7⟩) (by omega) (by omega) (by omega) (by simp [go_sem]) (by simp [go_sem]) hz1 hc1 hd.1, by simp [hvl], hvn, ?_⟩
        exact ⟨rfl, w64 (by omega) (by omega)⟩
    · have hka : k = rs.length := by omega
      refine dropC_all ho.1.1 (hK M1 x vs ho ?_)
      rw [hv, hka, List.take_of_length_le (by simp [vwR])]
end Go.Proofs.Ytccnffjjahdneaa.Eng
