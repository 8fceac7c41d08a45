/- The document's net: its calls. -/
import Derived.Test.YtccnffjjahdneaaO3
namespace Go.Proofs.Ytccnffjjahdneaa.Eng
open Go Go.RowKit
set_option linter.unusedSimpArgs false
set_option linter.unusedVariables false
set_option linter.unusedSimpArgs false
set_option linter.unusedVariables false

theorem row_byt {M : List Blk} {r : Nat} {x : SV} {last : Int} {ty ty' : TypeId} {l : List (BitVec 8)} (h : M[r]? = some (.row [x, .i .i64 last] ty)) (h' : M[r]? = some (.row (bS l) ty')) : False := by
  rw [h] at h'
  simp only [Option.some.injEq, Blk.row.injEq] at h'
  cases l with
  | nil => simp [bS] at h'
  | cons a l =>
    cases l with
    | nil => simp [bS] at h'
    | cons b l => simp [bS] at h'
theorem RefSt.ned {M : List Blk} {F : Nat → Prop} {r : Nat} {last : Int} {rs : List Rfl} (h : RefSt M F r last rs) {d : Nat} {l : List (BitVec 8)} {ty : TypeId} (hd : M[d]? = some (.row (bS l) ty)) : d ≠ r := by
  intro e
  subst e
  obtain ⟨x, h1, _⟩ := h.ex
  exact row_byt h1 hd
theorem RefSt.dned {M : List Blk} {F : Nat → Prop} {r : Nat} {last : Int} {rs : List Rfl} (h : RefSt M F r last rs) {f : Rfl} (hf : f ∈ rs) : dnS f.2.2.1 ≠ some r := by
  intro e
  obtain ⟨_, ⟨e1, _⟩ | ⟨d, z, ty, e1, e2, e3⟩⟩ := h.data f hf
  · rw [e1] at e; cases e
  · rw [e1] at e; cases e
    exact h.ned e2 rfl
theorem DatR.lt {M : List Blk} {F : Nat → Prop} {x : SV} {l : List (BitVec 8)} (h : DatR M F x l) : x.one = true ∧ x.lt M.length = true := by
  obtain ⟨_, ⟨rfl, _⟩ | ⟨d, z, ty, rfl, e2, e3⟩⟩ := h
  · exact ⟨rfl, rfl⟩
  · exact ⟨rfl, by simpa [SV.lt] using kw e2⟩
theorem RefSt.add {S F : Nat → Prop} {M M' : List Blk} {r : Nat} {last to : Int} {rs : List Rfl} {l z : List (BitVec 8)} {q' d' c1 : Nat} {z1 : List SV} {t1 tz : TypeId} (h : RefSt M F r last rs) (hA : Ag S M M') (hSd : ∀ f, f ∈ rs → ∀ d, dnS f.2.2.1 = some d → ¬ S d)
    (hq' : M.length ≤ q') (hd' : M.length ≤ d') (hne : d' ≠ q') (g1 : M'[r]? = some (.row [.sl q' 0 (rs.length + 1) c1, .i .i64 (last + 1)] 76))
    (g2 : M'[q']? = some (.row (flC (rs.map r3) ++ (.i .i64 (last + 1) :: .i .i64 to :: .sl d' 0 l.length (l.length + z.length) :: z1)) t1)) (g3 : M'[d']? = some (.row (bS (l ++ z)) tz)) (hz1 : freeW z1) (hc1 : (rs.length + 1) * 3 + z1.length = c1 * 3) (hl : l.length ≤ 140737488355000) :
    RefSt M' (fun n => F n ∨ n = q' ∨ n = d') r (last + 1) (rs ++ [(last + 1, to, .sl d' 0 l.length (l.length + z.length), l)]) := by
  have hold : ∀ f, f ∈ rs → ∀ d, dnS f.2.2.1 = some d → d < M.length := by
    intro f hf d e
    obtain ⟨_, ⟨e1, _⟩ | ⟨d', z, ty, e1, e2, e3⟩⟩ := h.data f hf
    · rw [e1] at e; cases e
    · rw [e1] at e; cases e
      exact kw e2
  have hr := h.inn r h.fr
  refine ⟨⟨_, g1, .inr ⟨q', c1, z1, t1, by simp, ?_, by simpa using hc1, hz1, .inr (.inl rfl), by omega, ?_⟩⟩, .inl h.fr, ?_, ?_⟩
  · rw [List.map_append, flC_app, List.append_assoc]
    exact g2
  · intro f hf
    rcases List.mem_append.1 hf with hf | hf
    · intro e
      have := hold f hf _ e
      omega
    · rw [List.mem_singleton.1 hf]
      intro e
      cases e
      exact hne rfl
  · rintro n (hn | rfl | rfl)
    · exact Nat.lt_of_lt_of_le (h.inn n hn) hA.1
    · exact kw g2
    · exact kw g3
  · intro f hf
    rcases List.mem_append.1 hf with hf | hf
    · exact (h.data f hf).ag hA (fun d h1 h2 => ⟨hSd f hf d h2, .inl h1⟩)
    · rw [List.mem_singleton.1 hf]
      exact ⟨hl, .inr ⟨d', z, tz, rfl, g3, .inr (.inr rfl)⟩⟩
set_option maxHeartbeats 1000000 in
theorem rsend_ok (r : Nat) (to last : Int) (x : SV) (l : List (BitVec 8)) (rs : List Rfl) (M : List Blk) (F : Nat → Prop) (K : SV → List Blk → Prop) (h : RefSt M F r last rs) (hl0 : 0 ≤ last) (hl1 : last < 4611686018427387900) (hx : Byt M x l) (hxr : dnS x ≠ some r)
    (hfull : 1024 ≤ rs.length → K (.i .i64 0) M)
    (hK : rs.length < 1024 → ∀ M' F' x', RefSt M' F' r (last + 1) (rs ++ [(last + 1, to, x', l)]) → (∀ n, F' n → F n ∨ M.length ≤ n) → Ag F M M' → K (.i .i64 (last + 1)) M') :
    callVC Try.prog 38 [.p r 0, .i .i64 to, x] M K := by
  obtain ⟨y, h1, h2⟩ := h.ex
  have hlen : ∀ {M' : List Blk} {e a b' : Nat} {K : SV → Prop}, lenB (.slice e a b') M' y K = K (.i .i64 rs.length) := by
    intro M' e a b' K
    rcases h2 with ⟨rfl, rfl⟩ | ⟨q, cap, zz, ty, rfl, _⟩ <;> rfl
  have hyo : y.one = true := by rcases h2 with ⟨rfl, rfl⟩ | ⟨q, cap, zz, ty, rfl, _⟩ <;> rfl
  have hr := kw h1
  have hw : IntKind.i64.wrap (last + 1) = last + 1 := w64 (by omega) (by omega)
  refine fn_rule tabOK Try.func38 rfl Try.call38 (by kernel_rfl) (fun hM => ?_)
  (refine top_in ?_; simp -implicitDefEqProofs only [Try.ntmps38, Try.results38, go_sem, -List.reduceReplicate, ↓L_gdZ_tt, ↓L_gdZ_tf, ↓L_gdZ_ft, ↓L_gdZ_ff, ↓T_and, ↓T_imp, ↓T_all, Nat.reduceBEq, Nat.reduceAdd, Nat.reduceSub, Nat.reduceMul, Nat.reduceLT, Nat.reduceLeDiff, Nat.reduceEqDiff, Int.reduceLT, Int.reduceLE, Int.reduceAdd, Int.reduceSub, Int.reduceMul, Int.reduceNeg, Int.reduceToNat, Int.reduceEq, Int.reduceNe, reduceIte, reduceCtorEq, BitVec.reduceOfInt, BitVec.reduceToNat, h1, hlen, hw]; try simp only [top_out])
  refine ⟨fun h => dropC_self hM rfl (hfull (by omega)), fun hlt => ?_⟩
  obtain ⟨M2, hM2⟩ : ∃ M2, M.set r (.row [y, .i .i64 (last + 1)] 76) = M2 := ⟨_, rfl⟩
  rw [hM2]
  have hA2 : Ag (· = r) M M2 := by rw [← hM2]; exact Ag.set rfl
  have hl2 : M2.length = M.length := by rw [← hM2, List.length_set]
  have s1 : M2[r]? = some (.row [y, .i .i64 (last + 1)] 76) := by rw [← hM2]; exact List.getElem?_set_self hr
  have hr2 := kw s1
  have hx2 : Byt M2 x l := hx.ag hA2 (fun d e e2 => hxr (by rw [e, e2]))
  refine bytes_any x l M2 _ hx2 (fun z tz => ?_)
  (refine top_in ?_; simp -implicitDefEqProofs only [go_sem, -List.reduceReplicate, ↓L_gdZ_tt, ↓L_gdZ_tf, ↓L_gdZ_ft, ↓L_gdZ_ff, ↓T_and, ↓T_imp, ↓T_all, Nat.reduceBEq, Nat.reduceAdd, Nat.reduceSub, Nat.reduceMul, Nat.reduceLT, Nat.reduceLeDiff, Nat.reduceEqDiff, Int.reduceLT, Int.reduceLE, Int.reduceAdd, Int.reduceSub, Int.reduceMul, Int.reduceNeg, Int.reduceToNat, Int.reduceEq, Int.reduceNe, reduceIte, reduceCtorEq, BitVec.reduceOfInt, BitVec.reduceToNat]; try simp only [top_out])
  refine draw_rule tabOK (by kernel_rfl : _) (.p 0 (.p 1 (.p 2 (.p 3 (.p 4 (.p 5 (.p 6 (.p 7 (.p 8 (.p 9 (.p 10 (.p 11 (.e 12 [2, 3, 4] (.e 13 [] (.p 14 (.p 15 (.e 16 [] .nil .no))) .no) .no))))))))))))) (by kernel_rfl) (by kernel_rfl) ?_
  (refine top_in ?_; simp -implicitDefEqProofs only [go_sem, -List.reduceReplicate, ↓L_gdZ_tt, ↓L_gdZ_tf, ↓L_gdZ_ft, ↓L_gdZ_ff, ↓T_and, ↓T_imp, ↓T_all, Nat.reduceBEq, Nat.reduceAdd, Nat.reduceSub, Nat.reduceMul, Nat.reduceLT, Nat.reduceLeDiff, Nat.reduceEqDiff, Int.reduceLT, Int.reduceLE, Int.reduceAdd, Int.reduceSub, Int.reduceMul, Int.reduceNeg, Int.reduceToNat, Int.reduceEq, Int.reduceNe, reduceIte, reduceCtorEq, BitVec.reduceOfInt, BitVec.reduceToNat, get_lt hr2, s1]; try simp only [top_out])
  refine ⟨by decide, ?_⟩
  have hnew : ∀ (xs : List (Int × Int × SV)) (v : SV), flC (xs ++ [(last + 1, to, v)]) = flC xs ++ [.i .i64 (last + 1), .i .i64 to, v] := fun xs v => by rw [flC_app]; rfl
  have hwid : ∀ f, f ∈ rs → ∀ M' : List Blk, (∀ d B, d ≠ r → M2[d]? = some B → (∀ l ty, B = .row (bS l) ty → M'[d]? = some B)) → ∀ F' : Nat → Prop, (∀ n, F n → F' n) → DatR M' F' f.2.2.1 f.2.2.2 := by
    intro f hf M' hM' F' hF'
    obtain ⟨h0, h3 | ⟨d, z, ty, e1, e2, e3⟩⟩ := h.data f hf
    · exact ⟨h0, .inl h3⟩
    · have := h.ned e2
      exact ⟨h0, .inr ⟨d, z, ty, e1, hM' d _ this (hA2.get e2 this) _ _ rfl, hF' _ e3⟩⟩
  rcases h2 with ⟨rfl, rfl⟩ | ⟨q, cap, zz, ty, rfl, h3, h4, h5, h6, h7, h8⟩
  · refine appFn [.i .i64 (last + 1), .i .i64 to, .sl M2.length 0 l.length (l.length + z.length)] 1 rfl (by decide) (by decide) rfl rfl (fun K hK => by simp only [srcC]; rw [cells_at]; (refine top_in ?_; simp -implicitDefEqProofs only [go_sem, -List.reduceReplicate, ↓L_gdZ_tt, ↓L_gdZ_tf, ↓L_gdZ_ft, ↓L_gdZ_ff, ↓T_and, ↓T_imp, ↓T_all, Nat.reduceBEq, Nat.reduceAdd, Nat.reduceSub, Nat.reduceMul, Nat.reduceLT, Nat.reduceLeDiff, Nat.reduceEqDiff, Int.reduceLT, Int.reduceLE, Int.reduceAdd, Int.reduceSub, Int.reduceMul, Int.reduceNeg, Int.reduceToNat, Int.reduceEq, Int.reduceNe, reduceIte, reduceCtorEq, BitVec.reduceOfInt, BitVec.reduceToNat]; try simp only [top_out]); exact hK) (by decide) (fun z1 t1 c1 hz1 hc1 => ?_)
    have s4 : ∀ (B : Blk) (N : List Blk), (M2.set r B ++ N)[r]? = some B := fun B N => by rw [get_lt (by rw [List.length_set]; exact hr2)]; exact List.getElem?_set_self hr2
    (refine top_in ?_; simp -implicitDefEqProofs only [go_sem, -List.reduceReplicate, ↓L_gdZ_tt, ↓L_gdZ_tf, ↓L_gdZ_ft, ↓L_gdZ_ff, ↓T_and, ↓T_imp, ↓T_all, Nat.reduceBEq, Nat.reduceAdd, Nat.reduceSub, Nat.reduceMul, Nat.reduceLT, Nat.reduceLeDiff, Nat.reduceEqDiff, Int.reduceLT, Int.reduceLE, Int.reduceAdd, Int.reduceSub, Int.reduceMul, Int.reduceNeg, Int.reduceToNat, Int.reduceEq, Int.reduceNe, reduceIte, reduceCtorEq, BitVec.reduceOfInt, BitVec.reduceToNat, get_lt hr2, s1, set_lt hr2, s4]; try simp only [top_out])
    have hfin := RefSt.add (M' := M2.set r (Blk.row [SV.sl (M2.length + 2) 0 1 c1, SV.i IntKind.i64 (last + 1)] 76) ++ [Blk.row (bS (l ++ z)) tz, Blk.row [SV.i IntKind.i64 (last + 1), SV.i IntKind.i64 to, SV.sl M2.length 0 l.length (l.length + z.length)] 32, Blk.row (SV.i IntKind.i64 (last + 1) :: SV.i IntKind.i64 to :: SV.sl M2.length 0 l.length (l.length + z.length) :: z1) t1])
      (S := fun n => n = r) (q' := M2.length + 2) (d' := M2.length) (to := to) (l := l) (z := z) (c1 := c1) (z1 := z1) (t1 := t1) (tz := tz) h (Ag.trans hA2 (S' := fun n => n = r) (Ag.trans (Ag.set rfl) (Ag.app (S := fun _ => False)) (fun _ _ e => e.elim)) (fun _ _ e => e)) (fun f hf => by cases hf) (by omega) (by omega) (by omega) (s4 _ _) (by simp [go_sem, flC]) (by simp [go_sem]) hz1 hc1 hx.1
    refine dropC_all (by simp; omega) (hK (by simp) _ _ _ hfin (fun n hn => by rcases hn with hn | rfl | rfl; exact .inl hn; exact .inr (by omega); exact .inr (by omega)) (Ag.trans (hA2.mono (fun n e => by rw [e]; exact h.fr)) (S' := fun n => n = r) (Ag.trans (Ag.set rfl) (Ag.app (S := fun _ => False)) (fun _ _ e => e.elim)) (fun n _ e => by rw [e]; exact h.fr)))
  · have hq2 : M2[q]? = some (.row (flC (rs.map r3) ++ zz) ty) := hA2.get h3 h7
    refine appFm q (flC (rs.map r3)) zz [.i .i64 (last + 1), .i .i64 to, .sl M2.length 0 l.length (l.length + z.length)] 1 ty rfl (by decide) (by decide) rfl rfl (by rw [get_lt (kw hq2)]; exact hq2) (by rw [flC_length, List.length_map]) h4 (fun K hK => by simp only [srcC]; rw [cells_at]; (refine top_in ?_; simp -implicitDefEqProofs only [go_sem, -List.reduceReplicate, ↓L_gdZ_tt, ↓L_gdZ_tf, ↓L_gdZ_ft, ↓L_gdZ_ff, ↓T_and, ↓T_imp, ↓T_all, Nat.reduceBEq, Nat.reduceAdd, Nat.reduceSub, Nat.reduceMul, Nat.reduceLT, Nat.reduceLeDiff, Nat.reduceEqDiff, Int.reduceLT, Int.reduceLE, Int.reduceAdd, Int.reduceSub, Int.reduceMul, Int.reduceNeg, Int.reduceToNat, Int.reduceEq, Int.reduceNe, reduceIte, reduceCtorEq, BitVec.reduceOfInt, BitVec.reduceToNat]; try simp only [top_out]); exact hK) h5 (by omega) (fun z1 t1 c1 hz1 hc1 => ?_)
    have s3 : (M2.set q .dead)[r]? = some (.row [.sl q 0 rs.length cap, .i .i64 (last + 1)] 76) := by rw [List.getElem?_set_ne h7]; exact s1
    have hr3 := kw s3
    have s4 : ∀ (B : Blk) (N : List Blk), ((M2.set q .dead).set r B ++ N)[r]? = some B := fun B N => by rw [get_lt (by rw [List.length_set]; exact hr3)]; exact List.getElem?_set_self hr3
    (refine top_in ?_; simp -implicitDefEqProofs only [go_sem, -List.reduceReplicate, ↓L_gdZ_tt, ↓L_gdZ_tf, ↓L_gdZ_ft, ↓L_gdZ_ff, ↓T_and, ↓T_imp, ↓T_all, Nat.reduceBEq, Nat.reduceAdd, Nat.reduceSub, Nat.reduceMul, Nat.reduceLT, Nat.reduceLeDiff, Nat.reduceEqDiff, Int.reduceLT, Int.reduceLE, Int.reduceAdd, Int.reduceSub, Int.reduceMul, Int.reduceNeg, Int.reduceToNat, Int.reduceEq, Int.reduceNe, reduceIte, reduceCtorEq, BitVec.reduceOfInt, BitVec.reduceToNat, set_lt (kw hq2), get_lt hr3, s3, set_lt hr3, s4]; try simp only [top_out])
    have hA3 : Ag (fun n => n = r ∨ n = q) M ((M2.set q Blk.dead).set r (Blk.row [SV.sl (M2.length + 2) 0 (rs.length + 1) c1, SV.i IntKind.i64 (last + 1)] 76) ++ [Blk.row (bS (l ++ z)) tz, Blk.row [SV.i IntKind.i64 (last + 1), SV.i IntKind.i64 to, SV.sl M2.length 0 l.length (l.length + z.length)] 32, Blk.row (flC (List.map r3 rs) ++ SV.i IntKind.i64 (last + 1) :: SV.i IntKind.i64 to :: SV.sl M2.length 0 l.length (l.length + z.length) :: z1) t1]) :=
      Ag.trans (hA2.mono (fun _ e => .inl e)) (S' := fun n => n = r ∨ n = q) (Ag.trans (Ag.set (.inr rfl)) (S' := fun n => n = r) (Ag.trans (Ag.set rfl) (Ag.app (S := fun _ => False)) (fun _ _ e => e.elim)) (fun _ _ e => .inl e)) (fun _ _ e => e)
    have hfin := RefSt.add (q' := M2.length + 2) (d' := M2.length) (to := to) (l := l) (z := z) (c1 := c1) (z1 := z1) (t1 := t1) (tz := tz) h hA3 (fun f hf d e1 e2 => by
      rcases e2 with e2 | e2
      · exact h.dned hf (by rw [e1, e2])
      · exact h8 f hf (by rw [e1, e2])) (by omega) (by omega) (by omega) (s4 _ _) (by simp [go_sem]) (by simp [go_sem]) hz1 hc1 hx.1
    refine dropC_all (by simp; omega) (hK (by omega) _ _ _ hfin (fun n hn => by rcases hn with hn | rfl | rfl; exact .inl hn; exact .inr (by omega); exact .inr (by omega)) (hA3.mono (fun n e => by rcases e with e | e <;> rw [e]; exact h.fr; exact h6)))
end Go.Proofs.Ytccnffjjahdneaa.Eng
