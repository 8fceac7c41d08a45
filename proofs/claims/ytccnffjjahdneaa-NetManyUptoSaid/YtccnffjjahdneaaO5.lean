/- The document's net: taken, lost, doubled, spoilt, all of it. -/
import Derived.Test.YtccnffjjahdneaaO4
namespace Go.Proofs.Ytccnffjjahdneaa.Eng
open Go Go.RowKit
set_option linter.unusedSimpArgs false
set_option linter.unusedVariables false
set_option linter.unusedSimpArgs false
set_option linter.unusedVariables false

set_option maxHeartbeats 1000000 in
theorem rdrop_ok (r : Nat) (no last : Int) (rs : List Rfl) (M : List Blk) (F : Nat → Prop) (K : SV → List Blk → Prop) (h : RefSt M F r last rs) (hl : rs.length ≤ 1048576)
    (hK : (∀ f, f ∈ rs → f.1 ≠ no) → K (.i .i64 218) M)
    (hK2 : ∀ (i : Nat) f, rs[i]? = some f → f.1 = no → (∀ (j : Nat) f', j < i → rs[j]? = some f' → f'.1 ≠ no) → ∀ M' F', RefSt M' F' r last (rs.eraseIdx i) → (∀ n, F' n → F n ∨ M.length ≤ n) → Ag (· = r) M M' → K (.i .i64 0) M') :
    callVC Try.prog 32 [.p r 0, .i .i64 no] M K := by
  refine fn_rule tabOK Try.func32 rfl Try.call32 (by kernel_rfl) (fun hM => ?_)
  (refine top_in ?_; simp -implicitDefEqProofs only [Try.ntmps32, Try.results32, go_sem, -List.reduceReplicate, ↓L_gdZ_tt, ↓L_gdZ_tf, ↓L_gdZ_ft, ↓L_gdZ_ff, ↓T_and, ↓T_imp, ↓T_all, Nat.reduceBEq, Nat.reduceAdd, Nat.reduceSub, Nat.reduceMul, Nat.reduceLT, Nat.reduceLeDiff, Nat.reduceEqDiff, Int.reduceLT, Int.reduceLE, Int.reduceAdd, Int.reduceSub, Int.reduceMul, Int.reduceNeg, Int.reduceToNat, Int.reduceEq, Int.reduceNe, reduceIte, reduceCtorEq, BitVec.reduceOfInt, BitVec.reduceToNat]; try simp only [top_out])
  refine place_ok r no last rs M F _ h hl (fun hn => ?_) (fun i f hi hf hj => ?_)
  · (refine top_in ?_; simp -implicitDefEqProofs only [go_sem, -List.reduceReplicate, ↓L_gdZ_tt, ↓L_gdZ_tf, ↓L_gdZ_ft, ↓L_gdZ_ff, ↓T_and, ↓T_imp, ↓T_all, Nat.reduceBEq, Nat.reduceAdd, Nat.reduceSub, Nat.reduceMul, Nat.reduceLT, Nat.reduceLeDiff, Nat.reduceEqDiff, Int.reduceLT, Int.reduceLE, Int.reduceAdd, Int.reduceSub, Int.reduceMul, Int.reduceNeg, Int.reduceToNat, Int.reduceEq, Int.reduceNe, reduceIte, reduceCtorEq, BitVec.reduceOfInt, BitVec.reduceToNat]; try simp only [top_out])
    exact dropC_self hM rfl (hK hn)
  · (refine top_in ?_; simp -implicitDefEqProofs only [go_sem, -List.reduceReplicate, ↓L_gdZ_tt, ↓L_gdZ_tf, ↓L_gdZ_ft, ↓L_gdZ_ff, ↓T_and, ↓T_imp, ↓T_all, Nat.reduceBEq, Nat.reduceAdd, Nat.reduceSub, Nat.reduceMul, Nat.reduceLT, Nat.reduceLeDiff, Nat.reduceEqDiff, Int.reduceLT, Int.reduceLE, Int.reduceAdd, Int.reduceSub, Int.reduceMul, Int.reduceNeg, Int.reduceToNat, Int.reduceEq, Int.reduceNe, reduceIte, reduceCtorEq, BitVec.reduceOfInt, BitVec.reduceToNat]; try simp only [top_out])
    have hlt := (List.getElem?_eq_some_iff.1 hi).1
    refine ⟨fun h => absurd h (by omega), fun _ => ?_⟩
    refine out_ok r i last rs M F _ h hl hlt (fun M' F' h' hF' hA => ?_)
    (refine top_in ?_; simp -implicitDefEqProofs only [go_sem, -List.reduceReplicate, ↓L_gdZ_tt, ↓L_gdZ_tf, ↓L_gdZ_ft, ↓L_gdZ_ff, ↓T_and, ↓T_imp, ↓T_all, Nat.reduceBEq, Nat.reduceAdd, Nat.reduceSub, Nat.reduceMul, Nat.reduceLT, Nat.reduceLeDiff, Nat.reduceEqDiff, Int.reduceLT, Int.reduceLE, Int.reduceAdd, Int.reduceSub, Int.reduceMul, Int.reduceNeg, Int.reduceToNat, Int.reduceEq, Int.reduceNe, reduceIte, reduceCtorEq, BitVec.reduceOfInt, BitVec.reduceToNat]; try simp only [top_out])
    exact dropC_all hA.1 (hK2 i f hi hf hj M' F' h' hF' hA)
set_option maxHeartbeats 1000000 in
theorem rtake_ok (r : Nat) (no last : Int) (rs : List Rfl) (M : List Blk) (F : Nat → Prop) (K : SV → List Blk → Prop) (h : RefSt M F r last rs) (hl : rs.length ≤ 1048576)
    (hK : (∀ f, f ∈ rs → f.1 ≠ no) → K (.tup [.agg [.i .i64 0, .i .i64 0, .sn], .i .i64 218]) M)
    (hK2 : ∀ (i : Nat) f, rs[i]? = some f → f.1 = no → (∀ (j : Nat) f', j < i → rs[j]? = some f' → f'.1 ≠ no) → ∀ M' F', RefSt M' F' r last (rs.eraseIdx i) → DatR M' F f.2.2.1 f.2.2.2 → (∀ n, F' n → F n ∨ M.length ≤ n) → Ag (· = r) M M' → K (.tup [.agg [.i .i64 f.1, .i .i64 f.2.1, f.2.2.1], .i .i64 0]) M') :
    callVC Try.prog 31 [.p r 0, .i .i64 no] M K := by
  refine fn_rule tabOK Try.func31 rfl Try.call31 (by kernel_rfl) (fun hM => ?_)
  (refine top_in ?_; simp -implicitDefEqProofs only [Try.ntmps31, Try.results31, go_sem, -List.reduceReplicate, ↓L_gdZ_tt, ↓L_gdZ_tf, ↓L_gdZ_ft, ↓L_gdZ_ff, ↓T_and, ↓T_imp, ↓T_all, Nat.reduceBEq, Nat.reduceAdd, Nat.reduceSub, Nat.reduceMul, Nat.reduceLT, Nat.reduceLeDiff, Nat.reduceEqDiff, Int.reduceLT, Int.reduceLE, Int.reduceAdd, Int.reduceSub, Int.reduceMul, Int.reduceNeg, Int.reduceToNat, Int.reduceEq, Int.reduceNe, reduceIte, reduceCtorEq, BitVec.reduceOfInt, BitVec.reduceToNat]; try simp only [top_out])
  have h0 : RefSt (M ++ [Blk.row [SV.i IntKind.i64 0, SV.i IntKind.i64 0, SV.sn] 32]) F r last rs := h.ag (S := fun _ => False) Ag.app (fun _ _ h => h)
  refine place_ok r no last rs _ F _ h0 hl (fun hn => ?_) (fun i f hi hf hj => ?_)
  · (refine top_in ?_; simp -implicitDefEqProofs only [go_sem, -List.reduceReplicate, ↓L_gdZ_tt, ↓L_gdZ_tf, ↓L_gdZ_ft, ↓L_gdZ_ff, ↓T_and, ↓T_imp, ↓T_all, Nat.reduceBEq, Nat.reduceAdd, Nat.reduceSub, Nat.reduceMul, Nat.reduceLT, Nat.reduceLeDiff, Nat.reduceEqDiff, Int.reduceLT, Int.reduceLE, Int.reduceAdd, Int.reduceSub, Int.reduceMul, Int.reduceNeg, Int.reduceToNat, Int.reduceEq, Int.reduceNe, reduceIte, reduceCtorEq, BitVec.reduceOfInt, BitVec.reduceToNat]; try simp only [top_out])
    exact dropC_append hM rfl (hK hn)
  · obtain ⟨x, h1, h2⟩ := h.ex
    have hr := kw h1
    have hlt := (List.getElem?_eq_some_iff.1 hi).1
    rcases h2 with ⟨rfl, rfl⟩ | ⟨q, cap, zz, ty, rfl, h3, h4, h5, h6, h7, h8⟩
    · cases hlt
    have hq := kw h3
    have hfl := flC_length (rs.map r3)
    rw [List.length_map] at hfl
    have hg : (rs.map r3)[i]? = some (r3 f) := by rw [List.getElem?_map, hi]; rfl
    have hd := h.data f (List.mem_of_getElem? hi)
    have hx1 := hd.lt.1
    have hcell := flC_get (rs.map r3) zz i hg
    simp only [r3] at hcell
    (refine top_in ?_; simp -implicitDefEqProofs only [go_sem, -List.reduceReplicate, ↓L_gdZ_tt, ↓L_gdZ_tf, ↓L_gdZ_ft, ↓L_gdZ_ff, ↓T_and, ↓T_imp, ↓T_all, Nat.reduceBEq, Nat.reduceAdd, Nat.reduceSub, Nat.reduceMul, Nat.reduceLT, Nat.reduceLeDiff, Nat.reduceEqDiff, Int.reduceLT, Int.reduceLE, Int.reduceAdd, Int.reduceSub, Int.reduceMul, Int.reduceNeg, Int.reduceToNat, Int.reduceEq, Int.reduceNe, reduceIte, reduceCtorEq, BitVec.reduceOfInt, BitVec.reduceToNat, get_lt hr, h1, get_lt hq, h3, hcell]; try simp only [top_out])
    refine ⟨fun h => absurd h (by omega), fun _ => ⟨by omega, by omega, by omega, by omega, hx1, ?_⟩⟩
    have h9 : RefSt (M ++ [Blk.row [SV.i IntKind.i64 0, SV.i IntKind.i64 0, SV.sn] 32, Blk.row [SV.i IntKind.i64 f.1, SV.i IntKind.i64 f.2.1, f.2.2.1] 32]) F r last rs := h.ag (S := fun _ => False) Ag.app (fun _ _ h => h)
    refine out_ok r i last rs _ F _ h9 hl hlt (fun M' F' h' hF' hA => ?_)
    have hlen2 := hA.1
    simp only [List.length_append, List.length_cons, List.length_nil] at hlen2
    have g1 : M'[M.length]? = some (Blk.row [SV.i IntKind.i64 0, SV.i IntKind.i64 0, SV.sn] 32) := hA.get (by simp [go_sem]) (fun (hn : _ = r) => by omega)
    have g2 : M'[M.length + 1]? = some (Blk.row [SV.i IntKind.i64 f.1, SV.i IntKind.i64 f.2.1, f.2.2.1] 32) := hA.get (by simp [go_sem]) (fun (hn : _ = r) => by omega)
    have g3 : ∀ B, (M'.set M.length B)[M.length]? = some B := fun B => List.getElem?_set_self (by omega)
    (refine top_in ?_; simp -implicitDefEqProofs only [go_sem, -List.reduceReplicate, ↓L_gdZ_tt, ↓L_gdZ_tf, ↓L_gdZ_ft, ↓L_gdZ_ff, ↓T_and, ↓T_imp, ↓T_all, Nat.reduceBEq, Nat.reduceAdd, Nat.reduceSub, Nat.reduceMul, Nat.reduceLT, Nat.reduceLeDiff, Nat.reduceEqDiff, Int.reduceLT, Int.reduceLE, Int.reduceAdd, Int.reduceSub, Int.reduceMul, Int.reduceNeg, Int.reduceToNat, Int.reduceEq, Int.reduceNe, reduceIte, reduceCtorEq, BitVec.reduceOfInt, BitVec.reduceToNat, g1, g2, g3, hx1]; try simp only [top_out])
    have hA2 : Ag (· = r) M M' := Ag.trans (Ag.app (S := fun _ => False) |>.mono (fun _ e => e.elim)) hA (fun _ _ e => e)
    refine dropC_all (by simp; omega) (hK2 i f hi hf hj _ F' (h'.ag (S := fun n => n = M.length) (Ag.set rfl) (fun n hn e => ?_)) ?_ (fun n hn => ?_) (Ag.trans hA2 (S' := fun n => n = M.length) (Ag.set rfl) (fun n h1 h2 => by omega)))
    · rcases hF' n hn with h1 | h1
      · have := h.inn n h1; omega
      · simp at h1; omega
    · have hd1 := hd.ag (F' := F) hA2 (fun d e1 e2 => ⟨fun e => h.dned (List.mem_of_getElem? hi) (by rw [e2, e]), e1⟩)
      exact hd1.ag (S := fun n => n = M.length) (Ag.set rfl) (fun d e1 e2 => ⟨fun e => by have := h.inn d e1; omega, e1⟩)
    · rcases hF' n hn with h1 | h1
      · exact .inl h1
      · simp at h1; exact .inr (by omega)
end Go.Proofs.Ytccnffjjahdneaa.Eng
