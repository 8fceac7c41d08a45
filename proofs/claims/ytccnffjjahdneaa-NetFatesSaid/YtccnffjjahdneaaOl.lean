/- Fates: the law. -/
import Derived.Test.YtccnffjjahdneaaOk
namespace Go.Proofs.Ytccnffjjahdneaa.Eng
open Go Go.RowKit
set_option linter.unusedSimpArgs false
set_option linter.unusedVariables false
set_option linter.unusedSimpArgs false
set_option linter.unusedVariables false

set_option maxHeartbeats 40000000 in
set_option maxRecDepth 20000 in
theorem fates_law (s b cap : Nat) (l : List Rec) (M : List Blk) (K : SV → List Blk → Prop) (hs0 : ScrAt M s b l) (hl : l.length ≤ 140737488351232) (hK : K (.b true) M) :
    callVC Try.prog 7 [.sl s 0 l.length cap] M K := by
  refine fn_rule tabOK Try.func7 rfl Try.call7 (by kernel_rfl) (fun hM => ?_)
  (refine top_in ?_; simp -implicitDefEqProofs only [Try.ntmps7, Try.results7, go_sem, -List.reduceReplicate, ↓L_gdZ_tt, ↓L_gdZ_tf, ↓L_gdZ_ft, ↓L_gdZ_ff, ↓T_and, ↓T_imp, ↓T_all, Nat.reduceBEq, Nat.reduceAdd, Nat.reduceSub, Nat.reduceMul, Nat.reduceLT, Nat.reduceLeDiff, Nat.reduceEqDiff, Int.reduceLT, Int.reduceLE, Int.reduceAdd, Int.reduceSub, Int.reduceMul, Int.reduceNeg, Int.reduceToNat, Int.reduceEq, Int.reduceNe, reduceIte, reduceCtorEq, BitVec.reduceOfInt, BitVec.reduceToNat]; try simp only [top_out])
  refine known_ok _ _ ?_
  (refine top_in ?_; simp -implicitDefEqProofs only [go_sem, -List.reduceReplicate, ↓L_gdZ_tt, ↓L_gdZ_tf, ↓L_gdZ_ft, ↓L_gdZ_ff, ↓T_and, ↓T_imp, ↓T_all, Nat.reduceBEq, Nat.reduceAdd, Nat.reduceSub, Nat.reduceMul, Nat.reduceLT, Nat.reduceLeDiff, Nat.reduceEqDiff, Int.reduceLT, Int.reduceLE, Int.reduceAdd, Int.reduceSub, Int.reduceMul, Int.reduceNeg, Int.reduceToNat, Int.reduceEq, Int.reduceNe, reduceIte, reduceCtorEq, BitVec.reduceOfInt, BitVec.reduceToNat]; try simp only [top_out])
  refine new_st _ _ (fun M1 nx m h1 hnx hm hA1 => ?_)
  have hlv : liveB M1[nx]? = true := by rw [h1.row]; rfl
  (refine top_in ?_; simp -implicitDefEqProofs only [go_sem, -List.reduceReplicate, ↓L_gdZ_tt, ↓L_gdZ_tf, ↓L_gdZ_ft, ↓L_gdZ_ff, ↓T_and, ↓T_imp, ↓T_all, Nat.reduceBEq, Nat.reduceAdd, Nat.reduceSub, Nat.reduceMul, Nat.reduceLT, Nat.reduceLeDiff, Nat.reduceEqDiff, Int.reduceLT, Int.reduceLE, Int.reduceAdd, Int.reduceSub, Int.reduceMul, Int.reduceNeg, Int.reduceToNat, Int.reduceEq, Int.reduceNe, reduceIte, reduceCtorEq, BitVec.reduceOfInt, BitVec.reduceToNat, hlv]; try simp only [top_out])
  have m1 := hA1.1
  refine loop_code tabOK (by kernel_rfl) (fun n ts M' => ∃ (k : Nat) (F Fb : Nat → Prop) (c : Nat) (fs : List Ent) (bk : List Rfl) (hs : List Bool) (x y : SV), k + n = 1000 ∧ FatSt M.length M' F Fb nx m c fs bk hs x y ∧ bk.length ≤ k ∧ Ag (fun n => M.length ≤ n) M M' ∧
    frC (some (.sl s 0 l.length cap) :: none :: none :: some (.p nx 0) :: some (x) :: some (y) :: some (.i .i64 k) :: none :: none :: none :: none :: none :: none :: none :: none :: none :: none :: none :: none :: none :: none :: none :: none :: none :: none :: none :: none :: none :: none :: none :: none :: none :: none :: none :: none :: none :: none :: none :: none :: none :: none :: none :: none :: none :: none :: none :: none :: none :: none :: none :: none :: none :: none :: none :: none :: none :: none :: none :: none :: none :: none :: none :: none :: none :: none :: none :: none :: none :: none :: none :: none :: none :: none :: none :: none :: none :: none :: none :: none :: none :: none :: none :: none :: none :: none :: none :: none :: none :: none :: none :: none :: none :: none :: none :: none :: none :: none :: none :: none :: none :: none :: none :: none :: none :: none :: none :: none :: none :: none :: none :: none :: none :: none :: none :: none :: none :: none :: none :: none :: none :: none :: none :: none :: none :: none :: none :: none :: none :: none :: none :: none :: none :: none :: none :: none :: none :: none :: none :: none :: none :: none :: none :: none :: none :: none :: none :: none :: none :: none :: none :: none :: none :: none :: none :: none :: none :: none :: none :: none :: none :: none :: none :: none :: none :: none :: none :: none :: none :: none :: none :: none :: none :: none :: none :: none :: none :: none :: none :: none :: none :: none :: none :: none :: none :: none :: none :: none :: none :: none :: none :: none :: none :: none :: none :: none :: none :: none :: none :: none :: none :: none :: none :: none :: none :: none :: none :: none :: none :: none :: none :: none :: none :: []) ts) 1000 ?_ ?_
  · refine ⟨0, _, fun _ => False, 0, [], [], [], .sn, .sn, by omega, ⟨h1, ⟨.inl ⟨rfl, rfl⟩, .inl ⟨rfl, rfl⟩, rfl, by simp, by simp, by simp, by simp [dnS], by simp, by simp⟩, rfl, by simp, fun n e => by rcases e with e | e <;> omega, by simp⟩, by simp, hA1.mono (fun _ e => e.elim), by simp [frC]⟩
  rintro n ts M3 ⟨k, F, Fb, c, fs, bk, hs, x, y, hk, q, hbk, hA3, hf⟩
  have hs3 := hs0.ag hA3 (fun n h1 h2 => by omega)
  have hrow3 := hs3.row
  have hlx : ∀ {M' : List Blk} {e a b : Nat} {K : SV → Prop}, lenB (.slice e a b) M' x K = K (.i .i64 bk.length) := q.book.lenx
  have hly : ∀ {M' : List Blk} {e a b : Nat} {K : SV → Prop}, lenB (.slice e a b) M' y K = K (.i .i64 hs.length) := q.book.leny
  have hfl := q.fl
  by_cases hkl : k < l.length
  · obtain ⟨ki, se, to, no, xx, a, d, xd, e0, e1, e2, e3, e4, e5, e6⟩ := hs3.step hkl
    have hx3 : Byt M3 xd d := e6.byt (by have := e6.1; omega)
    have hxl : ∀ {M' : List Blk} {e a b : Nat} {K : SV → Prop}, lenB (.slice e a b) M' xd K = K (.i .i64 d.length) := hx3.lenB
    have hxo := hx3.one
    have hxG : ∀ d, dnS xd = some d → d < M.length := by
      obtain ⟨ki', se', to', no', xx', a', d', x', f0, f1, f2, f3, f4, f5, f6⟩ := hs0.step hkl
      rw [e1] at f1
      simp only [List.cons.injEq, SV.i.injEq, SV.b.injEq, and_true, true_and] at f1
      obtain ⟨-, -, -, -, -, -, rfl⟩ := f1
      exact f6.dn
    have m3 := hA3.1
    have hbo : (M3 ++ [Blk.row [SV.i .i64 ki, .b se, .i .i64 to, .i .i64 no, .i .i64 xx, .i .i64 a, xd] 43])[M3.length]? = some (.row [.i .i64 ki, .b se, .i .i64 to, .i .i64 no, .i .i64 xx, .i .i64 a, xd] 43) := by simp
    by_cases hth : ∃ (i : Nat) (f : Rfl), no = (i : Int) + 1 ∧ bk[i]? = some f ∧ hs[i]? = some true
    · obtain ⟨i, fv, hi, hbi, hhi⟩ := hth
      have hbl := q.book.len
      have hib : i < bk.length := (List.getElem?_eq_some_iff.1 hbi).1
      have hih : i < hs.length := (List.getElem?_eq_some_iff.1 hhi).1
      obtain ⟨e, he, ee1, ee2, ee3⟩ := there_yes q.book q.view hbi hhi
      have hfn := q.book.num i fv hbi
      have hen : e.1 = no := by rw [ee1, hfn, hi]; omega
      subst hen
      have hat : IntKind.i64.wrap (e.1 - 1) = (i : Int) := by rw [w64 (by omega) (by omega)]; omega
      rcases q.book.her with ⟨_, h0⟩ | ⟨r, rcap, rz, rty, rfl, r1, r2, r3', r4⟩
      · rw [h0] at hih; simp at hih
      rcases q.book.lst with ⟨_, h0⟩ | ⟨qq, qcap, zz, ty, rfl, q1, q2, q3, q4⟩
      · rw [h0] at hib; simp at hib
      have hgb : (hs.map SV.b ++ rz).getD i uS = .b true := by
        rw [List.getD_eq_getElem?_getD, List.getElem?_append_left (by simpa using hih), List.getElem?_map, hhi]; rfl
      have hml : (hs.map SV.b).length = hs.length := List.length_map _
      have hg : (bk.map Eng.r3)[i]? = some (Eng.r3 fv) := by rw [List.getElem?_map, hbi]; rfl
      obtain ⟨fc1, fc2, fc3⟩ := flC_cells _ zz i hg
      simp only [Eng.r3] at fc1 fc2 fc3
      have gc2 := isI_of fc2
      have gc3 : (flC (bk.map Eng.r3) ++ zz).getD (i * 3 + 2) uS = fv.2.2.1 := by rw [List.getD_eq_getElem?_getD, fc3]; rfl
      have hfl3 := flC_length (bk.map Eng.r3)
      rw [List.length_map] at hfl3
      have hfd := q.book.data fv (List.mem_of_getElem? hbi)
      have hfb := hfd.byt
      have hfo := hfb.one
      have hfln : ∀ {M' : List Blk} {e a b : Nat} {K : SV → Prop}, lenB (.slice e a b) M' fv.2.2.1 K = K (.i .i64 fv.2.2.2.length) := hfb.lenB
      have qb := q.ag (Ag.app (L := [Blk.row [.i .i64 ki, .b se, .i .i64 to, .i .i64 e.1, .i .i64 xx, .i .i64 a, xd] 43]))
      by_cases hk1 : ki = 1
      · as_aux_lemma =>
          subst hk1
          obtain ⟨f, rfl⟩ := frC_open _ _ 0 hf
          clear hf
          (refine top_in ?_; simp -implicitDefEqProofs (maxSteps := 1000000) only [go_sem, -List.reduceReplicate, ↓L_gdZ_tt, ↓L_gdZ_tf, ↓L_gdZ_ft, ↓L_gdZ_ff, ↓T_and, ↓T_imp, ↓T_all, Nat.reduceBEq, Nat.reduceAdd, Nat.reduceSub, Nat.reduceMul, Nat.reduceLT, Nat.reduceLeDiff, Nat.reduceEqDiff, Int.reduceLT, Int.reduceLE, Int.reduceAdd, Int.reduceSub, Int.reduceMul, Int.reduceNeg, Int.reduceToNat, Int.reduceEq, Int.reduceNe, reduceIte, reduceCtorEq, BitVec.reduceOfInt, BitVec.reduceToNat, hrow3, e0, e1, e2, hlx, hly, hxl, hxo, hat, Int.reduceBEq, Int.reduceBNe, get_lt (kw r1), r1, hgb]; try simp only [top_out])
          repeat' (with_reducible first | refine And.intro ?_ ?_ | intro)
          all_goals try omega
          all_goals first
            | exact ⟨n - 1, by omega, k + 1, F, Fb, c, fs, bk, hs, _, _, by omega, q.ag Ag.app, by omega, Ag.trans hA3 (Ag.app (S := fun _ => False)) (fun _ _ e => e.elim), rfl, rfl, w64 (by omega) (by omega)⟩
            | refine counted_ok nx m c bk.length _ _ bk hs fs M3 F Fb _ q.net q.book q.view (by omega) (by omega) (by omega) ?_
              (refine top_in ?_; simp -implicitDefEqProofs only [go_sem, -List.reduceReplicate, ↓L_gdZ_tt, ↓L_gdZ_tf, ↓L_gdZ_ft, ↓L_gdZ_ff, ↓T_and, ↓T_imp, ↓T_all, Nat.reduceBEq, Nat.reduceAdd, Nat.reduceSub, Nat.reduceMul, Nat.reduceLT, Nat.reduceLeDiff, Nat.reduceEqDiff, Int.reduceLT, Int.reduceLE, Int.reduceAdd, Int.reduceSub, Int.reduceMul, Int.reduceNeg, Int.reduceToNat, Int.reduceEq, Int.reduceNe, reduceIte, reduceCtorEq, BitVec.reduceOfInt, BitVec.reduceToNat]; try simp only [top_out])
              exact dropC_ag hM hA3 (fun n h1 h2 => by omega) rfl hK
            | skip
          all_goals
            refine draw_from (fun M2 => Ag (fun _ => False) M3 M2 ∧ M2[M3.length]? = some (.row [.i .i64 1, .b se, .i .i64 to, .i .i64 (e.1), .i .i64 xx, .i .i64 a, xd] 43)) ⟨Ag.app, hbo⟩ (fun M4 hM4 => ?_)
            obtain ⟨hA4, hbox⟩ := hM4
            have q4 := q.ag hA4
            have hx4 := hx3.ag hA4 (fun _ _ e => e)
            refine draw_rule tabOK (by kernel_rfl : _) (.p 0 (.p 1 (.p 2 (.p 3 (.p 4 (.e 5 [1, 2] (.e 6 [] (.p 7 .nil) .no) .no)))))) (by kernel_rfl) (by kernel_rfl) ?_
            (refine top_in ?_; simp -implicitDefEqProofs only [go_sem, -List.reduceReplicate, ↓L_gdZ_tt, ↓L_gdZ_tf, ↓L_gdZ_ft, ↓L_gdZ_ff, ↓T_and, ↓T_imp, ↓T_all, Nat.reduceBEq, Nat.reduceAdd, Nat.reduceSub, Nat.reduceMul, Nat.reduceLT, Nat.reduceLeDiff, Nat.reduceEqDiff, Int.reduceLT, Int.reduceLE, Int.reduceAdd, Int.reduceSub, Int.reduceMul, Int.reduceNeg, Int.reduceToNat, Int.reduceEq, Int.reduceNe, reduceIte, reduceCtorEq, BitVec.reduceOfInt, BitVec.reduceToNat, hbox, hxo]; try simp only [top_out])
            refine bytes_any xd d M4 _ hx4 (fun z1 t1 => ?_)
            (refine top_in ?_; simp -implicitDefEqProofs only [go_sem, -List.reduceReplicate, ↓L_gdZ_tt, ↓L_gdZ_tf, ↓L_gdZ_ft, ↓L_gdZ_ff, ↓T_and, ↓T_imp, ↓T_all, Nat.reduceBEq, Nat.reduceAdd, Nat.reduceSub, Nat.reduceMul, Nat.reduceLT, Nat.reduceLeDiff, Nat.reduceEqDiff, Int.reduceLT, Int.reduceLE, Int.reduceAdd, Int.reduceSub, Int.reduceMul, Int.reduceNeg, Int.reduceToNat, Int.reduceEq, Int.reduceNe, reduceIte, reduceCtorEq, BitVec.reduceOfInt, BitVec.reduceToNat]; try simp only [top_out])
            simp only [get_lt (kw hbox), hbox]
            refine ⟨⟨⟨rfl, rfl⟩, by simp [go_sem]⟩, ?_⟩
            have hr4 : (M4 ++ [Blk.row (bS (d ++ z1)) t1])[M4.length]? = some (.row (bS (d ++ z1)) t1) := by simp
            have hdl := hx4.1
            have hnxl := kw q4.net.row
            refine send_st nx m c bk.length to _ d fs _ F _ (q4.net.ag (Ag.app (S := fun _ => False)) (fun _ _ e => e)) (by omega) (by omega) ⟨hdl, .inr ⟨_, _, rfl, BAt.row hr4, There.row hr4, fun e => by omega⟩⟩ (fun M5 F5 x' h5 hF5 hA5 => ?_)
            have hA45 : Ag F M4 M5 := Ag.trans ((Ag.app (S := fun _ => False)).mono (fun _ e => e.elim)) hA5 (fun _ _ e => e)
            have hA35 : Ag F M3 M5 := Ag.trans (hA4.mono (fun _ e => e.elim)) hA45 (fun _ _ e => e)
            have hFl : ∀ n, F n → n < M3.length := q.net.inn
            have hbox5 := hA45.get hbox (fun e => by have := hFl _ e; omega)
            have hx5 : Byt M5 xd d := hx4.ag hA45 (fun d e e2 => by have := hxG d e; have := q.newF d e2; omega)
            have hwb : IntKind.i64.wrap ((bk.length : Int) + 1) = (bk.length : Int) + 1 := w64 (by omega) (by omega)
            (refine top_in ?_; simp -implicitDefEqProofs only [go_sem, -List.reduceReplicate, ↓L_gdZ_tt, ↓L_gdZ_tf, ↓L_gdZ_ft, ↓L_gdZ_ff, ↓T_and, ↓T_imp, ↓T_all, Nat.reduceBEq, Nat.reduceAdd, Nat.reduceSub, Nat.reduceMul, Nat.reduceLT, Nat.reduceLeDiff, Nat.reduceEqDiff, Int.reduceLT, Int.reduceLE, Int.reduceAdd, Int.reduceSub, Int.reduceMul, Int.reduceNeg, Int.reduceToNat, Int.reduceEq, Int.reduceNe, reduceIte, reduceCtorEq, BitVec.reduceOfInt, BitVec.reduceToNat, hlx, hwb]; try simp only [top_out])
            refine ⟨fun h => by simp at h, fun _ => ?_⟩
            refine draw_rule tabOK (by kernel_rfl : _) (.p 0 (.p 1 (.p 2 (.p 3 (.p 4 (.p 5 (.e 6 [2, 3] (.p 7 (.e 8 [] (.e 9 [] (.p 10 .nil) .no) .no)) .no))))))) (by kernel_rfl) (by kernel_rfl) ?_
            (refine top_in ?_; simp -implicitDefEqProofs only [go_sem, -List.reduceReplicate, ↓L_gdZ_tt, ↓L_gdZ_tf, ↓L_gdZ_ft, ↓L_gdZ_ff, ↓T_and, ↓T_imp, ↓T_all, Nat.reduceBEq, Nat.reduceAdd, Nat.reduceSub, Nat.reduceMul, Nat.reduceLT, Nat.reduceLeDiff, Nat.reduceEqDiff, Int.reduceLT, Int.reduceLE, Int.reduceAdd, Int.reduceSub, Int.reduceMul, Int.reduceNeg, Int.reduceToNat, Int.reduceEq, Int.reduceNe, reduceIte, reduceCtorEq, BitVec.reduceOfInt, BitVec.reduceToNat, hbox5, hxo]; try simp only [top_out])
            refine bytes_any xd d M5 _ hx5 (fun z2 t2 => ?_)
            (refine top_in ?_; simp -implicitDefEqProofs only [go_sem, -List.reduceReplicate, ↓L_gdZ_tt, ↓L_gdZ_tf, ↓L_gdZ_ft, ↓L_gdZ_ff, ↓T_and, ↓T_imp, ↓T_all, Nat.reduceBEq, Nat.reduceAdd, Nat.reduceSub, Nat.reduceMul, Nat.reduceLT, Nat.reduceLeDiff, Nat.reduceEqDiff, Int.reduceLT, Int.reduceLE, Int.reduceAdd, Int.reduceSub, Int.reduceMul, Int.reduceNeg, Int.reduceToNat, Int.reduceEq, Int.reduceNe, reduceIte, reduceCtorEq, BitVec.reduceOfInt, BitVec.reduceToNat, get_lt (kw hbox5), hbox5]; try simp only [top_out])
            have hF5' : ∀ n, F5 n → F n ∨ M3.length ≤ n := fun n e => (hF5 n e).imp (fun e => e) (fun e => by have := hA4.1; simp only [List.length_append] at e; omega)
            refine ⟨by decide, ?_⟩
            have hbk5 := q.book.ag hA35 (fun n e e2 => q.apart n e e2)
            have m35 := hA35.1
            have hsrc : ∀ K : List SV → Nat → Prop, K [.i .i64 ((bk.length : Int) + 1), .i .i64 to, .sl M5.length 0 (d).length ((d).length + z2.length)] 1 → srcC (M5 ++ [Blk.row (bS (d ++ z2)) t2, Blk.row [.i .i64 ((bk.length : Int) + 1), .i .i64 to, .sl M5.length 0 (d).length ((d).length + z2.length)] 32]) 3 (SV.sl (M5.length + 1) 0 1 1) K := fun K hK => by simp only [srcC]; rw [cells_at (k := 1)]; (refine top_in ?_; simp -implicitDefEqProofs only [go_sem, -List.reduceReplicate, ↓L_gdZ_tt, ↓L_gdZ_tf, ↓L_gdZ_ft, ↓L_gdZ_ff, ↓T_and, ↓T_imp, ↓T_all, Nat.reduceBEq, Nat.reduceAdd, Nat.reduceSub, Nat.reduceMul, Nat.reduceLT, Nat.reduceLeDiff, Nat.reduceEqDiff, Int.reduceLT, Int.reduceLE, Int.reduceAdd, Int.reduceSub, Int.reduceMul, Int.reduceNeg, Int.reduceToNat, Int.reduceEq, Int.reduceNe, reduceIte, reduceCtorEq, BitVec.reduceOfInt, BitVec.reduceToNat]; try simp only [top_out]); exact hK
            refine appB [.i .i64 0, .i .i64 0, .sn] (SV.sl qq 0 bk.length qcap) (flC (bk.map Eng.r3)) [.i .i64 ((bk.length : Int) + 1), .i .i64 to, .sl M5.length 0 (d).length ((d).length + z2.length)] bk.length 1 rfl (by decide) (by decide) rfl rfl (by rw [flC_length, List.length_map]) (hbk5.lo _) hsrc (by omega) (fun M6 q6 z6 t6 c6 hA6 hq6 hr6 hc6 hz6 => ?_)
            (refine top_in ?_; simp -implicitDefEqProofs only [go_sem, -List.reduceReplicate, ↓L_gdZ_tt, ↓L_gdZ_tf, ↓L_gdZ_ft, ↓L_gdZ_ff, ↓T_and, ↓T_imp, ↓T_all, Nat.reduceBEq, Nat.reduceAdd, Nat.reduceSub, Nat.reduceMul, Nat.reduceLT, Nat.reduceLeDiff, Nat.reduceEqDiff, Int.reduceLT, Int.reduceLE, Int.reduceAdd, Int.reduceSub, Int.reduceMul, Int.reduceNeg, Int.reduceToNat, Int.reduceEq, Int.reduceNe, reduceIte, reduceCtorEq, BitVec.reduceOfInt, BitVec.reduceToNat]; try simp only [top_out])
            refine ⟨by decide, ?_⟩
            have hA56 : Ag (fun n => dnS (SV.sl qq 0 bk.length qcap) = some n) M5 M6 := Ag.trans (S' := fun n => dnS (SV.sl qq 0 bk.length qcap) = some n) Ag.app hA6 (fun _ _ e => e)
            have hsrc2 : ∀ K : List SV → Nat → Prop, K [.b true] 1 → srcC (M6 ++ [Blk.row [.b true] 4]) 1 (SV.sl M6.length 0 1 1) K := fun K hK => by simp only [srcC]; rw [cells_at0]; (refine top_in ?_; simp -implicitDefEqProofs only [go_sem, -List.reduceReplicate, ↓L_gdZ_tt, ↓L_gdZ_tf, ↓L_gdZ_ft, ↓L_gdZ_ff, ↓T_and, ↓T_imp, ↓T_all, Nat.reduceBEq, Nat.reduceAdd, Nat.reduceSub, Nat.reduceMul, Nat.reduceLT, Nat.reduceLeDiff, Nat.reduceEqDiff, Int.reduceLT, Int.reduceLE, Int.reduceAdd, Int.reduceSub, Int.reduceMul, Int.reduceNeg, Int.reduceToNat, Int.reduceEq, Int.reduceNe, reduceIte, reduceCtorEq, BitVec.reduceOfInt, BitVec.reduceToNat]; try simp only [top_out]); exact hK
            refine appB [.b false] (SV.sl r 0 hs.length rcap) (hs.map SV.b) [.b true] hs.length 1 rfl (by decide) (by decide) rfl rfl (by simp) (hbk5.ho hA56 _) hsrc2 (by have := q.book.len; omega) (fun M7 q7 z7 t7 c7 hA7 hq7 hr7 hc7 hz7 => ?_)
            (refine top_in ?_; simp -implicitDefEqProofs only [go_sem, -List.reduceReplicate, ↓L_gdZ_tt, ↓L_gdZ_tf, ↓L_gdZ_ft, ↓L_gdZ_ff, ↓T_and, ↓T_imp, ↓T_all, Nat.reduceBEq, Nat.reduceAdd, Nat.reduceSub, Nat.reduceMul, Nat.reduceLT, Nat.reduceLeDiff, Nat.reduceEqDiff, Int.reduceLT, Int.reduceLE, Int.reduceAdd, Int.reduceSub, Int.reduceMul, Int.reduceNeg, Int.reduceToNat, Int.reduceEq, Int.reduceNe, reduceIte, reduceCtorEq, BitVec.reduceOfInt, BitVec.reduceToNat]; try simp only [top_out])
            have hA57 : Ag (fun n => dnS (SV.sl qq 0 bk.length qcap) = some n ∨ dnS (SV.sl r 0 hs.length rcap) = some n) M5 M7 := Ag.trans (hA56.mono (fun _ e => .inl e)) (Ag.trans (S' := fun n => dnS (SV.sl r 0 hs.length rcap) = some n) Ag.app hA7 (fun _ _ e => e)) (fun _ _ e => .inr e)
            have hql : ∀ n, (dnS (SV.sl qq 0 bk.length qcap) = some n ∨ dnS (SV.sl r 0 hs.length rcap) = some n) → n < M5.length := fun n e => hbk5.inn n (hbk5.own e)
            simp only [List.length_append, List.length_cons, List.length_nil] at hq6 hq7
            have hr6' := hA7.get (n := q6) (by rw [get_lt (kw hr6)]; exact hr6) (fun e => by have := hql q6 (.inr e); omega)
            have hd6 := hA6.get (n := M5.length) (B := .row (bS (d ++ z2)) t2) (by simp) (fun e => by have := hql _ (.inl e); omega)
            have hd7 := hA7.get (n := M5.length) (by rw [get_lt (kw hd6)]; exact hd6) (fun e => by have := hql _ (.inr e); omega)
            have k6 := kw hr6
            have hfin := q.add m3 h5 hF5' hA35 hA57 q6 c6 q7 c7 z6 z7 t6 t7 (xb := .sl M5.length 0 (d).length ((d).length + z2.length)) hr6' hc6 hz6 hr7 hc7 hz7 ⟨by omega, .inr ⟨M5.length, z2, t2, rfl, hd7, Nat.le_refl _⟩⟩ (by omega) (by omega) (by omega) (by simp only [dnS, ne_eq, Option.some.injEq]; omega) (by simp only [dnS, ne_eq, Option.some.injEq]; omega)
            have hA37 : Ag (fun n => F n ∨ Fb n) M3 M7 := Ag.trans (hA35.mono (fun _ e => .inl e)) hA57 (fun n _ e => .inr (hbk5.own e))
            exact ⟨n - 1, by omega, k + 1, _, _, _, _, _, _, _, _, by omega, hfin, by simp; omega, Ag.trans hA3 hA37 (fun n _ e => e.elim (q.newF n) (q.newB n)), rfl, rfl, w64 (by omega) (by omega)⟩
      by_cases hk4 : ki = 4
      · as_aux_lemma =>
          subst hk4
          obtain ⟨f, rfl⟩ := frC_open _ _ 0 hf
          clear hf
          (refine top_in ?_; simp -implicitDefEqProofs (maxSteps := 1000000) only [go_sem, -List.reduceReplicate, ↓L_gdZ_tt, ↓L_gdZ_tf, ↓L_gdZ_ft, ↓L_gdZ_ff, ↓T_and, ↓T_imp, ↓T_all, Nat.reduceBEq, Nat.reduceAdd, Nat.reduceSub, Nat.reduceMul, Nat.reduceLT, Nat.reduceLeDiff, Nat.reduceEqDiff, Int.reduceLT, Int.reduceLE, Int.reduceAdd, Int.reduceSub, Int.reduceMul, Int.reduceNeg, Int.reduceToNat, Int.reduceEq, Int.reduceNe, reduceIte, reduceCtorEq, BitVec.reduceOfInt, BitVec.reduceToNat, hrow3, e0, e1, e2, hlx, hly, hxl, hxo, hat, Int.reduceBEq, Int.reduceBNe, get_lt (kw r1), r1, hgb]; try simp only [top_out])
          repeat' (with_reducible first | refine And.intro ?_ ?_ | intro)
          all_goals try omega
          all_goals first
            | exact ⟨n - 1, by omega, k + 1, F, Fb, c, fs, bk, hs, _, _, by omega, q.ag Ag.app, by omega, Ag.trans hA3 (Ag.app (S := fun _ => False)) (fun _ _ e => e.elim), rfl, rfl, w64 (by omega) (by omega)⟩
            | refine counted_ok nx m c bk.length _ _ bk hs fs M3 F Fb _ q.net q.book q.view (by omega) (by omega) (by omega) ?_
              (refine top_in ?_; simp -implicitDefEqProofs only [go_sem, -List.reduceReplicate, ↓L_gdZ_tt, ↓L_gdZ_tf, ↓L_gdZ_ft, ↓L_gdZ_ff, ↓T_and, ↓T_imp, ↓T_all, Nat.reduceBEq, Nat.reduceAdd, Nat.reduceSub, Nat.reduceMul, Nat.reduceLT, Nat.reduceLeDiff, Nat.reduceEqDiff, Int.reduceLT, Int.reduceLE, Int.reduceAdd, Int.reduceSub, Int.reduceMul, Int.reduceNeg, Int.reduceToNat, Int.reduceEq, Int.reduceNe, reduceIte, reduceCtorEq, BitVec.reduceOfInt, BitVec.reduceToNat]; try simp only [top_out])
              exact dropC_ag hM hA3 (fun n h1 h2 => by omega) rfl hK
            | skip
          all_goals
            have hFl : ∀ n, F n → n < M3.length := q.net.inn
            have hwb : IntKind.i64.wrap ((bk.length : Int) + 1) = (bk.length : Int) + 1 := w64 (by omega) (by omega)
            have hbn : (((bk.length : Int) + 1) != ((bk.length : Int) + 1)) = false := by simp
            refine copy_st nx m c bk.length e fs _ F _ qb.net (by omega) (by omega) he (fun M5 F5 x' h5 hF5 hA5 => ?_)
            rw [ee2, ee3] at h5
            have hA35 : Ag F M3 M5 := Ag.trans ((Ag.app (S := fun _ => False)).mono (fun _ e => e.elim)) hA5 (fun _ _ e => e)
            have s1 := hA35.get q1 (q.apart _ q4)
            have hx5 : Byt M5 fv.2.2.1 fv.2.2.2 := (hfd.ag (F' := Fb) hA35 (fun d e _ => ⟨q.apart d e, e⟩)).byt
            have hF5' : ∀ n, F5 n → F n ∨ M3.length ≤ n := fun n e => (hF5 n e).imp (fun e => e) (fun e => by simp only [List.length_append] at e; omega)
            (refine top_in ?_; simp -implicitDefEqProofs only [go_sem, -List.reduceReplicate, ↓L_gdZ_tt, ↓L_gdZ_tf, ↓L_gdZ_ft, ↓L_gdZ_ff, ↓T_and, ↓T_imp, ↓T_all, Nat.reduceBEq, Nat.reduceAdd, Nat.reduceSub, Nat.reduceMul, Nat.reduceLT, Nat.reduceLeDiff, Nat.reduceEqDiff, Int.reduceLT, Int.reduceLE, Int.reduceAdd, Int.reduceSub, Int.reduceMul, Int.reduceNeg, Int.reduceToNat, Int.reduceEq, Int.reduceNe, reduceIte, reduceCtorEq, BitVec.reduceOfInt, BitVec.reduceToNat, hlx, hwb]; try simp only [top_out])
            refine num_ok 0 _ _ ?_
            (refine top_in ?_; simp -implicitDefEqProofs only [go_sem, -List.reduceReplicate, ↓L_gdZ_tt, ↓L_gdZ_tf, ↓L_gdZ_ft, ↓L_gdZ_ff, ↓T_and, ↓T_imp, ↓T_all, Nat.reduceBEq, Nat.reduceAdd, Nat.reduceSub, Nat.reduceMul, Nat.reduceLT, Nat.reduceLeDiff, Nat.reduceEqDiff, Int.reduceLT, Int.reduceLE, Int.reduceAdd, Int.reduceSub, Int.reduceMul, Int.reduceNeg, Int.reduceToNat, Int.reduceEq, Int.reduceNe, reduceIte, reduceCtorEq, BitVec.reduceOfInt, BitVec.reduceToNat, hlx, hwb, hbn, Int.reduceBEq, Int.reduceBNe]; try simp only [top_out])
            refine draw_rule tabOK (by kernel_rfl : _) (.p 0 (.p 1 (.p 2 (.p 3 (.p 4 (.p 5 (.p 6 (.p 7 (.p 8 (.p 9 (.p 10 (.p 11 (.e 12 [4, 5, 6] (.p 13 (.e 14 [] (.e 15 [] (.p 16 .nil) .no) .no)) .no))))))))))))) (by kernel_rfl) (by kernel_rfl) ?_
            (refine top_in ?_; simp -implicitDefEqProofs only [go_sem, -List.reduceReplicate, ↓L_gdZ_tt, ↓L_gdZ_tf, ↓L_gdZ_ft, ↓L_gdZ_ff, ↓T_and, ↓T_imp, ↓T_all, Nat.reduceBEq, Nat.reduceAdd, Nat.reduceSub, Nat.reduceMul, Nat.reduceLT, Nat.reduceLeDiff, Nat.reduceEqDiff, Int.reduceLT, Int.reduceLE, Int.reduceAdd, Int.reduceSub, Int.reduceMul, Int.reduceNeg, Int.reduceToNat, Int.reduceEq, Int.reduceNe, reduceIte, reduceCtorEq, BitVec.reduceOfInt, BitVec.reduceToNat, s1, gc2.1, gc2.2, gc3, hfo]; try simp only [top_out])
            repeat' (with_reducible first | refine And.intro ?_ ?_ | intro)
            all_goals try omega
            refine bytes_any fv.2.2.1 fv.2.2.2 M5 _ hx5 (fun z2 t2 => ?_)
            (refine top_in ?_; simp -implicitDefEqProofs only [go_sem, -List.reduceReplicate, ↓L_gdZ_tt, ↓L_gdZ_tf, ↓L_gdZ_ft, ↓L_gdZ_ff, ↓T_and, ↓T_imp, ↓T_all, Nat.reduceBEq, Nat.reduceAdd, Nat.reduceSub, Nat.reduceMul, Nat.reduceLT, Nat.reduceLeDiff, Nat.reduceEqDiff, Int.reduceLT, Int.reduceLE, Int.reduceAdd, Int.reduceSub, Int.reduceMul, Int.reduceNeg, Int.reduceToNat, Int.reduceEq, Int.reduceNe, reduceIte, reduceCtorEq, BitVec.reduceOfInt, BitVec.reduceToNat, get_lt (kw s1), s1, gc2.1, gc2.2]; try simp only [top_out])
            have hdl := hx5.1
            refine ⟨⟨by omega, by omega, by omega, by omega⟩, ?_⟩
            refine ⟨by decide, ?_⟩
            have hbk5 := q.book.ag hA35 (fun n e e2 => q.apart n e e2)
            have m35 := hA35.1
            have hsrc : ∀ K : List SV → Nat → Prop, K [.i .i64 ((bk.length : Int) + 1), .i .i64 fv.2.1, .sl M5.length 0 (fv.2.2.2).length ((fv.2.2.2).length + z2.length)] 1 → srcC (M5 ++ [Blk.row (bS (fv.2.2.2 ++ z2)) t2, Blk.row [.i .i64 ((bk.length : Int) + 1), .i .i64 fv.2.1, .sl M5.length 0 (fv.2.2.2).length ((fv.2.2.2).length + z2.length)] 32]) 3 (SV.sl (M5.length + 1) 0 1 1) K := fun K hK => by simp only [srcC]; rw [cells_at (k := 1)]; (refine top_in ?_; simp -implicitDefEqProofs only [go_sem, -List.reduceReplicate, ↓L_gdZ_tt, ↓L_gdZ_tf, ↓L_gdZ_ft, ↓L_gdZ_ff, ↓T_and, ↓T_imp, ↓T_all, Nat.reduceBEq, Nat.reduceAdd, Nat.reduceSub, Nat.reduceMul, Nat.reduceLT, Nat.reduceLeDiff, Nat.reduceEqDiff, Int.reduceLT, Int.reduceLE, Int.reduceAdd, Int.reduceSub, Int.reduceMul, Int.reduceNeg, Int.reduceToNat, Int.reduceEq, Int.reduceNe, reduceIte, reduceCtorEq, BitVec.reduceOfInt, BitVec.reduceToNat]; try simp only [top_out]); exact hK
            refine appB [.i .i64 0, .i .i64 0, .sn] (SV.sl qq 0 bk.length qcap) (flC (bk.map Eng.r3)) [.i .i64 ((bk.length : Int) + 1), .i .i64 fv.2.1, .sl M5.length 0 (fv.2.2.2).length ((fv.2.2.2).length + z2.length)] bk.length 1 rfl (by decide) (by decide) rfl rfl (by rw [flC_length, List.length_map]) (hbk5.lo _) hsrc (by omega) (fun M6 q6 z6 t6 c6 hA6 hq6 hr6 hc6 hz6 => ?_)
            (refine top_in ?_; simp -implicitDefEqProofs only [go_sem, -List.reduceReplicate, ↓L_gdZ_tt, ↓L_gdZ_tf, ↓L_gdZ_ft, ↓L_gdZ_ff, ↓T_and, ↓T_imp, ↓T_all, Nat.reduceBEq, Nat.reduceAdd, Nat.reduceSub, Nat.reduceMul, Nat.reduceLT, Nat.reduceLeDiff, Nat.reduceEqDiff, Int.reduceLT, Int.reduceLE, Int.reduceAdd, Int.reduceSub, Int.reduceMul, Int.reduceNeg, Int.reduceToNat, Int.reduceEq, Int.reduceNe, reduceIte, reduceCtorEq, BitVec.reduceOfInt, BitVec.reduceToNat]; try simp only [top_out])
            refine ⟨by decide, ?_⟩
            have hA56 : Ag (fun n => dnS (SV.sl qq 0 bk.length qcap) = some n) M5 M6 := Ag.trans (S' := fun n => dnS (SV.sl qq 0 bk.length qcap) = some n) Ag.app hA6 (fun _ _ e => e)
            have hsrc2 : ∀ K : List SV → Nat → Prop, K [.b true] 1 → srcC (M6 ++ [Blk.row [.b true] 4]) 1 (SV.sl M6.length 0 1 1) K := fun K hK => by simp only [srcC]; rw [cells_at0]; (refine top_in ?_; simp -implicitDefEqProofs only [go_sem, -List.reduceReplicate, ↓L_gdZ_tt, ↓L_gdZ_tf, ↓L_gdZ_ft, ↓L_gdZ_ff, ↓T_and, ↓T_imp, ↓T_all, Nat.reduceBEq, Nat.reduceAdd, Nat.reduceSub, Nat.reduceMul, Nat.reduceLT, Nat.reduceLeDiff, Nat.reduceEqDiff, Int.reduceLT, Int.reduceLE, Int.reduceAdd, Int.reduceSub, Int.reduceMul, Int.reduceNeg, Int.reduceToNat, Int.reduceEq, Int.reduceNe, reduceIte, reduceCtorEq, BitVec.reduceOfInt, BitVec.reduceToNat]; try simp only [top_out]); exact hK
            refine appB [.b false] (SV.sl r 0 hs.length rcap) (hs.map SV.b) [.b true] hs.length 1 rfl (by decide) (by decide) rfl rfl (by simp) (hbk5.ho hA56 _) hsrc2 (by have := q.book.len; omega) (fun M7 q7 z7 t7 c7 hA7 hq7 hr7 hc7 hz7 => ?_)
            (refine top_in ?_; simp -implicitDefEqProofs only [go_sem, -List.reduceReplicate, ↓L_gdZ_tt, ↓L_gdZ_tf, ↓L_gdZ_ft, ↓L_gdZ_ff, ↓T_and, ↓T_imp, ↓T_all, Nat.reduceBEq, Nat.reduceAdd, Nat.reduceSub, Nat.reduceMul, Nat.reduceLT, Nat.reduceLeDiff, Nat.reduceEqDiff, Int.reduceLT, Int.reduceLE, Int.reduceAdd, Int.reduceSub, Int.reduceMul, Int.reduceNeg, Int.reduceToNat, Int.reduceEq, Int.reduceNe, reduceIte, reduceCtorEq, BitVec.reduceOfInt, BitVec.reduceToNat]; try simp only [top_out])
            have hA57 : Ag (fun n => dnS (SV.sl qq 0 bk.length qcap) = some n ∨ dnS (SV.sl r 0 hs.length rcap) = some n) M5 M7 := Ag.trans (hA56.mono (fun _ e => .inl e)) (Ag.trans (S' := fun n => dnS (SV.sl r 0 hs.length rcap) = some n) Ag.app hA7 (fun _ _ e => e)) (fun _ _ e => .inr e)
            have hql : ∀ n, (dnS (SV.sl qq 0 bk.length qcap) = some n ∨ dnS (SV.sl r 0 hs.length rcap) = some n) → n < M5.length := fun n e => hbk5.inn n (hbk5.own e)
            simp only [List.length_append, List.length_cons, List.length_nil] at hq6 hq7
            have hr6' := hA7.get (n := q6) (by rw [get_lt (kw hr6)]; exact hr6) (fun e => by have := hql q6 (.inr e); omega)
            have hd6 := hA6.get (n := M5.length) (B := .row (bS (fv.2.2.2 ++ z2)) t2) (by simp) (fun e => by have := hql _ (.inl e); omega)
            have hd7 := hA7.get (n := M5.length) (by rw [get_lt (kw hd6)]; exact hd6) (fun e => by have := hql _ (.inr e); omega)
            have k6 := kw hr6
            have hfin := q.add m3 h5 hF5' hA35 hA57 q6 c6 q7 c7 z6 z7 t6 t7 (xb := .sl M5.length 0 (fv.2.2.2).length ((fv.2.2.2).length + z2.length)) hr6' hc6 hz6 hr7 hc7 hz7 ⟨by omega, .inr ⟨M5.length, z2, t2, rfl, hd7, Nat.le_refl _⟩⟩ (by omega) (by omega) (by omega) (by simp only [dnS, ne_eq, Option.some.injEq]; omega) (by simp only [dnS, ne_eq, Option.some.injEq]; omega)
            have hA37 : Ag (fun n => F n ∨ Fb n) M3 M7 := Ag.trans (hA35.mono (fun _ e => .inl e)) hA57 (fun n _ e => .inr (hbk5.own e))
            exact ⟨n - 1, by omega, k + 1, _, _, _, _, _, _, _, _, by omega, hfin, by simp; omega, Ag.trans hA3 hA37 (fun n _ e => e.elim (q.newF n) (q.newB n)), rfl, rfl, w64 (by omega) (by omega)⟩
      by_cases hk5 : ki = 5
      · as_aux_lemma =>
          subst hk5
          obtain ⟨f, rfl⟩ := frC_open _ _ 0 hf
          clear hf
          (refine top_in ?_; simp -implicitDefEqProofs (maxSteps := 1000000) only [go_sem, -List.reduceReplicate, ↓L_gdZ_tt, ↓L_gdZ_tf, ↓L_gdZ_ft, ↓L_gdZ_ff, ↓T_and, ↓T_imp, ↓T_all, Nat.reduceBEq, Nat.reduceAdd, Nat.reduceSub, Nat.reduceMul, Nat.reduceLT, Nat.reduceLeDiff, Nat.reduceEqDiff, Int.reduceLT, Int.reduceLE, Int.reduceAdd, Int.reduceSub, Int.reduceMul, Int.reduceNeg, Int.reduceToNat, Int.reduceEq, Int.reduceNe, reduceIte, reduceCtorEq, BitVec.reduceOfInt, BitVec.reduceToNat, hrow3, e0, e1, e2, hlx, hly, hxl, hxo, hat, Int.reduceBEq, Int.reduceBNe, get_lt (kw r1), r1, hgb]; try simp only [top_out])
          repeat' (with_reducible first | refine And.intro ?_ ?_ | intro)
          all_goals try omega
          all_goals first
            | exact ⟨n - 1, by omega, k + 1, F, Fb, c, fs, bk, hs, _, _, by omega, q.ag Ag.app, by omega, Ag.trans hA3 (Ag.app (S := fun _ => False)) (fun _ _ e => e.elim), rfl, rfl, w64 (by omega) (by omega)⟩
            | refine counted_ok nx m c bk.length _ _ bk hs fs M3 F Fb _ q.net q.book q.view (by omega) (by omega) (by omega) ?_
              (refine top_in ?_; simp -implicitDefEqProofs only [go_sem, -List.reduceReplicate, ↓L_gdZ_tt, ↓L_gdZ_tf, ↓L_gdZ_ft, ↓L_gdZ_ff, ↓T_and, ↓T_imp, ↓T_all, Nat.reduceBEq, Nat.reduceAdd, Nat.reduceSub, Nat.reduceMul, Nat.reduceLT, Nat.reduceLeDiff, Nat.reduceEqDiff, Int.reduceLT, Int.reduceLE, Int.reduceAdd, Int.reduceSub, Int.reduceMul, Int.reduceNeg, Int.reduceToNat, Int.reduceEq, Int.reduceNe, reduceIte, reduceCtorEq, BitVec.reduceOfInt, BitVec.reduceToNat]; try simp only [top_out])
              exact dropC_ag hM hA3 (fun n h1 h2 => by omega) rfl hK
            | skip
          all_goals
            refine flip_st nx m c bk.length a xx e fs _ F _ qb.net he (fun hbad => ?_) (fun a0 a1 x0 x1 M5 h5 hA5 => ?_)
            · rw [ee3] at hbad
              (refine top_in ?_; simp -implicitDefEqProofs only [go_sem, -List.reduceReplicate, ↓L_gdZ_tt, ↓L_gdZ_tf, ↓L_gdZ_ft, ↓L_gdZ_ff, ↓T_and, ↓T_imp, ↓T_all, Nat.reduceBEq, Nat.reduceAdd, Nat.reduceSub, Nat.reduceMul, Nat.reduceLT, Nat.reduceLeDiff, Nat.reduceEqDiff, Int.reduceLT, Int.reduceLE, Int.reduceAdd, Int.reduceSub, Int.reduceMul, Int.reduceNeg, Int.reduceToNat, Int.reduceEq, Int.reduceNe, reduceIte, reduceCtorEq, BitVec.reduceOfInt, BitVec.reduceToNat]; try simp only [top_out])
              refine draw_rule tabOK (by kernel_rfl : _) (.p 0 (.p 1 (.p 2 (.p 3 (.p 4 (.p 5 (.p 6 (.p 7 (.p 8 (.p 9 (.p 10 (.p 11 (.p 12 (.p 13 (.p 14 (.p 15 (.p 16 (.p 17 (.p 18 (.p 19 (.p 20 (.p 21 (.p 22 (.p 23 (.p 24 (.p 25 (.p 26 (.p 27 .nil)))))))))))))))))))))))))))) (by kernel_rfl) (by kernel_rfl) ?_
              (refine top_in ?_; simp -implicitDefEqProofs only [go_sem, -List.reduceReplicate, ↓L_gdZ_tt, ↓L_gdZ_tf, ↓L_gdZ_ft, ↓L_gdZ_ff, ↓T_and, ↓T_imp, ↓T_all, Nat.reduceBEq, Nat.reduceAdd, Nat.reduceSub, Nat.reduceMul, Nat.reduceLT, Nat.reduceLeDiff, Nat.reduceEqDiff, Int.reduceLT, Int.reduceLE, Int.reduceAdd, Int.reduceSub, Int.reduceMul, Int.reduceNeg, Int.reduceToNat, Int.reduceEq, Int.reduceNe, reduceIte, reduceCtorEq, BitVec.reduceOfInt, BitVec.reduceToNat, get_lt (kw q1), q1, gc3, hfln, hfo]; try simp only [top_out])
              repeat' (with_reducible first | refine And.intro ?_ ?_ | intro)
              all_goals try omega
              all_goals
                refine num_ok 2 _ _ ?_
                first
                  | (refine top_in ?_; simp -implicitDefEqProofs only [go_sem, -List.reduceReplicate, ↓L_gdZ_tt, ↓L_gdZ_tf, ↓L_gdZ_ft, ↓L_gdZ_ff, ↓T_and, ↓T_imp, ↓T_all, Nat.reduceBEq, Nat.reduceAdd, Nat.reduceSub, Nat.reduceMul, Nat.reduceLT, Nat.reduceLeDiff, Nat.reduceEqDiff, Int.reduceLT, Int.reduceLE, Int.reduceAdd, Int.reduceSub, Int.reduceMul, Int.reduceNeg, Int.reduceToNat, Int.reduceEq, Int.reduceNe, reduceIte, reduceCtorEq, BitVec.reduceOfInt, BitVec.reduceToNat, Int.reduceBEq, Int.reduceBNe]; try simp only [top_out])
                    exact ⟨n - 1, by omega, k + 1, F, Fb, c, fs, bk, hs, _, _, by omega, q.ag Ag.app, by omega, Ag.trans hA3 (Ag.app (S := fun _ => False)) (fun _ _ e => e.elim), rfl, rfl, w64 (by omega) (by omega)⟩
                  | have hx9 : ¬ xx ≤ 255 := by omega
                    have hx10 : decide (xx ≤ 255) = false := by simp [hx9]
                    (refine top_in ?_; simp -implicitDefEqProofs only [go_sem, -List.reduceReplicate, ↓L_gdZ_tt, ↓L_gdZ_tf, ↓L_gdZ_ft, ↓L_gdZ_ff, ↓T_and, ↓T_imp, ↓T_all, Nat.reduceBEq, Nat.reduceAdd, Nat.reduceSub, Nat.reduceMul, Nat.reduceLT, Nat.reduceLeDiff, Nat.reduceEqDiff, Int.reduceLT, Int.reduceLE, Int.reduceAdd, Int.reduceSub, Int.reduceMul, Int.reduceNeg, Int.reduceToNat, Int.reduceEq, Int.reduceNe, reduceIte, reduceCtorEq, BitVec.reduceOfInt, BitVec.reduceToNat, Int.reduceBEq, Int.reduceBNe, hx9, hx10]; try simp only [top_out])
                    exact ⟨n - 1, by omega, k + 1, F, Fb, c, fs, bk, hs, _, _, by omega, q.ag Ag.app, by omega, Ag.trans hA3 (Ag.app (S := fun _ => False)) (fun _ _ e => e.elim), rfl, rfl, w64 (by omega) (by omega)⟩
            · have hA35 : Ag F M3 M5 := Ag.trans ((Ag.app (S := fun _ => False)).mono (fun _ e => e.elim)) (hA5.mono (fun n e => e.1)) (fun _ _ e => e)
              rw [ee3] at a1
              have hFl : ∀ n, F n → n < M3.length := q.net.inn
              have s1 := hA35.get q1 (q.apart _ q4)
              have hbox5 := hA5.get hbo (fun e => by have := hFl _ e.1; omega)
              have hbk5 := q.book.ag hA35 (fun n e e2 => q.apart n e e2)
              obtain ⟨d8, z8, t8, g1, g2, g3, g4, g5, g6⟩ := hbk5.turn (xx := xx) hbi a0 a1
              rw [g1] at gc3
              (refine top_in ?_; simp -implicitDefEqProofs only [go_sem, -List.reduceReplicate, ↓L_gdZ_tt, ↓L_gdZ_tf, ↓L_gdZ_ft, ↓L_gdZ_ff, ↓T_and, ↓T_imp, ↓T_all, Nat.reduceBEq, Nat.reduceAdd, Nat.reduceSub, Nat.reduceMul, Nat.reduceLT, Nat.reduceLeDiff, Nat.reduceEqDiff, Int.reduceLT, Int.reduceLE, Int.reduceAdd, Int.reduceSub, Int.reduceMul, Int.reduceNeg, Int.reduceToNat, Int.reduceEq, Int.reduceNe, reduceIte, reduceCtorEq, BitVec.reduceOfInt, BitVec.reduceToNat]; try simp only [top_out])
              refine draw_rule tabOK (by kernel_rfl : _) (.p 0 (.p 1 (.p 2 (.p 3 (.p 4 (.p 5 (.p 6 (.p 7 (.p 8 (.p 9 (.p 10 (.p 11 (.p 12 (.p 13 (.p 14 (.p 15 (.p 16 (.p 17 (.p 18 (.p 19 (.p 20 (.p 21 (.p 22 (.p 23 (.p 24 (.p 25 (.p 26 (.p 27 .nil)))))))))))))))))))))))))))) (by kernel_rfl) (by kernel_rfl) ?_
              (refine top_in ?_; simp -implicitDefEqProofs only [go_sem, -List.reduceReplicate, ↓L_gdZ_tt, ↓L_gdZ_tf, ↓L_gdZ_ft, ↓L_gdZ_ff, ↓T_and, ↓T_imp, ↓T_all, Nat.reduceBEq, Nat.reduceAdd, Nat.reduceSub, Nat.reduceMul, Nat.reduceLT, Nat.reduceLeDiff, Nat.reduceEqDiff, Int.reduceLT, Int.reduceLE, Int.reduceAdd, Int.reduceSub, Int.reduceMul, Int.reduceNeg, Int.reduceToNat, Int.reduceEq, Int.reduceNe, reduceIte, reduceCtorEq, BitVec.reduceOfInt, BitVec.reduceToNat, hbox5, s1, gc3, hfo]; try simp only [top_out])
              repeat' (with_reducible first | refine And.intro ?_ ?_ | intro)
              all_goals try omega
              refine num_ok 0 _ _ ?_
              have hx10 : decide (xx ≤ 255) = true := by simp [x1]
              (refine top_in ?_; simp -implicitDefEqProofs only [go_sem, -List.reduceReplicate, ↓L_gdZ_tt, ↓L_gdZ_tf, ↓L_gdZ_ft, ↓L_gdZ_ff, ↓T_and, ↓T_imp, ↓T_all, Nat.reduceBEq, Nat.reduceAdd, Nat.reduceSub, Nat.reduceMul, Nat.reduceLT, Nat.reduceLeDiff, Nat.reduceEqDiff, Int.reduceLT, Int.reduceLE, Int.reduceAdd, Int.reduceSub, Int.reduceMul, Int.reduceNeg, Int.reduceToNat, Int.reduceEq, Int.reduceNe, reduceIte, reduceCtorEq, BitVec.reduceOfInt, BitVec.reduceToNat, Int.reduceBEq, Int.reduceBNe, hx10, x1]; try simp only [top_out])
              refine draw_rule tabOK (by kernel_rfl : _) (.p 0 (.p 1 (.p 2 (.p 3 (.p 4 (.p 5 (.p 6 (.p 7 (.p 8 (.p 9 (.p 10 (.p 11 (.p 12 (.p 13 (.e 14 [] .nil .no))))))))))))))) (by kernel_rfl) (by kernel_rfl) ?_
              (refine top_in ?_; simp -implicitDefEqProofs only [go_sem, -List.reduceReplicate, ↓L_gdZ_tt, ↓L_gdZ_tf, ↓L_gdZ_ft, ↓L_gdZ_ff, ↓T_and, ↓T_imp, ↓T_all, Nat.reduceBEq, Nat.reduceAdd, Nat.reduceSub, Nat.reduceMul, Nat.reduceLT, Nat.reduceLeDiff, Nat.reduceEqDiff, Int.reduceLT, Int.reduceLE, Int.reduceAdd, Int.reduceSub, Int.reduceMul, Int.reduceNeg, Int.reduceToNat, Int.reduceEq, Int.reduceNe, reduceIte, reduceCtorEq, BitVec.reduceOfInt, BitVec.reduceToNat, hbox5, s1, gc3, g2]; try simp only [top_out])
              rw [flp_app (l := fv.2.2.2) (z := z8) (i := a) (x := xx) (by omega)]
              refine ⟨by omega, by omega, by omega, by omega, by omega, by omega, by omega, by omega, by omega, by omega, by omega, by omega, by omega, ?_⟩
              have hA37 : Ag (fun n => F n ∨ Fb n) M3 (M5.set d8 (.row (bS (flp fv.2.2.2 a xx ++ z8)) t8)) := Ag.trans (hA35.mono (fun _ e => .inl e)) (S' := fun n => n = d8) (Ag.set rfl) (fun _ _ e => .inr (e ▸ g3))
              exact ⟨n - 1, by omega, k + 1, F, Fb, c, _, _, hs, _, _, by omega, q.turn hbi hi (h5.ag (S := fun n => n = d8) (Ag.set rfl) (fun n e e2 => q.apart d8 g3 (e2 ▸ e))) (g6 _ rfl), by rw [List.length_set]; omega, Ag.trans hA3 hA37 (fun n _ e => e.elim (q.newF n) (q.newB n)), rfl, rfl, w64 (by omega) (by omega)⟩
      by_cases hk3 : ki = 3
      · as_aux_lemma =>
          subst hk3
          obtain ⟨f, rfl⟩ := frC_open _ _ 0 hf
          clear hf
          (refine top_in ?_; simp -implicitDefEqProofs (maxSteps := 1000000) only [go_sem, -List.reduceReplicate, ↓L_gdZ_tt, ↓L_gdZ_tf, ↓L_gdZ_ft, ↓L_gdZ_ff, ↓T_and, ↓T_imp, ↓T_all, Nat.reduceBEq, Nat.reduceAdd, Nat.reduceSub, Nat.reduceMul, Nat.reduceLT, Nat.reduceLeDiff, Nat.reduceEqDiff, Int.reduceLT, Int.reduceLE, Int.reduceAdd, Int.reduceSub, Int.reduceMul, Int.reduceNeg, Int.reduceToNat, Int.reduceEq, Int.reduceNe, reduceIte, reduceCtorEq, BitVec.reduceOfInt, BitVec.reduceToNat, hrow3, e0, e1, e2, hlx, hly, hxl, hxo, hat, Int.reduceBEq, Int.reduceBNe, get_lt (kw r1), r1, hgb]; try simp only [top_out])
          repeat' (with_reducible first | refine And.intro ?_ ?_ | intro)
          all_goals try omega
          all_goals first
            | exact ⟨n - 1, by omega, k + 1, F, Fb, c, fs, bk, hs, _, _, by omega, q.ag Ag.app, by omega, Ag.trans hA3 (Ag.app (S := fun _ => False)) (fun _ _ e => e.elim), rfl, rfl, w64 (by omega) (by omega)⟩
            | refine counted_ok nx m c bk.length _ _ bk hs fs M3 F Fb _ q.net q.book q.view (by omega) (by omega) (by omega) ?_
              (refine top_in ?_; simp -implicitDefEqProofs only [go_sem, -List.reduceReplicate, ↓L_gdZ_tt, ↓L_gdZ_tf, ↓L_gdZ_ft, ↓L_gdZ_ff, ↓T_and, ↓T_imp, ↓T_all, Nat.reduceBEq, Nat.reduceAdd, Nat.reduceSub, Nat.reduceMul, Nat.reduceLT, Nat.reduceLeDiff, Nat.reduceEqDiff, Int.reduceLT, Int.reduceLE, Int.reduceAdd, Int.reduceSub, Int.reduceMul, Int.reduceNeg, Int.reduceToNat, Int.reduceEq, Int.reduceNe, reduceIte, reduceCtorEq, BitVec.reduceOfInt, BitVec.reduceToNat]; try simp only [top_out])
              exact dropC_ag hM hA3 (fun n h1 h2 => by omega) rfl hK
            | skip
          all_goals
            refine leaves_yes nx m c bk.length _ to e.1 xx a se xd _ _ fs bk hs i fv _ F Fb _ qb.net qb.book q.view hbi hhi hi (by omega) hxo q.apart (fun M5 F5 h5 hF5 hA5 => ?_)
            have hA35 : Ag (· = m) M3 M5 := Ag.trans ((Ag.app (S := fun _ => False)).mono (fun _ e => e.elim)) hA5 (fun _ _ e => e)
            have hmF := q.net.fm
            have hsp : ∀ n, Fb n → ¬ n = m := fun n e e2 => q.apart n e (e2 ▸ hmF)
            have s1 := hA35.get r1 (hsp _ r4)
            have hbk5 := q.book.ag hA35 hsp
            obtain ⟨r8, c8, z8, t8, g1, g2, g3, g4, g5⟩ := hbk5.off hih
            obtain ⟨rfl, rfl⟩ : r = r8 ∧ rcap = c8 := by simp only [SV.sl.injEq] at g1; exact ⟨g1.1, g1.2.2.2⟩
            obtain ⟨rfl, rfl⟩ : rz = z8 ∧ rty = t8 := by
              have := s1.symm.trans g2
              simpa using this
            (refine top_in ?_; simp -implicitDefEqProofs only [go_sem, -List.reduceReplicate, ↓L_gdZ_tt, ↓L_gdZ_tf, ↓L_gdZ_ft, ↓L_gdZ_ff, ↓T_and, ↓T_imp, ↓T_all, Nat.reduceBEq, Nat.reduceAdd, Nat.reduceSub, Nat.reduceMul, Nat.reduceLT, Nat.reduceLeDiff, Nat.reduceEqDiff, Int.reduceLT, Int.reduceLE, Int.reduceAdd, Int.reduceSub, Int.reduceMul, Int.reduceNeg, Int.reduceToNat, Int.reduceEq, Int.reduceNe, reduceIte, reduceCtorEq, BitVec.reduceOfInt, BitVec.reduceToNat, s1]; try simp only [top_out])
            refine ⟨by omega, by omega, by omega, by omega, ?_⟩
            have hA37 : Ag (fun n => n = m ∨ n = r) M3 (M5.set r (.row ((hs.map SV.b ++ rz).set i (.b false)) rty)) := Ag.trans (hA35.mono (fun _ e => .inl e)) (S' := fun n => n = r) (Ag.set rfl) (fun _ _ e => .inr e)
            exact ⟨n - 1, by omega, k + 1, F5, Fb, c, _, bk, hs.set i false, _, _, by omega, q.gone hih hi (h5.ag (S := fun n => n = r) (Ag.set rfl) (fun n e e2 => q.apart r r4 (e2 ▸ hF5 n e))) hF5 g4, by omega, Ag.trans hA3 hA37 (fun n _ e => e.elim (fun e => e ▸ q.newF m hmF) (fun e => e ▸ q.newB r r4)), rfl, rfl, w64 (by omega) (by omega)⟩
      by_cases hk2 : ki = 2
      · as_aux_lemma =>
          subst hk2
          obtain ⟨f, rfl⟩ := frC_open _ _ 0 hf
          clear hf
          (refine top_in ?_; simp -implicitDefEqProofs (maxSteps := 1000000) only [go_sem, -List.reduceReplicate, ↓L_gdZ_tt, ↓L_gdZ_tf, ↓L_gdZ_ft, ↓L_gdZ_ff, ↓T_and, ↓T_imp, ↓T_all, Nat.reduceBEq, Nat.reduceAdd, Nat.reduceSub, Nat.reduceMul, Nat.reduceLT, Nat.reduceLeDiff, Nat.reduceEqDiff, Int.reduceLT, Int.reduceLE, Int.reduceAdd, Int.reduceSub, Int.reduceMul, Int.reduceNeg, Int.reduceToNat, Int.reduceEq, Int.reduceNe, reduceIte, reduceCtorEq, BitVec.reduceOfInt, BitVec.reduceToNat, hrow3, e0, e1, e2, hlx, hly, hxl, hxo, hat, Int.reduceBEq, Int.reduceBNe, get_lt (kw r1), r1, hgb]; try simp only [top_out])
          repeat' (with_reducible first | refine And.intro ?_ ?_ | intro)
          all_goals try omega
          all_goals first
            | exact ⟨n - 1, by omega, k + 1, F, Fb, c, fs, bk, hs, _, _, by omega, q.ag Ag.app, by omega, Ag.trans hA3 (Ag.app (S := fun _ => False)) (fun _ _ e => e.elim), rfl, rfl, w64 (by omega) (by omega)⟩
            | refine counted_ok nx m c bk.length _ _ bk hs fs M3 F Fb _ q.net q.book q.view (by omega) (by omega) (by omega) ?_
              (refine top_in ?_; simp -implicitDefEqProofs only [go_sem, -List.reduceReplicate, ↓L_gdZ_tt, ↓L_gdZ_tf, ↓L_gdZ_ft, ↓L_gdZ_ff, ↓T_and, ↓T_imp, ↓T_all, Nat.reduceBEq, Nat.reduceAdd, Nat.reduceSub, Nat.reduceMul, Nat.reduceLT, Nat.reduceLeDiff, Nat.reduceEqDiff, Int.reduceLT, Int.reduceLE, Int.reduceAdd, Int.reduceSub, Int.reduceMul, Int.reduceNeg, Int.reduceToNat, Int.reduceEq, Int.reduceNe, reduceIte, reduceCtorEq, BitVec.reduceOfInt, BitVec.reduceToNat]; try simp only [top_out])
              exact dropC_ag hM hA3 (fun n h1 h2 => by omega) rfl hK
            | skip
          all_goals
            refine leaves_yes nx m c bk.length _ to e.1 xx a se xd _ _ fs bk hs i fv _ F Fb _ qb.net qb.book q.view hbi hhi hi (by omega) hxo q.apart (fun M5 F5 h5 hF5 hA5 => ?_)
            have hA35 : Ag (· = m) M3 M5 := Ag.trans ((Ag.app (S := fun _ => False)).mono (fun _ e => e.elim)) hA5 (fun _ _ e => e)
            have hmF := q.net.fm
            have hsp : ∀ n, Fb n → ¬ n = m := fun n e e2 => q.apart n e (e2 ▸ hmF)
            have s1 := hA35.get r1 (hsp _ r4)
            have hbk5 := q.book.ag hA35 hsp
            obtain ⟨r8, c8, z8, t8, g1, g2, g3, g4, g5⟩ := hbk5.off hih
            obtain ⟨rfl, rfl⟩ : r = r8 ∧ rcap = c8 := by simp only [SV.sl.injEq] at g1; exact ⟨g1.1, g1.2.2.2⟩
            obtain ⟨rfl, rfl⟩ : rz = z8 ∧ rty = t8 := by
              have := s1.symm.trans g2
              simpa using this
            (refine top_in ?_; simp -implicitDefEqProofs only [go_sem, -List.reduceReplicate, ↓L_gdZ_tt, ↓L_gdZ_tf, ↓L_gdZ_ft, ↓L_gdZ_ff, ↓T_and, ↓T_imp, ↓T_all, Nat.reduceBEq, Nat.reduceAdd, Nat.reduceSub, Nat.reduceMul, Nat.reduceLT, Nat.reduceLeDiff, Nat.reduceEqDiff, Int.reduceLT, Int.reduceLE, Int.reduceAdd, Int.reduceSub, Int.reduceMul, Int.reduceNeg, Int.reduceToNat, Int.reduceEq, Int.reduceNe, reduceIte, reduceCtorEq, BitVec.reduceOfInt, BitVec.reduceToNat, s1]; try simp only [top_out])
            refine ⟨by omega, by omega, by omega, by omega, ?_⟩
            have hA37 : Ag (fun n => n = m ∨ n = r) M3 (M5.set r (.row ((hs.map SV.b ++ rz).set i (.b false)) rty)) := Ag.trans (hA35.mono (fun _ e => .inl e)) (S' := fun n => n = r) (Ag.set rfl) (fun _ _ e => .inr e)
            exact ⟨n - 1, by omega, k + 1, F5, Fb, c, _, bk, hs.set i false, _, _, by omega, q.gone hih hi (h5.ag (S := fun n => n = r) (Ag.set rfl) (fun n e e2 => q.apart r r4 (e2 ▸ hF5 n e))) hF5 g4, by omega, Ag.trans hA3 hA37 (fun n _ e => e.elim (fun e => e ▸ q.newF m hmF) (fun e => e ▸ q.newB r r4)), rfl, rfl, w64 (by omega) (by omega)⟩
      · as_aux_lemma =>
          have n1 : (ki == 1) = false := by simpa using hk1
          have n4 : (ki == 4) = false := by simpa using hk4
          have n5 : (ki == 5) = false := by simpa using hk5
          have n3 : (ki == 3) = false := by simpa using hk3
          have n2 : (ki == 2) = false := by simpa using hk2
          obtain ⟨f, rfl⟩ := frC_open _ _ 0 hf
          clear hf
          (refine top_in ?_; simp -implicitDefEqProofs (maxSteps := 1000000) only [go_sem, -List.reduceReplicate, ↓L_gdZ_tt, ↓L_gdZ_tf, ↓L_gdZ_ft, ↓L_gdZ_ff, ↓T_and, ↓T_imp, ↓T_all, Nat.reduceBEq, Nat.reduceAdd, Nat.reduceSub, Nat.reduceMul, Nat.reduceLT, Nat.reduceLeDiff, Nat.reduceEqDiff, Int.reduceLT, Int.reduceLE, Int.reduceAdd, Int.reduceSub, Int.reduceMul, Int.reduceNeg, Int.reduceToNat, Int.reduceEq, Int.reduceNe, reduceIte, reduceCtorEq, BitVec.reduceOfInt, BitVec.reduceToNat, hrow3, e0, e1, e2, hlx, hly, hxl, hxo, hat, Int.reduceBEq, Int.reduceBNe, n1, n4, n5, n3, n2, get_lt (kw r1), r1, hgb]; try simp only [top_out])
          repeat' (with_reducible first | refine And.intro ?_ ?_ | intro)
          all_goals try omega
          all_goals first
            | exact ⟨n - 1, by omega, k + 1, F, Fb, c, fs, bk, hs, _, _, by omega, q.ag Ag.app, by omega, Ag.trans hA3 (Ag.app (S := fun _ => False)) (fun _ _ e => e.elim), rfl, rfl, w64 (by omega) (by omega)⟩
            | refine counted_ok nx m c bk.length _ _ bk hs fs M3 F Fb _ q.net q.book q.view (by omega) (by omega) (by omega) ?_
              (refine top_in ?_; simp -implicitDefEqProofs only [go_sem, -List.reduceReplicate, ↓L_gdZ_tt, ↓L_gdZ_tf, ↓L_gdZ_ft, ↓L_gdZ_ff, ↓T_and, ↓T_imp, ↓T_all, Nat.reduceBEq, Nat.reduceAdd, Nat.reduceSub, Nat.reduceMul, Nat.reduceLT, Nat.reduceLeDiff, Nat.reduceEqDiff, Int.reduceLT, Int.reduceLE, Int.reduceAdd, Int.reduceSub, Int.reduceMul, Int.reduceNeg, Int.reduceToNat, Int.reduceEq, Int.reduceNe, reduceIte, reduceCtorEq, BitVec.reduceOfInt, BitVec.reduceToNat]; try simp only [top_out])
              exact dropC_ag hM hA3 (fun n h1 h2 => by omega) rfl hK
            | skip
    · have hno : ∀ e, e ∈ fs → e.1 ≠ no := there_no q.book q.view (fun i e hi => hth (by
        have hil : i < bk.length := by rw [q.book.len]; exact (List.getElem?_eq_some_iff.1 hi).1
        exact ⟨i, bk[i], by omega, List.getElem?_eq_getElem hil, hi⟩))
      have hno0 : True := trivial
      by_cases hr : 1 ≤ no ∧ no ≤ bk.length
      · have hbl := q.book.len
        obtain ⟨i, hi⟩ : ∃ i : Nat, no = (i : Int) + 1 := ⟨(no - 1).toNat, by omega⟩
        have hib : i < bk.length := by omega
        have hih : i < hs.length := by omega
        have hhi : hs[i]? = some false := by
          rw [List.getElem?_eq_getElem hih]
          cases hbv : hs[i] with
          | false => rfl
          | true => exact absurd ⟨i, bk[i], hi, List.getElem?_eq_getElem hib, by rw [List.getElem?_eq_getElem hih, hbv]⟩ hth
        have hat : IntKind.i64.wrap (no - 1) = (i : Int) := by rw [w64 (by omega) (by omega)]; omega
        rcases q.book.her with ⟨_, h0⟩ | ⟨r, rcap, rz, rty, rfl, r1, r2, r3', r4⟩
        · rw [h0] at hih; simp at hih
        have hgb : (hs.map SV.b ++ rz).getD i uS = .b false := by
          rw [List.getD_eq_getElem?_getD, List.getElem?_append_left (by simpa using hih), List.getElem?_map, hhi]; rfl
        have hml : (hs.map SV.b).length = hs.length := List.length_map _
        have qb := q.ag (Ag.app (L := [Blk.row [.i .i64 ki, .b se, .i .i64 to, .i .i64 no, .i .i64 xx, .i .i64 a, xd] 43]))
        by_cases hk1 : ki = 1
        · as_aux_lemma =>
            subst hk1
            obtain ⟨f, rfl⟩ := frC_open _ _ 0 hf
            clear hf
            (refine top_in ?_; simp -implicitDefEqProofs (maxSteps := 1000000) only [go_sem, -List.reduceReplicate, ↓L_gdZ_tt, ↓L_gdZ_tf, ↓L_gdZ_ft, ↓L_gdZ_ff, ↓T_and, ↓T_imp, ↓T_all, Nat.reduceBEq, Nat.reduceAdd, Nat.reduceSub, Nat.reduceMul, Nat.reduceLT, Nat.reduceLeDiff, Nat.reduceEqDiff, Int.reduceLT, Int.reduceLE, Int.reduceAdd, Int.reduceSub, Int.reduceMul, Int.reduceNeg, Int.reduceToNat, Int.reduceEq, Int.reduceNe, reduceIte, reduceCtorEq, BitVec.reduceOfInt, BitVec.reduceToNat, hrow3, e0, e1, e2, hlx, hly, hxl, hxo, hat, Int.reduceBEq, Int.reduceBNe, get_lt (kw r1), r1, hgb]; try simp only [top_out])
            repeat' (with_reducible first | refine And.intro ?_ ?_ | intro)
            all_goals try omega
            all_goals first
              | exact ⟨n - 1, by omega, k + 1, F, Fb, c, fs, bk, hs, _, _, by omega, q.ag Ag.app, by omega, Ag.trans hA3 (Ag.app (S := fun _ => False)) (fun _ _ e => e.elim), rfl, rfl, w64 (by omega) (by omega)⟩
              | refine counted_ok nx m c bk.length _ _ bk hs fs M3 F Fb _ q.net q.book q.view (by omega) (by omega) (by omega) ?_
                (refine top_in ?_; simp -implicitDefEqProofs only [go_sem, -List.reduceReplicate, ↓L_gdZ_tt, ↓L_gdZ_tf, ↓L_gdZ_ft, ↓L_gdZ_ff, ↓T_and, ↓T_imp, ↓T_all, Nat.reduceBEq, Nat.reduceAdd, Nat.reduceSub, Nat.reduceMul, Nat.reduceLT, Nat.reduceLeDiff, Nat.reduceEqDiff, Int.reduceLT, Int.reduceLE, Int.reduceAdd, Int.reduceSub, Int.reduceMul, Int.reduceNeg, Int.reduceToNat, Int.reduceEq, Int.reduceNe, reduceIte, reduceCtorEq, BitVec.reduceOfInt, BitVec.reduceToNat]; try simp only [top_out])
                exact dropC_ag hM hA3 (fun n h1 h2 => by omega) rfl hK
              | skip
            all_goals
              refine draw_from (fun M2 => Ag (fun _ => False) M3 M2 ∧ M2[M3.length]? = some (.row [.i .i64 1, .b se, .i .i64 to, .i .i64 (no), .i .i64 xx, .i .i64 a, xd] 43)) ⟨Ag.app, hbo⟩ (fun M4 hM4 => ?_)
              obtain ⟨hA4, hbox⟩ := hM4
              have q4 := q.ag hA4
              have hx4 := hx3.ag hA4 (fun _ _ e => e)
              refine draw_rule tabOK (by kernel_rfl : _) (.p 0 (.p 1 (.p 2 (.p 3 (.p 4 (.e 5 [1, 2] (.e 6 [] (.p 7 .nil) .no) .no)))))) (by kernel_rfl) (by kernel_rfl) ?_
              (refine top_in ?_; simp -implicitDefEqProofs only [go_sem, -List.reduceReplicate, ↓L_gdZ_tt, ↓L_gdZ_tf, ↓L_gdZ_ft, ↓L_gdZ_ff, ↓T_and, ↓T_imp, ↓T_all, Nat.reduceBEq, Nat.reduceAdd, Nat.reduceSub, Nat.reduceMul, Nat.reduceLT, Nat.reduceLeDiff, Nat.reduceEqDiff, Int.reduceLT, Int.reduceLE, Int.reduceAdd, Int.reduceSub, Int.reduceMul, Int.reduceNeg, Int.reduceToNat, Int.reduceEq, Int.reduceNe, reduceIte, reduceCtorEq, BitVec.reduceOfInt, BitVec.reduceToNat, hbox, hxo]; try simp only [top_out])
              refine bytes_any xd d M4 _ hx4 (fun z1 t1 => ?_)
              (refine top_in ?_; simp -implicitDefEqProofs only [go_sem, -List.reduceReplicate, ↓L_gdZ_tt, ↓L_gdZ_tf, ↓L_gdZ_ft, ↓L_gdZ_ff, ↓T_and, ↓T_imp, ↓T_all, Nat.reduceBEq, Nat.reduceAdd, Nat.reduceSub, Nat.reduceMul, Nat.reduceLT, Nat.reduceLeDiff, Nat.reduceEqDiff, Int.reduceLT, Int.reduceLE, Int.reduceAdd, Int.reduceSub, Int.reduceMul, Int.reduceNeg, Int.reduceToNat, Int.reduceEq, Int.reduceNe, reduceIte, reduceCtorEq, BitVec.reduceOfInt, BitVec.reduceToNat]; try simp only [top_out])
              simp only [get_lt (kw hbox), hbox]
              refine ⟨⟨⟨rfl, rfl⟩, by simp [go_sem]⟩, ?_⟩
              have hr4 : (M4 ++ [Blk.row (bS (d ++ z1)) t1])[M4.length]? = some (.row (bS (d ++ z1)) t1) := by simp
              have hdl := hx4.1
              have hnxl := kw q4.net.row
              refine send_st nx m c bk.length to _ d fs _ F _ (q4.net.ag (Ag.app (S := fun _ => False)) (fun _ _ e => e)) (by omega) (by omega) ⟨hdl, .inr ⟨_, _, rfl, BAt.row hr4, There.row hr4, fun e => by omega⟩⟩ (fun M5 F5 x' h5 hF5 hA5 => ?_)
              have hA45 : Ag F M4 M5 := Ag.trans ((Ag.app (S := fun _ => False)).mono (fun _ e => e.elim)) hA5 (fun _ _ e => e)
              have hA35 : Ag F M3 M5 := Ag.trans (hA4.mono (fun _ e => e.elim)) hA45 (fun _ _ e => e)
              have hFl : ∀ n, F n → n < M3.length := q.net.inn
              have hbox5 := hA45.get hbox (fun e => by have := hFl _ e; omega)
              have hx5 : Byt M5 xd d := hx4.ag hA45 (fun d e e2 => by have := hxG d e; have := q.newF d e2; omega)
              have hwb : IntKind.i64.wrap ((bk.length : Int) + 1) = (bk.length : Int) + 1 := w64 (by omega) (by omega)
              (refine top_in ?_; simp -implicitDefEqProofs only [go_sem, -List.reduceReplicate, ↓L_gdZ_tt, ↓L_gdZ_tf, ↓L_gdZ_ft, ↓L_gdZ_ff, ↓T_and, ↓T_imp, ↓T_all, Nat.reduceBEq, Nat.reduceAdd, Nat.reduceSub, Nat.reduceMul, Nat.reduceLT, Nat.reduceLeDiff, Nat.reduceEqDiff, Int.reduceLT, Int.reduceLE, Int.reduceAdd, Int.reduceSub, Int.reduceMul, Int.reduceNeg, Int.reduceToNat, Int.reduceEq, Int.reduceNe, reduceIte, reduceCtorEq, BitVec.reduceOfInt, BitVec.reduceToNat, hlx, hwb]; try simp only [top_out])
              refine ⟨fun h => by simp at h, fun _ => ?_⟩
              refine draw_rule tabOK (by kernel_rfl : _) (.p 0 (.p 1 (.p 2 (.p 3 (.p 4 (.p 5 (.e 6 [2, 3] (.p 7 (.e 8 [] (.e 9 [] (.p 10 .nil) .no) .no)) .no))))))) (by kernel_rfl) (by kernel_rfl) ?_
              (refine top_in ?_; simp -implicitDefEqProofs only [go_sem, -List.reduceReplicate, ↓L_gdZ_tt, ↓L_gdZ_tf, ↓L_gdZ_ft, ↓L_gdZ_ff, ↓T_and, ↓T_imp, ↓T_all, Nat.reduceBEq, Nat.reduceAdd, Nat.reduceSub, Nat.reduceMul, Nat.reduceLT, Nat.reduceLeDiff, Nat.reduceEqDiff, Int.reduceLT, Int.reduceLE, Int.reduceAdd, Int.reduceSub, Int.reduceMul, Int.reduceNeg, Int.reduceToNat, Int.reduceEq, Int.reduceNe, reduceIte, reduceCtorEq, BitVec.reduceOfInt, BitVec.reduceToNat, hbox5, hxo]; try simp only [top_out])
              refine bytes_any xd d M5 _ hx5 (fun z2 t2 => ?_)
              (refine top_in ?_; simp -implicitDefEqProofs only [go_sem, -List.reduceReplicate, ↓L_gdZ_tt, ↓L_gdZ_tf, ↓L_gdZ_ft, ↓L_gdZ_ff, ↓T_and, ↓T_imp, ↓T_all, Nat.reduceBEq, Nat.reduceAdd, Nat.reduceSub, Nat.reduceMul, Nat.reduceLT, Nat.reduceLeDiff, Nat.reduceEqDiff, Int.reduceLT, Int.reduceLE, Int.reduceAdd, Int.reduceSub, Int.reduceMul, Int.reduceNeg, Int.reduceToNat, Int.reduceEq, Int.reduceNe, reduceIte, reduceCtorEq, BitVec.reduceOfInt, BitVec.reduceToNat, get_lt (kw hbox5), hbox5]; try simp only [top_out])
              have hF5' : ∀ n, F5 n → F n ∨ M3.length ≤ n := fun n e => (hF5 n e).imp (fun e => e) (fun e => by have := hA4.1; simp only [List.length_append] at e; omega)
              refine ⟨by decide, ?_⟩
              have hbk5 := q.book.ag hA35 (fun n e e2 => q.apart n e e2)
              have m35 := hA35.1
              have hsrc : ∀ K : List SV → Nat → Prop, K [.i .i64 ((bk.length : Int) + 1), .i .i64 to, .sl M5.length 0 (d).length ((d).length + z2.length)] 1 → srcC (M5 ++ [Blk.row (bS (d ++ z2)) t2, Blk.row [.i .i64 ((bk.length : Int) + 1), .i .i64 to, .sl M5.length 0 (d).length ((d).length + z2.length)] 32]) 3 (SV.sl (M5.length + 1) 0 1 1) K := fun K hK => by simp only [srcC]; rw [cells_at (k := 1)]; (refine top_in ?_; simp -implicitDefEqProofs only [go_sem, -List.reduceReplicate, ↓L_gdZ_tt, ↓L_gdZ_tf, ↓L_gdZ_ft, ↓L_gdZ_ff, ↓T_and, ↓T_imp, ↓T_all, Nat.reduceBEq, Nat.reduceAdd, Nat.reduceSub, Nat.reduceMul, Nat.reduceLT, Nat.reduceLeDiff, Nat.reduceEqDiff, Int.reduceLT, Int.reduceLE, Int.reduceAdd, Int.reduceSub, Int.reduceMul, Int.reduceNeg, Int.reduceToNat, Int.reduceEq, Int.reduceNe, reduceIte, reduceCtorEq, BitVec.reduceOfInt, BitVec.reduceToNat]; try simp only [top_out]); exact hK
              refine appB [.i .i64 0, .i .i64 0, .sn] (x) (flC (bk.map Eng.r3)) [.i .i64 ((bk.length : Int) + 1), .i .i64 to, .sl M5.length 0 (d).length ((d).length + z2.length)] bk.length 1 rfl (by decide) (by decide) rfl rfl (by rw [flC_length, List.length_map]) (hbk5.lo _) hsrc (by omega) (fun M6 q6 z6 t6 c6 hA6 hq6 hr6 hc6 hz6 => ?_)
              (refine top_in ?_; simp -implicitDefEqProofs only [go_sem, -List.reduceReplicate, ↓L_gdZ_tt, ↓L_gdZ_tf, ↓L_gdZ_ft, ↓L_gdZ_ff, ↓T_and, ↓T_imp, ↓T_all, Nat.reduceBEq, Nat.reduceAdd, Nat.reduceSub, Nat.reduceMul, Nat.reduceLT, Nat.reduceLeDiff, Nat.reduceEqDiff, Int.reduceLT, Int.reduceLE, Int.reduceAdd, Int.reduceSub, Int.reduceMul, Int.reduceNeg, Int.reduceToNat, Int.reduceEq, Int.reduceNe, reduceIte, reduceCtorEq, BitVec.reduceOfInt, BitVec.reduceToNat]; try simp only [top_out])
              refine ⟨by decide, ?_⟩
              have hA56 : Ag (fun n => dnS (x) = some n) M5 M6 := Ag.trans (S' := fun n => dnS (x) = some n) Ag.app hA6 (fun _ _ e => e)
              have hsrc2 : ∀ K : List SV → Nat → Prop, K [.b true] 1 → srcC (M6 ++ [Blk.row [.b true] 4]) 1 (SV.sl M6.length 0 1 1) K := fun K hK => by simp only [srcC]; rw [cells_at0]; (refine top_in ?_; simp -implicitDefEqProofs only [go_sem, -List.reduceReplicate, ↓L_gdZ_tt, ↓L_gdZ_tf, ↓L_gdZ_ft, ↓L_gdZ_ff, ↓T_and, ↓T_imp, ↓T_all, Nat.reduceBEq, Nat.reduceAdd, Nat.reduceSub, Nat.reduceMul, Nat.reduceLT, Nat.reduceLeDiff, Nat.reduceEqDiff, Int.reduceLT, Int.reduceLE, Int.reduceAdd, Int.reduceSub, Int.reduceMul, Int.reduceNeg, Int.reduceToNat, Int.reduceEq, Int.reduceNe, reduceIte, reduceCtorEq, BitVec.reduceOfInt, BitVec.reduceToNat]; try simp only [top_out]); exact hK
              refine appB [.b false] (SV.sl r 0 hs.length rcap) (hs.map SV.b) [.b true] hs.length 1 rfl (by decide) (by decide) rfl rfl (by simp) (hbk5.ho hA56 _) hsrc2 (by have := q.book.len; omega) (fun M7 q7 z7 t7 c7 hA7 hq7 hr7 hc7 hz7 => ?_)
              (refine top_in ?_; simp -implicitDefEqProofs only [go_sem, -List.reduceReplicate, ↓L_gdZ_tt, ↓L_gdZ_tf, ↓L_gdZ_ft, ↓L_gdZ_ff, ↓T_and, ↓T_imp, ↓T_all, Nat.reduceBEq, Nat.reduceAdd, Nat.reduceSub, Nat.reduceMul, Nat.reduceLT, Nat.reduceLeDiff, Nat.reduceEqDiff, Int.reduceLT, Int.reduceLE, Int.reduceAdd, Int.reduceSub, Int.reduceMul, Int.reduceNeg, Int.reduceToNat, Int.reduceEq, Int.reduceNe, reduceIte, reduceCtorEq, BitVec.reduceOfInt, BitVec.reduceToNat]; try simp only [top_out])
              have hA57 : Ag (fun n => dnS (x) = some n ∨ dnS (SV.sl r 0 hs.length rcap) = some n) M5 M7 := Ag.trans (hA56.mono (fun _ e => .inl e)) (Ag.trans (S' := fun n => dnS (SV.sl r 0 hs.length rcap) = some n) Ag.app hA7 (fun _ _ e => e)) (fun _ _ e => .inr e)
              have hql : ∀ n, (dnS (x) = some n ∨ dnS (SV.sl r 0 hs.length rcap) = some n) → n < M5.length := fun n e => hbk5.inn n (hbk5.own e)
              simp only [List.length_append, List.length_cons, List.length_nil] at hq6 hq7
              have hr6' := hA7.get (n := q6) (by rw [get_lt (kw hr6)]; exact hr6) (fun e => by have := hql q6 (.inr e); omega)
              have hd6 := hA6.get (n := M5.length) (B := .row (bS (d ++ z2)) t2) (by simp) (fun e => by have := hql _ (.inl e); omega)
              have hd7 := hA7.get (n := M5.length) (by rw [get_lt (kw hd6)]; exact hd6) (fun e => by have := hql _ (.inr e); omega)
              have k6 := kw hr6
              have hfin := q.add m3 h5 hF5' hA35 hA57 q6 c6 q7 c7 z6 z7 t6 t7 (xb := .sl M5.length 0 (d).length ((d).length + z2.length)) hr6' hc6 hz6 hr7 hc7 hz7 ⟨by omega, .inr ⟨M5.length, z2, t2, rfl, hd7, Nat.le_refl _⟩⟩ (by omega) (by omega) (by omega) (by simp only [dnS, ne_eq, Option.some.injEq]; omega) (by simp only [dnS, ne_eq, Option.some.injEq]; omega)
              have hA37 : Ag (fun n => F n ∨ Fb n) M3 M7 := Ag.trans (hA35.mono (fun _ e => .inl e)) hA57 (fun n _ e => .inr (hbk5.own e))
              exact ⟨n - 1, by omega, k + 1, _, _, _, _, _, _, _, _, by omega, hfin, by simp; omega, Ag.trans hA3 hA37 (fun n _ e => e.elim (q.newF n) (q.newB n)), rfl, rfl, w64 (by omega) (by omega)⟩
        by_cases hk4 : ki = 4
        · as_aux_lemma =>
            subst hk4
            obtain ⟨f, rfl⟩ := frC_open _ _ 0 hf
            clear hf
            (refine top_in ?_; simp -implicitDefEqProofs (maxSteps := 1000000) only [go_sem, -List.reduceReplicate, ↓L_gdZ_tt, ↓L_gdZ_tf, ↓L_gdZ_ft, ↓L_gdZ_ff, ↓T_and, ↓T_imp, ↓T_all, Nat.reduceBEq, Nat.reduceAdd, Nat.reduceSub, Nat.reduceMul, Nat.reduceLT, Nat.reduceLeDiff, Nat.reduceEqDiff, Int.reduceLT, Int.reduceLE, Int.reduceAdd, Int.reduceSub, Int.reduceMul, Int.reduceNeg, Int.reduceToNat, Int.reduceEq, Int.reduceNe, reduceIte, reduceCtorEq, BitVec.reduceOfInt, BitVec.reduceToNat, hrow3, e0, e1, e2, hlx, hly, hxl, hxo, hat, Int.reduceBEq, Int.reduceBNe, get_lt (kw r1), r1, hgb]; try simp only [top_out])
            repeat' (with_reducible first | refine And.intro ?_ ?_ | intro)
            all_goals try omega
            all_goals first
              | exact ⟨n - 1, by omega, k + 1, F, Fb, c, fs, bk, hs, _, _, by omega, q.ag Ag.app, by omega, Ag.trans hA3 (Ag.app (S := fun _ => False)) (fun _ _ e => e.elim), rfl, rfl, w64 (by omega) (by omega)⟩
              | refine counted_ok nx m c bk.length _ _ bk hs fs M3 F Fb _ q.net q.book q.view (by omega) (by omega) (by omega) ?_
                (refine top_in ?_; simp -implicitDefEqProofs only [go_sem, -List.reduceReplicate, ↓L_gdZ_tt, ↓L_gdZ_tf, ↓L_gdZ_ft, ↓L_gdZ_ff, ↓T_and, ↓T_imp, ↓T_all, Nat.reduceBEq, Nat.reduceAdd, Nat.reduceSub, Nat.reduceMul, Nat.reduceLT, Nat.reduceLeDiff, Nat.reduceEqDiff, Int.reduceLT, Int.reduceLE, Int.reduceAdd, Int.reduceSub, Int.reduceMul, Int.reduceNeg, Int.reduceToNat, Int.reduceEq, Int.reduceNe, reduceIte, reduceCtorEq, BitVec.reduceOfInt, BitVec.reduceToNat]; try simp only [top_out])
                exact dropC_ag hM hA3 (fun n h1 h2 => by omega) rfl hK
              | skip
            all_goals
              refine copy_none nx m _ no _ c 63 _ _ qb.net.row qb.net.map (find_no hno) ?_
              (refine top_in ?_; simp -implicitDefEqProofs only [go_sem, -List.reduceReplicate, ↓L_gdZ_tt, ↓L_gdZ_tf, ↓L_gdZ_ft, ↓L_gdZ_ff, ↓T_and, ↓T_imp, ↓T_all, Nat.reduceBEq, Nat.reduceAdd, Nat.reduceSub, Nat.reduceMul, Nat.reduceLT, Nat.reduceLeDiff, Nat.reduceEqDiff, Int.reduceLT, Int.reduceLE, Int.reduceAdd, Int.reduceSub, Int.reduceMul, Int.reduceNeg, Int.reduceToNat, Int.reduceEq, Int.reduceNe, reduceIte, reduceCtorEq, BitVec.reduceOfInt, BitVec.reduceToNat]; try simp only [top_out])
              refine num_ok 218 _ _ ?_
              (refine top_in ?_; simp -implicitDefEqProofs only [go_sem, -List.reduceReplicate, ↓L_gdZ_tt, ↓L_gdZ_tf, ↓L_gdZ_ft, ↓L_gdZ_ff, ↓T_and, ↓T_imp, ↓T_all, Nat.reduceBEq, Nat.reduceAdd, Nat.reduceSub, Nat.reduceMul, Nat.reduceLT, Nat.reduceLeDiff, Nat.reduceEqDiff, Int.reduceLT, Int.reduceLE, Int.reduceAdd, Int.reduceSub, Int.reduceMul, Int.reduceNeg, Int.reduceToNat, Int.reduceEq, Int.reduceNe, reduceIte, reduceCtorEq, BitVec.reduceOfInt, BitVec.reduceToNat, Int.reduceBEq, Int.reduceBNe]; try simp only [top_out])
              exact ⟨n - 1, by omega, k + 1, F, Fb, c, fs, bk, hs, _, _, by omega, q.ag Ag.app, by omega, Ag.trans hA3 (Ag.app (S := fun _ => False)) (fun _ _ e => e.elim), rfl, rfl, w64 (by omega) (by omega)⟩
        by_cases hk5 : ki = 5
        · as_aux_lemma =>
            subst hk5
            obtain ⟨f, rfl⟩ := frC_open _ _ 0 hf
            clear hf
            (refine top_in ?_; simp -implicitDefEqProofs (maxSteps := 1000000) only [go_sem, -List.reduceReplicate, ↓L_gdZ_tt, ↓L_gdZ_tf, ↓L_gdZ_ft, ↓L_gdZ_ff, ↓T_and, ↓T_imp, ↓T_all, Nat.reduceBEq, Nat.reduceAdd, Nat.reduceSub, Nat.reduceMul, Nat.reduceLT, Nat.reduceLeDiff, Nat.reduceEqDiff, Int.reduceLT, Int.reduceLE, Int.reduceAdd, Int.reduceSub, Int.reduceMul, Int.reduceNeg, Int.reduceToNat, Int.reduceEq, Int.reduceNe, reduceIte, reduceCtorEq, BitVec.reduceOfInt, BitVec.reduceToNat, hrow3, e0, e1, e2, hlx, hly, hxl, hxo, hat, Int.reduceBEq, Int.reduceBNe, get_lt (kw r1), r1, hgb]; try simp only [top_out])
            repeat' (with_reducible first | refine And.intro ?_ ?_ | intro)
            all_goals try omega
            all_goals first
              | exact ⟨n - 1, by omega, k + 1, F, Fb, c, fs, bk, hs, _, _, by omega, q.ag Ag.app, by omega, Ag.trans hA3 (Ag.app (S := fun _ => False)) (fun _ _ e => e.elim), rfl, rfl, w64 (by omega) (by omega)⟩
              | refine counted_ok nx m c bk.length _ _ bk hs fs M3 F Fb _ q.net q.book q.view (by omega) (by omega) (by omega) ?_
                (refine top_in ?_; simp -implicitDefEqProofs only [go_sem, -List.reduceReplicate, ↓L_gdZ_tt, ↓L_gdZ_tf, ↓L_gdZ_ft, ↓L_gdZ_ff, ↓T_and, ↓T_imp, ↓T_all, Nat.reduceBEq, Nat.reduceAdd, Nat.reduceSub, Nat.reduceMul, Nat.reduceLT, Nat.reduceLeDiff, Nat.reduceEqDiff, Int.reduceLT, Int.reduceLE, Int.reduceAdd, Int.reduceSub, Int.reduceMul, Int.reduceNeg, Int.reduceToNat, Int.reduceEq, Int.reduceNe, reduceIte, reduceCtorEq, BitVec.reduceOfInt, BitVec.reduceToNat]; try simp only [top_out])
                exact dropC_ag hM hA3 (fun n h1 h2 => by omega) rfl hK
              | skip
            all_goals
              refine flip_none nx m _ no _ _ _ c 63 _ _ qb.net.row qb.net.map (find_no hno) ?_
              (refine top_in ?_; simp -implicitDefEqProofs only [go_sem, -List.reduceReplicate, ↓L_gdZ_tt, ↓L_gdZ_tf, ↓L_gdZ_ft, ↓L_gdZ_ff, ↓T_and, ↓T_imp, ↓T_all, Nat.reduceBEq, Nat.reduceAdd, Nat.reduceSub, Nat.reduceMul, Nat.reduceLT, Nat.reduceLeDiff, Nat.reduceEqDiff, Int.reduceLT, Int.reduceLE, Int.reduceAdd, Int.reduceSub, Int.reduceMul, Int.reduceNeg, Int.reduceToNat, Int.reduceEq, Int.reduceNe, reduceIte, reduceCtorEq, BitVec.reduceOfInt, BitVec.reduceToNat]; try simp only [top_out])
              refine draw_rule tabOK (by kernel_rfl : _) (.p 0 (.p 1 (.p 2 (.p 3 (.p 4 (.p 5 (.p 6 (.p 7 (.p 8 (.p 9 (.p 10 (.p 11 (.p 12 (.p 13 (.p 14 (.p 15 (.p 16 (.p 17 (.p 18 (.p 19 (.p 20 (.p 21 (.p 22 (.p 23 (.p 24 (.p 25 (.p 26 (.p 27 .nil)))))))))))))))))))))))))))) (by kernel_rfl) (by kernel_rfl) ?_
              (refine top_in ?_; simp -implicitDefEqProofs only [go_sem, -List.reduceReplicate, ↓L_gdZ_tt, ↓L_gdZ_tf, ↓L_gdZ_ft, ↓L_gdZ_ff, ↓T_and, ↓T_imp, ↓T_all, Nat.reduceBEq, Nat.reduceAdd, Nat.reduceSub, Nat.reduceMul, Nat.reduceLT, Nat.reduceLeDiff, Nat.reduceEqDiff, Int.reduceLT, Int.reduceLE, Int.reduceAdd, Int.reduceSub, Int.reduceMul, Int.reduceNeg, Int.reduceToNat, Int.reduceEq, Int.reduceNe, reduceIte, reduceCtorEq, BitVec.reduceOfInt, BitVec.reduceToNat]; try simp only [top_out])
              refine num_ok 218 _ _ ?_
              (refine top_in ?_; simp -implicitDefEqProofs only [go_sem, -List.reduceReplicate, ↓L_gdZ_tt, ↓L_gdZ_tf, ↓L_gdZ_ft, ↓L_gdZ_ff, ↓T_and, ↓T_imp, ↓T_all, Nat.reduceBEq, Nat.reduceAdd, Nat.reduceSub, Nat.reduceMul, Nat.reduceLT, Nat.reduceLeDiff, Nat.reduceEqDiff, Int.reduceLT, Int.reduceLE, Int.reduceAdd, Int.reduceSub, Int.reduceMul, Int.reduceNeg, Int.reduceToNat, Int.reduceEq, Int.reduceNe, reduceIte, reduceCtorEq, BitVec.reduceOfInt, BitVec.reduceToNat, Int.reduceBEq, Int.reduceBNe]; try simp only [top_out])
              exact ⟨n - 1, by omega, k + 1, F, Fb, c, fs, bk, hs, _, _, by omega, q.ag Ag.app, by omega, Ag.trans hA3 (Ag.app (S := fun _ => False)) (fun _ _ e => e.elim), rfl, rfl, w64 (by omega) (by omega)⟩
        by_cases hk3 : ki = 3
        · as_aux_lemma =>
            subst hk3
            obtain ⟨f, rfl⟩ := frC_open _ _ 0 hf
            clear hf
            (refine top_in ?_; simp -implicitDefEqProofs (maxSteps := 1000000) only [go_sem, -List.reduceReplicate, ↓L_gdZ_tt, ↓L_gdZ_tf, ↓L_gdZ_ft, ↓L_gdZ_ff, ↓T_and, ↓T_imp, ↓T_all, Nat.reduceBEq, Nat.reduceAdd, Nat.reduceSub, Nat.reduceMul, Nat.reduceLT, Nat.reduceLeDiff, Nat.reduceEqDiff, Int.reduceLT, Int.reduceLE, Int.reduceAdd, Int.reduceSub, Int.reduceMul, Int.reduceNeg, Int.reduceToNat, Int.reduceEq, Int.reduceNe, reduceIte, reduceCtorEq, BitVec.reduceOfInt, BitVec.reduceToNat, hrow3, e0, e1, e2, hlx, hly, hxl, hxo, hat, Int.reduceBEq, Int.reduceBNe, get_lt (kw r1), r1, hgb]; try simp only [top_out])
            repeat' (with_reducible first | refine And.intro ?_ ?_ | intro)
            all_goals try omega
            all_goals first
              | exact ⟨n - 1, by omega, k + 1, F, Fb, c, fs, bk, hs, _, _, by omega, q.ag Ag.app, by omega, Ag.trans hA3 (Ag.app (S := fun _ => False)) (fun _ _ e => e.elim), rfl, rfl, w64 (by omega) (by omega)⟩
              | refine counted_ok nx m c bk.length _ _ bk hs fs M3 F Fb _ q.net q.book q.view (by omega) (by omega) (by omega) ?_
                (refine top_in ?_; simp -implicitDefEqProofs only [go_sem, -List.reduceReplicate, ↓L_gdZ_tt, ↓L_gdZ_tf, ↓L_gdZ_ft, ↓L_gdZ_ff, ↓T_and, ↓T_imp, ↓T_all, Nat.reduceBEq, Nat.reduceAdd, Nat.reduceSub, Nat.reduceMul, Nat.reduceLT, Nat.reduceLeDiff, Nat.reduceEqDiff, Int.reduceLT, Int.reduceLE, Int.reduceAdd, Int.reduceSub, Int.reduceMul, Int.reduceNeg, Int.reduceToNat, Int.reduceEq, Int.reduceNe, reduceIte, reduceCtorEq, BitVec.reduceOfInt, BitVec.reduceToNat]; try simp only [top_out])
                exact dropC_ag hM hA3 (fun n h1 h2 => by omega) rfl hK
              | skip
            all_goals
              refine leaves_no nx m c _ _ to no xx a se xd _ fs _ F _ qb.net hno hxo ?_
              (refine top_in ?_; simp -implicitDefEqProofs only [go_sem, -List.reduceReplicate, ↓L_gdZ_tt, ↓L_gdZ_tf, ↓L_gdZ_ft, ↓L_gdZ_ff, ↓T_and, ↓T_imp, ↓T_all, Nat.reduceBEq, Nat.reduceAdd, Nat.reduceSub, Nat.reduceMul, Nat.reduceLT, Nat.reduceLeDiff, Nat.reduceEqDiff, Int.reduceLT, Int.reduceLE, Int.reduceAdd, Int.reduceSub, Int.reduceMul, Int.reduceNeg, Int.reduceToNat, Int.reduceEq, Int.reduceNe, reduceIte, reduceCtorEq, BitVec.reduceOfInt, BitVec.reduceToNat]; try simp only [top_out])
              exact ⟨n - 1, by omega, k + 1, F, Fb, c, fs, bk, hs, _, _, by omega, q.ag Ag.app, by omega, Ag.trans hA3 (Ag.app (S := fun _ => False)) (fun _ _ e => e.elim), rfl, rfl, w64 (by omega) (by omega)⟩
        by_cases hk2 : ki = 2
        · as_aux_lemma =>
            subst hk2
            obtain ⟨f, rfl⟩ := frC_open _ _ 0 hf
            clear hf
            (refine top_in ?_; simp -implicitDefEqProofs (maxSteps := 1000000) only [go_sem, -List.reduceReplicate, ↓L_gdZ_tt, ↓L_gdZ_tf, ↓L_gdZ_ft, ↓L_gdZ_ff, ↓T_and, ↓T_imp, ↓T_all, Nat.reduceBEq, Nat.reduceAdd, Nat.reduceSub, Nat.reduceMul, Nat.reduceLT, Nat.reduceLeDiff, Nat.reduceEqDiff, Int.reduceLT, Int.reduceLE, Int.reduceAdd, Int.reduceSub, Int.reduceMul, Int.reduceNeg, Int.reduceToNat, Int.reduceEq, Int.reduceNe, reduceIte, reduceCtorEq, BitVec.reduceOfInt, BitVec.reduceToNat, hrow3, e0, e1, e2, hlx, hly, hxl, hxo, hat, Int.reduceBEq, Int.reduceBNe, get_lt (kw r1), r1, hgb]; try simp only [top_out])
            repeat' (with_reducible first | refine And.intro ?_ ?_ | intro)
            all_goals try omega
            all_goals first
              | exact ⟨n - 1, by omega, k + 1, F, Fb, c, fs, bk, hs, _, _, by omega, q.ag Ag.app, by omega, Ag.trans hA3 (Ag.app (S := fun _ => False)) (fun _ _ e => e.elim), rfl, rfl, w64 (by omega) (by omega)⟩
              | refine counted_ok nx m c bk.length _ _ bk hs fs M3 F Fb _ q.net q.book q.view (by omega) (by omega) (by omega) ?_
                (refine top_in ?_; simp -implicitDefEqProofs only [go_sem, -List.reduceReplicate, ↓L_gdZ_tt, ↓L_gdZ_tf, ↓L_gdZ_ft, ↓L_gdZ_ff, ↓T_and, ↓T_imp, ↓T_all, Nat.reduceBEq, Nat.reduceAdd, Nat.reduceSub, Nat.reduceMul, Nat.reduceLT, Nat.reduceLeDiff, Nat.reduceEqDiff, Int.reduceLT, Int.reduceLE, Int.reduceAdd, Int.reduceSub, Int.reduceMul, Int.reduceNeg, Int.reduceToNat, Int.reduceEq, Int.reduceNe, reduceIte, reduceCtorEq, BitVec.reduceOfInt, BitVec.reduceToNat]; try simp only [top_out])
                exact dropC_ag hM hA3 (fun n h1 h2 => by omega) rfl hK
              | skip
            all_goals
              refine leaves_no nx m c _ _ to no xx a se xd _ fs _ F _ qb.net hno hxo ?_
              (refine top_in ?_; simp -implicitDefEqProofs only [go_sem, -List.reduceReplicate, ↓L_gdZ_tt, ↓L_gdZ_tf, ↓L_gdZ_ft, ↓L_gdZ_ff, ↓T_and, ↓T_imp, ↓T_all, Nat.reduceBEq, Nat.reduceAdd, Nat.reduceSub, Nat.reduceMul, Nat.reduceLT, Nat.reduceLeDiff, Nat.reduceEqDiff, Int.reduceLT, Int.reduceLE, Int.reduceAdd, Int.reduceSub, Int.reduceMul, Int.reduceNeg, Int.reduceToNat, Int.reduceEq, Int.reduceNe, reduceIte, reduceCtorEq, BitVec.reduceOfInt, BitVec.reduceToNat]; try simp only [top_out])
              exact ⟨n - 1, by omega, k + 1, F, Fb, c, fs, bk, hs, _, _, by omega, q.ag Ag.app, by omega, Ag.trans hA3 (Ag.app (S := fun _ => False)) (fun _ _ e => e.elim), rfl, rfl, w64 (by omega) (by omega)⟩
        · as_aux_lemma =>
            have n1 : (ki == 1) = false := by simpa using hk1
            have n4 : (ki == 4) = false := by simpa using hk4
            have n5 : (ki == 5) = false := by simpa using hk5
            have n3 : (ki == 3) = false := by simpa using hk3
            have n2 : (ki == 2) = false := by simpa using hk2
            obtain ⟨f, rfl⟩ := frC_open _ _ 0 hf
            clear hf
            (refine top_in ?_; simp -implicitDefEqProofs (maxSteps := 1000000) only [go_sem, -List.reduceReplicate, ↓L_gdZ_tt, ↓L_gdZ_tf, ↓L_gdZ_ft, ↓L_gdZ_ff, ↓T_and, ↓T_imp, ↓T_all, Nat.reduceBEq, Nat.reduceAdd, Nat.reduceSub, Nat.reduceMul, Nat.reduceLT, Nat.reduceLeDiff, Nat.reduceEqDiff, Int.reduceLT, Int.reduceLE, Int.reduceAdd, Int.reduceSub, Int.reduceMul, Int.reduceNeg, Int.reduceToNat, Int.reduceEq, Int.reduceNe, reduceIte, reduceCtorEq, BitVec.reduceOfInt, BitVec.reduceToNat, hrow3, e0, e1, e2, hlx, hly, hxl, hxo, hat, Int.reduceBEq, Int.reduceBNe, n1, n4, n5, n3, n2, get_lt (kw r1), r1, hgb]; try simp only [top_out])
            repeat' (with_reducible first | refine And.intro ?_ ?_ | intro)
            all_goals try omega
            all_goals first
              | exact ⟨n - 1, by omega, k + 1, F, Fb, c, fs, bk, hs, _, _, by omega, q.ag Ag.app, by omega, Ag.trans hA3 (Ag.app (S := fun _ => False)) (fun _ _ e => e.elim), rfl, rfl, w64 (by omega) (by omega)⟩
              | refine counted_ok nx m c bk.length _ _ bk hs fs M3 F Fb _ q.net q.book q.view (by omega) (by omega) (by omega) ?_
                (refine top_in ?_; simp -implicitDefEqProofs only [go_sem, -List.reduceReplicate, ↓L_gdZ_tt, ↓L_gdZ_tf, ↓L_gdZ_ft, ↓L_gdZ_ff, ↓T_and, ↓T_imp, ↓T_all, Nat.reduceBEq, Nat.reduceAdd, Nat.reduceSub, Nat.reduceMul, Nat.reduceLT, Nat.reduceLeDiff, Nat.reduceEqDiff, Int.reduceLT, Int.reduceLE, Int.reduceAdd, Int.reduceSub, Int.reduceMul, Int.reduceNeg, Int.reduceToNat, Int.reduceEq, Int.reduceNe, reduceIte, reduceCtorEq, BitVec.reduceOfInt, BitVec.reduceToNat]; try simp only [top_out])
                exact dropC_ag hM hA3 (fun n h1 h2 => by omega) rfl hK
              | skip
      · obtain ⟨at', hat, hat2⟩ : ∃ at' : Int, IntKind.i64.wrap (no - 1) = at' ∧ ¬ (0 ≤ at' ∧ at' < bk.length) := by
          by_cases hmin : no = -9223372036854775808
          · exact ⟨9223372036854775807, by rw [hmin]; rfl, by omega⟩
          · exact ⟨no - 1, w64 (by omega) (by omega), by omega⟩
        have qb := q.ag (Ag.app (L := [Blk.row [.i .i64 ki, .b se, .i .i64 to, .i .i64 no, .i .i64 xx, .i .i64 a, xd] 43]))
        by_cases hk1 : ki = 1
        · as_aux_lemma =>
            subst hk1
            obtain ⟨f, rfl⟩ := frC_open _ _ 0 hf
            clear hf
            (refine top_in ?_; simp -implicitDefEqProofs (maxSteps := 1000000) only [go_sem, -List.reduceReplicate, ↓L_gdZ_tt, ↓L_gdZ_tf, ↓L_gdZ_ft, ↓L_gdZ_ff, ↓T_and, ↓T_imp, ↓T_all, Nat.reduceBEq, Nat.reduceAdd, Nat.reduceSub, Nat.reduceMul, Nat.reduceLT, Nat.reduceLeDiff, Nat.reduceEqDiff, Int.reduceLT, Int.reduceLE, Int.reduceAdd, Int.reduceSub, Int.reduceMul, Int.reduceNeg, Int.reduceToNat, Int.reduceEq, Int.reduceNe, reduceIte, reduceCtorEq, BitVec.reduceOfInt, BitVec.reduceToNat, hrow3, e0, e1, e2, hlx, hly, hxl, hxo, hat, Int.reduceBEq, Int.reduceBNe, hno0]; try simp only [top_out])
            repeat' (with_reducible first | refine And.intro ?_ ?_ | intro)
            all_goals try omega
            all_goals first
              | exact ⟨n - 1, by omega, k + 1, F, Fb, c, fs, bk, hs, _, _, by omega, q.ag Ag.app, by omega, Ag.trans hA3 (Ag.app (S := fun _ => False)) (fun _ _ e => e.elim), rfl, rfl, w64 (by omega) (by omega)⟩
              | refine counted_ok nx m c bk.length _ _ bk hs fs M3 F Fb _ q.net q.book q.view (by omega) (by omega) (by omega) ?_
                (refine top_in ?_; simp -implicitDefEqProofs only [go_sem, -List.reduceReplicate, ↓L_gdZ_tt, ↓L_gdZ_tf, ↓L_gdZ_ft, ↓L_gdZ_ff, ↓T_and, ↓T_imp, ↓T_all, Nat.reduceBEq, Nat.reduceAdd, Nat.reduceSub, Nat.reduceMul, Nat.reduceLT, Nat.reduceLeDiff, Nat.reduceEqDiff, Int.reduceLT, Int.reduceLE, Int.reduceAdd, Int.reduceSub, Int.reduceMul, Int.reduceNeg, Int.reduceToNat, Int.reduceEq, Int.reduceNe, reduceIte, reduceCtorEq, BitVec.reduceOfInt, BitVec.reduceToNat]; try simp only [top_out])
                exact dropC_ag hM hA3 (fun n h1 h2 => by omega) rfl hK
              | skip
            all_goals
              refine draw_from (fun M2 => Ag (fun _ => False) M3 M2 ∧ M2[M3.length]? = some (.row [.i .i64 1, .b se, .i .i64 to, .i .i64 (no), .i .i64 xx, .i .i64 a, xd] 43)) ⟨Ag.app, hbo⟩ (fun M4 hM4 => ?_)
              obtain ⟨hA4, hbox⟩ := hM4
              have q4 := q.ag hA4
              have hx4 := hx3.ag hA4 (fun _ _ e => e)
              refine draw_rule tabOK (by kernel_rfl : _) (.p 0 (.p 1 (.p 2 (.p 3 (.p 4 (.e 5 [1, 2] (.e 6 [] (.p 7 .nil) .no) .no)))))) (by kernel_rfl) (by kernel_rfl) ?_
              (refine top_in ?_; simp -implicitDefEqProofs only [go_sem, -List.reduceReplicate, ↓L_gdZ_tt, ↓L_gdZ_tf, ↓L_gdZ_ft, ↓L_gdZ_ff, ↓T_and, ↓T_imp, ↓T_all, Nat.reduceBEq, Nat.reduceAdd, Nat.reduceSub, Nat.reduceMul, Nat.reduceLT, Nat.reduceLeDiff, Nat.reduceEqDiff, Int.reduceLT, Int.reduceLE, Int.reduceAdd, Int.reduceSub, Int.reduceMul, Int.reduceNeg, Int.reduceToNat, Int.reduceEq, Int.reduceNe, reduceIte, reduceCtorEq, BitVec.reduceOfInt, BitVec.reduceToNat, hbox, hxo]; try simp only [top_out])
              refine bytes_any xd d M4 _ hx4 (fun z1 t1 => ?_)
              (refine top_in ?_; simp -implicitDefEqProofs only [go_sem, -List.reduceReplicate, ↓L_gdZ_tt, ↓L_gdZ_tf, ↓L_gdZ_ft, ↓L_gdZ_ff, ↓T_and, ↓T_imp, ↓T_all, Nat.reduceBEq, Nat.reduceAdd, Nat.reduceSub, Nat.reduceMul, Nat.reduceLT, Nat.reduceLeDiff, Nat.reduceEqDiff, Int.reduceLT, Int.reduceLE, Int.reduceAdd, Int.reduceSub, Int.reduceMul, Int.reduceNeg, Int.reduceToNat, Int.reduceEq, Int.reduceNe, reduceIte, reduceCtorEq, BitVec.reduceOfInt, BitVec.reduceToNat]; try simp only [top_out])
              simp only [get_lt (kw hbox), hbox]
              refine ⟨⟨⟨rfl, rfl⟩, by simp [go_sem]⟩, ?_⟩
              have hr4 : (M4 ++ [Blk.row (bS (d ++ z1)) t1])[M4.length]? = some (.row (bS (d ++ z1)) t1) := by simp
              have hdl := hx4.1
              have hnxl := kw q4.net.row
              refine send_st nx m c bk.length to _ d fs _ F _ (q4.net.ag (Ag.app (S := fun _ => False)) (fun _ _ e => e)) (by omega) (by omega) ⟨hdl, .inr ⟨_, _, rfl, BAt.row hr4, There.row hr4, fun e => by omega⟩⟩ (fun M5 F5 x' h5 hF5 hA5 => ?_)
              have hA45 : Ag F M4 M5 := Ag.trans ((Ag.app (S := fun _ => False)).mono (fun _ e => e.elim)) hA5 (fun _ _ e => e)
              have hA35 : Ag F M3 M5 := Ag.trans (hA4.mono (fun _ e => e.elim)) hA45 (fun _ _ e => e)
              have hFl : ∀ n, F n → n < M3.length := q.net.inn
              have hbox5 := hA45.get hbox (fun e => by have := hFl _ e; omega)
              have hx5 : Byt M5 xd d := hx4.ag hA45 (fun d e e2 => by have := hxG d e; have := q.newF d e2; omega)
              have hwb : IntKind.i64.wrap ((bk.length : Int) + 1) = (bk.length : Int) + 1 := w64 (by omega) (by omega)
              (refine top_in ?_; simp -implicitDefEqProofs only [go_sem, -List.reduceReplicate, ↓L_gdZ_tt, ↓L_gdZ_tf, ↓L_gdZ_ft, ↓L_gdZ_ff, ↓T_and, ↓T_imp, ↓T_all, Nat.reduceBEq, Nat.reduceAdd, Nat.reduceSub, Nat.reduceMul, Nat.reduceLT, Nat.reduceLeDiff, Nat.reduceEqDiff, Int.reduceLT, Int.reduceLE, Int.reduceAdd, Int.reduceSub, Int.reduceMul, Int.reduceNeg, Int.reduceToNat, Int.reduceEq, Int.reduceNe, reduceIte, reduceCtorEq, BitVec.reduceOfInt, BitVec.reduceToNat, hlx, hwb]; try simp only [top_out])
              refine ⟨fun h => by simp at h, fun _ => ?_⟩
              refine draw_rule tabOK (by kernel_rfl : _) (.p 0 (.p 1 (.p 2 (.p 3 (.p 4 (.p 5 (.e 6 [2, 3] (.p 7 (.e 8 [] (.e 9 [] (.p 10 .nil) .no) .no)) .no))))))) (by kernel_rfl) (by kernel_rfl) ?_
              (refine top_in ?_; simp -implicitDefEqProofs only [go_sem, -List.reduceReplicate, ↓L_gdZ_tt, ↓L_gdZ_tf, ↓L_gdZ_ft, ↓L_gdZ_ff, ↓T_and, ↓T_imp, ↓T_all, Nat.reduceBEq, Nat.reduceAdd, Nat.reduceSub, Nat.reduceMul, Nat.reduceLT, Nat.reduceLeDiff, Nat.reduceEqDiff, Int.reduceLT, Int.reduceLE, Int.reduceAdd, Int.reduceSub, Int.reduceMul, Int.reduceNeg, Int.reduceToNat, Int.reduceEq, Int.reduceNe, reduceIte, reduceCtorEq, BitVec.reduceOfInt, BitVec.reduceToNat, hbox5, hxo]; try simp only [top_out])
              refine bytes_any xd d M5 _ hx5 (fun z2 t2 => ?_)
              (refine top_in ?_; simp -implicitDefEqProofs only [go_sem, -List.reduceReplicate, ↓L_gdZ_tt, ↓L_gdZ_tf, ↓L_gdZ_ft, ↓L_gdZ_ff, ↓T_and, ↓T_imp, ↓T_all, Nat.reduceBEq, Nat.reduceAdd, Nat.reduceSub, Nat.reduceMul, Nat.reduceLT, Nat.reduceLeDiff, Nat.reduceEqDiff, Int.reduceLT, Int.reduceLE, Int.reduceAdd, Int.reduceSub, Int.reduceMul, Int.reduceNeg, Int.reduceToNat, Int.reduceEq, Int.reduceNe, reduceIte, reduceCtorEq, BitVec.reduceOfInt, BitVec.reduceToNat, get_lt (kw hbox5), hbox5]; try simp only [top_out])
              have hF5' : ∀ n, F5 n → F n ∨ M3.length ≤ n := fun n e => (hF5 n e).imp (fun e => e) (fun e => by have := hA4.1; simp only [List.length_append] at e; omega)
              refine ⟨by decide, ?_⟩
              have hbk5 := q.book.ag hA35 (fun n e e2 => q.apart n e e2)
              have m35 := hA35.1
              have hsrc : ∀ K : List SV → Nat → Prop, K [.i .i64 ((bk.length : Int) + 1), .i .i64 to, .sl M5.length 0 (d).length ((d).length + z2.length)] 1 → srcC (M5 ++ [Blk.row (bS (d ++ z2)) t2, Blk.row [.i .i64 ((bk.length : Int) + 1), .i .i64 to, .sl M5.length 0 (d).length ((d).length + z2.length)] 32]) 3 (SV.sl (M5.length + 1) 0 1 1) K := fun K hK => by simp only [srcC]; rw [cells_at (k := 1)]; (refine top_in ?_; simp -implicitDefEqProofs only [go_sem, -List.reduceReplicate, ↓L_gdZ_tt, ↓L_gdZ_tf, ↓L_gdZ_ft, ↓L_gdZ_ff, ↓T_and, ↓T_imp, ↓T_all, Nat.reduceBEq, Nat.reduceAdd, Nat.reduceSub, Nat.reduceMul, Nat.reduceLT, Nat.reduceLeDiff, Nat.reduceEqDiff, Int.reduceLT, Int.reduceLE, Int.reduceAdd, Int.reduceSub, Int.reduceMul, Int.reduceNeg, Int.reduceToNat, Int.reduceEq, Int.reduceNe, reduceIte, reduceCtorEq, BitVec.reduceOfInt, BitVec.reduceToNat]; try simp only [top_out]); exact hK
              refine appB [.i .i64 0, .i .i64 0, .sn] (x) (flC (bk.map Eng.r3)) [.i .i64 ((bk.length : Int) + 1), .i .i64 to, .sl M5.length 0 (d).length ((d).length + z2.length)] bk.length 1 rfl (by decide) (by decide) rfl rfl (by rw [flC_length, List.length_map]) (hbk5.lo _) hsrc (by omega) (fun M6 q6 z6 t6 c6 hA6 hq6 hr6 hc6 hz6 => ?_)
              (refine top_in ?_; simp -implicitDefEqProofs only [go_sem, -List.reduceReplicate, ↓L_gdZ_tt, ↓L_gdZ_tf, ↓L_gdZ_ft, ↓L_gdZ_ff, ↓T_and, ↓T_imp, ↓T_all, Nat.reduceBEq, Nat.reduceAdd, Nat.reduceSub, Nat.reduceMul, Nat.reduceLT, Nat.reduceLeDiff, Nat.reduceEqDiff, Int.reduceLT, Int.reduceLE, Int.reduceAdd, Int.reduceSub, Int.reduceMul, Int.reduceNeg, Int.reduceToNat, Int.reduceEq, Int.reduceNe, reduceIte, reduceCtorEq, BitVec.reduceOfInt, BitVec.reduceToNat]; try simp only [top_out])
              refine ⟨by decide, ?_⟩
              have hA56 : Ag (fun n => dnS (x) = some n) M5 M6 := Ag.trans (S' := fun n => dnS (x) = some n) Ag.app hA6 (fun _ _ e => e)
              have hsrc2 : ∀ K : List SV → Nat → Prop, K [.b true] 1 → srcC (M6 ++ [Blk.row [.b true] 4]) 1 (SV.sl M6.length 0 1 1) K := fun K hK => by simp only [srcC]; rw [cells_at0]; (refine top_in ?_; simp -implicitDefEqProofs only [go_sem, -List.reduceReplicate, ↓L_gdZ_tt, ↓L_gdZ_tf, ↓L_gdZ_ft, ↓L_gdZ_ff, ↓T_and, ↓T_imp, ↓T_all, Nat.reduceBEq, Nat.reduceAdd, Nat.reduceSub, Nat.reduceMul, Nat.reduceLT, Nat.reduceLeDiff, Nat.reduceEqDiff, Int.reduceLT, Int.reduceLE, Int.reduceAdd, Int.reduceSub, Int.reduceMul, Int.reduceNeg, Int.reduceToNat, Int.reduceEq, Int.reduceNe, reduceIte, reduceCtorEq, BitVec.reduceOfInt, BitVec.reduceToNat]; try simp only [top_out]); exact hK
              refine appB [.b false] (y) (hs.map SV.b) [.b true] hs.length 1 rfl (by decide) (by decide) rfl rfl (by simp) (hbk5.ho hA56 _) hsrc2 (by have := q.book.len; omega) (fun M7 q7 z7 t7 c7 hA7 hq7 hr7 hc7 hz7 => ?_)
              (refine top_in ?_; simp -implicitDefEqProofs only [go_sem, -List.reduceReplicate, ↓L_gdZ_tt, ↓L_gdZ_tf, ↓L_gdZ_ft, ↓L_gdZ_ff, ↓T_and, ↓T_imp, ↓T_all, Nat.reduceBEq, Nat.reduceAdd, Nat.reduceSub, Nat.reduceMul, Nat.reduceLT, Nat.reduceLeDiff, Nat.reduceEqDiff, Int.reduceLT, Int.reduceLE, Int.reduceAdd, Int.reduceSub, Int.reduceMul, Int.reduceNeg, Int.reduceToNat, Int.reduceEq, Int.reduceNe, reduceIte, reduceCtorEq, BitVec.reduceOfInt, BitVec.reduceToNat]; try simp only [top_out])
              have hA57 : Ag (fun n => dnS (x) = some n ∨ dnS (y) = some n) M5 M7 := Ag.trans (hA56.mono (fun _ e => .inl e)) (Ag.trans (S' := fun n => dnS (y) = some n) Ag.app hA7 (fun _ _ e => e)) (fun _ _ e => .inr e)
              have hql : ∀ n, (dnS (x) = some n ∨ dnS (y) = some n) → n < M5.length := fun n e => hbk5.inn n (hbk5.own e)
              simp only [List.length_append, List.length_cons, List.length_nil] at hq6 hq7
              have hr6' := hA7.get (n := q6) (by rw [get_lt (kw hr6)]; exact hr6) (fun e => by have := hql q6 (.inr e); omega)
              have hd6 := hA6.get (n := M5.length) (B := .row (bS (d ++ z2)) t2) (by simp) (fun e => by have := hql _ (.inl e); omega)
              have hd7 := hA7.get (n := M5.length) (by rw [get_lt (kw hd6)]; exact hd6) (fun e => by have := hql _ (.inr e); omega)
              have k6 := kw hr6
              have hfin := q.add m3 h5 hF5' hA35 hA57 q6 c6 q7 c7 z6 z7 t6 t7 (xb := .sl M5.length 0 (d).length ((d).length + z2.length)) hr6' hc6 hz6 hr7 hc7 hz7 ⟨by omega, .inr ⟨M5.length, z2, t2, rfl, hd7, Nat.le_refl _⟩⟩ (by omega) (by omega) (by omega) (by simp only [dnS, ne_eq, Option.some.injEq]; omega) (by simp only [dnS, ne_eq, Option.some.injEq]; omega)
              have hA37 : Ag (fun n => F n ∨ Fb n) M3 M7 := Ag.trans (hA35.mono (fun _ e => .inl e)) hA57 (fun n _ e => .inr (hbk5.own e))
              exact ⟨n - 1, by omega, k + 1, _, _, _, _, _, _, _, _, by omega, hfin, by simp; omega, Ag.trans hA3 hA37 (fun n _ e => e.elim (q.newF n) (q.newB n)), rfl, rfl, w64 (by omega) (by omega)⟩
        by_cases hk4 : ki = 4
        · as_aux_lemma =>
            subst hk4
            obtain ⟨f, rfl⟩ := frC_open _ _ 0 hf
            clear hf
            (refine top_in ?_; simp -implicitDefEqProofs (maxSteps := 1000000) only [go_sem, -List.reduceReplicate, ↓L_gdZ_tt, ↓L_gdZ_tf, ↓L_gdZ_ft, ↓L_gdZ_ff, ↓T_and, ↓T_imp, ↓T_all, Nat.reduceBEq, Nat.reduceAdd, Nat.reduceSub, Nat.reduceMul, Nat.reduceLT, Nat.reduceLeDiff, Nat.reduceEqDiff, Int.reduceLT, Int.reduceLE, Int.reduceAdd, Int.reduceSub, Int.reduceMul, Int.reduceNeg, Int.reduceToNat, Int.reduceEq, Int.reduceNe, reduceIte, reduceCtorEq, BitVec.reduceOfInt, BitVec.reduceToNat, hrow3, e0, e1, e2, hlx, hly, hxl, hxo, hat, Int.reduceBEq, Int.reduceBNe, hno0]; try simp only [top_out])
            repeat' (with_reducible first | refine And.intro ?_ ?_ | intro)
            all_goals try omega
            all_goals first
              | exact ⟨n - 1, by omega, k + 1, F, Fb, c, fs, bk, hs, _, _, by omega, q.ag Ag.app, by omega, Ag.trans hA3 (Ag.app (S := fun _ => False)) (fun _ _ e => e.elim), rfl, rfl, w64 (by omega) (by omega)⟩
              | refine counted_ok nx m c bk.length _ _ bk hs fs M3 F Fb _ q.net q.book q.view (by omega) (by omega) (by omega) ?_
                (refine top_in ?_; simp -implicitDefEqProofs only [go_sem, -List.reduceReplicate, ↓L_gdZ_tt, ↓L_gdZ_tf, ↓L_gdZ_ft, ↓L_gdZ_ff, ↓T_and, ↓T_imp, ↓T_all, Nat.reduceBEq, Nat.reduceAdd, Nat.reduceSub, Nat.reduceMul, Nat.reduceLT, Nat.reduceLeDiff, Nat.reduceEqDiff, Int.reduceLT, Int.reduceLE, Int.reduceAdd, Int.reduceSub, Int.reduceMul, Int.reduceNeg, Int.reduceToNat, Int.reduceEq, Int.reduceNe, reduceIte, reduceCtorEq, BitVec.reduceOfInt, BitVec.reduceToNat]; try simp only [top_out])
                exact dropC_ag hM hA3 (fun n h1 h2 => by omega) rfl hK
              | skip
            all_goals
              refine copy_none nx m _ no _ c 63 _ _ qb.net.row qb.net.map (find_no hno) ?_
              (refine top_in ?_; simp -implicitDefEqProofs only [go_sem, -List.reduceReplicate, ↓L_gdZ_tt, ↓L_gdZ_tf, ↓L_gdZ_ft, ↓L_gdZ_ff, ↓T_and, ↓T_imp, ↓T_all, Nat.reduceBEq, Nat.reduceAdd, Nat.reduceSub, Nat.reduceMul, Nat.reduceLT, Nat.reduceLeDiff, Nat.reduceEqDiff, Int.reduceLT, Int.reduceLE, Int.reduceAdd, Int.reduceSub, Int.reduceMul, Int.reduceNeg, Int.reduceToNat, Int.reduceEq, Int.reduceNe, reduceIte, reduceCtorEq, BitVec.reduceOfInt, BitVec.reduceToNat]; try simp only [top_out])
              refine num_ok 218 _ _ ?_
              (refine top_in ?_; simp -implicitDefEqProofs only [go_sem, -List.reduceReplicate, ↓L_gdZ_tt, ↓L_gdZ_tf, ↓L_gdZ_ft, ↓L_gdZ_ff, ↓T_and, ↓T_imp, ↓T_all, Nat.reduceBEq, Nat.reduceAdd, Nat.reduceSub, Nat.reduceMul, Nat.reduceLT, Nat.reduceLeDiff, Nat.reduceEqDiff, Int.reduceLT, Int.reduceLE, Int.reduceAdd, Int.reduceSub, Int.reduceMul, Int.reduceNeg, Int.reduceToNat, Int.reduceEq, Int.reduceNe, reduceIte, reduceCtorEq, BitVec.reduceOfInt, BitVec.reduceToNat, Int.reduceBEq, Int.reduceBNe]; try simp only [top_out])
              exact ⟨n - 1, by omega, k + 1, F, Fb, c, fs, bk, hs, _, _, by omega, q.ag Ag.app, by omega, Ag.trans hA3 (Ag.app (S := fun _ => False)) (fun _ _ e => e.elim), rfl, rfl, w64 (by omega) (by omega)⟩
        by_cases hk5 : ki = 5
        · as_aux_lemma =>
            subst hk5
            obtain ⟨f, rfl⟩ := frC_open _ _ 0 hf
            clear hf
            (refine top_in ?_; simp -implicitDefEqProofs (maxSteps := 1000000) only [go_sem, -List.reduceReplicate, ↓L_gdZ_tt, ↓L_gdZ_tf, ↓L_gdZ_ft, ↓L_gdZ_ff, ↓T_and, ↓T_imp, ↓T_all, Nat.reduceBEq, Nat.reduceAdd, Nat.reduceSub, Nat.reduceMul, Nat.reduceLT, Nat.reduceLeDiff, Nat.reduceEqDiff, Int.reduceLT, Int.reduceLE, Int.reduceAdd, Int.reduceSub, Int.reduceMul, Int.reduceNeg, Int.reduceToNat, Int.reduceEq, Int.reduceNe, reduceIte, reduceCtorEq, BitVec.reduceOfInt, BitVec.reduceToNat, hrow3, e0, e1, e2, hlx, hly, hxl, hxo, hat, Int.reduceBEq, Int.reduceBNe, hno0]; try simp only [top_out])
            repeat' (with_reducible first | refine And.intro ?_ ?_ | intro)
            all_goals try omega
            all_goals first
              | exact ⟨n - 1, by omega, k + 1, F, Fb, c, fs, bk, hs, _, _, by omega, q.ag Ag.app, by omega, Ag.trans hA3 (Ag.app (S := fun _ => False)) (fun _ _ e => e.elim), rfl, rfl, w64 (by omega) (by omega)⟩
              | refine counted_ok nx m c bk.length _ _ bk hs fs M3 F Fb _ q.net q.book q.view (by omega) (by omega) (by omega) ?_
                (refine top_in ?_; simp -implicitDefEqProofs only [go_sem, -List.reduceReplicate, ↓L_gdZ_tt, ↓L_gdZ_tf, ↓L_gdZ_ft, ↓L_gdZ_ff, ↓T_and, ↓T_imp, ↓T_all, Nat.reduceBEq, Nat.reduceAdd, Nat.reduceSub, Nat.reduceMul, Nat.reduceLT, Nat.reduceLeDiff, Nat.reduceEqDiff, Int.reduceLT, Int.reduceLE, Int.reduceAdd, Int.reduceSub, Int.reduceMul, Int.reduceNeg, Int.reduceToNat, Int.reduceEq, Int.reduceNe, reduceIte, reduceCtorEq, BitVec.reduceOfInt, BitVec.reduceToNat]; try simp only [top_out])
                exact dropC_ag hM hA3 (fun n h1 h2 => by omega) rfl hK
              | skip
            all_goals
              refine flip_none nx m _ no _ _ _ c 63 _ _ qb.net.row qb.net.map (find_no hno) ?_
              (refine top_in ?_; simp -implicitDefEqProofs only [go_sem, -List.reduceReplicate, ↓L_gdZ_tt, ↓L_gdZ_tf, ↓L_gdZ_ft, ↓L_gdZ_ff, ↓T_and, ↓T_imp, ↓T_all, Nat.reduceBEq, Nat.reduceAdd, Nat.reduceSub, Nat.reduceMul, Nat.reduceLT, Nat.reduceLeDiff, Nat.reduceEqDiff, Int.reduceLT, Int.reduceLE, Int.reduceAdd, Int.reduceSub, Int.reduceMul, Int.reduceNeg, Int.reduceToNat, Int.reduceEq, Int.reduceNe, reduceIte, reduceCtorEq, BitVec.reduceOfInt, BitVec.reduceToNat]; try simp only [top_out])
              refine draw_rule tabOK (by kernel_rfl : _) (.p 0 (.p 1 (.p 2 (.p 3 (.p 4 (.p 5 (.p 6 (.p 7 (.p 8 (.p 9 (.p 10 (.p 11 (.p 12 (.p 13 (.p 14 (.p 15 (.p 16 (.p 17 (.p 18 (.p 19 (.p 20 (.p 21 (.p 22 (.p 23 (.p 24 (.p 25 (.p 26 (.p 27 .nil)))))))))))))))))))))))))))) (by kernel_rfl) (by kernel_rfl) ?_
              (refine top_in ?_; simp -implicitDefEqProofs only [go_sem, -List.reduceReplicate, ↓L_gdZ_tt, ↓L_gdZ_tf, ↓L_gdZ_ft, ↓L_gdZ_ff, ↓T_and, ↓T_imp, ↓T_all, Nat.reduceBEq, Nat.reduceAdd, Nat.reduceSub, Nat.reduceMul, Nat.reduceLT, Nat.reduceLeDiff, Nat.reduceEqDiff, Int.reduceLT, Int.reduceLE, Int.reduceAdd, Int.reduceSub, Int.reduceMul, Int.reduceNeg, Int.reduceToNat, Int.reduceEq, Int.reduceNe, reduceIte, reduceCtorEq, BitVec.reduceOfInt, BitVec.reduceToNat]; try simp only [top_out])
              refine num_ok 218 _ _ ?_
              (refine top_in ?_; simp -implicitDefEqProofs only [go_sem, -List.reduceReplicate, ↓L_gdZ_tt, ↓L_gdZ_tf, ↓L_gdZ_ft, ↓L_gdZ_ff, ↓T_and, ↓T_imp, ↓T_all, Nat.reduceBEq, Nat.reduceAdd, Nat.reduceSub, Nat.reduceMul, Nat.reduceLT, Nat.reduceLeDiff, Nat.reduceEqDiff, Int.reduceLT, Int.reduceLE, Int.reduceAdd, Int.reduceSub, Int.reduceMul, Int.reduceNeg, Int.reduceToNat, Int.reduceEq, Int.reduceNe, reduceIte, reduceCtorEq, BitVec.reduceOfInt, BitVec.reduceToNat, Int.reduceBEq, Int.reduceBNe]; try simp only [top_out])
              exact ⟨n - 1, by omega, k + 1, F, Fb, c, fs, bk, hs, _, _, by omega, q.ag Ag.app, by omega, Ag.trans hA3 (Ag.app (S := fun _ => False)) (fun _ _ e => e.elim), rfl, rfl, w64 (by omega) (by omega)⟩
        by_cases hk3 : ki = 3
        · as_aux_lemma =>
            subst hk3
            obtain ⟨f, rfl⟩ := frC_open _ _ 0 hf
            clear hf
            (refine top_in ?_; simp -implicitDefEqProofs (maxSteps := 1000000) only [go_sem, -List.reduceReplicate, ↓L_gdZ_tt, ↓L_gdZ_tf, ↓L_gdZ_ft, ↓L_gdZ_ff, ↓T_and, ↓T_imp, ↓T_all, Nat.reduceBEq, Nat.reduceAdd, Nat.reduceSub, Nat.reduceMul, Nat.reduceLT, Nat.reduceLeDiff, Nat.reduceEqDiff, Int.reduceLT, Int.reduceLE, Int.reduceAdd, Int.reduceSub, Int.reduceMul, Int.reduceNeg, Int.reduceToNat, Int.reduceEq, Int.reduceNe, reduceIte, reduceCtorEq, BitVec.reduceOfInt, BitVec.reduceToNat, hrow3, e0, e1, e2, hlx, hly, hxl, hxo, hat, Int.reduceBEq, Int.reduceBNe, hno0]; try simp only [top_out])
            repeat' (with_reducible first | refine And.intro ?_ ?_ | intro)
            all_goals try omega
            all_goals first
              | exact ⟨n - 1, by omega, k + 1, F, Fb, c, fs, bk, hs, _, _, by omega, q.ag Ag.app, by omega, Ag.trans hA3 (Ag.app (S := fun _ => False)) (fun _ _ e => e.elim), rfl, rfl, w64 (by omega) (by omega)⟩
              | refine counted_ok nx m c bk.length _ _ bk hs fs M3 F Fb _ q.net q.book q.view (by omega) (by omega) (by omega) ?_
                (refine top_in ?_; simp -implicitDefEqProofs only [go_sem, -List.reduceReplicate, ↓L_gdZ_tt, ↓L_gdZ_tf, ↓L_gdZ_ft, ↓L_gdZ_ff, ↓T_and, ↓T_imp, ↓T_all, Nat.reduceBEq, Nat.reduceAdd, Nat.reduceSub, Nat.reduceMul, Nat.reduceLT, Nat.reduceLeDiff, Nat.reduceEqDiff, Int.reduceLT, Int.reduceLE, Int.reduceAdd, Int.reduceSub, Int.reduceMul, Int.reduceNeg, Int.reduceToNat, Int.reduceEq, Int.reduceNe, reduceIte, reduceCtorEq, BitVec.reduceOfInt, BitVec.reduceToNat]; try simp only [top_out])
                exact dropC_ag hM hA3 (fun n h1 h2 => by omega) rfl hK
              | skip
            all_goals
              refine leaves_no nx m c _ _ to no xx a se xd _ fs _ F _ qb.net hno hxo ?_
              (refine top_in ?_; simp -implicitDefEqProofs only [go_sem, -List.reduceReplicate, ↓L_gdZ_tt, ↓L_gdZ_tf, ↓L_gdZ_ft, ↓L_gdZ_ff, ↓T_and, ↓T_imp, ↓T_all, Nat.reduceBEq, Nat.reduceAdd, Nat.reduceSub, Nat.reduceMul, Nat.reduceLT, Nat.reduceLeDiff, Nat.reduceEqDiff, Int.reduceLT, Int.reduceLE, Int.reduceAdd, Int.reduceSub, Int.reduceMul, Int.reduceNeg, Int.reduceToNat, Int.reduceEq, Int.reduceNe, reduceIte, reduceCtorEq, BitVec.reduceOfInt, BitVec.reduceToNat]; try simp only [top_out])
              exact ⟨n - 1, by omega, k + 1, F, Fb, c, fs, bk, hs, _, _, by omega, q.ag Ag.app, by omega, Ag.trans hA3 (Ag.app (S := fun _ => False)) (fun _ _ e => e.elim), rfl, rfl, w64 (by omega) (by omega)⟩
        by_cases hk2 : ki = 2
        · as_aux_lemma =>
            subst hk2
            obtain ⟨f, rfl⟩ := frC_open _ _ 0 hf
            clear hf
            (refine top_in ?_; simp -implicitDefEqProofs (maxSteps := 1000000) only [go_sem, -List.reduceReplicate, ↓L_gdZ_tt, ↓L_gdZ_tf, ↓L_gdZ_ft, ↓L_gdZ_ff, ↓T_and, ↓T_imp, ↓T_all, Nat.reduceBEq, Nat.reduceAdd, Nat.reduceSub, Nat.reduceMul, Nat.reduceLT, Nat.reduceLeDiff, Nat.reduceEqDiff, Int.reduceLT, Int.reduceLE, Int.reduceAdd, Int.reduceSub, Int.reduceMul, Int.reduceNeg, Int.reduceToNat, Int.reduceEq, Int.reduceNe, reduceIte, reduceCtorEq, BitVec.reduceOfInt, BitVec.reduceToNat, hrow3, e0, e1, e2, hlx, hly, hxl, hxo, hat, Int.reduceBEq, Int.reduceBNe, hno0]; try simp only [top_out])
            repeat' (with_reducible first | refine And.intro ?_ ?_ | intro)
            all_goals try omega
            all_goals first
              | exact ⟨n - 1, by omega, k + 1, F, Fb, c, fs, bk, hs, _, _, by omega, q.ag Ag.app, by omega, Ag.trans hA3 (Ag.app (S := fun _ => False)) (fun _ _ e => e.elim), rfl, rfl, w64 (by omega) (by omega)⟩
              | refine counted_ok nx m c bk.length _ _ bk hs fs M3 F Fb _ q.net q.book q.view (by omega) (by omega) (by omega) ?_
                (refine top_in ?_; simp -implicitDefEqProofs only [go_sem, -List.reduceReplicate, ↓L_gdZ_tt, ↓L_gdZ_tf, ↓L_gdZ_ft, ↓L_gdZ_ff, ↓T_and, ↓T_imp, ↓T_all, Nat.reduceBEq, Nat.reduceAdd, Nat.reduceSub, Nat.reduceMul, Nat.reduceLT, Nat.reduceLeDiff, Nat.reduceEqDiff, Int.reduceLT, Int.reduceLE, Int.reduceAdd, Int.reduceSub, Int.reduceMul, Int.reduceNeg, Int.reduceToNat, Int.reduceEq, Int.reduceNe, reduceIte, reduceCtorEq, BitVec.reduceOfInt, BitVec.reduceToNat]; try simp only [top_out])
                exact dropC_ag hM hA3 (fun n h1 h2 => by omega) rfl hK
              | skip
            all_goals
              refine leaves_no nx m c _ _ to no xx a se xd _ fs _ F _ qb.net hno hxo ?_
              (refine top_in ?_; simp -implicitDefEqProofs only [go_sem, -List.reduceReplicate, ↓L_gdZ_tt, ↓L_gdZ_tf, ↓L_gdZ_ft, ↓L_gdZ_ff, ↓T_and, ↓T_imp, ↓T_all, Nat.reduceBEq, Nat.reduceAdd, Nat.reduceSub, Nat.reduceMul, Nat.reduceLT, Nat.reduceLeDiff, Nat.reduceEqDiff, Int.reduceLT, Int.reduceLE, Int.reduceAdd, Int.reduceSub, Int.reduceMul, Int.reduceNeg, Int.reduceToNat, Int.reduceEq, Int.reduceNe, reduceIte, reduceCtorEq, BitVec.reduceOfInt, BitVec.reduceToNat]; try simp only [top_out])
              exact ⟨n - 1, by omega, k + 1, F, Fb, c, fs, bk, hs, _, _, by omega, q.ag Ag.app, by omega, Ag.trans hA3 (Ag.app (S := fun _ => False)) (fun _ _ e => e.elim), rfl, rfl, w64 (by omega) (by omega)⟩
        · as_aux_lemma =>
            have n1 : (ki == 1) = false := by simpa using hk1
            have n4 : (ki == 4) = false := by simpa using hk4
            have n5 : (ki == 5) = false := by simpa using hk5
            have n3 : (ki == 3) = false := by simpa using hk3
            have n2 : (ki == 2) = false := by simpa using hk2
            obtain ⟨f, rfl⟩ := frC_open _ _ 0 hf
            clear hf
            (refine top_in ?_; simp -implicitDefEqProofs (maxSteps := 1000000) only [go_sem, -List.reduceReplicate, ↓L_gdZ_tt, ↓L_gdZ_tf, ↓L_gdZ_ft, ↓L_gdZ_ff, ↓T_and, ↓T_imp, ↓T_all, Nat.reduceBEq, Nat.reduceAdd, Nat.reduceSub, Nat.reduceMul, Nat.reduceLT, Nat.reduceLeDiff, Nat.reduceEqDiff, Int.reduceLT, Int.reduceLE, Int.reduceAdd, Int.reduceSub, Int.reduceMul, Int.reduceNeg, Int.reduceToNat, Int.reduceEq, Int.reduceNe, reduceIte, reduceCtorEq, BitVec.reduceOfInt, BitVec.reduceToNat, hrow3, e0, e1, e2, hlx, hly, hxl, hxo, hat, Int.reduceBEq, Int.reduceBNe, n1, n4, n5, n3, n2, hno0]; try simp only [top_out])
            repeat' (with_reducible first | refine And.intro ?_ ?_ | intro)
            all_goals try omega
            all_goals first
              | exact ⟨n - 1, by omega, k + 1, F, Fb, c, fs, bk, hs, _, _, by omega, q.ag Ag.app, by omega, Ag.trans hA3 (Ag.app (S := fun _ => False)) (fun _ _ e => e.elim), rfl, rfl, w64 (by omega) (by omega)⟩
              | refine counted_ok nx m c bk.length _ _ bk hs fs M3 F Fb _ q.net q.book q.view (by omega) (by omega) (by omega) ?_
                (refine top_in ?_; simp -implicitDefEqProofs only [go_sem, -List.reduceReplicate, ↓L_gdZ_tt, ↓L_gdZ_tf, ↓L_gdZ_ft, ↓L_gdZ_ff, ↓T_and, ↓T_imp, ↓T_all, Nat.reduceBEq, Nat.reduceAdd, Nat.reduceSub, Nat.reduceMul, Nat.reduceLT, Nat.reduceLeDiff, Nat.reduceEqDiff, Int.reduceLT, Int.reduceLE, Int.reduceAdd, Int.reduceSub, Int.reduceMul, Int.reduceNeg, Int.reduceToNat, Int.reduceEq, Int.reduceNe, reduceIte, reduceCtorEq, BitVec.reduceOfInt, BitVec.reduceToNat]; try simp only [top_out])
                exact dropC_ag hM hA3 (fun n h1 h2 => by omega) rfl hK
              | skip
  · obtain ⟨f, rfl⟩ := frC_open _ _ 0 hf
    clear hf
    (refine top_in ?_; simp -implicitDefEqProofs only [go_sem, -List.reduceReplicate, ↓L_gdZ_tt, ↓L_gdZ_tf, ↓L_gdZ_ft, ↓L_gdZ_ff, ↓T_and, ↓T_imp, ↓T_all, Nat.reduceBEq, Nat.reduceAdd, Nat.reduceSub, Nat.reduceMul, Nat.reduceLT, Nat.reduceLeDiff, Nat.reduceEqDiff, Int.reduceLT, Int.reduceLE, Int.reduceAdd, Int.reduceSub, Int.reduceMul, Int.reduceNeg, Int.reduceToNat, Int.reduceEq, Int.reduceNe, reduceIte, reduceCtorEq, BitVec.reduceOfInt, BitVec.reduceToNat, hrow3]; try simp only [top_out])
    refine ⟨fun h => absurd h (by omega), fun _ => ?_⟩
    refine counted_ok nx m c bk.length _ _ bk hs fs M3 F Fb _ q.net q.book q.view (by omega) (by omega) (by omega) ?_
    (refine top_in ?_; simp -implicitDefEqProofs only [go_sem, -List.reduceReplicate, ↓L_gdZ_tt, ↓L_gdZ_tf, ↓L_gdZ_ft, ↓L_gdZ_ff, ↓T_and, ↓T_imp, ↓T_all, Nat.reduceBEq, Nat.reduceAdd, Nat.reduceSub, Nat.reduceMul, Nat.reduceLT, Nat.reduceLeDiff, Nat.reduceEqDiff, Int.reduceLT, Int.reduceLE, Int.reduceAdd, Int.reduceSub, Int.reduceMul, Int.reduceNeg, Int.reduceToNat, Int.reduceEq, Int.reduceNe, reduceIte, reduceCtorEq, BitVec.reduceOfInt, BitVec.reduceToNat]; try simp only [top_out])
    exact dropC_ag hM hA3 (fun n h1 h2 => by omega) rfl hK
end Go.Proofs.Ytccnffjjahdneaa.Eng
