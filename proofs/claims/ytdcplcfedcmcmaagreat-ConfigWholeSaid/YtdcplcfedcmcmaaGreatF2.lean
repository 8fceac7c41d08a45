/- The laws' judge: the program's against the document's. -/
import Derived.Test.YtdcplcfedcmcmaaGreatF1
import Derived.Test.YtdcplcfedcmcmaaGreatD4
namespace Go.Proofs.YtdcplcfedcmcmaaGreat.Eng
open Go Go.RowKit
set_option linter.unusedSimpArgs false
set_option linter.unusedVariables false

/-- what judging comes to: peers, lanes, where, which fault -/
def St.out (s : St) (cs : List Ch) : List Pr × List Ln × Int × Int :=
  match s.judge cs with
  | .inl s' => (s'.ps, s'.ls, 0, 0)
  | .inr (i, e) => ([], [], i, e)
theorem judgeO_ok (G G' G2 : Nat → Prop) (xp xl xc : SV) (s : St) (cs : List Ch) (M : List Blk) (K : SV → List Blk → Prop) (hP : Prs M G xp s.ps) (hL : Lns M G' xl s.ls) (hC : Chs M G2 xc cs) (hs : s.Right)
    (hK : ∀ M' y z, Prs M' (fun n => M.length ≤ n) y (s.out cs).1 → Lns M' (fun n => M.length ≤ n) z (s.out cs).2.1 → Ag (fun _ => False) M M' → K (.tup [y, z, .i .i64 (s.out cs).2.2.1, .i .i64 (s.out cs).2.2.2]) M') :
    callVC Tryz.prog 15 [xp, xl, xc] M K := by
  unfold St.out at hK
  refine judge_ok G G' G2 xp xl xc s cs M K hP hL hC hs (fun M1 i e h A1 => ?_) (fun M1 y z s1 h P1 L1 A1 => ?_)
  · rw [h] at hK; exact hK M1 .sn .sn Prs.sn Lns.sn A1
  · rw [h] at hK; exact hK M1 y z P1 L1 A1
theorem rjudgeO_ok (G G' G2 : Nat → Prop) (xp xl xc : SV) (s : St) (cs : List Ch) (M : List Blk) (K : SV → List Blk → Prop) (hP : Prs M G xp s.ps) (hL : Lns M G' xl s.ls) (hC : Chs M G2 xc cs) (hs : s.Right)
    (hK : ∀ M' y z, Prs M' (fun n => M.length ≤ n) y (s.out cs).1 → Lns M' (fun n => M.length ≤ n) z (s.out cs).2.1 → Ag (fun _ => False) M M' → K (.tup [y, z, .i .i64 (s.out cs).2.2.1, .i .i64 (s.out cs).2.2.2]) M') :
    callVC Tryz.prog 21 [xp, xl, xc] M K := by
  unfold St.out at hK
  refine rjudge_ok G G' G2 xp xl xc s cs M K hP hL hC hs (fun M1 i e h A1 => ?_) (fun M1 y z s1 h P1 L1 A1 => ?_)
  · rw [h] at hK; exact hK M1 .sn .sn Prs.sn Lns.sn A1
  · rw [h] at hK; exact hK M1 y z P1 L1 A1
set_option maxHeartbeats 1000000 in
theorem asked_ok (G G' G2 : Nat → Prop) (xp xl xc : SV) (s : St) (cs : List Ch) (M : List Blk) (K : SV → List Blk → Prop) (hP : Prs M G xp s.ps) (hL : Lns M G' xl s.ls) (hC : Chs M G2 xc cs) (hs : s.Right)
    (hK : ∀ M', Ag (fun _ => False) M M' → K (.b true) M') : callVC Tryz.prog 13 [.agg [xp, xl], xc] M K := by
  have o1 := hP.one
  have o2 := hL.one
  refine fn_rule tabOK Tryz.func13 rfl Tryz.call13 (by kernel_rfl) (fun hM => ?_)
  (refine top_in ?_; simp -implicitDefEqProofs only [Tryz.ntmps13, Tryz.results13, go_sem, -List.reduceReplicate, ↓L_gdZ_tt, ↓L_gdZ_tf, ↓L_gdZ_ft, ↓L_gdZ_ff, ↓T_and, ↓T_imp, ↓T_all, o1, o2]; try simp only [top_out])
  refine judgeO_ok _ _ _ xp xl xc s cs _ _ hP.app hL.app hC.app hs (fun M1 y z P1 L1 A1 => ?_)
  have c0 := A1.at0 noS rfl
  have hA1 : Ag (fun _ => False) M M1 := Ag.app.then A1
  have o3 := P1.one
  have o4 := L1.one
  (refine top_in ?_; simp -implicitDefEqProofs only [go_sem, -List.reduceReplicate, ↓L_gdZ_tt, ↓L_gdZ_tf, ↓L_gdZ_ft, ↓L_gdZ_ff, ↓T_and, ↓T_imp, ↓T_all, c0, o1, o2, o3, o4]; try simp only [top_out])
  refine rjudgeO_ok _ _ _ xp xl xc s cs _ _ (hP.ag hA1 (fun _ _ _ e => e)) (hL.ag hA1 (fun _ _ _ e => e)) (hC.ag hA1 (fun _ _ _ e => e)) hs (fun M2 y2 z2 P2 L2 A2 => ?_)
  have o5 := P2.one
  have o6 := L2.one
  have hA2 := hA1.then A2
  (refine top_in ?_; simp -implicitDefEqProofs only [go_sem, -List.reduceReplicate, ↓L_gdZ_tt, ↓L_gdZ_tf, ↓L_gdZ_ft, ↓L_gdZ_ff, ↓T_and, ↓T_imp, ↓T_all, o3, o4, o5, o6]; try simp only [top_out])
  refine samePeers_ok _ _ _ _ _ _ _ _ (P1.ag A2 (fun _ _ _ e => e)) P2 ?_
  have e1 : ∀ l : List Pr, decide (l = l) = true := fun l => decide_eq_true rfl
  have e2 : ∀ l : List Ln, decide (l = l) = true := fun l => decide_eq_true rfl
  have e3 : ∀ l : Int, (l == l) = true := fun l => beq_self_eq_true l
  rw [e1]
  (refine top_in ?_; simp -implicitDefEqProofs only [go_sem, -List.reduceReplicate, ↓L_gdZ_tt, ↓L_gdZ_tf, ↓L_gdZ_ft, ↓L_gdZ_ff, ↓T_and, ↓T_imp, ↓T_all, o3, o4, o5, o6]; try simp only [top_out])
  refine sameLanes_ok _ _ _ _ _ _ _ _ (L1.ag A2 (fun _ _ _ e => e)) L2 ?_
  rw [e2]
  (refine top_in ?_; simp -implicitDefEqProofs only [go_sem, -List.reduceReplicate, ↓L_gdZ_tt, ↓L_gdZ_tf, ↓L_gdZ_ft, ↓L_gdZ_ff, ↓T_and, ↓T_imp, ↓T_all, e3]; try simp only [top_out])
  refine num_ok _ _ _ ?_
  (refine top_in ?_; simp -implicitDefEqProofs only [go_sem, -List.reduceReplicate, ↓L_gdZ_tt, ↓L_gdZ_tf, ↓L_gdZ_ft, ↓L_gdZ_ff, ↓T_and, ↓T_imp, ↓T_all, e3]; try simp only [top_out])
  exact dropC_all hA2.1 (hK _ hA2)
theorem St.run_err {l : List Ch} : ∀ {s : St} {i j : Nat} {e : Int}, s.run i l = .inr (j, e) → e ≠ 0 := by
  induction l with
  | nil => intro s i j e h; cases h
  | cons c l ih =>
    intro s i j e h
    simp only [St.run] at h
    split at h
    · exact ih h
    · rename_i hne
      cases h; exact hne
theorem St.judge_err {s : St} {l : List Ch} {j : Nat} {e : Int} (h : s.judge l = .inr (j, e)) : e ≠ 0 := by
  unfold St.judge at h
  split at h
  · cases h; decide
  · exact St.run_err h
theorem St.run_right {l : List Ch} : ∀ {s s' : St} {i : Nat}, s.Right → s.run i l = .inl s' → s'.Right := by
  induction l with
  | nil => intro s s' i hs h; cases h; exact hs
  | cons c l ih =>
    intro s s' i hs h
    simp only [St.run] at h
    split at h
    · rename_i h0
      exact ih (done_right hs h0) h
    · cases h
theorem St.judge_right {s s' : St} {l : List Ch} (hs : s.Right) (h : s.judge l = .inl s') : s'.Right := by
  unfold St.judge at h
  split at h
  · cases h
  · exact St.run_right hs h
set_option maxHeartbeats 1000000 in
/-- the laws' judge: a configuration again, and the answers are the same -/
theorem ljudge_ok (G G' G2 : Nat → Prop) (xp xl xc : SV) (s : St) (cs : List Ch) (M : List Blk) (K : SV → List Blk → Prop) (hP : Prs M G xp s.ps) (hL : Lns M G' xl s.ls) (hC : Chs M G2 xc cs) (hs : s.Right) (hcs : cs.length ≤ 100000)
    (hK : ∀ M' y z (s' : St), s'.Right → Prs M' (fun n => G n ∨ M.length ≤ n) y s'.ps → Lns M' (fun n => G' n ∨ M.length ≤ n) z s'.ls → Ag (fun _ => False) M M' → K (.tup [.agg [y, z], .b true]) M') : callVC Tryz.prog 8 [.agg [xp, xl], xc] M K := by
  have o1 := hP.one
  have o2 := hL.one
  have hnp := hs.np
  have hnl := hs.nl
  refine fn_rule tabOK Tryz.func8 rfl Tryz.call8 (by kernel_rfl) (fun hM => ?_)
  (refine top_in ?_; simp -implicitDefEqProofs only [Tryz.ntmps8, Tryz.results8, go_sem, -List.reduceReplicate, ↓L_gdZ_tt, ↓L_gdZ_tf, ↓L_gdZ_ft, ↓L_gdZ_ff, ↓T_and, ↓T_imp, ↓T_all, o1, o2]; try simp only [top_out])
  refine draw_rule tabOK (by kernel_rfl : _) (.p 0 (.p 1 (.p 3 (.p 4 (.p 6 (.e 2 [3, 4] (.e 5 [] (.e 7 [] (.e 8 [] (.p 9 (.p 10 (.p 11 (.p 12 (.p 13 (.p 14 (.p 15 (.p 16 (.p 17 .nil))))))))) .no) .no) .no) .no)))))) (by kernel_rfl) (by kernel_rfl) ?_
  (refine top_in ?_; simp -implicitDefEqProofs only [go_sem, -List.reduceReplicate, ↓L_gdZ_tt, ↓L_gdZ_tf, ↓L_gdZ_ft, ↓L_gdZ_ff, ↓T_and, ↓T_imp, ↓T_all, o1, o2]; try simp only [top_out])
  refine peers_ok _ xp s.ps _ _ hP.app (by omega) (fun p hp => by have := (hs.peer p hp).many; omega) (fun M1 y1 P1 A1 => ?_)
  have c0 := A1.at0 noS rfl
  have c1 := A1.atk (k := 1) noS rfl
  have hA1 : Ag (fun _ => False) M M1 := Ag.app.then A1
  have o3 := P1.one
  (refine top_in ?_; simp -implicitDefEqProofs only [go_sem, -List.reduceReplicate, ↓L_gdZ_tt, ↓L_gdZ_tf, ↓L_gdZ_ft, ↓L_gdZ_ff, ↓T_and, ↓T_imp, ↓T_all, c0, c1, o1, o2, o3]; try simp only [top_out])
  refine lanes_ok _ xl s.ls _ _ (hL.ag hA1 (fun _ _ _ e => e)) (by omega) (fun M2 z1 L1 A2 => ?_)
  have d0 := A2.get c0 (fun e => e)
  have d1 := A2.get c1 (fun e => e)
  have hA2 := hA1.then A2
  have o4 := L1.one
  (refine top_in ?_; simp -implicitDefEqProofs only [go_sem, -List.reduceReplicate, ↓L_gdZ_tt, ↓L_gdZ_tf, ↓L_gdZ_ft, ↓L_gdZ_ff, ↓T_and, ↓T_imp, ↓T_all, d0, d1, o1, o2, o3, o4]; try simp only [top_out])
  refine changes_ok _ xc cs _ _ (hC.ag hA2 (fun _ _ _ e => e)) hcs (fun M3 x1 C1 A3 => ?_)
  have e0 := A3.get d0 (fun e => e)
  have e1 := A3.get d1 (fun e => e)
  have hA3 := hA2.then A3
  have o5 := C1.chs.one
  (refine top_in ?_; simp -implicitDefEqProofs only [go_sem, -List.reduceReplicate, ↓L_gdZ_tt, ↓L_gdZ_tf, ↓L_gdZ_ft, ↓L_gdZ_ff, ↓T_and, ↓T_imp, ↓T_all, e0, e1, o1, o2, o3, o4, o5]; try simp only [top_out])
  refine judgeO_ok _ _ _ y1 z1 x1 s cs _ _ ((P1.prs.ag A2 (fun _ _ _ e => e)).ag A3 (fun _ _ _ e => e)) (L1.lns.ag A3 (fun _ _ _ e => e)) C1.chs hs (fun M4 y z P4 L4 A4 => ?_)
  have f0 := A4.get e0 (fun e => e)
  have f1 := A4.get e1 (fun e => e)
  have hA4 := hA3.then A4
  have o6 := P4.one
  have o7 := L4.one
  (refine top_in ?_; simp -implicitDefEqProofs only [go_sem, -List.reduceReplicate, ↓L_gdZ_tt, ↓L_gdZ_tf, ↓L_gdZ_ft, ↓L_gdZ_ff, ↓T_and, ↓T_imp, ↓T_all, f0, f1, o1, o2, o6, o7]; try simp only [top_out])
  refine rjudgeO_ok _ _ _ xp xl xc s cs _ _ (hP.ag hA4 (fun _ _ _ e => e)) (hL.ag hA4 (fun _ _ _ e => e)) (hC.ag hA4 (fun _ _ _ e => e)) hs (fun M5 y5 z5 P5 L5 A5 => ?_)
  have g0 := A5.get f0 (fun e => e)
  have g1 := A5.get f1 (fun e => e)
  have hA5 := hA4.then A5
  have o8 := P5.one
  have o9 := L5.one
  have hw0 := kw g0
  have hw1 := kw g1
  have q1 : ∀ l : List Pr, decide (l = l) = true := fun l => decide_eq_true rfl
  have q2 : ∀ l : List Ln, decide (l = l) = true := fun l => decide_eq_true rfl
  have q3 : ∀ l : Int, (l == l) = true := fun l => beq_self_eq_true l
  (refine top_in ?_; simp -implicitDefEqProofs only [go_sem, -List.reduceReplicate, ↓L_gdZ_tt, ↓L_gdZ_tf, ↓L_gdZ_ft, ↓L_gdZ_ff, ↓T_and, ↓T_imp, ↓T_all, g0, g1, o1, o2, o6, o7, o8, o9]; try simp only [top_out])
  refine samePeers_ok _ _ _ _ _ _ _ _ (P4.ag A5 (fun _ _ _ e => e)) P5 ?_
  rw [q1]
  (refine top_in ?_; simp -implicitDefEqProofs only [go_sem, -List.reduceReplicate, ↓L_gdZ_tt, ↓L_gdZ_tf, ↓L_gdZ_ft, ↓L_gdZ_ff, ↓T_and, ↓T_imp, ↓T_all, g0, g1, o6, o7, o8, o9]; try simp only [top_out])
  refine sameLanes_ok _ _ _ _ _ _ _ _ (L4.ag A5 (fun _ _ _ e => e)) L5 ?_
  rw [q2]
  (refine top_in ?_; simp -implicitDefEqProofs only [go_sem, -List.reduceReplicate, ↓L_gdZ_tt, ↓L_gdZ_tf, ↓L_gdZ_ft, ↓L_gdZ_ff, ↓T_and, ↓T_imp, ↓T_all, q3, g0, g1, o1, o2, o8, o9, cellsS_one o8, cellsS_one o9]; try simp only [top_out])
  have hs2 : ∀ B B' : Blk, Ag (fun _ => False) M ((M5.set M.length B).set (M.length + 1) B') := fun B B' => ((hA5.mono (fun _ e => e.elim)).then ((Ag.set (S := fun n => n = M.length ∨ n = M.length + 1) (.inl rfl)).then (Ag.set (.inr rfl)))).mono_lt (fun n h1 h2 => by omega)
  have hs1 : ∀ B' : Blk, Ag (fun _ => False) M (M5.set (M.length + 1) B') := fun B' => ((hA5.mono (fun _ e => e.elim)).then (Ag.set (S := fun n => n = M.length + 1) rfl)).mono_lt (fun n h1 h2 => by omega)
  have hi2 : ∀ B B' : Blk, Ag (fun n => n = M.length ∨ n = M.length + 1) M5 ((M5.set M.length B).set (M.length + 1) B') := fun B B' => (Ag.set (S := fun n => n = M.length ∨ n = M.length + 1) (.inl rfl)).then (Ag.set (.inr rfl))
  have m4 := hA4.1
  have hw4 := kw f1
  refine ⟨fun h => ?_, fun h => ?_⟩
  · refine draw_rule tabOK (by kernel_rfl : _) (.p 0 (.p 1 (.p 2 (.p 3 (.p 4 (.p 5 (.p 6 (.p 7 (.p 8 (.p 9 (.p 10 (.p 11 (.p 13 (.e 12 [0] (.p 14 (.p 15 (.e 16 [] (.p 17 .nil) .no))) .no)))))))))))))) (by kernel_rfl) (by kernel_rfl) ?_
    (refine top_in ?_; simp -implicitDefEqProofs only [go_sem, -List.reduceReplicate, ↓L_gdZ_tt, ↓L_gdZ_tf, ↓L_gdZ_ft, ↓L_gdZ_ff, ↓T_and, ↓T_imp, ↓T_all, q3, g0, g1, o1, o2, o8, o9, cellsS_one o8, cellsS_one o9, gss0 hw0]; try simp only [top_out])
    refine num_ok _ _ _ ?_
    (refine top_in ?_; simp -implicitDefEqProofs only [go_sem, -List.reduceReplicate, ↓L_gdZ_tt, ↓L_gdZ_tf, ↓L_gdZ_ft, ↓L_gdZ_ff, ↓T_and, ↓T_imp, ↓T_all, q3, g0, g1, o1, o2, o8, o9, cellsS_one o8, cellsS_one o9, gss0 hw0, gss hw1]; try simp only [top_out])
    have hin : ∃ s', s.judge cs = .inl s' := by
      cases hjj : s.judge cs with
      | inl s' => exact ⟨s', rfl⟩
      | inr q =>
        obtain ⟨i, e⟩ := q
        have := St.judge_err hjj
        have h2 := beqT h
        unfold St.out at h2
        rw [hjj] at h2
        exact absurd h2 this
    obtain ⟨s', hs'⟩ := hin
    have hout : s.out cs = (s'.ps, s'.ls, 0, 0) := by unfold St.out; rw [hs']
    rw [hout] at P5 L5
    refine dropC_all (hs2 _ _).1 (hK _ y5 z5 s' (St.judge_right hs hs') ((P5.ag (hi2 _ _) (fun n h1 h2 h3 => by omega)).mono (fun n h => .inr (by omega))) ((L5.ag (hi2 _ _) (fun n h1 h2 h3 => by omega)).mono (fun n h => .inr (by omega))) (hs2 _ _))
  · refine draw_rule tabOK (by kernel_rfl : _) (.p 0 (.p 1 (.p 2 (.p 3 (.p 4 (.p 5 (.p 6 (.p 7 (.p 8 (.p 9 (.p 10 (.p 11 (.p 13 (.e 12 [0] (.p 14 (.p 15 (.e 16 [] (.p 17 .nil) .no))) .no)))))))))))))) (by kernel_rfl) (by kernel_rfl) ?_
    (refine top_in ?_; simp -implicitDefEqProofs only [go_sem, -List.reduceReplicate, ↓L_gdZ_tt, ↓L_gdZ_tf, ↓L_gdZ_ft, ↓L_gdZ_ff, ↓T_and, ↓T_imp, ↓T_all, q3, g0, g1, o1, o2, o8, o9, cellsS_one o8, cellsS_one o9]; try simp only [top_out])
    refine num_ok _ _ _ ?_
    (refine top_in ?_; simp -implicitDefEqProofs only [go_sem, -List.reduceReplicate, ↓L_gdZ_tt, ↓L_gdZ_tf, ↓L_gdZ_ft, ↓L_gdZ_ff, ↓T_and, ↓T_imp, ↓T_all, q3, g0, g1, o1, o2, o8, o9, cellsS_one o8, cellsS_one o9, cellsS_one o1, cellsS_one o2, gss0 hw1]; try simp only [top_out])
    exact dropC_all (hs1 _).1 (hK _ xp xl s hs ((hP.ag (hs1 _) (fun _ _ _ e => e)).mono (fun n h => .inl h)) ((hL.ag (hs1 _) (fun _ _ _ e => e)).mono (fun n h => .inl h)) (hs1 _))
end Go.Proofs.YtdcplcfedcmcmaaGreat.Eng
