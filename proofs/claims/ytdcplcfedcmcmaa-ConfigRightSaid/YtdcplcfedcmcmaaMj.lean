/- Joined texts: F1, F2, F6, F0. -/
import Derived.Test.YtdcplcfedcmcmaaMg
import Derived.Test.YtdcplcfedcmcmaaMc
import Derived.Test.YtdcplcfedcmcmaaF5
import Derived.Test.YtdcplcfedcmcmaaMh
/- The laws' own small functions. -/
namespace Go.Proofs.Ytdcplcfedcmcmaa.Eng
open Go Go.RowKit
set_option linter.unusedSimpArgs false
set_option linter.unusedVariables false

theorem num_ok (a : Int) (M : List Blk) (K : SV → List Blk → Prop) (hK : K (.i .i64 a) M) : callVC Try.prog 8 [.i .i64 a] M K := by
  refine fn_rule tabOK Try.func8 rfl Try.call8 (by kernel_rfl) (fun hM => ?_)
  (refine top_in ?_; simp -implicitDefEqProofs only [Try.ntmps8, Try.results8, go_sem, -List.reduceReplicate, ↓L_gdZ_tt, ↓L_gdZ_tf, ↓L_gdZ_ft, ↓L_gdZ_ff, ↓T_and, ↓T_imp, ↓T_all]; try simp only [top_out])
  exact dropC_self hM rfl hK
theorem key_ok (b : BitVec 8) (M : List Blk) (K : SV → List Blk → Prop) (hK : ∀ M' y, Byt M' y (List.replicate 32 b) → NmG (fun n => M.length ≤ n) y → Ag (fun _ => False) M M' → K y M') :
    callVC Try.prog 11 [.u8 b] M K := by
  refine fn_rule tabOK Try.func11 rfl Try.call11 (by kernel_rfl) (fun hM => ?_)
  (refine top_in ?_; simp -implicitDefEqProofs only [Try.ntmps11, Try.results11, go_sem, -List.reduceReplicate, ↓L_gdZ_tt, ↓L_gdZ_tf, ↓L_gdZ_ft, ↓L_gdZ_ff, ↓T_and, ↓T_imp, ↓T_all]; try simp only [top_out])
  refine loop_code tabOK (by kernel_rfl) (fun m ts M' => ∃ (k : Nat) (s : SV), k + m = 32 ∧ Ag (fun _ => False) M M' ∧ ((s = .sn ∧ k = 0) ∨ ∃ n z ty, s = .sl n 0 k (k + z.length) ∧ M'[n]? = some (.row (bS (List.replicate k b ++ z)) ty) ∧ M.length ≤ n) ∧ frC [some (.u8 b), none, none, some (s), some (.i .i64 k), none, none, none, none, none, none, none, none, none] ts) 32 ?_ ?_
  · exact ⟨0, .sn, by omega, Ag.refl, .inl ⟨rfl, rfl⟩, by simp [frC]⟩
  · rintro m ts M1 ⟨k, s, hk, hA, hs, hf⟩
    have hm := hA.1
    obtain ⟨f, rfl⟩ := frC_open _ _ 0 hf
    clear hf
    (refine top_in ?_; simp -implicitDefEqProofs only [go_sem, -List.reduceReplicate, ↓L_gdZ_tt, ↓L_gdZ_tf, ↓L_gdZ_ft, ↓L_gdZ_ff, ↓T_and, ↓T_imp, ↓T_all]; try simp only [top_out])
    refine ⟨fun h1 => ?_, fun h1 => ?_⟩
    · refine ⟨by decide, ?_⟩
      rcases hs with ⟨rfl, rfl⟩ | ⟨n, z, ty, rfl, hr, hn⟩
      · refine app8n [b] rfl rfl rfl (src_u8 (by rw [get_app0]; rfl)) (by simp) (fun z' ty' => ?_)
        (refine top_in ?_; simp -implicitDefEqProofs only [go_sem, -List.reduceReplicate, ↓L_gdZ_tt, ↓L_gdZ_tf, ↓L_gdZ_ft, ↓L_gdZ_ff, ↓T_and, ↓T_imp, ↓T_all]; try simp only [top_out])
        exact ⟨m - 1, by omega, 1, .sl (M1.length + 1) 0 1 (1 + z'.length), by omega, Ag.trans hA Ag.app (fun _ _ e => e), .inr ⟨M1.length + 1, z', ty', rfl, by rw [get_app]; rfl, by omega⟩, rfl, w64 (by omega) (by omega)⟩
      · have hl2 := kw hr
        refine app8 n (List.replicate k b) z [b] ty rfl rfl rfl (by rw [get_lt hl2]; exact hr) (by simp) (by simp) (src_u8 (by rw [get_app0]; rfl)) (by simp; omega) (fun z' ty' => ?_)
        (refine top_in ?_; simp -implicitDefEqProofs only [go_sem, -List.reduceReplicate, ↓L_gdZ_tt, ↓L_gdZ_tf, ↓L_gdZ_ft, ↓L_gdZ_ff, ↓T_and, ↓T_imp, ↓T_all]; try simp only [top_out])
        refine ⟨m - 1, by omega, k + 1, .sl (M1.length + 1) 0 (k + 1) (k + 1 + z'.length), by omega, ?_, .inr ⟨M1.length + 1, z', ty', rfl, ?_, by omega⟩, by rw [Nat.add_assoc], w64 (by omega) (by omega)⟩
        · exact Ag.trans hA (S' := fun q => q = n) (Ag.trans (S' := fun q => q = n) (Ag.app (S := fun q => q = n)) (Ag.trans (S' := fun _ => False) (Ag.set rfl) Ag.app (fun _ _ e => e.elim)) (fun _ _ e => e)) (fun q h1 h2 => by omega)
        · rw [get_last (by simp), List.replicate_succ']; simp [bS]
    · obtain rfl : k = 32 := by omega
      rcases hs with ⟨rfl, h0⟩ | ⟨n, z, ty, rfl, hr, hn⟩
      · omega
      · exact dropC_all hm (hK M1 _ (Byt.row (l := List.replicate 32 b) hr (by simp)) (fun d e => by cases e; exact hn) hA)
/-- the first law: three changes -/
def firstC (k : List (BitVec 8)) : List Ch := [⟨1, 7, 0, k, Pfx.none⟩, ⟨2, 7, 0, [], Pfx.none⟩, ⟨1, 9, 0, k, Pfx.none⟩]
theorem first_judge (k : List (BitVec 8)) (hk : k.length = 32) : (St.mk [] []).judge (firstC k) = .inl ⟨[⟨9, k, []⟩], [⟨k, 0, 2, 0, 0#64, 0#64, 0, 0⟩]⟩ := by
  have h3 : k.length = 32 := hk
  simp [St.judge, firstC, St.run, St.fault, Ch.spare, Ch.keyed, Ch.pre, St.givenF, St.keyedF, St.lane, St.owner, St.peer, St.done, St.give, insAt, Pfx.none, hk, Ln.lifted]
  rfl
theorem right_nil : (St.mk [] []).Right := ⟨by simp, by simp, by simp, .nil, by simp, .nil, .nil, .nil, by simp⟩
theorem Prs.sn {M : List Blk} {G : Nat → Prop} : Prs M G .sn [] := ⟨[], rfl, Lst.sn, NmG.sn, by simp⟩
theorem Lns.sn {M : List Blk} {G : Nat → Prop} : Lns M G .sn [] := ⟨[], rfl, Lst.sn, NmG.sn, by simp⟩
theorem first_ok (M : List Blk) (K : SV → List Blk → Prop) (hK : ∀ M', Ag (fun _ => False) M M' → K (.b true) M') : callVC Try.prog 5 [] M K := by
  refine fn_rule tabOK Try.func5 rfl Try.call5 (by kernel_rfl) (fun hM => ?_)
  (refine top_in ?_; simp -implicitDefEqProofs only [Try.ntmps5, Try.results5, go_sem, -List.reduceReplicate, ↓L_gdZ_tt, ↓L_gdZ_tf, ↓L_gdZ_ft, ↓L_gdZ_ff, ↓T_and, ↓T_imp, ↓T_all]; try simp only [top_out])
  refine key_ok 1#8 _ _ (fun M1 y b1 n1 A1 => ?_)
  have o1 := b1.one
  (refine top_in ?_; simp -implicitDefEqProofs only [go_sem, -List.reduceReplicate, ↓L_gdZ_tt, ↓L_gdZ_tf, ↓L_gdZ_ft, ↓L_gdZ_ff, ↓T_and, ↓T_imp, ↓T_all, o1, cellsS_one o1]; try simp only [top_out])
  refine key_ok 1#8 _ _ (fun M2 y2 b2 n2 A2 => ?_)
  have o2 := b2.one
  (refine top_in ?_; simp -implicitDefEqProofs only [go_sem, -List.reduceReplicate, ↓L_gdZ_tt, ↓L_gdZ_tf, ↓L_gdZ_ft, ↓L_gdZ_ff, ↓T_and, ↓T_imp, ↓T_all, o1, o2, cellsS_one o1, cellsS_one o2]; try simp only [top_out])
  refine ⟨by decide, ?_⟩
  have hj := first_judge (List.replicate 32 1#8) (by simp)
  have hC : ∀ {L : List Blk} {t : TypeId}, L[0]? = some (.row ([((⟨1, 7, 0, List.replicate 32 1#8, Pfx.none⟩ : Ch), y), (⟨2, 7, 0, [], Pfx.none⟩, SV.sn), (⟨1, 9, 0, List.replicate 32 1#8, Pfx.none⟩, y2)].map chC).flatten t) → Chs (M2 ++ L) (fun _ => True) (.sl M2.length 0 3 3) (firstC (List.replicate 32 1#8)) := by
    intro L t hL
    refine ⟨[((⟨1, 7, 0, List.replicate 32 1#8, Pfx.none⟩ : Ch), y), (⟨2, 7, 0, [], Pfx.none⟩, SV.sn), (⟨1, 9, 0, List.replicate 32 1#8, Pfx.none⟩, y2)], rfl, (own_row (k := 8) (es := [((⟨1, 7, 0, List.replicate 32 1#8, Pfx.none⟩ : Ch), y), (⟨2, 7, 0, [], Pfx.none⟩, SV.sn), (⟨1, 9, 0, List.replicate 32 1#8, Pfx.none⟩, y2)].map chC) (by simp) (by rw [get_app0]; exact hL) (fun e he => ?_)).lst (by decide), fun _ _ => trivial, fun e he => ?_⟩
    · simp only [List.map_cons, List.map_nil, List.mem_cons, List.not_mem_nil, or_false] at he
      rcases he with rfl | rfl | rfl
      · exact ⟨rfl, by simp [chC, pxC, o1, one_i64, one_u64]⟩
      · exact ⟨rfl, by simp [chC, pxC, one_sn, one_i64, one_u64]⟩
      · exact ⟨rfl, by simp [chC, pxC, o2, one_i64, one_u64]⟩
    · simp only [List.mem_cons, List.not_mem_nil, or_false] at he
      rcases he with rfl | rfl | rfl
      · exact ⟨(b1.ag A2 (fun _ _ e => e)).app, fun _ _ => trivial⟩
      · exact ⟨Byt.sn, fun _ _ => trivial⟩
      · exact ⟨b2.app, fun _ _ => trivial⟩
  refine judge_ok (fun _ => True) (fun _ => True) (fun _ => True) .sn .sn _ (St.mk [] []) (firstC (List.replicate 32 1#8)) _ _ Prs.sn Lns.sn (hC rfl) right_nil (fun M3 i e h A3 => by rw [hj] at h; cases h) (fun M3 y3 z3 s3 h P3 L3 A3 => ?_)
  rw [hj] at h
  cases h
  have la : ∀ {M' : List Blk} {e a' b' : Nat} {K : SV → Prop}, lenB (.slice e a' b') M' y3 K = K (.i .i64 1) := P3.lenB
  have lb : ∀ {M' : List Blk} {e a' b' : Nat} {K : SV → Prop}, lenB (.slice e a' b') M' z3 K = K (.i .i64 1) := L3.lenB
  have o3 := P3.one
  have o4 := L3.one
  (refine top_in ?_; simp -implicitDefEqProofs only [go_sem, -List.reduceReplicate, ↓L_gdZ_tt, ↓L_gdZ_tf, ↓L_gdZ_ft, ↓L_gdZ_ff, ↓T_and, ↓T_imp, ↓T_all, la, lb, o3, o4, Int.reduceBEq, Int.reduceBNe]; try simp only [top_out])
  refine num_ok _ _ _ ?_
  (refine top_in ?_; simp -implicitDefEqProofs only [go_sem, -List.reduceReplicate, ↓L_gdZ_tt, ↓L_gdZ_tf, ↓L_gdZ_ft, ↓L_gdZ_ff, ↓T_and, ↓T_imp, ↓T_all, la, lb, o3, o4, Int.reduceBEq, Int.reduceBNe]; try simp only [top_out])
  refine key_ok 1#8 _ _ (fun M4 y4 b4 n4 A4 => ?_)
  have o5 := b4.one
  have P4 := P3.ag A4 (fun _ _ _ e => e)
  have L4 := L3.ag A4 (fun _ _ _ e => e)
  obtain ⟨nl, capl, el, rfl, l1, g1, g2, g3, g4, g5, g6, g7, g8⟩ := L4.at (k := 0) (by decide)
  obtain ⟨np, capp, ep, rfl, k1, h1, h2, h3, h4, h5, h6, h7⟩ := P4.at (k := 0) (by decide)
  simp only [List.getElem?_cons_zero, Option.some.injEq] at g1 h1
  have hel : el = (⟨List.replicate 32 1#8, 0, 2, 0, 0#64, 0#64, 0, 0⟩, el.2) := Prod.ext g1.symm rfl
  have hM4 : Ag (fun _ => False) M M4 := A1.then (A2.then (Ag.app.then (A3.then A4)))
  simp only [Nat.zero_mul, Nat.zero_add, List.drop_zero, List.length_cons, List.length_nil] at g3 g4 h3 h4 h5
  (refine top_in ?_; simp -implicitDefEqProofs only [go_sem, -List.reduceReplicate, ↓L_gdZ_tt, ↓L_gdZ_tf, ↓L_gdZ_ft, ↓L_gdZ_ff, ↓T_and, ↓T_imp, ↓T_all, o5, cellsS_one o5, get_lt l1, get_lt k1, g3, h5]; try simp only [top_out])
  refine draw_rule tabOK (by kernel_rfl : _) (.p 0 (.p 1 (.p 2 (.p 3 (.e 4 [] (.p 5 .nil) .no))))) (by kernel_rfl) (by kernel_rfl) ?_
  (refine top_in ?_; simp -implicitDefEqProofs only [go_sem, -List.reduceReplicate, ↓L_gdZ_tt, ↓L_gdZ_tf, ↓L_gdZ_ft, ↓L_gdZ_ff, ↓T_and, ↓T_imp, ↓T_all, o5, cellsS_one o5, get_lt l1, get_lt k1, g3, h5]; try simp only [top_out])
  refine ⟨g4, g4, ?_⟩
  refine sameLn_ok (fun n => M2.length ≤ n ∨ True) (fun _ => True) el (⟨List.replicate 32 1#8, 0, 2, 0, 0#64, 0#64, 0, 0⟩, y4) _ _ ((g2.ag (S := fun _ => False) Ag.app (fun _ _ _ e => e)).mono (fun _ _ => .inr trivial)) ⟨b4.app, fun _ _ => trivial⟩ ?_
  have hd : decide (el.1 = (⟨List.replicate 32 1#8, 0, 2, 0, 0#64, 0#64, 0, 0⟩ : Ln)) = true := decide_eq_true g1.symm
  have hl9 : ep.1.link = 9 := by rw [← h1]
  (refine top_in ?_; simp -implicitDefEqProofs only [go_sem, -List.reduceReplicate, ↓L_gdZ_tt, ↓L_gdZ_tf, ↓L_gdZ_ft, ↓L_gdZ_ff, ↓T_and, ↓T_imp, ↓T_all, hd, get_lt k1, h5, hl9, Int.reduceBEq]; try simp only [top_out])
  refine ⟨by omega, by omega, ?_⟩
  have hF : ∀ L, Ag (fun _ => False) M (M4 ++ L) := fun L => hM4.then Ag.app
  exact dropC_all (hF _).1 (hK _ (hF _))
end Go.Proofs.Ytdcplcfedcmcmaa.Eng

/- The laws' judge: the program's against the document's. -/
namespace Go.Proofs.Ytdcplcfedcmcmaa.Eng
open Go Go.RowKit
set_option linter.unusedSimpArgs false
set_option linter.unusedVariables false

/-- what judging comes to: peers, lanes, where, which fault -/
def St.out (s : St) (cs : List Ch) : List Pr × List Ln × Int × Int :=
  match s.judge cs with
  | .inl s' => (s'.ps, s'.ls, 0, 0)
  | .inr (i, e) => ([], [], i, e)
theorem judgeO_ok (G G' G2 : Nat → Prop) (xp xl xc : SV) (s : St) (cs : List Ch) (M : List Blk) (K : SV → List Blk → Prop) (hP : Prs M G xp s.ps) (hL : Lns M G' xl s.ls) (hC : Chs M G2 xc cs) (hs : s.Right)
    (hK : ∀ M' y z, Prs M' (fun n => M.length ≤ n) y (s.out cs).1 → Lns M' (fun n => M.length ≤ n) z (s.out cs).2.1 → Ag (fun _ => False) M M' → K (.tup [y, z, .i .i64 (s.out cs).2.2.1, .i .i64 (s.out cs).2.2.2]) M') :
    callVC Try.prog 7 [xp, xl, xc] M K := by
  unfold St.out at hK
  refine judge_ok G G' G2 xp xl xc s cs M K hP hL hC hs (fun M1 i e h A1 => ?_) (fun M1 y z s1 h P1 L1 A1 => ?_)
  · rw [h] at hK; exact hK M1 .sn .sn Prs.sn Lns.sn A1
  · rw [h] at hK; exact hK M1 y z P1 L1 A1
theorem St.run_err {l : List Ch} : ∀ {s : St} {i j : Nat} {e : Int}, s.run i l = .inr (j, e) → e ≠ 0 := by
  induction l with
  | nil => intro s i j e h; cases h
  | cons c l ih =>
    intro s i j e h
    simp only [St.run] at h
    split at h
    · exact ih h
    · rename_i hne
      cases h; exact hne
theorem St.judge_err {s : St} {l : List Ch} {j : Nat} {e : Int} (h : s.judge l = .inr (j, e)) : e ≠ 0 := by
  unfold St.judge at h
  split at h
  · cases h; decide
  · exact St.run_err h
theorem St.run_right {l : List Ch} : ∀ {s s' : St} {i : Nat}, s.Right → s.run i l = .inl s' → s'.Right := by
  induction l with
  | nil => intro s s' i hs h; cases h; exact hs
  | cons c l ih =>
    intro s s' i hs h
    simp only [St.run] at h
    split at h
    · rename_i h0
      exact ih (done_right hs h0) h
    · cases h
theorem St.judge_right {s s' : St} {l : List Ch} (hs : s.Right) (h : s.judge l = .inl s') : s'.Right := by
  unfold St.judge at h
  split at h
  · cases h
  · exact St.run_right hs h
end Go.Proofs.Ytdcplcfedcmcmaa.Eng

/- The law's own look at a configuration: its answer says whether it is one. -/
namespace Go.Proofs.Ytdcplcfedcmcmaa.Eng
open Go Go.RowKit
set_option linter.unusedSimpArgs false
set_option linter.unusedVariables false

set_option maxHeartbeats 2000000 in
theorem right_ok (G G' : Nat → Prop) (xp xl : SV) (s : St) (M : List Blk) (K : SV → List Blk → Prop) (hP : Prs M G xp s.ps) (hL : Lns M G' xl s.ls) (hK : ∀ b : Bool, (b = true ↔ s.Right) → K (.b b) M) :
    callVC Try.prog 6 [.agg [xp, xl]] M K := by
  have la : ∀ {M' : List Blk} {e a' b' : Nat} {K : SV → Prop}, lenB (.slice e a' b') M' xp K = K (.i .i64 s.ps.length) := hP.lenB
  have lb : ∀ {M' : List Blk} {e a' b' : Nat} {K : SV → Prop}, lenB (.slice e a' b') M' xl K = K (.i .i64 s.ls.length) := hL.lenB
  have o1 := hP.one
  have o2 := hL.one
  have hF : ¬ s.Right → K (.b false) M := fun h => hK false (by simp [h])
  refine fn_rule tabOK Try.func6 rfl Try.call6 (by kernel_rfl) (fun hM => ?_)
  (refine top_in ?_; simp -implicitDefEqProofs only [Try.ntmps6, Try.results6, go_sem, -List.reduceReplicate, ↓L_gdZ_tt, ↓L_gdZ_tf, ↓L_gdZ_ft, ↓L_gdZ_ff, ↓T_and, ↓T_imp, ↓T_all, o1, o2, la, lb]; try simp only [top_out])
  refine ⟨fun h1 => ⟨fun h2 => dropF hM Ag.app (hF fun g => by have := g.nl; omega), fun h2 => ?_⟩, fun h1 => dropF hM Ag.app (hF fun g => by have := g.np; omega)⟩
  refine loop_code tabOK (by kernel_rfl) (fun m ts M' => ∃ k : Nat, k + m = s.ls.length ∧ Ag (fun _ => False) M M' ∧ M'[M.length]? = some (.row [xp, xl] 27) ∧ (∀ (i : Nat) l, i < k → s.ls[i]? = some l → LaneG s i l) ∧ frC (none :: some (.p M.length 0) :: none :: some (.i .i64 k) :: none :: none :: none :: none :: none :: none :: none :: none :: none :: none :: none :: none :: none :: none :: none :: none :: none :: none :: none :: none :: none :: none :: none :: none :: none :: none :: none :: none :: none :: none :: none :: none :: none :: none :: none :: none :: none :: none :: none :: none :: none :: none :: none :: none :: none :: none :: none :: none :: none :: none :: none :: none :: none :: none :: none :: none :: none :: none :: none :: none :: none :: none :: none :: none :: none :: none :: none :: none :: none :: none :: none :: none :: none :: none :: none :: none :: none :: none :: none :: none :: none :: none :: none :: none :: []) ts) s.ls.length ?_ ?_
  · exact ⟨0, by omega, Ag.app, by rw [get_app0]; rfl, fun i l h => by omega, by simp [frC]⟩
  · rintro m ts M1 ⟨k, hk, hA, hb, hg, hf⟩
    have hm := hA.1
    obtain ⟨f, rfl⟩ := frC_open _ _ 0 hf
    clear hf
    (refine top_in ?_; simp -implicitDefEqProofs only [go_sem, -List.reduceReplicate, ↓L_gdZ_tt, ↓L_gdZ_tf, ↓L_gdZ_ft, ↓L_gdZ_ff, ↓T_and, ↓T_imp, ↓T_all, hb, la, lb, o1, o2]; try simp only [top_out])
    refine ⟨fun h3 => ?_, fun h3 => ?_⟩
    · obtain ⟨n, cap, e, rfl, l1, g1, g2, g3, g4, g5, g6, g7, g8⟩ := (hL.ag hA (fun _ _ _ e => e)).at (k := k) (by omega)
      have ok := g2.key.one
      have lk : ∀ {M' : List Blk} {e' a' b' : Nat} {K : SV → Prop}, lenB (.slice e' a' b') M' e.2 K = K (.i .i64 e.1.key.length) := g2.key.lenB
      rw [show lnC e = [e.2, SV.i .i64 e.1.side, .i .i64 e.1.cur, .i .i64 e.1.next, .u64 e.1.sc, .u64 e.1.ce, .i .i64 e.1.sec, .i .i64 e.1.nano] from rfl] at g3
      (refine top_in ?_; simp -implicitDefEqProofs only [go_sem, -List.reduceReplicate, ↓L_gdZ_tt, ↓L_gdZ_tf, ↓L_gdZ_ft, ↓L_gdZ_ff, ↓T_and, ↓T_imp, ↓T_all, hb, get_lt (kw hb), la, lb, o1, o2, g3, ok, lk]; try simp only [top_out])
      repeat (with_reducible refine And.intro (by omega) ?_)
      have hA2 : ∀ L, Ag (fun _ => False) M (M1 ++ L) := fun L => hA.then Ag.app
      refine ⟨fun c1 => ⟨fun c2 => ⟨fun c3 => ⟨fun c4 => ⟨fun c5 => ⟨fun c6 => ⟨fun c7 => dropF hM (hA2 _) (hF fun g => by have := (lane_of g g1).ok; have := this.next; omega), fun c7 => ?_⟩, fun c6 => dropF hM (hA2 _) (hF fun g => by have := (lane_of g g1).ok; have := this.next; omega)⟩, fun c5 => dropF hM (hA2 _) (hF fun g => by have := (lane_of g g1).ok; have := this.cur; omega)⟩, fun c4 => dropF hM (hA2 _) (hF fun g => by have := (lane_of g g1).ok; have := this.cur; omega)⟩, fun c3 => dropF hM (hA2 _) (hF fun g => by have := (lane_of g g1).ok; have := this.side; omega)⟩, fun c2 => dropF hM (hA2 _) (hF fun g => by have := (lane_of g g1).ok; have := this.side; omega)⟩, fun c1 => dropF hM (hA2 _) (hF fun g => by have := (lane_of g g1).ok.key; simp [this] at c1)⟩
      have hok : e.1.Ok := ⟨by have := bneF c1; omega, by omega, by omega, by omega⟩
      refine draw_rule tabOK (by kernel_rfl : _) (.p 0 (.p 1 (.p 2 (.p 3 (.p 4 (.p 5 (.p 6 (.p 7 (.p 8 (.p 9 (.p 10 (.p 11 (.e 12 [] (.p 13 (.p 14 .nil)) .no))))))))))))) (by kernel_rfl) (by kernel_rfl) ?_
      (refine top_in ?_; simp -implicitDefEqProofs only [go_sem, -List.reduceReplicate, ↓L_gdZ_tt, ↓L_gdZ_tf, ↓L_gdZ_ft, ↓L_gdZ_ff, ↓T_and, ↓T_imp, ↓T_all, hb, get_lt (kw hb), get_lt l1, la, lb, o1, o2, g3, ok, lk]; try simp only [top_out])
      refine ⟨fun h5 => ?_, fun h5 => ?_⟩
      · obtain ⟨j, rfl⟩ : ∃ j, k = j + 1 := ⟨k - 1, by omega⟩
        have wj : IntKind.i64.wrap (((j + 1 : Nat) : Int) - 1) = (j : Int) := (w64 (by omega) (by omega)).trans (by omega)
        obtain ⟨n', cap', e', he', l1', g1', g2', g3', g4', g5', _⟩ := (hL.ag hA (fun _ _ _ e => e)).at (k := j) (by omega)
        cases he'
        rw [wj, Int.toNat_natCast, g5']
        refine ⟨by omega, by omega, by omega, by omega, by omega, ?_⟩
        refine less_byt _ _ _ _ _ _ g2'.key.app g2.key.app ?_
        (refine top_in ?_; simp -implicitDefEqProofs only [go_sem, -List.reduceReplicate, ↓L_gdZ_tt, ↓L_gdZ_tf, ↓L_gdZ_ft, ↓L_gdZ_ff, ↓T_and, ↓T_imp, ↓T_all, hb, get_lt (kw hb), la, lb, o1, o2]; try simp only [top_out])
        refine ⟨fun h6 => dropF hM (hA2 _) (hF fun g => by have := (lane_of g g1).ord _ (by omega) (by rw [Nat.add_sub_cancel]; exact g1'); simp [this] at h6), fun h6 => ⟨m - 1, by omega, j + 1 + 1, by omega, hA2 _, fun i l hi hl => ?_, w64 (by omega) (by omega)⟩⟩
        rcases Nat.lt_or_ge i (j + 1) with q | q
        · exact hg i l q hl
        · obtain rfl : i = j + 1 := by omega
          rw [g1] at hl; cases hl
          exact ⟨hok, fun p _ hp => by
            rw [Nat.add_sub_cancel, g1'] at hp; cases hp
            simpa using h6⟩
      · refine ⟨m - 1, by omega, k + 1, by omega, hA2 _, fun i l hi hl => ?_, w64 (by omega) (by omega)⟩
        rcases Nat.lt_or_ge i k with q | q
        · exact hg i l q hl
        · obtain rfl : i = k := by omega
          rw [g1] at hl; cases hl
          exact ⟨hok, fun p h0 _ => by omega⟩
    · obtain rfl : k = s.ls.length := by omega
      have hlanes : ∀ (i : Nat) l, s.ls[i]? = some l → LaneG s i l := fun i l hl => hg i l (List.getElem?_eq_some_iff.1 hl).1 hl
      refine loop_code tabOK (by kernel_rfl) (fun m ts M' => ∃ k : Nat, k + m = s.ps.length ∧ Ag (fun _ => False) M M' ∧ M'[M.length]? = some (.row [xp, xl] 27) ∧ (∀ (i : Nat) p, i < k → s.ps[i]? = some p → PeerG s i p) ∧ frC (none :: some (.p M.length 0) :: none :: none :: none :: some (.i .i64 k) :: none :: none :: none :: none :: none :: none :: none :: none :: none :: none :: none :: none :: none :: none :: none :: none :: none :: none :: none :: none :: none :: none :: none :: none :: none :: none :: none :: none :: none :: none :: none :: none :: none :: none :: none :: none :: none :: none :: none :: none :: none :: none :: none :: none :: none :: none :: none :: none :: none :: none :: none :: none :: none :: none :: none :: none :: none :: none :: none :: none :: none :: none :: none :: none :: none :: none :: none :: none :: none :: none :: none :: none :: none :: none :: none :: none :: none :: none :: none :: none :: none :: none :: []) ts) s.ps.length ?_ ?_
      · exact ⟨0, by omega, hA, hb, fun i l h => by omega, by simp [frC]⟩
      · clear hk hg hb hm
        rintro m ts M3 ⟨k, hk, hA3, hb, hg, hf⟩
        have hm := hA3.1
        obtain ⟨f, rfl⟩ := frC_open _ _ 0 hf
        clear hf
        (refine top_in ?_; simp -implicitDefEqProofs only [go_sem, -List.reduceReplicate, ↓L_gdZ_tt, ↓L_gdZ_tf, ↓L_gdZ_ft, ↓L_gdZ_ff, ↓T_and, ↓T_imp, ↓T_all, hb, la, lb, o1, o2]; try simp only [top_out])
        refine ⟨fun h3 => ?_, fun h3 => ?_⟩
        · refine lpeer_ok G G' xp xl s k M3 _ (hP.ag hA3 (fun _ _ _ e => e)) (hL.ag hA3 (fun _ _ _ e => e)) (by omega) (by omega) (by omega) (fun i q hi hq => (hg i q hi hq).many) (fun b hb2 => ?_)
          (refine top_in ?_; simp -implicitDefEqProofs only [go_sem, -List.reduceReplicate, ↓L_gdZ_tt, ↓L_gdZ_tf, ↓L_gdZ_ft, ↓L_gdZ_ff, ↓T_and, ↓T_imp, ↓T_all, hb, la, lb, o1, o2]; try simp only [top_out])
          refine ⟨fun h6 => dropF hM hA3 (hF fun g => by have := (hb2 _ (List.getElem?_eq_getElem (by omega : k < s.ps.length))).2 (peer_of g (List.getElem?_eq_getElem (by omega))); simp [this] at h6), fun h6 => ⟨m - 1, by omega, k + 1, by omega, hA3, fun i p hi hp => ?_, w64 (by omega) (by omega)⟩⟩
          rcases Nat.lt_or_ge i k with q | q
          · exact hg i p q hp
          · obtain rfl : i = k := by omega
            exact (hb2 p hp).1 (by simpa using h6)
        · obtain rfl : k = s.ps.length := by omega
          exact dropF hM hA3 (hK true (iff_of_true rfl (right_of (by omega) (by omega) hlanes (fun i p hp => hg i p (List.getElem?_eq_some_iff.1 hp).1 hp))))
end Go.Proofs.Ytdcplcfedcmcmaa.Eng

/- 'ConfigRight': the law's walk. -/
namespace Go.Proofs.Ytdcplcfedcmcmaa.Eng
open Go Go.RowKit
set_option linter.unusedSimpArgs false
set_option linter.unusedVariables false

set_option maxHeartbeats 2000000 in
theorem lright_ok (G G' G2 : Nat → Prop) (x y z : SV) (s : St) (cs : List Ch) (M : List Blk) (K : SV → List Blk → Prop) (hP : Prs M G x s.ps) (hL : Lns M G' y s.ls) (hC : Chs M G2 z cs) (hK : ∀ M', K (.b true) M') :
    callVC Try.prog 3 [x, y, z] M K := by
  have o1 := hP.one
  have o2 := hL.one
  have o3 := hC.one
  have q1 := cellsS_one o1
  have q2 := cellsS_one o2
  refine fn_rule tabOK Try.func3 rfl Try.call3 (by kernel_rfl) (fun hM => ?_)
  (refine top_in ?_; simp -implicitDefEqProofs only [Try.ntmps3, Try.results3, go_sem, -List.reduceReplicate, ↓L_gdZ_tt, ↓L_gdZ_tf, ↓L_gdZ_ft, ↓L_gdZ_ff, ↓T_and, ↓T_imp, ↓T_all, o1, o2, o3]; try simp only [top_out])
  refine first_ok _ _ (fun M1 A1 => ?_)
  (refine top_in ?_; simp -implicitDefEqProofs only [go_sem, -List.reduceReplicate, ↓L_gdZ_tt, ↓L_gdZ_tf, ↓L_gdZ_ft, ↓L_gdZ_ff, ↓T_and, ↓T_imp, ↓T_all, o1, o2, o3, q1, q2]; try simp only [top_out])
  have B1 : ∀ L, Ag (fun _ => False) M (M1 ++ L) := fun L => A1.then Ag.app
  refine right_ok _ _ x y s _ _ (hP.ag (B1 _) (fun _ _ _ e => e)) (hL.ag (B1 _) (fun _ _ _ e => e)) (fun b hb => ?_)
  cases b
  · (refine top_in ?_; simp -implicitDefEqProofs only [go_sem, -List.reduceReplicate, ↓L_gdZ_tt, ↓L_gdZ_tf, ↓L_gdZ_ft, ↓L_gdZ_ff, ↓T_and, ↓T_imp, ↓T_all, o1, o2, o3, q1, q2]; try simp only [top_out])
    exact dropC_all (B1 _).1 (hK _)
  · have hs := hb.1 rfl
    (refine top_in ?_; simp -implicitDefEqProofs only [go_sem, -List.reduceReplicate, ↓L_gdZ_tt, ↓L_gdZ_tf, ↓L_gdZ_ft, ↓L_gdZ_ff, ↓T_and, ↓T_imp, ↓T_all, o1, o2, o3, q1, q2]; try simp only [top_out])
    refine judge_ok _ _ _ x y z s cs _ _ (hP.ag (B1 _) (fun _ _ _ e => e)) (hL.ag (B1 _) (fun _ _ _ e => e)) (hC.ag (B1 _) (fun _ _ _ e => e)) hs (fun M2 i e h A2 => ?_) (fun M2 y2 z2 s2 h P2 L2 A2 => ?_)
    · have he := St.judge_err h
      have heb : ((e != 0) = true) := by simpa using he
      have B2 := (B1 _).then A2
      (refine top_in ?_; simp -implicitDefEqProofs only [go_sem, -List.reduceReplicate, ↓L_gdZ_tt, ↓L_gdZ_tf, ↓L_gdZ_ft, ↓L_gdZ_ff, ↓T_and, ↓T_imp, ↓T_all]; try simp only [top_out])
      refine num_ok _ _ _ ?_
      (refine top_in ?_; simp -implicitDefEqProofs only [go_sem, -List.reduceReplicate, ↓L_gdZ_tt, ↓L_gdZ_tf, ↓L_gdZ_ft, ↓L_gdZ_ff, ↓T_and, ↓T_imp, ↓T_all, heb]; try simp only [top_out])
      exact dropC_all B2.1 (hK _)
    · have hs2 := St.judge_right hs h
      have B2 := (B1 _).then A2
      have p1 := P2.one
      have p2 := L2.one
      have r1 := cellsS_one p1
      have r2 := cellsS_one p2
      (refine top_in ?_; simp -implicitDefEqProofs only [go_sem, -List.reduceReplicate, ↓L_gdZ_tt, ↓L_gdZ_tf, ↓L_gdZ_ft, ↓L_gdZ_ff, ↓T_and, ↓T_imp, ↓T_all, p1, p2]; try simp only [top_out])
      refine num_ok _ _ _ ?_
      (refine top_in ?_; simp -implicitDefEqProofs only [go_sem, -List.reduceReplicate, ↓L_gdZ_tt, ↓L_gdZ_tf, ↓L_gdZ_ft, ↓L_gdZ_ff, ↓T_and, ↓T_imp, ↓T_all, p1, p2, r1, r2, Int.reduceBNe]; try simp only [top_out])
      refine right_ok _ _ y2 z2 s2 _ _ P2 L2 (fun b2 hb2 => ?_)
      obtain rfl : b2 = true := hb2.2 hs2
      (refine top_in ?_; simp -implicitDefEqProofs only [go_sem, -List.reduceReplicate, ↓L_gdZ_tt, ↓L_gdZ_tf, ↓L_gdZ_ft, ↓L_gdZ_ff, ↓T_and, ↓T_imp, ↓T_all, p1, p2]; try simp only [top_out])
      exact dropC_all B2.1 (hK _)
theorem own : ownKnob Try.prog.godebug = none := by kernel_rfl
theorem laid : laidOutB Try.prog = true := by kernel_rfl
theorem law_configRight {L0 L1 L2 : List Blk} {x y z : SV} (h0 : RPrs L0 [x]) (h1 : RLns (L0 ++ L1) [y]) (h2 : RChs (L0 ++ L1 ++ L2) [z]) : callVC Try.prog 3 [x, y, z] (L0 ++ L1 ++ L2) (fun v _ => v = .b true) := by
  obtain ⟨x, ps, e, h0⟩ := h0
  cases e
  obtain ⟨y, ls, e, h1⟩ := h1
  cases e
  obtain ⟨z, cs, e, h2⟩ := h2
  cases e
  exact lright_ok _ _ _ x y z ⟨ps, ls⟩ cs _ _ h0.app.app h1.app h2 (fun _ => rfl)
end Go.Proofs.Ytdcplcfedcmcmaa.Eng
