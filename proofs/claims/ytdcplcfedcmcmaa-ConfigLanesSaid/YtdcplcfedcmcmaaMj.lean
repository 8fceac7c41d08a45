/- Joined texts: F1, F2, F6, K2, K3. -/
import Derived.Test.YtdcplcfedcmcmaaMg
import Derived.Test.YtdcplcfedcmcmaaMc
import Derived.Test.YtdcplcfedcmcmaaF5
import Derived.Test.YtdcplcfedcmcmaaMk
import Derived.Test.YtdcplcfedcmcmaaMh
/- The laws' own small functions. -/
namespace Go.Proofs.Ytdcplcfedcmcmaa.Eng
open Go Go.RowKit
set_option linter.unusedSimpArgs false
set_option linter.unusedVariables false

theorem num_ok (a : Int) (M : List Blk) (K : SV → List Blk → Prop) (hK : K (.i .i64 a) M) : callVC Try.prog 8 [.i .i64 a] M K := by
  refine fn_rule tabOK Try.func8 rfl Try.call8 (by kernel_rfl) (fun hM => ?_)
  (refine top_in ?_; simp -implicitDefEqProofs only [Try.ntmps8, Try.results8, go_sem, -List.reduceReplicate, ↓L_gdZ_tt, ↓L_gdZ_tf, ↓L_gdZ_ft, ↓L_gdZ_ff, ↓T_and, ↓T_imp, ↓T_all]; try simp only [top_out])
  exact dropC_self hM rfl hK
theorem key_ok (b : BitVec 8) (M : List Blk) (K : SV → List Blk → Prop) (hK : ∀ M' y, Byt M' y (List.replicate 32 b) → NmG (fun n => M.length ≤ n) y → Ag (fun _ => False) M M' → K y M') :
    callVC Try.prog 11 [.u8 b] M K := by
  refine fn_rule tabOK Try.func11 rfl Try.call11 (by kernel_rfl) (fun hM => ?_)
  (refine top_in ?_; simp -implicitDefEqProofs only [Try.ntmps11, Try.results11, go_sem, -List.reduceReplicate, ↓L_gdZ_tt, ↓L_gdZ_tf, ↓L_gdZ_ft, ↓L_gdZ_ff, ↓T_and, ↓T_imp, ↓T_all]; try simp only [top_out])
  refine loop_code tabOK (by kernel_rfl) (fun m ts M' => ∃ (k : Nat) (s : SV), k + m = 32 ∧ Ag (fun _ => False) M M' ∧ ((s = .sn ∧ k = 0) ∨ ∃ n z ty, s = .sl n 0 k (k + z.length) ∧ M'[n]? = some (.row (bS (List.replicate k b ++ z)) ty) ∧ M.length ≤ n) ∧ frC [some (.u8 b), none, none, some (s), some (.i .i64 k), none, none, none, none, none, none, none, none, none] ts) 32 ?_ ?_
  · exact ⟨0, .sn, by omega, Ag.refl, .inl ⟨rfl, rfl⟩, by simp [frC]⟩
  · rintro m ts M1 ⟨k, s, hk, hA, hs, hf⟩
    have hm := hA.1
    obtain ⟨f, rfl⟩ := frC_open _ _ 0 hf
    clear hf
    (refine top_in ?_; simp -implicitDefEqProofs only [go_sem, -List.reduceReplicate, ↓L_gdZ_tt, ↓L_gdZ_tf, ↓L_gdZ_ft, ↓L_gdZ_ff, ↓T_and, ↓T_imp, ↓T_all]; try simp only [top_out])
    refine ⟨fun h1 => ?_, fun h1 => ?_⟩
    · refine ⟨by decide, ?_⟩
      rcases hs with ⟨rfl, rfl⟩ | ⟨n, z, ty, rfl, hr, hn⟩
      · refine app8n [b] rfl rfl rfl (src_u8 (by rw [get_app0]; rfl)) (by simp) (fun z' ty' => ?_)
        (refine top_in ?_; simp -implicitDefEqProofs only [go_sem, -List.reduceReplicate, ↓L_gdZ_tt, ↓L_gdZ_tf, ↓L_gdZ_ft, ↓L_gdZ_ff, ↓T_and, ↓T_imp, ↓T_all]; try simp only [top_out])
        exact ⟨m - 1, by omega, 1, .sl (M1.length + 1) 0 1 (1 + z'.length), by omega, Ag.trans hA Ag.app (fun _ _ e => e), .inr ⟨M1.length + 1, z', ty', rfl, by rw [get_app]; rfl, by omega⟩, rfl, w64 (by omega) (by omega)⟩
      · have hl2 := kw hr
        refine app8 n (List.replicate k b) z [b] ty rfl rfl rfl (by rw [get_lt hl2]; exact hr) (by simp) (by simp) (src_u8 (by rw [get_app0]; rfl)) (by simp; omega) (fun z' ty' => ?_)
        (refine top_in ?_; simp -implicitDefEqProofs only [go_sem, -List.reduceReplicate, ↓L_gdZ_tt, ↓L_gdZ_tf, ↓L_gdZ_ft, ↓L_gdZ_ff, ↓T_and, ↓T_imp, ↓T_all]; try simp only [top_out])
        refine ⟨m - 1, by omega, k + 1, .sl (M1.length + 1) 0 (k + 1) (k + 1 + z'.length), by omega, ?_, .inr ⟨M1.length + 1, z', ty', rfl, ?_, by omega⟩, by rw [Nat.add_assoc], w64 (by omega) (by omega)⟩
        · exact Ag.trans hA (S' := fun q => q = n) (Ag.trans (S' := fun q => q = n) (Ag.app (S := fun q => q = n)) (Ag.trans (S' := fun _ => False) (Ag.set rfl) Ag.app (fun _ _ e => e.elim)) (fun _ _ e => e)) (fun q h1 h2 => by omega)
        · rw [get_last (by simp), List.replicate_succ']; simp [bS]
    · obtain rfl : k = 32 := by omega
      rcases hs with ⟨rfl, h0⟩ | ⟨n, z, ty, rfl, hr, hn⟩
      · omega
      · exact dropC_all hm (hK M1 _ (Byt.row (l := List.replicate 32 b) hr (by simp)) (fun d e => by cases e; exact hn) hA)
/-- the first law: three changes -/
def firstC (k : List (BitVec 8)) : List Ch := [⟨1, 7, 0, k, Pfx.none⟩, ⟨2, 7, 0, [], Pfx.none⟩, ⟨1, 9, 0, k, Pfx.none⟩]
theorem first_judge (k : List (BitVec 8)) (hk : k.length = 32) : (St.mk [] []).judge (firstC k) = .inl ⟨[⟨9, k, []⟩], [⟨k, 0, 2, 0, 0#64, 0#64, 0, 0⟩]⟩ := by
  have h3 : k.length = 32 := hk
  simp [St.judge, firstC, St.run, St.fault, Ch.spare, Ch.keyed, Ch.pre, St.givenF, St.keyedF, St.lane, St.owner, St.peer, St.done, St.give, insAt, Pfx.none, hk, Ln.lifted]
  rfl
theorem right_nil : (St.mk [] []).Right := ⟨by simp, by simp, by simp, .nil, by simp, .nil, .nil, .nil, by simp⟩
theorem Prs.sn {M : List Blk} {G : Nat → Prop} : Prs M G .sn [] := ⟨[], rfl, Lst.sn, NmG.sn, by simp⟩
theorem Lns.sn {M : List Blk} {G : Nat → Prop} : Lns M G .sn [] := ⟨[], rfl, Lst.sn, NmG.sn, by simp⟩
theorem first_ok (M : List Blk) (K : SV → List Blk → Prop) (hK : ∀ M', Ag (fun _ => False) M M' → K (.b true) M') : callVC Try.prog 5 [] M K := by
  refine fn_rule tabOK Try.func5 rfl Try.call5 (by kernel_rfl) (fun hM => ?_)
  (refine top_in ?_; simp -implicitDefEqProofs only [Try.ntmps5, Try.results5, go_sem, -List.reduceReplicate, ↓L_gdZ_tt, ↓L_gdZ_tf, ↓L_gdZ_ft, ↓L_gdZ_ff, ↓T_and, ↓T_imp, ↓T_all]; try simp only [top_out])
  refine key_ok 1#8 _ _ (fun M1 y b1 n1 A1 => ?_)
  have o1 := b1.one
  (refine top_in ?_; simp -implicitDefEqProofs only [go_sem, -List.reduceReplicate, ↓L_gdZ_tt, ↓L_gdZ_tf, ↓L_gdZ_ft, ↓L_gdZ_ff, ↓T_and, ↓T_imp, ↓T_all, o1, cellsS_one o1]; try simp only [top_out])
  refine key_ok 1#8 _ _ (fun M2 y2 b2 n2 A2 => ?_)
  have o2 := b2.one
  (refine top_in ?_; simp -implicitDefEqProofs only [go_sem, -List.reduceReplicate, ↓L_gdZ_tt, ↓L_gdZ_tf, ↓L_gdZ_ft, ↓L_gdZ_ff, ↓T_and, ↓T_imp, ↓T_all, o1, o2, cellsS_one o1, cellsS_one o2]; try simp only [top_out])
  refine ⟨by decide, ?_⟩
  have hj := first_judge (List.replicate 32 1#8) (by simp)
  have hC : ∀ {L : List Blk} {t : TypeId}, L[0]? = some (.row ([((⟨1, 7, 0, List.replicate 32 1#8, Pfx.none⟩ : Ch), y), (⟨2, 7, 0, [], Pfx.none⟩, SV.sn), (⟨1, 9, 0, List.replicate 32 1#8, Pfx.none⟩, y2)].map chC).flatten t) → Chs (M2 ++ L) (fun _ => True) (.sl M2.length 0 3 3) (firstC (List.replicate 32 1#8)) := by
    intro L t hL
    refine ⟨[((⟨1, 7, 0, List.replicate 32 1#8, Pfx.none⟩ : Ch), y), (⟨2, 7, 0, [], Pfx.none⟩, SV.sn), (⟨1, 9, 0, List.replicate 32 1#8, Pfx.none⟩, y2)], rfl, (own_row (k := 8) (es := [((⟨1, 7, 0, List.replicate 32 1#8, Pfx.none⟩ : Ch), y), (⟨2, 7, 0, [], Pfx.none⟩, SV.sn), (⟨1, 9, 0, List.replicate 32 1#8, Pfx.none⟩, y2)].map chC) (by simp) (by rw [get_app0]; exact hL) (fun e he => ?_)).lst (by decide), fun _ _ => trivial, fun e he => ?_⟩
    · simp only [List.map_cons, List.map_nil, List.mem_cons, List.not_mem_nil, or_false] at he
      rcases he with rfl | rfl | rfl
      · exact ⟨rfl, by simp [chC, pxC, o1, one_i64, one_u64]⟩
      · exact ⟨rfl, by simp [chC, pxC, one_sn, one_i64, one_u64]⟩
      · exact ⟨rfl, by simp [chC, pxC, o2, one_i64, one_u64]⟩
    · simp only [List.mem_cons, List.not_mem_nil, or_false] at he
      rcases he with rfl | rfl | rfl
      · exact ⟨(b1.ag A2 (fun _ _ e => e)).app, fun _ _ => trivial⟩
      · exact ⟨Byt.sn, fun _ _ => trivial⟩
      · exact ⟨b2.app, fun _ _ => trivial⟩
  refine judge_ok (fun _ => True) (fun _ => True) (fun _ => True) .sn .sn _ (St.mk [] []) (firstC (List.replicate 32 1#8)) _ _ Prs.sn Lns.sn (hC rfl) right_nil (fun M3 i e h A3 => by rw [hj] at h; cases h) (fun M3 y3 z3 s3 h P3 L3 A3 => ?_)
  rw [hj] at h
  cases h
  have la : ∀ {M' : List Blk} {e a' b' : Nat} {K : SV → Prop}, lenB (.slice e a' b') M' y3 K = K (.i .i64 1) := P3.lenB
  have lb : ∀ {M' : List Blk} {e a' b' : Nat} {K : SV → Prop}, lenB (.slice e a' b') M' z3 K = K (.i .i64 1) := L3.lenB
  have o3 := P3.one
  have o4 := L3.one
  (refine top_in ?_; simp -implicitDefEqProofs only [go_sem, -List.reduceReplicate, ↓L_gdZ_tt, ↓L_gdZ_tf, ↓L_gdZ_ft, ↓L_gdZ_ff, ↓T_and, ↓T_imp, ↓T_all, la, lb, o3, o4, Int.reduceBEq, Int.reduceBNe]; try simp only [top_out])
  refine num_ok _ _ _ ?_
  (refine top_in ?_; simp -implicitDefEqProofs only [go_sem, -List.reduceReplicate, ↓L_gdZ_tt, ↓L_gdZ_tf, ↓L_gdZ_ft, ↓L_gdZ_ff, ↓T_and, ↓T_imp, ↓T_all, la, lb, o3, o4, Int.reduceBEq, Int.reduceBNe]; try simp only [top_out])
  refine key_ok 1#8 _ _ (fun M4 y4 b4 n4 A4 => ?_)
  have o5 := b4.one
  have P4 := P3.ag A4 (fun _ _ _ e => e)
  have L4 := L3.ag A4 (fun _ _ _ e => e)
  obtain ⟨nl, capl, el, rfl, l1, g1, g2, g3, g4, g5, g6, g7, g8⟩ := L4.at (k := 0) (by decide)
  obtain ⟨np, capp, ep, rfl, k1, h1, h2, h3, h4, h5, h6, h7⟩ := P4.at (k := 0) (by decide)
  simp only [List.getElem?_cons_zero, Option.some.injEq] at g1 h1
  have hel : el = (⟨List.replicate 32 1#8, 0, 2, 0, 0#64, 0#64, 0, 0⟩, el.2) := Prod.ext g1.symm rfl
  have hM4 : Ag (fun _ => False) M M4 := A1.then (A2.then (Ag.app.then (A3.then A4)))
  simp only [Nat.zero_mul, Nat.zero_add, List.drop_zero, List.length_cons, List.length_nil] at g3 g4 h3 h4 h5
  (refine top_in ?_; simp -implicitDefEqProofs only [go_sem, -List.reduceReplicate, ↓L_gdZ_tt, ↓L_gdZ_tf, ↓L_gdZ_ft, ↓L_gdZ_ff, ↓T_and, ↓T_imp, ↓T_all, o5, cellsS_one o5, get_lt l1, get_lt k1, g3, h5]; try simp only [top_out])
  refine draw_rule tabOK (by kernel_rfl : _) (.p 0 (.p 1 (.p 2 (.p 3 (.e 4 [] (.p 5 .nil) .no))))) (by kernel_rfl) (by kernel_rfl) ?_
  (refine top_in ?_; simp -implicitDefEqProofs only [go_sem, -List.reduceReplicate, ↓L_gdZ_tt, ↓L_gdZ_tf, ↓L_gdZ_ft, ↓L_gdZ_ff, ↓T_and, ↓T_imp, ↓T_all, o5, cellsS_one o5, get_lt l1, get_lt k1, g3, h5]; try simp only [top_out])
  refine ⟨g4, g4, ?_⟩
  refine sameLn_ok (fun n => M2.length ≤ n ∨ True) (fun _ => True) el (⟨List.replicate 32 1#8, 0, 2, 0, 0#64, 0#64, 0, 0⟩, y4) _ _ ((g2.ag (S := fun _ => False) Ag.app (fun _ _ _ e => e)).mono (fun _ _ => .inr trivial)) ⟨b4.app, fun _ _ => trivial⟩ ?_
  have hd : decide (el.1 = (⟨List.replicate 32 1#8, 0, 2, 0, 0#64, 0#64, 0, 0⟩ : Ln)) = true := decide_eq_true g1.symm
  have hl9 : ep.1.link = 9 := by rw [← h1]
  (refine top_in ?_; simp -implicitDefEqProofs only [go_sem, -List.reduceReplicate, ↓L_gdZ_tt, ↓L_gdZ_tf, ↓L_gdZ_ft, ↓L_gdZ_ff, ↓T_and, ↓T_imp, ↓T_all, hd, get_lt k1, h5, hl9, Int.reduceBEq]; try simp only [top_out])
  refine ⟨by omega, by omega, ?_⟩
  have hF : ∀ L, Ag (fun _ => False) M (M4 ++ L) := fun L => hM4.then Ag.app
  exact dropC_all (hF _).1 (hK _ (hF _))
end Go.Proofs.Ytdcplcfedcmcmaa.Eng

/- The laws' judge: the program's against the document's. -/
namespace Go.Proofs.Ytdcplcfedcmcmaa.Eng
open Go Go.RowKit
set_option linter.unusedSimpArgs false
set_option linter.unusedVariables false

/-- what judging comes to: peers, lanes, where, which fault -/
def St.out (s : St) (cs : List Ch) : List Pr × List Ln × Int × Int :=
  match s.judge cs with
  | .inl s' => (s'.ps, s'.ls, 0, 0)
  | .inr (i, e) => ([], [], i, e)
theorem judgeO_ok (G G' G2 : Nat → Prop) (xp xl xc : SV) (s : St) (cs : List Ch) (M : List Blk) (K : SV → List Blk → Prop) (hP : Prs M G xp s.ps) (hL : Lns M G' xl s.ls) (hC : Chs M G2 xc cs) (hs : s.Right)
    (hK : ∀ M' y z, Prs M' (fun n => M.length ≤ n) y (s.out cs).1 → Lns M' (fun n => M.length ≤ n) z (s.out cs).2.1 → Ag (fun _ => False) M M' → K (.tup [y, z, .i .i64 (s.out cs).2.2.1, .i .i64 (s.out cs).2.2.2]) M') :
    callVC Try.prog 7 [xp, xl, xc] M K := by
  unfold St.out at hK
  refine judge_ok G G' G2 xp xl xc s cs M K hP hL hC hs (fun M1 i e h A1 => ?_) (fun M1 y z s1 h P1 L1 A1 => ?_)
  · rw [h] at hK; exact hK M1 .sn .sn Prs.sn Lns.sn A1
  · rw [h] at hK; exact hK M1 y z P1 L1 A1
theorem St.run_err {l : List Ch} : ∀ {s : St} {i j : Nat} {e : Int}, s.run i l = .inr (j, e) → e ≠ 0 := by
  induction l with
  | nil => intro s i j e h; cases h
  | cons c l ih =>
    intro s i j e h
    simp only [St.run] at h
    split at h
    · exact ih h
    · rename_i hne
      cases h; exact hne
theorem St.judge_err {s : St} {l : List Ch} {j : Nat} {e : Int} (h : s.judge l = .inr (j, e)) : e ≠ 0 := by
  unfold St.judge at h
  split at h
  · cases h; decide
  · exact St.run_err h
theorem St.run_right {l : List Ch} : ∀ {s s' : St} {i : Nat}, s.Right → s.run i l = .inl s' → s'.Right := by
  induction l with
  | nil => intro s s' i hs h; cases h; exact hs
  | cons c l ih =>
    intro s s' i hs h
    simp only [St.run] at h
    split at h
    · rename_i h0
      exact ih (done_right hs h0) h
    · cases h
theorem St.judge_right {s s' : St} {l : List Ch} (hs : s.Right) (h : s.judge l = .inl s') : s'.Right := by
  unfold St.judge at h
  split at h
  · cases h
  · exact St.run_right hs h
end Go.Proofs.Ytdcplcfedcmcmaa.Eng

/- The law's own look at a configuration: its answer says whether it is one. -/
namespace Go.Proofs.Ytdcplcfedcmcmaa.Eng
open Go Go.RowKit
set_option linter.unusedSimpArgs false
set_option linter.unusedVariables false

set_option maxHeartbeats 2000000 in
theorem right_ok (G G' : Nat → Prop) (xp xl : SV) (s : St) (M : List Blk) (K : SV → List Blk → Prop) (hP : Prs M G xp s.ps) (hL : Lns M G' xl s.ls) (hK : ∀ b : Bool, (b = true ↔ s.Right) → K (.b b) M) :
    callVC Try.prog 6 [.agg [xp, xl]] M K := by
  have la : ∀ {M' : List Blk} {e a' b' : Nat} {K : SV → Prop}, lenB (.slice e a' b') M' xp K = K (.i .i64 s.ps.length) := hP.lenB
  have lb : ∀ {M' : List Blk} {e a' b' : Nat} {K : SV → Prop}, lenB (.slice e a' b') M' xl K = K (.i .i64 s.ls.length) := hL.lenB
  have o1 := hP.one
  have o2 := hL.one
  have hF : ¬ s.Right → K (.b false) M := fun h => hK false (by simp [h])
  refine fn_rule tabOK Try.func6 rfl Try.call6 (by kernel_rfl) (fun hM => ?_)
  (refine top_in ?_; simp -implicitDefEqProofs only [Try.ntmps6, Try.results6, go_sem, -List.reduceReplicate, ↓L_gdZ_tt, ↓L_gdZ_tf, ↓L_gdZ_ft, ↓L_gdZ_ff, ↓T_and, ↓T_imp, ↓T_all, o1, o2, la, lb]; try simp only [top_out])
  refine ⟨fun h1 => ⟨fun h2 => dropF hM Ag.app (hF fun g => by have := g.nl; omega), fun h2 => ?_⟩, fun h1 => dropF hM Ag.app (hF fun g => by have := g.np; omega)⟩
  refine loop_code tabOK (by kernel_rfl) (fun m ts M' => ∃ k : Nat, k + m = s.ls.length ∧ Ag (fun _ => False) M M' ∧ M'[M.length]? = some (.row [xp, xl] 27) ∧ (∀ (i : Nat) l, i < k → s.ls[i]? = some l → LaneG s i l) ∧ frC (none :: some (.p M.length 0) :: none :: some (.i .i64 k) :: none :: none :: none :: none :: none :: none :: none :: none :: none :: none :: none :: none :: none :: none :: none :: none :: none :: none :: none :: none :: none :: none :: none :: none :: none :: none :: none :: none :: none :: none :: none :: none :: none :: none :: none :: none :: none :: none :: none :: none :: none :: none :: none :: none :: none :: none :: none :: none :: none :: none :: none :: none :: none :: none :: none :: none :: none :: none :: none :: none :: none :: none :: none :: none :: none :: none :: none :: none :: none :: none :: none :: none :: none :: none :: none :: none :: none :: none :: none :: none :: none :: none :: none :: none :: []) ts) s.ls.length ?_ ?_
  · exact ⟨0, by omega, Ag.app, by rw [get_app0]; rfl, fun i l h => by omega, by simp [frC]⟩
  · rintro m ts M1 ⟨k, hk, hA, hb, hg, hf⟩
    have hm := hA.1
    obtain ⟨f, rfl⟩ := frC_open _ _ 0 hf
    clear hf
    (refine top_in ?_; simp -implicitDefEqProofs only [go_sem, -List.reduceReplicate, ↓L_gdZ_tt, ↓L_gdZ_tf, ↓L_gdZ_ft, ↓L_gdZ_ff, ↓T_and, ↓T_imp, ↓T_all, hb, la, lb, o1, o2]; try simp only [top_out])
    refine ⟨fun h3 => ?_, fun h3 => ?_⟩
    · obtain ⟨n, cap, e, rfl, l1, g1, g2, g3, g4, g5, g6, g7, g8⟩ := (hL.ag hA (fun _ _ _ e => e)).at (k := k) (by omega)
      have ok := g2.key.one
      have lk : ∀ {M' : List Blk} {e' a' b' : Nat} {K : SV → Prop}, lenB (.slice e' a' b') M' e.2 K = K (.i .i64 e.1.key.length) := g2.key.lenB
      rw [show lnC e = [e.2, SV.i .i64 e.1.side, .i .i64 e.1.cur, .i .i64 e.1.next, .u64 e.1.sc, .u64 e.1.ce, .i .i64 e.1.sec, .i .i64 e.1.nano] from rfl] at g3
      (refine top_in ?_; simp -implicitDefEqProofs only [go_sem, -List.reduceReplicate, ↓L_gdZ_tt, ↓L_gdZ_tf, ↓L_gdZ_ft, ↓L_gdZ_ff, ↓T_and, ↓T_imp, ↓T_all, hb, get_lt (kw hb), la, lb, o1, o2, g3, ok, lk]; try simp only [top_out])
      repeat (with_reducible refine And.intro (by omega) ?_)
      have hA2 : ∀ L, Ag (fun _ => False) M (M1 ++ L) := fun L => hA.then Ag.app
      refine ⟨fun c1 => ⟨fun c2 => ⟨fun c3 => ⟨fun c4 => ⟨fun c5 => ⟨fun c6 => ⟨fun c7 => dropF hM (hA2 _) (hF fun g => by have := (lane_of g g1).ok; have := this.next; omega), fun c7 => ?_⟩, fun c6 => dropF hM (hA2 _) (hF fun g => by have := (lane_of g g1).ok; have := this.next; omega)⟩, fun c5 => dropF hM (hA2 _) (hF fun g => by have := (lane_of g g1).ok; have := this.cur; omega)⟩, fun c4 => dropF hM (hA2 _) (hF fun g => by have := (lane_of g g1).ok; have := this.cur; omega)⟩, fun c3 => dropF hM (hA2 _) (hF fun g => by have := (lane_of g g1).ok; have := this.side; omega)⟩, fun c2 => dropF hM (hA2 _) (hF fun g => by have := (lane_of g g1).ok; have := this.side; omega)⟩, fun c1 => dropF hM (hA2 _) (hF fun g => by have := (lane_of g g1).ok.key; simp [this] at c1)⟩
      have hok : e.1.Ok := ⟨by have := bneF c1; omega, by omega, by omega, by omega⟩
      refine draw_rule tabOK (by kernel_rfl : _) (.p 0 (.p 1 (.p 2 (.p 3 (.p 4 (.p 5 (.p 6 (.p 7 (.p 8 (.p 9 (.p 10 (.p 11 (.e 12 [] (.p 13 (.p 14 .nil)) .no))))))))))))) (by kernel_rfl) (by kernel_rfl) ?_
      (refine top_in ?_; simp -implicitDefEqProofs only [go_sem, -List.reduceReplicate, ↓L_gdZ_tt, ↓L_gdZ_tf, ↓L_gdZ_ft, ↓L_gdZ_ff, ↓T_and, ↓T_imp, ↓T_all, hb, get_lt (kw hb), get_lt l1, la, lb, o1, o2, g3, ok, lk]; try simp only [top_out])
      refine ⟨fun h5 => ?_, fun h5 => ?_⟩
      · obtain ⟨j, rfl⟩ : ∃ j, k = j + 1 := ⟨k - 1, by omega⟩
        have wj : IntKind.i64.wrap (((j + 1 : Nat) : Int) - 1) = (j : Int) := (w64 (by omega) (by omega)).trans (by omega)
        obtain ⟨n', cap', e', he', l1', g1', g2', g3', g4', g5', _⟩ := (hL.ag hA (fun _ _ _ e => e)).at (k := j) (by omega)
        cases he'
        rw [wj, Int.toNat_natCast, g5']
        refine ⟨by omega, by omega, by omega, by omega, by omega, ?_⟩
        refine less_byt _ _ _ _ _ _ g2'.key.app g2.key.app ?_
        (refine top_in ?_; simp -implicitDefEqProofs only [go_sem, -List.reduceReplicate, ↓L_gdZ_tt, ↓L_gdZ_tf, ↓L_gdZ_ft, ↓L_gdZ_ff, ↓T_and, ↓T_imp, ↓T_all, hb, get_lt (kw hb), la, lb, o1, o2]; try simp only [top_out])
        refine ⟨fun h6 => dropF hM (hA2 _) (hF fun g => by have := (lane_of g g1).ord _ (by omega) (by rw [Nat.add_sub_cancel]; exact g1'); simp [this] at h6), fun h6 => ⟨m - 1, by omega, j + 1 + 1, by omega, hA2 _, fun i l hi hl => ?_, w64 (by omega) (by omega)⟩⟩
        rcases Nat.lt_or_ge i (j + 1) with q | q
        · exact hg i l q hl
        · obtain rfl : i = j + 1 := by omega
          rw [g1] at hl; cases hl
          exact ⟨hok, fun p _ hp => by
            rw [Nat.add_sub_cancel, g1'] at hp; cases hp
            simpa using h6⟩
      · refine ⟨m - 1, by omega, k + 1, by omega, hA2 _, fun i l hi hl => ?_, w64 (by omega) (by omega)⟩
        rcases Nat.lt_or_ge i k with q | q
        · exact hg i l q hl
        · obtain rfl : i = k := by omega
          rw [g1] at hl; cases hl
          exact ⟨hok, fun p h0 _ => by omega⟩
    · obtain rfl : k = s.ls.length := by omega
      have hlanes : ∀ (i : Nat) l, s.ls[i]? = some l → LaneG s i l := fun i l hl => hg i l (List.getElem?_eq_some_iff.1 hl).1 hl
      refine loop_code tabOK (by kernel_rfl) (fun m ts M' => ∃ k : Nat, k + m = s.ps.length ∧ Ag (fun _ => False) M M' ∧ M'[M.length]? = some (.row [xp, xl] 27) ∧ (∀ (i : Nat) p, i < k → s.ps[i]? = some p → PeerG s i p) ∧ frC (none :: some (.p M.length 0) :: none :: none :: none :: some (.i .i64 k) :: none :: none :: none :: none :: none :: none :: none :: none :: none :: none :: none :: none :: none :: none :: none :: none :: none :: none :: none :: none :: none :: none :: none :: none :: none :: none :: none :: none :: none :: none :: none :: none :: none :: none :: none :: none :: none :: none :: none :: none :: none :: none :: none :: none :: none :: none :: none :: none :: none :: none :: none :: none :: none :: none :: none :: none :: none :: none :: none :: none :: none :: none :: none :: none :: none :: none :: none :: none :: none :: none :: none :: none :: none :: none :: none :: none :: none :: none :: none :: none :: none :: none :: []) ts) s.ps.length ?_ ?_
      · exact ⟨0, by omega, hA, hb, fun i l h => by omega, by simp [frC]⟩
      · clear hk hg hb hm
        rintro m ts M3 ⟨k, hk, hA3, hb, hg, hf⟩
        have hm := hA3.1
        obtain ⟨f, rfl⟩ := frC_open _ _ 0 hf
        clear hf
        (refine top_in ?_; simp -implicitDefEqProofs only [go_sem, -List.reduceReplicate, ↓L_gdZ_tt, ↓L_gdZ_tf, ↓L_gdZ_ft, ↓L_gdZ_ff, ↓T_and, ↓T_imp, ↓T_all, hb, la, lb, o1, o2]; try simp only [top_out])
        refine ⟨fun h3 => ?_, fun h3 => ?_⟩
        · refine lpeer_ok G G' xp xl s k M3 _ (hP.ag hA3 (fun _ _ _ e => e)) (hL.ag hA3 (fun _ _ _ e => e)) (by omega) (by omega) (by omega) (fun i q hi hq => (hg i q hi hq).many) (fun b hb2 => ?_)
          (refine top_in ?_; simp -implicitDefEqProofs only [go_sem, -List.reduceReplicate, ↓L_gdZ_tt, ↓L_gdZ_tf, ↓L_gdZ_ft, ↓L_gdZ_ff, ↓T_and, ↓T_imp, ↓T_all, hb, la, lb, o1, o2]; try simp only [top_out])
          refine ⟨fun h6 => dropF hM hA3 (hF fun g => by have := (hb2 _ (List.getElem?_eq_getElem (by omega : k < s.ps.length))).2 (peer_of g (List.getElem?_eq_getElem (by omega))); simp [this] at h6), fun h6 => ⟨m - 1, by omega, k + 1, by omega, hA3, fun i p hi hp => ?_, w64 (by omega) (by omega)⟩⟩
          rcases Nat.lt_or_ge i k with q | q
          · exact hg i p q hp
          · obtain rfl : i = k := by omega
            exact (hb2 p hp).1 (by simpa using h6)
        · obtain rfl : k = s.ps.length := by omega
          exact dropF hM hA3 (hK true (iff_of_true rfl (right_of (by omega) (by omega) hlanes (fun i p hp => hg i p (List.getElem?_eq_some_iff.1 hp).1 hp))))
end Go.Proofs.Ytdcplcfedcmcmaa.Eng

/- The lane of a key; cells of lanes written in their places. -/
namespace Go.Proofs.Ytdcplcfedcmcmaa.Eng
open Go Go.RowKit
set_option linter.unusedSimpArgs false
set_option linter.unusedVariables false

theorem LO.putG {M : List Blk} {G : Nat → Prop} {x : SV} {ls : List Ln} {k : Nat} {l : Ln} (h : LO M G x ls) (hk : ls[k]? = some l) : ∃ n cap R ty y, x = .sl n 0 ls.length cap ∧ G n ∧ M[n]? = some (.row R ty) ∧ k * 8 + 8 ≤ R.length ∧
    R[k * 8 + 2]? = some (.i .i64 l.cur) ∧ ∀ j v l', 0 < j → j < 8 → v.one = true → l'.key = l.key → lnC (l', y) = (lnC (l, y)).set j v → LO (M.set n (.row (R.set (k * 8 + j) v) ty)) G x (ls.set k l') := by
  obtain ⟨es, rfl, h2, h3, h4⟩ := h
  obtain ⟨e, he, rfl⟩ := at_fst hk
  obtain ⟨n, cap, R, ty, hx, g1, g2, g3, g4⟩ := h2.put (i := k) (c := lnC e) (by rw [List.getElem?_map, he]; rfl)
  rw [List.length_map] at hx
  subst hx
  have hel := h4 e (List.mem_of_getElem? he)
  refine ⟨n, cap, R, ty, e.2, by rw [List.length_map], h3 n rfl, g1, g2, g3 2 (by decide), fun j v l' h0 h8 hv hkey hset => ?_⟩
  have ho := g4 j v h8 hv
  have hA : Ag (fun d => d = n) M (M.set n (.row (R.set (k * 8 + j) v) ty)) := Ag.set rfl
  refine ⟨es.set k (l', e.2), by rw [List.map_set], by rw [List.map_set, hset]; exact ho, h3, fun e' he' => ?_⟩
  have hs : ∀ d, d < M.length → (G d ∧ dnS (.sl n 0 es.length cap) ≠ some d) → ¬ d = n := fun d _ g e => g.2 (by rw [e]; rfl)
  rcases List.mem_or_eq_of_mem_set he' with g | rfl
  · exact (h4 e' g).ag hA hs
  · have := hel.ag hA hs
    exact ⟨by rw [hkey]; exact this.key, this.kg⟩
theorem LO.cell {M : List Blk} {G : Nat → Prop} {x : SV} {ls : List Ln} {k n len cap : Nat} {l : Ln} {R : List SV} {ty : TypeId} (h : LO M G x ls) (hk : ls[k]? = some l) (hx : x = .sl n 0 len cap) (hR : M[n]? = some (.row R ty)) (j : Nat) (v : SV) (l' : Ln) (h0 : 0 < j) (h8 : j < 8) (hv : v.one = true) (hkey : l'.key = l.key)
    (hset : ∀ y, lnC (l', y) = (lnC (l, y)).set j v) : LO (M.set n (.row (R.set (k * 8 + j) v) ty)) G x (ls.set k l') := by
  obtain ⟨n2, cap2, R2, ty2, y, hx2, _, hR2, _, _, g⟩ := h.putG hk
  have e := hx.symm.trans hx2
  cases e
  have e := hR.symm.trans hR2
  cases e
  exact g j v l' h0 h8 hv hkey (hset y)
theorem LnsF.lo {M : List Blk} {c : Nat → Nat} {x : SV} {ls : List Ln} (h : LnsF M c x ls) : LO M (fun n => c n = 3 ∨ c n = 4) x ls := by
  obtain ⟨es, h1, h2, h3, h4⟩ := h
  refine ⟨es, h1, h2, fun d e => .inl (h3 d e), fun e he => ⟨(h4 e he).key, fun d hd => ⟨.inr ((h4 e he).kc d hd), fun e' => ?_⟩⟩⟩
  have a := h3 d e'
  have b := (h4 e he).kc d hd
  omega
theorem splice_two {R : List SV} {i : Nat} {a b : SV} (h : i + 2 ≤ R.length) : splice R i [a, b] = (R.set i a).set (i + 1) b := by
  unfold splice
  refine List.ext_getElem? (fun j => ?_)
  rw [List.append_assoc]
  rcases Nat.lt_or_ge j i with g | g
  · rw [List.getElem?_append_left (by rw [List.length_take]; omega), List.getElem?_take_of_lt g, List.getElem?_set_ne (by omega), List.getElem?_set_ne (by omega)]
  · rw [List.getElem?_append_right (by rw [List.length_take]; omega), List.length_take, Nat.min_eq_left (by omega)]
    by_cases e : j = i
    · subst e
      rw [Nat.sub_self, List.getElem?_set_ne (by omega), List.getElem?_set_self (by omega)]; rfl
    · by_cases e1 : j = i + 1
      · subst e1
        rw [show i + 1 - i = 1 by omega, List.getElem?_set_self (by rw [List.length_set]; omega)]; rfl
      · rw [List.getElem?_append_right (by simp only [List.length_cons, List.length_nil]; omega), List.getElem?_drop, List.getElem?_set_ne (by omega), List.getElem?_set_ne (by omega)]
        simp only [List.length_cons, List.length_nil]
        congr 1
        omega
set_option maxHeartbeats 1000000 in
theorem find_ok (G : Nat → Prop) (x yk : SV) (ls : List Ln) (key : List (BitVec 8)) (i : Nat) (b : Ln) (M : List Blk) (K : SV → List Blk → Prop) (h : Lns M G x ls) (hy : Byt M yk key) (hi : ls[i]? = some b) (hkey : b.key = key) (hj : ∀ (j : Nat) c, j < i → ls[j]? = some c → c.key ≠ key) (hlen : ls.length ≤ 1000)
    (hK : ∀ M' y, y.one = true → Ag (fun _ => False) M M' → K (.tup [.agg (lnC (b, y)), .b true]) M') :
    callVC Try.prog 9 [x, yk] M K := by
  have lx : ∀ {M' : List Blk} {e a' b' : Nat} {K : SV → Prop}, lenB (.slice e a' b') M' x K = K (.i .i64 ls.length) := h.lenB
  have o1 := h.one
  have o2 := hy.one
  have hil := (List.getElem?_eq_some_iff.1 hi).1
  refine fn_rule tabOK Try.func9 rfl Try.call9 (by kernel_rfl) (fun hM => ?_)
  (refine top_in ?_; simp -implicitDefEqProofs only [Try.ntmps9, Try.results9, go_sem, -List.reduceReplicate, ↓L_gdZ_tt, ↓L_gdZ_tf, ↓L_gdZ_ft, ↓L_gdZ_ff, ↓T_and, ↓T_imp, ↓T_all, o1, o2, lx]; try simp only [top_out])
  refine loop_code tabOK (by kernel_rfl) (fun m ts M' => ∃ k : Nat, k + m = ls.length ∧ k ≤ i ∧ Ag (fun _ => False) M M' ∧ (∃ a1 a2 a3 a4 a5 a6 a7 a8 ty, M'[M.length]? = some (.row [a1, a2, a3, a4, a5, a6, a7, a8] ty)) ∧ frC [some (x), some (yk), none, none, some (.p M.length 0), some (.b false), some (.i .i64 k), none, none, none, none, none, none, none, none, none, none, none, none, none, none, none, none, none, none, none, none] ts) ls.length ?_ ?_
  · exact ⟨0, by omega, by omega, Ag.app, ⟨_, _, _, _, _, _, _, _, _, by rw [get_app0]; rfl⟩, by simp [frC]⟩
  · rintro m ts M1 ⟨k, hk, hki, hA, ⟨a1, a2, a3, a4, a5, a6, a7, a8, ty, hr⟩, hf⟩
    have hm := hA.1
    obtain ⟨f, rfl⟩ := frC_open _ _ 0 hf
    clear hf
    (refine top_in ?_; simp -implicitDefEqProofs only [go_sem, -List.reduceReplicate, ↓L_gdZ_tt, ↓L_gdZ_tf, ↓L_gdZ_ft, ↓L_gdZ_ff, ↓T_and, ↓T_imp, ↓T_all, o1, o2, lx]; try simp only [top_out])
    refine ⟨fun c1 => ?_, fun c1 => by omega⟩
    obtain ⟨n, cap, e, rfl, l1, g1, g2, g3, g4, g5, _⟩ := (h.ag hA (fun _ _ _ e => e)).at (k := k) (by omega)
    have ok := g2.key.one
    rw [show lnC e = [e.2, SV.i .i64 e.1.side, .i .i64 e.1.cur, .i .i64 e.1.next, .u64 e.1.sc, .u64 e.1.ce, .i .i64 e.1.sec, .i .i64 e.1.nano] from rfl] at g3
    (refine top_in ?_; simp -implicitDefEqProofs only [go_sem, -List.reduceReplicate, ↓L_gdZ_tt, ↓L_gdZ_tf, ↓L_gdZ_ft, ↓L_gdZ_ff, ↓T_and, ↓T_imp, ↓T_all, g5, ok, o2]; try simp only [top_out])
    repeat (with_reducible refine And.intro (by omega) ?_)
    refine same_byt _ _ _ _ _ _ g2.key (hy.ag hA (fun _ _ e => e)) ?_
    have hh : ∀ B, (M1.set M.length B)[M.length]? = some B := fun B => gss0 (kw hr)
    (refine top_in ?_; simp -implicitDefEqProofs only [go_sem, -List.reduceReplicate, ↓L_gdZ_tt, ↓L_gdZ_tf, ↓L_gdZ_ft, ↓L_gdZ_ff, ↓T_and, ↓T_imp, ↓T_all, g3, ok, o2, hr, hh]; try simp only [top_out])
    refine ⟨fun c2 => ?_, fun c2 => ?_⟩
    · have c2 : e.1.key = key := by simpa using c2
      obtain rfl : k = i := by
        rcases Nat.lt_or_ge k i with g | g
        · exact absurd c2 (hj k _ g g1)
        · omega
      rw [hi] at g1
      cases g1
      repeat (with_reducible refine And.intro (by omega) ?_)
      exact dropC_all (by simp; omega) (hK _ e.2 ok (Ag.trans hA (S' := fun n => n = M.length) (Ag.set rfl) (fun n h1 h2 => by omega)))
    · have c2 : e.1.key ≠ key := by simpa using c2
      have hne : k ≠ i := by
        rintro rfl
        rw [hi] at g1
        cases g1
        exact c2 hkey
      exact ⟨m - 1, by omega, k + 1, by omega, by omega, hA, ⟨_, _, _, _, _, _, _, _, _, rfl⟩, w64 (by omega) (by omega)⟩
end Go.Proofs.Ytdcplcfedcmcmaa.Eng

/- 'ConfigLanes': the law's walk. -/
namespace Go.Proofs.Ytdcplcfedcmcmaa.Eng
open Go Go.RowKit
set_option linter.unusedSimpArgs false
set_option linter.unusedVariables false

theorem lnC_eq (e : Ln × SV) : lnC e = [e.2, SV.i .i64 e.1.side, .i .i64 e.1.cur, .i .i64 e.1.next, .u64 e.1.sc, .u64 e.1.ce, .i .i64 e.1.sec, .i .i64 e.1.nano] := rfl
set_option maxHeartbeats 4000000 in
set_option maxRecDepth 20000 in
theorem llanes_ok (x : SV) (es : List (List SV)) (M : List Blk) (K : SV → List Blk → Prop) (h : Lst M 1 x es) (hc : ∀ c ∈ es, RChs M c) (hK : ∀ M', K (.b true) M') :
    callVC Try.prog 4 [x] M K := by
  have la : ∀ {M' : List Blk} {e a' b' : Nat} {K : SV → Prop}, lenB (.slice e a' b') M' x K = K (.i .i64 es.length) := h.lenB
  refine fn_rule tabOK Try.func4 rfl Try.call4 (by kernel_rfl) (fun hM => ?_)
  (refine top_in ?_; simp -implicitDefEqProofs only [Try.ntmps4, Try.results4, go_sem, -List.reduceReplicate, ↓L_gdZ_tt, ↓L_gdZ_tf, ↓L_gdZ_ft, ↓L_gdZ_ff, ↓T_and, ↓T_imp, ↓T_all, la]; try simp only [top_out])
  refine first_ok _ _ (fun M1 A1 => ?_)
  (refine top_in ?_; simp -implicitDefEqProofs only [go_sem, -List.reduceReplicate, ↓L_gdZ_tt, ↓L_gdZ_tf, ↓L_gdZ_ft, ↓L_gdZ_ff, ↓T_and, ↓T_imp, ↓T_all, la]; try simp only [top_out])
  refine loop_code tabOK (by kernel_rfl) (fun m ts M' => ∃ (k : Nat) (y z : SV) (s : St), k + m = es.length ∧ k ≤ 60 ∧ Ag (fun _ => False) M M' ∧ Prs M' (fun _ => True) y s.ps ∧ Lns M' (fun _ => True) z s.ls ∧ s.Right ∧ Low (34 * k) s.ls ∧
    frC (some (x) :: none :: none :: some (.b true) :: some (y) :: some (z) :: some (.i .i64 k) :: none :: none :: none :: none :: none :: none :: none :: none :: none :: none :: none :: none :: none :: none :: none :: none :: none :: none :: none :: none :: none :: none :: none :: none :: none :: none :: none :: none :: none :: none :: none :: none :: none :: none :: none :: none :: none :: none :: none :: none :: none :: none :: none :: none :: none :: none :: none :: none :: none :: none :: none :: none :: none :: none :: none :: none :: none :: none :: none :: none :: none :: none :: none :: none :: none :: none :: none :: none :: none :: none :: none :: none :: none :: none :: none :: none :: none :: none :: none :: none :: none :: none :: none :: none :: none :: none :: none :: none :: none :: none :: none :: none :: none :: none :: none :: none :: none :: none :: none :: none :: none :: none :: none :: none :: none :: none :: none :: none :: none :: none :: none :: none :: none :: none :: none :: none :: none :: none :: none :: none :: none :: none :: none :: none :: none :: none :: none :: none :: none :: none :: none :: none :: none :: none :: none :: none :: none :: none :: none :: none :: none :: none :: none :: none :: none :: none :: none :: none :: none :: none :: none :: none :: none :: none :: none :: none :: none :: none :: none :: none :: []) ts) es.length ?_ ?_
  · exact ⟨0, .sn, .sn, St.mk [] [], by omega, by omega, A1, Prs.sn, Lns.sn, right_nil, fun a ha => by simp at ha, by simp [frC]⟩
  · rintro m ts M3 ⟨k, y, z, s, hk, hk60, hA, hy, hz, hs, hlow, hf⟩
    have hm := hA.1
    have o1 := hy.one
    have o2 := hz.one
    have hnl := hs.nl
    have lz : ∀ {M' : List Blk} {e a' b' : Nat} {K : SV → Prop}, lenB (.slice e a' b') M' z K = K (.i .i64 s.ls.length) := hz.lenB
    obtain ⟨f, rfl⟩ := frC_open _ _ 0 hf
    clear hf
    (refine top_in ?_; simp -implicitDefEqProofs only [go_sem, -List.reduceReplicate, ↓L_gdZ_tt, ↓L_gdZ_tf, ↓L_gdZ_ft, ↓L_gdZ_ff, ↓T_and, ↓T_imp, ↓T_all, la, lz, o1, o2]; try simp only [top_out])
    refine ⟨fun h1 => ⟨fun h2 => ?_, fun h2 => ?_⟩, fun h1 => ?_⟩
    · obtain ⟨nn, cap, rfl, l1, l2, ea⟩ := (h.ag hA (fun _ _ e => e)).at (by omega)
      have hg : es[k]? = some es[k] := List.getElem?_eq_getElem (by omega)
      generalize es[k] = c at hg
      obtain ⟨g1, g2, g3, g4⟩ := ea k c hg
      obtain ⟨xc, cs, rfl, hC⟩ := hc c (List.mem_of_getElem? hg)
      have hC3 := hC.ag hA (fun _ _ _ e => e)
      have o3 := hC3.one
      have q1 : (cellsB M3[nn]?).getD k uS = xc := getD_of (by have := g4 0 (by decide); simpa using this)
      rw [Nat.mul_one] at g1 g3
      (refine top_in ?_; simp -implicitDefEqProofs only [go_sem, -List.reduceReplicate, ↓L_gdZ_tt, ↓L_gdZ_tf, ↓L_gdZ_ft, ↓L_gdZ_ff, ↓T_and, ↓T_imp, ↓T_all, la, q1, g1, o1, o2, o3]; try simp only [top_out])
      repeat (with_reducible refine And.intro (by omega) ?_)
      refine judgeF_ok _ _ _ y z xc s cs _ _ hy hz hC3 hs (fun M4 i e hj A4 => ?_) (fun M4 y2 z2 s2 col hj P4 L4 hout A4 => ?_)
      · have he : ((e != 0) = true) := by simpa using St.judge_err hj
        (refine top_in ?_; simp -implicitDefEqProofs only [go_sem, -List.reduceReplicate, ↓L_gdZ_tt, ↓L_gdZ_tf, ↓L_gdZ_ft, ↓L_gdZ_ff, ↓T_and, ↓T_imp, ↓T_all, o1, o2]; try simp only [top_out])
        refine num_ok _ _ _ ?_
        (refine top_in ?_; simp -implicitDefEqProofs only [go_sem, -List.reduceReplicate, ↓L_gdZ_tt, ↓L_gdZ_tf, ↓L_gdZ_ft, ↓L_gdZ_ff, ↓T_and, ↓T_imp, ↓T_all, o1, o2, he]; try simp only [top_out])
        exact ⟨m - 1, by omega, k + 1, y, z, s, by omega, by omega, hA.then A4, hy.ag A4 (fun _ _ _ e => e), hz.ag A4 (fun _ _ _ e => e), hs, fun a ha => by have := hlow a ha; omega, rfl, rfl, w64 (by omega) (by omega)⟩
      · have hs2 := St.judge_right hs hj
        have hnl2 := hs2.nl
        obtain ⟨hr1, hr2⟩ := judge_rise hj
        have hlow2 := hr2 _ (by omega) hlow
        have o4 := P4.prs.one
        have o5 := L4.lns.one
        have lz2 : ∀ {M' : List Blk} {e a' b' : Nat} {K : SV → Prop}, lenB (.slice e a' b') M' z2 K = K (.i .i64 s2.ls.length) := L4.lns.lenB
        (refine top_in ?_; simp -implicitDefEqProofs only [go_sem, -List.reduceReplicate, ↓L_gdZ_tt, ↓L_gdZ_tf, ↓L_gdZ_ft, ↓L_gdZ_ff, ↓T_and, ↓T_imp, ↓T_all, o1, o2, o4, o5]; try simp only [top_out])
        refine num_ok _ _ _ ?_
        (refine top_in ?_; simp -implicitDefEqProofs only [go_sem, -List.reduceReplicate, ↓L_gdZ_tt, ↓L_gdZ_tf, ↓L_gdZ_ft, ↓L_gdZ_ff, ↓T_and, ↓T_imp, ↓T_all, o1, o2, o4, o5, Int.reduceBNe]; try simp only [top_out])
        refine loop_code tabOK (by kernel_rfl) (fun m ts M' => ∃ j : Nat, j + m = s.ls.length ∧ Ag (fun _ => False) M4 M' ∧ frC (some (.sl nn 0 es.length cap) :: none :: none :: some (.b true) :: some (y) :: some (z) :: some (.i .i64 k) :: some (y2) :: some (z2) :: none :: none :: some (.i .i64 j) :: none :: none :: none :: none :: none :: none :: none :: none :: none :: none :: none :: none :: none :: none :: none :: none :: none :: none :: none :: none :: none :: none :: none :: none :: none :: none :: none :: none :: none :: none :: none :: none :: none :: none :: none :: none :: none :: none :: none :: none :: none :: none :: none :: none :: none :: none :: none :: none :: none :: none :: none :: none :: none :: none :: none :: none :: none :: none :: none :: none :: none :: none :: none :: none :: none :: none :: none :: none :: none :: none :: none :: none :: none :: none :: none :: none :: none :: none :: none :: none :: none :: none :: none :: none :: none :: none :: none :: none :: none :: none :: none :: none :: none :: none :: none :: none :: none :: none :: none :: none :: none :: none :: none :: none :: none :: none :: none :: none :: none :: none :: none :: none :: none :: none :: none :: none :: none :: none :: none :: none :: none :: none :: none :: none :: none :: none :: none :: none :: none :: none :: none :: none :: none :: none :: none :: none :: none :: none :: none :: none :: none :: none :: none :: none :: none :: none :: none :: none :: none :: none :: none :: none :: none :: none :: none :: []) ts) s.ls.length ?_ ?_
        · exact ⟨0, by omega, Ag.refl, by simp [frC]⟩
        · rintro m1 ts M5 ⟨j, hjm, hA5, hf⟩
          have hz5 := (hz.ag A4 (fun _ _ _ e => e)).ag hA5 (fun _ _ _ e => e)
          have hL5 := L4.ag hA5 (fun _ _ => rfl) (fun _ _ _ e => e)
          obtain ⟨f, rfl⟩ := frC_open _ _ 0 hf
          clear hf
          (refine top_in ?_; simp -implicitDefEqProofs only [go_sem, -List.reduceReplicate, ↓L_gdZ_tt, ↓L_gdZ_tf, ↓L_gdZ_ft, ↓L_gdZ_ff, ↓T_and, ↓T_imp, ↓T_all, la, lz, lz2, o1, o2, o4, o5]; try simp only [top_out])
          refine ⟨fun c1 => ?_, fun c1 => ?_⟩
          · obtain ⟨n6, cap6, e, rfl, l6, g61, g62, g63, g64, g65, _⟩ := hz5.at (k := j) (by omega)
            have ok := g62.key.one
            rw [lnC_eq] at g63
            (refine top_in ?_; simp -implicitDefEqProofs only [go_sem, -List.reduceReplicate, ↓L_gdZ_tt, ↓L_gdZ_tf, ↓L_gdZ_ft, ↓L_gdZ_ff, ↓T_and, ↓T_imp, ↓T_all, g63, ok, o4, o5]; try simp only [top_out])
            repeat (with_reducible refine And.intro (by omega) ?_)
            obtain ⟨b, hb, hr⟩ := hr1 e.1 (List.mem_of_getElem? g61)
            obtain ⟨i, hi, hu⟩ := lane_at hs2 hb
            have hkey := hr.key
            refine find_ok _ z2 e.2 s2.ls e.1.key i b _ _ hL5.lns.app g62.key.app hi hkey (fun j' c' a1 a2 => by rw [← hkey]; exact hu j' c' a1 a2) (by omega) (fun M6 yb ob A6 => ?_)
            rw [lnC_eq]
            have c0 := A6.at0 noS rfl
            have e3 : ∀ z : Int, (z != z) = false := fun z => by simp
            have e4 := hr.side
            have e5 := hr.next
            have e6 := hr.sec
            have e7 := hr.nano
            have hA6 := hA5.then ((Ag.app (S := fun _ => False)).then A6)
            (refine top_in ?_; simp -implicitDefEqProofs only [go_sem, -List.reduceReplicate, ↓L_gdZ_tt, ↓L_gdZ_tf, ↓L_gdZ_ft, ↓L_gdZ_ff, ↓T_and, ↓T_imp, ↓T_all, ok, o4, o5, ob, get_lt (kw c0), c0, e4, e5, e6, e7, e3]; try simp only [top_out])
            refine stamp_ok _ _ _ _ _ _ ?_
            have e8 : decide (e.1.sec = e.1.sec ∧ e.1.nano = e.1.nano) = true := decide_eq_true ⟨rfl, rfl⟩
            have e9 : (e.1.cur < e.1.cur) = False := eq_false (Int.lt_irrefl _)
            have f3 : ∀ z : Int, (z == z) = true := fun z => by simp
            have f4 : ∀ z : BitVec 64, (z != z) = false := fun z => by simp
            rcases hr.cur with ⟨r1, r2, r3⟩ | ⟨r1, r2, r3, r4⟩
            · (refine top_in ?_; simp -implicitDefEqProofs only [go_sem, -List.reduceReplicate, ↓L_gdZ_tt, ↓L_gdZ_tf, ↓L_gdZ_ft, ↓L_gdZ_ff, ↓T_and, ↓T_imp, ↓T_all, ok, o4, o5, ob, get_lt (kw c0), c0, e3, e8, r1, r2, r3, e9, f3, f4]; try simp only [top_out])
              exact ⟨m1 - 1, by omega, j + 1, by omega, hA6.then Ag.app, w64 (by omega) (by omega)⟩
            · have t1 : (b.cur < e.1.cur) = False := eq_false (by omega)
              have t2 : (b.cur == e.1.cur) = false := by simp; omega
              have t3 : (b.cur != e.1.cur) = true := by simp; omega
              have t4 : (b.cur ≤ e.1.next) = False := eq_false (by omega)
              (refine top_in ?_; simp -implicitDefEqProofs only [go_sem, -List.reduceReplicate, ↓L_gdZ_tt, ↓L_gdZ_tf, ↓L_gdZ_ft, ↓L_gdZ_ff, ↓T_and, ↓T_imp, ↓T_all, ok, o4, o5, ob, get_lt (kw c0), c0, e3, e8, r3, r4, t1, t2, t3, t4, f4]; try simp only [top_out])
              exact ⟨m1 - 1, by omega, j + 1, by omega, hA6.then Ag.app, w64 (by omega) (by omega)⟩
          · have hR1 : (St.mk s2.ps s2.ls).Right := hs2
            have hP5 := (P4.ag hA5 (fun _ _ => rfl) (fun _ _ _ e => e))
            have hA7 : Ag (fun n => col n = 3) M4 M5 := hA5.mono (fun _ e => e.elim)
            have hm5 := hA5.1
            have hm4 := A4.1
            have hz3 : ∀ d, dnS z2 = some d → col d = 3 := by
              obtain ⟨_, _, _, h3, _⟩ := L4
              exact h3
            have hcol : ∀ n, n < M3.length → col n ≠ 3 := fun n hn e => by have := hout n hn; omega
            refine loop_code tabOK (by kernel_rfl) (fun m ts M' => ∃ (j : Nat) (ls1 : List Ln), j + m = s2.ls.length ∧ ls1.length = s2.ls.length ∧ (St.mk s2.ps ls1).Right ∧ (∀ a ∈ ls1, a.cur ≤ 34 * (k : Int) + 32 ∧ a.next ≤ 34 * (k : Int) + 34) ∧ LO M' (fun n => col n = 3 ∨ col n = 4) z2 ls1 ∧ Prs M' (fun n => col n ≠ 0 ∧ col n ≠ 3) y2 s2.ps ∧ Ag (fun n => M3.length ≤ n) M3 M' ∧ frC (some (.sl nn 0 es.length cap) :: none :: none :: some (.b true) :: some (y2) :: some (z2) :: some (.i .i64 k) :: none :: none :: none :: none :: none :: none :: none :: none :: some (.i .i64 j) :: none :: none :: none :: none :: none :: none :: none :: none :: none :: none :: none :: none :: none :: none :: none :: none :: none :: none :: none :: none :: none :: none :: none :: none :: none :: none :: none :: none :: none :: none :: none :: none :: none :: none :: none :: none :: none :: none :: none :: none :: none :: none :: none :: none :: none :: none :: none :: none :: none :: none :: none :: none :: none :: none :: none :: none :: none :: none :: none :: none :: none :: none :: none :: none :: none :: none :: none :: none :: none :: none :: none :: none :: none :: none :: none :: none :: none :: none :: none :: none :: none :: none :: none :: none :: none :: none :: none :: none :: none :: none :: none :: none :: none :: none :: none :: none :: none :: none :: none :: none :: none :: none :: none :: none :: none :: none :: none :: none :: none :: none :: none :: none :: none :: none :: none :: none :: none :: none :: none :: none :: none :: none :: none :: none :: none :: none :: none :: none :: none :: none :: none :: none :: none :: none :: none :: none :: none :: none :: none :: none :: none :: none :: none :: none :: none :: none :: none :: none :: none :: none :: none :: []) ts) s2.ls.length ?_ ?_
            · refine ⟨0, s2.ls, by omega, rfl, hs2, fun a ha => by have := hlow2 a ha; omega, hL5.lo, ?_, (A4.then hA5).mono (fun _ e => e.elim), by simp [frC]⟩
              obtain ⟨fs, e1, e2, e3, e4⟩ := hP5
              exact ⟨fs, e1, e2.lst (by decide), fun d e => by have := e3 d e; omega, fun f hf => ⟨(e4 f hf).key, fun d e => by have := (e4 f hf).kc d e; omega, (e4 f hf).pfx.lst (by decide), fun d e => by have := (e4 f hf).pc d e; omega⟩⟩
            · rintro m2 ts M6 ⟨j2, ls1, hj2, hl1, hR, hb, hLO, hP6, hA8, hf⟩
              obtain ⟨f, rfl⟩ := frC_open _ _ 0 hf
              clear hf
              (refine top_in ?_; simp -implicitDefEqProofs only [go_sem, -List.reduceReplicate, ↓L_gdZ_tt, ↓L_gdZ_tf, ↓L_gdZ_ft, ↓L_gdZ_ff, ↓T_and, ↓T_imp, ↓T_all, la, lz2, o4, o5]; try simp only [top_out])
              refine ⟨fun c2 => ?_, fun c2 => ?_⟩
              · obtain ⟨l, hl⟩ : ∃ l, ls1[j2]? = some l := ⟨_, List.getElem?_eq_getElem (by omega)⟩
                obtain ⟨n, cap2, R, ty, yk, rfl, p1, p2, p3, p4, _⟩ := hLO.putG hl
                have hh : ∀ B, (M6.set n B)[n]? = some B := fun B => gss0 (kw p2)
                obtain ⟨i1, i2⟩ := isI_of p4
                (refine top_in ?_; simp -implicitDefEqProofs only [go_sem, -List.reduceReplicate, ↓L_gdZ_tt, ↓L_gdZ_tf, ↓L_gdZ_ft, ↓L_gdZ_ff, ↓T_and, ↓T_imp, ↓T_all, o4, p2, hh, i1, i2, List.set_set, List.length_set]; try simp only [top_out])
                repeat (with_reducible refine And.intro (by omega) ?_)
                have hn3 := hz3 n rfl
                have ht : 0 ≤ (j2 : Int).tmod 3 ∧ (j2 : Int).tmod 3 ≤ 2 := by
                  have := Int.tmod_nonneg 3 (Int.natCast_nonneg j2)
                  have := Int.tmod_lt_of_pos (j2 : Int) (by decide : (0 : Int) < 3)
                  omega
                have hlb := hb l (List.mem_of_getElem? hl)
                have hlo := hR.lane l (List.mem_of_getElem? hl)
                have hlc := hlo.cur
                generalize (j2 : Int).tmod 3 = tt at ht
                rw [splice_two (by simp only [List.length_set]; omega), show j2 * 8 + 6 + 1 = j2 * 8 + 7 from rfl, w64 (x := l.cur + tt) (by omega) (by omega)]
                have hs0 : ∀ a b : Ln, ((ls1.set j2 a).set j2 b)[j2]? = some b := fun a b => List.getElem?_set_self (by rw [List.length_set]; omega)
                have u1 := hLO.cell hl rfl p2 3 (.i .i64 (l.cur + tt)) { l with next := l.cur + tt } (by decide) (by decide) rfl rfl (fun _ => rfl)
                have u2 := u1.cell (List.getElem?_set_self (by omega)) rfl (hh _) 4 (.u64 10#64) { l with next := l.cur + tt, sc := 10#64 } (by decide) (by decide) rfl rfl (fun _ => rfl)
                have u3 := u2.cell (hs0 _ _) rfl (by rw [List.set_set]; exact hh _) 5 (.u64 20#64) { l with next := l.cur + tt, sc := 10#64, ce := 20#64 } (by decide) (by decide) rfl rfl (fun _ => rfl)
                simp only [List.set_set] at u3
                have u4 := u3.cell (List.getElem?_set_self (by omega)) rfl (hh _) 6 (.i .i64 (IntKind.i64.wrap ((j2 : Int) + 1))) { l with next := l.cur + tt, sc := 10#64, ce := 20#64, sec := IntKind.i64.wrap ((j2 : Int) + 1) } (by decide) (by decide) rfl rfl (fun _ => rfl)
                have u5 := u4.cell (hs0 _ _) rfl (by rw [List.set_set]; exact hh _) 7 (.i .i64 0) { l with next := l.cur + tt, sc := 10#64, ce := 20#64, sec := IntKind.i64.wrap ((j2 : Int) + 1), nano := 0 } (by decide) (by decide) rfl rfl (fun _ => rfl)
                simp only [List.set_set] at u5
                have hA9 : ∀ B, Ag (fun d => d = n) M6 (M6.set n B) := fun B => Ag.set rfl
                refine ⟨m2 - 1, by omega, j2 + 1, _, by omega, List.length_set.trans hl1, right_ln (s := St.mk s2.ps ls1) hR hl (l' := { l with next := l.cur + tt, sc := 10#64, ce := 20#64, sec := IntKind.i64.wrap ((j2 : Int) + 1), nano := 0 }) rfl ⟨hlo.key, hlo.side, hlo.cur, by simp only; omega⟩, fun a ha => ?_, u5, hP6.ag (hA9 _) (fun d _ g e => g.2 (e ▸ hn3)), hA8.then ((hA9 _).mono (fun d e => ?_)), w64 (by omega) (by omega)⟩
                · rcases List.mem_or_eq_of_mem_set ha with g | rfl
                  · exact hb a g
                  · exact ⟨hlb.1, by simp only; omega⟩
                · rcases Nat.lt_or_ge d M3.length with g | g
                  · exact absurd (e ▸ hn3) (hcol d g)
                  · exact g
              · exact ⟨m - 1, by omega, k + 1, y2, z2, St.mk s2.ps ls1, by omega, by omega, Ag.trans hA hA8 (fun n h1 h2 => by omega), hP6.mono (fun _ _ => trivial), hLO.lns.mono (fun _ _ => trivial), hR, fun a ha => by have := hb a ha; omega, rfl, rfl, w64 (by omega) (by omega)⟩
    · exact dropC_all hm (hK _)
    · exact dropC_all hm (hK _)
theorem own : ownKnob Try.prog.godebug = none := by kernel_rfl
theorem laid : laidOutB Try.prog = true := by kernel_rfl
theorem law_configLanes {M : List Blk} {x : SV} (h : RLst 1 RChs M [x]) : callVC Try.prog 4 [x] M (fun v _ => v = .b true) := by
  obtain ⟨y, es, e, h1, h2⟩ := h
  cases e
  exact llanes_ok x es M _ h1 h2 (fun _ => rfl)
end Go.Proofs.Ytdcplcfedcmcmaa.Eng
