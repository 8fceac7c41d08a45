/- Joined texts: F6, E9. -/
import Derived.Test.YtdcplcfedcmcmaaGreatF2
import Derived.Test.YtdcplcfedcmcmaaGreatF5
import Derived.Test.YtdcplcfedcmcmaaGreatMh
/- The law's own look at a configuration: its answer says whether it is one. -/
namespace Go.Proofs.YtdcplcfedcmcmaaGreat.Eng
open Go Go.RowKit
set_option linter.unusedSimpArgs false
set_option linter.unusedVariables false

set_option maxHeartbeats 2000000 in
theorem right_ok (G G' : Nat → Prop) (xp xl : SV) (s : St) (M : List Blk) (K : SV → List Blk → Prop) (hP : Prs M G xp s.ps) (hL : Lns M G' xl s.ls) (hK : ∀ b : Bool, (b = true ↔ s.Right) → K (.b b) M) :
    callVC Tryz.prog 9 [.agg [xp, xl]] M K := by
  have la : ∀ {M' : List Blk} {e a' b' : Nat} {K : SV → Prop}, lenB (.slice e a' b') M' xp K = K (.i .i64 s.ps.length) := hP.lenB
  have lb : ∀ {M' : List Blk} {e a' b' : Nat} {K : SV → Prop}, lenB (.slice e a' b') M' xl K = K (.i .i64 s.ls.length) := hL.lenB
  have o1 := hP.one
  have o2 := hL.one
  have hF : ¬ s.Right → K (.b false) M := fun h => hK false (by simp [h])
  refine fn_rule tabOK Tryz.func9 rfl Tryz.call9 (by kernel_rfl) (fun hM => ?_)
  (refine top_in ?_; simp -implicitDefEqProofs only [Tryz.ntmps9, Tryz.results9, go_sem, -List.reduceReplicate, ↓L_gdZ_tt, ↓L_gdZ_tf, ↓L_gdZ_ft, ↓L_gdZ_ff, ↓T_and, ↓T_imp, ↓T_all, o1, o2, la, lb]; try simp only [top_out])
  refine ⟨fun h1 => ⟨fun h2 => dropF hM Ag.app (hF fun g => by have := g.nl; omega), fun h2 => ?_⟩, fun h1 => dropF hM Ag.app (hF fun g => by have := g.np; omega)⟩
  refine loop_code tabOK (by kernel_rfl) (fun m ts M' => ∃ k : Nat, k + m = s.ls.length ∧ Ag (fun _ => False) M M' ∧ M'[M.length]? = some (.row [xp, xl] 27) ∧ (∀ (i : Nat) l, i < k → s.ls[i]? = some l → LaneG s i l) ∧ frC (none :: some (.p M.length 0) :: none :: some (.i .i64 k) :: none :: none :: none :: none :: none :: none :: none :: none :: none :: none :: none :: none :: none :: none :: none :: none :: none :: none :: none :: none :: none :: none :: none :: none :: none :: none :: none :: none :: none :: none :: none :: none :: none :: none :: none :: none :: none :: none :: none :: none :: none :: none :: none :: none :: none :: none :: none :: none :: none :: none :: none :: none :: none :: none :: none :: none :: none :: none :: none :: none :: none :: none :: none :: none :: none :: none :: none :: none :: none :: none :: none :: none :: none :: none :: none :: none :: none :: none :: none :: none :: none :: none :: none :: none :: []) ts) s.ls.length ?_ ?_
  · exact ⟨0, by omega, Ag.app, by rw [get_app0]; rfl, fun i l h => by omega, by simp [frC]⟩
  · rintro m ts M1 ⟨k, hk, hA, hb, hg, hf⟩
    have hm := hA.1
    obtain ⟨f, rfl⟩ := frC_open _ _ 0 hf
    clear hf
    (refine top_in ?_; simp -implicitDefEqProofs only [go_sem, -List.reduceReplicate, ↓L_gdZ_tt, ↓L_gdZ_tf, ↓L_gdZ_ft, ↓L_gdZ_ff, ↓T_and, ↓T_imp, ↓T_all, hb, la, lb, o1, o2]; try simp only [top_out])
    refine ⟨fun h3 => ?_, fun h3 => ?_⟩
    · obtain ⟨n, cap, e, rfl, l1, g1, g2, g3, g4, g5, g6, g7, g8⟩ := (hL.ag hA (fun _ _ _ e => e)).at (k := k) (by omega)
      have ok := g2.key.one
      have lk : ∀ {M' : List Blk} {e' a' b' : Nat} {K : SV → Prop}, lenB (.slice e' a' b') M' e.2 K = K (.i .i64 e.1.key.length) := g2.key.lenB
      rw [show lnC e = [e.2, SV.i .i64 e.1.side, .i .i64 e.1.cur, .i .i64 e.1.next, .u64 e.1.sc, .u64 e.1.ce, .i .i64 e.1.sec, .i .i64 e.1.nano] from rfl] at g3
      (refine top_in ?_; simp -implicitDefEqProofs only [go_sem, -List.reduceReplicate, ↓L_gdZ_tt, ↓L_gdZ_tf, ↓L_gdZ_ft, ↓L_gdZ_ff, ↓T_and, ↓T_imp, ↓T_all, hb, get_lt (kw hb), la, lb, o1, o2, g3, ok, lk]; try simp only [top_out])
      repeat (with_reducible refine And.intro (by omega) ?_)
      have hA2 : ∀ L, Ag (fun _ => False) M (M1 ++ L) := fun L => hA.then Ag.app
      refine ⟨fun c1 => ⟨fun c2 => ⟨fun c3 => ⟨fun c4 => ⟨fun c5 => ⟨fun c6 => ⟨fun c7 => dropF hM (hA2 _) (hF fun g => by have := (lane_of g g1).ok; have := this.next; omega), fun c7 => ?_⟩, fun c6 => dropF hM (hA2 _) (hF fun g => by have := (lane_of g g1).ok; have := this.next; omega)⟩, fun c5 => dropF hM (hA2 _) (hF fun g => by have := (lane_of g g1).ok; have := this.cur; omega)⟩, fun c4 => dropF hM (hA2 _) (hF fun g => by have := (lane_of g g1).ok; have := this.cur; omega)⟩, fun c3 => dropF hM (hA2 _) (hF fun g => by have := (lane_of g g1).ok; have := this.side; omega)⟩, fun c2 => dropF hM (hA2 _) (hF fun g => by have := (lane_of g g1).ok; have := this.side; omega)⟩, fun c1 => dropF hM (hA2 _) (hF fun g => by have := (lane_of g g1).ok.key; simp [this] at c1)⟩
      have hok : e.1.Ok := ⟨by have := bneF c1; omega, by omega, by omega, by omega⟩
      refine draw_rule tabOK (by kernel_rfl : _) (.p 0 (.p 1 (.p 2 (.p 3 (.p 4 (.p 5 (.p 6 (.p 7 (.p 8 (.p 9 (.p 10 (.p 11 (.e 12 [] (.p 13 (.p 14 .nil)) .no))))))))))))) (by kernel_rfl) (by kernel_rfl) ?_
      (refine top_in ?_; simp -implicitDefEqProofs only [go_sem, -List.reduceReplicate, ↓L_gdZ_tt, ↓L_gdZ_tf, ↓L_gdZ_ft, ↓L_gdZ_ff, ↓T_and, ↓T_imp, ↓T_all, hb, get_lt (kw hb), get_lt l1, la, lb, o1, o2, g3, ok, lk]; try simp only [top_out])
      refine ⟨fun h5 => ?_, fun h5 => ?_⟩
      · obtain ⟨j, rfl⟩ : ∃ j, k = j + 1 := ⟨k - 1, by omega⟩
        have wj : IntKind.i64.wrap (((j + 1 : Nat) : Int) - 1) = (j : Int) := (w64 (by omega) (by omega)).trans (by omega)
        obtain ⟨n', cap', e', he', l1', g1', g2', g3', g4', g5', _⟩ := (hL.ag hA (fun _ _ _ e => e)).at (k := j) (by omega)
        cases he'
        rw [wj, Int.toNat_natCast, g5']
        refine ⟨by omega, by omega, by omega, by omega, by omega, ?_⟩
        refine less_byt _ _ _ _ _ _ g2'.key.app g2.key.app ?_
        (refine top_in ?_; simp -implicitDefEqProofs only [go_sem, -List.reduceReplicate, ↓L_gdZ_tt, ↓L_gdZ_tf, ↓L_gdZ_ft, ↓L_gdZ_ff, ↓T_and, ↓T_imp, ↓T_all, hb, get_lt (kw hb), la, lb, o1, o2]; try simp only [top_out])
        refine ⟨fun h6 => dropF hM (hA2 _) (hF fun g => by have := (lane_of g g1).ord _ (by omega) (by rw [Nat.add_sub_cancel]; exact g1'); simp [this] at h6), fun h6 => ⟨m - 1, by omega, j + 1 + 1, by omega, hA2 _, fun i l hi hl => ?_, w64 (by omega) (by omega)⟩⟩
        rcases Nat.lt_or_ge i (j + 1) with q | q
        · exact hg i l q hl
        · obtain rfl : i = j + 1 := by omega
          rw [g1] at hl; cases hl
          exact ⟨hok, fun p _ hp => by
            rw [Nat.add_sub_cancel, g1'] at hp; cases hp
            simpa using h6⟩
      · refine ⟨m - 1, by omega, k + 1, by omega, hA2 _, fun i l hi hl => ?_, w64 (by omega) (by omega)⟩
        rcases Nat.lt_or_ge i k with q | q
        · exact hg i l q hl
        · obtain rfl : i = k := by omega
          rw [g1] at hl; cases hl
          exact ⟨hok, fun p h0 _ => by omega⟩
    · obtain rfl : k = s.ls.length := by omega
      have hlanes : ∀ (i : Nat) l, s.ls[i]? = some l → LaneG s i l := fun i l hl => hg i l (List.getElem?_eq_some_iff.1 hl).1 hl
      refine loop_code tabOK (by kernel_rfl) (fun m ts M' => ∃ k : Nat, k + m = s.ps.length ∧ Ag (fun _ => False) M M' ∧ M'[M.length]? = some (.row [xp, xl] 27) ∧ (∀ (i : Nat) p, i < k → s.ps[i]? = some p → PeerG s i p) ∧ frC (none :: some (.p M.length 0) :: none :: none :: none :: some (.i .i64 k) :: none :: none :: none :: none :: none :: none :: none :: none :: none :: none :: none :: none :: none :: none :: none :: none :: none :: none :: none :: none :: none :: none :: none :: none :: none :: none :: none :: none :: none :: none :: none :: none :: none :: none :: none :: none :: none :: none :: none :: none :: none :: none :: none :: none :: none :: none :: none :: none :: none :: none :: none :: none :: none :: none :: none :: none :: none :: none :: none :: none :: none :: none :: none :: none :: none :: none :: none :: none :: none :: none :: none :: none :: none :: none :: none :: none :: none :: none :: none :: none :: none :: none :: []) ts) s.ps.length ?_ ?_
      · exact ⟨0, by omega, hA, hb, fun i l h => by omega, by simp [frC]⟩
      · clear hk hg hb hm
        rintro m ts M3 ⟨k, hk, hA3, hb, hg, hf⟩
        have hm := hA3.1
        obtain ⟨f, rfl⟩ := frC_open _ _ 0 hf
        clear hf
        (refine top_in ?_; simp -implicitDefEqProofs only [go_sem, -List.reduceReplicate, ↓L_gdZ_tt, ↓L_gdZ_tf, ↓L_gdZ_ft, ↓L_gdZ_ff, ↓T_and, ↓T_imp, ↓T_all, hb, la, lb, o1, o2]; try simp only [top_out])
        refine ⟨fun h3 => ?_, fun h3 => ?_⟩
        · refine lpeer_ok G G' xp xl s k M3 _ (hP.ag hA3 (fun _ _ _ e => e)) (hL.ag hA3 (fun _ _ _ e => e)) (by omega) (by omega) (by omega) (fun i q hi hq => (hg i q hi hq).many) (fun b hb2 => ?_)
          (refine top_in ?_; simp -implicitDefEqProofs only [go_sem, -List.reduceReplicate, ↓L_gdZ_tt, ↓L_gdZ_tf, ↓L_gdZ_ft, ↓L_gdZ_ff, ↓T_and, ↓T_imp, ↓T_all, hb, la, lb, o1, o2]; try simp only [top_out])
          refine ⟨fun h6 => dropF hM hA3 (hF fun g => by have := (hb2 _ (List.getElem?_eq_getElem (by omega : k < s.ps.length))).2 (peer_of g (List.getElem?_eq_getElem (by omega))); simp [this] at h6), fun h6 => ⟨m - 1, by omega, k + 1, by omega, hA3, fun i p hi hp => ?_, w64 (by omega) (by omega)⟩⟩
          rcases Nat.lt_or_ge i k with q | q
          · exact hg i p q hp
          · obtain rfl : i = k := by omega
            exact (hb2 p hp).1 (by simpa using h6)
        · obtain rfl : k = s.ps.length := by omega
          exact dropF hM hA3 (hK true (iff_of_true rfl (right_of (by omega) (by omega) hlanes (fun i p hp => hg i p (List.getElem?_eq_some_iff.1 hp).1 hp))))
end Go.Proofs.YtdcplcfedcmcmaaGreat.Eng

/- 'ConfigWhole': the plain law, and the law's walk. -/
namespace Go.Proofs.YtdcplcfedcmcmaaGreat.Eng
open Go Go.RowKit
set_option linter.unusedSimpArgs false
set_option linter.unusedVariables false

theorem judge_one (s : St) (c : Ch) : s.judge [c] = if s.fault c = 0 then .inl (s.done c) else .inr (0, s.fault c) := by
  simp only [St.judge, St.run]
  rw [if_neg (by simp)]
theorem run_step {s : St} {k : Nat} {cs : List Ch} {c : Ch} (h : cs[k]? = some c) : s.run k (cs.drop k) = if s.fault c = 0 then (s.done c).run (k + 1) (cs.drop (k + 1)) else .inr (k, s.fault c) := by
  obtain ⟨hk, rfl⟩ := List.getElem?_eq_some_iff.1 h
  rw [List.drop_eq_getElem_cons hk]
  rfl
theorem judge_run {s : St} {cs : List Ch} (h0 : cs.length ≠ 0) (h1 : cs.length ≤ 32) : s.judge cs = s.run 0 cs := by
  unfold St.judge
  rw [if_neg (by omega)]
set_option maxHeartbeats 2000000 in
theorem whole_ok (G G' G2 : Nat → Prop) (x y z : SV) (s : St) (cs : List Ch) (M : List Blk) (K : SV → List Blk → Prop) (hP : Prs M G x s.ps) (hL : Lns M G' y s.ls) (hC : Chs M G2 z cs) (hK : ∀ M', K (.b true) M') :
    callVC Tryz.prog 5 [x, y, z] M K := by
  have o1 := hP.one
  have o2 := hL.one
  have o3 := hC.one
  have q1 := cellsS_one o1
  have q2 := cellsS_one o2
  have lc : ∀ {M' : List Blk} {e a' b' : Nat} {K : SV → Prop}, lenB (.slice e a' b') M' z K = K (.i .i64 cs.length) := hC.lenB
  refine fn_rule tabOK Tryz.func5 rfl Tryz.call5 (by kernel_rfl) (fun hM => ?_)
  (refine top_in ?_; simp -implicitDefEqProofs only [Tryz.ntmps5, Tryz.results5, go_sem, -List.reduceReplicate, ↓L_gdZ_tt, ↓L_gdZ_tf, ↓L_gdZ_ft, ↓L_gdZ_ff, ↓T_and, ↓T_imp, ↓T_all, o1, o2, o3]; try simp only [top_out])
  refine first_ok _ _ (fun M1 A1 => ?_)
  (refine top_in ?_; simp -implicitDefEqProofs only [go_sem, -List.reduceReplicate, ↓L_gdZ_tt, ↓L_gdZ_tf, ↓L_gdZ_ft, ↓L_gdZ_ff, ↓T_and, ↓T_imp, ↓T_all, o1, o2, o3, q1, q2]; try simp only [top_out])
  have B1 : ∀ L, Ag (fun _ => False) M (M1 ++ L) := fun L => A1.then Ag.app
  refine right_ok _ _ x y s _ _ (hP.ag (B1 _) (fun _ _ _ e => e)) (hL.ag (B1 _) (fun _ _ _ e => e)) (fun b hb => ?_)
  cases b
  · (refine top_in ?_; simp -implicitDefEqProofs only [go_sem, -List.reduceReplicate, ↓L_gdZ_tt, ↓L_gdZ_tf, ↓L_gdZ_ft, ↓L_gdZ_ff, ↓T_and, ↓T_imp, ↓T_all, o1, o2, o3, q1, q2]; try simp only [top_out])
    exact dropC_all (B1 _).1 (hK _)
  · have hs := hb.1 rfl
    (refine top_in ?_; simp -implicitDefEqProofs only [go_sem, -List.reduceReplicate, ↓L_gdZ_tt, ↓L_gdZ_tf, ↓L_gdZ_ft, ↓L_gdZ_ff, ↓T_and, ↓T_imp, ↓T_all, o1, o2, o3, q1, q2, lc]; try simp only [top_out])
    refine ⟨fun c1 => ⟨fun _ => dropC_all (B1 _).1 (hK _), fun c2 => ?_⟩, fun _ => dropC_all (B1 _).1 (hK _)⟩
    have h0 := beqF c1
    have hnp := hs.np
    have hnl := hs.nl
    have hjr := judge_run (s := s) (cs := cs) (by omega) (by omega)
    refine judgeO_ok _ _ _ x y z s cs _ _ (hP.ag (B1 _) (fun _ _ _ e => e)) (hL.ag (B1 _) (fun _ _ _ e => e)) (hC.ag (B1 _) (fun _ _ _ e => e)) hs (fun M2 y2 z2 P2 L2 A2 => ?_)
    have B2 := (B1 _).then A2
    have p1 := P2.one
    have p2 := L2.one
    have ly : ∀ {M' : List Blk} {e a' b' : Nat} {K : SV → Prop}, lenB (.slice e a' b') M' y2 K = K (.i .i64 (s.out cs).1.length) := P2.lenB
    have lz : ∀ {M' : List Blk} {e a' b' : Nat} {K : SV → Prop}, lenB (.slice e a' b') M' z2 K = K (.i .i64 (s.out cs).2.1.length) := L2.lenB
    (refine top_in ?_; simp -implicitDefEqProofs only [go_sem, -List.reduceReplicate, ↓L_gdZ_tt, ↓L_gdZ_tf, ↓L_gdZ_ft, ↓L_gdZ_ff, ↓T_and, ↓T_imp, ↓T_all, o1, o2, o3, p1, p2]; try simp only [top_out])
    refine peers_ok _ x s.ps _ _ (hP.ag B2 (fun _ _ _ e => e)) (by omega) (fun p hp => by have := (hs.peer p hp).many; omega) (fun M3 y3 P3 A3 => ?_)
    have B3 := B2.then A3
    have p3 := P3.one
    (refine top_in ?_; simp -implicitDefEqProofs only [go_sem, -List.reduceReplicate, ↓L_gdZ_tt, ↓L_gdZ_tf, ↓L_gdZ_ft, ↓L_gdZ_ff, ↓T_and, ↓T_imp, ↓T_all, o1, o2, o3, p1, p2, p3]; try simp only [top_out])
    refine lanes_ok _ y s.ls _ _ (hL.ag B3 (fun _ _ _ e => e)) (by omega) (fun M4 z4 L4 A4 => ?_)
    have B4 := B3.then A4
    have p4 := L4.one
    have P2' := (P2.ag A3 (fun _ _ _ e => e)).ag A4 (fun _ _ _ e => e)
    have L2' := (L2.ag A3 (fun _ _ _ e => e)).ag A4 (fun _ _ _ e => e)
    have P3' := (P3.prs).ag A4 (fun _ _ _ e => e)
    (refine top_in ?_; simp -implicitDefEqProofs only [go_sem, -List.reduceReplicate, ↓L_gdZ_tt, ↓L_gdZ_tf, ↓L_gdZ_ft, ↓L_gdZ_ff, ↓T_and, ↓T_imp, ↓T_all, o1, o2, o3, p1, p2, p3, p4]; try simp only [top_out])
    refine loop_code tabOK (by kernel_rfl) (fun m ts M' => ∃ (k : Nat) (qs ms : SV) (t : St), k + m = cs.length ∧ t.Right ∧ s.run 0 cs = t.run k (cs.drop k) ∧ Prs M' (fun _ => True) qs t.ps ∧ Lns M' (fun _ => True) ms t.ls ∧ Ag (fun _ => False) M4 M' ∧ frC (none :: none :: some (z) :: none :: none :: none :: none :: some (.b true) :: none :: some (y2) :: some (z2) :: some (.i .i64 (s.out cs).2.2.1) :: some (.i .i64 (s.out cs).2.2.2) :: some (qs) :: some (ms) :: some (.i .i64 k) :: none :: none :: none :: none :: none :: none :: none :: none :: none :: none :: none :: none :: none :: none :: none :: none :: none :: none :: none :: none :: none :: none :: none :: none :: none :: none :: none :: none :: none :: none :: none :: none :: none :: none :: none :: none :: none :: none :: none :: none :: none :: none :: none :: none :: none :: none :: none :: none :: none :: none :: none :: none :: none :: none :: none :: none :: none :: none :: none :: none :: none :: none :: none :: none :: none :: none :: none :: none :: none :: none :: none :: none :: none :: none :: none :: none :: none :: none :: none :: none :: none :: none :: none :: none :: none :: none :: none :: none :: none :: none :: none :: none :: none :: none :: none :: none :: none :: none :: none :: none :: none :: none :: none :: none :: none :: none :: none :: none :: none :: none :: []) ts) cs.length ?_ ?_
    · exact ⟨0, y3, z4, s, by omega, hs, rfl, P3'.mono (fun _ _ => trivial), L4.lns.mono (fun _ _ => trivial), Ag.refl, by simp [frC]⟩
    · rintro m ts M5 ⟨k, qs, ms, t, hk, ht, hrun, hq, hm', hA, hf⟩
      have B5 := B4.then hA
      have oq := hq.one
      have om := hm'.one
      have P5 := P2'.ag hA (fun _ _ _ e => e)
      have L5 := L2'.ag hA (fun _ _ _ e => e)
      obtain ⟨f, rfl⟩ := frC_open _ _ 0 hf
      clear hf
      (refine top_in ?_; simp -implicitDefEqProofs only [go_sem, -List.reduceReplicate, ↓L_gdZ_tt, ↓L_gdZ_tf, ↓L_gdZ_ft, ↓L_gdZ_ff, ↓T_and, ↓T_imp, ↓T_all, lc, ly, lz, o3, oq, om]; try simp only [top_out])
      refine ⟨fun c3 => ?_, fun c3 => ?_⟩
      · obtain ⟨nn, cap, c, rfl, l1, g1, g2, g3, g4⟩ := (hC.ag B5 (fun _ _ _ e => e)).at (k := k) (by omega)
        have o5 := g2.key.one
        rw [run_step g1] at hrun
        have hj1 := judge_one t c.1
        rw [chC_eq] at g3
        (refine top_in ?_; simp -implicitDefEqProofs only [go_sem, -List.reduceReplicate, ↓L_gdZ_tt, ↓L_gdZ_tf, ↓L_gdZ_ft, ↓L_gdZ_ff, ↓T_and, ↓T_imp, ↓T_all, g3, o5, oq, om]; try simp only [top_out])
        repeat (with_reducible refine And.intro (by omega) ?_)
        have hc1 : ∀ ty, Chs (M5 ++ [Blk.row [SV.i IntKind.i64 c.1.kind, SV.i IntKind.i64 c.1.link, SV.i IntKind.i64 c.1.side, c.2, SV.i IntKind.i64 c.1.pfx.fam, SV.u64 c.1.pfx.hi, SV.u64 c.1.pfx.lo, SV.i IntKind.i64 c.1.pfx.bits] ty]) (fun _ => True) (.sl M5.length 0 1 1) [c.1] := fun ty =>
          ⟨[c], rfl, (own_row (k := 8) (es := [chC c]) (by simp) (by rw [get_app0]; rfl) (fun e he => by rw [List.mem_singleton.1 he]; exact ⟨rfl, by simp [chC, pxC, o5, one_i64, one_u64]⟩)).lst (by decide), fun _ _ => trivial, fun e he => by rw [List.mem_singleton.1 he]; exact ⟨g2.key.app, fun _ _ => trivial⟩⟩
        by_cases hfa : t.fault c.1 = 0
        · rw [if_pos hfa] at hrun hj1
          refine judge_ok _ _ _ qs ms _ t [c.1] _ _ hq.app hm'.app (hc1 _) ht (fun M6 i e h A6 => by rw [hj1] at h; cases h) (fun M6 y6 z6 s6 h P6 L6 A6 => ?_)
          rw [hj1] at h
          cases h
          have o6 := P6.one
          have o7 := L6.one
          (refine top_in ?_; simp -implicitDefEqProofs only [go_sem, -List.reduceReplicate, ↓L_gdZ_tt, ↓L_gdZ_tf, ↓L_gdZ_ft, ↓L_gdZ_ff, ↓T_and, ↓T_imp, ↓T_all, o6, o7]; try simp only [top_out])
          refine num_ok _ _ _ ?_
          (refine top_in ?_; simp -implicitDefEqProofs only [go_sem, -List.reduceReplicate, ↓L_gdZ_tt, ↓L_gdZ_tf, ↓L_gdZ_ft, ↓L_gdZ_ff, ↓T_and, ↓T_imp, ↓T_all, o6, o7, Int.reduceBNe]; try simp only [top_out])
          exact ⟨m - 1, by omega, k + 1, y6, z6, t.done c.1, by omega, done_right ht hfa, hrun, P6.mono (fun _ _ => trivial), L6.mono (fun _ _ => trivial), hA.then (Ag.app.then A6), rfl, rfl, w64 (by omega) (by omega)⟩
        · rw [if_neg hfa] at hrun hj1
          have ho : s.out cs = ([], [], (k : Int), t.fault c.1) := by unfold St.out; rw [hjr, hrun]
          refine judge_ok _ _ _ qs ms _ t [c.1] _ _ hq.app hm'.app (hc1 _) ht (fun M6 i e h A6 => ?_) (fun M6 y6 z6 s6 h P6 L6 A6 => by rw [hj1] at h; cases h)
          rw [hj1] at h
          cases h
          have hb1 : (t.fault c.1 != 0) = true := by simpa using hfa
          have e1 : ∀ z : Int, (z == z) = true := fun z => beq_self_eq_true z
          have B6 := B5.then ((Ag.app (S := fun _ => False)).then A6)
          (refine top_in ?_; simp -implicitDefEqProofs only [go_sem, -List.reduceReplicate, ↓L_gdZ_tt, ↓L_gdZ_tf, ↓L_gdZ_ft, ↓L_gdZ_ff, ↓T_and, ↓T_imp, ↓T_all]; try simp only [top_out])
          refine num_ok _ _ _ ?_
          (refine top_in ?_; simp -implicitDefEqProofs only [go_sem, -List.reduceReplicate, ↓L_gdZ_tt, ↓L_gdZ_tf, ↓L_gdZ_ft, ↓L_gdZ_ff, ↓T_and, ↓T_imp, ↓T_all, hb1, ho, e1, Int.reduceBEq, ly, lz]; try simp only [top_out])
          refine num_ok _ _ _ ?_
          (refine top_in ?_; simp -implicitDefEqProofs only [go_sem, -List.reduceReplicate, ↓L_gdZ_tt, ↓L_gdZ_tf, ↓L_gdZ_ft, ↓L_gdZ_ff, ↓T_and, ↓T_imp, ↓T_all, hb1, ho, e1, Int.reduceBEq, ly, lz]; try simp only [top_out])
          refine num_ok _ _ _ ?_
          (refine top_in ?_; simp -implicitDefEqProofs only [go_sem, -List.reduceReplicate, ↓L_gdZ_tt, ↓L_gdZ_tf, ↓L_gdZ_ft, ↓L_gdZ_ff, ↓T_and, ↓T_imp, ↓T_all, hb1, ho, e1, Int.reduceBEq, ly, lz]; try simp only [top_out])
          exact dropC_all B6.1 (hK _)
      · obtain rfl : k = cs.length := by omega
        rw [List.drop_length] at hrun
        have ho : s.out cs = (t.ps, t.ls, 0, 0) := by unfold St.out; rw [hjr, hrun]; rfl
        have e1 : ∀ l : List Pr, decide (l = l) = true := fun l => decide_eq_true rfl
        have e2 : ∀ l : List Ln, decide (l = l) = true := fun l => decide_eq_true rfl
        rw [ho] at P5 L5
        refine samePeers_ok _ _ _ _ _ _ _ _ P5 hq ?_
        rw [e1]
        (refine top_in ?_; simp -implicitDefEqProofs only [go_sem, -List.reduceReplicate, ↓L_gdZ_tt, ↓L_gdZ_tf, ↓L_gdZ_ft, ↓L_gdZ_ff, ↓T_and, ↓T_imp, ↓T_all, p1, p2, oq, om]; try simp only [top_out])
        refine sameLanes_ok _ _ _ _ _ _ _ _ L5 hm' ?_
        rw [e2]
        (refine top_in ?_; simp -implicitDefEqProofs only [go_sem, -List.reduceReplicate, ↓L_gdZ_tt, ↓L_gdZ_tf, ↓L_gdZ_ft, ↓L_gdZ_ff, ↓T_and, ↓T_imp, ↓T_all, p1, p2, oq, om, ho]; try simp only [top_out])
        refine num_ok _ _ _ ?_
        (refine top_in ?_; simp -implicitDefEqProofs only [go_sem, -List.reduceReplicate, ↓L_gdZ_tt, ↓L_gdZ_tf, ↓L_gdZ_ft, ↓L_gdZ_ff, ↓T_and, ↓T_imp, ↓T_all, Int.reduceBEq]; try simp only [top_out])
        exact dropC_all B5.1 (hK _)
theorem own : ownKnob Tryz.prog.godebug = none := by kernel_rfl
theorem laid : laidOutB Tryz.prog = true := by kernel_rfl
theorem law_configWhole {L0 L1 L2 : List Blk} {x y z : SV} (h0 : RPrs L0 [x]) (h1 : RLns (L0 ++ L1) [y]) (h2 : RChs (L0 ++ L1 ++ L2) [z]) : callVC Tryz.prog 5 [x, y, z] (L0 ++ L1 ++ L2) (fun v _ => v = .b true) := by
  obtain ⟨x, ps, e, h0⟩ := h0
  cases e
  obtain ⟨y, ls, e, h1⟩ := h1
  cases e
  obtain ⟨z, cs, e, h2⟩ := h2
  cases e
  exact whole_ok _ _ _ x y z ⟨ps, ls⟩ cs _ _ h0.app.app h1.app h2 (fun _ => rfl)
end Go.Proofs.YtdcplcfedcmcmaaGreat.Eng
