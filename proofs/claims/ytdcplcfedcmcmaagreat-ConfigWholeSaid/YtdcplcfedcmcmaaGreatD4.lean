/- The document's judge. -/
import Derived.Test.YtdcplcfedcmcmaaGreatD3
namespace Go.Proofs.YtdcplcfedcmcmaaGreat.Eng
open Go Go.RowKit
set_option linter.unusedSimpArgs false
set_option linter.unusedVariables false

set_option maxHeartbeats 1000000 in
theorem rjudge_ok (G G' G2 : Nat → Prop) (xp xl xc : SV) (s : St) (cs : List Ch) (M : List Blk) (K : SV → List Blk → Prop) (hP : Prs M G xp s.ps) (hL : Lns M G' xl s.ls) (hC : Chs M G2 xc cs) (hs : s.Right)
    (hE : ∀ M' (i : Nat) e, s.judge cs = .inr (i, e) → Ag (fun _ => False) M M' → K (.tup [.sn, .sn, .i .i64 i, .i .i64 e]) M')
    (hO : ∀ M' y z s', s.judge cs = .inl s' → Prs M' (fun n => M.length ≤ n) y s'.ps → Lns M' (fun n => M.length ≤ n) z s'.ls → Ag (fun _ => False) M M' → K (.tup [y, z, .i .i64 0, .i .i64 0]) M') :
    callVC Tryz.prog 21 [xp, xl, xc] M K := by
  have lc : ∀ {M' : List Blk} {e a' b' : Nat} {K : SV → Prop}, lenB (.slice e a' b') M' xc K = K (.i .i64 cs.length) := hC.lenB
  have hl := hs.nl
  have hn := hs.np
  have bad : cs.length = 0 ∨ 32 < cs.length → s.judge cs = .inr (0, 160) := fun h => by unfold St.judge; rw [if_pos h]
  refine fn_rule tabOK Tryz.func21 rfl Tryz.call21 (by kernel_rfl) (fun hM => ?_)
  (refine top_in ?_; simp -implicitDefEqProofs only [Tryz.ntmps21, Tryz.results21, go_sem, -List.reduceReplicate, ↓L_gdZ_tt, ↓L_gdZ_tf, ↓L_gdZ_ft, ↓L_gdZ_ff, ↓T_and, ↓T_imp, ↓T_all, lc]; try simp only [top_out])
  refine ⟨fun h1 => ⟨fun h2 => ?_, fun h2 => ?_⟩, fun h1 => ?_⟩
  · exact dropC_self hM rfl (hE M 0 160 (bad (.inr (by omega))) Ag.refl)
  · have hgood : ¬ (cs.length = 0 ∨ 32 < cs.length) := by have := beqF h1; omega
    have hj : s.judge cs = s.run 0 cs := by unfold St.judge; rw [if_neg hgood]
    refine peers_ok G xp s.ps M _ hP (by omega) (fun p hp => by have := (hs.peer p hp).many; omega) (fun M1 y0 hy0 A1 => ?_)
    (refine top_in ?_; simp -implicitDefEqProofs only [go_sem, -List.reduceReplicate, ↓L_gdZ_tt, ↓L_gdZ_tf, ↓L_gdZ_ft, ↓L_gdZ_ff, ↓T_and, ↓T_imp, ↓T_all]; try simp only [top_out])
    refine lanes_ok G' xl s.ls M1 _ (hL.ag A1 (fun _ _ _ e => e)) (by omega) (fun M2 z0 hz0 A2 => ?_)
    have oy := hy0.one
    have oz := hz0.one
    have m1 := A1.1
    have m2 := A2.1
    (refine top_in ?_; simp -implicitDefEqProofs only [go_sem, -List.reduceReplicate, ↓L_gdZ_tt, ↓L_gdZ_tf, ↓L_gdZ_ft, ↓L_gdZ_ff, ↓T_and, ↓T_imp, ↓T_all, oy, oz, cellsS_one oy, cellsS_one oz]; try simp only [top_out])
    refine loop_code tabOK (by kernel_rfl) (fun m ts M' => ∃ (k : Nat) (y z : SV) (s1 : St), k + m = cs.length ∧ Ag (fun n => M.length ≤ n) M M' ∧ M'[M2.length]? = some (.row [y, z] 27) ∧ Prs M' (fun n => M.length ≤ n ∧ n ≠ M2.length) y s1.ps ∧ Lns M' (fun n => M.length ≤ n ∧ n ≠ M2.length) z s1.ls ∧ s1.Right ∧ s.judge cs = s1.run k (cs.drop k) ∧
      frC [none, none, some (xc), none, none, none, none, none, none, none, some (.p M2.length 0), some (.i .i64 k), none, none, none, none, none, none, none, none, none, none, none, none, none, none, none, none, none, none, none, none, none, none, none, none, none, none, none, none, none, none, none, none, none, none, none, none, none, none, none, none] ts) cs.length ?_ ?_
    · refine ⟨0, y0, z0, s, by omega, (A1.then (A2.then Ag.app)).mono (fun _ e => e.elim), by rw [get_app0]; rfl, ?_, ?_, hs, by rw [hj]; rfl, by simp [frC]⟩
      · obtain ⟨es, e1, e2, e3, e4⟩ := hy0
        exact ⟨es, e1, ((e2.lst (by decide)).ag A2 (fun _ _ e => e)).app, fun d e => ⟨e3 d e, by have := e2.dn d e; omega⟩, fun e he => (((e4 e he).bnd.ag A2 (fun _ _ _ e => e)).app).mono (fun n g => ⟨g.1.1, by omega⟩)⟩
      · obtain ⟨es, e1, e2, e3, e4⟩ := hz0
        exact ⟨es, e1, (e2.lst (by decide)).app, fun d e => ⟨by have := e3 d e; omega, by have := e2.dn d e; omega⟩, fun e he => ((e4 e he).bnd.app).mono (fun n g => ⟨by omega, by omega⟩)⟩
    · rintro m ts M3 ⟨k, y, z, s1, hk, hA, hb, hy, hz, hs1, hr, hf⟩
      have hm := hA.1
      have hbl := kw hb
      obtain ⟨f, rfl⟩ := frC_open _ _ 0 hf
      clear hf
      (refine top_in ?_; simp -implicitDefEqProofs only [go_sem, -List.reduceReplicate, ↓L_gdZ_tt, ↓L_gdZ_tf, ↓L_gdZ_ft, ↓L_gdZ_ff, ↓T_and, ↓T_imp, ↓T_all, lc, hb]; try simp only [top_out])
      refine ⟨fun h3 => ?_, fun h3 => ?_⟩
      · have hC3 : Chs M3 (fun n => G2 n ∧ n < M.length) xc cs := by
          obtain ⟨es, e1, e2, e3, e4⟩ := hC
          exact ⟨es, e1, e2.ag hA (fun d e h => by have := e2.dn d e; omega), e3.and e2.dn, fun e he => (e4 e he).bnd.ag hA (fun n _ g h => by omega)⟩
        obtain ⟨nn, cap, c, rfl, l1, g1, g2, g3, g4⟩ := hC3.at (k := k) (by omega)
        refine draw_rule tabOK (by kernel_rfl : _) (.p 0 (.p 1 (.p 2 (.p 3 (.p 4 (.e 5 [] (.p 6 .nil) .no)))))) (by kernel_rfl) (by kernel_rfl) ?_
        (refine top_in ?_; simp -implicitDefEqProofs only [go_sem, -List.reduceReplicate, ↓L_gdZ_tt, ↓L_gdZ_tf, ↓L_gdZ_ft, ↓L_gdZ_ff, ↓T_and, ↓T_imp, ↓T_all, hb, g3]; try simp only [top_out])
        refine ⟨by omega, by omega, by omega, by omega, ?_⟩
        refine rfault_ok _ _ y z c s1 M3 _ hy hz _ g2 hs1 ?_
        have hdr : cs.drop k = c.1 :: cs.drop (k + 1) := by
          obtain ⟨hlt, e⟩ := List.getElem?_eq_some_iff.1 g1
          rw [List.drop_eq_getElem_cons hlt, e]
        rw [hdr] at hr
        simp only [St.run] at hr
        (refine top_in ?_; simp -implicitDefEqProofs only [go_sem, -List.reduceReplicate, ↓L_gdZ_tt, ↓L_gdZ_tf, ↓L_gdZ_ft, ↓L_gdZ_ff, ↓T_and, ↓T_imp, ↓T_all, hb, g3]; try simp only [top_out])
        refine ⟨fun h4 => ?_, fun h4 => ?_⟩
        · rw [if_neg (bneT h4)] at hr
          exact dropC_all hm (hE M3 k _ hr (hA.mono_lt (fun n h1 h2 => by omega)))
        · have hf0 := bneF h4
          rw [if_pos hf0] at hr
          refine draw_rule tabOK (by kernel_rfl : _) (.p 0 (.p 1 (.p 2 (.p 3 (.p 4 (.e 5 [] (.e 6 [] .nil .no) .no)))))) (by kernel_rfl) (by kernel_rfl) ?_
          (refine top_in ?_; simp -implicitDefEqProofs only [go_sem, -List.reduceReplicate, ↓L_gdZ_tt, ↓L_gdZ_tf, ↓L_gdZ_ft, ↓L_gdZ_ff, ↓T_and, ↓T_imp, ↓T_all, hb, g3]; try simp only [top_out])
          refine ⟨by omega, by omega, by omega, by omega, ?_⟩
          refine rdone_ok _ _ _ y z c s1 M3 _ hy hz g2 hs1 hf0 (fun M4 y4 z4 hy4 hz4 A4 => ?_)
          have hb4 := A4.get hb (fun e => e)
          have m4 := A4.1
          have oy4 := hy4.one
          have oz4 := hz4.one
          (refine top_in ?_; simp -implicitDefEqProofs only [go_sem, -List.reduceReplicate, ↓L_gdZ_tt, ↓L_gdZ_tf, ↓L_gdZ_ft, ↓L_gdZ_ff, ↓T_and, ↓T_imp, ↓T_all, hb4, oy4, oz4, cellsS_one oy4, cellsS_one oz4]; try simp only [top_out])
          have A5 : Ag (fun n => n = M2.length) M4 (M4.set M2.length (.row [y4, z4] 27)) := Ag.set rfl
          refine ⟨m - 1, by omega, k + 1, y4, z4, s1.done c.1, by omega, (hA.then ((A4.mono (fun _ e => e.elim)).then (A5.mono (fun n e => by omega)))), List.getElem?_set_self (by omega), (hy4.prs.ag A5 (fun n h1 h2 h3 => by omega)).mono (fun n g => ⟨by omega, by omega⟩), (hz4.lns.ag A5 (fun n h1 h2 h3 => by omega)).mono (fun n g => ⟨by omega, by omega⟩), done_right hs1 hf0, hr, w64 (by omega) (by omega)⟩
      · obtain rfl : k = cs.length := by omega
        rw [List.drop_length] at hr
        have oy4 := hy.one
        have oz4 := hz.one
        refine draw_rule tabOK (by kernel_rfl : _) (.p 0 (.p 1 (.p 2 (.p 3 (.p 4 (.p 5 (.p 6 (.p 7 .nil)))))))) (by kernel_rfl) (by kernel_rfl) ?_
        (refine top_in ?_; simp -implicitDefEqProofs only [go_sem, -List.reduceReplicate, ↓L_gdZ_tt, ↓L_gdZ_tf, ↓L_gdZ_ft, ↓L_gdZ_ff, ↓T_and, ↓T_imp, ↓T_all, hb, oy4, oz4]; try simp only [top_out])
        exact dropC_all hm (hO M3 y z s1 hr (hy.mono (fun n g => g.1)) (hz.mono (fun n g => g.1)) (hA.mono_lt (fun n h1 h2 => by omega)))
  · exact dropC_self hM rfl (hE M 0 160 (bad (.inl (by have := beqT h1; omega))) Ag.refl)
end Go.Proofs.YtdcplcfedcmcmaaGreat.Eng
