/- Joined texts: F3, F4. -/
import Derived.Test.YtdcplcfedcmcmaaGreatF2
import Derived.Test.YtdcplcfedcmcmaaGreatMh
/- 'ConfigJudges': the law's walk. -/
namespace Go.Proofs.YtdcplcfedcmcmaaGreat.Eng
open Go Go.RowKit
set_option linter.unusedSimpArgs false
set_option linter.unusedVariables false

set_option maxHeartbeats 1000000 in
theorem judges_ok (x : SV) (es : List (List SV)) (M : List Blk) (K : SV → List Blk → Prop) (h : Lst M 1 x es) (hc : ∀ c ∈ es, RChs M c) (hK : ∀ M', K (.b true) M') :
    callVC Tryz.prog 3 [x] M K := by
  have la : ∀ {M' : List Blk} {e a' b' : Nat} {K : SV → Prop}, lenB (.slice e a' b') M' x K = K (.i .i64 es.length) := h.lenB
  refine fn_rule tabOK Tryz.func3 rfl Tryz.call3 (by kernel_rfl) (fun hM => ?_)
  (refine top_in ?_; simp -implicitDefEqProofs only [Tryz.ntmps3, Tryz.results3, go_sem, -List.reduceReplicate, ↓L_gdZ_tt, ↓L_gdZ_tf, ↓L_gdZ_ft, ↓L_gdZ_ff, ↓T_and, ↓T_imp, ↓T_all, la]; try simp only [top_out])
  refine first_ok _ _ (fun M1 A1 => ?_)
  (refine top_in ?_; simp -implicitDefEqProofs only [go_sem, -List.reduceReplicate, ↓L_gdZ_tt, ↓L_gdZ_tf, ↓L_gdZ_ft, ↓L_gdZ_ff, ↓T_and, ↓T_imp, ↓T_all, la]; try simp only [top_out])
  have m1 := A1.1
  refine loop_code tabOK (by kernel_rfl) (fun m ts M' => ∃ (k : Nat) (y z : SV) (s : St), k + m = es.length ∧ Ag (fun _ => False) M M' ∧ M'[M1.length]? = some (.row [y, z] 27) ∧ Prs M' (fun n => n ≠ M1.length) y s.ps ∧ Lns M' (fun n => n ≠ M1.length) z s.ls ∧ s.Right ∧
    frC [some (x), none, none, some (.b true), some (.p M1.length 0), some (.i .i64 k), none, none, none, none, none, none, none, none, none, none, none, none, none, none, none, none, none, none, none, none, none, none, none, none, none, none, none, none, none] ts) es.length ?_ ?_
  · exact ⟨0, .sn, .sn, St.mk [] [], by omega, A1.then Ag.app, by rw [get_app0]; rfl, Prs.sn, Lns.sn, right_nil, by simp [frC]⟩
  · rintro m ts M3 ⟨k, y, z, s, hk, hA, hb, hy, hz, hs, hf⟩
    have hm := hA.1
    have hbl := kw hb
    have o1 := hy.one
    have o2 := hz.one
    obtain ⟨f, rfl⟩ := frC_open _ _ 0 hf
    clear hf
    (refine top_in ?_; simp -implicitDefEqProofs only [go_sem, -List.reduceReplicate, ↓L_gdZ_tt, ↓L_gdZ_tf, ↓L_gdZ_ft, ↓L_gdZ_ff, ↓T_and, ↓T_imp, ↓T_all, la, hb]; try simp only [top_out])
    refine ⟨fun h1 => ⟨fun h2 => ?_, fun h2 => ?_⟩, fun h1 => ?_⟩
    · obtain ⟨nn, cap, rfl, l1, l2, ea⟩ := (h.ag hA (fun _ _ e => e)).at (by omega)
      have hg : es[k]? = some es[k] := List.getElem?_eq_getElem (by omega)
      generalize es[k] = c at hg
      obtain ⟨g1, g2, g3, g4⟩ := ea k c hg
      obtain ⟨xc, cs, rfl, hC⟩ := hc c (List.mem_of_getElem? hg)
      have hC3 := hC.ag hA (fun _ _ _ e => e)
      have o3 := hC3.one
      have q1 : (cellsB M3[nn]?).getD k uS = xc := getD_of (by have := g4 0 (by decide); simpa using this)
      rw [Nat.mul_one] at g1 g3
      (refine top_in ?_; simp -implicitDefEqProofs only [go_sem, -List.reduceReplicate, ↓L_gdZ_tt, ↓L_gdZ_tf, ↓L_gdZ_ft, ↓L_gdZ_ff, ↓T_and, ↓T_imp, ↓T_all, la, q1, g1, o3]; try simp only [top_out])
      repeat (with_reducible refine And.intro (by omega) ?_)
      refine fits_ok _ xc cs _ _ hC3 ?_
      (refine top_in ?_; simp -implicitDefEqProofs only [go_sem, -List.reduceReplicate, ↓L_gdZ_tt, ↓L_gdZ_tf, ↓L_gdZ_ft, ↓L_gdZ_ff, ↓T_and, ↓T_imp, ↓T_all, la, hb, q1, g1, o1, o2, o3]; try simp only [top_out])
      refine ⟨fun h3 => ?_, fun h3 => ?_⟩
      · refine draw_rule tabOK (by kernel_rfl : _) (.p 0 (.p 1 (.p 2 (.p 3 (.p 4 (.e 5 [] (.p 6 (.p 7 (.p 8 (.e 9 [] (.p 10 .nil) .no)))) .no)))))) (by kernel_rfl) (by kernel_rfl) ?_
        (refine top_in ?_; simp -implicitDefEqProofs only [go_sem, -List.reduceReplicate, ↓L_gdZ_tt, ↓L_gdZ_tf, ↓L_gdZ_ft, ↓L_gdZ_ff, ↓T_and, ↓T_imp, ↓T_all, la, hb, q1, g1, o1, o2, o3]; try simp only [top_out])
        repeat (with_reducible refine And.intro (by omega) ?_)
        refine ljudge_ok _ _ _ y z xc s cs _ _ hy hz hC3 hs (by omega) (fun M4 y4 z4 s4 hs4 P4 L4 A4 => ?_)
        have c0 := A4.get hb (fun e => e)
        have m4 := A4.1
        have o4 := P4.one
        have o5 := L4.one
        have A5 : Ag (fun n => n = M1.length) M4 (M4.set M1.length (.row [y4, z4] 27)) := Ag.set rfl
        (refine top_in ?_; simp -implicitDefEqProofs only [go_sem, -List.reduceReplicate, ↓L_gdZ_tt, ↓L_gdZ_tf, ↓L_gdZ_ft, ↓L_gdZ_ff, ↓T_and, ↓T_imp, ↓T_all, c0, o4, o5, cellsS_one o4, cellsS_one o5]; try simp only [top_out])
        refine ⟨m - 1, by omega, k + 1, y4, z4, s4, by omega, Ag.trans (hA.then A4) A5 (fun n h1 h2 => by omega), List.getElem?_set_self (by omega), (P4.ag A5 (fun n h1 h2 h3 => by
          rcases h2 with h2 | h2
          · exact h2 h3
          · omega)).mono (fun n h2 => by
          rcases h2 with h2 | h2
          · exact h2
          · omega), (L4.ag A5 (fun n h1 h2 h3 => by
          rcases h2 with h2 | h2
          · exact h2 h3
          · omega)).mono (fun n h2 => by
          rcases h2 with h2 | h2
          · exact h2
          · omega), hs4, w64 (by omega) (by omega)⟩
      · exact ⟨m - 1, by omega, k + 1, y, z, s, by omega, hA, rfl, hy, hz, hs, w64 (by omega) (by omega)⟩
    · exact dropC_all hm (hK _)
    · exact dropC_all hm (hK _)
end Go.Proofs.YtdcplcfedcmcmaaGreat.Eng

/- 'ConfigJudges' over its argument. -/
namespace Go.Proofs.YtdcplcfedcmcmaaGreat.Eng
open Go Go.RowKit
set_option linter.unusedSimpArgs false
set_option linter.unusedVariables false
theorem own : ownKnob Tryz.prog.godebug = none := by kernel_rfl
theorem laid : laidOutB Tryz.prog = true := by kernel_rfl
theorem law_configJudges {M : List Blk} {x : SV} (h : RLst 1 RChs M [x]) : callVC Tryz.prog 3 [x] M (fun v _ => v = .b true) := by
  obtain ⟨y, es, e, h1, h2⟩ := h
  cases e
  exact judges_ok x es M _ h1 h2 (fun _ => rfl)
end Go.Proofs.YtdcplcfedcmcmaaGreat.Eng
