/- The document's configuration: the faults. -/
import Derived.Test.YtdcplcfedcmcmaaGreatMc
namespace Go.Proofs.YtdcplcfedcmcmaaGreat.Eng
open Go Go.RowKit
set_option linter.unusedSimpArgs false
set_option linter.unusedVariables false

set_option maxHeartbeats 1000000 in
theorem rholder_ok (G : Nat → Prop) (xp xl : SV) (x : Pfx) (s : St) (M : List Blk) (K : SV → List Blk → Prop) (h : Prs M G xp s.ps) (hl : xl.one = true) (hs : s.ps.length ≤ 100000) (hpf : ∀ p ∈ s.ps, p.pfx.length ≤ 100000) (hK : K (.i .i64 (ixI (s.holder x))) M) :
    callVC Tryz.prog 58 [.agg [xp, xl], .agg (pxC x)] M K := by
  have la : ∀ {M' : List Blk} {e a' b' : Nat} {K : SV → Prop}, lenB (.slice e a' b') M' xp K = K (.i .i64 s.ps.length) := h.lenB
  have o1 := h.one
  have hold : s.holder x = s.ps.findIdx? fun p => decide (x ∈ p.pfx) := rfl
  rw [hold] at hK
  obtain ⟨L, hL⟩ : ∃ L, [Blk.row [xp, xl] 27, Blk.row (pxC x) 48] = L := ⟨_, rfl⟩
  refine fn_rule tabOK Tryz.func58 rfl Tryz.call58 (by kernel_rfl) (fun hM => ?_)
  (refine top_in ?_; simp -implicitDefEqProofs only [Tryz.ntmps58, Tryz.results58, go_sem, -List.reduceReplicate, ↓L_gdZ_tt, ↓L_gdZ_tf, ↓L_gdZ_ft, ↓L_gdZ_ff, ↓T_and, ↓T_imp, ↓T_all, o1, hl, pxC]; try simp only [top_out])
  refine loop_code tabOK (by kernel_rfl) (fun m ts M' => ∃ k : Nat, k + m = s.ps.length ∧ (∀ (j : Nat) b, j < k → s.ps[j]? = some b → ¬ x ∈ b.pfx) ∧ M' = M ++ [.row [xp, xl] 27, .row (pxC x) 48] ∧ frC [none, none, some (.p M.length 0), some (.p (M.length + 1) 0), none, some (.i .i64 k), none, none, none, none, none, none, none, none, none, none, none, none, none, none, none, none, none, none, none, none, none, none, none, none, none, none, none, none, none, none, none, none, none] ts) s.ps.length ?_ ?_
  · exact ⟨0, by omega, by simp, rfl, by simp [frC]⟩
  · rintro m ts _ ⟨k, hk, hno, rfl, hf⟩
    simp only [pxC]
    obtain ⟨f, rfl⟩ := frC_open _ _ 0 hf
    clear hf
    (refine top_in ?_; simp -implicitDefEqProofs only [go_sem, -List.reduceReplicate, ↓L_gdZ_tt, ↓L_gdZ_tf, ↓L_gdZ_ft, ↓L_gdZ_ff, ↓T_and, ↓T_imp, ↓T_all, la]; try simp only [top_out])
    refine ⟨fun h1 => ?_, fun h1 => ?_⟩
    · obtain ⟨n, cap, e, rfl, l1, g1, g2, g3, g4, ⟨g5, g6⟩, g7, g8⟩ := h.at (k := k) (by omega)
      have hq : Pxs M e.2.2 e.1.pfx := g2.pfx
      have lb : ∀ {M' : List Blk} {e1 a' b' : Nat} {K : SV → Prop}, lenB (.slice e1 a' b') M' e.2.2 K = K (.i .i64 e.1.pfx.length) := hq.lenB
      have hpl := hpf e.1 (List.mem_of_getElem? g1)
      refine loop_code tabOK (by kernel_rfl) (fun m ts M' => ∃ i : Nat, i + m = e.1.pfx.length ∧ (∀ (j : Nat) b, j < i → e.1.pfx[j]? = some b → ¬ b = x) ∧ M' = M ++ [.row [.sl n 0 s.ps.length cap, xl] 27, .row (pxC x) 48] ∧ frC [none, none, some (.p M.length 0), some (.p (M.length + 1) 0), none, some (.i .i64 k), some (.i .i64 i), none, none, none, none, none, none, none, none, none, none, none, none, none, none, none, none, none, none, none, none, none, none, none, none, none, none, none, none, none, none, none, none] ts) e.1.pfx.length ?_ ?_
      · exact ⟨0, by omega, by simp, rfl, by simp [frC]⟩
      · rintro m2 ts _ ⟨i, hi, hni, rfl, hf⟩
        simp only [pxC]
        obtain ⟨f, rfl⟩ := frC_open _ _ 0 hf
        clear hf
        (refine top_in ?_; simp -implicitDefEqProofs only [go_sem, -List.reduceReplicate, ↓L_gdZ_tt, ↓L_gdZ_tf, ↓L_gdZ_ft, ↓L_gdZ_ff, ↓T_and, ↓T_imp, ↓T_all, la, get_lt l1, g8, lb]; try simp only [top_out])
        refine ⟨by omega, by omega, by omega, by omega, by omega, fun h2 => ?_, fun h2 => ?_⟩
        · obtain ⟨n', cap', q, hx, l1', q1, q2, q3⟩ := hq.at (k := i) (by omega)
          refine draw_rule tabOK (by kernel_rfl : _) (.p 0 (.p 1 (.p 2 (.p 3 (.p 4 (.p 5 (.p 6 (.p 7 (.p 8 (.p 9 (.e 10 [] (.p 11 .nil) .no))))))))))) (by kernel_rfl) (by kernel_rfl) ?_
          (refine top_in ?_; simp -implicitDefEqProofs only [go_sem, -List.reduceReplicate, ↓L_gdZ_tt, ↓L_gdZ_tf, ↓L_gdZ_ft, ↓L_gdZ_ff, ↓T_and, ↓T_imp, ↓T_all, la, get_lt l1, get_lt l1', g8, hx, q2]; try simp only [top_out])
          refine ⟨by omega, by omega, by omega, by omega, by omega, by omega, by omega, by omega, by omega, ?_⟩
          refine sameX_ok q x _ _ ?_
          (refine top_in ?_; simp -implicitDefEqProofs only [go_sem, -List.reduceReplicate, ↓L_gdZ_tt, ↓L_gdZ_tf, ↓L_gdZ_ft, ↓L_gdZ_ff, ↓T_and, ↓T_imp, ↓T_all, la, get_lt l1, get_lt l1', g8, hx, q2]; try simp only [top_out])
          refine ⟨fun e3 => dropC_append hM rfl ?_, fun e3 => ⟨m2 - 1, by omega, i + 1, by omega, no_step hni q1 e3, w64 (by omega) (by omega)⟩⟩
          have := no_hit (q := fun p : Pr => x ∈ p.pfx) hno g1 (e3 ▸ List.mem_of_getElem? q1)
          rw [this] at hK; exact hK
        · have hnx : ¬ x ∈ e.1.pfx := fun hm => by
            obtain ⟨j, hj⟩ := List.getElem?_of_mem hm
            exact hni j x (by have := (List.getElem?_eq_some_iff.1 hj).1; omega) hj rfl
          exact ⟨m - 1, by omega, k + 1, by omega, no_step hno g1 hnx, w64 (by omega) (by omega)⟩
    · refine dropC_append hM rfl ?_
      have := no_all (q := fun p : Pr => x ∈ p.pfx) (fun j b hj hb => hno j b (by omega) hb)
      rw [this] at hK; exact hK
theorem rlifted_ok (G : Nat → Prop) (e : Ln × SV) (M : List Blk) (K : SV → List Blk → Prop) (h : LnE M G e) (hok : e.1.Ok) (hK : K (.i .i64 e.1.lifted) M) :
    callVC Tryz.prog 98 [.agg (lnC e)] M K := by
  obtain ⟨p, xk⟩ := e
  have o1 := h.key.one
  have h1 := hok.cur
  have h2 := hok.next
  simp only at o1 hK h1 h2
  unfold lnC
  refine fn_rule tabOK Tryz.func98 rfl Tryz.call98 (by kernel_rfl) (fun hM => ?_)
  (refine top_in ?_; simp -implicitDefEqProofs only [Tryz.ntmps98, Tryz.results98, go_sem, -List.reduceReplicate, ↓L_gdZ_tt, ↓L_gdZ_tf, ↓L_gdZ_ft, ↓L_gdZ_ff, ↓T_and, ↓T_imp, ↓T_all, o1]; try simp only [top_out])
  unfold Ln.lifted at hK
  refine ⟨fun g => ?_, fun g => ?_⟩
  · rw [w64 (by omega) (by omega)]
    exact dropC_append hM rfl (by rwa [show p.next + 1 = max p.cur p.next + 1 by omega])
  · rw [w64 (by omega) (by omega)]
    exact dropC_append hM rfl (by rwa [show p.cur + 1 = max p.cur p.next + 1 by omega])
theorem rspare_ok (G : Nat → Prop) (c : Ch × SV) (M : List Blk) (K : SV → List Blk → Prop) (h : ChE M G c) (hK : K (.b c.1.spare) M) :
    callVC Tryz.prog 55 [.agg (chC c)] M K := by
  obtain ⟨c, xk⟩ := c
  have o1 := h.key.one
  have la : ∀ {M' : List Blk} {e a' b' : Nat} {K : SV → Prop}, lenB (.slice e a' b') M' xk K = K (.i .i64 c.key.length) := h.key.lenB
  simp only at o1 hK
  unfold chC pxC
  simp only [List.cons_append, List.nil_append]
  refine fn_rule tabOK Tryz.func55 rfl Tryz.call55 (by kernel_rfl) (fun hM => ?_)
  (refine top_in ?_; simp -implicitDefEqProofs only [Tryz.ntmps55, Tryz.results55, go_sem, -List.reduceReplicate, ↓L_gdZ_tt, ↓L_gdZ_tf, ↓L_gdZ_ft, ↓L_gdZ_ff, ↓T_and, ↓T_imp, ↓T_all, o1, la]; try simp only [top_out])
  have e0 : c.spare = (decide (c.kind < 1) || decide (5 < c.kind) || (!(c.kind == 1 || c.kind == 3) && (decide ((c.key.length : Int) > 0) || (c.side != 0))) || (!(c.kind == 4 || c.kind == 5) && !decide (c.pfx = Pfx.none))) := by
    have hk : decide (c.key ≠ []) = decide ((c.key.length : Int) > 0) := by
      cases c.key with
      | nil => rfl
      | cons a l => simp
    have hb : ∀ a b : Int, (a == b) = decide (a = b) := fun a b => by by_cases e : a = b <;> simp [e]
    unfold Ch.spare Ch.keyed Ch.pre
    rw [hk, hb, hb, hb, hb]
    simp [bne, hb]
  rw [e0] at hK
  clear e0
  repeat' (with_reducible first | refine And.intro ?_ ?_ | intro)
  all_goals refine sameX_ok c.pfx Pfx.none _ _ ?_
  all_goals (refine top_in ?_; simp -implicitDefEqProofs only [go_sem, -List.reduceReplicate, ↓L_gdZ_tt, ↓L_gdZ_tf, ↓L_gdZ_ft, ↓L_gdZ_ff, ↓T_and, ↓T_imp, ↓T_all, la]; try simp only [top_out])
  all_goals repeat' (with_reducible first | refine And.intro ?_ ?_ | intro)
  all_goals refine dropB hM hK ?_
  all_goals simp_all
  all_goals (have h1 : ¬ c.kind < 1 := by omega); (have h2 : ¬ 5 < c.kind := by omega); simp [h1, h2, *]
theorem rkeyed_ok (G G2 : Nat → Prop) (xp xl : SV) (c : Ch × SV) (s : St) (M : List Blk) (K : SV → List Blk → Prop) (h : Lns M G xl s.ls) (hp : xp.one = true) (hc : ChE M G2 c) (hs : s.Right) (hK : K (.i .i64 (s.keyedF c.1)) M) :
    callVC Tryz.prog 96 [.agg [xp, xl], .agg (chC c)] M K := by
  obtain ⟨c, xk⟩ := c
  have o2 := hc.key.one
  have o1 := h.one
  have la : ∀ {M' : List Blk} {e a' b' : Nat} {K : SV → Prop}, lenB (.slice e a' b') M' xl K = K (.i .i64 s.ls.length) := h.lenB
  have hl := hs.nl
  simp only at o2 hK
  unfold chC pxC
  simp only [List.cons_append, List.nil_append]
  refine fn_rule tabOK Tryz.func96 rfl Tryz.call96 (by kernel_rfl) (fun hM => ?_)
  (refine top_in ?_; simp -implicitDefEqProofs only [Tryz.ntmps96, Tryz.results96, go_sem, -List.reduceReplicate, ↓L_gdZ_tt, ↓L_gdZ_tf, ↓L_gdZ_ft, ↓L_gdZ_ff, ↓T_and, ↓T_imp, ↓T_all, o1, o2, hp]; try simp only [top_out])
  refine rlane_ok G xp xl xk c.key s _ _ h.app hp hc.key.app (by omega) ?_
  unfold St.keyedF at hK
  cases e : s.lane c.key with
  | none =>
    rw [e] at hK
    simp only at hK
    (refine top_in ?_; simp -implicitDefEqProofs only [go_sem, -List.reduceReplicate, ↓L_gdZ_tt, ↓L_gdZ_tf, ↓L_gdZ_ft, ↓L_gdZ_ff, ↓T_and, ↓T_imp, ↓T_all, la, ixI]; try simp only [top_out])
    refine ⟨fun g => dropC_append hM rfl (by rwa [if_pos (by omega)] at hK), fun g => ?_⟩
    refine draw_rule tabOK (by kernel_rfl : _) (.p 0 (.p 1 (.p 2 (.p 3 (.p 4 (.p 5 (.p 6 (.p 7 (.p 8 (.p 9 (.p 10 (.p 11 (.p 12 (.p 13 .nil)))))))))))))) (by kernel_rfl) (by kernel_rfl) ?_
    (refine top_in ?_; simp -implicitDefEqProofs only [go_sem, -List.reduceReplicate, ↓L_gdZ_tt, ↓L_gdZ_tf, ↓L_gdZ_ft, ↓L_gdZ_ff, ↓T_and, ↓T_imp, ↓T_all, la, ixI]; try simp only [top_out])
    exact dropC_append hM rfl (by rwa [if_neg (by omega)] at hK)
  | some k =>
    rw [e] at hK
    obtain ⟨l, hk, hkey⟩ := (St.lane_some hs).1 e
    simp only [hk] at hK
    have hkl := (List.getElem?_eq_some_iff.1 hk).1
    obtain ⟨n, cap, e', rfl, l1, g1, g2, g3, g4, g5, ⟨g6, g7⟩, g8, g9⟩ := h.at hkl
    rw [hk] at g1
    cases g1
    have hok := hs.lane _ (List.mem_of_getElem? hk)
    (refine top_in ?_; simp -implicitDefEqProofs only [go_sem, -List.reduceReplicate, ↓L_gdZ_tt, ↓L_gdZ_tf, ↓L_gdZ_ft, ↓L_gdZ_ff, ↓T_and, ↓T_imp, ↓T_all, la, ixI]; try simp only [top_out])
    refine ⟨fun g => absurd g (by omega), fun _ => ?_⟩
    refine draw_rule tabOK (by kernel_rfl : _) (.p 0 (.p 1 (.p 2 (.p 3 (.p 4 (.p 5 (.p 6 (.p 7 (.p 8 (.p 9 (.p 10 (.p 11 (.p 12 (.p 13 .nil)))))))))))))) (by kernel_rfl) (by kernel_rfl) ?_
    (refine top_in ?_; simp -implicitDefEqProofs only [go_sem, -List.reduceReplicate, ↓L_gdZ_tt, ↓L_gdZ_tf, ↓L_gdZ_ft, ↓L_gdZ_ff, ↓T_and, ↓T_imp, ↓T_all, la, ixI, get_lt l1, g6, g7]; try simp only [top_out])
    refine ⟨fun _ => ⟨by omega, by omega, by omega, by omega, fun g => dropC_append hM rfl (by rwa [if_pos (by simpa using g)] at hK), fun g => ?_⟩, fun g => absurd g (by omega)⟩
    rw [if_neg (by simpa using g)] at hK
    refine ⟨fun _ => ⟨by omega, by omega, by omega, by omega, ?_⟩, fun g => absurd g (by omega)⟩
    rw [g3]
    refine rlifted_ok G e' _ _ (g2.ag (S := fun _ => False) Ag.app (fun _ _ _ e => e)) hok ?_
    (refine top_in ?_; simp -implicitDefEqProofs only [go_sem, -List.reduceReplicate, ↓L_gdZ_tt, ↓L_gdZ_tf, ↓L_gdZ_ft, ↓L_gdZ_ff, ↓T_and, ↓T_imp, ↓T_all]; try simp only [top_out])
    refine ⟨fun g => dropC_append hM rfl (by rwa [if_pos g] at hK), fun g => dropC_append hM rfl (by rwa [if_neg g] at hK)⟩
theorem dropI {M L : List Blk} {a b : Int} {K : SV → List Blk → Prop} (hM : ∀ (n : Nat) (B : Blk), M[n]? = some B → B.lt M.length = true) (hK : K (.i .i64 a) M) (h : a = b) : dropC M.length (.i .i64 b) (M ++ L) K :=
  dropC_append hM rfl (h ▸ hK)
theorem ixI_none {o : Option Nat} : ixI o < 0 ↔ o = none := by cases o <;> simp [ixI]
theorem ixI_some {o : Option Nat} : 0 ≤ ixI o ↔ o ≠ none := by cases o <;> simp [ixI]
theorem ixI_inj {a b : Option Nat} : ixI a = ixI b ↔ a = b := by
  cases a <;> cases b <;> simp [ixI] <;> omega
theorem givenF_eq (s : St) (c : Ch) : s.givenF c = (if c.link < 1 ∨ 4294967295 < c.link then 161 else if (c.key.length : Int) ≠ 32 then 162 else if c.side < 0 ∨ 1 < c.side then 163 else if c.kind = 1 ∧ 0 ≤ ixI (s.peer c.link) then 164 else if c.kind = 3 ∧ ixI (s.peer c.link) < 0 then 169 else if 0 ≤ ixI (s.owner c.key) ∧ ixI (s.owner c.key) ≠ ixI (s.peer c.link) then 165 else if c.kind = 1 ∧ 16 ≤ (s.ps.length : Int) then 166 else s.keyedF c) := by
  unfold St.givenF
  have e1 : ((c.key.length : Int) ≠ 32) ↔ c.key.length ≠ 32 := by omega
  have e2 : (16 ≤ (s.ps.length : Int)) ↔ 16 ≤ s.ps.length := by omega
  simp only [ixI_some, ixI_none, ixI_inj, e1, e2, ne_eq]
set_option maxHeartbeats 2000000 in
set_option maxRecDepth 20000 in
theorem rgiven_ok (G G' : Nat → Prop) (xp xl : SV) (c : Ch × SV) (s : St) (M : List Blk) (K : SV → List Blk → Prop) (hP : Prs M G xp s.ps) (h : Lns M G' xl s.ls) (G2 : Nat → Prop) (hc : ChE M G2 c) (hs : s.Right) (hkd : c.1.kind = 1 ∨ c.1.kind = 3) (hK : K (.i .i64 (s.givenF c.1)) M) :
    callVC Tryz.prog 56 [.agg [xp, xl], .agg (chC c)] M K := by
  obtain ⟨c, xk⟩ := c
  have o2 := hc.key.one
  have o1 := h.one
  have o3 := hP.one
  have la : ∀ {M' : List Blk} {e a' b' : Nat} {K : SV → Prop}, lenB (.slice e a' b') M' xp K = K (.i .i64 s.ps.length) := hP.lenB
  have lb : ∀ {M' : List Blk} {e a' b' : Nat} {K : SV → Prop}, lenB (.slice e a' b') M' xk K = K (.i .i64 c.key.length) := hc.key.lenB
  have hl := hs.nl
  have hn := hs.np
  simp only at o2 hK hkd
  rw [givenF_eq] at hK
  have hc0 : ChE M G2 (c, xk) := hc
  unfold chC pxC
  simp only [List.cons_append, List.nil_append]
  obtain ⟨kind, link, side, key, pfx⟩ := c
  simp only at *
  rcases hkd with rfl | rfl
  · refine fn_rule tabOK Tryz.func56 rfl Tryz.call56 (by kernel_rfl) (fun hM => ?_)
    (refine top_in ?_; simp -implicitDefEqProofs only [Tryz.ntmps56, Tryz.results56, go_sem, -List.reduceReplicate, ↓L_gdZ_tt, ↓L_gdZ_tf, ↓L_gdZ_ft, ↓L_gdZ_ff, ↓T_and, ↓T_imp, ↓T_all, o1, o2, o3]; try simp only [top_out])
    refine rpeer_ok G xp xl link s _ _ hP.app o1 (by omega) ?_
    (refine top_in ?_; simp -implicitDefEqProofs only [go_sem, -List.reduceReplicate, ↓L_gdZ_tt, ↓L_gdZ_tf, ↓L_gdZ_ft, ↓L_gdZ_ff, ↓T_and, ↓T_imp, ↓T_all]; try simp only [top_out])
    refine rowner_ok G xp xl xk key s _ _ hP.app o1 hc.key.app (by omega) ?_
    (refine top_in ?_; simp -implicitDefEqProofs only [go_sem, -List.reduceReplicate, ↓L_gdZ_tt, ↓L_gdZ_tf, ↓L_gdZ_ft, ↓L_gdZ_ff, ↓T_and, ↓T_imp, ↓T_all, la, lb, Int.reduceBEq]; try simp only [top_out])
    repeat' (with_reducible first | refine And.intro ?_ ?_ | intro)
    all_goals simp only [bne_iff_ne, bne_eq_false_iff_eq, ne_eq, true_and] at *
    all_goals first
      | (refine dropI hM hK ?_; (repeat' split) <;> first | rfl | omega)
      | (refine rkeyed_ok G' G2 xp xl _ s _ _ h.app o3 (hc0.ag (S := fun _ => False) Ag.app (fun _ _ _ e => e)) hs ?_; (refine top_in ?_; simp -implicitDefEqProofs only [go_sem, -List.reduceReplicate, ↓L_gdZ_tt, ↓L_gdZ_tf, ↓L_gdZ_ft, ↓L_gdZ_ff, ↓T_and, ↓T_imp, ↓T_all]; try simp only [top_out]); refine dropI hM hK ?_; (repeat' split) <;> first | rfl | omega)
  · refine fn_rule tabOK Tryz.func56 rfl Tryz.call56 (by kernel_rfl) (fun hM => ?_)
    (refine top_in ?_; simp -implicitDefEqProofs only [Tryz.ntmps56, Tryz.results56, go_sem, -List.reduceReplicate, ↓L_gdZ_tt, ↓L_gdZ_tf, ↓L_gdZ_ft, ↓L_gdZ_ff, ↓T_and, ↓T_imp, ↓T_all, o1, o2, o3]; try simp only [top_out])
    refine rpeer_ok G xp xl link s _ _ hP.app o1 (by omega) ?_
    (refine top_in ?_; simp -implicitDefEqProofs only [go_sem, -List.reduceReplicate, ↓L_gdZ_tt, ↓L_gdZ_tf, ↓L_gdZ_ft, ↓L_gdZ_ff, ↓T_and, ↓T_imp, ↓T_all]; try simp only [top_out])
    refine rowner_ok G xp xl xk key s _ _ hP.app o1 hc.key.app (by omega) ?_
    (refine top_in ?_; simp -implicitDefEqProofs only [go_sem, -List.reduceReplicate, ↓L_gdZ_tt, ↓L_gdZ_tf, ↓L_gdZ_ft, ↓L_gdZ_ff, ↓T_and, ↓T_imp, ↓T_all, la, lb, Int.reduceBEq]; try simp only [top_out])
    repeat' (with_reducible first | refine And.intro ?_ ?_ | intro)
    all_goals simp only [bne_iff_ne, bne_eq_false_iff_eq, ne_eq, true_and] at *
    all_goals first
      | (refine dropI hM hK ?_; (repeat' split) <;> first | rfl | omega)
      | (refine rkeyed_ok G' G2 xp xl _ s _ _ h.app o3 (hc0.ag (S := fun _ => False) Ag.app (fun _ _ _ e => e)) hs ?_; (refine top_in ?_; simp -implicitDefEqProofs only [go_sem, -List.reduceReplicate, ↓L_gdZ_tt, ↓L_gdZ_tf, ↓L_gdZ_ft, ↓L_gdZ_ff, ↓T_and, ↓T_imp, ↓T_all]; try simp only [top_out]); refine dropI hM hK ?_; (repeat' split) <;> first | rfl | omega)
theorem fault_eq (s : St) (c : Ch) (h1 : c.spare = false) (h2 : c.keyed = false) : s.fault c = (if c.link < 1 ∨ 4294967295 < c.link then 161 else if c.kind ≠ 2 ∧ validP c.pfx = false then 170 else if ixI (s.peer c.link) < 0 then 169 else if c.kind = 4 ∧ 0 ≤ ixI (s.holder c.pfx) then 171
    else if c.kind = 4 ∧ 16 ≤ ((s.pfxOf c.link).length : Int) then 172 else if c.kind = 5 ∧ ixI (s.holder c.pfx) ≠ ixI (s.peer c.link) then 173 else 0) := by
  unfold St.fault
  rw [h1, h2, if_neg (by decide), if_neg (by decide)]
  have e2 : (16 ≤ ((s.pfxOf c.link).length : Int)) ↔ 16 ≤ (s.pfxOf c.link).length := by omega
  simp only [ixI_some, ixI_none, ixI_inj, e2, ne_eq]
set_option maxHeartbeats 2000000 in
set_option maxRecDepth 20000 in
theorem rfault_ok (G G' : Nat → Prop) (xp xl : SV) (c : Ch × SV) (s : St) (M : List Blk) (K : SV → List Blk → Prop) (hP : Prs M G xp s.ps) (h : Lns M G' xl s.ls) (G2 : Nat → Prop) (hc : ChE M G2 c) (hs : s.Right) (hK : K (.i .i64 (s.fault c.1)) M) :
    callVC Tryz.prog 33 [.agg [xp, xl], .agg (chC c)] M K := by
  obtain ⟨c, xk⟩ := c
  have o2 := hc.key.one
  have o1 := h.one
  have o3 := hP.one
  have la : ∀ {M' : List Blk} {e a' b' : Nat} {K : SV → Prop}, lenB (.slice e a' b') M' xp K = K (.i .i64 s.ps.length) := hP.lenB
  have lb : ∀ {M' : List Blk} {e a' b' : Nat} {K : SV → Prop}, lenB (.slice e a' b') M' xk K = K (.i .i64 c.key.length) := hc.key.lenB
  have hl := hs.nl
  have hn := hs.np
  simp only at o2 hK
  have hc0 : ChE M G2 (c, xk) := hc
  by_cases hsp : c.spare = true
  · have hf : s.fault c = 160 := by unfold St.fault; rw [if_pos hsp]
    rw [hf] at hK
    unfold chC pxC
    simp only [List.cons_append, List.nil_append]
    refine fn_rule tabOK Tryz.func33 rfl Tryz.call33 (by kernel_rfl) (fun hM => ?_)
    (refine top_in ?_; simp -implicitDefEqProofs only [Tryz.ntmps33, Tryz.results33, go_sem, -List.reduceReplicate, ↓L_gdZ_tt, ↓L_gdZ_tf, ↓L_gdZ_ft, ↓L_gdZ_ff, ↓T_and, ↓T_imp, ↓T_all, o1, o2, o3]; try simp only [top_out])
    refine rspare_ok G2 (c, xk) _ _ (hc0.ag (S := fun _ => False) Ag.app (fun _ _ _ e => e)) ?_
    (refine top_in ?_; simp -implicitDefEqProofs only [go_sem, -List.reduceReplicate, ↓L_gdZ_tt, ↓L_gdZ_tf, ↓L_gdZ_ft, ↓L_gdZ_ff, ↓T_and, ↓T_imp, ↓T_all, hsp]; try simp only [top_out])
    exact dropC_append hM rfl hK
  rw [Bool.not_eq_true] at hsp
  have hkd : c.kind = 1 ∨ c.kind = 2 ∨ c.kind = 3 ∨ c.kind = 4 ∨ c.kind = 5 := by
    have := hsp
    unfold Ch.spare at this
    simp only [Bool.or_eq_false_iff, decide_eq_false_iff_not] at this
    omega
  obtain ⟨kind, link, side, key, pfx⟩ := c
  simp only at hkd
  rcases hkd with rfl | rfl | rfl | rfl | rfl
  all_goals unfold chC pxC
  all_goals simp only [List.cons_append, List.nil_append]
  · have hf : ∀ c : Ch, c.spare = false → c.keyed = true → s.fault c = s.givenF c := fun c h1 h2 => by unfold St.fault; rw [h1, if_neg (by decide), if_pos h2]
    rw [hf _ hsp (by rfl)] at hK
    refine fn_rule tabOK Tryz.func33 rfl Tryz.call33 (by kernel_rfl) (fun hM => ?_)
    (refine top_in ?_; simp -implicitDefEqProofs only [Tryz.ntmps33, Tryz.results33, go_sem, -List.reduceReplicate, ↓L_gdZ_tt, ↓L_gdZ_tf, ↓L_gdZ_ft, ↓L_gdZ_ff, ↓T_and, ↓T_imp, ↓T_all, o1, o2, o3]; try simp only [top_out])
    refine rspare_ok G2 _ _ _ (hc0.ag (S := fun _ => False) Ag.app (fun _ _ _ e => e)) ?_
    (refine top_in ?_; simp -implicitDefEqProofs only [go_sem, -List.reduceReplicate, ↓L_gdZ_tt, ↓L_gdZ_tf, ↓L_gdZ_ft, ↓L_gdZ_ff, ↓T_and, ↓T_imp, ↓T_all, hsp, Int.reduceBEq]; try simp only [top_out])
    refine rgiven_ok G G' xp xl _ s _ _ hP.app h.app G2 (hc0.ag (S := fun _ => False) Ag.app (fun _ _ _ e => e)) hs (by first | exact .inl rfl | exact .inr rfl) ?_
    (refine top_in ?_; simp -implicitDefEqProofs only [go_sem, -List.reduceReplicate, ↓L_gdZ_tt, ↓L_gdZ_tf, ↓L_gdZ_ft, ↓L_gdZ_ff, ↓T_and, ↓T_imp, ↓T_all]; try simp only [top_out])
    exact dropI hM hK rfl
  · rw [fault_eq s _ hsp (by rfl)] at hK
    have hpf : ∀ p ∈ s.ps, p.pfx.length ≤ 100000 := fun p hp => by have := (hs.peer p hp).many; omega
    refine fn_rule tabOK Tryz.func33 rfl Tryz.call33 (by kernel_rfl) (fun hM => ?_)
    (refine top_in ?_; simp -implicitDefEqProofs only [Tryz.ntmps33, Tryz.results33, go_sem, -List.reduceReplicate, ↓L_gdZ_tt, ↓L_gdZ_tf, ↓L_gdZ_ft, ↓L_gdZ_ff, ↓T_and, ↓T_imp, ↓T_all, o1, o2, o3]; try simp only [top_out])
    refine rspare_ok G2 _ _ _ (hc0.ag (S := fun _ => False) Ag.app (fun _ _ _ e => e)) ?_
    (refine top_in ?_; simp -implicitDefEqProofs only [go_sem, -List.reduceReplicate, ↓L_gdZ_tt, ↓L_gdZ_tf, ↓L_gdZ_ft, ↓L_gdZ_ff, ↓T_and, ↓T_imp, ↓T_all, hsp, Int.reduceBEq]; try simp only [top_out])
    refine rpeer_ok G xp xl link s _ _ hP.app o1 (by omega) ?_
    (refine top_in ?_; simp -implicitDefEqProofs only [go_sem, -List.reduceReplicate, ↓L_gdZ_tt, ↓L_gdZ_tf, ↓L_gdZ_ft, ↓L_gdZ_ff, ↓T_and, ↓T_imp, ↓T_all]; try simp only [top_out])
    refine rvalid_ok pfx _ _ ?_
    (refine top_in ?_; simp -implicitDefEqProofs only [go_sem, -List.reduceReplicate, ↓L_gdZ_tt, ↓L_gdZ_tf, ↓L_gdZ_ft, ↓L_gdZ_ff, ↓T_and, ↓T_imp, ↓T_all]; try simp only [top_out])
    refine rholder_ok G xp xl pfx s _ _ hP.app o1 (by omega) hpf ?_
    have hn1 : ixI none = -1 := rfl
    have hs1 : ∀ i : Nat, ixI (some i) = i := fun _ => rfl
    cases e : s.peer link with
    | none =>
      rw [e] at hK
      cases hv : validP pfx
      all_goals (refine top_in ?_; simp -implicitDefEqProofs only [go_sem, -List.reduceReplicate, ↓L_gdZ_tt, ↓L_gdZ_tf, ↓L_gdZ_ft, ↓L_gdZ_ff, ↓T_and, ↓T_imp, ↓T_all, hn1, hs1, hv, Int.reduceBEq, Int.reduceBNe]; try simp only [top_out])
      all_goals simp only [hn1, hs1, hv, ne_eq, and_true, and_false, not_true, not_false_iff, Bool.true_eq_false] at hK
      all_goals repeat' (with_reducible first | refine And.intro ?_ ?_ | intro)
      all_goals try simp only [bne_iff_ne, bne_eq_false_iff_eq, ne_eq] at *
      all_goals refine dropI hM hK ?_
      all_goals (repeat' split) <;> first | rfl | omega | contradiction | simp_all
    | some i =>
      rw [e] at hK
      obtain ⟨p, hk, hkey⟩ := (St.peer_some hs).1 e
      obtain ⟨n, cap, e', rfl, l1, g1, g2, g3, g4, g5, g6, g7⟩ := hP.at (List.getElem?_eq_some_iff.1 hk).1
      rw [hk] at g1
      cases g1
      have hil := (List.getElem?_eq_some_iff.1 hk).1
      have lc : ∀ {M' : List Blk} {e a' b' : Nat} {K : SV → Prop}, lenB (.slice e a' b') M' e'.2.2 K = K (.i .i64 e'.1.pfx.length) := g2.pfx.lenB
      have hof : s.pfxOf link = e'.1.pfx := by unfold St.pfxOf; rw [e]; simp [hk]
      rw [hof] at hK
      clear hof lb hc hc0
      cases hv : validP pfx
      all_goals (refine top_in ?_; simp -implicitDefEqProofs only [go_sem, -List.reduceReplicate, ↓L_gdZ_tt, ↓L_gdZ_tf, ↓L_gdZ_ft, ↓L_gdZ_ff, ↓T_and, ↓T_imp, ↓T_all, hn1, hs1, hv, Int.reduceBEq, Int.reduceBNe, la, get_lt l1, g7, lc]; try simp only [top_out])
      all_goals simp only [hn1, hs1, hv, ne_eq, and_true, and_false, not_true, not_false_iff, Bool.true_eq_false] at hK
      all_goals repeat' (with_reducible first | refine And.intro ?_ ?_ | intro)
      all_goals try simp only [bne_iff_ne, bne_eq_false_iff_eq, ne_eq] at *
      all_goals first
        | omega
        | (refine dropI hM hK ?_; (repeat' split) <;> first | rfl | omega | contradiction | simp_all)
  · have hf : ∀ c : Ch, c.spare = false → c.keyed = true → s.fault c = s.givenF c := fun c h1 h2 => by unfold St.fault; rw [h1, if_neg (by decide), if_pos h2]
    rw [hf _ hsp (by rfl)] at hK
    refine fn_rule tabOK Tryz.func33 rfl Tryz.call33 (by kernel_rfl) (fun hM => ?_)
    (refine top_in ?_; simp -implicitDefEqProofs only [Tryz.ntmps33, Tryz.results33, go_sem, -List.reduceReplicate, ↓L_gdZ_tt, ↓L_gdZ_tf, ↓L_gdZ_ft, ↓L_gdZ_ff, ↓T_and, ↓T_imp, ↓T_all, o1, o2, o3]; try simp only [top_out])
    refine rspare_ok G2 _ _ _ (hc0.ag (S := fun _ => False) Ag.app (fun _ _ _ e => e)) ?_
    (refine top_in ?_; simp -implicitDefEqProofs only [go_sem, -List.reduceReplicate, ↓L_gdZ_tt, ↓L_gdZ_tf, ↓L_gdZ_ft, ↓L_gdZ_ff, ↓T_and, ↓T_imp, ↓T_all, hsp, Int.reduceBEq]; try simp only [top_out])
    refine rgiven_ok G G' xp xl _ s _ _ hP.app h.app G2 (hc0.ag (S := fun _ => False) Ag.app (fun _ _ _ e => e)) hs (by first | exact .inl rfl | exact .inr rfl) ?_
    (refine top_in ?_; simp -implicitDefEqProofs only [go_sem, -List.reduceReplicate, ↓L_gdZ_tt, ↓L_gdZ_tf, ↓L_gdZ_ft, ↓L_gdZ_ff, ↓T_and, ↓T_imp, ↓T_all]; try simp only [top_out])
    exact dropI hM hK rfl
  · rw [fault_eq s _ hsp (by rfl)] at hK
    have hpf : ∀ p ∈ s.ps, p.pfx.length ≤ 100000 := fun p hp => by have := (hs.peer p hp).many; omega
    refine fn_rule tabOK Tryz.func33 rfl Tryz.call33 (by kernel_rfl) (fun hM => ?_)
    (refine top_in ?_; simp -implicitDefEqProofs only [Tryz.ntmps33, Tryz.results33, go_sem, -List.reduceReplicate, ↓L_gdZ_tt, ↓L_gdZ_tf, ↓L_gdZ_ft, ↓L_gdZ_ff, ↓T_and, ↓T_imp, ↓T_all, o1, o2, o3]; try simp only [top_out])
    refine rspare_ok G2 _ _ _ (hc0.ag (S := fun _ => False) Ag.app (fun _ _ _ e => e)) ?_
    (refine top_in ?_; simp -implicitDefEqProofs only [go_sem, -List.reduceReplicate, ↓L_gdZ_tt, ↓L_gdZ_tf, ↓L_gdZ_ft, ↓L_gdZ_ff, ↓T_and, ↓T_imp, ↓T_all, hsp, Int.reduceBEq]; try simp only [top_out])
    refine rpeer_ok G xp xl link s _ _ hP.app o1 (by omega) ?_
    (refine top_in ?_; simp -implicitDefEqProofs only [go_sem, -List.reduceReplicate, ↓L_gdZ_tt, ↓L_gdZ_tf, ↓L_gdZ_ft, ↓L_gdZ_ff, ↓T_and, ↓T_imp, ↓T_all]; try simp only [top_out])
    refine rvalid_ok pfx _ _ ?_
    (refine top_in ?_; simp -implicitDefEqProofs only [go_sem, -List.reduceReplicate, ↓L_gdZ_tt, ↓L_gdZ_tf, ↓L_gdZ_ft, ↓L_gdZ_ff, ↓T_and, ↓T_imp, ↓T_all]; try simp only [top_out])
    refine rholder_ok G xp xl pfx s _ _ hP.app o1 (by omega) hpf ?_
    have hn1 : ixI none = -1 := rfl
    have hs1 : ∀ i : Nat, ixI (some i) = i := fun _ => rfl
    cases e : s.peer link with
    | none =>
      rw [e] at hK
      cases hv : validP pfx
      all_goals (refine top_in ?_; simp -implicitDefEqProofs only [go_sem, -List.reduceReplicate, ↓L_gdZ_tt, ↓L_gdZ_tf, ↓L_gdZ_ft, ↓L_gdZ_ff, ↓T_and, ↓T_imp, ↓T_all, hn1, hs1, hv, Int.reduceBEq, Int.reduceBNe]; try simp only [top_out])
      all_goals simp only [hn1, hs1, hv, ne_eq, and_true, and_false, not_true, not_false_iff, Bool.true_eq_false] at hK
      all_goals repeat' (with_reducible first | refine And.intro ?_ ?_ | intro)
      all_goals try simp only [bne_iff_ne, bne_eq_false_iff_eq, ne_eq] at *
      all_goals refine dropI hM hK ?_
      all_goals (repeat' split) <;> first | rfl | omega | contradiction | simp_all
    | some i =>
      rw [e] at hK
      obtain ⟨p, hk, hkey⟩ := (St.peer_some hs).1 e
      obtain ⟨n, cap, e', rfl, l1, g1, g2, g3, g4, g5, g6, g7⟩ := hP.at (List.getElem?_eq_some_iff.1 hk).1
      rw [hk] at g1
      cases g1
      have hil := (List.getElem?_eq_some_iff.1 hk).1
      have lc : ∀ {M' : List Blk} {e a' b' : Nat} {K : SV → Prop}, lenB (.slice e a' b') M' e'.2.2 K = K (.i .i64 e'.1.pfx.length) := g2.pfx.lenB
      have hof : s.pfxOf link = e'.1.pfx := by unfold St.pfxOf; rw [e]; simp [hk]
      rw [hof] at hK
      clear hof lb hc hc0
      cases hv : validP pfx
      all_goals (refine top_in ?_; simp -implicitDefEqProofs only [go_sem, -List.reduceReplicate, ↓L_gdZ_tt, ↓L_gdZ_tf, ↓L_gdZ_ft, ↓L_gdZ_ff, ↓T_and, ↓T_imp, ↓T_all, hn1, hs1, hv, Int.reduceBEq, Int.reduceBNe, la, get_lt l1, g7, lc]; try simp only [top_out])
      all_goals simp only [hn1, hs1, hv, ne_eq, and_true, and_false, not_true, not_false_iff, Bool.true_eq_false] at hK
      all_goals repeat' (with_reducible first | refine And.intro ?_ ?_ | intro)
      all_goals try simp only [bne_iff_ne, bne_eq_false_iff_eq, ne_eq] at *
      all_goals first
        | omega
        | (refine dropI hM hK ?_; (repeat' split) <;> first | rfl | omega | contradiction | simp_all)
  · rw [fault_eq s _ hsp (by rfl)] at hK
    have hpf : ∀ p ∈ s.ps, p.pfx.length ≤ 100000 := fun p hp => by have := (hs.peer p hp).many; omega
    refine fn_rule tabOK Tryz.func33 rfl Tryz.call33 (by kernel_rfl) (fun hM => ?_)
    (refine top_in ?_; simp -implicitDefEqProofs only [Tryz.ntmps33, Tryz.results33, go_sem, -List.reduceReplicate, ↓L_gdZ_tt, ↓L_gdZ_tf, ↓L_gdZ_ft, ↓L_gdZ_ff, ↓T_and, ↓T_imp, ↓T_all, o1, o2, o3]; try simp only [top_out])
    refine rspare_ok G2 _ _ _ (hc0.ag (S := fun _ => False) Ag.app (fun _ _ _ e => e)) ?_
    (refine top_in ?_; simp -implicitDefEqProofs only [go_sem, -List.reduceReplicate, ↓L_gdZ_tt, ↓L_gdZ_tf, ↓L_gdZ_ft, ↓L_gdZ_ff, ↓T_and, ↓T_imp, ↓T_all, hsp, Int.reduceBEq]; try simp only [top_out])
    refine rpeer_ok G xp xl link s _ _ hP.app o1 (by omega) ?_
    (refine top_in ?_; simp -implicitDefEqProofs only [go_sem, -List.reduceReplicate, ↓L_gdZ_tt, ↓L_gdZ_tf, ↓L_gdZ_ft, ↓L_gdZ_ff, ↓T_and, ↓T_imp, ↓T_all]; try simp only [top_out])
    refine rvalid_ok pfx _ _ ?_
    (refine top_in ?_; simp -implicitDefEqProofs only [go_sem, -List.reduceReplicate, ↓L_gdZ_tt, ↓L_gdZ_tf, ↓L_gdZ_ft, ↓L_gdZ_ff, ↓T_and, ↓T_imp, ↓T_all]; try simp only [top_out])
    refine rholder_ok G xp xl pfx s _ _ hP.app o1 (by omega) hpf ?_
    have hn1 : ixI none = -1 := rfl
    have hs1 : ∀ i : Nat, ixI (some i) = i := fun _ => rfl
    cases e : s.peer link with
    | none =>
      rw [e] at hK
      cases hv : validP pfx
      all_goals (refine top_in ?_; simp -implicitDefEqProofs only [go_sem, -List.reduceReplicate, ↓L_gdZ_tt, ↓L_gdZ_tf, ↓L_gdZ_ft, ↓L_gdZ_ff, ↓T_and, ↓T_imp, ↓T_all, hn1, hs1, hv, Int.reduceBEq, Int.reduceBNe]; try simp only [top_out])
      all_goals simp only [hn1, hs1, hv, ne_eq, and_true, and_false, not_true, not_false_iff, Bool.true_eq_false] at hK
      all_goals repeat' (with_reducible first | refine And.intro ?_ ?_ | intro)
      all_goals try simp only [bne_iff_ne, bne_eq_false_iff_eq, ne_eq] at *
      all_goals refine dropI hM hK ?_
      all_goals (repeat' split) <;> first | rfl | omega | contradiction | simp_all
    | some i =>
      rw [e] at hK
      obtain ⟨p, hk, hkey⟩ := (St.peer_some hs).1 e
      obtain ⟨n, cap, e', rfl, l1, g1, g2, g3, g4, g5, g6, g7⟩ := hP.at (List.getElem?_eq_some_iff.1 hk).1
      rw [hk] at g1
      cases g1
      have hil := (List.getElem?_eq_some_iff.1 hk).1
      have lc : ∀ {M' : List Blk} {e a' b' : Nat} {K : SV → Prop}, lenB (.slice e a' b') M' e'.2.2 K = K (.i .i64 e'.1.pfx.length) := g2.pfx.lenB
      have hof : s.pfxOf link = e'.1.pfx := by unfold St.pfxOf; rw [e]; simp [hk]
      rw [hof] at hK
      clear hof lb hc hc0
      cases hv : validP pfx
      all_goals (refine top_in ?_; simp -implicitDefEqProofs only [go_sem, -List.reduceReplicate, ↓L_gdZ_tt, ↓L_gdZ_tf, ↓L_gdZ_ft, ↓L_gdZ_ff, ↓T_and, ↓T_imp, ↓T_all, hn1, hs1, hv, Int.reduceBEq, Int.reduceBNe, la, get_lt l1, g7, lc]; try simp only [top_out])
      all_goals simp only [hn1, hs1, hv, ne_eq, and_true, and_false, not_true, not_false_iff, Bool.true_eq_false] at hK
      all_goals repeat' (with_reducible first | refine And.intro ?_ ?_ | intro)
      all_goals try simp only [bne_iff_ne, bne_eq_false_iff_eq, ne_eq] at *
      all_goals first
        | omega
        | (refine dropI hM hK ?_; (repeat' split) <;> first | rfl | omega | contradiction | simp_all)
end Go.Proofs.YtdcplcfedcmcmaaGreat.Eng
