/- Joined texts: C6, C7, C8. -/
import Derived.Test.YtdcplcfedcmcmaaGreatC5
/- Lists of prefixes, peers, lanes, changes: in new memory, held against each other. -/
namespace Go.Proofs.YtdcplcfedcmcmaaGreat.Eng
open Go Go.RowKit
set_option linter.unusedSimpArgs false
set_option linter.unusedVariables false

theorem take_snocS {α : Type} {l : List α} {k : Nat} {c : α} (h : l[k]? = some c) : l.take (k + 1) = l.take k ++ [c] := by
  obtain ⟨hl, rfl⟩ := List.getElem?_eq_some_iff.1 h
  rw [List.take_succ_eq_append_getElem hl]
set_option maxHeartbeats 1000000 in
theorem prefixes_ok (x : SV) (cs : List (List SV)) (M : List Blk) (K : SV → List Blk → Prop) (h : Lst M 4 x cs) (hl : cs.length ≤ 100000)
    (hK : ∀ M' y, Own M' 4 y cs → NmG (fun n => M.length ≤ n) y → Ag (fun _ => False) M M' → K y M') :
    callVC Tryz.prog 38 [x] M K := by
  have la : ∀ {M' : List Blk} {e a' b' : Nat} {K : SV → Prop}, lenB (.slice e a' b') M' x K = K (.i .i64 cs.length) := h.lenB
  refine fn_rule tabOK Tryz.func38 rfl Tryz.call38 (by kernel_rfl) (fun hM => ?_)
  (refine top_in ?_; simp -implicitDefEqProofs only [Tryz.ntmps38, Tryz.results38, go_sem, -List.reduceReplicate, ↓L_gdZ_tt, ↓L_gdZ_tf, ↓L_gdZ_ft, ↓L_gdZ_ff, ↓T_and, ↓T_imp, ↓T_all]; try simp only [top_out])
  refine loop_code tabOK (by kernel_rfl) (fun m ts M' => ∃ (k : Nat) (s : SV), k + m = cs.length ∧ Ag (fun _ => False) M M' ∧ Own M' 4 s (cs.take k) ∧ NmG (fun n => M.length ≤ n) s ∧ frC [some (x), none, none, some (s), some (.i .i64 k), none, none, none, none, none, none, none, none, none, none, none, none, none, none] ts) cs.length ?_ ?_
  · exact ⟨0, .sn, by omega, Ag.refl, Own.sn, NmG.sn, by simp [frC]⟩
  · rintro m ts M1 ⟨k, s, hk, hA, hs, hn, hf⟩
    have hm := hA.1
    obtain ⟨f, rfl⟩ := frC_open _ _ 0 hf
    clear hf
    (refine top_in ?_; simp -implicitDefEqProofs only [go_sem, -List.reduceReplicate, ↓L_gdZ_tt, ↓L_gdZ_tf, ↓L_gdZ_ft, ↓L_gdZ_ff, ↓T_and, ↓T_imp, ↓T_all, la]; try simp only [top_out])
    refine ⟨fun h1 => ?_, fun h1 => ?_⟩
    · obtain ⟨n1, cap1, rfl, l1, l2, ea⟩ := (h.ag hA (fun _ _ e => e)).at (by omega)
      have hg : cs[k]? = some cs[k] := List.getElem?_eq_getElem (by omega)
      generalize cs[k] = c at hg
      obtain ⟨g1, g2, g3, g4⟩ := ea k c hg
      have g5 := (h.2.1 c (List.mem_of_getElem? hg)).2
      (refine top_in ?_; simp -implicitDefEqProofs only [go_sem, -List.reduceReplicate, ↓L_gdZ_tt, ↓L_gdZ_tf, ↓L_gdZ_ft, ↓L_gdZ_ff, ↓T_and, ↓T_imp, ↓T_all, g1]; try simp only [top_out])
      refine ⟨by omega, by omega, by omega, by omega, by decide, ⟨g2, g5⟩, ?_⟩
      refine appK (cs.take k) [c] rfl (by decide) (by decide) (by decide) rfl rfl rfl hs.app (fun c' hc => by rw [List.mem_singleton.1 hc]; exact ⟨g2, g5⟩) (src_one (by rw [get_app0]; rfl) g2) (by simp; omega) (fun M2 s2 o2 n2 A2 => ?_)
      (refine top_in ?_; simp -implicitDefEqProofs only [go_sem, -List.reduceReplicate, ↓L_gdZ_tt, ↓L_gdZ_tf, ↓L_gdZ_ft, ↓L_gdZ_ff, ↓T_and, ↓T_imp, ↓T_all]; try simp only [top_out])
      refine ⟨m - 1, by omega, k + 1, s2, by omega, ?_, by rw [take_snocS hg]; exact o2, n2.mono (fun n e => by simp at e; omega), rfl, w64 (by omega) (by omega)⟩
      exact Ag.trans hA (S' := fun n => M.length ≤ n) (Ag.trans (S' := fun n => M.length ≤ n) Ag.app (A2.mono (fun n e => hn n e)) (fun _ _ e => e)) (fun n h1 h2 => by omega)
    · obtain rfl : k = cs.length := by omega
      rw [List.take_length] at hs
      exact dropC_all hm (hK M1 s hs hn hA)
/-- lists of one's own -/
def PrsO (M : List Blk) (b : Nat) (y : SV) (ps : List Pr) : Prop := ∃ es : List (Pr × SV × SV), es.map (·.1) = ps ∧ Own M 3 y (es.map prC) ∧ NmG (fun n => b ≤ n) y ∧ ∀ e ∈ es, PrE M (fun n => b ≤ n ∧ dnS y ≠ some n) e
def LnsO (M : List Blk) (b : Nat) (y : SV) (ls : List Ln) : Prop := ∃ es : List (Ln × SV), es.map (·.1) = ls ∧ Own M 8 y (es.map lnC) ∧ NmG (fun n => b ≤ n) y ∧ ∀ e ∈ es, LnE M (fun n => b ≤ n ∧ dnS y ≠ some n) e
def ChsO (M : List Blk) (b : Nat) (y : SV) (l : List Ch) : Prop := ∃ es : List (Ch × SV), es.map (·.1) = l ∧ Own M 8 y (es.map chC) ∧ NmG (fun n => b ≤ n) y ∧ ∀ e ∈ es, ChE M (fun n => b ≤ n ∧ dnS y ≠ some n) e ∧ RowF M e.2
theorem PrsO.prs {M : List Blk} {b : Nat} {y : SV} {ps : List Pr} (h : PrsO M b y ps) : Prs M (fun n => b ≤ n) y ps := by
  obtain ⟨es, h1, h2, h3, h4⟩ := h
  exact ⟨es, h1, h2.lst (by decide), h3, fun e he => (h4 e he).mono (fun n h => h.1)⟩
theorem LnsO.lns {M : List Blk} {b : Nat} {y : SV} {ls : List Ln} (h : LnsO M b y ls) : Lns M (fun n => b ≤ n) y ls := by
  obtain ⟨es, h1, h2, h3, h4⟩ := h
  exact ⟨es, h1, h2.lst (by decide), h3, fun e he => (h4 e he).mono (fun n h => h.1)⟩
theorem ChsO.chs {M : List Blk} {b : Nat} {y : SV} {l : List Ch} (h : ChsO M b y l) : Chs M (fun n => b ≤ n) y l := by
  obtain ⟨es, h1, h2, h3, h4⟩ := h
  exact ⟨es, h1, h2.lst (by decide), h3, fun e he => (h4 e he).1.mono (fun n h => h.1)⟩
theorem pxC_ok (l : List Pfx) : ∀ c ∈ l.map pxC, c.length = 4 ∧ c.all SV.one = true := by
  intro c hc
  obtain ⟨p, _, rfl⟩ := List.mem_map.1 hc
  exact ⟨rfl, rfl⟩
theorem peer_ok (G : Nat → Prop) (e : Pr × SV × SV) (M : List Blk) (K : SV → List Blk → Prop) (h : PrE M G e) (hl : e.1.pfx.length ≤ 100000)
    (hK : ∀ M' y z, Byt M' y e.1.key → NmG (fun n => M.length ≤ n) y → Own M' 4 z (e.1.pfx.map pxC) → NmG (fun n => M.length ≤ n) z → Ag (fun _ => False) M M' → K (.agg (prC (e.1, y, z))) M') :
    callVC Tryz.prog 24 [.agg (prC e)] M K := by
  obtain ⟨p, xk, xp⟩ := e
  have o1 := h.key.one
  have o2 := h.pfx.one
  simp only at o1 o2 hl hK
  unfold prC
  refine fn_rule tabOK Tryz.func24 rfl Tryz.call24 (by kernel_rfl) (fun hM => ?_)
  (refine top_in ?_; simp -implicitDefEqProofs only [Tryz.ntmps24, Tryz.results24, go_sem, -List.reduceReplicate, ↓L_gdZ_tt, ↓L_gdZ_tf, ↓L_gdZ_ft, ↓L_gdZ_ff, ↓T_and, ↓T_imp, ↓T_all, o1, o2]; try simp only [top_out])
  refine draw_rule tabOK (by kernel_rfl : _) (.p 0 (.p 1 (.p 2 (.p 3 (.p 5 (.p 6 (.e 4 [0, 1, 5, 6] (.e 7 [0, 1] (.p 8 (.e 9 [] .nil .no)) .no) .no))))))) (by kernel_rfl) (by kernel_rfl) ?_
  (refine top_in ?_; simp -implicitDefEqProofs only [go_sem, -List.reduceReplicate, ↓L_gdZ_tt, ↓L_gdZ_tf, ↓L_gdZ_ft, ↓L_gdZ_ff, ↓T_and, ↓T_imp, ↓T_all]; try simp only [top_out])
  refine bytes_byt xk p.key _ _ h.key.app (fun M1 y b1 n1 A1 => ?_)
  have c0 := A1.at0 noS rfl
  have c1 := A1.atk (k := 1) noS rfl
  simp only [List.length_append, List.length_cons, List.length_nil] at n1
  have o3 := b1.one
  (refine top_in ?_; simp -implicitDefEqProofs only [go_sem, -List.reduceReplicate, ↓L_gdZ_tt, ↓L_gdZ_tf, ↓L_gdZ_ft, ↓L_gdZ_ff, ↓T_and, ↓T_imp, ↓T_all, c0, c1]; try simp only [top_out])
  have hp1 : Lst M1 4 xp (p.pfx.map pxC) := h.pfx.app.ag A1 (fun _ _ e => e)
  refine prefixes_ok xp _ M1 _ hp1 (by simpa using hl) (fun M2 z b2 n2 A2 => ?_)
  have m1 := A1.1
  have m2 := A2.1
  simp only [List.length_append, List.length_cons, List.length_nil] at m1
  have d0 := A2.get c0 (fun e => e)
  have d1 := A2.get c1 (fun e => e)
  have o4 := b2.one
  have hw := kw d1
  (refine top_in ?_; simp -implicitDefEqProofs only [go_sem, -List.reduceReplicate, ↓L_gdZ_tt, ↓L_gdZ_tf, ↓L_gdZ_ft, ↓L_gdZ_ff, ↓T_and, ↓T_imp, ↓T_all, d0, d1, o3, o4, cellsS_one o3, cellsS_one o4, gss0 hw]; try simp only [top_out])
  have hA : Ag (fun n => n = M.length + 1) M2 (M2.set (M.length + 1) (.row [.i .i64 p.link, y, z] 62)) := Ag.set rfl
  refine dropC_all (by simp; omega) (hK _ y z ((b1.ag A2 (fun _ _ e => e)).ag hA (fun d e h => by have := n1 d e; omega)) (n1.mono (fun n h => by omega)) (b2.ag hA (fun d e h => by have := n2 d e; omega)) (n2.mono (fun n h => by omega)) ?_)
  exact Ag.trans (Ag.trans (Ag.trans Ag.app A1 (fun _ _ e => e)) A2 (fun _ _ e => e)) hA (fun n h1 h2 => by omega)
theorem lane_ok (G : Nat → Prop) (e : Ln × SV) (M : List Blk) (K : SV → List Blk → Prop) (h : LnE M G e)
    (hK : ∀ M' y, Byt M' y e.1.key → NmG (fun n => M.length ≤ n) y → Ag (fun _ => False) M M' → K (.agg (lnC (e.1, y))) M') :
    callVC Tryz.prog 25 [.agg (lnC e)] M K := by
  obtain ⟨p, xk⟩ := e
  have o1 := h.key.one
  simp only at o1 hK
  unfold lnC
  refine fn_rule tabOK Tryz.func25 rfl Tryz.call25 (by kernel_rfl) (fun hM => ?_)
  (refine top_in ?_; simp -implicitDefEqProofs only [Tryz.ntmps25, Tryz.results25, go_sem, -List.reduceReplicate, ↓L_gdZ_tt, ↓L_gdZ_tf, ↓L_gdZ_ft, ↓L_gdZ_ff, ↓T_and, ↓T_imp, ↓T_all, o1]; try simp only [top_out])
  refine bytes_byt xk p.key _ _ h.key.app (fun M1 y b1 n1 A1 => ?_)
  have c0 := A1.at0 noS rfl
  have c1 := A1.atk (k := 1) noS rfl
  have m1 := A1.1
  simp only [List.length_append, List.length_cons, List.length_nil] at n1 m1
  have o3 := b1.one
  have hw := kw c0
  have hw1 := kw c1
  (refine top_in ?_; simp -implicitDefEqProofs only [go_sem, -List.reduceReplicate, ↓L_gdZ_tt, ↓L_gdZ_tf, ↓L_gdZ_ft, ↓L_gdZ_ff, ↓T_and, ↓T_imp, ↓T_all, c0, c1, o3, cellsS_one o3, gss0 hw, gss hw1]; try simp only [top_out])
  refine dropC_all (by simp; omega) (hK _ y (b1.ag (S := fun n => n = M.length ∨ n = M.length + 1) (Ag.trans (S' := fun n => n = M.length + 1) (Ag.set (.inl rfl)) (Ag.set rfl) (fun n _ e => .inr e)) (fun d e h => by have := n1 d e; omega)) (n1.mono (fun n h => by omega)) ?_)
  exact Ag.trans (Ag.trans (Ag.app (S := fun _ => False)) A1 (fun _ _ e => e)) (Ag.trans (S := fun n => n = M.length ∨ n = M.length + 1) (S' := fun n => n = M.length + 1) (Ag.set (.inl rfl)) (Ag.set rfl) (fun n _ e => .inr e)) (fun n h1 h2 => by omega)
set_option maxHeartbeats 1000000 in
theorem peers_ok (G : Nat → Prop) (x : SV) (ps : List Pr) (M : List Blk) (K : SV → List Blk → Prop) (h : Prs M G x ps) (hl : ps.length ≤ 100000) (hpf : ∀ p ∈ ps, p.pfx.length ≤ 100000)
    (hK : ∀ M' y, PrsO M' M.length y ps → Ag (fun _ => False) M M' → K y M') :
    callVC Tryz.prog 10 [x] M K := by
  obtain ⟨es, rfl, h1, h2, h3⟩ := h
  rw [List.length_map] at hl
  have la : ∀ {M' : List Blk} {e a' b' : Nat} {K : SV → Prop}, lenB (.slice e a' b') M' x K = K (.i .i64 es.length) := by intro M' e a' b' K; rw [h1.lenB, List.length_map]
  refine fn_rule tabOK Tryz.func10 rfl Tryz.call10 (by kernel_rfl) (fun hM => ?_)
  (refine top_in ?_; simp -implicitDefEqProofs only [Tryz.ntmps10, Tryz.results10, go_sem, -List.reduceReplicate, ↓L_gdZ_tt, ↓L_gdZ_tf, ↓L_gdZ_ft, ↓L_gdZ_ff, ↓T_and, ↓T_imp, ↓T_all]; try simp only [top_out])
  refine loop_code tabOK (by kernel_rfl) (fun m ts M' => ∃ (k : Nat) (s : SV) (fs : List (Pr × SV × SV)), k + m = es.length ∧ Ag (fun _ => False) M M' ∧ fs.map (·.1) = (es.take k).map (·.1) ∧ Own M' 3 s (fs.map prC) ∧ NmG (fun n => M.length ≤ n) s ∧ (∀ e ∈ fs, PrE M' (fun n => M.length ≤ n ∧ dnS s ≠ some n) e) ∧ frC [some (x), none, none, some (s), some (.i .i64 k), none, none, none, none, none, none, none, none, none, none, none, none, none, none, none, none, none] ts) es.length ?_ ?_
  · exact ⟨0, .sn, [], by omega, Ag.refl, by simp, Own.sn, NmG.sn, by simp, by simp [frC]⟩
  · rintro m ts M1 ⟨k, s, fs, hk, hA, hfs, hs, hn, he, hf⟩
    have hm := hA.1
    have hfl : fs.length = k := by
      have := congrArg List.length hfs
      simp only [List.length_map, List.length_take] at this
      omega
    obtain ⟨f, rfl⟩ := frC_open _ _ 0 hf
    clear hf
    (refine top_in ?_; simp -implicitDefEqProofs only [go_sem, -List.reduceReplicate, ↓L_gdZ_tt, ↓L_gdZ_tf, ↓L_gdZ_ft, ↓L_gdZ_ff, ↓T_and, ↓T_imp, ↓T_all, la]; try simp only [top_out])
    refine ⟨fun hlt => ?_, fun hlt => ?_⟩
    · have hat := (h1.ag hA (fun _ _ e => e)).at (by rw [List.length_map]; omega)
      rw [List.length_map] at hat
      obtain ⟨n1, cap1, rfl, l1, l2, ea⟩ := hat
      have hg : es[k]? = some es[k] := List.getElem?_eq_getElem (by omega)
      generalize es[k] = e at hg
      obtain ⟨g1, g2, g3, g4⟩ := ea k (prC e) (by rw [List.getElem?_map, hg]; rfl)
      have hmem := List.mem_of_getElem? hg
      have he0 := h3 e hmem
      have he1 := he0.ag hA (fun _ _ _ e => e)
      (refine top_in ?_; simp -implicitDefEqProofs only [go_sem, -List.reduceReplicate, ↓L_gdZ_tt, ↓L_gdZ_tf, ↓L_gdZ_ft, ↓L_gdZ_ff, ↓T_and, ↓T_imp, ↓T_all, g1]; try simp only [top_out])
      refine ⟨by omega, by omega, by omega, by omega, ?_⟩
      refine peer_ok G e M1 _ he1 (hpf _ (List.mem_map.2 ⟨e, hmem, rfl⟩)) (fun M2 y z b1 n1' b2 n2' A2 => ?_)
      obtain ⟨p, xk, xp⟩ := e
      have o3 := b1.one
      have o4 := b2.one
      have m2 := A2.1
      simp only [prC]
      (refine top_in ?_; simp -implicitDefEqProofs only [go_sem, -List.reduceReplicate, ↓L_gdZ_tt, ↓L_gdZ_tf, ↓L_gdZ_ft, ↓L_gdZ_ff, ↓T_and, ↓T_imp, ↓T_all, o3, o4]; try simp only [top_out])
      refine ⟨by decide, appK (fs.map prC) [prC (p, y, z)] rfl (by decide) (by decide) (by decide) rfl rfl rfl (hs.ag A2 (fun _ _ e => e)).app (fun c' hc => by rw [List.mem_singleton.1 hc]; exact ⟨rfl, by simp [prC, pxC, o3, o4, one_i64, one_u64]⟩) (src_one (by rw [get_app]; rfl) rfl) (by simp; omega) (fun M3 s3 o5 n5 A3 => ?_)⟩
      (refine top_in ?_; simp -implicitDefEqProofs only [go_sem, -List.reduceReplicate, ↓L_gdZ_tt, ↓L_gdZ_tf, ↓L_gdZ_ft, ↓L_gdZ_ff, ↓T_and, ↓T_imp, ↓T_all]; try simp only [top_out])
      have hs3 : ∀ d, dnS s = some d → d < M1.length := fun d e => hs.dn d e
      refine ⟨m - 1, by omega, k + 1, s3, fs ++ [(p, y, z)], by omega, ?_, by rw [take_snocS hg, List.map_append, List.map_append, hfs]; rfl, by rw [List.map_append]; exact o5, n5.mono (fun n e => by simp at e; omega), fun e' he' => ?_, rfl, w64 (by omega) (by omega)⟩
      · exact Ag.trans hA (S' := fun n => M.length ≤ n) (Ag.trans (S' := fun n => M.length ≤ n) (A2.mono (fun _ e => e.elim)) (Ag.trans (S' := fun n => M.length ≤ n) Ag.app (A3.mono (fun n e => hn n e)) (fun _ _ e => e)) (fun _ _ e => e)) (fun n h1 h2 => by omega)
      · rcases List.mem_append.1 he' with he' | he'
        · refine ((((he e' he').bnd.ag A2 (fun _ _ _ e => e)).ag (Ag.app (S := fun _ => False)) (fun _ _ _ e => e)).ag A3 (fun n _ g h => g.1.2 h)).mono (fun n g => ⟨g.1.1, fun h => ?_⟩)
          have := n5 n h
          simp only [List.length_append, List.length_cons, List.length_nil] at this
          have := g.2
          omega
        · rw [List.mem_singleton.1 he']
          have hS : ∀ n, M1.length ≤ n ∧ n < M2.length → M.length ≤ n ∧ dnS s3 ≠ some n := fun n g => ⟨by omega, fun h => by
            have := n5 n h
            simp only [List.length_append, List.length_cons, List.length_nil] at this
            omega⟩
          have hG : ∀ n, M1.length ≤ n → ¬ dnS s = some n := fun n g h => by have := hs3 n h; omega
          exact ⟨(b1.app).ag A3 (fun d e => hG d (n1' d e)), (n1'.and b1.dn).mono hS, ((b2.lst (by decide)).app).ag A3 (fun d e => hG d (n2' d e)), (n2'.and b2.dn).mono hS⟩
    · obtain rfl : k = es.length := by omega
      rw [List.take_length] at hfs
      exact dropC_all hm (hK M1 s ⟨fs, hfs, hs, hn, he⟩ hA)
set_option maxHeartbeats 1000000 in
theorem lanes_ok (G : Nat → Prop) (x : SV) (ps : List Ln) (M : List Blk) (K : SV → List Blk → Prop) (h : Lns M G x ps) (hl : ps.length ≤ 100000)
    (hK : ∀ M' y, LnsO M' M.length y ps → Ag (fun _ => False) M M' → K y M') :
    callVC Tryz.prog 11 [x] M K := by
  obtain ⟨es, rfl, h1, h2, h3⟩ := h
  rw [List.length_map] at hl
  have la : ∀ {M' : List Blk} {e a' b' : Nat} {K : SV → Prop}, lenB (.slice e a' b') M' x K = K (.i .i64 es.length) := by intro M' e a' b' K; rw [h1.lenB, List.length_map]
  refine fn_rule tabOK Tryz.func11 rfl Tryz.call11 (by kernel_rfl) (fun hM => ?_)
  (refine top_in ?_; simp -implicitDefEqProofs only [Tryz.ntmps11, Tryz.results11, go_sem, -List.reduceReplicate, ↓L_gdZ_tt, ↓L_gdZ_tf, ↓L_gdZ_ft, ↓L_gdZ_ff, ↓T_and, ↓T_imp, ↓T_all]; try simp only [top_out])
  refine loop_code tabOK (by kernel_rfl) (fun m ts M' => ∃ (k : Nat) (s : SV) (fs : List (Ln × SV)), k + m = es.length ∧ Ag (fun _ => False) M M' ∧ fs.map (·.1) = (es.take k).map (·.1) ∧ Own M' 8 s (fs.map lnC) ∧ NmG (fun n => M.length ≤ n) s ∧ (∀ e ∈ fs, LnE M' (fun n => M.length ≤ n ∧ dnS s ≠ some n) e) ∧ frC [some (x), none, none, some (s), some (.i .i64 k), none, none, none, none, none, none, none, none, none, none, none, none, none, none, none, none, none] ts) es.length ?_ ?_
  · exact ⟨0, .sn, [], by omega, Ag.refl, by simp, Own.sn, NmG.sn, by simp, by simp [frC]⟩
  · rintro m ts M1 ⟨k, s, fs, hk, hA, hfs, hs, hn, he, hf⟩
    have hm := hA.1
    have hfl : fs.length = k := by
      have := congrArg List.length hfs
      simp only [List.length_map, List.length_take] at this
      omega
    obtain ⟨f, rfl⟩ := frC_open _ _ 0 hf
    clear hf
    (refine top_in ?_; simp -implicitDefEqProofs only [go_sem, -List.reduceReplicate, ↓L_gdZ_tt, ↓L_gdZ_tf, ↓L_gdZ_ft, ↓L_gdZ_ff, ↓T_and, ↓T_imp, ↓T_all, la]; try simp only [top_out])
    refine ⟨fun hlt => ?_, fun hlt => ?_⟩
    · have hat := (h1.ag hA (fun _ _ e => e)).at (by rw [List.length_map]; omega)
      rw [List.length_map] at hat
      obtain ⟨n1, cap1, rfl, l1, l2, ea⟩ := hat
      have hg : es[k]? = some es[k] := List.getElem?_eq_getElem (by omega)
      generalize es[k] = e at hg
      obtain ⟨g1, g2, g3, g4⟩ := ea k (lnC e) (by rw [List.getElem?_map, hg]; rfl)
      have hmem := List.mem_of_getElem? hg
      have he0 := h3 e hmem
      have he1 := he0.ag hA (fun _ _ _ e => e)
      (refine top_in ?_; simp -implicitDefEqProofs only [go_sem, -List.reduceReplicate, ↓L_gdZ_tt, ↓L_gdZ_tf, ↓L_gdZ_ft, ↓L_gdZ_ff, ↓T_and, ↓T_imp, ↓T_all, g1]; try simp only [top_out])
      refine ⟨by omega, by omega, by omega, by omega, ?_⟩
      refine lane_ok G e M1 _ he1 (fun M2 y b1 n1' A2 => ?_)
      obtain ⟨p, xk⟩ := e
      have o3 := b1.one
      have m2 := A2.1
      simp only [lnC]
      (refine top_in ?_; simp -implicitDefEqProofs only [go_sem, -List.reduceReplicate, ↓L_gdZ_tt, ↓L_gdZ_tf, ↓L_gdZ_ft, ↓L_gdZ_ff, ↓T_and, ↓T_imp, ↓T_all, o3]; try simp only [top_out])
      refine ⟨by decide, appK (fs.map lnC) [lnC (p, y)] rfl (by decide) (by decide) (by decide) rfl rfl rfl (hs.ag A2 (fun _ _ e => e)).app (fun c' hc => by rw [List.mem_singleton.1 hc]; exact ⟨rfl, by simp [lnC, pxC, o3, one_i64, one_u64]⟩) (src_one (by rw [get_app]; rfl) rfl) (by simp; omega) (fun M3 s3 o5 n5 A3 => ?_)⟩
      (refine top_in ?_; simp -implicitDefEqProofs only [go_sem, -List.reduceReplicate, ↓L_gdZ_tt, ↓L_gdZ_tf, ↓L_gdZ_ft, ↓L_gdZ_ff, ↓T_and, ↓T_imp, ↓T_all]; try simp only [top_out])
      have hs3 : ∀ d, dnS s = some d → d < M1.length := fun d e => hs.dn d e
      refine ⟨m - 1, by omega, k + 1, s3, fs ++ [(p, y)], by omega, ?_, by rw [take_snocS hg, List.map_append, List.map_append, hfs]; rfl, by rw [List.map_append]; exact o5, n5.mono (fun n e => by simp at e; omega), fun e' he' => ?_, rfl, w64 (by omega) (by omega)⟩
      · exact Ag.trans hA (S' := fun n => M.length ≤ n) (Ag.trans (S' := fun n => M.length ≤ n) (A2.mono (fun _ e => e.elim)) (Ag.trans (S' := fun n => M.length ≤ n) Ag.app (A3.mono (fun n e => hn n e)) (fun _ _ e => e)) (fun _ _ e => e)) (fun n h1 h2 => by omega)
      · rcases List.mem_append.1 he' with he' | he'
        · refine ((((he e' he').bnd.ag A2 (fun _ _ _ e => e)).ag (Ag.app (S := fun _ => False)) (fun _ _ _ e => e)).ag A3 (fun n _ g h => g.1.2 h)).mono (fun n g => ⟨g.1.1, fun h => ?_⟩)
          have := n5 n h
          simp only [List.length_append, List.length_cons, List.length_nil] at this
          have := g.2
          omega
        · rw [List.mem_singleton.1 he']
          have hS : ∀ n, M1.length ≤ n ∧ n < M2.length → M.length ≤ n ∧ dnS s3 ≠ some n := fun n g => ⟨by omega, fun h => by
            have := n5 n h
            simp only [List.length_append, List.length_cons, List.length_nil] at this
            omega⟩
          have hG : ∀ n, M1.length ≤ n → ¬ dnS s = some n := fun n g h => by have := hs3 n h; omega
          exact ⟨(b1.app).ag A3 (fun d e => hG d (n1' d e)), (n1'.and b1.dn).mono hS⟩
    · obtain rfl : k = es.length := by omega
      rw [List.take_length] at hfs
      exact dropC_all hm (hK M1 s ⟨fs, hfs, hs, hn, he⟩ hA)
set_option maxHeartbeats 1000000 in
theorem changes_ok (G : Nat → Prop) (x : SV) (ps : List Ch) (M : List Blk) (K : SV → List Blk → Prop) (h : Chs M G x ps) (hl : ps.length ≤ 100000)
    (hK : ∀ M' y, ChsO M' M.length y ps → Ag (fun _ => False) M M' → K y M') :
    callVC Tryz.prog 12 [x] M K := by
  obtain ⟨es, rfl, h1, h2, h3⟩ := h
  rw [List.length_map] at hl
  have la : ∀ {M' : List Blk} {e a' b' : Nat} {K : SV → Prop}, lenB (.slice e a' b') M' x K = K (.i .i64 es.length) := by intro M' e a' b' K; rw [h1.lenB, List.length_map]
  refine fn_rule tabOK Tryz.func12 rfl Tryz.call12 (by kernel_rfl) (fun hM => ?_)
  (refine top_in ?_; simp -implicitDefEqProofs only [Tryz.ntmps12, Tryz.results12, go_sem, -List.reduceReplicate, ↓L_gdZ_tt, ↓L_gdZ_tf, ↓L_gdZ_ft, ↓L_gdZ_ff, ↓T_and, ↓T_imp, ↓T_all]; try simp only [top_out])
  refine loop_code tabOK (by kernel_rfl) (fun m ts M' => ∃ (k : Nat) (s : SV) (fs : List (Ch × SV)), k + m = es.length ∧ Ag (fun _ => False) M M' ∧ fs.map (·.1) = (es.take k).map (·.1) ∧ Own M' 8 s (fs.map chC) ∧ NmG (fun n => M.length ≤ n) s ∧ (∀ e ∈ fs, ChE M' (fun n => M.length ≤ n ∧ dnS s ≠ some n) e ∧ RowF M' e.2) ∧ frC [some (x), none, none, some (s), some (.i .i64 k), none, none, none, none, none, none, none, none, none, none, none, none, none, none, none, none, none, none, none, none] ts) es.length ?_ ?_
  · exact ⟨0, .sn, [], by omega, Ag.refl, by simp, Own.sn, NmG.sn, by simp, by simp [frC]⟩
  · rintro m ts M1 ⟨k, s, fs, hk, hA, hfs, hs, hn, he, hf⟩
    have hm := hA.1
    have hfl : fs.length = k := by
      have := congrArg List.length hfs
      simp only [List.length_map, List.length_take] at this
      omega
    obtain ⟨f, rfl⟩ := frC_open _ _ 0 hf
    clear hf
    (refine top_in ?_; simp -implicitDefEqProofs only [go_sem, -List.reduceReplicate, ↓L_gdZ_tt, ↓L_gdZ_tf, ↓L_gdZ_ft, ↓L_gdZ_ff, ↓T_and, ↓T_imp, ↓T_all, la]; try simp only [top_out])
    refine ⟨fun hlt => ?_, fun hlt => ?_⟩
    · have hat := (h1.ag hA (fun _ _ e => e)).at (by rw [List.length_map]; omega)
      rw [List.length_map] at hat
      obtain ⟨n1, cap1, rfl, l1, l2, ea⟩ := hat
      have hg : es[k]? = some es[k] := List.getElem?_eq_getElem (by omega)
      generalize es[k] = e at hg
      obtain ⟨g1, g2, g3, g4⟩ := ea k (chC e) (by rw [List.getElem?_map, hg]; rfl)
      have hmem := List.mem_of_getElem? hg
      have he0 := h3 e hmem
      have he1 := he0.ag hA (fun _ _ _ e => e)
      (refine top_in ?_; simp -implicitDefEqProofs only [go_sem, -List.reduceReplicate, ↓L_gdZ_tt, ↓L_gdZ_tf, ↓L_gdZ_ft, ↓L_gdZ_ff, ↓T_and, ↓T_imp, ↓T_all, g1]; try simp only [top_out])
      refine ⟨by omega, by omega, by omega, by omega, ?_⟩
      obtain ⟨p, xk⟩ := e
      have o2 := he0.key.one
      simp only at o2
      simp only [chC, pxC, List.cons_append, List.nil_append]
      (refine top_in ?_; simp -implicitDefEqProofs only [go_sem, -List.reduceReplicate, ↓L_gdZ_tt, ↓L_gdZ_tf, ↓L_gdZ_ft, ↓L_gdZ_ff, ↓T_and, ↓T_imp, ↓T_all, o2]; try simp only [top_out])
      refine bytes_byr xk p.key _ _ he1.key.app (fun M2 y b1 n1' w1 A2 => ?_)
      have c0 := A2.at0 noS rfl
      have hw := kw c0
      have m2 := A2.1
      simp only [List.length_append, List.length_cons, List.length_nil] at m2 n1'
      have o3 := b1.one
      (refine top_in ?_; simp -implicitDefEqProofs only [go_sem, -List.reduceReplicate, ↓L_gdZ_tt, ↓L_gdZ_tf, ↓L_gdZ_ft, ↓L_gdZ_ff, ↓T_and, ↓T_imp, ↓T_all, c0, o3, cellsS_one o3, gss0 hw]; try simp only [top_out])
      have hs3 : ∀ d, dnS s = some d → d < M1.length := fun d e => hs.dn d e
      obtain ⟨B2, hB2⟩ : ∃ B2, Blk.row [.i .i64 p.kind, .i .i64 p.link, .i .i64 p.side, y, .i .i64 p.pfx.fam, .u64 p.pfx.hi, .u64 p.pfx.lo, .i .i64 p.pfx.bits] 50 = B2 := ⟨_, rfl⟩
      rw [hB2]
      have A3 : Ag (fun n => n = M1.length) M2 (M2.set M1.length B2) := Ag.set rfl
      refine ⟨by decide, appK (fs.map chC) [chC (p, y)] rfl (by decide) (by decide) (by decide) rfl rfl rfl ((hs.app.ag A2 (fun _ _ e => e)).ag A3 (fun d e h => by have := hs3 d e; omega)).app (fun c' hc => by rw [List.mem_singleton.1 hc]; exact ⟨rfl, by simp [chC, pxC, o3, one_i64, one_u64]⟩) (src_one (by rw [get_sapp0]; rw [← hB2]; rfl) rfl) (by simp; omega) (fun M4 s3 o5 n5 A4 => ?_)⟩
      (refine top_in ?_; simp -implicitDefEqProofs only [go_sem, -List.reduceReplicate, ↓L_gdZ_tt, ↓L_gdZ_tf, ↓L_gdZ_ft, ↓L_gdZ_ff, ↓T_and, ↓T_imp, ↓T_all]; try simp only [top_out])
      refine ⟨m - 1, by omega, k + 1, s3, fs ++ [(p, y)], by omega, ?_, by rw [take_snocS hg, List.map_append, List.map_append, hfs]; rfl, by rw [List.map_append]; exact o5, n5.mono (fun n e => by simp at e; omega), fun e' he' => ?_, rfl, w64 (by omega) (by omega)⟩
      · exact Ag.trans hA (S' := fun n => M.length ≤ n) (Ag.trans (S' := fun n => M.length ≤ n) Ag.app (Ag.trans (S' := fun n => M.length ≤ n) (A2.mono (fun _ e => e.elim)) (Ag.trans (S' := fun n => M.length ≤ n) (A3.mono (fun n e => by omega)) (Ag.trans (S' := fun n => M.length ≤ n) Ag.app (A4.mono (fun n e => hn n e)) (fun _ _ e => e)) (fun _ _ e => e)) (fun _ _ e => e)) (fun _ _ e => e)) (fun n h1 h2 => by omega)
      · rcases List.mem_append.1 he' with he' | he'
        · refine ⟨?_, (((((he e' he').2.ag (Ag.app (S := fun _ => False)) (fun _ _ e => e)).ag A2 (fun _ _ e => e)).ag A3 (fun n e h => by have := (he e' he').1.key.dn n e; omega)).ag (Ag.app (S := fun _ => False)) (fun _ _ e => e)).ag A4 (fun n e h => ((he e' he').1.kg n e).2 h)⟩
          refine ((((((he e' he').1.bnd.ag (Ag.app (S := fun _ => False)) (fun _ _ _ e => e)).ag A2 (fun _ _ _ e => e)).ag A3 (fun n _ g h => by have := g.2; omega)).ag (Ag.app (S := fun _ => False)) (fun _ _ _ e => e)).ag A4 (fun n _ g h => g.1.2 h)).mono (fun n g => ⟨g.1.1, fun h => ?_⟩)
          have := n5 n h
          simp only [List.length_append, List.length_cons, List.length_nil, List.length_set] at this
          have := g.2
          omega
        · rw [List.mem_singleton.1 he']
          have hS : ∀ n, (M1.length + (0 + 1) ≤ n) ∧ n < M2.length → M.length ≤ n ∧ dnS s3 ≠ some n := fun n g => ⟨by omega, fun h => by
            have := n5 n h
            simp only [List.length_append, List.length_cons, List.length_nil, List.length_set] at this
            omega⟩
          have hG : ∀ n, M1.length ≤ n → ¬ dnS s = some n := fun n g h => by have := hs3 n h; omega
          exact ⟨⟨((b1.ag A3 (fun d e h => by have := n1' d e; omega)).app).ag A4 (fun d e => hG d (by have := n1' d e; omega)), (n1'.and b1.dn).mono hS⟩, ((w1.ag A3 (fun d e h => by have := n1' d e; omega)).app).ag A4 (fun d e => hG d (by have := n1' d e; omega))⟩
    · obtain rfl : k = es.length := by omega
      rw [List.take_length] at hfs
      exact dropC_all hm (hK M1 s ⟨fs, hfs, hs, hn, he⟩ hA)
end Go.Proofs.YtdcplcfedcmcmaaGreat.Eng

/- Lists of prefixes, peers and lanes held against each other. -/
namespace Go.Proofs.YtdcplcfedcmcmaaGreat.Eng
open Go Go.RowKit
set_option linter.unusedSimpArgs false
set_option linter.unusedVariables false

theorem stamp_ok (a b c d : Int) (M : List Blk) (K : SV → List Blk → Prop) (hK : K (.b (decide (a = c ∧ b = d))) M) : callVC Tryz.prog 32 [.agg [.i .i64 a, .i .i64 b], .agg [.i .i64 c, .i .i64 d]] M K := by
  refine fn_rule tabOK Tryz.func32 rfl Tryz.call32 (by kernel_rfl) (fun hM => ?_)
  (refine top_in ?_; simp -implicitDefEqProofs only [Tryz.ntmps32, Tryz.results32, go_sem, -List.reduceReplicate, ↓L_gdZ_tt, ↓L_gdZ_tf, ↓L_gdZ_ft, ↓L_gdZ_ff, ↓T_and, ↓T_imp, ↓T_all]; try simp only [top_out])
  repeat' (with_reducible first | refine And.intro ?_ ?_ | intro)
  all_goals first | refine dropB hM hK ?_ | refine dropB0 hM hK ?_
  all_goals simp_all
  all_goals try rfl
theorem ln_eq {p q : Ln} : (p = q) ↔ (p.key = q.key ∧ (p.sec = q.sec ∧ p.nano = q.nano) ∧ p.side = q.side ∧ p.cur = q.cur ∧ p.next = q.next ∧ p.sc = q.sc ∧ p.ce = q.ce) := by
  obtain ⟨a, b, c, d, e, f, g, h⟩ := p
  obtain ⟨a', b', c', d', e', f', g', h'⟩ := q
  simp only [Ln.mk.injEq]
  constructor
  · rintro ⟨h1, h2, h3, h4, h5, h6, h7, h8⟩; exact ⟨h1, ⟨h7, h8⟩, h2, h3, h4, h5, h6⟩
  · rintro ⟨h1, ⟨h7, h8⟩, h2, h3, h4, h5, h6⟩; exact ⟨h1, h2, h3, h4, h5, h6, h7, h8⟩
theorem pr_eq {p q : Pr} : (p = q) ↔ (p.key = q.key ∧ p.pfx = q.pfx ∧ p.link = q.link) := by
  obtain ⟨a, b, c⟩ := p
  obtain ⟨a', b', c'⟩ := q
  simp only [Pr.mk.injEq]
  constructor
  · rintro ⟨h1, h2, h3⟩; exact ⟨h2, h3, h1⟩
  · rintro ⟨h2, h3, h1⟩; exact ⟨h1, h2, h3⟩
theorem take_eq_snoc {α : Type} {a b : List α} {k : Nat} {x y : α} (h : a.take k = b.take k) (hx : a[k]? = some x) (hy : b[k]? = some y) (e : x = y) : a.take (k + 1) = b.take (k + 1) := by
  rw [take_snocS hx, take_snocS hy, h, e]
theorem take_alls {α : Type} {a b : List α} (hl : a.length = b.length) (h : a.take a.length = b.take a.length) : a = b := by
  rw [List.take_length, hl, List.take_length] at h; exact h
set_option maxHeartbeats 1000000 in
theorem samePs_ok (M : List Blk) (x y : SV) (es fs : List Pfx) (K : SV → List Blk → Prop) (h1 : Pxs M x es) (g1 : Pxs M y fs) (hK : K (.b (decide (es = fs))) M) :
    callVC Tryz.prog 54 [x, y] M K := by
  have la : ∀ {M' : List Blk} {e a' b' : Nat} {K : SV → Prop}, lenB (.slice e a' b') M' x K = K (.i .i64 es.length) := by intro M' e a' b' K; rw [h1.lenB, List.length_map]
  have lb : ∀ {M' : List Blk} {e a' b' : Nat} {K : SV → Prop}, lenB (.slice e a' b') M' y K = K (.i .i64 fs.length) := by intro M' e a' b' K; rw [g1.lenB, List.length_map]
  have l1 := h1.1
  have l2 := g1.1
  rw [List.length_map] at l1 l2
  refine fn_rule tabOK Tryz.func54 rfl Tryz.call54 (by kernel_rfl) (fun hM => ?_)
  (refine top_in ?_; simp -implicitDefEqProofs only [Tryz.ntmps54, Tryz.results54, go_sem, -List.reduceReplicate, ↓L_gdZ_tt, ↓L_gdZ_tf, ↓L_gdZ_ft, ↓L_gdZ_ff, ↓T_and, ↓T_imp, ↓T_all, la, lb]; try simp only [top_out])
  refine ⟨fun h => ?_, fun h => ?_⟩
  · refine dropB0 hM hK ?_
    rw [decide_eq_false]
    intro e
    have := congrArg List.length e
    simp at this h
    omega
  · have hl : es.length = fs.length := by simp at h; omega
    clear h
    refine loop_code tabOK (by kernel_rfl) (fun m ts M' => ∃ k : Nat, k + m = es.length ∧ (es).take k = (fs).take k ∧ M' = M ∧ frC [some (x), some (y), none, none, none, some (.i .i64 k), none, none, none, none, none, none, none, none, none, none, none, none, none, none, none, none, none, none, none, none, none, none, none] ts) es.length ?_ ?_
    · exact ⟨0, by omega, rfl, rfl, by simp [frC]⟩
    · rintro m ts _ ⟨k, hk, he, rfl, hf⟩
      obtain ⟨f, rfl⟩ := frC_open _ _ 0 hf
      clear hf
      (refine top_in ?_; simp -implicitDefEqProofs only [go_sem, -List.reduceReplicate, ↓L_gdZ_tt, ↓L_gdZ_tf, ↓L_gdZ_ft, ↓L_gdZ_ff, ↓T_and, ↓T_imp, ↓T_all, la, lb]; try simp only [top_out])
      refine ⟨fun h => ?_, fun h => ?_⟩
      · have e1 : es[k]? = some es[k] := List.getElem?_eq_getElem (by omega)
        have e2 : fs[k]? = some fs[k] := List.getElem?_eq_getElem (by omega)
        generalize es[k] = e at e1
        generalize fs[k] = f' at e2
        obtain ⟨n1, cap1, rfl, p1, p2, ea⟩ := h1.at (by rw [List.length_map]; omega)
        obtain ⟨n2, cap2, rfl, p3, p4, eb⟩ := g1.at (by rw [List.length_map]; omega)
        obtain ⟨q1, q2, q3, q4⟩ := ea k (pxC e) (by rw [List.getElem?_map, e1]; rfl)
        obtain ⟨q5, q6, q7, q8⟩ := eb k (pxC f') (by rw [List.getElem?_map, e2]; rfl)
        refine draw_rule tabOK (by kernel_rfl : _) (.p 0 (.p 1 (.p 2 (.p 3 (.p 4 (.p 5 (.p 6 (.p 7 (.e 8 [] (.p 9 .nil) .no))))))))) (by kernel_rfl) (by kernel_rfl) ?_
        (refine top_in ?_; simp -implicitDefEqProofs only [go_sem, -List.reduceReplicate, ↓L_gdZ_tt, ↓L_gdZ_tf, ↓L_gdZ_ft, ↓L_gdZ_ff, ↓T_and, ↓T_imp, ↓T_all, q1, q5, List.length_map]; try simp only [top_out])
        refine ⟨by omega, by omega, by omega, by omega, by omega, by omega, by omega, by omega, ?_⟩
        refine sameX_ok e f' _ _ ?_
        (refine top_in ?_; simp -implicitDefEqProofs only [go_sem, -List.reduceReplicate, ↓L_gdZ_tt, ↓L_gdZ_tf, ↓L_gdZ_ft, ↓L_gdZ_ff, ↓T_and, ↓T_imp, ↓T_all, q1, q5, List.length_map]; try simp only [top_out])
        refine ⟨fun h3 => dropB0 hM hK ?_, fun h3 => ⟨m - 1, by omega, k + 1, by omega, ?_, w64 (by omega) (by omega)⟩⟩
        · rw [decide_eq_false]
          intro e0
          have := congrArg (fun l => l[k]?) e0
          simp only [List.getElem?_map, e1, e2, Option.map_some, Option.some.injEq] at this
          simp [this] at h3
        · refine take_eq_snoc he (x := _) (y := _) (by simp only [List.getElem?_map, e1]; rfl) (by simp only [List.getElem?_map, e2]; rfl) (by simpa using h3)
      · obtain rfl : k = es.length := by omega
        refine dropB0 hM hK ?_
        have := take_alls (a := es) (b := fs) (by simpa using hl) (by simpa using he)
        rw [decide_eq_true this]
theorem samePr_ok (G G' : Nat → Prop) (e f : Pr × SV × SV) (M : List Blk) (K : SV → List Blk → Prop) (h : PrE M G e) (h' : PrE M G' f) (hK : K (.b (decide (e.1 = f.1))) M) :
    callVC Tryz.prog 30 [.agg (prC e), .agg (prC f)] M K := by
  obtain ⟨p, xk, xp⟩ := e
  obtain ⟨q, yk, yp⟩ := f
  have o1 := h.key.one
  have o2 := h.pfx.one
  have o3 := h'.key.one
  have o4 := h'.pfx.one
  have e := @pr_eq p q
  simp only at o1 o2 o3 o4 hK
  unfold prC
  refine fn_rule tabOK Tryz.func30 rfl Tryz.call30 (by kernel_rfl) (fun hM => ?_)
  (refine top_in ?_; simp -implicitDefEqProofs only [Tryz.ntmps30, Tryz.results30, go_sem, -List.reduceReplicate, ↓L_gdZ_tt, ↓L_gdZ_tf, ↓L_gdZ_ft, ↓L_gdZ_ff, ↓T_and, ↓T_imp, ↓T_all, o1, o2, o3, o4]; try simp only [top_out])
  refine same_byt _ _ _ _ _ _ h.key.app h'.key.app ?_
  (refine top_in ?_; simp -implicitDefEqProofs only [go_sem, -List.reduceReplicate, ↓L_gdZ_tt, ↓L_gdZ_tf, ↓L_gdZ_ft, ↓L_gdZ_ff, ↓T_and, ↓T_imp, ↓T_all]; try simp only [top_out])
  refine samePs_ok _ _ _ _ _ _ h.pfx.app h'.pfx.app ?_
  (refine top_in ?_; simp -implicitDefEqProofs only [go_sem, -List.reduceReplicate, ↓L_gdZ_tt, ↓L_gdZ_tf, ↓L_gdZ_ft, ↓L_gdZ_ff, ↓T_and, ↓T_imp, ↓T_all]; try simp only [top_out])
  repeat' (with_reducible first | refine And.intro ?_ ?_ | intro)
  all_goals first | refine dropB hM hK ?_ | refine dropB0 hM hK ?_
  all_goals simp_all
  all_goals try rfl
theorem sameLn_ok (G G' : Nat → Prop) (e f : Ln × SV) (M : List Blk) (K : SV → List Blk → Prop) (h : LnE M G e) (h' : LnE M G' f) (hK : K (.b (decide (e.1 = f.1))) M) :
    callVC Tryz.prog 20 [.agg (lnC e), .agg (lnC f)] M K := by
  obtain ⟨p, xk⟩ := e
  obtain ⟨q, yk⟩ := f
  have o1 := h.key.one
  have o3 := h'.key.one
  have e := @ln_eq p q
  simp only at o1 o3 hK
  unfold lnC
  refine fn_rule tabOK Tryz.func20 rfl Tryz.call20 (by kernel_rfl) (fun hM => ?_)
  (refine top_in ?_; simp -implicitDefEqProofs only [Tryz.ntmps20, Tryz.results20, go_sem, -List.reduceReplicate, ↓L_gdZ_tt, ↓L_gdZ_tf, ↓L_gdZ_ft, ↓L_gdZ_ff, ↓T_and, ↓T_imp, ↓T_all, o1, o3]; try simp only [top_out])
  refine same_byt _ _ _ _ _ _ h.key.app h'.key.app ?_
  (refine top_in ?_; simp -implicitDefEqProofs only [go_sem, -List.reduceReplicate, ↓L_gdZ_tt, ↓L_gdZ_tf, ↓L_gdZ_ft, ↓L_gdZ_ff, ↓T_and, ↓T_imp, ↓T_all]; try simp only [top_out])
  refine stamp_ok _ _ _ _ _ _ ?_
  (refine top_in ?_; simp -implicitDefEqProofs only [go_sem, -List.reduceReplicate, ↓L_gdZ_tt, ↓L_gdZ_tf, ↓L_gdZ_ft, ↓L_gdZ_ff, ↓T_and, ↓T_imp, ↓T_all]; try simp only [top_out])
  repeat' (with_reducible first | refine And.intro ?_ ?_ | intro)
  all_goals first | refine dropB hM hK ?_ | refine dropB0 hM hK ?_
  all_goals simp_all
  all_goals try rfl
set_option maxHeartbeats 1000000 in
theorem samePeers_ok (M : List Blk) (G G' : Nat → Prop) (x y : SV) (ps qs : List Pr) (K : SV → List Blk → Prop) (h : Prs M G x ps) (g : Prs M G' y qs) (hK : K (.b (decide (ps = qs))) M) :
    callVC Tryz.prog 17 [x, y] M K := by
  obtain ⟨es, rfl, h1, h2, h3⟩ := h
  obtain ⟨fs, rfl, g1, g2, g3⟩ := g
  have la : ∀ {M' : List Blk} {e a' b' : Nat} {K : SV → Prop}, lenB (.slice e a' b') M' x K = K (.i .i64 es.length) := by intro M' e a' b' K; rw [h1.lenB, List.length_map]
  have lb : ∀ {M' : List Blk} {e a' b' : Nat} {K : SV → Prop}, lenB (.slice e a' b') M' y K = K (.i .i64 fs.length) := by intro M' e a' b' K; rw [g1.lenB, List.length_map]
  have l1 := h1.1
  have l2 := g1.1
  rw [List.length_map] at l1 l2
  refine fn_rule tabOK Tryz.func17 rfl Tryz.call17 (by kernel_rfl) (fun hM => ?_)
  (refine top_in ?_; simp -implicitDefEqProofs only [Tryz.ntmps17, Tryz.results17, go_sem, -List.reduceReplicate, ↓L_gdZ_tt, ↓L_gdZ_tf, ↓L_gdZ_ft, ↓L_gdZ_ff, ↓T_and, ↓T_imp, ↓T_all, la, lb]; try simp only [top_out])
  refine ⟨fun h => ?_, fun h => ?_⟩
  · refine dropB0 hM hK ?_
    rw [decide_eq_false]
    intro e
    have := congrArg List.length e
    simp at this h
    omega
  · have hl : es.length = fs.length := by simp at h; omega
    clear h
    refine loop_code tabOK (by kernel_rfl) (fun m ts M' => ∃ k : Nat, k + m = es.length ∧ (es.map (fun e => e.1)).take k = (fs.map (fun e => e.1)).take k ∧ M' = M ∧ frC [some (x), some (y), none, none, none, some (.i .i64 k), none, none, none, none, none, none, none, none, none, none, none, none, none, none, none, none, none, none, none, none, none, none, none] ts) es.length ?_ ?_
    · exact ⟨0, by omega, rfl, rfl, by simp [frC]⟩
    · rintro m ts _ ⟨k, hk, he, rfl, hf⟩
      obtain ⟨f, rfl⟩ := frC_open _ _ 0 hf
      clear hf
      (refine top_in ?_; simp -implicitDefEqProofs only [go_sem, -List.reduceReplicate, ↓L_gdZ_tt, ↓L_gdZ_tf, ↓L_gdZ_ft, ↓L_gdZ_ff, ↓T_and, ↓T_imp, ↓T_all, la, lb]; try simp only [top_out])
      refine ⟨fun h => ?_, fun h => ?_⟩
      · have e1 : es[k]? = some es[k] := List.getElem?_eq_getElem (by omega)
        have e2 : fs[k]? = some fs[k] := List.getElem?_eq_getElem (by omega)
        generalize es[k] = e at e1
        generalize fs[k] = f' at e2
        obtain ⟨n1, cap1, rfl, p1, p2, ea⟩ := h1.at (by rw [List.length_map]; omega)
        obtain ⟨n2, cap2, rfl, p3, p4, eb⟩ := g1.at (by rw [List.length_map]; omega)
        obtain ⟨q1, q2, q3, q4⟩ := ea k (prC e) (by rw [List.getElem?_map, e1]; rfl)
        obtain ⟨q5, q6, q7, q8⟩ := eb k (prC f') (by rw [List.getElem?_map, e2]; rfl)
        refine draw_rule tabOK (by kernel_rfl : _) (.p 0 (.p 1 (.p 2 (.p 3 (.p 4 (.p 5 (.p 6 (.p 7 (.e 8 [] (.p 9 .nil) .no))))))))) (by kernel_rfl) (by kernel_rfl) ?_
        (refine top_in ?_; simp -implicitDefEqProofs only [go_sem, -List.reduceReplicate, ↓L_gdZ_tt, ↓L_gdZ_tf, ↓L_gdZ_ft, ↓L_gdZ_ff, ↓T_and, ↓T_imp, ↓T_all, q1, q5, List.length_map]; try simp only [top_out])
        refine ⟨by omega, by omega, by omega, by omega, by omega, by omega, by omega, by omega, ?_⟩
        refine samePr_ok G G' e f' _ _ (h3 e (List.mem_of_getElem? e1)) (g3 f' (List.mem_of_getElem? e2)) ?_
        (refine top_in ?_; simp -implicitDefEqProofs only [go_sem, -List.reduceReplicate, ↓L_gdZ_tt, ↓L_gdZ_tf, ↓L_gdZ_ft, ↓L_gdZ_ff, ↓T_and, ↓T_imp, ↓T_all, q1, q5, List.length_map]; try simp only [top_out])
        refine ⟨fun h3 => dropB0 hM hK ?_, fun h3 => ⟨m - 1, by omega, k + 1, by omega, ?_, w64 (by omega) (by omega)⟩⟩
        · rw [decide_eq_false]
          intro e0
          have := congrArg (fun l => l[k]?) e0
          simp only [List.getElem?_map, e1, e2, Option.map_some, Option.some.injEq] at this
          simp [this] at h3
        · refine take_eq_snoc he (x := _) (y := _) (by simp only [List.getElem?_map, e1]; rfl) (by simp only [List.getElem?_map, e2]; rfl) (by simpa using h3)
      · obtain rfl : k = es.length := by omega
        refine dropB0 hM hK ?_
        have := take_alls (a := es.map (fun e => e.1)) (b := fs.map (fun e => e.1)) (by simpa using hl) (by simpa using he)
        rw [decide_eq_true this]
set_option maxHeartbeats 1000000 in
theorem sameLanes_ok (M : List Blk) (G G' : Nat → Prop) (x y : SV) (ps qs : List Ln) (K : SV → List Blk → Prop) (h : Lns M G x ps) (g : Lns M G' y qs) (hK : K (.b (decide (ps = qs))) M) :
    callVC Tryz.prog 18 [x, y] M K := by
  obtain ⟨es, rfl, h1, h2, h3⟩ := h
  obtain ⟨fs, rfl, g1, g2, g3⟩ := g
  have la : ∀ {M' : List Blk} {e a' b' : Nat} {K : SV → Prop}, lenB (.slice e a' b') M' x K = K (.i .i64 es.length) := by intro M' e a' b' K; rw [h1.lenB, List.length_map]
  have lb : ∀ {M' : List Blk} {e a' b' : Nat} {K : SV → Prop}, lenB (.slice e a' b') M' y K = K (.i .i64 fs.length) := by intro M' e a' b' K; rw [g1.lenB, List.length_map]
  have l1 := h1.1
  have l2 := g1.1
  rw [List.length_map] at l1 l2
  refine fn_rule tabOK Tryz.func18 rfl Tryz.call18 (by kernel_rfl) (fun hM => ?_)
  (refine top_in ?_; simp -implicitDefEqProofs only [Tryz.ntmps18, Tryz.results18, go_sem, -List.reduceReplicate, ↓L_gdZ_tt, ↓L_gdZ_tf, ↓L_gdZ_ft, ↓L_gdZ_ff, ↓T_and, ↓T_imp, ↓T_all, la, lb]; try simp only [top_out])
  refine ⟨fun h => ?_, fun h => ?_⟩
  · refine dropB0 hM hK ?_
    rw [decide_eq_false]
    intro e
    have := congrArg List.length e
    simp at this h
    omega
  · have hl : es.length = fs.length := by simp at h; omega
    clear h
    refine loop_code tabOK (by kernel_rfl) (fun m ts M' => ∃ k : Nat, k + m = es.length ∧ (es.map (fun e => e.1)).take k = (fs.map (fun e => e.1)).take k ∧ M' = M ∧ frC [some (x), some (y), none, none, none, some (.i .i64 k), none, none, none, none, none, none, none, none, none, none, none, none, none, none, none, none, none, none, none, none, none, none, none] ts) es.length ?_ ?_
    · exact ⟨0, by omega, rfl, rfl, by simp [frC]⟩
    · rintro m ts _ ⟨k, hk, he, rfl, hf⟩
      obtain ⟨f, rfl⟩ := frC_open _ _ 0 hf
      clear hf
      (refine top_in ?_; simp -implicitDefEqProofs only [go_sem, -List.reduceReplicate, ↓L_gdZ_tt, ↓L_gdZ_tf, ↓L_gdZ_ft, ↓L_gdZ_ff, ↓T_and, ↓T_imp, ↓T_all, la, lb]; try simp only [top_out])
      refine ⟨fun h => ?_, fun h => ?_⟩
      · have e1 : es[k]? = some es[k] := List.getElem?_eq_getElem (by omega)
        have e2 : fs[k]? = some fs[k] := List.getElem?_eq_getElem (by omega)
        generalize es[k] = e at e1
        generalize fs[k] = f' at e2
        obtain ⟨n1, cap1, rfl, p1, p2, ea⟩ := h1.at (by rw [List.length_map]; omega)
        obtain ⟨n2, cap2, rfl, p3, p4, eb⟩ := g1.at (by rw [List.length_map]; omega)
        obtain ⟨q1, q2, q3, q4⟩ := ea k (lnC e) (by rw [List.getElem?_map, e1]; rfl)
        obtain ⟨q5, q6, q7, q8⟩ := eb k (lnC f') (by rw [List.getElem?_map, e2]; rfl)
        refine draw_rule tabOK (by kernel_rfl : _) (.p 0 (.p 1 (.p 2 (.p 3 (.p 4 (.p 5 (.p 6 (.p 7 (.e 8 [] (.p 9 .nil) .no))))))))) (by kernel_rfl) (by kernel_rfl) ?_
        (refine top_in ?_; simp -implicitDefEqProofs only [go_sem, -List.reduceReplicate, ↓L_gdZ_tt, ↓L_gdZ_tf, ↓L_gdZ_ft, ↓L_gdZ_ff, ↓T_and, ↓T_imp, ↓T_all, q1, q5, List.length_map]; try simp only [top_out])
        refine ⟨by omega, by omega, by omega, by omega, by omega, by omega, by omega, by omega, ?_⟩
        refine sameLn_ok G G' e f' _ _ (h3 e (List.mem_of_getElem? e1)) (g3 f' (List.mem_of_getElem? e2)) ?_
        (refine top_in ?_; simp -implicitDefEqProofs only [go_sem, -List.reduceReplicate, ↓L_gdZ_tt, ↓L_gdZ_tf, ↓L_gdZ_ft, ↓L_gdZ_ff, ↓T_and, ↓T_imp, ↓T_all, q1, q5, List.length_map]; try simp only [top_out])
        refine ⟨fun h3 => dropB0 hM hK ?_, fun h3 => ⟨m - 1, by omega, k + 1, by omega, ?_, w64 (by omega) (by omega)⟩⟩
        · rw [decide_eq_false]
          intro e0
          have := congrArg (fun l => l[k]?) e0
          simp only [List.getElem?_map, e1, e2, Option.map_some, Option.some.injEq] at this
          simp [this] at h3
        · refine take_eq_snoc he (x := _) (y := _) (by simp only [List.getElem?_map, e1]; rfl) (by simp only [List.getElem?_map, e2]; rfl) (by simpa using h3)
      · obtain rfl : k = es.length := by omega
        refine dropB0 hM hK ?_
        have := take_alls (a := es.map (fun e => e.1)) (b := fs.map (fun e => e.1)) (by simpa using hl) (by simpa using he)
        rw [decide_eq_true this]
end Go.Proofs.YtdcplcfedcmcmaaGreat.Eng

/- The document's configuration: where things stand, the faults. -/
namespace Go.Proofs.YtdcplcfedcmcmaaGreat.Eng
open Go Go.RowKit
set_option linter.unusedSimpArgs false
set_option linter.unusedVariables false

def ixI : Option Nat → Int
  | none => -1
  | some i => i
theorem Prs.lenB {M M' : List Blk} {G : Nat → Prop} {x : SV} {ps : List Pr} (h : Prs M G x ps) {e a b : Nat} {K : SV → Prop} : lenB (.slice e a b) M' x K = K (.i .i64 ps.length) := by
  obtain ⟨es, rfl, h1, _⟩ := h
  rw [h1.lenB, List.length_map, List.length_map]
theorem Lns.lenB {M M' : List Blk} {G : Nat → Prop} {x : SV} {ls : List Ln} (h : Lns M G x ls) {e a b : Nat} {K : SV → Prop} : lenB (.slice e a b) M' x K = K (.i .i64 ls.length) := by
  obtain ⟨es, rfl, h1, _⟩ := h
  rw [h1.lenB, List.length_map, List.length_map]
theorem Chs.lenB {M M' : List Blk} {G : Nat → Prop} {x : SV} {l : List Ch} (h : Chs M G x l) {e a b : Nat} {K : SV → Prop} : lenB (.slice e a b) M' x K = K (.i .i64 l.length) := by
  obtain ⟨es, rfl, h1, _⟩ := h
  rw [h1.lenB, List.length_map, List.length_map]
theorem Prs.one {M : List Blk} {G : Nat → Prop} {x : SV} {ps : List Pr} (h : Prs M G x ps) : x.one = true := by
  obtain ⟨es, rfl, h1, _⟩ := h; exact h1.one
theorem Lns.one {M : List Blk} {G : Nat → Prop} {x : SV} {ps : List Ln} (h : Lns M G x ps) : x.one = true := by
  obtain ⟨es, rfl, h1, _⟩ := h; exact h1.one
theorem Chs.one {M : List Blk} {G : Nat → Prop} {x : SV} {ps : List Ch} (h : Chs M G x ps) : x.one = true := by
  obtain ⟨es, rfl, h1, _⟩ := h; exact h1.one
theorem Prs.app {M L : List Blk} {G : Nat → Prop} {x : SV} {ps : List Pr} (h : Prs M G x ps) : Prs (M ++ L) G x ps := h.ag (S := fun _ => False) Ag.app (fun _ _ _ e => e)
theorem Lns.app {M L : List Blk} {G : Nat → Prop} {x : SV} {ps : List Ln} (h : Lns M G x ps) : Lns (M ++ L) G x ps := h.ag (S := fun _ => False) Ag.app (fun _ _ _ e => e)
theorem Chs.app {M L : List Blk} {G : Nat → Prop} {x : SV} {ps : List Ch} (h : Chs M G x ps) : Chs (M ++ L) G x ps := h.ag (S := fun _ => False) Ag.app (fun _ _ _ e => e)
/-- a peer that is looked at -/
theorem Prs.at {M : List Blk} {G : Nat → Prop} {x : SV} {ps : List Pr} (h : Prs M G x ps) {k : Nat} (hk : k < ps.length) : ∃ (n cap : Nat) (e : Pr × SV × SV), x = .sl n 0 ps.length cap ∧ n < M.length ∧ ps[k]? = some e.1 ∧ PrE M G e ∧
    ((cellsB M[n]?).drop (k * 3)).take 3 = prC e ∧ k * 3 + 3 ≤ (cellsB M[n]?).length ∧ (isI .i64 (cellsB M[n]?) (k * 3) = true ∧ cellI (cellsB M[n]?) (k * 3) = e.1.link) ∧ (cellsB M[n]?).getD (k * 3 + 1) uS = e.2.1 ∧ (cellsB M[n]?).getD (k * 3 + 2) uS = e.2.2 := by
  obtain ⟨es, rfl, h1, _, h3⟩ := h
  rw [List.length_map] at hk
  obtain ⟨n, cap, rfl, l1, l2, ea⟩ := h1.at (by rw [List.length_map]; omega)
  have hg : es[k]? = some es[k] := List.getElem?_eq_getElem hk
  obtain ⟨q1, q2, q3, q4⟩ := ea k (prC es[k]) (by rw [List.getElem?_map, hg]; rfl)
  exact ⟨n, cap, es[k], by simp, l1, by rw [List.getElem?_map, hg]; rfl, h3 _ (List.getElem_mem hk), q1, q3, isI_of (q4 0 (by decide)), getD_of (q4 1 (by decide)), getD_of (q4 2 (by decide))⟩
theorem Lns.at {M : List Blk} {G : Nat → Prop} {x : SV} {ls : List Ln} (h : Lns M G x ls) {k : Nat} (hk : k < ls.length) : ∃ (n cap : Nat) (e : Ln × SV), x = .sl n 0 ls.length cap ∧ n < M.length ∧ ls[k]? = some e.1 ∧ LnE M G e ∧
    ((cellsB M[n]?).drop (k * 8)).take 8 = lnC e ∧ k * 8 + 8 ≤ (cellsB M[n]?).length ∧ (cellsB M[n]?).getD (k * 8) uS = e.2 ∧ (isI .i64 (cellsB M[n]?) (k * 8 + 1) = true ∧ cellI (cellsB M[n]?) (k * 8 + 1) = e.1.side) ∧
    (isI .i64 (cellsB M[n]?) (k * 8 + 2) = true ∧ cellI (cellsB M[n]?) (k * 8 + 2) = e.1.cur) ∧ (isI .i64 (cellsB M[n]?) (k * 8 + 3) = true ∧ cellI (cellsB M[n]?) (k * 8 + 3) = e.1.next) := by
  obtain ⟨es, rfl, h1, _, h3⟩ := h
  rw [List.length_map] at hk
  obtain ⟨n, cap, rfl, l1, l2, ea⟩ := h1.at (by rw [List.length_map]; omega)
  have hg : es[k]? = some es[k] := List.getElem?_eq_getElem hk
  obtain ⟨q1, q2, q3, q4⟩ := ea k (lnC es[k]) (by rw [List.getElem?_map, hg]; rfl)
  exact ⟨n, cap, es[k], by simp, l1, by rw [List.getElem?_map, hg]; rfl, h3 _ (List.getElem_mem hk), q1, q3, getD_of (q4 0 (by decide)), isI_of (q4 1 (by decide)), isI_of (q4 2 (by decide)), isI_of (q4 3 (by decide))⟩
theorem Chs.at {M : List Blk} {G : Nat → Prop} {x : SV} {l : List Ch} (h : Chs M G x l) {k : Nat} (hk : k < l.length) : ∃ (n cap : Nat) (e : Ch × SV), x = .sl n 0 l.length cap ∧ n < M.length ∧ l[k]? = some e.1 ∧ ChE M G e ∧
    ((cellsB M[n]?).drop (k * 8)).take 8 = chC e ∧ k * 8 + 8 ≤ (cellsB M[n]?).length := by
  obtain ⟨es, rfl, h1, _, h3⟩ := h
  rw [List.length_map] at hk
  obtain ⟨n, cap, rfl, l1, l2, ea⟩ := h1.at (by rw [List.length_map]; omega)
  have hg : es[k]? = some es[k] := List.getElem?_eq_getElem hk
  obtain ⟨q1, q2, q3, q4⟩ := ea k (chC es[k]) (by rw [List.getElem?_map, hg]; rfl)
  exact ⟨n, cap, es[k], by simp, l1, by rw [List.getElem?_map, hg]; rfl, h3 _ (List.getElem_mem hk), q1, q3⟩
theorem Pxs.lenB {M M' : List Blk} {x : SV} {l : List Pfx} (h : Pxs M x l) {e a b : Nat} {K : SV → Prop} : lenB (.slice e a b) M' x K = K (.i .i64 l.length) := by
  rw [Lst.lenB h, List.length_map]
theorem Pxs.at {M : List Blk} {x : SV} {l : List Pfx} (h : Pxs M x l) {k : Nat} (hk : k < l.length) : ∃ (n cap : Nat) (p : Pfx), x = .sl n 0 l.length cap ∧ n < M.length ∧ l[k]? = some p ∧ ((cellsB M[n]?).drop (k * 4)).take 4 = pxC p ∧ k * 4 + 4 ≤ (cellsB M[n]?).length := by
  obtain ⟨n, cap, rfl, l1, l2, ea⟩ := Lst.at h (by rw [List.length_map]; omega)
  have hg : l[k]? = some l[k] := List.getElem?_eq_getElem hk
  obtain ⟨q1, q2, q3, q4⟩ := ea k (pxC l[k]) (by rw [List.getElem?_map, hg]; rfl)
  exact ⟨n, cap, l[k], by simp, l1, hg, q1, q3⟩

/-- nothing found so far -/
theorem no_step {α : Type} {l : List α} {k : Nat} {a : α} {q : α → Prop} (h : ∀ (j : Nat) b, j < k → l[j]? = some b → ¬ q b) (hk : l[k]? = some a) (ha : ¬ q a) : ∀ (j : Nat) b, j < k + 1 → l[j]? = some b → ¬ q b := by
  intro j b hj hb
  rcases Nat.lt_or_ge j k with g | g
  · exact h j b g hb
  · obtain rfl : j = k := by omega
    rw [hk] at hb; cases hb; exact ha
theorem no_all {α : Type} {l : List α} {q : α → Prop} [DecidablePred q] (h : ∀ (j : Nat) b, j < l.length → l[j]? = some b → ¬ q b) : l.findIdx? (fun x => decide (q x)) = none := by
  refine ix_none (fun x hx => ?_)
  obtain ⟨j, hj⟩ := List.getElem?_of_mem hx
  exact decide_eq_false (h j x (List.getElem?_eq_some_iff.1 hj).1 hj)
theorem no_hit {α : Type} {l : List α} {k : Nat} {a : α} {q : α → Prop} [DecidablePred q] (h : ∀ (j : Nat) b, j < k → l[j]? = some b → ¬ q b) (hk : l[k]? = some a) (ha : q a) : l.findIdx? (fun x => decide (q x)) = some k :=
  ix_some hk (decide_eq_true ha) (fun j b hj hb => decide_eq_false (h j b hj hb))

theorem rpeer_ok (G : Nat → Prop) (xp xl : SV) (link : Int) (s : St) (M : List Blk) (K : SV → List Blk → Prop) (h : Prs M G xp s.ps) (hl : xl.one = true) (hs : s.ps.length ≤ 100000) (hK : K (.i .i64 (ixI (s.peer link))) M) :
    callVC Tryz.prog 57 [.agg [xp, xl], .i .i64 link] M K := by
  have la : ∀ {M' : List Blk} {e a' b' : Nat} {K : SV → Prop}, lenB (.slice e a' b') M' xp K = K (.i .i64 s.ps.length) := h.lenB
  have o1 := h.one
  refine fn_rule tabOK Tryz.func57 rfl Tryz.call57 (by kernel_rfl) (fun hM => ?_)
  (refine top_in ?_; simp -implicitDefEqProofs only [Tryz.ntmps57, Tryz.results57, go_sem, -List.reduceReplicate, ↓L_gdZ_tt, ↓L_gdZ_tf, ↓L_gdZ_ft, ↓L_gdZ_ff, ↓T_and, ↓T_imp, ↓T_all, o1, hl]; try simp only [top_out])
  refine loop_code tabOK (by kernel_rfl) (fun m ts M' => ∃ k : Nat, k + m = s.ps.length ∧ (∀ (j : Nat) b, j < k → s.ps[j]? = some b → ¬ b.link = link) ∧ M' = M ++ [.row [xp, xl] 27] ∧ frC [none, some (.i .i64 link), some (.p M.length 0), none, none, some (.i .i64 k), none, none, none, none, none, none, none, none, none, none, none, none, none, none, none, none] ts) s.ps.length ?_ ?_
  · exact ⟨0, by omega, by simp, rfl, by simp [frC]⟩
  · rintro m ts _ ⟨k, hk, hno, rfl, hf⟩
    obtain ⟨f, rfl⟩ := frC_open _ _ 0 hf
    clear hf
    (refine top_in ?_; simp -implicitDefEqProofs only [go_sem, -List.reduceReplicate, ↓L_gdZ_tt, ↓L_gdZ_tf, ↓L_gdZ_ft, ↓L_gdZ_ff, ↓T_and, ↓T_imp, ↓T_all, la]; try simp only [top_out])
    refine ⟨fun h1 => ?_, fun h1 => ?_⟩
    · obtain ⟨n, cap, e, rfl, l1, g1, g2, g3, g4, ⟨g5, g6⟩, g7, g8⟩ := h.at (k := k) (by omega)
      (refine top_in ?_; simp -implicitDefEqProofs only [go_sem, -List.reduceReplicate, ↓L_gdZ_tt, ↓L_gdZ_tf, ↓L_gdZ_ft, ↓L_gdZ_ff, ↓T_and, ↓T_imp, ↓T_all, get_lt l1, g5, g6]; try simp only [top_out])
      refine ⟨by omega, by omega, by omega, by omega, fun h2 => dropC_append hM rfl ?_, fun h2 => ⟨m - 1, by omega, k + 1, by omega, no_step hno g1 (beqF h2), w64 (by omega) (by omega)⟩⟩
      have := no_hit hno g1 (beqT h2)
      unfold St.peer at hK
      rw [this] at hK; exact hK
    · refine dropC_append hM rfl ?_
      have := no_all (q := fun p : Pr => p.link = link) (fun j b hj hb => hno j b (by omega) hb)
      unfold St.peer at hK
      rw [this] at hK; exact hK
theorem rowner_ok (G : Nat → Prop) (xp xl y : SV) (key : List (BitVec 8)) (s : St) (M : List Blk) (K : SV → List Blk → Prop) (h : Prs M G xp s.ps) (hl : xl.one = true) (hy : Byt M y key) (hs : s.ps.length ≤ 100000) (hK : K (.i .i64 (ixI (s.owner key))) M) :
    callVC Tryz.prog 95 [.agg [xp, xl], y] M K := by
  have la : ∀ {M' : List Blk} {e a' b' : Nat} {K : SV → Prop}, lenB (.slice e a' b') M' xp K = K (.i .i64 s.ps.length) := h.lenB
  have o1 := h.one
  refine fn_rule tabOK Tryz.func95 rfl Tryz.call95 (by kernel_rfl) (fun hM => ?_)
  (refine top_in ?_; simp -implicitDefEqProofs only [Tryz.ntmps95, Tryz.results95, go_sem, -List.reduceReplicate, ↓L_gdZ_tt, ↓L_gdZ_tf, ↓L_gdZ_ft, ↓L_gdZ_ff, ↓T_and, ↓T_imp, ↓T_all, o1, hl]; try simp only [top_out])
  refine loop_code tabOK (by kernel_rfl) (fun m ts M' => ∃ k : Nat, k + m = s.ps.length ∧ (∀ (j : Nat) b, j < k → s.ps[j]? = some b → ¬ b.key = key) ∧ M' = M ++ [.row [xp, xl] 27] ∧ frC [none, some (y), some (.p M.length 0), none, none, some (.i .i64 k), none, none, none, none, none, none, none, none, none, none, none, none, none, none, none, none, none, none] ts) s.ps.length ?_ ?_
  · exact ⟨0, by omega, by simp, rfl, by simp [frC]⟩
  · rintro m ts _ ⟨k, hk, hno, rfl, hf⟩
    obtain ⟨f, rfl⟩ := frC_open _ _ 0 hf
    clear hf
    (refine top_in ?_; simp -implicitDefEqProofs only [go_sem, -List.reduceReplicate, ↓L_gdZ_tt, ↓L_gdZ_tf, ↓L_gdZ_ft, ↓L_gdZ_ff, ↓T_and, ↓T_imp, ↓T_all, la]; try simp only [top_out])
    refine ⟨fun h1 => ?_, fun h1 => ?_⟩
    · obtain ⟨n, cap, e, rfl, l1, g1, g2, g3, g4, ⟨g5, g6⟩, g7, g8⟩ := h.at (k := k) (by omega)
      (refine top_in ?_; simp -implicitDefEqProofs only [go_sem, -List.reduceReplicate, ↓L_gdZ_tt, ↓L_gdZ_tf, ↓L_gdZ_ft, ↓L_gdZ_ff, ↓T_and, ↓T_imp, ↓T_all, get_lt l1, g7]; try simp only [top_out])
      refine ⟨by omega, by omega, by omega, by omega, by omega, ?_⟩
      refine same_byt _ _ _ _ _ _ g2.key.app hy.app ?_
      (refine top_in ?_; simp -implicitDefEqProofs only [go_sem, -List.reduceReplicate, ↓L_gdZ_tt, ↓L_gdZ_tf, ↓L_gdZ_ft, ↓L_gdZ_ff, ↓T_and, ↓T_imp, ↓T_all]; try simp only [top_out])
      refine ⟨fun h2 => dropC_append hM rfl ?_, fun h2 => ⟨m - 1, by omega, k + 1, by omega, no_step hno g1 (by simpa using h2), w64 (by omega) (by omega)⟩⟩
      have := no_hit (q := fun p : Pr => p.key = key) hno g1 (by simpa using h2)
      unfold St.owner at hK
      rw [this] at hK; exact hK
    · refine dropC_append hM rfl ?_
      have := no_all (q := fun p : Pr => p.key = key) (fun j b hj hb => hno j b (by omega) hb)
      unfold St.owner at hK
      rw [this] at hK; exact hK
theorem rlane_ok (G : Nat → Prop) (xp xl y : SV) (key : List (BitVec 8)) (s : St) (M : List Blk) (K : SV → List Blk → Prop) (h : Lns M G xl s.ls) (hp : xp.one = true) (hy : Byt M y key) (hs : s.ls.length ≤ 100000) (hK : K (.i .i64 (ixI (s.lane key))) M) :
    callVC Tryz.prog 97 [.agg [xp, xl], y] M K := by
  have la : ∀ {M' : List Blk} {e a' b' : Nat} {K : SV → Prop}, lenB (.slice e a' b') M' xl K = K (.i .i64 s.ls.length) := h.lenB
  have o1 := h.one
  refine fn_rule tabOK Tryz.func97 rfl Tryz.call97 (by kernel_rfl) (fun hM => ?_)
  (refine top_in ?_; simp -implicitDefEqProofs only [Tryz.ntmps97, Tryz.results97, go_sem, -List.reduceReplicate, ↓L_gdZ_tt, ↓L_gdZ_tf, ↓L_gdZ_ft, ↓L_gdZ_ff, ↓T_and, ↓T_imp, ↓T_all, o1, hp]; try simp only [top_out])
  refine loop_code tabOK (by kernel_rfl) (fun m ts M' => ∃ k : Nat, k + m = s.ls.length ∧ (∀ (j : Nat) b, j < k → s.ls[j]? = some b → ¬ b.key = key) ∧ M' = M ++ [.row [xp, xl] 27] ∧ frC [none, some (y), some (.p M.length 0), none, none, some (.i .i64 k), none, none, none, none, none, none, none, none, none, none, none, none, none, none, none, none, none, none] ts) s.ls.length ?_ ?_
  · exact ⟨0, by omega, by simp, rfl, by simp [frC]⟩
  · rintro m ts _ ⟨k, hk, hno, rfl, hf⟩
    obtain ⟨f, rfl⟩ := frC_open _ _ 0 hf
    clear hf
    (refine top_in ?_; simp -implicitDefEqProofs only [go_sem, -List.reduceReplicate, ↓L_gdZ_tt, ↓L_gdZ_tf, ↓L_gdZ_ft, ↓L_gdZ_ff, ↓T_and, ↓T_imp, ↓T_all, la]; try simp only [top_out])
    refine ⟨fun h1 => ?_, fun h1 => ?_⟩
    · obtain ⟨n, cap, e, rfl, l1, g1, g2, g3, g4, g7, _⟩ := h.at (k := k) (by omega)
      (refine top_in ?_; simp -implicitDefEqProofs only [go_sem, -List.reduceReplicate, ↓L_gdZ_tt, ↓L_gdZ_tf, ↓L_gdZ_ft, ↓L_gdZ_ff, ↓T_and, ↓T_imp, ↓T_all, get_lt l1, g7]; try simp only [top_out])
      refine ⟨by omega, by omega, by omega, by omega, by omega, ?_⟩
      refine same_byt _ _ _ _ _ _ g2.key.app hy.app ?_
      (refine top_in ?_; simp -implicitDefEqProofs only [go_sem, -List.reduceReplicate, ↓L_gdZ_tt, ↓L_gdZ_tf, ↓L_gdZ_ft, ↓L_gdZ_ff, ↓T_and, ↓T_imp, ↓T_all]; try simp only [top_out])
      refine ⟨fun h2 => dropC_append hM rfl ?_, fun h2 => ⟨m - 1, by omega, k + 1, by omega, no_step hno g1 (by simpa using h2), w64 (by omega) (by omega)⟩⟩
      have := no_hit (q := fun p : Ln => p.key = key) hno g1 (by simpa using h2)
      unfold St.lane at hK
      rw [this] at hK; exact hK
    · refine dropC_append hM rfl ?_
      have := no_all (q := fun p : Ln => p.key = key) (fun j b hj hb => hno j b (by omega) hb)
      unfold St.lane at hK
      rw [this] at hK; exact hK
end Go.Proofs.YtdcplcfedcmcmaaGreat.Eng
