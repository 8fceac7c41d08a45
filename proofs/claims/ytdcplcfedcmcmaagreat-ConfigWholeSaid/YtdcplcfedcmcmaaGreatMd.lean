/- Joined texts: D1, D2. -/
import Derived.Test.YtdcplcfedcmcmaaGreatC9
/- One more element behind a list of one's own; the document's way of giving a key. -/
namespace Go.Proofs.YtdcplcfedcmcmaaGreat.Eng
open Go Go.RowKit
set_option linter.unusedSimpArgs false
set_option linter.unusedVariables false

theorem LnsO.push {M : List Blk} {b : Nat} {s : SV} {ls : List Ln} {K : SV → List Blk → Prop} (h : LnsO M b s ls) (hb : b ≤ M.length) (l : Ln) (y : SV) {r cap : Nat} {ty : TypeId} (hr : M[r]? = some (.row (lnC (l, y)) ty)) (hy : Byt M y l.key) (ny : NmG (fun n => b ≤ n ∧ dnS s ≠ some n) y) (hl : ls.length ≤ 100000)
    (hK : ∀ M' s', LnsO M' b s' (ls ++ [l]) → NmG (fun n => n = M.length) s' → Ag (fun n => dnS s = some n) M M' → K s' M') : appendC tab M 25 25 s (.sl r 0 1 cap) K := by
  obtain ⟨es, rfl, h1, h2, h3⟩ := h
  rw [List.length_map] at hl
  have o := hy.one
  refine appK (es.map lnC) [lnC (l, y)] rfl (by decide) (by decide) (by decide) rfl rfl rfl h1 (fun c' hc => by rw [List.mem_singleton.1 hc]; exact ⟨rfl, by simp [lnC, o, one_i64, one_u64]⟩) (src_one hr rfl) (by simp; omega) (fun M' s' o' n' A' => ?_)
  refine hK M' s' ⟨es ++ [(l, y)], by simp, by simpa using o', n'.mono (fun n e => by omega), fun e he => ?_⟩ n' A'
  rcases List.mem_append.1 he with he | he
  · exact ((h3 e he).bnd.ag A' (fun n _ g h => g.1.2 h)).mono (fun n g => ⟨g.1.1, fun h => by have := n' n h; omega⟩)
  · rw [List.mem_singleton.1 he]
    exact ⟨hy.ag A' (fun d e h => (ny d e).2 h), fun d e => ⟨(ny d e).1, fun h => by have := n' d h; have := hy.dn d e; omega⟩⟩
theorem PrsO.push {M : List Blk} {b : Nat} {s : SV} {ps : List Pr} {K : SV → List Blk → Prop} (h : PrsO M b s ps) (hb : b ≤ M.length) (p : Pr) (y z : SV) {r cap : Nat} {ty : TypeId} (hr : M[r]? = some (.row (prC (p, y, z)) ty)) (hy : Byt M y p.key) (ny : NmG (fun n => b ≤ n ∧ dnS s ≠ some n) y)
    (hz : Pxs M z p.pfx) (nz : NmG (fun n => b ≤ n ∧ dnS s ≠ some n) z) (hl : ps.length ≤ 100000)
    (hK : ∀ M' s', PrsO M' b s' (ps ++ [p]) → NmG (fun n => n = M.length) s' → Ag (fun n => dnS s = some n) M M' → K s' M') : appendC tab M 24 24 s (.sl r 0 1 cap) K := by
  obtain ⟨es, rfl, h1, h2, h3⟩ := h
  rw [List.length_map] at hl
  have o := hy.one
  have o2 := hz.one
  refine appK (es.map prC) [prC (p, y, z)] rfl (by decide) (by decide) (by decide) rfl rfl rfl h1 (fun c' hc => by rw [List.mem_singleton.1 hc]; exact ⟨rfl, by simp [prC, o, o2, one_i64, one_u64]⟩) (src_one hr rfl) (by simp; omega) (fun M' s' o' n' A' => ?_)
  refine hK M' s' ⟨es ++ [(p, y, z)], by simp, by simpa using o', n'.mono (fun n e => by omega), fun e he => ?_⟩ n' A'
  rcases List.mem_append.1 he with he | he
  · exact ((h3 e he).bnd.ag A' (fun n _ g h => g.1.2 h)).mono (fun n g => ⟨g.1.1, fun h => by have := n' n h; omega⟩)
  · rw [List.mem_singleton.1 he]
    exact ⟨hy.ag A' (fun d e h => (ny d e).2 h), fun d e => ⟨(ny d e).1, fun h => by have := n' d h; have := hy.dn d e; omega⟩, hz.ag A' (fun d e h => (nz d e).2 h), fun d e => ⟨(nz d e).1, fun h => by have := n' d h; have := hz.dn d e; omega⟩⟩
theorem pxs_push {M : List Blk} {s : SV} {l : List Pfx} {K : SV → List Blk → Prop} (h : Own M 4 s (l.map pxC)) (p : Pfx) {r cap : Nat} {ty : TypeId} (hr : M[r]? = some (.row (pxC p) ty)) (hl : l.length ≤ 100000)
    (hK : ∀ M' s', Own M' 4 s' ((l ++ [p]).map pxC) → NmG (fun n => n = M.length) s' → Ag (fun n => dnS s = some n) M M' → K s' M') : appendC tab M 60 60 s (.sl r 0 1 cap) K := by
  refine appK (l.map pxC) [pxC p] rfl (by decide) (by decide) (by decide) rfl rfl rfl h (fun c' hc => by rw [List.mem_singleton.1 hc]; exact ⟨rfl, rfl⟩) (src_one hr rfl) (by simp; omega) (fun M' s' o' n' A' => hK M' s' (by simpa using o') n' A')
theorem LnsO.sn {M : List Blk} {b : Nat} : LnsO M b .sn [] := ⟨[], rfl, Own.sn, NmG.sn, by simp⟩
theorem PrsO.sn {M : List Blk} {b : Nat} : PrsO M b .sn [] := ⟨[], rfl, Own.sn, NmG.sn, by simp⟩
theorem LnsO.nm {M : List Blk} {b : Nat} {s : SV} {ls : List Ln} (h : LnsO M b s ls) : NmG (fun n => b ≤ n ∧ n < M.length) s := by
  obtain ⟨es, rfl, h1, h2, h3⟩ := h; exact h2.and h1.dn
theorem PrsO.nm {M : List Blk} {b : Nat} {s : SV} {ls : List Pr} (h : PrsO M b s ls) : NmG (fun n => b ≤ n ∧ n < M.length) s := by
  obtain ⟨es, rfl, h1, h2, h3⟩ := h; exact h2.and h1.dn
theorem LnsO.one {M : List Blk} {b : Nat} {s : SV} {ls : List Ln} (h : LnsO M b s ls) : s.one = true := h.lns.one
theorem PrsO.one {M : List Blk} {b : Nat} {s : SV} {ls : List Pr} (h : PrsO M b s ls) : s.one = true := h.prs.one
theorem LnsO.ag {S : Nat → Prop} {M M' : List Blk} {b : Nat} {s : SV} {ls : List Ln} (h : LnsO M b s ls) (hA : Ag S M M') (hS : ∀ n, n < M.length → b ≤ n → ¬ S n) : LnsO M' b s ls := by
  obtain ⟨es, rfl, h1, h2, h3⟩ := h
  exact ⟨es, rfl, h1.ag hA (fun d e => hS d (h1.dn d e) (h2 d e)), h2, fun e he => (h3 e he).ag hA (fun n hn g => hS n hn g.1)⟩
theorem PrsO.ag {S : Nat → Prop} {M M' : List Blk} {b : Nat} {s : SV} {ls : List Pr} (h : PrsO M b s ls) (hA : Ag S M M') (hS : ∀ n, n < M.length → b ≤ n → ¬ S n) : PrsO M' b s ls := by
  obtain ⟨es, rfl, h1, h2, h3⟩ := h
  exact ⟨es, rfl, h1.ag hA (fun d e => hS d (h1.dn d e) (h2 d e)), h2, fun e he => (h3 e he).ag hA (fun n hn g => hS n hn g.1)⟩
theorem LnsO.app {M L : List Blk} {b : Nat} {s : SV} {ls : List Ln} (h : LnsO M b s ls) : LnsO (M ++ L) b s ls := h.ag (S := fun _ => False) Ag.app (fun _ _ _ e => e)
theorem PrsO.app {M L : List Blk} {b : Nat} {s : SV} {ls : List Pr} (h : PrsO M b s ls) : PrsO (M ++ L) b s ls := h.ag (S := fun _ => False) Ag.app (fun _ _ _ e => e)
theorem LnsO.mono {M : List Blk} {b b' : Nat} {s : SV} {ls : List Ln} (h : LnsO M b s ls) (hb : b' ≤ b) : LnsO M b' s ls := by
  obtain ⟨es, rfl, h1, h2, h3⟩ := h
  exact ⟨es, rfl, h1, h2.mono (fun n g => by omega), fun e he => (h3 e he).mono (fun n g => ⟨by omega, g.2⟩)⟩
theorem PrsO.mono {M : List Blk} {b b' : Nat} {s : SV} {ls : List Pr} (h : PrsO M b s ls) (hb : b' ≤ b) : PrsO M b' s ls := by
  obtain ⟨es, rfl, h1, h2, h3⟩ := h
  exact ⟨es, rfl, h1, h2.mono (fun n g => by omega), fun e he => (h3 e he).mono (fun n g => ⟨by omega, g.2⟩)⟩
theorem Ag.mono_lt {S S' : Nat → Prop} {M M' : List Blk} (h : Ag S M M') (hs : ∀ n, n < M.length → S n → S' n) : Ag S' M M' := ⟨h.1, fun n hn hS => h.2 n hn (fun h2 => hS (hs n hn h2))⟩
theorem insAt_lt {α : Type} {l : List α} {j k : Nat} {x : α} (h : k < j) (hj : j ≤ l.length) : (insAt l j x)[k]? = l[k]? := by
  unfold insAt
  rw [List.getElem?_append_left (by rw [List.length_take]; omega), List.getElem?_take_of_lt h]
theorem insAt_eq {α : Type} {l : List α} {j : Nat} {x : α} (hj : j ≤ l.length) : (insAt l j x)[j]? = some x := by
  unfold insAt
  rw [List.getElem?_append_right (by rw [List.length_take]; omega), List.length_take, Nat.min_eq_left hj, Nat.sub_self]; rfl
theorem insAt_gt {α : Type} {l : List α} {j k : Nat} {x : α} (h : j ≤ k) (hj : j ≤ l.length) : (insAt l j x)[k + 1]? = l[k]? := by
  unfold insAt
  rw [List.getElem?_append_right (by rw [List.length_take]; omega), List.length_take, Nat.min_eq_left hj, show k + 1 - j = (k - j) + 1 by omega, List.getElem?_cons_succ, List.getElem?_drop]
  congr 1; omega
/-- the prefixes of a change, laid or left out -/
theorem rwith_ok (x : SV) (l : List Pfx) (c : Ch × SV) (G : Nat → Prop) (M : List Blk) (K : SV → List Blk → Prop) (h : Pxs M x l) (hc : ChE M G c) (hl : l.length ≤ 1000) (hkd : c.1.kind = 5 ∨ (c.1.kind = 4 ∧ c.1.pfx ∉ l))
    (hK : ∀ M' y, Own M' 4 y ((withP l c.1).map pxC) → NmG (fun n => M.length ≤ n) y → Ag (fun _ => False) M M' → K y M') :
    callVC Tryz.prog 60 [x, .agg (chC c)] M K := by
  have la : ∀ {M' : List Blk} {e a' b' : Nat} {K : SV → Prop}, lenB (.slice e a' b') M' x K = K (.i .i64 l.length) := h.lenB
  obtain ⟨c, xk⟩ := c
  have o2 := hc.key.one
  simp only at o2 hK hkd
  obtain ⟨kind, link, side, key, pfx⟩ := c
  simp only at hkd
  unfold chC pxC
  simp only [List.cons_append, List.nil_append]
  rcases hkd with rfl | ⟨rfl, hn⟩
  · have hw : withP l ⟨5, link, side, key, pfx⟩ = l.filter fun x => decide (x ≠ pfx) := by unfold withP; rw [if_pos rfl]
    rw [hw] at hK
    refine fn_rule tabOK Tryz.func60 rfl Tryz.call60 (by kernel_rfl) (fun hM => ?_)
    (refine top_in ?_; simp -implicitDefEqProofs only [Tryz.ntmps60, Tryz.results60, go_sem, -List.reduceReplicate, ↓L_gdZ_tt, ↓L_gdZ_tf, ↓L_gdZ_ft, ↓L_gdZ_ff, ↓T_and, ↓T_imp, ↓T_all, o2, Int.reduceBEq]; try simp only [top_out])
    refine loop_code tabOK (by kernel_rfl) (fun m ts M' => ∃ (k : Nat) (s : SV), k + m = l.length ∧ Ag (fun _ => False) M M' ∧ M'[M.length]? = some (.row [.i .i64 5, .i .i64 link, .i .i64 side, xk, .i .i64 pfx.fam, .u64 pfx.hi, .u64 pfx.lo, .i .i64 pfx.bits] 50) ∧ Own M' 4 s (((l.take k).filter fun x => decide (x ≠ pfx)).map pxC) ∧ NmG (fun n => M.length + 1 ≤ n) s ∧ frC [some (x), none, none, some (.p M.length 0), none, some (s), some (.b true), some (.i .i64 k), none, none, none, none, none, none, none, none, none, none, none, none, none, none, none, none, none, none, none, none, none, none, none, none, none, none, none, none, none, none, none, none, none, none, none, none, none, none, none, none, none, none, none, none, none] ts) l.length ?_ ?_
    · exact ⟨0, .sn, by omega, Ag.app, by rw [get_app0]; rfl, Own.sn, NmG.sn, by simp [frC]⟩
    · rintro m ts M1 ⟨k, s, hk, hA, hb, hs, hn, hf⟩
      have hm := hA.1
      obtain ⟨f, rfl⟩ := frC_open _ _ 0 hf
      clear hf
      (refine top_in ?_; simp -implicitDefEqProofs only [go_sem, -List.reduceReplicate, ↓L_gdZ_tt, ↓L_gdZ_tf, ↓L_gdZ_ft, ↓L_gdZ_ff, ↓T_and, ↓T_imp, ↓T_all, la, hb]; try simp only [top_out])
      refine ⟨fun h1 => ?_, fun h1 => ?_⟩
      · obtain ⟨n1, cap1, p, rfl, l1, g1, g2, g3⟩ := Pxs.at (k := k) (Lst.ag (M' := M1) h hA (fun _ _ e => e)) (by omega)
        refine draw_rule tabOK (by kernel_rfl : _) (.p 0 (.p 1 (.p 2 (.p 3 (.p 4 (.p 5 (.e 6 [] (.p 7 .nil) .no))))))) (by kernel_rfl) (by kernel_rfl) ?_
        (refine top_in ?_; simp -implicitDefEqProofs only [go_sem, -List.reduceReplicate, ↓L_gdZ_tt, ↓L_gdZ_tf, ↓L_gdZ_ft, ↓L_gdZ_ff, ↓T_and, ↓T_imp, ↓T_all, hb, g2]; try simp only [top_out])
        refine ⟨by omega, by omega, by omega, by omega, ?_⟩
        refine rcmp_ok pfx p _ _ ?_
        (refine top_in ?_; simp -implicitDefEqProofs only [go_sem, -List.reduceReplicate, ↓L_gdZ_tt, ↓L_gdZ_tf, ↓L_gdZ_ft, ↓L_gdZ_ff, ↓T_and, ↓T_imp, ↓T_all, hb, g2]; try simp only [top_out])
        refine ⟨fun h2 => ⟨by omega, by omega, by omega, by omega, by decide, ⟨rfl, rfl⟩, ?_⟩, fun h2 => ⟨m - 1, by omega, k + 1, s, by omega, hA, ?_, hn, rfl, w64 (by omega) (by omega)⟩⟩
        · have hne : p ≠ pfx := fun e => bneT h2 (cmpP_eq.2 e.symm)
          refine pxs_push (l := (l.take k).filter fun x => decide (x ≠ pfx)) (hs.app) p (by rw [get_app0]; rfl) (by have := List.length_filter_le (fun x => decide (x ≠ pfx)) (l.take k); simp only [List.length_take] at this; omega) (fun M2 s2 o2' n2 A2 => ?_)
          (refine top_in ?_; simp -implicitDefEqProofs only [go_sem, -List.reduceReplicate, ↓L_gdZ_tt, ↓L_gdZ_tf, ↓L_gdZ_ft, ↓L_gdZ_ff, ↓T_and, ↓T_imp, ↓T_all]; try simp only [top_out])
          have hb2 : M2[M.length]? = _ := A2.get ((get_lt (kw hb)).trans hb) (fun e => by have := hn _ e; omega)
          refine ⟨m - 1, by omega, k + 1, s2, by omega, ?_, hb2, ?_, n2.mono (fun n g => by simp at g; omega), rfl, w64 (by omega) (by omega)⟩
          · exact Ag.trans hA (S' := fun n => M.length + 1 ≤ n) (Ag.trans (S' := fun n => M.length + 1 ≤ n) Ag.app (A2.mono (fun n e => hn n e)) (fun _ _ e => e)) (fun n h1 h2 => by omega)
          · rw [take_snocS g1, List.filter_append, List.filter_cons, if_pos (by simpa using hne)]
            exact o2'
        · have he : p = pfx := (cmpP_eq.1 (bneF h2)).symm
          rw [take_snocS g1, List.filter_append, List.filter_cons, if_neg (by simpa using he)]
          simpa using hs
      · obtain rfl : k = l.length := by omega
        rw [List.take_length] at hs
        exact dropC_all hm (hK M1 s hs (hn.mono (fun n g => by omega)) hA)
  · have hw : withP l ⟨4, link, side, key, pfx⟩ = insAt l (l.findIdx fun x => decide (cmpP pfx x < 0)) pfx := by unfold withP; rw [if_neg (show ¬ (4 : Int) = 5 by decide)]
    rw [hw] at hK
    obtain ⟨f1, f2, f3⟩ := fix_facts l fun x => decide (cmpP pfx x < 0)
    generalize (l.findIdx fun x => decide (cmpP pfx x < 0)) = j at *
    refine fn_rule tabOK Tryz.func60 rfl Tryz.call60 (by kernel_rfl) (fun hM => ?_)
    (refine top_in ?_; simp -implicitDefEqProofs only [Tryz.ntmps60, Tryz.results60, go_sem, -List.reduceReplicate, ↓L_gdZ_tt, ↓L_gdZ_tf, ↓L_gdZ_ft, ↓L_gdZ_ff, ↓T_and, ↓T_imp, ↓T_all, o2, Int.reduceBEq]; try simp only [top_out])
    refine loop_code tabOK (by kernel_rfl) (fun m ts M' => ∃ (k : Nat) (s : SV), k + m = l.length ∧ Ag (fun _ => False) M M' ∧ M'[M.length]? = some (.row [.i .i64 4, .i .i64 link, .i .i64 side, xk, .i .i64 pfx.fam, .u64 pfx.hi, .u64 pfx.lo, .i .i64 pfx.bits] 50) ∧ Own M' 4 s (((insAt l j pfx).take (if j < k then k + 1 else k)).map pxC) ∧ NmG (fun n => M.length + 1 ≤ n) s ∧ frC [some (x), none, none, some (.p M.length 0), none, some (s), some (.b (decide (j < k))), some (.i .i64 k), none, none, none, none, none, none, none, none, none, none, none, none, none, none, none, none, none, none, none, none, none, none, none, none, none, none, none, none, none, none, none, none, none, none, none, none, none, none, none, none, none, none, none, none, none] ts) l.length ?_ ?_
    · exact ⟨0, .sn, by omega, Ag.app, by rw [get_app0]; rfl, by rw [if_neg (by omega)]; exact Own.sn, NmG.sn, by simp [frC]⟩
    · rintro m ts M1 ⟨k, s, hk, hA, hb, hs, hn', hf⟩
      have hm := hA.1
      obtain ⟨f, rfl⟩ := frC_open _ _ 0 hf
      clear hf
      (refine top_in ?_; simp -implicitDefEqProofs only [go_sem, -List.reduceReplicate, ↓L_gdZ_tt, ↓L_gdZ_tf, ↓L_gdZ_ft, ↓L_gdZ_ff, ↓T_and, ↓T_imp, ↓T_all, la, hb]; try simp only [top_out])
      refine ⟨fun h1 => ?_, fun h1 => ?_⟩
      · obtain ⟨n1, cap1, p, rfl, l1, g1, g2, g3⟩ := Pxs.at (k := k) (Lst.ag (M' := M1) h hA (fun _ _ e => e)) (by omega)
        have hne : p ≠ pfx := fun e => hn (e ▸ List.mem_of_getElem? g1)
        have hkl : k < l.length := by omega
        have hPX : ∀ (M2 : List Blk) (s2 : SV) (n : Nat), NmG (fun q => q = n) s2 → M.length + 1 ≤ n → NmG (fun q => M.length + 1 ≤ q) s2 := fun M2 s2 n h g => h.mono (fun q e => by omega)
        rcases Nat.lt_trichotomy j k with hjk | hjk | hjk
        · have hd : decide (j < k) = true := decide_eq_true hjk
          have hd2 : decide (j < k + 1) = true := decide_eq_true (by omega)
          rw [if_pos hjk] at hs
          simp only [hd]
          refine draw_rule tabOK (by kernel_rfl : _) (.p 0 (.p 1 (.p 2 (.p 3 (.p 4 (.p 5 (.e 6 [] (.p 7 .nil) .no))))))) (by kernel_rfl) (by kernel_rfl) ?_
          (refine top_in ?_; simp -implicitDefEqProofs only [go_sem, -List.reduceReplicate, ↓L_gdZ_tt, ↓L_gdZ_tf, ↓L_gdZ_ft, ↓L_gdZ_ff, ↓T_and, ↓T_imp, ↓T_all, hb, g2]; try simp only [top_out])
          refine ⟨by omega, by omega, by omega, by omega, ?_⟩
          refine rcmp_ok pfx p _ _ ?_
          (refine top_in ?_; simp -implicitDefEqProofs only [go_sem, -List.reduceReplicate, ↓L_gdZ_tt, ↓L_gdZ_tf, ↓L_gdZ_ft, ↓L_gdZ_ff, ↓T_and, ↓T_imp, ↓T_all, hb, g2]; try simp only [top_out])
          refine ⟨fun h2 => ⟨by omega, by omega, by omega, by omega, by decide, ⟨rfl, rfl⟩, ?_⟩, fun h2 => absurd (cmpP_eq.1 (bneF h2)).symm hne⟩
          refine pxs_push (l := (insAt l j pfx).take (k + 1)) hs.app p (by rw [get_app0]; rfl) (by have := insAt_length l j pfx; simp only [List.length_take]; omega) (fun M2 s2 o2' n2 A2 => ?_)
          (refine top_in ?_; simp -implicitDefEqProofs only [go_sem, -List.reduceReplicate, ↓L_gdZ_tt, ↓L_gdZ_tf, ↓L_gdZ_ft, ↓L_gdZ_ff, ↓T_and, ↓T_imp, ↓T_all]; try simp only [top_out])
          have hb2 : M2[M.length]? = _ := A2.get ((get_lt (kw hb)).trans hb) (fun e => by have := hn' _ e; omega)
          refine ⟨m - 1, by omega, k + 1, s2, by omega, ?_, hb2, ?_, n2.mono (fun n g => by simp at g; omega), rfl, hd2.symm, w64 (by omega) (by omega)⟩
          · exact Ag.trans hA (S' := fun n => M.length + 1 ≤ n) (Ag.trans (S' := fun n => M.length + 1 ≤ n) Ag.app (A2.mono (fun n e => hn' n e)) (fun _ _ e => e)) (fun n h1 h2 => by omega)
          · rw [if_pos (by omega), take_snocS ((insAt_gt (by omega) f1).trans g1)]
            exact o2'
        · subst hjk
          have hd : decide (j < j) = false := decide_eq_false (Nat.lt_irrefl _)
          have hd2 : decide (j < j + 1) = true := decide_eq_true (by omega)
          rw [if_neg (Nat.lt_irrefl _)] at hs
          have hc := of_decide_eq_true (f3 p g1)
          simp only [hd]
          refine draw_rule tabOK (by kernel_rfl : _) (.p 0 (.p 1 (.p 2 (.p 3 (.p 4 (.p 5 (.e 6 [] (.p 7 .nil) .no))))))) (by kernel_rfl) (by kernel_rfl) ?_
          (refine top_in ?_; simp -implicitDefEqProofs only [go_sem, -List.reduceReplicate, ↓L_gdZ_tt, ↓L_gdZ_tf, ↓L_gdZ_ft, ↓L_gdZ_ff, ↓T_and, ↓T_imp, ↓T_all, hb, g2]; try simp only [top_out])
          refine ⟨by omega, by omega, by omega, by omega, ?_⟩
          refine rcmp_ok pfx p _ _ ?_
          (refine top_in ?_; simp -implicitDefEqProofs only [go_sem, -List.reduceReplicate, ↓L_gdZ_tt, ↓L_gdZ_tf, ↓L_gdZ_ft, ↓L_gdZ_ff, ↓T_and, ↓T_imp, ↓T_all, hb, g2]; try simp only [top_out])
          refine ⟨fun _ => ⟨by decide, ⟨rfl, rfl⟩, ?_⟩, fun h2 => absurd hc h2⟩
          refine pxs_push (l := (insAt l j pfx).take j) hs.app pfx (by rw [get_app0]; rfl) (by have := insAt_length l j pfx; simp only [List.length_take]; omega) (fun M2 s2 o2' n2 A2 => ?_)
          have hb2 : M2[M.length]? = _ := A2.get ((get_lt (kw hb)).trans hb) (fun e => by have := hn' _ e; omega)
          (refine top_in ?_; simp -implicitDefEqProofs only [go_sem, -List.reduceReplicate, ↓L_gdZ_tt, ↓L_gdZ_tf, ↓L_gdZ_ft, ↓L_gdZ_ff, ↓T_and, ↓T_imp, ↓T_all, hb2]; try simp only [top_out])
          refine ⟨fun h2 => ?_, fun h2 => absurd (cmpP_eq.1 (bneF h2)).symm hne⟩
          have A2' : Ag (fun n => M.length + 1 ≤ n) M M2 := Ag.trans (hA.mono (fun _ e => e.elim)) (S' := fun n => M.length + 1 ≤ n) (Ag.trans (S' := fun n => M.length + 1 ≤ n) Ag.app (A2.mono (fun n e => hn' n e)) (fun _ _ e => e)) (fun _ _ e => e)
          have m2 := A2'.1
          have m2' := A2.1
          simp only [List.length_append, List.length_cons, List.length_nil] at m2'
          obtain ⟨n1', cap1', p', e1, l1', g1', g2', g3'⟩ := Pxs.at (k := j) (Lst.ag (M' := M2) h A2' (fun d e g => by have := h.dn d e; omega)) hkl
          cases e1
          rw [g1] at g1'
          cases g1'
          (refine top_in ?_; simp -implicitDefEqProofs only [go_sem, -List.reduceReplicate, ↓L_gdZ_tt, ↓L_gdZ_tf, ↓L_gdZ_ft, ↓L_gdZ_ff, ↓T_and, ↓T_imp, ↓T_all, hb2, g2']; try simp only [top_out])
          refine ⟨by omega, by omega, by omega, by omega, by decide, ⟨rfl, rfl⟩, ?_⟩
          rw [← take_snocS (insAt_eq f1)] at o2'
          refine pxs_push (l := (insAt l j pfx).take (j + 1)) o2'.app p (by rw [get_app0]; rfl) (by have := insAt_length l j pfx; simp only [List.length_take]; omega) (fun M3 s3 o3' n3 A3 => ?_)
          have hb3 : M3[M.length]? = _ := A3.get ((get_lt (kw hb2)).trans hb2) (fun e => by have := n2 _ e; simp at this; omega)
          (refine top_in ?_; simp -implicitDefEqProofs only [go_sem, -List.reduceReplicate, ↓L_gdZ_tt, ↓L_gdZ_tf, ↓L_gdZ_ft, ↓L_gdZ_ff, ↓T_and, ↓T_imp, ↓T_all]; try simp only [top_out])
          refine ⟨m - 1, by omega, j + 1, s3, by omega, ?_, hb3, ?_, n3.mono (fun n g => by simp at g; omega), rfl, hd2.symm, w64 (by omega) (by omega)⟩
          · exact Ag.trans A2' (S' := fun n => M.length + 1 ≤ n) (Ag.trans (S' := fun n => M.length + 1 ≤ n) Ag.app (A3.mono (fun n e => by have := n2 n e; simp at this; omega)) (fun _ _ e => e)) (fun _ _ e => e) |>.mono_lt (fun n h1 h2 => by omega)
          · rw [if_pos (by omega), take_snocS ((insAt_gt (Nat.le_refl _) f1).trans g1)]
            exact o3'
        · have hd : decide (j < k) = false := decide_eq_false (by omega)
          have hd2 : decide (j < k + 1) = false := decide_eq_false (by omega)
          rw [if_neg (by omega)] at hs
          have hc := of_decide_eq_false (f2 k p hjk g1)
          simp only [hd]
          refine draw_rule tabOK (by kernel_rfl : _) (.p 0 (.p 1 (.p 2 (.p 3 (.p 4 (.p 5 (.e 6 [] (.p 7 .nil) .no))))))) (by kernel_rfl) (by kernel_rfl) ?_
          (refine top_in ?_; simp -implicitDefEqProofs only [go_sem, -List.reduceReplicate, ↓L_gdZ_tt, ↓L_gdZ_tf, ↓L_gdZ_ft, ↓L_gdZ_ff, ↓T_and, ↓T_imp, ↓T_all, hb, g2]; try simp only [top_out])
          refine ⟨by omega, by omega, by omega, by omega, ?_⟩
          refine rcmp_ok pfx p _ _ ?_
          (refine top_in ?_; simp -implicitDefEqProofs only [go_sem, -List.reduceReplicate, ↓L_gdZ_tt, ↓L_gdZ_tf, ↓L_gdZ_ft, ↓L_gdZ_ff, ↓T_and, ↓T_imp, ↓T_all, hb, g2]; try simp only [top_out])
          refine ⟨fun h2 => absurd h2 hc, fun _ => ⟨fun h2 => ⟨by omega, by omega, by omega, by omega, by decide, ⟨rfl, rfl⟩, ?_⟩, fun h2 => absurd (cmpP_eq.1 (bneF h2)).symm hne⟩⟩
          refine pxs_push (l := (insAt l j pfx).take k) hs.app p (by rw [get_app0]; rfl) (by have := insAt_length l j pfx; simp only [List.length_take]; omega) (fun M2 s2 o2' n2 A2 => ?_)
          (refine top_in ?_; simp -implicitDefEqProofs only [go_sem, -List.reduceReplicate, ↓L_gdZ_tt, ↓L_gdZ_tf, ↓L_gdZ_ft, ↓L_gdZ_ff, ↓T_and, ↓T_imp, ↓T_all]; try simp only [top_out])
          have hb2 : M2[M.length]? = _ := A2.get ((get_lt (kw hb)).trans hb) (fun e => by have := hn' _ e; omega)
          refine ⟨m - 1, by omega, k + 1, s2, by omega, ?_, hb2, ?_, n2.mono (fun n g => by simp at g; omega), rfl, hd2.symm, w64 (by omega) (by omega)⟩
          · exact Ag.trans hA (S' := fun n => M.length + 1 ≤ n) (Ag.trans (S' := fun n => M.length + 1 ≤ n) Ag.app (A2.mono (fun n e => hn' n e)) (fun _ _ e => e)) (fun n h1 h2 => by omega)
          · rw [if_neg (by omega), take_snocS ((insAt_lt hjk f1).trans g1)]
            exact o2'
      · obtain rfl : k = l.length := by omega
        have hil := insAt_length l j pfx
        (refine top_in ?_; simp -implicitDefEqProofs only [go_sem, -List.reduceReplicate, ↓L_gdZ_tt, ↓L_gdZ_tf, ↓L_gdZ_ft, ↓L_gdZ_ff, ↓T_and, ↓T_imp, ↓T_all, hb]; try simp only [top_out])
        refine ⟨fun h2 => ⟨by decide, ⟨rfl, rfl⟩, ?_⟩, fun h2 => ?_⟩
        · have hjl : j = l.length := by simp at h2; omega
          rw [if_neg (by omega)] at hs
          refine pxs_push (l := (insAt l j pfx).take l.length) hs.app pfx (by rw [get_app0]; rfl) (by simp only [List.length_take]; omega) (fun M2 s2 o2' n2 A2 => ?_)
          (refine top_in ?_; simp -implicitDefEqProofs only [go_sem, -List.reduceReplicate, ↓L_gdZ_tt, ↓L_gdZ_tf, ↓L_gdZ_ft, ↓L_gdZ_ff, ↓T_and, ↓T_imp, ↓T_all]; try simp only [top_out])
          have m2' := A2.1
          simp only [List.length_append, List.length_cons, List.length_nil] at m2'
          refine dropC_all (by omega) (hK M2 s2 ?_ (n2.mono (fun n g => by simp at g; omega)) (Ag.trans hA (S' := fun n => M.length + 1 ≤ n) (Ag.trans (S' := fun n => M.length + 1 ≤ n) Ag.app (A2.mono (fun n e => hn' n e)) (fun _ _ e => e)) (fun n h1 h2 => by omega)))
          rw [← take_snocS (by rw [← hjl]; exact insAt_eq f1), List.take_of_length_le (by omega)] at o2'
          exact o2'
        · have hjl : j < l.length := by simpa using h2
          rw [if_pos hjl, List.take_of_length_le (by omega)] at hs
          exact dropC_all hm (hK M1 s hs (hn'.mono (fun n g => by omega)) hA)
end Go.Proofs.YtdcplcfedcmcmaaGreat.Eng

/- The document's way of giving a key. -/
namespace Go.Proofs.YtdcplcfedcmcmaaGreat.Eng
open Go Go.RowKit
set_option linter.unusedSimpArgs false
set_option linter.unusedVariables false

theorem LnE.app {M L : List Blk} {G : Nat → Prop} {e : Ln × SV} (h : LnE M G e) : LnE (M ++ L) G e := h.ag (S := fun _ => False) Ag.app (fun _ _ _ e => e)
theorem PrE.app {M L : List Blk} {G : Nat → Prop} {e : Pr × SV × SV} (h : PrE M G e) : PrE (M ++ L) G e := h.ag (S := fun _ => False) Ag.app (fun _ _ _ e => e)
theorem ChE.app {M L : List Blk} {G : Nat → Prop} {e : Ch × SV} (h : ChE M G e) : ChE (M ++ L) G e := h.ag (S := fun _ => False) Ag.app (fun _ _ _ e => e)
theorem Ag.then {S : Nat → Prop} {M M' M'' : List Blk} (h : Ag S M M') (h' : Ag S M' M'') : Ag S M M'' := Ag.trans h h' (fun _ _ e => e)
/-- a new lane's place -/
def newLn (c : Ch) : Ln := ⟨c.key, c.side, 1, 0, 0#64, 0#64, 0, 0⟩
set_option maxHeartbeats 1000000 in
theorem rgive_ok (G G' G2 : Nat → Prop) (xp xl : SV) (c : Ch × SV) (s : St) (M : List Blk) (K : SV → List Blk → Prop) (h : Lns M G' xl s.ls) (hp : xp.one = true) (hc : ChE M G2 c) (hs : s.Right)
    (hK : ∀ M' y, LnsO M' M.length y (s.give c.1) → Ag (fun _ => False) M M' → K y M') :
    callVC Tryz.prog 59 [.agg [xp, xl], .agg (chC c)] M K := by
  obtain ⟨c, xk⟩ := c
  have o2 := hc.key.one
  have o1 := h.one
  have la : ∀ {M' : List Blk} {e a' b' : Nat} {K : SV → Prop}, lenB (.slice e a' b') M' xl K = K (.i .i64 s.ls.length) := h.lenB
  have hl := hs.nl
  simp only at o2 hK
  have hcE : chC (c, xk) = [.i .i64 c.kind, .i .i64 c.link, .i .i64 c.side, xk, .i .i64 c.pfx.fam, .u64 c.pfx.hi, .u64 c.pfx.lo, .i .i64 c.pfx.bits] := rfl
  rw [hcE]
  refine fn_rule tabOK Tryz.func59 rfl Tryz.call59 (by kernel_rfl) (fun hM => ?_)
  (refine top_in ?_; simp -implicitDefEqProofs only [Tryz.ntmps59, Tryz.results59, go_sem, -List.reduceReplicate, ↓L_gdZ_tt, ↓L_gdZ_tf, ↓L_gdZ_ft, ↓L_gdZ_ff, ↓T_and, ↓T_imp, ↓T_all, o1, o2, hp]; try simp only [top_out])
  refine rlane_ok G' xp xl xk c.key s _ _ h.app hp hc.key.app (by omega) ?_
  have hS2 : ∀ (M1 : List Blk), Ag (fun _ => False) M M1 → M1[M.length]? = some (.row [xp, xl] 27) → Lns M1 G' xl s.ls := fun M1 hA _ => h.ag hA (fun _ _ _ e => e)
  cases e : s.lane c.key with
  | some k0 =>
    obtain ⟨l0, hk0, hkey⟩ := (St.lane_some hs).1 e
    have hg : s.give c = s.ls.set k0 { l0 with cur := l0.lifted, sc := 0#64, ce := 0#64 } := by unfold St.give; rw [e]; simp only [hk0]
    rw [hg] at hK
    generalize hR : s.ls.set k0 { l0 with cur := l0.lifted, sc := 0#64, ce := 0#64 } = R at hK
    have hRl : R.length = s.ls.length := by rw [← hR, List.length_set]
    have hk0l := (List.getElem?_eq_some_iff.1 hk0).1
    have hd0 : decide (0 ≤ (k0 : Int)) = true := decide_eq_true (by omega)
    (refine top_in ?_; simp -implicitDefEqProofs only [go_sem, -List.reduceReplicate, ↓L_gdZ_tt, ↓L_gdZ_tf, ↓L_gdZ_ft, ↓L_gdZ_ff, ↓T_and, ↓T_imp, ↓T_all, ixI, hd0]; try simp only [top_out])
    refine loop_code tabOK (by kernel_rfl) (fun m ts M' => ∃ (k : Nat) (y : SV), k + m = s.ls.length ∧ Ag (fun _ => False) M M' ∧ M'[M.length]? = some (.row [xp, xl] 27) ∧ M'[M.length + 1]? = some (.row [.i .i64 c.kind, .i .i64 c.link, .i .i64 c.side, xk, .i .i64 c.pfx.fam, .u64 c.pfx.hi, .u64 c.pfx.lo, .i .i64 c.pfx.bits] 50) ∧
      LnsO M' (M.length + 2) y (R.take k) ∧ frC (none :: none :: some (.p M.length 0) :: some (.p (M.length + 1) 0) :: none :: some (.i .i64 k0) :: some (y) :: some (.b true) :: some (.i .i64 k) :: none :: none :: none :: none :: none :: none :: none :: none :: none :: none :: none :: none :: none :: none :: none :: none :: none :: none :: none :: none :: none :: none :: none :: none :: none :: none :: none :: none :: none :: none :: none :: none :: none :: none :: none :: none :: none :: none :: none :: none :: none :: none :: none :: none :: none :: none :: none :: none :: none :: none :: none :: none :: none :: none :: none :: none :: none :: none :: none :: none :: none :: none :: none :: none :: []) ts) s.ls.length ?_ ?_
    · exact ⟨0, .sn, by omega, Ag.app, by rw [get_app0]; rfl, by rw [get_app]; rfl, LnsO.sn, by simp [frC]⟩
    · rintro m ts M1 ⟨k, y, hk, hA, b0, b1, hy, hf⟩
      have hm := hA.1
      have w1 := kw b1
      obtain ⟨f, rfl⟩ := frC_open _ _ 0 hf
      clear hf
      (refine top_in ?_; simp -implicitDefEqProofs only [go_sem, -List.reduceReplicate, ↓L_gdZ_tt, ↓L_gdZ_tf, ↓L_gdZ_ft, ↓L_gdZ_ff, ↓T_and, ↓T_imp, ↓T_all, la, b0, b1]; try simp only [top_out])
      refine ⟨fun h1 => ?_, fun h1 => ?_⟩
      · obtain ⟨n1, cap1, e', rfl, l1, g1, g2, g3, g4, _⟩ := (h.ag hA (fun _ _ _ e => e)).at (k := k) (by omega)
        (refine top_in ?_; simp -implicitDefEqProofs only [go_sem, -List.reduceReplicate, ↓L_gdZ_tt, ↓L_gdZ_tf, ↓L_gdZ_ft, ↓L_gdZ_ff, ↓T_and, ↓T_imp, ↓T_all, b0, b1, g3]; try simp only [top_out])
        refine ⟨by omega, by omega, by omega, by omega, ?_⟩
        refine lane_ok G' e' M1 _ g2 (fun M2 z b2 n2 A2 => ?_)
        have c0 := A2.get b0 (fun e => e)
        have c1 := A2.get b1 (fun e => e)
        have m2 := A2.1
        have o3 := b2.one
        obtain ⟨q, xq⟩ := e'
        simp only [lnC]
        (refine top_in ?_; simp -implicitDefEqProofs only [go_sem, -List.reduceReplicate, ↓L_gdZ_tt, ↓L_gdZ_tf, ↓L_gdZ_ft, ↓L_gdZ_ff, ↓T_and, ↓T_imp, ↓T_all, c0, c1, get_lt (kw c0), get_lt (kw c1), o3]; try simp only [top_out])
        have hkb : Byt (M2 ++ [Blk.row (lnC (q, z)) 58]) xk c.key := ((hc.key.ag hA (fun _ _ e => e)).ag A2 (fun _ _ e => e)).app
        refine less_byt _ _ _ _ _ _ hkb b2.app ?_
        (refine top_in ?_; simp -implicitDefEqProofs only [go_sem, -List.reduceReplicate, ↓L_gdZ_tt, ↓L_gdZ_tf, ↓L_gdZ_ft, ↓L_gdZ_ff, ↓T_and, ↓T_imp, ↓T_all, c0, c1, get_lt (kw c0), get_lt (kw c1), o3]; try simp only [top_out])
        have hRk : ∀ x, R[k]? = some x → LnsO M1 (M.length + 2) y (R.take k) → True := fun _ _ _ => trivial
        refine ⟨fun h2 => ?_, fun h2 => ?_⟩
        · have hkk : k = k0 := by have := beqT h2; omega
          subst hkk
          rw [hk0] at g1
          cases g1
          refine rlifted_ok (fun n => M1.length ≤ n) (q, z) _ _ ⟨b2.app, n2⟩ (hs.lane _ (List.mem_of_getElem? hk0)) ?_
          (refine top_in ?_; simp -implicitDefEqProofs only [go_sem, -List.reduceReplicate, ↓L_gdZ_tt, ↓L_gdZ_tf, ↓L_gdZ_ft, ↓L_gdZ_ff, ↓T_and, ↓T_imp, ↓T_all, c0, c1, get_lt (kw c0), get_lt (kw c1), o3]; try simp only [top_out])
          refine ⟨by decide, ?_⟩
          refine LnsO.push (b := M.length + 2) ((hy.ag A2 (fun _ _ _ e => e)).app) (by simp only [List.length_append]; omega) { q with cur := q.lifted, sc := 0#64, ce := 0#64 } z (by rw [get_app]; rfl) b2.app ((n2.and b2.dn).mono (fun n g => ⟨by omega, fun h => by have := hy.nm n h; omega⟩)) (by simp only [List.length_take]; omega) (fun M3 s3 o5 n5 A3 => ?_)
          have A3' : Ag (fun n => M.length + 2 ≤ n) M M3 := Ag.then (hA.mono (fun _ e => e.elim)) (Ag.then (A2.mono (fun _ e => e.elim)) (Ag.then Ag.app (A3.mono (fun n e => (hy.nm n e).1))))
          have d0 := A3.get ((get_lt (kw c0)).trans c0) (fun e => by have := hy.nm _ e; omega)
          have d1 := A3.get ((get_lt (kw c1)).trans c1) (fun e => by have := hy.nm _ e; omega)
          (refine top_in ?_; simp -implicitDefEqProofs only [go_sem, -List.reduceReplicate, ↓L_gdZ_tt, ↓L_gdZ_tf, ↓L_gdZ_ft, ↓L_gdZ_ff, ↓T_and, ↓T_imp, ↓T_all]; try simp only [top_out])
          refine ⟨m - 1, by omega, k + 1, s3, by omega, A3'.mono_lt (fun n h1 h2 => by omega), d0, d1, ?_, rfl, w64 (by omega) (by omega)⟩
          rw [take_snocS (c := { q with cur := q.lifted, sc := 0#64, ce := 0#64 }) (by rw [← hR]; exact List.getElem?_set_self hk0l)]
          exact o5
        · have hkk : k0 ≠ k := by have := beqF h2; omega
          refine ⟨by decide, ?_⟩
          refine LnsO.push (b := M.length + 2) ((hy.ag A2 (fun _ _ _ e => e)).app) (by simp only [List.length_append]; omega) q z (by rw [get_app]; rfl) b2.app ((n2.and b2.dn).mono (fun n g => ⟨by omega, fun h => by have := hy.nm n h; omega⟩)) (by simp only [List.length_take]; omega) (fun M3 s3 o5 n5 A3 => ?_)
          have A3' : Ag (fun n => M.length + 2 ≤ n) M M3 := Ag.then (hA.mono (fun _ e => e.elim)) (Ag.then (A2.mono (fun _ e => e.elim)) (Ag.then Ag.app (A3.mono (fun n e => (hy.nm n e).1))))
          have d0 := A3.get ((get_lt (kw c0)).trans c0) (fun e => by have := hy.nm _ e; omega)
          have d1 := A3.get ((get_lt (kw c1)).trans c1) (fun e => by have := hy.nm _ e; omega)
          (refine top_in ?_; simp -implicitDefEqProofs only [go_sem, -List.reduceReplicate, ↓L_gdZ_tt, ↓L_gdZ_tf, ↓L_gdZ_ft, ↓L_gdZ_ff, ↓T_and, ↓T_imp, ↓T_all]; try simp only [top_out])
          refine ⟨m - 1, by omega, k + 1, s3, by omega, A3'.mono_lt (fun n h1 h2 => by omega), d0, d1, ?_, rfl, w64 (by omega) (by omega)⟩
          rw [take_snocS (c := q) (by rw [← hR, List.getElem?_set_ne hkk]; exact g1)]
          exact o5
      · obtain rfl : k = s.ls.length := by omega
        rw [List.take_of_length_le (by omega)] at hy
        exact dropC_all hm (hK M1 y (hy.mono (by omega)) hA)
  | none =>
    have hg : s.give c = insAt s.ls (s.ls.findIdx fun l => ltB c.key l.key) (newLn c) := by unfold St.give; rw [e]; rfl
    rw [hg] at hK
    obtain ⟨f1, f2, f3⟩ := fix_facts s.ls fun l => ltB c.key l.key
    have hil := insAt_length s.ls (s.ls.findIdx fun l => ltB c.key l.key) (newLn c)
    generalize (s.ls.findIdx fun l => ltB c.key l.key) = j at *
    have hd0 : decide ((0 : Int) ≤ -1) = false := rfl
    (refine top_in ?_; simp -implicitDefEqProofs only [go_sem, -List.reduceReplicate, ↓L_gdZ_tt, ↓L_gdZ_tf, ↓L_gdZ_ft, ↓L_gdZ_ff, ↓T_and, ↓T_imp, ↓T_all, ixI, hd0]; try simp only [top_out])
    refine loop_code tabOK (by kernel_rfl) (fun m ts M' => ∃ (k : Nat) (y : SV), k + m = s.ls.length ∧ Ag (fun _ => False) M M' ∧ M'[M.length]? = some (.row [xp, xl] 27) ∧ M'[M.length + 1]? = some (.row [.i .i64 c.kind, .i .i64 c.link, .i .i64 c.side, xk, .i .i64 c.pfx.fam, .u64 c.pfx.hi, .u64 c.pfx.lo, .i .i64 c.pfx.bits] 50) ∧
      LnsO M' (M.length + 2) y ((insAt s.ls j (newLn c)).take (if j < k then k + 1 else k)) ∧ frC (none :: none :: some (.p M.length 0) :: some (.p (M.length + 1) 0) :: none :: some (.i .i64 (-1)) :: some (y) :: some (.b (decide (j < k))) :: some (.i .i64 k) :: none :: none :: none :: none :: none :: none :: none :: none :: none :: none :: none :: none :: none :: none :: none :: none :: none :: none :: none :: none :: none :: none :: none :: none :: none :: none :: none :: none :: none :: none :: none :: none :: none :: none :: none :: none :: none :: none :: none :: none :: none :: none :: none :: none :: none :: none :: none :: none :: none :: none :: none :: none :: none :: none :: none :: none :: none :: none :: none :: none :: none :: none :: none :: none :: []) ts) s.ls.length ?_ ?_
    · exact ⟨0, .sn, by omega, Ag.app, by rw [get_app0]; rfl, by rw [get_app]; rfl, by rw [if_neg (by omega)]; exact LnsO.sn, by simp [frC]⟩
    · rintro m ts M1 ⟨k, y, hk, hA, b0, b1, hy, hf⟩
      have hm := hA.1
      have w1 := kw b1
      have hlen : ∀ q, ((insAt s.ls j (newLn c)).take q).length ≤ 100000 := fun q => by simp only [List.length_take]; omega
      obtain ⟨f, rfl⟩ := frC_open _ _ 0 hf
      clear hf
      (refine top_in ?_; simp -implicitDefEqProofs only [go_sem, -List.reduceReplicate, ↓L_gdZ_tt, ↓L_gdZ_tf, ↓L_gdZ_ft, ↓L_gdZ_ff, ↓T_and, ↓T_imp, ↓T_all, la, b0, b1]; try simp only [top_out])
      refine ⟨fun h1 => ?_, fun h1 => ?_⟩
      · have hkl : k < s.ls.length := by omega
        obtain ⟨n1, cap1, e', rfl, l1, g1, g2, g3, g4, _⟩ := (h.ag hA (fun _ _ _ e => e)).at (k := k) hkl
        (refine top_in ?_; simp -implicitDefEqProofs only [go_sem, -List.reduceReplicate, ↓L_gdZ_tt, ↓L_gdZ_tf, ↓L_gdZ_ft, ↓L_gdZ_ff, ↓T_and, ↓T_imp, ↓T_all, b0, b1, g3]; try simp only [top_out])
        refine ⟨by omega, by omega, by omega, by omega, ?_⟩
        refine lane_ok G' e' M1 _ g2 (fun M2 z b2 n2 A2 => ?_)
        have c0 := A2.get b0 (fun e => e)
        have c1 := A2.get b1 (fun e => e)
        have m2 := A2.1
        have o3 := b2.one
        obtain ⟨q, xq⟩ := e'
        simp only [lnC]
        (refine top_in ?_; simp -implicitDefEqProofs only [go_sem, -List.reduceReplicate, ↓L_gdZ_tt, ↓L_gdZ_tf, ↓L_gdZ_ft, ↓L_gdZ_ff, ↓T_and, ↓T_imp, ↓T_all, c0, c1, get_lt (kw c0), get_lt (kw c1), o3]; try simp only [top_out])
        have hkb : Byt (M2 ++ [Blk.row (lnC (q, z)) 58]) xk c.key := ((hc.key.ag hA (fun _ _ e => e)).ag A2 (fun _ _ e => e)).app
        refine less_byt _ _ _ _ _ _ hkb b2.app ?_
        have hd2 : ∀ {a b : Nat}, a < b → decide (a < b) = true := fun h => decide_eq_true h
        rcases Nat.lt_trichotomy j k with hjk | hjk | hjk
        · have hd : decide (j < k) = true := decide_eq_true hjk
          have hd2 : decide (j < k + 1) = true := decide_eq_true (by omega)
          rw [if_pos hjk] at hy
          simp only [hd]
          (refine top_in ?_; simp -implicitDefEqProofs only [go_sem, -List.reduceReplicate, ↓L_gdZ_tt, ↓L_gdZ_tf, ↓L_gdZ_ft, ↓L_gdZ_ff, ↓T_and, ↓T_imp, ↓T_all, c0, c1, get_lt (kw c0), get_lt (kw c1), o3]; try simp only [top_out])
          refine ⟨fun h2 => absurd (beqT h2) (by omega), fun _ => ⟨by decide, ?_⟩⟩
          refine LnsO.push (b := M.length + 2) ((hy.ag A2 (fun _ _ _ e => e)).app) (by simp only [List.length_append]; omega) q z (by rw [get_app]; rfl) b2.app ((n2.and b2.dn).mono (fun n g => ⟨by omega, fun h => by have := hy.nm n h; omega⟩)) (by simp only [List.length_take]; omega) (fun M3 s3 o5 n5 A3 => ?_)
          have A3' : Ag (fun n => M.length + 2 ≤ n) M M3 := Ag.then (hA.mono (fun _ e => e.elim)) (Ag.then (A2.mono (fun _ e => e.elim)) (Ag.then Ag.app (A3.mono (fun n e => (hy.nm n e).1))))
          have d0 := A3.get ((get_lt (kw c0)).trans c0) (fun e => by have := hy.nm _ e; omega)
          have d1 := A3.get ((get_lt (kw c1)).trans c1) (fun e => by have := hy.nm _ e; omega)
          (refine top_in ?_; simp -implicitDefEqProofs only [go_sem, -List.reduceReplicate, ↓L_gdZ_tt, ↓L_gdZ_tf, ↓L_gdZ_ft, ↓L_gdZ_ff, ↓T_and, ↓T_imp, ↓T_all]; try simp only [top_out])
          refine ⟨m - 1, by omega, k + 1, s3, by omega, A3'.mono_lt (fun n h1 h2 => by omega), d0, d1, ?_, rfl, hd2.symm, w64 (by omega) (by omega)⟩
          rw [if_pos (by omega), take_snocS ((insAt_gt (by omega) f1).trans g1)]
          exact o5
        · subst hjk
          have hd : decide (j < j) = false := decide_eq_false (Nat.lt_irrefl _)
          have hd2 : decide (j < j + 1) = true := decide_eq_true (by omega)
          rw [if_neg (Nat.lt_irrefl _)] at hy
          have hc2 : ltB c.key q.key = true := f3 q g1
          simp only [hd]
          (refine top_in ?_; simp -implicitDefEqProofs only [go_sem, -List.reduceReplicate, ↓L_gdZ_tt, ↓L_gdZ_tf, ↓L_gdZ_ft, ↓L_gdZ_ff, ↓T_and, ↓T_imp, ↓T_all, c0, c1, get_lt (kw c0), get_lt (kw c1), o3, hc2]; try simp only [top_out])
          refine draw_rule tabOK (by kernel_rfl : _) (.p 0 (.p 1 (.p 2 (.p 4 (.p 5 (.e 3 [4, 5] (.p 6 (.e 7 [] (.e 8 [] (.p 9 .nil) .no) .no)) .no)))))) (by kernel_rfl) (by kernel_rfl) ?_
          (refine top_in ?_; simp -implicitDefEqProofs only [go_sem, -List.reduceReplicate, ↓L_gdZ_tt, ↓L_gdZ_tf, ↓L_gdZ_ft, ↓L_gdZ_ff, ↓T_and, ↓T_imp, ↓T_all, c0, c1, get_lt (kw c0), get_lt (kw c1), o3]; try simp only [top_out])
          refine bytes_byt xk c.key _ _ hkb (fun M3 y2 b3 n3 A3 => ?_)
          have m3 := A3.1
          simp only [List.length_append, List.length_cons, List.length_nil] at m3 n3
          have e0 := A3.get ((get_lt (kw c0)).trans c0) (fun e => e)
          have e1 := A3.get ((get_lt (kw c1)).trans c1) (fun e => e)
          have e2 := A3.at0 noS rfl
          have o6 := b3.one
          (refine top_in ?_; simp -implicitDefEqProofs only [go_sem, -List.reduceReplicate, ↓L_gdZ_tt, ↓L_gdZ_tf, ↓L_gdZ_ft, ↓L_gdZ_ff, ↓T_and, ↓T_imp, ↓T_all, e0, e1, e2, o6, cellsS_one o6]; try simp only [top_out])
          refine ⟨by decide, ?_⟩
          have hyM3 : LnsO M3 (M.length + 2) y ((insAt s.ls j (newLn c)).take j) := ((hy.ag A2 (fun _ _ _ e => e)).app (L := [Blk.row (lnC (q, z)) 58])).ag A3 (fun _ _ _ e => e)
          refine LnsO.push (b := M.length + 2) hyM3.app (by simp only [List.length_append]; omega) (newLn c) y2 (by rw [get_app0]; rfl) b3.app ((n3.and b3.dn).mono (fun n g => ⟨by omega, fun h => by have := hy.nm n h; omega⟩)) (hlen j) (fun M4 s4 o7 n7 A7 => ?_)
          have A4' : Ag (fun n => M.length + 2 ≤ n) M M4 := Ag.then (hA.mono (fun _ e => e.elim)) (Ag.then (A2.mono (fun _ e => e.elim)) (Ag.then Ag.app (Ag.then (A3.mono (fun _ e => e.elim)) (Ag.then Ag.app (A7.mono (fun n e => (hy.nm n e).1))))))
          have g0 := A7.get ((get_lt (kw e0)).trans e0) (fun e => by have := hy.nm _ e; omega)
          have g1' := A7.get ((get_lt (kw e1)).trans e1) (fun e => by have := hy.nm _ e; omega)
          have g2' := A7.get ((get_lt (kw e2)).trans e2) (fun e => by have := hy.nm _ e; omega)
          have m7 := A7.1
          simp only [List.length_append, List.length_cons, List.length_nil] at m7
          rw [← take_snocS (insAt_eq f1)] at o7
          (refine top_in ?_; simp -implicitDefEqProofs only [go_sem, -List.reduceReplicate, ↓L_gdZ_tt, ↓L_gdZ_tf, ↓L_gdZ_ft, ↓L_gdZ_ff, ↓T_and, ↓T_imp, ↓T_all, g0, g1', g2', o3]; try simp only [top_out])
          refine ⟨fun h2 => absurd (beqT h2) (by omega), fun _ => ⟨by decide, ?_⟩⟩
          have b4 : Byt M4 z q.key := (((b2.app (L := [Blk.row (lnC (q, z)) 58])).ag A3 (fun _ _ e => e)).app).ag A7 (fun d e h => by have := n2 d e; have := hy.nm d h; omega)
          refine LnsO.push (b := M.length + 2) o7.app (by simp only [List.length_append]; omega) q z (by rw [get_app0]; rfl) b4.app ((n2.and b2.dn).mono (fun n g => ⟨by omega, fun h => by have := n7 n h; simp at this; omega⟩)) (hlen _) (fun M5 s5 o8 n8 A8 => ?_)
          have i0 := A8.get ((get_lt (kw g0)).trans g0) (fun e => by have := n7 _ e; simp at this; omega)
          have i1 := A8.get ((get_lt (kw g1')).trans g1') (fun e => by have := n7 _ e; simp at this; omega)
          (refine top_in ?_; simp -implicitDefEqProofs only [go_sem, -List.reduceReplicate, ↓L_gdZ_tt, ↓L_gdZ_tf, ↓L_gdZ_ft, ↓L_gdZ_ff, ↓T_and, ↓T_imp, ↓T_all]; try simp only [top_out])
          refine ⟨m - 1, by omega, j + 1, s5, by omega, (A4'.then (Ag.then Ag.app (A8.mono (fun n e => by have := n7 n e; simp at this; omega)))).mono_lt (fun n h1 h2 => by omega), i0, i1, ?_, rfl, hd2.symm, w64 (by omega) (by omega)⟩
          rw [if_pos (by omega), take_snocS ((insAt_gt (Nat.le_refl _) f1).trans g1)]
          exact o8
        · have hd : decide (j < k) = false := decide_eq_false (by omega)
          have hd2 : decide (j < k + 1) = false := decide_eq_false (by omega)
          rw [if_neg (by omega)] at hy
          have hc2 : ltB c.key q.key = false := f2 k q hjk g1
          simp only [hd]
          (refine top_in ?_; simp -implicitDefEqProofs only [go_sem, -List.reduceReplicate, ↓L_gdZ_tt, ↓L_gdZ_tf, ↓L_gdZ_ft, ↓L_gdZ_ff, ↓T_and, ↓T_imp, ↓T_all, c0, c1, get_lt (kw c0), get_lt (kw c1), o3, hc2]; try simp only [top_out])
          refine ⟨fun h2 => absurd (beqT h2) (by omega), fun _ => ⟨by decide, ?_⟩⟩
          refine LnsO.push (b := M.length + 2) ((hy.ag A2 (fun _ _ _ e => e)).app) (by simp only [List.length_append]; omega) q z (by rw [get_app]; rfl) b2.app ((n2.and b2.dn).mono (fun n g => ⟨by omega, fun h => by have := hy.nm n h; omega⟩)) (by simp only [List.length_take]; omega) (fun M3 s3 o5 n5 A3 => ?_)
          have A3' : Ag (fun n => M.length + 2 ≤ n) M M3 := Ag.then (hA.mono (fun _ e => e.elim)) (Ag.then (A2.mono (fun _ e => e.elim)) (Ag.then Ag.app (A3.mono (fun n e => (hy.nm n e).1))))
          have d0 := A3.get ((get_lt (kw c0)).trans c0) (fun e => by have := hy.nm _ e; omega)
          have d1 := A3.get ((get_lt (kw c1)).trans c1) (fun e => by have := hy.nm _ e; omega)
          (refine top_in ?_; simp -implicitDefEqProofs only [go_sem, -List.reduceReplicate, ↓L_gdZ_tt, ↓L_gdZ_tf, ↓L_gdZ_ft, ↓L_gdZ_ff, ↓T_and, ↓T_imp, ↓T_all]; try simp only [top_out])
          refine ⟨m - 1, by omega, k + 1, s3, by omega, A3'.mono_lt (fun n h1 h2 => by omega), d0, d1, ?_, rfl, hd2.symm, w64 (by omega) (by omega)⟩
          rw [if_neg (by omega), take_snocS ((insAt_lt hjk f1).trans g1)]
          exact o5
      · obtain rfl : k = s.ls.length := by omega
        refine ⟨fun h2 => ?_, fun h2 => ?_⟩
        · have hjl : j = s.ls.length := by simp at h2; omega
          rw [if_neg (by omega)] at hy
          have hkb : Byt M1 xk c.key := hc.key.ag hA (fun _ _ e => e)
          refine draw_rule tabOK (by kernel_rfl : _) (.p 0 (.p 1 (.p 2 (.p 4 (.p 5 (.e 3 [4, 5] (.p 6 (.e 7 [] (.e 8 [] (.p 9 .nil) .no) .no)) .no)))))) (by kernel_rfl) (by kernel_rfl) ?_
          (refine top_in ?_; simp -implicitDefEqProofs only [go_sem, -List.reduceReplicate, ↓L_gdZ_tt, ↓L_gdZ_tf, ↓L_gdZ_ft, ↓L_gdZ_ff, ↓T_and, ↓T_imp, ↓T_all, b0, b1]; try simp only [top_out])
          refine bytes_byt xk c.key _ _ hkb (fun M3 y2 b3 n3 A3 => ?_)
          have m3 := A3.1
          have e0 := A3.get b0 (fun e => e)
          have e1 := A3.get b1 (fun e => e)
          have o6 := b3.one
          (refine top_in ?_; simp -implicitDefEqProofs only [go_sem, -List.reduceReplicate, ↓L_gdZ_tt, ↓L_gdZ_tf, ↓L_gdZ_ft, ↓L_gdZ_ff, ↓T_and, ↓T_imp, ↓T_all, e0, e1, o6, cellsS_one o6]; try simp only [top_out])
          refine ⟨by decide, ?_⟩
          have hyM3 : LnsO M3 (M.length + 2) y ((insAt s.ls j (newLn c)).take s.ls.length) := hy.ag A3 (fun _ _ _ e => e)
          refine LnsO.push (b := M.length + 2) hyM3.app (by simp only [List.length_append]; omega) (newLn c) y2 (by rw [get_app0]; rfl) b3.app ((n3.and b3.dn).mono (fun n g => ⟨by omega, fun h => by have := hy.nm n h; omega⟩)) (hlen _) (fun M4 s4 o7 n7 A7 => ?_)
          have g0 := A7.get ((get_lt (kw e0)).trans e0) (fun e => by have := hy.nm _ e; omega)
          have g1' := A7.get ((get_lt (kw e1)).trans e1) (fun e => by have := hy.nm _ e; omega)
          have m7 := A7.1
          simp only [List.length_append, List.length_cons, List.length_nil] at m7
          rw [← take_snocS (by rw [← hjl]; exact insAt_eq f1), List.take_of_length_le (by omega)] at o7
          (refine top_in ?_; simp -implicitDefEqProofs only [go_sem, -List.reduceReplicate, ↓L_gdZ_tt, ↓L_gdZ_tf, ↓L_gdZ_ft, ↓L_gdZ_ff, ↓T_and, ↓T_imp, ↓T_all, g0, g1']; try simp only [top_out])
          refine dropC_all (by omega) (hK M4 s4 (o7.mono (by omega)) ?_)
          exact (Ag.then (hA.mono (fun _ e => e.elim)) (Ag.then (A3.mono (fun _ e => e.elim)) (Ag.then Ag.app (A7.mono (fun n e => (hy.nm n e).1))))).mono_lt (fun n h1 h2 => by omega)
        · have hjl : j < s.ls.length := by simpa using h2
          rw [if_pos hjl, List.take_of_length_le (by omega)] at hy
          exact dropC_all hm (hK M1 y (hy.mono (by omega)) hA)
end Go.Proofs.YtdcplcfedcmcmaaGreat.Eng
