/- The document's way of doing a change. -/
import Derived.Test.YtdcplcfedcmcmaaGreatMd
namespace Go.Proofs.YtdcplcfedcmcmaaGreat.Eng
open Go Go.RowKit
set_option linter.unusedSimpArgs false
set_option linter.unusedVariables false

/-- what a loop over the peers finds -/
structure DnSt (ML M' : List Blk) (yl y : SV) (d : Nat) (acc : List Pr) : Prop where
  ag : Ag (fun n => n = d ∨ ML.length ≤ n) ML M'
  row : M'[d]? = some (.row [y, yl] 27)
  acc : PrsO M' ML.length y acc
theorem DnSt.st {ML M' : List Blk} {yl y : SV} {d : Nat} {acc : List Pr} (h : DnSt ML M' yl y d acc) {n : Nat} {B : Blk} (hn : ML[n]? = some B) (hd : n ≠ d) : M'[n]? = some B :=
  h.ag.get hn (fun e => e.elim hd (fun e => by have := kw hn; omega))
theorem DnSt.step {ML M3 M' : List Blk} {yl y : SV} {d : Nat} {acc : List Pr} (D : DnSt ML M3 yl y d acc) (A : Ag (fun _ => False) M3 M') : DnSt ML M' yl y d acc :=
  ⟨D.ag.then (A.mono (fun _ e => e.elim)), A.get D.row (fun e => e), D.acc.ag A (fun _ _ _ e => e)⟩
theorem DnSt.push {ML M5 M6 : List Blk} {yl y s6 : SV} {d : Nat} {acc acc' : List Pr} (D : DnSt ML M5 yl y d acc) (A9 : Ag (fun n => dnS y = some n) M5 M6) (o9 : PrsO M6 ML.length s6 acc') (hd : d < ML.length) :
    DnSt ML (M6.set d (.row [s6, yl] 27)) yl s6 d acc' :=
  ⟨D.ag.then ((A9.mono (fun n e => .inr (D.acc.nm n e).1)).then (Ag.set (.inl rfl))), List.getElem?_set_self (by have := D.ag.1; have := A9.1; omega), o9.ag (S := fun n => n = d) (Ag.set rfl) (fun n h1 h2 h3 => by omega)⟩
theorem DnSt.rowd {ML M5 M6 : List Blk} {yl y : SV} {d : Nat} {acc : List Pr} (D : DnSt ML M5 yl y d acc) (A9 : Ag (fun n => dnS y = some n) M5 M6) (hd : d < ML.length) : M6[d]? = some (.row [y, yl] 27) :=
  A9.get D.row (fun e => by have := D.acc.nm d e; omega)

theorem push_dn {ML M3 MM : List Blk} {yl y : SV} {d r cap : Nat} {ty : TypeId} {acc : List Pr} {K : SV → List Blk → Prop} (D : DnSt ML M3 yl y d acc) (A : Ag (fun _ => False) M3 MM) (hd : d < ML.length) (q : Pr) (yk yp : SV) (hr : MM[r]? = some (.row (prC (q, yk, yp)) ty)) (hyk : Byt MM yk q.key) (nyk : NmG (fun n => ML.length ≤ n ∧ dnS y ≠ some n) yk)
    (hyp : Pxs MM yp q.pfx) (nyp : NmG (fun n => ML.length ≤ n ∧ dnS y ≠ some n) yp) (hl : acc.length ≤ 100000)
    (hK : ∀ M6 s6, DnSt ML (M6.set d (.row [s6, yl] 27)) yl s6 d (acc ++ [q]) → M6[d]? = some (.row [y, yl] 27) → s6.one = true → Ag (fun n => dnS y = some n) MM M6 → NmG (fun n => n = MM.length) s6 → K s6 M6) : appendC tab MM 24 24 y (.sl r 0 1 cap) K := by
  have D5 := D.step A
  refine PrsO.push (b := ML.length) D5.acc (Nat.le_trans D.ag.1 A.1) q yk yp hr hyk nyk hyp nyp hl (fun M6 s6 o9 n9 A9 => hK M6 s6 (D5.push A9 o9 hd) (D5.rowd A9 hd) o9.one A9 n9)
set_option maxHeartbeats 2000000 in
set_option maxRecDepth 20000 in
theorem rdone_ok (G G' G2 : Nat → Prop) (xp xl : SV) (c : Ch × SV) (s : St) (M : List Blk) (K : SV → List Blk → Prop) (hP : Prs M G xp s.ps) (h : Lns M G' xl s.ls) (hc : ChE M G2 c) (hs : s.Right) (hf0 : s.fault c.1 = 0)
    (hK : ∀ M' y z, PrsO M' M.length y (s.done c.1).ps → LnsO M' M.length z (s.done c.1).ls → Ag (fun _ => False) M M' → K (.agg [y, z]) M') :
    callVC Tryz.prog 34 [.agg [xp, xl], .agg (chC c)] M K := by
  obtain ⟨l1, l2, hff⟩ := fault_facts hs hf0
  obtain ⟨c, xk⟩ := c
  have o2 := hc.key.one
  have o1 := h.one
  have o3 := hP.one
  have hl := hs.nl
  have hn := hs.np
  have hpf : ∀ p ∈ s.ps, p.pfx.length ≤ 16 := fun p hp => (hs.peer p hp).many
  have la : ∀ {M' : List Blk} {e a' b' : Nat} {K : SV → Prop}, lenB (.slice e a' b') M' xp K = K (.i .i64 s.ps.length) := hP.lenB
  simp only at o2 hK l1 l2 hff
  have hcE : chC (c, xk) = [.i .i64 c.kind, .i .i64 c.link, .i .i64 c.side, xk, .i .i64 c.pfx.fam, .u64 c.pfx.hi, .u64 c.pfx.lo, .i .i64 c.pfx.bits] := rfl
  rw [hcE]
  obtain ⟨kind, link, side, key, pfx⟩ := c
  simp only at hff l1 l2
  rcases hff with ⟨rfl, hp, ho, hl16, hkl, hsd, hkf⟩ | ⟨rfl, i, hi⟩ | ⟨rfl, i, hi, ho, hkl, hsd, hkf⟩ | ⟨rfl, ⟨i, hi⟩, hv, hh, hl16⟩ | ⟨rfl, i, hi, hh⟩
  · have hd : s.done ⟨1, link, side, key, pfx⟩ = ⟨insAt s.ps (s.ps.findIdx fun p => decide (link < p.link)) ⟨link, key, []⟩, s.give ⟨1, link, side, key, pfx⟩⟩ := by unfold St.done; rw [if_pos rfl]
    rw [hd] at hK
    have hpn := St.peer_none.1 hp
    obtain ⟨f1, f2, f3⟩ := fix_facts s.ps fun p => decide (link < p.link)
    have hil := insAt_length s.ps (s.ps.findIdx fun p => decide (link < p.link)) ⟨link, key, []⟩
    clear hd
    generalize (s.ps.findIdx fun p => decide (link < p.link)) = j at *
    have hlq : ∀ q, ((insAt s.ps j ⟨link, key, []⟩).take q).length ≤ 100000 := fun q => by simp only [List.length_take]; omega
    refine fn_rule tabOK Tryz.func34 rfl Tryz.call34 (by kernel_rfl) (fun hM => ?_)
    (refine top_in ?_; simp -implicitDefEqProofs only [Tryz.ntmps34, Tryz.results34, go_sem, -List.reduceReplicate, ↓L_gdZ_tt, ↓L_gdZ_tf, ↓L_gdZ_ft, ↓L_gdZ_ff, ↓T_and, ↓T_imp, ↓T_all, o1, o2, o3]; try simp only [top_out])
    refine lanes_ok G' xl s.ls _ _ h.app (by omega) (fun M1 z hz A1 => ?_)
    have m1 := A1.1
    simp only [List.length_append, List.length_cons, List.length_nil] at m1
    have oz := hz.one
    have a0 := A1.at0 noS rfl
    have a1 := A1.atk (k := 1) noS rfl
    have a2 := A1.atk (k := 2) noS rfl
    (refine top_in ?_; simp -implicitDefEqProofs only [go_sem, -List.reduceReplicate, ↓L_gdZ_tt, ↓L_gdZ_tf, ↓L_gdZ_ft, ↓L_gdZ_ff, ↓T_and, ↓T_imp, ↓T_all, a0, a1, a2, get_lt (kw a0), get_lt (kw a1), get_lt (kw a2), oz, cellsS_one oz, Int.reduceBEq, Int.reduceBNe]; try simp only [top_out])
    obtain ⟨MG, hMG⟩ : ∃ MG, M1 ++ [Blk.row [.sn, z] 27] = MG := ⟨_, rfl⟩
    have hlenG : MG.length = M1.length + 1 := by rw [← hMG]; simp
    have AG : Ag (fun _ => False) M1 MG := by rw [← hMG]; exact Ag.app
    have AG0 : Ag (fun _ => False) M MG := Ag.then Ag.app (A1.then AG)
    have G0 := AG.get a0 (fun e => e)
    have G1 := AG.get a1 (fun e => e)
    have G2' := AG.get a2 (fun e => e)
    have Gd : MG[M1.length]? = some (.row [.sn, z] 27) := by rw [← hMG, get_app0]; rfl
    rw [hMG]
    refine rgive_ok G G' G2 xp xl (⟨1, link, side, key, pfx⟩, xk) s MG _ (h.ag AG0 (fun _ _ _ e => e)) o3 (hc.ag AG0 (fun _ _ _ e => e)) hs (fun M2 R hR A2 => ?_)
    have m2 := A2.1
    have G0 := A2.get G0 (fun e => e)
    have G1 := A2.get G1 (fun e => e)
    have G2' := A2.get G2' (fun e => e)
    have Gd := A2.get Gd (fun e => e)
    have oR := hR.one
    have x0 : ∀ B : Blk, (M2.set M1.length B)[M.length]? = _ := fun B => (List.getElem?_set_ne (by omega)).trans G0
    have x1 : ∀ B : Blk, (M2.set M1.length B)[M.length + 1]? = _ := fun B => (List.getElem?_set_ne (by omega)).trans G1
    have x2 : ∀ B : Blk, (M2.set M1.length B)[M.length + 2]? = _ := fun B => (List.getElem?_set_ne (by omega)).trans G2'
    (refine top_in ?_; simp -implicitDefEqProofs only [go_sem, -List.reduceReplicate, ↓L_gdZ_tt, ↓L_gdZ_tf, ↓L_gdZ_ft, ↓L_gdZ_ff, ↓T_and, ↓T_imp, ↓T_all, G0, G1, G2', Gd, x0, x1, x2, oR, cellsS_one oR, Int.reduceBEq, Int.reduceBNe]; try simp only [top_out])
    clear x0 x1 x2
    obtain ⟨ML, hML⟩ : ∃ ML, M2.set M1.length (Blk.row [.sn, R] 27) = ML := ⟨_, rfl⟩
    have AL : Ag (fun n => n = M1.length) M2 ML := by rw [← hML]; exact Ag.set rfl
    have hlen : ML.length = M2.length := by rw [← hML]; simp
    have L0 := AL.get G0 (fun e => by omega)
    have L1 := AL.get G1 (fun e => by omega)
    have L2 := AL.get G2' (fun e => by omega)
    have Ld : ML[M1.length]? = some (.row [.sn, R] 27) := by rw [← hML]; exact List.getElem?_set_self (by omega)
    have hA0 : Ag (fun _ => False) M ML := ((AG0.then A2).mono (fun _ e => e.elim) |>.then AL).mono_lt (fun n h1 h2 => by omega)
    rw [hML]
    have hyz : ∀ M', Ag (fun n => n = M1.length ∨ ML.length ≤ n) ML M' → LnsO M' (M.length + 3) R (s.give ⟨1, link, side, key, pfx⟩) := fun M' A => (hR.ag ((AL.mono (fun n e => .inl e)).then A) (fun n h1 h2 h3 => by omega)).mono (by omega)
    obtain ⟨yl, hzyl⟩ : ∃ yl, R = yl := ⟨_, rfl⟩
    obtain ⟨d, hd⟩ : ∃ d, M1.length = d := ⟨_, rfl⟩
    rw [hzyl] at hyz Ld
    rw [hd] at Ld hyz
    have hyl : yl.one = true := hzyl ▸ oR
    rw [hd] at m1 hlenG
    rw [hd]
    clear hz hzyl hML hd AL a0 a1 a2 A1 oz hR oR hMG AG AG0 A2 G0 G1 G2' Gd
    refine loop_code tabOK (by kernel_rfl) (fun m ts M' => ∃ (k : Nat) (y : SV), k + m = s.ps.length ∧ DnSt ML M' yl y d ((insAt s.ps j ⟨link, key, []⟩).take (if j < k then k + 1 else k)) ∧ frC (none :: none :: some (.p M.length 0) :: some (.p (M.length + 1) 0) :: some (.p (M.length + 2) 0) :: some (.p d 0) :: some (.b (decide (j < k))) :: some (.i .i64 k) :: none :: none :: none :: none :: none :: none :: none :: none :: none :: none :: none :: none :: none :: none :: none :: none :: none :: none :: none :: none :: none :: none :: none :: none :: none :: none :: none :: none :: none :: none :: none :: none :: none :: none :: none :: none :: none :: none :: none :: none :: none :: none :: none :: none :: none :: none :: none :: none :: none :: none :: none :: none :: none :: none :: none :: none :: none :: none :: none :: none :: none :: none :: none :: none :: none :: none :: none :: none :: none :: none :: none :: none :: none :: none :: none :: none :: none :: none :: none :: none :: none :: none :: none :: none :: none :: none :: none :: none :: none :: none :: none :: none :: none :: []) ts) s.ps.length ?_ ?_
    · refine ⟨0, .sn, by omega, ⟨Ag.refl, Ld, by rw [if_neg (by omega)]; exact PrsO.sn⟩, by simp [frC]⟩
    · rintro m ts M3 ⟨k, y, hk, D, hf⟩
      have q0 := D.st L0 (by omega)
      have q1 := D.st L1 (by omega)
      have q2 := D.st L2 (by omega)
      have qd := D.row
      have hA3 : Ag (fun n => M.length ≤ n) M M3 := (hA0.mono (fun _ e => e.elim)).then (D.ag.mono (fun n e => by omega))
      have hm3 := hA3.1
      have hmD := D.ag.1
      have oy := D.acc.one
      have oyl := hyl
      obtain ⟨f, rfl⟩ := frC_open _ _ 0 hf
      clear hf
      (refine top_in ?_; simp -implicitDefEqProofs only [go_sem, -List.reduceReplicate, ↓L_gdZ_tt, ↓L_gdZ_tf, ↓L_gdZ_ft, ↓L_gdZ_ff, ↓T_and, ↓T_imp, ↓T_all, la, q0, q1]; try simp only [top_out])
      refine ⟨fun h1 => ?_, fun h1 => ?_⟩
      · have hkl : k < s.ps.length := by omega
        obtain ⟨nn, capp, e', rfl, l1', g1, g2, g3, g4, _⟩ := (hP.ag hA3 (fun n hn _ h => by omega)).at (k := k) (by omega)
        (refine top_in ?_; simp -implicitDefEqProofs only [go_sem, -List.reduceReplicate, ↓L_gdZ_tt, ↓L_gdZ_tf, ↓L_gdZ_ft, ↓L_gdZ_ff, ↓T_and, ↓T_imp, ↓T_all, q0, q1, g3]; try simp only [top_out])
        refine ⟨by omega, by omega, by omega, by omega, ?_⟩
        refine peer_ok G e' M3 _ g2 (by have := hpf _ (List.mem_of_getElem? g1); omega) (fun M4 yk yp b1 n1 b2 n2 A4 => ?_)
        have r0 := A4.get q0 (fun e => e)
        have r1 := A4.get q1 (fun e => e)
        have r2 := A4.get q2 (fun e => e)
        have rd := A4.get qd (fun e => e)
        have m4 := A4.1
        have o5 := b1.one
        have o6 := b2.one
        obtain ⟨q, xq, xr⟩ := e'
        simp only [prC]
        have hql : q.link ≠ link := hpn q (List.mem_of_getElem? g1)
        have hbq : (q.link == link) = false := by simpa using hql
        rcases Nat.lt_trichotomy j k with hjk | hjk | hjk
        · have hd : decide (j < k) = true := decide_eq_true hjk
          have hd2 : decide (j < k + 1) = true := decide_eq_true (by omega)
          have D := D
          rw [if_pos hjk] at D
          simp only [hd]
          (refine top_in ?_; simp -implicitDefEqProofs only [go_sem, -List.reduceReplicate, ↓L_gdZ_tt, ↓L_gdZ_tf, ↓L_gdZ_ft, ↓L_gdZ_ff, ↓T_and, ↓T_imp, ↓T_all, r0, r1, rd, get_lt (kw r0), get_lt (kw r1), get_lt (kw rd), o5, o6, oy, oyl, hbq, Int.reduceBEq, Int.reduceBNe]; try simp only [top_out])
          refine ⟨by decide, ?_⟩
          refine push_dn D (A4.then Ag.app) (by omega) q yk yp (by rw [get_app]; rfl) b1.app ((n1.and b1.dn).mono (fun n g => ⟨by omega, fun h => by have := D.acc.nm n h; omega⟩)) (b2.lst (by decide)).app ((n2.and b2.dn).mono (fun n g => ⟨by omega, fun h => by have := D.acc.nm n h; omega⟩)) (hlq _) (fun M6 s6 D6 t5 o10 _ _ => ?_)
          (refine top_in ?_; simp -implicitDefEqProofs only [go_sem, -List.reduceReplicate, ↓L_gdZ_tt, ↓L_gdZ_tf, ↓L_gdZ_ft, ↓L_gdZ_ff, ↓T_and, ↓T_imp, ↓T_all, t5, oy, oyl, o10, cellsS_one o10]; try simp only [top_out])
          refine ⟨m - 1, by omega, k + 1, s6, by omega, ?_, hd2.symm, w64 (by omega) (by omega)⟩
          rw [if_pos (by omega), take_snocS ((insAt_gt (by omega) f1).trans g1)]
          exact D6
        · subst hjk
          have hd : decide (j < j) = false := decide_eq_false (Nat.lt_irrefl _)
          have hd2 : decide (j < j + 1) = true := decide_eq_true (by omega)
          have D := D
          rw [if_neg (Nat.lt_irrefl _)] at D
          have hc2 : link < q.link := of_decide_eq_true (f3 q g1)
          simp only [hd]
          (refine top_in ?_; simp -implicitDefEqProofs only [go_sem, -List.reduceReplicate, ↓L_gdZ_tt, ↓L_gdZ_tf, ↓L_gdZ_ft, ↓L_gdZ_ff, ↓T_and, ↓T_imp, ↓T_all, r0, r1, rd, get_lt (kw r0), get_lt (kw r1), get_lt (kw rd), o5, o6, oy, oyl, hbq, Int.reduceBEq, Int.reduceBNe]; try simp only [top_out])
          refine ⟨fun _ => ?_, fun h2 => absurd hc2 h2⟩
          refine draw_rule tabOK (by kernel_rfl : _) (.p 0 (.p 1 (.p 2 (.p 3 (.p 4 (.p 5 (.e 6 [0, 1, 2, 3] (.p 7 (.e 8 [0, 1] (.e 9 [] (.p 10 (.e 11 [] .nil .no)) .no) .no)) .no))))))) (by kernel_rfl) (by kernel_rfl) ?_
          (refine top_in ?_; simp -implicitDefEqProofs only [go_sem, -List.reduceReplicate, ↓L_gdZ_tt, ↓L_gdZ_tf, ↓L_gdZ_ft, ↓L_gdZ_ff, ↓T_and, ↓T_imp, ↓T_all, r0, r1, rd, get_lt (kw r0), get_lt (kw r1), get_lt (kw rd), o5, o6, oy, oyl, hbq, Int.reduceBEq, Int.reduceBNe]; try simp only [top_out])
          have hkb : Byt (M4 ++ [Blk.row [.i .i64 q.link, yk, yp] 62]) xk key := ((hc.key.ag hA3 (fun d e h => by have := hc.key.dn d e; omega)).ag A4 (fun _ _ e => e)).app
          refine bytes_byt xk key _ _ hkb (fun M5 y3 b3 n3 A5 => ?_)
          have u0 := A5.get ((get_lt (kw r0)).trans r0) (fun e => e)
          have u1 := A5.get ((get_lt (kw r1)).trans r1) (fun e => e)
          have ud := A5.get ((get_lt (kw rd)).trans rd) (fun e => e)
          have uq := A5.at0 noS rfl
          have m5 := A5.1
          simp only [List.length_append, List.length_cons, List.length_nil] at m5 n3
          have o7 := b3.one
          (refine top_in ?_; simp -implicitDefEqProofs only [go_sem, -List.reduceReplicate, ↓L_gdZ_tt, ↓L_gdZ_tf, ↓L_gdZ_ft, ↓L_gdZ_ff, ↓T_and, ↓T_imp, ↓T_all, u0, u1, ud, uq, get_lt (kw u0), get_lt (kw u1), get_lt (kw ud), get_lt (kw uq), o6, o7, oy, oyl, cellsS_one o7]; try simp only [top_out])
          refine ⟨by decide, ?_⟩
          refine push_dn (r := M5.length) (MM := M5 ++ [.row [.i .i64 link, y3, .sn] 62]) D ((A4.then Ag.app).then (A5.then Ag.app)) (by omega) ⟨link, key, []⟩ y3 .sn (by rw [get_app0]; rfl) b3.app ((n3.and b3.dn).mono (fun n g => ⟨by omega, fun h => by have := D.acc.nm n h; omega⟩)) Lst.sn NmG.sn (hlq _) (fun M6 s6 D6 t5 o10 A9 n9 => ?_)
          have v0 := A9.get ((get_lt (kw u0)).trans u0) (fun e => by have := D.acc.nm _ e; omega)
          have v1 := A9.get ((get_lt (kw u1)).trans u1) (fun e => by have := D.acc.nm _ e; omega)
          have vq := A9.get ((get_lt (kw uq)).trans uq) (fun e => by have := D.acc.nm _ e; omega)
          have hdm : d ≠ M4.length := by have := kw rd; omega
          have x0 : ∀ B : Blk, (M6.set d B)[M.length]? = _ := fun B => (List.getElem?_set_ne (by omega)).trans v0
          have x1 : ∀ B : Blk, (M6.set d B)[M.length + 1]? = _ := fun B => (List.getElem?_set_ne (by omega)).trans v1
          have xq' : ∀ B : Blk, (M6.set d B)[M4.length]? = _ := fun B => (List.getElem?_set_ne hdm).trans vq
          have m6 := A9.1
          simp only [List.length_append, List.length_cons, List.length_nil] at m6
          have D6' := D6
          rw [← take_snocS (insAt_eq f1)] at D6'
          (refine top_in ?_; simp -implicitDefEqProofs only [go_sem, -List.reduceReplicate, ↓L_gdZ_tt, ↓L_gdZ_tf, ↓L_gdZ_ft, ↓L_gdZ_ff, ↓T_and, ↓T_imp, ↓T_all, v0, v1, vq, x0, x1, xq', t5, o5, o6, o10, oy, oyl, cellsS_one o10, gss0 (kw t5), hbq, Int.reduceBEq, Int.reduceBNe]; try simp only [top_out])
          refine ⟨by decide, ?_⟩
          have A8 : Ag (fun n => n = d) M6 (M6.set d (.row [s6, yl] 27)) := Ag.set rfl
          have hs6 : ∀ n, dnS s6 = some n → n = M5.length + 1 := fun n h => by have := n9 n h; simp at this; omega
          have bk : Byt (M6.set d (.row [s6, yl] 27)) yk q.key := (((b1.app.ag A5 (fun _ _ e => e)).app).ag A9 (fun n e h => by have := n1 n e; have := D.acc.nm n h; omega)).ag A8 (fun n e h => by have := n1 n e; omega)
          have bp : Pxs (M6.set d (.row [s6, yl] 27)) yp q.pfx := ((((b2.lst (by decide)).app.ag A5 (fun _ _ e => e)).app).ag A9 (fun n e h => by have := n2 n e; have := D.acc.nm n h; omega)).ag A8 (fun n e h => by have := n2 n e; omega)
          refine push_dn (r := M6.length) (MM := M6.set d (.row [s6, yl] 27) ++ [.row [.i .i64 q.link, yk, yp] 62]) D6' Ag.app (by omega) q yk yp (by rw [get_sapp0]; rfl) bk.app ((n1.and b1.dn).mono (fun n g => ⟨by omega, fun h => by have := hs6 n h; omega⟩)) (Lst.app bp) ((n2.and b2.dn).mono (fun n g => ⟨by omega, fun h => by have := hs6 n h; omega⟩)) (hlq _) (fun M7 s7 D7 t7 o11 _ _ => ?_)
          (refine top_in ?_; simp -implicitDefEqProofs only [go_sem, -List.reduceReplicate, ↓L_gdZ_tt, ↓L_gdZ_tf, ↓L_gdZ_ft, ↓L_gdZ_ff, ↓T_and, ↓T_imp, ↓T_all, t7, oyl, o11, cellsS_one o11]; try simp only [top_out])
          refine ⟨m - 1, by omega, j + 1, s7, by omega, ?_, hd2.symm, w64 (by omega) (by omega)⟩
          rw [if_pos (by omega), take_snocS ((insAt_gt (Nat.le_refl _) f1).trans g1)]
          exact D7
        · have hd : decide (j < k) = false := decide_eq_false (by omega)
          have hd2 : decide (j < k + 1) = false := decide_eq_false (by omega)
          have D := D
          rw [if_neg (by omega)] at D
          have hc2 : ¬ link < q.link := of_decide_eq_false (f2 k q hjk g1)
          simp only [hd]
          (refine top_in ?_; simp -implicitDefEqProofs only [go_sem, -List.reduceReplicate, ↓L_gdZ_tt, ↓L_gdZ_tf, ↓L_gdZ_ft, ↓L_gdZ_ff, ↓T_and, ↓T_imp, ↓T_all, r0, r1, rd, get_lt (kw r0), get_lt (kw r1), get_lt (kw rd), o5, o6, oy, oyl, hbq, Int.reduceBEq, Int.reduceBNe]; try simp only [top_out])
          refine ⟨fun h2 => absurd h2 hc2, fun _ => ⟨by decide, ?_⟩⟩
          refine push_dn D (A4.then Ag.app) (by omega) q yk yp (by rw [get_app]; rfl) b1.app ((n1.and b1.dn).mono (fun n g => ⟨by omega, fun h => by have := D.acc.nm n h; omega⟩)) (b2.lst (by decide)).app ((n2.and b2.dn).mono (fun n g => ⟨by omega, fun h => by have := D.acc.nm n h; omega⟩)) (hlq _) (fun M6 s6 D6 t5 o10 _ _ => ?_)
          (refine top_in ?_; simp -implicitDefEqProofs only [go_sem, -List.reduceReplicate, ↓L_gdZ_tt, ↓L_gdZ_tf, ↓L_gdZ_ft, ↓L_gdZ_ff, ↓T_and, ↓T_imp, ↓T_all, t5, oy, oyl, o10, cellsS_one o10]; try simp only [top_out])
          refine ⟨m - 1, by omega, k + 1, s6, by omega, ?_, hd2.symm, w64 (by omega) (by omega)⟩
          rw [if_neg (by omega), take_snocS ((insAt_lt hjk f1).trans g1)]
          exact D6
      · obtain rfl : k = s.ps.length := by omega
        refine ⟨fun h2 => ?_, fun h2 => ?_⟩
        · have hjl : j = s.ps.length := by simp at h2; omega
          have D := D
          rw [if_neg (by omega)] at D
          refine draw_rule tabOK (by kernel_rfl : _) (.p 0 (.p 1 (.p 2 (.p 3 (.p 4 (.p 5 (.e 6 [0, 1, 2, 3] (.p 7 (.e 8 [0, 1] (.e 9 [] (.p 10 (.e 11 [] .nil .no)) .no) .no)) .no))))))) (by kernel_rfl) (by kernel_rfl) ?_
          (refine top_in ?_; simp -implicitDefEqProofs only [go_sem, -List.reduceReplicate, ↓L_gdZ_tt, ↓L_gdZ_tf, ↓L_gdZ_ft, ↓L_gdZ_ff, ↓T_and, ↓T_imp, ↓T_all, q0, q1, qd, oy, oyl]; try simp only [top_out])
          have hkb : Byt M3 xk key := hc.key.ag hA3 (fun d e h => by have := hc.key.dn d e; omega)
          refine bytes_byt xk key _ _ hkb (fun M5 y3 b3 n3 A5 => ?_)
          have u1 := A5.get q1 (fun e => e)
          have u2 := A5.get q2 (fun e => e)
          have ud := A5.get qd (fun e => e)
          have m5 := A5.1
          have o7 := b3.one
          (refine top_in ?_; simp -implicitDefEqProofs only [go_sem, -List.reduceReplicate, ↓L_gdZ_tt, ↓L_gdZ_tf, ↓L_gdZ_ft, ↓L_gdZ_ff, ↓T_and, ↓T_imp, ↓T_all, u1, ud, get_lt (kw u1), get_lt (kw ud), o7, oy, oyl, cellsS_one o7]; try simp only [top_out])
          refine ⟨by decide, ?_⟩
          refine push_dn (r := M5.length) (MM := M5 ++ [.row [.i .i64 link, y3, .sn] 62]) D (A5.then Ag.app) (by omega) ⟨link, key, []⟩ y3 .sn (by rw [get_app0]; rfl) b3.app ((n3.and b3.dn).mono (fun n g => ⟨by omega, fun h => by have := D.acc.nm n h; omega⟩)) Lst.sn NmG.sn (hlq _) (fun M6 s6 D6 t5 o10 A9 n9 => ?_)
          have v1 := A9.get ((get_lt (kw u1)).trans u1) (fun e => by have := D.acc.nm _ e; omega)
          have v2 := A9.get ((get_lt (kw u2)).trans u2) (fun e => by have := D.acc.nm _ e; omega)
          have x2 : ∀ B : Blk, (M6.set d B)[M.length + 2]? = _ := fun B => (List.getElem?_set_ne (by omega)).trans v2
          have m6 := A9.1
          simp only [List.length_append, List.length_cons, List.length_nil] at m6
          rw [← take_snocS (by rw [← hjl]; exact insAt_eq f1), List.take_of_length_le (by omega)] at D6
          (refine top_in ?_; simp -implicitDefEqProofs only [go_sem, -List.reduceReplicate, ↓L_gdZ_tt, ↓L_gdZ_tf, ↓L_gdZ_ft, ↓L_gdZ_ff, ↓T_and, ↓T_imp, ↓T_all, v1, v2, x2, t5, o10, oy, oyl, cellsS_one o10, gss0 (kw t5), gss (kw v2)]; try simp only [top_out])
          obtain ⟨MX, hMX⟩ : ∃ MX, M6.set d (Blk.row [s6, yl] 27) = MX := ⟨_, rfl⟩
          rw [hMX] at D6
          rw [hMX]
          have hAX : Ag (fun n => M.length ≤ n) M MX := (hA0.mono (fun _ e => e.elim)).then (D6.ag.mono (fun n e => by omega))
          have hmX := D6.ag.1
          have A7 : Ag (fun n => n = M.length + 2) MX (MX.set (M.length + 2) (.row [s6, yl] 27)) := Ag.set rfl
          refine dropC_all (by simp; omega) (hK _ s6 yl ((D6.acc.ag A7 (fun n h1 h2 h3 => by omega)).mono (by omega)) ?_ ((hAX.then (A7.mono (fun n e => by omega))).mono_lt (fun n h1 h2 => by omega)))
          exact ((hyz MX D6.ag).ag A7 (fun n h1 h2 h3 => by omega)).mono (by omega)
        · have hjl : j < s.ps.length := by simpa using h2
          have D := D
          rw [if_pos hjl, List.take_of_length_le (by omega)] at D
          (refine top_in ?_; simp -implicitDefEqProofs only [go_sem, -List.reduceReplicate, ↓L_gdZ_tt, ↓L_gdZ_tf, ↓L_gdZ_ft, ↓L_gdZ_ff, ↓T_and, ↓T_imp, ↓T_all, q2, qd, oy, oyl, gss0 (kw q2)]; try simp only [top_out])
          have A7 : Ag (fun n => n = M.length + 2) M3 (M3.set (M.length + 2) (.row [y, yl] 27)) := Ag.set rfl
          have hacc := D.acc
          refine dropC_all (by simp; omega) (hK _ y yl ((hacc.ag A7 (fun n h1 h2 h3 => by omega)).mono (by omega)) ?_ ((hA3.then (A7.mono (fun n e => by omega))).mono_lt (fun n h1 h2 => by omega)))
          exact ((hyz M3 D.ag).ag A7 (fun n h1 h2 h3 => by omega)).mono (by omega)
  · have hd : s.done ⟨2, link, side, key, pfx⟩ = ⟨s.ps.filter fun p => decide (p.link ≠ link), s.ls⟩ := by unfold St.done; rw [if_neg (show ¬ (2 : Int) = 1 by decide), if_pos rfl]
    rw [hd] at hK
    refine fn_rule tabOK Tryz.func34 rfl Tryz.call34 (by kernel_rfl) (fun hM => ?_)
    (refine top_in ?_; simp -implicitDefEqProofs only [Tryz.ntmps34, Tryz.results34, go_sem, -List.reduceReplicate, ↓L_gdZ_tt, ↓L_gdZ_tf, ↓L_gdZ_ft, ↓L_gdZ_ff, ↓T_and, ↓T_imp, ↓T_all, o1, o2, o3]; try simp only [top_out])
    refine lanes_ok G' xl s.ls _ _ h.app (by omega) (fun M1 z hz A1 => ?_)
    have m1 := A1.1
    simp only [List.length_append, List.length_cons, List.length_nil] at m1
    have oz := hz.one
    have a0 := A1.at0 noS rfl
    have a1 := A1.atk (k := 1) noS rfl
    have a2 := A1.atk (k := 2) noS rfl
    (refine top_in ?_; simp -implicitDefEqProofs only [go_sem, -List.reduceReplicate, ↓L_gdZ_tt, ↓L_gdZ_tf, ↓L_gdZ_ft, ↓L_gdZ_ff, ↓T_and, ↓T_imp, ↓T_all, a0, a1, a2, get_lt (kw a0), get_lt (kw a1), get_lt (kw a2), oz, cellsS_one oz, Int.reduceBEq, Int.reduceBNe]; try simp only [top_out])
    obtain ⟨ML, hML⟩ : ∃ ML, M1 ++ [Blk.row [.sn, z] 27] = ML := ⟨_, rfl⟩
    have hlen : ML.length = M1.length + 1 := by rw [← hML]; simp
    have AL : Ag (fun _ => False) M1 ML := by rw [← hML]; exact Ag.app
    have L0 := AL.get a0 (fun e => e)
    have L1 := AL.get a1 (fun e => e)
    have L2 := AL.get a2 (fun e => e)
    have Ld : ML[M1.length]? = some (.row [.sn, z] 27) := by rw [← hML, get_app0]; rfl
    have hA0 : Ag (fun _ => False) M ML := Ag.then Ag.app (A1.then AL)
    rw [hML]
    have hyz : ∀ M', Ag (fun n => n = M1.length ∨ ML.length ≤ n) ML M' → LnsO M' (M.length + 3) z s.ls := fun M' A => (hz.ag (AL.mono (fun _ e => e.elim) |>.then A) (fun n h1 h2 h3 => by omega)).mono (by simp only [List.length_append, List.length_cons, List.length_nil]; omega)
    obtain ⟨yl, hzyl⟩ : ∃ yl, z = yl := ⟨_, rfl⟩
    obtain ⟨d, hd⟩ : ∃ d, M1.length = d := ⟨_, rfl⟩
    rw [hzyl] at hyz Ld
    rw [hd] at Ld hyz
    have hyl : yl.one = true := hzyl ▸ oz
    rw [hd] at m1 hlen
    rw [hd]
    clear hz hzyl hML hd AL a0 a1 a2 A1 oz
    refine loop_code tabOK (by kernel_rfl) (fun m ts M' => ∃ (k : Nat) (y : SV), k + m = s.ps.length ∧ DnSt ML M' yl y d ((s.ps.take k).filter fun p => decide (p.link ≠ link)) ∧ frC (none :: none :: some (.p M.length 0) :: some (.p (M.length + 1) 0) :: some (.p (M.length + 2) 0) :: some (.p d 0) :: some (.b (true)) :: some (.i .i64 k) :: none :: none :: none :: none :: none :: none :: none :: none :: none :: none :: none :: none :: none :: none :: none :: none :: none :: none :: none :: none :: none :: none :: none :: none :: none :: none :: none :: none :: none :: none :: none :: none :: none :: none :: none :: none :: none :: none :: none :: none :: none :: none :: none :: none :: none :: none :: none :: none :: none :: none :: none :: none :: none :: none :: none :: none :: none :: none :: none :: none :: none :: none :: none :: none :: none :: none :: none :: none :: none :: none :: none :: none :: none :: none :: none :: none :: none :: none :: none :: none :: none :: none :: none :: none :: none :: none :: none :: none :: none :: none :: none :: none :: none :: []) ts) s.ps.length ?_ ?_
    · refine ⟨0, .sn, by omega, ⟨Ag.refl, Ld, PrsO.sn⟩, by simp [frC]⟩
    · rintro m ts M3 ⟨k, y, hk, D, hf⟩
      have q0 := D.st L0 (by omega)
      have q1 := D.st L1 (by omega)
      have q2 := D.st L2 (by omega)
      have qd := D.row
      have hA3 : Ag (fun n => M.length ≤ n) M M3 := (hA0.mono (fun _ e => e.elim)).then (D.ag.mono (fun n e => by omega))
      have hm3 := hA3.1
      have hmD := D.ag.1
      have oy := D.acc.one
      have oyl := hyl
      obtain ⟨f, rfl⟩ := frC_open _ _ 0 hf
      clear hf
      (refine top_in ?_; simp -implicitDefEqProofs only [go_sem, -List.reduceReplicate, ↓L_gdZ_tt, ↓L_gdZ_tf, ↓L_gdZ_ft, ↓L_gdZ_ff, ↓T_and, ↓T_imp, ↓T_all, la, q0, q1]; try simp only [top_out])
      refine ⟨fun h1 => ?_, fun h1 => ?_⟩
      · obtain ⟨nn, capp, e', rfl, l1', g1, g2, g3, g4, _⟩ := (hP.ag hA3 (fun n hn _ h => by omega)).at (k := k) (by omega)
        (refine top_in ?_; simp -implicitDefEqProofs only [go_sem, -List.reduceReplicate, ↓L_gdZ_tt, ↓L_gdZ_tf, ↓L_gdZ_ft, ↓L_gdZ_ff, ↓T_and, ↓T_imp, ↓T_all, q0, q1, g3]; try simp only [top_out])
        refine ⟨by omega, by omega, by omega, by omega, ?_⟩
        refine peer_ok G e' M3 _ g2 (by have := hpf _ (List.mem_of_getElem? g1); omega) (fun M4 yk yp b1 n1 b2 n2 A4 => ?_)
        have r0 := A4.get q0 (fun e => e)
        have r1 := A4.get q1 (fun e => e)
        have r2 := A4.get q2 (fun e => e)
        have rd := A4.get qd (fun e => e)
        have m4 := A4.1
        have o5 := b1.one
        have o6 := b2.one
        obtain ⟨q, xq, xr⟩ := e'
        simp only [prC]
        (refine top_in ?_; simp -implicitDefEqProofs only [go_sem, -List.reduceReplicate, ↓L_gdZ_tt, ↓L_gdZ_tf, ↓L_gdZ_ft, ↓L_gdZ_ff, ↓T_and, ↓T_imp, ↓T_all, r0, r1, rd, get_lt (kw r0), get_lt (kw r1), get_lt (kw rd), o5, o6, oy, oyl, Int.reduceBEq, Int.reduceBNe]; try simp only [top_out])
        refine ⟨fun h2 => ⟨m - 1, by omega, k + 1, y, by omega, ?_, w64 (by omega) (by omega)⟩, fun h2 => ⟨by decide, ?_⟩⟩
        · rw [take_snocS g1, List.filter_append, List.filter_cons, if_neg (by simpa using beqT h2), List.filter_nil, List.append_nil]
          exact D.step (A4.then Ag.app)
        · refine push_dn D (A4.then Ag.app) (by omega) q yk yp (by rw [get_app]; rfl) b1.app ((n1.and b1.dn).mono (fun n g => ⟨by omega, fun h => by have := D.acc.nm n h; omega⟩)) (b2.lst (by decide)).app ((n2.and b2.dn).mono (fun n g => ⟨by omega, fun h => by have := D.acc.nm n h; omega⟩)) (by have := List.length_filter_le (fun p : Pr => decide (p.link ≠ link)) (s.ps.take k); simp only [List.length_take] at this; omega) (fun M6 s6 D6 t5 o10 _ _ => ?_)
          (refine top_in ?_; simp -implicitDefEqProofs only [go_sem, -List.reduceReplicate, ↓L_gdZ_tt, ↓L_gdZ_tf, ↓L_gdZ_ft, ↓L_gdZ_ff, ↓T_and, ↓T_imp, ↓T_all, t5, oy, oyl, o10, cellsS_one o10]; try simp only [top_out])
          refine ⟨m - 1, by omega, k + 1, s6, by omega, ?_, w64 (by omega) (by omega)⟩
          rw [take_snocS g1, List.filter_append, List.filter_cons, if_pos (by simpa using beqF h2), List.filter_nil]
          exact D6
      · obtain rfl : k = s.ps.length := by omega
        (refine top_in ?_; simp -implicitDefEqProofs only [go_sem, -List.reduceReplicate, ↓L_gdZ_tt, ↓L_gdZ_tf, ↓L_gdZ_ft, ↓L_gdZ_ff, ↓T_and, ↓T_imp, ↓T_all, q2, qd, oy, oyl, gss0 (kw q2)]; try simp only [top_out])
        have A7 : Ag (fun n => n = M.length + 2) M3 (M3.set (M.length + 2) (.row [y, yl] 27)) := Ag.set rfl
        have hacc := D.acc
        rw [List.take_length] at hacc
        refine dropC_all (by simp; omega) (hK _ y yl ((hacc.ag A7 (fun n h1 h2 h3 => by omega)).mono (by omega)) ?_ ((hA3.then (A7.mono (fun n e => by omega))).mono_lt (fun n h1 h2 => by omega)))
        exact ((hyz M3 D.ag).ag A7 (fun n h1 h2 h3 => by omega)).mono (by omega)
  · have hd : s.done ⟨3, link, side, key, pfx⟩ = ⟨s.ps.map fun p => if p.link = link then { p with key := key } else p, s.give ⟨3, link, side, key, pfx⟩⟩ := by unfold St.done; rw [if_neg (show ¬ (3 : Int) = 1 by decide), if_neg (show ¬ (3 : Int) = 2 by decide), if_pos rfl]
    rw [hd] at hK
    refine fn_rule tabOK Tryz.func34 rfl Tryz.call34 (by kernel_rfl) (fun hM => ?_)
    (refine top_in ?_; simp -implicitDefEqProofs only [Tryz.ntmps34, Tryz.results34, go_sem, -List.reduceReplicate, ↓L_gdZ_tt, ↓L_gdZ_tf, ↓L_gdZ_ft, ↓L_gdZ_ff, ↓T_and, ↓T_imp, ↓T_all, o1, o2, o3]; try simp only [top_out])
    refine lanes_ok G' xl s.ls _ _ h.app (by omega) (fun M1 z hz A1 => ?_)
    have m1 := A1.1
    simp only [List.length_append, List.length_cons, List.length_nil] at m1
    have oz := hz.one
    have a0 := A1.at0 noS rfl
    have a1 := A1.atk (k := 1) noS rfl
    have a2 := A1.atk (k := 2) noS rfl
    (refine top_in ?_; simp -implicitDefEqProofs only [go_sem, -List.reduceReplicate, ↓L_gdZ_tt, ↓L_gdZ_tf, ↓L_gdZ_ft, ↓L_gdZ_ff, ↓T_and, ↓T_imp, ↓T_all, a0, a1, a2, get_lt (kw a0), get_lt (kw a1), get_lt (kw a2), oz, cellsS_one oz, Int.reduceBEq, Int.reduceBNe]; try simp only [top_out])
    obtain ⟨MG, hMG⟩ : ∃ MG, M1 ++ [Blk.row [.sn, z] 27] = MG := ⟨_, rfl⟩
    have hlenG : MG.length = M1.length + 1 := by rw [← hMG]; simp
    have AG : Ag (fun _ => False) M1 MG := by rw [← hMG]; exact Ag.app
    have AG0 : Ag (fun _ => False) M MG := Ag.then Ag.app (A1.then AG)
    have G0 := AG.get a0 (fun e => e)
    have G1 := AG.get a1 (fun e => e)
    have G2' := AG.get a2 (fun e => e)
    have Gd : MG[M1.length]? = some (.row [.sn, z] 27) := by rw [← hMG, get_app0]; rfl
    rw [hMG]
    refine rgive_ok G G' G2 xp xl (⟨3, link, side, key, pfx⟩, xk) s MG _ (h.ag AG0 (fun _ _ _ e => e)) o3 (hc.ag AG0 (fun _ _ _ e => e)) hs (fun M2 R hR A2 => ?_)
    have m2 := A2.1
    have G0 := A2.get G0 (fun e => e)
    have G1 := A2.get G1 (fun e => e)
    have G2' := A2.get G2' (fun e => e)
    have Gd := A2.get Gd (fun e => e)
    have oR := hR.one
    have x0 : ∀ B : Blk, (M2.set M1.length B)[M.length]? = _ := fun B => (List.getElem?_set_ne (by omega)).trans G0
    have x1 : ∀ B : Blk, (M2.set M1.length B)[M.length + 1]? = _ := fun B => (List.getElem?_set_ne (by omega)).trans G1
    have x2 : ∀ B : Blk, (M2.set M1.length B)[M.length + 2]? = _ := fun B => (List.getElem?_set_ne (by omega)).trans G2'
    (refine top_in ?_; simp -implicitDefEqProofs only [go_sem, -List.reduceReplicate, ↓L_gdZ_tt, ↓L_gdZ_tf, ↓L_gdZ_ft, ↓L_gdZ_ff, ↓T_and, ↓T_imp, ↓T_all, G0, G1, G2', Gd, x0, x1, x2, oR, cellsS_one oR, Int.reduceBEq, Int.reduceBNe]; try simp only [top_out])
    clear x0 x1 x2
    obtain ⟨ML, hML⟩ : ∃ ML, M2.set M1.length (Blk.row [.sn, R] 27) = ML := ⟨_, rfl⟩
    have AL : Ag (fun n => n = M1.length) M2 ML := by rw [← hML]; exact Ag.set rfl
    have hlen : ML.length = M2.length := by rw [← hML]; simp
    have L0 := AL.get G0 (fun e => by omega)
    have L1 := AL.get G1 (fun e => by omega)
    have L2 := AL.get G2' (fun e => by omega)
    have Ld : ML[M1.length]? = some (.row [.sn, R] 27) := by rw [← hML]; exact List.getElem?_set_self (by omega)
    have hA0 : Ag (fun _ => False) M ML := ((AG0.then A2).mono (fun _ e => e.elim) |>.then AL).mono_lt (fun n h1 h2 => by omega)
    rw [hML]
    have hyz : ∀ M', Ag (fun n => n = M1.length ∨ ML.length ≤ n) ML M' → LnsO M' (M.length + 3) R (s.give ⟨3, link, side, key, pfx⟩) := fun M' A => (hR.ag ((AL.mono (fun n e => .inl e)).then A) (fun n h1 h2 h3 => by omega)).mono (by omega)
    obtain ⟨yl, hzyl⟩ : ∃ yl, R = yl := ⟨_, rfl⟩
    obtain ⟨d, hd⟩ : ∃ d, M1.length = d := ⟨_, rfl⟩
    rw [hzyl] at hyz Ld
    rw [hd] at Ld hyz
    have hyl : yl.one = true := hzyl ▸ oR
    rw [hd] at m1 hlenG
    rw [hd]
    clear hz hzyl hML hd AL a0 a1 a2 A1 oz hR oR hMG AG AG0 A2 G0 G1 G2' Gd
    refine loop_code tabOK (by kernel_rfl) (fun m ts M' => ∃ (k : Nat) (y : SV), k + m = s.ps.length ∧ DnSt ML M' yl y d ((s.ps.take k).map fun p => if p.link = link then { p with key := key } else p) ∧ frC (none :: none :: some (.p M.length 0) :: some (.p (M.length + 1) 0) :: some (.p (M.length + 2) 0) :: some (.p d 0) :: some (.b (true)) :: some (.i .i64 k) :: none :: none :: none :: none :: none :: none :: none :: none :: none :: none :: none :: none :: none :: none :: none :: none :: none :: none :: none :: none :: none :: none :: none :: none :: none :: none :: none :: none :: none :: none :: none :: none :: none :: none :: none :: none :: none :: none :: none :: none :: none :: none :: none :: none :: none :: none :: none :: none :: none :: none :: none :: none :: none :: none :: none :: none :: none :: none :: none :: none :: none :: none :: none :: none :: none :: none :: none :: none :: none :: none :: none :: none :: none :: none :: none :: none :: none :: none :: none :: none :: none :: none :: none :: none :: none :: none :: none :: none :: none :: none :: none :: none :: none :: []) ts) s.ps.length ?_ ?_
    · refine ⟨0, .sn, by omega, ⟨Ag.refl, Ld, PrsO.sn⟩, by simp [frC]⟩
    · rintro m ts M3 ⟨k, y, hk, D, hf⟩
      have q0 := D.st L0 (by omega)
      have q1 := D.st L1 (by omega)
      have q2 := D.st L2 (by omega)
      have qd := D.row
      have hA3 : Ag (fun n => M.length ≤ n) M M3 := (hA0.mono (fun _ e => e.elim)).then (D.ag.mono (fun n e => by omega))
      have hm3 := hA3.1
      have hmD := D.ag.1
      have oy := D.acc.one
      have oyl := hyl
      obtain ⟨f, rfl⟩ := frC_open _ _ 0 hf
      clear hf
      (refine top_in ?_; simp -implicitDefEqProofs only [go_sem, -List.reduceReplicate, ↓L_gdZ_tt, ↓L_gdZ_tf, ↓L_gdZ_ft, ↓L_gdZ_ff, ↓T_and, ↓T_imp, ↓T_all, la, q0, q1]; try simp only [top_out])
      refine ⟨fun h1 => ?_, fun h1 => ?_⟩
      · obtain ⟨nn, capp, e', rfl, l1', g1, g2, g3, g4, _⟩ := (hP.ag hA3 (fun n hn _ h => by omega)).at (k := k) (by omega)
        (refine top_in ?_; simp -implicitDefEqProofs only [go_sem, -List.reduceReplicate, ↓L_gdZ_tt, ↓L_gdZ_tf, ↓L_gdZ_ft, ↓L_gdZ_ff, ↓T_and, ↓T_imp, ↓T_all, q0, q1, g3]; try simp only [top_out])
        refine ⟨by omega, by omega, by omega, by omega, ?_⟩
        refine peer_ok G e' M3 _ g2 (by have := hpf _ (List.mem_of_getElem? g1); omega) (fun M4 yk yp b1 n1 b2 n2 A4 => ?_)
        have r0 := A4.get q0 (fun e => e)
        have r1 := A4.get q1 (fun e => e)
        have r2 := A4.get q2 (fun e => e)
        have rd := A4.get qd (fun e => e)
        have m4 := A4.1
        have o5 := b1.one
        have o6 := b2.one
        obtain ⟨q, xq, xr⟩ := e'
        simp only [prC]
        (refine top_in ?_; simp -implicitDefEqProofs only [go_sem, -List.reduceReplicate, ↓L_gdZ_tt, ↓L_gdZ_tf, ↓L_gdZ_ft, ↓L_gdZ_ff, ↓T_and, ↓T_imp, ↓T_all, r0, r1, rd, get_lt (kw r0), get_lt (kw r1), get_lt (kw rd), o5, o6, oy, oyl, Int.reduceBEq, Int.reduceBNe]; try simp only [top_out])
        refine ⟨fun h2 => ?_, fun h2 => ⟨by decide, ?_⟩⟩
        · have hkb : Byt (M4 ++ [Blk.row [.i .i64 q.link, yk, yp] 62]) xk key := ((hc.key.ag hA3 (fun d e h => by have := hc.key.dn d e; omega)).ag A4 (fun _ _ e => e)).app
          refine bytes_byt xk key _ _ hkb (fun M5 y3 b3 n3 A5 => ?_)
          have u0 := A5.get ((get_lt (kw r0)).trans r0) (fun e => e)
          have u1 := A5.get ((get_lt (kw r1)).trans r1) (fun e => e)
          have ud := A5.get ((get_lt (kw rd)).trans rd) (fun e => e)
          have uq := A5.at0 noS rfl
          have m5 := A5.1
          simp only [List.length_append, List.length_cons, List.length_nil] at m5 n3
          have o7 := b3.one
          have hdm : d ≠ M4.length := by have := kw rd; omega
          have hsd : ∀ B : Blk, (M5.set M4.length B)[d]? = some (.row [y, yl] 27) := fun B => by rw [List.getElem?_set_ne (Ne.symm hdm)]; exact ud
          (refine top_in ?_; simp -implicitDefEqProofs only [go_sem, -List.reduceReplicate, ↓L_gdZ_tt, ↓L_gdZ_tf, ↓L_gdZ_ft, ↓L_gdZ_ff, ↓T_and, ↓T_imp, ↓T_all, u0, u1, ud, uq, o6, o7, cellsS_one o7, gss0 (kw uq), hsd]; try simp only [top_out])
          refine ⟨by decide, ?_⟩
          have A5' : Ag (fun _ => False) M3 (M5.set M4.length (.row [.i .i64 q.link, y3, yp] 62)) := (((A4.then Ag.app).then A5).mono (fun _ e => e.elim) |>.then (Ag.set (S := fun n => n = M4.length) rfl)).mono_lt (fun n h1 h2 => by omega)
          have A6' : Ag (fun n => n = M4.length) M5 (M5.set M4.length (.row [.i .i64 q.link, y3, yp] 62)) := Ag.set rfl
          refine push_dn (r := M5.length) (MM := M5.set M4.length (.row [.i .i64 q.link, y3, yp] 62) ++ [.row [.i .i64 q.link, y3, yp] 62]) D (A5'.then Ag.app) (by omega) { q with key := key } y3 yp (by rw [get_sapp0]; rfl) ((b3.ag A6' (fun d e h => by have := n3 d e; omega)).app) ((n3.and b3.dn).mono (fun n g => ⟨by omega, fun h => by have := D.acc.nm n h; omega⟩)) ((((b2.lst (by decide)).app.ag A5 (fun _ _ e => e)).ag A6' (fun d e h => by have := b2.dn d e; omega)).app) ((n2.and b2.dn).mono (fun n g => ⟨by omega, fun h => by have := D.acc.nm n h; omega⟩)) (by simp only [List.length_map, List.length_take]; omega) (fun M6 s6 D6 t5 o10 _ _ => ?_)
          (refine top_in ?_; simp -implicitDefEqProofs only [go_sem, -List.reduceReplicate, ↓L_gdZ_tt, ↓L_gdZ_tf, ↓L_gdZ_ft, ↓L_gdZ_ff, ↓T_and, ↓T_imp, ↓T_all, t5, oy, oyl, o10, cellsS_one o10]; try simp only [top_out])
          refine ⟨m - 1, by omega, k + 1, s6, by omega, ?_, w64 (by omega) (by omega)⟩
          rw [take_snocS g1, List.map_append, List.map_cons, List.map_nil, if_pos (beqT h2)]
          exact D6
        · refine push_dn D (A4.then Ag.app) (by omega) q yk yp (by rw [get_app]; rfl) b1.app ((n1.and b1.dn).mono (fun n g => ⟨by omega, fun h => by have := D.acc.nm n h; omega⟩)) (b2.lst (by decide)).app ((n2.and b2.dn).mono (fun n g => ⟨by omega, fun h => by have := D.acc.nm n h; omega⟩)) (by simp only [List.length_map, List.length_take]; omega) (fun M6 s6 D6 t5 o10 _ _ => ?_)
          (refine top_in ?_; simp -implicitDefEqProofs only [go_sem, -List.reduceReplicate, ↓L_gdZ_tt, ↓L_gdZ_tf, ↓L_gdZ_ft, ↓L_gdZ_ff, ↓T_and, ↓T_imp, ↓T_all, t5, oy, oyl, o10, cellsS_one o10]; try simp only [top_out])
          refine ⟨m - 1, by omega, k + 1, s6, by omega, ?_, w64 (by omega) (by omega)⟩
          rw [take_snocS g1, List.map_append, List.map_cons, List.map_nil, if_neg (beqF h2)]
          exact D6
      · obtain rfl : k = s.ps.length := by omega
        (refine top_in ?_; simp -implicitDefEqProofs only [go_sem, -List.reduceReplicate, ↓L_gdZ_tt, ↓L_gdZ_tf, ↓L_gdZ_ft, ↓L_gdZ_ff, ↓T_and, ↓T_imp, ↓T_all, q2, qd, oy, oyl, gss0 (kw q2)]; try simp only [top_out])
        have A7 : Ag (fun n => n = M.length + 2) M3 (M3.set (M.length + 2) (.row [y, yl] 27)) := Ag.set rfl
        have hacc := D.acc
        rw [List.take_length] at hacc
        refine dropC_all (by simp; omega) (hK _ y yl ((hacc.ag A7 (fun n h1 h2 h3 => by omega)).mono (by omega)) ?_ ((hA3.then (A7.mono (fun n e => by omega))).mono_lt (fun n h1 h2 => by omega)))
        exact ((hyz M3 D.ag).ag A7 (fun n h1 h2 h3 => by omega)).mono (by omega)
  · have hd : s.done ⟨4, link, side, key, pfx⟩ = ⟨s.ps.map fun p => if p.link = link then { p with pfx := withP p.pfx ⟨4, link, side, key, pfx⟩ } else p, s.ls⟩ := by unfold St.done; rw [if_neg (show ¬ (4 : Int) = 1 by decide), if_neg (show ¬ (4 : Int) = 2 by decide), if_neg (show ¬ (4 : Int) = 3 by decide)]
    rw [hd] at hK
    refine fn_rule tabOK Tryz.func34 rfl Tryz.call34 (by kernel_rfl) (fun hM => ?_)
    (refine top_in ?_; simp -implicitDefEqProofs only [Tryz.ntmps34, Tryz.results34, go_sem, -List.reduceReplicate, ↓L_gdZ_tt, ↓L_gdZ_tf, ↓L_gdZ_ft, ↓L_gdZ_ff, ↓T_and, ↓T_imp, ↓T_all, o1, o2, o3]; try simp only [top_out])
    refine lanes_ok G' xl s.ls _ _ h.app (by omega) (fun M1 z hz A1 => ?_)
    have m1 := A1.1
    simp only [List.length_append, List.length_cons, List.length_nil] at m1
    have oz := hz.one
    have a0 := A1.at0 noS rfl
    have a1 := A1.atk (k := 1) noS rfl
    have a2 := A1.atk (k := 2) noS rfl
    (refine top_in ?_; simp -implicitDefEqProofs only [go_sem, -List.reduceReplicate, ↓L_gdZ_tt, ↓L_gdZ_tf, ↓L_gdZ_ft, ↓L_gdZ_ff, ↓T_and, ↓T_imp, ↓T_all, a0, a1, a2, get_lt (kw a0), get_lt (kw a1), get_lt (kw a2), oz, cellsS_one oz, Int.reduceBEq, Int.reduceBNe]; try simp only [top_out])
    obtain ⟨ML, hML⟩ : ∃ ML, M1 ++ [Blk.row [.sn, z] 27] = ML := ⟨_, rfl⟩
    have hlen : ML.length = M1.length + 1 := by rw [← hML]; simp
    have AL : Ag (fun _ => False) M1 ML := by rw [← hML]; exact Ag.app
    have L0 := AL.get a0 (fun e => e)
    have L1 := AL.get a1 (fun e => e)
    have L2 := AL.get a2 (fun e => e)
    have Ld : ML[M1.length]? = some (.row [.sn, z] 27) := by rw [← hML, get_app0]; rfl
    have hA0 : Ag (fun _ => False) M ML := Ag.then Ag.app (A1.then AL)
    rw [hML]
    have hyz : ∀ M', Ag (fun n => n = M1.length ∨ ML.length ≤ n) ML M' → LnsO M' (M.length + 3) z s.ls := fun M' A => (hz.ag (AL.mono (fun _ e => e.elim) |>.then A) (fun n h1 h2 h3 => by omega)).mono (by simp only [List.length_append, List.length_cons, List.length_nil]; omega)
    obtain ⟨yl, hzyl⟩ : ∃ yl, z = yl := ⟨_, rfl⟩
    obtain ⟨d, hd⟩ : ∃ d, M1.length = d := ⟨_, rfl⟩
    rw [hzyl] at hyz Ld
    rw [hd] at Ld hyz
    have hyl : yl.one = true := hzyl ▸ oz
    rw [hd] at m1 hlen
    rw [hd]
    clear hz hzyl hML hd AL a0 a1 a2 A1 oz
    refine loop_code tabOK (by kernel_rfl) (fun m ts M' => ∃ (k : Nat) (y : SV), k + m = s.ps.length ∧ DnSt ML M' yl y d ((s.ps.take k).map fun p => if p.link = link then { p with pfx := withP p.pfx ⟨4, link, side, key, pfx⟩ } else p) ∧ frC (none :: none :: some (.p M.length 0) :: some (.p (M.length + 1) 0) :: some (.p (M.length + 2) 0) :: some (.p d 0) :: some (.b (true)) :: some (.i .i64 k) :: none :: none :: none :: none :: none :: none :: none :: none :: none :: none :: none :: none :: none :: none :: none :: none :: none :: none :: none :: none :: none :: none :: none :: none :: none :: none :: none :: none :: none :: none :: none :: none :: none :: none :: none :: none :: none :: none :: none :: none :: none :: none :: none :: none :: none :: none :: none :: none :: none :: none :: none :: none :: none :: none :: none :: none :: none :: none :: none :: none :: none :: none :: none :: none :: none :: none :: none :: none :: none :: none :: none :: none :: none :: none :: none :: none :: none :: none :: none :: none :: none :: none :: none :: none :: none :: none :: none :: none :: none :: none :: none :: none :: none :: []) ts) s.ps.length ?_ ?_
    · refine ⟨0, .sn, by omega, ⟨Ag.refl, Ld, PrsO.sn⟩, by simp [frC]⟩
    · rintro m ts M3 ⟨k, y, hk, D, hf⟩
      have q0 := D.st L0 (by omega)
      have q1 := D.st L1 (by omega)
      have q2 := D.st L2 (by omega)
      have qd := D.row
      have hA3 : Ag (fun n => M.length ≤ n) M M3 := (hA0.mono (fun _ e => e.elim)).then (D.ag.mono (fun n e => by omega))
      have hm3 := hA3.1
      have hmD := D.ag.1
      have oy := D.acc.one
      have oyl := hyl
      obtain ⟨f, rfl⟩ := frC_open _ _ 0 hf
      clear hf
      (refine top_in ?_; simp -implicitDefEqProofs only [go_sem, -List.reduceReplicate, ↓L_gdZ_tt, ↓L_gdZ_tf, ↓L_gdZ_ft, ↓L_gdZ_ff, ↓T_and, ↓T_imp, ↓T_all, la, q0, q1]; try simp only [top_out])
      refine ⟨fun h1 => ?_, fun h1 => ?_⟩
      · obtain ⟨nn, capp, e', rfl, l1', g1, g2, g3, g4, _⟩ := (hP.ag hA3 (fun n hn _ h => by omega)).at (k := k) (by omega)
        (refine top_in ?_; simp -implicitDefEqProofs only [go_sem, -List.reduceReplicate, ↓L_gdZ_tt, ↓L_gdZ_tf, ↓L_gdZ_ft, ↓L_gdZ_ff, ↓T_and, ↓T_imp, ↓T_all, q0, q1, g3]; try simp only [top_out])
        refine ⟨by omega, by omega, by omega, by omega, ?_⟩
        refine peer_ok G e' M3 _ g2 (by have := hpf _ (List.mem_of_getElem? g1); omega) (fun M4 yk yp b1 n1 b2 n2 A4 => ?_)
        have r0 := A4.get q0 (fun e => e)
        have r1 := A4.get q1 (fun e => e)
        have r2 := A4.get q2 (fun e => e)
        have rd := A4.get qd (fun e => e)
        have m4 := A4.1
        have o5 := b1.one
        have o6 := b2.one
        obtain ⟨q, xq, xr⟩ := e'
        simp only [prC]
        (refine top_in ?_; simp -implicitDefEqProofs only [go_sem, -List.reduceReplicate, ↓L_gdZ_tt, ↓L_gdZ_tf, ↓L_gdZ_ft, ↓L_gdZ_ff, ↓T_and, ↓T_imp, ↓T_all, r0, r1, rd, get_lt (kw r0), get_lt (kw r1), get_lt (kw rd), o5, o6, oy, oyl, Int.reduceBEq, Int.reduceBNe]; try simp only [top_out])
        refine ⟨fun h2 => ?_, fun h2 => ⟨by decide, ?_⟩⟩
        · have hc4 : ChE (M4 ++ [Blk.row [.i .i64 q.link, yk, yp] 62]) G2 (⟨4, link, side, key, pfx⟩, xk) := ((hc.ag hA3 (fun n hn _ h => by omega)).ag A4 (fun _ _ _ e => e)).app
          refine rwith_ok yp q.pfx (⟨4, link, side, key, pfx⟩, xk) G2 _ _ (b2.lst (by decide)).app hc4 (Nat.le_trans (hpf q (List.mem_of_getElem? g1)) (by decide)) (.inr ⟨rfl, St.holder_none.1 hh _ (List.mem_of_getElem? g1)⟩) (fun M5 y3 b3 n3 A5 => ?_)
          have u0 := A5.get ((get_lt (kw r0)).trans r0) (fun e => e)
          have u1 := A5.get ((get_lt (kw r1)).trans r1) (fun e => e)
          have ud := A5.get ((get_lt (kw rd)).trans rd) (fun e => e)
          have uq := A5.at0 noS rfl
          have m5 := A5.1
          simp only [List.length_append, List.length_cons, List.length_nil] at m5 n3
          have o7 := b3.one
          have hdm : d ≠ M4.length := by have := kw rd; omega
          have hsd : ∀ B : Blk, (M5.set M4.length B)[d]? = some (.row [y, yl] 27) := fun B => by rw [List.getElem?_set_ne (Ne.symm hdm)]; exact ud
          (refine top_in ?_; simp -implicitDefEqProofs only [go_sem, -List.reduceReplicate, ↓L_gdZ_tt, ↓L_gdZ_tf, ↓L_gdZ_ft, ↓L_gdZ_ff, ↓T_and, ↓T_imp, ↓T_all, u0, u1, ud, uq, o5, o7, cellsS_one o7, gss0 (kw uq), hsd]; try simp only [top_out])
          refine ⟨by decide, ?_⟩
          have A5' : Ag (fun _ => False) M3 (M5.set M4.length (.row [.i .i64 q.link, yk, y3] 62)) := (((A4.then Ag.app).then A5).mono (fun _ e => e.elim) |>.then (Ag.set (S := fun n => n = M4.length) rfl)).mono_lt (fun n h1 h2 => by omega)
          have A6' : Ag (fun n => n = M4.length) M5 (M5.set M4.length (.row [.i .i64 q.link, yk, y3] 62)) := Ag.set rfl
          refine push_dn (r := M5.length) (MM := M5.set M4.length (.row [.i .i64 q.link, yk, y3] 62) ++ [.row [.i .i64 q.link, yk, y3] 62]) D (A5'.then Ag.app) (by omega) { q with pfx := withP q.pfx ⟨4, link, side, key, pfx⟩ } yk y3 (by rw [get_sapp0]; rfl) (((b1.app.ag A5 (fun _ _ e => e)).ag A6' (fun d e h => by have := b1.dn d e; omega)).app) ((n1.and b1.dn).mono (fun n g => ⟨by omega, fun h => by have := D.acc.nm n h; omega⟩)) (((b3.lst (by decide)).ag A6' (fun d e h => by have := n3 d e; omega)).app) ((n3.and b3.dn).mono (fun n g => ⟨by omega, fun h => by have := D.acc.nm n h; omega⟩)) (by simp only [List.length_map, List.length_take]; omega) (fun M6 s6 D6 t5 o10 _ _ => ?_)
          (refine top_in ?_; simp -implicitDefEqProofs only [go_sem, -List.reduceReplicate, ↓L_gdZ_tt, ↓L_gdZ_tf, ↓L_gdZ_ft, ↓L_gdZ_ff, ↓T_and, ↓T_imp, ↓T_all, t5, oy, oyl, o10, cellsS_one o10]; try simp only [top_out])
          refine ⟨m - 1, by omega, k + 1, s6, by omega, ?_, w64 (by omega) (by omega)⟩
          rw [take_snocS g1, List.map_append, List.map_cons, List.map_nil, if_pos (beqT h2)]
          exact D6
        · refine push_dn D (A4.then Ag.app) (by omega) q yk yp (by rw [get_app]; rfl) b1.app ((n1.and b1.dn).mono (fun n g => ⟨by omega, fun h => by have := D.acc.nm n h; omega⟩)) (b2.lst (by decide)).app ((n2.and b2.dn).mono (fun n g => ⟨by omega, fun h => by have := D.acc.nm n h; omega⟩)) (by simp only [List.length_map, List.length_take]; omega) (fun M6 s6 D6 t5 o10 _ _ => ?_)
          (refine top_in ?_; simp -implicitDefEqProofs only [go_sem, -List.reduceReplicate, ↓L_gdZ_tt, ↓L_gdZ_tf, ↓L_gdZ_ft, ↓L_gdZ_ff, ↓T_and, ↓T_imp, ↓T_all, t5, oy, oyl, o10, cellsS_one o10]; try simp only [top_out])
          refine ⟨m - 1, by omega, k + 1, s6, by omega, ?_, w64 (by omega) (by omega)⟩
          rw [take_snocS g1, List.map_append, List.map_cons, List.map_nil, if_neg (beqF h2)]
          exact D6
      · obtain rfl : k = s.ps.length := by omega
        (refine top_in ?_; simp -implicitDefEqProofs only [go_sem, -List.reduceReplicate, ↓L_gdZ_tt, ↓L_gdZ_tf, ↓L_gdZ_ft, ↓L_gdZ_ff, ↓T_and, ↓T_imp, ↓T_all, q2, qd, oy, oyl, gss0 (kw q2)]; try simp only [top_out])
        have A7 : Ag (fun n => n = M.length + 2) M3 (M3.set (M.length + 2) (.row [y, yl] 27)) := Ag.set rfl
        have hacc := D.acc
        rw [List.take_length] at hacc
        refine dropC_all (by simp; omega) (hK _ y yl ((hacc.ag A7 (fun n h1 h2 h3 => by omega)).mono (by omega)) ?_ ((hA3.then (A7.mono (fun n e => by omega))).mono_lt (fun n h1 h2 => by omega)))
        exact ((hyz M3 D.ag).ag A7 (fun n h1 h2 h3 => by omega)).mono (by omega)
  · have hd : s.done ⟨5, link, side, key, pfx⟩ = ⟨s.ps.map fun p => if p.link = link then { p with pfx := withP p.pfx ⟨5, link, side, key, pfx⟩ } else p, s.ls⟩ := by unfold St.done; rw [if_neg (show ¬ (5 : Int) = 1 by decide), if_neg (show ¬ (5 : Int) = 2 by decide), if_neg (show ¬ (5 : Int) = 3 by decide)]
    rw [hd] at hK
    refine fn_rule tabOK Tryz.func34 rfl Tryz.call34 (by kernel_rfl) (fun hM => ?_)
    (refine top_in ?_; simp -implicitDefEqProofs only [Tryz.ntmps34, Tryz.results34, go_sem, -List.reduceReplicate, ↓L_gdZ_tt, ↓L_gdZ_tf, ↓L_gdZ_ft, ↓L_gdZ_ff, ↓T_and, ↓T_imp, ↓T_all, o1, o2, o3]; try simp only [top_out])
    refine lanes_ok G' xl s.ls _ _ h.app (by omega) (fun M1 z hz A1 => ?_)
    have m1 := A1.1
    simp only [List.length_append, List.length_cons, List.length_nil] at m1
    have oz := hz.one
    have a0 := A1.at0 noS rfl
    have a1 := A1.atk (k := 1) noS rfl
    have a2 := A1.atk (k := 2) noS rfl
    (refine top_in ?_; simp -implicitDefEqProofs only [go_sem, -List.reduceReplicate, ↓L_gdZ_tt, ↓L_gdZ_tf, ↓L_gdZ_ft, ↓L_gdZ_ff, ↓T_and, ↓T_imp, ↓T_all, a0, a1, a2, get_lt (kw a0), get_lt (kw a1), get_lt (kw a2), oz, cellsS_one oz, Int.reduceBEq, Int.reduceBNe]; try simp only [top_out])
    obtain ⟨ML, hML⟩ : ∃ ML, M1 ++ [Blk.row [.sn, z] 27] = ML := ⟨_, rfl⟩
    have hlen : ML.length = M1.length + 1 := by rw [← hML]; simp
    have AL : Ag (fun _ => False) M1 ML := by rw [← hML]; exact Ag.app
    have L0 := AL.get a0 (fun e => e)
    have L1 := AL.get a1 (fun e => e)
    have L2 := AL.get a2 (fun e => e)
    have Ld : ML[M1.length]? = some (.row [.sn, z] 27) := by rw [← hML, get_app0]; rfl
    have hA0 : Ag (fun _ => False) M ML := Ag.then Ag.app (A1.then AL)
    rw [hML]
    have hyz : ∀ M', Ag (fun n => n = M1.length ∨ ML.length ≤ n) ML M' → LnsO M' (M.length + 3) z s.ls := fun M' A => (hz.ag (AL.mono (fun _ e => e.elim) |>.then A) (fun n h1 h2 h3 => by omega)).mono (by simp only [List.length_append, List.length_cons, List.length_nil]; omega)
    obtain ⟨yl, hzyl⟩ : ∃ yl, z = yl := ⟨_, rfl⟩
    obtain ⟨d, hd⟩ : ∃ d, M1.length = d := ⟨_, rfl⟩
    rw [hzyl] at hyz Ld
    rw [hd] at Ld hyz
    have hyl : yl.one = true := hzyl ▸ oz
    rw [hd] at m1 hlen
    rw [hd]
    clear hz hzyl hML hd AL a0 a1 a2 A1 oz
    refine loop_code tabOK (by kernel_rfl) (fun m ts M' => ∃ (k : Nat) (y : SV), k + m = s.ps.length ∧ DnSt ML M' yl y d ((s.ps.take k).map fun p => if p.link = link then { p with pfx := withP p.pfx ⟨5, link, side, key, pfx⟩ } else p) ∧ frC (none :: none :: some (.p M.length 0) :: some (.p (M.length + 1) 0) :: some (.p (M.length + 2) 0) :: some (.p d 0) :: some (.b (true)) :: some (.i .i64 k) :: none :: none :: none :: none :: none :: none :: none :: none :: none :: none :: none :: none :: none :: none :: none :: none :: none :: none :: none :: none :: none :: none :: none :: none :: none :: none :: none :: none :: none :: none :: none :: none :: none :: none :: none :: none :: none :: none :: none :: none :: none :: none :: none :: none :: none :: none :: none :: none :: none :: none :: none :: none :: none :: none :: none :: none :: none :: none :: none :: none :: none :: none :: none :: none :: none :: none :: none :: none :: none :: none :: none :: none :: none :: none :: none :: none :: none :: none :: none :: none :: none :: none :: none :: none :: none :: none :: none :: none :: none :: none :: none :: none :: none :: []) ts) s.ps.length ?_ ?_
    · refine ⟨0, .sn, by omega, ⟨Ag.refl, Ld, PrsO.sn⟩, by simp [frC]⟩
    · rintro m ts M3 ⟨k, y, hk, D, hf⟩
      have q0 := D.st L0 (by omega)
      have q1 := D.st L1 (by omega)
      have q2 := D.st L2 (by omega)
      have qd := D.row
      have hA3 : Ag (fun n => M.length ≤ n) M M3 := (hA0.mono (fun _ e => e.elim)).then (D.ag.mono (fun n e => by omega))
      have hm3 := hA3.1
      have hmD := D.ag.1
      have oy := D.acc.one
      have oyl := hyl
      obtain ⟨f, rfl⟩ := frC_open _ _ 0 hf
      clear hf
      (refine top_in ?_; simp -implicitDefEqProofs only [go_sem, -List.reduceReplicate, ↓L_gdZ_tt, ↓L_gdZ_tf, ↓L_gdZ_ft, ↓L_gdZ_ff, ↓T_and, ↓T_imp, ↓T_all, la, q0, q1]; try simp only [top_out])
      refine ⟨fun h1 => ?_, fun h1 => ?_⟩
      · obtain ⟨nn, capp, e', rfl, l1', g1, g2, g3, g4, _⟩ := (hP.ag hA3 (fun n hn _ h => by omega)).at (k := k) (by omega)
        (refine top_in ?_; simp -implicitDefEqProofs only [go_sem, -List.reduceReplicate, ↓L_gdZ_tt, ↓L_gdZ_tf, ↓L_gdZ_ft, ↓L_gdZ_ff, ↓T_and, ↓T_imp, ↓T_all, q0, q1, g3]; try simp only [top_out])
        refine ⟨by omega, by omega, by omega, by omega, ?_⟩
        refine peer_ok G e' M3 _ g2 (by have := hpf _ (List.mem_of_getElem? g1); omega) (fun M4 yk yp b1 n1 b2 n2 A4 => ?_)
        have r0 := A4.get q0 (fun e => e)
        have r1 := A4.get q1 (fun e => e)
        have r2 := A4.get q2 (fun e => e)
        have rd := A4.get qd (fun e => e)
        have m4 := A4.1
        have o5 := b1.one
        have o6 := b2.one
        obtain ⟨q, xq, xr⟩ := e'
        simp only [prC]
        (refine top_in ?_; simp -implicitDefEqProofs only [go_sem, -List.reduceReplicate, ↓L_gdZ_tt, ↓L_gdZ_tf, ↓L_gdZ_ft, ↓L_gdZ_ff, ↓T_and, ↓T_imp, ↓T_all, r0, r1, rd, get_lt (kw r0), get_lt (kw r1), get_lt (kw rd), o5, o6, oy, oyl, Int.reduceBEq, Int.reduceBNe]; try simp only [top_out])
        refine ⟨fun h2 => ?_, fun h2 => ⟨by decide, ?_⟩⟩
        · have hc4 : ChE (M4 ++ [Blk.row [.i .i64 q.link, yk, yp] 62]) G2 (⟨5, link, side, key, pfx⟩, xk) := ((hc.ag hA3 (fun n hn _ h => by omega)).ag A4 (fun _ _ _ e => e)).app
          refine rwith_ok yp q.pfx (⟨5, link, side, key, pfx⟩, xk) G2 _ _ (b2.lst (by decide)).app hc4 (Nat.le_trans (hpf q (List.mem_of_getElem? g1)) (by decide)) (.inl rfl) (fun M5 y3 b3 n3 A5 => ?_)
          have u0 := A5.get ((get_lt (kw r0)).trans r0) (fun e => e)
          have u1 := A5.get ((get_lt (kw r1)).trans r1) (fun e => e)
          have ud := A5.get ((get_lt (kw rd)).trans rd) (fun e => e)
          have uq := A5.at0 noS rfl
          have m5 := A5.1
          simp only [List.length_append, List.length_cons, List.length_nil] at m5 n3
          have o7 := b3.one
          have hdm : d ≠ M4.length := by have := kw rd; omega
          have hsd : ∀ B : Blk, (M5.set M4.length B)[d]? = some (.row [y, yl] 27) := fun B => by rw [List.getElem?_set_ne (Ne.symm hdm)]; exact ud
          (refine top_in ?_; simp -implicitDefEqProofs only [go_sem, -List.reduceReplicate, ↓L_gdZ_tt, ↓L_gdZ_tf, ↓L_gdZ_ft, ↓L_gdZ_ff, ↓T_and, ↓T_imp, ↓T_all, u0, u1, ud, uq, o5, o7, cellsS_one o7, gss0 (kw uq), hsd]; try simp only [top_out])
          refine ⟨by decide, ?_⟩
          have A5' : Ag (fun _ => False) M3 (M5.set M4.length (.row [.i .i64 q.link, yk, y3] 62)) := (((A4.then Ag.app).then A5).mono (fun _ e => e.elim) |>.then (Ag.set (S := fun n => n = M4.length) rfl)).mono_lt (fun n h1 h2 => by omega)
          have A6' : Ag (fun n => n = M4.length) M5 (M5.set M4.length (.row [.i .i64 q.link, yk, y3] 62)) := Ag.set rfl
          refine push_dn (r := M5.length) (MM := M5.set M4.length (.row [.i .i64 q.link, yk, y3] 62) ++ [.row [.i .i64 q.link, yk, y3] 62]) D (A5'.then Ag.app) (by omega) { q with pfx := withP q.pfx ⟨5, link, side, key, pfx⟩ } yk y3 (by rw [get_sapp0]; rfl) (((b1.app.ag A5 (fun _ _ e => e)).ag A6' (fun d e h => by have := b1.dn d e; omega)).app) ((n1.and b1.dn).mono (fun n g => ⟨by omega, fun h => by have := D.acc.nm n h; omega⟩)) (((b3.lst (by decide)).ag A6' (fun d e h => by have := n3 d e; omega)).app) ((n3.and b3.dn).mono (fun n g => ⟨by omega, fun h => by have := D.acc.nm n h; omega⟩)) (by simp only [List.length_map, List.length_take]; omega) (fun M6 s6 D6 t5 o10 _ _ => ?_)
          (refine top_in ?_; simp -implicitDefEqProofs only [go_sem, -List.reduceReplicate, ↓L_gdZ_tt, ↓L_gdZ_tf, ↓L_gdZ_ft, ↓L_gdZ_ff, ↓T_and, ↓T_imp, ↓T_all, t5, oy, oyl, o10, cellsS_one o10]; try simp only [top_out])
          refine ⟨m - 1, by omega, k + 1, s6, by omega, ?_, w64 (by omega) (by omega)⟩
          rw [take_snocS g1, List.map_append, List.map_cons, List.map_nil, if_pos (beqT h2)]
          exact D6
        · refine push_dn D (A4.then Ag.app) (by omega) q yk yp (by rw [get_app]; rfl) b1.app ((n1.and b1.dn).mono (fun n g => ⟨by omega, fun h => by have := D.acc.nm n h; omega⟩)) (b2.lst (by decide)).app ((n2.and b2.dn).mono (fun n g => ⟨by omega, fun h => by have := D.acc.nm n h; omega⟩)) (by simp only [List.length_map, List.length_take]; omega) (fun M6 s6 D6 t5 o10 _ _ => ?_)
          (refine top_in ?_; simp -implicitDefEqProofs only [go_sem, -List.reduceReplicate, ↓L_gdZ_tt, ↓L_gdZ_tf, ↓L_gdZ_ft, ↓L_gdZ_ff, ↓T_and, ↓T_imp, ↓T_all, t5, oy, oyl, o10, cellsS_one o10]; try simp only [top_out])
          refine ⟨m - 1, by omega, k + 1, s6, by omega, ?_, w64 (by omega) (by omega)⟩
          rw [take_snocS g1, List.map_append, List.map_cons, List.map_nil, if_neg (beqF h2)]
          exact D6
      · obtain rfl : k = s.ps.length := by omega
        (refine top_in ?_; simp -implicitDefEqProofs only [go_sem, -List.reduceReplicate, ↓L_gdZ_tt, ↓L_gdZ_tf, ↓L_gdZ_ft, ↓L_gdZ_ff, ↓T_and, ↓T_imp, ↓T_all, q2, qd, oy, oyl, gss0 (kw q2)]; try simp only [top_out])
        have A7 : Ag (fun n => n = M.length + 2) M3 (M3.set (M.length + 2) (.row [y, yl] 27)) := Ag.set rfl
        have hacc := D.acc
        rw [List.take_length] at hacc
        refine dropC_all (by simp; omega) (hK _ y yl ((hacc.ag A7 (fun n h1 h2 h3 => by omega)).mono (by omega)) ?_ ((hA3.then (A7.mono (fun n e => by omega))).mono_lt (fun n h1 h2 => by omega)))
        exact ((hyz M3 D.ag).ag A7 (fun n h1 h2 h3 => by omega)).mono (by omega)
end Go.Proofs.YtdcplcfedcmcmaaGreat.Eng
