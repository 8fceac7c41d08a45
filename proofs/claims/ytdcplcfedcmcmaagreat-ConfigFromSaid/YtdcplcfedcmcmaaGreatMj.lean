/- Joined texts: F6, F8, F9. -/
import Derived.Test.YtdcplcfedcmcmaaGreatF2
import Derived.Test.YtdcplcfedcmcmaaGreatMi
import Derived.Test.YtdcplcfedcmcmaaGreatMd
import Derived.Test.YtdcplcfedcmcmaaGreatMh
/- The law's own look at a configuration: its answer says whether it is one. -/
namespace Go.Proofs.YtdcplcfedcmcmaaGreat.Eng
open Go Go.RowKit
set_option linter.unusedSimpArgs false
set_option linter.unusedVariables false

set_option maxHeartbeats 2000000 in
theorem right_ok (G G' : Nat → Prop) (xp xl : SV) (s : St) (M : List Blk) (K : SV → List Blk → Prop) (hP : Prs M G xp s.ps) (hL : Lns M G' xl s.ls) (hK : ∀ b : Bool, (b = true ↔ s.Right) → K (.b b) M) :
    callVC Tryz.prog 9 [.agg [xp, xl]] M K := by
  have la : ∀ {M' : List Blk} {e a' b' : Nat} {K : SV → Prop}, lenB (.slice e a' b') M' xp K = K (.i .i64 s.ps.length) := hP.lenB
  have lb : ∀ {M' : List Blk} {e a' b' : Nat} {K : SV → Prop}, lenB (.slice e a' b') M' xl K = K (.i .i64 s.ls.length) := hL.lenB
  have o1 := hP.one
  have o2 := hL.one
  have hF : ¬ s.Right → K (.b false) M := fun h => hK false (by simp [h])
  refine fn_rule tabOK Tryz.func9 rfl Tryz.call9 (by kernel_rfl) (fun hM => ?_)
  (refine top_in ?_; simp -implicitDefEqProofs only [Tryz.ntmps9, Tryz.results9, go_sem, -List.reduceReplicate, ↓L_gdZ_tt, ↓L_gdZ_tf, ↓L_gdZ_ft, ↓L_gdZ_ff, ↓T_and, ↓T_imp, ↓T_all, o1, o2, la, lb]; try simp only [top_out])
  refine ⟨fun h1 => ⟨fun h2 => dropF hM Ag.app (hF fun g => by have := g.nl; omega), fun h2 => ?_⟩, fun h1 => dropF hM Ag.app (hF fun g => by have := g.np; omega)⟩
  refine loop_code tabOK (by kernel_rfl) (fun m ts M' => ∃ k : Nat, k + m = s.ls.length ∧ Ag (fun _ => False) M M' ∧ M'[M.length]? = some (.row [xp, xl] 27) ∧ (∀ (i : Nat) l, i < k → s.ls[i]? = some l → LaneG s i l) ∧ frC (none :: some (.p M.length 0) :: none :: some (.i .i64 k) :: none :: none :: none :: none :: none :: none :: none :: none :: none :: none :: none :: none :: none :: none :: none :: none :: none :: none :: none :: none :: none :: none :: none :: none :: none :: none :: none :: none :: none :: none :: none :: none :: none :: none :: none :: none :: none :: none :: none :: none :: none :: none :: none :: none :: none :: none :: none :: none :: none :: none :: none :: none :: none :: none :: none :: none :: none :: none :: none :: none :: none :: none :: none :: none :: none :: none :: none :: none :: none :: none :: none :: none :: none :: none :: none :: none :: none :: none :: none :: none :: none :: none :: none :: none :: []) ts) s.ls.length ?_ ?_
  · exact ⟨0, by omega, Ag.app, by rw [get_app0]; rfl, fun i l h => by omega, by simp [frC]⟩
  · rintro m ts M1 ⟨k, hk, hA, hb, hg, hf⟩
    have hm := hA.1
    obtain ⟨f, rfl⟩ := frC_open _ _ 0 hf
    clear hf
    (refine top_in ?_; simp -implicitDefEqProofs only [go_sem, -List.reduceReplicate, ↓L_gdZ_tt, ↓L_gdZ_tf, ↓L_gdZ_ft, ↓L_gdZ_ff, ↓T_and, ↓T_imp, ↓T_all, hb, la, lb, o1, o2]; try simp only [top_out])
    refine ⟨fun h3 => ?_, fun h3 => ?_⟩
    · obtain ⟨n, cap, e, rfl, l1, g1, g2, g3, g4, g5, g6, g7, g8⟩ := (hL.ag hA (fun _ _ _ e => e)).at (k := k) (by omega)
      have ok := g2.key.one
      have lk : ∀ {M' : List Blk} {e' a' b' : Nat} {K : SV → Prop}, lenB (.slice e' a' b') M' e.2 K = K (.i .i64 e.1.key.length) := g2.key.lenB
      rw [show lnC e = [e.2, SV.i .i64 e.1.side, .i .i64 e.1.cur, .i .i64 e.1.next, .u64 e.1.sc, .u64 e.1.ce, .i .i64 e.1.sec, .i .i64 e.1.nano] from rfl] at g3
      (refine top_in ?_; simp -implicitDefEqProofs only [go_sem, -List.reduceReplicate, ↓L_gdZ_tt, ↓L_gdZ_tf, ↓L_gdZ_ft, ↓L_gdZ_ff, ↓T_and, ↓T_imp, ↓T_all, hb, get_lt (kw hb), la, lb, o1, o2, g3, ok, lk]; try simp only [top_out])
      repeat (with_reducible refine And.intro (by omega) ?_)
      have hA2 : ∀ L, Ag (fun _ => False) M (M1 ++ L) := fun L => hA.then Ag.app
      refine ⟨fun c1 => ⟨fun c2 => ⟨fun c3 => ⟨fun c4 => ⟨fun c5 => ⟨fun c6 => ⟨fun c7 => dropF hM (hA2 _) (hF fun g => by have := (lane_of g g1).ok; have := this.next; omega), fun c7 => ?_⟩, fun c6 => dropF hM (hA2 _) (hF fun g => by have := (lane_of g g1).ok; have := this.next; omega)⟩, fun c5 => dropF hM (hA2 _) (hF fun g => by have := (lane_of g g1).ok; have := this.cur; omega)⟩, fun c4 => dropF hM (hA2 _) (hF fun g => by have := (lane_of g g1).ok; have := this.cur; omega)⟩, fun c3 => dropF hM (hA2 _) (hF fun g => by have := (lane_of g g1).ok; have := this.side; omega)⟩, fun c2 => dropF hM (hA2 _) (hF fun g => by have := (lane_of g g1).ok; have := this.side; omega)⟩, fun c1 => dropF hM (hA2 _) (hF fun g => by have := (lane_of g g1).ok.key; simp [this] at c1)⟩
      have hok : e.1.Ok := ⟨by have := bneF c1; omega, by omega, by omega, by omega⟩
      refine draw_rule tabOK (by kernel_rfl : _) (.p 0 (.p 1 (.p 2 (.p 3 (.p 4 (.p 5 (.p 6 (.p 7 (.p 8 (.p 9 (.p 10 (.p 11 (.e 12 [] (.p 13 (.p 14 .nil)) .no))))))))))))) (by kernel_rfl) (by kernel_rfl) ?_
      (refine top_in ?_; simp -implicitDefEqProofs only [go_sem, -List.reduceReplicate, ↓L_gdZ_tt, ↓L_gdZ_tf, ↓L_gdZ_ft, ↓L_gdZ_ff, ↓T_and, ↓T_imp, ↓T_all, hb, get_lt (kw hb), get_lt l1, la, lb, o1, o2, g3, ok, lk]; try simp only [top_out])
      refine ⟨fun h5 => ?_, fun h5 => ?_⟩
      · obtain ⟨j, rfl⟩ : ∃ j, k = j + 1 := ⟨k - 1, by omega⟩
        have wj : IntKind.i64.wrap (((j + 1 : Nat) : Int) - 1) = (j : Int) := (w64 (by omega) (by omega)).trans (by omega)
        obtain ⟨n', cap', e', he', l1', g1', g2', g3', g4', g5', _⟩ := (hL.ag hA (fun _ _ _ e => e)).at (k := j) (by omega)
        cases he'
        rw [wj, Int.toNat_natCast, g5']
        refine ⟨by omega, by omega, by omega, by omega, by omega, ?_⟩
        refine less_byt _ _ _ _ _ _ g2'.key.app g2.key.app ?_
        (refine top_in ?_; simp -implicitDefEqProofs only [go_sem, -List.reduceReplicate, ↓L_gdZ_tt, ↓L_gdZ_tf, ↓L_gdZ_ft, ↓L_gdZ_ff, ↓T_and, ↓T_imp, ↓T_all, hb, get_lt (kw hb), la, lb, o1, o2]; try simp only [top_out])
        refine ⟨fun h6 => dropF hM (hA2 _) (hF fun g => by have := (lane_of g g1).ord _ (by omega) (by rw [Nat.add_sub_cancel]; exact g1'); simp [this] at h6), fun h6 => ⟨m - 1, by omega, j + 1 + 1, by omega, hA2 _, fun i l hi hl => ?_, w64 (by omega) (by omega)⟩⟩
        rcases Nat.lt_or_ge i (j + 1) with q | q
        · exact hg i l q hl
        · obtain rfl : i = j + 1 := by omega
          rw [g1] at hl; cases hl
          exact ⟨hok, fun p _ hp => by
            rw [Nat.add_sub_cancel, g1'] at hp; cases hp
            simpa using h6⟩
      · refine ⟨m - 1, by omega, k + 1, by omega, hA2 _, fun i l hi hl => ?_, w64 (by omega) (by omega)⟩
        rcases Nat.lt_or_ge i k with q | q
        · exact hg i l q hl
        · obtain rfl : i = k := by omega
          rw [g1] at hl; cases hl
          exact ⟨hok, fun p h0 _ => by omega⟩
    · obtain rfl : k = s.ls.length := by omega
      have hlanes : ∀ (i : Nat) l, s.ls[i]? = some l → LaneG s i l := fun i l hl => hg i l (List.getElem?_eq_some_iff.1 hl).1 hl
      refine loop_code tabOK (by kernel_rfl) (fun m ts M' => ∃ k : Nat, k + m = s.ps.length ∧ Ag (fun _ => False) M M' ∧ M'[M.length]? = some (.row [xp, xl] 27) ∧ (∀ (i : Nat) p, i < k → s.ps[i]? = some p → PeerG s i p) ∧ frC (none :: some (.p M.length 0) :: none :: none :: none :: some (.i .i64 k) :: none :: none :: none :: none :: none :: none :: none :: none :: none :: none :: none :: none :: none :: none :: none :: none :: none :: none :: none :: none :: none :: none :: none :: none :: none :: none :: none :: none :: none :: none :: none :: none :: none :: none :: none :: none :: none :: none :: none :: none :: none :: none :: none :: none :: none :: none :: none :: none :: none :: none :: none :: none :: none :: none :: none :: none :: none :: none :: none :: none :: none :: none :: none :: none :: none :: none :: none :: none :: none :: none :: none :: none :: none :: none :: none :: none :: none :: none :: none :: none :: none :: none :: []) ts) s.ps.length ?_ ?_
      · exact ⟨0, by omega, hA, hb, fun i l h => by omega, by simp [frC]⟩
      · clear hk hg hb hm
        rintro m ts M3 ⟨k, hk, hA3, hb, hg, hf⟩
        have hm := hA3.1
        obtain ⟨f, rfl⟩ := frC_open _ _ 0 hf
        clear hf
        (refine top_in ?_; simp -implicitDefEqProofs only [go_sem, -List.reduceReplicate, ↓L_gdZ_tt, ↓L_gdZ_tf, ↓L_gdZ_ft, ↓L_gdZ_ff, ↓T_and, ↓T_imp, ↓T_all, hb, la, lb, o1, o2]; try simp only [top_out])
        refine ⟨fun h3 => ?_, fun h3 => ?_⟩
        · refine lpeer_ok G G' xp xl s k M3 _ (hP.ag hA3 (fun _ _ _ e => e)) (hL.ag hA3 (fun _ _ _ e => e)) (by omega) (by omega) (by omega) (fun i q hi hq => (hg i q hi hq).many) (fun b hb2 => ?_)
          (refine top_in ?_; simp -implicitDefEqProofs only [go_sem, -List.reduceReplicate, ↓L_gdZ_tt, ↓L_gdZ_tf, ↓L_gdZ_ft, ↓L_gdZ_ff, ↓T_and, ↓T_imp, ↓T_all, hb, la, lb, o1, o2]; try simp only [top_out])
          refine ⟨fun h6 => dropF hM hA3 (hF fun g => by have := (hb2 _ (List.getElem?_eq_getElem (by omega : k < s.ps.length))).2 (peer_of g (List.getElem?_eq_getElem (by omega))); simp [this] at h6), fun h6 => ⟨m - 1, by omega, k + 1, by omega, hA3, fun i p hi hp => ?_, w64 (by omega) (by omega)⟩⟩
          rcases Nat.lt_or_ge i k with q | q
          · exact hg i p q hp
          · obtain rfl : i = k := by omega
            exact (hb2 p hp).1 (by simpa using h6)
        · obtain rfl : k = s.ps.length := by omega
          exact dropF hM hA3 (hK true (iff_of_true rfl (right_of (by omega) (by omega) hlanes (fun i p hp => hg i p (List.getElem?_eq_some_iff.1 hp).1 hp))))
end Go.Proofs.YtdcplcfedcmcmaaGreat.Eng

/- The law's writing over copies, in their places: the walk. -/
namespace Go.Proofs.YtdcplcfedcmcmaaGreat.Eng
open Go Go.RowKit
set_option linter.unusedSimpArgs false
set_option linter.unusedVariables false

theorem joinT {T G : Prop} (h : (True → T) → G) (h2 : T) : G := h (fun _ => h2)
theorem isI_set {k : IntKind} {R : List SV} {i j : Nat} {v : SV} {x : Int} (h : R[j]? = some (.i k x)) (hij : i ≠ j) : isI k (R.set i v) j = true ∧ cellI (R.set i v) j = x := isI_of (by rw [List.getElem?_set_ne hij]; exact h)
set_option maxHeartbeats 4000000 in
set_option maxRecDepth 20000 in
theorem over_ok (GP GL GC : Nat → Prop) (xp xl xc : SV) (s : St) (cs : List Ch) (M : List Blk) (K : SV → List Blk → Prop) (hP : PO M GP xp s.ps) (hL : LO M GL xl s.ls) (hC : CO M GC xc cs) (d1 : ∀ n, GP n → ¬ GL n) (d2 : ∀ n, GP n → ¬ GC n) (d3 : ∀ n, GL n → ¬ GC n)
    (hb : ∀ n, GP n ∨ GL n ∨ GC n → n < M.length) (hs : s.Right) (hcs : cs.length ≤ 100000)
    (hK : ∀ v M' (s' : St) (cs' : List Ch), s'.Right → PO M' GP xp s'.ps → LO M' GL xl s'.ls → CO M' GC xc cs' → Ag (fun n => GP n ∨ GL n ∨ GC n) M M' → K v M') :
    callVC Tryz.prog 14 [.agg [xp, xl], xc] M K := by
  have o1 := hP.prs.one
  have o2 := hL.lns.one
  have o3 := hC.chs.one
  have hnp := hs.np
  have hnl := hs.nl
  have la : ∀ {M' : List Blk} {e a' b' : Nat} {K : SV → Prop}, lenB (.slice e a' b') M' xp K = K (.i .i64 s.ps.length) := hP.prs.lenB
  have lb : ∀ {M' : List Blk} {e a' b' : Nat} {K : SV → Prop}, lenB (.slice e a' b') M' xl K = K (.i .i64 s.ls.length) := hL.lns.lenB
  have lc : ∀ {M' : List Blk} {e a' b' : Nat} {K : SV → Prop}, lenB (.slice e a' b') M' xc K = K (.i .i64 cs.length) := hC.chs.lenB
  refine fn_rule tabOK Tryz.func14 rfl Tryz.call14 (by kernel_rfl) (fun hM => ?_)
  (refine top_in ?_; simp -implicitDefEqProofs only [Tryz.ntmps14, Tryz.results14, go_sem, -List.reduceReplicate, ↓L_gdZ_tt, ↓L_gdZ_tf, ↓L_gdZ_ft, ↓L_gdZ_ff, ↓T_and, ↓T_imp, ↓T_all, o1, o2, o3, la, lb, lc]; try simp only [top_out])
  apply joinT
  intro hT3
  refine loop_code tabOK (by kernel_rfl) (fun m ts M' => ∃ (k : Nat) (s1 : St), k + m = s.ls.length ∧ s1.Right ∧ s1.ps = s.ps ∧ s1.ls.length = s.ls.length ∧ LO M' GL xl s1.ls ∧ M'[M.length]? = some (.row [xp, xl] 27) ∧ Ag GL M M' ∧ frC (none :: some (xc) :: some (.p M.length 0) :: none :: some (.i .i64 k) :: none :: none :: none :: none :: none :: none :: none :: none :: none :: none :: none :: none :: none :: none :: none :: none :: none :: none :: none :: none :: none :: none :: none :: none :: none :: none :: none :: none :: none :: none :: none :: none :: none :: none :: none :: none :: none :: none :: none :: none :: none :: none :: none :: none :: none :: none :: none :: none :: none :: none :: none :: none :: none :: none :: none :: none :: none :: none :: none :: none :: none :: none :: none :: none :: none :: none :: none :: none :: none :: none :: none :: none :: none :: none :: none :: none :: none :: none :: none :: none :: none :: none :: none :: none :: none :: none :: none :: none :: none :: none :: none :: none :: none :: none :: none :: none :: none :: none :: none :: none :: none :: none :: none :: none :: none :: none :: none :: none :: none :: none :: none :: none :: none :: none :: none :: none :: none :: none :: none :: none :: none :: []) ts) s.ls.length ?_ ?_
  · exact ⟨0, s, by omega, hs, rfl, rfl, hL.ag (S := fun _ => False) Ag.app (fun _ _ _ e => e), by rw [get_app0]; rfl, Ag.app, by simp [frC]⟩
  · rintro m ts M1 ⟨k, s1, hk, hs1, hps, hls, hL1, h0, hA, hf⟩
    have hm := hA.1
    obtain ⟨f, rfl⟩ := frC_open _ _ 0 hf
    clear hf
    (refine top_in ?_; simp -implicitDefEqProofs only [go_sem, -List.reduceReplicate, ↓L_gdZ_tt, ↓L_gdZ_tf, ↓L_gdZ_ft, ↓L_gdZ_ff, ↓T_and, ↓T_imp, ↓T_all, o1, o2, o3, la, lb, lc, h0]; try simp only [top_out])
    refine ⟨fun c1 => ?_, fun c1 => ?_⟩
    · obtain ⟨n, cap, R, ty, rfl, q1, q2, q3, q4, q5, q6, q7, q8⟩ := hL1.put (k := k) (List.getElem?_eq_getElem (by omega))
      have hlk : s1.ls[k]? = some s1.ls[k] := List.getElem?_eq_getElem (by omega)
      generalize s1.ls[k] = l at hlk q4 q5 q6 q7 q8
      have hnb := hb n (.inr (.inl q1))
      have hw := kw q2
      have i6 := is64_of q6
      have hne : M.length ≠ n := by omega
      refine draw_rule tabOK (by kernel_rfl : _) (.p 0 (.p 1 (.p 2 (.p 3 (.p 4 (.p 5 (.p 6 (.p 7 (.p 8 (.p 9 (.p 10 (.p 11 (.e 12 [] .nil .no))))))))))))) (by kernel_rfl) (by kernel_rfl) ?_
      (refine top_in ?_; simp -implicitDefEqProofs only [go_sem, -List.reduceReplicate, ↓L_gdZ_tt, ↓L_gdZ_tf, ↓L_gdZ_ft, ↓L_gdZ_ff, ↓T_and, ↓T_imp, ↓T_all, o1, o3, la, lb, lc, h0, q2, i6.1, i6.2]; try simp only [top_out])
      repeat (with_reducible refine And.intro (by omega) ?_)
      have hL2 := q8 (l.sc + 1#64)
      have hA2 : Ag GL M1 (M1.set n (.row (R.set (k * 8 + 4) (.u64 (l.sc + 1#64))) ty)) := Ag.set q1
      have b0 := hA2.get h0 (fun e => by have := hb _ (.inr (.inl e)); omega)
      have hll : ∀ a b : Ln, ((s1.ls.set k a).set k b)[k]? = some b := fun a b => List.getElem?_set_self (by rw [List.length_set]; omega)
      have hok := hs1.lane l (List.mem_of_getElem? hlk)
      generalize M1.set n (.row (R.set (k * 8 + 4) (.u64 (l.sc + 1#64))) ty) = M2 at hL2 hA2 b0 ⊢
      obtain ⟨n2, cap2, R2, ty2, hx, r1, r2, r3, r4, r5, r6, r7, r8⟩ := hL2.put (k := k) (List.getElem?_set_self (by omega))
      rw [List.length_set] at hx
      cases hx
      have i5 := isI_of r5
      (refine top_in ?_; simp -implicitDefEqProofs only [go_sem, -List.reduceReplicate, ↓L_gdZ_tt, ↓L_gdZ_tf, ↓L_gdZ_ft, ↓L_gdZ_ff, ↓T_and, ↓T_imp, ↓T_all, o1, o3, la, lb, lc, b0, r2, i5.1, i5.2]; try simp only [top_out])
      repeat (with_reducible refine And.intro (by omega) ?_)
      have hR1 := right_ln (l' := { l with sc := l.sc + 1#64 }) hs1 hlk rfl ⟨hok.key, hok.side, hok.cur, hok.next⟩
      refine ⟨fun c2 => ?_, fun c2 => ?_⟩
      · refine draw_rule tabOK (by kernel_rfl : _) (.p 0 (.p 1 (.p 2 (.p 3 (.p 4 (.p 5 (.p 6 (.p 7 (.p 8 (.p 9 (.p 10 (.p 11 (.e 12 [] .nil .no))))))))))))) (by kernel_rfl) (by kernel_rfl) ?_
        (refine top_in ?_; simp -implicitDefEqProofs only [go_sem, -List.reduceReplicate, ↓L_gdZ_tt, ↓L_gdZ_tf, ↓L_gdZ_ft, ↓L_gdZ_ff, ↓T_and, ↓T_imp, ↓T_all, o1, o3, la, lb, lc, b0, r2, i5.1, i5.2]; try simp only [top_out])
        repeat (with_reducible refine And.intro (by omega) ?_)
        have hnx := hok.next
        have wn : IntKind.i64.wrap (l.next + 1) = l.next + 1 := w64 (by omega) (by omega)
        have hA3 : Ag GL M2 (M2.set n (.row (R2.set (k * 8 + 3) (.i .i64 (IntKind.i64.wrap (l.next + 1)))) ty2)) := Ag.set q1
        rw [wn] at hA3 ⊢
        exact ⟨m - 1, by omega, k + 1, _, by omega, right_ln (l' := { l with sc := l.sc + 1#64, next := l.next + 1 }) hR1 (List.getElem?_set_self (by omega)) rfl ⟨hok.key, hok.side, hok.cur, by simp only; omega⟩, hps, by simp only [List.length_set]; exact hls, r7 _, hA3.get b0 (fun e => by have := hb _ (.inr (.inl e)); omega), hA.then (hA2.then hA3), w64 (by omega) (by omega)⟩
      · exact ⟨m - 1, by omega, k + 1, _, by omega, hR1, hps, by simp only [List.length_set]; exact hls, hL2, hA.then hA2, w64 (by omega) (by omega)⟩
    · obtain rfl : k = s.ls.length := by omega
      have hP1 := hP.ag hA (fun n _ g => d1 n g)
      have hA' : Ag (fun n => GP n ∨ GL n) M M1 := hA.mono (fun n g => .inr g)
      apply joinT
      intro hT2
      refine ⟨fun c2 => ?_, fun c2 => ?_⟩
      · obtain ⟨n, cap, R, ty, hx, q1, q2, q3, q4, _⟩ := hP1.put (k := s.ps.length - 1) (List.getElem?_eq_getElem (by omega))
        have hlk : s.ps[s.ps.length - 1]? = some s.ps[s.ps.length - 1] := List.getElem?_eq_getElem (by omega)
        generalize s.ps[s.ps.length - 1] = p at hlk q4
        have wj : IntKind.i64.wrap ((s.ps.length : Int) - 1) = ((s.ps.length - 1 : Nat) : Int) := (w64 (by omega) (by omega)).trans (by omega)
        have i4 := isI_of q4
        (refine top_in ?_; simp -implicitDefEqProofs only [go_sem, -List.reduceReplicate, ↓L_gdZ_tt, ↓L_gdZ_tf, ↓L_gdZ_ft, ↓L_gdZ_ff, ↓T_and, ↓T_imp, ↓T_all, hx, o2, o3, lb, lc, wj, q2, i4.1, i4.2]; try simp only [top_out])
        repeat (with_reducible refine And.intro (by omega) ?_)
        refine loop_code tabOK (by kernel_rfl) (fun m ts M' => ∃ (k : Nat) (room : Bool) (ps1 : List Pr), k + m = s.ps.length ∧ (room = true → ∀ p ∈ s.ps, p.link < 4294967295) ∧ (room = false → k = 0) ∧ ps1.length = s.ps.length ∧ (∀ i : Nat, ps1[i]? = if i < k then s.ps[i]?.map upP else s.ps[i]?) ∧ PO M' GP xp ps1 ∧ LO M' GL xl s1.ls ∧ M'[M.length]? = some (.row [xp, xl] 27) ∧ Ag (fun n => GP n ∨ GL n) M M' ∧ frC (none :: some (xc) :: some (.p M.length 0) :: none :: none :: some (.b room) :: some (.i .i64 k) :: none :: none :: none :: none :: none :: none :: none :: none :: none :: none :: none :: none :: none :: none :: none :: none :: none :: none :: none :: none :: none :: none :: none :: none :: none :: none :: none :: none :: none :: none :: none :: none :: none :: none :: none :: none :: none :: none :: none :: none :: none :: none :: none :: none :: none :: none :: none :: none :: none :: none :: none :: none :: none :: none :: none :: none :: none :: none :: none :: none :: none :: none :: none :: none :: none :: none :: none :: none :: none :: none :: none :: none :: none :: none :: none :: none :: none :: none :: none :: none :: none :: none :: none :: none :: none :: none :: none :: none :: none :: none :: none :: none :: none :: none :: none :: none :: none :: none :: none :: none :: none :: none :: none :: none :: none :: none :: none :: none :: none :: none :: none :: none :: none :: none :: none :: none :: none :: none :: none :: []) ts) s.ps.length ?_ ?_
        · refine ⟨0, decide (p.link < 4294967295), s.ps, by omega, fun hr q hq => ?_, fun _ => rfl, rfl, fun i => by simp, hP1, hL1, h0, hA', by simp [frC]⟩
          have hr := of_decide_eq_true hr
          obtain ⟨j, hj⟩ := List.getElem?_of_mem hq
          have hjl := (List.getElem?_eq_some_iff.1 hj).1
          rcases Nat.lt_or_ge j (s.ps.length - 1) with g | g
          · have := pw_lb hs.pord hj hlk g
            omega
          · obtain rfl : j = s.ps.length - 1 := by omega
            rw [hlk] at hj; cases hj
            exact hr
        · exact hT2 trivial
      · refine loop_code tabOK (by kernel_rfl) (fun m ts M' => ∃ (k : Nat) (room : Bool) (ps1 : List Pr), k + m = s.ps.length ∧ (room = true → ∀ p ∈ s.ps, p.link < 4294967295) ∧ (room = false → k = 0) ∧ ps1.length = s.ps.length ∧ (∀ i : Nat, ps1[i]? = if i < k then s.ps[i]?.map upP else s.ps[i]?) ∧ PO M' GP xp ps1 ∧ LO M' GL xl s1.ls ∧ M'[M.length]? = some (.row [xp, xl] 27) ∧ Ag (fun n => GP n ∨ GL n) M M' ∧ frC (none :: some (xc) :: some (.p M.length 0) :: none :: none :: some (.b room) :: some (.i .i64 k) :: none :: none :: none :: none :: none :: none :: none :: none :: none :: none :: none :: none :: none :: none :: none :: none :: none :: none :: none :: none :: none :: none :: none :: none :: none :: none :: none :: none :: none :: none :: none :: none :: none :: none :: none :: none :: none :: none :: none :: none :: none :: none :: none :: none :: none :: none :: none :: none :: none :: none :: none :: none :: none :: none :: none :: none :: none :: none :: none :: none :: none :: none :: none :: none :: none :: none :: none :: none :: none :: none :: none :: none :: none :: none :: none :: none :: none :: none :: none :: none :: none :: none :: none :: none :: none :: none :: none :: none :: none :: none :: none :: none :: none :: none :: none :: none :: none :: none :: none :: none :: none :: none :: none :: none :: none :: none :: none :: none :: none :: none :: none :: none :: none :: none :: none :: none :: none :: none :: none :: []) ts) s.ps.length ?_ ?_
        · exact ⟨0, false, s.ps, by omega, fun h => (by cases h), fun _ => rfl, rfl, fun i => by simp, hP1, hL1, h0, hA', by simp [frC]⟩
        · exact hT2 trivial
      · clear hA h0 hP1 hA' hk hm
        clear hL1
        rintro m ts M1 ⟨k, room, ps1, hk, hr, hr0, hpl, hpi, hP1, hL1, h0, hA, hf⟩
        have hm := hA.1
        have hC1 := hC.ag hA (fun n _ g g' => by
          rcases g' with g' | g'
          · exact d2 n g' g
          · exact d3 n g' g)
        have hA3 : Ag (fun n => GP n ∨ GL n ∨ GC n) M M1 := hA.mono (fun n g => g.elim .inl (fun g => .inr (.inl g)))
        cases room
        · obtain rfl : k = 0 := hr0 rfl
          have hpe : ps1 = s.ps := List.ext_getElem? (fun i => by rw [hpi i]; simp)
          subst hpe
          obtain ⟨f, rfl⟩ := frC_open _ _ 0 hf
          clear hf
          (refine top_in ?_; simp -implicitDefEqProofs only [go_sem, -List.reduceReplicate, ↓L_gdZ_tt, ↓L_gdZ_tf, ↓L_gdZ_ft, ↓L_gdZ_ff, ↓T_and, ↓T_imp, ↓T_all, o1, o2, o3, la, lb, lc, h0]; try simp only [top_out])
          refine ⟨fun _ => ?_, fun _ => ?_⟩
          · refine loop_code tabOK (by kernel_rfl) (fun m ts M' => ∃ (k : Nat) (s2 : St) (cs1 : List Ch), k + m = cs.length ∧ s2.Right ∧ cs1.length = cs.length ∧ PO M' GP xp s2.ps ∧ LO M' GL xl s2.ls ∧ CO M' GC xc cs1 ∧ Ag (fun n => GP n ∨ GL n ∨ GC n) M M' ∧ frC (none :: some (xc) :: none :: none :: none :: none :: none :: some (.i .i64 k) :: none :: none :: none :: none :: none :: none :: none :: none :: none :: none :: none :: none :: none :: none :: none :: none :: none :: none :: none :: none :: none :: none :: none :: none :: none :: none :: none :: none :: none :: none :: none :: none :: none :: none :: none :: none :: none :: none :: none :: none :: none :: none :: none :: none :: none :: none :: none :: none :: none :: none :: none :: none :: none :: none :: none :: none :: none :: none :: none :: none :: none :: none :: none :: none :: none :: none :: none :: none :: none :: none :: none :: none :: none :: none :: none :: none :: none :: none :: none :: none :: none :: none :: none :: none :: none :: none :: none :: none :: none :: none :: none :: none :: none :: none :: none :: none :: none :: none :: none :: none :: none :: none :: none :: none :: none :: none :: none :: none :: none :: none :: none :: none :: none :: none :: none :: none :: none :: none :: []) ts) cs.length ?_ ?_
            · exact ⟨0, s1, cs, by omega, hs1, rfl, by rw [hps]; exact hP1, hL1, hC1, hA3, by simp [frC]⟩
            · exact hT3 trivial
          · refine loop_code tabOK (by kernel_rfl) (fun m ts M' => ∃ (k : Nat) (s2 : St) (cs1 : List Ch), k + m = cs.length ∧ s2.Right ∧ cs1.length = cs.length ∧ PO M' GP xp s2.ps ∧ LO M' GL xl s2.ls ∧ CO M' GC xc cs1 ∧ Ag (fun n => GP n ∨ GL n ∨ GC n) M M' ∧ frC (none :: some (xc) :: none :: none :: none :: none :: none :: some (.i .i64 k) :: none :: none :: none :: none :: none :: none :: none :: none :: none :: none :: none :: none :: none :: none :: none :: none :: none :: none :: none :: none :: none :: none :: none :: none :: none :: none :: none :: none :: none :: none :: none :: none :: none :: none :: none :: none :: none :: none :: none :: none :: none :: none :: none :: none :: none :: none :: none :: none :: none :: none :: none :: none :: none :: none :: none :: none :: none :: none :: none :: none :: none :: none :: none :: none :: none :: none :: none :: none :: none :: none :: none :: none :: none :: none :: none :: none :: none :: none :: none :: none :: none :: none :: none :: none :: none :: none :: none :: none :: none :: none :: none :: none :: none :: none :: none :: none :: none :: none :: none :: none :: none :: none :: none :: none :: none :: none :: none :: none :: none :: none :: none :: none :: none :: none :: none :: none :: none :: none :: []) ts) cs.length ?_ ?_
            · exact ⟨0, s1, cs, by omega, hs1, rfl, by rw [hps]; exact hP1, hL1, hC1, hA3, by simp [frC]⟩
            · exact hT3 trivial
        · have hr := hr rfl
          obtain ⟨f, rfl⟩ := frC_open _ _ 0 hf
          clear hf
          (refine top_in ?_; simp -implicitDefEqProofs only [go_sem, -List.reduceReplicate, ↓L_gdZ_tt, ↓L_gdZ_tf, ↓L_gdZ_ft, ↓L_gdZ_ff, ↓T_and, ↓T_imp, ↓T_all, o1, o2, o3, la, lb, lc, h0]; try simp only [top_out])
          refine ⟨fun c3 => ?_, fun c3 => ?_⟩
          · obtain ⟨p, hp⟩ : ∃ p, s.ps[k]? = some p := ⟨_, List.getElem?_eq_getElem (by omega)⟩
            have hpk : ps1[k]? = some p := by rw [hpi k, if_neg (by omega)]; exact hp
            have hpl2 := hr p (List.mem_of_getElem? hp)
            have hpl3 := (hs.peer p (List.mem_of_getElem? hp)).link
            obtain ⟨n, cap, R, ty, hx, q1, q2, q3, q4, q5⟩ := hP1.put hpk
            have i4 := isI_of q4
            refine draw_rule tabOK (by kernel_rfl : _) (.p 0 (.p 1 (.p 2 (.p 3 (.p 4 (.p 5 (.p 6 (.p 7 (.p 8 (.p 9 (.p 10 (.p 11 (.e 12 [] .nil .no))))))))))))) (by kernel_rfl) (by kernel_rfl) ?_
            (refine top_in ?_; simp -implicitDefEqProofs only [go_sem, -List.reduceReplicate, ↓L_gdZ_tt, ↓L_gdZ_tf, ↓L_gdZ_ft, ↓L_gdZ_ff, ↓T_and, ↓T_imp, ↓T_all, hx, o2, o3, lb, lc, h0, q2, i4.1, i4.2]; try simp only [top_out])
            repeat (with_reducible refine And.intro (by omega) ?_)
            have wn : IntKind.i64.wrap (p.link + 1) = p.link + 1 := w64 (by omega) (by omega)
            have hA4 : Ag (fun n => GP n ∨ GL n) M1 (M1.set n (.row (R.set (k * 3) (.i .i64 (IntKind.i64.wrap (p.link + 1)))) ty)) := Ag.set (.inl q1)
            rw [wn] at hA4 ⊢
            simp only [← hx]
            refine ⟨m - 1, by omega, k + 1, true, ps1.set k { p with link := p.link + 1 }, by omega, fun _ => hr, fun h => (by cases h), List.length_set.trans hpl, fun i => ?_, q5 _, hL1.ag (S := fun d => d = n) (Ag.set rfl) (fun d _ g e => d1 n q1 (e ▸ g)), hA4.get h0 (fun e => by have := hb _ (e.elim .inl (fun g => .inr (.inl g))); omega), hA.then hA4, rfl, w64 (by omega) (by omega)⟩
            by_cases e : i = k
            · subst e
              rw [List.getElem?_set_self (by omega), if_pos (by omega), hp]; rfl
            · rw [List.getElem?_set_ne (Ne.symm e), hpi i]
              by_cases g : i < k
              · rw [if_pos g, if_pos (by omega)]
              · rw [if_neg g, if_neg (by omega)]
          · obtain rfl : k = s.ps.length := by omega
            have hpe : ps1 = s.ps.map upP := List.ext_getElem? (fun i => by
              rw [hpi i, List.getElem?_map]
              split
              · rfl
              · rw [List.getElem?_eq_none (by omega)]; rfl)
            subst hpe
            have hup := right_up hs1 (by rw [hps]; exact hr)
            rw [hps] at hup
            refine loop_code tabOK (by kernel_rfl) (fun m ts M' => ∃ (k : Nat) (s2 : St) (cs1 : List Ch), k + m = cs.length ∧ s2.Right ∧ cs1.length = cs.length ∧ PO M' GP xp s2.ps ∧ LO M' GL xl s2.ls ∧ CO M' GC xc cs1 ∧ Ag (fun n => GP n ∨ GL n ∨ GC n) M M' ∧ frC (none :: some (xc) :: none :: none :: none :: none :: none :: some (.i .i64 k) :: none :: none :: none :: none :: none :: none :: none :: none :: none :: none :: none :: none :: none :: none :: none :: none :: none :: none :: none :: none :: none :: none :: none :: none :: none :: none :: none :: none :: none :: none :: none :: none :: none :: none :: none :: none :: none :: none :: none :: none :: none :: none :: none :: none :: none :: none :: none :: none :: none :: none :: none :: none :: none :: none :: none :: none :: none :: none :: none :: none :: none :: none :: none :: none :: none :: none :: none :: none :: none :: none :: none :: none :: none :: none :: none :: none :: none :: none :: none :: none :: none :: none :: none :: none :: none :: none :: none :: none :: none :: none :: none :: none :: none :: none :: none :: none :: none :: none :: none :: none :: none :: none :: none :: none :: none :: none :: none :: none :: none :: none :: none :: none :: none :: none :: none :: none :: none :: none :: []) ts) cs.length ?_ ?_
            · exact ⟨0, _, cs, by omega, hup, rfl, hP1, hL1, hC1, hA3, by simp [frC]⟩
            · exact hT3 trivial
  · rintro m ts M1 ⟨k, s2, cs1, hk, hs2, hc1, hP1, hL1, hC1, hA, hf⟩
    have hm := hA.1
    have lc1 : ∀ {M' : List Blk} {e a' b' : Nat} {K : SV → Prop}, lenB (.slice e a' b') M' xc K = K (.i .i64 cs.length) := lc
    obtain ⟨f, rfl⟩ := frC_open _ _ 0 hf
    clear hf
    (refine top_in ?_; simp -implicitDefEqProofs only [go_sem, -List.reduceReplicate, ↓L_gdZ_tt, ↓L_gdZ_tf, ↓L_gdZ_ft, ↓L_gdZ_ff, ↓T_and, ↓T_imp, ↓T_all, o3, lc]; try simp only [top_out])
    refine ⟨fun c1 => ?_, fun c1 => ?_⟩
    · obtain ⟨c, hck⟩ : ∃ c, cs1[k]? = some c := ⟨_, List.getElem?_eq_getElem (by omega)⟩
      obtain ⟨n, cap, R, ty, y, hx, q1, q2, q3, q4, q5, q6, q7, q8, q9⟩ := hC1.put hck
      have i4 := isI_of q4
      (refine top_in ?_; simp -implicitDefEqProofs only [go_sem, -List.reduceReplicate, ↓L_gdZ_tt, ↓L_gdZ_tf, ↓L_gdZ_ft, ↓L_gdZ_ff, ↓T_and, ↓T_imp, ↓T_all, hx, q2, i4.1, i4.2]; try simp only [top_out])
      repeat (with_reducible refine And.intro (by omega) ?_)
      have hC2 := q9 (IntKind.i64.wrap (c.link + 1))
      have hA2 : Ag (fun d => d = n) M1 (M1.set n (.row (R.set (k * 8 + 1) (.i .i64 (IntKind.i64.wrap (c.link + 1)))) ty)) := Ag.set rfl
      generalize M1.set n (.row (R.set (k * 8 + 1) (.i .i64 (IntKind.i64.wrap (c.link + 1)))) ty) = M2 at hC2 hA2 ⊢
      have hP2 := hP1.ag hA2 (fun d _ g e => d2 d g (e ▸ q1))
      have hL2 := hL1.ag hA2 (fun d _ g e => d3 d g (e ▸ q1))
      have hA3 : Ag (fun n => GP n ∨ GL n ∨ GC n) M M2 := hA.then (hA2.mono (fun d e => .inr (.inr (e ▸ q1))))
      obtain ⟨n2, cap2, R2, ty2, y2, hx2, q12, r2, r3, r4, r5, r6, r7, r8, _⟩ := hC2.put (k := k) (List.getElem?_set_self (by omega))
      rw [List.length_set] at hx2
      have hx3 := hx.symm.trans hx2
      cases hx3
      have hy2 := getD_of r5
      have ly : ∀ {M' : List Blk} {e a' b' : Nat} {K : SV → Prop}, lenB (.slice e a' b') M' y2 K = K (.i .i64 c.key.length) := r6.lenB
      have oy := r6.one
      (refine top_in ?_; simp -implicitDefEqProofs only [go_sem, -List.reduceReplicate, ↓L_gdZ_tt, ↓L_gdZ_tf, ↓L_gdZ_ft, ↓L_gdZ_ff, ↓T_and, ↓T_imp, ↓T_all, hx, r2, hy2, ly, oy]; try simp only [top_out])
      have hfin : ∃ n', n' < m ∧ ∃ k1 s2 cs1, k1 + n' = cs.length ∧ St.Right s2 ∧ cs1.length = cs.length ∧ PO M2 GP xp s2.ps ∧ LO M2 GL xl s2.ls ∧ CO M2 GC xc cs1 ∧ Ag (fun n => GP n ∨ GL n ∨ GC n) M M2 ∧ IntKind.i64.wrap ((k : Int) + 1) = (k1 : Int) :=
        ⟨m - 1, by omega, k + 1, s2, _, by omega, hs2, List.length_set.trans hc1, hP2, hL2, hC2, hA3, w64 (by omega) (by omega)⟩
      refine ⟨fun e1 => ⟨by omega, by omega, by omega, by omega, by omega, fun hl => ?_, fun _ => ?_⟩, fun _ => ?_⟩
      · obtain ⟨d, capd, hy, l1, l2⟩ := r6.at (by simp only; omega)
        obtain ⟨Rk, tyk, hrk⟩ := r8 d (by rw [hy]; rfl)
        obtain ⟨l3, l4, l5⟩ := l2 0 (by simp only; omega)
        rw [hrk] at l3 l4 l5
        simp only [cellsB] at l3 l4 l5
        refine draw_rule tabOK (by kernel_rfl : _) (.p 0 (.p 1 (.p 2 (.p 3 (.p 4 (.p 5 (.p 6 (.p 7 (.p 8 (.p 9 (.p 10 (.p 11 (.p 12 (.p 13 (.e 14 [] .nil .no))))))))))))))) (by kernel_rfl) (by kernel_rfl) ?_
        (refine top_in ?_; simp -implicitDefEqProofs only [go_sem, -List.reduceReplicate, ↓L_gdZ_tt, ↓L_gdZ_tf, ↓L_gdZ_ft, ↓L_gdZ_ff, ↓T_and, ↓T_imp, ↓T_all, hx, r2, hy2, hy, hrk, l3, l4]; try simp only [top_out])
        repeat (with_reducible refine And.intro (by omega) ?_)
        simp only [← hx]
        obtain ⟨gd, gn⟩ := r7 d (by rw [hy]; rfl)
        obtain ⟨cs2, hc2, hC3⟩ := hC2.key (d := d) (by rw [hx]; intro e; cases e; exact gn rfl) hrk (c.key.getD 0 0#8 ^^^ 1#8)
        have hA4 : Ag (fun n => n = d) M2 (M2.set d (Blk.row (Rk.set 0 (SV.u8 (c.key.getD 0 0#8 ^^^ 1#8))) tyk)) := Ag.set rfl
        exact ⟨m - 1, by omega, k + 1, s2, cs2, by omega, hs2, hc2.trans (List.length_set.trans hc1), hP2.ag hA4 (fun a _ g e => d2 a g (e ▸ gd)), hL2.ag hA4 (fun a _ g e => d3 a g (e ▸ gd)), hC3, hA3.then (hA4.mono (fun a e => .inr (.inr (e ▸ gd)))), w64 (by omega) (by omega)⟩
      · simp only [← hx]; exact hfin
      · simp only [← hx]; exact hfin
    · exact dropC_all hm (hK _ M1 s2 cs1 hs2 hP1 hL1 hC1 hA)
end Go.Proofs.YtdcplcfedcmcmaaGreat.Eng

/- 'ConfigFrom': the law's walk. -/
namespace Go.Proofs.YtdcplcfedcmcmaaGreat.Eng
open Go Go.RowKit
set_option linter.unusedSimpArgs false
set_option linter.unusedVariables false

theorem PrsO.po {M : List Blk} {b : Nat} {y : SV} {l : List Pr} (h : PrsO M b y l) : PO M (fun n => b ≤ n ∧ n < M.length) y l := by
  obtain ⟨es, h1, h2, h3, h4⟩ := h
  exact ⟨es, h1, h2, h3.and h2.dn, fun e he => (h4 e he).bnd.mono (fun n g => ⟨⟨g.1.1, g.2⟩, g.1.2⟩)⟩
theorem LnsO.lo {M : List Blk} {b : Nat} {y : SV} {l : List Ln} (h : LnsO M b y l) : LO M (fun n => b ≤ n ∧ n < M.length) y l := by
  obtain ⟨es, h1, h2, h3, h4⟩ := h
  exact ⟨es, h1, h2, h3.and h2.dn, fun e he => (h4 e he).bnd.mono (fun n g => ⟨⟨g.1.1, g.2⟩, g.1.2⟩)⟩
theorem ChsO.co {M : List Blk} {b : Nat} {y : SV} {l : List Ch} (h : ChsO M b y l) : CO M (fun n => b ≤ n ∧ n < M.length) y l := by
  obtain ⟨es, h1, h2, h3, h4⟩ := h
  exact ⟨es, h1, h2, h3.and h2.dn, fun e he => ⟨(h4 e he).1.bnd.mono (fun n g => ⟨⟨g.1.1, g.2⟩, g.1.2⟩), (h4 e he).2⟩⟩
set_option maxHeartbeats 1000000 in
theorem from_ok (G G' G2 : Nat → Prop) (x y z : SV) (s : St) (cs : List Ch) (M : List Blk) (K : SV → List Blk → Prop) (hP : Prs M G x s.ps) (hL : Lns M G' y s.ls) (hC : Chs M G2 z cs) (hK : ∀ M', K (.b true) M') :
    callVC Tryz.prog 4 [x, y, z] M K := by
  have o1 := hP.one
  have o2 := hL.one
  have o3 := hC.one
  have q1 := cellsS_one o1
  have q2 := cellsS_one o2
  refine fn_rule tabOK Tryz.func4 rfl Tryz.call4 (by kernel_rfl) (fun hM => ?_)
  (refine top_in ?_; simp -implicitDefEqProofs only [Tryz.ntmps4, Tryz.results4, go_sem, -List.reduceReplicate, ↓L_gdZ_tt, ↓L_gdZ_tf, ↓L_gdZ_ft, ↓L_gdZ_ff, ↓T_and, ↓T_imp, ↓T_all, o1, o2, o3]; try simp only [top_out])
  refine first_ok _ _ (fun M1 A1 => ?_)
  have m1 := A1.1
  (refine top_in ?_; simp -implicitDefEqProofs only [go_sem, -List.reduceReplicate, ↓L_gdZ_tt, ↓L_gdZ_tf, ↓L_gdZ_ft, ↓L_gdZ_ff, ↓T_and, ↓T_imp, ↓T_all, o1, o2, o3, q1, q2]; try simp only [top_out])
  have B1 : ∀ L, Ag (fun _ => False) M (M1 ++ L) := fun L => A1.then Ag.app
  refine right_ok _ _ x y s _ _ (hP.ag (B1 _) (fun _ _ _ e => e)) (hL.ag (B1 _) (fun _ _ _ e => e)) (fun b hb => ?_)
  cases b
  · (refine top_in ?_; simp -implicitDefEqProofs only [go_sem, -List.reduceReplicate, ↓L_gdZ_tt, ↓L_gdZ_tf, ↓L_gdZ_ft, ↓L_gdZ_ff, ↓T_and, ↓T_imp, ↓T_all, o1, o2, o3, q1, q2]; try simp only [top_out])
    exact dropC_all (by simp; omega) (hK _)
  · have hs := hb.1 rfl
    (refine top_in ?_; simp -implicitDefEqProofs only [go_sem, -List.reduceReplicate, ↓L_gdZ_tt, ↓L_gdZ_tf, ↓L_gdZ_ft, ↓L_gdZ_ff, ↓T_and, ↓T_imp, ↓T_all, o1, o2, o3, q1, q2]; try simp only [top_out])
    refine fits_ok _ z cs _ _ (hC.ag (B1 _) (fun _ _ _ e => e)) ?_
    (refine top_in ?_; simp -implicitDefEqProofs only [go_sem, -List.reduceReplicate, ↓L_gdZ_tt, ↓L_gdZ_tf, ↓L_gdZ_ft, ↓L_gdZ_ff, ↓T_and, ↓T_imp, ↓T_all, o1, o2, o3, q1, q2]; try simp only [top_out])
    refine ⟨fun _ => dropC_all (by simp; have := A1.1; omega) (hK _), fun c1 => ?_⟩
    have hcs : cs.length ≤ 60 := by simpa using c1
    have hnp := hs.np
    have hnl := hs.nl
    refine ljudge_ok _ _ _ x y z s cs _ _ (hP.ag (B1 _) (fun _ _ _ e => e)) (hL.ag (B1 _) (fun _ _ _ e => e)) (hC.ag (B1 _) (fun _ _ _ e => e)) hs (by omega) (fun M2 y2 z2 s2 _ P2 L2 A2 => ?_)
    have B2 := (B1 _).then A2
    have p1 := P2.one
    have p2 := L2.one
    (refine top_in ?_; simp -implicitDefEqProofs only [go_sem, -List.reduceReplicate, ↓L_gdZ_tt, ↓L_gdZ_tf, ↓L_gdZ_ft, ↓L_gdZ_ff, ↓T_and, ↓T_imp, ↓T_all, o1, o2, o3, p1, p2, cellsS_one p1, cellsS_one p2]; try simp only [top_out])
    refine peers_ok _ x s.ps _ _ (hP.ag (B2.then Ag.app) (fun _ _ _ e => e)) (by omega) (fun p hp => by have := (hs.peer p hp).many; omega) (fun M3 y3 P3 A3 => ?_)
    have B3 := (B2.then Ag.app).then A3
    have p3 := P3.one
    (refine top_in ?_; simp -implicitDefEqProofs only [go_sem, -List.reduceReplicate, ↓L_gdZ_tt, ↓L_gdZ_tf, ↓L_gdZ_ft, ↓L_gdZ_ff, ↓T_and, ↓T_imp, ↓T_all, o1, o2, o3, p3, cellsS_one p3]; try simp only [top_out])
    refine lanes_ok _ y s.ls _ _ (hL.ag B3 (fun _ _ _ e => e)) (by omega) (fun M4 z4 L4 A4 => ?_)
    have B4 := B3.then A4
    have p4 := L4.one
    (refine top_in ?_; simp -implicitDefEqProofs only [go_sem, -List.reduceReplicate, ↓L_gdZ_tt, ↓L_gdZ_tf, ↓L_gdZ_ft, ↓L_gdZ_ff, ↓T_and, ↓T_imp, ↓T_all, o1, o2, o3, p3, p4, cellsS_one p3, cellsS_one p4]; try simp only [top_out])
    refine changes_ok _ z cs _ _ (hC.ag (B4.then Ag.app) (fun _ _ _ e => e)) (by omega) (fun M5 x5 C5 A5 => ?_)
    have B5 := (B4.then Ag.app).then A5
    have p5 := C5.chs.one
    have c5 := A5.get (n := M4.length) (B := .row [y3, z4] 27) (by rw [get_app0]; rfl) (fun e => e)
    (refine top_in ?_; simp -implicitDefEqProofs only [go_sem, -List.reduceReplicate, ↓L_gdZ_tt, ↓L_gdZ_tf, ↓L_gdZ_ft, ↓L_gdZ_ff, ↓T_and, ↓T_imp, ↓T_all, o1, o2, o3, p3, p4, p5, c5]; try simp only [top_out])
    have m3 := A4.1
    have m5 := A5.1
    rw [List.length_append, List.length_singleton] at m5
    have P5 := (P3.po).ag (A4.then (Ag.app.then A5)) (fun _ _ _ e => e)
    have L5 := (L4.lo).ag ((Ag.app (S := fun _ => False)).then A5) (fun _ _ _ e => e)
    have CC := C5.co
    refine asked_ok _ _ _ y3 z4 x5 s cs _ _ P5.prs L5.lns CC.chs hs (fun M6 A6 => ?_)
    have m6 := A6.1
    have c6 := A6.get c5 (fun e => e)
    (refine top_in ?_; simp -implicitDefEqProofs only [go_sem, -List.reduceReplicate, ↓L_gdZ_tt, ↓L_gdZ_tf, ↓L_gdZ_ft, ↓L_gdZ_ff, ↓T_and, ↓T_imp, ↓T_all, o1, o2, o3, p3, p4, p5, c6]; try simp only [top_out])
    refine over_ok _ _ _ y3 z4 x5 s cs _ _ (P5.ag A6 (fun _ _ _ e => e)) (L5.ag A6 (fun _ _ _ e => e)) (CC.ag A6 (fun _ _ _ e => e)) (fun n g h => by omega) (fun n g h => by simp only [List.length_append, List.length_singleton] at h; omega) (fun n g h => by simp only [List.length_append, List.length_singleton] at h; omega) (fun n g => by
      simp only [List.length_append, List.length_singleton] at g
      omega) hs (by omega) (fun v M7 s7 cs7 hs7 P7 L7 C7 A7 => ?_)
    have c7 := A7.get c6 (fun g => by
      simp only [List.length_append, List.length_singleton] at g
      omega)
    (refine top_in ?_; simp -implicitDefEqProofs only [go_sem, -List.reduceReplicate, ↓L_gdZ_tt, ↓L_gdZ_tf, ↓L_gdZ_ft, ↓L_gdZ_ff, ↓T_and, ↓T_imp, ↓T_all, o1, o2, o3, p3, p4, p5, c7]; try simp only [top_out])
    refine asked_ok _ _ _ y3 z4 x5 s7 cs7 _ _ P7.prs L7.lns C7.chs hs7 (fun M8 A8 => ?_)
    (refine top_in ?_; simp -implicitDefEqProofs only [go_sem, -List.reduceReplicate, ↓L_gdZ_tt, ↓L_gdZ_tf, ↓L_gdZ_ft, ↓L_gdZ_ff, ↓T_and, ↓T_imp, ↓T_all]; try simp only [top_out])
    have B8 := (B5.then A6).1
    have := A7.1
    have := A8.1
    exact dropC_all (by omega) (hK _)
theorem own : ownKnob Tryz.prog.godebug = none := by kernel_rfl
theorem laid : laidOutB Tryz.prog = true := by kernel_rfl
theorem law_configFrom {L0 L1 L2 : List Blk} {x y z : SV} (h0 : RPrs L0 [x]) (h1 : RLns (L0 ++ L1) [y]) (h2 : RChs (L0 ++ L1 ++ L2) [z]) : callVC Tryz.prog 4 [x, y, z] (L0 ++ L1 ++ L2) (fun v _ => v = .b true) := by
  obtain ⟨x, ps, e, h0⟩ := h0
  cases e
  obtain ⟨y, ls, e, h1⟩ := h1
  cases e
  obtain ⟨z, cs, e, h2⟩ := h2
  cases e
  exact from_ok _ _ _ x y z ⟨ps, ls⟩ cs _ _ h0.app.app h1.app h2 (fun _ => rfl)
end Go.Proofs.YtdcplcfedcmcmaaGreat.Eng
