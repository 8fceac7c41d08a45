/- Joined texts: F5, F7. -/
import Derived.Test.YtdcplcfedcmcmaaGreatMc
/- The law's own look at a configuration: what it lets through is one. -/
namespace Go.Proofs.YtdcplcfedcmcmaaGreat.Eng
open Go Go.RowKit
set_option linter.unusedSimpArgs false
set_option linter.unusedVariables false

theorem pw_adj {α : Type} {R : α → α → Prop} (ht : ∀ a b c, R a b → R b c → R a c) : ∀ {l : List α}, (∀ (i : Nat) a b, l[i]? = some a → l[i + 1]? = some b → R a b) → l.Pairwise R
  | [], _ => .nil
  | [a], _ => by simp
  | a :: b :: l, h => by
    have ih := pw_adj ht (l := b :: l) (fun i x y hx hy => h (i + 1) x y (by simpa using hx) (by simpa using hy))
    refine List.pairwise_cons.2 ⟨fun x hx => ?_, ih⟩
    have hab := h 0 a b rfl rfl
    rcases List.mem_cons.1 hx with rfl | hx
    · exact hab
    · exact ht _ _ _ hab ((List.pairwise_cons.1 ih).1 x hx)
structure LaneG (s : St) (i : Nat) (l : Ln) : Prop where
  ok : l.Ok
  ord : ∀ q, 0 < i → s.ls[i - 1]? = some q → ltB q.key l.key = true
structure PeerG (s : St) (i : Nat) (p : Pr) : Prop where
  link : 1 ≤ p.link ∧ p.link ≤ 4294967295
  ord : ∀ q, 0 < i → s.ps[i - 1]? = some q → q.link < p.link
  many : p.pfx.length ≤ 16
  has : ∃ l ∈ s.ls, l.key = p.key
  keys : ∀ (j : Nat) q, j < i → s.ps[j]? = some q → q.key ≠ p.key ∧ ∀ x ∈ p.pfx, x ∉ q.pfx
  valid : ∀ x ∈ p.pfx, validP x = true
  pord : ∀ (j : Nat) x y, p.pfx[j]? = some x → p.pfx[j + 1]? = some y → ltP x y
theorem right_of {s : St} (h1 : s.ps.length ≤ 16) (h2 : s.ls.length ≤ 32) (h3 : ∀ (i : Nat) l, s.ls[i]? = some l → LaneG s i l) (h4 : ∀ (i : Nat) p, s.ps[i]? = some p → PeerG s i p) : s.Right := by
  have pw : ∀ {α : Type} {l : List α} {R : α → α → Prop}, (∀ (i j : Nat) a b, i < j → l[i]? = some a → l[j]? = some b → R a b) → l.Pairwise R := fun {α l R} h => List.pairwise_iff_getElem.2 (fun i j hi hj hij => h i j _ _ hij (List.getElem?_eq_getElem hi) (List.getElem?_eq_getElem hj))
  refine ⟨h1, h2, fun l hl => ?_, pw_adj (R := fun a b : Ln => ltB a.key b.key = true) (fun a b c => ltB_trans) (fun i a b ha hb => (h3 (i + 1) b hb).ord a (by omega) ha), fun p hp => ?_, pw_adj (fun a b c h h' => by omega) (fun i a b ha hb => (h4 (i + 1) b hb).ord a (by omega) ha),
    pw (fun i j a b hij ha hb => ((h4 j b hb).keys i a hij ha).1), pw (fun i j a b hij ha hb x hx hx' => ((h4 j b hb).keys i a hij ha).2 x hx' hx), fun p hp => ?_⟩
  · obtain ⟨i, hi⟩ := List.getElem?_of_mem hl
    exact (h3 i l hi).ok
  · obtain ⟨i, hi⟩ := List.getElem?_of_mem hp
    have g := h4 i p hi
    exact ⟨g.link, g.many, g.valid, pw_adj (R := ltP) (fun a b c => ltP_trans) g.pord⟩
  · obtain ⟨i, hi⟩ := List.getElem?_of_mem hp
    exact (h4 i p hi).has
theorem dropF {M M' : List Blk} {b : Bool} {K : SV → List Blk → Prop} (hM : ∀ (n : Nat) (B : Blk), M[n]? = some B → B.lt M.length = true) (hA : Ag (fun _ => False) M M') (hK : K (.b b) M) : dropC M.length (.b b) M' K := by
  obtain ⟨L, rfl⟩ := hA.ext (fun _ _ e => e)
  exact dropC_append hM rfl hK
theorem lane_of {s : St} (h : s.Right) {i : Nat} {l : Ln} (hl : s.ls[i]? = some l) : LaneG s i l :=
  ⟨h.lane l (List.mem_of_getElem? hl), fun q h0 hq => pw_lb h.lord hq hl (by omega)⟩
theorem peer_of {s : St} (h : s.Right) {i : Nat} {p : Pr} (hp : s.ps[i]? = some p) : PeerG s i p := by
  have m := List.mem_of_getElem? hp
  have g := h.peer p m
  exact ⟨g.link, fun q h0 hq => pw_lb h.pord hq hp (by omega), g.many, h.has p m, fun j q hj hq => ⟨pw_lb h.keys hq hp hj, fun x hx hx' => pw_lb h.pfxs hq hp hj x hx' hx⟩, g.valid, fun j x y hx hy => pw_lb g.ord hx hy (by omega)⟩
theorem joinP {F T G : Prop} (h : (F → T) → G) (h2 : F → T) : G := h h2
set_option maxHeartbeats 8000000 in
set_option maxRecDepth 20000 in
theorem lpeer_ok (G G' : Nat → Prop) (xp xl : SV) (s : St) (k : Nat) (M : List Blk) (K : SV → List Blk → Prop) (hP : Prs M G xp s.ps) (hL : Lns M G' xl s.ls) (hk : k < s.ps.length) (hn : s.ps.length ≤ 16) (hl : s.ls.length ≤ 32) (hsm : ∀ (i : Nat) q, i < k → s.ps[i]? = some q → q.pfx.length ≤ 16) (hK : ∀ b : Bool, (∀ p, s.ps[k]? = some p → (b = true ↔ PeerG s k p)) → K (.b b) M) :
    callVC Tryz.prog 23 [.agg [xp, xl], .i .i64 k] M K := by
  have la : ∀ {M' : List Blk} {e a' b' : Nat} {K : SV → Prop}, lenB (.slice e a' b') M' xp K = K (.i .i64 s.ps.length) := hP.lenB
  have lb : ∀ {M' : List Blk} {e a' b' : Nat} {K : SV → Prop}, lenB (.slice e a' b') M' xl K = K (.i .i64 s.ls.length) := hL.lenB
  have o1 := hP.one
  have o2 := hL.one
  obtain ⟨n, cap, e, rfl, l1, g1, g2, g3, g4, ⟨g5, g6⟩, g7, g8⟩ := hP.at hk
  have hF : ¬ PeerG s k e.1 → K (.b false) M := fun h => hK false (fun p hp => by rw [g1] at hp; cases hp; simp [h])
  have ok := g2.key.one
  have op := g2.pfx.one
  have lx : ∀ {M' : List Blk} {e' a' b' : Nat} {K : SV → Prop}, lenB (.slice e' a' b') M' e.2.2 K = K (.i .i64 e.1.pfx.length) := g2.pfx.lenB
  rw [show prC e = [SV.i .i64 e.1.link, e.2.1, e.2.2] from rfl] at g3
  refine fn_rule tabOK Tryz.func23 rfl Tryz.call23 (by kernel_rfl) (fun hM => ?_)
  (refine top_in ?_; simp -implicitDefEqProofs only [Tryz.ntmps23, Tryz.results23, go_sem, -List.reduceReplicate, ↓L_gdZ_tt, ↓L_gdZ_tf, ↓L_gdZ_ft, ↓L_gdZ_ff, ↓T_and, ↓T_imp, ↓T_all, o1, o2, la, lb, get_lt l1, g3, ok, op, lx]; try simp only [top_out])
  repeat (with_reducible refine And.intro (by omega) ?_)
  refine draw_rule tabOK (by kernel_rfl : _) (.p 0 (.p 1 (.p 2 (.p 3 (.p 4 (.p 5 (.p 6 (.p 7 (.p 8 (.p 9 (.p 10 (.p 11 (.p 12 (.p 13 (.p 14 (.p 15 (.p 16 (.p 17 (.p 18 (.p 19 (.p 20 (.p 21 (.p 22 (.p 23 (.p 24 (.p 25 (.p 26 (.p 27 (.p 28 (.p 29 .nil)))))))))))))))))))))))))))))) (by kernel_rfl) (by kernel_rfl) ?_
  have hA0 : ∀ L, Ag (fun _ => False) M (M ++ L) := fun L => Ag.app
  (refine top_in ?_; simp -implicitDefEqProofs only [go_sem, -List.reduceReplicate, ↓L_gdZ_tt, ↓L_gdZ_tf, ↓L_gdZ_ft, ↓L_gdZ_ff, ↓T_and, ↓T_imp, ↓T_all, o1, o2, la, lb, get_lt l1, g3, ok, op, lx]; try simp only [top_out])
  apply joinP (F := (1 ≤ e.1.link ∧ e.1.link ≤ 4294967295) ∧ (∀ q, 0 < k → s.ps[k - 1]? = some q → q.link < e.1.link) ∧ e.1.pfx.length ≤ 16)
  · intro hT
    refine ⟨fun c1 => ⟨fun c2 => ⟨fun h0 => ?_, fun h0 => ?_⟩, fun c2 => dropF hM (hA0 _) (hF fun g => by have := g.link; omega)⟩, fun c1 => dropF hM (hA0 _) (hF fun g => by have := g.link; omega)⟩
    · have wj : IntKind.i64.wrap ((k : Int) - 1) = ((k - 1 : Nat) : Int) := (w64 (by omega) (by omega)).trans (by omega)
      obtain ⟨n', cap', e', he', l1', g1', g2', g3', g4', ⟨g5', g6'⟩, _⟩ := hP.at (k := k - 1) (by omega)
      cases he'
      rw [wj, Int.toNat_natCast, g6']
      refine ⟨by omega, by omega, by omega, by omega, g5', fun c3 => ⟨fun c4 => dropF hM (hA0 _) (hF fun g => by have := g.many; omega), fun c4 => ?_⟩, fun c3 => dropF hM (hA0 _) (hF fun g => by have := g.ord _ (by omega) g1'; omega)⟩
      refine loop_code tabOK (by kernel_rfl) (fun m ts M' => ∃ (jj : Nat) (b : Bool), jj + m = s.ls.length ∧ M' = (M ++ [Blk.row [SV.sl n 0 s.ps.length cap, xl] 27, Blk.row [SV.i IntKind.i64 e.1.link, e.2.1, e.2.2] 62]) ∧ (b = true ↔ ∃ (i : Nat) (l : Ln), i < jj ∧ s.ls[i]? = some l ∧ l.key = e.1.key) ∧ frC (none :: some (.i .i64 k) :: some (.p M.length 0) :: none :: none :: some (.p (M.length + 1) 0) :: some (.b b) :: some (.i .i64 jj) :: none :: none :: none :: none :: none :: none :: none :: none :: none :: none :: none :: none :: none :: none :: none :: none :: none :: none :: none :: none :: none :: none :: none :: none :: none :: none :: none :: none :: none :: none :: none :: none :: none :: none :: none :: none :: none :: none :: none :: none :: none :: none :: none :: none :: none :: none :: none :: none :: none :: none :: none :: none :: none :: none :: none :: none :: none :: none :: none :: none :: none :: none :: none :: none :: none :: none :: none :: none :: none :: none :: none :: none :: none :: none :: none :: none :: none :: none :: none :: none :: none :: none :: none :: none :: none :: none :: none :: none :: none :: none :: none :: none :: none :: none :: none :: none :: none :: none :: none :: none :: none :: none :: none :: none :: none :: none :: none :: none :: none :: none :: none :: none :: none :: none :: none :: none :: none :: none :: none :: none :: none :: none :: none :: none :: none :: none :: none :: none :: none :: none :: none :: none :: none :: none :: none :: none :: none :: none :: none :: none :: none :: []) ts) s.ls.length ?_ ?_
      · exact ⟨0, false, by omega, rfl, ⟨fun h => (by cases h), fun ⟨i, _, h, _⟩ => by omega⟩, by simp [frC]⟩
      exact hT ⟨by omega, fun q _ hq => by rw [g1'] at hq; cases hq; omega, by omega⟩
    · refine ⟨fun c4 => dropF hM (hA0 _) (hF fun g => by have := g.many; omega), fun c4 => ?_⟩
      refine loop_code tabOK (by kernel_rfl) (fun m ts M' => ∃ (jj : Nat) (b : Bool), jj + m = s.ls.length ∧ M' = (M ++ [Blk.row [SV.sl n 0 s.ps.length cap, xl] 27, Blk.row [SV.i IntKind.i64 e.1.link, e.2.1, e.2.2] 62]) ∧ (b = true ↔ ∃ (i : Nat) (l : Ln), i < jj ∧ s.ls[i]? = some l ∧ l.key = e.1.key) ∧ frC (none :: some (.i .i64 k) :: some (.p M.length 0) :: none :: none :: some (.p (M.length + 1) 0) :: some (.b b) :: some (.i .i64 jj) :: none :: none :: none :: none :: none :: none :: none :: none :: none :: none :: none :: none :: none :: none :: none :: none :: none :: none :: none :: none :: none :: none :: none :: none :: none :: none :: none :: none :: none :: none :: none :: none :: none :: none :: none :: none :: none :: none :: none :: none :: none :: none :: none :: none :: none :: none :: none :: none :: none :: none :: none :: none :: none :: none :: none :: none :: none :: none :: none :: none :: none :: none :: none :: none :: none :: none :: none :: none :: none :: none :: none :: none :: none :: none :: none :: none :: none :: none :: none :: none :: none :: none :: none :: none :: none :: none :: none :: none :: none :: none :: none :: none :: none :: none :: none :: none :: none :: none :: none :: none :: none :: none :: none :: none :: none :: none :: none :: none :: none :: none :: none :: none :: none :: none :: none :: none :: none :: none :: none :: none :: none :: none :: none :: none :: none :: none :: none :: none :: none :: none :: none :: none :: none :: none :: none :: none :: none :: none :: none :: none :: none :: []) ts) s.ls.length ?_ ?_
      · exact ⟨0, false, by omega, rfl, ⟨fun h => (by cases h), fun ⟨i, _, h, _⟩ => by omega⟩, by simp [frC]⟩
      exact hT ⟨by omega, fun q h => by omega, by omega⟩
  · rintro ⟨f1, f2, f3⟩
    have b0 : (M ++ [Blk.row [SV.sl n 0 s.ps.length cap, xl] 27, Blk.row [SV.i IntKind.i64 e.1.link, e.2.1, e.2.2] 62])[M.length]? = some (.row [SV.sl n 0 s.ps.length cap, xl] 27) := by rw [get_app0]; rfl
    have b1 : (M ++ [Blk.row [SV.sl n 0 s.ps.length cap, xl] 27, Blk.row [SV.i IntKind.i64 e.1.link, e.2.1, e.2.2] 62])[M.length + 1]? = some (.row [SV.i IntKind.i64 e.1.link, e.2.1, e.2.2] 62) := by rw [get_app]; rfl
    have hA1 : Ag (fun _ => False) M (M ++ [Blk.row [SV.sl n 0 s.ps.length cap, xl] 27, Blk.row [SV.i IntKind.i64 e.1.link, e.2.1, e.2.2] 62]) := Ag.app
    generalize M ++ [Blk.row [SV.sl n 0 s.ps.length cap, xl] 27, Blk.row [SV.i IntKind.i64 e.1.link, e.2.1, e.2.2] 62] = M1 at b0 b1 hA1 ⊢
    have hP1 := hP.ag hA1 (fun _ _ _ e => e)
    have hL1 := hL.ag hA1 (fun _ _ _ e => e)
    have e1 := g2.ag hA1 (fun _ _ _ e => e)
    · rintro m ts M1 ⟨jj, b, hj, rfl, hb, hf⟩
      obtain ⟨f, rfl⟩ := frC_open _ _ 0 hf
      clear hf
      (refine top_in ?_; simp -implicitDefEqProofs only [go_sem, -List.reduceReplicate, ↓L_gdZ_tt, ↓L_gdZ_tf, ↓L_gdZ_ft, ↓L_gdZ_ff, ↓T_and, ↓T_imp, ↓T_all, b0, b1, la, lb, lx, o1, o2, ok, op]; try simp only [top_out])
      refine ⟨fun c5 => ?_, fun c5 => ?_⟩
      · obtain ⟨n2, cap2, el, rfl, q1, q2, q3, q4, q5, q6, _⟩ := hL1.at (k := jj) (by omega)
        refine draw_rule tabOK (by kernel_rfl : _) (.p 0 (.p 1 (.p 2 (.p 3 (.p 4 (.p 5 (.p 6 (.p 7 (.p 8 (.p 9 (.e 10 [] (.p 11 (.p 12 .nil)) .no))))))))))) (by kernel_rfl) (by kernel_rfl) ?_
        cases b
        · (refine top_in ?_; simp -implicitDefEqProofs only [go_sem, -List.reduceReplicate, ↓L_gdZ_tt, ↓L_gdZ_tf, ↓L_gdZ_ft, ↓L_gdZ_ff, ↓T_and, ↓T_imp, ↓T_all, b0, b1, la, lb, lx, o1, o2, ok, op, get_lt q1, q6]; try simp only [top_out])
          repeat (with_reducible refine And.intro (by omega) ?_)
          refine same_byt _ _ _ _ _ _ q3.key e1.key ?_
          (refine top_in ?_; simp -implicitDefEqProofs only [go_sem, -List.reduceReplicate, ↓L_gdZ_tt, ↓L_gdZ_tf, ↓L_gdZ_ft, ↓L_gdZ_ff, ↓T_and, ↓T_imp, ↓T_all, b0, b1, la, lb, lx, o1, o2, ok, op]; try simp only [top_out])
          refine ⟨m - 1, by omega, jj + 1, _, by omega, ⟨fun h => ⟨jj, el.1, by omega, q2, by simpa using h⟩, fun ⟨i, l, hi, hl', hk'⟩ => ?_⟩, rfl, w64 (by omega) (by omega)⟩
          rcases Nat.lt_or_ge i jj with g | g
          · exact absurd (hb.2 ⟨i, l, g, hl', hk'⟩) (by simp)
          · obtain rfl : i = jj := by omega
            rw [q2] at hl'; cases hl'
            simpa using hk'
        · (refine top_in ?_; simp -implicitDefEqProofs only [go_sem, -List.reduceReplicate, ↓L_gdZ_tt, ↓L_gdZ_tf, ↓L_gdZ_ft, ↓L_gdZ_ff, ↓T_and, ↓T_imp, ↓T_all, b0, b1, la, lb, lx, o1, o2, ok, op, get_lt q1, q6]; try simp only [top_out])
          refine ⟨m - 1, by omega, jj + 1, true, by omega, ⟨fun _ => ?_, fun _ => rfl⟩, rfl, w64 (by omega) (by omega)⟩
          obtain ⟨i, l, hi, hl', hk'⟩ := hb.1 rfl
          exact ⟨i, l, by omega, hl', hk'⟩
      · have hb' : b = true ↔ ∃ l ∈ s.ls, l.key = e.1.key := hb.trans ⟨fun ⟨i, l, _, h, h'⟩ => ⟨l, List.mem_of_getElem? h, h'⟩, fun ⟨l, h, h'⟩ => by
          obtain ⟨i, hi⟩ := List.getElem?_of_mem h
          exact ⟨i, l, by have := (List.getElem?_eq_some_iff.1 hi).1; omega, hi, h'⟩⟩
        clear hb
        refine loop_code tabOK (by kernel_rfl) (fun m ts M' => ∃ jj : Nat, jj + m = k ∧ M' = M1 ∧ (∀ (i : Nat) q, i < jj → s.ps[i]? = some q → q.key ≠ e.1.key ∧ ∀ x ∈ e.1.pfx, x ∉ q.pfx) ∧ frC (none :: some (.i .i64 k) :: some (.p M.length 0) :: none :: none :: some (.p (M.length + 1) 0) :: some (.b b) :: none :: some (.i .i64 jj) :: none :: none :: none :: none :: none :: none :: none :: none :: none :: none :: none :: none :: none :: none :: none :: none :: none :: none :: none :: none :: none :: none :: none :: none :: none :: none :: none :: none :: none :: none :: none :: none :: none :: none :: none :: none :: none :: none :: none :: none :: none :: none :: none :: none :: none :: none :: none :: none :: none :: none :: none :: none :: none :: none :: none :: none :: none :: none :: none :: none :: none :: none :: none :: none :: none :: none :: none :: none :: none :: none :: none :: none :: none :: none :: none :: none :: none :: none :: none :: none :: none :: none :: none :: none :: none :: none :: none :: none :: none :: none :: none :: none :: none :: none :: none :: none :: none :: none :: none :: none :: none :: none :: none :: none :: none :: none :: none :: none :: none :: none :: none :: none :: none :: none :: none :: none :: none :: none :: none :: none :: none :: none :: none :: none :: none :: none :: none :: none :: none :: none :: none :: none :: none :: none :: none :: none :: none :: none :: none :: none :: []) ts) k ?_ ?_
        · exact ⟨0, by omega, rfl, fun i q h => by omega, by simp [frC]⟩
        · clear hj
          rintro m ts M1 ⟨jj, hj, rfl, hq, hf⟩
          obtain ⟨f, rfl⟩ := frC_open _ _ 0 hf
          clear hf
          (refine top_in ?_; simp -implicitDefEqProofs only [go_sem, -List.reduceReplicate, ↓L_gdZ_tt, ↓L_gdZ_tf, ↓L_gdZ_ft, ↓L_gdZ_ff, ↓T_and, ↓T_imp, ↓T_all, b0, b1, la, lb, lx, o1, o2, ok, op]; try simp only [top_out])
          refine ⟨fun c6 => ?_, fun c6 => ?_⟩
          · obtain ⟨n3, cap3, ef, he3, r1, r2, r3, r4, r5, _, r8, r9⟩ := hP1.at (k := jj) (by omega)
            cases he3
            have hse := hsm jj _ (by omega) r2
            have lf : ∀ {M' : List Blk} {e' a' b' : Nat} {K : SV → Prop}, lenB (.slice e' a' b') M' ef.2.2 K = K (.i .i64 ef.1.pfx.length) := r3.pfx.lenB
            refine draw_rule tabOK (by kernel_rfl : _) (.p 0 (.p 1 (.p 2 (.p 3 (.p 4 (.p 5 (.p 6 (.p 7 (.e 8 [] .nil .no))))))))) (by kernel_rfl) (by kernel_rfl) ?_
            (refine top_in ?_; simp -implicitDefEqProofs only [go_sem, -List.reduceReplicate, ↓L_gdZ_tt, ↓L_gdZ_tf, ↓L_gdZ_ft, ↓L_gdZ_ff, ↓T_and, ↓T_imp, ↓T_all, b0, b1, la, lb, lx, lf, o1, o2, ok, op, get_lt r1, r8, r9]; try simp only [top_out])
            repeat (with_reducible refine And.intro (by omega) ?_)
            refine same_byt _ _ _ _ _ _ r3.key e1.key ?_
            (refine top_in ?_; simp -implicitDefEqProofs only [go_sem, -List.reduceReplicate, ↓L_gdZ_tt, ↓L_gdZ_tf, ↓L_gdZ_ft, ↓L_gdZ_ff, ↓T_and, ↓T_imp, ↓T_all, b0, b1, la, lb, lx, lf, o1, o2, ok, op]; try simp only [top_out])
            refine ⟨fun hne => dropF hM hA1 (hF fun g => (g.keys jj _ (by omega) r2).1 (by simpa using hne)), fun hne => ?_⟩
            refine loop_code tabOK (by kernel_rfl) (fun m ts M' => ∃ aa : Nat, aa + m = e.1.pfx.length ∧ M' = M1 ∧ (∀ (i : Nat) x, i < aa → e.1.pfx[i]? = some x → x ∉ ef.1.pfx) ∧ frC (none :: some (.i .i64 k) :: some (.p M.length 0) :: none :: none :: some (.p (M.length + 1) 0) :: some (.b b) :: none :: some (.i .i64 jj) :: some (.i .i64 aa) :: none :: none :: none :: none :: none :: none :: none :: none :: none :: none :: none :: none :: none :: none :: none :: none :: none :: none :: none :: none :: none :: none :: none :: none :: none :: none :: none :: none :: none :: none :: none :: none :: none :: none :: none :: none :: none :: none :: none :: none :: none :: none :: none :: none :: none :: none :: none :: none :: none :: none :: none :: none :: none :: none :: none :: none :: none :: none :: none :: none :: none :: none :: none :: none :: none :: none :: none :: none :: none :: none :: none :: none :: none :: none :: none :: none :: none :: none :: none :: none :: none :: none :: none :: none :: none :: none :: none :: none :: none :: none :: none :: none :: none :: none :: none :: none :: none :: none :: none :: none :: none :: none :: none :: none :: none :: none :: none :: none :: none :: none :: none :: none :: none :: none :: none :: none :: none :: none :: none :: none :: none :: none :: none :: none :: none :: none :: none :: none :: none :: none :: none :: none :: none :: none :: none :: none :: none :: none :: none :: []) ts) e.1.pfx.length ?_ ?_
            · exact ⟨0, by omega, rfl, fun i q h => by omega, by simp [frC]⟩
            · rintro m2 ts M1 ⟨aa, ha, rfl, hx, hf⟩
              obtain ⟨f, rfl⟩ := frC_open _ _ 0 hf
              clear hf
              (refine top_in ?_; simp -implicitDefEqProofs only [go_sem, -List.reduceReplicate, ↓L_gdZ_tt, ↓L_gdZ_tf, ↓L_gdZ_ft, ↓L_gdZ_ff, ↓T_and, ↓T_imp, ↓T_all, b0, b1, la, lb, lx, lf, o1, o2, ok, op]; try simp only [top_out])
              refine ⟨fun c7 => ?_, fun c7 => ?_⟩
              · obtain ⟨n4, cap4, x, he4, x1, x2, x3, x4⟩ := Pxs.at (k := aa) e1.pfx (by omega)
                refine loop_code tabOK (by kernel_rfl) (fun m ts M' => ∃ cc : Nat, cc + m = ef.1.pfx.length ∧ M' = M1 ∧ (∀ (i : Nat) y, i < cc → ef.1.pfx[i]? = some y → x ≠ y) ∧ frC (none :: some (.i .i64 k) :: some (.p M.length 0) :: none :: none :: some (.p (M.length + 1) 0) :: some (.b b) :: none :: some (.i .i64 jj) :: some (.i .i64 aa) :: some (.i .i64 cc) :: none :: none :: none :: none :: none :: none :: none :: none :: none :: none :: none :: none :: none :: none :: none :: none :: none :: none :: none :: none :: none :: none :: none :: none :: none :: none :: none :: none :: none :: none :: none :: none :: none :: none :: none :: none :: none :: none :: none :: none :: none :: none :: none :: none :: none :: none :: none :: none :: none :: none :: none :: none :: none :: none :: none :: none :: none :: none :: none :: none :: none :: none :: none :: none :: none :: none :: none :: none :: none :: none :: none :: none :: none :: none :: none :: none :: none :: none :: none :: none :: none :: none :: none :: none :: none :: none :: none :: none :: none :: none :: none :: none :: none :: none :: none :: none :: none :: none :: none :: none :: none :: none :: none :: none :: none :: none :: none :: none :: none :: none :: none :: none :: none :: none :: none :: none :: none :: none :: none :: none :: none :: none :: none :: none :: none :: none :: none :: none :: none :: none :: none :: none :: none :: none :: none :: none :: none :: none :: []) ts) ef.1.pfx.length ?_ ?_
                · exact ⟨0, by omega, rfl, fun i q h => by omega, by simp [frC]⟩
                · rintro m3 ts M1 ⟨cc, hcc, rfl, hy, hf⟩
                  obtain ⟨f, rfl⟩ := frC_open _ _ 0 hf
                  clear hf
                  (refine top_in ?_; simp -implicitDefEqProofs only [go_sem, -List.reduceReplicate, ↓L_gdZ_tt, ↓L_gdZ_tf, ↓L_gdZ_ft, ↓L_gdZ_ff, ↓T_and, ↓T_imp, ↓T_all, b0, b1, la, lb, lx, lf, o1, o2, ok, op, get_lt r1, r9]; try simp only [top_out])
                  repeat (with_reducible refine And.intro (by omega) ?_)
                  refine ⟨fun c8 => ?_, fun c8 => ?_⟩
                  · obtain ⟨n5, cap5, y, he5, y1, y2, y3, y4⟩ := Pxs.at (k := cc) r3.pfx (by omega)
                    refine draw_rule tabOK (by kernel_rfl : _) (.p 0 (.p 1 (.p 2 (.p 3 (.p 4 (.p 5 (.p 6 (.p 7 (.p 8 (.p 9 (.p 10 (.p 11 (.p 12 (.p 13 (.e 14 [] .nil .no))))))))))))))) (by kernel_rfl) (by kernel_rfl) ?_
                    have b1' := b1
                    rw [he4] at b1'
                    have r9' := r9
                    simp only [he5] at r9'
                    (refine top_in ?_; simp -implicitDefEqProofs only [go_sem, -List.reduceReplicate, ↓L_gdZ_tt, ↓L_gdZ_tf, ↓L_gdZ_ft, ↓L_gdZ_ff, ↓T_and, ↓T_imp, ↓T_all, b0, b1', la, o1, o2, ok, get_lt r1, r9', get_lt x1, get_lt y1, x3, y3]; try simp only [top_out])
                    repeat (with_reducible refine And.intro (by omega) ?_)
                    refine sameX_ok _ _ _ _ ?_
                    (refine top_in ?_; simp -implicitDefEqProofs only [go_sem, -List.reduceReplicate, ↓L_gdZ_tt, ↓L_gdZ_tf, ↓L_gdZ_ft, ↓L_gdZ_ff, ↓T_and, ↓T_imp, ↓T_all, b0, b1', la, o1, o2, ok, get_lt r1, r9']; try simp only [top_out])
                    refine ⟨fun hxy => dropF hM hA1 (hF fun g => (g.keys jj _ (by omega) r2).2 x (List.mem_of_getElem? x2) (by rw [hxy]; exact List.mem_of_getElem? y2)), fun hxy => ⟨m3 - 1, by omega, cc + 1, by omega, fun i y' hi hy' => ?_, w64 (by omega) (by omega)⟩⟩
                    rcases Nat.lt_or_ge i cc with g | g
                    · exact hy i y' g hy'
                    · obtain rfl : i = cc := by omega
                      rw [y2] at hy'; cases hy'
                      exact hxy
                  · obtain rfl : cc = ef.1.pfx.length := by omega
                    refine ⟨m2 - 1, by omega, aa + 1, by omega, fun i q hi hq' => ?_, w64 (by omega) (by omega)⟩
                    rcases Nat.lt_or_ge i aa with g | g
                    · exact hx i q g hq'
                    · obtain rfl : i = aa := by omega
                      rw [x2] at hq'; cases hq'
                      intro hmem
                      obtain ⟨t, ht⟩ := List.getElem?_of_mem hmem
                      exact hy t _ (List.getElem?_eq_some_iff.1 ht).1 ht rfl
              · obtain rfl : aa = e.1.pfx.length := by omega
                refine ⟨m - 1, by omega, jj + 1, by omega, fun i q hi hq' => ?_, w64 (by omega) (by omega)⟩
                rcases Nat.lt_or_ge i jj with g | g
                · exact hq i q g hq'
                · obtain rfl : i = jj := by omega
                  rw [r2] at hq'; cases hq'
                  refine ⟨fun h => by rw [h] at hne; simp at hne, fun x hmem => ?_⟩
                  obtain ⟨t, ht⟩ := List.getElem?_of_mem hmem
                  exact hx t x (List.getElem?_eq_some_iff.1 ht).1 ht
          · obtain rfl : jj = k := by omega
            clear hj c6
            refine loop_code tabOK (by kernel_rfl) (fun m ts M' => ∃ aa : Nat, aa + m = e.1.pfx.length ∧ M' = M1 ∧ (∀ (i : Nat) x, i < aa → e.1.pfx[i]? = some x → validP x = true ∧ ∀ y, 0 < i → e.1.pfx[i - 1]? = some y → ltP y x) ∧ frC (none :: some (.i .i64 jj) :: some (.p M.length 0) :: none :: none :: some (.p (M.length + 1) 0) :: some (.b b) :: none :: none :: none :: none :: some (.i .i64 aa) :: none :: none :: none :: none :: none :: none :: none :: none :: none :: none :: none :: none :: none :: none :: none :: none :: none :: none :: none :: none :: none :: none :: none :: none :: none :: none :: none :: none :: none :: none :: none :: none :: none :: none :: none :: none :: none :: none :: none :: none :: none :: none :: none :: none :: none :: none :: none :: none :: none :: none :: none :: none :: none :: none :: none :: none :: none :: none :: none :: none :: none :: none :: none :: none :: none :: none :: none :: none :: none :: none :: none :: none :: none :: none :: none :: none :: none :: none :: none :: none :: none :: none :: none :: none :: none :: none :: none :: none :: none :: none :: none :: none :: none :: none :: none :: none :: none :: none :: none :: none :: none :: none :: none :: none :: none :: none :: none :: none :: none :: none :: none :: none :: none :: none :: none :: none :: none :: none :: none :: none :: none :: none :: none :: none :: none :: none :: none :: none :: none :: none :: none :: none :: none :: none :: none :: none :: none :: []) ts) e.1.pfx.length ?_ ?_
            · exact ⟨0, by omega, rfl, fun i q h => by omega, by simp [frC]⟩
            · rintro m2 ts M1 ⟨aa, ha, rfl, hx, hf⟩
              obtain ⟨f, rfl⟩ := frC_open _ _ 0 hf
              clear hf
              (refine top_in ?_; simp -implicitDefEqProofs only [go_sem, -List.reduceReplicate, ↓L_gdZ_tt, ↓L_gdZ_tf, ↓L_gdZ_ft, ↓L_gdZ_ff, ↓T_and, ↓T_imp, ↓T_all, b0, b1, la, lb, lx, o1, o2, ok, op]; try simp only [top_out])
              refine ⟨fun c7 => ?_, fun c7 => ?_⟩
              · obtain ⟨n4, cap4, x, he4, x1, x2, x3, x4⟩ := Pxs.at (k := aa) e1.pfx (by omega)
                have b1' := b1
                rw [he4] at b1'
                (refine top_in ?_; simp -implicitDefEqProofs only [go_sem, -List.reduceReplicate, ↓L_gdZ_tt, ↓L_gdZ_tf, ↓L_gdZ_ft, ↓L_gdZ_ff, ↓T_and, ↓T_imp, ↓T_all, he4, b0, b1', la, o1, o2, ok, get_lt x1, x3]; try simp only [top_out])
                repeat (with_reducible refine And.intro (by omega) ?_)
                refine rvalid_ok _ _ _ ?_
                (refine top_in ?_; simp -implicitDefEqProofs only [go_sem, -List.reduceReplicate, ↓L_gdZ_tt, ↓L_gdZ_tf, ↓L_gdZ_ft, ↓L_gdZ_ff, ↓T_and, ↓T_imp, ↓T_all, he4, b0, b1', la, o1, o2, ok, get_lt x1, x3]; try simp only [top_out])
                refine draw_rule tabOK (by kernel_rfl : _) (.p 0 (.p 1 (.p 2 (.p 3 (.p 4 (.p 5 (.p 6 (.p 7 (.p 8 (.p 9 (.p 10 (.p 11 (.p 12 (.p 13 (.p 14 (.p 15 (.p 16 (.e 17 [] (.p 18 (.p 19 (.p 20 .nil))) .no)))))))))))))))))) (by kernel_rfl) (by kernel_rfl) ?_
                cases hv : validP x
                · (refine top_in ?_; simp -implicitDefEqProofs only [go_sem, -List.reduceReplicate, ↓L_gdZ_tt, ↓L_gdZ_tf, ↓L_gdZ_ft, ↓L_gdZ_ff, ↓T_and, ↓T_imp, ↓T_all, he4, b0, b1', la, o1, o2, ok, get_lt x1, x3]; try simp only [top_out])
                  exact dropF hM hA1 (hF fun g => by have := g.valid x (List.mem_of_getElem? x2); simp [hv] at this)
                · (refine top_in ?_; simp -implicitDefEqProofs only [go_sem, -List.reduceReplicate, ↓L_gdZ_tt, ↓L_gdZ_tf, ↓L_gdZ_ft, ↓L_gdZ_ff, ↓T_and, ↓T_imp, ↓T_all, he4, b0, b1', la, o1, o2, ok, get_lt x1, x3]; try simp only [top_out])
                  refine ⟨fun h0 => ?_, fun h0 => ?_⟩
                  · have wj : IntKind.i64.wrap ((aa : Int) - 1) = ((aa - 1 : Nat) : Int) := (w64 (by omega) (by omega)).trans (by omega)
                    obtain ⟨n5, cap5, y, he5, y1, y2, y3, y4⟩ := Pxs.at (k := aa - 1) e1.pfx (by omega)
                    have he6 := he4.symm.trans he5
                    cases he6
                    simp only [wj, Int.toNat_natCast, y3]
                    repeat (with_reducible refine And.intro (by omega) ?_)
                    refine rcmp_ok _ _ _ _ ?_
                    (refine top_in ?_; simp -implicitDefEqProofs only [go_sem, -List.reduceReplicate, ↓L_gdZ_tt, ↓L_gdZ_tf, ↓L_gdZ_ft, ↓L_gdZ_ff, ↓T_and, ↓T_imp, ↓T_all, b0, b1', la, o1, o2, ok]; try simp only [top_out])
                    refine ⟨fun hc => dropF hM hA1 (hF fun g => ?_), fun hc => ⟨m2 - 1, by omega, aa + 1, by omega, fun i x' hi hx' => ?_, w64 (by omega) (by omega)⟩⟩
                    · have := cmpP_lt.2 (g.pord (aa - 1) y x y2 (by rw [show aa - 1 + 1 = aa by omega]; exact x2))
                      omega
                    · rcases Nat.lt_or_ge i aa with g | g
                      · exact hx i x' g hx'
                      · obtain rfl : i = aa := by omega
                        rw [x2] at hx'; cases hx'
                        exact ⟨hv, fun y' _ hy' => by rw [y2] at hy'; cases hy'; exact cmpP_lt.1 (by omega)⟩
                  · refine ⟨m2 - 1, by omega, aa + 1, by omega, fun i x' hi hx' => ?_, w64 (by omega) (by omega)⟩
                    rcases Nat.lt_or_ge i aa with g | g
                    · exact hx i x' g hx'
                    · obtain rfl : i = aa := by omega
                      rw [x2] at hx'; cases hx'
                      exact ⟨hv, fun y h => by omega⟩
              · obtain rfl : aa = e.1.pfx.length := by omega
                refine dropF hM hA1 (hK b (fun p hp => ?_))
                rw [g1] at hp; cases hp
                refine ⟨fun h => ⟨f1, f2, f3, hb'.1 h, hq, fun x hmem => ?_, fun j x y h1 h2 => (hx _ _ (List.getElem?_eq_some_iff.1 h2).1 h2).2 x (by omega) h1⟩, fun g => hb'.2 g.has⟩
                obtain ⟨t, ht⟩ := List.getElem?_of_mem hmem
                exact (hx t x (List.getElem?_eq_some_iff.1 ht).1 ht).1
end Go.Proofs.YtdcplcfedcmcmaaGreat.Eng

/- The law's writing over copies, in their places: lists, their elements, one cell. -/
namespace Go.Proofs.YtdcplcfedcmcmaaGreat.Eng
open Go Go.RowKit
set_option linter.unusedSimpArgs false
set_option linter.unusedVariables false

theorem all_set {c : List SV} (h : c.all SV.one = true) {j : Nat} {v : SV} (hv : v.one = true) : (c.set j v).all SV.one = true := by
  rw [List.all_eq_true] at *
  intro a ha
  rcases List.mem_or_eq_of_mem_set ha with g | rfl
  · exact h a g
  · exact hv
theorem Own.put {M : List Blk} {k : Nat} {x : SV} {cs : List (List SV)} {i : Nat} {c : List SV} (h : Own M k x cs) (hi : cs[i]? = some c) :
    ∃ n cap R ty, x = .sl n 0 cs.length cap ∧ M[n]? = some (.row R ty) ∧ i * k + k ≤ R.length ∧ (∀ j, j < k → R[i * k + j]? = c[j]?) ∧
    ∀ j v, j < k → v.one = true → Own (M.set n (.row (R.set (i * k + j) v) ty)) k x (cs.set i (c.set j v)) := by
  obtain ⟨h0, h1, ⟨rfl, rfl⟩ | ⟨n, cap, zz, ty, rfl, h2, h3⟩⟩ := h
  · cases hi
  have hlk : ∀ c ∈ cs, c.length = k := fun c hc => (h1 c hc).1
  have hil := (List.getElem?_eq_some_iff.1 hi).1
  have hm : (i + 1) * k ≤ cs.length * k := Nat.mul_le_mul_right k (by omega)
  rw [Nat.add_mul, Nat.one_mul] at hm
  refine ⟨n, cap, cs.flatten ++ zz, ty, rfl, h2, by rw [List.length_append, flat_length hlk]; omega, fun j hj => flat_get hlk hi hj, fun j v hj hv => ⟨by rw [List.length_set]; exact h0, fun c' hc' => ?_, .inr ⟨n, cap, zz, ty, by rw [List.length_set], by rw [flat_set i v hlk hi hj]; exact List.getElem?_set_self (kw h2), by rw [List.length_set]; exact h3⟩⟩⟩
  rcases List.mem_or_eq_of_mem_set hc' with g | rfl
  · exact h1 c' g
  · have := h1 c (List.mem_of_getElem? hi)
    exact ⟨by rw [List.length_set]; exact this.1, all_set this.2 hv⟩

def LO (M : List Blk) (G : Nat → Prop) (x : SV) (ls : List Ln) : Prop := ∃ es : List (Ln × SV), es.map (·.1) = ls ∧ Own M 8 x (es.map lnC) ∧ NmG G x ∧ ∀ e ∈ es, LnE M (fun n => G n ∧ dnS x ≠ some n) e
def PO (M : List Blk) (G : Nat → Prop) (x : SV) (ls : List Pr) : Prop := ∃ es : List (Pr × SV × SV), es.map (·.1) = ls ∧ Own M 3 x (es.map prC) ∧ NmG G x ∧ ∀ e ∈ es, PrE M (fun n => G n ∧ dnS x ≠ some n) e
def CO (M : List Blk) (G : Nat → Prop) (x : SV) (ls : List Ch) : Prop := ∃ es : List (Ch × SV), es.map (·.1) = ls ∧ Own M 8 x (es.map chC) ∧ NmG G x ∧ ∀ e ∈ es, ChE M (fun n => G n ∧ dnS x ≠ some n) e ∧ RowF M e.2
theorem LO.lns {M : List Blk} {G : Nat → Prop} {x : SV} {ls : List Ln} (h : LO M G x ls) : Lns M G x ls := by
  obtain ⟨es, h1, h2, h3, h4⟩ := h
  exact ⟨es, h1, h2.lst (by decide), h3, fun e he => (h4 e he).mono (fun n h => h.1)⟩
theorem PO.prs {M : List Blk} {G : Nat → Prop} {x : SV} {ls : List Pr} (h : PO M G x ls) : Prs M G x ls := by
  obtain ⟨es, h1, h2, h3, h4⟩ := h
  exact ⟨es, h1, h2.lst (by decide), h3, fun e he => (h4 e he).mono (fun n h => h.1)⟩
theorem CO.chs {M : List Blk} {G : Nat → Prop} {x : SV} {ls : List Ch} (h : CO M G x ls) : Chs M G x ls := by
  obtain ⟨es, h1, h2, h3, h4⟩ := h
  exact ⟨es, h1, h2.lst (by decide), h3, fun e he => (h4 e he).1.mono (fun n h => h.1)⟩
theorem LO.ag {S G : Nat → Prop} {M M' : List Blk} {x : SV} {ls : List Ln} (h : LO M G x ls) (hA : Ag S M M') (hS : ∀ n, n < M.length → G n → ¬ S n) : LO M' G x ls := by
  obtain ⟨es, h1, h2, h3, h4⟩ := h
  exact ⟨es, h1, h2.ag hA (fun d e => hS d (h2.dn d e) (h3 d e)), h3, fun e he => (h4 e he).ag hA (fun n hn hg => hS n hn hg.1)⟩
theorem PO.ag {S G : Nat → Prop} {M M' : List Blk} {x : SV} {ls : List Pr} (h : PO M G x ls) (hA : Ag S M M') (hS : ∀ n, n < M.length → G n → ¬ S n) : PO M' G x ls := by
  obtain ⟨es, h1, h2, h3, h4⟩ := h
  exact ⟨es, h1, h2.ag hA (fun d e => hS d (h2.dn d e) (h3 d e)), h3, fun e he => (h4 e he).ag hA (fun n hn hg => hS n hn hg.1)⟩
theorem CO.ag {S G : Nat → Prop} {M M' : List Blk} {x : SV} {ls : List Ch} (h : CO M G x ls) (hA : Ag S M M') (hS : ∀ n, n < M.length → G n → ¬ S n) : CO M' G x ls := by
  obtain ⟨es, h1, h2, h3, h4⟩ := h
  exact ⟨es, h1, h2.ag hA (fun d e => hS d (h2.dn d e) (h3 d e)), h3, fun e he => ⟨(h4 e he).1.ag hA (fun n hn hg => hS n hn hg.1), (h4 e he).2.ag hA (fun d e' => hS d ((h4 e he).1.key.dn d e') ((h4 e he).1.kg d e').1)⟩⟩
theorem at_fst {α β : Type} {es : List (α × β)} {k : Nat} {l : α} (h : (es.map (·.1))[k]? = some l) : ∃ e, es[k]? = some e ∧ e.1 = l := by
  rw [List.getElem?_map] at h
  cases hg : es[k]? with
  | none => rw [hg] at h; cases h
  | some e => rw [hg] at h; cases h; exact ⟨e, rfl, rfl⟩
theorem LO.put {M : List Blk} {G : Nat → Prop} {x : SV} {ls : List Ln} {k : Nat} {l : Ln} (h : LO M G x ls) (hk : ls[k]? = some l) : ∃ n cap R ty, x = .sl n 0 ls.length cap ∧ G n ∧ M[n]? = some (.row R ty) ∧ k * 8 + 8 ≤ R.length ∧
    R[k * 8 + 2]? = some (.i .i64 l.cur) ∧ R[k * 8 + 3]? = some (.i .i64 l.next) ∧ R[k * 8 + 4]? = some (.u64 l.sc) ∧ (∀ v, LO (M.set n (.row (R.set (k * 8 + 3) (.i .i64 v)) ty)) G x (ls.set k { l with next := v })) ∧ (∀ v, LO (M.set n (.row (R.set (k * 8 + 4) (.u64 v)) ty)) G x (ls.set k { l with sc := v })) := by
  obtain ⟨es, rfl, h2, h3, h4⟩ := h
  obtain ⟨e, he, rfl⟩ := at_fst hk
  obtain ⟨n, cap, R, ty, hx, g1, g2, g3, g4⟩ := h2.put (i := k) (c := lnC e) (by rw [List.getElem?_map, he]; rfl)
  rw [List.length_map] at hx
  subst hx
  have hel := h4 e (List.mem_of_getElem? he)
  have hg : ∀ (R' : List SV) (l' : Ln) (c : List SV), c = lnC (l', e.2) → l'.key = e.1.key → Own (M.set n (.row R' ty)) 8 (.sl n 0 es.length cap) ((es.map lnC).set k c) → LO (M.set n (.row R' ty)) G (.sl n 0 es.length cap) ((es.map (·.1)).set k l') := by
    intro R' l' c hc hkey ho
    have hA : Ag (fun d => d = n) M (M.set n (.row R' ty)) := Ag.set rfl
    refine ⟨es.set k (l', e.2), by rw [List.map_set], by rw [List.map_set, ← hc]; exact ho, h3, fun e' he' => ?_⟩
    have hs : ∀ d, d < M.length → (G d ∧ dnS (.sl n 0 es.length cap) ≠ some d) → ¬ d = n := fun d _ g e => g.2 (by rw [e]; rfl)
    rcases List.mem_or_eq_of_mem_set he' with g | rfl
    · exact (h4 e' g).ag hA hs
    · have := hel.ag hA hs
      exact ⟨by rw [hkey]; exact this.key, this.kg⟩
  refine ⟨n, cap, R, ty, by rw [List.length_map], h3 n rfl, g1, g2, g3 2 (by decide), g3 3 (by decide), g3 4 (by decide), fun v => hg _ _ _ rfl rfl (g4 3 _ (by decide) rfl), fun v => hg _ _ _ rfl rfl (g4 4 _ (by decide) rfl)⟩
theorem PO.put {M : List Blk} {G : Nat → Prop} {x : SV} {ls : List Pr} {k : Nat} {l : Pr} (h : PO M G x ls) (hk : ls[k]? = some l) : ∃ n cap R ty, x = .sl n 0 ls.length cap ∧ G n ∧ M[n]? = some (.row R ty) ∧ k * 3 + 3 ≤ R.length ∧
    R[k * 3]? = some (.i .i64 l.link) ∧ ∀ v, PO (M.set n (.row (R.set (k * 3) (.i .i64 v)) ty)) G x (ls.set k { l with link := v }) := by
  obtain ⟨es, rfl, h2, h3, h4⟩ := h
  obtain ⟨e, he, rfl⟩ := at_fst hk
  obtain ⟨n, cap, R, ty, hx, g1, g2, g3, g4⟩ := h2.put (i := k) (c := prC e) (by rw [List.getElem?_map, he]; rfl)
  rw [List.length_map] at hx
  subst hx
  have hel := h4 e (List.mem_of_getElem? he)
  refine ⟨n, cap, R, ty, by rw [List.length_map], h3 n rfl, g1, g2, g3 0 (by decide), fun v => ?_⟩
  have ho := g4 0 (.i .i64 v) (by decide) rfl
  rw [Nat.add_zero] at ho
  have hA : Ag (fun d => d = n) M (M.set n (.row (R.set (k * 3) (.i .i64 v)) ty)) := Ag.set rfl
  refine ⟨es.set k ({ e.1 with link := v }, e.2), by rw [List.map_set], by rw [List.map_set]; exact ho, h3, fun e' he' => ?_⟩
  have hs : ∀ d, d < M.length → (G d ∧ dnS (.sl n 0 es.length cap) ≠ some d) → ¬ d = n := fun d _ g e => g.2 (by rw [e]; rfl)
  rcases List.mem_or_eq_of_mem_set he' with g | rfl
  · exact (h4 e' g).ag hA hs
  · have := hel.ag hA hs
    exact ⟨this.key, this.kg, this.pfx, this.pg⟩
theorem CO.put {M : List Blk} {G : Nat → Prop} {x : SV} {ls : List Ch} {k : Nat} {l : Ch} (h : CO M G x ls) (hk : ls[k]? = some l) : ∃ n cap R ty y, x = .sl n 0 ls.length cap ∧ G n ∧ M[n]? = some (.row R ty) ∧ k * 8 + 8 ≤ R.length ∧
    R[k * 8 + 1]? = some (.i .i64 l.link) ∧ R[k * 8 + 3]? = some y ∧ Byt M y l.key ∧ NmG (fun d => G d ∧ d ≠ n) y ∧ RowF M y ∧ ∀ v, CO (M.set n (.row (R.set (k * 8 + 1) (.i .i64 v)) ty)) G x (ls.set k { l with link := v }) := by
  obtain ⟨es, rfl, h2, h3, h4⟩ := h
  obtain ⟨e, he, rfl⟩ := at_fst hk
  obtain ⟨n, cap, R, ty, hx, g1, g2, g3, g4⟩ := h2.put (i := k) (c := chC e) (by rw [List.getElem?_map, he]; rfl)
  rw [List.length_map] at hx
  subst hx
  have hel := h4 e (List.mem_of_getElem? he)
  refine ⟨n, cap, R, ty, e.2, by rw [List.length_map], h3 n rfl, g1, g2, g3 1 (by decide), g3 3 (by decide), hel.1.key, fun d hd => ⟨(hel.1.kg d hd).1, fun e' => (hel.1.kg d hd).2 (by rw [e']; rfl)⟩, hel.2, fun v => ?_⟩
  have ho := g4 1 (.i .i64 v) (by decide) rfl
  have hA : Ag (fun d => d = n) M (M.set n (.row (R.set (k * 8 + 1) (.i .i64 v)) ty)) := Ag.set rfl
  refine ⟨es.set k ({ e.1 with link := v }, e.2), by rw [List.map_set], by rw [List.map_set]; exact ho, h3, fun e' he' => ?_⟩
  have hs : ∀ d, d < M.length → (G d ∧ dnS (.sl n 0 es.length cap) ≠ some d) → ¬ d = n := fun d _ g e => g.2 (by rw [e]; rfl)
  have hb : ∀ e'' ∈ es, ChE (M.set n (.row (R.set (k * 8 + 1) (.i .i64 v)) ty)) (fun d => G d ∧ dnS (.sl n 0 es.length cap) ≠ some d) e'' ∧ RowF (M.set n (.row (R.set (k * 8 + 1) (.i .i64 v)) ty)) e''.2 := fun e'' g => ⟨(h4 e'' g).1.ag hA hs, (h4 e'' g).2.ag hA (fun d hd => hs d ((h4 e'' g).1.key.dn d hd) ((h4 e'' g).1.kg d hd))⟩
  rcases List.mem_or_eq_of_mem_set he' with g | rfl
  · exact hb e' g
  · have := hb e (List.mem_of_getElem? he)
    exact ⟨⟨this.1.key, this.1.kg⟩, this.2⟩
/-- one byte in front of some key: other bytes, as many -/
theorem Byt.put {M : List Blk} {y : SV} {l : List (BitVec 8)} (h : Byt M y l) {d : Nat} {R : List SV} {ty : TypeId} (hd : M[d]? = some (.row R ty)) (v : BitVec 8) : ∃ l', Byt (M.set d (.row (R.set 0 (.u8 v)) ty)) y l' := by
  have hA : Ag (fun n => n = d) M (M.set d (.row (R.set 0 (.u8 v)) ty)) := Ag.set rfl
  obtain ⟨h0, h | ⟨a, h, h'⟩ | ⟨n, cap, rfl, hb, ht⟩⟩ := h
  · exact ⟨l, h0, .inl h⟩
  · exact ⟨l, h0, .inr (.inl ⟨a, h, h'⟩)⟩
  · by_cases e : n = d
    · subst e
      have hw := kw hd
      refine ⟨l.set 0 v, by rw [List.length_set]; exact h0, .inr (.inr ⟨n, cap, by rw [List.length_set], ⟨by rw [List.length_set]; exact hw, ?_, ?_⟩, ?_⟩)⟩
      · have := hb.len
        simp only [cellsAt, hd, List.getElem?_set_self hw, cellsB, List.length_set] at this ⊢
        exact this
      · have := hb.cells
        simp only [cellsAt, hd, List.getElem?_set_self hw, cellsB, List.length_set, List.drop_zero] at this ⊢
        rw [List.take_set, this]
        simp [bS, List.map_set]
      · rw [List.length_set]
        rcases ht with ht | ⟨e1, e2, ty', e3⟩
        · refine .inl ?_
          rw [liveN_eq, hd] at ht
          rw [liveN_eq, List.getElem?_set_self hw]
          simp only [liveB_row, List.length_set] at ht ⊢
          exact ht
        · rw [hd] at e3
          cases e3
          exact .inr ⟨e1, e2, _, by rw [List.getElem?_set_self hw]; rfl⟩
    · exact ⟨l, Byt.ag (M := M) ⟨h0, .inr (.inr ⟨n, cap, rfl, hb, ht⟩)⟩ hA (fun d' e' h' => e (by cases e'; exact h'))⟩
theorem CO.key {M : List Blk} {G : Nat → Prop} {x : SV} {ls : List Ch} (h : CO M G x ls) {d : Nat} {R : List SV} {ty : TypeId} (hn : dnS x ≠ some d) (hd : M[d]? = some (.row R ty)) (v : BitVec 8) : ∃ cs', cs'.length = ls.length ∧ CO (M.set d (.row (R.set 0 (.u8 v)) ty)) G x cs' := by
  obtain ⟨es, rfl, h2, h3, h4⟩ := h
  have hA : Ag (fun n => n = d) M (M.set d (.row (R.set 0 (.u8 v)) ty)) := Ag.set rfl
  have hw := kw hd
  have hf : ∀ e : Ch × SV, ∃ e' : Ch × SV, e ∈ es → (chC e' = chC e ∧ ChE (M.set d (.row (R.set 0 (.u8 v)) ty)) (fun n => G n ∧ dnS x ≠ some n) e' ∧ RowF (M.set d (.row (R.set 0 (.u8 v)) ty)) e'.2) := by
    intro e
    by_cases he : e ∈ es
    · obtain ⟨g1, g2⟩ := h4 e he
      obtain ⟨l', hl'⟩ := g1.key.put hd v
      refine ⟨({ e.1 with key := l' }, e.2), fun _ => ⟨rfl, ⟨hl', g1.kg⟩, fun d' hd' => ?_⟩⟩
      obtain ⟨R', ty', g⟩ := g2 d' hd'
      by_cases hdd : d' = d
      · subst hdd
        exact ⟨_, _, List.getElem?_set_self hw⟩
      · exact ⟨R', ty', hA.get g hdd⟩
    · exact ⟨e, fun h => absurd h he⟩
  obtain ⟨f, hf⟩ : ∃ f : Ch × SV → Ch × SV, ∀ e ∈ es, chC (f e) = chC e ∧ ChE (M.set d (.row (R.set 0 (.u8 v)) ty)) (fun n => G n ∧ dnS x ≠ some n) (f e) ∧ RowF (M.set d (.row (R.set 0 (.u8 v)) ty)) (f e).2 := ⟨fun e => Classical.choose (hf e), fun e => Classical.choose_spec (hf e)⟩
  refine ⟨(es.map f).map (·.1), by simp, es.map f, rfl, ?_, h3, fun e he => ?_⟩
  · have : (es.map f).map chC = es.map chC := by
      rw [List.map_map]
      exact List.map_congr_left (fun e he => (hf e he).1)
    rw [this]
    exact h2.ag hA (fun d' e' h' => hn (by rw [← h']; exact e'))
  · obtain ⟨e0, he0, rfl⟩ := List.mem_map.1 he
    exact (hf e0 he0).2
/-- the numbers that are written -/
theorem right_ln {s : St} (h : s.Right) {k : Nat} {l l' : Ln} (hk : s.ls[k]? = some l) (hkey : l'.key = l.key) (hok : l'.Ok) : (St.mk s.ps (s.ls.set k l')).Right := by
  refine ⟨h.np, by rw [List.length_set]; exact h.nl, fun a ha => ?_, pw_set h.lord hk (fun j x hj hx => ?_) (fun j x hj hx => ?_), h.peer, h.pord, h.keys, h.pfxs, fun p hp => ?_⟩
  · rcases List.mem_or_eq_of_mem_set ha with g | rfl
    · exact h.lane a g
    · exact hok
  · rw [hkey]; exact pw_lb h.lord hx hk hj
  · rw [hkey]; exact pw_lb h.lord hk hx hj
  · obtain ⟨a, ha, hak⟩ := h.has p hp
    obtain ⟨j, hj⟩ := List.getElem?_of_mem ha
    by_cases e : j = k
    · subst e
      rw [hk] at hj; cases hj
      exact ⟨l', List.mem_of_getElem? (i := j) (by rw [List.getElem?_set_self (List.getElem?_eq_some_iff.1 hk).1]), by rw [hkey]; exact hak⟩
    · exact ⟨a, List.mem_of_getElem? (i := j) (by rw [List.getElem?_set_ne (Ne.symm e)]; exact hj), hak⟩
def upP (p : Pr) : Pr := { p with link := p.link + 1 }
theorem right_up {s : St} (h : s.Right) (hl : ∀ p ∈ s.ps, p.link < 4294967295) : (St.mk (s.ps.map upP) s.ls).Right := by
  refine ⟨by rw [List.length_map]; exact h.np, h.nl, h.lane, h.lord, fun p hp => ?_, List.pairwise_map.2 (h.pord.imp (fun h => by simp only [upP]; omega)), List.pairwise_map.2 h.keys, List.pairwise_map.2 h.pfxs, fun p hp => ?_⟩
  · obtain ⟨q, hq, rfl⟩ := List.mem_map.1 hp
    have g := h.peer q hq
    have := hl q hq
    have := g.link
    exact ⟨by simp only [upP]; omega, g.many, g.valid, g.ord⟩
  · obtain ⟨q, hq, rfl⟩ := List.mem_map.1 hp
    exact h.has q hq
end Go.Proofs.YtdcplcfedcmcmaaGreat.Eng
