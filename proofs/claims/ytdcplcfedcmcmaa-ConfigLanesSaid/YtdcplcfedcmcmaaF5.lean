/- The law's own look at a configuration: what it lets through is one. -/
import Derived.Test.YtdcplcfedcmcmaaMc
namespace Go.Proofs.Ytdcplcfedcmcmaa.Eng
open Go Go.RowKit
set_option linter.unusedSimpArgs false
set_option linter.unusedVariables false

theorem pw_adj {α : Type} {R : α → α → Prop} (ht : ∀ a b c, R a b → R b c → R a c) : ∀ {l : List α}, (∀ (i : Nat) a b, l[i]? = some a → l[i + 1]? = some b → R a b) → l.Pairwise R
  | [], _ => .nil
  | [a], _ => by simp
  | a :: b :: l, h => by
    have ih := pw_adj ht (l := b :: l) (fun i x y hx hy => h (i + 1) x y (by simpa using hx) (by simpa using hy))
    refine List.pairwise_cons.2 ⟨fun x hx => ?_, ih⟩
    have hab := h 0 a b rfl rfl
    rcases List.mem_cons.1 hx with rfl | hx
    · exact hab
    · exact ht _ _ _ hab ((List.pairwise_cons.1 ih).1 x hx)
structure LaneG (s : St) (i : Nat) (l : Ln) : Prop where
  ok : l.Ok
  ord : ∀ q, 0 < i → s.ls[i - 1]? = some q → ltB q.key l.key = true
structure PeerG (s : St) (i : Nat) (p : Pr) : Prop where
  link : 1 ≤ p.link ∧ p.link ≤ 4294967295
  ord : ∀ q, 0 < i → s.ps[i - 1]? = some q → q.link < p.link
  many : p.pfx.length ≤ 16
  has : ∃ l ∈ s.ls, l.key = p.key
  keys : ∀ (j : Nat) q, j < i → s.ps[j]? = some q → q.key ≠ p.key ∧ ∀ x ∈ p.pfx, x ∉ q.pfx
  valid : ∀ x ∈ p.pfx, validP x = true
  pord : ∀ (j : Nat) x y, p.pfx[j]? = some x → p.pfx[j + 1]? = some y → ltP x y
theorem right_of {s : St} (h1 : s.ps.length ≤ 16) (h2 : s.ls.length ≤ 32) (h3 : ∀ (i : Nat) l, s.ls[i]? = some l → LaneG s i l) (h4 : ∀ (i : Nat) p, s.ps[i]? = some p → PeerG s i p) : s.Right := by
  have pw : ∀ {α : Type} {l : List α} {R : α → α → Prop}, (∀ (i j : Nat) a b, i < j → l[i]? = some a → l[j]? = some b → R a b) → l.Pairwise R := fun {α l R} h => List.pairwise_iff_getElem.2 (fun i j hi hj hij => h i j _ _ hij (List.getElem?_eq_getElem hi) (List.getElem?_eq_getElem hj))
  refine ⟨h1, h2, fun l hl => ?_, pw_adj (R := fun a b : Ln => ltB a.key b.key = true) (fun a b c => ltB_trans) (fun i a b ha hb => (h3 (i + 1) b hb).ord a (by omega) ha), fun p hp => ?_, pw_adj (fun a b c h h' => by omega) (fun i a b ha hb => (h4 (i + 1) b hb).ord a (by omega) ha),
    pw (fun i j a b hij ha hb => ((h4 j b hb).keys i a hij ha).1), pw (fun i j a b hij ha hb x hx hx' => ((h4 j b hb).keys i a hij ha).2 x hx' hx), fun p hp => ?_⟩
  · obtain ⟨i, hi⟩ := List.getElem?_of_mem hl
    exact (h3 i l hi).ok
  · obtain ⟨i, hi⟩ := List.getElem?_of_mem hp
    have g := h4 i p hi
    exact ⟨g.link, g.many, g.valid, pw_adj (R := ltP) (fun a b c => ltP_trans) g.pord⟩
  · obtain ⟨i, hi⟩ := List.getElem?_of_mem hp
    exact (h4 i p hi).has
theorem dropF {M M' : List Blk} {b : Bool} {K : SV → List Blk → Prop} (hM : ∀ (n : Nat) (B : Blk), M[n]? = some B → B.lt M.length = true) (hA : Ag (fun _ => False) M M') (hK : K (.b b) M) : dropC M.length (.b b) M' K := by
  obtain ⟨L, rfl⟩ := hA.ext (fun _ _ e => e)
  exact dropC_append hM rfl hK
theorem lane_of {s : St} (h : s.Right) {i : Nat} {l : Ln} (hl : s.ls[i]? = some l) : LaneG s i l :=
  ⟨h.lane l (List.mem_of_getElem? hl), fun q h0 hq => pw_lb h.lord hq hl (by omega)⟩
theorem peer_of {s : St} (h : s.Right) {i : Nat} {p : Pr} (hp : s.ps[i]? = some p) : PeerG s i p := by
  have m := List.mem_of_getElem? hp
  have g := h.peer p m
  exact ⟨g.link, fun q h0 hq => pw_lb h.pord hq hp (by omega), g.many, h.has p m, fun j q hj hq => ⟨pw_lb h.keys hq hp hj, fun x hx hx' => pw_lb h.pfxs hq hp hj x hx' hx⟩, g.valid, fun j x y hx hy => pw_lb g.ord hx hy (by omega)⟩
theorem joinP {F T G : Prop} (h : (F → T) → G) (h2 : F → T) : G := h h2
set_option maxHeartbeats 8000000 in
set_option maxRecDepth 20000 in
theorem lpeer_ok (G G' : Nat → Prop) (xp xl : SV) (s : St) (k : Nat) (M : List Blk) (K : SV → List Blk → Prop) (hP : Prs M G xp s.ps) (hL : Lns M G' xl s.ls) (hk : k < s.ps.length) (hn : s.ps.length ≤ 16) (hl : s.ls.length ≤ 32) (hsm : ∀ (i : Nat) q, i < k → s.ps[i]? = some q → q.pfx.length ≤ 16) (hK : ∀ b : Bool, (∀ p, s.ps[k]? = some p → (b = true ↔ PeerG s k p)) → K (.b b) M) :
    callVC Try.prog 14 [.agg [xp, xl], .i .i64 k] M K := by
  have la : ∀ {M' : List Blk} {e a' b' : Nat} {K : SV → Prop}, lenB (.slice e a' b') M' xp K = K (.i .i64 s.ps.length) := hP.lenB
  have lb : ∀ {M' : List Blk} {e a' b' : Nat} {K : SV → Prop}, lenB (.slice e a' b') M' xl K = K (.i .i64 s.ls.length) := hL.lenB
  have o1 := hP.one
  have o2 := hL.one
  obtain ⟨n, cap, e, rfl, l1, g1, g2, g3, g4, ⟨g5, g6⟩, g7, g8⟩ := hP.at hk
  have hF : ¬ PeerG s k e.1 → K (.b false) M := fun h => hK false (fun p hp => by rw [g1] at hp; cases hp; simp [h])
  have ok := g2.key.one
  have op := g2.pfx.one
  have lx : ∀ {M' : List Blk} {e' a' b' : Nat} {K : SV → Prop}, lenB (.slice e' a' b') M' e.2.2 K = K (.i .i64 e.1.pfx.length) := g2.pfx.lenB
  rw [show prC e = [SV.i .i64 e.1.link, e.2.1, e.2.2] from rfl] at g3
  refine fn_rule tabOK Try.func14 rfl Try.call14 (by kernel_rfl) (fun hM => ?_)
  (refine top_in ?_; simp -implicitDefEqProofs only [Try.ntmps14, Try.results14, go_sem, -List.reduceReplicate, ↓L_gdZ_tt, ↓L_gdZ_tf, ↓L_gdZ_ft, ↓L_gdZ_ff, ↓T_and, ↓T_imp, ↓T_all, o1, o2, la, lb, get_lt l1, g3, ok, op, lx]; try simp only [top_out])
  repeat (with_reducible refine And.intro (by omega) ?_)
  refine draw_rule tabOK (by kernel_rfl : _) (.p 0 (.p 1 (.p 2 (.p 3 (.p 4 (.p 5 (.p 6 (.p 7 (.p 8 (.p 9 (.p 10 (.p 11 (.p 12 (.p 13 (.p 14 (.p 15 (.p 16 (.p 17 (.p 18 (.p 19 (.p 20 (.p 21 (.p 22 (.p 23 (.p 24 (.p 25 (.p 26 (.p 27 (.p 28 (.p 29 .nil)))))))))))))))))))))))))))))) (by kernel_rfl) (by kernel_rfl) ?_
  have hA0 : ∀ L, Ag (fun _ => False) M (M ++ L) := fun L => Ag.app
  (refine top_in ?_; simp -implicitDefEqProofs only [go_sem, -List.reduceReplicate, ↓L_gdZ_tt, ↓L_gdZ_tf, ↓L_gdZ_ft, ↓L_gdZ_ff, ↓T_and, ↓T_imp, ↓T_all, o1, o2, la, lb, get_lt l1, g3, ok, op, lx]; try simp only [top_out])
  apply joinP (F := (1 ≤ e.1.link ∧ e.1.link ≤ 4294967295) ∧ (∀ q, 0 < k → s.ps[k - 1]? = some q → q.link < e.1.link) ∧ e.1.pfx.length ≤ 16)
  · intro hT
    refine ⟨fun c1 => ⟨fun c2 => ⟨fun h0 => ?_, fun h0 => ?_⟩, fun c2 => dropF hM (hA0 _) (hF fun g => by have := g.link; omega)⟩, fun c1 => dropF hM (hA0 _) (hF fun g => by have := g.link; omega)⟩
    · have wj : IntKind.i64.wrap ((k : Int) - 1) = ((k - 1 : Nat) : Int) := (w64 (by omega) (by omega)).trans (by omega)
      obtain ⟨n', cap', e', he', l1', g1', g2', g3', g4', ⟨g5', g6'⟩, _⟩ := hP.at (k := k - 1) (by omega)
      cases he'
      rw [wj, Int.toNat_natCast, g6']
      refine ⟨by omega, by omega, by omega, by omega, g5', fun c3 => ⟨fun c4 => dropF hM (hA0 _) (hF fun g => by have := g.many; omega), fun c4 => ?_⟩, fun c3 => dropF hM (hA0 _) (hF fun g => by have := g.ord _ (by omega) g1'; omega)⟩
      refine loop_code tabOK (by kernel_rfl) (fun m ts M' => ∃ (jj : Nat) (b : Bool), jj + m = s.ls.length ∧ M' = (M ++ [Blk.row [SV.sl n 0 s.ps.length cap, xl] 27, Blk.row [SV.i IntKind.i64 e.1.link, e.2.1, e.2.2] 55]) ∧ (b = true ↔ ∃ (i : Nat) (l : Ln), i < jj ∧ s.ls[i]? = some l ∧ l.key = e.1.key) ∧ frC (none :: some (.i .i64 k) :: some (.p M.length 0) :: none :: none :: some (.p (M.length + 1) 0) :: some (.b b) :: some (.i .i64 jj) :: none :: none :: none :: none :: none :: none :: none :: none :: none :: none :: none :: none :: none :: none :: none :: none :: none :: none :: none :: none :: none :: none :: none :: none :: none :: none :: none :: none :: none :: none :: none :: none :: none :: none :: none :: none :: none :: none :: none :: none :: none :: none :: none :: none :: none :: none :: none :: none :: none :: none :: none :: none :: none :: none :: none :: none :: none :: none :: none :: none :: none :: none :: none :: none :: none :: none :: none :: none :: none :: none :: none :: none :: none :: none :: none :: none :: none :: none :: none :: none :: none :: none :: none :: none :: none :: none :: none :: none :: none :: none :: none :: none :: none :: none :: none :: none :: none :: none :: none :: none :: none :: none :: none :: none :: none :: none :: none :: none :: none :: none :: none :: none :: none :: none :: none :: none :: none :: none :: none :: none :: none :: none :: none :: none :: none :: none :: none :: none :: none :: none :: none :: none :: none :: none :: none :: none :: none :: none :: none :: none :: none :: []) ts) s.ls.length ?_ ?_
      · exact ⟨0, false, by omega, rfl, ⟨fun h => (by cases h), fun ⟨i, _, h, _⟩ => by omega⟩, by simp [frC]⟩
      exact hT ⟨by omega, fun q _ hq => by rw [g1'] at hq; cases hq; omega, by omega⟩
    · refine ⟨fun c4 => dropF hM (hA0 _) (hF fun g => by have := g.many; omega), fun c4 => ?_⟩
      refine loop_code tabOK (by kernel_rfl) (fun m ts M' => ∃ (jj : Nat) (b : Bool), jj + m = s.ls.length ∧ M' = (M ++ [Blk.row [SV.sl n 0 s.ps.length cap, xl] 27, Blk.row [SV.i IntKind.i64 e.1.link, e.2.1, e.2.2] 55]) ∧ (b = true ↔ ∃ (i : Nat) (l : Ln), i < jj ∧ s.ls[i]? = some l ∧ l.key = e.1.key) ∧ frC (none :: some (.i .i64 k) :: some (.p M.length 0) :: none :: none :: some (.p (M.length + 1) 0) :: some (.b b) :: some (.i .i64 jj) :: none :: none :: none :: none :: none :: none :: none :: none :: none :: none :: none :: none :: none :: none :: none :: none :: none :: none :: none :: none :: none :: none :: none :: none :: none :: none :: none :: none :: none :: none :: none :: none :: none :: none :: none :: none :: none :: none :: none :: none :: none :: none :: none :: none :: none :: none :: none :: none :: none :: none :: none :: none :: none :: none :: none :: none :: none :: none :: none :: none :: none :: none :: none :: none :: none :: none :: none :: none :: none :: none :: none :: none :: none :: none :: none :: none :: none :: none :: none :: none :: none :: none :: none :: none :: none :: none :: none :: none :: none :: none :: none :: none :: none :: none :: none :: none :: none :: none :: none :: none :: none :: none :: none :: none :: none :: none :: none :: none :: none :: none :: none :: none :: none :: none :: none :: none :: none :: none :: none :: none :: none :: none :: none :: none :: none :: none :: none :: none :: none :: none :: none :: none :: none :: none :: none :: none :: none :: none :: none :: none :: none :: []) ts) s.ls.length ?_ ?_
      · exact ⟨0, false, by omega, rfl, ⟨fun h => (by cases h), fun ⟨i, _, h, _⟩ => by omega⟩, by simp [frC]⟩
      exact hT ⟨by omega, fun q h => by omega, by omega⟩
  · rintro ⟨f1, f2, f3⟩
    have b0 : (M ++ [Blk.row [SV.sl n 0 s.ps.length cap, xl] 27, Blk.row [SV.i IntKind.i64 e.1.link, e.2.1, e.2.2] 55])[M.length]? = some (.row [SV.sl n 0 s.ps.length cap, xl] 27) := by rw [get_app0]; rfl
    have b1 : (M ++ [Blk.row [SV.sl n 0 s.ps.length cap, xl] 27, Blk.row [SV.i IntKind.i64 e.1.link, e.2.1, e.2.2] 55])[M.length + 1]? = some (.row [SV.i IntKind.i64 e.1.link, e.2.1, e.2.2] 55) := by rw [get_app]; rfl
    have hA1 : Ag (fun _ => False) M (M ++ [Blk.row [SV.sl n 0 s.ps.length cap, xl] 27, Blk.row [SV.i IntKind.i64 e.1.link, e.2.1, e.2.2] 55]) := Ag.app
    generalize M ++ [Blk.row [SV.sl n 0 s.ps.length cap, xl] 27, Blk.row [SV.i IntKind.i64 e.1.link, e.2.1, e.2.2] 55] = M1 at b0 b1 hA1 ⊢
    have hP1 := hP.ag hA1 (fun _ _ _ e => e)
    have hL1 := hL.ag hA1 (fun _ _ _ e => e)
    have e1 := g2.ag hA1 (fun _ _ _ e => e)
    · rintro m ts M1 ⟨jj, b, hj, rfl, hb, hf⟩
      obtain ⟨f, rfl⟩ := frC_open _ _ 0 hf
      clear hf
      (refine top_in ?_; simp -implicitDefEqProofs only [go_sem, -List.reduceReplicate, ↓L_gdZ_tt, ↓L_gdZ_tf, ↓L_gdZ_ft, ↓L_gdZ_ff, ↓T_and, ↓T_imp, ↓T_all, b0, b1, la, lb, lx, o1, o2, ok, op]; try simp only [top_out])
      refine ⟨fun c5 => ?_, fun c5 => ?_⟩
      · obtain ⟨n2, cap2, el, rfl, q1, q2, q3, q4, q5, q6, _⟩ := hL1.at (k := jj) (by omega)
        refine draw_rule tabOK (by kernel_rfl : _) (.p 0 (.p 1 (.p 2 (.p 3 (.p 4 (.p 5 (.p 6 (.p 7 (.p 8 (.p 9 (.e 10 [] (.p 11 (.p 12 .nil)) .no))))))))))) (by kernel_rfl) (by kernel_rfl) ?_
        cases b
        · (refine top_in ?_; simp -implicitDefEqProofs only [go_sem, -List.reduceReplicate, ↓L_gdZ_tt, ↓L_gdZ_tf, ↓L_gdZ_ft, ↓L_gdZ_ff, ↓T_and, ↓T_imp, ↓T_all, b0, b1, la, lb, lx, o1, o2, ok, op, get_lt q1, q6]; try simp only [top_out])
          repeat (with_reducible refine And.intro (by omega) ?_)
          refine same_byt _ _ _ _ _ _ q3.key e1.key ?_
          (refine top_in ?_; simp -implicitDefEqProofs only [go_sem, -List.reduceReplicate, ↓L_gdZ_tt, ↓L_gdZ_tf, ↓L_gdZ_ft, ↓L_gdZ_ff, ↓T_and, ↓T_imp, ↓T_all, b0, b1, la, lb, lx, o1, o2, ok, op]; try simp only [top_out])
          refine ⟨m - 1, by omega, jj + 1, _, by omega, ⟨fun h => ⟨jj, el.1, by omega, q2, by simpa using h⟩, fun ⟨i, l, hi, hl', hk'⟩ => ?_⟩, rfl, w64 (by omega) (by omega)⟩
          rcases Nat.lt_or_ge i jj with g | g
          · exact absurd (hb.2 ⟨i, l, g, hl', hk'⟩) (by simp)
          · obtain rfl : i = jj := by omega
            rw [q2] at hl'; cases hl'
            simpa using hk'
        · (refine top_in ?_; simp -implicitDefEqProofs only [go_sem, -List.reduceReplicate, ↓L_gdZ_tt, ↓L_gdZ_tf, ↓L_gdZ_ft, ↓L_gdZ_ff, ↓T_and, ↓T_imp, ↓T_all, b0, b1, la, lb, lx, o1, o2, ok, op, get_lt q1, q6]; try simp only [top_out])
          refine ⟨m - 1, by omega, jj + 1, true, by omega, ⟨fun _ => ?_, fun _ => rfl⟩, rfl, w64 (by omega) (by omega)⟩
          obtain ⟨i, l, hi, hl', hk'⟩ := hb.1 rfl
          exact ⟨i, l, by omega, hl', hk'⟩
      · have hb' : b = true ↔ ∃ l ∈ s.ls, l.key = e.1.key := hb.trans ⟨fun ⟨i, l, _, h, h'⟩ => ⟨l, List.mem_of_getElem? h, h'⟩, fun ⟨l, h, h'⟩ => by
          obtain ⟨i, hi⟩ := List.getElem?_of_mem h
          exact ⟨i, l, by have := (List.getElem?_eq_some_iff.1 hi).1; omega, hi, h'⟩⟩
        clear hb
        refine loop_code tabOK (by kernel_rfl) (fun m ts M' => ∃ jj : Nat, jj + m = k ∧ M' = M1 ∧ (∀ (i : Nat) q, i < jj → s.ps[i]? = some q → q.key ≠ e.1.key ∧ ∀ x ∈ e.1.pfx, x ∉ q.pfx) ∧ frC (none :: some (.i .i64 k) :: some (.p M.length 0) :: none :: none :: some (.p (M.length + 1) 0) :: some (.b b) :: none :: some (.i .i64 jj) :: none :: none :: none :: none :: none :: none :: none :: none :: none :: none :: none :: none :: none :: none :: none :: none :: none :: none :: none :: none :: none :: none :: none :: none :: none :: none :: none :: none :: none :: none :: none :: none :: none :: none :: none :: none :: none :: none :: none :: none :: none :: none :: none :: none :: none :: none :: none :: none :: none :: none :: none :: none :: none :: none :: none :: none :: none :: none :: none :: none :: none :: none :: none :: none :: none :: none :: none :: none :: none :: none :: none :: none :: none :: none :: none :: none :: none :: none :: none :: none :: none :: none :: none :: none :: none :: none :: none :: none :: none :: none :: none :: none :: none :: none :: none :: none :: none :: none :: none :: none :: none :: none :: none :: none :: none :: none :: none :: none :: none :: none :: none :: none :: none :: none :: none :: none :: none :: none :: none :: none :: none :: none :: none :: none :: none :: none :: none :: none :: none :: none :: none :: none :: none :: none :: none :: none :: none :: none :: none :: none :: []) ts) k ?_ ?_
        · exact ⟨0, by omega, rfl, fun i q h => by omega, by simp [frC]⟩
        · clear hj
          rintro m ts M1 ⟨jj, hj, rfl, hq, hf⟩
          obtain ⟨f, rfl⟩ := frC_open _ _ 0 hf
          clear hf
          (refine top_in ?_; simp -implicitDefEqProofs only [go_sem, -List.reduceReplicate, ↓L_gdZ_tt, ↓L_gdZ_tf, ↓L_gdZ_ft, ↓L_gdZ_ff, ↓T_and, ↓T_imp, ↓T_all, b0, b1, la, lb, lx, o1, o2, ok, op]; try simp only [top_out])
          refine ⟨fun c6 => ?_, fun c6 => ?_⟩
          · obtain ⟨n3, cap3, ef, he3, r1, r2, r3, r4, r5, _, r8, r9⟩ := hP1.at (k := jj) (by omega)
            cases he3
            have hse := hsm jj _ (by omega) r2
            have lf : ∀ {M' : List Blk} {e' a' b' : Nat} {K : SV → Prop}, lenB (.slice e' a' b') M' ef.2.2 K = K (.i .i64 ef.1.pfx.length) := r3.pfx.lenB
            refine draw_rule tabOK (by kernel_rfl : _) (.p 0 (.p 1 (.p 2 (.p 3 (.p 4 (.p 5 (.p 6 (.p 7 (.e 8 [] .nil .no))))))))) (by kernel_rfl) (by kernel_rfl) ?_
            (refine top_in ?_; simp -implicitDefEqProofs only [go_sem, -List.reduceReplicate, ↓L_gdZ_tt, ↓L_gdZ_tf, ↓L_gdZ_ft, ↓L_gdZ_ff, ↓T_and, ↓T_imp, ↓T_all, b0, b1, la, lb, lx, lf, o1, o2, ok, op, get_lt r1, r8, r9]; try simp only [top_out])
            repeat (with_reducible refine And.intro (by omega) ?_)
            refine same_byt _ _ _ _ _ _ r3.key e1.key ?_
            (refine top_in ?_; simp -implicitDefEqProofs only [go_sem, -List.reduceReplicate, ↓L_gdZ_tt, ↓L_gdZ_tf, ↓L_gdZ_ft, ↓L_gdZ_ff, ↓T_and, ↓T_imp, ↓T_all, b0, b1, la, lb, lx, lf, o1, o2, ok, op]; try simp only [top_out])
            refine ⟨fun hne => dropF hM hA1 (hF fun g => (g.keys jj _ (by omega) r2).1 (by simpa using hne)), fun hne => ?_⟩
            refine loop_code tabOK (by kernel_rfl) (fun m ts M' => ∃ aa : Nat, aa + m = e.1.pfx.length ∧ M' = M1 ∧ (∀ (i : Nat) x, i < aa → e.1.pfx[i]? = some x → x ∉ ef.1.pfx) ∧ frC (none :: some (.i .i64 k) :: some (.p M.length 0) :: none :: none :: some (.p (M.length + 1) 0) :: some (.b b) :: none :: some (.i .i64 jj) :: some (.i .i64 aa) :: none :: none :: none :: none :: none :: none :: none :: none :: none :: none :: none :: none :: none :: none :: none :: none :: none :: none :: none :: none :: none :: none :: none :: none :: none :: none :: none :: none :: none :: none :: none :: none :: none :: none :: none :: none :: none :: none :: none :: none :: none :: none :: none :: none :: none :: none :: none :: none :: none :: none :: none :: none :: none :: none :: none :: none :: none :: none :: none :: none :: none :: none :: none :: none :: none :: none :: none :: none :: none :: none :: none :: none :: none :: none :: none :: none :: none :: none :: none :: none :: none :: none :: none :: none :: none :: none :: none :: none :: none :: none :: none :: none :: none :: none :: none :: none :: none :: none :: none :: none :: none :: none :: none :: none :: none :: none :: none :: none :: none :: none :: none :: none :: none :: none :: none :: none :: none :: none :: none :: none :: none :: none :: none :: none :: none :: none :: none :: none :: none :: none :: none :: none :: none :: none :: none :: none :: none :: none :: none :: []) ts) e.1.pfx.length ?_ ?_
            · exact ⟨0, by omega, rfl, fun i q h => by omega, by simp [frC]⟩
            · rintro m2 ts M1 ⟨aa, ha, rfl, hx, hf⟩
              obtain ⟨f, rfl⟩ := frC_open _ _ 0 hf
              clear hf
              (refine top_in ?_; simp -implicitDefEqProofs only [go_sem, -List.reduceReplicate, ↓L_gdZ_tt, ↓L_gdZ_tf, ↓L_gdZ_ft, ↓L_gdZ_ff, ↓T_and, ↓T_imp, ↓T_all, b0, b1, la, lb, lx, lf, o1, o2, ok, op]; try simp only [top_out])
              refine ⟨fun c7 => ?_, fun c7 => ?_⟩
              · obtain ⟨n4, cap4, x, he4, x1, x2, x3, x4⟩ := Pxs.at (k := aa) e1.pfx (by omega)
                refine loop_code tabOK (by kernel_rfl) (fun m ts M' => ∃ cc : Nat, cc + m = ef.1.pfx.length ∧ M' = M1 ∧ (∀ (i : Nat) y, i < cc → ef.1.pfx[i]? = some y → x ≠ y) ∧ frC (none :: some (.i .i64 k) :: some (.p M.length 0) :: none :: none :: some (.p (M.length + 1) 0) :: some (.b b) :: none :: some (.i .i64 jj) :: some (.i .i64 aa) :: some (.i .i64 cc) :: none :: none :: none :: none :: none :: none :: none :: none :: none :: none :: none :: none :: none :: none :: none :: none :: none :: none :: none :: none :: none :: none :: none :: none :: none :: none :: none :: none :: none :: none :: none :: none :: none :: none :: none :: none :: none :: none :: none :: none :: none :: none :: none :: none :: none :: none :: none :: none :: none :: none :: none :: none :: none :: none :: none :: none :: none :: none :: none :: none :: none :: none :: none :: none :: none :: none :: none :: none :: none :: none :: none :: none :: none :: none :: none :: none :: none :: none :: none :: none :: none :: none :: none :: none :: none :: none :: none :: none :: none :: none :: none :: none :: none :: none :: none :: none :: none :: none :: none :: none :: none :: none :: none :: none :: none :: none :: none :: none :: none :: none :: none :: none :: none :: none :: none :: none :: none :: none :: none :: none :: none :: none :: none :: none :: none :: none :: none :: none :: none :: none :: none :: none :: none :: none :: none :: none :: none :: none :: []) ts) ef.1.pfx.length ?_ ?_
                · exact ⟨0, by omega, rfl, fun i q h => by omega, by simp [frC]⟩
                · rintro m3 ts M1 ⟨cc, hcc, rfl, hy, hf⟩
                  obtain ⟨f, rfl⟩ := frC_open _ _ 0 hf
                  clear hf
                  (refine top_in ?_; simp -implicitDefEqProofs only [go_sem, -List.reduceReplicate, ↓L_gdZ_tt, ↓L_gdZ_tf, ↓L_gdZ_ft, ↓L_gdZ_ff, ↓T_and, ↓T_imp, ↓T_all, b0, b1, la, lb, lx, lf, o1, o2, ok, op, get_lt r1, r9]; try simp only [top_out])
                  repeat (with_reducible refine And.intro (by omega) ?_)
                  refine ⟨fun c8 => ?_, fun c8 => ?_⟩
                  · obtain ⟨n5, cap5, y, he5, y1, y2, y3, y4⟩ := Pxs.at (k := cc) r3.pfx (by omega)
                    refine draw_rule tabOK (by kernel_rfl : _) (.p 0 (.p 1 (.p 2 (.p 3 (.p 4 (.p 5 (.p 6 (.p 7 (.p 8 (.p 9 (.p 10 (.p 11 (.p 12 (.p 13 (.e 14 [] .nil .no))))))))))))))) (by kernel_rfl) (by kernel_rfl) ?_
                    have b1' := b1
                    rw [he4] at b1'
                    have r9' := r9
                    simp only [he5] at r9'
                    (refine top_in ?_; simp -implicitDefEqProofs only [go_sem, -List.reduceReplicate, ↓L_gdZ_tt, ↓L_gdZ_tf, ↓L_gdZ_ft, ↓L_gdZ_ff, ↓T_and, ↓T_imp, ↓T_all, b0, b1', la, o1, o2, ok, get_lt r1, r9', get_lt x1, get_lt y1, x3, y3]; try simp only [top_out])
                    repeat (with_reducible refine And.intro (by omega) ?_)
                    refine sameX_ok _ _ _ _ ?_
                    (refine top_in ?_; simp -implicitDefEqProofs only [go_sem, -List.reduceReplicate, ↓L_gdZ_tt, ↓L_gdZ_tf, ↓L_gdZ_ft, ↓L_gdZ_ff, ↓T_and, ↓T_imp, ↓T_all, b0, b1', la, o1, o2, ok, get_lt r1, r9']; try simp only [top_out])
                    refine ⟨fun hxy => dropF hM hA1 (hF fun g => (g.keys jj _ (by omega) r2).2 x (List.mem_of_getElem? x2) (by rw [hxy]; exact List.mem_of_getElem? y2)), fun hxy => ⟨m3 - 1, by omega, cc + 1, by omega, fun i y' hi hy' => ?_, w64 (by omega) (by omega)⟩⟩
                    rcases Nat.lt_or_ge i cc with g | g
                    · exact hy i y' g hy'
                    · obtain rfl : i = cc := by omega
                      rw [y2] at hy'; cases hy'
                      exact hxy
                  · obtain rfl : cc = ef.1.pfx.length := by omega
                    refine ⟨m2 - 1, by omega, aa + 1, by omega, fun i q hi hq' => ?_, w64 (by omega) (by omega)⟩
                    rcases Nat.lt_or_ge i aa with g | g
                    · exact hx i q g hq'
                    · obtain rfl : i = aa := by omega
                      rw [x2] at hq'; cases hq'
                      intro hmem
                      obtain ⟨t, ht⟩ := List.getElem?_of_mem hmem
                      exact hy t _ (List.getElem?_eq_some_iff.1 ht).1 ht rfl
              · obtain rfl : aa = e.1.pfx.length := by omega
                refine ⟨m - 1, by omega, jj + 1, by omega, fun i q hi hq' => ?_, w64 (by omega) (by omega)⟩
                rcases Nat.lt_or_ge i jj with g | g
                · exact hq i q g hq'
                · obtain rfl : i = jj := by omega
                  rw [r2] at hq'; cases hq'
                  refine ⟨fun h => by rw [h] at hne; simp at hne, fun x hmem => ?_⟩
                  obtain ⟨t, ht⟩ := List.getElem?_of_mem hmem
                  exact hx t x (List.getElem?_eq_some_iff.1 ht).1 ht
          · obtain rfl : jj = k := by omega
            clear hj c6
            refine loop_code tabOK (by kernel_rfl) (fun m ts M' => ∃ aa : Nat, aa + m = e.1.pfx.length ∧ M' = M1 ∧ (∀ (i : Nat) x, i < aa → e.1.pfx[i]? = some x → validP x = true ∧ ∀ y, 0 < i → e.1.pfx[i - 1]? = some y → ltP y x) ∧ frC (none :: some (.i .i64 jj) :: some (.p M.length 0) :: none :: none :: some (.p (M.length + 1) 0) :: some (.b b) :: none :: none :: none :: none :: some (.i .i64 aa) :: none :: none :: none :: none :: none :: none :: none :: none :: none :: none :: none :: none :: none :: none :: none :: none :: none :: none :: none :: none :: none :: none :: none :: none :: none :: none :: none :: none :: none :: none :: none :: none :: none :: none :: none :: none :: none :: none :: none :: none :: none :: none :: none :: none :: none :: none :: none :: none :: none :: none :: none :: none :: none :: none :: none :: none :: none :: none :: none :: none :: none :: none :: none :: none :: none :: none :: none :: none :: none :: none :: none :: none :: none :: none :: none :: none :: none :: none :: none :: none :: none :: none :: none :: none :: none :: none :: none :: none :: none :: none :: none :: none :: none :: none :: none :: none :: none :: none :: none :: none :: none :: none :: none :: none :: none :: none :: none :: none :: none :: none :: none :: none :: none :: none :: none :: none :: none :: none :: none :: none :: none :: none :: none :: none :: none :: none :: none :: none :: none :: none :: none :: none :: none :: none :: none :: none :: none :: []) ts) e.1.pfx.length ?_ ?_
            · exact ⟨0, by omega, rfl, fun i q h => by omega, by simp [frC]⟩
            · rintro m2 ts M1 ⟨aa, ha, rfl, hx, hf⟩
              obtain ⟨f, rfl⟩ := frC_open _ _ 0 hf
              clear hf
              (refine top_in ?_; simp -implicitDefEqProofs only [go_sem, -List.reduceReplicate, ↓L_gdZ_tt, ↓L_gdZ_tf, ↓L_gdZ_ft, ↓L_gdZ_ff, ↓T_and, ↓T_imp, ↓T_all, b0, b1, la, lb, lx, o1, o2, ok, op]; try simp only [top_out])
              refine ⟨fun c7 => ?_, fun c7 => ?_⟩
              · obtain ⟨n4, cap4, x, he4, x1, x2, x3, x4⟩ := Pxs.at (k := aa) e1.pfx (by omega)
                have b1' := b1
                rw [he4] at b1'
                (refine top_in ?_; simp -implicitDefEqProofs only [go_sem, -List.reduceReplicate, ↓L_gdZ_tt, ↓L_gdZ_tf, ↓L_gdZ_ft, ↓L_gdZ_ff, ↓T_and, ↓T_imp, ↓T_all, he4, b0, b1', la, o1, o2, ok, get_lt x1, x3]; try simp only [top_out])
                repeat (with_reducible refine And.intro (by omega) ?_)
                refine rvalid_ok _ _ _ ?_
                (refine top_in ?_; simp -implicitDefEqProofs only [go_sem, -List.reduceReplicate, ↓L_gdZ_tt, ↓L_gdZ_tf, ↓L_gdZ_ft, ↓L_gdZ_ff, ↓T_and, ↓T_imp, ↓T_all, he4, b0, b1', la, o1, o2, ok, get_lt x1, x3]; try simp only [top_out])
                refine draw_rule tabOK (by kernel_rfl : _) (.p 0 (.p 1 (.p 2 (.p 3 (.p 4 (.p 5 (.p 6 (.p 7 (.p 8 (.p 9 (.p 10 (.p 11 (.p 12 (.p 13 (.p 14 (.p 15 (.p 16 (.e 17 [] (.p 18 (.p 19 (.p 20 .nil))) .no)))))))))))))))))) (by kernel_rfl) (by kernel_rfl) ?_
                cases hv : validP x
                · (refine top_in ?_; simp -implicitDefEqProofs only [go_sem, -List.reduceReplicate, ↓L_gdZ_tt, ↓L_gdZ_tf, ↓L_gdZ_ft, ↓L_gdZ_ff, ↓T_and, ↓T_imp, ↓T_all, he4, b0, b1', la, o1, o2, ok, get_lt x1, x3]; try simp only [top_out])
                  exact dropF hM hA1 (hF fun g => by have := g.valid x (List.mem_of_getElem? x2); simp [hv] at this)
                · (refine top_in ?_; simp -implicitDefEqProofs only [go_sem, -List.reduceReplicate, ↓L_gdZ_tt, ↓L_gdZ_tf, ↓L_gdZ_ft, ↓L_gdZ_ff, ↓T_and, ↓T_imp, ↓T_all, he4, b0, b1', la, o1, o2, ok, get_lt x1, x3]; try simp only [top_out])
                  refine ⟨fun h0 => ?_, fun h0 => ?_⟩
                  · have wj : IntKind.i64.wrap ((aa : Int) - 1) = ((aa - 1 : Nat) : Int) := (w64 (by omega) (by omega)).trans (by omega)
                    obtain ⟨n5, cap5, y, he5, y1, y2, y3, y4⟩ := Pxs.at (k := aa - 1) e1.pfx (by omega)
                    have he6 := he4.symm.trans he5
                    cases he6
                    simp only [wj, Int.toNat_natCast, y3]
                    repeat (with_reducible refine And.intro (by omega) ?_)
                    refine rcmp_ok _ _ _ _ ?_
                    (refine top_in ?_; simp -implicitDefEqProofs only [go_sem, -List.reduceReplicate, ↓L_gdZ_tt, ↓L_gdZ_tf, ↓L_gdZ_ft, ↓L_gdZ_ff, ↓T_and, ↓T_imp, ↓T_all, b0, b1', la, o1, o2, ok]; try simp only [top_out])
                    refine ⟨fun hc => dropF hM hA1 (hF fun g => ?_), fun hc => ⟨m2 - 1, by omega, aa + 1, by omega, fun i x' hi hx' => ?_, w64 (by omega) (by omega)⟩⟩
                    · have := cmpP_lt.2 (g.pord (aa - 1) y x y2 (by rw [show aa - 1 + 1 = aa by omega]; exact x2))
                      omega
                    · rcases Nat.lt_or_ge i aa with g | g
                      · exact hx i x' g hx'
                      · obtain rfl : i = aa := by omega
                        rw [x2] at hx'; cases hx'
                        exact ⟨hv, fun y' _ hy' => by rw [y2] at hy'; cases hy'; exact cmpP_lt.1 (by omega)⟩
                  · refine ⟨m2 - 1, by omega, aa + 1, by omega, fun i x' hi hx' => ?_, w64 (by omega) (by omega)⟩
                    rcases Nat.lt_or_ge i aa with g | g
                    · exact hx i x' g hx'
                    · obtain rfl : i = aa := by omega
                      rw [x2] at hx'; cases hx'
                      exact ⟨hv, fun y h => by omega⟩
              · obtain rfl : aa = e.1.pfx.length := by omega
                refine dropF hM hA1 (hK b (fun p hp => ?_))
                rw [g1] at hp; cases hp
                refine ⟨fun h => ⟨f1, f2, f3, hb'.1 h, hq, fun x hmem => ?_, fun j x y h1 h2 => (hx _ _ (List.getElem?_eq_some_iff.1 h2).1 h2).2 x (by omega) h1⟩, fun g => hb'.2 g.has⟩
                obtain ⟨t, ht⟩ := List.getElem?_of_mem hmem
                exact (hx t x (List.getElem?_eq_some_iff.1 ht).1 ht).1
end Go.Proofs.Ytdcplcfedcmcmaa.Eng
