/- The program's fold: which checks a change goes through. -/
import Derived.Test.YtdcplcfedcmcmaaMf
namespace Go.Proofs.Ytdcplcfedcmcmaa.Eng
open Go Go.RowKit
set_option linter.unusedSimpArgs false
set_option linter.unusedVariables false

/-- the first check that is false -/
def badOf : List (Prop × Bool × Int) → Int
  | [] => 0
  | q :: l => if q.2.1 = true then badOf l else q.2.2
def PreL (l : List (Prop × Bool × Int)) : Prop := ∀ (k : Nat) q, l[k]? = some q → (∀ (j : Nat) q', j < k → l[j]? = some q' → q'.2.1 = true) → q.1
theorem St.owner_other {s : St} (h : s.Right) {link : Int} {key : List (BitVec 8)} : (s.owner key ≠ none ∧ s.owner key ≠ s.peer link) ↔ (s.ps.any fun p => decide (p.link ≠ link) && (p.key == key)) = true := by
  rw [List.any_eq_true]
  constructor
  · rintro ⟨h1, h2⟩
    obtain ⟨i, hi⟩ := Option.ne_none_iff_exists'.1 h1
    obtain ⟨p, hp, hk⟩ := (St.owner_some h).1 hi
    refine ⟨p, List.mem_of_getElem? hp, ?_⟩
    rw [hk, beq_self_eq_true, Bool.and_true, decide_eq_true_eq]
    intro hl
    exact h2 (hi.trans ((St.peer_some h).2 ⟨p, hp, hl⟩).symm)
  · rintro ⟨p, hm, hb⟩
    rw [Bool.and_eq_true, decide_eq_true_eq, beq_iff_eq] at hb
    obtain ⟨i, hi⟩ := List.getElem?_of_mem hm
    have ho := (St.owner_some h).2 ⟨p, hi, hb.2⟩
    rw [ho]
    refine ⟨by simp, fun e => ?_⟩
    obtain ⟨p', hp', hl⟩ := (St.peer_some h).1 e.symm
    rw [hi] at hp'; cases hp'
    exact hb.1 hl
theorem St.keyedF_bad {s : St} {c : Ch} {b2 b3 : Bool} (hb : s.lane c.key = none ∧ b2 = true ∧ b3 = true ∨ ∃ i l, s.lane c.key = some i ∧ s.ls[i]? = some l ∧ b2 = decide (l.side = c.side) ∧ b3 = decide (max l.cur l.next < 2147483647)) :
    badOf [(True, (s.lane c.key).isSome || decide (s.ls.length < 32), 167), (True, b2, 174), (True, b3, 168)] = s.keyedF c := by
  unfold St.keyedF
  simp only [badOf]
  rcases hb with ⟨h, rfl, rfl⟩ | ⟨i, l, h, hl, rfl, rfl⟩
  · rw [h]
    simp only [Option.isSome_none, Bool.false_or, if_true, decide_eq_true_eq]
    by_cases g : s.ls.length < 32
    · rw [if_pos g, if_neg (by omega)]
    · rw [if_neg g, if_pos (by omega)]
  · rw [h]
    simp only [hl, Option.isSome_some, Bool.true_or, if_true, decide_eq_true_eq]
    by_cases g : l.side = c.side
    · rw [if_pos g]
      unfold Ln.lifted
      rw [if_neg (fun e : l.side ≠ c.side => e g)]
      by_cases g2 : max l.cur l.next < 2147483647
      · rw [if_pos g2, if_neg (by omega)]
      · rw [if_neg g2, if_pos (by omega)]
    · rw [if_neg g, if_pos g]
theorem badOf_cons {P : Prop} {b : Bool} {e : Int} {l : List (Prop × Bool × Int)} : badOf ((P, b, e) :: l) = if b = true then badOf l else e := rfl
theorem bad_k1 {s : St} {c : Ch} (h : s.Right) (hk : c.kind = 1) (hsp : c.spare = false) {b2 b3 : Bool} (hb : s.lane c.key = none ∧ b2 = true ∧ b3 = true ∨ ∃ i l, s.lane c.key = some i ∧ s.ls[i]? = some l ∧ b2 = decide (l.side = c.side) ∧ b3 = decide (max l.cur l.next < 2147483647)) :
    badOf [(True, decide (1 ≤ c.link ∧ c.link ≤ 4294967295), 161), (True, decide (c.key.length = 32), 162), (True, decide (c.side = 0 ∨ c.side = 1), 163), (1 ≤ c.link ∧ c.link ≤ 4294967295, !(s.peer c.link).isSome, 164), (True, !(s.ps.any fun p => decide (p.link ≠ c.link) && (p.key == c.key)), 165), (True, decide (s.ps.length < 16), 166),
      (True, (s.lane c.key).isSome || decide (s.ls.length < 32), 167), (True, b2, 174), (True, b3, 168)] = s.fault c := by
  have hky : c.keyed = true := by unfold Ch.keyed; rw [hk]; rfl
  unfold St.fault
  rw [hsp, hky, if_neg (by decide), if_pos rfl]
  unfold St.givenF
  rw [← St.keyedF_bad hb]
  rw [badOf_cons, badOf_cons, badOf_cons, badOf_cons, badOf_cons, badOf_cons]
  generalize badOf [(True, (s.lane c.key).isSome || decide (s.ls.length < 32), 167), (True, b2, 174), (True, b3, 168)] = R
  have e1 : (!(s.ps.any fun p => decide (p.link ≠ c.link) && (p.key == c.key))) = true ↔ ¬ (s.owner c.key ≠ none ∧ s.owner c.key ≠ s.peer c.link) := by rw [St.owner_other h]; simp
  have e2 : (!(s.peer c.link).isSome) = true ↔ ¬ (c.kind = 1 ∧ s.peer c.link ≠ none) := by cases s.peer c.link <;> simp [hk]
  have e3 : decide (1 ≤ c.link ∧ c.link ≤ 4294967295) = true ↔ ¬ (c.link < 1 ∨ 4294967295 < c.link) := by rw [decide_eq_true_eq]; omega
  have e4 : decide (c.side = 0 ∨ c.side = 1) = true ↔ ¬ (c.side < 0 ∨ 1 < c.side) := by rw [decide_eq_true_eq]; omega
  have e5 : decide (s.ps.length < 16) = true ↔ ¬ (c.kind = 1 ∧ 16 ≤ s.ps.length) := by rw [decide_eq_true_eq]; omega
  have e6 : decide (c.key.length = 32) = true ↔ ¬ (c.key.length ≠ 32) := by rw [decide_eq_true_eq]; omega
  simp only [e1, e2, e3, e4, e5, e6, ite_not]
  rw [if_neg (show ¬ (c.kind = 3 ∧ s.peer c.link = none) from fun h => by rw [hk] at h; exact absurd h.1 (by decide))]
theorem bad_k3 {s : St} {c : Ch} (h : s.Right) (hk : c.kind = 3) (hsp : c.spare = false) {b2 b3 : Bool} (hb : s.lane c.key = none ∧ b2 = true ∧ b3 = true ∨ ∃ i l, s.lane c.key = some i ∧ s.ls[i]? = some l ∧ b2 = decide (l.side = c.side) ∧ b3 = decide (max l.cur l.next < 2147483647)) :
    badOf [(True, decide (1 ≤ c.link ∧ c.link ≤ 4294967295), 161), (True, decide (c.key.length = 32), 162), (True, decide (c.side = 0 ∨ c.side = 1), 163), (1 ≤ c.link ∧ c.link ≤ 4294967295, (s.peer c.link).isSome, 169), (True, !(s.ps.any fun p => decide (p.link ≠ c.link) && (p.key == c.key)), 165),
      (True, (s.lane c.key).isSome || decide (s.ls.length < 32), 167), (True, b2, 174), (True, b3, 168)] = s.fault c := by
  have hky : c.keyed = true := by unfold Ch.keyed; rw [hk]; rfl
  unfold St.fault
  rw [hsp, hky, if_neg (by decide), if_pos rfl]
  unfold St.givenF
  rw [← St.keyedF_bad hb]
  rw [badOf_cons, badOf_cons, badOf_cons, badOf_cons, badOf_cons]
  generalize badOf [(True, (s.lane c.key).isSome || decide (s.ls.length < 32), 167), (True, b2, 174), (True, b3, 168)] = R
  have e1 : (!(s.ps.any fun p => decide (p.link ≠ c.link) && (p.key == c.key))) = true ↔ ¬ (s.owner c.key ≠ none ∧ s.owner c.key ≠ s.peer c.link) := by rw [St.owner_other h]; simp
  have e2 : (s.peer c.link).isSome = true ↔ ¬ (c.kind = 3 ∧ s.peer c.link = none) := by cases s.peer c.link <;> simp [hk]
  have e3 : decide (1 ≤ c.link ∧ c.link ≤ 4294967295) = true ↔ ¬ (c.link < 1 ∨ 4294967295 < c.link) := by rw [decide_eq_true_eq]; omega
  have e4 : decide (c.side = 0 ∨ c.side = 1) = true ↔ ¬ (c.side < 0 ∨ 1 < c.side) := by rw [decide_eq_true_eq]; omega
  have e6 : decide (c.key.length = 32) = true ↔ ¬ (c.key.length ≠ 32) := by rw [decide_eq_true_eq]; omega
  simp only [e1, e2, e3, e4, e6, ite_not]
  have n1 : ∀ P : Prop, ¬ (c.kind = 1 ∧ P) := fun P h => by rw [hk] at h; exact absurd h.1 (by decide)
  rw [if_neg (n1 _), if_neg (n1 _)]
theorem St.holder_other {s : St} {x : Pfx} : s.holder x ≠ none ↔ (s.ps.any fun p => decide (x ∈ p.pfx)) = true := by
  rw [List.any_eq_true]
  constructor
  · intro h
    obtain ⟨i, hi⟩ := Option.ne_none_iff_exists'.1 h
    obtain ⟨a, h1, h2, _⟩ := ix_some' hi
    exact ⟨a, List.mem_of_getElem? h1, h2⟩
  · rintro ⟨p, hm, hp⟩ h
    have := ix_none' h p hm
    rw [hp] at this; cases this
theorem St.holder_same {s : St} (h : s.Right) {x : Pfx} {i : Nat} {p : Pr} {link : Int} (hi : s.peer link = some i) (hp : s.ps[i]? = some p) : (x ∈ p.pfx) ↔ s.holder x = s.peer link := by
  constructor
  · intro hx
    rw [hi]
    refine ix_some hp (by simpa using hx) (fun j b hj hb => ?_)
    have := pw_lb h.pfxs hb hp hj
    rw [decide_eq_false_iff_not]
    exact fun hb => this x hb hx
  · intro e
    rw [hi] at e
    obtain ⟨a, h1, h2, _⟩ := ix_some' e
    rw [hp] at h1; cases h1
    simpa using h2
theorem bad_k2 {s : St} {c : Ch} (hk : c.kind = 2) (hsp : c.spare = false) :
    badOf [(True, decide (1 ≤ c.link ∧ c.link ≤ 4294967295), 161), (1 ≤ c.link ∧ c.link ≤ 4294967295, (s.peer c.link).isSome, 169)] = s.fault c := by
  have hky : c.keyed = false := by unfold Ch.keyed; rw [hk]; rfl
  unfold St.fault
  rw [hsp, hky, if_neg (by decide), if_neg (by decide)]
  rw [badOf_cons, badOf_cons]
  have e2 : (s.peer c.link).isSome = true ↔ ¬ (s.peer c.link = none) := by cases s.peer c.link <;> simp
  have e3 : decide (1 ≤ c.link ∧ c.link ≤ 4294967295) = true ↔ ¬ (c.link < 1 ∨ 4294967295 < c.link) := by rw [decide_eq_true_eq]; omega
  simp only [e2, e3, ite_not]
  rw [if_neg (show ¬ (c.kind ≠ 2 ∧ validP c.pfx = false) from fun h => h.1 hk)]
  have n4 : ∀ P : Prop, ¬ (c.kind = 4 ∧ P) := fun P h => by rw [hk] at h; exact absurd h.1 (by decide)
  have n5 : ∀ P : Prop, ¬ (c.kind = 5 ∧ P) := fun P h => by rw [hk] at h; exact absurd h.1 (by decide)
  rw [if_neg (n4 _), if_neg (n4 _), if_neg (n5 _)]; rfl
theorem bad_k4 {s : St} {c : Ch} (hk : c.kind = 4) (hsp : c.spare = false) :
    badOf [(True, decide (1 ≤ c.link ∧ c.link ≤ 4294967295), 161), (True, validP c.pfx, 170), (1 ≤ c.link ∧ c.link ≤ 4294967295, (s.peer c.link).isSome, 169), (True, !(s.ps.any fun p => decide (c.pfx ∈ p.pfx)), 171), ((1 ≤ c.link ∧ c.link ≤ 4294967295) ∧ (s.peer c.link).isSome = true, decide ((s.pfxOf c.link).length < 16), 172)] = s.fault c := by
  have hky : c.keyed = false := by unfold Ch.keyed; rw [hk]; rfl
  unfold St.fault
  rw [hsp, hky, if_neg (by decide), if_neg (by decide)]
  rw [badOf_cons, badOf_cons, badOf_cons, badOf_cons, badOf_cons]
  have e1 : (!(s.ps.any fun p => decide (c.pfx ∈ p.pfx))) = true ↔ ¬ (c.kind = 4 ∧ s.holder c.pfx ≠ none) := by rw [St.holder_other]; simp [hk]
  have e2 : (s.peer c.link).isSome = true ↔ ¬ (s.peer c.link = none) := by cases s.peer c.link <;> simp
  have e3 : decide (1 ≤ c.link ∧ c.link ≤ 4294967295) = true ↔ ¬ (c.link < 1 ∨ 4294967295 < c.link) := by rw [decide_eq_true_eq]; omega
  have e4 : validP c.pfx = true ↔ ¬ (c.kind ≠ 2 ∧ validP c.pfx = false) := by rw [hk]; simp
  have e5 : decide ((s.pfxOf c.link).length < 16) = true ↔ ¬ (c.kind = 4 ∧ 16 ≤ (s.pfxOf c.link).length) := by rw [decide_eq_true_eq]; omega
  have n5 : ∀ P : Prop, ¬ (c.kind = 5 ∧ P) := fun P h => by rw [hk] at h; exact absurd h.1 (by decide)
  rw [if_neg (n5 _)]
  simp only [e1, e2, e3, e5, ite_not]
  simp only [e4, ite_not]; rfl
theorem bad_k5 {s : St} {c : Ch} (h : s.Right) (hk : c.kind = 5) (hsp : c.spare = false) :
    badOf [(True, decide (1 ≤ c.link ∧ c.link ≤ 4294967295), 161), (True, validP c.pfx, 170), (1 ≤ c.link ∧ c.link ≤ 4294967295, (s.peer c.link).isSome, 169), ((1 ≤ c.link ∧ c.link ≤ 4294967295) ∧ (s.peer c.link).isSome = true, decide (c.pfx ∈ s.pfxOf c.link), 173)] = s.fault c := by
  have hky : c.keyed = false := by unfold Ch.keyed; rw [hk]; rfl
  unfold St.fault
  rw [hsp, hky, if_neg (by decide), if_neg (by decide)]
  rw [badOf_cons, badOf_cons, badOf_cons, badOf_cons]
  have e2 : (s.peer c.link).isSome = true ↔ ¬ (s.peer c.link = none) := by cases s.peer c.link <;> simp
  have e3 : decide (1 ≤ c.link ∧ c.link ≤ 4294967295) = true ↔ ¬ (c.link < 1 ∨ 4294967295 < c.link) := by rw [decide_eq_true_eq]; omega
  have e4 : validP c.pfx = true ↔ ¬ (c.kind ≠ 2 ∧ validP c.pfx = false) := by rw [hk]; simp
  have n4 : ∀ P : Prop, ¬ (c.kind = 4 ∧ P) := fun P h => by rw [hk] at h; exact absurd h.1 (by decide)
  rw [if_neg (n4 _), if_neg (n4 _)]
  simp only [e2, e3, ite_not]
  simp only [e4, ite_not]
  by_cases g : s.peer c.link = none
  · rw [if_pos g, if_pos g]
  · rw [if_neg g, if_neg g]
    obtain ⟨i, hi⟩ := Option.ne_none_iff_exists'.1 g
    obtain ⟨p, hp, hl⟩ := (St.peer_some h).1 hi
    have hof : s.pfxOf c.link = p.pfx := by unfold St.pfxOf; rw [hi]; simp [hp]
    rw [hof]
    have e5 : decide (c.pfx ∈ p.pfx) = true ↔ ¬ (c.kind = 5 ∧ s.holder c.pfx ≠ s.peer c.link) := by rw [decide_eq_true_eq, St.holder_same h hi hp, hk]; simp
    simp only [e5, ite_not]; rfl
theorem Chks.consC {M : List Blk} {es : List (List SV)} {l : List (Prop × Bool × Int)} {e : List SV} {P : Prop} {b : Bool} {code : Int} (h : Chk M e b code) (hl : Chks M es l) : Chks M (e :: es) ((P, b, code) :: l) := by
  obtain ⟨fi, cap, rfl, h⟩ := h
  exact Chks.cons (fun _ => h) hl
theorem Chks.lst {M : List Blk} {es : List (List SV)} {l : List (Prop × Bool × Int)} (h : Chks M es l) {n : Nat} {ty : TypeId} (hn : M[n]? = some (.row es.flatten ty)) (hl : es.length ≤ 1000) : Lst M 2 (.sl n 0 es.length es.length) es :=
  (own_row (k := 2) (by omega) hn h.2.1).lst (by decide)
theorem EnvF.new {G G' G2 : Nat → Prop} {M L : List Blk} {f : Nat} {xp xl : SV} {s : St} {c : Ch × SV} (hf : M[f]? = some (.row [xp, xl] 63)) (hP : Prs M G xp s.ps) (hL : Lns M G' xl s.ls) (hc : ChE M G2 c) {t0 t1 : TypeId} (h0 : L[0]? = some (.row [.p f 0] t0)) (h1 : L[1]? = some (.row (chC c) t1)) :
    EnvF (M ++ L) f M.length (M.length + 1) xp xl s c :=
  ⟨(get_lt (kw hf)).trans hf, ⟨t0, by rw [get_app0]; exact h0⟩, ⟨t1, by rw [get_app]; exact h1⟩, hP.app.mono (fun _ _ => trivial), hL.app.mono (fun _ _ => trivial), (hc.ag (S := fun _ => False) Ag.app (fun _ _ _ e => e)).mono (fun _ _ => trivial)⟩
theorem falone_ok (G G' G2 : Nat → Prop) (f : Nat) (xp xl : SV) (s : St) (c : Ch × SV) (M : List Blk) (K : SV → List Blk → Prop) (hf : M[f]? = some (.row [xp, xl] 63)) (hP : Prs M G xp s.ps) (hL : Lns M G' xl s.ls) (hc : ChE M G2 c) (hs : s.Right)
    (hK : ∀ M' e, e = [.fn (.func 75) [] [.p M.length 0, .p (M.length + 1) 0], .i .i64 165] → Ag (fun _ => False) M M' → Chk M' e (!(s.ps.any fun p => decide (p.link ≠ c.1.link) && (p.key == c.1.key))) 165 → K (.agg e) M') :
    callVC Try.prog 51 [.p f 0, .agg (chC c)] M K := by
  have o2 := hc.key.one
  rw [chC_eq]
  refine fn_rule tabOK Try.func51 rfl Try.call51 (by kernel_rfl) (fun hM => ?_)
  (refine top_in ?_; simp -implicitDefEqProofs only [Try.ntmps51, Try.results51, go_sem, -List.reduceReplicate, ↓L_gdZ_tt, ↓L_gdZ_tf, ↓L_gdZ_ft, ↓L_gdZ_ff, ↓T_and, ↓T_imp, ↓T_all, o2]; try simp only [top_out])
  refine dropC_all (by simp) (hK _ _ rfl Ag.app ⟨_, _, rfl, fun M' K hA' hK => alone1_ok ((EnvF.new hf hP hL hc rfl rfl).ag hA') hs hK⟩)
theorem fgiven_ok (G G' G2 : Nat → Prop) (f : Nat) (xp xl : SV) (s : St) (c : Ch × SV) (M : List Blk) (K : SV → List Blk → Prop) (hf : M[f]? = some (.row [xp, xl] 63)) (hP : Prs M G xp s.ps) (hL : Lns M G' xl s.ls) (hc : ChE M G2 c) (hs : s.Right)
    (hK : ∀ M' y es b2 b3, (s.lane c.1.key = none ∧ b2 = true ∧ b3 = true ∨ ∃ i l, s.lane c.1.key = some i ∧ s.ls[i]? = some l ∧ b2 = decide (l.side = c.1.side) ∧ b3 = decide (max l.cur l.next < 2147483647)) → Ag (fun _ => False) M M' → Lst M' 2 y es → Chks M' es [(True, (s.lane c.1.key).isSome || decide (s.ls.length < 32), 167), (True, b2, 174), (True, b3, 168)] → K y M') :
    callVC Try.prog 53 [.p f 0, .agg (chC c)] M K := by
  have o2 := hc.key.one
  rw [chC_eq]
  refine fn_rule tabOK Try.func53 rfl Try.call53 (by kernel_rfl) (fun hM => ?_)
  (refine top_in ?_; simp -implicitDefEqProofs only [Try.ntmps53, Try.results53, go_sem, -List.reduceReplicate, ↓L_gdZ_tt, ↓L_gdZ_tf, ↓L_gdZ_ft, ↓L_gdZ_ff, ↓T_and, ↓T_imp, ↓T_all, o2]; try simp only [top_out])
  refine flane_ok _ f xp xl c.2 c.1.key s _ _ ((get_lt (kw hf)).trans hf) hL.app hs hc.key.app (fun i hi => ?_)
  (refine top_in ?_; simp -implicitDefEqProofs only [go_sem, -List.reduceReplicate, ↓L_gdZ_tt, ↓L_gdZ_tf, ↓L_gdZ_ft, ↓L_gdZ_ff, ↓T_and, ↓T_imp, ↓T_all]; try simp only [top_out])
  refine ⟨by decide, dropC_all (by simp) ?_⟩
  have hB : ∀ {L : List Blk} {t0 t1 t2 t3 t4 : TypeId}, L[0]? = some (.row [.p f 0] t0) → L[1]? = some (.row (chC c) t1) → L[2]? = some (.row [.i .i64 i] t2) → L[3]? = some (.row [.b (s.lane c.1.key).isSome] t3) →
      L[4]? = some (.row [[SV.fn (Fn.func 79) [] [.p (M.length + 3) 0, .p M.length 0], .i .i64 167], [SV.fn (Fn.func 80) [] [.p (M.length + 3) 0, .p M.length 0, .p (M.length + 2) 0, .p (M.length + 1) 0], .i .i64 174], [SV.fn (Fn.func 81) [] [.p (M.length + 3) 0, .p M.length 0, .p (M.length + 2) 0], .i .i64 168]].flatten t4) →
      K (.sl (M.length + 4) 0 3 3) (M ++ L) := by
    intro L t0 t1 t2 t3 t4 l0 l1 l2 l3 l4
    have E := EnvF.new hf hP hL hc l0 l1
    have g2 : ∀ M', Ag (fun _ => False) (M ++ L) M' → M'[M.length + 2]? = some (.row [.i .i64 i] t2) := fun M' hA => hA.get ((get_app _ _ 2).trans l2) (fun e => e)
    have g3 : ∀ M', Ag (fun _ => False) (M ++ L) M' → M'[M.length + 3]? = some (.row [.b (s.lane c.1.key).isSome] t3) := fun M' hA => hA.get ((get_app _ _ 3).trans l3) (fun e => e)
    have hlist : ∃ b2 b3, (s.lane c.1.key = none ∧ b2 = true ∧ b3 = true ∨ ∃ i l, s.lane c.1.key = some i ∧ s.ls[i]? = some l ∧ b2 = decide (l.side = c.1.side) ∧ b3 = decide (max l.cur l.next < 2147483647)) ∧
      ((s.lane c.1.key).isSome = false ∧ b2 = true ∨ (s.lane c.1.key).isSome = true ∧ ∃ l, s.ls[i]? = some l ∧ b2 = decide (l.side = c.1.side)) ∧
      ((s.lane c.1.key).isSome = false ∧ b3 = true ∨ (s.lane c.1.key).isSome = true ∧ ∃ l, s.ls[i]? = some l ∧ b3 = decide (max l.cur l.next < 2147483647)) := by
      cases e : s.lane c.1.key with
      | none => exact ⟨true, true, .inl ⟨rfl, rfl, rfl⟩, .inl ⟨rfl, rfl⟩, .inl ⟨rfl, rfl⟩⟩
      | some j =>
        obtain rfl := hi.eq hs e
        obtain ⟨l, hl, _⟩ := (St.lane_some hs).1 e
        exact ⟨_, _, .inr ⟨_, l, rfl, hl, rfl, rfl⟩, .inr ⟨rfl, l, hl, rfl⟩, .inr ⟨rfl, l, hl, rfl⟩⟩
    obtain ⟨b2, b3, q1, q2, q3⟩ := hlist
    have hch : Chks (M ++ L) _ [(True, (s.lane c.1.key).isSome || decide (s.ls.length < 32), 167), (True, b2, 174), (True, b3, 168)] :=
      Chks.cons (fun _ M' K hA hK => giv1_ok (E.ag hA) (g3 M' hA) hK) (Chks.cons (fun _ M' K hA hK => giv2_ok (E.ag hA) (g3 M' hA) (g2 M' hA) q2 hK) (Chks.cons (fun _ M' K hA hK => giv3_ok (E.ag hA) (g3 M' hA) (g2 M' hA) q3 hK) Chks.nil))
    exact hK _ _ _ b2 b3 q1 Ag.app (hch.lst ((get_app _ _ 4).trans l4) (by simp)) hch
  exact hB rfl rfl rfl rfl rfl
theorem concatC_ok {M M3 : List Blk} {n : Nat} {y1 y2 y3 : SV} {e1 e2 e3 : List (List SV)} {q1 q2 q3 : List (Prop × Bool × Int)} {ty : TypeId} {K : SV → List Blk → Prop} (hA : Ag (fun _ => False) M M3) (hn : M3[n]? = some (.row [y1, y2, y3] ty))
    (L1 : Lst M3 2 y1 e1) (C1 : Chks M3 e1 q1) (L2 : Lst M3 2 y2 e2) (C2 : Chks M3 e2 q2) (L3 : Lst M3 2 y3 e3) (C3 : Chks M3 e3 q3) (h1 : q1.length ≤ 100) (h2 : q2.length ≤ 100) (h3 : q3.length ≤ 100)
    (hK : ∀ M' y, Ag (fun _ => False) M M' → Lst M' 2 y (e1 ++ e2 ++ e3) → Chks M' (e1 ++ e2 ++ e3) (q1 ++ q2 ++ q3) → K y M') :
    callVC Try.prog 49 [.sl n 0 3 3] M3 K :=
  concatChk_ok n y1 y2 y3 e1 e2 e3 ty M3 K hn L1 L2 L3 (by rw [C1.1]; exact h1) (by rw [C2.1]; exact h2) (by rw [C3.1]; exact h3) (fun M' y o _ A => hK M' y (hA.then A) (o.lst (by decide)) (((C1.ag A).append (C2.ag A)).append (C3.ag A)))
theorem fchecks1_ok (G G' G2 : Nat → Prop) (f : Nat) (xp xl : SV) (s : St) (c : Ch × SV) (M : List Blk) (K : SV → List Blk → Prop) (hf : M[f]? = some (.row [xp, xl] 63)) (hP : Prs M G xp s.ps) (hL : Lns M G' xl s.ls) (hc : ChE M G2 c) (hs : s.Right) (hsp : c.1.spare = false) (hkd : c.1.kind = 1)
    (hK : ∀ M' y es l, Ag (fun _ => False) M M' → Lst M' 2 y es → Chks M' es l → PreL l → badOf l = s.fault c.1 → l.length ≤ 100 → K y M') :
    callVC Try.prog 27 [.p f 0, .agg (chC c)] M K := by
  obtain ⟨c, xk⟩ := c
  obtain ⟨kind, link, side, key, pfx⟩ := c
  simp only at hkd
  subst hkd
  have hlaw := fun (b2 b3 : Bool) => bad_k1 (c := ⟨1, link, side, key, pfx⟩) (b2 := b2) (b3 := b3) hs rfl hsp
  simp only at hlaw
  clear hsp
  have o2 := hc.key.one
  simp only at o2
  rw [chC_eq]
  simp only
  refine fn_rule tabOK Try.func27 rfl Try.call27 (by kernel_rfl) (fun hM => ?_)
  (refine top_in ?_; simp -implicitDefEqProofs only [Try.ntmps27, Try.results27, go_sem, -List.reduceReplicate, ↓L_gdZ_tt, ↓L_gdZ_tf, ↓L_gdZ_ft, ↓L_gdZ_ff, ↓T_and, ↓T_imp, ↓T_all, o2, Int.reduceBEq]; try simp only [top_out])
  refine ⟨by decide, ?_⟩
  refine draw_rule tabOK (by kernel_rfl : _) (.p 0 (.p 1 (.p 2 (.p 3 (.p 4 (.p 6 (.p 7 (.p 9 (.p 10 (.e 5 [9, 10] (.e 8 [9, 10] (.e 11 [] (.e 12 [] (.e 13 [] (.p 14 .nil) .no) .no) .no) (.e 11 [] (.e 8 [9, 10] (.e 12 [] (.e 13 [] (.p 14 .nil) .no) .no) .no) .no)) .no)))))))))) (by kernel_rfl) (by kernel_rfl) ?_
  (refine top_in ?_; simp -implicitDefEqProofs only [go_sem, -List.reduceReplicate, ↓L_gdZ_tt, ↓L_gdZ_tf, ↓L_gdZ_ft, ↓L_gdZ_ff, ↓T_and, ↓T_imp, ↓T_all, o2]; try simp only [top_out])
  refine falone_ok G G' G2 f xp xl s (⟨1, link, side, key, pfx⟩, xk) _ _ ((get_lt (kw hf)).trans hf) hP.app hL.app (hc.ag (S := fun _ => False) Ag.app (fun _ _ _ e => e)) hs (fun M1 e he A1 C1 => ?_)
  have c0 := A1.at0 noS rfl
  have c1 := A1.atk (k := 1) noS rfl
  have c2 := A1.atk (k := 2) noS rfl
  have c3 := A1.atk (k := 3) noS rfl
  have c4 := A1.atk (k := 4) noS rfl
  have c5 := A1.atk (k := 5) noS rfl
  have m1 := A1.1
  simp only [List.length_append, List.length_cons, List.length_nil] at m1
  have hA : Ag (fun _ => False) M M1 := Ag.app.then A1
  have E1 : EnvF M1 f M.length (M.length + 1) xp xl s (⟨1, link, side, key, pfx⟩, xk) := (EnvF.new hf hP hL hc rfl rfl).ag A1
  simp only [List.length_append, List.length_cons, List.length_nil, Nat.reduceAdd, Nat.add_assoc] at he
  have mid : ∀ Mx, Ag (fun _ => False) M1 Mx → Chks Mx [[.fn (.func 50) [] [.p (M.length + 3) 0], .i .i64 164], e, [.fn (.func 52) [] [.p M.length 0], .i .i64 166]] [(1 ≤ link ∧ link ≤ 4294967295, !(s.peer link).isSome, 164), (True, !(s.ps.any fun p => decide (p.link ≠ link) && (p.key == key)), 165), (True, decide (s.ps.length < 16), 166)] :=
    fun Mx hx => Chks.cons (fun hl M' K hA hK => chk6_ok (E1.ag (hx.then hA)) ((hx.then hA).get c3 (fun e => e)) hs hl hK) (Chks.consC (C1.ag hx) (Chks.cons (fun _ M' K hA hK => chk7_ok (E1.ag (hx.then hA)) hK) Chks.nil))
  have fst : ∀ Mx, Ag (fun _ => False) M1 Mx → Chks Mx [[.fn (.func 43) [] [.p (M.length + 1) 0], .i .i64 161], [.fn (.func 45) [] [.p (M.length + 1) 0], .i .i64 162], [.fn (.func 46) [] [.p (M.length + 1) 0], .i .i64 163]] [(True, decide (1 ≤ link ∧ link ≤ 4294967295), 161), (True, decide (key.length = 32), 162), (True, decide (side = 0 ∨ side = 1), 163)] :=
    fun Mx hx => Chks.cons (fun _ M' K hA hK => chk1_ok (E1.ag (hx.then hA)) hK) (Chks.cons (fun _ M' K hA hK => chk3_ok (E1.ag (hx.then hA)) hK) (Chks.cons (fun _ M' K hA hK => chk4_ok (E1.ag (hx.then hA)) hK) Chks.nil))
  subst he
  (refine top_in ?_; simp -implicitDefEqProofs only [go_sem, -List.reduceReplicate, ↓L_gdZ_tt, ↓L_gdZ_tf, ↓L_gdZ_ft, ↓L_gdZ_ff, ↓T_and, ↓T_imp, ↓T_all, c0, c1, c2, c3, c4, c5, o2, get_lt (kw c0), get_lt (kw c1)]; try simp only [top_out])
  refine ⟨⟨by decide, ?_⟩, ?_⟩
  · refine fgiven_ok _ _ _ f xp xl s (⟨1, link, side, key, pfx⟩, xk) _ _ E1.app.fold E1.app.ps E1.app.ls E1.app.key hs (fun M2 y2 es2 b2 b3 hb A2 L2 C2 => ?_)
    have d4 := A2.get ((get_lt (kw c4)).trans c4) (fun e => e)
    have d6 := A2.at0 noS rfl
    have B2 : Ag (fun _ => False) M1 M2 := Ag.app.then A2
    have o4 := L2.one
    (refine top_in ?_; simp -implicitDefEqProofs only [go_sem, -List.reduceReplicate, ↓L_gdZ_tt, ↓L_gdZ_tf, ↓L_gdZ_ft, ↓L_gdZ_ff, ↓T_and, ↓T_imp, ↓T_all, o4, cellsS_one o4]; try simp only [top_out])
    refine ⟨by decide, ?_⟩
    refine concatC_ok (hA.then (B2.then Ag.app)) (by rw [get_app0]; rfl) (Chks.lst (fst _ (B2.then Ag.app)) ((get_lt (kw d4)).trans d4) (by simp)) (fst _ (B2.then Ag.app)) (Chks.lst (mid _ (B2.then Ag.app)) ((get_lt (kw d6)).trans d6) (by simp)) (mid _ (B2.then Ag.app)) L2.app (C2.ag Ag.app) (by simp) (by simp) (by simp) (fun M4 y4 A4 L4 C4 => ?_)
    have m4 := A4.1
    have o5 := L4.one
    (refine top_in ?_; simp -implicitDefEqProofs only [go_sem, -List.reduceReplicate, ↓L_gdZ_tt, ↓L_gdZ_tf, ↓L_gdZ_ft, ↓L_gdZ_ff, ↓T_and, ↓T_imp, ↓T_all, o5]; try simp only [top_out])
    exact dropC_all m4 (hK M4 y4 _ _ A4 L4 C4 (by intro k q hq hj; rcases k with _ | _ | _ | _ | _ | _ | _ | _ | _ | k <;> first | (cases hq; trivial) | (cases hq; have := hj 0 _ (by omega) rfl; simpa using this) | (cases hq; have h1 := hj 0 _ (by omega) rfl; have h2 := hj 2 _ (by omega) rfl; simp at h1 h2; exact ⟨by omega, by simpa using h2⟩) | (simp at hq)) (hlaw b2 b3 hb) (by simp))
  · refine fgiven_ok _ _ _ f xp xl s (⟨1, link, side, key, pfx⟩, xk) _ _ E1.fold E1.ps E1.ls E1.key hs (fun M2 y2 es2 b2 b3 hb A2 L2 C2 => ?_)
    have d0 := A2.get c0 (fun e => e)
    have d1 := A2.get c1 (fun e => e)
    have d4 := A2.get c4 (fun e => e)
    have o4 := L2.one
    (refine top_in ?_; simp -implicitDefEqProofs only [go_sem, -List.reduceReplicate, ↓L_gdZ_tt, ↓L_gdZ_tf, ↓L_gdZ_ft, ↓L_gdZ_ff, ↓T_and, ↓T_imp, ↓T_all, o4, cellsS_one o4, d0, d1, get_lt (kw d0), get_lt (kw d1)]; try simp only [top_out])
    refine ⟨by decide, by decide, ?_⟩
    refine concatC_ok (hA.then (A2.then Ag.app)) (by rw [get_app]; rfl) (Chks.lst (fst _ (A2.then Ag.app)) ((get_lt (kw d4)).trans d4) (by simp)) (fst _ (A2.then Ag.app)) (Chks.lst (mid _ (A2.then Ag.app)) (by rw [get_app0]; rfl) (by simp)) (mid _ (A2.then Ag.app)) L2.app (C2.ag Ag.app) (by simp) (by simp) (by simp) (fun M4 y4 A4 L4 C4 => ?_)
    have m4 := A4.1
    have o5 := L4.one
    (refine top_in ?_; simp -implicitDefEqProofs only [go_sem, -List.reduceReplicate, ↓L_gdZ_tt, ↓L_gdZ_tf, ↓L_gdZ_ft, ↓L_gdZ_ff, ↓T_and, ↓T_imp, ↓T_all, o5]; try simp only [top_out])
    exact dropC_all m4 (hK M4 y4 _ _ A4 L4 C4 (by intro k q hq hj; rcases k with _ | _ | _ | _ | _ | _ | _ | _ | _ | k <;> first | (cases hq; trivial) | (cases hq; have := hj 0 _ (by omega) rfl; simpa using this) | (cases hq; have h1 := hj 0 _ (by omega) rfl; have h2 := hj 2 _ (by omega) rfl; simp at h1 h2; exact ⟨by omega, by simpa using h2⟩) | (simp at hq)) (hlaw b2 b3 hb) (by simp))
theorem fchecks3_ok (G G' G2 : Nat → Prop) (f : Nat) (xp xl : SV) (s : St) (c : Ch × SV) (M : List Blk) (K : SV → List Blk → Prop) (hf : M[f]? = some (.row [xp, xl] 63)) (hP : Prs M G xp s.ps) (hL : Lns M G' xl s.ls) (hc : ChE M G2 c) (hs : s.Right) (hsp : c.1.spare = false) (hkd : c.1.kind = 3)
    (hK : ∀ M' y es l, Ag (fun _ => False) M M' → Lst M' 2 y es → Chks M' es l → PreL l → badOf l = s.fault c.1 → l.length ≤ 100 → K y M') :
    callVC Try.prog 27 [.p f 0, .agg (chC c)] M K := by
  obtain ⟨c, xk⟩ := c
  obtain ⟨kind, link, side, key, pfx⟩ := c
  simp only at hkd
  subst hkd
  have hlaw := fun (b2 b3 : Bool) => bad_k3 (c := ⟨3, link, side, key, pfx⟩) (b2 := b2) (b3 := b3) hs rfl hsp
  simp only at hlaw
  clear hsp
  have o2 := hc.key.one
  simp only at o2
  rw [chC_eq]
  simp only
  refine fn_rule tabOK Try.func27 rfl Try.call27 (by kernel_rfl) (fun hM => ?_)
  (refine top_in ?_; simp -implicitDefEqProofs only [Try.ntmps27, Try.results27, go_sem, -List.reduceReplicate, ↓L_gdZ_tt, ↓L_gdZ_tf, ↓L_gdZ_ft, ↓L_gdZ_ff, ↓T_and, ↓T_imp, ↓T_all, o2, Int.reduceBEq]; try simp only [top_out])
  refine ⟨by decide, ?_⟩
  refine draw_rule tabOK (by kernel_rfl : _) (.p 0 (.p 1 (.p 2 (.p 3 (.p 6 (.p 7 (.e 4 [1, 6, 7] (.e 5 [6, 7] (.e 8 [1] (.e 9 [] (.e 10 [] (.p 11 .nil) .no) .no) .no) (.e 8 [1] (.e 5 [6, 7] (.e 9 [] (.e 10 [] (.p 11 .nil) .no) .no) .no) .no)) .no))))))) (by kernel_rfl) (by kernel_rfl) ?_
  (refine top_in ?_; simp -implicitDefEqProofs only [go_sem, -List.reduceReplicate, ↓L_gdZ_tt, ↓L_gdZ_tf, ↓L_gdZ_ft, ↓L_gdZ_ff, ↓T_and, ↓T_imp, ↓T_all, o2]; try simp only [top_out])
  refine falone_ok G G' G2 f xp xl s (⟨3, link, side, key, pfx⟩, xk) _ _ ((get_lt (kw hf)).trans hf) hP.app hL.app (hc.ag (S := fun _ => False) Ag.app (fun _ _ _ e => e)) hs (fun M1 e he A1 C1 => ?_)
  have c0 := A1.at0 noS rfl
  have c1 := A1.atk (k := 1) noS rfl
  have c2 := A1.atk (k := 2) noS rfl
  have c3 := A1.atk (k := 3) noS rfl
  have c4 := A1.atk (k := 4) noS rfl
  have c5 := A1.atk (k := 5) noS rfl
  have m1 := A1.1
  simp only [List.length_append, List.length_cons, List.length_nil] at m1
  have hA : Ag (fun _ => False) M M1 := Ag.app.then A1
  have E1 : EnvF M1 f M.length (M.length + 1) xp xl s (⟨3, link, side, key, pfx⟩, xk) := (EnvF.new hf hP hL hc rfl rfl).ag A1
  simp only [List.length_append, List.length_cons, List.length_nil, Nat.reduceAdd, Nat.add_assoc] at he
  have mid : ∀ Mx, Ag (fun _ => False) M1 Mx → Chks Mx [[.fn (.func 44) [] [.p M.length 0, .p (M.length + 1) 0], .i .i64 169], e] [(1 ≤ link ∧ link ≤ 4294967295, (s.peer link).isSome, 169), (True, !(s.ps.any fun p => decide (p.link ≠ link) && (p.key == key)), 165)] :=
    fun Mx hx => Chks.cons (fun hl M' K hA hK => chk2_ok (E1.ag (hx.then hA)) hs hl hK) (Chks.consC (C1.ag hx) Chks.nil)
  have fst : ∀ Mx, Ag (fun _ => False) M1 Mx → Chks Mx [[.fn (.func 43) [] [.p (M.length + 1) 0], .i .i64 161], [.fn (.func 45) [] [.p (M.length + 1) 0], .i .i64 162], [.fn (.func 46) [] [.p (M.length + 1) 0], .i .i64 163]] [(True, decide (1 ≤ link ∧ link ≤ 4294967295), 161), (True, decide (key.length = 32), 162), (True, decide (side = 0 ∨ side = 1), 163)] :=
    fun Mx hx => Chks.cons (fun _ M' K hA hK => chk1_ok (E1.ag (hx.then hA)) hK) (Chks.cons (fun _ M' K hA hK => chk3_ok (E1.ag (hx.then hA)) hK) (Chks.cons (fun _ M' K hA hK => chk4_ok (E1.ag (hx.then hA)) hK) Chks.nil))
  subst he
  (refine top_in ?_; simp -implicitDefEqProofs only [go_sem, -List.reduceReplicate, ↓L_gdZ_tt, ↓L_gdZ_tf, ↓L_gdZ_ft, ↓L_gdZ_ff, ↓T_and, ↓T_imp, ↓T_all, c0, c1, c2, c3, c4, c5, o2, get_lt (kw c0), get_lt (kw c1), get_lt (kw c3)]; try simp only [top_out])
  refine ⟨⟨by decide, ?_⟩, ?_⟩
  · refine fgiven_ok _ _ _ f xp xl s (⟨3, link, side, key, pfx⟩, xk) _ _ E1.app.fold E1.app.ps E1.app.ls E1.app.key hs (fun M2 y2 es2 b2 b3 hb A2 L2 C2 => ?_)
    have d4 := A2.get ((get_lt (kw c4)).trans c4) (fun e => e)
    have d3 := A2.get ((get_lt (kw c3)).trans c3) (fun e => e)
    have d6 := A2.at0 noS rfl
    have B2 : Ag (fun _ => False) M1 M2 := Ag.app.then A2
    have o4 := L2.one
    (refine top_in ?_; simp -implicitDefEqProofs only [go_sem, -List.reduceReplicate, ↓L_gdZ_tt, ↓L_gdZ_tf, ↓L_gdZ_ft, ↓L_gdZ_ff, ↓T_and, ↓T_imp, ↓T_all, d3, o4, cellsS_one o4]; try simp only [top_out])
    refine ⟨by decide, ?_⟩
    refine concatC_ok (hA.then (B2.then Ag.app)) (by rw [get_app0]; rfl) (Chks.lst (fst _ (B2.then Ag.app)) ((get_lt (kw d4)).trans d4) (by simp)) (fst _ (B2.then Ag.app)) (Chks.lst (mid _ (B2.then Ag.app)) ((get_lt (kw d6)).trans d6) (by simp)) (mid _ (B2.then Ag.app)) L2.app (C2.ag Ag.app) (by simp) (by simp) (by simp) (fun M4 y4 A4 L4 C4 => ?_)
    have m4 := A4.1
    have o5 := L4.one
    (refine top_in ?_; simp -implicitDefEqProofs only [go_sem, -List.reduceReplicate, ↓L_gdZ_tt, ↓L_gdZ_tf, ↓L_gdZ_ft, ↓L_gdZ_ff, ↓T_and, ↓T_imp, ↓T_all, o5]; try simp only [top_out])
    exact dropC_all m4 (hK M4 y4 _ _ A4 L4 C4 (by intro k q hq hj; rcases k with _ | _ | _ | _ | _ | _ | _ | _ | _ | k <;> first | (cases hq; trivial) | (cases hq; have := hj 0 _ (by omega) rfl; simpa using this) | (cases hq; have h1 := hj 0 _ (by omega) rfl; have h2 := hj 2 _ (by omega) rfl; simp at h1 h2; exact ⟨by omega, by simpa using h2⟩) | (simp at hq)) (hlaw b2 b3 hb) (by simp))
  · refine fgiven_ok _ _ _ f xp xl s (⟨3, link, side, key, pfx⟩, xk) _ _ E1.fold E1.ps E1.ls E1.key hs (fun M2 y2 es2 b2 b3 hb A2 L2 C2 => ?_)
    have d0 := A2.get c0 (fun e => e)
    have d1 := A2.get c1 (fun e => e)
    have d4 := A2.get c4 (fun e => e)
    have d3 := A2.get c3 (fun e => e)
    have o4 := L2.one
    (refine top_in ?_; simp -implicitDefEqProofs only [go_sem, -List.reduceReplicate, ↓L_gdZ_tt, ↓L_gdZ_tf, ↓L_gdZ_ft, ↓L_gdZ_ff, ↓T_and, ↓T_imp, ↓T_all, d3, o4, cellsS_one o4, d0, d1, get_lt (kw d0), get_lt (kw d1)]; try simp only [top_out])
    refine ⟨by decide, by decide, ?_⟩
    refine concatC_ok (hA.then (A2.then Ag.app)) (by rw [get_app]; rfl) (Chks.lst (fst _ (A2.then Ag.app)) ((get_lt (kw d4)).trans d4) (by simp)) (fst _ (A2.then Ag.app)) (Chks.lst (mid _ (A2.then Ag.app)) (by rw [get_app0]; rfl) (by simp)) (mid _ (A2.then Ag.app)) L2.app (C2.ag Ag.app) (by simp) (by simp) (by simp) (fun M4 y4 A4 L4 C4 => ?_)
    have m4 := A4.1
    have o5 := L4.one
    (refine top_in ?_; simp -implicitDefEqProofs only [go_sem, -List.reduceReplicate, ↓L_gdZ_tt, ↓L_gdZ_tf, ↓L_gdZ_ft, ↓L_gdZ_ff, ↓T_and, ↓T_imp, ↓T_all, o5]; try simp only [top_out])
    exact dropC_all m4 (hK M4 y4 _ _ A4 L4 C4 (by intro k q hq hj; rcases k with _ | _ | _ | _ | _ | _ | _ | _ | _ | k <;> first | (cases hq; trivial) | (cases hq; have := hj 0 _ (by omega) rfl; simpa using this) | (cases hq; have h1 := hj 0 _ (by omega) rfl; have h2 := hj 2 _ (by omega) rfl; simp at h1 h2; exact ⟨by omega, by simpa using h2⟩) | (simp at hq)) (hlaw b2 b3 hb) (by simp))
theorem fchecks2_ok (G G' G2 : Nat → Prop) (f : Nat) (xp xl : SV) (s : St) (c : Ch × SV) (M : List Blk) (K : SV → List Blk → Prop) (hf : M[f]? = some (.row [xp, xl] 63)) (hP : Prs M G xp s.ps) (hL : Lns M G' xl s.ls) (hc : ChE M G2 c) (hs : s.Right) (hsp : c.1.spare = false) (hkd : c.1.kind = 2)
    (hK : ∀ M' y es l, Ag (fun _ => False) M M' → Lst M' 2 y es → Chks M' es l → PreL l → badOf l = s.fault c.1 → l.length ≤ 100 → K y M') :
    callVC Try.prog 27 [.p f 0, .agg (chC c)] M K := by
  obtain ⟨c, xk⟩ := c
  obtain ⟨kind, link, side, key, pfx⟩ := c
  simp only at hkd
  subst hkd
  have hlaw := bad_k2 (s := s) (c := ⟨2, link, side, key, pfx⟩) rfl hsp
  simp only at hlaw
  clear hsp
  have o2 := hc.key.one
  simp only at o2
  rw [chC_eq]
  simp only
  refine fn_rule tabOK Try.func27 rfl Try.call27 (by kernel_rfl) (fun hM => ?_)
  (refine top_in ?_; simp -implicitDefEqProofs only [Try.ntmps27, Try.results27, go_sem, -List.reduceReplicate, ↓L_gdZ_tt, ↓L_gdZ_tf, ↓L_gdZ_ft, ↓L_gdZ_ff, ↓T_and, ↓T_imp, ↓T_all, o2, Int.reduceBEq]; try simp only [top_out])
  refine ⟨by decide, ?_⟩
  refine ⟨by decide, dropC_all (by simp) ?_⟩
  have hB : ∀ {L : List Blk} {t0 t1 t6 : TypeId}, L[0]? = some (.row [.p f 0] t0) → L[1]? = some (.row (chC (⟨2, link, side, key, pfx⟩, xk)) t1) → L[6]? = some (.row [[SV.fn (Fn.func 43) [] [.p (M.length + 1) 0], .i .i64 161], [SV.fn (Fn.func 44) [] [.p M.length 0, .p (M.length + 1) 0], .i .i64 169]].flatten t6) → K (.sl (M.length + 6) 0 2 2) (M ++ L) := by
    intro L t0 t1 t6 l0 l1 l6
    have E := EnvF.new hf hP hL hc l0 l1
    have hch : Chks (M ++ L) [[SV.fn (Fn.func 43) [] [.p (M.length + 1) 0], .i .i64 161], [SV.fn (Fn.func 44) [] [.p M.length 0, .p (M.length + 1) 0], .i .i64 169]] _ := Chks.cons (P := True) (fun _ M' K hA hK => chk1_ok (E.ag hA) hK) (Chks.cons (P := 1 ≤ link ∧ link ≤ 4294967295) (fun hl M' K hA hK => chk2_ok (E.ag hA) hs hl hK) (Chks.nil))
    exact hK _ _ _ _ Ag.app (hch.lst ((get_app _ _ 6).trans l6) (by simp)) hch (by intro k q hq hj; rcases k with _ | _ | _ | _ | _ | _ | _ | _ | _ | k <;> first | (cases hq; trivial) | (cases hq; have := hj 0 _ (by omega) rfl; simpa using this) | (cases hq; have h1 := hj 0 _ (by omega) rfl; have h2 := hj 2 _ (by omega) rfl; simp at h1 h2; exact ⟨by omega, by simpa using h2⟩) | (simp at hq)) hlaw (by simp)
  exact hB rfl rfl rfl
set_option maxRecDepth 20000 in
theorem fchecks4_ok (G G' G2 : Nat → Prop) (f : Nat) (xp xl : SV) (s : St) (c : Ch × SV) (M : List Blk) (K : SV → List Blk → Prop) (hf : M[f]? = some (.row [xp, xl] 63)) (hP : Prs M G xp s.ps) (hL : Lns M G' xl s.ls) (hc : ChE M G2 c) (hs : s.Right) (hsp : c.1.spare = false) (hkd : c.1.kind = 4)
    (hK : ∀ M' y es l, Ag (fun _ => False) M M' → Lst M' 2 y es → Chks M' es l → PreL l → badOf l = s.fault c.1 → l.length ≤ 100 → K y M') :
    callVC Try.prog 27 [.p f 0, .agg (chC c)] M K := by
  obtain ⟨c, xk⟩ := c
  obtain ⟨kind, link, side, key, pfx⟩ := c
  simp only at hkd
  subst hkd
  have hlaw := bad_k4 (s := s) (c := ⟨4, link, side, key, pfx⟩) rfl hsp
  simp only at hlaw
  clear hsp
  have o2 := hc.key.one
  simp only at o2
  rw [chC_eq]
  simp only
  refine fn_rule tabOK Try.func27 rfl Try.call27 (by kernel_rfl) (fun hM => ?_)
  (refine top_in ?_; simp -implicitDefEqProofs only [Try.ntmps27, Try.results27, go_sem, -List.reduceReplicate, ↓L_gdZ_tt, ↓L_gdZ_tf, ↓L_gdZ_ft, ↓L_gdZ_ff, ↓T_and, ↓T_imp, ↓T_all, o2, Int.reduceBEq]; try simp only [top_out])
  refine ⟨by decide, ?_⟩
  refine ⟨by decide, dropC_all (by simp) ?_⟩
  have hB : ∀ {L : List Blk} {t0 t1 t6 : TypeId}, L[0]? = some (.row [.p f 0] t0) → L[1]? = some (.row (chC (⟨4, link, side, key, pfx⟩, xk)) t1) → L[6]? = some (.row [[SV.fn (Fn.func 43) [] [.p (M.length + 1) 0], .i .i64 161], [SV.fn (Fn.func 47) [] [.p (M.length + 1) 0], .i .i64 170], [SV.fn (Fn.func 44) [] [.p M.length 0, .p (M.length + 1) 0], .i .i64 169], [SV.fn (Fn.func 54) [] [.p M.length 0, .p (M.length + 1) 0], .i .i64 171], [SV.fn (Fn.func 56) [] [.p M.length 0, .p (M.length + 1) 0], .i .i64 172]].flatten t6) → K (.sl (M.length + 6) 0 5 5) (M ++ L) := by
    intro L t0 t1 t6 l0 l1 l6
    have E := EnvF.new hf hP hL hc l0 l1
    have hch : Chks (M ++ L) [[SV.fn (Fn.func 43) [] [.p (M.length + 1) 0], .i .i64 161], [SV.fn (Fn.func 47) [] [.p (M.length + 1) 0], .i .i64 170], [SV.fn (Fn.func 44) [] [.p M.length 0, .p (M.length + 1) 0], .i .i64 169], [SV.fn (Fn.func 54) [] [.p M.length 0, .p (M.length + 1) 0], .i .i64 171], [SV.fn (Fn.func 56) [] [.p M.length 0, .p (M.length + 1) 0], .i .i64 172]] _ := Chks.cons (P := True) (fun _ M' K hA hK => chk1_ok (E.ag hA) hK) (Chks.cons (P := True) (fun _ M' K hA hK => chk5_ok (E.ag hA) hK) (Chks.cons (P := 1 ≤ link ∧ link ≤ 4294967295) (fun hl M' K hA hK => chk2_ok (E.ag hA) hs hl hK) (Chks.cons (P := True) (fun _ M' K hA hK => chk8_ok (E.ag hA) hs hK) (Chks.cons (P := (1 ≤ link ∧ link ≤ 4294967295) ∧ (s.peer link).isSome = true) (fun hl M' K hA hK => chk9_ok (E.ag hA) hs hl.1 hl.2 hK) (Chks.nil)))))
    exact hK _ _ _ _ Ag.app (hch.lst ((get_app _ _ 6).trans l6) (by simp)) hch (by intro k q hq hj; rcases k with _ | _ | _ | _ | _ | _ | _ | _ | _ | k <;> first | (cases hq; trivial) | (cases hq; have := hj 0 _ (by omega) rfl; simpa using this) | (cases hq; have h1 := hj 0 _ (by omega) rfl; have h2 := hj 2 _ (by omega) rfl; simp at h1 h2; exact ⟨by omega, by simpa using h2⟩) | (simp at hq)) hlaw (by simp)
  exact hB rfl rfl rfl
set_option maxRecDepth 20000 in
theorem fchecks5_ok (G G' G2 : Nat → Prop) (f : Nat) (xp xl : SV) (s : St) (c : Ch × SV) (M : List Blk) (K : SV → List Blk → Prop) (hf : M[f]? = some (.row [xp, xl] 63)) (hP : Prs M G xp s.ps) (hL : Lns M G' xl s.ls) (hc : ChE M G2 c) (hs : s.Right) (hsp : c.1.spare = false) (hkd : c.1.kind = 5)
    (hK : ∀ M' y es l, Ag (fun _ => False) M M' → Lst M' 2 y es → Chks M' es l → PreL l → badOf l = s.fault c.1 → l.length ≤ 100 → K y M') :
    callVC Try.prog 27 [.p f 0, .agg (chC c)] M K := by
  obtain ⟨c, xk⟩ := c
  obtain ⟨kind, link, side, key, pfx⟩ := c
  simp only at hkd
  subst hkd
  have hlaw := bad_k5 (s := s) (c := ⟨5, link, side, key, pfx⟩) hs rfl hsp
  simp only at hlaw
  clear hsp
  have o2 := hc.key.one
  simp only at o2
  rw [chC_eq]
  simp only
  refine fn_rule tabOK Try.func27 rfl Try.call27 (by kernel_rfl) (fun hM => ?_)
  (refine top_in ?_; simp -implicitDefEqProofs only [Try.ntmps27, Try.results27, go_sem, -List.reduceReplicate, ↓L_gdZ_tt, ↓L_gdZ_tf, ↓L_gdZ_ft, ↓L_gdZ_ff, ↓T_and, ↓T_imp, ↓T_all, o2, Int.reduceBEq]; try simp only [top_out])
  refine ⟨by decide, ?_⟩
  refine ⟨by decide, dropC_all (by simp) ?_⟩
  have hB : ∀ {L : List Blk} {t0 t1 t6 : TypeId}, L[0]? = some (.row [.p f 0] t0) → L[1]? = some (.row (chC (⟨5, link, side, key, pfx⟩, xk)) t1) → L[6]? = some (.row [[SV.fn (Fn.func 43) [] [.p (M.length + 1) 0], .i .i64 161], [SV.fn (Fn.func 47) [] [.p (M.length + 1) 0], .i .i64 170], [SV.fn (Fn.func 44) [] [.p M.length 0, .p (M.length + 1) 0], .i .i64 169], [SV.fn (Fn.func 58) [] [.p M.length 0, .p (M.length + 1) 0], .i .i64 173]].flatten t6) → K (.sl (M.length + 6) 0 4 4) (M ++ L) := by
    intro L t0 t1 t6 l0 l1 l6
    have E := EnvF.new hf hP hL hc l0 l1
    have hch : Chks (M ++ L) [[SV.fn (Fn.func 43) [] [.p (M.length + 1) 0], .i .i64 161], [SV.fn (Fn.func 47) [] [.p (M.length + 1) 0], .i .i64 170], [SV.fn (Fn.func 44) [] [.p M.length 0, .p (M.length + 1) 0], .i .i64 169], [SV.fn (Fn.func 58) [] [.p M.length 0, .p (M.length + 1) 0], .i .i64 173]] _ := Chks.cons (P := True) (fun _ M' K hA hK => chk1_ok (E.ag hA) hK) (Chks.cons (P := True) (fun _ M' K hA hK => chk5_ok (E.ag hA) hK) (Chks.cons (P := 1 ≤ link ∧ link ≤ 4294967295) (fun hl M' K hA hK => chk2_ok (E.ag hA) hs hl hK) (Chks.cons (P := (1 ≤ link ∧ link ≤ 4294967295) ∧ (s.peer link).isSome = true) (fun hl M' K hA hK => chk10_ok (E.ag hA) hs hl.1 hl.2 hK) (Chks.nil))))
    exact hK _ _ _ _ Ag.app (hch.lst ((get_app _ _ 6).trans l6) (by simp)) hch (by intro k q hq hj; rcases k with _ | _ | _ | _ | _ | _ | _ | _ | _ | k <;> first | (cases hq; trivial) | (cases hq; have := hj 0 _ (by omega) rfl; simpa using this) | (cases hq; have h1 := hj 0 _ (by omega) rfl; have h2 := hj 2 _ (by omega) rfl; simp at h1 h2; exact ⟨by omega, by simpa using h2⟩) | (simp at hq)) hlaw (by simp)
  exact hB rfl rfl rfl
end Go.Proofs.Ytdcplcfedcmcmaa.Eng
