/- Joined texts: E1, E2. -/
import Derived.Test.YtdcplcfedcmcmaaD9
/- The program's fold: where things stand, its checks. -/
namespace Go.Proofs.Ytdcplcfedcmcmaa.Eng
open Go Go.RowKit
set_option linter.unusedSimpArgs false
set_option linter.unusedVariables false

structure EnvF (M : List Blk) (f pb cb : Nat) (xp xl : SV) (s : St) (c : Ch × SV) : Prop where
  fold : M[f]? = some (.row [xp, xl] 63)
  ptr : ∃ ty, M[pb]? = some (.row [.p f 0] ty)
  chg : ∃ ty, M[cb]? = some (.row (chC c) ty)
  ps : Prs M (fun _ => True) xp s.ps
  ls : Lns M (fun _ => True) xl s.ls
  key : ChE M (fun _ => True) c
theorem EnvF.ag {M M' : List Blk} {f pb cb : Nat} {xp xl : SV} {s : St} {c : Ch × SV} (h : EnvF M f pb cb xp xl s c) (hA : Ag (fun _ => False) M M') : EnvF M' f pb cb xp xl s c :=
  ⟨hA.get h.fold (fun e => e), h.ptr.imp fun _ g => hA.get g (fun e => e), h.chg.imp fun _ g => hA.get g (fun e => e), h.ps.ag hA (fun _ _ _ e => e), h.ls.ag hA (fun _ _ _ e => e), h.key.ag hA (fun _ _ _ e => e)⟩
theorem EnvF.app {M L : List Blk} {f pb cb : Nat} {xp xl : SV} {s : St} {c : Ch × SV} (h : EnvF M f pb cb xp xl s c) : EnvF (M ++ L) f pb cb xp xl s c := h.ag Ag.app

theorem fpeer_ok (G : Nat → Prop) (f : Nat) (xp xl : SV) (link : Int) (s : St) (M : List Blk) (K : SV → List Blk → Prop) (hf : M[f]? = some (.row [xp, xl] 63)) (hP : Prs M G xp s.ps) (hs : s.Right) (hl : 0 ≤ link ∧ link ≤ 4294967295)
    (hK : ∀ i, AtP s link i → K (.tup [.i .i64 i, .b (s.peer link).isSome]) M) : callVC Try.prog 28 [.p f 0, .i .i64 link] M K := by
  have o1 := hP.one
  refine fn_rule tabOK Try.func28 rfl Try.call28 (by kernel_rfl) (fun hM => ?_)
  (refine top_in ?_; simp -implicitDefEqProofs only [Try.ntmps28, Try.results28, go_sem, -List.reduceReplicate, ↓L_gdZ_tt, ↓L_gdZ_tf, ↓L_gdZ_ft, ↓L_gdZ_ff, ↓T_and, ↓T_imp, ↓T_all, hf]; try simp only [top_out])
  refine bsPr_ok xp G link s _ _ hP hs hl (fun i hi => ?_)
  (refine top_in ?_; simp -implicitDefEqProofs only [go_sem, -List.reduceReplicate, ↓L_gdZ_tt, ↓L_gdZ_tf, ↓L_gdZ_ft, ↓L_gdZ_ff, ↓T_and, ↓T_imp, ↓T_all]; try simp only [top_out])
  exact dropC_self hM rfl (hK i hi)
theorem flane_ok (G : Nat → Prop) (f : Nat) (xp xl y : SV) (key : List (BitVec 8)) (s : St) (M : List Blk) (K : SV → List Blk → Prop) (hf : M[f]? = some (.row [xp, xl] 63)) (hL : Lns M G xl s.ls) (hs : s.Right) (hy : Byt M y key)
    (hK : ∀ i, AtL s key i → K (.tup [.i .i64 i, .b (s.lane key).isSome]) M) : callVC Try.prog 64 [.p f 0, y] M K := by
  have o1 := hL.one
  refine fn_rule tabOK Try.func64 rfl Try.call64 (by kernel_rfl) (fun hM => ?_)
  (refine top_in ?_; simp -implicitDefEqProofs only [Try.ntmps64, Try.results64, go_sem, -List.reduceReplicate, ↓L_gdZ_tt, ↓L_gdZ_tf, ↓L_gdZ_ft, ↓L_gdZ_ff, ↓T_and, ↓T_imp, ↓T_all, hf]; try simp only [top_out])
  refine bsLn_ok xl G y key s _ _ hL hs hy (fun i hi => ?_)
  (refine top_in ?_; simp -implicitDefEqProofs only [go_sem, -List.reduceReplicate, ↓L_gdZ_tt, ↓L_gdZ_tf, ↓L_gdZ_ft, ↓L_gdZ_ff, ↓T_and, ↓T_imp, ↓T_all]; try simp only [top_out])
  exact dropC_self hM rfl (hK i hi)
theorem dropQ {M : List Blk} {a b : Bool} {K : SV → List Blk → Prop} (hM : ∀ (n : Nat) (B : Blk), M[n]? = some B → B.lt M.length = true) (hK : K (.b a) M) (h : a = b) : dropC M.length (.b b) M K :=
  dropC_self hM rfl (h ▸ hK)
theorem chC_eq (c : Ch × SV) : chC c = [.i .i64 c.1.kind, .i .i64 c.1.link, .i .i64 c.1.side, c.2, .i .i64 c.1.pfx.fam, .u64 c.1.pfx.hi, .u64 c.1.pfx.lo, .i .i64 c.1.pfx.bits] := rfl
theorem AtP.eq {s : St} (h : s.Right) {link : Int} {i j : Nat} (ha : AtP s link j) (hi : s.peer link = some i) : j = i := by
  have := ha.peer h
  rw [hi] at this
  have h2 := of_decide_eq_true this.symm
  have := (St.peer_some h).2 h2
  rw [hi] at this
  cases this; rfl
theorem AtL.eq {s : St} (h : s.Right) {key : List (BitVec 8)} {i j : Nat} (ha : AtL s key j) (hi : s.lane key = some i) : j = i := by
  have := ha.lane h
  rw [hi] at this
  have h2 := of_decide_eq_true this.symm
  have := (St.lane_some h).2 h2
  rw [hi] at this
  cases this; rfl
section checks
variable {M : List Blk} {f pb cb : Nat} {xp xl : SV} {s : St} {c : Ch × SV} {K : SV → List Blk → Prop}
theorem chk1_ok (h : EnvF M f pb cb xp xl s c) (hK : K (.b (decide (1 ≤ c.1.link ∧ c.1.link ≤ 4294967295))) M) : callVC Try.prog 43 [.p cb 0] M K := by
  obtain ⟨ty, hc⟩ := h.chg
  rw [chC_eq] at hc
  refine fn_rule tabOK Try.func43 rfl Try.call43 (by kernel_rfl) (fun hM => ?_)
  (refine top_in ?_; simp -implicitDefEqProofs only [Try.ntmps43, Try.results43, go_sem, -List.reduceReplicate, ↓L_gdZ_tt, ↓L_gdZ_tf, ↓L_gdZ_ft, ↓L_gdZ_ff, ↓T_and, ↓T_imp, ↓T_all, hc]; try simp only [top_out])
  refine ⟨fun h1 => dropQ hM hK ?_, fun h1 => dropQ hM hK (decide_eq_false (by omega))⟩
  by_cases g : c.1.link ≤ 4294967295
  · rw [decide_eq_true g, decide_eq_true ⟨h1, g⟩]
  · rw [decide_eq_false g, decide_eq_false (fun h => g h.2)]
theorem chk3_ok (h : EnvF M f pb cb xp xl s c) (hK : K (.b (decide (c.1.key.length = 32))) M) : callVC Try.prog 45 [.p cb 0] M K := by
  obtain ⟨ty, hc⟩ := h.chg
  have la : ∀ {M' : List Blk} {e a' b' : Nat} {K : SV → Prop}, lenB (.slice e a' b') M' c.2 K = K (.i .i64 c.1.key.length) := h.key.key.lenB
  rw [chC_eq] at hc
  refine fn_rule tabOK Try.func45 rfl Try.call45 (by kernel_rfl) (fun hM => ?_)
  (refine top_in ?_; simp -implicitDefEqProofs only [Try.ntmps45, Try.results45, go_sem, -List.reduceReplicate, ↓L_gdZ_tt, ↓L_gdZ_tf, ↓L_gdZ_ft, ↓L_gdZ_ff, ↓T_and, ↓T_imp, ↓T_all, hc, la]; try simp only [top_out])
  refine dropQ hM hK ?_
  by_cases g : c.1.key.length = 32
  · rw [decide_eq_true g, g]; rfl
  · rw [decide_eq_false g]
    have : (c.1.key.length : Int) ≠ 32 := by omega
    simp [this]
theorem chk4_ok (h : EnvF M f pb cb xp xl s c) (hK : K (.b (decide (c.1.side = 0 ∨ c.1.side = 1))) M) : callVC Try.prog 46 [.p cb 0] M K := by
  obtain ⟨ty, hc⟩ := h.chg
  rw [chC_eq] at hc
  refine fn_rule tabOK Try.func46 rfl Try.call46 (by kernel_rfl) (fun hM => ?_)
  (refine top_in ?_; simp -implicitDefEqProofs only [Try.ntmps46, Try.results46, go_sem, -List.reduceReplicate, ↓L_gdZ_tt, ↓L_gdZ_tf, ↓L_gdZ_ft, ↓L_gdZ_ff, ↓T_and, ↓T_imp, ↓T_all, hc]; try simp only [top_out])
  refine ⟨fun h1 => dropQ hM hK ?_, fun h1 => dropQ hM hK (decide_eq_true (.inl (beqT h1)))⟩
  have := beqF h1
  by_cases g : c.1.side = 1
  · rw [decide_eq_true (.inr g), g]; rfl
  · rw [decide_eq_false (fun h => h.elim this g)]; simp [g]
theorem chk5_ok (h : EnvF M f pb cb xp xl s c) (hK : K (.b (validP c.1.pfx)) M) : callVC Try.prog 47 [.p cb 0] M K := by
  obtain ⟨ty, hc⟩ := h.chg
  rw [chC_eq] at hc
  refine fn_rule tabOK Try.func47 rfl Try.call47 (by kernel_rfl) (fun hM => ?_)
  (refine top_in ?_; simp -implicitDefEqProofs only [Try.ntmps47, Try.results47, go_sem, -List.reduceReplicate, ↓L_gdZ_tt, ↓L_gdZ_tf, ↓L_gdZ_ft, ↓L_gdZ_ff, ↓T_and, ↓T_imp, ↓T_all, hc]; try simp only [top_out])
  refine pvalid_ok c.1.pfx _ _ ?_
  (refine top_in ?_; simp -implicitDefEqProofs only [go_sem, -List.reduceReplicate, ↓L_gdZ_tt, ↓L_gdZ_tf, ↓L_gdZ_ft, ↓L_gdZ_ff, ↓T_and, ↓T_imp, ↓T_all]; try simp only [top_out])
  exact dropC_self hM rfl hK
theorem chk2_ok (h : EnvF M f pb cb xp xl s c) (hs : s.Right) (hl : 1 ≤ c.1.link ∧ c.1.link ≤ 4294967295) (hK : K (.b (s.peer c.1.link).isSome) M) : callVC Try.prog 44 [.p pb 0, .p cb 0] M K := by
  obtain ⟨ty, hc⟩ := h.chg
  obtain ⟨ty', hp⟩ := h.ptr
  rw [chC_eq] at hc
  refine fn_rule tabOK Try.func44 rfl Try.call44 (by kernel_rfl) (fun hM => ?_)
  (refine top_in ?_; simp -implicitDefEqProofs only [Try.ntmps44, Try.results44, go_sem, -List.reduceReplicate, ↓L_gdZ_tt, ↓L_gdZ_tf, ↓L_gdZ_ft, ↓L_gdZ_ff, ↓T_and, ↓T_imp, ↓T_all, hc, hp]; try simp only [top_out])
  refine fpeer_ok _ f xp xl c.1.link s _ _ h.fold h.ps hs (by omega) (fun i hi => ?_)
  (refine top_in ?_; simp -implicitDefEqProofs only [go_sem, -List.reduceReplicate, ↓L_gdZ_tt, ↓L_gdZ_tf, ↓L_gdZ_ft, ↓L_gdZ_ff, ↓T_and, ↓T_imp, ↓T_all]; try simp only [top_out])
  exact dropC_self hM rfl hK
theorem chk6_ok (h : EnvF M f pb cb xp xl s c) {tb : Nat} {ty : TypeId} {e : Int} (ht : M[tb]? = some (.row [.fn (.func 44) [] [.p pb 0, .p cb 0], .i .i64 e] ty)) (hs : s.Right) (hl : 1 ≤ c.1.link ∧ c.1.link ≤ 4294967295) (hK : K (.b (!(s.peer c.1.link).isSome)) M) : callVC Try.prog 50 [.p tb 0] M K := by
  refine fn_rule tabOK Try.func50 rfl Try.call50 (by kernel_rfl) (fun hM => ?_)
  (refine top_in ?_; simp -implicitDefEqProofs only [Try.ntmps50, Try.results50, go_sem, -List.reduceReplicate, ↓L_gdZ_tt, ↓L_gdZ_tf, ↓L_gdZ_ft, ↓L_gdZ_ff, ↓T_and, ↓T_imp, ↓T_all, ht]; try simp only [top_out])
  refine chk2_ok h hs hl ?_
  (refine top_in ?_; simp -implicitDefEqProofs only [go_sem, -List.reduceReplicate, ↓L_gdZ_tt, ↓L_gdZ_tf, ↓L_gdZ_ft, ↓L_gdZ_ff, ↓T_and, ↓T_imp, ↓T_all]; try simp only [top_out])
  exact dropC_self hM rfl hK
theorem chk7_ok (h : EnvF M f pb cb xp xl s c) (hK : K (.b (decide (s.ps.length < 16))) M) : callVC Try.prog 52 [.p pb 0] M K := by
  obtain ⟨ty', hp⟩ := h.ptr
  have la : ∀ {M' : List Blk} {e a' b' : Nat} {K : SV → Prop}, lenB (.slice e a' b') M' xp K = K (.i .i64 s.ps.length) := h.ps.lenB
  refine fn_rule tabOK Try.func52 rfl Try.call52 (by kernel_rfl) (fun hM => ?_)
  (refine top_in ?_; simp -implicitDefEqProofs only [Try.ntmps52, Try.results52, go_sem, -List.reduceReplicate, ↓L_gdZ_tt, ↓L_gdZ_tf, ↓L_gdZ_ft, ↓L_gdZ_ff, ↓T_and, ↓T_imp, ↓T_all, hp, h.fold, la]; try simp only [top_out])
  refine dropQ hM hK ?_
  by_cases g : s.ps.length < 16
  · rw [decide_eq_true g, decide_eq_true (by omega)]
  · rw [decide_eq_false g, decide_eq_false (by omega)]
theorem alone11_ok (G : Nat → Prop) (e : Pr × SV × SV) (he : PrE M G e) {ty : TypeId} (hc : M[cb]? = some (.row (chC c) ty)) (hk : Byt M c.2 c.1.key) (hK : K (.b (decide (e.1.link ≠ c.1.link) && (e.1.key == c.1.key))) M) : callVC Try.prog 77 [.agg (prC e), .p cb 0] M K := by
  obtain ⟨p, xk, xp⟩ := e
  have o1 := he.key.one
  have o2 := he.pfx.one
  simp only at o1 o2 hK
  unfold prC
  rw [chC_eq] at hc
  refine fn_rule tabOK Try.func77 rfl Try.call77 (by kernel_rfl) (fun hM => ?_)
  (refine top_in ?_; simp -implicitDefEqProofs only [Try.ntmps77, Try.results77, go_sem, -List.reduceReplicate, ↓L_gdZ_tt, ↓L_gdZ_tf, ↓L_gdZ_ft, ↓L_gdZ_ff, ↓T_and, ↓T_imp, ↓T_all, o1, o2, hc, get_lt (kw hc)]; try simp only [top_out])
  refine ⟨fun h1 => equal_byt _ _ _ _ _ _ he.key.app hk.app ?_, fun h1 => ?_⟩
  · (refine top_in ?_; simp -implicitDefEqProofs only [go_sem, -List.reduceReplicate, ↓L_gdZ_tt, ↓L_gdZ_tf, ↓L_gdZ_ft, ↓L_gdZ_ff, ↓T_and, ↓T_imp, ↓T_all]; try simp only [top_out])
    refine dropB hM hK ?_
    rw [decide_eq_true (bneT h1), Bool.true_and]
  · refine dropB hM hK ?_
    rw [decide_eq_false (fun g => g (bneF h1)), Bool.false_and]
theorem alone1_ok (h : EnvF M f pb cb xp xl s c) (hs : s.Right) (hK : K (.b (!(s.ps.any fun p => decide (p.link ≠ c.1.link) && (p.key == c.1.key)))) M) : callVC Try.prog 75 [.p pb 0, .p cb 0] M K := by
  obtain ⟨ty', hp⟩ := h.ptr
  obtain ⟨ty, hc⟩ := h.chg
  have hn := hs.np
  have o1 := h.ps.one
  refine fn_rule tabOK Try.func75 rfl Try.call75 (by kernel_rfl) (fun hM => ?_)
  (refine top_in ?_; simp -implicitDefEqProofs only [Try.ntmps75, Try.results75, go_sem, -List.reduceReplicate, ↓L_gdZ_tt, ↓L_gdZ_tf, ↓L_gdZ_ft, ↓L_gdZ_ff, ↓T_and, ↓T_imp, ↓T_all, hp, h.fold]; try simp only [top_out])
  refine containsFn_ok xp _ s.ps (fun p => decide (p.link ≠ c.1.link) && (p.key == c.1.key)) _ _ M _ h.ps (by omega) (fun e K he hm hK => alone11_ok _ e he hc h.key.key hK) ?_
  (refine top_in ?_; simp -implicitDefEqProofs only [go_sem, -List.reduceReplicate, ↓L_gdZ_tt, ↓L_gdZ_tf, ↓L_gdZ_ft, ↓L_gdZ_ff, ↓T_and, ↓T_imp, ↓T_all]; try simp only [top_out])
  exact dropC_self hM rfl hK
theorem allowed1_ok (G : Nat → Prop) (e : Pr × SV × SV) (q : Pfx) {qb : Nat} (he : PrE M G e) {ty : TypeId} (hc : M[qb]? = some (.row (pxC q) ty)) (hn : e.1.pfx.length ≤ 1000) (hK : K (.b (decide (q ∈ e.1.pfx))) M) : callVC Try.prog 82 [.agg (prC e), .p qb 0] M K := by
  obtain ⟨p, xk, xp⟩ := e
  have o1 := he.key.one
  have o2 := he.pfx.one
  simp only at o1 o2 hK hn
  unfold prC
  have hq : pxC q = [.i .i64 q.fam, .u64 q.hi, .u64 q.lo, .i .i64 q.bits] := rfl
  rw [hq] at hc
  refine fn_rule tabOK Try.func82 rfl Try.call82 (by kernel_rfl) (fun hM => ?_)
  (refine top_in ?_; simp -implicitDefEqProofs only [Try.ntmps82, Try.results82, go_sem, -List.reduceReplicate, ↓L_gdZ_tt, ↓L_gdZ_tf, ↓L_gdZ_ft, ↓L_gdZ_ff, ↓T_and, ↓T_imp, ↓T_all, o1, o2, hc, get_lt (kw hc)]; try simp only [top_out])
  refine containsPx_ok xp q p.pfx _ _ (Lst.app he.pfx) hn ?_
  (refine top_in ?_; simp -implicitDefEqProofs only [go_sem, -List.reduceReplicate, ↓L_gdZ_tt, ↓L_gdZ_tf, ↓L_gdZ_ft, ↓L_gdZ_ff, ↓T_and, ↓T_imp, ↓T_all]; try simp only [top_out])
  exact dropC_append hM rfl hK
theorem allowed_ok (f : Nat) (xp xl : SV) (q : Pfx) (G : Nat → Prop) (hf : M[f]? = some (.row [xp, xl] 63)) (hP : Prs M G xp s.ps) (hs : s.Right) (hK : K (.b (s.ps.any fun p => decide (q ∈ p.pfx))) M) : callVC Try.prog 55 [.p f 0, .agg (pxC q)] M K := by
  have hn := hs.np
  have o1 := hP.one
  have hq : pxC q = [.i .i64 q.fam, .u64 q.hi, .u64 q.lo, .i .i64 q.bits] := rfl
  rw [hq]
  refine fn_rule tabOK Try.func55 rfl Try.call55 (by kernel_rfl) (fun hM => ?_)
  (refine top_in ?_; simp -implicitDefEqProofs only [Try.ntmps55, Try.results55, go_sem, -List.reduceReplicate, ↓L_gdZ_tt, ↓L_gdZ_tf, ↓L_gdZ_ft, ↓L_gdZ_ff, ↓T_and, ↓T_imp, ↓T_all, get_lt (kw hf), hf]; try simp only [top_out])
  refine containsFn_ok xp G s.ps (fun p => decide (q ∈ p.pfx)) _ _ _ _ hP.app (by omega) (fun e K he hm hK => allowed1_ok G e q he (by rw [get_app0]; rfl) (by have := (hs.peer e.1 hm).many; omega) hK) ?_
  (refine top_in ?_; simp -implicitDefEqProofs only [go_sem, -List.reduceReplicate, ↓L_gdZ_tt, ↓L_gdZ_tf, ↓L_gdZ_ft, ↓L_gdZ_ff, ↓T_and, ↓T_imp, ↓T_all]; try simp only [top_out])
  exact dropC_append hM rfl hK
theorem chk8_ok (h : EnvF M f pb cb xp xl s c) (hs : s.Right) (hK : K (.b (!(s.ps.any fun p => decide (c.1.pfx ∈ p.pfx)))) M) : callVC Try.prog 54 [.p pb 0, .p cb 0] M K := by
  obtain ⟨ty', hp⟩ := h.ptr
  obtain ⟨ty, hc⟩ := h.chg
  rw [chC_eq] at hc
  refine fn_rule tabOK Try.func54 rfl Try.call54 (by kernel_rfl) (fun hM => ?_)
  (refine top_in ?_; simp -implicitDefEqProofs only [Try.ntmps54, Try.results54, go_sem, -List.reduceReplicate, ↓L_gdZ_tt, ↓L_gdZ_tf, ↓L_gdZ_ft, ↓L_gdZ_ff, ↓T_and, ↓T_imp, ↓T_all, hp, hc]; try simp only [top_out])
  refine allowed_ok f xp xl c.1.pfx _ h.fold h.ps hs ?_
  (refine top_in ?_; simp -implicitDefEqProofs only [go_sem, -List.reduceReplicate, ↓L_gdZ_tt, ↓L_gdZ_tf, ↓L_gdZ_ft, ↓L_gdZ_ff, ↓T_and, ↓T_imp, ↓T_all]; try simp only [top_out])
  exact dropC_self hM rfl hK
theorem prefixes2_ok (G G2 : Nat → Prop) (f : Nat) (xp xl : SV) (c : Ch × SV) {i : Nat} {p : Pr} (hf : M[f]? = some (.row [xp, xl] 63)) (hP : Prs M G xp s.ps) (hs : s.Right) (hc : ChE M G2 c) (hl : 1 ≤ c.1.link ∧ c.1.link ≤ 4294967295) (hi : s.peer c.1.link = some i) (hp : s.ps[i]? = some p)
    (hK : ∀ y, Pxs M y p.pfx → K y M) : callVC Try.prog 57 [.p f 0, .agg (chC c)] M K := by
  have o1 := hP.one
  have o2 := hc.key.one
  rw [chC_eq]
  refine fn_rule tabOK Try.func57 rfl Try.call57 (by kernel_rfl) (fun hM => ?_)
  (refine top_in ?_; simp -implicitDefEqProofs only [Try.ntmps57, Try.results57, go_sem, -List.reduceReplicate, ↓L_gdZ_tt, ↓L_gdZ_tf, ↓L_gdZ_ft, ↓L_gdZ_ff, ↓T_and, ↓T_imp, ↓T_all, o2, get_lt (kw hf), hf]; try simp only [top_out])
  refine fpeer_ok G f xp xl c.1.link s _ _ ((get_lt (kw hf)).trans hf) hP.app hs (by omega) (fun j hj => ?_)
  (refine top_in ?_; simp -implicitDefEqProofs only [go_sem, -List.reduceReplicate, ↓L_gdZ_tt, ↓L_gdZ_tf, ↓L_gdZ_ft, ↓L_gdZ_ff, ↓T_and, ↓T_imp, ↓T_all]; try simp only [top_out])
  obtain rfl := hj.eq hs hi
  obtain ⟨n, cap, e, rfl, l1, g1, g2, g3, g4, g5, g6, g7⟩ := hP.at (List.getElem?_eq_some_iff.1 hp).1
  rw [hp] at g1
  cases g1
  have o3 := g2.pfx.one
  have hil := (List.getElem?_eq_some_iff.1 hp).1
  (refine top_in ?_; simp -implicitDefEqProofs only [go_sem, -List.reduceReplicate, ↓L_gdZ_tt, ↓L_gdZ_tf, ↓L_gdZ_ft, ↓L_gdZ_ff, ↓T_and, ↓T_imp, ↓T_all, get_lt (kw hf), hf, get_lt l1, g7, o3]; try simp only [top_out])
  refine ⟨by omega, by omega, by omega, by omega, by omega, dropC_append hM (by simpa using g2.pfx.lt) (hK _ g2.pfx)⟩
theorem chk9_ok (h : EnvF M f pb cb xp xl s c) (hs : s.Right) (hl : 1 ≤ c.1.link ∧ c.1.link ≤ 4294967295) (hi : (s.peer c.1.link).isSome = true) (hK : K (.b (decide ((s.pfxOf c.1.link).length < 16))) M) : callVC Try.prog 56 [.p pb 0, .p cb 0] M K := by
  obtain ⟨ty', hp⟩ := h.ptr
  obtain ⟨ty, hc⟩ := h.chg
  obtain ⟨i, hi⟩ := Option.isSome_iff_exists.1 hi
  obtain ⟨p, hpi, hpl⟩ := (St.peer_some hs).1 hi
  have hof : s.pfxOf c.1.link = p.pfx := by unfold St.pfxOf; rw [hi]; simp [hpi]
  have o2 := h.key.key.one
  rw [hof] at hK
  rw [chC_eq] at hc
  refine fn_rule tabOK Try.func56 rfl Try.call56 (by kernel_rfl) (fun hM => ?_)
  (refine top_in ?_; simp -implicitDefEqProofs only [Try.ntmps56, Try.results56, go_sem, -List.reduceReplicate, ↓L_gdZ_tt, ↓L_gdZ_tf, ↓L_gdZ_ft, ↓L_gdZ_ff, ↓T_and, ↓T_imp, ↓T_all, hp, hc]; try simp only [top_out])
  refine prefixes2_ok _ _ f xp xl c h.fold h.ps hs h.key hl hi hpi (fun y hy => ?_)
  have la : ∀ {M' : List Blk} {e a' b' : Nat} {K : SV → Prop}, lenB (.slice e a' b') M' y K = K (.i .i64 p.pfx.length) := Pxs.lenB hy
  (refine top_in ?_; simp -implicitDefEqProofs only [go_sem, -List.reduceReplicate, ↓L_gdZ_tt, ↓L_gdZ_tf, ↓L_gdZ_ft, ↓L_gdZ_ff, ↓T_and, ↓T_imp, ↓T_all, la]; try simp only [top_out])
  refine dropQ hM hK ?_
  by_cases g : p.pfx.length < 16
  · rw [decide_eq_true g, decide_eq_true (by omega)]
  · rw [decide_eq_false g, decide_eq_false (by omega)]
theorem chk10_ok (h : EnvF M f pb cb xp xl s c) (hs : s.Right) (hl : 1 ≤ c.1.link ∧ c.1.link ≤ 4294967295) (hi : (s.peer c.1.link).isSome = true) (hK : K (.b (decide (c.1.pfx ∈ s.pfxOf c.1.link))) M) : callVC Try.prog 58 [.p pb 0, .p cb 0] M K := by
  obtain ⟨ty', hp⟩ := h.ptr
  obtain ⟨ty, hc⟩ := h.chg
  obtain ⟨i, hi⟩ := Option.isSome_iff_exists.1 hi
  obtain ⟨p, hpi, hpl⟩ := (St.peer_some hs).1 hi
  have hof : s.pfxOf c.1.link = p.pfx := by unfold St.pfxOf; rw [hi]; simp [hpi]
  have hm := (hs.peer p (List.mem_of_getElem? hpi)).many
  have o2 := h.key.key.one
  rw [hof] at hK
  rw [chC_eq] at hc
  refine fn_rule tabOK Try.func58 rfl Try.call58 (by kernel_rfl) (fun hM => ?_)
  (refine top_in ?_; simp -implicitDefEqProofs only [Try.ntmps58, Try.results58, go_sem, -List.reduceReplicate, ↓L_gdZ_tt, ↓L_gdZ_tf, ↓L_gdZ_ft, ↓L_gdZ_ff, ↓T_and, ↓T_imp, ↓T_all, hp, hc]; try simp only [top_out])
  refine draw_rule tabOK (by kernel_rfl : _) (.p 0 (.p 1 (.p 3 (.p 4 (.e 2 [3, 4] (.e 5 [] (.p 6 .nil) .no) .no))))) (by kernel_rfl) (by kernel_rfl) ?_
  (refine top_in ?_; simp -implicitDefEqProofs only [go_sem, -List.reduceReplicate, ↓L_gdZ_tt, ↓L_gdZ_tf, ↓L_gdZ_ft, ↓L_gdZ_ff, ↓T_and, ↓T_imp, ↓T_all, hp, hc]; try simp only [top_out])
  refine prefixes2_ok _ _ f xp xl c h.fold h.ps hs h.key hl hi hpi (fun y hy => ?_)
  (refine top_in ?_; simp -implicitDefEqProofs only [go_sem, -List.reduceReplicate, ↓L_gdZ_tt, ↓L_gdZ_tf, ↓L_gdZ_ft, ↓L_gdZ_ff, ↓T_and, ↓T_imp, ↓T_all, hc]; try simp only [top_out])
  refine containsPx_ok y c.1.pfx p.pfx _ _ hy (by omega) ?_
  (refine top_in ?_; simp -implicitDefEqProofs only [go_sem, -List.reduceReplicate, ↓L_gdZ_tt, ↓L_gdZ_tf, ↓L_gdZ_ft, ↓L_gdZ_ff, ↓T_and, ↓T_imp, ↓T_all]; try simp only [top_out])
  exact dropC_self hM rfl hK
/-- what a key's lane answers -/
theorem giv1_ok (h : EnvF M f pb cb xp xl s c) {bb : Nat} {b : Bool} {ty : TypeId} (hb : M[bb]? = some (.row [.b b] ty)) (hK : K (.b (b || decide (s.ls.length < 32))) M) : callVC Try.prog 79 [.p bb 0, .p pb 0] M K := by
  obtain ⟨ty', hp⟩ := h.ptr
  have la : ∀ {M' : List Blk} {e a' b' : Nat} {K : SV → Prop}, lenB (.slice e a' b') M' xl K = K (.i .i64 s.ls.length) := h.ls.lenB
  cases b
  all_goals
    refine fn_rule tabOK Try.func79 rfl Try.call79 (by kernel_rfl) (fun hM => ?_)
    (refine top_in ?_; simp -implicitDefEqProofs only [Try.ntmps79, Try.results79, go_sem, -List.reduceReplicate, ↓L_gdZ_tt, ↓L_gdZ_tf, ↓L_gdZ_ft, ↓L_gdZ_ff, ↓T_and, ↓T_imp, ↓T_all, hp, hb, h.fold, la]; try simp only [top_out])
    refine dropQ hM hK ?_
    first
      | rfl
      | (rw [Bool.false_or]
         by_cases g : s.ls.length < 32
         · rw [decide_eq_true g, decide_eq_true (by omega)]
         · rw [decide_eq_false g, decide_eq_false (by omega)])
theorem giv2_ok (h : EnvF M f pb cb xp xl s c) {bb ib i : Nat} {b : Bool} {ty tyi : TypeId} {q : Bool} (hb : M[bb]? = some (.row [.b b] ty)) (hi : M[ib]? = some (.row [.i .i64 i] tyi)) (hq : b = false ∧ q = true ∨ b = true ∧ ∃ l, s.ls[i]? = some l ∧ q = decide (l.side = c.1.side)) (hK : K (.b q) M) : callVC Try.prog 80 [.p bb 0, .p pb 0, .p ib 0, .p cb 0] M K := by
  obtain ⟨ty', hp⟩ := h.ptr
  obtain ⟨tyc, hc⟩ := h.chg
  rw [chC_eq] at hc
  rcases hq with ⟨rfl, rfl⟩ | ⟨rfl, l, hl, rfl⟩
  · refine fn_rule tabOK Try.func80 rfl Try.call80 (by kernel_rfl) (fun hM => ?_)
    (refine top_in ?_; simp -implicitDefEqProofs only [Try.ntmps80, Try.results80, go_sem, -List.reduceReplicate, ↓L_gdZ_tt, ↓L_gdZ_tf, ↓L_gdZ_ft, ↓L_gdZ_ff, ↓T_and, ↓T_imp, ↓T_all, hp, hb, hc, hi, h.fold]; try simp only [top_out])
    refine draw_rule tabOK (by kernel_rfl : _) (.p 0 (.p 1 (.p 2 (.p 3 (.p 4 (.p 5 (.p 6 (.p 7 (.p 8 (.p 9 (.p 10 (.p 11 (.p 12 (.p 13 (.p 14 (.p 15 .nil)))))))))))))))) (by kernel_rfl) (by kernel_rfl) ?_
    (refine top_in ?_; simp -implicitDefEqProofs only [go_sem, -List.reduceReplicate, ↓L_gdZ_tt, ↓L_gdZ_tf, ↓L_gdZ_ft, ↓L_gdZ_ff, ↓T_and, ↓T_imp, ↓T_all, hp, hb, hc, hi, h.fold]; try simp only [top_out])
    exact dropC_self hM rfl hK
  · obtain ⟨n, cap, e, rfl, l1, g1, g2, g3, g4, g5, g6, g7, g8⟩ := h.ls.at (List.getElem?_eq_some_iff.1 hl).1
    rw [hl] at g1
    cases g1
    have hil := (List.getElem?_eq_some_iff.1 hl).1
    refine fn_rule tabOK Try.func80 rfl Try.call80 (by kernel_rfl) (fun hM => ?_)
    (refine top_in ?_; simp -implicitDefEqProofs only [Try.ntmps80, Try.results80, go_sem, -List.reduceReplicate, ↓L_gdZ_tt, ↓L_gdZ_tf, ↓L_gdZ_ft, ↓L_gdZ_ff, ↓T_and, ↓T_imp, ↓T_all, hp, hb, hc, hi, h.fold, g6]; try simp only [top_out])
    refine draw_rule tabOK (by kernel_rfl : _) (.p 0 (.p 1 (.p 2 (.p 3 (.p 4 (.p 5 (.p 6 (.p 7 (.p 8 (.p 9 (.p 10 (.p 11 (.p 12 (.p 13 (.p 14 (.p 15 .nil)))))))))))))))) (by kernel_rfl) (by kernel_rfl) ?_
    (refine top_in ?_; simp -implicitDefEqProofs only [go_sem, -List.reduceReplicate, ↓L_gdZ_tt, ↓L_gdZ_tf, ↓L_gdZ_ft, ↓L_gdZ_ff, ↓T_and, ↓T_imp, ↓T_all, hp, hb, hc, hi, h.fold, g6]; try simp only [top_out])
    repeat refine ⟨by omega, ?_⟩
    refine dropQ hM hK ?_
    by_cases g : e.1.side = c.1.side
    · rw [decide_eq_true g, g]; simp
    · rw [decide_eq_false g]; simp [g]
theorem giv3_ok (h : EnvF M f pb cb xp xl s c) {bb ib i : Nat} {b : Bool} {ty tyi : TypeId} {q : Bool} (hb : M[bb]? = some (.row [.b b] ty)) (hi : M[ib]? = some (.row [.i .i64 i] tyi)) (hq : b = false ∧ q = true ∨ b = true ∧ ∃ l, s.ls[i]? = some l ∧ q = decide (max l.cur l.next < 2147483647)) (hK : K (.b q) M) : callVC Try.prog 81 [.p bb 0, .p pb 0, .p ib 0] M K := by
  obtain ⟨ty', hp⟩ := h.ptr
  rcases hq with ⟨rfl, rfl⟩ | ⟨rfl, l, hl, rfl⟩
  · refine fn_rule tabOK Try.func81 rfl Try.call81 (by kernel_rfl) (fun hM => ?_)
    (refine top_in ?_; simp -implicitDefEqProofs only [Try.ntmps81, Try.results81, go_sem, -List.reduceReplicate, ↓L_gdZ_tt, ↓L_gdZ_tf, ↓L_gdZ_ft, ↓L_gdZ_ff, ↓T_and, ↓T_imp, ↓T_all, hp, hb, hi, h.fold]; try simp only [top_out])
    refine draw_rule tabOK (by kernel_rfl : _) (.p 0 (.p 1 (.p 2 (.p 3 (.p 4 (.p 5 (.p 6 (.p 7 (.p 8 (.p 9 (.p 10 (.p 11 (.p 12 (.p 13 (.p 14 (.p 15 (.p 16 (.p 17 (.p 18 (.p 19 (.p 20 (.p 21 (.p 22 .nil))))))))))))))))))))))) (by kernel_rfl) (by kernel_rfl) ?_
    (refine top_in ?_; simp -implicitDefEqProofs only [go_sem, -List.reduceReplicate, ↓L_gdZ_tt, ↓L_gdZ_tf, ↓L_gdZ_ft, ↓L_gdZ_ff, ↓T_and, ↓T_imp, ↓T_all, hp, hb, hi, h.fold]; try simp only [top_out])
    exact dropC_self hM rfl hK
  · obtain ⟨n, cap, e, rfl, l1, g1, g2, g3, g4, g5, g6, g7, g8⟩ := h.ls.at (List.getElem?_eq_some_iff.1 hl).1
    rw [hl] at g1
    cases g1
    have hil := (List.getElem?_eq_some_iff.1 hl).1
    refine fn_rule tabOK Try.func81 rfl Try.call81 (by kernel_rfl) (fun hM => ?_)
    (refine top_in ?_; simp -implicitDefEqProofs only [Try.ntmps81, Try.results81, go_sem, -List.reduceReplicate, ↓L_gdZ_tt, ↓L_gdZ_tf, ↓L_gdZ_ft, ↓L_gdZ_ff, ↓T_and, ↓T_imp, ↓T_all, hp, hb, hi, h.fold, g7, g8]; try simp only [top_out])
    refine draw_rule tabOK (by kernel_rfl : _) (.p 0 (.p 1 (.p 2 (.p 3 (.p 4 (.p 5 (.p 6 (.p 7 (.p 8 (.p 9 (.p 10 (.p 11 (.p 12 (.p 13 (.p 14 (.p 15 (.p 16 (.p 17 (.p 18 (.p 19 (.p 20 (.p 21 (.p 22 .nil))))))))))))))))))))))) (by kernel_rfl) (by kernel_rfl) ?_
    (refine top_in ?_; simp -implicitDefEqProofs only [go_sem, -List.reduceReplicate, ↓L_gdZ_tt, ↓L_gdZ_tf, ↓L_gdZ_ft, ↓L_gdZ_ff, ↓T_and, ↓T_imp, ↓T_all, hp, hb, hi, h.fold, g7, g8]; try simp only [top_out])
    repeat refine ⟨by omega, ?_⟩
    exact dropC_self hM rfl hK
end checks

/-- a check: its function answers b -/
def Chk (M : List Blk) (e : List SV) (b : Bool) (code : Int) : Prop :=
  ∃ fi cap, e = [.fn (.func fi) [] cap, .i .i64 code] ∧ ∀ (M' : List Blk) (K : SV → List Blk → Prop), Ag (fun _ => False) M M' → K (.b b) M' → callVC Try.prog fi cap M' K
theorem Chk.ag {M M' : List Blk} {e : List SV} {b : Bool} {code : Int} (h : Chk M e b code) (hA : Ag (fun _ => False) M M') : Chk M' e b code := by
  obtain ⟨fi, cap, h1, h2⟩ := h
  exact ⟨fi, cap, h1, fun M'' K hA' hK => h2 M'' K (hA.then hA') hK⟩
/-- checks, each under what must hold ahead of it -/
def Chks (M : List Blk) (es : List (List SV)) (l : List (Prop × Bool × Int)) : Prop :=
  es.length = l.length ∧ (∀ e ∈ es, e.length = 2 ∧ e.all SV.one = true) ∧ ∀ (k : Nat) e q, es[k]? = some e → l[k]? = some q → q.1 → Chk M e q.2.1 q.2.2
theorem Chks.ag {M M' : List Blk} {es : List (List SV)} {l : List (Prop × Bool × Int)} (h : Chks M es l) (hA : Ag (fun _ => False) M M') : Chks M' es l :=
  ⟨h.1, h.2.1, fun k e q h1 h2 h3 => (h.2.2 k e q h1 h2 h3).ag hA⟩
theorem Chks.nil {M : List Blk} : Chks M [] [] := ⟨rfl, by simp, fun k e q h => by simp at h⟩
theorem Chks.cons {M : List Blk} {es : List (List SV)} {l : List (Prop × Bool × Int)} {fi : FuncId} {cap : List SV} {P : Prop} {b : Bool} {code : Int} (h : P → ∀ (M' : List Blk) (K : SV → List Blk → Prop), Ag (fun _ => False) M M' → K (.b b) M' → callVC Try.prog fi cap M' K) (hl : Chks M es l) :
    Chks M ([.fn (.func fi) [] cap, .i .i64 code] :: es) ((P, b, code) :: l) := by
  refine ⟨by simp [hl.1], fun e he => ?_, fun k e q h1 h2 h3 => ?_⟩
  · rcases List.mem_cons.1 he with rfl | he
    · exact ⟨rfl, rfl⟩
    · exact hl.2.1 e he
  · cases k with
    | zero =>
      simp only [List.getElem?_cons_zero, Option.some.injEq] at h1 h2
      subst h1; subst h2
      exact ⟨fi, cap, rfl, fun M' K => h h3 M' K⟩
    | succ k => exact hl.2.2 k e q h1 h2 h3
theorem Chks.append {M : List Blk} {es es' : List (List SV)} {l l' : List (Prop × Bool × Int)} (h : Chks M es l) (h' : Chks M es' l') : Chks M (es ++ es') (l ++ l') := by
  refine ⟨by rw [List.length_append, List.length_append, h.1, h'.1], fun e he => ?_, fun k e q h1 h2 h3 => ?_⟩
  · rcases List.mem_append.1 he with he | he
    · exact h.2.1 e he
    · exact h'.2.1 e he
  · rcases Nat.lt_or_ge k es.length with g | g
    · rw [List.getElem?_append_left g] at h1
      rw [List.getElem?_append_left (by rw [← h.1]; exact g)] at h2
      exact h.2.2 k e q h1 h2 h3
    · rw [List.getElem?_append_right g] at h1
      rw [List.getElem?_append_right (by rw [← h.1]; exact g), ← h.1] at h2
      exact h'.2.2 _ e q h1 h2 h3
theorem own_row {M : List Blk} {n k : Nat} {es : List (List SV)} {ty : TypeId} (hn : es.length ≤ 1000000) (h : M[n]? = some (.row es.flatten ty)) (he : ∀ e ∈ es, e.length = k ∧ e.all SV.one = true) : Own M k (.sl n 0 es.length es.length) es :=
  ⟨hn, he, .inr ⟨n, es.length, [], ty, rfl, by rw [List.append_nil]; exact h, by simp⟩⟩
end Go.Proofs.Ytdcplcfedcmcmaa.Eng

/- The program's fold: its lists of checks. -/
namespace Go.Proofs.Ytdcplcfedcmcmaa.Eng
open Go Go.RowKit
set_option linter.unusedSimpArgs false
set_option linter.unusedVariables false

theorem zerosS_len {z : List SV} {k : Nat} (hz : z.length = k) : ∀ q, (zerosS z q).length = q * k := by
  intro q
  induction q with
  | zero => simp [zerosS]
  | succ q ih =>
    have : zerosS z (q + 1) = z ++ zerosS z q := by simp [zerosS, List.replicate_succ]
    rw [this, List.length_append, ih, hz, Nat.add_mul, Nat.one_mul]; omega
theorem appG0 {T : Tab} {M : List Blk} {ts tx e eby k : Nat} {K : SV → List Blk → Prop} {z : List SV} (m : Nat) (htk : T.k ts = .slice e k eby) (he0 : 0 < eby) (he : eby ≤ 4096) (hk : 0 < k) (hz : T.z e = some z) (hzl : z.length = k) (hx : T.k tx = .int .i64)
    (hm : 0 < m) (hb : m ≤ 1000000)
    (hK : ∀ (c : Nat) (zz : List SV), m ≤ c → zz.length = c * k → K (.sl M.length 0 m c) (M ++ [.row zz e])) : appendC T M ts tx .sn (.i .i64 m) K := by
  refine .inr (.inr (.inr ?_))
  unfold appendG
  rw [htk]
  have hfit := growslice_fits (need := m) (old := 0) (bytes := eby) hm (by
    have : m * eby ≤ 1000000 * 4096 := Nat.mul_le_mul hb he
    omega)
  have h1 : m * eby ≤ 1000000 * 4096 := Nat.mul_le_mul (by omega) he
  simp only [hz]
  refine ⟨hx, by omega, he0, hk, by omega, by omega, by simpa using hfit, fun c hcc => ?_⟩
  have := hK c (zerosS z m ++ zerosS z (c - m)) (by simpa using hcc) (by
    rw [List.length_append, zerosS_len hzl, zerosS_len hzl, ← Nat.add_mul]
    congr 1; simp at hcc; omega)
  simpa using this
theorem growChk_ok (m : Nat) (M : List Blk) (K : SV → List Blk → Prop) (hm : m ≤ 1000) (hK : ∀ M' y, Own M' 2 y [] → NmG (fun n => M.length ≤ n) y → Ag (fun _ => False) M M' → K y M') :
    callVC Try.prog 74 [.sn, .i .i64 m] M K := by
  have w0 : IntKind.i64.wrap 0 = 0 := w64 (by decide) (by decide)
  have wm : IntKind.i64.wrap (m : Int) = m := w64 (by omega) (by omega)
  refine fn_rule tabOK Try.func74 rfl Try.call74 (by kernel_rfl) (fun hM => ?_)
  (refine top_in ?_; simp -implicitDefEqProofs only [Try.ntmps74, Try.results74, go_sem, -List.reduceReplicate, ↓L_gdZ_tt, ↓L_gdZ_tf, ↓L_gdZ_ft, ↓L_gdZ_ff, ↓T_and, ↓T_imp, ↓T_all, w0, wm, Int.sub_zero]; try simp only [top_out])
  refine ⟨fun h => absurd h (by omega), fun _ => ⟨fun h => ?_, fun h => dropC_self hM rfl (hK M .sn Own.sn NmG.sn Ag.refl)⟩⟩
  refine appG0 (k := 2) m rfl (by decide) (by decide) (by decide) rfl rfl rfl (by omega) (by omega) (fun c zz hc hz => ?_)
  (refine top_in ?_; simp -implicitDefEqProofs only [go_sem, -List.reduceReplicate, ↓L_gdZ_tt, ↓L_gdZ_tf, ↓L_gdZ_ft, ↓L_gdZ_ff, ↓T_and, ↓T_imp, ↓T_all]; try simp only [top_out])
  refine ⟨by omega, dropC_all (by simp) (hK _ _ ⟨by simp, by simp, .inr ⟨M.length, c, zz, _, rfl, by rw [get_app0]; rfl, by simpa using hz⟩⟩ (fun d e => by cases e; exact Nat.le_refl _) Ag.app)⟩
set_option maxHeartbeats 1000000 in
theorem concatChk_ok (n : Nat) (y1 y2 y3 : SV) (e1 e2 e3 : List (List SV)) (ty : TypeId) (M : List Blk) (K : SV → List Blk → Prop) (hn : M[n]? = some (.row [y1, y2, y3] ty)) (h1 : Lst M 2 y1 e1) (h2 : Lst M 2 y2 e2) (h3 : Lst M 2 y3 e3) (l1 : e1.length ≤ 100) (l2 : e2.length ≤ 100) (l3 : e3.length ≤ 100)
    (hK : ∀ M' y, Own M' 2 y (e1 ++ e2 ++ e3) → NmG (fun n => M.length ≤ n) y → Ag (fun _ => False) M M' → K y M') :
    callVC Try.prog 49 [.sl n 0 3 3] M K := by
  have la : ∀ {M' : List Blk} {e a' b' : Nat} {K : SV → Prop}, lenB (.slice e a' b') M' y1 K = K (.i .i64 e1.length) := h1.lenB
  have lb : ∀ {M' : List Blk} {e a' b' : Nat} {K : SV → Prop}, lenB (.slice e a' b') M' y2 K = K (.i .i64 e2.length) := h2.lenB
  have lc : ∀ {M' : List Blk} {e a' b' : Nat} {K : SV → Prop}, lenB (.slice e a' b') M' y3 K = K (.i .i64 e3.length) := h3.lenB
  have o1 := h1.one
  have o2 := h2.one
  have o3 := h3.one
  have w1 : IntKind.i64.wrap 1 = 1 := w64 (by decide) (by decide)
  have w2 : IntKind.i64.wrap 2 = 2 := w64 (by decide) (by decide)
  have w3 : IntKind.i64.wrap 3 = 3 := w64 (by decide) (by decide)
  have v1 : IntKind.i64.wrap (0 + (e1.length : Int)) = e1.length := (w64 (by omega) (by omega)).trans (by omega)
  have v2 : IntKind.i64.wrap ((e1.length : Int) + e2.length) = (e1.length : Int) + e2.length := w64 (by omega) (by omega)
  have v3 : IntKind.i64.wrap ((e1.length : Int) + e2.length + e3.length) = (e1.length : Int) + e2.length + e3.length := w64 (by omega) (by omega)
  have p1 : ¬ (e1.length : Int) < 0 := by omega
  have p2 : ¬ (e1.length : Int) + e2.length < 0 := by omega
  have p3 : ¬ (e1.length : Int) + e2.length + e3.length < 0 := by omega
  refine fn_rule tabOK Try.func49 rfl Try.call49 (by kernel_rfl) (fun hM => ?_)
  (refine top_in ?_; simp -implicitDefEqProofs only [Try.ntmps49, Try.results49, go_sem, -List.reduceReplicate, ↓L_gdZ_tt, ↓L_gdZ_tf, ↓L_gdZ_ft, ↓L_gdZ_ff, ↓T_and, ↓T_imp, ↓T_all]; try simp only [top_out])
  refine loop_rounds tabOK (by kernel_rfl) 4 ?_
  (refine top_in ?_; simp -implicitDefEqProofs only [go_sem, -List.reduceReplicate, ↓L_gdZ_tt, ↓L_gdZ_tf, ↓L_gdZ_ft, ↓L_gdZ_ff, ↓T_and, ↓T_imp, ↓T_all, hn, w1, w2, w3, o1, o2, o3, la, lb, lc, v1, v2, v3, p1, p2, p3, decide_false, decide_true]; try simp only [top_out])
  have hlen : (e1.length : Int) + e2.length + e3.length = ((e1.length + e2.length + e3.length : Nat) : Int) := by omega
  rw [hlen]
  refine growChk_ok _ M _ (by omega) (fun M1 t1 q1 n1 A1 => ?_)
  have B1 := A1
  have r1 := A1.get hn (fun e => e)
  have m1 := A1.1
  (refine top_in ?_; simp -implicitDefEqProofs only [go_sem, -List.reduceReplicate, ↓L_gdZ_tt, ↓L_gdZ_tf, ↓L_gdZ_ft, ↓L_gdZ_ff, ↓T_and, ↓T_imp, ↓T_all]; try simp only [top_out])
  refine loop_rounds tabOK (by kernel_rfl) 4 ?_
  (refine top_in ?_; simp -implicitDefEqProofs only [go_sem, -List.reduceReplicate, ↓L_gdZ_tt, ↓L_gdZ_tf, ↓L_gdZ_ft, ↓L_gdZ_ff, ↓T_and, ↓T_imp, ↓T_all, r1, w1, w2, w3, o1, o2, o3]; try simp only [top_out])
  refine appK (k := 2) [] e1 rfl (by decide) (by decide) (by decide) rfl rfl rfl q1 h1.2.1 (h1.ag B1 (fun _ _ e => e)).src (by first | omega | (simp; omega)) (fun M2 t2 q2 n2 A2 => ?_)
  have B2 : Ag (fun _ => False) M M2 := (B1.mono (fun _ e => e.elim)).then (S := fun n => dnS t1 = some n) A2 |>.mono_lt (fun d g1 g2 => by have := n1 d g2; omega)
  have r2 := B2.get hn (fun e => e)
  have m2 := B2.1
  replace n2 : NmG (fun n => M.length ≤ n) t2 := n2.mono (fun d g => by omega)
  rw [List.nil_append] at q2
  (refine top_in ?_; simp -implicitDefEqProofs only [go_sem, -List.reduceReplicate, ↓L_gdZ_tt, ↓L_gdZ_tf, ↓L_gdZ_ft, ↓L_gdZ_ff, ↓T_and, ↓T_imp, ↓T_all, r2, w1, w2, w3, o1, o2, o3]; try simp only [top_out])
  refine appK (k := 2) e1 e2 rfl (by decide) (by decide) (by decide) rfl rfl rfl q2 h2.2.1 (h2.ag B2 (fun _ _ e => e)).src (by first | omega | (simp; omega)) (fun M3 t3 q3 n3 A3 => ?_)
  have B3 : Ag (fun _ => False) M M3 := (B2.mono (fun _ e => e.elim)).then (S := fun n => dnS t2 = some n) A3 |>.mono_lt (fun d g1 g2 => by have := n2 d g2; omega)
  have r3 := B3.get hn (fun e => e)
  have m3 := B3.1
  replace n3 : NmG (fun n => M.length ≤ n) t3 := n3.mono (fun d g => by omega)
  (refine top_in ?_; simp -implicitDefEqProofs only [go_sem, -List.reduceReplicate, ↓L_gdZ_tt, ↓L_gdZ_tf, ↓L_gdZ_ft, ↓L_gdZ_ff, ↓T_and, ↓T_imp, ↓T_all, r3, w1, w2, w3, o1, o2, o3]; try simp only [top_out])
  refine appK (k := 2) (e1 ++ e2) e3 rfl (by decide) (by decide) (by decide) rfl rfl rfl q3 h3.2.1 (h3.ag B3 (fun _ _ e => e)).src (by first | omega | (simp; omega)) (fun M4 t4 q4 n4 A4 => ?_)
  have B4 : Ag (fun _ => False) M M4 := (B3.mono (fun _ e => e.elim)).then (S := fun n => dnS t3 = some n) A4 |>.mono_lt (fun d g1 g2 => by have := n3 d g2; omega)
  have r4 := B4.get hn (fun e => e)
  have m4 := B4.1
  replace n4 : NmG (fun n => M.length ≤ n) t4 := n4.mono (fun d g => by omega)
  (refine top_in ?_; simp -implicitDefEqProofs only [go_sem, -List.reduceReplicate, ↓L_gdZ_tt, ↓L_gdZ_tf, ↓L_gdZ_ft, ↓L_gdZ_ff, ↓T_and, ↓T_imp, ↓T_all, r4, w1, w2, w3, o1, o2, o3]; try simp only [top_out])
  exact dropC_all m4 (hK M4 t4 q4 n4 B4)
end Go.Proofs.Ytdcplcfedcmcmaa.Eng
