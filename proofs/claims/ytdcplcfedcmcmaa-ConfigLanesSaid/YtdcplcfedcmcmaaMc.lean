/- Joined texts: C6, C7, C8, C9, D1, D2, D3, D4. -/
import Derived.Test.YtdcplcfedcmcmaaC5
/- Lists of prefixes, peers, lanes, changes: in new memory, held against each other. -/
namespace Go.Proofs.Ytdcplcfedcmcmaa.Eng
open Go Go.RowKit
set_option linter.unusedSimpArgs false
set_option linter.unusedVariables false

theorem take_snocS {α : Type} {l : List α} {k : Nat} {c : α} (h : l[k]? = some c) : l.take (k + 1) = l.take k ++ [c] := by
  obtain ⟨hl, rfl⟩ := List.getElem?_eq_some_iff.1 h
  rw [List.take_succ_eq_append_getElem hl]
/-- lists of one's own -/
def PrsO (M : List Blk) (b : Nat) (y : SV) (ps : List Pr) : Prop := ∃ es : List (Pr × SV × SV), es.map (·.1) = ps ∧ Own M 3 y (es.map prC) ∧ NmG (fun n => b ≤ n) y ∧ ∀ e ∈ es, PrE M (fun n => b ≤ n ∧ dnS y ≠ some n) e
def LnsO (M : List Blk) (b : Nat) (y : SV) (ls : List Ln) : Prop := ∃ es : List (Ln × SV), es.map (·.1) = ls ∧ Own M 8 y (es.map lnC) ∧ NmG (fun n => b ≤ n) y ∧ ∀ e ∈ es, LnE M (fun n => b ≤ n ∧ dnS y ≠ some n) e
def ChsO (M : List Blk) (b : Nat) (y : SV) (l : List Ch) : Prop := ∃ es : List (Ch × SV), es.map (·.1) = l ∧ Own M 8 y (es.map chC) ∧ NmG (fun n => b ≤ n) y ∧ ∀ e ∈ es, ChE M (fun n => b ≤ n ∧ dnS y ≠ some n) e ∧ RowF M e.2
theorem PrsO.prs {M : List Blk} {b : Nat} {y : SV} {ps : List Pr} (h : PrsO M b y ps) : Prs M (fun n => b ≤ n) y ps := by
  obtain ⟨es, h1, h2, h3, h4⟩ := h
  exact ⟨es, h1, h2.lst (by decide), h3, fun e he => (h4 e he).mono (fun n h => h.1)⟩
theorem LnsO.lns {M : List Blk} {b : Nat} {y : SV} {ls : List Ln} (h : LnsO M b y ls) : Lns M (fun n => b ≤ n) y ls := by
  obtain ⟨es, h1, h2, h3, h4⟩ := h
  exact ⟨es, h1, h2.lst (by decide), h3, fun e he => (h4 e he).mono (fun n h => h.1)⟩
theorem ChsO.chs {M : List Blk} {b : Nat} {y : SV} {l : List Ch} (h : ChsO M b y l) : Chs M (fun n => b ≤ n) y l := by
  obtain ⟨es, h1, h2, h3, h4⟩ := h
  exact ⟨es, h1, h2.lst (by decide), h3, fun e he => (h4 e he).1.mono (fun n h => h.1)⟩
theorem pxC_ok (l : List Pfx) : ∀ c ∈ l.map pxC, c.length = 4 ∧ c.all SV.one = true := by
  intro c hc
  obtain ⟨p, _, rfl⟩ := List.mem_map.1 hc
  exact ⟨rfl, rfl⟩
end Go.Proofs.Ytdcplcfedcmcmaa.Eng

/- Lists of prefixes, peers and lanes held against each other. -/
namespace Go.Proofs.Ytdcplcfedcmcmaa.Eng
open Go Go.RowKit
set_option linter.unusedSimpArgs false
set_option linter.unusedVariables false

theorem stamp_ok (a b c d : Int) (M : List Blk) (K : SV → List Blk → Prop) (hK : K (.b (decide (a = c ∧ b = d))) M) : callVC Try.prog 10 [.agg [.i .i64 a, .i .i64 b], .agg [.i .i64 c, .i .i64 d]] M K := by
  refine fn_rule tabOK Try.func10 rfl Try.call10 (by kernel_rfl) (fun hM => ?_)
  (refine top_in ?_; simp -implicitDefEqProofs only [Try.ntmps10, Try.results10, go_sem, -List.reduceReplicate, ↓L_gdZ_tt, ↓L_gdZ_tf, ↓L_gdZ_ft, ↓L_gdZ_ff, ↓T_and, ↓T_imp, ↓T_all]; try simp only [top_out])
  repeat' (with_reducible first | refine And.intro ?_ ?_ | intro)
  all_goals first | refine dropB hM hK ?_ | refine dropB0 hM hK ?_
  all_goals simp_all
  all_goals try rfl
theorem ln_eq {p q : Ln} : (p = q) ↔ (p.key = q.key ∧ (p.sec = q.sec ∧ p.nano = q.nano) ∧ p.side = q.side ∧ p.cur = q.cur ∧ p.next = q.next ∧ p.sc = q.sc ∧ p.ce = q.ce) := by
  obtain ⟨a, b, c, d, e, f, g, h⟩ := p
  obtain ⟨a', b', c', d', e', f', g', h'⟩ := q
  simp only [Ln.mk.injEq]
  constructor
  · rintro ⟨h1, h2, h3, h4, h5, h6, h7, h8⟩; exact ⟨h1, ⟨h7, h8⟩, h2, h3, h4, h5, h6⟩
  · rintro ⟨h1, ⟨h7, h8⟩, h2, h3, h4, h5, h6⟩; exact ⟨h1, h2, h3, h4, h5, h6, h7, h8⟩
theorem pr_eq {p q : Pr} : (p = q) ↔ (p.key = q.key ∧ p.pfx = q.pfx ∧ p.link = q.link) := by
  obtain ⟨a, b, c⟩ := p
  obtain ⟨a', b', c'⟩ := q
  simp only [Pr.mk.injEq]
  constructor
  · rintro ⟨h1, h2, h3⟩; exact ⟨h2, h3, h1⟩
  · rintro ⟨h2, h3, h1⟩; exact ⟨h1, h2, h3⟩
theorem take_eq_snoc {α : Type} {a b : List α} {k : Nat} {x y : α} (h : a.take k = b.take k) (hx : a[k]? = some x) (hy : b[k]? = some y) (e : x = y) : a.take (k + 1) = b.take (k + 1) := by
  rw [take_snocS hx, take_snocS hy, h, e]
theorem take_alls {α : Type} {a b : List α} (hl : a.length = b.length) (h : a.take a.length = b.take a.length) : a = b := by
  rw [List.take_length, hl, List.take_length] at h; exact h
theorem sameLn_ok (G G' : Nat → Prop) (e f : Ln × SV) (M : List Blk) (K : SV → List Blk → Prop) (h : LnE M G e) (h' : LnE M G' f) (hK : K (.b (decide (e.1 = f.1))) M) :
    callVC Try.prog 12 [.agg (lnC e), .agg (lnC f)] M K := by
  obtain ⟨p, xk⟩ := e
  obtain ⟨q, yk⟩ := f
  have o1 := h.key.one
  have o3 := h'.key.one
  have e := @ln_eq p q
  simp only at o1 o3 hK
  unfold lnC
  refine fn_rule tabOK Try.func12 rfl Try.call12 (by kernel_rfl) (fun hM => ?_)
  (refine top_in ?_; simp -implicitDefEqProofs only [Try.ntmps12, Try.results12, go_sem, -List.reduceReplicate, ↓L_gdZ_tt, ↓L_gdZ_tf, ↓L_gdZ_ft, ↓L_gdZ_ff, ↓T_and, ↓T_imp, ↓T_all, o1, o3]; try simp only [top_out])
  refine same_byt _ _ _ _ _ _ h.key.app h'.key.app ?_
  (refine top_in ?_; simp -implicitDefEqProofs only [go_sem, -List.reduceReplicate, ↓L_gdZ_tt, ↓L_gdZ_tf, ↓L_gdZ_ft, ↓L_gdZ_ff, ↓T_and, ↓T_imp, ↓T_all]; try simp only [top_out])
  refine stamp_ok _ _ _ _ _ _ ?_
  (refine top_in ?_; simp -implicitDefEqProofs only [go_sem, -List.reduceReplicate, ↓L_gdZ_tt, ↓L_gdZ_tf, ↓L_gdZ_ft, ↓L_gdZ_ff, ↓T_and, ↓T_imp, ↓T_all]; try simp only [top_out])
  repeat' (with_reducible first | refine And.intro ?_ ?_ | intro)
  all_goals first | refine dropB hM hK ?_ | refine dropB0 hM hK ?_
  all_goals simp_all
  all_goals try rfl
end Go.Proofs.Ytdcplcfedcmcmaa.Eng

/- The document's configuration: where things stand, the faults. -/
namespace Go.Proofs.Ytdcplcfedcmcmaa.Eng
open Go Go.RowKit
set_option linter.unusedSimpArgs false
set_option linter.unusedVariables false

def ixI : Option Nat → Int
  | none => -1
  | some i => i
theorem Prs.lenB {M M' : List Blk} {G : Nat → Prop} {x : SV} {ps : List Pr} (h : Prs M G x ps) {e a b : Nat} {K : SV → Prop} : lenB (.slice e a b) M' x K = K (.i .i64 ps.length) := by
  obtain ⟨es, rfl, h1, _⟩ := h
  rw [h1.lenB, List.length_map, List.length_map]
theorem Lns.lenB {M M' : List Blk} {G : Nat → Prop} {x : SV} {ls : List Ln} (h : Lns M G x ls) {e a b : Nat} {K : SV → Prop} : lenB (.slice e a b) M' x K = K (.i .i64 ls.length) := by
  obtain ⟨es, rfl, h1, _⟩ := h
  rw [h1.lenB, List.length_map, List.length_map]
theorem Chs.lenB {M M' : List Blk} {G : Nat → Prop} {x : SV} {l : List Ch} (h : Chs M G x l) {e a b : Nat} {K : SV → Prop} : lenB (.slice e a b) M' x K = K (.i .i64 l.length) := by
  obtain ⟨es, rfl, h1, _⟩ := h
  rw [h1.lenB, List.length_map, List.length_map]
theorem Prs.one {M : List Blk} {G : Nat → Prop} {x : SV} {ps : List Pr} (h : Prs M G x ps) : x.one = true := by
  obtain ⟨es, rfl, h1, _⟩ := h; exact h1.one
theorem Lns.one {M : List Blk} {G : Nat → Prop} {x : SV} {ps : List Ln} (h : Lns M G x ps) : x.one = true := by
  obtain ⟨es, rfl, h1, _⟩ := h; exact h1.one
theorem Chs.one {M : List Blk} {G : Nat → Prop} {x : SV} {ps : List Ch} (h : Chs M G x ps) : x.one = true := by
  obtain ⟨es, rfl, h1, _⟩ := h; exact h1.one
theorem Prs.app {M L : List Blk} {G : Nat → Prop} {x : SV} {ps : List Pr} (h : Prs M G x ps) : Prs (M ++ L) G x ps := h.ag (S := fun _ => False) Ag.app (fun _ _ _ e => e)
theorem Lns.app {M L : List Blk} {G : Nat → Prop} {x : SV} {ps : List Ln} (h : Lns M G x ps) : Lns (M ++ L) G x ps := h.ag (S := fun _ => False) Ag.app (fun _ _ _ e => e)
theorem Chs.app {M L : List Blk} {G : Nat → Prop} {x : SV} {ps : List Ch} (h : Chs M G x ps) : Chs (M ++ L) G x ps := h.ag (S := fun _ => False) Ag.app (fun _ _ _ e => e)
/-- a peer that is looked at -/
theorem Prs.at {M : List Blk} {G : Nat → Prop} {x : SV} {ps : List Pr} (h : Prs M G x ps) {k : Nat} (hk : k < ps.length) : ∃ (n cap : Nat) (e : Pr × SV × SV), x = .sl n 0 ps.length cap ∧ n < M.length ∧ ps[k]? = some e.1 ∧ PrE M G e ∧
    ((cellsB M[n]?).drop (k * 3)).take 3 = prC e ∧ k * 3 + 3 ≤ (cellsB M[n]?).length ∧ (isI .i64 (cellsB M[n]?) (k * 3) = true ∧ cellI (cellsB M[n]?) (k * 3) = e.1.link) ∧ (cellsB M[n]?).getD (k * 3 + 1) uS = e.2.1 ∧ (cellsB M[n]?).getD (k * 3 + 2) uS = e.2.2 := by
  obtain ⟨es, rfl, h1, _, h3⟩ := h
  rw [List.length_map] at hk
  obtain ⟨n, cap, rfl, l1, l2, ea⟩ := h1.at (by rw [List.length_map]; omega)
  have hg : es[k]? = some es[k] := List.getElem?_eq_getElem hk
  obtain ⟨q1, q2, q3, q4⟩ := ea k (prC es[k]) (by rw [List.getElem?_map, hg]; rfl)
  exact ⟨n, cap, es[k], by simp, l1, by rw [List.getElem?_map, hg]; rfl, h3 _ (List.getElem_mem hk), q1, q3, isI_of (q4 0 (by decide)), getD_of (q4 1 (by decide)), getD_of (q4 2 (by decide))⟩
theorem Lns.at {M : List Blk} {G : Nat → Prop} {x : SV} {ls : List Ln} (h : Lns M G x ls) {k : Nat} (hk : k < ls.length) : ∃ (n cap : Nat) (e : Ln × SV), x = .sl n 0 ls.length cap ∧ n < M.length ∧ ls[k]? = some e.1 ∧ LnE M G e ∧
    ((cellsB M[n]?).drop (k * 8)).take 8 = lnC e ∧ k * 8 + 8 ≤ (cellsB M[n]?).length ∧ (cellsB M[n]?).getD (k * 8) uS = e.2 ∧ (isI .i64 (cellsB M[n]?) (k * 8 + 1) = true ∧ cellI (cellsB M[n]?) (k * 8 + 1) = e.1.side) ∧
    (isI .i64 (cellsB M[n]?) (k * 8 + 2) = true ∧ cellI (cellsB M[n]?) (k * 8 + 2) = e.1.cur) ∧ (isI .i64 (cellsB M[n]?) (k * 8 + 3) = true ∧ cellI (cellsB M[n]?) (k * 8 + 3) = e.1.next) := by
  obtain ⟨es, rfl, h1, _, h3⟩ := h
  rw [List.length_map] at hk
  obtain ⟨n, cap, rfl, l1, l2, ea⟩ := h1.at (by rw [List.length_map]; omega)
  have hg : es[k]? = some es[k] := List.getElem?_eq_getElem hk
  obtain ⟨q1, q2, q3, q4⟩ := ea k (lnC es[k]) (by rw [List.getElem?_map, hg]; rfl)
  exact ⟨n, cap, es[k], by simp, l1, by rw [List.getElem?_map, hg]; rfl, h3 _ (List.getElem_mem hk), q1, q3, getD_of (q4 0 (by decide)), isI_of (q4 1 (by decide)), isI_of (q4 2 (by decide)), isI_of (q4 3 (by decide))⟩
theorem Chs.at {M : List Blk} {G : Nat → Prop} {x : SV} {l : List Ch} (h : Chs M G x l) {k : Nat} (hk : k < l.length) : ∃ (n cap : Nat) (e : Ch × SV), x = .sl n 0 l.length cap ∧ n < M.length ∧ l[k]? = some e.1 ∧ ChE M G e ∧
    ((cellsB M[n]?).drop (k * 8)).take 8 = chC e ∧ k * 8 + 8 ≤ (cellsB M[n]?).length := by
  obtain ⟨es, rfl, h1, _, h3⟩ := h
  rw [List.length_map] at hk
  obtain ⟨n, cap, rfl, l1, l2, ea⟩ := h1.at (by rw [List.length_map]; omega)
  have hg : es[k]? = some es[k] := List.getElem?_eq_getElem hk
  obtain ⟨q1, q2, q3, q4⟩ := ea k (chC es[k]) (by rw [List.getElem?_map, hg]; rfl)
  exact ⟨n, cap, es[k], by simp, l1, by rw [List.getElem?_map, hg]; rfl, h3 _ (List.getElem_mem hk), q1, q3⟩
theorem Pxs.lenB {M M' : List Blk} {x : SV} {l : List Pfx} (h : Pxs M x l) {e a b : Nat} {K : SV → Prop} : lenB (.slice e a b) M' x K = K (.i .i64 l.length) := by
  rw [Lst.lenB h, List.length_map]
theorem Pxs.at {M : List Blk} {x : SV} {l : List Pfx} (h : Pxs M x l) {k : Nat} (hk : k < l.length) : ∃ (n cap : Nat) (p : Pfx), x = .sl n 0 l.length cap ∧ n < M.length ∧ l[k]? = some p ∧ ((cellsB M[n]?).drop (k * 4)).take 4 = pxC p ∧ k * 4 + 4 ≤ (cellsB M[n]?).length := by
  obtain ⟨n, cap, rfl, l1, l2, ea⟩ := Lst.at h (by rw [List.length_map]; omega)
  have hg : l[k]? = some l[k] := List.getElem?_eq_getElem hk
  obtain ⟨q1, q2, q3, q4⟩ := ea k (pxC l[k]) (by rw [List.getElem?_map, hg]; rfl)
  exact ⟨n, cap, l[k], by simp, l1, hg, q1, q3⟩

/-- nothing found so far -/
theorem no_step {α : Type} {l : List α} {k : Nat} {a : α} {q : α → Prop} (h : ∀ (j : Nat) b, j < k → l[j]? = some b → ¬ q b) (hk : l[k]? = some a) (ha : ¬ q a) : ∀ (j : Nat) b, j < k + 1 → l[j]? = some b → ¬ q b := by
  intro j b hj hb
  rcases Nat.lt_or_ge j k with g | g
  · exact h j b g hb
  · obtain rfl : j = k := by omega
    rw [hk] at hb; cases hb; exact ha
theorem no_all {α : Type} {l : List α} {q : α → Prop} [DecidablePred q] (h : ∀ (j : Nat) b, j < l.length → l[j]? = some b → ¬ q b) : l.findIdx? (fun x => decide (q x)) = none := by
  refine ix_none (fun x hx => ?_)
  obtain ⟨j, hj⟩ := List.getElem?_of_mem hx
  exact decide_eq_false (h j x (List.getElem?_eq_some_iff.1 hj).1 hj)
theorem no_hit {α : Type} {l : List α} {k : Nat} {a : α} {q : α → Prop} [DecidablePred q] (h : ∀ (j : Nat) b, j < k → l[j]? = some b → ¬ q b) (hk : l[k]? = some a) (ha : q a) : l.findIdx? (fun x => decide (q x)) = some k :=
  ix_some hk (decide_eq_true ha) (fun j b hj hb => decide_eq_false (h j b hj hb))

end Go.Proofs.Ytdcplcfedcmcmaa.Eng

/- The document's configuration: the faults. -/
namespace Go.Proofs.Ytdcplcfedcmcmaa.Eng
open Go Go.RowKit
set_option linter.unusedSimpArgs false
set_option linter.unusedVariables false

theorem dropI {M L : List Blk} {a b : Int} {K : SV → List Blk → Prop} (hM : ∀ (n : Nat) (B : Blk), M[n]? = some B → B.lt M.length = true) (hK : K (.i .i64 a) M) (h : a = b) : dropC M.length (.i .i64 b) (M ++ L) K :=
  dropC_append hM rfl (h ▸ hK)
theorem ixI_none {o : Option Nat} : ixI o < 0 ↔ o = none := by cases o <;> simp [ixI]
theorem ixI_some {o : Option Nat} : 0 ≤ ixI o ↔ o ≠ none := by cases o <;> simp [ixI]
theorem ixI_inj {a b : Option Nat} : ixI a = ixI b ↔ a = b := by
  cases a <;> cases b <;> simp [ixI] <;> omega
theorem givenF_eq (s : St) (c : Ch) : s.givenF c = (if c.link < 1 ∨ 4294967295 < c.link then 161 else if (c.key.length : Int) ≠ 32 then 162 else if c.side < 0 ∨ 1 < c.side then 163 else if c.kind = 1 ∧ 0 ≤ ixI (s.peer c.link) then 164 else if c.kind = 3 ∧ ixI (s.peer c.link) < 0 then 169 else if 0 ≤ ixI (s.owner c.key) ∧ ixI (s.owner c.key) ≠ ixI (s.peer c.link) then 165 else if c.kind = 1 ∧ 16 ≤ (s.ps.length : Int) then 166 else s.keyedF c) := by
  unfold St.givenF
  have e1 : ((c.key.length : Int) ≠ 32) ↔ c.key.length ≠ 32 := by omega
  have e2 : (16 ≤ (s.ps.length : Int)) ↔ 16 ≤ s.ps.length := by omega
  simp only [ixI_some, ixI_none, ixI_inj, e1, e2, ne_eq]
theorem fault_eq (s : St) (c : Ch) (h1 : c.spare = false) (h2 : c.keyed = false) : s.fault c = (if c.link < 1 ∨ 4294967295 < c.link then 161 else if c.kind ≠ 2 ∧ validP c.pfx = false then 170 else if ixI (s.peer c.link) < 0 then 169 else if c.kind = 4 ∧ 0 ≤ ixI (s.holder c.pfx) then 171
    else if c.kind = 4 ∧ 16 ≤ ((s.pfxOf c.link).length : Int) then 172 else if c.kind = 5 ∧ ixI (s.holder c.pfx) ≠ ixI (s.peer c.link) then 173 else 0) := by
  unfold St.fault
  rw [h1, h2, if_neg (by decide), if_neg (by decide)]
  have e2 : (16 ≤ ((s.pfxOf c.link).length : Int)) ↔ 16 ≤ (s.pfxOf c.link).length := by omega
  simp only [ixI_some, ixI_none, ixI_inj, e2, ne_eq]
end Go.Proofs.Ytdcplcfedcmcmaa.Eng

/- One more element behind a list of one's own; the document's way of giving a key. -/
namespace Go.Proofs.Ytdcplcfedcmcmaa.Eng
open Go Go.RowKit
set_option linter.unusedSimpArgs false
set_option linter.unusedVariables false

theorem LnsO.push {M : List Blk} {b : Nat} {s : SV} {ls : List Ln} {K : SV → List Blk → Prop} (h : LnsO M b s ls) (hb : b ≤ M.length) (l : Ln) (y : SV) {r cap : Nat} {ty : TypeId} (hr : M[r]? = some (.row (lnC (l, y)) ty)) (hy : Byt M y l.key) (ny : NmG (fun n => b ≤ n ∧ dnS s ≠ some n) y) (hl : ls.length ≤ 100000)
    (hK : ∀ M' s', LnsO M' b s' (ls ++ [l]) → NmG (fun n => n = M.length) s' → Ag (fun n => dnS s = some n) M M' → K s' M') : appendC tab M 23 23 s (.sl r 0 1 cap) K := by
  obtain ⟨es, rfl, h1, h2, h3⟩ := h
  rw [List.length_map] at hl
  have o := hy.one
  refine appK (es.map lnC) [lnC (l, y)] rfl (by decide) (by decide) (by decide) rfl rfl rfl h1 (fun c' hc => by rw [List.mem_singleton.1 hc]; exact ⟨rfl, by simp [lnC, o, one_i64, one_u64]⟩) (src_one hr rfl) (by simp; omega) (fun M' s' o' n' A' => ?_)
  refine hK M' s' ⟨es ++ [(l, y)], by simp, by simpa using o', n'.mono (fun n e => by omega), fun e he => ?_⟩ n' A'
  rcases List.mem_append.1 he with he | he
  · exact ((h3 e he).bnd.ag A' (fun n _ g h => g.1.2 h)).mono (fun n g => ⟨g.1.1, fun h => by have := n' n h; omega⟩)
  · rw [List.mem_singleton.1 he]
    exact ⟨hy.ag A' (fun d e h => (ny d e).2 h), fun d e => ⟨(ny d e).1, fun h => by have := n' d h; have := hy.dn d e; omega⟩⟩
theorem PrsO.push {M : List Blk} {b : Nat} {s : SV} {ps : List Pr} {K : SV → List Blk → Prop} (h : PrsO M b s ps) (hb : b ≤ M.length) (p : Pr) (y z : SV) {r cap : Nat} {ty : TypeId} (hr : M[r]? = some (.row (prC (p, y, z)) ty)) (hy : Byt M y p.key) (ny : NmG (fun n => b ≤ n ∧ dnS s ≠ some n) y)
    (hz : Pxs M z p.pfx) (nz : NmG (fun n => b ≤ n ∧ dnS s ≠ some n) z) (hl : ps.length ≤ 100000)
    (hK : ∀ M' s', PrsO M' b s' (ps ++ [p]) → NmG (fun n => n = M.length) s' → Ag (fun n => dnS s = some n) M M' → K s' M') : appendC tab M 22 22 s (.sl r 0 1 cap) K := by
  obtain ⟨es, rfl, h1, h2, h3⟩ := h
  rw [List.length_map] at hl
  have o := hy.one
  have o2 := hz.one
  refine appK (es.map prC) [prC (p, y, z)] rfl (by decide) (by decide) (by decide) rfl rfl rfl h1 (fun c' hc => by rw [List.mem_singleton.1 hc]; exact ⟨rfl, by simp [prC, o, o2, one_i64, one_u64]⟩) (src_one hr rfl) (by simp; omega) (fun M' s' o' n' A' => ?_)
  refine hK M' s' ⟨es ++ [(p, y, z)], by simp, by simpa using o', n'.mono (fun n e => by omega), fun e he => ?_⟩ n' A'
  rcases List.mem_append.1 he with he | he
  · exact ((h3 e he).bnd.ag A' (fun n _ g h => g.1.2 h)).mono (fun n g => ⟨g.1.1, fun h => by have := n' n h; omega⟩)
  · rw [List.mem_singleton.1 he]
    exact ⟨hy.ag A' (fun d e h => (ny d e).2 h), fun d e => ⟨(ny d e).1, fun h => by have := n' d h; have := hy.dn d e; omega⟩, hz.ag A' (fun d e h => (nz d e).2 h), fun d e => ⟨(nz d e).1, fun h => by have := n' d h; have := hz.dn d e; omega⟩⟩
theorem pxs_push {M : List Blk} {s : SV} {l : List Pfx} {K : SV → List Blk → Prop} (h : Own M 4 s (l.map pxC)) (p : Pfx) {r cap : Nat} {ty : TypeId} (hr : M[r]? = some (.row (pxC p) ty)) (hl : l.length ≤ 100000)
    (hK : ∀ M' s', Own M' 4 s' ((l ++ [p]).map pxC) → NmG (fun n => n = M.length) s' → Ag (fun n => dnS s = some n) M M' → K s' M') : appendC tab M 53 53 s (.sl r 0 1 cap) K := by
  refine appK (l.map pxC) [pxC p] rfl (by decide) (by decide) (by decide) rfl rfl rfl h (fun c' hc => by rw [List.mem_singleton.1 hc]; exact ⟨rfl, rfl⟩) (src_one hr rfl) (by simp; omega) (fun M' s' o' n' A' => hK M' s' (by simpa using o') n' A')
theorem LnsO.sn {M : List Blk} {b : Nat} : LnsO M b .sn [] := ⟨[], rfl, Own.sn, NmG.sn, by simp⟩
theorem PrsO.sn {M : List Blk} {b : Nat} : PrsO M b .sn [] := ⟨[], rfl, Own.sn, NmG.sn, by simp⟩
theorem LnsO.nm {M : List Blk} {b : Nat} {s : SV} {ls : List Ln} (h : LnsO M b s ls) : NmG (fun n => b ≤ n ∧ n < M.length) s := by
  obtain ⟨es, rfl, h1, h2, h3⟩ := h; exact h2.and h1.dn
theorem PrsO.nm {M : List Blk} {b : Nat} {s : SV} {ls : List Pr} (h : PrsO M b s ls) : NmG (fun n => b ≤ n ∧ n < M.length) s := by
  obtain ⟨es, rfl, h1, h2, h3⟩ := h; exact h2.and h1.dn
theorem LnsO.one {M : List Blk} {b : Nat} {s : SV} {ls : List Ln} (h : LnsO M b s ls) : s.one = true := h.lns.one
theorem PrsO.one {M : List Blk} {b : Nat} {s : SV} {ls : List Pr} (h : PrsO M b s ls) : s.one = true := h.prs.one
theorem LnsO.ag {S : Nat → Prop} {M M' : List Blk} {b : Nat} {s : SV} {ls : List Ln} (h : LnsO M b s ls) (hA : Ag S M M') (hS : ∀ n, n < M.length → b ≤ n → ¬ S n) : LnsO M' b s ls := by
  obtain ⟨es, rfl, h1, h2, h3⟩ := h
  exact ⟨es, rfl, h1.ag hA (fun d e => hS d (h1.dn d e) (h2 d e)), h2, fun e he => (h3 e he).ag hA (fun n hn g => hS n hn g.1)⟩
theorem PrsO.ag {S : Nat → Prop} {M M' : List Blk} {b : Nat} {s : SV} {ls : List Pr} (h : PrsO M b s ls) (hA : Ag S M M') (hS : ∀ n, n < M.length → b ≤ n → ¬ S n) : PrsO M' b s ls := by
  obtain ⟨es, rfl, h1, h2, h3⟩ := h
  exact ⟨es, rfl, h1.ag hA (fun d e => hS d (h1.dn d e) (h2 d e)), h2, fun e he => (h3 e he).ag hA (fun n hn g => hS n hn g.1)⟩
theorem LnsO.app {M L : List Blk} {b : Nat} {s : SV} {ls : List Ln} (h : LnsO M b s ls) : LnsO (M ++ L) b s ls := h.ag (S := fun _ => False) Ag.app (fun _ _ _ e => e)
theorem PrsO.app {M L : List Blk} {b : Nat} {s : SV} {ls : List Pr} (h : PrsO M b s ls) : PrsO (M ++ L) b s ls := h.ag (S := fun _ => False) Ag.app (fun _ _ _ e => e)
theorem LnsO.mono {M : List Blk} {b b' : Nat} {s : SV} {ls : List Ln} (h : LnsO M b s ls) (hb : b' ≤ b) : LnsO M b' s ls := by
  obtain ⟨es, rfl, h1, h2, h3⟩ := h
  exact ⟨es, rfl, h1, h2.mono (fun n g => by omega), fun e he => (h3 e he).mono (fun n g => ⟨by omega, g.2⟩)⟩
theorem PrsO.mono {M : List Blk} {b b' : Nat} {s : SV} {ls : List Pr} (h : PrsO M b s ls) (hb : b' ≤ b) : PrsO M b' s ls := by
  obtain ⟨es, rfl, h1, h2, h3⟩ := h
  exact ⟨es, rfl, h1, h2.mono (fun n g => by omega), fun e he => (h3 e he).mono (fun n g => ⟨by omega, g.2⟩)⟩
theorem Ag.mono_lt {S S' : Nat → Prop} {M M' : List Blk} (h : Ag S M M') (hs : ∀ n, n < M.length → S n → S' n) : Ag S' M M' := ⟨h.1, fun n hn hS => h.2 n hn (fun h2 => hS (hs n hn h2))⟩
theorem insAt_lt {α : Type} {l : List α} {j k : Nat} {x : α} (h : k < j) (hj : j ≤ l.length) : (insAt l j x)[k]? = l[k]? := by
  unfold insAt
  rw [List.getElem?_append_left (by rw [List.length_take]; omega), List.getElem?_take_of_lt h]
theorem insAt_eq {α : Type} {l : List α} {j : Nat} {x : α} (hj : j ≤ l.length) : (insAt l j x)[j]? = some x := by
  unfold insAt
  rw [List.getElem?_append_right (by rw [List.length_take]; omega), List.length_take, Nat.min_eq_left hj, Nat.sub_self]; rfl
theorem insAt_gt {α : Type} {l : List α} {j k : Nat} {x : α} (h : j ≤ k) (hj : j ≤ l.length) : (insAt l j x)[k + 1]? = l[k]? := by
  unfold insAt
  rw [List.getElem?_append_right (by rw [List.length_take]; omega), List.length_take, Nat.min_eq_left hj, show k + 1 - j = (k - j) + 1 by omega, List.getElem?_cons_succ, List.getElem?_drop]
  congr 1; omega
end Go.Proofs.Ytdcplcfedcmcmaa.Eng

/- The document's way of giving a key. -/
namespace Go.Proofs.Ytdcplcfedcmcmaa.Eng
open Go Go.RowKit
set_option linter.unusedSimpArgs false
set_option linter.unusedVariables false

theorem LnE.app {M L : List Blk} {G : Nat → Prop} {e : Ln × SV} (h : LnE M G e) : LnE (M ++ L) G e := h.ag (S := fun _ => False) Ag.app (fun _ _ _ e => e)
theorem PrE.app {M L : List Blk} {G : Nat → Prop} {e : Pr × SV × SV} (h : PrE M G e) : PrE (M ++ L) G e := h.ag (S := fun _ => False) Ag.app (fun _ _ _ e => e)
theorem ChE.app {M L : List Blk} {G : Nat → Prop} {e : Ch × SV} (h : ChE M G e) : ChE (M ++ L) G e := h.ag (S := fun _ => False) Ag.app (fun _ _ _ e => e)
theorem Ag.then {S : Nat → Prop} {M M' M'' : List Blk} (h : Ag S M M') (h' : Ag S M' M'') : Ag S M M'' := Ag.trans h h' (fun _ _ e => e)
/-- a new lane's place -/
def newLn (c : Ch) : Ln := ⟨c.key, c.side, 1, 0, 0#64, 0#64, 0, 0⟩
end Go.Proofs.Ytdcplcfedcmcmaa.Eng

/- The document's way of doing a change. -/
namespace Go.Proofs.Ytdcplcfedcmcmaa.Eng
open Go Go.RowKit
set_option linter.unusedSimpArgs false
set_option linter.unusedVariables false

/-- what a loop over the peers finds -/
structure DnSt (ML M' : List Blk) (yl y : SV) (d : Nat) (acc : List Pr) : Prop where
  ag : Ag (fun n => n = d ∨ ML.length ≤ n) ML M'
  row : M'[d]? = some (.row [y, yl] 27)
  acc : PrsO M' ML.length y acc
theorem DnSt.st {ML M' : List Blk} {yl y : SV} {d : Nat} {acc : List Pr} (h : DnSt ML M' yl y d acc) {n : Nat} {B : Blk} (hn : ML[n]? = some B) (hd : n ≠ d) : M'[n]? = some B :=
  h.ag.get hn (fun e => e.elim hd (fun e => by have := kw hn; omega))
theorem DnSt.step {ML M3 M' : List Blk} {yl y : SV} {d : Nat} {acc : List Pr} (D : DnSt ML M3 yl y d acc) (A : Ag (fun _ => False) M3 M') : DnSt ML M' yl y d acc :=
  ⟨D.ag.then (A.mono (fun _ e => e.elim)), A.get D.row (fun e => e), D.acc.ag A (fun _ _ _ e => e)⟩
theorem DnSt.push {ML M5 M6 : List Blk} {yl y s6 : SV} {d : Nat} {acc acc' : List Pr} (D : DnSt ML M5 yl y d acc) (A9 : Ag (fun n => dnS y = some n) M5 M6) (o9 : PrsO M6 ML.length s6 acc') (hd : d < ML.length) :
    DnSt ML (M6.set d (.row [s6, yl] 27)) yl s6 d acc' :=
  ⟨D.ag.then ((A9.mono (fun n e => .inr (D.acc.nm n e).1)).then (Ag.set (.inl rfl))), List.getElem?_set_self (by have := D.ag.1; have := A9.1; omega), o9.ag (S := fun n => n = d) (Ag.set rfl) (fun n h1 h2 h3 => by omega)⟩
theorem DnSt.rowd {ML M5 M6 : List Blk} {yl y : SV} {d : Nat} {acc : List Pr} (D : DnSt ML M5 yl y d acc) (A9 : Ag (fun n => dnS y = some n) M5 M6) (hd : d < ML.length) : M6[d]? = some (.row [y, yl] 27) :=
  A9.get D.row (fun e => by have := D.acc.nm d e; omega)

theorem push_dn {ML M3 MM : List Blk} {yl y : SV} {d r cap : Nat} {ty : TypeId} {acc : List Pr} {K : SV → List Blk → Prop} (D : DnSt ML M3 yl y d acc) (A : Ag (fun _ => False) M3 MM) (hd : d < ML.length) (q : Pr) (yk yp : SV) (hr : MM[r]? = some (.row (prC (q, yk, yp)) ty)) (hyk : Byt MM yk q.key) (nyk : NmG (fun n => ML.length ≤ n ∧ dnS y ≠ some n) yk)
    (hyp : Pxs MM yp q.pfx) (nyp : NmG (fun n => ML.length ≤ n ∧ dnS y ≠ some n) yp) (hl : acc.length ≤ 100000)
    (hK : ∀ M6 s6, DnSt ML (M6.set d (.row [s6, yl] 27)) yl s6 d (acc ++ [q]) → M6[d]? = some (.row [y, yl] 27) → s6.one = true → Ag (fun n => dnS y = some n) MM M6 → NmG (fun n => n = MM.length) s6 → K s6 M6) : appendC tab MM 22 22 y (.sl r 0 1 cap) K := by
  have D5 := D.step A
  refine PrsO.push (b := ML.length) D5.acc (Nat.le_trans D.ag.1 A.1) q yk yp hr hyk nyk hyp nyp hl (fun M6 s6 o9 n9 A9 => hK M6 s6 (D5.push A9 o9 hd) (D5.rowd A9 hd) o9.one A9 n9)
end Go.Proofs.Ytdcplcfedcmcmaa.Eng

/- The document's judge. -/
namespace Go.Proofs.Ytdcplcfedcmcmaa.Eng
open Go Go.RowKit
set_option linter.unusedSimpArgs false
set_option linter.unusedVariables false

end Go.Proofs.Ytdcplcfedcmcmaa.Eng
