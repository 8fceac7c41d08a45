/- Joined texts: F7, K1. -/
import Derived.Test.YtdcplcfedcmcmaaMc
/- The law's writing over copies, in their places: lists, their elements, one cell. -/
namespace Go.Proofs.Ytdcplcfedcmcmaa.Eng
open Go Go.RowKit
set_option linter.unusedSimpArgs false
set_option linter.unusedVariables false

theorem all_set {c : List SV} (h : c.all SV.one = true) {j : Nat} {v : SV} (hv : v.one = true) : (c.set j v).all SV.one = true := by
  rw [List.all_eq_true] at *
  intro a ha
  rcases List.mem_or_eq_of_mem_set ha with g | rfl
  · exact h a g
  · exact hv
theorem Own.put {M : List Blk} {k : Nat} {x : SV} {cs : List (List SV)} {i : Nat} {c : List SV} (h : Own M k x cs) (hi : cs[i]? = some c) :
    ∃ n cap R ty, x = .sl n 0 cs.length cap ∧ M[n]? = some (.row R ty) ∧ i * k + k ≤ R.length ∧ (∀ j, j < k → R[i * k + j]? = c[j]?) ∧
    ∀ j v, j < k → v.one = true → Own (M.set n (.row (R.set (i * k + j) v) ty)) k x (cs.set i (c.set j v)) := by
  obtain ⟨h0, h1, ⟨rfl, rfl⟩ | ⟨n, cap, zz, ty, rfl, h2, h3⟩⟩ := h
  · cases hi
  have hlk : ∀ c ∈ cs, c.length = k := fun c hc => (h1 c hc).1
  have hil := (List.getElem?_eq_some_iff.1 hi).1
  have hm : (i + 1) * k ≤ cs.length * k := Nat.mul_le_mul_right k (by omega)
  rw [Nat.add_mul, Nat.one_mul] at hm
  refine ⟨n, cap, cs.flatten ++ zz, ty, rfl, h2, by rw [List.length_append, flat_length hlk]; omega, fun j hj => flat_get hlk hi hj, fun j v hj hv => ⟨by rw [List.length_set]; exact h0, fun c' hc' => ?_, .inr ⟨n, cap, zz, ty, by rw [List.length_set], by rw [flat_set i v hlk hi hj]; exact List.getElem?_set_self (kw h2), by rw [List.length_set]; exact h3⟩⟩⟩
  rcases List.mem_or_eq_of_mem_set hc' with g | rfl
  · exact h1 c' g
  · have := h1 c (List.mem_of_getElem? hi)
    exact ⟨by rw [List.length_set]; exact this.1, all_set this.2 hv⟩

def LO (M : List Blk) (G : Nat → Prop) (x : SV) (ls : List Ln) : Prop := ∃ es : List (Ln × SV), es.map (·.1) = ls ∧ Own M 8 x (es.map lnC) ∧ NmG G x ∧ ∀ e ∈ es, LnE M (fun n => G n ∧ dnS x ≠ some n) e
def PO (M : List Blk) (G : Nat → Prop) (x : SV) (ls : List Pr) : Prop := ∃ es : List (Pr × SV × SV), es.map (·.1) = ls ∧ Own M 3 x (es.map prC) ∧ NmG G x ∧ ∀ e ∈ es, PrE M (fun n => G n ∧ dnS x ≠ some n) e
def CO (M : List Blk) (G : Nat → Prop) (x : SV) (ls : List Ch) : Prop := ∃ es : List (Ch × SV), es.map (·.1) = ls ∧ Own M 8 x (es.map chC) ∧ NmG G x ∧ ∀ e ∈ es, ChE M (fun n => G n ∧ dnS x ≠ some n) e ∧ RowF M e.2
theorem LO.lns {M : List Blk} {G : Nat → Prop} {x : SV} {ls : List Ln} (h : LO M G x ls) : Lns M G x ls := by
  obtain ⟨es, h1, h2, h3, h4⟩ := h
  exact ⟨es, h1, h2.lst (by decide), h3, fun e he => (h4 e he).mono (fun n h => h.1)⟩
theorem PO.prs {M : List Blk} {G : Nat → Prop} {x : SV} {ls : List Pr} (h : PO M G x ls) : Prs M G x ls := by
  obtain ⟨es, h1, h2, h3, h4⟩ := h
  exact ⟨es, h1, h2.lst (by decide), h3, fun e he => (h4 e he).mono (fun n h => h.1)⟩
theorem CO.chs {M : List Blk} {G : Nat → Prop} {x : SV} {ls : List Ch} (h : CO M G x ls) : Chs M G x ls := by
  obtain ⟨es, h1, h2, h3, h4⟩ := h
  exact ⟨es, h1, h2.lst (by decide), h3, fun e he => (h4 e he).1.mono (fun n h => h.1)⟩
theorem LO.ag {S G : Nat → Prop} {M M' : List Blk} {x : SV} {ls : List Ln} (h : LO M G x ls) (hA : Ag S M M') (hS : ∀ n, n < M.length → G n → ¬ S n) : LO M' G x ls := by
  obtain ⟨es, h1, h2, h3, h4⟩ := h
  exact ⟨es, h1, h2.ag hA (fun d e => hS d (h2.dn d e) (h3 d e)), h3, fun e he => (h4 e he).ag hA (fun n hn hg => hS n hn hg.1)⟩
theorem PO.ag {S G : Nat → Prop} {M M' : List Blk} {x : SV} {ls : List Pr} (h : PO M G x ls) (hA : Ag S M M') (hS : ∀ n, n < M.length → G n → ¬ S n) : PO M' G x ls := by
  obtain ⟨es, h1, h2, h3, h4⟩ := h
  exact ⟨es, h1, h2.ag hA (fun d e => hS d (h2.dn d e) (h3 d e)), h3, fun e he => (h4 e he).ag hA (fun n hn hg => hS n hn hg.1)⟩
theorem CO.ag {S G : Nat → Prop} {M M' : List Blk} {x : SV} {ls : List Ch} (h : CO M G x ls) (hA : Ag S M M') (hS : ∀ n, n < M.length → G n → ¬ S n) : CO M' G x ls := by
  obtain ⟨es, h1, h2, h3, h4⟩ := h
  exact ⟨es, h1, h2.ag hA (fun d e => hS d (h2.dn d e) (h3 d e)), h3, fun e he => ⟨(h4 e he).1.ag hA (fun n hn hg => hS n hn hg.1), (h4 e he).2.ag hA (fun d e' => hS d ((h4 e he).1.key.dn d e') ((h4 e he).1.kg d e').1)⟩⟩
theorem at_fst {α β : Type} {es : List (α × β)} {k : Nat} {l : α} (h : (es.map (·.1))[k]? = some l) : ∃ e, es[k]? = some e ∧ e.1 = l := by
  rw [List.getElem?_map] at h
  cases hg : es[k]? with
  | none => rw [hg] at h; cases h
  | some e => rw [hg] at h; cases h; exact ⟨e, rfl, rfl⟩
theorem LO.put {M : List Blk} {G : Nat → Prop} {x : SV} {ls : List Ln} {k : Nat} {l : Ln} (h : LO M G x ls) (hk : ls[k]? = some l) : ∃ n cap R ty, x = .sl n 0 ls.length cap ∧ G n ∧ M[n]? = some (.row R ty) ∧ k * 8 + 8 ≤ R.length ∧
    R[k * 8 + 2]? = some (.i .i64 l.cur) ∧ R[k * 8 + 3]? = some (.i .i64 l.next) ∧ R[k * 8 + 4]? = some (.u64 l.sc) ∧ (∀ v, LO (M.set n (.row (R.set (k * 8 + 3) (.i .i64 v)) ty)) G x (ls.set k { l with next := v })) ∧ (∀ v, LO (M.set n (.row (R.set (k * 8 + 4) (.u64 v)) ty)) G x (ls.set k { l with sc := v })) := by
  obtain ⟨es, rfl, h2, h3, h4⟩ := h
  obtain ⟨e, he, rfl⟩ := at_fst hk
  obtain ⟨n, cap, R, ty, hx, g1, g2, g3, g4⟩ := h2.put (i := k) (c := lnC e) (by rw [List.getElem?_map, he]; rfl)
  rw [List.length_map] at hx
  subst hx
  have hel := h4 e (List.mem_of_getElem? he)
  have hg : ∀ (R' : List SV) (l' : Ln) (c : List SV), c = lnC (l', e.2) → l'.key = e.1.key → Own (M.set n (.row R' ty)) 8 (.sl n 0 es.length cap) ((es.map lnC).set k c) → LO (M.set n (.row R' ty)) G (.sl n 0 es.length cap) ((es.map (·.1)).set k l') := by
    intro R' l' c hc hkey ho
    have hA : Ag (fun d => d = n) M (M.set n (.row R' ty)) := Ag.set rfl
    refine ⟨es.set k (l', e.2), by rw [List.map_set], by rw [List.map_set, ← hc]; exact ho, h3, fun e' he' => ?_⟩
    have hs : ∀ d, d < M.length → (G d ∧ dnS (.sl n 0 es.length cap) ≠ some d) → ¬ d = n := fun d _ g e => g.2 (by rw [e]; rfl)
    rcases List.mem_or_eq_of_mem_set he' with g | rfl
    · exact (h4 e' g).ag hA hs
    · have := hel.ag hA hs
      exact ⟨by rw [hkey]; exact this.key, this.kg⟩
  refine ⟨n, cap, R, ty, by rw [List.length_map], h3 n rfl, g1, g2, g3 2 (by decide), g3 3 (by decide), g3 4 (by decide), fun v => hg _ _ _ rfl rfl (g4 3 _ (by decide) rfl), fun v => hg _ _ _ rfl rfl (g4 4 _ (by decide) rfl)⟩
theorem PO.put {M : List Blk} {G : Nat → Prop} {x : SV} {ls : List Pr} {k : Nat} {l : Pr} (h : PO M G x ls) (hk : ls[k]? = some l) : ∃ n cap R ty, x = .sl n 0 ls.length cap ∧ G n ∧ M[n]? = some (.row R ty) ∧ k * 3 + 3 ≤ R.length ∧
    R[k * 3]? = some (.i .i64 l.link) ∧ ∀ v, PO (M.set n (.row (R.set (k * 3) (.i .i64 v)) ty)) G x (ls.set k { l with link := v }) := by
  obtain ⟨es, rfl, h2, h3, h4⟩ := h
  obtain ⟨e, he, rfl⟩ := at_fst hk
  obtain ⟨n, cap, R, ty, hx, g1, g2, g3, g4⟩ := h2.put (i := k) (c := prC e) (by rw [List.getElem?_map, he]; rfl)
  rw [List.length_map] at hx
  subst hx
  have hel := h4 e (List.mem_of_getElem? he)
  refine ⟨n, cap, R, ty, by rw [List.length_map], h3 n rfl, g1, g2, g3 0 (by decide), fun v => ?_⟩
  have ho := g4 0 (.i .i64 v) (by decide) rfl
  rw [Nat.add_zero] at ho
  have hA : Ag (fun d => d = n) M (M.set n (.row (R.set (k * 3) (.i .i64 v)) ty)) := Ag.set rfl
  refine ⟨es.set k ({ e.1 with link := v }, e.2), by rw [List.map_set], by rw [List.map_set]; exact ho, h3, fun e' he' => ?_⟩
  have hs : ∀ d, d < M.length → (G d ∧ dnS (.sl n 0 es.length cap) ≠ some d) → ¬ d = n := fun d _ g e => g.2 (by rw [e]; rfl)
  rcases List.mem_or_eq_of_mem_set he' with g | rfl
  · exact (h4 e' g).ag hA hs
  · have := hel.ag hA hs
    exact ⟨this.key, this.kg, this.pfx, this.pg⟩
theorem CO.put {M : List Blk} {G : Nat → Prop} {x : SV} {ls : List Ch} {k : Nat} {l : Ch} (h : CO M G x ls) (hk : ls[k]? = some l) : ∃ n cap R ty y, x = .sl n 0 ls.length cap ∧ G n ∧ M[n]? = some (.row R ty) ∧ k * 8 + 8 ≤ R.length ∧
    R[k * 8 + 1]? = some (.i .i64 l.link) ∧ R[k * 8 + 3]? = some y ∧ Byt M y l.key ∧ NmG (fun d => G d ∧ d ≠ n) y ∧ RowF M y ∧ ∀ v, CO (M.set n (.row (R.set (k * 8 + 1) (.i .i64 v)) ty)) G x (ls.set k { l with link := v }) := by
  obtain ⟨es, rfl, h2, h3, h4⟩ := h
  obtain ⟨e, he, rfl⟩ := at_fst hk
  obtain ⟨n, cap, R, ty, hx, g1, g2, g3, g4⟩ := h2.put (i := k) (c := chC e) (by rw [List.getElem?_map, he]; rfl)
  rw [List.length_map] at hx
  subst hx
  have hel := h4 e (List.mem_of_getElem? he)
  refine ⟨n, cap, R, ty, e.2, by rw [List.length_map], h3 n rfl, g1, g2, g3 1 (by decide), g3 3 (by decide), hel.1.key, fun d hd => ⟨(hel.1.kg d hd).1, fun e' => (hel.1.kg d hd).2 (by rw [e']; rfl)⟩, hel.2, fun v => ?_⟩
  have ho := g4 1 (.i .i64 v) (by decide) rfl
  have hA : Ag (fun d => d = n) M (M.set n (.row (R.set (k * 8 + 1) (.i .i64 v)) ty)) := Ag.set rfl
  refine ⟨es.set k ({ e.1 with link := v }, e.2), by rw [List.map_set], by rw [List.map_set]; exact ho, h3, fun e' he' => ?_⟩
  have hs : ∀ d, d < M.length → (G d ∧ dnS (.sl n 0 es.length cap) ≠ some d) → ¬ d = n := fun d _ g e => g.2 (by rw [e]; rfl)
  have hb : ∀ e'' ∈ es, ChE (M.set n (.row (R.set (k * 8 + 1) (.i .i64 v)) ty)) (fun d => G d ∧ dnS (.sl n 0 es.length cap) ≠ some d) e'' ∧ RowF (M.set n (.row (R.set (k * 8 + 1) (.i .i64 v)) ty)) e''.2 := fun e'' g => ⟨(h4 e'' g).1.ag hA hs, (h4 e'' g).2.ag hA (fun d hd => hs d ((h4 e'' g).1.key.dn d hd) ((h4 e'' g).1.kg d hd))⟩
  rcases List.mem_or_eq_of_mem_set he' with g | rfl
  · exact hb e' g
  · have := hb e (List.mem_of_getElem? he)
    exact ⟨⟨this.1.key, this.1.kg⟩, this.2⟩
/-- one byte in front of some key: other bytes, as many -/
theorem Byt.put {M : List Blk} {y : SV} {l : List (BitVec 8)} (h : Byt M y l) {d : Nat} {R : List SV} {ty : TypeId} (hd : M[d]? = some (.row R ty)) (v : BitVec 8) : ∃ l', Byt (M.set d (.row (R.set 0 (.u8 v)) ty)) y l' := by
  have hA : Ag (fun n => n = d) M (M.set d (.row (R.set 0 (.u8 v)) ty)) := Ag.set rfl
  obtain ⟨h0, h | ⟨a, h, h'⟩ | ⟨n, cap, rfl, hb, ht⟩⟩ := h
  · exact ⟨l, h0, .inl h⟩
  · exact ⟨l, h0, .inr (.inl ⟨a, h, h'⟩)⟩
  · by_cases e : n = d
    · subst e
      have hw := kw hd
      refine ⟨l.set 0 v, by rw [List.length_set]; exact h0, .inr (.inr ⟨n, cap, by rw [List.length_set], ⟨by rw [List.length_set]; exact hw, ?_, ?_⟩, ?_⟩)⟩
      · have := hb.len
        simp only [cellsAt, hd, List.getElem?_set_self hw, cellsB, List.length_set] at this ⊢
        exact this
      · have := hb.cells
        simp only [cellsAt, hd, List.getElem?_set_self hw, cellsB, List.length_set, List.drop_zero] at this ⊢
        rw [List.take_set, this]
        simp [bS, List.map_set]
      · rw [List.length_set]
        rcases ht with ht | ⟨e1, e2, ty', e3⟩
        · refine .inl ?_
          rw [liveN_eq, hd] at ht
          rw [liveN_eq, List.getElem?_set_self hw]
          simp only [liveB_row, List.length_set] at ht ⊢
          exact ht
        · rw [hd] at e3
          cases e3
          exact .inr ⟨e1, e2, _, by rw [List.getElem?_set_self hw]; rfl⟩
    · exact ⟨l, Byt.ag (M := M) ⟨h0, .inr (.inr ⟨n, cap, rfl, hb, ht⟩)⟩ hA (fun d' e' h' => e (by cases e'; exact h'))⟩
theorem CO.key {M : List Blk} {G : Nat → Prop} {x : SV} {ls : List Ch} (h : CO M G x ls) {d : Nat} {R : List SV} {ty : TypeId} (hn : dnS x ≠ some d) (hd : M[d]? = some (.row R ty)) (v : BitVec 8) : ∃ cs', cs'.length = ls.length ∧ CO (M.set d (.row (R.set 0 (.u8 v)) ty)) G x cs' := by
  obtain ⟨es, rfl, h2, h3, h4⟩ := h
  have hA : Ag (fun n => n = d) M (M.set d (.row (R.set 0 (.u8 v)) ty)) := Ag.set rfl
  have hw := kw hd
  have hf : ∀ e : Ch × SV, ∃ e' : Ch × SV, e ∈ es → (chC e' = chC e ∧ ChE (M.set d (.row (R.set 0 (.u8 v)) ty)) (fun n => G n ∧ dnS x ≠ some n) e' ∧ RowF (M.set d (.row (R.set 0 (.u8 v)) ty)) e'.2) := by
    intro e
    by_cases he : e ∈ es
    · obtain ⟨g1, g2⟩ := h4 e he
      obtain ⟨l', hl'⟩ := g1.key.put hd v
      refine ⟨({ e.1 with key := l' }, e.2), fun _ => ⟨rfl, ⟨hl', g1.kg⟩, fun d' hd' => ?_⟩⟩
      obtain ⟨R', ty', g⟩ := g2 d' hd'
      by_cases hdd : d' = d
      · subst hdd
        exact ⟨_, _, List.getElem?_set_self hw⟩
      · exact ⟨R', ty', hA.get g hdd⟩
    · exact ⟨e, fun h => absurd h he⟩
  obtain ⟨f, hf⟩ : ∃ f : Ch × SV → Ch × SV, ∀ e ∈ es, chC (f e) = chC e ∧ ChE (M.set d (.row (R.set 0 (.u8 v)) ty)) (fun n => G n ∧ dnS x ≠ some n) (f e) ∧ RowF (M.set d (.row (R.set 0 (.u8 v)) ty)) (f e).2 := ⟨fun e => Classical.choose (hf e), fun e => Classical.choose_spec (hf e)⟩
  refine ⟨(es.map f).map (·.1), by simp, es.map f, rfl, ?_, h3, fun e he => ?_⟩
  · have : (es.map f).map chC = es.map chC := by
      rw [List.map_map]
      exact List.map_congr_left (fun e he => (hf e he).1)
    rw [this]
    exact h2.ag hA (fun d' e' h' => hn (by rw [← h']; exact e'))
  · obtain ⟨e0, he0, rfl⟩ := List.mem_map.1 he
    exact (hf e0 he0).2
/-- the numbers that are written -/
theorem right_ln {s : St} (h : s.Right) {k : Nat} {l l' : Ln} (hk : s.ls[k]? = some l) (hkey : l'.key = l.key) (hok : l'.Ok) : (St.mk s.ps (s.ls.set k l')).Right := by
  refine ⟨h.np, by rw [List.length_set]; exact h.nl, fun a ha => ?_, pw_set h.lord hk (fun j x hj hx => ?_) (fun j x hj hx => ?_), h.peer, h.pord, h.keys, h.pfxs, fun p hp => ?_⟩
  · rcases List.mem_or_eq_of_mem_set ha with g | rfl
    · exact h.lane a g
    · exact hok
  · rw [hkey]; exact pw_lb h.lord hx hk hj
  · rw [hkey]; exact pw_lb h.lord hk hx hj
  · obtain ⟨a, ha, hak⟩ := h.has p hp
    obtain ⟨j, hj⟩ := List.getElem?_of_mem ha
    by_cases e : j = k
    · subst e
      rw [hk] at hj; cases hj
      exact ⟨l', List.mem_of_getElem? (i := j) (by rw [List.getElem?_set_self (List.getElem?_eq_some_iff.1 hk).1]), by rw [hkey]; exact hak⟩
    · exact ⟨a, List.mem_of_getElem? (i := j) (by rw [List.getElem?_set_ne (Ne.symm e)]; exact hj), hak⟩
def upP (p : Pr) : Pr := { p with link := p.link + 1 }
theorem right_up {s : St} (h : s.Right) (hl : ∀ p ∈ s.ps, p.link < 4294967295) : (St.mk (s.ps.map upP) s.ls).Right := by
  refine ⟨by rw [List.length_map]; exact h.np, h.nl, h.lane, h.lord, fun p hp => ?_, List.pairwise_map.2 (h.pord.imp (fun h => by simp only [upP]; omega)), List.pairwise_map.2 h.keys, List.pairwise_map.2 h.pfxs, fun p hp => ?_⟩
  · obtain ⟨q, hq, rfl⟩ := List.mem_map.1 hp
    have g := h.peer q hq
    have := hl q hq
    have := g.link
    exact ⟨by simp only [upP]; omega, g.many, g.valid, g.ord⟩
  · obtain ⟨q, hq, rfl⟩ := List.mem_map.1 hp
    exact h.has q hq
end Go.Proofs.Ytdcplcfedcmcmaa.Eng

/- What a list of changes leaves of the lanes. -/
namespace Go.Proofs.Ytdcplcfedcmcmaa.Eng
open Go Go.RowKit
set_option linter.unusedSimpArgs false
set_option linter.unusedVariables false

/-- a lane, and what has become of it -/
structure Rise (a b : Ln) : Prop where
  key : b.key = a.key
  side : b.side = a.side
  next : b.next = a.next
  sec : b.sec = a.sec
  nano : b.nano = a.nano
  cur : (b.cur = a.cur ∧ b.sc = a.sc ∧ b.ce = a.ce) ∨ (a.cur < b.cur ∧ a.next < b.cur ∧ b.sc = 0#64 ∧ b.ce = 0#64)
theorem Rise.refl (a : Ln) : Rise a a := ⟨rfl, rfl, rfl, rfl, rfl, .inl ⟨rfl, rfl, rfl⟩⟩
theorem Rise.trans {a b c : Ln} (h : Rise a b) (g : Rise b c) : Rise a c := by
  refine ⟨g.key.trans h.key, g.side.trans h.side, g.next.trans h.next, g.sec.trans h.sec, g.nano.trans h.nano, ?_⟩
  have hn := h.next
  rcases h.cur with ⟨h1, h2, h3⟩ | ⟨h1, h2, h3, h4⟩ <;> rcases g.cur with ⟨g1, g2, g3⟩ | ⟨g1, g2, g3, g4⟩
  · exact .inl ⟨g1.trans h1, g2.trans h2, g3.trans h3⟩
  · exact .inr ⟨by omega, by omega, g3, g4⟩
  · exact .inr ⟨by omega, by omega, g2.trans h3, g3.trans h4⟩
  · exact .inr ⟨by omega, by omega, g3, g4⟩
def Low (B : Int) (l : List Ln) : Prop := ∀ a ∈ l, a.cur ≤ B ∧ a.next ≤ B
theorem give_rise (s : St) (c : Ch) : (∀ a ∈ s.ls, ∃ b ∈ s.give c, Rise a b) ∧ ∀ B, 0 ≤ B → Low B s.ls → Low (B + 1) (s.give c) := by
  unfold St.give
  cases s.lane c.key with
  | none =>
    simp only
    refine ⟨fun a ha => ⟨a, mem_insAt.2 (.inr ha), Rise.refl a⟩, fun B hB h a ha => ?_⟩
    rcases mem_insAt.1 ha with rfl | ha
    · exact ⟨by simp only; omega, by simp only; omega⟩
    · have := h a ha; omega
  | some k =>
    simp only
    cases hk : s.ls[k]? with
    | none => exact ⟨fun a ha => ⟨a, ha, Rise.refl a⟩, fun B hB h a ha => by have := h a ha; omega⟩
    | some l =>
      simp only
      have hkl := (List.getElem?_eq_some_iff.1 hk).1
      refine ⟨fun a ha => ?_, fun B hB h a ha => ?_⟩
      · obtain ⟨j, hj⟩ := List.getElem?_of_mem ha
        by_cases e : j = k
        · subst e
          rw [hk] at hj; cases hj
          exact ⟨_, List.mem_of_getElem? (i := j) (List.getElem?_set_self hkl), rfl, rfl, rfl, rfl, rfl, .inr ⟨by simp only [Ln.lifted]; omega, by simp only [Ln.lifted]; omega, rfl, rfl⟩⟩
        · exact ⟨a, List.mem_of_getElem? (i := j) (by rw [List.getElem?_set_ne (Ne.symm e)]; exact hj), Rise.refl a⟩
      · rcases List.mem_or_eq_of_mem_set ha with g | rfl
        · have := h a g; omega
        · have := h l (List.mem_of_getElem? hk)
          exact ⟨by simp only [Ln.lifted]; omega, by simp only; omega⟩
theorem done_rise (s : St) (c : Ch) : (∀ a ∈ s.ls, ∃ b ∈ (s.done c).ls, Rise a b) ∧ ∀ B, 0 ≤ B → Low B s.ls → Low (B + 1) (s.done c).ls := by
  have hsame : (∀ a ∈ s.ls, ∃ b ∈ s.ls, Rise a b) ∧ ∀ B, 0 ≤ B → Low B s.ls → Low (B + 1) s.ls := ⟨fun a ha => ⟨a, ha, Rise.refl a⟩, fun B hB h a ha => by have := h a ha; omega⟩
  unfold St.done
  split
  · exact give_rise s c
  split
  · exact hsame
  split
  · exact give_rise s c
  · exact hsame
theorem run_rise : ∀ {l : List Ch} {s s' : St} {i : Nat}, s.run i l = .inl s' → (∀ a ∈ s.ls, ∃ b ∈ s'.ls, Rise a b) ∧ ∀ B, 0 ≤ B → Low B s.ls → Low (B + l.length) s'.ls
  | [], s, s', i, h => by
    cases h
    exact ⟨fun a ha => ⟨a, ha, Rise.refl a⟩, fun B hB h => by simpa using h⟩
  | c :: l, s, s', i, h => by
    simp only [St.run] at h
    split at h
    · obtain ⟨g1, g2⟩ := run_rise h
      obtain ⟨d1, d2⟩ := done_rise s c
      refine ⟨fun a ha => ?_, fun B hB h => ?_⟩
      · obtain ⟨b, hb, r1⟩ := d1 a ha
        obtain ⟨c', hc, r2⟩ := g1 b hb
        exact ⟨c', hc, r1.trans r2⟩
      · have := g2 (B + 1) (by omega) (d2 B hB h)
        rw [List.length_cons]
        intro a ha
        have := this a ha
        omega
    · cases h
theorem judge_rise {s s' : St} {l : List Ch} (h : s.judge l = .inl s') : (∀ a ∈ s.ls, ∃ b ∈ s'.ls, Rise a b) ∧ ∀ B, 0 ≤ B → Low B s.ls → Low (B + 32) s'.ls := by
  unfold St.judge at h
  split at h
  · cases h
  · obtain ⟨g1, g2⟩ := run_rise h
    exact ⟨g1, fun B hB h a ha => by have := g2 B hB h a ha; omega⟩
/-- the lane of a key stands at one place -/
theorem lane_at {s : St} (h : s.Right) {b : Ln} (hb : b ∈ s.ls) : ∃ i : Nat, s.ls[i]? = some b ∧ ∀ (j : Nat) c, j < i → s.ls[j]? = some c → c.key ≠ b.key := by
  obtain ⟨i, hi⟩ := List.getElem?_of_mem hb
  refine ⟨i, hi, fun j c hj hc e => ?_⟩
  have := pw_lb h.lord hc hi hj
  rw [e, ltB_irr] at this
  cases this
end Go.Proofs.Ytdcplcfedcmcmaa.Eng
