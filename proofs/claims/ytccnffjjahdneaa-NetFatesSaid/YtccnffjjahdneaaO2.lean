/- The net's calls on the net as a predicate. -/
import Derived.Test.YtccnffjjahdneaaO1
namespace Go.Proofs.Ytccnffjjahdneaa.Eng
open Go Go.RowKit
set_option linter.unusedSimpArgs false
set_option linter.unusedVariables false
set_option linter.unusedSimpArgs false
set_option linter.unusedVariables false

theorem NetSt.ne {M : List Blk} {F : Nat → Prop} {nx m c : Nat} {g : Int} {fs : List Ent} (h : NetSt M F nx m g c fs) : nx ≠ m := by
  intro e
  have h1 := h.row
  have h2 := h.map
  rw [e, h2] at h1
  cases h1
theorem NetSt.own {M : List Blk} {F : Nat → Prop} {nx m c n : Nat} {g : Int} {fs : List Ent} (h : NetSt M F nx m g c fs) (e : n = nx ∨ n = m) : F n := by
  rcases e with e | e <;> rw [e]
  · exact h.fx
  · exact h.fm
theorem bS_inj_cell {l : List (BitVec 8)} {x : SV} {r : List SV} (h : x :: r = bS l) : ∃ b, x = .u8 b := by
  cases l with
  | nil => cases h
  | cons b l => simp only [bS, List.map_cons, List.cons.injEq] at h; exact ⟨b, h.1⟩
theorem NetSt.ned {M : List Blk} {F : Nat → Prop} {nx m c : Nat} {g : Int} {fs : List Ent} (h : NetSt M F nx m g c fs) {d : Nat} {l : List (BitVec 8)} {ty : TypeId} (hd : M[d]? = some (.row (bS l) ty)) : d ≠ nx ∧ d ≠ m := by
  constructor
  · intro e
    have h1 := h.row
    rw [← e, hd] at h1
    simp only [Option.some.injEq, Blk.row.injEq] at h1
    obtain ⟨b, hb⟩ := bS_inj_cell h1.1.symm
    cases hb
  · intro e
    have h1 := h.map
    rw [← e, hd] at h1
    cases h1
/-- the memory behind a send: the row and the map turned -/
theorem NetSt.add {M M' : List Blk} {F F' : Nat → Prop} {nx m c : Nat} {g to : Int} {fs : List Ent} {x : SV} {l : List (BitVec 8)} (h : NetSt M F nx m g c fs) (hA : Ag (fun n => n = nx ∨ n = m) M M')
    (h1 : M'[nx]? = some (.row [.mp m, .i .i64 (g + 1)] 63)) (h2 : M'[m]? = some (.obj (.map ((fs ++ [(g + 1, to, x, l, c)]).map entE) (c + 1)))) (hFF : ∀ n, F n → F' n) (hin : ∀ n, F' n → n < M'.length)
    (hx : DatR M' F' x l) (hnew : ∀ d, dnS x = some d → M.length ≤ d) : NetSt M' F' nx m (g + 1) (c + 1) (fs ++ [(g + 1, to, x, l, c)]) := by
  have hg := h.g0
  refine ⟨h1, h2, hFF _ h.fx, hFF _ h.fm, hin, by omega, ?_, ?_, ?_, ?_, ?_, ?_⟩
  · intro f hf
    rcases List.mem_append.1 hf with hf | hf
    · have := h.stamp f hf; omega
    · rw [List.mem_singleton.1 hf]; exact Nat.lt_succ_self c
  · rw [List.map_append, List.nodup_append]
    refine ⟨h.nodup, by simp, fun a ha b hb e => ?_⟩
    obtain ⟨f, hf, rfl⟩ := List.mem_map.1 ha
    simp only [List.map_cons, List.map_nil, List.mem_singleton] at hb
    have := h.stamp f hf
    omega
  · intro f hf
    rcases List.mem_append.1 hf with hf | hf
    · have := h.key f hf; omega
    · rw [List.mem_singleton.1 hf]; constructor <;> simp <;> omega
  · rw [List.pairwise_append]
    refine ⟨h.sorted, List.pairwise_singleton _ _, fun a ha b hb => ?_⟩
    rw [List.mem_singleton.1 hb]
    have := h.key a ha
    show a.1 < g + 1
    omega
  · intro f hf
    rcases List.mem_append.1 hf with hf | hf
    · obtain ⟨h0, hh⟩ := h.data f hf
      refine ⟨h0, ?_⟩
      rcases hh with hh | ⟨d, z, ty, e1, e2, e3⟩
      · exact .inl hh
      · have hne := h.ned e2
        exact .inr ⟨d, z, ty, e1, hA.get e2 (fun e => e.elim hne.1 hne.2), hFF d e3⟩
    · rw [List.mem_singleton.1 hf]; exact hx
  · rw [List.filterMap_append, List.nodup_append]
    refine ⟨h.apart, ?_, fun a ha b hb e => ?_⟩
    · simp only [List.filterMap_cons, List.filterMap_nil]
      cases dnS x <;> simp
    · obtain ⟨f, hf, hfa⟩ := List.mem_filterMap.1 ha
      obtain ⟨f', hf', hfb⟩ := List.mem_filterMap.1 hb
      rw [List.mem_singleton.1 hf'] at hfb
      have h3 := hnew b hfb
      obtain ⟨_, ⟨h4, _⟩ | ⟨d, z, ty, e1, e2, e3⟩⟩ := h.data f hf
      · rw [h4] at hfa; cases hfa
      · rw [e1] at hfa
        cases hfa
        have := h.inn _ e3
        omega
/-- a slice handed in: nil, or the bytes lie there -/
def SrcR (M : List Blk) (nx : Nat) (x : SV) (l : List (BitVec 8)) : Prop :=
  l.length ≤ 140737488355000 ∧ ((x = .sn ∧ l = []) ∨ ∃ n cap, x = .sl n 0 l.length cap ∧ BAt M n 0 l ∧ There M n cap l ∧ n ≠ nx)
theorem DatR.src {M : List Blk} {F : Nat → Prop} {nx : Nat} {x : SV} {l : List (BitVec 8)} (h : DatR M F x l) (hn : ∀ d l ty, M[d]? = some (.row (bS l) ty) → d ≠ nx) : SrcR M nx x l := by
  obtain ⟨h0, h | ⟨d, z, ty, h1, h2, h3⟩⟩ := h
  · exact ⟨h0, .inl h⟩
  · exact ⟨h0, .inr ⟨d, _, h1, BAt.row h2, There.row h2, hn d _ _ h2⟩⟩
theorem DatR.bytes {M : List Blk} {F : Nat → Prop} {x : SV} {l : List (BitVec 8)} (h : DatR M F x l) : BytesAt M x l := by
  obtain ⟨h0, h | ⟨d, z, ty, h1, h2, h3⟩⟩ := h
  · exact ⟨h0, .inl h⟩
  · exact ⟨h0, .inr ⟨d, _, h1, BAt.row h2⟩⟩
theorem DatR.dataAt {M : List Blk} {F : Nat → Prop} {f : Ent} (h : DatR M F f.2.2.1 f.2.2.2.1) : DataAt M f := by
  obtain ⟨h0, h | ⟨d, z, ty, h1, h2, h3⟩⟩ := h
  · exact ⟨h0, .inl h⟩
  · exact ⟨h0, .inr ⟨d, _, h1, BAt.row h2, There.row h2⟩⟩

theorem send_st (nx m c : Nat) (g to : Int) (x : SV) (l : List (BitVec 8)) (fs : List Ent) (M : List Blk) (F : Nat → Prop) (K : SV → List Blk → Prop) (h : NetSt M F nx m g c fs) (hf : fs.length < 1024) (hg1 : g < 4611686018427387900) (hx : SrcR M nx x l)
    (hK : ∀ M' F' x', NetSt M' F' nx m (g + 1) (c + 1) (fs ++ [(g + 1, to, x', l, c)]) → (∀ n, F' n → F n ∨ M.length ≤ n) → Ag F M M' → K (.i .i64 (g + 1)) M') :
    callVC Try.prog 11 [.p nx 0, .i .i64 to, x] M K := by
  have hn := find_no (no := g + 1) (fs := fs) (fun f hf => by have := h.key f hf; omega)
  have hg := h.g0
  have hne := h.ne
  have hnx := kw h.row
  have hm := kw h.map
  obtain ⟨h0, ⟨rfl, rfl⟩ | ⟨n, cap, rfl, hb, ht, hnn⟩⟩ := hx
  · refine send_nil nx m g to _ c 63 M K h.row h.map (by simpa using hf) hg (by omega) hn ?_
    have hA : Ag (fun n => n = nx ∨ n = m) M ((M.set nx (.row [.mp m, .i .i64 (g + 1)] 63)).set m (.obj (.map ((fs ++ [(g + 1, to, SV.sn, [], c)]).map entE) (c + 1)))) :=
      Ag.trans (S' := fun n => n = m) (Ag.set (.inl rfl)) (Ag.set rfl) (fun n _ e => .inr e)
    have := hK _ F .sn (h.add hA (by rw [List.getElem?_set_ne (Ne.symm hne)]; exact List.getElem?_set_self hnx) (List.getElem?_set_self (by simpa using hm)) (fun n h => h) (fun n hn => by simpa using h.inn n hn) ⟨by simp, .inl ⟨rfl, rfl⟩⟩ (fun d e => by cases e)) (fun n h => .inl h) (hA.mono (fun n e => h.own e))
    simpa [entE] using this
  · refine send_any nx m g to n cap l _ c 63 M K h.row h.map (by simpa using hf) hg (by omega) hn hb ht (Ne.symm hnn) h0 (fun z ty' => ?_)
    have hA : Ag (fun n => n = nx ∨ n = m) M ((M.set nx (.row [.mp m, .i .i64 (g + 1)] 63)).set m (.obj (.map ((fs ++ [(g + 1, to, SV.sl M.length 0 l.length (l.length + z.length), l, c)]).map entE) (c + 1))) ++ [.row (bS (l ++ z)) ty']) :=
      Ag.trans (S' := fun n => n = m) (Ag.set (.inl rfl)) (Ag.trans (S' := fun _ => False) (Ag.set rfl) Ag.app (fun n _ e => e.elim)) (fun n _ e => .inr e)
    have := hK _ (fun n => F n ∨ n = M.length) _ (h.add hA (by rw [get_lt (by simpa using hnx), List.getElem?_set_ne (Ne.symm hne)]; exact List.getElem?_set_self hnx) (by rw [get_lt (by simpa using hm)]; exact List.getElem?_set_self (by simpa using hm)) (fun n h => .inl h) (fun n hn => by
      rcases hn with hn | rfl
      · have := h.inn n hn; simp; omega
      · simp) ⟨h0, .inr ⟨M.length, z, ty', rfl, by simp [go_sem], .inr rfl⟩⟩ (fun d e => by cases e; exact Nat.le_refl _)) (fun n h => h.elim .inl (fun h => .inr (by omega))) (hA.mono (fun n e => h.own e))
    simpa [entE] using this

theorem copy_st (nx m c : Nat) (g : Int) (f : Ent) (fs : List Ent) (M : List Blk) (F : Nat → Prop) (K : SV → List Blk → Prop) (h : NetSt M F nx m g c fs) (hf : fs.length < 1024) (hg1 : g < 4611686018427387900) (hfm : f ∈ fs)
    (hK : ∀ M' F' x', NetSt M' F' nx m (g + 1) (c + 1) (fs ++ [(g + 1, f.2.1, x', f.2.2.2.1, c)]) → (∀ n, F' n → F n ∨ M.length ≤ n) → Ag F M M' → K (.tup [.i .i64 (g + 1), .i .i64 0]) M') :
    callVC Try.prog 13 [.p nx 0, .i .i64 f.1] M K := by
  have hn := find_no (no := g + 1) (fs := fs) (fun f hf => by have := h.key f hf; omega)
  have hy := find_yes h.sorted hfm
  have hg := h.g0
  have hne := h.ne
  have hnx := kw h.row
  have hm := kw h.map
  obtain ⟨no, to, x, l, st⟩ := f
  obtain ⟨h0, ⟨e1, e2⟩ | ⟨d, z, ty, e1, e2, e3⟩⟩ := h.data _ hfm
  · simp only at e1 e2 hy hK
    subst e1 e2
    refine copy_nil nx m g no to _ c 63 M K h.row h.map (by simpa using hf) hg (by omega) hn hy ?_
    have hA : Ag (fun n => n = nx ∨ n = m) M ((M.set nx (.row [.mp m, .i .i64 (g + 1)] 63)).set m (.obj (.map ((fs ++ [(g + 1, to, SV.sn, [], c)]).map entE) (c + 1))) ++ [.row [.i .i64 to, .sn] 65]) :=
      Ag.trans (S' := fun n => n = m) (Ag.set (.inl rfl)) (Ag.trans (S' := fun _ => False) (Ag.set rfl) Ag.app (fun n _ e => e.elim)) (fun n _ e => .inr e)
    have := hK _ F .sn (h.add hA (by rw [get_lt (by simpa using hnx), List.getElem?_set_ne (Ne.symm hne)]; exact List.getElem?_set_self hnx) (by rw [get_lt (by simpa using hm)]; exact List.getElem?_set_self (by simpa using hm)) (fun n h => h) (fun n hn => by have := h.inn n hn; simp; omega) ⟨by simp, .inl ⟨rfl, rfl⟩⟩ (fun d e => by cases e)) (fun n h => .inl h) (hA.mono (fun n e => h.own e))
    simpa [entE] using this
  · simp only at e1 e2 hy hK h0
    subst e1
    have hned := h.ned e2
    refine copy_any nx m d _ g no to l _ c 63 M K h.row h.map (by simpa using hf) hg (by omega) hn hy (BAt.row e2) (There.row e2) (Ne.symm hned.1) h0 (fun z' ty' => ?_)
    have hA : Ag (fun n => n = nx ∨ n = m) M ((M.set nx (.row [.mp m, .i .i64 (g + 1)] 63)).set m (.obj (.map ((fs ++ [(g + 1, to, SV.sl (M.length + 1) 0 l.length (l.length + z'.length), l, c)]).map entE) (c + 1))) ++ [.row [.i .i64 to, .sl d 0 l.length (l.length + z.length)] 65, .row (bS (l ++ z')) ty']) :=
      Ag.trans (S' := fun n => n = m) (Ag.set (.inl rfl)) (Ag.trans (S' := fun _ => False) (Ag.set rfl) Ag.app (fun n _ e => e.elim)) (fun n _ e => .inr e)
    have := hK _ (fun n => F n ∨ n = M.length + 1) _ (h.add hA (by rw [get_lt (by simpa using hnx), List.getElem?_set_ne (Ne.symm hne)]; exact List.getElem?_set_self hnx) (by rw [get_lt (by simpa using hm)]; exact List.getElem?_set_self (by simpa using hm)) (fun n h => .inl h) (fun n hn => by
      rcases hn with hn | rfl
      · have := h.inn n hn; simp; omega
      · simp) ⟨h0, .inr ⟨M.length + 1, z', ty', rfl, by simp [go_sem], .inr rfl⟩⟩ (fun d e => by cases e; omega)) (fun n h => h.elim .inl (fun h => .inr (by omega))) (hA.mono (fun n e => h.own e))
    simpa [entE] using this

/-- two entries with one block are one -/
theorem one_block {d : Nat} {a f : Ent} (ha : dnS a.2.2.1 = some d) (hf : dnS f.2.2.1 = some d) : ∀ (l : List Ent), (l.filterMap fun f => dnS f.2.2.1).Nodup → a ∈ l → f ∈ l → a = f
  | [], _, h, _ => by cases h
  | b :: l, hn, h3, h4 => by
    have hn' : (l.filterMap fun f => dnS f.2.2.1).Nodup := by
      rw [List.filterMap_cons] at hn
      cases hb : dnS b.2.2.1 with
      | none => rw [hb] at hn; exact hn
      | some k => rw [hb] at hn; exact (List.nodup_cons.1 hn).2
    rcases List.mem_cons.1 h3 with e3 | g3
    · rcases List.mem_cons.1 h4 with e4 | g4
      · rw [e3, e4]
      · rw [List.filterMap_cons, ← e3, ha] at hn
        exact absurd (List.mem_filterMap.2 ⟨f, g4, hf⟩) (List.nodup_cons.1 hn).1
    · rcases List.mem_cons.1 h4 with e4 | g4
      · rw [List.filterMap_cons, ← e4, hf] at hn
        exact absurd (List.mem_filterMap.2 ⟨a, g3, ha⟩) (List.nodup_cons.1 hn).1
      · exact one_block ha hf l hn' g3 g4
/-- an entry gone -/
theorem NetSt.del {M : List Blk} {F : Nat → Prop} {nx m c : Nat} {g : Int} {fs : List Ent} (h : NetSt M F nx m g c fs) (f : Ent) (hf : f ∈ fs) :
    NetSt (M.set m (.obj (.map (delE f.1 (fs.map entE)) c))) (fun n => F n ∧ dnS f.2.2.1 ≠ some n) nx m g c (fs.filter fun a => a.1 != f.1) := by
  have hm := kw h.map
  have hne := h.ne
  have hsub : ∀ a, a ∈ fs.filter (fun a => a.1 != f.1) → a ∈ fs ∧ a.1 ≠ f.1 := fun a ha => by
    have := List.mem_filter.1 ha
    exact ⟨this.1, by simpa using this.2⟩
  have hdx : ∀ k, F k → (k = nx ∨ k = m) → dnS f.2.2.1 ≠ some k := by
    intro k _ hk e
    obtain ⟨_, ⟨e1, _⟩ | ⟨d, z, ty, e1, e2, e3⟩⟩ := h.data f hf
    · rw [e1] at e; cases e
    · rw [e1] at e; cases e
      have := h.ned e2
      exact hk.elim this.1 this.2
  have hap := h.apart
  refine ⟨by rw [List.getElem?_set_ne (Ne.symm hne)]; exact h.row, by rw [List.getElem?_set_self hm, del_is h.sorted], ⟨h.fx, hdx _ h.fx (.inl rfl)⟩, ⟨h.fm, hdx _ h.fm (.inr rfl)⟩, fun n hn => by simpa using h.inn n hn.1, h.g0, fun a ha => h.stamp a (hsub a ha).1, ?_, fun a ha => h.key a (hsub a ha).1, h.sorted.sublist List.filter_sublist, ?_, ?_⟩
  · exact (List.filter_sublist.map _).nodup h.nodup
  · intro a ha
    obtain ⟨ha1, ha2⟩ := hsub a ha
    refine (h.data a ha1).ag (S := fun n => n = m) (Ag.set rfl) (fun d h1 h2 => ⟨fun e => ?_, h1, fun e => ?_⟩)
    · obtain ⟨_, ⟨e1, _⟩ | ⟨d', z, ty, e1, e2, e3⟩⟩ := h.data a ha1
      · rw [e1] at h2; cases h2
      · rw [e1] at h2; cases h2
        exact (h.ned e2).2 e
    · exact ha2 (by rw [one_block h2 e fs hap ha1 hf])
  · exact (List.filter_sublist.filterMap _).nodup hap

theorem take_st (nx m c : Nat) (g : Int) (f : Ent) (fs : List Ent) (M : List Blk) (F : Nat → Prop) (K : SV → List Blk → Prop) (h : NetSt M F nx m g c fs) (hfm : f ∈ fs)
    (hK : ∀ M', NetSt M' (fun n => F n ∧ dnS f.2.2.1 ≠ some n) nx m g c (fs.filter fun a => a.1 != f.1) → DatR M' F f.2.2.1 f.2.2.2.1 → Ag (· = m) M M' → K (.tup [.agg [.i .i64 f.1, .i .i64 f.2.1, f.2.2.1], .i .i64 0]) M') :
    callVC Try.prog 14 [.p nx 0, .i .i64 f.1] M K := by
  have hy := find_yes h.sorted hfm
  have hd := h.data f hfm
  have hx1 : f.2.2.1.one = true := by
    obtain ⟨_, ⟨e1, _⟩ | ⟨d, z, ty, e1, e2, e3⟩⟩ := hd <;> rw [e1] <;> rfl
  have hxl : f.2.2.1.lt M.length = true := by
    obtain ⟨_, ⟨e1, _⟩ | ⟨d, z, ty, e1, e2, e3⟩⟩ := hd <;> rw [e1]
    · rfl
    · simpa [SV.lt] using kw e2
  refine take_ok nx m g f.1 f.2.1 f.2.2.1 _ c 63 M K h.row h.map hy hx1 hxl (hK _ (h.del f hfm) (hd.ag (S := fun n => n = m) (Ag.set rfl) (fun d h1 h2 => ⟨fun e => ?_, h1⟩)) (Ag.set rfl))
  obtain ⟨_, ⟨e1, _⟩ | ⟨d', z, ty, e1, e2, e3⟩⟩ := hd
  · rw [e1] at h2; cases h2
  · rw [e1] at h2; cases h2
    exact (h.ned e2).2 e
theorem drop_st (nx m c : Nat) (g : Int) (f : Ent) (fs : List Ent) (M : List Blk) (F : Nat → Prop) (K : SV → List Blk → Prop) (h : NetSt M F nx m g c fs) (hfm : f ∈ fs)
    (hK : ∀ M', NetSt M' (fun n => F n ∧ dnS f.2.2.1 ≠ some n) nx m g c (fs.filter fun a => a.1 != f.1) → Ag (· = m) M M' → K (.i .i64 0) M') :
    callVC Try.prog 25 [.p nx 0, .i .i64 f.1] M K := by
  have hy := find_yes h.sorted hfm
  have hd := h.data f hfm
  have hx1 : f.2.2.1.one = true := by
    obtain ⟨_, ⟨e1, _⟩ | ⟨d, z, ty, e1, e2, e3⟩⟩ := hd <;> rw [e1] <;> rfl
  have hxl : f.2.2.1.lt M.length = true := by
    obtain ⟨_, ⟨e1, _⟩ | ⟨d, z, ty, e1, e2, e3⟩⟩ := hd <;> rw [e1]
    · rfl
    · simpa [SV.lt] using kw e2
  exact drop_ok nx m g f.1 f.2.1 f.2.2.1 _ c 63 M K h.row h.map hy hx1 hxl (hK _ (h.del f hfm) (Ag.set rfl))
/-- an entry's byte turned -/
def flpE (no a x : Int) (f : Ent) : Ent := if f.1 = no then (f.1, f.2.1, f.2.2.1, flp f.2.2.2.1 a x, f.2.2.2.2) else f
theorem flpE_1 (no a x : Int) (f : Ent) : (flpE no a x f).1 = f.1 := by unfold flpE; split <;> rfl
theorem flpE_2 (no a x : Int) (f : Ent) : (flpE no a x f).2.1 = f.2.1 := by unfold flpE; split <;> rfl
theorem flpE_3 (no a x : Int) (f : Ent) : (flpE no a x f).2.2.1 = f.2.2.1 := by unfold flpE; split <;> rfl
theorem flpE_5 (no a x : Int) (f : Ent) : (flpE no a x f).2.2.2.2 = f.2.2.2.2 := by unfold flpE; split <;> rfl
theorem flpE_e (no a x : Int) (f : Ent) : entE (flpE no a x f) = entE f := by unfold entE; rw [flpE_1, flpE_2, flpE_3, flpE_5]
theorem flip_st (nx m c : Nat) (g a x : Int) (f : Ent) (fs : List Ent) (M : List Blk) (F : Nat → Prop) (K : SV → List Blk → Prop) (h : NetSt M F nx m g c fs) (hfm : f ∈ fs)
    (hK2 : (a < 0 ∨ (f.2.2.2.1.length : Int) ≤ a ∨ x < 1 ∨ 255 < x) → K (.i .i64 2) M)
    (hK : 0 ≤ a → a < f.2.2.2.1.length → 1 ≤ x → x ≤ 255 → ∀ M', NetSt M' F nx m g c (fs.map (flpE f.1 a x)) → Ag (fun n => F n ∧ n ≠ nx ∧ n ≠ m) M M' → K (.i .i64 0) M') :
    callVC Try.prog 12 [.p nx 0, .i .i64 f.1, .i .i64 a, .i .i64 x] M K := by
  have hy := find_yes h.sorted hfm
  have hd := h.data f hfm
  obtain ⟨h0, ⟨e1, e2⟩ | ⟨d, z, ty, e1, e2, e3⟩⟩ := hd
  · rw [e1] at hy
    refine flip_nil nx m g f.1 a x f.2.1 _ c 63 M K h.row h.map hy (hK2 ?_)
    rw [e2]; simp; omega
  · rw [e1] at hy
    refine flip_ok nx m d _ g f.1 a x f.2.1 _ z ty _ c 63 M K h.row h.map hy e2 hK2 (fun a0 a1 x0 x1 => ?_)
    have hn := h.ned e2
    refine hK a0 a1 x0 x1 _ ⟨by rw [List.getElem?_set_ne hn.1]; exact h.row, ?_, h.fx, h.fm, fun n hn => by simpa using h.inn n hn, h.g0, ?_, ?_, ?_, ?_, ?_, ?_⟩ (Ag.set ⟨e3, hn⟩)
    · rw [List.getElem?_set_ne hn.2, h.map, List.map_map]
      have : (entE ∘ flpE f.1 a x) = entE := funext (flpE_e f.1 a x)
      rw [this]
    · intro b hb
      obtain ⟨b', hb', rfl⟩ := List.mem_map.1 hb
      rw [flpE_5]; exact h.stamp b' hb'
    · rw [List.map_map]
      have : ((fun f : Ent => f.2.2.2.2) ∘ flpE f.1 a x) = fun f => f.2.2.2.2 := funext (flpE_5 f.1 a x)
      rw [this]; exact h.nodup
    · intro b hb
      obtain ⟨b', hb', rfl⟩ := List.mem_map.1 hb
      rw [flpE_1]; exact h.key b' hb'
    · rw [List.pairwise_map]
      refine h.sorted.imp (fun {p q} hpq => ?_)
      rw [flpE_1, flpE_1]; exact hpq
    · intro b hb
      obtain ⟨b', hb', rfl⟩ := List.mem_map.1 hb
      rw [flpE_3]
      by_cases hbf : b'.1 = f.1
      · have hbe : b' = f := by
          rcases List.pairwise_iff_getElem.1 h.sorted with hp
          obtain ⟨i, hi, rfl⟩ := List.getElem_of_mem hb'
          obtain ⟨j, hj, rfl⟩ := List.getElem_of_mem hfm
          rcases Nat.lt_trichotomy i j with hij | hij | hij
          · have := hp i j hi hj hij; omega
          · subst hij; rfl
          · have := hp j i hj hi hij; omega
        subst hbe
        unfold flpE
        rw [if_pos rfl]
        refine ⟨by rw [flp_len]; exact h0, .inr ⟨d, z, ty, by rw [flp_len]; exact e1, List.getElem?_set_self (kw e2), e3⟩⟩
      · have he : flpE f.1 a x b' = b' := by unfold flpE; rw [if_neg hbf]
        rw [he]
        refine (h.data b' hb').ag (S := fun n => n = d) (Ag.set rfl) (fun k h1 h2 => ⟨fun e => ?_, h1⟩)
        subst e
        exact hbf (by rw [one_block h2 (by rw [e1]; rfl) fs h.apart hb' hfm])
    · rw [List.filterMap_map]
      have : ((fun f : Ent => dnS f.2.2.1) ∘ flpE f.1 a x) = fun f => dnS f.2.2.1 := funext (fun f' => by simp only [Function.comp]; rw [flpE_3])
      rw [this]; exact h.apart
theorem under_st (nx m c : Nat) (g : Int) (fs : List Ent) (M : List Blk) (F : Nat → Prop) (K : SV → List Blk → Prop) (h : NetSt M F nx m g c fs) (hfl : fs.length ≤ 1048576) (hg1 : g < 4611686018427387900)
    (hK : ∀ (L : List Blk) (xs : List (Int × Int × SV)) (zz : List SV) (cap : Nat) (ty : TypeId), L[1]? = some (.row (flC xs ++ zz) ty) → HoldsB (M ++ L) (vwE fs) xs → K (.sl (M.length + 1) 0 fs.length cap) (M ++ L)) :
    callVC Try.prog 22 [.p nx 0] M K := by
  refine under_ok nx m g fs c 63 M K h.row h.map (fun f hf => (h.data f hf).dataAt) h.stamp h.nodup hfl (fun f hf => by have := h.key f hf; omega) h.sorted (fun L xs zz cap ty hL hH => hK L xs zz cap ty hL (hH.toB (fun f hf => ?_)))
  obtain ⟨f', hf', rfl⟩ := List.mem_map.1 hf
  exact (h.data f' hf').1
/-- what is new alone has changed -/
theorem Ag.ext {S : Nat → Prop} {M M' : List Blk} (h : Ag S M M') (hs : ∀ n, n < M.length → ¬ S n) : ∃ L, M' = M ++ L := by
  refine ⟨M'.drop M.length, ?_⟩
  have e : M'.take M.length = M := by
    apply List.ext_getElem?
    intro i
    rcases Nat.lt_or_ge i M.length with hi | hi
    · rw [List.getElem?_take_of_lt hi]; exact h.2 i hi (hs i hi)
    · rw [List.getElem?_eq_none (by simp; omega), List.getElem?_eq_none hi]
  rw [← e]
  have := h.1
  simp [List.length_take, Nat.min_eq_left this]
theorem dropC_ag {S : Nat → Prop} {M M' : List Blk} {v : SV} {K : SV → List Blk → Prop} (hM : ∀ (n : Nat) (B : Blk), M[n]? = some B → B.lt M.length = true) (hA : Ag S M M') (hs : ∀ n, n < M.length → ¬ S n) (hv : v.lt M.length = true) (hK : K v M) : dropC M.length v M' K := by
  obtain ⟨L, rfl⟩ := hA.ext hs
  exact dropC_append hM hv hK
theorem NetSt.none {M : List Blk} {F : Nat → Prop} {nx m c : Nat} {g : Int} {fs : List Ent} (h : NetSt M F nx m g c fs) {no : Int} (hn : ∀ f, f ∈ fs → f.1 ≠ no) : findE no (fs.map entE) = none := find_no hn
theorem new_st (M : List Blk) (K : SV → List Blk → Prop) (hK : ∀ M' nx m, NetSt M' (fun n => n = nx ∨ n = m) nx m 0 0 [] → M.length ≤ nx → M.length ≤ m → Ag (fun _ => False) M M' → K (.p nx 0) M') :
    callVC Try.prog 10 [] M K := by
  refine new_ok M K (hK _ (M.length + 1) M.length ⟨by simp [go_sem], by simp [go_sem], .inl rfl, .inr rfl, fun n hn => ?_, by decide, by simp, by simp, by simp, by simp, by simp, by simp⟩ (by omega) (by omega) Ag.app)
  simp only [List.length_append, List.length_cons, List.length_nil]
  rcases hn with rfl | rfl <;> omega
theorem under_sa (nx m c : Nat) (g : Int) (fs : List Ent) (M : List Blk) (F : Nat → Prop) (K : SV → List Blk → Prop) (h : NetSt M F nx m g c fs) (hfl : fs.length ≤ 1048576) (hg1 : g < 4611686018427387900)
    (hK : ∀ (M' : List Blk) (q : Nat) (xs : List (Int × Int × SV)) (zz : List SV) (cap : Nat) (ty : TypeId), Ag (fun _ => False) M M' → M.length ≤ q → M'[q]? = some (.row (flC xs ++ zz) ty) → HoldsB M' (vwE fs) xs → K (.sl q 0 fs.length cap) M') :
    callVC Try.prog 22 [.p nx 0] M K :=
  under_st nx m c g fs M F K h hfl hg1 (fun L xs zz cap ty hL hH => hK _ _ xs zz cap ty Ag.app (by omega) (by rw [get_app]; exact hL) hH)
theorem HoldsB.ag {S : Nat → Prop} {M M' : List Blk} {fs : List (Int × Int × List (BitVec 8))} {xs : List (Int × Int × SV)} (h : HoldsB M fs xs) (hA : Ag S M M') (hS : ∀ n, ¬ S n) : HoldsB M' fs xs :=
  ⟨h.1, fun i f x hf hx => by
    obtain ⟨h0, h1 | ⟨n, c, h1, h2⟩⟩ := h.2 i f x hf hx
    · exact ⟨h0, .inl h1⟩
    · exact ⟨h0, .inr ⟨n, c, h1, h2.ag hA (hS n)⟩⟩⟩
end Go.Proofs.Ytccnffjjahdneaa.Eng
