/- Fates. -/
import Derived.Test.YtccnffjjahdneaaOj
namespace Go.Proofs.Ytccnffjjahdneaa.Eng
open Go Go.RowKit
set_option linter.unusedSimpArgs false
set_option linter.unusedVariables false
set_option linter.unusedSimpArgs false
set_option linter.unusedVariables false

theorem one_rfl {d : Nat} {a f : Rfl} (ha : dnS a.2.2.1 = some d) (hf : dnS f.2.2.1 = some d) : ∀ (l : List Rfl), (l.filterMap fun f => dnS f.2.2.1).Nodup → a ∈ l → f ∈ l → a = f
  | [], _, h, _ => by cases h
  | b :: l, hn, h3, h4 => by
    have hn' : (l.filterMap fun f => dnS f.2.2.1).Nodup := by
      rw [List.filterMap_cons] at hn
      cases hb : dnS b.2.2.1 with
      | none => rw [hb] at hn; exact hn
      | some k => rw [hb] at hn; exact (List.nodup_cons.1 hn).2
    rcases List.mem_cons.1 h3 with e3 | g3
    · rcases List.mem_cons.1 h4 with e4 | g4
      · rw [e3, e4]
      · rw [List.filterMap_cons, ← e3, ha] at hn
        exact absurd (List.mem_filterMap.2 ⟨f, g4, hf⟩) (List.nodup_cons.1 hn).1
    · rcases List.mem_cons.1 h4 with e4 | g4
      · rw [List.filterMap_cons, ← e4, hf] at hn
        exact absurd (List.mem_filterMap.2 ⟨a, g3, ha⟩) (List.nodup_cons.1 hn).1
      · exact one_rfl ha hf l hn' g3 g4
/-- what is laid behind a list, be it none or there -/
theorem appB {T : Tab} {M : List Blk} {ts tx e esz eby : Nat} {K : SV → List Blk → Prop} (z0 : List SV) (x : SV) (cs y : List SV) (len m : Nat) {z : SV} (htk : T.k ts = .slice e esz eby) (he0 : 0 < eby) (he1 : 0 < esz)
    (hz : T.z e = some z0) (hx : nonInt (T.k tx) = true) (hlen : cs.length = len * esz) (ho : (x = .sn ∧ len = 0) ∨ ∃ q cap zz ty, x = .sl q 0 len cap ∧ M[q]? = some (.row (cs ++ zz) ty) ∧ len * esz + zz.length = cap * esz ∧ (∀ w, w ∈ zz → w ∈ z0))
    (hsrc : ∀ K : List SV → Nat → Prop, K y m → srcC M esz z K) (hb : (len + m) * eby ≤ 4294967296)
    (hK : ∀ (M' : List Blk) (q' : Nat) (z' : List SV) (ty' : TypeId) (cap' : Nat), Ag (fun n => dnS x = some n) M M' → M.length ≤ q' → M'[q']? = some (.row (cs ++ y ++ z') ty') → (len + m) * esz + z'.length = cap' * esz → (∀ w, w ∈ z' → w ∈ z0) → K (.sl q' 0 (len + m) cap') M') :
    appendC T M ts tx x z K := by
  rcases ho with ⟨rfl, rfl⟩ | ⟨q, cap, zz, ty, rfl, h1, h2, h3⟩
  · obtain rfl : cs = [] := List.length_eq_zero_iff.1 (by omega)
    refine appGn z0 y m htk he0 he1 hz hx hsrc (by simpa using hb) (fun z' ty' cap' h4 h5 => ?_)
    have := hK (M ++ [.row (y ++ z') ty']) M.length z' ty' cap' Ag.app (Nat.le_refl _) (by simp) (by rw [Nat.zero_add]; exact h5) h4
    rwa [Nat.zero_add] at this
  · refine appGm z0 q cs zz y m ty htk he0 he1 hz hx h1 hlen h2 hsrc h3 hb (fun z' ty' cap' h4 h5 => ?_)
    have hql := kw h1
    exact hK _ M.length z' ty' cap' (Ag.trans (S' := fun _ => False) (Ag.set rfl) Ag.app (fun _ _ e => e.elim)) (Nat.le_refl _) (by rw [List.getElem?_append_right (by simp)]; simp) h5 h4
/-- one more flight in the book -/
theorem BookSt.add {M M' : List Blk} {F : Nat → Prop} {x y : SV} {bk : List Rfl} {hs : List Bool} {f : Rfl} (h : BookSt M F x y bk hs) (hA : Ag (fun n => dnS x = some n ∨ dnS y = some n) M M')
    (q cap r rcap d : Nat) (zz rz dz : List SV) (ty rty dty : TypeId) (hq : M'[q]? = some (.row (flC ((bk ++ [f]).map r3) ++ zz) ty)) (hqz : (bk.length + 1) * 3 + zz.length = cap * 3) (hqf : freeW zz)
    (hr : M'[r]? = some (.row ((hs ++ [true]).map .b ++ rz) rty)) (hrz : (hs.length + 1) * 1 + rz.length = rcap * 1) (hrf : ∀ w, w ∈ rz → w ∈ [SV.b false]) (hd : DatR M' (fun n => M.length ≤ n) f.2.2.1 f.2.2.2)
    (hq2 : M.length ≤ q) (hr2 : M.length ≤ r) (hqr : q ≠ r) (hdq : dnS f.2.2.1 ≠ some q) (hdr : dnS f.2.2.1 ≠ some r) (hno : f.1 = (bk.length : Int) + 1) :
    BookSt M' (fun n => F n ∨ (M.length ≤ n ∧ n < M'.length)) (.sl q 0 (bk.length + 1) cap) (.sl r 0 (hs.length + 1) rcap) (bk ++ [f]) (hs ++ [true]) := by
  have hdn : ∀ f', f' ∈ bk → ∀ d, dnS f'.2.2.1 = some d → d < M.length := by
    intro f' hf' d e
    obtain ⟨h0, ⟨e1, _⟩ | ⟨d', z, ty, h1, h2, h3⟩⟩ := h.data f' hf'
    · rw [e1] at e; cases e
    · rw [h1] at e; cases e; exact kw h2
  have hfn : ∀ d, dnS f.2.2.1 = some d → M.length ≤ d ∧ d < M'.length := by
    intro d e
    obtain ⟨h0, ⟨e1, _⟩ | ⟨d', z, ty, h1, h2, h3⟩⟩ := hd
    · rw [e1] at e; cases e
    · rw [h1] at e; cases e; exact ⟨h3, kw h2⟩
  refine ⟨.inr ⟨q, cap, zz, ty, by simp, hq, by simpa using hqz, hqf, .inr ⟨hq2, kw hq⟩⟩, .inr ⟨r, rcap, rz, rty, by simp, hr, by simpa using hrz, hrf, .inr ⟨hr2, kw hr⟩⟩, by simp [h.len], ?_, ?_, ?_, ?_, ?_, ?_⟩
  · intro f' hf'
    rcases List.mem_append.1 hf' with hf' | hf'
    · refine (h.data f' hf').ag hA (fun d h1 h2 => ⟨fun e => ?_, .inl h1⟩)
      have := h.qd f' hf' d h2
      rcases e with e | e
      · exact this.1 e
      · exact this.2 e
    · rw [List.mem_singleton.1 hf']
      obtain ⟨h0, ⟨e1, e2⟩ | ⟨d', z, ty, h1, h2, h3⟩⟩ := hd
      · exact ⟨h0, .inl ⟨e1, e2⟩⟩
      · exact ⟨h0, .inr ⟨d', z, ty, h1, h2, .inr ⟨h3, kw h2⟩⟩⟩
  · rw [List.filterMap_append, List.nodup_append]
    refine ⟨h.one, ?_, ?_⟩
    · cases hh : dnS f.2.2.1 <;> simp [hh]
    · intro a ha b hb
      obtain ⟨f', hf', e1⟩ := List.mem_filterMap.1 ha
      obtain ⟨f'', hf'', e2⟩ := List.mem_filterMap.1 hb
      rw [List.mem_singleton.1 hf''] at e2
      have := hdn f' hf' a e1
      have := hfn b e2
      omega
  · intro f' hf' d e
    rcases List.mem_append.1 hf' with hf' | hf'
    · have := hdn f' hf' d e
      simp only [dnS, ne_eq, Option.some.injEq]
      omega
    · rw [List.mem_singleton.1 hf'] at e
      simp only [dnS, ne_eq, Option.some.injEq]
      exact ⟨fun e2 => hdq (by rw [e, e2]), fun e2 => hdr (by rw [e, e2])⟩
  · intro d e
    simp only [dnS, ne_eq, Option.some.injEq] at e ⊢
    omega
  · intro n e
    rcases e with e | e
    · have := h.inn n e; have := hA.1; omega
    · exact e.2
  · intro i f' hi
    by_cases hib : i < bk.length
    · rw [List.getElem?_append_left hib] at hi
      exact h.num i f' hi
    · have hib2 : i < (bk ++ [f]).length := (List.getElem?_eq_some_iff.1 hi).1
      simp only [List.length_append, List.length_cons, List.length_nil] at hib2
      obtain rfl : i = bk.length := by omega
      rw [List.getElem?_append_right (Nat.le_refl _), Nat.sub_self] at hi
      simp only [List.getElem?_cons_zero, Option.some.injEq] at hi
      rw [← hi, hno]; omega
/-- a flight is gone -/
theorem BookSt.off {M : List Blk} {F : Nat → Prop} {x y : SV} {bk : List Rfl} {hs : List Bool} (h : BookSt M F x y bk hs) {i : Nat} (hi : i < hs.length) :
    ∃ r rcap rz rty, y = .sl r 0 hs.length rcap ∧ M[r]? = some (.row (hs.map .b ++ rz) rty) ∧ hs.length * 1 + rz.length = rcap * 1 ∧ BookSt (M.set r (.row ((hs.map SV.b ++ rz).set i (.b false)) rty)) F x y bk (hs.set i false) ∧ F r := by
  rcases h.her with ⟨_, h0⟩ | ⟨r, rcap, rz, rty, rfl, r1, r2, r3', r4⟩
  · rw [h0] at hi; simp at hi
  refine ⟨r, rcap, rz, rty, rfl, r1, r2, ⟨?_, .inr ⟨r, rcap, rz, rty, by simp, ?_, by simpa using r2, r3', r4⟩, by simpa using h.len, ?_, h.one, h.qd, h.qh, fun n e => by simpa using h.inn n e, h.num⟩, r4⟩
  · rcases h.lst with h1 | ⟨q, cap, zz, ty, h1, h2, h3, h4, h5⟩
    · exact .inl h1
    · refine .inr ⟨q, cap, zz, ty, h1, ?_, h3, h4, h5⟩
      rw [List.getElem?_set_ne (fun e => h.qh q (by rw [h1]; rfl) (by rw [e]; rfl))]
      exact h2
  · rw [List.getElem?_set_self (kw r1), List.map_set, List.set_append_left _ _ (by simpa using hi)]
  · intro f hf
    refine (h.data f hf).ag (S := fun n => n = r) (Ag.set rfl) (fun d h1 h2 => ⟨fun e => ?_, h1⟩)
    exact (h.qd f hf d h2).2 (by rw [e]; rfl)
/-- a byte of the book is turned -/
theorem BookSt.turn {M : List Blk} {F : Nat → Prop} {x y : SV} {bk : List Rfl} {hs : List Bool} (h : BookSt M F x y bk hs) {i : Nat} {f : Rfl} (hi : bk[i]? = some f) {a xx : Int} (ha : 0 ≤ a) (ha2 : a < f.2.2.2.length) :
    ∃ d z ty, f.2.2.1 = .sl d 0 f.2.2.2.length (f.2.2.2.length + z.length) ∧ M[d]? = some (.row (bS (f.2.2.2 ++ z)) ty) ∧ F d ∧ dnS x ≠ some d ∧ dnS y ≠ some d ∧
      ∀ M', M' = M.set d (.row (bS (flp f.2.2.2 a xx ++ z)) ty) → BookSt M' F x y (bk.set i (f.1, f.2.1, f.2.2.1, flp f.2.2.2 a xx)) hs := by
  have hm := List.mem_of_getElem? hi
  obtain ⟨h0, ⟨e1, e2⟩ | ⟨d, z, ty, e1, e2, e3⟩⟩ := h.data f hm
  · rw [e2] at ha2; simp at ha2; omega
  have hq := h.qd f hm d (by rw [e1]; rfl)
  refine ⟨d, z, ty, e1, e2, e3, hq.1, hq.2, ?_⟩
  rintro M' rfl
  have hib : i < bk.length := (List.getElem?_eq_some_iff.1 hi).1
  have hbi : bk[i] = f := (List.getElem?_eq_some_iff.1 hi).2
  have hmem : ∀ g, g ∈ bk.set i (f.1, f.2.1, f.2.2.1, flp f.2.2.2 a xx) → g = (f.1, f.2.1, f.2.2.1, flp f.2.2.2 a xx) ∨ (g ∈ bk ∧ g ≠ f) := by
    intro g hg
    obtain ⟨j, hj⟩ := List.getElem?_of_mem hg
    by_cases hji : j = i
    · subst hji
      rw [List.getElem?_set_self hib] at hj
      left; exact (Option.some.inj hj).symm
    · rw [List.getElem?_set_ne (Ne.symm hji)] at hj
      right
      refine ⟨List.mem_of_getElem? hj, ?_⟩
      rintro rfl
      have := h.num j g hj
      have := h.num i g hi
      omega
  have hmap : ∀ {β : Type} (p : Rfl → β), p (f.1, f.2.1, f.2.2.1, flp f.2.2.2 a xx) = p f → (bk.set i (f.1, f.2.1, f.2.2.1, flp f.2.2.2 a xx)).map p = bk.map p := by
    intro β p hp
    rw [List.map_set, hp, ← hbi, ← List.getElem_map p (h := by simpa using hib), List.set_getElem_self]
  refine ⟨?_, ?_, by simpa using h.len, ?_, ?_, ?_, h.qh, fun n e => by simpa using h.inn n e, ?_⟩
  · rcases h.lst with ⟨h1, h2⟩ | ⟨q, cap, zz, ty2, h1, h2, h3, h4, h5⟩
    · rw [h2] at hi; simp at hi
    · refine .inr ⟨q, cap, zz, ty2, by simpa using h1, ?_, by simpa using h3, h4, h5⟩
      rw [hmap r3 rfl, List.getElem?_set_ne (fun e => hq.1 (by rw [h1, e]; rfl))]
      exact h2
  · rcases h.her with h1 | ⟨q, cap, zz, ty2, h1, h2, h3, h4, h5⟩
    · exact .inl h1
    · refine .inr ⟨q, cap, zz, ty2, h1, ?_, h3, h4, h5⟩
      rw [List.getElem?_set_ne (fun e => hq.2 (by rw [h1, e]; rfl))]
      exact h2
  · intro g hg
    rcases hmem g hg with rfl | ⟨h1, h2⟩
    · exact ⟨by rw [flp_len]; exact h0, .inr ⟨d, z, ty, by rw [flp_len]; exact e1, List.getElem?_set_self (kw e2), e3⟩⟩
    · refine (h.data g h1).ag (S := fun n => n = d) (Ag.set rfl) (fun k k1 k2 => ⟨fun e => ?_, k1⟩)
      subst e
      exact h2 (one_rfl k2 (by rw [e1]; rfl) bk h.one h1 hm)
  · have : (bk.set i (f.1, f.2.1, f.2.2.1, flp f.2.2.2 a xx)).filterMap (fun f => dnS f.2.2.1) = bk.filterMap fun f => dnS f.2.2.1 := by
      have e := hmap (fun f => dnS f.2.2.1) rfl
      have h2 : ∀ l : List Rfl, l.filterMap (fun f => dnS f.2.2.1) = (l.map fun f => dnS f.2.2.1).filterMap id := fun l => by rw [List.filterMap_map]; rfl
      rw [h2, h2, e]
    rw [this]; exact h.one
  · intro g hg k e
    rcases hmem g hg with rfl | ⟨h1, h2⟩
    · exact h.qd f hm k e
    · exact h.qd g h1 k e
  · intro j g hj
    by_cases hji : j = i
    · subst hji
      rw [List.getElem?_set_self hib] at hj
      rw [← Option.some.inj hj]; exact h.num j f hi
    · rw [List.getElem?_set_ne (Ne.symm hji)] at hj
      exact h.num j g hj
/-- how the statement stands between two steps -/
structure FatSt (m0 : Nat) (M : List Blk) (F Fb : Nat → Prop) (nx m c : Nat) (fs : List Ent) (bk : List Rfl) (hs : List Bool) (x y : SV) : Prop where
  net : NetSt M F nx m bk.length c fs
  book : BookSt M Fb x y bk hs
  view : vwE fs = sel bk hs
  apart : ∀ n, Fb n → ¬ F n
  newF : ∀ n, F n → m0 ≤ n
  newB : ∀ n, Fb n → m0 ≤ n
theorem sel_len : ∀ (bk : List Rfl) (hs : List Bool), (sel bk hs).length ≤ bk.length
  | [], _ => by simp [sel]
  | _ :: _, [] => by simp [sel]
  | f :: bk, b :: hs => by
    have := sel_len bk hs
    cases b <;> simp [sel] <;> omega
theorem FatSt.fl {m0 : Nat} {M : List Blk} {F Fb : Nat → Prop} {nx m c : Nat} {fs : List Ent} {bk : List Rfl} {hs : List Bool} {x y : SV} (h : FatSt m0 M F Fb nx m c fs bk hs x y) : fs.length ≤ bk.length := by
  have := sel_len bk hs
  rw [← h.view, vwE_len] at this
  exact this
theorem FatSt.ag {m0 : Nat} {M M' : List Blk} {F Fb : Nat → Prop} {nx m c : Nat} {fs : List Ent} {bk : List Rfl} {hs : List Bool} {x y : SV} (h : FatSt m0 M F Fb nx m c fs bk hs x y) (hA : Ag (fun _ => False) M M') : FatSt m0 M' F Fb nx m c fs bk hs x y :=
  ⟨h.net.ag hA (fun _ _ e => e), h.book.ag hA (fun _ _ e => e), h.view, h.apart, h.newF, h.newB⟩
theorem BookSt.own {M : List Blk} {F : Nat → Prop} {x y : SV} {bk : List Rfl} {hs : List Bool} (h : BookSt M F x y bk hs) {n : Nat} (e : dnS x = some n ∨ dnS y = some n) : F n := by
  rcases e with e | e
  · rcases h.lst with ⟨rfl, _⟩ | ⟨q, cap, zz, ty, rfl, h2, h3, h4, h5⟩
    · cases e
    · cases e; exact h5
  · rcases h.her with ⟨rfl, _⟩ | ⟨q, cap, zz, ty, rfl, h2, h3, h4, h5⟩
    · cases e
    · cases e; exact h5
theorem BookSt.lo {M : List Blk} {F : Nat → Prop} {x y : SV} {bk : List Rfl} {hs : List Bool} (h : BookSt M F x y bk hs) (L : List Blk) :
    (x = .sn ∧ bk.length = 0) ∨ ∃ q cap zz ty, x = .sl q 0 bk.length cap ∧ (M ++ L)[q]? = some (.row (flC (bk.map r3) ++ zz) ty) ∧ bk.length * 3 + zz.length = cap * 3 ∧ (∀ w, w ∈ zz → w ∈ [SV.i .i64 0, .i .i64 0, .sn]) := by
  rcases h.lst with ⟨h1, h2⟩ | ⟨q, cap, zz, ty, h1, h2, h3, h4, h5⟩
  · exact .inl ⟨h1, by rw [h2]; rfl⟩
  · refine .inr ⟨q, cap, zz, ty, h1, by rw [get_lt (kw h2)]; exact h2, h3, fun w hw => ?_⟩
    have := h4 w hw
    simp only [List.mem_cons, List.mem_nil_iff, or_false] at this ⊢
    rcases this with h | h
    · exact .inl h
    · exact .inr (.inr h)
theorem BookSt.ho {M M' : List Blk} {F : Nat → Prop} {x y : SV} {bk : List Rfl} {hs : List Bool} (h : BookSt M F x y bk hs) (hA : Ag (fun n => dnS x = some n) M M') (L : List Blk) :
    (y = .sn ∧ hs.length = 0) ∨ ∃ q cap zz ty, y = .sl q 0 hs.length cap ∧ (M' ++ L)[q]? = some (.row (hs.map .b ++ zz) ty) ∧ hs.length * 1 + zz.length = cap * 1 ∧ (∀ w, w ∈ zz → w ∈ [SV.b false]) := by
  rcases h.her with ⟨h1, h2⟩ | ⟨q, cap, zz, ty, h1, h2, h3, h4, h5⟩
  · exact .inl ⟨h1, by rw [h2]; rfl⟩
  · have := hA.get h2 (fun e => h.qh q e (by rw [h1]; rfl))
    exact .inr ⟨q, cap, zz, ty, h1, by rw [get_lt (kw this)]; exact this, h3, h4⟩
theorem FatSt.add {m0 : Nat} {M M5 M7 : List Blk} {F F5 Fb : Nat → Prop} {nx m c c' : Nat} {fs : List Ent} {bk : List Rfl} {hs : List Bool} {x y : SV} (h : FatSt m0 M F Fb nx m c fs bk hs x y) (hm0 : m0 ≤ M.length) {to : Int} {x' xb : SV} {l : List (BitVec 8)} {st : Nat}
    (h5 : NetSt M5 F5 nx m (bk.length + 1) c' (fs ++ [((bk.length : Int) + 1, to, x', l, st)])) (hF5 : ∀ n, F5 n → F n ∨ M.length ≤ n) (hA5 : Ag F M M5) (hA7 : Ag (fun n => dnS x = some n ∨ dnS y = some n) M5 M7)
    (q cap r rcap : Nat) (zz rz : List SV) (ty rty : TypeId) (hq : M7[q]? = some (.row (flC (bk.map r3) ++ [.i .i64 ((bk.length : Int) + 1), .i .i64 to, xb] ++ zz) ty)) (hqz : (bk.length + 1) * 3 + zz.length = cap * 3) (hqf : ∀ w, w ∈ zz → w ∈ [SV.i .i64 0, .i .i64 0, .sn])
    (hr : M7[r]? = some (.row (hs.map .b ++ [.b true] ++ rz) rty)) (hrz : (hs.length + 1) * 1 + rz.length = rcap * 1) (hrf : ∀ w, w ∈ rz → w ∈ [SV.b false]) (hd : DatR M7 (fun n => M5.length ≤ n) xb l)
    (hq2 : M5.length ≤ q) (hr2 : M5.length ≤ r) (hqr : q ≠ r) (hdq : dnS xb ≠ some q) (hdr : dnS xb ≠ some r) :
    FatSt m0 M7 F5 (fun n => Fb n ∨ (M5.length ≤ n ∧ n < M7.length)) nx m c' (fs ++ [((bk.length : Int) + 1, to, x', l, st)]) (bk ++ [((bk.length : Int) + 1, to, xb, l)]) (hs ++ [true]) (.sl q 0 (bk.length + 1) cap) (.sl r 0 (hs.length + 1) rcap) := by
  have hb5 := h.book.ag hA5 (fun n e e2 => h.apart n e e2)
  have hin := h.book.inn
  have hsep : ∀ n, F5 n → ¬ (dnS x = some n ∨ dnS y = some n) := by
    intro n e e2
    have e3 := h.book.own e2
    rcases hF5 n e with e4 | e4
    · exact h.apart n e3 e4
    · have := hin n e3; omega
  have h7 := h5.ag hA7 hsep
  have m5 := hA5.1
  have hqf' : freeW zz := fun w hw => by
    have := hqf w hw
    simp only [List.mem_cons, List.mem_nil_iff, or_false] at this ⊢
    rcases this with h | h | h
    · exact .inl h
    · exact .inl h
    · exact .inr h
  refine ⟨by simpa using h7, hb5.add (f := ((bk.length : Int) + 1, to, xb, l)) hA7 q cap r rcap 0 zz rz [] ty rty 0 ?_ hqz hqf' ?_ hrz hrf hd hq2 hr2 hqr hdq hdr rfl, ?_, ?_, ?_, ?_⟩
  · rw [hq, List.map_append, flC_app]; simp [flC, r3]
  · rw [hr, List.map_append]; simp
  · have := sel_snoc (bk := bk) (hs := hs) (f := ((bk.length : Int) + 1, to, xb, l)) h.book.len
    rw [this, ← h.view]
    simp [vwE, vw1]
  · intro n e e2
    rcases e with e | e
    · rcases hF5 n e2 with e4 | e4
      · exact h.apart n e e4
      · have := hin n e; omega
    · have := h5.inn n e2; omega
  · intro n e
    rcases hF5 n e with e4 | e4
    · exact h.newF n e4
    · omega
  · intro n e
    rcases e with e | e
    · exact h.newB n e
    · omega
/-- a byte of a flight has been turned here and there -/
theorem FatSt.turn {m0 : Nat} {M M2 : List Blk} {F Fb : Nat → Prop} {nx m c : Nat} {fs : List Ent} {bk : List Rfl} {hs : List Bool} {x y : SV} (h : FatSt m0 M F Fb nx m c fs bk hs x y) {i : Nat} {f : Rfl} (hi : bk[i]? = some f) {no a xx : Int} (hno : no = (i : Int) + 1)
    (hn : NetSt M2 F nx m bk.length c (fs.map (flpE no a xx))) (hb : BookSt M2 Fb x y (bk.set i (f.1, f.2.1, f.2.2.1, flp f.2.2.2 a xx)) hs) :
    FatSt m0 M2 F Fb nx m c (fs.map (flpE no a xx)) (bk.set i (f.1, f.2.1, f.2.2.1, flp f.2.2.2 a xx)) hs x y := by
  refine ⟨by simpa using hn, hb, ?_, h.apart, h.newF, h.newB⟩
  have := sel_flip (bk := bk) (hs := hs) (o := 0) (i := i) (f := f) (x' := f.2.2.1) (a := a) (x := xx) (fun j f hj => h.book.num j f hj) hi
  rw [this, vwE_flip, h.view, hno]
  have e : ((0 + i + 1 : Nat) : Int) = (i : Int) + 1 := by omega
  rw [e]
/-- a flight has gone -/
theorem FatSt.gone {m0 : Nat} {M M2 : List Blk} {F F2 Fb : Nat → Prop} {nx m c : Nat} {fs : List Ent} {bk : List Rfl} {hs : List Bool} {x y : SV} (h : FatSt m0 M F Fb nx m c fs bk hs x y) {i : Nat} (hi : i < hs.length) {no : Int} (hno : no = (i : Int) + 1)
    (hn : NetSt M2 F2 nx m bk.length c (fs.filter fun e => e.1 != no)) (hF : ∀ n, F2 n → F n) (hb : BookSt M2 Fb x y bk (hs.set i false)) :
    FatSt m0 M2 F2 Fb nx m c (fs.filter fun e => e.1 != no) bk (hs.set i false) x y := by
  refine ⟨hn, hb, ?_, fun n e e2 => h.apart n e (hF n e2), fun n e => h.newF n (hF n e), h.newB⟩
  have := sel_off (bk := bk) (hs := hs) (o := 0) (i := i) (fun j f hj => h.book.num j f hj) h.book.len hi
  rw [this, vwE_filter, h.view, hno]
  have e : ((0 + i + 1 : Nat) : Int) = (i : Int) + 1 := by omega
  rw [e]
end Go.Proofs.Ytccnffjjahdneaa.Eng
