/- The program's fold: a change done. -/
import Derived.Test.YtdcplcfedcmcmaaE5
namespace Go.Proofs.Ytdcplcfedcmcmaa.Eng
open Go Go.RowKit
set_option linter.unusedSimpArgs false
set_option linter.unusedVariables false

theorem PrsF.row {M : List Blk} {c : Nat → Nat} {x : SV} {ps : List Pr} {i : Nat} {p : Pr} (h : PrsF M c x ps) (hi : ps[i]? = some p) :
    ∃ (n cap : Nat) (zz : List SV) (ty : TypeId) (es : List (Pr × SV × SV)) (e0 : Pr × SV × SV), x = .sl n 0 es.length cap ∧ M[n]? = some (.row ((es.map prC).flatten ++ zz) ty) ∧ es.map (·.1) = ps ∧ es[i]? = some e0 ∧ e0.1 = p ∧ c n = 2 ∧ (∀ e ∈ es, PrF M c e) ∧ es.length * 3 + zz.length = cap * 3 ∧ es.length ≤ 1000000 ∧ (∀ c ∈ es.map prC, c.length = 3 ∧ c.all SV.one = true) := by
  obtain ⟨es, he1, ⟨h0, h1, h2⟩, he3, he4⟩ := h
  have hlen : es.length = ps.length := by rw [← he1, List.length_map]
  have hil := (List.getElem?_eq_some_iff.1 hi).1
  obtain ⟨e0, hei⟩ : ∃ e, es[i]? = some e := ⟨_, List.getElem?_eq_getElem (by omega)⟩
  have he0 : e0.1 = p := by
    have : (es.map (·.1))[i]? = some e0.1 := by rw [List.getElem?_map, hei]; rfl
    rw [he1, hi] at this; cases this; rfl
  rw [List.length_map] at h0
  rcases h2 with ⟨rfl, h2⟩ | ⟨n, cap, zz, ty, rfl, h2, h3⟩
  · rw [List.map_eq_nil_iff] at h2
    rw [h2] at hlen
    simp only [List.length_nil] at hlen
    omega
  · rw [List.length_map] at h3
    exact ⟨n, cap, zz, ty, es, e0, by rw [List.length_map], h2, he1, hei, he0, he3 n rfl, he4, h3, h0, h1⟩
/-- the i-th peer is another -/
theorem PrsF.upd {M' : List Blk} {c' : Nat → Nat} {ps : List Pr} {i n cap : Nat} {p : Pr} {zz : List SV} {ty : TypeId} {es : List (Pr × SV × SV)} {e0 e1 : Pr × SV × SV} {s : St} (hs : s.Right) (he1 : es.map (·.1) = s.ps) (hei : es[i]? = some e0) (h3 : es.length * 3 + zz.length = cap * 3) (h0 : es.length ≤ 1000000) (h1 : ∀ c ∈ es.map prC, c.length = 3 ∧ c.all SV.one = true)
    (hrow : M'[n]? = some (.row (((es.set i e1).map prC).flatten ++ zz) ty)) (hn : c' n = 2) (hnew : PrF M' c' e1) (hoth : ∀ e ∈ es, e.1.link ≠ e0.1.link → PrF M' c' e) : PrsF M' c' (.sl n 0 es.length cap) (s.ps.set i e1.1) := by
  have o1 := hnew.key.one
  have o2 := hnew.pfx.one
  refine ⟨es.set i e1, by rw [List.map_set, he1], ⟨by rw [List.length_map, List.length_set]; exact h0, fun c hc => ?_, .inr ⟨n, cap, zz, ty, by rw [List.length_map, List.length_set], hrow, by rw [List.length_map, List.length_set]; exact h3⟩⟩, fun d e => by cases e; exact hn, fun e he => ?_⟩
  · rw [List.map_set] at hc
    rcases List.mem_or_eq_of_mem_set hc with g | rfl
    · exact h1 c g
    · exact ⟨rfl, by simp [prC, o1, o2, one_i64]⟩
  · obtain ⟨j, hj⟩ := List.getElem?_of_mem he
    rw [List.getElem?_set] at hj
    split at hj
    · split at hj
      · cases hj; exact hnew
      · cases hj
    · rename_i hne
      refine hoth e (List.mem_of_getElem? hj) ?_
      have q1 : s.ps[j]? = some e.1 := by rw [← he1, List.getElem?_map, hj]; rfl
      have q2 : s.ps[i]? = some e0.1 := by rw [← he1, List.getElem?_map, hei]; rfl
      rcases Nat.lt_trichotomy i j with g | g | g
      · have := pw_lb hs.pord q2 q1 g; omega
      · exact absurd g hne
      · have := pw_lb hs.pord q1 q2 g; omega
set_option maxHeartbeats 1000000 in
theorem fdo1_ok (col : Nat → Nat) (f : Nat) (xp xl : SV) (s : St) (c : Ch × SV) (M : List Blk) (K : SV → List Blk → Prop) (hf : M[f]? = some (.row [xp, xl] 63)) (hP : PrsF M col xp s.ps) (hL : LnsF M col xl s.ls) (hc : ChE M (fun n => col n = 0) c) (hs : s.Right) (hfc : col f = 1) (h0 : s.fault c.1 = 0) (hk : c.1.kind = 1) (hpeer : s.peer c.1.link = none)
    (hK : ∀ v M' col' xp' xl', (∀ n, n < M.length → col' n = col n) → M'[f]? = some (.row [xp', xl'] 63) → PrsF M' col' xp' (s.done c.1).ps → LnsF M' col' xl' (s.done c.1).ls → Ag (fun n => col n ≠ 0) M M' → K v M') :
    callVC Try.prog 17 [.p f 0, .agg (chC c)] M K := by
  obtain ⟨c, xk⟩ := c
  obtain ⟨kind, link, side, key, pfx⟩ := c
  simp only at hk hpeer
  subst hk
  have o2 := hc.key.one
  have o1 := hP.prs.one
  have o3 := hL.lns.one
  have hnp := hs.np
  have hwf := kw hf
  have hff := fault_facts hs h0
  simp only at o2 hff
  have hc0 := hc
  rw [chC_eq]
  simp only
  refine fn_rule tabOK Try.func17 rfl Try.call17 (by kernel_rfl) (fun hM => ?_)
  (refine top_in ?_; simp -implicitDefEqProofs only [Try.ntmps17, Try.results17, go_sem, -List.reduceReplicate, ↓L_gdZ_tt, ↓L_gdZ_tf, ↓L_gdZ_ft, ↓L_gdZ_ff, ↓T_and, ↓T_imp, ↓T_all, o2]; try simp only [top_out])
  refine fpeer_ok _ f xp xl link s _ _ ((get_lt hwf).trans hf) hP.prs.app hs (by omega) (fun i hi => ?_)
  (refine top_in ?_; simp -implicitDefEqProofs only [go_sem, -List.reduceReplicate, ↓L_gdZ_tt, ↓L_gdZ_tf, ↓L_gdZ_ft, ↓L_gdZ_ff, ↓T_and, ↓T_imp, ↓T_all, Int.reduceBEq]; try simp only [top_out])
  refine draw_rule tabOK (by kernel_rfl : _) (.p 0 (.p 1 (.p 2 (.p 3 (.p 4 (.p 5 (.p 6 (.p 7 (.p 8 (.p 9 (.e 10 [2, 3, 4, 6, 7] (.p 11 (.e 12 [2, 3, 4] (.e 13 [] (.p 14 (.p 15 (.e 16 [] .nil .no))) .no) .no)) .no))))))))))) (by kernel_rfl) (by kernel_rfl) ?_
  (refine top_in ?_; simp -implicitDefEqProofs only [go_sem, -List.reduceReplicate, ↓L_gdZ_tt, ↓L_gdZ_tf, ↓L_gdZ_ft, ↓L_gdZ_ff, ↓T_and, ↓T_imp, ↓T_all, get_lt hwf, hf, o1, o2, o3]; try simp only [top_out])
  refine clone_byt _ _ _ _ hc.key.app (fun M1 y b1 n1 A1 => ?_)
  have c0 := A1.at0 noS rfl
  have c1 := A1.get ((get_lt hwf).trans hf) (fun e => e)
  have m1 := A1.1
  simp only [List.length_append, List.length_cons, List.length_nil] at m1 n1
  have o4 := b1.one
  (refine top_in ?_; simp -implicitDefEqProofs only [go_sem, -List.reduceReplicate, ↓L_gdZ_tt, ↓L_gdZ_tf, ↓L_gdZ_ft, ↓L_gdZ_ff, ↓T_and, ↓T_imp, ↓T_all, c0, c1, get_lt (kw c1), get_lt (kw c0), o1, o2, o3, o4, cellsS_one o4]; try simp only [top_out])
  refine ⟨by decide, ?_⟩
  obtain ⟨es, he1, he2, he3, he4⟩ := hP
  have hlen : es.length = s.ps.length := by rw [← he1, List.length_map]
  have hA0 : Ag (fun _ => False) M M1 := Ag.app.then A1
  have hxn : ∀ d, dnS xp = some d → d < M.length := fun d e => he2.dn d e
  refine insPr_ok xp (es.map prC) i M1.length (prC (⟨link, key, []⟩, y, .sn)) 55 _ _ (he2.ag (hA0.then Ag.app) (fun _ _ e => e)) (by rw [List.length_map, hlen]; exact hi.1) (by rw [List.length_map]; omega) (by rw [get_app0]; rfl) ⟨rfl, by simp [prC, o4, one_i64, one_sn]⟩ (fun e => by have := hxn _ e; omega) (fun M2 xp' w1 w2 A2 => ?_)
  have c2 := A2.get ((get_lt (kw c1)).trans c1) (fun e => by have := he3 _ e; omega)
  have d0 := A2.get ((get_lt (kw c0)).trans c0) (fun e => by have := hxn _ e; omega)
  have m2 := A2.1
  have o5 := w1.one
  simp only [List.length_append, List.length_cons, List.length_nil] at m2 w2
  have hf1 : ∀ B, (M2.set f B)[M.length]? = M2[M.length]? := fun B => List.getElem?_set_ne (by omega)
  (refine top_in ?_; simp -implicitDefEqProofs only [go_sem, -List.reduceReplicate, ↓L_gdZ_tt, ↓L_gdZ_tf, ↓L_gdZ_ft, ↓L_gdZ_ff, ↓T_and, ↓T_imp, ↓T_all, c2, d0, hf1, o2, o5, cellsS_one o5]; try simp only [top_out])
  have hT : Ag (fun n => n = f ∨ col n = 2) M (M2.set f (.row [xp', xl] 63)) := (((hA0.then Ag.app).mono (fun _ e => e.elim)).then (A2.mono (fun n e => .inr (he3 n e)))).then (Ag.set (.inl rfl))
  have hcl : ∀ n, n < M.length → colN (colN col M.length 4) M1.length 2 n = col n := fun n h => by rw [colN_lt (by omega), colN_lt h]
  have hSf : Ag (fun n => n = f) M2 (M2.set f (.row [xp', xl] 63)) := Ag.set rfl
  have hrow : (M2.set f (.row [xp', xl] 63))[f]? = some (.row [xp', xl] 63) := List.getElem?_set_self (by omega)
  have hins : insAt s.ps (s.ps.findIdx fun p => decide (link < p.link)) ⟨link, key, []⟩ = (insAt es i (⟨link, key, []⟩, y, SV.sn)).map (·.1) := by rw [map_insAt, he1, hi.ins hs hpeer]
  have hP2 : PrsF (M2.set f (.row [xp', xl] 63)) (colN (colN col M.length 4) M1.length 2) xp' (insAt s.ps (s.ps.findIdx fun p => decide (link < p.link)) ⟨link, key, []⟩) := by
    refine ⟨insAt es i (⟨link, key, []⟩, y, .sn), hins.symm, ?_, fun d e => ?_, fun e he => ?_⟩
    · rw [map_insAt]
      exact w1.ag hSf (fun d e h => by
        rcases w2 d e with g | g
        · have := he3 d g; rw [h, hfc] at this; omega
        · omega)
    · rcases w2 d e with g | g
      · exact (hcl d (hxn d g)).trans (he3 d g)
      · exact colN_ge (by omega)
    · rcases mem_insAt.1 he with rfl | he
      · exact ⟨((b1.app).ag A2 (fun d e h => by have := hxn d h; have := n1 d e; omega)).ag hSf (fun d e h => by have := n1 d e; omega), fun d e => (colN_lt (b1.dn d e)).trans (colN_ge (by have := n1 d e; omega)), Own.sn, NmG.sn⟩
      · exact (he4 e he).ag hT hcl (fun n hn h g => by
          rcases g with g | g
          · rw [g, hfc] at h; omega
          · omega)
  have hL2 : LnsF (M2.set f (.row [xp', xl] 63)) (colN (colN col M.length 4) M1.length 2) xl s.ls := hL.ag hT hcl (fun n hn h g => by
    rcases g with g | g
    · rw [g, hfc] at h; omega
    · omega)
  have hc2 : ChE (M2.set f (.row [xp', xl] 63)) (fun n => colN (colN col M.length 4) M1.length 2 n = 0) (⟨1, link, side, key, pfx⟩, xk) :=
    ⟨hc.key.ag hT (fun d e h => by
      have h1 := hc.kg d e
      rcases h with h | h
      · rw [h, hfc] at h1; omega
      · omega), fun d e => (hcl d (hc.key.dn d e)).trans (hc.kg d e)⟩
  refine fgive_ok _ f xp' xl s (⟨1, link, side, key, pfx⟩, xk) _ _ hrow o5 hL2 hc2 hs ((hcl f hwf).trans hfc) (fun v M3 col3 xl' hcol3 hrow3 hL3 A3 => ?_)
  have m3 := A3.1
  rw [List.length_set] at m3
  (refine top_in ?_; simp -implicitDefEqProofs only [go_sem, -List.reduceReplicate, ↓L_gdZ_tt, ↓L_gdZ_tf, ↓L_gdZ_ft, ↓L_gdZ_ff, ↓T_and, ↓T_imp, ↓T_all]; try simp only [top_out])
  have hd : s.done ⟨1, link, side, key, pfx⟩ = ⟨insAt s.ps (s.ps.findIdx fun p => decide (link < p.link)) ⟨link, key, []⟩, s.give ⟨1, link, side, key, pfx⟩⟩ := by unfold St.done; rw [if_pos rfl]
  rw [hd] at hK
  have hlt2 : ∀ n, n < M.length → n < (M2.set f (.row [xp', xl] 63)).length := fun n h => by rw [List.length_set]; omega
  refine dropC_all (by omega) (hK _ M3 col3 xp' xl' (fun n h => (hcol3 n (hlt2 n h)).trans (hcl n h)) hrow3 (hP2.ag A3 hcol3 (fun n hn h g => ?_)) hL3 ((hT.mono (fun n g => ?_)).then (A3.mono_lt (fun n hn g => ?_))))
  · have hf2 := (hcl f hwf).trans hfc
    rcases g with g | g
    · rw [g, hf2] at h; omega
    · omega
  · rcases g with g | g
    · rw [g, hfc]; decide
    · omega
  · rcases g with g | g
    · rw [g, hfc]; decide
    · rcases Nat.lt_or_ge n M.length with q | q
      · rw [hcl n q] at g; omega
      · exfalso
        rcases Nat.lt_or_ge n M1.length with q1 | q1
        · rw [colN_lt q1, colN_ge q] at g; omega
        · rw [colN_ge q1] at g; omega
set_option maxHeartbeats 1000000 in
theorem fdo2_ok
  (col : Nat → Nat) (f : Nat) (xp xl : SV) (s : St) (c : Ch × SV) (M : List Blk) (K : SV → List Blk → Prop) (hf : M[f]? = some (.row [xp, xl] 63)) (hP : PrsF M col xp s.ps) (hL : LnsF M col xl s.ls) (hc : ChE M (fun n => col n = 0) c) (hs : s.Right) (hfc : col f = 1) (h0 : s.fault c.1 = 0) (hk : c.1.kind = 2) {i0 : Nat} (hpeer : s.peer c.1.link = some i0)
  (hK : ∀ v M' col' xp' xl', (∀ n, n < M.length → col' n = col n) → M'[f]? = some (.row [xp', xl'] 63) → PrsF M' col' xp' (s.done c.1).ps → LnsF M' col' xl' (s.done c.1).ls → Ag (fun n => col n ≠ 0) M M' → K v M') :
  callVC Try.prog 17 [.p f 0, .agg (chC c)] M K
  := by
  obtain ⟨c, xk⟩ := c
  obtain ⟨kind, link, side, key, pfx⟩ := c
  simp only at hk hpeer
  subst hk
  have o2 := hc.key.one
  have o1 := hP.prs.one
  have o3 := hL.lns.one
  have hnp := hs.np
  have hwf := kw hf
  have hff := fault_facts hs h0
  simp only at o2 hff
  have hc0 := hc
  rw [chC_eq]
  simp only
  refine fn_rule tabOK Try.func17 rfl Try.call17 (by kernel_rfl) (fun hM => ?_)
  (refine top_in ?_; simp -implicitDefEqProofs only [Try.ntmps17, Try.results17, go_sem, -List.reduceReplicate, ↓L_gdZ_tt, ↓L_gdZ_tf, ↓L_gdZ_ft, ↓L_gdZ_ff, ↓T_and, ↓T_imp, ↓T_all, o2]; try simp only [top_out])
  refine fpeer_ok _ f xp xl link s _ _ ((get_lt hwf).trans hf) hP.prs.app hs (by omega) (fun i hi => ?_)
  (refine top_in ?_; simp -implicitDefEqProofs only [go_sem, -List.reduceReplicate, ↓L_gdZ_tt, ↓L_gdZ_tf, ↓L_gdZ_ft, ↓L_gdZ_ff, ↓T_and, ↓T_imp, ↓T_all, Int.reduceBEq]; try simp only [top_out])
  obtain rfl := hi.eq hs hpeer
  have hd : s.done ⟨2, link, side, key, pfx⟩ = ⟨s.ps.take i ++ s.ps.drop (i + 1), s.ls⟩ := by unfold St.done; rw [if_neg (show ¬ (2 : Int) = 1 by decide), if_pos rfl, pr_filter i hs hpeer]
  rw [hd] at hK
  obtain ⟨p, hpi, hpl⟩ := (St.peer_some hs).1 hpeer
  have hil := (List.getElem?_eq_some_iff.1 hpi).1
  have wi : IntKind.i64.wrap ((i : Int) + 1) = (i : Int) + 1 := w64 (by omega) (by omega)
  obtain ⟨es, he1, he2, he3, he4⟩ := hP
  have hlen : es.length = s.ps.length := by rw [← he1, List.length_map]
  (refine top_in ?_; simp -implicitDefEqProofs only [go_sem, -List.reduceReplicate, ↓L_gdZ_tt, ↓L_gdZ_tf, ↓L_gdZ_ft, ↓L_gdZ_ff, ↓T_and, ↓T_imp, ↓T_all, get_lt hwf, hf, o1, o2, o3, wi]; try simp only [top_out])
  refine delPr_ok xp (es.map prC) i _ _ he2.app (by rw [List.length_map]; omega) (by rw [List.length_map]; omega) (fun M2 xp' w1 w2 A2 => ?_)
  have c2 := A2.get ((get_lt hwf).trans hf) (fun e => by have := he3 _ e; omega)
  have m2 := A2.1
  have o5 := w1.one
  simp only [List.length_append, List.length_cons, List.length_nil] at m2
  (refine top_in ?_; simp -implicitDefEqProofs only [go_sem, -List.reduceReplicate, ↓L_gdZ_tt, ↓L_gdZ_tf, ↓L_gdZ_ft, ↓L_gdZ_ff, ↓T_and, ↓T_imp, ↓T_all, c2, o5, cellsS_one o5]; try simp only [top_out])
  have hT : Ag (fun n => n = f ∨ col n = 2) M (M2.set f (.row [xp', xl] 63)) := ((Ag.app (S := fun n => n = f ∨ col n = 2)).then (A2.mono (fun n e => .inr (he3 n e)))).then (Ag.set (.inl rfl))
  have hSf : Ag (fun n => n = f) M2 (M2.set f (.row [xp', xl] 63)) := Ag.set rfl
  have hST : ∀ n, col n = 3 ∨ 4 ≤ col n → ¬ (n = f ∨ col n = 2) := fun n h g => by
    rcases g with g | g
    · rw [g, hfc] at h; omega
    · omega
  refine dropC_all (by simp; omega) (hK _ _ col xp' xl (fun _ _ => rfl) (List.getElem?_set_self (by omega)) ⟨es.take i ++ es.drop (i + 1), ?_, ?_, fun d e => he3 d (by rw [← w2]; exact e), fun e he => ?_⟩ (hL.ag hT (fun _ _ => rfl) (fun n _ h => hST n (by omega))) (hT.mono (fun n g => ?_)))
  · rw [List.map_append, List.map_take, List.map_drop, he1]
  · rw [List.map_append, List.map_take, List.map_drop]
    exact w1.ag hSf (fun d e h => by have := he3 d (by rw [← w2]; exact e); rw [h, hfc] at this; omega)
  · have hm : e ∈ es := by
      rcases List.mem_append.1 he with g | g
      · exact List.mem_of_mem_take g
      · exact List.mem_of_mem_drop g
    exact (he4 e hm).ag hT (fun _ _ => rfl) (fun n _ h => hST n (by omega))
  · rcases g with g | g
    · rw [g, hfc]; decide
    · omega
set_option maxHeartbeats 1000000 in
theorem fdo3_ok
  (col : Nat → Nat) (f : Nat) (xp xl : SV) (s : St) (c : Ch × SV) (M : List Blk) (K : SV → List Blk → Prop) (hf : M[f]? = some (.row [xp, xl] 63)) (hP : PrsF M col xp s.ps) (hL : LnsF M col xl s.ls) (hc : ChE M (fun n => col n = 0) c) (hs : s.Right) (hfc : col f = 1) (h0 : s.fault c.1 = 0) (hk : c.1.kind = 3) {i0 : Nat} (hpeer : s.peer c.1.link = some i0)
  (hK : ∀ v M' col' xp' xl', (∀ n, n < M.length → col' n = col n) → M'[f]? = some (.row [xp', xl'] 63) → PrsF M' col' xp' (s.done c.1).ps → LnsF M' col' xl' (s.done c.1).ls → Ag (fun n => col n ≠ 0) M M' → K v M') :
  callVC Try.prog 17 [.p f 0, .agg (chC c)] M K
  := by
  obtain ⟨c, xk⟩ := c
  obtain ⟨kind, link, side, key, pfx⟩ := c
  simp only at hk hpeer
  subst hk
  have o2 := hc.key.one
  have o1 := hP.prs.one
  have o3 := hL.lns.one
  have hnp := hs.np
  have hwf := kw hf
  have hff := fault_facts hs h0
  simp only at o2 hff
  have hc0 := hc
  rw [chC_eq]
  simp only
  refine fn_rule tabOK Try.func17 rfl Try.call17 (by kernel_rfl) (fun hM => ?_)
  (refine top_in ?_; simp -implicitDefEqProofs only [Try.ntmps17, Try.results17, go_sem, -List.reduceReplicate, ↓L_gdZ_tt, ↓L_gdZ_tf, ↓L_gdZ_ft, ↓L_gdZ_ff, ↓T_and, ↓T_imp, ↓T_all, o2]; try simp only [top_out])
  refine fpeer_ok _ f xp xl link s _ _ ((get_lt hwf).trans hf) hP.prs.app hs (by omega) (fun i hi => ?_)
  (refine top_in ?_; simp -implicitDefEqProofs only [go_sem, -List.reduceReplicate, ↓L_gdZ_tt, ↓L_gdZ_tf, ↓L_gdZ_ft, ↓L_gdZ_ff, ↓T_and, ↓T_imp, ↓T_all, Int.reduceBEq]; try simp only [top_out])
  obtain rfl := hi.eq hs hpeer
  obtain ⟨p, hpi, hpl, hmap⟩ := pr_map (f := fun p => { p with key := key }) i hs hpeer
  have hd : s.done ⟨3, link, side, key, pfx⟩ = ⟨s.ps.set i { p with key := key }, s.give ⟨3, link, side, key, pfx⟩⟩ := by unfold St.done; rw [if_neg (show ¬ (3 : Int) = 1 by decide), if_neg (show ¬ (3 : Int) = 2 by decide), if_pos rfl]; simp only; rw [hmap]
  rw [hd] at hK
  have hP0 := hP
  obtain ⟨n, cap, zz, ty, es, e0, rfl, h2, he1, hei, he0, hn2, he4, h3, h00, h1⟩ := hP.row hpi
  have hlen : es.length = s.ps.length := by rw [← he1, List.length_map]
  have hil := (List.getElem?_eq_some_iff.1 hpi).1
  have hln := kw h2
  have hnf : f ≠ n := fun e => by rw [← e, hfc] at hn2; omega
  have hmi : (es.map prC)[i]? = some (prC e0) := by rw [List.getElem?_map, hei]; rfl
  have hlk : ∀ c ∈ es.map prC, c.length = 3 := fun c hc => (h1 c hc).1
  have hml : (es.map prC).length = es.length := List.length_map _
  have hfl := flat_length hlk
  have hi8 : i * 3 + 3 ≤ ((es.map prC).flatten ++ zz).length := by rw [List.length_append, hfl]; omega
  obtain ⟨R, hR⟩ : ∃ R, (es.map prC).flatten ++ zz = R := ⟨_, rfl⟩
  rw [hR] at hi8 h2
  refine draw_rule tabOK (by kernel_rfl : _) (.p 0 (.p 1 (.p 2 (.p 3 (.p 4 (.p 5 (.p 6 (.e 7 [1, 2, 3] (.p 8 (.p 9 (.e 10 [] .nil .no))) .no)))))))) (by kernel_rfl) (by kernel_rfl) ?_
  (refine top_in ?_; simp -implicitDefEqProofs only [go_sem, -List.reduceReplicate, ↓L_gdZ_tt, ↓L_gdZ_tf, ↓L_gdZ_ft, ↓L_gdZ_ff, ↓T_and, ↓T_imp, ↓T_all, get_lt hwf, hf, get_lt hln, h2, o2]; try simp only [top_out])
  refine clone_byt _ _ _ _ hc.key.app (fun M1 y b1 n1 A1 => ?_)
  have c0 := A1.at0 noS rfl
  have c1 := A1.get ((get_lt hwf).trans hf) (fun e => e)
  have c2 := A1.get ((get_lt hln).trans h2) (fun e => e)
  have m1 := A1.1
  simp only [List.length_append, List.length_cons, List.length_nil] at m1 n1
  have o4 := b1.one
  have hs0 : ∀ B, (M1.set n B)[M.length]? = M1[M.length]? := fun B => List.getElem?_set_ne (by omega)
  have hsf : ∀ B, (M1.set n B)[f]? = M1[f]? := fun B => List.getElem?_set_ne (Ne.symm hnf)
  (refine top_in ?_; simp -implicitDefEqProofs only [go_sem, -List.reduceReplicate, ↓L_gdZ_tt, ↓L_gdZ_tf, ↓L_gdZ_ft, ↓L_gdZ_ff, ↓T_and, ↓T_imp, ↓T_all, c0, c1, c2, o2, o4, cellsS_one o4, hs0, hsf]; try simp only [top_out])
  repeat refine ⟨by omega, ?_⟩
  have hrow : R.set (i * 3 + 1) y = ((es.set i (({ e0.1 with key := key } : Pr), y, e0.2.2)).map prC).flatten ++ zz := by
    rw [← hR, flat_set i (j := 1) _ hlk hmi (by decide), List.map_set]; rfl
  rw [hrow]
  subst he0
  obtain ⟨e1, hE⟩ : ∃ e1 : Pr × SV × SV, e1 = (({ e0.1 with key := key } : Pr), y, e0.2.2) := ⟨_, rfl⟩
  rw [← hE]
  have hT : Ag (fun d => d = n) M (M1.set n (.row (((es.set i e1).map prC).flatten ++ zz) ty)) := ((Ag.app.then A1).mono (fun _ e => e.elim)).then (Ag.set rfl)
  have hT1 : Ag (fun d => d = n) M1 (M1.set n (.row (((es.set i e1).map prC).flatten ++ zz) ty)) := Ag.set rfl
  have hrow2 : (M1.set n (.row (((es.set i e1).map prC).flatten ++ zz) ty))[n]? = some (.row (((es.set i e1).map prC).flatten ++ zz) ty) := List.getElem?_set_self (by omega)
  have hrowf : (M1.set n (.row (((es.set i e1).map prC).flatten ++ zz) ty))[f]? = _ := (hsf _).trans c1
  have hlen2 : (M1.set n (.row (((es.set i e1).map prC).flatten ++ zz) ty)).length = M1.length := List.length_set
  generalize M1.set n (.row (((es.set i e1).map prC).flatten ++ zz) ty) = M2 at hT hT1 hrow2 hrowf hlen2
  have hcl : ∀ d, d < M.length → colN col M.length 4 d = col d := fun d h => colN_lt h
  have he0m := he4 e0 (List.mem_of_getElem? hei)
  have hnew : PrF M2 (colN col M.length 4) e1 := by
    rw [hE]
    refine ⟨b1.ag hT1 (fun d e h => by have := n1 d e; omega), fun d e => colN_ge (by have := n1 d e; omega), he0m.pfx.ag hT (fun d e h => ?_), fun d e => (hcl d (he0m.pfx.dn d e)).trans (he0m.pc d e)⟩
    have := he0m.pc d e
    simp only at h this
    rw [h, hn2] at this; omega
  have hP2 : PrsF M2 (colN col M.length 4) (.sl n 0 es.length cap) (s.ps.set i { e0.1 with key := key }) := by
    have := PrsF.upd (e1 := e1) hs he1 hei h3 h00 h1 hrow2 ((hcl n hln).trans hn2) hnew (fun e he _ => (he4 e he).ag hT hcl (fun d hd h g => by rw [g, hn2] at h; omega)) (ps := s.ps) (p := e0.1)
    rw [hE] at this; exact this
  have hL2 : LnsF M2 (colN col M.length 4) xl s.ls := hL.ag hT hcl (fun d hd h g => by rw [g, hn2] at h; omega)
  have hc2 : ChE M2 (fun d => colN col M.length 4 d = 0) (⟨3, link, side, key, pfx⟩, xk) :=
    ⟨hc.key.ag hT (fun d e h => by have h1 : col d = 0 := hc.kg d e; rw [show d = n from h, hn2] at h1; omega), fun d e => (hcl d (hc.key.dn d e)).trans (hc.kg d e)⟩
  refine fgive_ok _ f _ xl s (⟨3, link, side, key, pfx⟩, xk) _ _ hrowf rfl hL2 hc2 hs ((hcl f hwf).trans hfc) (fun v M3 col3 xl' hcol3 hrow3 hL3 A3 => ?_)
  have m3 := A3.1
  rw [hlen2] at m3
  (refine top_in ?_; simp -implicitDefEqProofs only [go_sem, -List.reduceReplicate, ↓L_gdZ_tt, ↓L_gdZ_tf, ↓L_gdZ_ft, ↓L_gdZ_ff, ↓T_and, ↓T_imp, ↓T_all]; try simp only [top_out])
  refine dropC_all (by omega) (hK _ M3 col3 _ xl' (fun d h => (hcol3 d (by omega)).trans (hcl d h)) hrow3 (hP2.ag A3 hcol3 (fun d hd h g => ?_)) hL3 ((hT.mono (fun d g => ?_)).then (A3.mono_lt (fun d hd g => ?_))))
  · have hf2 := (hcl f hwf).trans hfc
    rcases g with g | g
    · rw [g, hf2] at h; omega
    · omega
  · rw [g, hn2]; decide
  · rcases g with g | g
    · rw [g, hfc]; decide
    · rcases Nat.lt_or_ge d M.length with q | q
      · rw [hcl d q] at g; omega
      · rw [colN_ge q] at g; omega
set_option maxHeartbeats 1000000 in
theorem fdo4_ok
  (col : Nat → Nat) (f : Nat) (xp xl : SV) (s : St) (c : Ch × SV) (M : List Blk) (K : SV → List Blk → Prop) (hf : M[f]? = some (.row [xp, xl] 63)) (hP : PrsF M col xp s.ps) (hL : LnsF M col xl s.ls) (hc : ChE M (fun n => col n = 0) c) (hs : s.Right) (hfc : col f = 1) (h0 : s.fault c.1 = 0) (hk : c.1.kind = 4) {i0 : Nat} (hpeer : s.peer c.1.link = some i0)
  (hK : ∀ v M' col' xp' xl', (∀ n, n < M.length → col' n = col n) → M'[f]? = some (.row [xp', xl'] 63) → PrsF M' col' xp' (s.done c.1).ps → LnsF M' col' xl' (s.done c.1).ls → Ag (fun n => col n ≠ 0) M M' → K v M') :
  callVC Try.prog 17 [.p f 0, .agg (chC c)] M K
  := by
  obtain ⟨c, xk⟩ := c
  obtain ⟨kind, link, side, key, pfx⟩ := c
  simp only at hk hpeer
  subst hk
  have o2 := hc.key.one
  have o1 := hP.prs.one
  have o3 := hL.lns.one
  have hnp := hs.np
  have hwf := kw hf
  have hff := fault_facts hs h0
  simp only at o2 hff
  have hc0 := hc
  rw [chC_eq]
  simp only
  refine fn_rule tabOK Try.func17 rfl Try.call17 (by kernel_rfl) (fun hM => ?_)
  (refine top_in ?_; simp -implicitDefEqProofs only [Try.ntmps17, Try.results17, go_sem, -List.reduceReplicate, ↓L_gdZ_tt, ↓L_gdZ_tf, ↓L_gdZ_ft, ↓L_gdZ_ff, ↓T_and, ↓T_imp, ↓T_all, o2]; try simp only [top_out])
  refine fpeer_ok _ f xp xl link s _ _ ((get_lt hwf).trans hf) hP.prs.app hs (by omega) (fun i hi => ?_)
  (refine top_in ?_; simp -implicitDefEqProofs only [go_sem, -List.reduceReplicate, ↓L_gdZ_tt, ↓L_gdZ_tf, ↓L_gdZ_ft, ↓L_gdZ_ff, ↓T_and, ↓T_imp, ↓T_all, Int.reduceBEq]; try simp only [top_out])
  obtain rfl := hi.eq hs hpeer
  have hP0 := hP
  obtain ⟨p, hpi, hpl⟩ := (St.peer_some hs).1 hpeer
  obtain ⟨n, cap, zz, ty, es, e0, rfl, h2, he1, hei, he0, hn2, he4, h3, h00, h1⟩ := hP.row hpi
  have hlen : es.length = s.ps.length := by rw [← he1, List.length_map]
  have hil := (List.getElem?_eq_some_iff.1 hpi).1
  have hln := kw h2
  have hnf : f ≠ n := fun e => by rw [← e, hfc] at hn2; omega
  have hmi : (es.map prC)[i]? = some (prC e0) := by rw [List.getElem?_map, hei]; rfl
  have hlk : ∀ c ∈ es.map prC, c.length = 3 := fun c hc => (h1 c hc).1
  have hml : (es.map prC).length = es.length := List.length_map _
  have hfl := flat_length hlk
  have g2 := flat_get (zz := zz) (j := 2) hlk hmi (by decide)
  have hi8 : i * 3 + 3 ≤ ((es.map prC).flatten ++ zz).length := by rw [List.length_append, hfl]; omega
  obtain ⟨R, hR⟩ : ∃ R, (es.map prC).flatten ++ zz = R := ⟨_, rfl⟩
  rw [hR] at hi8 h2 g2
  have q2 := getD_of (g2.trans (show _ = some e0.2.2 from rfl))
  have he0m := he4 e0 (List.mem_of_getElem? hei)
  have o5 := he0m.pfx.one
  have hpp := hs.peer p (List.mem_of_getElem? hpi)
  have hpm := hpp.many
  have hpv := hpp.ord
  (refine top_in ?_; simp -implicitDefEqProofs only [go_sem, -List.reduceReplicate, ↓L_gdZ_tt, ↓L_gdZ_tf, ↓L_gdZ_ft, ↓L_gdZ_ff, ↓T_and, ↓T_imp, ↓T_all, get_lt hwf, hf, get_lt hln, h2, o2, q2, o5]; try simp only [top_out])
  repeat refine ⟨by omega, ?_⟩
  refine bsPx_ok e0.2.2 pfx p.pfx _ _ (by rw [← he0]; exact (he0m.pfx.lst (by decide)).app) hpv (by omega) (fun j b hj => ?_)
  (refine top_in ?_; simp -implicitDefEqProofs only [go_sem, -List.reduceReplicate, ↓L_gdZ_tt, ↓L_gdZ_tf, ↓L_gdZ_ft, ↓L_gdZ_ff, ↓T_and, ↓T_imp, ↓T_all]; try simp only [top_out])
  refine draw_rule tabOK (by kernel_rfl : _) (.p 0 (.p 1 (.p 2 (.p 3 (.p 4 (.p 5 (.p 6 (.p 7 (.p 8 (.e 9 [1, 2, 3] (.e 10 [1, 2, 3] (.p 11 (.p 12 (.e 13 [] .nil .no))) .no) .no)))))))))) (by kernel_rfl) (by kernel_rfl) ?_
  (refine top_in ?_; simp -implicitDefEqProofs only [go_sem, -List.reduceReplicate, ↓L_gdZ_tt, ↓L_gdZ_tf, ↓L_gdZ_ft, ↓L_gdZ_ff, ↓T_and, ↓T_imp, ↓T_all, get_lt hwf, hf, get_lt hln, h2, o2, q2, o5]; try simp only [top_out])
  refine ⟨by decide, ⟨rfl, rfl⟩, ?_⟩
  subst he0
  have hpx := he0m.pfx
  have hpd := fun d e => hpx.dn d e
  refine insPx_ok e0.2.2 (e0.1.pfx.map pxC) j (M.length + 1) (pxC pfx) 49 _ _ hpx.app (by rw [List.length_map]; exact hj.1) (by rw [List.length_map]; omega) (by rw [get_app]; rfl) ⟨rfl, rfl⟩ (fun e => by have := hpd _ e; omega) (fun M2 z w1 w2 A2 => ?_)
  simp only [List.length_append, List.length_cons, List.length_nil] at w2
  have m2 := A2.1
  simp only [List.length_append, List.length_cons, List.length_nil] at m2
  have hx1 : ∀ d, dnS e0.2.2 = some d → col d = 5 + e0.1.link.toNat := fun d e => he0m.pc d e
  have c1 := A2.get ((get_lt hwf).trans hf) (fun e => by have := hx1 _ e; omega)
  have c2 := A2.get ((get_lt hln).trans h2) (fun e => by have := hx1 _ e; omega)
  have o6 := w1.one
  (refine top_in ?_; simp -implicitDefEqProofs only [go_sem, -List.reduceReplicate, ↓L_gdZ_tt, ↓L_gdZ_tf, ↓L_gdZ_ft, ↓L_gdZ_ff, ↓T_and, ↓T_imp, ↓T_all, c1, c2, o6, cellsS_one o6]; try simp only [top_out])
  repeat refine ⟨by omega, ?_⟩
  have hins : (insAt (e0.1.pfx.map pxC) j (pxC pfx)) = (withP e0.1.pfx ⟨4, link, side, key, pfx⟩).map pxC := by
    unfold withP
    rw [if_neg (show ¬ (4 : Int) = 5 by decide)]
    simp only
    rw [hj.ins (St.holder_none.1 (by
      rcases hff with ⟨_, _, h | h | h | h | h⟩
      · exact absurd h.1 (by decide)
      · exact absurd h.1 (by decide)
      · exact absurd h.1 (by decide)
      · exact h.2.2.2.1
      · exact absurd h.1 (by decide)) _ (List.mem_of_getElem? hpi)), map_insAt]
  rw [hins] at w1
  obtain ⟨q, hq1, hq2, hmap⟩ := pr_map (f := fun p => { p with pfx := withP p.pfx ⟨4, link, side, key, pfx⟩ }) i hs hpeer
  rw [hpi] at hq1
  cases hq1
  have hd : s.done ⟨4, link, side, key, pfx⟩ = ⟨s.ps.set i { e0.1 with pfx := withP e0.1.pfx ⟨4, link, side, key, pfx⟩ }, s.ls⟩ := by
    unfold St.done
    rw [if_neg (show ¬ (4 : Int) = 1 by decide), if_neg (show ¬ (4 : Int) = 2 by decide), if_neg (show ¬ (4 : Int) = 3 by decide)]
    simp only
    rw [hmap]
  rw [hd] at hK
  obtain ⟨l', hl'⟩ : ∃ l', withP e0.1.pfx ⟨4, link, side, key, pfx⟩ = l' := ⟨_, rfl⟩
  rw [hl'] at hK w1
  have hrow : R.set (i * 3 + 2) z = ((es.set i (({ e0.1 with pfx := l' } : Pr), e0.2.1, z)).map prC).flatten ++ zz := by
    rw [← hR, flat_set i (j := 2) _ hlk hmi (by decide), List.map_set]; rfl
  rw [hrow]
  obtain ⟨e1, hE⟩ : ∃ e1 : Pr × SV × SV, e1 = (({ e0.1 with pfx := l' } : Pr), e0.2.1, z) := ⟨_, rfl⟩
  rw [← hE]
  have hT : Ag (fun d => d = n ∨ dnS e0.2.2 = some d) M (M2.set n (.row (((es.set i e1).map prC).flatten ++ zz) ty)) := ((Ag.app (S := fun d => d = n ∨ dnS e0.2.2 = some d)).then (A2.mono (fun d e => .inr e))).then (Ag.set (.inl rfl))
  have hT1 : Ag (fun d => d = n) M2 (M2.set n (.row (((es.set i e1).map prC).flatten ++ zz) ty)) := Ag.set rfl
  have hrow2 : (M2.set n (.row (((es.set i e1).map prC).flatten ++ zz) ty))[n]? = some (.row (((es.set i e1).map prC).flatten ++ zz) ty) := List.getElem?_set_self (by omega)
  have hrowf : (M2.set n (.row (((es.set i e1).map prC).flatten ++ zz) ty))[f]? = _ := (List.getElem?_set_ne (Ne.symm hnf)).trans c1
  have hlen2 : (M2.set n (.row (((es.set i e1).map prC).flatten ++ zz) ty)).length = M2.length := List.length_set
  generalize M2.set n (.row (((es.set i e1).map prC).flatten ++ zz) ty) = M3 at hT hT1 hrow2 hrowf hlen2
  have hcl : ∀ d, d < M.length → colN col M.length (5 + e0.1.link.toNat) d = col d := fun d h => colN_lt h
  have hSc : ∀ d, (d = n ∨ dnS e0.2.2 = some d) → col d = 2 ∨ col d = 5 + e0.1.link.toNat := fun d h => by
    rcases h with h | h
    · rw [h]; exact .inl hn2
    · exact .inr (hx1 d h)
  have hnew : PrF M3 (colN col M.length (5 + e0.1.link.toNat)) e1 := by
    rw [hE]
    refine ⟨he0m.key.ag hT (fun d e h => ?_), fun d e => (hcl d (he0m.key.dn d e)).trans (he0m.kc d e), w1.ag hT1 (fun d e h => ?_), fun d e => ?_⟩
    · have h1 : col d = 4 := he0m.kc d e
      rcases hSc d h with g | g <;> omega
    · have h2 : d = n := h
      rcases w2 d e with g | g
      · have := hx1 d g; rw [h2, hn2] at this; omega
      · omega
    · rcases w2 d e with g | g
      · exact (hcl d (hpd d g)).trans (hx1 d g)
      · exact colN_ge (by omega)
  have hlk1 := (hs.peer e0.1 (List.mem_of_getElem? hpi)).link
  have hP2 : PrsF M3 (colN col M.length (5 + e0.1.link.toNat)) (.sl n 0 es.length cap) (s.ps.set i { e0.1 with pfx := l' }) := by
    have := PrsF.upd (e1 := e1) hs he1 hei h3 h00 h1 hrow2 ((hcl n hln).trans hn2) hnew (fun e he hne => (he4 e he).ag hT hcl (fun d hd h g => by
      have hle := (hs.peer e.1 (by rw [← he1]; exact List.mem_map.2 ⟨e, he, rfl⟩)).link
      rcases hSc d g with g | g <;> rcases h with h | h <;> omega)) (ps := s.ps) (p := e0.1)
    rw [hE] at this; exact this
  have hL2 : LnsF M3 (colN col M.length (5 + e0.1.link.toNat)) xl s.ls := hL.ag hT hcl (fun d hd h g => by
    rcases hSc d g with g | g <;> omega)
  refine dropC_all (by omega) (hK _ M3 _ _ xl hcl hrowf hP2 hL2 (hT.mono (fun d g => ?_)))
  rcases hSc d g with g | g <;> omega
set_option maxHeartbeats 1000000 in
theorem fdo5_ok
  (col : Nat → Nat) (f : Nat) (xp xl : SV) (s : St) (c : Ch × SV) (M : List Blk) (K : SV → List Blk → Prop) (hf : M[f]? = some (.row [xp, xl] 63)) (hP : PrsF M col xp s.ps) (hL : LnsF M col xl s.ls) (hc : ChE M (fun n => col n = 0) c) (hs : s.Right) (hfc : col f = 1) (h0 : s.fault c.1 = 0) (hk : c.1.kind = 5) {i0 : Nat} (hpeer : s.peer c.1.link = some i0)
  (hK : ∀ v M' col' xp' xl', (∀ n, n < M.length → col' n = col n) → M'[f]? = some (.row [xp', xl'] 63) → PrsF M' col' xp' (s.done c.1).ps → LnsF M' col' xl' (s.done c.1).ls → Ag (fun n => col n ≠ 0) M M' → K v M') :
  callVC Try.prog 17 [.p f 0, .agg (chC c)] M K
  := by
  obtain ⟨c, xk⟩ := c
  obtain ⟨kind, link, side, key, pfx⟩ := c
  simp only at hk hpeer
  subst hk
  have o2 := hc.key.one
  have o1 := hP.prs.one
  have o3 := hL.lns.one
  have hnp := hs.np
  have hwf := kw hf
  have hff := fault_facts hs h0
  simp only at o2 hff
  have hc0 := hc
  rw [chC_eq]
  simp only
  refine fn_rule tabOK Try.func17 rfl Try.call17 (by kernel_rfl) (fun hM => ?_)
  (refine top_in ?_; simp -implicitDefEqProofs only [Try.ntmps17, Try.results17, go_sem, -List.reduceReplicate, ↓L_gdZ_tt, ↓L_gdZ_tf, ↓L_gdZ_ft, ↓L_gdZ_ff, ↓T_and, ↓T_imp, ↓T_all, o2]; try simp only [top_out])
  refine fpeer_ok _ f xp xl link s _ _ ((get_lt hwf).trans hf) hP.prs.app hs (by omega) (fun i hi => ?_)
  (refine top_in ?_; simp -implicitDefEqProofs only [go_sem, -List.reduceReplicate, ↓L_gdZ_tt, ↓L_gdZ_tf, ↓L_gdZ_ft, ↓L_gdZ_ff, ↓T_and, ↓T_imp, ↓T_all, Int.reduceBEq]; try simp only [top_out])
  obtain rfl := hi.eq hs hpeer
  have hP0 := hP
  obtain ⟨p, hpi, hpl⟩ := (St.peer_some hs).1 hpeer
  obtain ⟨n, cap, zz, ty, es, e0, rfl, h2, he1, hei, he0, hn2, he4, h3, h00, h1⟩ := hP.row hpi
  have hlen : es.length = s.ps.length := by rw [← he1, List.length_map]
  have hil := (List.getElem?_eq_some_iff.1 hpi).1
  have hln := kw h2
  have hnf : f ≠ n := fun e => by rw [← e, hfc] at hn2; omega
  have hmi : (es.map prC)[i]? = some (prC e0) := by rw [List.getElem?_map, hei]; rfl
  have hlk : ∀ c ∈ es.map prC, c.length = 3 := fun c hc => (h1 c hc).1
  have hml : (es.map prC).length = es.length := List.length_map _
  have hfl := flat_length hlk
  have g2 := flat_get (zz := zz) (j := 2) hlk hmi (by decide)
  have hi8 : i * 3 + 3 ≤ ((es.map prC).flatten ++ zz).length := by rw [List.length_append, hfl]; omega
  obtain ⟨R, hR⟩ : ∃ R, (es.map prC).flatten ++ zz = R := ⟨_, rfl⟩
  rw [hR] at hi8 h2 g2
  have q2 := getD_of (g2.trans (show _ = some e0.2.2 from rfl))
  have he0m := he4 e0 (List.mem_of_getElem? hei)
  have o5 := he0m.pfx.one
  have hpp := hs.peer p (List.mem_of_getElem? hpi)
  have hpm := hpp.many
  have hpv := hpp.ord
  (refine top_in ?_; simp -implicitDefEqProofs only [go_sem, -List.reduceReplicate, ↓L_gdZ_tt, ↓L_gdZ_tf, ↓L_gdZ_ft, ↓L_gdZ_ff, ↓T_and, ↓T_imp, ↓T_all, get_lt hwf, hf, get_lt hln, h2, o2, q2, o5]; try simp only [top_out])
  repeat refine ⟨by omega, ?_⟩
  subst he0
  have hpx := he0m.pfx
  have hpd := fun d e => hpx.dn d e
  have hmem : pfx ∈ e0.1.pfx := (St.holder_same hs hpeer hpi).2 (by
      rcases hff with ⟨_, _, h | h | h | h | h⟩
      · exact absurd h.1 (by decide)
      · exact absurd h.1 (by decide)
      · exact absurd h.1 (by decide)
      · exact absurd h.1 (by decide)
      · obtain ⟨_, k, hk1, hk2⟩ := h
        rw [hk2]; exact hk1.symm)
  obtain ⟨j, hjx⟩ : ∃ j, (e0.1.pfx.findIdx? fun p => decide (p = pfx)) = some j := by
    cases e : e0.1.pfx.findIdx? fun p => decide (p = pfx) with
    | some j => exact ⟨j, rfl⟩
    | none => have := ix_none' e pfx hmem; simp at this
  obtain ⟨q, hj1, hj2, _⟩ := ix_some' hjx
  rw [show q = pfx by simpa using hj2] at hj1
  have hjl := (List.getElem?_eq_some_iff.1 hj1).1
  refine indexPx_ok e0.2.2 pfx e0.1.pfx _ _ (hpx.lst (by decide)).app (by omega) ?_
  rw [hjx]
  (refine top_in ?_; simp -implicitDefEqProofs only [go_sem, -List.reduceReplicate, ↓L_gdZ_tt, ↓L_gdZ_tf, ↓L_gdZ_ft, ↓L_gdZ_ff, ↓T_and, ↓T_imp, ↓T_all, ixI]; try simp only [top_out])
  refine draw_rule tabOK (by kernel_rfl : _) (.p 0 (.p 1 (.p 2 (.p 3 (.p 4 (.p 5 (.p 6 (.p 7 (.p 8 (.e 9 [1, 2, 3] (.p 10 (.p 11 (.e 12 [] .nil .no))) .no)))))))))) (by kernel_rfl) (by kernel_rfl) ?_
  have wj : IntKind.i64.wrap ((j : Int) + 1) = (j : Int) + 1 := w64 (by omega) (by omega)
  (refine top_in ?_; simp -implicitDefEqProofs only [go_sem, -List.reduceReplicate, ↓L_gdZ_tt, ↓L_gdZ_tf, ↓L_gdZ_ft, ↓L_gdZ_ff, ↓T_and, ↓T_imp, ↓T_all, get_lt hwf, hf, get_lt hln, h2, o2, q2, o5, wj, ixI]; try simp only [top_out])
  refine delPx_ok e0.2.2 (e0.1.pfx.map pxC) j _ _ hpx.app (by rw [List.length_map]; omega) (by rw [List.length_map]; omega) (fun M2 z w1 w2' A2 => ?_)
  have w2 : ∀ d, dnS z = some d → dnS e0.2.2 = some d ∨ M.length + 2 ≤ d := fun d e => .inl (by rw [← w2']; exact e)
  have m2 := A2.1
  simp only [List.length_append, List.length_cons, List.length_nil] at m2
  have hx1 : ∀ d, dnS e0.2.2 = some d → col d = 5 + e0.1.link.toNat := fun d e => he0m.pc d e
  have c1 := A2.get ((get_lt hwf).trans hf) (fun e => by have := hx1 _ e; omega)
  have c2 := A2.get ((get_lt hln).trans h2) (fun e => by have := hx1 _ e; omega)
  have o6 := w1.one
  (refine top_in ?_; simp -implicitDefEqProofs only [go_sem, -List.reduceReplicate, ↓L_gdZ_tt, ↓L_gdZ_tf, ↓L_gdZ_ft, ↓L_gdZ_ff, ↓T_and, ↓T_imp, ↓T_all, c1, c2, o6, cellsS_one o6]; try simp only [top_out])
  repeat refine ⟨by omega, ?_⟩
  have hins : (e0.1.pfx.map pxC).take j ++ (e0.1.pfx.map pxC).drop (j + 1) = (withP e0.1.pfx ⟨5, link, side, key, pfx⟩).map pxC := by
    unfold withP
    rw [if_pos rfl]
    simp only
    rw [pfx_filter hpv hj1, List.map_append, List.map_take, List.map_drop]
  rw [hins] at w1
  obtain ⟨q, hq1, hq2, hmap⟩ := pr_map (f := fun p => { p with pfx := withP p.pfx ⟨5, link, side, key, pfx⟩ }) i hs hpeer
  rw [hpi] at hq1
  cases hq1
  have hd : s.done ⟨5, link, side, key, pfx⟩ = ⟨s.ps.set i { e0.1 with pfx := withP e0.1.pfx ⟨5, link, side, key, pfx⟩ }, s.ls⟩ := by
    unfold St.done
    rw [if_neg (show ¬ (5 : Int) = 1 by decide), if_neg (show ¬ (5 : Int) = 2 by decide), if_neg (show ¬ (5 : Int) = 3 by decide)]
    simp only
    rw [hmap]
  rw [hd] at hK
  obtain ⟨l', hl'⟩ : ∃ l', withP e0.1.pfx ⟨5, link, side, key, pfx⟩ = l' := ⟨_, rfl⟩
  rw [hl'] at hK w1
  have hrow : R.set (i * 3 + 2) z = ((es.set i (({ e0.1 with pfx := l' } : Pr), e0.2.1, z)).map prC).flatten ++ zz := by
    rw [← hR, flat_set i (j := 2) _ hlk hmi (by decide), List.map_set]; rfl
  rw [hrow]
  obtain ⟨e1, hE⟩ : ∃ e1 : Pr × SV × SV, e1 = (({ e0.1 with pfx := l' } : Pr), e0.2.1, z) := ⟨_, rfl⟩
  rw [← hE]
  have hT : Ag (fun d => d = n ∨ dnS e0.2.2 = some d) M (M2.set n (.row (((es.set i e1).map prC).flatten ++ zz) ty)) := ((Ag.app (S := fun d => d = n ∨ dnS e0.2.2 = some d)).then (A2.mono (fun d e => .inr e))).then (Ag.set (.inl rfl))
  have hT1 : Ag (fun d => d = n) M2 (M2.set n (.row (((es.set i e1).map prC).flatten ++ zz) ty)) := Ag.set rfl
  have hrow2 : (M2.set n (.row (((es.set i e1).map prC).flatten ++ zz) ty))[n]? = some (.row (((es.set i e1).map prC).flatten ++ zz) ty) := List.getElem?_set_self (by omega)
  have hrowf : (M2.set n (.row (((es.set i e1).map prC).flatten ++ zz) ty))[f]? = _ := (List.getElem?_set_ne (Ne.symm hnf)).trans c1
  have hlen2 : (M2.set n (.row (((es.set i e1).map prC).flatten ++ zz) ty)).length = M2.length := List.length_set
  generalize M2.set n (.row (((es.set i e1).map prC).flatten ++ zz) ty) = M3 at hT hT1 hrow2 hrowf hlen2
  have hcl : ∀ d, d < M.length → colN col M.length (5 + e0.1.link.toNat) d = col d := fun d h => colN_lt h
  have hSc : ∀ d, (d = n ∨ dnS e0.2.2 = some d) → col d = 2 ∨ col d = 5 + e0.1.link.toNat := fun d h => by
    rcases h with h | h
    · rw [h]; exact .inl hn2
    · exact .inr (hx1 d h)
  have hnew : PrF M3 (colN col M.length (5 + e0.1.link.toNat)) e1 := by
    rw [hE]
    refine ⟨he0m.key.ag hT (fun d e h => ?_), fun d e => (hcl d (he0m.key.dn d e)).trans (he0m.kc d e), w1.ag hT1 (fun d e h => ?_), fun d e => ?_⟩
    · have h1 : col d = 4 := he0m.kc d e
      rcases hSc d h with g | g <;> omega
    · have h2 : d = n := h
      rcases w2 d e with g | g
      · have := hx1 d g; rw [h2, hn2] at this; omega
      · omega
    · rcases w2 d e with g | g
      · exact (hcl d (hpd d g)).trans (hx1 d g)
      · exact colN_ge (by omega)
  have hlk1 := (hs.peer e0.1 (List.mem_of_getElem? hpi)).link
  have hP2 : PrsF M3 (colN col M.length (5 + e0.1.link.toNat)) (.sl n 0 es.length cap) (s.ps.set i { e0.1 with pfx := l' }) := by
    have := PrsF.upd (e1 := e1) hs he1 hei h3 h00 h1 hrow2 ((hcl n hln).trans hn2) hnew (fun e he hne => (he4 e he).ag hT hcl (fun d hd h g => by
      have hle := (hs.peer e.1 (by rw [← he1]; exact List.mem_map.2 ⟨e, he, rfl⟩)).link
      rcases hSc d g with g | g <;> rcases h with h | h <;> omega)) (ps := s.ps) (p := e0.1)
    rw [hE] at this; exact this
  have hL2 : LnsF M3 (colN col M.length (5 + e0.1.link.toNat)) xl s.ls := hL.ag hT hcl (fun d hd h g => by
    rcases hSc d g with g | g <;> omega)
  refine dropC_all (by omega) (hK _ M3 _ _ xl hcl hrowf hP2 hL2 (hT.mono (fun d g => ?_)))
  rcases hSc d g with g | g <;> omega
theorem fdo_ok (col : Nat → Nat) (f : Nat) (xp xl : SV) (s : St) (c : Ch × SV) (M : List Blk) (K : SV → List Blk → Prop) (hf : M[f]? = some (.row [xp, xl] 63)) (hP : PrsF M col xp s.ps) (hL : LnsF M col xl s.ls) (hc : ChE M (fun n => col n = 0) c) (hs : s.Right) (hfc : col f = 1) (h0 : s.fault c.1 = 0)
    (hK : ∀ v M' col' xp' xl', (∀ n, n < M.length → col' n = col n) → M'[f]? = some (.row [xp', xl'] 63) → PrsF M' col' xp' (s.done c.1).ps → LnsF M' col' xl' (s.done c.1).ls → Ag (fun n => col n ≠ 0) M M' → K v M') :
    callVC Try.prog 17 [.p f 0, .agg (chC c)] M K := by
  obtain ⟨_, _, h | h | h | h | h⟩ := fault_facts hs h0
  · exact fdo1_ok col f xp xl s c M K hf hP hL hc hs hfc h0 h.1 h.2.1 hK
  · obtain ⟨h1, i, hi⟩ := h
    exact fdo2_ok col f xp xl s c M K hf hP hL hc hs hfc h0 h1 hi hK
  · obtain ⟨h1, i, hi, _⟩ := h
    exact fdo3_ok col f xp xl s c M K hf hP hL hc hs hfc h0 h1 hi hK
  · obtain ⟨h1, ⟨i, hi⟩, _⟩ := h
    exact fdo4_ok col f xp xl s c M K hf hP hL hc hs hfc h0 h1 hi hK
  · obtain ⟨h1, i, hi, _⟩ := h
    exact fdo5_ok col f xp xl s c M K hf hP hL hc hs hfc h0 h1 hi hK
end Go.Proofs.Ytdcplcfedcmcmaa.Eng
