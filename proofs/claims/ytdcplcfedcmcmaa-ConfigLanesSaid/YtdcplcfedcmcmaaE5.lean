/- The program's fold: whose every block is; a key given. -/
import Derived.Test.YtdcplcfedcmcmaaE4
namespace Go.Proofs.Ytdcplcfedcmcmaa.Eng
open Go Go.RowKit
set_option linter.unusedSimpArgs false
set_option linter.unusedVariables false

/-- whose a block is: 0 the caller's, 1 the fold's, 2 the peers' row, 3 the lanes' row, 4 a key's, 5 and more a link's prefixes' -/
structure PrF (M : List Blk) (c : Nat → Nat) (e : Pr × SV × SV) : Prop where
  key : Byt M e.2.1 e.1.key
  kc : NmG (fun n => c n = 4) e.2.1
  pfx : Own M 4 e.2.2 (e.1.pfx.map pxC)
  pc : NmG (fun n => c n = 5 + e.1.link.toNat) e.2.2
structure LnF (M : List Blk) (c : Nat → Nat) (e : Ln × SV) : Prop where
  key : Byt M e.2 e.1.key
  kc : NmG (fun n => c n = 4) e.2
def PrsF (M : List Blk) (c : Nat → Nat) (x : SV) (ps : List Pr) : Prop := ∃ es : List (Pr × SV × SV), es.map (·.1) = ps ∧ Own M 3 x (es.map prC) ∧ NmG (fun n => c n = 2) x ∧ ∀ e ∈ es, PrF M c e
def LnsF (M : List Blk) (c : Nat → Nat) (x : SV) (ls : List Ln) : Prop := ∃ es : List (Ln × SV), es.map (·.1) = ls ∧ Own M 8 x (es.map lnC) ∧ NmG (fun n => c n = 3) x ∧ ∀ e ∈ es, LnF M c e
theorem NmG.cong {P Q : Nat → Prop} {x : SV} {m : Nat} (h : NmG P x) (hx : NmG (· < m) x) (hPQ : ∀ n, n < m → P n → Q n) : NmG Q x := fun d e => hPQ d (hx d e) (h d e)
theorem PrF.ag {S : Nat → Prop} {M M' : List Blk} {c c' : Nat → Nat} {e : Pr × SV × SV} (h : PrF M c e) (hA : Ag S M M') (hc : ∀ n, n < M.length → c' n = c n) (hS : ∀ n, n < M.length → c n = 4 ∨ c n = 5 + e.1.link.toNat → ¬ S n) : PrF M' c' e :=
  ⟨h.key.ag hA (fun d e => hS d (h.key.dn d e) (.inl (h.kc d e))), h.kc.cong h.key.dn (fun n hn g => (hc n hn).trans g), h.pfx.ag hA (fun d e => hS d (h.pfx.dn d e) (.inr (h.pc d e))), h.pc.cong h.pfx.dn (fun n hn g => (hc n hn).trans g)⟩
theorem LnF.ag {S : Nat → Prop} {M M' : List Blk} {c c' : Nat → Nat} {e : Ln × SV} (h : LnF M c e) (hA : Ag S M M') (hc : ∀ n, n < M.length → c' n = c n) (hS : ∀ n, n < M.length → c n = 4 → ¬ S n) : LnF M' c' e :=
  ⟨h.key.ag hA (fun d e => hS d (h.key.dn d e) (h.kc d e)), h.kc.cong h.key.dn (fun n hn g => (hc n hn).trans g)⟩
theorem PrsF.ag {S : Nat → Prop} {M M' : List Blk} {c c' : Nat → Nat} {x : SV} {ps : List Pr} (h : PrsF M c x ps) (hA : Ag S M M') (hc : ∀ n, n < M.length → c' n = c n) (hS : ∀ n, n < M.length → c n = 2 ∨ 4 ≤ c n → ¬ S n) : PrsF M' c' x ps := by
  obtain ⟨es, h1, h2, h3, h4⟩ := h
  exact ⟨es, h1, h2.ag hA (fun d e => hS d (h2.dn d e) (.inl (h3 d e))), h3.cong h2.dn (fun n hn g => (hc n hn).trans g), fun e he => (h4 e he).ag hA hc (fun n hn g => hS n hn (.inr (by omega)))⟩
theorem LnsF.ag {S : Nat → Prop} {M M' : List Blk} {c c' : Nat → Nat} {x : SV} {ps : List Ln} (h : LnsF M c x ps) (hA : Ag S M M') (hc : ∀ n, n < M.length → c' n = c n) (hS : ∀ n, n < M.length → c n = 3 ∨ c n = 4 → ¬ S n) : LnsF M' c' x ps := by
  obtain ⟨es, h1, h2, h3, h4⟩ := h
  exact ⟨es, h1, h2.ag hA (fun d e => hS d (h2.dn d e) (.inl (h3 d e))), h3.cong h2.dn (fun n hn g => (hc n hn).trans g), fun e he => (h4 e he).ag hA hc (fun n hn g => hS n hn (.inr g))⟩
theorem PrsF.prs {M : List Blk} {c : Nat → Nat} {x : SV} {ps : List Pr} (h : PrsF M c x ps) : Prs M (fun n => c n ≠ 0) x ps := by
  obtain ⟨es, h1, h2, h3, h4⟩ := h
  exact ⟨es, h1, h2.lst (by decide), h3.mono (fun n g => by omega), fun e he => ⟨(h4 e he).key, (h4 e he).kc.mono (fun n g => by omega), (h4 e he).pfx.lst (by decide), (h4 e he).pc.mono (fun n g => by omega)⟩⟩
theorem LnsF.lns {M : List Blk} {c : Nat → Nat} {x : SV} {ps : List Ln} (h : LnsF M c x ps) : Lns M (fun n => c n ≠ 0) x ps := by
  obtain ⟨es, h1, h2, h3, h4⟩ := h
  exact ⟨es, h1, h2.lst (by decide), h3.mono (fun n g => by omega), fun e he => ⟨(h4 e he).key, (h4 e he).kc.mono (fun n g => by omega)⟩⟩
/-- new blocks are k's -/
def colN (c : Nat → Nat) (m k : Nat) : Nat → Nat := fun n => if n < m then c n else k
theorem colN_lt {c : Nat → Nat} {m k n : Nat} (h : n < m) : colN c m k n = c n := if_pos h
theorem colN_ge {c : Nat → Nat} {m k n : Nat} (h : m ≤ n) : colN c m k n = k := if_neg (by omega)
theorem map_fst_set {α β : Type} (es : List (α × β)) (i : Nat) (e : α × β) : (es.set i e).map (·.1) = (es.map (·.1)).set i e.1 := by rw [List.map_set]
theorem map_insAt {α β : Type} (f : α → β) (l : List α) (i : Nat) (a : α) : (insAt l i a).map f = insAt (l.map f) i (f a) := by
  unfold insAt
  rw [List.map_append, List.map_cons, List.map_take, List.map_drop]

set_option maxHeartbeats 1000000 in
theorem fgive_ok (col : Nat → Nat) (f : Nat) (xp xl : SV) (s : St) (c : Ch × SV) (M : List Blk) (K : SV → List Blk → Prop) (hf : M[f]? = some (.row [xp, xl] 63)) (hp : xp.one = true) (hL : LnsF M col xl s.ls) (hc : ChE M (fun n => col n = 0) c) (hs : s.Right) (hfc : col f = 1)
    (hK : ∀ v M' col' xl', (∀ n, n < M.length → col' n = col n) → M'[f]? = some (.row [xp, xl'] 63) → LnsF M' col' xl' (s.give c.1) → Ag (fun n => n = f ∨ col n = 3) M M' → K v M') :
    callVC Try.prog 30 [.p f 0, .agg (chC c)] M K := by
  have o2 := hc.key.one
  have hwf := kw hf
  have hLN := hL.lns
  have o1 := hLN.one
  have hn := hs.nl
  rw [chC_eq]
  refine fn_rule tabOK Try.func30 rfl Try.call30 (by kernel_rfl) (fun hM => ?_)
  (refine top_in ?_; simp -implicitDefEqProofs only [Try.ntmps30, Try.results30, go_sem, -List.reduceReplicate, ↓L_gdZ_tt, ↓L_gdZ_tf, ↓L_gdZ_ft, ↓L_gdZ_ff, ↓T_and, ↓T_imp, ↓T_all, o2]; try simp only [top_out])
  refine flane_ok _ f xp xl c.2 c.1.key s _ _ ((get_lt hwf).trans hf) hLN.app hs hc.key.app (fun i hi => ?_)
  (refine top_in ?_; simp -implicitDefEqProofs only [go_sem, -List.reduceReplicate, ↓L_gdZ_tt, ↓L_gdZ_tf, ↓L_gdZ_ft, ↓L_gdZ_ff, ↓T_and, ↓T_imp, ↓T_all]; try simp only [top_out])
  cases hl : s.lane c.1.key with
  | none =>
    refine ⟨fun _ => ?_, fun h => absurd h (by simp)⟩
    refine draw_rule tabOK (by kernel_rfl : _) (.p 0 (.p 1 (.p 2 (.p 3 (.p 4 (.p 5 (.p 6 (.p 7 (.p 9 (.p 10 (.e 8 [2, 3, 4, 9, 10] (.p 11 (.e 12 [2, 3, 4] (.e 13 [] (.p 14 (.p 15 (.e 16 [] .nil .no))) .no) .no)) .no))))))))))) (by kernel_rfl) (by kernel_rfl) ?_
    (refine top_in ?_; simp -implicitDefEqProofs only [go_sem, -List.reduceReplicate, ↓L_gdZ_tt, ↓L_gdZ_tf, ↓L_gdZ_ft, ↓L_gdZ_ff, ↓T_and, ↓T_imp, ↓T_all, get_lt hwf, hf, o1, o2]; try simp only [top_out])
    refine clone_byt _ _ _ _ hc.key.app (fun M1 y b1 n1 A1 => ?_)
    have c0 := A1.at0 noS rfl
    have c1 := A1.get ((get_lt hwf).trans hf) (fun e => e)
    have m1 := A1.1
    simp only [List.length_append, List.length_cons, List.length_nil] at m1 n1
    have o3 := b1.one
    (refine top_in ?_; simp -implicitDefEqProofs only [go_sem, -List.reduceReplicate, ↓L_gdZ_tt, ↓L_gdZ_tf, ↓L_gdZ_ft, ↓L_gdZ_ff, ↓T_and, ↓T_imp, ↓T_all, c0, c1, get_lt (kw c1), o1, o2, o3, cellsS_one o3]; try simp only [top_out])
    refine ⟨by decide, ?_⟩
    obtain ⟨es, he1, he2, he3, he4⟩ := hL
    have hlen : es.length = s.ls.length := by rw [← he1, List.length_map]
    have hA0 : Ag (fun _ => False) M M1 := Ag.app.then A1
    have hxn : ∀ d, dnS xl = some d → d < M.length := fun d e => he2.dn d e
    refine insLn_ok xl (es.map lnC) i M1.length (lnC (⟨c.1.key, c.1.side, 1, 0, 0#64, 0#64, 0, 0⟩, y)) 40 _ _ (he2.ag (hA0.then Ag.app) (fun _ _ e => e)) (by rw [List.length_map, hlen]; exact hi.1) (by rw [List.length_map]; omega) (by rw [get_app0]; rfl) ⟨rfl, by simp [lnC, o3, one_i64, one_u64]⟩ (fun e => by have := hxn _ e; omega) (fun M2 xl' w1 w2 A2 => ?_)
    have c2 := A2.get ((get_lt (kw c1)).trans c1) (fun e => by have := he3 _ e; omega)
    have m2 := A2.1
    have o4 := w1.one
    simp only [List.length_append, List.length_cons, List.length_nil] at m2 w2
    (refine top_in ?_; simp -implicitDefEqProofs only [go_sem, -List.reduceReplicate, ↓L_gdZ_tt, ↓L_gdZ_tf, ↓L_gdZ_ft, ↓L_gdZ_ff, ↓T_and, ↓T_imp, ↓T_all, c2, o4, cellsS_one o4]; try simp only [top_out])
    have hT : Ag (fun n => n = f ∨ col n = 3) M (M2.set f (.row [xp, xl'] 63)) := (((hA0.then Ag.app).mono (fun _ e => e.elim)).then (A2.mono (fun n e => .inr (he3 n e)))).then (Ag.set (.inl rfl))
    have hcl : ∀ n, n < M.length → colN (colN col M.length 4) M1.length 3 n = col n := fun n h => by rw [colN_lt (by omega), colN_lt h]
    have hSf : Ag (fun n => n = f) M2 (M2.set f (.row [xp, xl'] 63)) := Ag.set rfl
    refine dropC_all (by simp; omega) (hK _ _ (colN (colN col M.length 4) M1.length 3) xl' hcl (List.getElem?_set_self (by omega)) ⟨insAt es i (⟨c.1.key, c.1.side, 1, 0, 0#64, 0#64, 0, 0⟩, y), ?_, ?_, fun d e => ?_, fun e he => ?_⟩ hT)
    · rw [map_insAt, he1]
      unfold St.give
      rw [hl]
      simp only
      rw [hi.ins hl]
    · rw [map_insAt]
      exact w1.ag hSf (fun d e h => by
        rcases w2 d e with g | g
        · have := he3 d g; rw [h, hfc] at this; omega
        · omega)
    · rcases w2 d e with g | g
      · exact (hcl d (hxn d g)).trans (he3 d g)
      · exact colN_ge (by omega)
    · rcases mem_insAt.1 he with rfl | he
      · exact ⟨((b1.app).ag A2 (fun d e h => by have := hxn d h; have := n1 d e; omega)).ag hSf (fun d e h => by have := n1 d e; omega), fun d e => (colN_lt (b1.dn d e)).trans (colN_ge (by have := n1 d e; omega))⟩
      · exact (he4 e he).ag hT hcl (fun n hn h g => by
          rcases g with g | g
          · rw [g, hfc] at h; omega
          · omega)
  | some j =>
    obtain rfl := hi.eq hs hl
    refine ⟨fun h => absurd h (by simp), fun _ => ?_⟩
    obtain ⟨es, he1, he2, he3, he4⟩ := hL
    have hlen : es.length = s.ls.length := by rw [← he1, List.length_map]
    obtain ⟨l, hli, hkey⟩ := (St.lane_some hs).1 hl
    have hil := (List.getElem?_eq_some_iff.1 hli).1
    obtain ⟨e0, hei⟩ : ∃ e, es[i]? = some e := ⟨_, List.getElem?_eq_getElem (by omega)⟩
    have he0 : e0.1 = l := by
      have : (es.map (·.1))[i]? = some e0.1 := by rw [List.getElem?_map, hei]; rfl
      rw [he1, hli] at this; cases this; rfl
    have hok := hs.lane l (List.mem_of_getElem? hli)
    have hcur := hok.cur
    have hnext := hok.next
    obtain ⟨h0, h1, ⟨rfl, h2⟩ | ⟨n, cap, zz, ty, rfl, h2, h3⟩⟩ := he2
    · rw [List.map_eq_nil_iff] at h2
      rw [h2] at hlen
      simp only [List.length_nil] at hlen
      omega
    have hln := kw h2
    have hnf : f ≠ n := fun e => by have := he3 n rfl; rw [← e, hfc] at this; omega
    have hmi : (es.map lnC)[i]? = some (lnC e0) := by rw [List.getElem?_map, hei]; rfl
    have hlk : ∀ c ∈ es.map lnC, c.length = 8 := fun c hc => (h1 c hc).1
    have hml : (es.map lnC).length = es.length := List.length_map _
    have g2 := flat_get (zz := zz) (j := 2) hlk hmi (by decide)
    have g3 := flat_get (zz := zz) (j := 3) hlk hmi (by decide)
    have hfl := flat_length hlk
    have hi8 : i * 8 + 8 ≤ ((es.map lnC).flatten ++ zz).length := by rw [List.length_append, hfl]; omega
    (refine top_in ?_; simp -implicitDefEqProofs only [go_sem, -List.reduceReplicate, ↓L_gdZ_tt, ↓L_gdZ_tf, ↓L_gdZ_ft, ↓L_gdZ_ff, ↓T_and, ↓T_imp, ↓T_all, get_lt hwf, hf, get_lt hln, h2]; try simp only [top_out])
    refine ⟨by omega, by omega, by rw [hfl]; omega, ?_⟩
    obtain ⟨q2, q2'⟩ := isI_of (g2.trans (show _ = some (SV.i .i64 e0.1.cur) from rfl))
    obtain ⟨q3, q3'⟩ := isI_of (g3.trans (show _ = some (SV.i .i64 e0.1.next) from rfl))
    obtain ⟨R, hR⟩ : ∃ R, (es.map lnC).flatten ++ zz = R := ⟨_, rfl⟩
    rw [hR] at q2 q2' q3 q3' hi8 h2
    have hwrap : IntKind.i64.wrap (max e0.1.cur e0.1.next + 1) = l.lifted := by
      rw [w64 (by rw [he0]; omega) (by rw [he0]; omega), he0]; rfl
    refine draw_rule tabOK (by kernel_rfl : _) (.p 0 (.p 1 (.p 2 (.p 3 (.p 4 (.p 5 (.p 6 (.p 7 (.p 8 (.p 9 (.p 10 (.p 11 (.p 12 (.p 13 (.p 14 (.e 15 [] (.p 16 (.p 17 (.e 18 [] (.p 19 (.p 20 (.e 21 [] .nil .no))) .no))) .no)))))))))))))))) (by kernel_rfl) (by kernel_rfl) ?_
    have hh : ∀ (B : Blk) (L : List Blk), ((M ++ L).set n B)[n]? = some B := fun B L => gss0 (by rw [List.length_append]; omega)
    (refine top_in ?_; simp -implicitDefEqProofs only [go_sem, -List.reduceReplicate, ↓L_gdZ_tt, ↓L_gdZ_tf, ↓L_gdZ_ft, ↓L_gdZ_ff, ↓T_and, ↓T_imp, ↓T_all, get_lt hwf, hf, get_lt hln, h2, q2, q2', q3, q3', hwrap, hh, List.set_set, List.length_set]; try simp only [top_out])
    repeat refine ⟨by omega, ?_⟩
    subst he0
    have hrow : ((R.set (i * 8 + 2) (.i .i64 e0.1.lifted)).set (i * 8 + 4) (.u64 0#64)).set (i * 8 + 5) (.u64 0#64) = ((es.set i (({ e0.1 with cur := e0.1.lifted, sc := 0#64, ce := 0#64 } : Ln), e0.2)).map lnC).flatten ++ zz := by
      have hl2 : ∀ c', c'.length = 8 → ∀ c ∈ (es.map lnC).set i c', c.length = 8 := fun c' hc' c hc => by
        rcases List.mem_or_eq_of_mem_set hc with g | rfl
        · exact hlk c g
        · exact hc'
      have hi2 : ∀ c' : List SV, ((es.map lnC).set i c')[i]? = some c' := fun c' => List.getElem?_set_self (by rw [List.length_map]; omega)
      rw [← hR, flat_set i (j := 2) _ hlk hmi (by decide), flat_set i (j := 4) _ (hl2 _ rfl) (hi2 _) (by decide), List.set_set, flat_set i (j := 5) _ (hl2 _ rfl) (hi2 _) (by decide), List.set_set, List.map_set]; rfl
    rw [hrow]
    generalize hE : (({ e0.1 with cur := e0.1.lifted, sc := 0#64, ce := 0#64 } : Ln), e0.2) = e1
    have hB : ∀ (L : List Blk) (B : Blk), Ag (fun d => d = n) M ((M ++ L).set n B) := fun L B => (Ag.app (S := fun d => d = n)).then (Ag.set rfl)
    have hone : ∀ c ∈ (es.set i e1).map lnC, c.length = 8 ∧ c.all SV.one = true := fun c hc => by
      rw [List.map_set] at hc
      rcases List.mem_or_eq_of_mem_set hc with g | rfl
      · exact h1 c g
      · have o := (he4 e0 (List.mem_of_getElem? hei)).key.one
        rw [← hE]; exact ⟨rfl, by simp [lnC, o, one_i64, one_u64]⟩
    have hlm : ((es.set i e1).map lnC).length = (es.map lnC).length := by rw [List.length_map, List.length_map, List.length_set]
    have hn3 := he3 n rfl
    refine dropC_all (by simp) (hK _ _ col _ (fun _ _ => rfl) ((hB _ _).get hf hnf) ⟨es.set i e1, ?_, ⟨by omega, hone, .inr ⟨n, cap, zz, ty, by rw [hlm], hh _ _, by rw [hlm]; exact h3⟩⟩, he3, fun e he => ?_⟩ ((hB _ _).mono (fun d e => .inr (e ▸ hn3))))
    · rw [List.map_set, he1, ← hE]
      unfold St.give
      rw [hl]
      simp only [hli]
    · rcases List.mem_or_eq_of_mem_set he with g | rfl
      · exact (he4 e g).ag (hB _ _) (fun _ _ => rfl) (fun d hd h e => by rw [e, hn3] at h; omega)
      · subst hE
        have h0 := fun (L : List Blk) (B : Blk) => (he4 e0 (List.mem_of_getElem? hei)).ag (c' := col) (hB L B) (fun _ _ => rfl) (fun d hd h e => by rw [e, hn3] at h; omega)
        exact ⟨(h0 _ _).key, (h0 [] .dead).kc⟩
end Go.Proofs.Ytdcplcfedcmcmaa.Eng
