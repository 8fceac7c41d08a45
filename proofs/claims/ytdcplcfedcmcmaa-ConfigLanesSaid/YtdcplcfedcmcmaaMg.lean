/- Joined texts: E7, E8. -/
import Derived.Test.YtdcplcfedcmcmaaE6
/- The program's fold: made from lists. -/
namespace Go.Proofs.Ytdcplcfedcmcmaa.Eng
open Go Go.RowKit
set_option linter.unusedSimpArgs false
set_option linter.unusedVariables false

theorem getElem?_set_iff {α : Type} {l : List α} {k j : Nat} {a b : α} (h : (l.set k a)[j]? = some b) : (j = k ∧ b = a) ∨ (j ≠ k ∧ l[j]? = some b) := by
  rw [List.getElem?_set] at h
  split at h
  · split at h
    · cases h; exact .inl ⟨by omega, rfl⟩
    · cases h
  · exact .inr ⟨by omega, h⟩
theorem set_sameE {α : Type} {l : List α} {k : Nat} {a : α} (h : l[k]? = some a) : l.set k a = l := by
  apply List.ext_getElem?
  intro j
  rw [List.getElem?_set]
  split
  · rename_i e; subst e
    rw [h, if_pos (List.getElem?_eq_some_iff.1 h).1]
  · rfl
structure Cp (M M' : List Blk) (col : Nat → Nat) (f : Nat) (yp yl : SV) (es es' : List (Pr × SV × SV)) (fs fs' : List (Ln × SV)) (k j : Nat) : Prop where
  ag : Ag (fun _ => False) M M'
  out : ∀ n, n < M.length → col n = 0
  fc : col f = 1
  row : M'[f]? = some (.row [yp, yl] 63)
  pf : es'.map (·.1) = es.map (·.1)
  po : Own M' 3 yp (es'.map prC)
  pn : NmG (fun n => col n = 2) yp
  pd : ∀ (i : Nat) e, es'[i]? = some e → i < k → PrF M' col e
  pt : ∀ (i : Nat) e, es'[i]? = some e → k ≤ i → es[i]? = some e
  lf : fs'.map (·.1) = fs.map (·.1)
  lo : Own M' 8 yl (fs'.map lnC)
  ln : NmG (fun n => col n = 3) yl
  ld : ∀ (i : Nat) e, fs'[i]? = some e → i < j → LnF M' col e
  lt : ∀ (i : Nat) e, fs'[i]? = some e → j ≤ i → fs[i]? = some e
set_option maxHeartbeats 1000000 in
theorem copied_ok (G G' : Nat → Prop) (xp xl : SV) (s : St) (M : List Blk) (K : SV → List Blk → Prop) (hP : Prs M G xp s.ps) (hL : Lns M G' xl s.ls) (hs : s.Right)
    (hK : ∀ M' col f xp' xl', (∀ n, n < M.length → col n = 0) → col f = 1 → M'[f]? = some (.row [xp', xl'] 63) → PrsF M' col xp' s.ps → LnsF M' col xl' s.ls → Ag (fun _ => False) M M' → K (.p f 0) M') :
    callVC Try.prog 15 [xp, xl] M K := by
  have hnp := hs.np
  have hnl := hs.nl
  have o1 := hP.one
  have o2 := hL.one
  obtain ⟨es, he1, he2, he3, he4⟩ := hP
  obtain ⟨fs, hf1, hf2, hf3, hf4⟩ := hL
  have hle : es.length = s.ps.length := by rw [← he1, List.length_map]
  have hlf : fs.length = s.ls.length := by rw [← hf1, List.length_map]
  refine fn_rule tabOK Try.func15 rfl Try.call15 (by kernel_rfl) (fun hM => ?_)
  (refine top_in ?_; simp -implicitDefEqProofs only [Try.ntmps15, Try.results15, go_sem, -List.reduceReplicate, ↓L_gdZ_tt, ↓L_gdZ_tf, ↓L_gdZ_ft, ↓L_gdZ_ff, ↓T_and, ↓T_imp, ↓T_all]; try simp only [top_out])
  refine clonePr_ok xp _ M _ he2 (by rw [List.length_map]; omega) (fun M1 yp w1 n1 A1 => ?_)
  (refine top_in ?_; simp -implicitDefEqProofs only [go_sem, -List.reduceReplicate, ↓L_gdZ_tt, ↓L_gdZ_tf, ↓L_gdZ_ft, ↓L_gdZ_ff, ↓T_and, ↓T_imp, ↓T_all]; try simp only [top_out])
  refine cloneLn_ok xl _ M1 _ (hf2.ag A1 (fun _ _ e => e)) (by rw [List.length_map]; omega) (fun M2 yl w2 n2 A2 => ?_)
  have o3 := w1.one
  have o4 := w2.one
  have m1 := A1.1
  have m2 := A2.1
  have la : ∀ {M' : List Blk} {e a' b' : Nat} {K : SV → Prop}, lenB (.slice e a' b') M' yp K = K (.i .i64 s.ps.length) := by intro M' e a b K; rw [(w1.lst (by decide)).lenB, List.length_map, hle]
  have lb : ∀ {M' : List Blk} {e a' b' : Nat} {K : SV → Prop}, lenB (.slice e a' b') M' yl K = K (.i .i64 s.ls.length) := by intro M' e a b K; rw [(w2.lst (by decide)).lenB, List.length_map, hlf]
  (refine top_in ?_; simp -implicitDefEqProofs only [go_sem, -List.reduceReplicate, ↓L_gdZ_tt, ↓L_gdZ_tf, ↓L_gdZ_ft, ↓L_gdZ_ff, ↓T_and, ↓T_imp, ↓T_all, o3, o4, cellsS_one o3, cellsS_one o4, la]; try simp only [top_out])
  have hM2 : Ag (fun _ => False) M M2 := A1.then A2
  refine loop_code tabOK (by kernel_rfl) (fun m ts M' => ∃ (k : Nat) (col : Nat → Nat) (es' : List (Pr × SV × SV)), k + m = s.ps.length ∧ Cp M M' col M2.length yp yl es es' fs fs k 0 ∧ frC (none :: none :: none :: none :: none :: some (.p M2.length 0) :: none :: none :: none :: none :: none :: none :: none :: none :: none :: none :: none :: none :: none :: some (yp) :: some (.i .i64 s.ps.length) :: some (.i .i64 k) :: none :: none :: none :: none :: none :: none :: none :: none :: none :: none :: none :: none :: none :: none :: none :: none :: none :: none :: none :: none :: none :: none :: none :: none :: none :: none :: none :: none :: none :: none :: none :: none :: none :: none :: none :: none :: none :: none :: none :: none :: none :: none :: none :: none :: none :: none :: none :: []) ts) s.ps.length ?_ ?_
  · refine ⟨0, fun n => if n < M.length then 0 else if n < M1.length then 2 else if n < M2.length then 3 else 1, es, by omega, ⟨hM2.then Ag.app, fun n h => if_pos h, ?_, by rw [get_app0]; rfl, rfl, (w1.ag A2 (fun _ _ e => e)).app, fun d e => ?_, fun i e _ h => by omega, fun i e h _ => h, rfl, w2.app, fun d e => ?_, fun i e _ h => by omega, fun i e h _ => h⟩, by simp [frC]⟩
    · rw [if_neg (by omega), if_neg (by omega), if_neg (by omega)]
    · have h1 := n1 d e
      have h2 := w1.dn d e
      simp only
      rw [if_neg (by omega), if_pos (by omega)]
    · have h1 := n2 d e
      have h2 := w2.dn d e
      simp only
      rw [if_neg (by omega), if_neg (by omega), if_pos (by omega)]
  · rintro m ts M3 ⟨k, col, es', hk, C, hf⟩
    have hm := C.ag.1
    obtain ⟨f, rfl⟩ := frC_open _ _ 0 hf
    clear hf
    (refine top_in ?_; simp -implicitDefEqProofs only [go_sem, -List.reduceReplicate, ↓L_gdZ_tt, ↓L_gdZ_tf, ↓L_gdZ_ft, ↓L_gdZ_ff, ↓T_and, ↓T_imp, ↓T_all, la]; try simp only [top_out])
    refine ⟨fun h1 => ?_, fun h1 => ?_⟩
    · have hle' : es'.length = es.length := by have := congrArg List.length C.pf; simpa using this
      obtain ⟨e0, hei⟩ : ∃ e, es'[k]? = some e := ⟨_, List.getElem?_eq_getElem (by omega)⟩
      have hoi := C.pt k e0 hei (Nat.le_refl k)
      have heM := he4 e0 (List.mem_of_getElem? hoi)
      have heM3 := heM.ag C.ag (fun _ _ _ e => e)
      obtain ⟨h00, h11, ⟨rfl, hnil⟩ | ⟨n, cap, zz, ty, rfl, h2, h3⟩⟩ := C.po
      · rw [List.map_eq_nil_iff] at hnil
        rw [hnil] at hle'
        simp only [List.length_nil] at hle'
        omega
      have hn2 : col n = 2 := C.pn n rfl
      have hln := kw h2
      have hmi : (es'.map prC)[k]? = some (prC e0) := by rw [List.getElem?_map, hei]; rfl
      have hlk : ∀ c ∈ es'.map prC, c.length = 3 := fun c hc => (h11 c hc).1
      have hml : (es'.map prC).length = es'.length := List.length_map _
      have hfl := flat_length hlk
      have hi8 : k * 3 + 3 ≤ ((es'.map prC).flatten ++ zz).length := by rw [List.length_append, hfl]; omega
      have g1 := flat_at (zz := zz) hlk hmi
      obtain ⟨R, hR⟩ : ∃ R, (es'.map prC).flatten ++ zz = R := ⟨_, rfl⟩
      rw [hR] at hi8 h2 g1
      have hrf := C.row
      have o5 := heM3.key.one
      have o6 := heM3.pfx.one
      have hf3 : ∀ L, (M3 ++ L)[M2.length]? = _ := fun L => (get_lt (kw hrf)).trans hrf
      have hn3 : ∀ L, (M3 ++ L)[n]? = _ := fun L => (get_lt hln).trans h2
      rw [show prC e0 = [SV.i .i64 e0.1.link, e0.2.1, e0.2.2] from rfl] at g1
      (refine top_in ?_; simp -implicitDefEqProofs only [go_sem, -List.reduceReplicate, ↓L_gdZ_tt, ↓L_gdZ_tf, ↓L_gdZ_ft, ↓L_gdZ_ff, ↓T_and, ↓T_imp, ↓T_all, h2, g1, o5, o6]; try simp only [top_out])
      repeat refine ⟨by omega, ?_⟩
      refine draw_rule tabOK (by kernel_rfl : _) (.p 0 (.p 1 (.p 2 (.p 3 (.p 4 (.p 5 (.p 6 (.p 7 (.p 8 (.p 9 (.p 10 (.p 11 (.p 13 (.p 14 (.e 12 [1, 2, 3, 6, 7, 8, 13, 14] (.e 15 [1, 2, 3, 6, 7, 8] (.p 16 (.p 17 (.e 18 [] (.p 19 (.p 20 (.e 21 [] .nil .no))) .no))) .no) .no))))))))))))))) (by kernel_rfl) (by kernel_rfl) ?_
      (refine top_in ?_; simp -implicitDefEqProofs only [go_sem, -List.reduceReplicate, ↓L_gdZ_tt, ↓L_gdZ_tf, ↓L_gdZ_ft, ↓L_gdZ_ff, ↓T_and, ↓T_imp, ↓T_all, h2, hf3, hn3, o5, o6, hrf]; try simp only [top_out])
      refine clone_byt _ _ _ _ heM3.key.app (fun M4 y b4 n4 A4 => ?_)
      have c0 := A4.at0 noS rfl
      have c1 := A4.get (hf3 _) (fun e => e)
      have c2 := A4.get (hn3 _) (fun e => e)
      have m4 := A4.1
      simp only [List.length_append, List.length_cons, List.length_nil] at m4 n4
      have o7 := b4.one
      (refine top_in ?_; simp -implicitDefEqProofs only [go_sem, -List.reduceReplicate, ↓L_gdZ_tt, ↓L_gdZ_tf, ↓L_gdZ_ft, ↓L_gdZ_ff, ↓T_and, ↓T_imp, ↓T_all, c0, c1, c2, o5, o6, o7, cellsS_one o7]; try simp only [top_out])
      refine clonePx_ok e0.2.2 _ M4 _ (heM3.pfx.app.ag A4 (fun _ _ e => e)) (by rw [List.length_map]; have := (hs.peer e0.1 (by rw [← he1]; exact List.mem_map.2 ⟨e0, List.mem_of_getElem? hoi, rfl⟩)).many; omega) (fun M5 z w5 n5 A5 => ?_)
      have d0 := A5.get c0 (fun e => e)
      have d1 := A5.get c1 (fun e => e)
      have d2 := A5.get c2 (fun e => e)
      have m5 := A5.1
      have o8 := w5.one
      have hmf : ∀ B, (M5.set n B)[M2.length]? = M5[M2.length]? := fun B => List.getElem?_set_ne (fun e => by have := C.fc; rw [← e, hn2] at this; omega)
      have hmn : ∀ B, (M5.set n B)[n]? = some B := fun B => List.getElem?_set_self (by omega)
      (refine top_in ?_; simp -implicitDefEqProofs only [go_sem, -List.reduceReplicate, ↓L_gdZ_tt, ↓L_gdZ_tf, ↓L_gdZ_ft, ↓L_gdZ_ff, ↓T_and, ↓T_imp, ↓T_all, d0, d1, d2, o5, o6, o7, o8, cellsS_one o7, cellsS_one o8, hmf, hmn, List.set_set, List.length_set]; try simp only [top_out])
      repeat (with_reducible refine And.intro (by omega) ?_)
      have hl2 : ∀ c', c'.length = 3 → ∀ c ∈ (es'.map prC).set k c', c.length = 3 := fun c' hc' c hc => by
        rcases List.mem_or_eq_of_mem_set hc with g | rfl
        · exact hlk c g
        · exact hc'
      have hi2 : ∀ c' : List SV, ((es'.map prC).set k c')[k]? = some c' := fun c' => List.getElem?_set_self (by omega)
      have hrow : (R.set (k * 3 + 1) y).set (k * 3 + 2) z = ((es'.set k (e0.1, y, z)).map prC).flatten ++ zz := by
        rw [← hR, flat_set k (j := 1) _ hlk hmi (by decide), flat_set k (j := 2) _ (hl2 _ rfl) (hi2 _) (by decide), List.set_set, List.map_set]; rfl
      rw [hrow]
      have hT : Ag (fun d => d = n) M3 (M5.set n (.row (((es'.set k (e0.1, y, z)).map prC).flatten ++ zz) ty)) := ((Ag.app.then (A4.then A5)).mono (fun _ e => e.elim)).then (Ag.set rfl)
      have hT5 : Ag (fun d => d = n) M5 (M5.set n (.row (((es'.set k (e0.1, y, z)).map prC).flatten ++ zz) ty)) := Ag.set rfl
      have hrw2 := hmn (.row (((es'.set k (e0.1, y, z)).map prC).flatten ++ zz) ty)
      have hrf2 := (hmf (.row (((es'.set k (e0.1, y, z)).map prC).flatten ++ zz) ty)).trans d1
      generalize M5.set n (.row (((es'.set k (e0.1, y, z)).map prC).flatten ++ zz) ty) = M6 at hT hT5 hrw2 hrf2
      have hcl : ∀ d, d < M3.length → colN (colN col M3.length 4) M4.length (5 + e0.1.link.toNat) d = col d := fun d h => by rw [colN_lt (by omega), colN_lt h]
      have hnM : M.length ≤ n := by
        rcases Nat.lt_or_ge n M.length with q | q
        · have := C.out n q; omega
        · exact q
      have hml2 : ((es'.set k (e0.1, y, z)).map prC).length = (es'.map prC).length := by rw [List.length_map, List.length_map, List.length_set]
      refine ⟨m - 1, by omega, k + 1, colN (colN col M3.length 4) M4.length (5 + e0.1.link.toNat), es'.set k (e0.1, y, z), by omega, ⟨Ag.trans C.ag hT (fun d h1 h2 => by omega), fun d h => (hcl d (by omega)).trans (C.out d h), (hcl _ (kw hrf)).trans C.fc, hrf2, ?_, ⟨by omega, fun c hc => ?_, .inr ⟨n, cap, zz, ty, by rw [hml2], hrw2, by rw [hml2]; exact h3⟩⟩, fun d e => by cases e; exact (hcl n hln).trans hn2, fun i e hi hik => ?_, fun i e hi hik => ?_, rfl, C.lo.ag hT (fun d e h => by have := C.ln d e; rw [show d = n from h, hn2] at this; omega), C.ln.cong C.lo.dn (fun d hd g => (hcl d hd).trans g), fun i e _ h => by omega, C.lt⟩, w64 (by omega) (by omega)⟩
      · rw [List.map_set, ← C.pf]
        exact set_sameE (by rw [List.getElem?_map, hei]; rfl)
      · rw [List.map_set] at hc
        rcases List.mem_or_eq_of_mem_set hc with g | rfl
        · exact h11 c g
        · exact ⟨rfl, by simp [prC, o7, o8, one_i64]⟩
      · rcases getElem?_set_iff hi with ⟨rfl, rfl⟩ | ⟨hne, hi'⟩
        · refine ⟨(b4.ag A5 (fun _ _ e => e)).ag hT5 (fun d e h => by have := n4 d e; have h2 : d = n := h; omega), fun d e => (colN_lt (b4.dn d e)).trans (colN_ge (by have := n4 d e; omega)), w5.ag hT5 (fun d e h => by have := n5 d e; have h2 : d = n := h; omega), fun d e => colN_ge (n5 d e)⟩
        · exact (C.pd i e hi' (by omega)).ag hT hcl (fun d hd h g => by rw [g, hn2] at h; omega)
      · rcases getElem?_set_iff hi with ⟨rfl, rfl⟩ | ⟨hne, hi'⟩
        · omega
        · exact C.pt i e hi' (by omega)
    · obtain rfl : k = s.ps.length := by omega
      (refine top_in ?_; simp -implicitDefEqProofs only [go_sem, -List.reduceReplicate, ↓L_gdZ_tt, ↓L_gdZ_tf, ↓L_gdZ_ft, ↓L_gdZ_ff, ↓T_and, ↓T_imp, ↓T_all, C.row, o3, o4, lb]; try simp only [top_out])
      refine loop_code tabOK (by kernel_rfl) (fun m ts M' => ∃ (k : Nat) (col : Nat → Nat) (fs' : List (Ln × SV)), k + m = s.ls.length ∧ Cp M M' col M2.length yp yl es es' fs fs' s.ps.length k ∧ frC (none :: none :: none :: none :: none :: some (.p M2.length 0) :: none :: none :: none :: none :: none :: none :: none :: none :: none :: none :: none :: none :: none :: none :: none :: none :: none :: none :: none :: none :: none :: none :: none :: none :: none :: none :: none :: none :: none :: none :: none :: none :: none :: none :: none :: none :: none :: none :: none :: none :: none :: none :: none :: none :: some (yl) :: some (.i .i64 s.ls.length) :: some (.i .i64 k) :: none :: none :: none :: none :: none :: none :: none :: none :: none :: none :: none :: none :: none :: none :: none :: none :: []) ts) s.ls.length ?_ ?_
      · exact ⟨0, col, fs, by omega, C, by simp [frC]⟩
      · clear hm hk C
        rintro m ts M3 ⟨k, col, fs', hk, C, hf⟩
        have hm := C.ag.1
        obtain ⟨f, rfl⟩ := frC_open _ _ 0 hf
        clear hf
        (refine top_in ?_; simp -implicitDefEqProofs only [go_sem, -List.reduceReplicate, ↓L_gdZ_tt, ↓L_gdZ_tf, ↓L_gdZ_ft, ↓L_gdZ_ff, ↓T_and, ↓T_imp, ↓T_all, lb]; try simp only [top_out])
        refine ⟨fun h1 => ?_, fun h1 => ?_⟩
        · have hle' : fs'.length = fs.length := by have := congrArg List.length C.lf; simpa using this
          obtain ⟨e0, hei⟩ : ∃ e, fs'[k]? = some e := ⟨_, List.getElem?_eq_getElem (by omega)⟩
          have hoi := C.lt k e0 hei (Nat.le_refl k)
          have heM := hf4 e0 (List.mem_of_getElem? hoi)
          have heM3 := heM.ag C.ag (fun _ _ _ e => e)
          obtain ⟨h00, h11, ⟨rfl, hnil⟩ | ⟨n, cap, zz, ty, rfl, h2, h3⟩⟩ := C.lo
          · rw [List.map_eq_nil_iff] at hnil
            rw [hnil] at hle'
            simp only [List.length_nil] at hle'
            omega
          have hn2 : col n = 3 := C.ln n rfl
          have hln := kw h2
          have hmi : (fs'.map lnC)[k]? = some (lnC e0) := by rw [List.getElem?_map, hei]; rfl
          have hlk : ∀ c ∈ fs'.map lnC, c.length = 8 := fun c hc => (h11 c hc).1
          have hml : (fs'.map lnC).length = fs'.length := List.length_map _
          have hfl := flat_length hlk
          have hi8 : k * 8 + 8 ≤ ((fs'.map lnC).flatten ++ zz).length := by rw [List.length_append, hfl]; omega
          have g1 := flat_at (zz := zz) hlk hmi
          obtain ⟨R, hR⟩ : ∃ R, (fs'.map lnC).flatten ++ zz = R := ⟨_, rfl⟩
          rw [hR] at hi8 h2 g1
          have hrf := C.row
          have o5 := heM3.key.one
          have hf3 : ∀ L, (M3 ++ L)[M2.length]? = _ := fun L => (get_lt (kw hrf)).trans hrf
          have hn3 : ∀ L, (M3 ++ L)[n]? = _ := fun L => (get_lt hln).trans h2
          rw [show lnC e0 = [e0.2, SV.i .i64 e0.1.side, .i .i64 e0.1.cur, .i .i64 e0.1.next, .u64 e0.1.sc, .u64 e0.1.ce, .i .i64 e0.1.sec, .i .i64 e0.1.nano] from rfl] at g1
          (refine top_in ?_; simp -implicitDefEqProofs only [go_sem, -List.reduceReplicate, ↓L_gdZ_tt, ↓L_gdZ_tf, ↓L_gdZ_ft, ↓L_gdZ_ff, ↓T_and, ↓T_imp, ↓T_all, h2, g1, o5]; try simp only [top_out])
          repeat (with_reducible refine And.intro (by omega) ?_)
          refine draw_rule tabOK (by kernel_rfl : _) (.p 0 (.p 1 (.p 2 (.p 3 (.p 4 (.p 5 (.p 6 (.e 7 [1, 2, 3] (.p 8 (.p 9 (.e 10 [] .nil .no))) .no)))))))) (by kernel_rfl) (by kernel_rfl) ?_
          (refine top_in ?_; simp -implicitDefEqProofs only [go_sem, -List.reduceReplicate, ↓L_gdZ_tt, ↓L_gdZ_tf, ↓L_gdZ_ft, ↓L_gdZ_ff, ↓T_and, ↓T_imp, ↓T_all, h2, hf3, hn3, o5, hrf]; try simp only [top_out])
          refine clone_byt _ _ _ _ heM3.key.app (fun M4 y b4 n4 A4 => ?_)
          have c0 := A4.at0 noS rfl
          have c1 := A4.get (hf3 _) (fun e => e)
          have c2 := A4.get (hn3 _) (fun e => e)
          have m4 := A4.1
          simp only [List.length_append, List.length_cons, List.length_nil] at m4 n4
          have o7 := b4.one
          have hmf : ∀ B, (M4.set n B)[M2.length]? = M4[M2.length]? := fun B => List.getElem?_set_ne (fun e => by have := C.fc; rw [← e, hn2] at this; omega)
          have hmn : ∀ B, (M4.set n B)[n]? = some B := fun B => List.getElem?_set_self (by omega)
          (refine top_in ?_; simp -implicitDefEqProofs only [go_sem, -List.reduceReplicate, ↓L_gdZ_tt, ↓L_gdZ_tf, ↓L_gdZ_ft, ↓L_gdZ_ff, ↓T_and, ↓T_imp, ↓T_all, c0, c1, c2, o5, o7, cellsS_one o7, hmf, hmn, List.set_set, List.length_set]; try simp only [top_out])
          repeat (with_reducible refine And.intro (by omega) ?_)
          have hrow : R.set (k * 8) y = ((fs'.set k (e0.1, y)).map lnC).flatten ++ zz := by
            have := flat_set (zz := zz) k (j := 0) y hlk hmi (by decide)
            rw [hR, Nat.add_zero] at this
            rw [this, List.map_set]; rfl
          rw [hrow]
          have hT : Ag (fun d => d = n) M3 (M4.set n (.row (((fs'.set k (e0.1, y)).map lnC).flatten ++ zz) ty)) := ((Ag.app.then A4).mono (fun _ e => e.elim)).then (Ag.set rfl)
          have hT5 : Ag (fun d => d = n) M4 (M4.set n (.row (((fs'.set k (e0.1, y)).map lnC).flatten ++ zz) ty)) := Ag.set rfl
          have hrw2 := hmn (.row (((fs'.set k (e0.1, y)).map lnC).flatten ++ zz) ty)
          have hrf2 := (hmf (.row (((fs'.set k (e0.1, y)).map lnC).flatten ++ zz) ty)).trans c1
          generalize M4.set n (.row (((fs'.set k (e0.1, y)).map lnC).flatten ++ zz) ty) = M6 at hT hT5 hrw2 hrf2
          have hcl : ∀ d, d < M3.length → colN col M3.length 4 d = col d := fun d h => by rw [colN_lt h]
          have hnM : M.length ≤ n := by
            rcases Nat.lt_or_ge n M.length with q | q
            · have := C.out n q; omega
            · exact q
          have hml2 : ((fs'.set k (e0.1, y)).map lnC).length = (fs'.map lnC).length := by rw [List.length_map, List.length_map, List.length_set]
          refine ⟨m - 1, by omega, k + 1, colN col M3.length 4, fs'.set k (e0.1, y), by omega, ⟨Ag.trans C.ag hT (fun d h1 h2 => by omega), fun d h => (hcl d (by omega)).trans (C.out d h), (hcl _ (kw hrf)).trans C.fc, hrf2, C.pf, C.po.ag hT (fun d e h => by have := C.pn d e; rw [show d = n from h, hn2] at this; omega), C.pn.cong C.po.dn (fun d hd g => (hcl d hd).trans g), fun i e hi h => (C.pd i e hi h).ag hT hcl (fun d hd h g => by rw [show d = n from g, hn2] at h; omega), C.pt, ?_, ⟨by omega, fun c hc => ?_, .inr ⟨n, cap, zz, ty, by rw [hml2], hrw2, by rw [hml2]; exact h3⟩⟩, fun d e => by cases e; exact (hcl n hln).trans hn2, fun i e hi hik => ?_, fun i e hi hik => ?_⟩, w64 (by omega) (by omega)⟩
          · rw [List.map_set, ← C.lf]
            exact set_sameE (by rw [List.getElem?_map, hei]; rfl)
          · rw [List.map_set] at hc
            rcases List.mem_or_eq_of_mem_set hc with g | rfl
            · exact h11 c g
            · exact ⟨rfl, by simp [lnC, o7, one_i64, one_u64]⟩
          · rcases getElem?_set_iff hi with ⟨rfl, rfl⟩ | ⟨hne, hi'⟩
            · exact ⟨b4.ag hT5 (fun d e h => by have := n4 d e; have h2 : d = n := h; omega), fun d e => colN_ge (by have := n4 d e; omega)⟩
            · exact (C.ld i e hi' (by omega)).ag hT hcl (fun d hd h g => by rw [show d = n from g, hn2] at h; omega)
          · rcases getElem?_set_iff hi with ⟨rfl, rfl⟩ | ⟨hne, hi'⟩
            · omega
            · exact C.lt i e hi' (by omega)
        · obtain rfl : k = s.ls.length := by omega
          have hle1 : es'.length = es.length := by have := congrArg List.length C.pf; simpa using this
          have hle2 : fs'.length = fs.length := by have := congrArg List.length C.lf; simpa using this
          refine dropC_all hm (hK M3 col M2.length yp yl C.out C.fc C.row ⟨es', C.pf.trans he1, C.po, C.pn, fun e he => ?_⟩ ⟨fs', C.lf.trans hf1, C.lo, C.ln, fun e he => ?_⟩ C.ag)
          · obtain ⟨i, hi⟩ := List.getElem?_of_mem he
            exact C.pd i e hi (by have := (List.getElem?_eq_some_iff.1 hi).1; omega)
          · obtain ⟨i, hi⟩ := List.getElem?_of_mem he
            exact C.ld i e hi (by have := (List.getElem?_eq_some_iff.1 hi).1; omega)
end Go.Proofs.Ytdcplcfedcmcmaa.Eng

/- The program's judge. -/
namespace Go.Proofs.Ytdcplcfedcmcmaa.Eng
open Go Go.RowKit
set_option linter.unusedSimpArgs false
set_option linter.unusedVariables false

theorem PrsF.prsN {M M0 : List Blk} {c : Nat → Nat} {x : SV} {ps : List Pr} (h : PrsF M c x ps) (hout : ∀ n, n < M0.length → c n = 0) : Prs M (fun n => M0.length ≤ n) x ps := h.prs.mono (fun n g => by
  rcases Nat.lt_or_ge n M0.length with q | q
  · exact absurd (hout n q) g
  · exact q)
theorem LnsF.lnsN {M M0 : List Blk} {c : Nat → Nat} {x : SV} {ps : List Ln} (h : LnsF M c x ps) (hout : ∀ n, n < M0.length → c n = 0) : Lns M (fun n => M0.length ≤ n) x ps := h.lns.mono (fun n g => by
  rcases Nat.lt_or_ge n M0.length with q | q
  · exact absurd (hout n q) g
  · exact q)
set_option maxHeartbeats 1000000 in
theorem judgeF_ok (G G' G2 : Nat → Prop) (xp xl xc : SV) (s : St) (cs : List Ch) (M : List Blk) (K : SV → List Blk → Prop) (hP : Prs M G xp s.ps) (hL : Lns M G' xl s.ls) (hC : Chs M G2 xc cs) (hs : s.Right)
    (hE : ∀ M' (i : Nat) e, s.judge cs = .inr (i, e) → Ag (fun _ => False) M M' → K (.tup [.sn, .sn, .i .i64 i, .i .i64 e]) M')
    (hO : ∀ M' y z s' col, s.judge cs = .inl s' → PrsF M' col y s'.ps → LnsF M' col z s'.ls → (∀ n, n < M.length → col n = 0) → Ag (fun _ => False) M M' → K (.tup [y, z, .i .i64 0, .i .i64 0]) M') :
    callVC Try.prog 7 [xp, xl, xc] M K := by
  have lc : ∀ {M' : List Blk} {e a' b' : Nat} {K : SV → Prop}, lenB (.slice e a' b') M' xc K = K (.i .i64 cs.length) := hC.lenB
  have hl := hs.nl
  have hn := hs.np
  have bad : cs.length = 0 ∨ 32 < cs.length → s.judge cs = .inr (0, 160) := fun h => by unfold St.judge; rw [if_pos h]
  refine fn_rule tabOK Try.func7 rfl Try.call7 (by kernel_rfl) (fun hM => ?_)
  (refine top_in ?_; simp -implicitDefEqProofs only [Try.ntmps7, Try.results7, go_sem, -List.reduceReplicate, ↓L_gdZ_tt, ↓L_gdZ_tf, ↓L_gdZ_ft, ↓L_gdZ_ff, ↓T_and, ↓T_imp, ↓T_all, lc]; try simp only [top_out])
  refine ⟨fun h1 => ⟨fun h2 => ?_, fun h2 => ?_⟩, fun h1 => ?_⟩
  · exact dropC_self hM rfl (hE M 0 160 (bad (.inr (by omega))) Ag.refl)
  · have hgood : ¬ (cs.length = 0 ∨ 32 < cs.length) := by have := beqF h1; omega
    have hj : s.judge cs = s.run 0 cs := by unfold St.judge; rw [if_neg hgood]
    refine copied_ok G G' xp xl s M _ hP hL hs (fun M1 col f0 yp yl ho hfc hrow hP1 hL1 A1 => ?_)
    (refine top_in ?_; simp -implicitDefEqProofs only [go_sem, -List.reduceReplicate, ↓L_gdZ_tt, ↓L_gdZ_tf, ↓L_gdZ_ft, ↓L_gdZ_ff, ↓T_and, ↓T_imp, ↓T_all, lc]; try simp only [top_out])
    refine loop_code tabOK (by kernel_rfl) (fun m ts M' => ∃ (k : Nat) (col : Nat → Nat) (yp yl : SV) (s1 : St), k + m = cs.length ∧ (∀ n, n < M.length → col n = 0) ∧ col f0 = 1 ∧ M'[f0]? = some (.row [yp, yl] 63) ∧ PrsF M' col yp s1.ps ∧ LnsF M' col yl s1.ls ∧ Ag (fun _ => False) M M' ∧ s1.Right ∧ s.judge cs = s1.run k (cs.drop k) ∧
      frC [none, none, none, none, none, none, none, none, none, none, some (.p f0 0), none, none, none, none, none, none, none, none, none, none, none, none, none, none, some (xc), some (.i .i64 cs.length), some (.i .i64 k), none, none, none, none, none, none, none, none, none, none, none, none, none, none, none, none, none, none, none, none, none, none, none] ts) cs.length ?_ ?_
    · exact ⟨0, col, yp, yl, s, by omega, ho, hfc, hrow, hP1, hL1, A1, hs, by rw [hj]; rfl, by simp [frC]⟩
    · rintro m ts M3 ⟨k, col, yp, yl, s1, hk, ho, hfc, hrow, hP1, hL1, hA, hs1, hr, hf⟩
      have hm := hA.1
      obtain ⟨f, rfl⟩ := frC_open _ _ 0 hf
      clear hf
      (refine top_in ?_; simp -implicitDefEqProofs only [go_sem, -List.reduceReplicate, ↓L_gdZ_tt, ↓L_gdZ_tf, ↓L_gdZ_ft, ↓L_gdZ_ff, ↓T_and, ↓T_imp, ↓T_all, lc]; try simp only [top_out])
      refine ⟨fun h3 => ?_, fun h3 => ?_⟩
      · have hC3 : Chs M3 (fun n => col n = 0) xc cs := by
          obtain ⟨es, e1, e2, e3, e4⟩ := hC
          exact ⟨es, e1, e2.ag hA (fun d e h => h), fun d e => ho d (e2.dn d e), fun e he => ((e4 e he).bnd.ag hA (fun n _ g h => h)).mono (fun n g => ho n g.2)⟩
        obtain ⟨nn, cap, c, rfl, l1, g1, g2, g3, g4⟩ := hC3.at (k := k) (by omega)
        have o5 := g2.key.one
        rw [chC_eq] at g3
        (refine top_in ?_; simp -implicitDefEqProofs only [go_sem, -List.reduceReplicate, ↓L_gdZ_tt, ↓L_gdZ_tf, ↓L_gdZ_ft, ↓L_gdZ_ff, ↓T_and, ↓T_imp, ↓T_all, g3, o5]; try simp only [top_out])
        repeat (with_reducible refine And.intro (by omega) ?_)
        refine ffault_ok _ _ (fun n => col n = 0) f0 yp yl s1 c _ _ ((get_lt (kw hrow)).trans hrow) hP1.prs.app hL1.lns.app (g2.ag (S := fun _ => False) Ag.app (fun _ _ _ e => e)) hs1 (fun M4 A4 => ?_)
        have c0 := A4.at0 noS rfl
        have hA4 : Ag (fun _ => False) M3 M4 := Ag.app.then A4
        have m4 := hA4.1
        have hdr : cs.drop k = c.1 :: cs.drop (k + 1) := by
          obtain ⟨hlt, e⟩ := List.getElem?_eq_some_iff.1 g1
          rw [List.drop_eq_getElem_cons hlt, e]
        rw [hdr] at hr
        simp only [St.run] at hr
        (refine top_in ?_; simp -implicitDefEqProofs only [go_sem, -List.reduceReplicate, ↓L_gdZ_tt, ↓L_gdZ_tf, ↓L_gdZ_ft, ↓L_gdZ_ff, ↓T_and, ↓T_imp, ↓T_all, c0, o5]; try simp only [top_out])
        refine ⟨fun h4 => ?_, fun h4 => ?_⟩
        · rw [if_neg (bneT h4)] at hr
          exact dropC_all (by omega) (hE M4 k _ hr (hA.then hA4))
        · have hf0 := bneF h4
          rw [if_pos hf0] at hr
          refine fdo_ok col f0 yp yl s1 c M4 _ (hA4.get hrow (fun e => e)) (hP1.ag hA4 (fun _ _ => rfl) (fun _ _ _ e => e)) (hL1.ag hA4 (fun _ _ => rfl) (fun _ _ _ e => e)) (g2.ag hA4 (fun _ _ _ e => e)) hs1 hfc hf0 (fun v M5 col5 yp5 yl5 hcol5 hrow5 hP5 hL5 A5 => ?_)
          (refine top_in ?_; simp -implicitDefEqProofs only [go_sem, -List.reduceReplicate, ↓L_gdZ_tt, ↓L_gdZ_tf, ↓L_gdZ_ft, ↓L_gdZ_ff, ↓T_and, ↓T_imp, ↓T_all]; try simp only [top_out])
          have hfl := kw hrow
          exact ⟨m - 1, by omega, k + 1, col5, yp5, yl5, s1.done c.1, by omega, fun n h => (hcol5 n (by omega)).trans (ho n h), (hcol5 f0 (by omega)).trans hfc, hrow5, hP5, hL5, Ag.trans (hA.then hA4) A5 (fun n h1 h2 => h2 (ho n h1)), done_right hs1 hf0, hr, w64 (by omega) (by omega)⟩
      · obtain rfl : k = cs.length := by omega
        rw [List.drop_length] at hr
        have oy4 := hP1.prs.one
        have oz4 := hL1.lns.one
        refine draw_rule tabOK (by kernel_rfl : _) (.p 0 (.p 1 (.p 2 (.p 3 (.p 4 (.p 5 (.p 6 (.p 7 (.p 8 (.p 9 (.p 10 (.p 11 .nil)))))))))))) (by kernel_rfl) (by kernel_rfl) ?_
        (refine top_in ?_; simp -implicitDefEqProofs only [go_sem, -List.reduceReplicate, ↓L_gdZ_tt, ↓L_gdZ_tf, ↓L_gdZ_ft, ↓L_gdZ_ff, ↓T_and, ↓T_imp, ↓T_all, hrow, oy4, oz4]; try simp only [top_out])
        exact dropC_all hm (hO M3 yp yl s1 col hr hP1 hL1 ho hA)
  · exact dropC_self hM rfl (hE M 0 160 (bad (.inl (by have := beqT h1; omega))) Ag.refl)
theorem judge_ok (G G' G2 : Nat → Prop) (xp xl xc : SV) (s : St) (cs : List Ch) (M : List Blk) (K : SV → List Blk → Prop) (hP : Prs M G xp s.ps) (hL : Lns M G' xl s.ls) (hC : Chs M G2 xc cs) (hs : s.Right)
    (hE : ∀ M' (i : Nat) e, s.judge cs = .inr (i, e) → Ag (fun _ => False) M M' → K (.tup [.sn, .sn, .i .i64 i, .i .i64 e]) M')
    (hO : ∀ M' y z s', s.judge cs = .inl s' → Prs M' (fun n => M.length ≤ n) y s'.ps → Lns M' (fun n => M.length ≤ n) z s'.ls → Ag (fun _ => False) M M' → K (.tup [y, z, .i .i64 0, .i .i64 0]) M') :
    callVC Try.prog 7 [xp, xl, xc] M K :=
  judgeF_ok G G' G2 xp xl xc s cs M K hP hL hC hs hE (fun M' y z s' _ h h1 h2 ho hA => hO M' y z s' h (h1.prsN ho) (h2.lnsN ho) hA)
end Go.Proofs.Ytdcplcfedcmcmaa.Eng
