/- The program's fold: the fault of a change. -/
import Derived.Test.YtdcplcfedcmcmaaE3
namespace Go.Proofs.Ytdcplcfedcmcmaa.Eng
open Go Go.RowKit
set_option linter.unusedSimpArgs false
set_option linter.unusedVariables false

theorem fspare_ok (G : Nat → Prop) (c : Ch × SV) (M : List Blk) (K : SV → List Blk → Prop) (hc : ChE M G c) (hkd : 1 ≤ c.1.kind ∧ c.1.kind ≤ 5) (hK : K (.b (!c.1.spare)) M) : callVC Try.prog 26 [.agg (chC c)] M K := by
  obtain ⟨c, xk⟩ := c
  obtain ⟨kind, link, side, key, pfx⟩ := c
  have o2 := hc.key.one
  have la : ∀ {M' : List Blk} {e a' b' : Nat} {K : SV → Prop}, lenB (.slice e a' b') M' xk K = K (.i .i64 key.length) := hc.key.lenB
  simp only at o2 hkd hK
  have hE := eqL_px pfx Pfx.none
  have h5 : kind = 1 ∨ kind = 2 ∨ kind = 3 ∨ kind = 4 ∨ kind = 5 := by omega
  rw [chC_eq]
  simp only
  rcases h5 with rfl | rfl | rfl | rfl | rfl
  · refine fn_rule tabOK Try.func26 rfl Try.call26 (by kernel_rfl) (fun hM => ?_)
    (refine top_in ?_; simp -implicitDefEqProofs only [Try.ntmps26, Try.results26, go_sem, -List.reduceReplicate, ↓L_gdZ_tt, ↓L_gdZ_tf, ↓L_gdZ_ft, ↓L_gdZ_ff, ↓T_and, ↓T_imp, ↓T_all, o2, la, Int.reduceBEq]; try simp only [top_out])
    refine ⟨rfl, dropB hM hK ?_⟩
    refine Eq.trans ?_ hE.symm
    unfold Ch.spare Ch.keyed Ch.pre; simp
  · refine fn_rule tabOK Try.func26 rfl Try.call26 (by kernel_rfl) (fun hM => ?_)
    (refine top_in ?_; simp -implicitDefEqProofs only [Try.ntmps26, Try.results26, go_sem, -List.reduceReplicate, ↓L_gdZ_tt, ↓L_gdZ_tf, ↓L_gdZ_ft, ↓L_gdZ_ff, ↓T_and, ↓T_imp, ↓T_all, o2, la, Int.reduceBEq]; try simp only [top_out])
    have hk : key.length = 0 ↔ key = [] := List.length_eq_zero_iff
    refine ⟨fun h1 => ⟨fun h2 => ⟨rfl, dropB hM hK ?_⟩, fun h2 => dropB hM hK ?_⟩, fun h1 => dropB hM hK ?_⟩
    · refine Eq.trans ?_ hE.symm
      have h3 := beqT h1
      have h4 : key = [] := hk.1 (by omega)
      have h5 := beqT h2
      unfold Ch.spare Ch.keyed Ch.pre; simp [h4, h5]
    · have h5 := beqF h2
      unfold Ch.spare Ch.keyed Ch.pre; simp [h5]
    · have h5 := beqF h1
      have h4 : key ≠ [] := fun e => h5 (by rw [e]; rfl)
      unfold Ch.spare Ch.keyed Ch.pre; simp [h4]
  · refine fn_rule tabOK Try.func26 rfl Try.call26 (by kernel_rfl) (fun hM => ?_)
    (refine top_in ?_; simp -implicitDefEqProofs only [Try.ntmps26, Try.results26, go_sem, -List.reduceReplicate, ↓L_gdZ_tt, ↓L_gdZ_tf, ↓L_gdZ_ft, ↓L_gdZ_ff, ↓T_and, ↓T_imp, ↓T_all, o2, la, Int.reduceBEq]; try simp only [top_out])
    refine ⟨rfl, dropB hM hK ?_⟩
    refine Eq.trans ?_ hE.symm
    unfold Ch.spare Ch.keyed Ch.pre; simp
  all_goals
    refine fn_rule tabOK Try.func26 rfl Try.call26 (by kernel_rfl) (fun hM => ?_)
    (refine top_in ?_; simp -implicitDefEqProofs only [Try.ntmps26, Try.results26, go_sem, -List.reduceReplicate, ↓L_gdZ_tt, ↓L_gdZ_tf, ↓L_gdZ_ft, ↓L_gdZ_ff, ↓T_and, ↓T_imp, ↓T_all, o2, la, Int.reduceBEq]; try simp only [top_out])
    have hk : key.length = 0 ↔ key = [] := List.length_eq_zero_iff
    refine ⟨fun h1 => ⟨fun h2 => dropB hM hK ?_, fun h2 => dropB hM hK ?_⟩, fun h1 => dropB hM hK ?_⟩
    · have h3 := beqT h1
      have h4 : key = [] := hk.1 (by omega)
      have h5 := beqT h2
      unfold Ch.spare Ch.keyed Ch.pre; simp [h4, h5]
    · have h5 := beqF h2
      unfold Ch.spare Ch.keyed Ch.pre; simp [h5]
    · have h5 := beqF h1
      have h4 : key ≠ [] := fun e => h5 (by rw [e]; rfl)
      unfold Ch.spare Ch.keyed Ch.pre; simp [h4]
theorem fchecks_ok (G G' G2 : Nat → Prop) (f : Nat) (xp xl : SV) (s : St) (c : Ch × SV) (M : List Blk) (K : SV → List Blk → Prop) (hf : M[f]? = some (.row [xp, xl] 63)) (hP : Prs M G xp s.ps) (hL : Lns M G' xl s.ls) (hc : ChE M G2 c) (hs : s.Right) (hsp : c.1.spare = false) (hkd : 1 ≤ c.1.kind ∧ c.1.kind ≤ 5)
    (hK : ∀ M' y es l, Ag (fun _ => False) M M' → Lst M' 2 y es → Chks M' es l → PreL l → badOf l = s.fault c.1 → l.length ≤ 100 → K y M') :
    callVC Try.prog 27 [.p f 0, .agg (chC c)] M K := by
  have h5 : c.1.kind = 1 ∨ c.1.kind = 2 ∨ c.1.kind = 3 ∨ c.1.kind = 4 ∨ c.1.kind = 5 := by omega
  rcases h5 with h | h | h | h | h
  · exact fchecks1_ok G G' G2 f xp xl s c M K hf hP hL hc hs hsp h hK
  · exact fchecks2_ok G G' G2 f xp xl s c M K hf hP hL hc hs hsp h hK
  · exact fchecks3_ok G G' G2 f xp xl s c M K hf hP hL hc hs hsp h hK
  · exact fchecks4_ok G G' G2 f xp xl s c M K hf hP hL hc hs hsp h hK
  · exact fchecks5_ok G G' G2 f xp xl s c M K hf hP hL hc hs hsp h hK
theorem badOf_drop {l : List (Prop × Bool × Int)} : ∀ {k : Nat}, (∀ (j : Nat) q, j < k → l[j]? = some q → q.2.1 = true) → badOf l = badOf (l.drop k) := by
  intro k
  induction k generalizing l with
  | zero => intro _; rfl
  | succ k ih =>
    intro h
    cases l with
    | nil => rfl
    | cons q l =>
      have h0 := h 0 q (by omega) rfl
      rw [List.drop_succ_cons]
      show (if q.2.1 = true then badOf l else q.2.2) = _
      rw [if_pos h0]
      exact ih (fun j q' hj hq => h (j + 1) q' (by omega) hq)
theorem ffault_ok (G G' G2 : Nat → Prop) (f : Nat) (xp xl : SV) (s : St) (c : Ch × SV) (M : List Blk) (K : SV → List Blk → Prop) (hf : M[f]? = some (.row [xp, xl] 63)) (hP : Prs M G xp s.ps) (hL : Lns M G' xl s.ls) (hc : ChE M G2 c) (hs : s.Right)
    (hK : ∀ M', Ag (fun _ => False) M M' → K (.i .i64 (s.fault c.1)) M') :
    callVC Try.prog 16 [.p f 0, .agg (chC c)] M K := by
  have hc0 := hc
  obtain ⟨c, xk⟩ := c
  have bad : c.spare = true → s.fault c = 160 := fun h => by unfold St.fault; rw [h]; rfl
  obtain ⟨kind, link, side, key, pfx⟩ := c
  have o2 := hc.key.one
  simp only at o2 hK bad
  rw [chC_eq]
  simp only
  have bad1 : kind < 1 → Ch.spare ⟨kind, link, side, key, pfx⟩ = true := fun h => by unfold Ch.spare; simp [h]
  have bad2 : 5 < kind → Ch.spare ⟨kind, link, side, key, pfx⟩ = true := fun h => by unfold Ch.spare; simp [h]
  refine fn_rule tabOK Try.func16 rfl Try.call16 (by kernel_rfl) (fun hM => ?_)
  (refine top_in ?_; simp -implicitDefEqProofs only [Try.ntmps16, Try.results16, go_sem, -List.reduceReplicate, ↓L_gdZ_tt, ↓L_gdZ_tf, ↓L_gdZ_ft, ↓L_gdZ_ff, ↓T_and, ↓T_imp, ↓T_all, o2]; try simp only [top_out])
  refine ⟨fun h1 => ⟨fun h2 => ?_, fun h2 => ?_⟩, fun h1 => ?_⟩
  · refine fspare_ok G2 (⟨kind, link, side, key, pfx⟩, xk) _ _ (hc0.ag (S := fun _ => False) Ag.app (fun _ _ _ e => e)) ⟨by simp only; omega, by simp only; omega⟩ ?_
    (refine top_in ?_; simp -implicitDefEqProofs only [go_sem, -List.reduceReplicate, ↓L_gdZ_tt, ↓L_gdZ_tf, ↓L_gdZ_ft, ↓L_gdZ_ff, ↓T_and, ↓T_imp, ↓T_all]; try simp only [top_out])
    have hM0 := hM
    refine ⟨fun h3 => ?_, fun h3 => ?_⟩
    · rw [Bool.not_not] at h3
      rw [bad h3] at hK
      exact dropC_append hM rfl (hK M Ag.refl)
    · rw [Bool.not_not] at h3
      refine fchecks_ok G G' G2 f xp xl s (⟨kind, link, side, key, pfx⟩, xk) _ _ ((get_lt (kw hf)).trans hf) hP.app hL.app (hc0.ag (S := fun _ => False) Ag.app (fun _ _ _ e => e)) hs h3 ⟨by simp only; omega, by simp only; omega⟩ (fun M1 y es l A1 L1 C1 P1 B1 l1 => ?_)
      have la : ∀ {M' : List Blk} {e a' b' : Nat} {K : SV → Prop}, lenB (.slice e a' b') M' y K = K (.i .i64 es.length) := L1.lenB
      have hA1 : Ag (fun _ => False) M M1 := Ag.app.then A1
      have c0 := A1.at0 noS rfl
      have hel := C1.1
      (refine top_in ?_; simp -implicitDefEqProofs only [go_sem, -List.reduceReplicate, ↓L_gdZ_tt, ↓L_gdZ_tf, ↓L_gdZ_ft, ↓L_gdZ_ff, ↓T_and, ↓T_imp, ↓T_all, la]; try simp only [top_out])
      refine loop_code tabOK (by kernel_rfl) (fun m ts M' => ∃ k : Nat, k + m = es.length ∧ Ag (fun _ => False) M1 M' ∧ (∀ (j : Nat) q, j < k → l[j]? = some q → q.2.1 = true) ∧ frC [none, none, none, none, none, none, none, none, none, none, none, none, none, none, none, none, none, none, none, none, none, none, some (y), some (.i .i64 es.length), some (.i .i64 k), none, none, none, none, none, none, none, none, none, none] ts) es.length ?_ ?_
      · exact ⟨0, by omega, Ag.refl, fun j q h => by omega, by simp [frC]⟩
      · rintro m ts M2 ⟨k, hk, hA, hb, hf⟩
        have hm := (hA1.then hA).1
        obtain ⟨f, rfl⟩ := frC_open _ _ 0 hf
        clear hf
        (refine top_in ?_; simp -implicitDefEqProofs only [go_sem, -List.reduceReplicate, ↓L_gdZ_tt, ↓L_gdZ_tf, ↓L_gdZ_ft, ↓L_gdZ_ff, ↓T_and, ↓T_imp, ↓T_all]; try simp only [top_out])
        refine ⟨fun h4 => ?_, fun h4 => ?_⟩
        · have hke : k < es.length := by omega
          obtain ⟨n, cap, rfl, l2, l3, ea⟩ := (L1.ag hA (fun _ _ e => e)).at (by omega)
          have hg : es[k]? = some es[k] := List.getElem?_eq_getElem hke
          have hq : l[k]? = some (l[k]'(by omega)) := List.getElem?_eq_getElem (by omega)
          generalize es[k] = e at hg
          generalize l[k]'(by omega) = q at hq
          obtain ⟨fi, cap', rfl, hcall⟩ := (C1.2.2 k e q hg hq (P1 k q hq hb)).ag hA
          obtain ⟨g1, g2, g3, g4⟩ := ea k _ hg
          (refine top_in ?_; simp -implicitDefEqProofs only [go_sem, -List.reduceReplicate, ↓L_gdZ_tt, ↓L_gdZ_tf, ↓L_gdZ_ft, ↓L_gdZ_ff, ↓T_and, ↓T_imp, ↓T_all, g1]; try simp only [top_out])
          refine ⟨by omega, by omega, by omega, by omega, ?_⟩
          refine hcall _ _ Ag.app ?_
          (refine top_in ?_; simp -implicitDefEqProofs only [go_sem, -List.reduceReplicate, ↓L_gdZ_tt, ↓L_gdZ_tf, ↓L_gdZ_ft, ↓L_gdZ_ff, ↓T_and, ↓T_imp, ↓T_all]; try simp only [top_out])
          have hA2 : Ag (fun _ => False) M (M2 ++ [.row [SV.fn (Fn.func fi) [] cap', SV.i IntKind.i64 q.2.2] 75]) := (hA1.then hA).then Ag.app
          refine ⟨fun h5 => ?_, fun h5 => ?_⟩
          · have hq0 : q.2.1 = false := by simpa using h5
            have hbad : badOf l = q.2.2 := by
              rw [badOf_drop hb]
              obtain ⟨hlt, hqe⟩ := List.getElem?_eq_some_iff.1 hq
              rw [List.drop_eq_getElem_cons hlt, hqe]
              show (if q.2.1 = true then _ else q.2.2) = _
              rw [hq0]; rfl
            rw [← B1, hbad] at hK
            exact dropC_all hA2.1 (hK _ hA2)
          · have hq1 : q.2.1 = true := by simpa using h5
            refine ⟨m - 1, by omega, k + 1, by omega, hA.then Ag.app, fun j q' hj hq' => ?_, w64 (by omega) (by omega)⟩
            rcases Nat.lt_or_ge j k with g | g
            · exact hb j q' g hq'
            · obtain rfl : j = k := by omega
              rw [hq] at hq'; cases hq'; exact hq1
        · obtain rfl : k = es.length := by omega
          have : badOf l = 0 := by rw [badOf_drop (k := es.length) hb, hel, List.drop_length]; rfl
          rw [← B1, this] at hK
          exact dropC_all hm (hK M2 (hA1.then hA))
  · rw [bad (bad2 (by omega))] at hK
    exact dropC_append hM rfl (hK M Ag.refl)
  · rw [bad (bad1 (by omega))] at hK
    exact dropC_append hM rfl (hK M Ag.refl)
end Go.Proofs.Ytdcplcfedcmcmaa.Eng
