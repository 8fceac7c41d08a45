/- Lists in the library: one taken out; room. -/
import Derived.Test.YtdcplcfedcmcmaaD8
namespace Go.Proofs.Ytdcplcfedcmcmaa.Eng
open Go Go.RowKit
set_option linter.unusedSimpArgs false
set_option linter.unusedVariables false

/-- elements cleared -/
theorem clearK {T : Tab} {M : List Blk} {t e eby k : Nat} {K : List Blk → Prop} {n off m cap : Nat} {R z : List SV} {ty : TypeId} (htk : T.k t = .slice e k eby) (hk : 0 < k) (hz : T.z e = some z) (hB : M[n]? = some (.row R ty)) (hl : off + m * k ≤ R.length) (hK : K (M.set n (.row (splice R off (zerosS z m)) ty))) : clearC T M t (.sl n off m cap) K := by
  unfold clearC
  rw [htk]
  refine ⟨hk, ?_⟩
  simp only [hB, hz]
  exact ⟨hl, hK⟩
set_option maxHeartbeats 1000000 in
theorem delPr_ok (s : SV) (cs : List (List SV)) (i : Nat) (M : List Blk) (K : SV → List Blk → Prop) (h : Own M 3 s cs) (hi : i < cs.length) (hl : cs.length ≤ 1000)
    (hK : ∀ M' s', Own M' 3 s' (cs.take i ++ cs.drop (i + 1)) → dnS s' = dnS s → Ag (fun n => dnS s = some n) M M' → K s' M') :
    callVC Try.prog 31 [s, .i .i64 i, .i .i64 (i + 1)] M K := by
  obtain ⟨h0, h1, ⟨rfl, rfl⟩ | ⟨n, cap, zz, tz, rfl, h2, h3⟩⟩ := h
  · exact absurd hi (by simp)
  · have hlk : ∀ c ∈ cs, c.length = 3 := fun c hc => (h1 c hc).1
    have hfl := flat_length hlk
    have hA := flat_length (k := 3) (cs := cs.take i) (fun c hc => hlk c (List.mem_of_mem_take hc))
    have hB := flat_length (k := 3) (cs := cs.drop (i + 1)) (fun c hc => hlk c (List.mem_of_mem_drop hc))
    rw [List.length_take, Nat.min_eq_left (Nat.le_of_lt hi)] at hA
    rw [List.length_drop] at hB
    have hwn := kw h2
    have hcap : cs.length ≤ cap := by
      have : cs.length * 3 ≤ cap * 3 := by omega
      omega
    have w1 : IntKind.i64.wrap ((i : Int) + 1) = ((i + 1 : Nat) : Int) := w64 (by omega) (by omega)
    have hci : ¬ cap = i := by omega
    have hii : ((i : Int) == (i : Int) + 1) = false := by
      rw [beq_eq_false_iff_ne]; omega
    have hal : ∀ c' ∈ cs.take i ++ cs.drop (i + 1), c'.length = 3 ∧ c'.all SV.one = true := fun c' hc' => by
      rcases List.mem_append.1 hc' with g | g
      · exact h1 c' (List.mem_of_mem_take g)
      · exact h1 c' (List.mem_of_mem_drop g)
    have hll : (cs.take i ++ cs.drop (i + 1)).length = cs.length - 1 := by
      rw [List.length_append, List.length_take, List.length_drop]; omega
    obtain ⟨A, hAd⟩ : ∃ A, (cs.take i).flatten = A := ⟨_, rfl⟩
    obtain ⟨D, hDd⟩ : ∃ D, (cs.drop (i + 1)).flatten = D := ⟨_, rfl⟩
    obtain ⟨e, he⟩ : ∃ e, cs[i]? = some e := ⟨_, List.getElem?_eq_getElem hi⟩
    have hel : e.length = 3 := hlk e (List.mem_of_getElem? he)
    have hcs : cs.flatten = A ++ (e ++ D) := by
      conv => lhs; rw [← List.take_append_drop i cs]
      rw [List.flatten_append, hAd, List.drop_eq_getElem_cons hi, List.flatten_cons, hDd]
      rw [List.getElem?_eq_getElem hi] at he
      cases he; rfl
    rw [hAd] at hA
    rw [hDd] at hB
    refine fn_rule tabOK Try.func31 rfl Try.call31 (by kernel_rfl) (fun hM => ?_)
    (refine top_in ?_; simp -implicitDefEqProofs only [Try.ntmps31, Try.results31, go_sem, -List.reduceReplicate, ↓L_gdZ_tt, ↓L_gdZ_tf, ↓L_gdZ_ft, ↓L_gdZ_ff, ↓T_and, ↓T_imp, ↓T_all, hii]; try simp only [top_out])
    refine ⟨by omega, by omega, by omega, by omega, by omega, by omega, ?_⟩
    refine draw_rule tabOK (by kernel_rfl : _) (.p 0 (.p 1 (.p 2 (.p 3 (.p 4 (.p 5 (.e 6 [] (.p 7 .nil) .no))))))) (by kernel_rfl) (by kernel_rfl) ?_
    have tn : ((i : Int) + 1).toNat = i + 1 := by omega
    (refine top_in ?_; simp -implicitDefEqProofs only [go_sem, -List.reduceReplicate, ↓L_gdZ_tt, ↓L_gdZ_tf, ↓L_gdZ_ft, ↓L_gdZ_ff, ↓T_and, ↓T_imp, ↓T_all, tn, Int.toNat_natCast]; try simp only [top_out])
    refine ⟨by omega, by omega, by omega, by omega, .inl ?_⟩
    obtain ⟨off, hoff, hof⟩ : ∃ off, (if cap = i + 1 then 0 else (i + 1) * 3) = off ∧ (off = (i + 1) * 3 ∨ (i + 1 = cs.length ∧ off = 0)) := by
      by_cases g : cap = i + 1
      · exact ⟨0, if_pos g, .inr ⟨by omega, rfl⟩⟩
      · exact ⟨_, if_neg g, .inl rfl⟩
    rw [hoff]
    unfold appendA
    refine ⟨rfl, by decide, by decide, src_part h2 hlk (i + 1) (cap - (i + 1)) (by omega) off hof _ ?_⟩
    have hsum : i + (cs.length - (i + 1)) = cs.length - 1 := by omega
    have hsp : splice (A ++ (e ++ (D ++ zz))) (i * 3) D = A ++ (D ++ (((e ++ D).drop D.length) ++ zz)) := by
      have hX : e ++ D = (e ++ D).take D.length ++ (e ++ D).drop D.length := (List.take_append_drop _ _).symm
      have : A ++ (e ++ (D ++ zz)) = A ++ ((e ++ D).take D.length ++ ((e ++ D).drop D.length ++ zz)) := by
        rw [← List.append_assoc (List.take _ _), ← hX, List.append_assoc]
      rw [this, splice_mid hA (by rw [List.length_take, List.length_append]; omega)]
    have hdl : ((e ++ D).drop D.length).length = 3 := by rw [List.length_drop, List.length_append]; omega
    simp only [h2, Nat.zero_add, hDd, hsum]
    refine ⟨fun _ => ⟨by rw [List.length_append, hfl]; omega, ?_⟩, fun g => by omega⟩
    rw [hcs, List.append_assoc, List.append_assoc, hsp]
    generalize (e ++ D).drop D.length = E at hdl
    (refine top_in ?_; simp -implicitDefEqProofs only [go_sem, -List.reduceReplicate, ↓L_gdZ_tt, ↓L_gdZ_tf, ↓L_gdZ_ft, ↓L_gdZ_ff, ↓T_and, ↓T_imp, ↓T_all]; try simp only [top_out])
    refine ⟨by omega, by omega, by omega, by omega, ?_⟩
    have hc1 : ¬ cap = cs.length - 1 := by omega
    have hn1 : cs.length - (cs.length - 1) = 1 := by omega
    rw [if_neg hc1, hn1]
    have hAD : (A ++ D).length = (cs.length - 1) * 3 := by
      rw [List.length_append, hA, hB, ← Nat.add_mul, hsum]
    have hfin : (cs.take i ++ cs.drop (i + 1)).flatten = A ++ D := by rw [List.flatten_append, hAd, hDd]
    obtain ⟨z, hz, hzl⟩ : ∃ z, tab.z (match tab.k 22 with | .slice e _ _ => e | _ => 0) = some z ∧ (zerosS z 1).length = 3 := ⟨_, rfl, rfl⟩
    refine clearK (k := 3) (z := z) rfl (by decide) hz (List.getElem?_set_self hwn) (by simp only [List.length_append] at hAD ⊢; omega) ?_
    have hs2 := splice_mid (A := A ++ D) (B := E) (C := zz) (vs := zerosS z 1) hAD (by rw [hdl, hzl])
    simp only [List.append_assoc] at hs2
    rw [hs2, List.set_set]
    (refine top_in ?_; simp -implicitDefEqProofs only [go_sem, -List.reduceReplicate, ↓L_gdZ_tt, ↓L_gdZ_tf, ↓L_gdZ_ft, ↓L_gdZ_ff, ↓T_and, ↓T_imp, ↓T_all]; try simp only [top_out])
    refine dropC_all (by simp) (hK _ _ ⟨by omega, hal, .inr ⟨n, cap, zerosS z 1 ++ zz, tz, by rw [hll], by rw [List.getElem?_set_self hwn, hfin]; simp only [List.append_assoc], by rw [hll, List.length_append, hzl]; omega⟩⟩ rfl (Ag.set rfl))
set_option maxHeartbeats 1000000 in
theorem delPx_ok (s : SV) (cs : List (List SV)) (i : Nat) (M : List Blk) (K : SV → List Blk → Prop) (h : Own M 4 s cs) (hi : i < cs.length) (hl : cs.length ≤ 1000)
    (hK : ∀ M' s', Own M' 4 s' (cs.take i ++ cs.drop (i + 1)) → dnS s' = dnS s → Ag (fun n => dnS s = some n) M M' → K s' M') :
    callVC Try.prog 36 [s, .i .i64 i, .i .i64 (i + 1)] M K := by
  obtain ⟨h0, h1, ⟨rfl, rfl⟩ | ⟨n, cap, zz, tz, rfl, h2, h3⟩⟩ := h
  · exact absurd hi (by simp)
  · have hlk : ∀ c ∈ cs, c.length = 4 := fun c hc => (h1 c hc).1
    have hfl := flat_length hlk
    have hA := flat_length (k := 4) (cs := cs.take i) (fun c hc => hlk c (List.mem_of_mem_take hc))
    have hB := flat_length (k := 4) (cs := cs.drop (i + 1)) (fun c hc => hlk c (List.mem_of_mem_drop hc))
    rw [List.length_take, Nat.min_eq_left (Nat.le_of_lt hi)] at hA
    rw [List.length_drop] at hB
    have hwn := kw h2
    have hcap : cs.length ≤ cap := by
      have : cs.length * 4 ≤ cap * 4 := by omega
      omega
    have w1 : IntKind.i64.wrap ((i : Int) + 1) = ((i + 1 : Nat) : Int) := w64 (by omega) (by omega)
    have hci : ¬ cap = i := by omega
    have hii : ((i : Int) == (i : Int) + 1) = false := by
      rw [beq_eq_false_iff_ne]; omega
    have hal : ∀ c' ∈ cs.take i ++ cs.drop (i + 1), c'.length = 4 ∧ c'.all SV.one = true := fun c' hc' => by
      rcases List.mem_append.1 hc' with g | g
      · exact h1 c' (List.mem_of_mem_take g)
      · exact h1 c' (List.mem_of_mem_drop g)
    have hll : (cs.take i ++ cs.drop (i + 1)).length = cs.length - 1 := by
      rw [List.length_append, List.length_take, List.length_drop]; omega
    obtain ⟨A, hAd⟩ : ∃ A, (cs.take i).flatten = A := ⟨_, rfl⟩
    obtain ⟨D, hDd⟩ : ∃ D, (cs.drop (i + 1)).flatten = D := ⟨_, rfl⟩
    obtain ⟨e, he⟩ : ∃ e, cs[i]? = some e := ⟨_, List.getElem?_eq_getElem hi⟩
    have hel : e.length = 4 := hlk e (List.mem_of_getElem? he)
    have hcs : cs.flatten = A ++ (e ++ D) := by
      conv => lhs; rw [← List.take_append_drop i cs]
      rw [List.flatten_append, hAd, List.drop_eq_getElem_cons hi, List.flatten_cons, hDd]
      rw [List.getElem?_eq_getElem hi] at he
      cases he; rfl
    rw [hAd] at hA
    rw [hDd] at hB
    refine fn_rule tabOK Try.func36 rfl Try.call36 (by kernel_rfl) (fun hM => ?_)
    (refine top_in ?_; simp -implicitDefEqProofs only [Try.ntmps36, Try.results36, go_sem, -List.reduceReplicate, ↓L_gdZ_tt, ↓L_gdZ_tf, ↓L_gdZ_ft, ↓L_gdZ_ff, ↓T_and, ↓T_imp, ↓T_all, hii]; try simp only [top_out])
    refine ⟨by omega, by omega, by omega, by omega, by omega, by omega, ?_⟩
    refine draw_rule tabOK (by kernel_rfl : _) (.p 0 (.p 1 (.p 2 (.p 3 (.p 4 (.p 5 (.e 6 [] (.p 7 .nil) .no))))))) (by kernel_rfl) (by kernel_rfl) ?_
    have tn : ((i : Int) + 1).toNat = i + 1 := by omega
    (refine top_in ?_; simp -implicitDefEqProofs only [go_sem, -List.reduceReplicate, ↓L_gdZ_tt, ↓L_gdZ_tf, ↓L_gdZ_ft, ↓L_gdZ_ff, ↓T_and, ↓T_imp, ↓T_all, tn, Int.toNat_natCast]; try simp only [top_out])
    refine ⟨by omega, by omega, by omega, by omega, .inl ?_⟩
    obtain ⟨off, hoff, hof⟩ : ∃ off, (if cap = i + 1 then 0 else (i + 1) * 4) = off ∧ (off = (i + 1) * 4 ∨ (i + 1 = cs.length ∧ off = 0)) := by
      by_cases g : cap = i + 1
      · exact ⟨0, if_pos g, .inr ⟨by omega, rfl⟩⟩
      · exact ⟨_, if_neg g, .inl rfl⟩
    rw [hoff]
    unfold appendA
    refine ⟨rfl, by decide, by decide, src_part h2 hlk (i + 1) (cap - (i + 1)) (by omega) off hof _ ?_⟩
    have hsum : i + (cs.length - (i + 1)) = cs.length - 1 := by omega
    have hsp : splice (A ++ (e ++ (D ++ zz))) (i * 4) D = A ++ (D ++ (((e ++ D).drop D.length) ++ zz)) := by
      have hX : e ++ D = (e ++ D).take D.length ++ (e ++ D).drop D.length := (List.take_append_drop _ _).symm
      have : A ++ (e ++ (D ++ zz)) = A ++ ((e ++ D).take D.length ++ ((e ++ D).drop D.length ++ zz)) := by
        rw [← List.append_assoc (List.take _ _), ← hX, List.append_assoc]
      rw [this, splice_mid hA (by rw [List.length_take, List.length_append]; omega)]
    have hdl : ((e ++ D).drop D.length).length = 4 := by rw [List.length_drop, List.length_append]; omega
    simp only [h2, Nat.zero_add, hDd, hsum]
    refine ⟨fun _ => ⟨by rw [List.length_append, hfl]; omega, ?_⟩, fun g => by omega⟩
    rw [hcs, List.append_assoc, List.append_assoc, hsp]
    generalize (e ++ D).drop D.length = E at hdl
    (refine top_in ?_; simp -implicitDefEqProofs only [go_sem, -List.reduceReplicate, ↓L_gdZ_tt, ↓L_gdZ_tf, ↓L_gdZ_ft, ↓L_gdZ_ff, ↓T_and, ↓T_imp, ↓T_all]; try simp only [top_out])
    refine ⟨by omega, by omega, by omega, by omega, ?_⟩
    have hc1 : ¬ cap = cs.length - 1 := by omega
    have hn1 : cs.length - (cs.length - 1) = 1 := by omega
    rw [if_neg hc1, hn1]
    have hAD : (A ++ D).length = (cs.length - 1) * 4 := by
      rw [List.length_append, hA, hB, ← Nat.add_mul, hsum]
    have hfin : (cs.take i ++ cs.drop (i + 1)).flatten = A ++ D := by rw [List.flatten_append, hAd, hDd]
    obtain ⟨z, hz, hzl⟩ : ∃ z, tab.z (match tab.k 53 with | .slice e _ _ => e | _ => 0) = some z ∧ (zerosS z 1).length = 4 := ⟨_, rfl, rfl⟩
    refine clearK (k := 4) (z := z) rfl (by decide) hz (List.getElem?_set_self hwn) (by simp only [List.length_append] at hAD ⊢; omega) ?_
    have hs2 := splice_mid (A := A ++ D) (B := E) (C := zz) (vs := zerosS z 1) hAD (by rw [hdl, hzl])
    simp only [List.append_assoc] at hs2
    rw [hs2, List.set_set]
    (refine top_in ?_; simp -implicitDefEqProofs only [go_sem, -List.reduceReplicate, ↓L_gdZ_tt, ↓L_gdZ_tf, ↓L_gdZ_ft, ↓L_gdZ_ff, ↓T_and, ↓T_imp, ↓T_all]; try simp only [top_out])
    refine dropC_all (by simp) (hK _ _ ⟨by omega, hal, .inr ⟨n, cap, zerosS z 1 ++ zz, tz, by rw [hll], by rw [List.getElem?_set_self hwn, hfin]; simp only [List.append_assoc], by rw [hll, List.length_append, hzl]; omega⟩⟩ rfl (Ag.set rfl))
end Go.Proofs.Ytdcplcfedcmcmaa.Eng
