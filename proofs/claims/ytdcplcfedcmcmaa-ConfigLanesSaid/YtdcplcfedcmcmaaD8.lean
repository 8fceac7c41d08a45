/- Lists in the library: one laid in. -/
import Derived.Test.YtdcplcfedcmcmaaMe
namespace Go.Proofs.Ytdcplcfedcmcmaa.Eng
open Go Go.RowKit
set_option linter.unusedSimpArgs false
set_option linter.unusedVariables false

/-- zeros behind a part of a list, in new memory -/
theorem appG {T : Tab} {M : List Blk} {ts tx e eby k : Nat} {K : SV → List Blk → Prop} {z : List SV} (n i m cap : Nat) (R : List SV) (ty : TypeId) (htk : T.k ts = .slice e k eby) (he0 : 0 < eby) (he : eby ≤ 4096) (hk : 0 < k) (hz : T.z e = some z) (hzl : z.length = k) (hx : T.k tx = .int .i64)
    (hB : M[n]? = some (.row R ty)) (hR : i * k ≤ R.length) (hm : 0 < m) (hc : cap < i + m) (hb : i + m ≤ 1000000)
    (hK : ∀ (c : Nat) (zz : List SV), i + m ≤ c → zz.length = (c - i) * k → K (.sl M.length 0 (i + m) c) (M ++ [.row (R.take (i * k) ++ zz) e])) : appendC T M ts tx (.sl n 0 i cap) (.i .i64 m) K := by
  refine .inr (.inr (.inr ?_))
  unfold appendG
  rw [htk]
  have hfit := growslice_fits (need := i + m) (old := cap) (bytes := eby) hc (by
    have : (i + m) * eby ≤ 1000000 * 4096 := Nat.mul_le_mul hb he
    omega)
  have h1 : m * eby ≤ 1000000 * 4096 := Nat.mul_le_mul (by omega) he
  have hce : cellsAt M n = R := by simp [cellsAt, hB]
  simp only [hz, hce]
  refine ⟨hx, by omega, he0, hk, by omega, by simpa using hc, by omega, by simpa using hfit, by omega, fun c hcc => ?_⟩
  have hl1 : ∀ q, (zerosS z q).length = q * k := by
    intro q
    induction q with
    | zero => simp [zerosS]
    | succ q ih =>
      have : zerosS z (q + 1) = z ++ zerosS z q := by simp [zerosS, List.replicate_succ]
      rw [this, List.length_append, ih, hzl, Nat.add_mul, Nat.one_mul]; omega
  have := hK c (zerosS z m ++ zerosS z (c - (i + m))) (by simpa using hcc) (by
    rw [List.length_append, hl1, hl1, ← Nat.add_mul]
    congr 1; simp at hcc; omega)
  simpa [List.append_assoc] using this
theorem splice_mid {A B C vs : List SV} {off : Nat} (hA : A.length = off) (hB : B.length = vs.length) : splice (A ++ (B ++ C)) off vs = A ++ (vs ++ C) := by
  subst hA
  unfold splice
  rw [List.take_left, ← hB, ← List.drop_drop, List.drop_left, List.drop_left, List.append_assoc]
/-- two rows of one's own do not overlap -/
theorem overlaps_no {P : Program} {M : List Blk} {K : SV → List Blk → Prop} {tS tR e : TypeId} {size : Nat} (ht : P.underlying tS = some (.slice e)) (hz : ∀ w, (Go.sizeOf e).run P w = .ok size w) (r n off len cap len' cap' : Nat) {c R : List SV} {ty ty' : TypeId} (hr : M[r]? = some (.row c ty)) (hc : c ≠ []) (hn : M[n]? = some (.row R ty')) (hR : R ≠ []) (hne : r ≠ n) (hK : K (.b false) M) :
    SemOK P M (fun ρ => Extern.SlicesOverlaps.overlaps #[tS, tS] #[tR] (denL ρ [.sl r 0 len cap, .sl n off len' cap']).toArray) K := by
  refine SemOK.pure (.b false) rfl hK (fun G ρ w hs => ?_)
  obtain ⟨_, ⟨h0, _⟩ | ⟨g, hg, _, hh⟩⟩ := hs.blk r _ hr
  · exact absurd h0 hc
  obtain ⟨_, ⟨h0, _⟩ | ⟨g', hg', _, hh'⟩⟩ := hs.blk n _ hn
  · exact absurd h0 hR
  have hsep := hs.sep r n _ _ hr hn rfl rfl hne _ _ hg hg'
  simp only [denL, den, adr, hg, hg', Option.map_some, Nat.zero_add]
  refine Lib.run_overlaps_apart (P := P) w tS tR e ht size hz ⟨g, 0, none⟩ ⟨g', off, none⟩ len cap len' cap' hsep ty ty' (denL ρ c).toArray.size (denL ρ R).toArray.size ?_ ?_ ?_ ?_ ?_
  · simp only [World.shape?, hh]
  · simp only [World.shape?, hh']
  · simp only [List.size_toArray, denL_length]
    intro h; exact hR (List.length_eq_zero_iff.1 h)
  · simp only [World.frozen?, hh]; simp
  · simp only [World.frozen?, hh]; simp
set_option maxHeartbeats 1000000 in
theorem insPr_ok (s : SV) (cs : List (List SV)) (i r : Nat) (c : List SV) (ty : TypeId) (M : List Blk) (K : SV → List Blk → Prop) (h : Own M 3 s cs) (hi : i ≤ cs.length) (hl : cs.length ≤ 1000) (hr : M[r]? = some (.row c ty)) (hc : c.length = 3 ∧ c.all SV.one = true) (hne : dnS s ≠ some r)
    (hK : ∀ M' s', Own M' 3 s' (insAt cs i c) → NmG (fun n => dnS s = some n ∨ M.length ≤ n) s' → Ag (fun n => dnS s = some n) M M' → K s' M') :
    callVC Try.prog 29 [s, .i .i64 i, .sl r 0 1 1] M K := by
  obtain ⟨h0, h1, ⟨rfl, rfl⟩ | ⟨n, cap, zz, tz, rfl, h2, h3⟩⟩ := h
  · obtain rfl : i = 0 := by simpa using hi
    refine fn_rule tabOK Try.func29 rfl Try.call29 (by kernel_rfl) (fun hM => ?_)
    (refine top_in ?_; simp -implicitDefEqProofs only [Try.ntmps29, Try.results29, go_sem, -List.reduceReplicate, ↓L_gdZ_tt, ↓L_gdZ_tf, ↓L_gdZ_ft, ↓L_gdZ_ff, ↓T_and, ↓T_imp, ↓T_all, Int.reduceBEq]; try simp only [top_out])
    refine appK (k := 3) [] [c] rfl (by decide) (by decide) (by decide) rfl rfl rfl Own.sn (fun c' hc' => by rw [List.mem_singleton.1 hc']; exact hc) (src_one hr hc.1) (by simp) (fun M2 s2 o2 n2 A2 => ?_)
    (refine top_in ?_; simp -implicitDefEqProofs only [go_sem, -List.reduceReplicate, ↓L_gdZ_tt, ↓L_gdZ_tf, ↓L_gdZ_ft, ↓L_gdZ_ff, ↓T_and, ↓T_imp, ↓T_all]; try simp only [top_out])
    exact dropC_all A2.1 (hK M2 s2 (by simpa [insAt] using o2) (n2.mono (fun n g => .inr (by omega))) A2)
  · have hlk : ∀ c ∈ cs, c.length = 3 := fun c hc => (h1 c hc).1
    have hfl := flat_length hlk
    have hA := flat_length (k := 3) (cs := cs.take i) (fun c hc => hlk c (List.mem_of_mem_take hc))
    have hB := flat_length (k := 3) (cs := cs.drop i) (fun c hc => hlk c (List.mem_of_mem_drop hc))
    rw [List.length_take, Nat.min_eq_left hi] at hA
    rw [List.length_drop] at hB
    have hne' : r ≠ n := fun e => hne (by rw [e]; rfl)
    have hwn := kw h2
    have hwr := kw hr
    have hcap : cs.length ≤ cap := by
      have : cs.length * 3 ≤ cap * 3 := by omega
      omega
    have hall : ∀ c' ∈ insAt cs i c, c'.length = 3 ∧ c'.all SV.one = true := fun c' hc' => by
      rcases mem_insAt.1 hc' with rfl | g
      · exact hc
      · exact h1 c' g
    refine fn_rule tabOK Try.func29 rfl Try.call29 (by kernel_rfl) (fun hM => ?_)
    (refine top_in ?_; simp -implicitDefEqProofs only [Try.ntmps29, Try.results29, go_sem, -List.reduceReplicate, ↓L_gdZ_tt, ↓L_gdZ_tf, ↓L_gdZ_ft, ↓L_gdZ_ff, ↓T_and, ↓T_imp, ↓T_all, Int.reduceBEq]; try simp only [top_out])
    refine ⟨by omega, by omega, fun h4 => ?_, fun h4 => ?_⟩
    · have hic : i = cs.length := by have := beqT h4; omega
      refine appK (k := 3) cs [c] rfl (by decide) (by decide) (by decide) rfl rfl rfl ⟨h0, h1, .inr ⟨n, cap, zz, tz, rfl, h2, h3⟩⟩ (fun c' hc' => by rw [List.mem_singleton.1 hc']; exact hc) (src_one hr hc.1) (by simp; omega) (fun M2 s2 o2 n2 A2 => ?_)
      (refine top_in ?_; simp -implicitDefEqProofs only [go_sem, -List.reduceReplicate, ↓L_gdZ_tt, ↓L_gdZ_tf, ↓L_gdZ_ft, ↓L_gdZ_ff, ↓T_and, ↓T_imp, ↓T_all]; try simp only [top_out])
      refine dropC_all A2.1 (hK M2 s2 ?_ (n2.mono (fun n g => .inr (by omega))) A2)
      have : insAt cs i c = cs ++ [c] := by unfold insAt; rw [hic, List.take_length, List.drop_length]
      rw [this]; exact o2
    · have hic : i < cs.length := by have := beqF h4; omega
      rw [w64 (x := (cs.length : Int) + 1) (by omega) (by omega)]
      refine ⟨fun h5 => ?_, fun h5 => ?_⟩
      · rw [w64 (x := (cs.length : Int) + 1 - i) (by omega) (by omega)]
        refine ⟨by omega, by omega, ?_⟩
        have hm : ((cs.length : Int) + 1 - i) = ((cs.length + 1 - i : Nat) : Int) := by omega
        rw [hm]
        have hci : ¬ cap = i := by omega
        refine appG (k := 3) n i (cs.length + 1 - i) cap (cs.flatten ++ zz) tz rfl (by decide) (by decide) (by decide) rfl rfl rfl h2 (by rw [List.length_append, hfl]; have := Nat.mul_le_mul_right 3 hi; omega) (by omega) (by omega) (by omega) (fun c2 z2 hc2 hz2 => ?_)
        rw [flat_take i zz hlk hi, show i + (cs.length + 1 - i) = cs.length + 1 by omega]
        rw [show i + (cs.length + 1 - i) = cs.length + 1 by omega] at hc2
        have hci2 : ¬ c2 = i := by omega
        have hzl : 3 + (cs.length - i) * 3 ≤ z2.length := by
          rw [hz2]
          have : (cs.length - i + 1) * 3 ≤ (c2 - i) * 3 := Nat.mul_le_mul_right 3 (by omega)
          rw [Nat.add_mul, Nat.one_mul] at this; omega
        obtain ⟨za, zr, rfl, hza⟩ : ∃ za zr, z2 = za ++ zr ∧ za.length = 3 := ⟨z2.take 3, z2.drop 3, (List.take_append_drop _ _).symm, by rw [List.length_take]; omega⟩
        obtain ⟨zb, zc, rfl, hzb⟩ : ∃ zb zc, zr = zb ++ zc ∧ zb.length = (cs.length - i) * 3 := ⟨zr.take ((cs.length - i) * 3), zr.drop ((cs.length - i) * 3), (List.take_append_drop _ _).symm, by rw [List.length_append] at hzl; rw [List.length_take]; omega⟩
        (refine top_in ?_; simp -implicitDefEqProofs only [go_sem, -List.reduceReplicate, ↓L_gdZ_tt, ↓L_gdZ_tf, ↓L_gdZ_ft, ↓L_gdZ_ff, ↓T_and, ↓T_imp, ↓T_all, hci2]; try simp only [top_out])
        refine ⟨by omega, by omega, ?_⟩
        obtain ⟨A, hAd⟩ : ∃ A, (cs.take i).flatten = A := ⟨_, rfl⟩
        obtain ⟨B, hBd⟩ : ∃ B, (cs.drop i).flatten = B := ⟨_, rfl⟩
        rw [hAd] at hA
        rw [hBd] at hB
        rw [hAd]
        refine copyK M.length (i * 3) (A ++ (za ++ (zb ++ zc))) c 1 _ rfl (by decide) (by rw [get_app0]; rfl) (by simp only [List.length_append] at hz2 ⊢; omega) (fun K hK => src_one (by rw [get_lt hwr]; exact hr) hc.1 K (by simpa using hK)) ?_
        have hmin : Nat.min 1 (cs.length + 1 - i) = 1 := Nat.min_eq_left (by omega)
        rw [hmin, Nat.one_mul, List.take_of_length_le (Nat.le_of_eq hc.1), splice_mid hA (by rw [hza, hc.1])]
        rw [set_app0]
        (refine top_in ?_; simp -implicitDefEqProofs only [go_sem, -List.reduceReplicate, ↓L_gdZ_tt, ↓L_gdZ_tf, ↓L_gdZ_ft, ↓L_gdZ_ff, ↓T_and, ↓T_imp, ↓T_all]; try simp only [top_out])
        refine draw_rule tabOK (by kernel_rfl : _) (.p 0 (.p 1 (.p 2 (.p 3 (.p 4 (.p 5 (.p 6 (.p 7 (.e 8 [] .nil .no))))))))) (by kernel_rfl) (by kernel_rfl) ?_
        have w1 : IntKind.i64.wrap ((i : Int) + 1) = ((i + 1 : Nat) : Int) := w64 (by omega) (by omega)
        have hci3 : ¬ c2 = i + 1 := by omega
        (refine top_in ?_; simp -implicitDefEqProofs only [go_sem, -List.reduceReplicate, ↓L_gdZ_tt, ↓L_gdZ_tf, ↓L_gdZ_ft, ↓L_gdZ_ff, ↓T_and, ↓T_imp, ↓T_all, w1, hci3, hci]; try simp only [top_out])
        refine ⟨by omega, by omega, by omega, by omega, ?_⟩
        have hA2 : (A ++ c).length = (i + 1) * 3 := by rw [List.length_append, hA, hc.1, Nat.add_mul, Nat.one_mul]
        have hsub : cs.length + 1 - (i + 1) = cs.length - i := by omega
        rw [hsub]
        refine copyK M.length ((i + 1) * 3) (A ++ (c ++ (zb ++ zc))) B (cs.length - i) _ rfl (by decide) (by rw [get_app0]; rfl) (by simp only [List.length_append] at hz2 ⊢; rw [hA, hc.1, hzb]; rw [hza, hzb] at hz2; omega) ?_ ?_
        · intro K hK
          exact src_part (zz := zz) (by rw [get_lt hwn]; exact h2) hlk i (cap - i) hi _ (.inl rfl) K (by rw [hBd]; exact hK)
        · have hsp := splice_mid (A := A ++ c) (B := zb) (C := zc) (vs := B) hA2 (by rw [hzb, hB])
          simp only [List.append_assoc] at hsp
          have hmin2 : Nat.min (cs.length - i) (cs.length - i) = cs.length - i := Nat.min_self _
          rw [hmin2, List.take_of_length_le (Nat.le_of_eq hB), hsp, set_app0]
          (refine top_in ?_; simp -implicitDefEqProofs only [go_sem, -List.reduceReplicate, ↓L_gdZ_tt, ↓L_gdZ_tf, ↓L_gdZ_ft, ↓L_gdZ_ff, ↓T_and, ↓T_imp, ↓T_all, w1, hci3, hci]; try simp only [top_out])
          have hfin : (insAt cs i c).flatten = A ++ (c ++ B) := by rw [insAt_flat, hAd, hBd]
          have hcl := insAt_length cs i c
          refine dropC_all (by simp) (hK _ _ ⟨by omega, hall, .inr ⟨M.length, c2, zc, _, by rw [hcl], by rw [get_app0, hfin]; simp; rfl, by rw [hcl]; simp only [List.length_append] at hz2; omega⟩⟩ (fun d e => by cases e; exact .inr (Nat.le_refl _)) Ag.app)
      · have w1 : IntKind.i64.wrap ((i : Int) + 1) = ((i + 1 : Nat) : Int) := w64 (by omega) (by omega)
        have tn : ((cs.length : Int) + 1).toNat = cs.length + 1 := by omega
        have hcapn : cs.length + 1 ≤ cap := by omega
        have hci : ¬ cap = i := by omega
        have hci3 : ¬ cap = i + 1 := by omega
        have hsub : cs.length + 1 - (i + 1) = cs.length - i := by omega
        rw [w1, tn, Int.toNat_natCast, if_neg hci3]
        refine ⟨by omega, by omega, by omega, by omega, ?_⟩
        have hzl : 3 ≤ zz.length := by
          have : (cs.length + 1) * 3 ≤ cap * 3 := Nat.mul_le_mul_right 3 hcapn
          rw [Nat.add_mul, Nat.one_mul] at this; omega
        obtain ⟨z1, z2, rfl, hz1⟩ : ∃ z1 z2, zz = z1 ++ z2 ∧ z1.length = 3 := ⟨zz.take 3, zz.drop 3, (List.take_append_drop _ _).symm, by rw [List.length_take]; omega⟩
        have hcne : c ≠ [] := fun e => by rw [e] at hc; exact absurd hc.1 (by decide)
        have hRne : cs.flatten ++ (z1 ++ z2) ≠ [] := fun e => by
          have := congrArg List.length e
          simp only [List.length_append, List.length_nil] at this
          omega
        refine .inr ⟨Extern.SlicesOverlaps.overlaps #[22, 22] #[4], fun xs w => run_callFunc_extern Try.func62 (by kernel_rfl) (by kernel_rfl) (by kernel_rfl) (by kernel_rfl) xs w, fun _ => overlaps_no (size := 3) Try.underlying22 (fun w => run_sizeOf (sz := 3) (by kernel_rfl) w) r n _ 1 1 _ _ hr hcne h2 hRne hne' ?_⟩
        (refine top_in ?_; simp -implicitDefEqProofs only [go_sem, -List.reduceReplicate, ↓L_gdZ_tt, ↓L_gdZ_tf, ↓L_gdZ_ft, ↓L_gdZ_ff, ↓T_and, ↓T_imp, ↓T_all]; try simp only [top_out])
        refine draw_rule tabOK (by kernel_rfl : _) (.p 0 (.p 1 (.p 2 (.p 3 (.p 4 (.p 5 (.p 6 (.p 7 (.e 8 [] .nil .no))))))))) (by kernel_rfl) (by kernel_rfl) ?_
        (refine top_in ?_; simp -implicitDefEqProofs only [go_sem, -List.reduceReplicate, ↓L_gdZ_tt, ↓L_gdZ_tf, ↓L_gdZ_ft, ↓L_gdZ_ff, ↓T_and, ↓T_imp, ↓T_all, w1, hci3, hci, tn, Int.toNat_natCast, if_false]; try simp only [top_out])
        refine ⟨by omega, by omega, by omega, by omega, ?_⟩
        obtain ⟨A, hAd⟩ : ∃ A, (cs.take i).flatten = A := ⟨_, rfl⟩
        obtain ⟨B, hBd⟩ : ∃ B, (cs.drop i).flatten = B := ⟨_, rfl⟩
        rw [hAd] at hA
        rw [hBd] at hB
        have hflat : cs.flatten = A ++ B := by rw [← hAd, ← hBd, ← List.flatten_append, List.take_append_drop]
        have hlk1 : ∀ c' ∈ cs ++ [z1], c'.length = 3 := fun c' hc' => by
          rcases List.mem_append.1 hc' with g | g
          · exact hlk c' g
          · rw [List.mem_singleton.1 g]; exact hz1
        have hrow : cs.flatten ++ (z1 ++ z2) = (cs ++ [z1]).flatten ++ z2 := by rw [List.flatten_append, List.flatten_singleton, List.append_assoc]
        have hdr : ((cs ++ [z1]).drop i).flatten = B ++ z1 := by rw [List.drop_append_of_le_length hi, List.flatten_append, hBd, List.flatten_singleton]
        have hsp1 : cs.length + 1 - i = (cs ++ [z1]).length - i := by rw [List.length_append]; rfl
        have hle : (i + 1) * 3 + (cs.length - i) * 3 ≤ (cs.flatten ++ (z1 ++ z2)).length := by
          have : cs.length * 3 = i * 3 + (cs.length - i) * 3 := by
            rw [← Nat.add_mul]; congr 1; omega
          rw [List.length_append, hfl, List.length_append, hz1, Nat.add_mul]; omega
        rw [hsub]
        refine copyK n ((i + 1) * 3) (cs.flatten ++ (z1 ++ z2)) (B ++ z1) (cs.length + 1 - i) _ rfl (by decide) h2 hle ?_ ?_
        · intro K hK
          rw [hrow] at h2
          have := src_part (zz := z2) h2 hlk1 i (cap - i) (by rw [List.length_append]; omega) _ (.inl rfl) K (by rw [hdr, ← hsp1]; exact hK)
          rw [← hsp1] at this; exact this
        · have hmin : Nat.min (cs.length + 1 - i) (cs.length - i) = cs.length - i := Nat.min_eq_right (by omega)
          have htk : (B ++ z1).take ((cs.length - i) * 3) = B := by rw [← hB, List.take_left]
          obtain ⟨X1, X2, hX, hX1⟩ : ∃ X1 X2, B ++ z1 = X1 ++ X2 ∧ X1.length = 3 := ⟨(B ++ z1).take 3, (B ++ z1).drop 3, (List.take_append_drop _ _).symm, by rw [List.length_take, List.length_append]; omega⟩
          have hX2 : X2.length = B.length := by
            have := congrArg List.length hX
            rw [List.length_append, List.length_append] at this; omega
          have hAX : (A ++ X1).length = (i + 1) * 3 := by rw [List.length_append, hA, hX1, Nat.add_mul, Nat.one_mul]
          have hrow2 : cs.flatten ++ (z1 ++ z2) = (A ++ X1) ++ (X2 ++ z2) := by
            rw [hflat, List.append_assoc, ← List.append_assoc B, hX]; simp only [List.append_assoc]
          rw [hmin, htk, hrow2, splice_mid hAX hX2]
          (refine top_in ?_; simp -implicitDefEqProofs only [go_sem, -List.reduceReplicate, ↓L_gdZ_tt, ↓L_gdZ_tf, ↓L_gdZ_ft, ↓L_gdZ_ff, ↓T_and, ↓T_imp, ↓T_all]; try simp only [top_out])
          rw [if_neg hci]
          refine ⟨by omega, by omega, ?_⟩
          refine copyK n (i * 3) (A ++ (X1 ++ (B ++ z2))) c 1 _ rfl (by decide) (by rw [List.getElem?_set_self hwn]) (by simp only [List.length_append]; omega) (fun K hK => src_one (by rw [List.getElem?_set_ne (Ne.symm hne')]; exact hr) hc.1 K (by simpa using hK)) ?_
          have hmin : Nat.min 1 (cs.length + 1 - i) = 1 := Nat.min_eq_left (by omega)
          rw [hmin, Nat.one_mul, List.take_of_length_le (Nat.le_of_eq hc.1), splice_mid hA (by rw [hX1, hc.1])]
          (refine top_in ?_; simp -implicitDefEqProofs only [go_sem, -List.reduceReplicate, ↓L_gdZ_tt, ↓L_gdZ_tf, ↓L_gdZ_ft, ↓L_gdZ_ff, ↓T_and, ↓T_imp, ↓T_all]; try simp only [top_out])
          have hfin : (insAt cs i c).flatten = A ++ (c ++ B) := by rw [insAt_flat, hAd, hBd]
          have hcl := insAt_length cs i c
          rw [List.set_set]
          rw [List.length_append, hz1] at h3
          refine dropC_all (by simp) (hK _ _ ⟨by omega, hall, .inr ⟨n, cap, z2, tz, by rw [hcl], by rw [List.getElem?_set_self hwn, hfin]; simp only [List.append_assoc], by rw [hcl]; omega⟩⟩ (fun d e => by cases e; exact .inl rfl) (Ag.set rfl))
set_option maxHeartbeats 1000000 in
theorem insLn_ok (s : SV) (cs : List (List SV)) (i r : Nat) (c : List SV) (ty : TypeId) (M : List Blk) (K : SV → List Blk → Prop) (h : Own M 8 s cs) (hi : i ≤ cs.length) (hl : cs.length ≤ 1000) (hr : M[r]? = some (.row c ty)) (hc : c.length = 8 ∧ c.all SV.one = true) (hne : dnS s ≠ some r)
    (hK : ∀ M' s', Own M' 8 s' (insAt cs i c) → NmG (fun n => dnS s = some n ∨ M.length ≤ n) s' → Ag (fun n => dnS s = some n) M M' → K s' M') :
    callVC Try.prog 65 [s, .i .i64 i, .sl r 0 1 1] M K := by
  obtain ⟨h0, h1, ⟨rfl, rfl⟩ | ⟨n, cap, zz, tz, rfl, h2, h3⟩⟩ := h
  · obtain rfl : i = 0 := by simpa using hi
    refine fn_rule tabOK Try.func65 rfl Try.call65 (by kernel_rfl) (fun hM => ?_)
    (refine top_in ?_; simp -implicitDefEqProofs only [Try.ntmps65, Try.results65, go_sem, -List.reduceReplicate, ↓L_gdZ_tt, ↓L_gdZ_tf, ↓L_gdZ_ft, ↓L_gdZ_ff, ↓T_and, ↓T_imp, ↓T_all, Int.reduceBEq]; try simp only [top_out])
    refine appK (k := 8) [] [c] rfl (by decide) (by decide) (by decide) rfl rfl rfl Own.sn (fun c' hc' => by rw [List.mem_singleton.1 hc']; exact hc) (src_one hr hc.1) (by simp) (fun M2 s2 o2 n2 A2 => ?_)
    (refine top_in ?_; simp -implicitDefEqProofs only [go_sem, -List.reduceReplicate, ↓L_gdZ_tt, ↓L_gdZ_tf, ↓L_gdZ_ft, ↓L_gdZ_ff, ↓T_and, ↓T_imp, ↓T_all]; try simp only [top_out])
    exact dropC_all A2.1 (hK M2 s2 (by simpa [insAt] using o2) (n2.mono (fun n g => .inr (by omega))) A2)
  · have hlk : ∀ c ∈ cs, c.length = 8 := fun c hc => (h1 c hc).1
    have hfl := flat_length hlk
    have hA := flat_length (k := 8) (cs := cs.take i) (fun c hc => hlk c (List.mem_of_mem_take hc))
    have hB := flat_length (k := 8) (cs := cs.drop i) (fun c hc => hlk c (List.mem_of_mem_drop hc))
    rw [List.length_take, Nat.min_eq_left hi] at hA
    rw [List.length_drop] at hB
    have hne' : r ≠ n := fun e => hne (by rw [e]; rfl)
    have hwn := kw h2
    have hwr := kw hr
    have hcap : cs.length ≤ cap := by
      have : cs.length * 8 ≤ cap * 8 := by omega
      omega
    have hall : ∀ c' ∈ insAt cs i c, c'.length = 8 ∧ c'.all SV.one = true := fun c' hc' => by
      rcases mem_insAt.1 hc' with rfl | g
      · exact hc
      · exact h1 c' g
    refine fn_rule tabOK Try.func65 rfl Try.call65 (by kernel_rfl) (fun hM => ?_)
    (refine top_in ?_; simp -implicitDefEqProofs only [Try.ntmps65, Try.results65, go_sem, -List.reduceReplicate, ↓L_gdZ_tt, ↓L_gdZ_tf, ↓L_gdZ_ft, ↓L_gdZ_ff, ↓T_and, ↓T_imp, ↓T_all, Int.reduceBEq]; try simp only [top_out])
    refine ⟨by omega, by omega, fun h4 => ?_, fun h4 => ?_⟩
    · have hic : i = cs.length := by have := beqT h4; omega
      refine appK (k := 8) cs [c] rfl (by decide) (by decide) (by decide) rfl rfl rfl ⟨h0, h1, .inr ⟨n, cap, zz, tz, rfl, h2, h3⟩⟩ (fun c' hc' => by rw [List.mem_singleton.1 hc']; exact hc) (src_one hr hc.1) (by simp; omega) (fun M2 s2 o2 n2 A2 => ?_)
      (refine top_in ?_; simp -implicitDefEqProofs only [go_sem, -List.reduceReplicate, ↓L_gdZ_tt, ↓L_gdZ_tf, ↓L_gdZ_ft, ↓L_gdZ_ff, ↓T_and, ↓T_imp, ↓T_all]; try simp only [top_out])
      refine dropC_all A2.1 (hK M2 s2 ?_ (n2.mono (fun n g => .inr (by omega))) A2)
      have : insAt cs i c = cs ++ [c] := by unfold insAt; rw [hic, List.take_length, List.drop_length]
      rw [this]; exact o2
    · have hic : i < cs.length := by have := beqF h4; omega
      rw [w64 (x := (cs.length : Int) + 1) (by omega) (by omega)]
      refine ⟨fun h5 => ?_, fun h5 => ?_⟩
      · rw [w64 (x := (cs.length : Int) + 1 - i) (by omega) (by omega)]
        refine ⟨by omega, by omega, ?_⟩
        have hm : ((cs.length : Int) + 1 - i) = ((cs.length + 1 - i : Nat) : Int) := by omega
        rw [hm]
        have hci : ¬ cap = i := by omega
        refine appG (k := 8) n i (cs.length + 1 - i) cap (cs.flatten ++ zz) tz rfl (by decide) (by decide) (by decide) rfl rfl rfl h2 (by rw [List.length_append, hfl]; have := Nat.mul_le_mul_right 8 hi; omega) (by omega) (by omega) (by omega) (fun c2 z2 hc2 hz2 => ?_)
        rw [flat_take i zz hlk hi, show i + (cs.length + 1 - i) = cs.length + 1 by omega]
        rw [show i + (cs.length + 1 - i) = cs.length + 1 by omega] at hc2
        have hci2 : ¬ c2 = i := by omega
        have hzl : 8 + (cs.length - i) * 8 ≤ z2.length := by
          rw [hz2]
          have : (cs.length - i + 1) * 8 ≤ (c2 - i) * 8 := Nat.mul_le_mul_right 8 (by omega)
          rw [Nat.add_mul, Nat.one_mul] at this; omega
        obtain ⟨za, zr, rfl, hza⟩ : ∃ za zr, z2 = za ++ zr ∧ za.length = 8 := ⟨z2.take 8, z2.drop 8, (List.take_append_drop _ _).symm, by rw [List.length_take]; omega⟩
        obtain ⟨zb, zc, rfl, hzb⟩ : ∃ zb zc, zr = zb ++ zc ∧ zb.length = (cs.length - i) * 8 := ⟨zr.take ((cs.length - i) * 8), zr.drop ((cs.length - i) * 8), (List.take_append_drop _ _).symm, by rw [List.length_append] at hzl; rw [List.length_take]; omega⟩
        (refine top_in ?_; simp -implicitDefEqProofs only [go_sem, -List.reduceReplicate, ↓L_gdZ_tt, ↓L_gdZ_tf, ↓L_gdZ_ft, ↓L_gdZ_ff, ↓T_and, ↓T_imp, ↓T_all, hci2]; try simp only [top_out])
        refine ⟨by omega, by omega, ?_⟩
        obtain ⟨A, hAd⟩ : ∃ A, (cs.take i).flatten = A := ⟨_, rfl⟩
        obtain ⟨B, hBd⟩ : ∃ B, (cs.drop i).flatten = B := ⟨_, rfl⟩
        rw [hAd] at hA
        rw [hBd] at hB
        rw [hAd]
        refine copyK M.length (i * 8) (A ++ (za ++ (zb ++ zc))) c 1 _ rfl (by decide) (by rw [get_app0]; rfl) (by simp only [List.length_append] at hz2 ⊢; omega) (fun K hK => src_one (by rw [get_lt hwr]; exact hr) hc.1 K (by simpa using hK)) ?_
        have hmin : Nat.min 1 (cs.length + 1 - i) = 1 := Nat.min_eq_left (by omega)
        rw [hmin, Nat.one_mul, List.take_of_length_le (Nat.le_of_eq hc.1), splice_mid hA (by rw [hza, hc.1])]
        rw [set_app0]
        (refine top_in ?_; simp -implicitDefEqProofs only [go_sem, -List.reduceReplicate, ↓L_gdZ_tt, ↓L_gdZ_tf, ↓L_gdZ_ft, ↓L_gdZ_ff, ↓T_and, ↓T_imp, ↓T_all]; try simp only [top_out])
        refine draw_rule tabOK (by kernel_rfl : _) (.p 0 (.p 1 (.p 2 (.p 3 (.p 4 (.p 5 (.p 6 (.p 7 (.e 8 [] .nil .no))))))))) (by kernel_rfl) (by kernel_rfl) ?_
        have w1 : IntKind.i64.wrap ((i : Int) + 1) = ((i + 1 : Nat) : Int) := w64 (by omega) (by omega)
        have hci3 : ¬ c2 = i + 1 := by omega
        (refine top_in ?_; simp -implicitDefEqProofs only [go_sem, -List.reduceReplicate, ↓L_gdZ_tt, ↓L_gdZ_tf, ↓L_gdZ_ft, ↓L_gdZ_ff, ↓T_and, ↓T_imp, ↓T_all, w1, hci3, hci]; try simp only [top_out])
        refine ⟨by omega, by omega, by omega, by omega, ?_⟩
        have hA2 : (A ++ c).length = (i + 1) * 8 := by rw [List.length_append, hA, hc.1, Nat.add_mul, Nat.one_mul]
        have hsub : cs.length + 1 - (i + 1) = cs.length - i := by omega
        rw [hsub]
        refine copyK M.length ((i + 1) * 8) (A ++ (c ++ (zb ++ zc))) B (cs.length - i) _ rfl (by decide) (by rw [get_app0]; rfl) (by simp only [List.length_append] at hz2 ⊢; rw [hA, hc.1, hzb]; rw [hza, hzb] at hz2; omega) ?_ ?_
        · intro K hK
          exact src_part (zz := zz) (by rw [get_lt hwn]; exact h2) hlk i (cap - i) hi _ (.inl rfl) K (by rw [hBd]; exact hK)
        · have hsp := splice_mid (A := A ++ c) (B := zb) (C := zc) (vs := B) hA2 (by rw [hzb, hB])
          simp only [List.append_assoc] at hsp
          have hmin2 : Nat.min (cs.length - i) (cs.length - i) = cs.length - i := Nat.min_self _
          rw [hmin2, List.take_of_length_le (Nat.le_of_eq hB), hsp, set_app0]
          (refine top_in ?_; simp -implicitDefEqProofs only [go_sem, -List.reduceReplicate, ↓L_gdZ_tt, ↓L_gdZ_tf, ↓L_gdZ_ft, ↓L_gdZ_ff, ↓T_and, ↓T_imp, ↓T_all, w1, hci3, hci]; try simp only [top_out])
          have hfin : (insAt cs i c).flatten = A ++ (c ++ B) := by rw [insAt_flat, hAd, hBd]
          have hcl := insAt_length cs i c
          refine dropC_all (by simp) (hK _ _ ⟨by omega, hall, .inr ⟨M.length, c2, zc, _, by rw [hcl], by rw [get_app0, hfin]; simp; rfl, by rw [hcl]; simp only [List.length_append] at hz2; omega⟩⟩ (fun d e => by cases e; exact .inr (Nat.le_refl _)) Ag.app)
      · have w1 : IntKind.i64.wrap ((i : Int) + 1) = ((i + 1 : Nat) : Int) := w64 (by omega) (by omega)
        have tn : ((cs.length : Int) + 1).toNat = cs.length + 1 := by omega
        have hcapn : cs.length + 1 ≤ cap := by omega
        have hci : ¬ cap = i := by omega
        have hci3 : ¬ cap = i + 1 := by omega
        have hsub : cs.length + 1 - (i + 1) = cs.length - i := by omega
        rw [w1, tn, Int.toNat_natCast, if_neg hci3]
        refine ⟨by omega, by omega, by omega, by omega, ?_⟩
        have hzl : 8 ≤ zz.length := by
          have : (cs.length + 1) * 8 ≤ cap * 8 := Nat.mul_le_mul_right 8 hcapn
          rw [Nat.add_mul, Nat.one_mul] at this; omega
        obtain ⟨z1, z2, rfl, hz1⟩ : ∃ z1 z2, zz = z1 ++ z2 ∧ z1.length = 8 := ⟨zz.take 8, zz.drop 8, (List.take_append_drop _ _).symm, by rw [List.length_take]; omega⟩
        have hcne : c ≠ [] := fun e => by rw [e] at hc; exact absurd hc.1 (by decide)
        have hRne : cs.flatten ++ (z1 ++ z2) ≠ [] := fun e => by
          have := congrArg List.length e
          simp only [List.length_append, List.length_nil] at this
          omega
        refine .inr ⟨Extern.SlicesOverlaps.overlaps #[23, 23] #[4], fun xs w => run_callFunc_extern Try.func87 (by kernel_rfl) (by kernel_rfl) (by kernel_rfl) (by kernel_rfl) xs w, fun _ => overlaps_no (size := 8) Try.underlying23 (fun w => run_sizeOf (sz := 8) (by kernel_rfl) w) r n _ 1 1 _ _ hr hcne h2 hRne hne' ?_⟩
        (refine top_in ?_; simp -implicitDefEqProofs only [go_sem, -List.reduceReplicate, ↓L_gdZ_tt, ↓L_gdZ_tf, ↓L_gdZ_ft, ↓L_gdZ_ff, ↓T_and, ↓T_imp, ↓T_all]; try simp only [top_out])
        refine draw_rule tabOK (by kernel_rfl : _) (.p 0 (.p 1 (.p 2 (.p 3 (.p 4 (.p 5 (.p 6 (.p 7 (.e 8 [] .nil .no))))))))) (by kernel_rfl) (by kernel_rfl) ?_
        (refine top_in ?_; simp -implicitDefEqProofs only [go_sem, -List.reduceReplicate, ↓L_gdZ_tt, ↓L_gdZ_tf, ↓L_gdZ_ft, ↓L_gdZ_ff, ↓T_and, ↓T_imp, ↓T_all, w1, hci3, hci, tn, Int.toNat_natCast, if_false]; try simp only [top_out])
        refine ⟨by omega, by omega, by omega, by omega, ?_⟩
        obtain ⟨A, hAd⟩ : ∃ A, (cs.take i).flatten = A := ⟨_, rfl⟩
        obtain ⟨B, hBd⟩ : ∃ B, (cs.drop i).flatten = B := ⟨_, rfl⟩
        rw [hAd] at hA
        rw [hBd] at hB
        have hflat : cs.flatten = A ++ B := by rw [← hAd, ← hBd, ← List.flatten_append, List.take_append_drop]
        have hlk1 : ∀ c' ∈ cs ++ [z1], c'.length = 8 := fun c' hc' => by
          rcases List.mem_append.1 hc' with g | g
          · exact hlk c' g
          · rw [List.mem_singleton.1 g]; exact hz1
        have hrow : cs.flatten ++ (z1 ++ z2) = (cs ++ [z1]).flatten ++ z2 := by rw [List.flatten_append, List.flatten_singleton, List.append_assoc]
        have hdr : ((cs ++ [z1]).drop i).flatten = B ++ z1 := by rw [List.drop_append_of_le_length hi, List.flatten_append, hBd, List.flatten_singleton]
        have hsp1 : cs.length + 1 - i = (cs ++ [z1]).length - i := by rw [List.length_append]; rfl
        have hle : (i + 1) * 8 + (cs.length - i) * 8 ≤ (cs.flatten ++ (z1 ++ z2)).length := by
          have : cs.length * 8 = i * 8 + (cs.length - i) * 8 := by
            rw [← Nat.add_mul]; congr 1; omega
          rw [List.length_append, hfl, List.length_append, hz1, Nat.add_mul]; omega
        rw [hsub]
        refine copyK n ((i + 1) * 8) (cs.flatten ++ (z1 ++ z2)) (B ++ z1) (cs.length + 1 - i) _ rfl (by decide) h2 hle ?_ ?_
        · intro K hK
          rw [hrow] at h2
          have := src_part (zz := z2) h2 hlk1 i (cap - i) (by rw [List.length_append]; omega) _ (.inl rfl) K (by rw [hdr, ← hsp1]; exact hK)
          rw [← hsp1] at this; exact this
        · have hmin : Nat.min (cs.length + 1 - i) (cs.length - i) = cs.length - i := Nat.min_eq_right (by omega)
          have htk : (B ++ z1).take ((cs.length - i) * 8) = B := by rw [← hB, List.take_left]
          obtain ⟨X1, X2, hX, hX1⟩ : ∃ X1 X2, B ++ z1 = X1 ++ X2 ∧ X1.length = 8 := ⟨(B ++ z1).take 8, (B ++ z1).drop 8, (List.take_append_drop _ _).symm, by rw [List.length_take, List.length_append]; omega⟩
          have hX2 : X2.length = B.length := by
            have := congrArg List.length hX
            rw [List.length_append, List.length_append] at this; omega
          have hAX : (A ++ X1).length = (i + 1) * 8 := by rw [List.length_append, hA, hX1, Nat.add_mul, Nat.one_mul]
          have hrow2 : cs.flatten ++ (z1 ++ z2) = (A ++ X1) ++ (X2 ++ z2) := by
            rw [hflat, List.append_assoc, ← List.append_assoc B, hX]; simp only [List.append_assoc]
          rw [hmin, htk, hrow2, splice_mid hAX hX2]
          (refine top_in ?_; simp -implicitDefEqProofs only [go_sem, -List.reduceReplicate, ↓L_gdZ_tt, ↓L_gdZ_tf, ↓L_gdZ_ft, ↓L_gdZ_ff, ↓T_and, ↓T_imp, ↓T_all]; try simp only [top_out])
          rw [if_neg hci]
          refine ⟨by omega, by omega, ?_⟩
          refine copyK n (i * 8) (A ++ (X1 ++ (B ++ z2))) c 1 _ rfl (by decide) (by rw [List.getElem?_set_self hwn]) (by simp only [List.length_append]; omega) (fun K hK => src_one (by rw [List.getElem?_set_ne (Ne.symm hne')]; exact hr) hc.1 K (by simpa using hK)) ?_
          have hmin : Nat.min 1 (cs.length + 1 - i) = 1 := Nat.min_eq_left (by omega)
          rw [hmin, Nat.one_mul, List.take_of_length_le (Nat.le_of_eq hc.1), splice_mid hA (by rw [hX1, hc.1])]
          (refine top_in ?_; simp -implicitDefEqProofs only [go_sem, -List.reduceReplicate, ↓L_gdZ_tt, ↓L_gdZ_tf, ↓L_gdZ_ft, ↓L_gdZ_ff, ↓T_and, ↓T_imp, ↓T_all]; try simp only [top_out])
          have hfin : (insAt cs i c).flatten = A ++ (c ++ B) := by rw [insAt_flat, hAd, hBd]
          have hcl := insAt_length cs i c
          rw [List.set_set]
          rw [List.length_append, hz1] at h3
          refine dropC_all (by simp) (hK _ _ ⟨by omega, hall, .inr ⟨n, cap, z2, tz, by rw [hcl], by rw [List.getElem?_set_self hwn, hfin]; simp only [List.append_assoc], by rw [hcl]; omega⟩⟩ (fun d e => by cases e; exact .inl rfl) (Ag.set rfl))
set_option maxHeartbeats 1000000 in
theorem insPx_ok (s : SV) (cs : List (List SV)) (i r : Nat) (c : List SV) (ty : TypeId) (M : List Blk) (K : SV → List Blk → Prop) (h : Own M 4 s cs) (hi : i ≤ cs.length) (hl : cs.length ≤ 1000) (hr : M[r]? = some (.row c ty)) (hc : c.length = 4 ∧ c.all SV.one = true) (hne : dnS s ≠ some r)
    (hK : ∀ M' s', Own M' 4 s' (insAt cs i c) → NmG (fun n => dnS s = some n ∨ M.length ≤ n) s' → Ag (fun n => dnS s = some n) M M' → K s' M') :
    callVC Try.prog 34 [s, .i .i64 i, .sl r 0 1 1] M K := by
  obtain ⟨h0, h1, ⟨rfl, rfl⟩ | ⟨n, cap, zz, tz, rfl, h2, h3⟩⟩ := h
  · obtain rfl : i = 0 := by simpa using hi
    refine fn_rule tabOK Try.func34 rfl Try.call34 (by kernel_rfl) (fun hM => ?_)
    (refine top_in ?_; simp -implicitDefEqProofs only [Try.ntmps34, Try.results34, go_sem, -List.reduceReplicate, ↓L_gdZ_tt, ↓L_gdZ_tf, ↓L_gdZ_ft, ↓L_gdZ_ff, ↓T_and, ↓T_imp, ↓T_all, Int.reduceBEq]; try simp only [top_out])
    refine appK (k := 4) [] [c] rfl (by decide) (by decide) (by decide) rfl rfl rfl Own.sn (fun c' hc' => by rw [List.mem_singleton.1 hc']; exact hc) (src_one hr hc.1) (by simp) (fun M2 s2 o2 n2 A2 => ?_)
    (refine top_in ?_; simp -implicitDefEqProofs only [go_sem, -List.reduceReplicate, ↓L_gdZ_tt, ↓L_gdZ_tf, ↓L_gdZ_ft, ↓L_gdZ_ff, ↓T_and, ↓T_imp, ↓T_all]; try simp only [top_out])
    exact dropC_all A2.1 (hK M2 s2 (by simpa [insAt] using o2) (n2.mono (fun n g => .inr (by omega))) A2)
  · have hlk : ∀ c ∈ cs, c.length = 4 := fun c hc => (h1 c hc).1
    have hfl := flat_length hlk
    have hA := flat_length (k := 4) (cs := cs.take i) (fun c hc => hlk c (List.mem_of_mem_take hc))
    have hB := flat_length (k := 4) (cs := cs.drop i) (fun c hc => hlk c (List.mem_of_mem_drop hc))
    rw [List.length_take, Nat.min_eq_left hi] at hA
    rw [List.length_drop] at hB
    have hne' : r ≠ n := fun e => hne (by rw [e]; rfl)
    have hwn := kw h2
    have hwr := kw hr
    have hcap : cs.length ≤ cap := by
      have : cs.length * 4 ≤ cap * 4 := by omega
      omega
    have hall : ∀ c' ∈ insAt cs i c, c'.length = 4 ∧ c'.all SV.one = true := fun c' hc' => by
      rcases mem_insAt.1 hc' with rfl | g
      · exact hc
      · exact h1 c' g
    refine fn_rule tabOK Try.func34 rfl Try.call34 (by kernel_rfl) (fun hM => ?_)
    (refine top_in ?_; simp -implicitDefEqProofs only [Try.ntmps34, Try.results34, go_sem, -List.reduceReplicate, ↓L_gdZ_tt, ↓L_gdZ_tf, ↓L_gdZ_ft, ↓L_gdZ_ff, ↓T_and, ↓T_imp, ↓T_all, Int.reduceBEq]; try simp only [top_out])
    refine ⟨by omega, by omega, fun h4 => ?_, fun h4 => ?_⟩
    · have hic : i = cs.length := by have := beqT h4; omega
      refine appK (k := 4) cs [c] rfl (by decide) (by decide) (by decide) rfl rfl rfl ⟨h0, h1, .inr ⟨n, cap, zz, tz, rfl, h2, h3⟩⟩ (fun c' hc' => by rw [List.mem_singleton.1 hc']; exact hc) (src_one hr hc.1) (by simp; omega) (fun M2 s2 o2 n2 A2 => ?_)
      (refine top_in ?_; simp -implicitDefEqProofs only [go_sem, -List.reduceReplicate, ↓L_gdZ_tt, ↓L_gdZ_tf, ↓L_gdZ_ft, ↓L_gdZ_ff, ↓T_and, ↓T_imp, ↓T_all]; try simp only [top_out])
      refine dropC_all A2.1 (hK M2 s2 ?_ (n2.mono (fun n g => .inr (by omega))) A2)
      have : insAt cs i c = cs ++ [c] := by unfold insAt; rw [hic, List.take_length, List.drop_length]
      rw [this]; exact o2
    · have hic : i < cs.length := by have := beqF h4; omega
      rw [w64 (x := (cs.length : Int) + 1) (by omega) (by omega)]
      refine ⟨fun h5 => ?_, fun h5 => ?_⟩
      · rw [w64 (x := (cs.length : Int) + 1 - i) (by omega) (by omega)]
        refine ⟨by omega, by omega, ?_⟩
        have hm : ((cs.length : Int) + 1 - i) = ((cs.length + 1 - i : Nat) : Int) := by omega
        rw [hm]
        have hci : ¬ cap = i := by omega
        refine appG (k := 4) n i (cs.length + 1 - i) cap (cs.flatten ++ zz) tz rfl (by decide) (by decide) (by decide) rfl rfl rfl h2 (by rw [List.length_append, hfl]; have := Nat.mul_le_mul_right 4 hi; omega) (by omega) (by omega) (by omega) (fun c2 z2 hc2 hz2 => ?_)
        rw [flat_take i zz hlk hi, show i + (cs.length + 1 - i) = cs.length + 1 by omega]
        rw [show i + (cs.length + 1 - i) = cs.length + 1 by omega] at hc2
        have hci2 : ¬ c2 = i := by omega
        have hzl : 4 + (cs.length - i) * 4 ≤ z2.length := by
          rw [hz2]
          have : (cs.length - i + 1) * 4 ≤ (c2 - i) * 4 := Nat.mul_le_mul_right 4 (by omega)
          rw [Nat.add_mul, Nat.one_mul] at this; omega
        obtain ⟨za, zr, rfl, hza⟩ : ∃ za zr, z2 = za ++ zr ∧ za.length = 4 := ⟨z2.take 4, z2.drop 4, (List.take_append_drop _ _).symm, by rw [List.length_take]; omega⟩
        obtain ⟨zb, zc, rfl, hzb⟩ : ∃ zb zc, zr = zb ++ zc ∧ zb.length = (cs.length - i) * 4 := ⟨zr.take ((cs.length - i) * 4), zr.drop ((cs.length - i) * 4), (List.take_append_drop _ _).symm, by rw [List.length_append] at hzl; rw [List.length_take]; omega⟩
        (refine top_in ?_; simp -implicitDefEqProofs only [go_sem, -List.reduceReplicate, ↓L_gdZ_tt, ↓L_gdZ_tf, ↓L_gdZ_ft, ↓L_gdZ_ff, ↓T_and, ↓T_imp, ↓T_all, hci2]; try simp only [top_out])
        refine ⟨by omega, by omega, ?_⟩
        obtain ⟨A, hAd⟩ : ∃ A, (cs.take i).flatten = A := ⟨_, rfl⟩
        obtain ⟨B, hBd⟩ : ∃ B, (cs.drop i).flatten = B := ⟨_, rfl⟩
        rw [hAd] at hA
        rw [hBd] at hB
        rw [hAd]
        refine copyK M.length (i * 4) (A ++ (za ++ (zb ++ zc))) c 1 _ rfl (by decide) (by rw [get_app0]; rfl) (by simp only [List.length_append] at hz2 ⊢; omega) (fun K hK => src_one (by rw [get_lt hwr]; exact hr) hc.1 K (by simpa using hK)) ?_
        have hmin : Nat.min 1 (cs.length + 1 - i) = 1 := Nat.min_eq_left (by omega)
        rw [hmin, Nat.one_mul, List.take_of_length_le (Nat.le_of_eq hc.1), splice_mid hA (by rw [hza, hc.1])]
        rw [set_app0]
        (refine top_in ?_; simp -implicitDefEqProofs only [go_sem, -List.reduceReplicate, ↓L_gdZ_tt, ↓L_gdZ_tf, ↓L_gdZ_ft, ↓L_gdZ_ff, ↓T_and, ↓T_imp, ↓T_all]; try simp only [top_out])
        refine draw_rule tabOK (by kernel_rfl : _) (.p 0 (.p 1 (.p 2 (.p 3 (.p 4 (.p 5 (.p 6 (.p 7 (.e 8 [] .nil .no))))))))) (by kernel_rfl) (by kernel_rfl) ?_
        have w1 : IntKind.i64.wrap ((i : Int) + 1) = ((i + 1 : Nat) : Int) := w64 (by omega) (by omega)
        have hci3 : ¬ c2 = i + 1 := by omega
        (refine top_in ?_; simp -implicitDefEqProofs only [go_sem, -List.reduceReplicate, ↓L_gdZ_tt, ↓L_gdZ_tf, ↓L_gdZ_ft, ↓L_gdZ_ff, ↓T_and, ↓T_imp, ↓T_all, w1, hci3, hci]; try simp only [top_out])
        refine ⟨by omega, by omega, by omega, by omega, ?_⟩
        have hA2 : (A ++ c).length = (i + 1) * 4 := by rw [List.length_append, hA, hc.1, Nat.add_mul, Nat.one_mul]
        have hsub : cs.length + 1 - (i + 1) = cs.length - i := by omega
        rw [hsub]
        refine copyK M.length ((i + 1) * 4) (A ++ (c ++ (zb ++ zc))) B (cs.length - i) _ rfl (by decide) (by rw [get_app0]; rfl) (by simp only [List.length_append] at hz2 ⊢; rw [hA, hc.1, hzb]; rw [hza, hzb] at hz2; omega) ?_ ?_
        · intro K hK
          exact src_part (zz := zz) (by rw [get_lt hwn]; exact h2) hlk i (cap - i) hi _ (.inl rfl) K (by rw [hBd]; exact hK)
        · have hsp := splice_mid (A := A ++ c) (B := zb) (C := zc) (vs := B) hA2 (by rw [hzb, hB])
          simp only [List.append_assoc] at hsp
          have hmin2 : Nat.min (cs.length - i) (cs.length - i) = cs.length - i := Nat.min_self _
          rw [hmin2, List.take_of_length_le (Nat.le_of_eq hB), hsp, set_app0]
          (refine top_in ?_; simp -implicitDefEqProofs only [go_sem, -List.reduceReplicate, ↓L_gdZ_tt, ↓L_gdZ_tf, ↓L_gdZ_ft, ↓L_gdZ_ff, ↓T_and, ↓T_imp, ↓T_all, w1, hci3, hci]; try simp only [top_out])
          have hfin : (insAt cs i c).flatten = A ++ (c ++ B) := by rw [insAt_flat, hAd, hBd]
          have hcl := insAt_length cs i c
          refine dropC_all (by simp) (hK _ _ ⟨by omega, hall, .inr ⟨M.length, c2, zc, _, by rw [hcl], by rw [get_app0, hfin]; simp; rfl, by rw [hcl]; simp only [List.length_append] at hz2; omega⟩⟩ (fun d e => by cases e; exact .inr (Nat.le_refl _)) Ag.app)
      · have w1 : IntKind.i64.wrap ((i : Int) + 1) = ((i + 1 : Nat) : Int) := w64 (by omega) (by omega)
        have tn : ((cs.length : Int) + 1).toNat = cs.length + 1 := by omega
        have hcapn : cs.length + 1 ≤ cap := by omega
        have hci : ¬ cap = i := by omega
        have hci3 : ¬ cap = i + 1 := by omega
        have hsub : cs.length + 1 - (i + 1) = cs.length - i := by omega
        rw [w1, tn, Int.toNat_natCast, if_neg hci3]
        refine ⟨by omega, by omega, by omega, by omega, ?_⟩
        have hzl : 4 ≤ zz.length := by
          have : (cs.length + 1) * 4 ≤ cap * 4 := Nat.mul_le_mul_right 4 hcapn
          rw [Nat.add_mul, Nat.one_mul] at this; omega
        obtain ⟨z1, z2, rfl, hz1⟩ : ∃ z1 z2, zz = z1 ++ z2 ∧ z1.length = 4 := ⟨zz.take 4, zz.drop 4, (List.take_append_drop _ _).symm, by rw [List.length_take]; omega⟩
        have hcne : c ≠ [] := fun e => by rw [e] at hc; exact absurd hc.1 (by decide)
        have hRne : cs.flatten ++ (z1 ++ z2) ≠ [] := fun e => by
          have := congrArg List.length e
          simp only [List.length_append, List.length_nil] at this
          omega
        refine .inr ⟨Extern.SlicesOverlaps.overlaps #[53, 53] #[4], fun xs w => run_callFunc_extern Try.func69 (by kernel_rfl) (by kernel_rfl) (by kernel_rfl) (by kernel_rfl) xs w, fun _ => overlaps_no (size := 4) Try.underlying53 (fun w => run_sizeOf (sz := 4) (by kernel_rfl) w) r n _ 1 1 _ _ hr hcne h2 hRne hne' ?_⟩
        (refine top_in ?_; simp -implicitDefEqProofs only [go_sem, -List.reduceReplicate, ↓L_gdZ_tt, ↓L_gdZ_tf, ↓L_gdZ_ft, ↓L_gdZ_ff, ↓T_and, ↓T_imp, ↓T_all]; try simp only [top_out])
        refine draw_rule tabOK (by kernel_rfl : _) (.p 0 (.p 1 (.p 2 (.p 3 (.p 4 (.p 5 (.p 6 (.p 7 (.e 8 [] .nil .no))))))))) (by kernel_rfl) (by kernel_rfl) ?_
        (refine top_in ?_; simp -implicitDefEqProofs only [go_sem, -List.reduceReplicate, ↓L_gdZ_tt, ↓L_gdZ_tf, ↓L_gdZ_ft, ↓L_gdZ_ff, ↓T_and, ↓T_imp, ↓T_all, w1, hci3, hci, tn, Int.toNat_natCast, if_false]; try simp only [top_out])
        refine ⟨by omega, by omega, by omega, by omega, ?_⟩
        obtain ⟨A, hAd⟩ : ∃ A, (cs.take i).flatten = A := ⟨_, rfl⟩
        obtain ⟨B, hBd⟩ : ∃ B, (cs.drop i).flatten = B := ⟨_, rfl⟩
        rw [hAd] at hA
        rw [hBd] at hB
        have hflat : cs.flatten = A ++ B := by rw [← hAd, ← hBd, ← List.flatten_append, List.take_append_drop]
        have hlk1 : ∀ c' ∈ cs ++ [z1], c'.length = 4 := fun c' hc' => by
          rcases List.mem_append.1 hc' with g | g
          · exact hlk c' g
          · rw [List.mem_singleton.1 g]; exact hz1
        have hrow : cs.flatten ++ (z1 ++ z2) = (cs ++ [z1]).flatten ++ z2 := by rw [List.flatten_append, List.flatten_singleton, List.append_assoc]
        have hdr : ((cs ++ [z1]).drop i).flatten = B ++ z1 := by rw [List.drop_append_of_le_length hi, List.flatten_append, hBd, List.flatten_singleton]
        have hsp1 : cs.length + 1 - i = (cs ++ [z1]).length - i := by rw [List.length_append]; rfl
        have hle : (i + 1) * 4 + (cs.length - i) * 4 ≤ (cs.flatten ++ (z1 ++ z2)).length := by
          have : cs.length * 4 = i * 4 + (cs.length - i) * 4 := by
            rw [← Nat.add_mul]; congr 1; omega
          rw [List.length_append, hfl, List.length_append, hz1, Nat.add_mul]; omega
        rw [hsub]
        refine copyK n ((i + 1) * 4) (cs.flatten ++ (z1 ++ z2)) (B ++ z1) (cs.length + 1 - i) _ rfl (by decide) h2 hle ?_ ?_
        · intro K hK
          rw [hrow] at h2
          have := src_part (zz := z2) h2 hlk1 i (cap - i) (by rw [List.length_append]; omega) _ (.inl rfl) K (by rw [hdr, ← hsp1]; exact hK)
          rw [← hsp1] at this; exact this
        · have hmin : Nat.min (cs.length + 1 - i) (cs.length - i) = cs.length - i := Nat.min_eq_right (by omega)
          have htk : (B ++ z1).take ((cs.length - i) * 4) = B := by rw [← hB, List.take_left]
          obtain ⟨X1, X2, hX, hX1⟩ : ∃ X1 X2, B ++ z1 = X1 ++ X2 ∧ X1.length = 4 := ⟨(B ++ z1).take 4, (B ++ z1).drop 4, (List.take_append_drop _ _).symm, by rw [List.length_take, List.length_append]; omega⟩
          have hX2 : X2.length = B.length := by
            have := congrArg List.length hX
            rw [List.length_append, List.length_append] at this; omega
          have hAX : (A ++ X1).length = (i + 1) * 4 := by rw [List.length_append, hA, hX1, Nat.add_mul, Nat.one_mul]
          have hrow2 : cs.flatten ++ (z1 ++ z2) = (A ++ X1) ++ (X2 ++ z2) := by
            rw [hflat, List.append_assoc, ← List.append_assoc B, hX]; simp only [List.append_assoc]
          rw [hmin, htk, hrow2, splice_mid hAX hX2]
          (refine top_in ?_; simp -implicitDefEqProofs only [go_sem, -List.reduceReplicate, ↓L_gdZ_tt, ↓L_gdZ_tf, ↓L_gdZ_ft, ↓L_gdZ_ff, ↓T_and, ↓T_imp, ↓T_all]; try simp only [top_out])
          rw [if_neg hci]
          refine ⟨by omega, by omega, ?_⟩
          refine copyK n (i * 4) (A ++ (X1 ++ (B ++ z2))) c 1 _ rfl (by decide) (by rw [List.getElem?_set_self hwn]) (by simp only [List.length_append]; omega) (fun K hK => src_one (by rw [List.getElem?_set_ne (Ne.symm hne')]; exact hr) hc.1 K (by simpa using hK)) ?_
          have hmin : Nat.min 1 (cs.length + 1 - i) = 1 := Nat.min_eq_left (by omega)
          rw [hmin, Nat.one_mul, List.take_of_length_le (Nat.le_of_eq hc.1), splice_mid hA (by rw [hX1, hc.1])]
          (refine top_in ?_; simp -implicitDefEqProofs only [go_sem, -List.reduceReplicate, ↓L_gdZ_tt, ↓L_gdZ_tf, ↓L_gdZ_ft, ↓L_gdZ_ff, ↓T_and, ↓T_imp, ↓T_all]; try simp only [top_out])
          have hfin : (insAt cs i c).flatten = A ++ (c ++ B) := by rw [insAt_flat, hAd, hBd]
          have hcl := insAt_length cs i c
          rw [List.set_set]
          rw [List.length_append, hz1] at h3
          refine dropC_all (by simp) (hK _ _ ⟨by omega, hall, .inr ⟨n, cap, z2, tz, by rw [hcl], by rw [List.getElem?_set_self hwn, hfin]; simp only [List.append_assoc], by rw [hcl]; omega⟩⟩ (fun d e => by cases e; exact .inl rfl) (Ag.set rfl))
end Go.Proofs.Ytdcplcfedcmcmaa.Eng
