/- The laws' own small functions. -/
import Derived.Test.YtdcplcfedcmcmaaGreatMg
namespace Go.Proofs.YtdcplcfedcmcmaaGreat.Eng
open Go Go.RowKit
set_option linter.unusedSimpArgs false
set_option linter.unusedVariables false

theorem fits_ok (G : Nat → Prop) (xc : SV) (cs : List Ch) (M : List Blk) (K : SV → List Blk → Prop) (h : Chs M G xc cs) (hK : K (.b (decide (cs.length ≤ 60))) M) : callVC Tryz.prog 7 [xc] M K := by
  have la : ∀ {M' : List Blk} {e a' b' : Nat} {K : SV → Prop}, lenB (.slice e a' b') M' xc K = K (.i .i64 cs.length) := h.lenB
  refine fn_rule tabOK Tryz.func7 rfl Tryz.call7 (by kernel_rfl) (fun hM => ?_)
  (refine top_in ?_; simp -implicitDefEqProofs only [Tryz.ntmps7, Tryz.results7, go_sem, -List.reduceReplicate, ↓L_gdZ_tt, ↓L_gdZ_tf, ↓L_gdZ_ft, ↓L_gdZ_ff, ↓T_and, ↓T_imp, ↓T_all, la]; try simp only [top_out])
  refine dropQ hM hK ?_
  by_cases g : cs.length ≤ 60
  · rw [decide_eq_true g, decide_eq_true (by omega)]
  · rw [decide_eq_false g, decide_eq_false (by omega)]
theorem num_ok (a : Int) (M : List Blk) (K : SV → List Blk → Prop) (hK : K (.i .i64 a) M) : callVC Tryz.prog 16 [.i .i64 a] M K := by
  refine fn_rule tabOK Tryz.func16 rfl Tryz.call16 (by kernel_rfl) (fun hM => ?_)
  (refine top_in ?_; simp -implicitDefEqProofs only [Tryz.ntmps16, Tryz.results16, go_sem, -List.reduceReplicate, ↓L_gdZ_tt, ↓L_gdZ_tf, ↓L_gdZ_ft, ↓L_gdZ_ff, ↓T_and, ↓T_imp, ↓T_all]; try simp only [top_out])
  exact dropC_self hM rfl hK
theorem key_ok (b : BitVec 8) (M : List Blk) (K : SV → List Blk → Prop) (hK : ∀ M' y, Byt M' y (List.replicate 32 b) → NmG (fun n => M.length ≤ n) y → Ag (fun _ => False) M M' → K y M') :
    callVC Tryz.prog 19 [.u8 b] M K := by
  refine fn_rule tabOK Tryz.func19 rfl Tryz.call19 (by kernel_rfl) (fun hM => ?_)
  (refine top_in ?_; simp -implicitDefEqProofs only [Tryz.ntmps19, Tryz.results19, go_sem, -List.reduceReplicate, ↓L_gdZ_tt, ↓L_gdZ_tf, ↓L_gdZ_ft, ↓L_gdZ_ff, ↓T_and, ↓T_imp, ↓T_all]; try simp only [top_out])
  refine loop_code tabOK (by kernel_rfl) (fun m ts M' => ∃ (k : Nat) (s : SV), k + m = 32 ∧ Ag (fun _ => False) M M' ∧ ((s = .sn ∧ k = 0) ∨ ∃ n z ty, s = .sl n 0 k (k + z.length) ∧ M'[n]? = some (.row (bS (List.replicate k b ++ z)) ty) ∧ M.length ≤ n) ∧ frC [some (.u8 b), none, none, some (s), some (.i .i64 k), none, none, none, none, none, none, none, none, none] ts) 32 ?_ ?_
  · exact ⟨0, .sn, by omega, Ag.refl, .inl ⟨rfl, rfl⟩, by simp [frC]⟩
  · rintro m ts M1 ⟨k, s, hk, hA, hs, hf⟩
    have hm := hA.1
    obtain ⟨f, rfl⟩ := frC_open _ _ 0 hf
    clear hf
    (refine top_in ?_; simp -implicitDefEqProofs only [go_sem, -List.reduceReplicate, ↓L_gdZ_tt, ↓L_gdZ_tf, ↓L_gdZ_ft, ↓L_gdZ_ff, ↓T_and, ↓T_imp, ↓T_all]; try simp only [top_out])
    refine ⟨fun h1 => ?_, fun h1 => ?_⟩
    · refine ⟨by decide, ?_⟩
      rcases hs with ⟨rfl, rfl⟩ | ⟨n, z, ty, rfl, hr, hn⟩
      · refine app8n [b] rfl rfl rfl (src_u8 (by rw [get_app0]; rfl)) (by simp) (fun z' ty' => ?_)
        (refine top_in ?_; simp -implicitDefEqProofs only [go_sem, -List.reduceReplicate, ↓L_gdZ_tt, ↓L_gdZ_tf, ↓L_gdZ_ft, ↓L_gdZ_ff, ↓T_and, ↓T_imp, ↓T_all]; try simp only [top_out])
        exact ⟨m - 1, by omega, 1, .sl (M1.length + 1) 0 1 (1 + z'.length), by omega, Ag.trans hA Ag.app (fun _ _ e => e), .inr ⟨M1.length + 1, z', ty', rfl, by rw [get_app]; rfl, by omega⟩, rfl, w64 (by omega) (by omega)⟩
      · have hl2 := kw hr
        refine app8 n (List.replicate k b) z [b] ty rfl rfl rfl (by rw [get_lt hl2]; exact hr) (by simp) (by simp) (src_u8 (by rw [get_app0]; rfl)) (by simp; omega) (fun z' ty' => ?_)
        (refine top_in ?_; simp -implicitDefEqProofs only [go_sem, -List.reduceReplicate, ↓L_gdZ_tt, ↓L_gdZ_tf, ↓L_gdZ_ft, ↓L_gdZ_ff, ↓T_and, ↓T_imp, ↓T_all]; try simp only [top_out])
        refine ⟨m - 1, by omega, k + 1, .sl (M1.length + 1) 0 (k + 1) (k + 1 + z'.length), by omega, ?_, .inr ⟨M1.length + 1, z', ty', rfl, ?_, by omega⟩, by rw [Nat.add_assoc], w64 (by omega) (by omega)⟩
        · exact Ag.trans hA (S' := fun q => q = n) (Ag.trans (S' := fun q => q = n) (Ag.app (S := fun q => q = n)) (Ag.trans (S' := fun _ => False) (Ag.set rfl) Ag.app (fun _ _ e => e.elim)) (fun _ _ e => e)) (fun q h1 h2 => by omega)
        · rw [get_last (by simp), List.replicate_succ']; simp [bS]
    · obtain rfl : k = 32 := by omega
      rcases hs with ⟨rfl, h0⟩ | ⟨n, z, ty, rfl, hr, hn⟩
      · omega
      · exact dropC_all hm (hK M1 _ (Byt.row (l := List.replicate 32 b) hr (by simp)) (fun d e => by cases e; exact hn) hA)
/-- the first law: three changes -/
def firstC (k : List (BitVec 8)) : List Ch := [⟨1, 7, 0, k, Pfx.none⟩, ⟨2, 7, 0, [], Pfx.none⟩, ⟨1, 9, 0, k, Pfx.none⟩]
theorem first_judge (k : List (BitVec 8)) (hk : k.length = 32) : (St.mk [] []).judge (firstC k) = .inl ⟨[⟨9, k, []⟩], [⟨k, 0, 2, 0, 0#64, 0#64, 0, 0⟩]⟩ := by
  have h3 : k.length = 32 := hk
  simp [St.judge, firstC, St.run, St.fault, Ch.spare, Ch.keyed, Ch.pre, St.givenF, St.keyedF, St.lane, St.owner, St.peer, St.done, St.give, insAt, Pfx.none, hk, Ln.lifted]
  rfl
theorem right_nil : (St.mk [] []).Right := ⟨by simp, by simp, by simp, .nil, by simp, .nil, .nil, .nil, by simp⟩
theorem Prs.sn {M : List Blk} {G : Nat → Prop} : Prs M G .sn [] := ⟨[], rfl, Lst.sn, NmG.sn, by simp⟩
theorem Lns.sn {M : List Blk} {G : Nat → Prop} : Lns M G .sn [] := ⟨[], rfl, Lst.sn, NmG.sn, by simp⟩
theorem first_ok (M : List Blk) (K : SV → List Blk → Prop) (hK : ∀ M', Ag (fun _ => False) M M' → K (.b true) M') : callVC Tryz.prog 6 [] M K := by
  refine fn_rule tabOK Tryz.func6 rfl Tryz.call6 (by kernel_rfl) (fun hM => ?_)
  (refine top_in ?_; simp -implicitDefEqProofs only [Tryz.ntmps6, Tryz.results6, go_sem, -List.reduceReplicate, ↓L_gdZ_tt, ↓L_gdZ_tf, ↓L_gdZ_ft, ↓L_gdZ_ff, ↓T_and, ↓T_imp, ↓T_all]; try simp only [top_out])
  refine key_ok 1#8 _ _ (fun M1 y b1 n1 A1 => ?_)
  have o1 := b1.one
  (refine top_in ?_; simp -implicitDefEqProofs only [go_sem, -List.reduceReplicate, ↓L_gdZ_tt, ↓L_gdZ_tf, ↓L_gdZ_ft, ↓L_gdZ_ff, ↓T_and, ↓T_imp, ↓T_all, o1, cellsS_one o1]; try simp only [top_out])
  refine key_ok 1#8 _ _ (fun M2 y2 b2 n2 A2 => ?_)
  have o2 := b2.one
  (refine top_in ?_; simp -implicitDefEqProofs only [go_sem, -List.reduceReplicate, ↓L_gdZ_tt, ↓L_gdZ_tf, ↓L_gdZ_ft, ↓L_gdZ_ff, ↓T_and, ↓T_imp, ↓T_all, o1, o2, cellsS_one o1, cellsS_one o2]; try simp only [top_out])
  refine ⟨by decide, ?_⟩
  have hj := first_judge (List.replicate 32 1#8) (by simp)
  have hC : ∀ {L : List Blk} {t : TypeId}, L[0]? = some (.row ([((⟨1, 7, 0, List.replicate 32 1#8, Pfx.none⟩ : Ch), y), (⟨2, 7, 0, [], Pfx.none⟩, SV.sn), (⟨1, 9, 0, List.replicate 32 1#8, Pfx.none⟩, y2)].map chC).flatten t) → Chs (M2 ++ L) (fun _ => True) (.sl M2.length 0 3 3) (firstC (List.replicate 32 1#8)) := by
    intro L t hL
    refine ⟨[((⟨1, 7, 0, List.replicate 32 1#8, Pfx.none⟩ : Ch), y), (⟨2, 7, 0, [], Pfx.none⟩, SV.sn), (⟨1, 9, 0, List.replicate 32 1#8, Pfx.none⟩, y2)], rfl, (own_row (k := 8) (es := [((⟨1, 7, 0, List.replicate 32 1#8, Pfx.none⟩ : Ch), y), (⟨2, 7, 0, [], Pfx.none⟩, SV.sn), (⟨1, 9, 0, List.replicate 32 1#8, Pfx.none⟩, y2)].map chC) (by simp) (by rw [get_app0]; exact hL) (fun e he => ?_)).lst (by decide), fun _ _ => trivial, fun e he => ?_⟩
    · simp only [List.map_cons, List.map_nil, List.mem_cons, List.not_mem_nil, or_false] at he
      rcases he with rfl | rfl | rfl
      · exact ⟨rfl, by simp [chC, pxC, o1, one_i64, one_u64]⟩
      · exact ⟨rfl, by simp [chC, pxC, one_sn, one_i64, one_u64]⟩
      · exact ⟨rfl, by simp [chC, pxC, o2, one_i64, one_u64]⟩
    · simp only [List.mem_cons, List.not_mem_nil, or_false] at he
      rcases he with rfl | rfl | rfl
      · exact ⟨(b1.ag A2 (fun _ _ e => e)).app, fun _ _ => trivial⟩
      · exact ⟨Byt.sn, fun _ _ => trivial⟩
      · exact ⟨b2.app, fun _ _ => trivial⟩
  refine judge_ok (fun _ => True) (fun _ => True) (fun _ => True) .sn .sn _ (St.mk [] []) (firstC (List.replicate 32 1#8)) _ _ Prs.sn Lns.sn (hC rfl) right_nil (fun M3 i e h A3 => by rw [hj] at h; cases h) (fun M3 y3 z3 s3 h P3 L3 A3 => ?_)
  rw [hj] at h
  cases h
  have la : ∀ {M' : List Blk} {e a' b' : Nat} {K : SV → Prop}, lenB (.slice e a' b') M' y3 K = K (.i .i64 1) := P3.lenB
  have lb : ∀ {M' : List Blk} {e a' b' : Nat} {K : SV → Prop}, lenB (.slice e a' b') M' z3 K = K (.i .i64 1) := L3.lenB
  have o3 := P3.one
  have o4 := L3.one
  (refine top_in ?_; simp -implicitDefEqProofs only [go_sem, -List.reduceReplicate, ↓L_gdZ_tt, ↓L_gdZ_tf, ↓L_gdZ_ft, ↓L_gdZ_ff, ↓T_and, ↓T_imp, ↓T_all, la, lb, o3, o4, Int.reduceBEq, Int.reduceBNe]; try simp only [top_out])
  refine num_ok _ _ _ ?_
  (refine top_in ?_; simp -implicitDefEqProofs only [go_sem, -List.reduceReplicate, ↓L_gdZ_tt, ↓L_gdZ_tf, ↓L_gdZ_ft, ↓L_gdZ_ff, ↓T_and, ↓T_imp, ↓T_all, la, lb, o3, o4, Int.reduceBEq, Int.reduceBNe]; try simp only [top_out])
  refine key_ok 1#8 _ _ (fun M4 y4 b4 n4 A4 => ?_)
  have o5 := b4.one
  have P4 := P3.ag A4 (fun _ _ _ e => e)
  have L4 := L3.ag A4 (fun _ _ _ e => e)
  obtain ⟨nl, capl, el, rfl, l1, g1, g2, g3, g4, g5, g6, g7, g8⟩ := L4.at (k := 0) (by decide)
  obtain ⟨np, capp, ep, rfl, k1, h1, h2, h3, h4, h5, h6, h7⟩ := P4.at (k := 0) (by decide)
  simp only [List.getElem?_cons_zero, Option.some.injEq] at g1 h1
  have hel : el = (⟨List.replicate 32 1#8, 0, 2, 0, 0#64, 0#64, 0, 0⟩, el.2) := Prod.ext g1.symm rfl
  have hM4 : Ag (fun _ => False) M M4 := A1.then (A2.then (Ag.app.then (A3.then A4)))
  simp only [Nat.zero_mul, Nat.zero_add, List.drop_zero, List.length_cons, List.length_nil] at g3 g4 h3 h4 h5
  (refine top_in ?_; simp -implicitDefEqProofs only [go_sem, -List.reduceReplicate, ↓L_gdZ_tt, ↓L_gdZ_tf, ↓L_gdZ_ft, ↓L_gdZ_ff, ↓T_and, ↓T_imp, ↓T_all, o5, cellsS_one o5, get_lt l1, get_lt k1, g3, h5]; try simp only [top_out])
  refine draw_rule tabOK (by kernel_rfl : _) (.p 0 (.p 1 (.p 2 (.p 3 (.e 4 [] (.p 5 .nil) .no))))) (by kernel_rfl) (by kernel_rfl) ?_
  (refine top_in ?_; simp -implicitDefEqProofs only [go_sem, -List.reduceReplicate, ↓L_gdZ_tt, ↓L_gdZ_tf, ↓L_gdZ_ft, ↓L_gdZ_ff, ↓T_and, ↓T_imp, ↓T_all, o5, cellsS_one o5, get_lt l1, get_lt k1, g3, h5]; try simp only [top_out])
  refine ⟨g4, g4, ?_⟩
  refine sameLn_ok (fun n => M2.length ≤ n ∨ True) (fun _ => True) el (⟨List.replicate 32 1#8, 0, 2, 0, 0#64, 0#64, 0, 0⟩, y4) _ _ ((g2.ag (S := fun _ => False) Ag.app (fun _ _ _ e => e)).mono (fun _ _ => .inr trivial)) ⟨b4.app, fun _ _ => trivial⟩ ?_
  have hd : decide (el.1 = (⟨List.replicate 32 1#8, 0, 2, 0, 0#64, 0#64, 0, 0⟩ : Ln)) = true := decide_eq_true g1.symm
  have hl9 : ep.1.link = 9 := by rw [← h1]
  (refine top_in ?_; simp -implicitDefEqProofs only [go_sem, -List.reduceReplicate, ↓L_gdZ_tt, ↓L_gdZ_tf, ↓L_gdZ_ft, ↓L_gdZ_ff, ↓T_and, ↓T_imp, ↓T_all, hd, get_lt k1, h5, hl9, Int.reduceBEq]; try simp only [top_out])
  refine ⟨by omega, by omega, ?_⟩
  have hF : ∀ L, Ag (fun _ => False) M (M4 ++ L) := fun L => hM4.then Ag.app
  exact dropC_all (hF _).1 (hK _ (hF _))
end Go.Proofs.YtdcplcfedcmcmaaGreat.Eng
