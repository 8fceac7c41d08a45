/- Twenty nets. -/
import Derived.Test.YtccnffjjahdneaaOc
namespace Go.Proofs.Ytccnffjjahdneaa.Eng
open Go Go.RowKit
set_option linter.unusedSimpArgs false
set_option linter.unusedVariables false
set_option linter.unusedSimpArgs false
set_option linter.unusedVariables false

/-- elements behind none -/
theorem appGn {T : Tab} {M : List Blk} {ts tx e esz eby : Nat} {K : SV → List Blk → Prop} (z0 y : List SV) (m : Nat) {x : SV} (htk : T.k ts = .slice e esz eby) (he0 : 0 < eby) (he1 : 0 < esz)
    (hz : T.z e = some z0) (hx : nonInt (T.k tx) = true) (hsrc : ∀ K : List SV → Nat → Prop, K y m → srcC M esz x K) (hm : m * eby ≤ 4294967296)
    (hK : ∀ (z' : List SV) (ty' : TypeId) (cap' : Nat), (∀ w, w ∈ z' → w ∈ z0) → m * esz + z'.length = cap' * esz → K (.sl M.length 0 m cap') (M ++ [.row (y ++ z') ty'])) :
    appendC T M ts tx .sn x K := by
  refine .inr (.inl ?_)
  unfold appendN
  rw [htk]
  refine ⟨hx, he0, he1, _, hz, hsrc _ ⟨fun hlt => ?_, fun c sp ty' hc hsp hmm => ?_⟩⟩
  · have := growslice_fits (need := m) (old := 0) (bytes := eby) hlt (by omega)
    omega
  · refine hK sp ty' c hmm (by rw [hsp, Nat.sub_mul]; have := Nat.mul_le_mul_right esz hc; omega)
/-- elements behind elements -/
theorem appGm {T : Tab} {M : List Blk} {ts tx e esz eby : Nat} {K : SV → List Blk → Prop} (z0 : List SV) (n : Nat) (cs zz y : List SV) (m : Nat) (ty : TypeId) {x : SV} {len cap : Nat} (htk : T.k ts = .slice e esz eby) (he0 : 0 < eby) (he1 : 0 < esz)
    (hz : T.z e = some z0) (hx : nonInt (T.k tx) = true) (hB : M[n]? = some (.row (cs ++ zz) ty)) (hlen : cs.length = len * esz) (hcap : len * esz + zz.length = cap * esz)
    (hsrc : ∀ K : List SV → Nat → Prop, K y m → srcC M esz x K) (hzz : ∀ w, w ∈ zz → w ∈ z0) (hb : (len + m) * eby ≤ 4294967296)
    (hK : ∀ (z' : List SV) (ty' : TypeId) (cap' : Nat), (∀ w, w ∈ z' → w ∈ z0) → (len + m) * esz + z'.length = cap' * esz → K (.sl M.length 0 (len + m) cap') (M.set n .dead ++ [.row (cs ++ y ++ z') ty'])) :
    appendC T M ts tx (.sl n 0 len cap) x K := by
  refine .inr (.inl ?_)
  unfold appendN
  rw [htk]
  refine ⟨hx, he0, he1, _, hz, hsrc _ ?_⟩
  have hce : cellsAt M n = cs ++ zz := by simp [cellsAt, hB]
  have hlc : len ≤ cap := by
    have : len * esz ≤ cap * esz := by omega
    exact Nat.le_of_mul_le_mul_right this he1
  refine ⟨rfl, hlc, ⟨_, ty, hB, by rw [List.length_append, hlen]; omega⟩, fun hlt => ?_, fun c sp ty' hc hsp hmm => ?_⟩
  · have := growslice_fits (need := len + m) (old := cap) (bytes := eby) hlt (by omega)
    omega
  · rw [hce] at hmm ⊢
    rw [← hlen] at hmm ⊢
    rw [List.drop_left] at hmm
    rw [List.take_left]
    refine hK sp ty' c (fun w hw => ?_) (by rw [hsp, Nat.sub_mul]; have := Nat.mul_le_mul_right esz hc; omega)
    rcases hmm w hw with h | h
    · exact hzz w h
    · exact h
/-- pairs beside one another, and the list of them -/
structure ManySt (m0 : Nat) (M : List Blk) (k : Nat) (ps : Nat → Nat) (B : Int) (Fs : Nat → Nat → Prop) (gs : Nat → Int) : Prop where
  st : ∀ i, i < k → PairSt M (Fs i) (ps i) (gs i)
  le : ∀ i, i < k → gs i ≤ B
  new : ∀ i n, i < k → Fs i n → m0 ≤ n
  apart : ∀ i j n, i < k → j < k → i ≠ j → Fs i n → ¬ Fs j n
def ptrs (ps : Nat → Nat) (k : Nat) : List SV := (List.range k).map fun i => SV.p (ps i) 0
theorem ptrs_len (ps : Nat → Nat) (k : Nat) : (ptrs ps k).length = k := by simp [ptrs]
def LstP (M : List Blk) (x : SV) (k : Nat) (ps : Nat → Nat) (Fs : Nat → Nat → Prop) (m0 : Nat) : Prop :=
  (x = .sn ∧ k = 0) ∨ ∃ q cap zz ty, x = .sl q 0 k cap ∧ M[q]? = some (.row (ptrs ps k ++ zz) ty) ∧ k * 1 + zz.length = cap * 1 ∧ (∀ w, w ∈ zz → w ∈ [SV.pn]) ∧ (∀ i, i < k → ¬ Fs i q) ∧ m0 ≤ q
theorem ManySt.ag {S : Nat → Prop} {m0 : Nat} {M M' : List Blk} {k : Nat} {ps : Nat → Nat} {B : Int} {Fs : Nat → Nat → Prop} {gs : Nat → Int} (h : ManySt m0 M k ps B Fs gs) (hA : Ag S M M') (hS : ∀ i n, i < k → Fs i n → ¬ S n) : ManySt m0 M' k ps B Fs gs :=
  ⟨fun i hi => (h.st i hi).ag hA (fun n e => hS i n hi e), h.le, h.new, h.apart⟩
/-- one more pair -/
theorem ManySt.more {m0 : Nat} {M M' : List Blk} {k : Nat} {ps : Nat → Nat} {B : Int} {Fs : Nat → Nat → Prop} {gs : Nat → Int} (h : ManySt m0 M k ps B Fs gs) (hA : Ag (fun _ => False) M M') {F : Nat → Prop} {p : Nat} (hp : PairSt M' F p 0) (hB : 0 ≤ B) (hF : ∀ n, F n → M.length ≤ n) (hm : m0 ≤ M.length) :
    ManySt m0 M' (k + 1) (fun i => if i = k then p else ps i) B (fun i => if i = k then F else Fs i) (fun i => if i = k then 0 else gs i) := by
  have hin : ∀ i n, i < k → Fs i n → n < M.length := fun i n hi e => (h.st i hi).live.2.2.2 n e
  refine ⟨fun i hi => ?_, fun i hi => ?_, fun i n hi e => ?_, fun i j n hi hj hne e e2 => ?_⟩
  · by_cases hk : i = k
    · simp only [hk, if_true]; exact hp
    · simp only [if_neg hk]; exact (h.st i (by omega)).ag hA (fun _ _ e => e)
  · by_cases hk : i = k
    · simp only [hk, if_true]; exact hB
    · simp only [if_neg hk]; exact h.le i (by omega)
  · by_cases hk : i = k
    · simp only [hk, if_true] at e; have := hF n e; omega
    · simp only [if_neg hk] at e; exact h.new i n (by omega) e
  · by_cases hk : i = k <;> by_cases hk2 : j = k
    · omega
    · simp only [hk, if_true] at e
      simp only [if_neg hk2] at e2
      have := hF n e
      have := hin j n (by omega) e2
      omega
    · simp only [if_neg hk] at e
      simp only [hk2, if_true] at e2
      have := hF n e2
      have := hin i n (by omega) e
      omega
    · simp only [if_neg hk] at e
      simp only [if_neg hk2] at e2
      exact h.apart i j n (by omega) (by omega) hne e e2
/-- one pair has gone a step -/
theorem ManySt.turn {m0 : Nat} {M M' : List Blk} {k i0 : Nat} {ps : Nat → Nat} {B B' : Int} {Fs : Nat → Nat → Prop} {gs : Nat → Int} (h : ManySt m0 M k ps B Fs gs) (hi0 : i0 < k) {F : Nat → Prop} {g : Int} (hA : Ag (Fs i0) M M') (hp : PairSt M' F (ps i0) g) (hB : B ≤ B') (hg : g ≤ B') (hF : ∀ n, F n → Fs i0 n ∨ M.length ≤ n) (hm : m0 ≤ M.length) :
    ManySt m0 M' k ps B' (fun i => if i = i0 then F else Fs i) (fun i => if i = i0 then g else gs i) := by
  have hin : ∀ i n, i < k → Fs i n → n < M.length := fun i n hi e => (h.st i hi).live.2.2.2 n e
  refine ⟨fun i hi => ?_, fun i hi => ?_, fun i n hi e => ?_, fun i j n hi hj hne e e2 => ?_⟩
  · by_cases hk : i = i0
    · simp only [hk, if_true]; exact hp
    · simp only [if_neg hk]; exact (h.st i hi).ag hA (fun n e e2 => h.apart i i0 n hi hi0 hk e e2)
  · by_cases hk : i = i0
    · simp only [hk, if_true]; exact hg
    · simp only [if_neg hk]; have := h.le i hi; omega
  · by_cases hk : i = i0
    · simp only [hk, if_true] at e
      rcases hF n e with e | e
      · exact h.new i0 n hi0 e
      · omega
    · simp only [if_neg hk] at e; exact h.new i n hi e
  · by_cases hk : i = i0 <;> by_cases hk2 : j = i0
    · omega
    · simp only [hk, if_true] at e
      simp only [if_neg hk2] at e2
      rcases hF n e with e | e
      · exact h.apart i0 j n hi0 hj (by omega) e e2
      · have := hin j n hj e2; omega
    · simp only [if_neg hk] at e
      simp only [hk2, if_true] at e2
      rcases hF n e2 with e3 | e3
      · exact h.apart i i0 n hi hi0 hk e e3
      · have := hin i n hi e; omega
    · simp only [if_neg hk] at e
      simp only [if_neg hk2] at e2
      exact h.apart i j n hi hj hne e e2
theorem ptrs_at (ps : Nat → Nat) (k i : Nat) (h : i < k) (zz : List SV) : (ptrs ps k ++ zz).getD i uS = .p (ps i) 0 := by
  rw [List.getD_eq_getElem?_getD, List.getElem?_append_left (by rw [ptrs_len]; exact h)]
  simp [ptrs, h]
theorem ptrs_more (ps : Nat → Nat) (k p : Nat) : ptrs (fun i => if i = k then p else ps i) (k + 1) = ptrs ps k ++ [.p p 0] := by
  unfold ptrs
  rw [List.range_succ, List.map_append]
  simp only [List.map_cons, List.map_nil, if_true]
  congr 1
  refine List.map_congr_left (fun i hi => ?_)
  rw [if_neg (by have := List.mem_range.1 hi; omega)]

set_option maxHeartbeats 4000000 in
set_option maxRecDepth 20000 in
theorem many_law (s b cap : Nat) (l : List Rec) (M : List Blk) (K : SV → List Blk → Prop) (hs : ScrAt M s b l) (hl : l.length ≤ 140737488351232) (hK : K (.b true) M) :
    callVC Try.prog 6 [.sl s 0 l.length cap] M K := by
  refine fn_rule tabOK Try.func6 rfl Try.call6 (by kernel_rfl) (fun hM => ?_)
  (refine top_in ?_; simp -implicitDefEqProofs only [Try.ntmps6, Try.results6, go_sem, -List.reduceReplicate, ↓L_gdZ_tt, ↓L_gdZ_tf, ↓L_gdZ_ft, ↓L_gdZ_ff, ↓T_and, ↓T_imp, ↓T_all, Nat.reduceBEq, Nat.reduceAdd, Nat.reduceSub, Nat.reduceMul, Nat.reduceLT, Nat.reduceLeDiff, Nat.reduceEqDiff, Int.reduceLT, Int.reduceLE, Int.reduceAdd, Int.reduceSub, Int.reduceMul, Int.reduceNeg, Int.reduceToNat, Int.reduceEq, Int.reduceNe, reduceIte, reduceCtorEq, BitVec.reduceOfInt, BitVec.reduceToNat]; try simp only [top_out])
  refine known_ok _ _ ?_
  (refine top_in ?_; simp -implicitDefEqProofs only [go_sem, -List.reduceReplicate, ↓L_gdZ_tt, ↓L_gdZ_tf, ↓L_gdZ_ft, ↓L_gdZ_ff, ↓T_and, ↓T_imp, ↓T_all, Nat.reduceBEq, Nat.reduceAdd, Nat.reduceSub, Nat.reduceMul, Nat.reduceLT, Nat.reduceLeDiff, Nat.reduceEqDiff, Int.reduceLT, Int.reduceLE, Int.reduceAdd, Int.reduceSub, Int.reduceMul, Int.reduceNeg, Int.reduceToNat, Int.reduceEq, Int.reduceNe, reduceIte, reduceCtorEq, BitVec.reduceOfInt, BitVec.reduceToNat]; try simp only [top_out])
  refine loop_code tabOK (by kernel_rfl) (fun n ts M' => ∃ (k : Nat) (x : SV) (ps : Nat → Nat) (Fs : Nat → Nat → Prop) (gs : Nat → Int), k + n = 20 ∧ ManySt M.length M' k ps 0 Fs gs ∧ LstP M' x k ps Fs M.length ∧ Ag (fun n => M.length ≤ n) M M' ∧ frC (some (.sl s 0 l.length cap) :: none :: none :: some (x) :: some (.i .i64 k) :: none :: none :: none :: none :: none :: none :: none :: none :: none :: none :: none :: none :: none :: none :: none :: none :: none :: none :: none :: none :: none :: none :: none :: none :: none :: none :: none :: none :: none :: none :: none :: none :: none :: none :: none :: none :: none :: none :: none :: none :: none :: none :: none :: none :: none :: none :: none :: none :: none :: none :: none :: none :: none :: none :: none :: none :: none :: none :: []) ts) 20 ?_ ?_
  · exact ⟨0, .sn, fun _ => 0, fun _ _ => False, fun _ => 0, by omega, ⟨fun i h => absurd h (by omega), fun i h => absurd h (by omega), fun i n h => absurd h (by omega), fun i j n h => absurd h (by omega)⟩, .inl ⟨rfl, rfl⟩, Ag.refl, by simp [frC]⟩
  rintro n ts M1 ⟨k, x, ps, Fs, gs, hk, h1, hl1, hA1, hf⟩
  obtain ⟨f, rfl⟩ := frC_open _ _ 0 hf
  clear hf
  (refine top_in ?_; simp -implicitDefEqProofs only [go_sem, -List.reduceReplicate, ↓L_gdZ_tt, ↓L_gdZ_tf, ↓L_gdZ_ft, ↓L_gdZ_ff, ↓T_and, ↓T_imp, ↓T_all, Nat.reduceBEq, Nat.reduceAdd, Nat.reduceSub, Nat.reduceMul, Nat.reduceLT, Nat.reduceLeDiff, Nat.reduceEqDiff, Int.reduceLT, Int.reduceLE, Int.reduceAdd, Int.reduceSub, Int.reduceMul, Int.reduceNeg, Int.reduceToNat, Int.reduceEq, Int.reduceNe, reduceIte, reduceCtorEq, BitVec.reduceOfInt, BitVec.reduceToNat]; try simp only [top_out])
  refine ⟨fun hlt => ?_, fun hlt => ?_⟩
  · refine begin_ok _ _ (fun M2 F p h2 hF hA2 => ?_)
    (refine top_in ?_; simp -implicitDefEqProofs only [go_sem, -List.reduceReplicate, ↓L_gdZ_tt, ↓L_gdZ_tf, ↓L_gdZ_ft, ↓L_gdZ_ff, ↓T_and, ↓T_imp, ↓T_all, Nat.reduceBEq, Nat.reduceAdd, Nat.reduceSub, Nat.reduceMul, Nat.reduceLT, Nat.reduceLeDiff, Nat.reduceEqDiff, Int.reduceLT, Int.reduceLE, Int.reduceAdd, Int.reduceSub, Int.reduceMul, Int.reduceNeg, Int.reduceToNat, Int.reduceEq, Int.reduceNe, reduceIte, reduceCtorEq, BitVec.reduceOfInt, BitVec.reduceToNat, h2.live.1]; try simp only [top_out])
    refine ⟨by decide, ?_⟩
    have m1 := hA1.1
    have m2 := hA2.1
    have hsrc : ∀ K : List SV → Nat → Prop, K [.p p 0] 1 → srcC (M2 ++ [Blk.row [SV.p p 0] 40]) 1 (SV.sl M2.length 0 1 1) K := fun K hK => by simp only [srcC]; rw [cells_at0]; (refine top_in ?_; simp -implicitDefEqProofs only [go_sem, -List.reduceReplicate, ↓L_gdZ_tt, ↓L_gdZ_tf, ↓L_gdZ_ft, ↓L_gdZ_ff, ↓T_and, ↓T_imp, ↓T_all, Nat.reduceBEq, Nat.reduceAdd, Nat.reduceSub, Nat.reduceMul, Nat.reduceLT, Nat.reduceLeDiff, Nat.reduceEqDiff, Int.reduceLT, Int.reduceLE, Int.reduceAdd, Int.reduceSub, Int.reduceMul, Int.reduceNeg, Int.reduceToNat, Int.reduceEq, Int.reduceNe, reduceIte, reduceCtorEq, BitVec.reduceOfInt, BitVec.reduceToNat]; try simp only [top_out]); exact hK
    have fin : ∀ (M3 : List Blk) (S : Nat → Prop), Ag S M2 M3 → (∀ n, S n → M.length ≤ n ∧ ¬ F n ∧ ∀ i, i < k → ¬ Fs i n) → ManySt M.length M3 (k + 1) (fun i => if i = k then p else ps i) 0 (fun i => if i = k then F else Fs i) (fun i => if i = k then 0 else gs i) ∧ Ag (fun n => M.length ≤ n) M M3 := by
      intro M3 S hA3 hS
      refine ⟨(h1.more hA2 h2 (by omega) hF m1).ag hA3 (fun i n hi e e2 => ?_), Ag.trans (Ag.trans hA1 hA2 (fun _ _ e => e.elim)) hA3 (fun n _ e => (hS n e).1)⟩
      by_cases hik : i = k
      · simp only [hik, if_true] at e; exact (hS n e2).2.1 e
      · simp only [if_neg hik] at e; exact (hS n e2).2.2 i (by omega) e
    have hk2 : k < 20 := by omega
    have hFl : ∀ n, F n → n < M2.length := h2.live.2.2.2
    have hin : ∀ i n, i < k → Fs i n → n < M1.length := fun i n hi e => (h1.st i hi).live.2.2.2 n e
    have hq3 : ∀ i, i < k + 1 → ¬ (if i = k then F else Fs i) (M2.length + 1) := by
      intro i hi e
      by_cases hik : i = k
      · simp only [hik, if_true] at e; have := hFl _ e; omega
      · simp only [if_neg hik] at e; have := hin i _ (by omega) e; omega
    rcases hl1 with ⟨rfl, rfl⟩ | ⟨q, cp, zz, ty, rfl, g1, g2, g3, g4, g5⟩
    · refine appGn [.pn] [.p p 0] 1 rfl (by decide) (by decide) rfl rfl hsrc (by decide) (fun z1 t1 c1 hz1 hc1 => ?_)
      (refine top_in ?_; simp -implicitDefEqProofs only [go_sem, -List.reduceReplicate, ↓L_gdZ_tt, ↓L_gdZ_tf, ↓L_gdZ_ft, ↓L_gdZ_ff, ↓T_and, ↓T_imp, ↓T_all, Nat.reduceBEq, Nat.reduceAdd, Nat.reduceSub, Nat.reduceMul, Nat.reduceLT, Nat.reduceLeDiff, Nat.reduceEqDiff, Int.reduceLT, Int.reduceLE, Int.reduceAdd, Int.reduceSub, Int.reduceMul, Int.reduceNeg, Int.reduceToNat, Int.reduceEq, Int.reduceNe, reduceIte, reduceCtorEq, BitVec.reduceOfInt, BitVec.reduceToNat]; try simp only [top_out])
      obtain ⟨f1, f2⟩ := fin (M2 ++ [Blk.row [SV.p p 0] 40, Blk.row (SV.p p 0 :: z1) t1]) (fun _ => False) Ag.app (fun _ e => e.elim)
      exact ⟨n - 1, by omega, 1, _, _, _, _, by omega, f1, .inr ⟨M2.length + 1, c1, z1, t1, rfl, by rw [ptrs_more]; simp [go_sem, ptrs], hc1, hz1, hq3, by omega⟩, f2, rfl, w64 (by omega) (by omega)⟩
    · refine appGm [.pn] q (ptrs ps k) zz [.p p 0] 1 ty rfl (by decide) (by decide) rfl rfl (by rw [get_lt (kw (hA2.get g1 (fun e => e)))]; exact hA2.get g1 (fun e => e)) (by rw [ptrs_len]; omega) g2 hsrc g3 (by omega) (fun z1 t1 c1 hz1 hc1 => ?_)
      have hql := kw g1
      (refine top_in ?_; simp -implicitDefEqProofs only [go_sem, -List.reduceReplicate, ↓L_gdZ_tt, ↓L_gdZ_tf, ↓L_gdZ_ft, ↓L_gdZ_ff, ↓T_and, ↓T_imp, ↓T_all, Nat.reduceBEq, Nat.reduceAdd, Nat.reduceSub, Nat.reduceMul, Nat.reduceLT, Nat.reduceLeDiff, Nat.reduceEqDiff, Int.reduceLT, Int.reduceLE, Int.reduceAdd, Int.reduceSub, Int.reduceMul, Int.reduceNeg, Int.reduceToNat, Int.reduceEq, Int.reduceNe, reduceIte, reduceCtorEq, BitVec.reduceOfInt, BitVec.reduceToNat, set_lt (kw (hA2.get g1 (fun e => e)))]; try simp only [top_out])
      obtain ⟨f1, f2⟩ := fin (M2.set q Blk.dead ++ [Blk.row [SV.p p 0] 40, Blk.row (ptrs ps k ++ SV.p p 0 :: z1) t1]) (fun n => n = q) (Ag.trans (Ag.set rfl) (Ag.app (S := fun _ => False)) (fun _ _ e => e.elim)) (fun n e => by subst e; exact ⟨g5, fun e => by have := hF n e; omega, g4⟩)
      exact ⟨n - 1, by omega, k + 1, _, _, _, _, by omega, f1, .inr ⟨M2.length + 1, c1, z1, t1, rfl, by rw [ptrs_more]; simp [go_sem], hc1, hz1, hq3, by omega⟩, f2, rfl, w64 (by omega) (by omega)⟩
  · have hk20 : k = 20 := by omega
    subst hk20
    rcases hl1 with ⟨_, h0⟩ | ⟨q, cp, zz, ty, rfl, g1, g2, g3, g4, g5⟩
    · cases h0
    refine loop_code tabOK (by kernel_rfl) (fun n ts M' => ∃ (j : Nat) (Fs : Nat → Nat → Prop) (gs : Nat → Int), j + n = 2000 ∧ ManySt M.length M' 20 ps (1030 * j) Fs gs ∧ M'[q]? = some (.row (ptrs ps 20 ++ zz) ty) ∧ (∀ i, i < 20 → ¬ Fs i q) ∧ Ag (fun n => M.length ≤ n) M M' ∧ frC (some (.sl s 0 l.length cap) :: none :: none :: some (.sl q 0 20 cp) :: none :: none :: some (.i .i64 j) :: none :: none :: none :: none :: none :: none :: none :: none :: none :: none :: none :: none :: none :: none :: none :: none :: none :: none :: none :: none :: none :: none :: none :: none :: none :: none :: none :: none :: none :: none :: none :: none :: none :: none :: none :: none :: none :: none :: none :: none :: none :: none :: none :: none :: none :: none :: none :: none :: none :: none :: none :: none :: none :: none :: none :: none :: []) ts) 2000 ?_ ?_
    · exact ⟨0, Fs, gs, by omega, h1, g1, g4, hA1, by simp [frC]⟩
    clear hlt hk
    rintro n ts M2 ⟨j, Fs2, gs2, hj, h2, hq2, hqF, hA2, hf⟩
    have hs2 := hs.ag hA2 (fun n h1 h2 => by omega)
    have hrow2 := hs2.row
    by_cases hjl : j < l.length
    · obtain ⟨ki, se, to, no, xx, a, d, x, e0, e1, e2, e3, e4, e5, e6⟩ := hs2.step hjl
      obtain ⟨f, rfl⟩ := frC_open _ _ 0 hf
      clear hf
      (refine top_in ?_; simp -implicitDefEqProofs only [go_sem, -List.reduceReplicate, ↓L_gdZ_tt, ↓L_gdZ_tf, ↓L_gdZ_ft, ↓L_gdZ_ff, ↓T_and, ↓T_imp, ↓T_all, Nat.reduceBEq, Nat.reduceAdd, Nat.reduceSub, Nat.reduceMul, Nat.reduceLT, Nat.reduceLeDiff, Nat.reduceEqDiff, Int.reduceLT, Int.reduceLE, Int.reduceAdd, Int.reduceSub, Int.reduceMul, Int.reduceNeg, Int.reduceToNat, Int.reduceEq, Int.reduceNe, reduceIte, reduceCtorEq, BitVec.reduceOfInt, BitVec.reduceToNat, hrow2, e0, e1, e3.1, e3.2]; try simp only [top_out])
      have m2 := hA2.1
      have hmono : ∀ i, i < 20 → gs2 i ≤ 1030 * ((j + 1 : Nat) : Int) := fun i hi => by have := h2.le i hi; omega
      refine ⟨fun _ => ⟨fun h200 => ⟨by omega, by omega, by omega, by omega, fun _ => ⟨n - 1, by omega, j + 1, Fs2, gs2, by omega, ⟨h2.st, hmono, h2.new, h2.apart⟩, hq2, hqF, hA2, w64 (by omega) (by omega)⟩, fun _ => ?_⟩, fun h200 => ?_⟩, fun h => absurd h (by omega)⟩
      · have hw3 : IntKind.i64.wrap (3 * (j : Int)) = 3 * (j : Int) := w64 (by omega) (by omega)
        have htm : (3 * (j : Int)).tmod 20 = ((3 * j % 20 : Nat) : Int) := by
          rw [show (3 * (j : Int)) = ((3 * j : Nat) : Int) by omega]
          rfl
        have hi0 : 3 * j % 20 < 20 := Nat.mod_lt _ (by decide)
        have hpt := ptrs_at ps 20 (3 * j % 20) hi0 zz
        have hpl : (ptrs ps 20 ++ zz).length = 20 + zz.length := by rw [List.length_append, ptrs_len]
        have hpl2 : (ptrs ps 20).length = 20 := ptrs_len _ _
        generalize hi00 : 3 * j % 20 = i0 at hi0 htm hpt
        refine draw_rule tabOK (by kernel_rfl : _) (.p 0 (.p 1 (.p 2 (.p 3 (.p 4 (.p 5 (.p 6 (.p 7 (.p 8 (.p 9 (.e 10 [] (.p 11 .nil) .no))))))))))) (by kernel_rfl) (by kernel_rfl) ?_
        (refine top_in ?_; simp -implicitDefEqProofs only [go_sem, -List.reduceReplicate, ↓L_gdZ_tt, ↓L_gdZ_tf, ↓L_gdZ_ft, ↓L_gdZ_ff, ↓T_and, ↓T_imp, ↓T_all, Nat.reduceBEq, Nat.reduceAdd, Nat.reduceSub, Nat.reduceMul, Nat.reduceLT, Nat.reduceLeDiff, Nat.reduceEqDiff, Int.reduceLT, Int.reduceLE, Int.reduceAdd, Int.reduceSub, Int.reduceMul, Int.reduceNeg, Int.reduceToNat, Int.reduceEq, Int.reduceNe, reduceIte, reduceCtorEq, BitVec.reduceOfInt, BitVec.reduceToNat, hrow2, e0, e1, e2, hq2, hw3, htm, hpt, Int.toNat_natCast]; try simp only [top_out])
        refine ⟨by omega, by omega, by omega, by omega, by omega, by omega, by omega, by omega, ?_⟩
        have hpi := h2.st i0 hi0
        have hx2 : Byt M2 x d := e6.byt (by have := e6.1; omega)
        have hxG : ∀ d, dnS x = some d → d < M.length := by
          obtain ⟨ki', se', to', no', xx', a', d', x', f0, f1, f2, f3, f4, f5, f6⟩ := hs.step hjl
          rw [e1] at f1
          simp only [List.cons.injEq, SV.i.injEq, SV.b.injEq, and_true, true_and] at f1
          obtain ⟨-, -, -, -, -, -, rfl⟩ := f1
          exact f6.dn
        refine plays_ok (ps i0) (gs2 i0) ki to no xx a se x d M2 (Fs2 i0) _ hpi (by have := h2.le i0 hi0; omega) hx2 (fun d e e2 => by have := hxG d e; have := h2.new i0 d hi0 e2; omega) (fun M4 G4 g4 r1 r2 r3 r4 hA4 => ?_)
        have hq4 := hA4.get hq2 (hqF i0 hi0)
        (refine top_in ?_; simp -implicitDefEqProofs only [go_sem, -List.reduceReplicate, ↓L_gdZ_tt, ↓L_gdZ_tf, ↓L_gdZ_ft, ↓L_gdZ_ff, ↓T_and, ↓T_imp, ↓T_all, Nat.reduceBEq, Nat.reduceAdd, Nat.reduceSub, Nat.reduceMul, Nat.reduceLT, Nat.reduceLeDiff, Nat.reduceEqDiff, Int.reduceLT, Int.reduceLE, Int.reduceAdd, Int.reduceSub, Int.reduceMul, Int.reduceNeg, Int.reduceToNat, Int.reduceEq, Int.reduceNe, reduceIte, reduceCtorEq, BitVec.reduceOfInt, BitVec.reduceToNat]; try simp only [top_out])
        refine ⟨n - 1, by omega, j + 1, _, _, by omega, h2.turn hi0 hA4 r1 (by omega) (by have := h2.le i0 hi0; omega) r4 m2, hq4, fun i hi e => ?_, Ag.trans hA2 hA4 (fun n hn e => h2.new i0 n hi0 e), w64 (by omega) (by omega)⟩
        by_cases hii : i = i0
        · simp only [hii, if_true] at e
          rcases r4 q e with e3 | e3
          · exact hqF i0 hi0 e3
          · have := kw hq2; omega
        · simp only [if_neg hii] at e
          exact hqF i hi e
      · refine loop_code tabOK (by kernel_rfl) (fun n ts M' => ∃ (i : Nat), i + n = 20 ∧ M' = M2 ∧ frC (none :: none :: none :: some (.sl q 0 20 cp) :: none :: none :: none :: none :: some (.i .i64 i) :: none :: none :: none :: none :: none :: none :: none :: none :: none :: none :: none :: none :: none :: none :: none :: none :: none :: none :: none :: none :: none :: none :: none :: none :: none :: none :: none :: none :: none :: none :: none :: none :: none :: none :: none :: none :: none :: none :: none :: none :: none :: none :: none :: none :: none :: none :: none :: none :: none :: none :: none :: none :: none :: none :: []) ts) 20 ?_ ?_
        · exact ⟨0, by omega, rfl, by simp [frC]⟩
        rintro n ts M2b ⟨i, hi, hMe, hf⟩
        obtain rfl : M2 = M2b := hMe.symm
        have hpl2 : (ptrs ps 20).length = 20 := ptrs_len _ _
        by_cases hi20 : i < 20
        · have hpt := ptrs_at ps 20 i hi20 zz
          obtain ⟨f, rfl⟩ := frC_open _ _ 0 hf
          clear hf
          (refine top_in ?_; simp -implicitDefEqProofs only [go_sem, -List.reduceReplicate, ↓L_gdZ_tt, ↓L_gdZ_tf, ↓L_gdZ_ft, ↓L_gdZ_ff, ↓T_and, ↓T_imp, ↓T_all, Nat.reduceBEq, Nat.reduceAdd, Nat.reduceSub, Nat.reduceMul, Nat.reduceLT, Nat.reduceLeDiff, Nat.reduceEqDiff, Int.reduceLT, Int.reduceLE, Int.reduceAdd, Int.reduceSub, Int.reduceMul, Int.reduceNeg, Int.reduceToNat, Int.reduceEq, Int.reduceNe, reduceIte, reduceCtorEq, BitVec.reduceOfInt, BitVec.reduceToNat, hq2, hpt]; try simp only [top_out])
          refine ⟨fun _ => ⟨by omega, by omega, by omega, by omega, ?_⟩, fun h => absurd h (by omega)⟩
          refine punder_ok (ps i) (gs2 i) M2 (Fs2 i) _ (h2.st i hi20) (by have := h2.le i hi20; omega) ?_
          (refine top_in ?_; simp -implicitDefEqProofs only [go_sem, -List.reduceReplicate, ↓L_gdZ_tt, ↓L_gdZ_tf, ↓L_gdZ_ft, ↓L_gdZ_ff, ↓T_and, ↓T_imp, ↓T_all, Nat.reduceBEq, Nat.reduceAdd, Nat.reduceSub, Nat.reduceMul, Nat.reduceLT, Nat.reduceLeDiff, Nat.reduceEqDiff, Int.reduceLT, Int.reduceLE, Int.reduceAdd, Int.reduceSub, Int.reduceMul, Int.reduceNeg, Int.reduceToNat, Int.reduceEq, Int.reduceNe, reduceIte, reduceCtorEq, BitVec.reduceOfInt, BitVec.reduceToNat]; try simp only [top_out])
          exact ⟨n - 1, by omega, i + 1, by omega, w64 (by omega) (by omega)⟩
        · obtain ⟨f, rfl⟩ := frC_open _ _ 0 hf
          clear hf
          (refine top_in ?_; simp -implicitDefEqProofs only [go_sem, -List.reduceReplicate, ↓L_gdZ_tt, ↓L_gdZ_tf, ↓L_gdZ_ft, ↓L_gdZ_ff, ↓T_and, ↓T_imp, ↓T_all, Nat.reduceBEq, Nat.reduceAdd, Nat.reduceSub, Nat.reduceMul, Nat.reduceLT, Nat.reduceLeDiff, Nat.reduceEqDiff, Int.reduceLT, Int.reduceLE, Int.reduceAdd, Int.reduceSub, Int.reduceMul, Int.reduceNeg, Int.reduceToNat, Int.reduceEq, Int.reduceNe, reduceIte, reduceCtorEq, BitVec.reduceOfInt, BitVec.reduceToNat, hq2]; try simp only [top_out])
          refine ⟨fun h => absurd h (by omega), fun _ => ?_⟩
          exact dropC_ag hM hA2 (fun n h1 h2 => by omega) rfl hK
    · obtain ⟨f, rfl⟩ := frC_open _ _ 0 hf
      clear hf
      (refine top_in ?_; simp -implicitDefEqProofs only [go_sem, -List.reduceReplicate, ↓L_gdZ_tt, ↓L_gdZ_tf, ↓L_gdZ_ft, ↓L_gdZ_ff, ↓T_and, ↓T_imp, ↓T_all, Nat.reduceBEq, Nat.reduceAdd, Nat.reduceSub, Nat.reduceMul, Nat.reduceLT, Nat.reduceLeDiff, Nat.reduceEqDiff, Int.reduceLT, Int.reduceLE, Int.reduceAdd, Int.reduceSub, Int.reduceMul, Int.reduceNeg, Int.reduceToNat, Int.reduceEq, Int.reduceNe, reduceIte, reduceCtorEq, BitVec.reduceOfInt, BitVec.reduceToNat, hrow2]; try simp only [top_out])
      refine ⟨fun h => absurd h (by omega), fun _ => ?_⟩
      refine loop_code tabOK (by kernel_rfl) (fun n ts M' => ∃ (i : Nat), i + n = 20 ∧ M' = M2 ∧ frC (none :: none :: none :: some (.sl q 0 20 cp) :: none :: none :: none :: none :: some (.i .i64 i) :: none :: none :: none :: none :: none :: none :: none :: none :: none :: none :: none :: none :: none :: none :: none :: none :: none :: none :: none :: none :: none :: none :: none :: none :: none :: none :: none :: none :: none :: none :: none :: none :: none :: none :: none :: none :: none :: none :: none :: none :: none :: none :: none :: none :: none :: none :: none :: none :: none :: none :: none :: none :: none :: none :: []) ts) 20 ?_ ?_
      · exact ⟨0, by omega, rfl, by simp [frC]⟩
      rintro n ts M2b ⟨i, hi, hMe, hf⟩
      obtain rfl : M2 = M2b := hMe.symm
      have hpl2 : (ptrs ps 20).length = 20 := ptrs_len _ _
      by_cases hi20 : i < 20
      · have hpt := ptrs_at ps 20 i hi20 zz
        obtain ⟨f, rfl⟩ := frC_open _ _ 0 hf
        clear hf
        (refine top_in ?_; simp -implicitDefEqProofs only [go_sem, -List.reduceReplicate, ↓L_gdZ_tt, ↓L_gdZ_tf, ↓L_gdZ_ft, ↓L_gdZ_ff, ↓T_and, ↓T_imp, ↓T_all, Nat.reduceBEq, Nat.reduceAdd, Nat.reduceSub, Nat.reduceMul, Nat.reduceLT, Nat.reduceLeDiff, Nat.reduceEqDiff, Int.reduceLT, Int.reduceLE, Int.reduceAdd, Int.reduceSub, Int.reduceMul, Int.reduceNeg, Int.reduceToNat, Int.reduceEq, Int.reduceNe, reduceIte, reduceCtorEq, BitVec.reduceOfInt, BitVec.reduceToNat, hq2, hpt]; try simp only [top_out])
        refine ⟨fun _ => ⟨by omega, by omega, by omega, by omega, ?_⟩, fun h => absurd h (by omega)⟩
        refine punder_ok (ps i) (gs2 i) M2 (Fs2 i) _ (h2.st i hi20) (by have := h2.le i hi20; omega) ?_
        (refine top_in ?_; simp -implicitDefEqProofs only [go_sem, -List.reduceReplicate, ↓L_gdZ_tt, ↓L_gdZ_tf, ↓L_gdZ_ft, ↓L_gdZ_ff, ↓T_and, ↓T_imp, ↓T_all, Nat.reduceBEq, Nat.reduceAdd, Nat.reduceSub, Nat.reduceMul, Nat.reduceLT, Nat.reduceLeDiff, Nat.reduceEqDiff, Int.reduceLT, Int.reduceLE, Int.reduceAdd, Int.reduceSub, Int.reduceMul, Int.reduceNeg, Int.reduceToNat, Int.reduceEq, Int.reduceNe, reduceIte, reduceCtorEq, BitVec.reduceOfInt, BitVec.reduceToNat]; try simp only [top_out])
        exact ⟨n - 1, by omega, i + 1, by omega, w64 (by omega) (by omega)⟩
      · obtain ⟨f, rfl⟩ := frC_open _ _ 0 hf
        clear hf
        (refine top_in ?_; simp -implicitDefEqProofs only [go_sem, -List.reduceReplicate, ↓L_gdZ_tt, ↓L_gdZ_tf, ↓L_gdZ_ft, ↓L_gdZ_ff, ↓T_and, ↓T_imp, ↓T_all, Nat.reduceBEq, Nat.reduceAdd, Nat.reduceSub, Nat.reduceMul, Nat.reduceLT, Nat.reduceLeDiff, Nat.reduceEqDiff, Int.reduceLT, Int.reduceLE, Int.reduceAdd, Int.reduceSub, Int.reduceMul, Int.reduceNeg, Int.reduceToNat, Int.reduceEq, Int.reduceNe, reduceIte, reduceCtorEq, BitVec.reduceOfInt, BitVec.reduceToNat, hq2]; try simp only [top_out])
        refine ⟨fun h => absurd h (by omega), fun _ => ?_⟩
        exact dropC_ag hM hA2 (fun n h1 h2 => by omega) rfl hK
end Go.Proofs.Ytccnffjjahdneaa.Eng
