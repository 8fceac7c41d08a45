/- Refusals change nothing. -/
import Derived.Test.YtccnffjjahdneaaO2
import Derived.Test.YtccnffjjahdneaaUi
namespace Go.Proofs.Ytccnffjjahdneaa.Eng
open Go Go.RowKit
set_option linter.unusedSimpArgs false
set_option linter.unusedVariables false
set_option linter.unusedSimpArgs false
set_option linter.unusedVariables false

theorem ArgAt.src {M M' : List Blk} {S : Nat → Prop} {x : SV} {l : List (BitVec 8)} {nx : Nat} (h : ArgAt M x l) (hl : l.length ≤ 140737488355000) (hA : Ag S M M') (hs : ∀ n, n < M.length → ¬ S n) (hnx : M.length ≤ nx) : SrcR M' nx x l := by
  obtain ⟨_, h | ⟨n, cap, h1, h2, h3, h4⟩⟩ := h
  · exact ⟨hl, .inl h⟩
  · have hn := h2.lt
    exact ⟨hl, .inr ⟨n, cap, h1, h2.ag hA (hs n hn), (There.ag (.inl h3) hA hn (hs n hn)), by omega⟩⟩
theorem ArgAt.one {M : List Blk} {x : SV} {l : List (BitVec 8)} (h : ArgAt M x l) : x.one = true := by
  obtain ⟨_, ⟨rfl, _⟩ | ⟨n, cap, rfl, _⟩⟩ := h <;> rfl
theorem ArgAt.len {M : List Blk} {x : SV} {l : List (BitVec 8)} (h : ArgAt M x l) {e a b : Nat} {K : SV → Prop} : lenB (.slice e a b) M x K = K (.i .i64 l.length) := by
  obtain ⟨_, ⟨rfl, rfl⟩ | ⟨n, cap, rfl, _⟩⟩ := h <;> rfl
set_option maxHeartbeats 4000000 in
set_option maxRecDepth 20000 in
theorem refuses_law (x : SV) (b : List (BitVec 8)) (no a v : Int) (M : List Blk) (K : SV → List Blk → Prop) (hx : ArgAt M x b) (hK : K (.b true) M) :
    callVC Try.prog 8 [x, .i .i64 no, .i .i64 a, .i .i64 v] M K := by
  have hl0 := hx.1
  have hlen : ∀ {M' : List Blk} {e a b' : Nat} {K : SV → Prop}, lenB (.slice e a b') M' x K = K (.i .i64 b.length) := by
    intro M' e a b' K
    obtain ⟨_, ⟨rfl, rfl⟩ | ⟨n, cap, rfl, _⟩⟩ := hx <;> rfl
  refine fn_rule tabOK Try.func8 rfl Try.call8 (by kernel_rfl) (fun hM => ?_)
  (refine top_in ?_; simp -implicitDefEqProofs only [Try.ntmps8, Try.results8, go_sem, -List.reduceReplicate, ↓L_gdZ_tt, ↓L_gdZ_tf, ↓L_gdZ_ft, ↓L_gdZ_ff, ↓T_and, ↓T_imp, ↓T_all, Nat.reduceBEq, Nat.reduceAdd, Nat.reduceSub, Nat.reduceMul, Nat.reduceLT, Nat.reduceLeDiff, Nat.reduceEqDiff, Int.reduceLT, Int.reduceLE, Int.reduceAdd, Int.reduceSub, Int.reduceMul, Int.reduceNeg, Int.reduceToNat, Int.reduceEq, Int.reduceNe, reduceIte, reduceCtorEq, BitVec.reduceOfInt, BitVec.reduceToNat, hlen]; try simp only [top_out])
  refine known_ok _ _ ?_
  (refine top_in ?_; simp -implicitDefEqProofs only [go_sem, -List.reduceReplicate, ↓L_gdZ_tt, ↓L_gdZ_tf, ↓L_gdZ_ft, ↓L_gdZ_ff, ↓T_and, ↓T_imp, ↓T_all, Nat.reduceBEq, Nat.reduceAdd, Nat.reduceSub, Nat.reduceMul, Nat.reduceLT, Nat.reduceLeDiff, Nat.reduceEqDiff, Int.reduceLT, Int.reduceLE, Int.reduceAdd, Int.reduceSub, Int.reduceMul, Int.reduceNeg, Int.reduceToNat, Int.reduceEq, Int.reduceNe, reduceIte, reduceCtorEq, BitVec.reduceOfInt, BitVec.reduceToNat, hlen]; try simp only [top_out])
  refine new_st _ _ (fun M1 nx m h1 hnx hm hA1 => ?_)
  have hF1 : liveN M1 nx = true := by rw [liveN_eq, h1.row]; rfl
  (refine top_in ?_; simp -implicitDefEqProofs only [go_sem, -List.reduceReplicate, ↓L_gdZ_tt, ↓L_gdZ_tf, ↓L_gdZ_ft, ↓L_gdZ_ff, ↓T_and, ↓T_imp, ↓T_all, Nat.reduceBEq, Nat.reduceAdd, Nat.reduceSub, Nat.reduceMul, Nat.reduceLT, Nat.reduceLeDiff, Nat.reduceEqDiff, Int.reduceLT, Int.reduceLE, Int.reduceAdd, Int.reduceSub, Int.reduceMul, Int.reduceNeg, Int.reduceToNat, Int.reduceEq, Int.reduceNe, reduceIte, reduceCtorEq, BitVec.reduceOfInt, BitVec.reduceToNat, hlen, hF1]; try simp only [top_out])
  refine ⟨fun h4096 => dropC_ag hM hA1 (fun _ _ h => h) rfl hK, fun h4096 => ?_⟩
  have hsrc : ∀ {M' : List Blk} {S : Nat → Prop}, Ag S M M' → (∀ n, n < M.length → ¬ S n) → SrcR M' nx x b := fun hA hs => hx.src (by omega) hA hs hnx
  refine send_st nx m 0 0 0 x b [] _ _ _ h1 (by simp) (by omega) (hsrc hA1 (fun _ _ h => h)) (fun M2 F2 x1 h2 hF2 hA2 => ?_)
  (refine top_in ?_; simp -implicitDefEqProofs only [go_sem, -List.reduceReplicate, ↓L_gdZ_tt, ↓L_gdZ_tf, ↓L_gdZ_ft, ↓L_gdZ_ff, ↓T_and, ↓T_imp, ↓T_all, Nat.reduceBEq, Nat.reduceAdd, Nat.reduceSub, Nat.reduceMul, Nat.reduceLT, Nat.reduceLeDiff, Nat.reduceEqDiff, Int.reduceLT, Int.reduceLE, Int.reduceAdd, Int.reduceSub, Int.reduceMul, Int.reduceNeg, Int.reduceToNat, Int.reduceEq, Int.reduceNe, reduceIte, reduceCtorEq, BitVec.reduceOfInt, BitVec.reduceToNat, hlen]; try simp only [top_out])
  have hA2 : Ag (fun n => M.length ≤ n) M M2 := Ag.trans (hA1.mono (fun _ h => h.elim)) hA2 (fun n hn h => by rcases h with h | h <;> omega)
  refine send_st nx m 1 1 1 x b _ _ _ _ h2 (by simp) (by omega) (hsrc hA2 (fun _ _ h => by omega)) (fun M3 F3 x2 h3 hF3 hA3 => ?_)
  (refine top_in ?_; simp -implicitDefEqProofs only [go_sem, -List.reduceReplicate, ↓L_gdZ_tt, ↓L_gdZ_tf, ↓L_gdZ_ft, ↓L_gdZ_ff, ↓T_and, ↓T_imp, ↓T_all, Nat.reduceBEq, Nat.reduceAdd, Nat.reduceSub, Nat.reduceMul, Nat.reduceLT, Nat.reduceLeDiff, Nat.reduceEqDiff, Int.reduceLT, Int.reduceLE, Int.reduceAdd, Int.reduceSub, Int.reduceMul, Int.reduceNeg, Int.reduceToNat, Int.reduceEq, Int.reduceNe, reduceIte, reduceCtorEq, BitVec.reduceOfInt, BitVec.reduceToNat, hlen]; try simp only [top_out])
  have lM1 := hA1.1
  have lM2 := hA2.1
  have g2 : ∀ n, F2 n → M.length ≤ n := fun n h => by rcases hF2 n h with (h | h) | h <;> omega
  have g3 : ∀ n, F3 n → M.length ≤ n := fun n h => by rcases hF3 n h with h | h; exact g2 n h; omega
  have hA3 : Ag (fun n => M.length ≤ n) M M3 := Ag.trans hA2 hA3 (fun n hn h => g2 n h)
  refine drop_st nx m 2 2 (1, 0, x1, b, 0) _ _ _ _ h3 (by simp) (fun M4 h4 hA4 => ?_)
  (refine top_in ?_; simp -implicitDefEqProofs only [go_sem, -List.reduceReplicate, ↓L_gdZ_tt, ↓L_gdZ_tf, ↓L_gdZ_ft, ↓L_gdZ_ff, ↓T_and, ↓T_imp, ↓T_all, Nat.reduceBEq, Nat.reduceAdd, Nat.reduceSub, Nat.reduceMul, Nat.reduceLT, Nat.reduceLeDiff, Nat.reduceEqDiff, Int.reduceLT, Int.reduceLE, Int.reduceAdd, Int.reduceSub, Int.reduceMul, Int.reduceNeg, Int.reduceToNat, Int.reduceEq, Int.reduceNe, reduceIte, reduceCtorEq, BitVec.reduceOfInt, BitVec.reduceToNat, hlen]; try simp only [top_out])
  have hA4 : Ag (fun n => M.length ≤ n) M M4 := Ag.trans hA3 hA4 (fun n hn h => by omega)
  have e4 : List.filter (fun a : Ent => a.1 != (1, 0, x1, b, 0).1) ([] ++ [((0 : Int) + 1, 0, x1, b, 0)] ++ [((1 : Int) + 1, 1, x2, b, 1)]) = [(2, 1, x2, b, 1)] := by rfl
  rw [e4] at h4
  refine under_sa nx m 2 2 _ _ _ _ h4 (by simp) (by omega) (fun M5 q xs zz cp ty hA5 hq hL hH => ?_)
  (refine top_in ?_; simp -implicitDefEqProofs only [go_sem, -List.reduceReplicate, ↓L_gdZ_tt, ↓L_gdZ_tf, ↓L_gdZ_ft, ↓L_gdZ_ff, ↓T_and, ↓T_imp, ↓T_all, Nat.reduceBEq, Nat.reduceAdd, Nat.reduceSub, Nat.reduceMul, Nat.reduceLT, Nat.reduceLeDiff, Nat.reduceEqDiff, Int.reduceLT, Int.reduceLE, Int.reduceAdd, Int.reduceSub, Int.reduceMul, Int.reduceNeg, Int.reduceToNat, Int.reduceEq, Int.reduceNe, reduceIte, reduceCtorEq, BitVec.reduceOfInt, BitVec.reduceToNat, hlen]; try simp only [top_out])
  have h5 : NetSt M5 _ nx m 2 2 _ := h4.ag hA5 (fun _ _ h => h)
  have h5' : ∀ N : List Blk, NetSt (M5 ++ N) _ nx m 2 2 _ := fun N => h5.ag (S := fun _ => False) (M' := M5 ++ N) Ag.app (fun _ _ h => h)
  have hA5 : Ag (fun n => M.length ≤ n) M M5 := Ag.trans hA4 hA5 (fun n hn h => h.elim)
  have hL' : ∀ N : List Blk, (M5 ++ N)[q]? = some (.row (flC xs ++ zz) ty) := fun N => by rw [get_lt (kw hL)]; exact hL
  have hno : ∀ f : Ent, f ∈ [((2 : Int), (1 : Int), x2, b, 1)] → f.1 = 2 := fun f hf => by rw [List.mem_singleton.1 hf]
  refine ⟨fun hne => ?_, fun hne => ?_⟩
  · have hne : no ≠ 2 := by simpa using hne
    have hf := h5.none (no := no) (fun f hf e => hne (by rw [← e, hno f hf]))
    refine take_none nx m 2 no _ 2 63 _ _ h5.row h5.map hf ?_
    (refine top_in ?_; simp -implicitDefEqProofs only [go_sem, -List.reduceReplicate, ↓L_gdZ_tt, ↓L_gdZ_tf, ↓L_gdZ_ft, ↓L_gdZ_ff, ↓T_and, ↓T_imp, ↓T_all, Nat.reduceBEq, Nat.reduceAdd, Nat.reduceSub, Nat.reduceMul, Nat.reduceLT, Nat.reduceLeDiff, Nat.reduceEqDiff, Int.reduceLT, Int.reduceLE, Int.reduceAdd, Int.reduceSub, Int.reduceMul, Int.reduceNeg, Int.reduceToNat, Int.reduceEq, Int.reduceNe, reduceIte, reduceCtorEq, BitVec.reduceOfInt, BitVec.reduceToNat, hlen]; try simp only [top_out])
    refine drop_none nx m 2 no _ 2 63 _ _ (h5' _).row (h5' _).map hf ?_
    (refine top_in ?_; simp -implicitDefEqProofs only [go_sem, -List.reduceReplicate, ↓L_gdZ_tt, ↓L_gdZ_tf, ↓L_gdZ_ft, ↓L_gdZ_ff, ↓T_and, ↓T_imp, ↓T_all, Nat.reduceBEq, Nat.reduceAdd, Nat.reduceSub, Nat.reduceMul, Nat.reduceLT, Nat.reduceLeDiff, Nat.reduceEqDiff, Int.reduceLT, Int.reduceLE, Int.reduceAdd, Int.reduceSub, Int.reduceMul, Int.reduceNeg, Int.reduceToNat, Int.reduceEq, Int.reduceNe, reduceIte, reduceCtorEq, BitVec.reduceOfInt, BitVec.reduceToNat, hlen]; try simp only [top_out])
    refine copy_none nx m 2 no _ 2 63 _ _ (h5' _).row (h5' _).map hf ?_
    (refine top_in ?_; simp -implicitDefEqProofs only [go_sem, -List.reduceReplicate, ↓L_gdZ_tt, ↓L_gdZ_tf, ↓L_gdZ_ft, ↓L_gdZ_ff, ↓T_and, ↓T_imp, ↓T_all, Nat.reduceBEq, Nat.reduceAdd, Nat.reduceSub, Nat.reduceMul, Nat.reduceLT, Nat.reduceLeDiff, Nat.reduceEqDiff, Int.reduceLT, Int.reduceLE, Int.reduceAdd, Int.reduceSub, Int.reduceMul, Int.reduceNeg, Int.reduceToNat, Int.reduceEq, Int.reduceNe, reduceIte, reduceCtorEq, BitVec.reduceOfInt, BitVec.reduceToNat, hlen]; try simp only [top_out])
    refine flip_none nx m 2 no 0 1 _ 2 63 _ _ (h5' _).row (h5' _).map hf ?_
    (refine top_in ?_; simp -implicitDefEqProofs only [go_sem, -List.reduceReplicate, ↓L_gdZ_tt, ↓L_gdZ_tf, ↓L_gdZ_ft, ↓L_gdZ_ff, ↓T_and, ↓T_imp, ↓T_all, Nat.reduceBEq, Nat.reduceAdd, Nat.reduceSub, Nat.reduceMul, Nat.reduceLT, Nat.reduceLeDiff, Nat.reduceEqDiff, Int.reduceLT, Int.reduceLE, Int.reduceAdd, Int.reduceSub, Int.reduceMul, Int.reduceNeg, Int.reduceToNat, Int.reduceEq, Int.reduceNe, reduceIte, reduceCtorEq, BitVec.reduceOfInt, BitVec.reduceToNat, hlen]; try simp only [top_out])
    refine sameFlight_ok _ 0 0 0 0 .sn .sn [] [] _ ⟨by simp, .inl ⟨rfl, rfl⟩⟩ ⟨by simp, .inl ⟨rfl, rfl⟩⟩ ?_
    rw [show sameFB 0 0 [] 0 0 [] = true from by decide]
    (refine top_in ?_; simp -implicitDefEqProofs only [go_sem, -List.reduceReplicate, ↓L_gdZ_tt, ↓L_gdZ_tf, ↓L_gdZ_ft, ↓L_gdZ_ff, ↓T_and, ↓T_imp, ↓T_all, Nat.reduceBEq, Nat.reduceAdd, Nat.reduceSub, Nat.reduceMul, Nat.reduceLT, Nat.reduceLeDiff, Nat.reduceEqDiff, Int.reduceLT, Int.reduceLE, Int.reduceAdd, Int.reduceSub, Int.reduceMul, Int.reduceNeg, Int.reduceToNat, Int.reduceEq, Int.reduceNe, reduceIte, reduceCtorEq, BitVec.reduceOfInt, BitVec.reduceToNat, hlen]; try simp only [top_out])
    refine ⟨fun _ => ?_, fun h => absurd h (by decide)⟩
    refine num_ok 218 _ _ ?_
    (refine top_in ?_; simp -implicitDefEqProofs only [go_sem, -List.reduceReplicate, ↓L_gdZ_tt, ↓L_gdZ_tf, ↓L_gdZ_ft, ↓L_gdZ_ff, ↓T_and, ↓T_imp, ↓T_all, Nat.reduceBEq, Nat.reduceAdd, Nat.reduceSub, Nat.reduceMul, Nat.reduceLT, Nat.reduceLeDiff, Nat.reduceEqDiff, Int.reduceLT, Int.reduceLE, Int.reduceAdd, Int.reduceSub, Int.reduceMul, Int.reduceNeg, Int.reduceToNat, Int.reduceEq, Int.reduceNe, reduceIte, reduceCtorEq, BitVec.reduceOfInt, BitVec.reduceToNat, hlen]; try simp only [top_out])
    refine ⟨fun _ => ?_, fun h => absurd h (by decide)⟩
    refine num_ok 218 _ _ ?_
    (refine top_in ?_; simp -implicitDefEqProofs only [go_sem, -List.reduceReplicate, ↓L_gdZ_tt, ↓L_gdZ_tf, ↓L_gdZ_ft, ↓L_gdZ_ff, ↓T_and, ↓T_imp, ↓T_all, Nat.reduceBEq, Nat.reduceAdd, Nat.reduceSub, Nat.reduceMul, Nat.reduceLT, Nat.reduceLeDiff, Nat.reduceEqDiff, Int.reduceLT, Int.reduceLE, Int.reduceAdd, Int.reduceSub, Int.reduceMul, Int.reduceNeg, Int.reduceToNat, Int.reduceEq, Int.reduceNe, reduceIte, reduceCtorEq, BitVec.reduceOfInt, BitVec.reduceToNat, hlen]; try simp only [top_out])
    refine ⟨fun _ => ?_, fun h => absurd h (by decide)⟩
    refine num_ok 218 _ _ ?_
    (refine top_in ?_; simp -implicitDefEqProofs only [go_sem, -List.reduceReplicate, ↓L_gdZ_tt, ↓L_gdZ_tf, ↓L_gdZ_ft, ↓L_gdZ_ff, ↓T_and, ↓T_imp, ↓T_all, Nat.reduceBEq, Nat.reduceAdd, Nat.reduceSub, Nat.reduceMul, Nat.reduceLT, Nat.reduceLeDiff, Nat.reduceEqDiff, Int.reduceLT, Int.reduceLE, Int.reduceAdd, Int.reduceSub, Int.reduceMul, Int.reduceNeg, Int.reduceToNat, Int.reduceEq, Int.reduceNe, reduceIte, reduceCtorEq, BitVec.reduceOfInt, BitVec.reduceToNat, hlen]; try simp only [top_out])
    refine ⟨fun _ => ?_, fun h => absurd h (by decide)⟩
    refine num_ok 218 _ _ ?_
    (refine top_in ?_; simp -implicitDefEqProofs only [go_sem, -List.reduceReplicate, ↓L_gdZ_tt, ↓L_gdZ_tf, ↓L_gdZ_ft, ↓L_gdZ_ff, ↓T_and, ↓T_imp, ↓T_all, Nat.reduceBEq, Nat.reduceAdd, Nat.reduceSub, Nat.reduceMul, Nat.reduceLT, Nat.reduceLeDiff, Nat.reduceEqDiff, Int.reduceLT, Int.reduceLE, Int.reduceAdd, Int.reduceSub, Int.reduceMul, Int.reduceNeg, Int.reduceToNat, Int.reduceEq, Int.reduceNe, reduceIte, reduceCtorEq, BitVec.reduceOfInt, BitVec.reduceToNat, hlen]; try simp only [top_out])
    refine ⟨fun h => absurd h (by decide), fun _ => ?_⟩
    refine ⟨fun c1 => ⟨fun c2 => ⟨fun c3 => ⟨fun c4 => ?_, fun c4 => ?_⟩, fun c3 => ?_⟩, fun c2 => ?_⟩, fun c1 => ?_⟩
    any_goals
      refine flip_st nx m 2 2 a v (2, 1, x2, b, 1) _ _ _ _ (h5.ag (Ag.app (S := fun _ => False)) (fun _ _ h => h)) (List.mem_singleton.2 rfl) (fun _ => ?_) (fun a0 a1 x0 x1 => absurd (show a < 0 ∨ (b.length : Int) ≤ a ∨ v < 1 ∨ 255 < v by omega) (by have : (b.length : Int) > a := a1; omega))
      (refine top_in ?_; simp -implicitDefEqProofs only [go_sem, -List.reduceReplicate, ↓L_gdZ_tt, ↓L_gdZ_tf, ↓L_gdZ_ft, ↓L_gdZ_ff, ↓T_and, ↓T_imp, ↓T_all, Nat.reduceBEq, Nat.reduceAdd, Nat.reduceSub, Nat.reduceMul, Nat.reduceLT, Nat.reduceLeDiff, Nat.reduceEqDiff, Int.reduceLT, Int.reduceLE, Int.reduceAdd, Int.reduceSub, Int.reduceMul, Int.reduceNeg, Int.reduceToNat, Int.reduceEq, Int.reduceNe, reduceIte, reduceCtorEq, BitVec.reduceOfInt, BitVec.reduceToNat, hlen]; try simp only [top_out])
      refine num_ok 2 _ _ ?_
      (refine top_in ?_; simp -implicitDefEqProofs only [go_sem, -List.reduceReplicate, ↓L_gdZ_tt, ↓L_gdZ_tf, ↓L_gdZ_ft, ↓L_gdZ_ff, ↓T_and, ↓T_imp, ↓T_all, Nat.reduceBEq, Nat.reduceAdd, Nat.reduceSub, Nat.reduceMul, Nat.reduceLT, Nat.reduceLeDiff, Nat.reduceEqDiff, Int.reduceLT, Int.reduceLE, Int.reduceAdd, Int.reduceSub, Int.reduceMul, Int.reduceNeg, Int.reduceToNat, Int.reduceEq, Int.reduceNe, reduceIte, reduceCtorEq, BitVec.reduceOfInt, BitVec.reduceToNat, hlen]; try simp only [top_out])
      refine ⟨fun h => absurd h (by decide), fun _ => ?_⟩
    all_goals
      refine under_sa nx m 2 2 _ _ _ _ (h5.ag (Ag.app (S := fun _ => False)) (fun _ _ h => h)) (by simp) (by omega) (fun M6 q' xs' zz' cp' ty' hA6 hq' hL6 hH6 => ?_)
      have h6 := NetSt.ag (h5.ag (Ag.app (S := fun _ => False)) (fun _ _ h => h)) hA6 (fun _ _ h => h)
      (refine top_in ?_; simp -implicitDefEqProofs only [go_sem, -List.reduceReplicate, ↓L_gdZ_tt, ↓L_gdZ_tf, ↓L_gdZ_ft, ↓L_gdZ_ff, ↓T_and, ↓T_imp, ↓T_all, Nat.reduceBEq, Nat.reduceAdd, Nat.reduceSub, Nat.reduceMul, Nat.reduceLT, Nat.reduceLeDiff, Nat.reduceEqDiff, Int.reduceLT, Int.reduceLE, Int.reduceAdd, Int.reduceSub, Int.reduceMul, Int.reduceNeg, Int.reduceToNat, Int.reduceEq, Int.reduceNe, reduceIte, reduceCtorEq, BitVec.reduceOfInt, BitVec.reduceToNat, hlen]; try simp only [top_out])
      refine sameFlights_ok q' cp' q cp [(2, 1, b)] [(2, 1, b)] xs' xs zz' zz ty' ty M6 _ hL6 (hA6.get (Ag.get (Ag.app (S := fun _ => False)) hL (fun h => h)) (fun h => h)) hH6 ((hH.ag (Ag.app (S := fun _ => False)) (fun _ h => h)).ag hA6 (fun _ h => h)) (by simp) (by simp) ?_
      rw [show decide ([((2 : Int), (1 : Int), b)] = [(2, 1, b)]) = true from by simp]
      (refine top_in ?_; simp -implicitDefEqProofs only [go_sem, -List.reduceReplicate, ↓L_gdZ_tt, ↓L_gdZ_tf, ↓L_gdZ_ft, ↓L_gdZ_ff, ↓T_and, ↓T_imp, ↓T_all, Nat.reduceBEq, Nat.reduceAdd, Nat.reduceSub, Nat.reduceMul, Nat.reduceLT, Nat.reduceLeDiff, Nat.reduceEqDiff, Int.reduceLT, Int.reduceLE, Int.reduceAdd, Int.reduceSub, Int.reduceMul, Int.reduceNeg, Int.reduceToNat, Int.reduceEq, Int.reduceNe, reduceIte, reduceCtorEq, BitVec.reduceOfInt, BitVec.reduceToNat, hlen]; try simp only [top_out])
      refine send_st nx m 2 2 0 .sn [] _ _ _ _ h6 (by simp) (by omega) ⟨by simp, .inl ⟨rfl, rfl⟩⟩ (fun M7 F7 x7 h7 hF7 hA7 => ?_)
      (refine top_in ?_; simp -implicitDefEqProofs only [go_sem, -List.reduceReplicate, ↓L_gdZ_tt, ↓L_gdZ_tf, ↓L_gdZ_ft, ↓L_gdZ_ff, ↓T_and, ↓T_imp, ↓T_all, Nat.reduceBEq, Nat.reduceAdd, Nat.reduceSub, Nat.reduceMul, Nat.reduceLT, Nat.reduceLeDiff, Nat.reduceEqDiff, Int.reduceLT, Int.reduceLE, Int.reduceAdd, Int.reduceSub, Int.reduceMul, Int.reduceNeg, Int.reduceToNat, Int.reduceEq, Int.reduceNe, reduceIte, reduceCtorEq, BitVec.reduceOfInt, BitVec.reduceToNat, hlen]; try simp only [top_out])
      have hA8 := Ag.trans (Ag.trans (Ag.trans hA5 (Ag.app (S := fun _ => False)) (fun n hn h => h.elim)) hA6 (fun n hn h => h.elim)) hA7 (fun n hn h => g3 n h.1)
      exact dropC_ag hM hA8 (fun n hn h => by omega) rfl hK
  · refine ⟨fun c1 => ⟨fun c2 => ⟨fun c3 => ⟨fun c4 => ?_, fun c4 => ?_⟩, fun c3 => ?_⟩, fun c2 => ?_⟩, fun c1 => ?_⟩
    any_goals
      refine flip_st nx m 2 2 a v (2, 1, x2, b, 1) _ _ _ _ (h5.ag (Ag.refl (S := fun _ => False)) (fun _ _ h => h)) (List.mem_singleton.2 rfl) (fun _ => ?_) (fun a0 a1 x0 x1 => absurd (show a < 0 ∨ (b.length : Int) ≤ a ∨ v < 1 ∨ 255 < v by omega) (by have : (b.length : Int) > a := a1; omega))
      (refine top_in ?_; simp -implicitDefEqProofs only [go_sem, -List.reduceReplicate, ↓L_gdZ_tt, ↓L_gdZ_tf, ↓L_gdZ_ft, ↓L_gdZ_ff, ↓T_and, ↓T_imp, ↓T_all, Nat.reduceBEq, Nat.reduceAdd, Nat.reduceSub, Nat.reduceMul, Nat.reduceLT, Nat.reduceLeDiff, Nat.reduceEqDiff, Int.reduceLT, Int.reduceLE, Int.reduceAdd, Int.reduceSub, Int.reduceMul, Int.reduceNeg, Int.reduceToNat, Int.reduceEq, Int.reduceNe, reduceIte, reduceCtorEq, BitVec.reduceOfInt, BitVec.reduceToNat, hlen]; try simp only [top_out])
      refine num_ok 2 _ _ ?_
      (refine top_in ?_; simp -implicitDefEqProofs only [go_sem, -List.reduceReplicate, ↓L_gdZ_tt, ↓L_gdZ_tf, ↓L_gdZ_ft, ↓L_gdZ_ff, ↓T_and, ↓T_imp, ↓T_all, Nat.reduceBEq, Nat.reduceAdd, Nat.reduceSub, Nat.reduceMul, Nat.reduceLT, Nat.reduceLeDiff, Nat.reduceEqDiff, Int.reduceLT, Int.reduceLE, Int.reduceAdd, Int.reduceSub, Int.reduceMul, Int.reduceNeg, Int.reduceToNat, Int.reduceEq, Int.reduceNe, reduceIte, reduceCtorEq, BitVec.reduceOfInt, BitVec.reduceToNat, hlen]; try simp only [top_out])
      refine ⟨fun h => absurd h (by decide), fun _ => ?_⟩
    all_goals
      refine under_sa nx m 2 2 _ _ _ _ (h5.ag (Ag.refl (S := fun _ => False)) (fun _ _ h => h)) (by simp) (by omega) (fun M6 q' xs' zz' cp' ty' hA6 hq' hL6 hH6 => ?_)
      have h6 := NetSt.ag (h5.ag (Ag.refl (S := fun _ => False)) (fun _ _ h => h)) hA6 (fun _ _ h => h)
      (refine top_in ?_; simp -implicitDefEqProofs only [go_sem, -List.reduceReplicate, ↓L_gdZ_tt, ↓L_gdZ_tf, ↓L_gdZ_ft, ↓L_gdZ_ff, ↓T_and, ↓T_imp, ↓T_all, Nat.reduceBEq, Nat.reduceAdd, Nat.reduceSub, Nat.reduceMul, Nat.reduceLT, Nat.reduceLeDiff, Nat.reduceEqDiff, Int.reduceLT, Int.reduceLE, Int.reduceAdd, Int.reduceSub, Int.reduceMul, Int.reduceNeg, Int.reduceToNat, Int.reduceEq, Int.reduceNe, reduceIte, reduceCtorEq, BitVec.reduceOfInt, BitVec.reduceToNat, hlen]; try simp only [top_out])
      refine sameFlights_ok q' cp' q cp [(2, 1, b)] [(2, 1, b)] xs' xs zz' zz ty' ty M6 _ hL6 (hA6.get (Ag.get (Ag.refl (S := fun _ => False)) hL (fun h => h)) (fun h => h)) hH6 ((hH.ag (Ag.refl (S := fun _ => False)) (fun _ h => h)).ag hA6 (fun _ h => h)) (by simp) (by simp) ?_
      rw [show decide ([((2 : Int), (1 : Int), b)] = [(2, 1, b)]) = true from by simp]
      (refine top_in ?_; simp -implicitDefEqProofs only [go_sem, -List.reduceReplicate, ↓L_gdZ_tt, ↓L_gdZ_tf, ↓L_gdZ_ft, ↓L_gdZ_ff, ↓T_and, ↓T_imp, ↓T_all, Nat.reduceBEq, Nat.reduceAdd, Nat.reduceSub, Nat.reduceMul, Nat.reduceLT, Nat.reduceLeDiff, Nat.reduceEqDiff, Int.reduceLT, Int.reduceLE, Int.reduceAdd, Int.reduceSub, Int.reduceMul, Int.reduceNeg, Int.reduceToNat, Int.reduceEq, Int.reduceNe, reduceIte, reduceCtorEq, BitVec.reduceOfInt, BitVec.reduceToNat, hlen]; try simp only [top_out])
      refine send_st nx m 2 2 0 .sn [] _ _ _ _ h6 (by simp) (by omega) ⟨by simp, .inl ⟨rfl, rfl⟩⟩ (fun M7 F7 x7 h7 hF7 hA7 => ?_)
      (refine top_in ?_; simp -implicitDefEqProofs only [go_sem, -List.reduceReplicate, ↓L_gdZ_tt, ↓L_gdZ_tf, ↓L_gdZ_ft, ↓L_gdZ_ff, ↓T_and, ↓T_imp, ↓T_all, Nat.reduceBEq, Nat.reduceAdd, Nat.reduceSub, Nat.reduceMul, Nat.reduceLT, Nat.reduceLeDiff, Nat.reduceEqDiff, Int.reduceLT, Int.reduceLE, Int.reduceAdd, Int.reduceSub, Int.reduceMul, Int.reduceNeg, Int.reduceToNat, Int.reduceEq, Int.reduceNe, reduceIte, reduceCtorEq, BitVec.reduceOfInt, BitVec.reduceToNat, hlen]; try simp only [top_out])
      have hA8 := Ag.trans (Ag.trans (Ag.trans hA5 (Ag.refl (S := fun _ => False)) (fun n hn h => h.elim)) hA6 (fun n hn h => h.elim)) hA7 (fun n hn h => g3 n h.1)
      exact dropC_ag hM hA8 (fun n hn h => by omega) rfl hK
end Go.Proofs.Ytccnffjjahdneaa.Eng
