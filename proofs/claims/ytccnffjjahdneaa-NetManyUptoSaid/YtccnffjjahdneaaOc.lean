/- Two nets, call by call. -/
import Derived.Test.YtccnffjjahdneaaOb
namespace Go.Proofs.Ytccnffjjahdneaa.Eng
open Go Go.RowKit
set_option linter.unusedSimpArgs false
set_option linter.unusedVariables false
set_option linter.unusedSimpArgs false
set_option linter.unusedVariables false

/-- a script of steps in memory -/
structure ScrAt (M : List Blk) (s b : Nat) (l : List Rec) : Prop where
  row : M[s]? = some (.ro (recC b l))
  recs : ∀ i y, l[i]? = some y → OpR y ∧ M[b + i]? = some y.2
theorem ScrAt.ag {S : Nat → Prop} {M M' : List Blk} {s b : Nat} {l : List Rec} (h : ScrAt M s b l) (hA : Ag S M M') (hS : ∀ n, n < M.length → ¬ S n) : ScrAt M' s b l :=
  ⟨hA.get h.row (hS _ (kw h.row)), fun i y hi => ⟨(h.recs i y hi).1, hA.get (h.recs i y hi).2 (hS _ (kw (h.recs i y hi).2))⟩⟩
theorem OpR.len {y : Rec} (h : OpR y) (m : Nat) : (y.1 m).length = 7 := by
  obtain ⟨ki, se, to, no, xx, a, l, xd, h1, _⟩ := h
  rw [h1]; rfl
theorem recC_at {k : Nat} (l : List Rec) (b i j : Nat) (hk : ∀ y, y ∈ l → ∀ m, (y.1 m).length = k) {y : Rec} (h : l[i]? = some y) (hj : j < k) : (recC b l)[i * k + j]? = (y.1 (b + i))[j]? := by
  have := recC_drop l b i hk h []
  rw [List.append_nil] at this
  rw [← this, List.getElem?_take_of_lt hj, List.getElem?_drop]
/-- a step of the script: what is loaded -/
theorem ScrAt.step {M : List Blk} {s b : Nat} {l : List Rec} (h : ScrAt M s b l) {i : Nat} (hi : i < l.length) :
    ∃ ki se to no xx a d x, (recC b l).length = l.length * 7 ∧ ((recC b l).drop (i * 7)).take 7 = [.i .i64 ki, .b se, .i .i64 to, .i .i64 no, .i .i64 xx, .i .i64 a, x] ∧ (recC b l).getD (i * 7 + 1) uS = .b se ∧ (isI .i64 (recC b l) (i * 7) = true ∧ cellI (recC b l) (i * 7) = ki) ∧
      ((isI .i64 (recC b l) (i * 7 + 3) = true ∧ cellI (recC b l) (i * 7 + 3) = no)) ∧ (-9223372036854775808 ≤ no ∧ no ≤ 9223372036854775807) ∧ ArgB M x d := by
  have hk : ∀ y, y ∈ l → ∀ m, (y.1 m).length = 7 := fun y hy m => by
    obtain ⟨j, hj⟩ := List.getElem?_of_mem hy
    exact (h.recs j y hj).1.len m
  have hy : l[i]? = some l[i] := List.getElem?_eq_getElem hi
  generalize l[i] = y at hy
  obtain ⟨⟨ki, se, to, no, xx, a, d, xd, h1, h2, h3, h4⟩, hB⟩ := h.recs i y hy
  have hd := recC_drop l b i hk hy []
  rw [List.append_nil, h1] at hd
  have at' : ∀ j, j < 7 → (recC b l)[i * 7 + j]? = [SV.i .i64 ki, .b se, .i .i64 to, .i .i64 no, .i .i64 xx, .i .i64 a, xd (b + i)][j]? := fun j hj => by rw [recC_at l b i j hk hy hj, h1]
  refine ⟨ki, se, to, no, xx, a, d, xd (b + i), recC_length l b hk, hd, ?_, isI_of (by have := at' 0 (by decide); simpa using this), isI_of (by have := at' 3 (by decide); simpa using this), h3, h4 M (b + i) hB⟩
  rw [List.getD_eq_getElem?_getD, at' 1 (by decide)]; rfl
theorem PairSt.live {M : List Blk} {F : Nat → Prop} {p : Nat} {g : Int} (h : PairSt M F p g) : liveB M[p]? = true ∧ p < M.length ∧ F p ∧ ∀ n, F n → n < M.length := by
  obtain ⟨Fn, Fr, nx, m, c, r, fs, rs, y, z, long, h⟩ := h
  exact ⟨by rw [h.row]; rfl, kw h.row, h.fp, h.inn⟩
theorem ArgB.dn {M : List Blk} {x : SV} {l : List (BitVec 8)} (h : ArgB M x l) : ∀ d, dnS x = some d → d < M.length := by
  intro d e
  obtain ⟨_, ⟨rfl, _⟩ | ⟨a, rfl, _⟩ | ⟨n, cap, rfl, _, hb, _⟩⟩ := h
  · cases e
  · cases e
  · cases e; exact hb.lt
theorem ArgB.ag {S : Nat → Prop} {M M' : List Blk} {x : SV} {l : List (BitVec 8)} (h : ArgB M x l) (hA : Ag S M M') (hS : ∀ n, n < M.length → ¬ S n) : Byt M' x l := by
  have hd := h.dn
  exact (h.byt (by have := h.1; omega)).ag hA (fun d e => hS d (hd d e))

set_option maxHeartbeats 4000000 in
set_option maxRecDepth 20000 in
theorem plays_law (s b cap : Nat) (l : List Rec) (M : List Blk) (K : SV → List Blk → Prop) (hs : ScrAt M s b l) (hl : l.length ≤ 140737488351232) (hK : K (.b true) M) :
    callVC Try.prog 4 [.sl s 0 l.length cap] M K := by
  refine fn_rule tabOK Try.func4 rfl Try.call4 (by kernel_rfl) (fun hM => ?_)
  (refine top_in ?_; simp -implicitDefEqProofs only [Try.ntmps4, Try.results4, go_sem, -List.reduceReplicate, ↓L_gdZ_tt, ↓L_gdZ_tf, ↓L_gdZ_ft, ↓L_gdZ_ff, ↓T_and, ↓T_imp, ↓T_all, Nat.reduceBEq, Nat.reduceAdd, Nat.reduceSub, Nat.reduceMul, Nat.reduceLT, Nat.reduceLeDiff, Nat.reduceEqDiff, Int.reduceLT, Int.reduceLE, Int.reduceAdd, Int.reduceSub, Int.reduceMul, Int.reduceNeg, Int.reduceToNat, Int.reduceEq, Int.reduceNe, reduceIte, reduceCtorEq, BitVec.reduceOfInt, BitVec.reduceToNat]; try simp only [top_out])
  refine known_ok _ _ ?_
  (refine top_in ?_; simp -implicitDefEqProofs only [go_sem, -List.reduceReplicate, ↓L_gdZ_tt, ↓L_gdZ_tf, ↓L_gdZ_ft, ↓L_gdZ_ff, ↓T_and, ↓T_imp, ↓T_all, Nat.reduceBEq, Nat.reduceAdd, Nat.reduceSub, Nat.reduceMul, Nat.reduceLT, Nat.reduceLeDiff, Nat.reduceEqDiff, Int.reduceLT, Int.reduceLE, Int.reduceAdd, Int.reduceSub, Int.reduceMul, Int.reduceNeg, Int.reduceToNat, Int.reduceEq, Int.reduceNe, reduceIte, reduceCtorEq, BitVec.reduceOfInt, BitVec.reduceToNat]; try simp only [top_out])
  refine begin_ok _ _ (fun M1 F1 p1 h1 hF1 hA1 => ?_)
  (refine top_in ?_; simp -implicitDefEqProofs only [go_sem, -List.reduceReplicate, ↓L_gdZ_tt, ↓L_gdZ_tf, ↓L_gdZ_ft, ↓L_gdZ_ff, ↓T_and, ↓T_imp, ↓T_all, Nat.reduceBEq, Nat.reduceAdd, Nat.reduceSub, Nat.reduceMul, Nat.reduceLT, Nat.reduceLeDiff, Nat.reduceEqDiff, Int.reduceLT, Int.reduceLE, Int.reduceAdd, Int.reduceSub, Int.reduceMul, Int.reduceNeg, Int.reduceToNat, Int.reduceEq, Int.reduceNe, reduceIte, reduceCtorEq, BitVec.reduceOfInt, BitVec.reduceToNat]; try simp only [top_out])
  refine begin_ok _ _ (fun M2 F2 p2 h2 hF2 hA2 => ?_)
  have h1' := h1.ag hA2 (fun _ _ e => e)
  (refine top_in ?_; simp -implicitDefEqProofs only [go_sem, -List.reduceReplicate, ↓L_gdZ_tt, ↓L_gdZ_tf, ↓L_gdZ_ft, ↓L_gdZ_ff, ↓T_and, ↓T_imp, ↓T_all, Nat.reduceBEq, Nat.reduceAdd, Nat.reduceSub, Nat.reduceMul, Nat.reduceLT, Nat.reduceLeDiff, Nat.reduceEqDiff, Int.reduceLT, Int.reduceLE, Int.reduceAdd, Int.reduceSub, Int.reduceMul, Int.reduceNeg, Int.reduceToNat, Int.reduceEq, Int.reduceNe, reduceIte, reduceCtorEq, BitVec.reduceOfInt, BitVec.reduceToNat, h1'.live.1, h2.live.1]; try simp only [top_out])
  have m1 := hA1.1
  refine loop_code tabOK (by kernel_rfl) (fun n ts M' => ∃ (k : Nat) (G1 G2 : Nat → Prop) (g1 g2 : Int), k + n = 300 ∧ PairSt M' G1 p1 g1 ∧ PairSt M' G2 p2 g2 ∧ g1 ≤ 1030 * k ∧ g2 ≤ 1030 * k ∧ (∀ n, G1 n → M.length ≤ n ∧ ¬ G2 n) ∧ (∀ n, G2 n → M.length ≤ n) ∧ Ag (fun n => M.length ≤ n) M M' ∧
    frC [some (.sl s 0 l.length cap), none, none, some (.p p1 0), some (.p p2 0), some (.i .i64 k), none, none, none, none, none, none, none, none, none, none, none, none, none, none, none, none, none, none, none, none, none, none, none, none, none, none, none, none, none, none, none, none, none, none, none, none, none, none, none, none, none, none, none, none, none, none, none, none, none, none] ts) 300 ?_ ?_
  · refine ⟨0, F1, F2, 0, 0, by omega, h1', h2, by omega, by omega, fun n e => ⟨hF1 n e, fun e2 => ?_⟩, fun n e => by have := hF2 n e; omega, Ag.trans (hA1.mono (fun _ e => e.elim)) hA2 (fun _ _ e => e.elim), by simp [frC]⟩
    have := hF2 n e2
    have := h1.live.2.2.2 n e
    omega
  · rintro n ts M3 ⟨k, G1, G2, g1, g2, hk, q1, q2, l1, l2, hG1, hG2, hA3, hf⟩
    have hs3 := hs.ag hA3 (fun n h1 h2 => by omega)
    have hrow3 := hs3.row
    by_cases hkl : k < l.length
    · obtain ⟨ki, se, to, no, xx, a, d, x, e0, e1, e2, e3, e4, e5, e6⟩ := hs3.step hkl
      have hx3 : Byt M3 x d := e6.byt (by have := e6.1; omega)
      have hxG : ∀ d, dnS x = some d → d < M.length := by
        obtain ⟨ki', se', to', no', xx', a', d', x', f0, f1, f2, f3, f4, f5, f6⟩ := hs.step hkl
        rw [e1] at f1
        simp only [List.cons.injEq, SV.i.injEq, SV.b.injEq, and_true, true_and] at f1
        obtain ⟨-, -, -, -, -, -, rfl⟩ := f1
        exact f6.dn
      have hinn1 := q1.live.2.2.2
      have hinn2 := q2.live.2.2.2
      have m3 := hA3.1
      cases se
      · obtain ⟨f, rfl⟩ := frC_open _ _ 0 hf
        clear hf
        (refine top_in ?_; simp -implicitDefEqProofs only [go_sem, -List.reduceReplicate, ↓L_gdZ_tt, ↓L_gdZ_tf, ↓L_gdZ_ft, ↓L_gdZ_ff, ↓T_and, ↓T_imp, ↓T_all, Nat.reduceBEq, Nat.reduceAdd, Nat.reduceSub, Nat.reduceMul, Nat.reduceLT, Nat.reduceLeDiff, Nat.reduceEqDiff, Int.reduceLT, Int.reduceLE, Int.reduceAdd, Int.reduceSub, Int.reduceMul, Int.reduceNeg, Int.reduceToNat, Int.reduceEq, Int.reduceNe, reduceIte, reduceCtorEq, BitVec.reduceOfInt, BitVec.reduceToNat, hrow3, e0, e1, e2]; try simp only [top_out])
        refine ⟨fun _ => ⟨fun h300 => ⟨by omega, by omega, by omega, by omega, by omega, by omega, by omega, by omega, by omega, ?_⟩, fun h300 => ?_⟩, fun h => absurd h (by omega)⟩
        · refine plays_ok p1 g1 ki to no xx a false x d M3 G1 _ q1 (by omega) hx3 (fun d e e2 => by have := hxG d e; have := (hG1 d e2).1; omega) (fun M4 G4 g4 r1 r2 r3 r4 hA4 => ?_)
          have q4 := q2.ag hA4 (fun n e e2 => (hG1 n e2).2 e)
          (refine top_in ?_; simp -implicitDefEqProofs only [go_sem, -List.reduceReplicate, ↓L_gdZ_tt, ↓L_gdZ_tf, ↓L_gdZ_ft, ↓L_gdZ_ff, ↓T_and, ↓T_imp, ↓T_all, Nat.reduceBEq, Nat.reduceAdd, Nat.reduceSub, Nat.reduceMul, Nat.reduceLT, Nat.reduceLeDiff, Nat.reduceEqDiff, Int.reduceLT, Int.reduceLE, Int.reduceAdd, Int.reduceSub, Int.reduceMul, Int.reduceNeg, Int.reduceToNat, Int.reduceEq, Int.reduceNe, reduceIte, reduceCtorEq, BitVec.reduceOfInt, BitVec.reduceToNat]; try simp only [top_out])
          refine ⟨n - 1, by omega, k + 1, G4, G2, g4, g2, by omega, r1, q4, by omega, by omega, fun n e => ?_, hG2, Ag.trans hA3 hA4 (fun n hn e => (hG1 n e).1), w64 (by omega) (by omega)⟩
          rcases r4 n e with e3 | e3
          · exact hG1 n e3
          · exact ⟨by omega, fun e5 => by have := hinn2 n e5; omega⟩
        · refine punder_ok p1 g1 M3 G1 _ q1 (by omega) ?_
          (refine top_in ?_; simp -implicitDefEqProofs only [go_sem, -List.reduceReplicate, ↓L_gdZ_tt, ↓L_gdZ_tf, ↓L_gdZ_ft, ↓L_gdZ_ff, ↓T_and, ↓T_imp, ↓T_all, Nat.reduceBEq, Nat.reduceAdd, Nat.reduceSub, Nat.reduceMul, Nat.reduceLT, Nat.reduceLeDiff, Nat.reduceEqDiff, Int.reduceLT, Int.reduceLE, Int.reduceAdd, Int.reduceSub, Int.reduceMul, Int.reduceNeg, Int.reduceToNat, Int.reduceEq, Int.reduceNe, reduceIte, reduceCtorEq, BitVec.reduceOfInt, BitVec.reduceToNat]; try simp only [top_out])
          refine punder_ok p2 g2 M3 G2 _ q2 (by omega) ?_
          (refine top_in ?_; simp -implicitDefEqProofs only [go_sem, -List.reduceReplicate, ↓L_gdZ_tt, ↓L_gdZ_tf, ↓L_gdZ_ft, ↓L_gdZ_ff, ↓T_and, ↓T_imp, ↓T_all, Nat.reduceBEq, Nat.reduceAdd, Nat.reduceSub, Nat.reduceMul, Nat.reduceLT, Nat.reduceLeDiff, Nat.reduceEqDiff, Int.reduceLT, Int.reduceLE, Int.reduceAdd, Int.reduceSub, Int.reduceMul, Int.reduceNeg, Int.reduceToNat, Int.reduceEq, Int.reduceNe, reduceIte, reduceCtorEq, BitVec.reduceOfInt, BitVec.reduceToNat]; try simp only [top_out])
          refine known_ok _ _ ?_
          (refine top_in ?_; simp -implicitDefEqProofs only [go_sem, -List.reduceReplicate, ↓L_gdZ_tt, ↓L_gdZ_tf, ↓L_gdZ_ft, ↓L_gdZ_ff, ↓T_and, ↓T_imp, ↓T_all, Nat.reduceBEq, Nat.reduceAdd, Nat.reduceSub, Nat.reduceMul, Nat.reduceLT, Nat.reduceLeDiff, Nat.reduceEqDiff, Int.reduceLT, Int.reduceLE, Int.reduceAdd, Int.reduceSub, Int.reduceMul, Int.reduceNeg, Int.reduceToNat, Int.reduceEq, Int.reduceNe, reduceIte, reduceCtorEq, BitVec.reduceOfInt, BitVec.reduceToNat]; try simp only [top_out])
          exact dropC_ag hM hA3 (fun n h1 h2 => by omega) rfl hK
      · obtain ⟨f, rfl⟩ := frC_open _ _ 0 hf
        clear hf
        (refine top_in ?_; simp -implicitDefEqProofs only [go_sem, -List.reduceReplicate, ↓L_gdZ_tt, ↓L_gdZ_tf, ↓L_gdZ_ft, ↓L_gdZ_ff, ↓T_and, ↓T_imp, ↓T_all, Nat.reduceBEq, Nat.reduceAdd, Nat.reduceSub, Nat.reduceMul, Nat.reduceLT, Nat.reduceLeDiff, Nat.reduceEqDiff, Int.reduceLT, Int.reduceLE, Int.reduceAdd, Int.reduceSub, Int.reduceMul, Int.reduceNeg, Int.reduceToNat, Int.reduceEq, Int.reduceNe, reduceIte, reduceCtorEq, BitVec.reduceOfInt, BitVec.reduceToNat, hrow3, e0, e1, e2]; try simp only [top_out])
        refine ⟨fun _ => ⟨fun h300 => ⟨by omega, by omega, by omega, by omega, by omega, by omega, by omega, by omega, by omega, ?_⟩, fun h300 => ?_⟩, fun h => absurd h (by omega)⟩
        · refine plays_ok p2 g2 ki to no xx a true x d M3 G2 _ q2 (by omega) hx3 (fun d e e2 => by have := hxG d e; have := hG2 d e2; omega) (fun M4 G4 g4 r1 r2 r3 r4 hA4 => ?_)
          have q4 := q1.ag hA4 (fun n e e2 => (hG1 n e).2 e2)
          (refine top_in ?_; simp -implicitDefEqProofs only [go_sem, -List.reduceReplicate, ↓L_gdZ_tt, ↓L_gdZ_tf, ↓L_gdZ_ft, ↓L_gdZ_ff, ↓T_and, ↓T_imp, ↓T_all, Nat.reduceBEq, Nat.reduceAdd, Nat.reduceSub, Nat.reduceMul, Nat.reduceLT, Nat.reduceLeDiff, Nat.reduceEqDiff, Int.reduceLT, Int.reduceLE, Int.reduceAdd, Int.reduceSub, Int.reduceMul, Int.reduceNeg, Int.reduceToNat, Int.reduceEq, Int.reduceNe, reduceIte, reduceCtorEq, BitVec.reduceOfInt, BitVec.reduceToNat]; try simp only [top_out])
          refine ⟨n - 1, by omega, k + 1, G1, G4, g1, g4, by omega, q4, r1, by omega, by omega, fun n e => ⟨(hG1 n e).1, fun e5 => ?_⟩, fun n e => ?_, Ag.trans hA3 hA4 (fun n hn e => hG2 n e), w64 (by omega) (by omega)⟩
          · rcases r4 n e5 with e3 | e3
            · exact (hG1 n e).2 e3
            · have := hinn1 n e; omega
          · rcases r4 n e with e3 | e3
            · exact hG2 n e3
            · omega
        · refine punder_ok p1 g1 M3 G1 _ q1 (by omega) ?_
          (refine top_in ?_; simp -implicitDefEqProofs only [go_sem, -List.reduceReplicate, ↓L_gdZ_tt, ↓L_gdZ_tf, ↓L_gdZ_ft, ↓L_gdZ_ff, ↓T_and, ↓T_imp, ↓T_all, Nat.reduceBEq, Nat.reduceAdd, Nat.reduceSub, Nat.reduceMul, Nat.reduceLT, Nat.reduceLeDiff, Nat.reduceEqDiff, Int.reduceLT, Int.reduceLE, Int.reduceAdd, Int.reduceSub, Int.reduceMul, Int.reduceNeg, Int.reduceToNat, Int.reduceEq, Int.reduceNe, reduceIte, reduceCtorEq, BitVec.reduceOfInt, BitVec.reduceToNat]; try simp only [top_out])
          refine punder_ok p2 g2 M3 G2 _ q2 (by omega) ?_
          (refine top_in ?_; simp -implicitDefEqProofs only [go_sem, -List.reduceReplicate, ↓L_gdZ_tt, ↓L_gdZ_tf, ↓L_gdZ_ft, ↓L_gdZ_ff, ↓T_and, ↓T_imp, ↓T_all, Nat.reduceBEq, Nat.reduceAdd, Nat.reduceSub, Nat.reduceMul, Nat.reduceLT, Nat.reduceLeDiff, Nat.reduceEqDiff, Int.reduceLT, Int.reduceLE, Int.reduceAdd, Int.reduceSub, Int.reduceMul, Int.reduceNeg, Int.reduceToNat, Int.reduceEq, Int.reduceNe, reduceIte, reduceCtorEq, BitVec.reduceOfInt, BitVec.reduceToNat]; try simp only [top_out])
          refine known_ok _ _ ?_
          (refine top_in ?_; simp -implicitDefEqProofs only [go_sem, -List.reduceReplicate, ↓L_gdZ_tt, ↓L_gdZ_tf, ↓L_gdZ_ft, ↓L_gdZ_ff, ↓T_and, ↓T_imp, ↓T_all, Nat.reduceBEq, Nat.reduceAdd, Nat.reduceSub, Nat.reduceMul, Nat.reduceLT, Nat.reduceLeDiff, Nat.reduceEqDiff, Int.reduceLT, Int.reduceLE, Int.reduceAdd, Int.reduceSub, Int.reduceMul, Int.reduceNeg, Int.reduceToNat, Int.reduceEq, Int.reduceNe, reduceIte, reduceCtorEq, BitVec.reduceOfInt, BitVec.reduceToNat]; try simp only [top_out])
          exact dropC_ag hM hA3 (fun n h1 h2 => by omega) rfl hK
    · obtain ⟨f, rfl⟩ := frC_open _ _ 0 hf
      clear hf
      (refine top_in ?_; simp -implicitDefEqProofs only [go_sem, -List.reduceReplicate, ↓L_gdZ_tt, ↓L_gdZ_tf, ↓L_gdZ_ft, ↓L_gdZ_ff, ↓T_and, ↓T_imp, ↓T_all, Nat.reduceBEq, Nat.reduceAdd, Nat.reduceSub, Nat.reduceMul, Nat.reduceLT, Nat.reduceLeDiff, Nat.reduceEqDiff, Int.reduceLT, Int.reduceLE, Int.reduceAdd, Int.reduceSub, Int.reduceMul, Int.reduceNeg, Int.reduceToNat, Int.reduceEq, Int.reduceNe, reduceIte, reduceCtorEq, BitVec.reduceOfInt, BitVec.reduceToNat, hrow3]; try simp only [top_out])
      refine ⟨fun h => absurd h (by omega), fun _ => ?_⟩
      refine punder_ok p1 g1 M3 G1 _ q1 (by omega) ?_
      (refine top_in ?_; simp -implicitDefEqProofs only [go_sem, -List.reduceReplicate, ↓L_gdZ_tt, ↓L_gdZ_tf, ↓L_gdZ_ft, ↓L_gdZ_ff, ↓T_and, ↓T_imp, ↓T_all, Nat.reduceBEq, Nat.reduceAdd, Nat.reduceSub, Nat.reduceMul, Nat.reduceLT, Nat.reduceLeDiff, Nat.reduceEqDiff, Int.reduceLT, Int.reduceLE, Int.reduceAdd, Int.reduceSub, Int.reduceMul, Int.reduceNeg, Int.reduceToNat, Int.reduceEq, Int.reduceNe, reduceIte, reduceCtorEq, BitVec.reduceOfInt, BitVec.reduceToNat]; try simp only [top_out])
      refine punder_ok p2 g2 M3 G2 _ q2 (by omega) ?_
      (refine top_in ?_; simp -implicitDefEqProofs only [go_sem, -List.reduceReplicate, ↓L_gdZ_tt, ↓L_gdZ_tf, ↓L_gdZ_ft, ↓L_gdZ_ff, ↓T_and, ↓T_imp, ↓T_all, Nat.reduceBEq, Nat.reduceAdd, Nat.reduceSub, Nat.reduceMul, Nat.reduceLT, Nat.reduceLeDiff, Nat.reduceEqDiff, Int.reduceLT, Int.reduceLE, Int.reduceAdd, Int.reduceSub, Int.reduceMul, Int.reduceNeg, Int.reduceToNat, Int.reduceEq, Int.reduceNe, reduceIte, reduceCtorEq, BitVec.reduceOfInt, BitVec.reduceToNat]; try simp only [top_out])
      refine known_ok _ _ ?_
      (refine top_in ?_; simp -implicitDefEqProofs only [go_sem, -List.reduceReplicate, ↓L_gdZ_tt, ↓L_gdZ_tf, ↓L_gdZ_ft, ↓L_gdZ_ff, ↓T_and, ↓T_imp, ↓T_all, Nat.reduceBEq, Nat.reduceAdd, Nat.reduceSub, Nat.reduceMul, Nat.reduceLT, Nat.reduceLeDiff, Nat.reduceEqDiff, Int.reduceLT, Int.reduceLE, Int.reduceAdd, Int.reduceSub, Int.reduceMul, Int.reduceNeg, Int.reduceToNat, Int.reduceEq, Int.reduceNe, reduceIte, reduceCtorEq, BitVec.reduceOfInt, BitVec.reduceToNat]; try simp only [top_out])
      exact dropC_ag hM hA3 (fun n h1 h2 => by omega) rfl hK
end Go.Proofs.Ytccnffjjahdneaa.Eng
