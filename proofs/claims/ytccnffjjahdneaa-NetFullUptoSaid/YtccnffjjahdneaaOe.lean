/- A net that is full. -/
import Derived.Test.YtccnffjjahdneaaOc
import Derived.Test.YtccnffjjahdneaaNa
namespace Go.Proofs.Ytccnffjjahdneaa.Eng
open Go Go.RowKit
set_option linter.unusedSimpArgs false
set_option linter.unusedVariables false
set_option linter.unusedSimpArgs false
set_option linter.unusedVariables false

/-- so many flights of one kind -/
def fullL (to : Int) (b : List (BitVec 8)) (k : Nat) : List Flt := (List.range k).map fun i => (((i + 1 : Nat) : Int), to, b)
theorem fullL_len (to : Int) (b : List (BitVec 8)) (k : Nat) : (fullL to b k).length = k := by simp [fullL]
theorem fullL_snd (to : Int) (b : List (BitVec 8)) (k : Nat) (h : k < 1024) : sndL (fullL to b k) (k : Int) to b = fullL to b (k + 1) := by
  unfold sndL
  rw [if_pos (by rw [fullL_len]; exact h)]
  simp [fullL, List.range_succ]
set_option maxHeartbeats 4000000 in
theorem many_full (p nx m c r : Nat) (to : Int) (x : SV) (b : List (BitVec 8)) (y : SV) (z : List (BitVec 8)) (long : Bool) (M : List Blk) (F Fn Fr : Nat → Prop) (K : SV → List Blk → Prop) (h : PairS M F Fn Fr p nx m c r 0 [] [] y z long) (hx : Byt M x b) (hxF : ∀ d, dnS x = some d → ¬ F d) (hb : b.length ≤ 4096)
    (hK : ∀ M' F' Fn' Fr' c' fs' rs' y' z' long', PairS M' F' Fn' Fr' p nx m c' r 1024 fs' rs' y' z' long' → vwE fs' = fullL to b 1024 → (∀ n, F' n → F n ∨ M.length ≤ n) → Ag F M M' → K (.b true) M') :
    callVC Try.prog 21 [.p p 0, opS 0 false to 0 0 0 x] M K := by
  have hlb : ∀ {M' : List Blk} {e a b' : Nat} {K : SV → Prop}, lenB (.slice e a b') M' x K = K (.i .i64 b.length) := hx.lenB
  have hxo := hx.one
  obtain ⟨w, hr, hw2⟩ := h.ref.ex
  have hlw : ∀ {M' : List Blk} {e a b' : Nat} {K : SV → Prop}, lenB (.slice e a b') M' w K = K (.i .i64 (0 : Nat)) := by
    intro M' e a b' K
    rcases hw2 with ⟨rfl, _⟩ | ⟨q, cap, zz, ty, rfl, _⟩ <;> rfl
  have hp := h.row
  have hpl := kw hp
  have hrl := kw hr
  unfold opS
  refine fn_rule tabOK Try.func21 rfl Try.call21 (by kernel_rfl) (fun hM => ?_)
  (refine top_in ?_; simp -implicitDefEqProofs only [Try.ntmps21, Try.results21, go_sem, -List.reduceReplicate, ↓L_gdZ_tt, ↓L_gdZ_tf, ↓L_gdZ_ft, ↓L_gdZ_ff, ↓T_and, ↓T_imp, ↓T_all, Nat.reduceBEq, Nat.reduceAdd, Nat.reduceSub, Nat.reduceMul, Nat.reduceLT, Nat.reduceLeDiff, Nat.reduceEqDiff, Int.reduceLT, Int.reduceLE, Int.reduceAdd, Int.reduceSub, Int.reduceMul, Int.reduceNeg, Int.reduceToNat, Int.reduceEq, Int.reduceNe, reduceIte, reduceCtorEq, BitVec.reduceOfInt, BitVec.reduceToNat, hlb, hxo, get_lt hpl, get_lt hrl, hp, hr, hlw]; try simp only [top_out])
  have hA0 : Ag F M (M ++ [Blk.row [SV.i IntKind.i64 0, SV.b false, SV.i IntKind.i64 to, SV.i IntKind.i64 0, SV.i IntKind.i64 0, SV.i IntKind.i64 0, x] 43]) := Ag.app
  have hP0 := h.ag (S := fun _ => False) (M' := M ++ [Blk.row [SV.i IntKind.i64 0, SV.b false, SV.i IntKind.i64 to, SV.i IntKind.i64 0, SV.i IntKind.i64 0, SV.i IntKind.i64 0, x] 43]) Ag.app (fun _ _ e => e)
  refine ⟨fun _ => ?_, fun h => absurd h (by omega)⟩
  have hdx : ∀ d, dnS x = some d → d < M.length := by
    intro d e
    obtain ⟨_, ⟨rfl, _⟩ | ⟨a, rfl, _⟩ | ⟨n, cap, rfl, hb⟩⟩ := hx
    · cases e
    · cases e
    · cases e; exact hb.lt
  have hinn := h.inn
  refine loop_code tabOK (by kernel_rfl) (fun m' ts M' => ∃ (k : Nat) (F' Fn' Fr' : Nat → Prop) (c' : Nat) (fs' : List Ent) (rs' : List Rfl) (y' : SV) (z' : List (BitVec 8)) (long' : Bool), k + m' = 1024 ∧ PairS M' F' Fn' Fr' p nx m c' r k fs' rs' y' z' long' ∧ vwE fs' = fullL to b k ∧ (∀ n, F' n → F n ∨ M.length + 1 ≤ n) ∧
    Ag F (M ++ [Blk.row [SV.i IntKind.i64 0, SV.b false, SV.i IntKind.i64 to, SV.i IntKind.i64 0, SV.i IntKind.i64 0, SV.i IntKind.i64 0, x] 43]) M' ∧ frC [some (.p p 0), none, none, some (.p M.length 0), none, some (.i .i64 k), none, none, none, none, none, none, none, none, none, none, none, none, none, none, none, none, none, none, none, none, none, none, none, none, none, none, none, none, none, none, none, none, none, none, none, none, none, none] ts) 1024 ?_ ?_
  · exact ⟨0, F, Fn, Fr, c, [], [], y, z, long, by omega, hP0, rfl, fun n e => .inl e, Ag.refl, by simp [frC]⟩
  · rintro m' ts M1 ⟨k, F1, Fn1, Fr1, c1, fs1, rs1, y1, z1, long1, hk, hP1, hv1, hF1, hA1, hf⟩
    have hbox : M1[M.length]? = some (Blk.row [SV.i IntKind.i64 0, SV.b false, SV.i IntKind.i64 to, SV.i IntKind.i64 0, SV.i IntKind.i64 0, SV.i IntKind.i64 0, x] 43) := hA1.get (by simp [go_sem]) (fun e => by have := hinn _ e; omega)
    have hlen1 := hA1.1
    simp only [List.length_append, List.length_cons, List.length_nil] at hlen1
    have hfl : fs1.length = k := by rw [← vwE_len, hv1, fullL_len]
    have hw24 : IntKind.i64.wrap 1024 = 1024 := by decide
    obtain ⟨f, rfl⟩ := frC_open _ _ 0 hf
    clear hf
    (refine top_in ?_; simp -implicitDefEqProofs only [go_sem, -List.reduceReplicate, ↓L_gdZ_tt, ↓L_gdZ_tf, ↓L_gdZ_ft, ↓L_gdZ_ff, ↓T_and, ↓T_imp, ↓T_all, Nat.reduceBEq, Nat.reduceAdd, Nat.reduceSub, Nat.reduceMul, Nat.reduceLT, Nat.reduceLeDiff, Nat.reduceEqDiff, Int.reduceLT, Int.reduceLE, Int.reduceAdd, Int.reduceSub, Int.reduceMul, Int.reduceNeg, Int.reduceToNat, Int.reduceEq, Int.reduceNe, reduceIte, reduceCtorEq, BitVec.reduceOfInt, BitVec.reduceToNat, hlb, hbox, hw24]; try simp only [top_out])
    refine ⟨fun hlt => ?_, fun hlt => ?_⟩
    · have hk2 : k < 1024 := by omega
      refine sends_fl p nx m c1 r k to x b fs1 rs1 y1 z1 long1 M1 F1 Fn1 Fr1 _ hP1 (by omega) ((hx.ag (S := fun _ => False) Ag.app (fun _ _ e => e)).ag hA1 hxF) (fun d e e2 => ?_) (fun h => absurd h (by omega)) (fun M2 F2 Fn2 Fr2 c2 fs2 rs2 y2 z2 long2 hP2 hv2 hF2 hA2 => ?_)
      · rcases hF1 d e2 with e3 | e3
        · exact hxF d e e3
        · have := hdx d e; omega
      · (refine top_in ?_; simp -implicitDefEqProofs only [go_sem, -List.reduceReplicate, ↓L_gdZ_tt, ↓L_gdZ_tf, ↓L_gdZ_ft, ↓L_gdZ_ff, ↓T_and, ↓T_imp, ↓T_all, Nat.reduceBEq, Nat.reduceAdd, Nat.reduceSub, Nat.reduceMul, Nat.reduceLT, Nat.reduceLeDiff, Nat.reduceEqDiff, Int.reduceLT, Int.reduceLE, Int.reduceAdd, Int.reduceSub, Int.reduceMul, Int.reduceNeg, Int.reduceToNat, Int.reduceEq, Int.reduceNe, reduceIte, reduceCtorEq, BitVec.reduceOfInt, BitVec.reduceToNat]; try simp only [top_out])
        have hg2 : sndG fs1.length (k : Int) = ((k + 1 : Nat) : Int) := by unfold sndG; rw [if_pos (by omega)]; omega
        rw [hg2] at hP2
        rw [hv1, fullL_snd to b k hk2] at hv2
        refine ⟨m' - 1, by omega, k + 1, F2, Fn2, Fr2, c2, fs2, rs2, y2, z2, long2, by omega, hP2, hv2, fun n e => ?_, Ag.trans hA1 hA2 (fun n hn e => ?_), w64 (by omega) (by omega)⟩
        · rcases hF2 n e with e | e
          · exact hF1 n e
          · exact .inr (by omega)
        · simp only [List.length_append, List.length_cons, List.length_nil] at hn
          rcases hF1 n e with e | e
          · exact e
          · omega
    · have hk3 : k = 1024 := by omega
      subst hk3
      exact dropC_all (by omega) (hK M1 F1 Fn1 Fr1 c1 fs1 rs1 y1 z1 long1 hP1 hv1 (fun n e => (hF1 n e).elim .inl (fun e => .inr (by omega))) (Ag.trans hA0 hA1 (fun _ _ e => e)))
set_option maxHeartbeats 4000000 in
set_option maxRecDepth 20000 in
theorem full_law (to more : Int) (x : SV) (b : List (BitVec 8)) (s cap : Nat) (gone : List Int) (M : List Blk) (K : SV → List Blk → Prop) (hx : ArgAt M x b) (hg : M[s]? = some (.ro (gone.map fun n => .i .i64 n))) (hgl : gone.length ≤ 140737488351232) (hK : K (.b true) M) :
    callVC Try.prog 5 [.i .i64 to, x, .sl s 0 gone.length cap, .i .i64 more] M K := by
  have hlen : ∀ {M' : List Blk} {e a b' : Nat} {K : SV → Prop}, lenB (.slice e a b') M' x K = K (.i .i64 b.length) := by
    intro M' e a b' K
    obtain ⟨_, ⟨rfl, rfl⟩ | ⟨n, cap, rfl, _⟩⟩ := hx <;> rfl
  have hxo := hx.one
  refine fn_rule tabOK Try.func5 rfl Try.call5 (by kernel_rfl) (fun hM => ?_)
  (refine top_in ?_; simp -implicitDefEqProofs only [Try.ntmps5, Try.results5, go_sem, -List.reduceReplicate, ↓L_gdZ_tt, ↓L_gdZ_tf, ↓L_gdZ_ft, ↓L_gdZ_ff, ↓T_and, ↓T_imp, ↓T_all, Nat.reduceBEq, Nat.reduceAdd, Nat.reduceSub, Nat.reduceMul, Nat.reduceLT, Nat.reduceLeDiff, Nat.reduceEqDiff, Int.reduceLT, Int.reduceLE, Int.reduceAdd, Int.reduceSub, Int.reduceMul, Int.reduceNeg, Int.reduceToNat, Int.reduceEq, Int.reduceNe, reduceIte, reduceCtorEq, BitVec.reduceOfInt, BitVec.reduceToNat, hlen, hxo]; try simp only [top_out])
  refine known_ok _ _ ?_
  (refine top_in ?_; simp -implicitDefEqProofs only [go_sem, -List.reduceReplicate, ↓L_gdZ_tt, ↓L_gdZ_tf, ↓L_gdZ_ft, ↓L_gdZ_ff, ↓T_and, ↓T_imp, ↓T_all, Nat.reduceBEq, Nat.reduceAdd, Nat.reduceSub, Nat.reduceMul, Nat.reduceLT, Nat.reduceLeDiff, Nat.reduceEqDiff, Int.reduceLT, Int.reduceLE, Int.reduceAdd, Int.reduceSub, Int.reduceMul, Int.reduceNeg, Int.reduceToNat, Int.reduceEq, Int.reduceNe, reduceIte, reduceCtorEq, BitVec.reduceOfInt, BitVec.reduceToNat, hlen, hxo]; try simp only [top_out])
  refine ⟨fun _ => dropC_self hM rfl hK, fun hb => ?_⟩
  refine begin_fl _ _ (fun M1 F1 Fn1 Fr1 p nx m c r y z long h1 hF1 hA1 => ?_)
  have hl1 : liveB M1[p]? = true := by rw [h1.row]; rfl
  (refine top_in ?_; simp -implicitDefEqProofs only [go_sem, -List.reduceReplicate, ↓L_gdZ_tt, ↓L_gdZ_tf, ↓L_gdZ_ft, ↓L_gdZ_ff, ↓T_and, ↓T_imp, ↓T_all, Nat.reduceBEq, Nat.reduceAdd, Nat.reduceSub, Nat.reduceMul, Nat.reduceLT, Nat.reduceLeDiff, Nat.reduceEqDiff, Int.reduceLT, Int.reduceLE, Int.reduceAdd, Int.reduceSub, Int.reduceMul, Int.reduceNeg, Int.reduceToNat, Int.reduceEq, Int.reduceNe, reduceIte, reduceCtorEq, BitVec.reduceOfInt, BitVec.reduceToNat, hlen, hxo, hl1]; try simp only [top_out])
  have hx1 : ∀ {M' : List Blk} {S : Nat → Prop}, Ag S M M' → (∀ n, n < M.length → ¬ S n) → Byt M' x b := fun hA hs => by
    have := (hx.src (nx := M.length) (by omega) hA hs (Nat.le_refl _))
    obtain ⟨q0, q | ⟨n, cap, q1, q2, q3, q4⟩⟩ := this
    · exact ⟨q0, .inl q⟩
    · exact ⟨q0, .inr (.inr ⟨n, cap, q1, q2⟩)⟩
  have hxd : ∀ d, dnS x = some d → d < M.length := by
    intro d e
    obtain ⟨_, ⟨rfl, _⟩ | ⟨n, cap, rfl, hb, _⟩⟩ := hx
    · cases e
    · cases e; exact hb.lt
  have hxc := cellsS_one hxo
  (refine top_in ?_; simp -implicitDefEqProofs only [go_sem, -List.reduceReplicate, ↓L_gdZ_tt, ↓L_gdZ_tf, ↓L_gdZ_ft, ↓L_gdZ_ff, ↓T_and, ↓T_imp, ↓T_all, Nat.reduceBEq, Nat.reduceAdd, Nat.reduceSub, Nat.reduceMul, Nat.reduceLT, Nat.reduceLeDiff, Nat.reduceEqDiff, Int.reduceLT, Int.reduceLE, Int.reduceAdd, Int.reduceSub, Int.reduceMul, Int.reduceNeg, Int.reduceToNat, Int.reduceEq, Int.reduceNe, reduceIte, reduceCtorEq, BitVec.reduceOfInt, BitVec.reduceToNat, hlen, hxo, hxc]; try simp only [top_out])
  refine many_full p nx m c r to x b y z long M1 F1 Fn1 Fr1 _ h1 (hx1 hA1 (fun _ _ e => e)) (fun d e e2 => by have := hF1 d e2; have := hxd d e; omega) (by omega) (fun M2 F2 Fn2 Fr2 c2 fs2 rs2 y2 z2 long2 h2 hv2 hF2 hA2 => ?_)
  have hp2 := h2.row
  have hnr2 := h2.net.row
  have hfl2 : fs2.length = 1024 := by rw [← vwE_len, hv2, fullL_len]
  (refine top_in ?_; simp -implicitDefEqProofs only [go_sem, -List.reduceReplicate, ↓L_gdZ_tt, ↓L_gdZ_tf, ↓L_gdZ_ft, ↓L_gdZ_ff, ↓T_and, ↓T_imp, ↓T_all, Nat.reduceBEq, Nat.reduceAdd, Nat.reduceSub, Nat.reduceMul, Nat.reduceLT, Nat.reduceLeDiff, Nat.reduceEqDiff, Int.reduceLT, Int.reduceLE, Int.reduceAdd, Int.reduceSub, Int.reduceMul, Int.reduceNeg, Int.reduceToNat, Int.reduceEq, Int.reduceNe, reduceIte, reduceCtorEq, BitVec.reduceOfInt, BitVec.reduceToNat, hlen, hxo, hxc, hp2]; try simp only [top_out])
  refine send_full nx m 1024 to x _ c2 63 M2 _ h2.net.row h2.net.map (by simp; omega) ?_
  (refine top_in ?_; simp -implicitDefEqProofs only [go_sem, -List.reduceReplicate, ↓L_gdZ_tt, ↓L_gdZ_tf, ↓L_gdZ_ft, ↓L_gdZ_ff, ↓T_and, ↓T_imp, ↓T_all, Nat.reduceBEq, Nat.reduceAdd, Nat.reduceSub, Nat.reduceMul, Nat.reduceLT, Nat.reduceLeDiff, Nat.reduceEqDiff, Int.reduceLT, Int.reduceLE, Int.reduceAdd, Int.reduceSub, Int.reduceMul, Int.reduceNeg, Int.reduceToNat, Int.reduceEq, Int.reduceNe, reduceIte, reduceCtorEq, BitVec.reduceOfInt, BitVec.reduceToNat, hlen, hxo, hxc, hp2]; try simp only [top_out])
  obtain ⟨f, hf, hf1, hfd⟩ : ∃ f, f ∈ fs2 ∧ f.1 = 1 ∧ f.2.2.1.one = true := by
    have h0 : fs2[0]? = some (fs2[0]'(by omega)) := List.getElem?_eq_getElem (by omega)
    generalize fs2[0]'(by omega) = f at h0
    have h3 := congrArg (·[0]?) hv2
    simp only [vwE, List.getElem?_map, h0, Option.map_some, fullL] at h3
    simp at h3
    exact ⟨f, List.mem_of_getElem? h0, h3.1, (h2.net.data f (List.mem_of_getElem? h0)).lt.1⟩
  have hy := find_yes h2.net.sorted hf
  rw [hf1] at hy
  refine copy_full nx m 1024 1 f.2.1 f.2.2.1 _ c2 63 M2 _ h2.net.row h2.net.map (by simp; omega) hy hfd ?_
  (refine top_in ?_; simp -implicitDefEqProofs only [go_sem, -List.reduceReplicate, ↓L_gdZ_tt, ↓L_gdZ_tf, ↓L_gdZ_ft, ↓L_gdZ_ff, ↓T_and, ↓T_imp, ↓T_all, Nat.reduceBEq, Nat.reduceAdd, Nat.reduceSub, Nat.reduceMul, Nat.reduceLT, Nat.reduceLeDiff, Nat.reduceEqDiff, Int.reduceLT, Int.reduceLE, Int.reduceAdd, Int.reduceSub, Int.reduceMul, Int.reduceNeg, Int.reduceToNat, Int.reduceEq, Int.reduceNe, reduceIte, reduceCtorEq, BitVec.reduceOfInt, BitVec.reduceToNat, hlen, hxo, hxc, hp2]; try simp only [top_out])
  refine ⟨fun _ => ⟨fun _ => ?_, fun h => absurd h (by decide)⟩, fun h => absurd h (by decide)⟩
  refine num_ok 0 _ _ ?_
  (refine top_in ?_; simp -implicitDefEqProofs only [go_sem, -List.reduceReplicate, ↓L_gdZ_tt, ↓L_gdZ_tf, ↓L_gdZ_ft, ↓L_gdZ_ff, ↓T_and, ↓T_imp, ↓T_all, Nat.reduceBEq, Nat.reduceAdd, Nat.reduceSub, Nat.reduceMul, Nat.reduceLT, Nat.reduceLeDiff, Nat.reduceEqDiff, Int.reduceLT, Int.reduceLE, Int.reduceAdd, Int.reduceSub, Int.reduceMul, Int.reduceNeg, Int.reduceToNat, Int.reduceEq, Int.reduceNe, reduceIte, reduceCtorEq, BitVec.reduceOfInt, BitVec.reduceToNat, hlen, hxo, hxc, hp2]; try simp only [top_out])
  refine ⟨fun _ => ?_, fun h => absurd h (by decide)⟩
  refine under_sa nx m c2 1024 fs2 M2 Fn2 _ h2.net (by omega) (by omega) (fun M3 q xs zz cap3 ty hA3 hq hL hH => ?_)
  have h3 : PairSt M3 F2 p 1024 := ⟨Fn2, Fr2, nx, m, c2, r, fs2, rs2, y2, z2, long2, h2.ag hA3 (fun _ _ e => e)⟩
  rw [hfl2]
  (refine top_in ?_; simp -implicitDefEqProofs only [go_sem, -List.reduceReplicate, ↓L_gdZ_tt, ↓L_gdZ_tf, ↓L_gdZ_ft, ↓L_gdZ_ff, ↓T_and, ↓T_imp, ↓T_all, Nat.reduceBEq, Nat.reduceAdd, Nat.reduceSub, Nat.reduceMul, Nat.reduceLT, Nat.reduceLeDiff, Nat.reduceEqDiff, Int.reduceLT, Int.reduceLE, Int.reduceAdd, Int.reduceSub, Int.reduceMul, Int.reduceNeg, Int.reduceToNat, Int.reduceEq, Int.reduceNe, reduceIte, reduceCtorEq, BitVec.reduceOfInt, BitVec.reduceToNat, hlen, hxo, hxc]; try simp only [top_out])
  refine ⟨fun h => absurd h (by decide), fun _ => ?_⟩
  have m1 := hA1.1
  have hA3' : Ag (fun n => M.length ≤ n) M M3 := Ag.trans (Ag.trans (hA1.mono (fun _ e => e.elim)) hA2 (fun n _ e => hF1 n e)) hA3 (fun _ _ e => e.elim)
  have hF2' : ∀ n, F2 n → M.length ≤ n := fun n e => by
    rcases hF2 n e with e | e
    · exact hF1 n e
    · omega
  refine loop_code tabOK (by kernel_rfl) (fun n ts M' => ∃ (k : Nat) (G : Nat → Prop) (g : Int), k + n = 50 ∧ PairSt M' G p g ∧ g ≤ 1024 + 1030 * k ∧ (∀ n, G n → M.length ≤ n) ∧ Ag (fun n => M.length ≤ n) M M' ∧ frC (some (.i .i64 to) :: some (x) :: some (.sl s 0 gone.length cap) :: some (.i .i64 more) :: none :: none :: none :: none :: none :: some (.p p 0) :: none :: none :: none :: none :: some (.i .i64 k) :: none :: none :: none :: none :: none :: none :: none :: none :: none :: none :: none :: none :: none :: none :: none :: none :: none :: none :: none :: none :: none :: none :: none :: none :: none :: none :: none :: none :: none :: none :: none :: none :: none :: none :: none :: none :: none :: none :: none :: none :: none :: none :: none :: none :: none :: none :: none :: none :: none :: none :: none :: none :: none :: none :: none :: none :: none :: none :: none :: none :: none :: none :: none :: none :: none :: none :: none :: none :: none :: none :: none :: none :: none :: none :: none :: none :: none :: none :: none :: none :: none :: none :: none :: none :: none :: none :: none :: none :: none :: none :: none :: none :: none :: none :: []) ts) 50 ?_ ?_
  · exact ⟨0, F2, 1024, by omega, h3, by omega, hF2', hA3', by simp [frC]⟩
  rintro n ts M4 ⟨k, G, g, hk, h4, hg4, hG, hA4, hf⟩
  have hg4' := hA4.get hg (fun e => by have := kw hg; omega)
  have h4l := h4.live.1
  have m4 := hA4.1
  have hgi : ∀ hkl : k < gone.length, isI .i64 (gone.map fun n => SV.i .i64 n) k = true ∧ cellI (gone.map fun n => SV.i .i64 n) k = gone[k] := fun hkl => isI_of (by rw [List.getElem?_map, List.getElem?_eq_getElem hkl]; rfl)
  by_cases hkl : k < gone.length
  · obtain ⟨i1, i2⟩ := hgi hkl
    obtain ⟨f, rfl⟩ := frC_open _ _ 0 hf
    clear hf
    (refine top_in ?_; simp -implicitDefEqProofs only [go_sem, -List.reduceReplicate, ↓L_gdZ_tt, ↓L_gdZ_tf, ↓L_gdZ_ft, ↓L_gdZ_ff, ↓T_and, ↓T_imp, ↓T_all, Nat.reduceBEq, Nat.reduceAdd, Nat.reduceSub, Nat.reduceMul, Nat.reduceLT, Nat.reduceLeDiff, Nat.reduceEqDiff, Int.reduceLT, Int.reduceLE, Int.reduceAdd, Int.reduceSub, Int.reduceMul, Int.reduceNeg, Int.reduceToNat, Int.reduceEq, Int.reduceNe, reduceIte, reduceCtorEq, BitVec.reduceOfInt, BitVec.reduceToNat, hg4', i1, i2]; try simp only [top_out])
    refine ⟨fun _ => ⟨fun h50 => ⟨by omega, by omega, by simp; omega, ?_⟩, fun h50 => ?_⟩, fun h => absurd h (by omega)⟩
    · refine plays_ok p g 3 0 gone[k] 0 0 false .sn [] M4 G _ h4 (by omega) ⟨by simp, .inl ⟨rfl, rfl⟩⟩ (fun d e => by cases e) (fun M5 G5 g5 r1 r2 r3 r4 hA5 => ?_)
      (refine top_in ?_; simp -implicitDefEqProofs only [go_sem, -List.reduceReplicate, ↓L_gdZ_tt, ↓L_gdZ_tf, ↓L_gdZ_ft, ↓L_gdZ_ff, ↓T_and, ↓T_imp, ↓T_all, Nat.reduceBEq, Nat.reduceAdd, Nat.reduceSub, Nat.reduceMul, Nat.reduceLT, Nat.reduceLeDiff, Nat.reduceEqDiff, Int.reduceLT, Int.reduceLE, Int.reduceAdd, Int.reduceSub, Int.reduceMul, Int.reduceNeg, Int.reduceToNat, Int.reduceEq, Int.reduceNe, reduceIte, reduceCtorEq, BitVec.reduceOfInt, BitVec.reduceToNat]; try simp only [top_out])
      refine ⟨n - 1, by omega, k + 1, G5, g5, by omega, r1, by omega, fun n e => ?_, Ag.trans hA4 hA5 (fun n hn e => hG n e), w64 (by omega) (by omega)⟩
      rcases r4 n e with e3 | e3
      · exact hG n e3
      · omega
    · refine loop_code tabOK (by kernel_rfl) (fun n ts M' => ∃ (j : Nat) (G : Nat → Prop) (g : Int), j + n = 60 ∧ PairSt M' G p g ∧ g ≤ 1024 + 1030 * 60 + 1030 * j ∧ (∀ n, G n → M.length ≤ n) ∧ Ag (fun n => M.length ≤ n) M M' ∧ frC (some (.i .i64 to) :: some (x) :: none :: some (.i .i64 more) :: none :: none :: none :: none :: none :: some (.p p 0) :: none :: none :: none :: none :: none :: none :: some (.i .i64 j) :: none :: none :: none :: none :: none :: none :: none :: none :: none :: none :: none :: none :: none :: none :: none :: none :: none :: none :: none :: none :: none :: none :: none :: none :: none :: none :: none :: none :: none :: none :: none :: none :: none :: none :: none :: none :: none :: none :: none :: none :: none :: none :: none :: none :: none :: none :: none :: none :: none :: none :: none :: none :: none :: none :: none :: none :: none :: none :: none :: none :: none :: none :: none :: none :: none :: none :: none :: none :: none :: none :: none :: none :: none :: none :: none :: none :: none :: none :: none :: none :: none :: none :: none :: none :: none :: none :: none :: none :: none :: none :: none :: none :: []) ts) 60 ?_ ?_
      · exact ⟨0, G, g, by omega, h4, by omega, hG, hA4, by simp [frC]⟩
      rintro n ts M5 ⟨j, G5, g5, hj, h5, hg5, hG5, hA5, hf⟩
      have m5 := hA5.1
      have hjw : ∀ h : j < 60, IntKind.i64.wrap ((j : Int) + 1) = ((j + 1 : Nat) : Int) := fun h => w64 (by omega) (by omega)
      obtain ⟨f, rfl⟩ := frC_open _ _ 0 hf
      clear hf
      (refine top_in ?_; simp -implicitDefEqProofs only [go_sem, -List.reduceReplicate, ↓L_gdZ_tt, ↓L_gdZ_tf, ↓L_gdZ_ft, ↓L_gdZ_ff, ↓T_and, ↓T_imp, ↓T_all, Nat.reduceBEq, Nat.reduceAdd, Nat.reduceSub, Nat.reduceMul, Nat.reduceLT, Nat.reduceLeDiff, Nat.reduceEqDiff, Int.reduceLT, Int.reduceLE, Int.reduceAdd, Int.reduceSub, Int.reduceMul, Int.reduceNeg, Int.reduceToNat, Int.reduceEq, Int.reduceNe, reduceIte, reduceCtorEq, BitVec.reduceOfInt, BitVec.reduceToNat, hxo, hxc]; try simp only [top_out])
      refine ⟨fun h1 => ⟨fun h2 => ?_, fun h2 => ?_⟩, fun h1 => ?_⟩
      · refine plays_ok p g5 _ to 1024 0 0 false x b M5 G5 _ h5 (by omega) (hx1 hA5 (fun n h1 h2 => by omega)) (fun d e e2 => by have := hG5 d e2; have := hxd d e; omega) (fun M6 G6 g6 r1 r2 r3 r4 hA6 => ?_)
        (refine top_in ?_; simp -implicitDefEqProofs only [go_sem, -List.reduceReplicate, ↓L_gdZ_tt, ↓L_gdZ_tf, ↓L_gdZ_ft, ↓L_gdZ_ff, ↓T_and, ↓T_imp, ↓T_all, Nat.reduceBEq, Nat.reduceAdd, Nat.reduceSub, Nat.reduceMul, Nat.reduceLT, Nat.reduceLeDiff, Nat.reduceEqDiff, Int.reduceLT, Int.reduceLE, Int.reduceAdd, Int.reduceSub, Int.reduceMul, Int.reduceNeg, Int.reduceToNat, Int.reduceEq, Int.reduceNe, reduceIte, reduceCtorEq, BitVec.reduceOfInt, BitVec.reduceToNat]; try simp only [top_out])
        refine ⟨n - 1, by omega, j + 1, G6, g6, by omega, r1, by omega, fun n e => ?_, Ag.trans hA5 hA6 (fun n hn e => hG5 n e), hjw (by omega)⟩
        rcases r4 n e with e3 | e3
        · exact hG5 n e3
        · omega
      all_goals
        refine punder_ok p g5 M5 G5 _ h5 (by omega) ?_
        (refine top_in ?_; simp -implicitDefEqProofs only [go_sem, -List.reduceReplicate, ↓L_gdZ_tt, ↓L_gdZ_tf, ↓L_gdZ_ft, ↓L_gdZ_ff, ↓T_and, ↓T_imp, ↓T_all, Nat.reduceBEq, Nat.reduceAdd, Nat.reduceSub, Nat.reduceMul, Nat.reduceLT, Nat.reduceLeDiff, Nat.reduceEqDiff, Int.reduceLT, Int.reduceLE, Int.reduceAdd, Int.reduceSub, Int.reduceMul, Int.reduceNeg, Int.reduceToNat, Int.reduceEq, Int.reduceNe, reduceIte, reduceCtorEq, BitVec.reduceOfInt, BitVec.reduceToNat]; try simp only [top_out])
        exact dropC_ag hM hA5 (fun n h1 h2 => by omega) rfl hK
  · obtain ⟨f, rfl⟩ := frC_open _ _ 0 hf
    clear hf
    (refine top_in ?_; simp -implicitDefEqProofs only [go_sem, -List.reduceReplicate, ↓L_gdZ_tt, ↓L_gdZ_tf, ↓L_gdZ_ft, ↓L_gdZ_ff, ↓T_and, ↓T_imp, ↓T_all, Nat.reduceBEq, Nat.reduceAdd, Nat.reduceSub, Nat.reduceMul, Nat.reduceLT, Nat.reduceLeDiff, Nat.reduceEqDiff, Int.reduceLT, Int.reduceLE, Int.reduceAdd, Int.reduceSub, Int.reduceMul, Int.reduceNeg, Int.reduceToNat, Int.reduceEq, Int.reduceNe, reduceIte, reduceCtorEq, BitVec.reduceOfInt, BitVec.reduceToNat, hg4']; try simp only [top_out])
    refine ⟨fun h => absurd h (by omega), fun _ => ?_⟩
    refine loop_code tabOK (by kernel_rfl) (fun n ts M' => ∃ (j : Nat) (G : Nat → Prop) (g : Int), j + n = 60 ∧ PairSt M' G p g ∧ g ≤ 1024 + 1030 * 60 + 1030 * j ∧ (∀ n, G n → M.length ≤ n) ∧ Ag (fun n => M.length ≤ n) M M' ∧ frC (some (.i .i64 to) :: some (x) :: none :: some (.i .i64 more) :: none :: none :: none :: none :: none :: some (.p p 0) :: none :: none :: none :: none :: none :: none :: some (.i .i64 j) :: none :: none :: none :: none :: none :: none :: none :: none :: none :: none :: none :: none :: none :: none :: none :: none :: none :: none :: none :: none :: none :: none :: none :: none :: none :: none :: none :: none :: none :: none :: none :: none :: none :: none :: none :: none :: none :: none :: none :: none :: none :: none :: none :: none :: none :: none :: none :: none :: none :: none :: none :: none :: none :: none :: none :: none :: none :: none :: none :: none :: none :: none :: none :: none :: none :: none :: none :: none :: none :: none :: none :: none :: none :: none :: none :: none :: none :: none :: none :: none :: none :: none :: none :: none :: none :: none :: none :: none :: none :: none :: none :: none :: []) ts) 60 ?_ ?_
    · exact ⟨0, G, g, by omega, h4, by omega, hG, hA4, by simp [frC]⟩
    rintro n ts M5 ⟨j, G5, g5, hj, h5, hg5, hG5, hA5, hf⟩
    have m5 := hA5.1
    have hjw : ∀ h : j < 60, IntKind.i64.wrap ((j : Int) + 1) = ((j + 1 : Nat) : Int) := fun h => w64 (by omega) (by omega)
    obtain ⟨f, rfl⟩ := frC_open _ _ 0 hf
    clear hf
    (refine top_in ?_; simp -implicitDefEqProofs only [go_sem, -List.reduceReplicate, ↓L_gdZ_tt, ↓L_gdZ_tf, ↓L_gdZ_ft, ↓L_gdZ_ff, ↓T_and, ↓T_imp, ↓T_all, Nat.reduceBEq, Nat.reduceAdd, Nat.reduceSub, Nat.reduceMul, Nat.reduceLT, Nat.reduceLeDiff, Nat.reduceEqDiff, Int.reduceLT, Int.reduceLE, Int.reduceAdd, Int.reduceSub, Int.reduceMul, Int.reduceNeg, Int.reduceToNat, Int.reduceEq, Int.reduceNe, reduceIte, reduceCtorEq, BitVec.reduceOfInt, BitVec.reduceToNat, hxo, hxc]; try simp only [top_out])
    refine ⟨fun h1 => ⟨fun h2 => ?_, fun h2 => ?_⟩, fun h1 => ?_⟩
    · refine plays_ok p g5 _ to 1024 0 0 false x b M5 G5 _ h5 (by omega) (hx1 hA5 (fun n h1 h2 => by omega)) (fun d e e2 => by have := hG5 d e2; have := hxd d e; omega) (fun M6 G6 g6 r1 r2 r3 r4 hA6 => ?_)
      (refine top_in ?_; simp -implicitDefEqProofs only [go_sem, -List.reduceReplicate, ↓L_gdZ_tt, ↓L_gdZ_tf, ↓L_gdZ_ft, ↓L_gdZ_ff, ↓T_and, ↓T_imp, ↓T_all, Nat.reduceBEq, Nat.reduceAdd, Nat.reduceSub, Nat.reduceMul, Nat.reduceLT, Nat.reduceLeDiff, Nat.reduceEqDiff, Int.reduceLT, Int.reduceLE, Int.reduceAdd, Int.reduceSub, Int.reduceMul, Int.reduceNeg, Int.reduceToNat, Int.reduceEq, Int.reduceNe, reduceIte, reduceCtorEq, BitVec.reduceOfInt, BitVec.reduceToNat]; try simp only [top_out])
      refine ⟨n - 1, by omega, j + 1, G6, g6, by omega, r1, by omega, fun n e => ?_, Ag.trans hA5 hA6 (fun n hn e => hG5 n e), hjw (by omega)⟩
      rcases r4 n e with e3 | e3
      · exact hG5 n e3
      · omega
    all_goals
      refine punder_ok p g5 M5 G5 _ h5 (by omega) ?_
      (refine top_in ?_; simp -implicitDefEqProofs only [go_sem, -List.reduceReplicate, ↓L_gdZ_tt, ↓L_gdZ_tf, ↓L_gdZ_ft, ↓L_gdZ_ff, ↓T_and, ↓T_imp, ↓T_all, Nat.reduceBEq, Nat.reduceAdd, Nat.reduceSub, Nat.reduceMul, Nat.reduceLT, Nat.reduceLeDiff, Nat.reduceEqDiff, Int.reduceLT, Int.reduceLE, Int.reduceAdd, Int.reduceSub, Int.reduceMul, Int.reduceNeg, Int.reduceToNat, Int.reduceEq, Int.reduceNe, reduceIte, reduceCtorEq, BitVec.reduceOfInt, BitVec.reduceToNat]; try simp only [top_out])
      exact dropC_ag hM hA5 (fun n h1 h2 => by omega) rfl hK
end Go.Proofs.Ytccnffjjahdneaa.Eng
