/- Flips undo one another. -/
import Derived.Test.YtccnffjjahdneaaN7
namespace Go.Proofs.Ytccnffjjahdneaa.Eng
open Go Go.RowKit
set_option linter.unusedSimpArgs false
set_option linter.unusedVariables false
set_option linter.unusedSimpArgs false
set_option linter.unusedVariables false

theorem tmod_range {a l : Int} (hl : 0 < l) : -l < a.tmod l ∧ a.tmod l < l := by
  have h1 := Int.tmod_lt_of_pos a hl
  refine ⟨?_, h1⟩
  have h2 := Int.tmod_lt_of_pos (-a) hl
  rw [Int.neg_tmod] at h2
  omega
theorem tmod_range0 {a l : Int} (hl : 0 < l) (ha : 0 ≤ a) : 0 ≤ a.tmod l := Int.tmod_nonneg l ha

/-- a byte turned -/
def flp (l : List (BitVec 8)) (i : Int) (x : Int) : List (BitVec 8) := l.set i.toNat (l.getD i.toNat 0#8 ^^^ BitVec.ofInt 8 x)
theorem flp_len (l : List (BitVec 8)) (i x : Int) : (flp l i x).length = l.length := by simp [flp]
theorem flp_app {l z : List (BitVec 8)} {i x : Int} (h : i.toNat < l.length) : (l ++ z).set i.toNat ((l ++ z).getD i.toNat 0#8 ^^^ BitVec.ofInt 8 x) = flp l i x ++ z := by
  have e1 : (l ++ z).getD i.toNat 0#8 = l.getD i.toNat 0#8 := by
    rw [List.getD_eq_getElem?_getD, List.getD_eq_getElem?_getD, List.getElem?_append_left h]
  rw [e1, List.set_append_left _ _ h]; rfl
theorem flp_get (l : List (BitVec 8)) (i x : Int) (j : Nat) : (flp l i x)[j]? = if i.toNat = j then (l[j]?).map (· ^^^ BitVec.ofInt 8 x) else l[j]? := by
  unfold flp
  rw [List.getElem?_set]
  split
  · rename_i h
    subst h
    split
    · rename_i h2
      rw [List.getD_eq_getElem?_getD, List.getElem?_eq_getElem h2]; rfl
    · rename_i h2
      rw [List.getElem?_eq_none (by omega)]; rfl
  · rfl
theorem flp_comm (l : List (BitVec 8)) (i k v w : Int) : flp (flp l i v) k w = flp (flp l k w) i v := by
  apply List.ext_getElem?
  intro j
  simp only [flp_get]
  split <;> split <;> cases l[j]? <;> simp [BitVec.xor_assoc, BitVec.xor_comm (BitVec.ofInt 8 v)]
theorem flp_flp (l : List (BitVec 8)) (i v : Int) : flp (flp l i v) i v = l := by
  apply List.ext_getElem?
  intro j
  simp only [flp_get]
  split <;> cases l[j]? <;> simp [BitVec.xor_assoc]
theorem flip_fl (nx m d cap len : Nat) (g no a x to : Int) (l z : List (BitVec 8)) (td : TypeId) (es : List (Int × SV × Nat)) (c : Nat) (ty : TypeId) (M : List Blk) (K : SV → List Blk → Prop)
    (h1 : M[nx]? = some (.row [.mp m, .i .i64 g] ty)) (h2 : M[m]? = some (.obj (.map es c))) (hlen : len = l.length) (hf : findE no es = some (flS to (.sl d 0 len cap))) (hd : M[d]? = some (.row (bS (l ++ z)) td))
    (ha0 : 0 ≤ a) (ha1 : a < len) (hx0 : 1 ≤ x) (hx1 : x ≤ 255) (hK : K (.i .i64 0) (M.set d (.row (bS (flp l a x ++ z)) td))) :
    callVC Try.prog 12 [.p nx 0, .i .i64 no, .i .i64 a, .i .i64 x] M K := by
  subst hlen
  exact flip_ok nx m d cap g no a x to l z td es c ty M K h1 h2 hf hd (fun h => absurd h (by omega)) (fun _ _ _ _ => hK)
theorem idx_range {p l : Int} (hl : 0 < l) (hl2 : l ≤ 140737488355000) : 0 ≤ (IntKind.i64.wrap (p.tmod l + l)).tmod l ∧ (IntKind.i64.wrap (p.tmod l + l)).tmod l < l := by
  have h := tmod_range (a := p) hl
  rw [w64 (by omega) (by omega)]
  exact ⟨tmod_range0 hl (by omega), (tmod_range hl).2⟩

set_option maxHeartbeats 4000000 in
set_option maxRecDepth 20000 in
theorem flips_law (nb cap : Nat) (b : List (BitVec 8)) (p q v w : Int) (M : List Blk) (K : SV → List Blk → Prop) (hb : BAt M nb 0 b) (hl : b.length ≤ 140737488355000) (hK : K (.b true) M) :
    callVC Try.prog 3 [.sl nb 0 b.length cap, .i .i64 p, .i .i64 q, .i .i64 v, .i .i64 w] M K := by
  refine fn_rule tabOK Try.func3 rfl Try.call3 (by kernel_rfl) (fun hM => ?_)
  (refine top_in ?_; simp -implicitDefEqProofs only [Try.ntmps3, Try.results3, go_sem, -List.reduceReplicate, ↓L_gdZ_tt, ↓L_gdZ_tf, ↓L_gdZ_ft, ↓L_gdZ_ff, ↓T_and, ↓T_imp, ↓T_all, Nat.reduceBEq, Nat.reduceAdd, Nat.reduceSub, Nat.reduceMul, Nat.reduceLT, Nat.reduceLeDiff, Nat.reduceEqDiff, Int.reduceLT, Int.reduceLE, Int.reduceAdd, Int.reduceSub, Int.reduceMul, Int.reduceNeg, Int.reduceToNat, Int.reduceEq, Int.reduceNe, reduceIte, reduceCtorEq, BitVec.reduceOfInt, BitVec.reduceToNat]; try simp only [top_out])
  refine known_ok _ _ ?_
  (refine top_in ?_; simp -implicitDefEqProofs only [go_sem, -List.reduceReplicate, ↓L_gdZ_tt, ↓L_gdZ_tf, ↓L_gdZ_ft, ↓L_gdZ_ff, ↓T_and, ↓T_imp, ↓T_all, Nat.reduceBEq, Nat.reduceAdd, Nat.reduceSub, Nat.reduceMul, Nat.reduceLT, Nat.reduceLeDiff, Nat.reduceEqDiff, Int.reduceLT, Int.reduceLE, Int.reduceAdd, Int.reduceSub, Int.reduceMul, Int.reduceNeg, Int.reduceToNat, Int.reduceEq, Int.reduceNe, reduceIte, reduceCtorEq, BitVec.reduceOfInt, BitVec.reduceToNat]; try simp only [top_out])
  refine new_ok _ _ ?_
  have hn1 := hb.lt
  (refine top_in ?_; simp -implicitDefEqProofs only [go_sem, -List.reduceReplicate, ↓L_gdZ_tt, ↓L_gdZ_tf, ↓L_gdZ_ft, ↓L_gdZ_ff, ↓T_and, ↓T_imp, ↓T_all, Nat.reduceBEq, Nat.reduceAdd, Nat.reduceSub, Nat.reduceMul, Nat.reduceLT, Nat.reduceLeDiff, Nat.reduceEqDiff, Int.reduceLT, Int.reduceLE, Int.reduceAdd, Int.reduceSub, Int.reduceMul, Int.reduceNeg, Int.reduceToNat, Int.reduceEq, Int.reduceNe, reduceIte, reduceCtorEq, BitVec.reduceOfInt, BitVec.reduceToNat]; try simp only [top_out])
  have hd : dropC M.length (.b true) (M ++ [.obj (.map [] 0), .row [.mp M.length, .i .i64 0] 63]) K := dropC_append hM rfl hK
  refine ⟨fun h1 => ⟨fun h2 => ⟨fun h3 => ⟨fun h4 => ⟨fun h5 => ⟨fun h6 => hd, fun h6 => ?_⟩, fun _ => hd⟩, fun _ => hd⟩, fun _ => hd⟩, fun _ => hd⟩, fun _ => hd⟩
  have hb0 : ¬ (b.length : Int) = 0 := by simpa using h1
  refine ⟨hb0, hb0, hb0, hb0, ?_⟩
  obtain ⟨i0, i1⟩ := idx_range (p := p) (l := b.length) (by omega) (by omega)
  obtain ⟨k0, k1⟩ := idx_range (p := q) (l := b.length) (by omega) (by omega)
  generalize (IntKind.i64.wrap (p.tmod b.length + b.length)).tmod b.length = i at i0 i1 ⊢
  generalize (IntKind.i64.wrap (q.tmod b.length + b.length)).tmod b.length = k at k0 k1 ⊢
  clear hd
  have hv : liveN M nb = true := by
    have hlen : 0 < (cellsAt M nb).length := by have := hb.len; omega
    unfold cellsAt at hlen
    unfold liveN
    cases hB : M[nb]? with
    | none => simp [hB] at hlen
    | some B => cases B <;> simp [hB] at hlen ⊢ <;> exact hlen
  refine send_ok (M.length + 1) M.length 0 3 nb 0 cap b [] 0 63 _ _ (by rw [get_app]; rfl) (by rw [get_app0]; rfl) (by decide) (by decide) (by decide) rfl hb.app (live_app hv hn1) (by omega) (by omega) (fun z1 t1 => ?_)
  (refine top_in ?_; simp -implicitDefEqProofs only [go_sem, -List.reduceReplicate, ↓L_gdZ_tt, ↓L_gdZ_tf, ↓L_gdZ_ft, ↓L_gdZ_ff, ↓T_and, ↓T_imp, ↓T_all, Nat.reduceBEq, Nat.reduceAdd, Nat.reduceSub, Nat.reduceMul, Nat.reduceLT, Nat.reduceLeDiff, Nat.reduceEqDiff, Int.reduceLT, Int.reduceLE, Int.reduceAdd, Int.reduceSub, Int.reduceMul, Int.reduceNeg, Int.reduceToNat, Int.reduceEq, Int.reduceNe, reduceIte, reduceCtorEq, BitVec.reduceOfInt, BitVec.reduceToNat]; try simp only [top_out])
  refine send_ok (M.length + 1) M.length 1 4 nb 0 cap b _ 1 63 _ _ (by rw [get_app]; rfl) (by rw [get_app0]; rfl) (by simp) (by decide) (by decide) rfl hb.app (live_app hv hn1) (by omega) (by omega) (fun z2 t2 => ?_)
  (refine top_in ?_; simp -implicitDefEqProofs only [go_sem, -List.reduceReplicate, ↓L_gdZ_tt, ↓L_gdZ_tf, ↓L_gdZ_ft, ↓L_gdZ_ff, ↓T_and, ↓T_imp, ↓T_all, Nat.reduceBEq, Nat.reduceAdd, Nat.reduceSub, Nat.reduceMul, Nat.reduceLT, Nat.reduceLeDiff, Nat.reduceEqDiff, Int.reduceLT, Int.reduceLE, Int.reduceAdd, Int.reduceSub, Int.reduceMul, Int.reduceNeg, Int.reduceToNat, Int.reduceEq, Int.reduceNe, reduceIte, reduceCtorEq, BitVec.reduceOfInt, BitVec.reduceToNat]; try simp only [top_out])
  refine flip_fl (M.length + 1) M.length (M.length + 2) (b.length + z1.length) b.length 2 1 i v 3 b z1 t1 _ 2 63 _ _ (by rw [get_app]; rfl) (by rw [get_app0]; rfl) rfl rfl (by rw [get_app]; rfl) (by omega) (by omega) (by omega) (by omega) ?_
  (refine top_in ?_; simp -implicitDefEqProofs only [go_sem, -List.reduceReplicate, ↓L_gdZ_tt, ↓L_gdZ_tf, ↓L_gdZ_ft, ↓L_gdZ_ff, ↓T_and, ↓T_imp, ↓T_all, Nat.reduceBEq, Nat.reduceAdd, Nat.reduceSub, Nat.reduceMul, Nat.reduceLT, Nat.reduceLeDiff, Nat.reduceEqDiff, Int.reduceLT, Int.reduceLE, Int.reduceAdd, Int.reduceSub, Int.reduceMul, Int.reduceNeg, Int.reduceToNat, Int.reduceEq, Int.reduceNe, reduceIte, reduceCtorEq, BitVec.reduceOfInt, BitVec.reduceToNat]; try simp only [top_out])
  refine copy_ok (M.length + 1) M.length (M.length + 2) (b.length + z1.length) 2 1 3 (flp b i v) _ 2 63 _ _ (by rw [get_app]; rfl) (by rw [get_app0]; rfl) (by simp) (by decide) (by decide) rfl (by rw [flp_len]; rfl) (BAt.row (z := z1) (ty := t1) (by rw [get_app]; rfl)) (by rw [liveN_eq, get_app]; simp [liveB_row, bS_length, flp_len]; omega) (by omega) (by rw [flp_len]; omega) (fun z3 t3 => ?_)
  rw [flp_len]
  (refine top_in ?_; simp -implicitDefEqProofs only [go_sem, -List.reduceReplicate, ↓L_gdZ_tt, ↓L_gdZ_tf, ↓L_gdZ_ft, ↓L_gdZ_ff, ↓T_and, ↓T_imp, ↓T_all, Nat.reduceBEq, Nat.reduceAdd, Nat.reduceSub, Nat.reduceMul, Nat.reduceLT, Nat.reduceLeDiff, Nat.reduceEqDiff, Int.reduceLT, Int.reduceLE, Int.reduceAdd, Int.reduceSub, Int.reduceMul, Int.reduceNeg, Int.reduceToNat, Int.reduceEq, Int.reduceNe, reduceIte, reduceCtorEq, BitVec.reduceOfInt, BitVec.reduceToNat]; try simp only [top_out])
  refine flip_fl (M.length + 1) M.length (M.length + 2) (b.length + z1.length) b.length 3 1 k w 3 (flp b i v) z1 t1 _ 3 63 _ _ (by rw [get_app]; rfl) (by rw [get_app0]; rfl) (flp_len _ _ _).symm rfl (by rw [get_app]; rfl) (by omega) (by omega) (by omega) (by omega) ?_
  (refine top_in ?_; simp -implicitDefEqProofs only [go_sem, -List.reduceReplicate, ↓L_gdZ_tt, ↓L_gdZ_tf, ↓L_gdZ_ft, ↓L_gdZ_ff, ↓T_and, ↓T_imp, ↓T_all, Nat.reduceBEq, Nat.reduceAdd, Nat.reduceSub, Nat.reduceMul, Nat.reduceLT, Nat.reduceLeDiff, Nat.reduceEqDiff, Int.reduceLT, Int.reduceLE, Int.reduceAdd, Int.reduceSub, Int.reduceMul, Int.reduceNeg, Int.reduceToNat, Int.reduceEq, Int.reduceNe, reduceIte, reduceCtorEq, BitVec.reduceOfInt, BitVec.reduceToNat]; try simp only [top_out])
  refine flip_fl (M.length + 1) M.length (M.length + 3) (b.length + z2.length) b.length 3 2 k w 4 b z2 t2 _ 3 63 _ _ (by rw [get_app]; rfl) (by rw [get_app0]; rfl) rfl rfl (by rw [get_app]; rfl) (by omega) (by omega) (by omega) (by omega) ?_
  (refine top_in ?_; simp -implicitDefEqProofs only [go_sem, -List.reduceReplicate, ↓L_gdZ_tt, ↓L_gdZ_tf, ↓L_gdZ_ft, ↓L_gdZ_ff, ↓T_and, ↓T_imp, ↓T_all, Nat.reduceBEq, Nat.reduceAdd, Nat.reduceSub, Nat.reduceMul, Nat.reduceLT, Nat.reduceLeDiff, Nat.reduceEqDiff, Int.reduceLT, Int.reduceLE, Int.reduceAdd, Int.reduceSub, Int.reduceMul, Int.reduceNeg, Int.reduceToNat, Int.reduceEq, Int.reduceNe, reduceIte, reduceCtorEq, BitVec.reduceOfInt, BitVec.reduceToNat]; try simp only [top_out])
  refine flip_fl (M.length + 1) M.length (M.length + 3) (b.length + z2.length) b.length 3 2 i v 4 (flp b k w) z2 t2 _ 3 63 _ _ (by rw [get_app]; rfl) (by rw [get_app0]; rfl) (flp_len _ _ _).symm rfl (by rw [get_app]; rfl) (by omega) (by omega) (by omega) (by omega) ?_
  (refine top_in ?_; simp -implicitDefEqProofs only [go_sem, -List.reduceReplicate, ↓L_gdZ_tt, ↓L_gdZ_tf, ↓L_gdZ_ft, ↓L_gdZ_ff, ↓T_and, ↓T_imp, ↓T_all, Nat.reduceBEq, Nat.reduceAdd, Nat.reduceSub, Nat.reduceMul, Nat.reduceLT, Nat.reduceLeDiff, Nat.reduceEqDiff, Int.reduceLT, Int.reduceLE, Int.reduceAdd, Int.reduceSub, Int.reduceMul, Int.reduceNeg, Int.reduceToNat, Int.reduceEq, Int.reduceNe, reduceIte, reduceCtorEq, BitVec.reduceOfInt, BitVec.reduceToNat]; try simp only [top_out])
  refine take_ok (M.length + 1) M.length 3 1 3 (.sl (M.length + 2) 0 b.length (b.length + z1.length)) _ 3 63 _ _ (by rw [get_app]; rfl) (by rw [get_app0]; rfl) rfl rfl (by simp [SV.lt]) ?_
  (refine top_in ?_; simp -implicitDefEqProofs only [go_sem, -List.reduceReplicate, ↓L_gdZ_tt, ↓L_gdZ_tf, ↓L_gdZ_ft, ↓L_gdZ_ff, ↓T_and, ↓T_imp, ↓T_all, Nat.reduceBEq, Nat.reduceAdd, Nat.reduceSub, Nat.reduceMul, Nat.reduceLT, Nat.reduceLeDiff, Nat.reduceEqDiff, Int.reduceLT, Int.reduceLE, Int.reduceAdd, Int.reduceSub, Int.reduceMul, Int.reduceNeg, Int.reduceToNat, Int.reduceEq, Int.reduceNe, reduceIte, reduceCtorEq, BitVec.reduceOfInt, BitVec.reduceToNat]; try simp only [top_out])
  refine take_ok (M.length + 1) M.length 3 2 4 (.sl (M.length + 3) 0 b.length (b.length + z2.length)) _ 3 63 _ _ (by rw [get_app]; rfl) (by rw [get_app0]; rfl) rfl rfl (by simp [SV.lt]) ?_
  (refine top_in ?_; simp -implicitDefEqProofs only [go_sem, -List.reduceReplicate, ↓L_gdZ_tt, ↓L_gdZ_tf, ↓L_gdZ_ft, ↓L_gdZ_ff, ↓T_and, ↓T_imp, ↓T_all, Nat.reduceBEq, Nat.reduceAdd, Nat.reduceSub, Nat.reduceMul, Nat.reduceLT, Nat.reduceLeDiff, Nat.reduceEqDiff, Int.reduceLT, Int.reduceLE, Int.reduceAdd, Int.reduceSub, Int.reduceMul, Int.reduceNeg, Int.reduceToNat, Int.reduceEq, Int.reduceNe, reduceIte, reduceCtorEq, BitVec.reduceOfInt, BitVec.reduceToNat]; try simp only [top_out])
  refine take_ok (M.length + 1) M.length 3 3 3 (.sl (M.length + 5) 0 b.length (b.length + z3.length)) _ 3 63 _ _ (by rw [get_app]; rfl) (by rw [get_app0]; rfl) rfl rfl (by simp [SV.lt]) ?_
  (refine top_in ?_; simp -implicitDefEqProofs only [go_sem, -List.reduceReplicate, ↓L_gdZ_tt, ↓L_gdZ_tf, ↓L_gdZ_ft, ↓L_gdZ_ff, ↓T_and, ↓T_imp, ↓T_all, Nat.reduceBEq, Nat.reduceAdd, Nat.reduceSub, Nat.reduceMul, Nat.reduceLT, Nat.reduceLeDiff, Nat.reduceEqDiff, Int.reduceLT, Int.reduceLE, Int.reduceAdd, Int.reduceSub, Int.reduceMul, Int.reduceNeg, Int.reduceToNat, Int.reduceEq, Int.reduceNe, reduceIte, reduceCtorEq, BitVec.reduceOfInt, BitVec.reduceToNat]; try simp only [top_out])
  refine bytes_ok2 nb 0 cap b.length b _ _ hb.app (by omega) rfl (fun z4 t4 => ?_)
  (refine top_in ?_; simp -implicitDefEqProofs only [go_sem, -List.reduceReplicate, ↓L_gdZ_tt, ↓L_gdZ_tf, ↓L_gdZ_ft, ↓L_gdZ_ff, ↓T_and, ↓T_imp, ↓T_all, Nat.reduceBEq, Nat.reduceAdd, Nat.reduceSub, Nat.reduceMul, Nat.reduceLT, Nat.reduceLeDiff, Nat.reduceEqDiff, Int.reduceLT, Int.reduceLE, Int.reduceAdd, Int.reduceSub, Int.reduceMul, Int.reduceNeg, Int.reduceToNat, Int.reduceEq, Int.reduceNe, reduceIte, reduceCtorEq, BitVec.reduceOfInt, BitVec.reduceToNat]; try simp only [top_out])
  have hi : i.toNat < b.length := by omega
  have hk : k.toNat < b.length := by omega
  refine ⟨by omega, by omega, by omega, by omega, by omega, by omega, by omega, by omega, ?_⟩
  rw [flp_app hi]
  refine same_ok2 (M.length + 5) 0 _ (M.length + 9) 0 _ b.length b.length (flp b i v) (flp b i v) _ _ (BAt.row (z := z3) (ty := t3) (by rw [get_app]; rfl)) (BAt.row (z := z4) (ty := t4) (by rw [get_app]; rfl)) (by rw [flp_len]; omega) (by rw [flp_len]; omega) (flp_len _ _ _).symm (flp_len _ _ _).symm ?_
  rw [beq_self_eq_true]
  (refine top_in ?_; simp -implicitDefEqProofs only [go_sem, -List.reduceReplicate, ↓L_gdZ_tt, ↓L_gdZ_tf, ↓L_gdZ_ft, ↓L_gdZ_ff, ↓T_and, ↓T_imp, ↓T_all, Nat.reduceBEq, Nat.reduceAdd, Nat.reduceSub, Nat.reduceMul, Nat.reduceLT, Nat.reduceLeDiff, Nat.reduceEqDiff, Int.reduceLT, Int.reduceLE, Int.reduceAdd, Int.reduceSub, Int.reduceMul, Int.reduceNeg, Int.reduceToNat, Int.reduceEq, Int.reduceNe, reduceIte, reduceCtorEq, BitVec.reduceOfInt, BitVec.reduceToNat]; try simp only [top_out])
  refine ⟨by omega, by omega, by rw [flp_len]; omega, by rw [flp_len]; omega, by omega, by omega, by rw [flp_len]; omega, by rw [flp_len]; omega, ?_⟩
  rw [flp_app (by rw [flp_len]; exact hk)]
  refine same_ok2 (M.length + 2) 0 _ (M.length + 9) 0 _ b.length b.length (flp (flp b i v) k w) (flp (flp b i v) k w) _ _ (BAt.row (z := z1) (ty := t1) (by rw [get_app]; rfl)) (BAt.row (z := z4) (ty := t4) (by rw [get_app]; rfl)) (by rw [flp_len, flp_len]; omega) (by rw [flp_len, flp_len]; omega) (by rw [flp_len, flp_len]) (by rw [flp_len, flp_len]) ?_
  rw [beq_self_eq_true]
  (refine top_in ?_; simp -implicitDefEqProofs only [go_sem, -List.reduceReplicate, ↓L_gdZ_tt, ↓L_gdZ_tf, ↓L_gdZ_ft, ↓L_gdZ_ff, ↓T_and, ↓T_imp, ↓T_all, Nat.reduceBEq, Nat.reduceAdd, Nat.reduceSub, Nat.reduceMul, Nat.reduceLT, Nat.reduceLeDiff, Nat.reduceEqDiff, Int.reduceLT, Int.reduceLE, Int.reduceAdd, Int.reduceSub, Int.reduceMul, Int.reduceNeg, Int.reduceToNat, Int.reduceEq, Int.reduceNe, reduceIte, reduceCtorEq, BitVec.reduceOfInt, BitVec.reduceToNat]; try simp only [top_out])
  refine same_ok2 (M.length + 2) 0 _ (M.length + 3) 0 _ b.length b.length (flp (flp b i v) k w) (flp (flp b k w) i v) _ _ (BAt.row (z := z1) (ty := t1) (by rw [get_app]; rfl)) (BAt.row (z := z2) (ty := t2) (by rw [get_app]; rfl)) (by rw [flp_len, flp_len]; omega) (by rw [flp_len, flp_len]; omega) (by rw [flp_len, flp_len]) (by rw [flp_len, flp_len]) ?_
  rw [flp_comm b i k v w, beq_self_eq_true]
  (refine top_in ?_; simp -implicitDefEqProofs only [go_sem, -List.reduceReplicate, ↓L_gdZ_tt, ↓L_gdZ_tf, ↓L_gdZ_ft, ↓L_gdZ_ff, ↓T_and, ↓T_imp, ↓T_all, Nat.reduceBEq, Nat.reduceAdd, Nat.reduceSub, Nat.reduceMul, Nat.reduceLT, Nat.reduceLeDiff, Nat.reduceEqDiff, Int.reduceLT, Int.reduceLE, Int.reduceAdd, Int.reduceSub, Int.reduceMul, Int.reduceNeg, Int.reduceToNat, Int.reduceEq, Int.reduceNe, reduceIte, reduceCtorEq, BitVec.reduceOfInt, BitVec.reduceToNat]; try simp only [top_out])
  refine send_ok (M.length + 1) M.length 3 5 nb 0 cap b [] 3 63 _ _ (by rw [get_app]; rfl) (by rw [get_app0]; rfl) (by simp) (by decide) (by decide) rfl hb.app (live_app hv hn1) (by omega) (by omega) (fun z5 t5 => ?_)
  (refine top_in ?_; simp -implicitDefEqProofs only [go_sem, -List.reduceReplicate, ↓L_gdZ_tt, ↓L_gdZ_tf, ↓L_gdZ_ft, ↓L_gdZ_ff, ↓T_and, ↓T_imp, ↓T_all, Nat.reduceBEq, Nat.reduceAdd, Nat.reduceSub, Nat.reduceMul, Nat.reduceLT, Nat.reduceLeDiff, Nat.reduceEqDiff, Int.reduceLT, Int.reduceLE, Int.reduceAdd, Int.reduceSub, Int.reduceMul, Int.reduceNeg, Int.reduceToNat, Int.reduceEq, Int.reduceNe, reduceIte, reduceCtorEq, BitVec.reduceOfInt, BitVec.reduceToNat]; try simp only [top_out])
  refine flip_fl (M.length + 1) M.length (M.length + 10) (b.length + z5.length) b.length 4 4 i v 5 b z5 t5 _ 4 63 _ _ (by rw [get_app]; rfl) (by rw [get_app0]; rfl) rfl rfl (by rw [get_app]; rfl) (by omega) (by omega) (by omega) (by omega) ?_
  (refine top_in ?_; simp -implicitDefEqProofs only [go_sem, -List.reduceReplicate, ↓L_gdZ_tt, ↓L_gdZ_tf, ↓L_gdZ_ft, ↓L_gdZ_ff, ↓T_and, ↓T_imp, ↓T_all, Nat.reduceBEq, Nat.reduceAdd, Nat.reduceSub, Nat.reduceMul, Nat.reduceLT, Nat.reduceLeDiff, Nat.reduceEqDiff, Int.reduceLT, Int.reduceLE, Int.reduceAdd, Int.reduceSub, Int.reduceMul, Int.reduceNeg, Int.reduceToNat, Int.reduceEq, Int.reduceNe, reduceIte, reduceCtorEq, BitVec.reduceOfInt, BitVec.reduceToNat]; try simp only [top_out])
  refine flip_fl (M.length + 1) M.length (M.length + 10) (b.length + z5.length) b.length 4 4 i v 5 (flp b i v) z5 t5 _ 4 63 _ _ (by rw [get_app]; rfl) (by rw [get_app0]; rfl) (flp_len _ _ _).symm rfl (by rw [get_app]; rfl) (by omega) (by omega) (by omega) (by omega) ?_
  rw [flp_flp]
  (refine top_in ?_; simp -implicitDefEqProofs only [go_sem, -List.reduceReplicate, ↓L_gdZ_tt, ↓L_gdZ_tf, ↓L_gdZ_ft, ↓L_gdZ_ff, ↓T_and, ↓T_imp, ↓T_all, Nat.reduceBEq, Nat.reduceAdd, Nat.reduceSub, Nat.reduceMul, Nat.reduceLT, Nat.reduceLeDiff, Nat.reduceEqDiff, Int.reduceLT, Int.reduceLE, Int.reduceAdd, Int.reduceSub, Int.reduceMul, Int.reduceNeg, Int.reduceToNat, Int.reduceEq, Int.reduceNe, reduceIte, reduceCtorEq, BitVec.reduceOfInt, BitVec.reduceToNat]; try simp only [top_out])
  refine take_ok (M.length + 1) M.length 4 4 5 (.sl (M.length + 10) 0 b.length (b.length + z5.length)) _ 4 63 _ _ (by rw [get_app]; rfl) (by rw [get_app0]; rfl) rfl rfl (by simp [SV.lt]) ?_
  (refine top_in ?_; simp -implicitDefEqProofs only [go_sem, -List.reduceReplicate, ↓L_gdZ_tt, ↓L_gdZ_tf, ↓L_gdZ_ft, ↓L_gdZ_ff, ↓T_and, ↓T_imp, ↓T_all, Nat.reduceBEq, Nat.reduceAdd, Nat.reduceSub, Nat.reduceMul, Nat.reduceLT, Nat.reduceLeDiff, Nat.reduceEqDiff, Int.reduceLT, Int.reduceLE, Int.reduceAdd, Int.reduceSub, Int.reduceMul, Int.reduceNeg, Int.reduceToNat, Int.reduceEq, Int.reduceNe, reduceIte, reduceCtorEq, BitVec.reduceOfInt, BitVec.reduceToNat]; try simp only [top_out])
  refine same_ok2 (M.length + 10) 0 _ nb 0 cap b.length b.length b b _ _ (BAt.row (z := z5) (ty := t5) (by rw [get_app]; rfl)) hb.app (by omega) (by omega) rfl rfl ?_
  rw [beq_self_eq_true]
  (refine top_in ?_; simp -implicitDefEqProofs only [go_sem, -List.reduceReplicate, ↓L_gdZ_tt, ↓L_gdZ_tf, ↓L_gdZ_ft, ↓L_gdZ_ff, ↓T_and, ↓T_imp, ↓T_all, Nat.reduceBEq, Nat.reduceAdd, Nat.reduceSub, Nat.reduceMul, Nat.reduceLT, Nat.reduceLeDiff, Nat.reduceEqDiff, Int.reduceLT, Int.reduceLE, Int.reduceAdd, Int.reduceSub, Int.reduceMul, Int.reduceNeg, Int.reduceToNat, Int.reduceEq, Int.reduceNe, reduceIte, reduceCtorEq, BitVec.reduceOfInt, BitVec.reduceToNat]; try simp only [top_out])
  refine num_ok 0 _ _ ?_
  (refine top_in ?_; simp -implicitDefEqProofs only [go_sem, -List.reduceReplicate, ↓L_gdZ_tt, ↓L_gdZ_tf, ↓L_gdZ_ft, ↓L_gdZ_ff, ↓T_and, ↓T_imp, ↓T_all, Nat.reduceBEq, Nat.reduceAdd, Nat.reduceSub, Nat.reduceMul, Nat.reduceLT, Nat.reduceLeDiff, Nat.reduceEqDiff, Int.reduceLT, Int.reduceLE, Int.reduceAdd, Int.reduceSub, Int.reduceMul, Int.reduceNeg, Int.reduceToNat, Int.reduceEq, Int.reduceNe, reduceIte, reduceCtorEq, BitVec.reduceOfInt, BitVec.reduceToNat]; try simp only [top_out])
  refine num_ok 0 _ _ ?_
  (refine top_in ?_; simp -implicitDefEqProofs only [go_sem, -List.reduceReplicate, ↓L_gdZ_tt, ↓L_gdZ_tf, ↓L_gdZ_ft, ↓L_gdZ_ff, ↓T_and, ↓T_imp, ↓T_all, Nat.reduceBEq, Nat.reduceAdd, Nat.reduceSub, Nat.reduceMul, Nat.reduceLT, Nat.reduceLeDiff, Nat.reduceEqDiff, Int.reduceLT, Int.reduceLE, Int.reduceAdd, Int.reduceSub, Int.reduceMul, Int.reduceNeg, Int.reduceToNat, Int.reduceEq, Int.reduceNe, reduceIte, reduceCtorEq, BitVec.reduceOfInt, BitVec.reduceToNat]; try simp only [top_out])
  refine num_ok 0 _ _ ?_
  (refine top_in ?_; simp -implicitDefEqProofs only [go_sem, -List.reduceReplicate, ↓L_gdZ_tt, ↓L_gdZ_tf, ↓L_gdZ_ft, ↓L_gdZ_ff, ↓T_and, ↓T_imp, ↓T_all, Nat.reduceBEq, Nat.reduceAdd, Nat.reduceSub, Nat.reduceMul, Nat.reduceLT, Nat.reduceLeDiff, Nat.reduceEqDiff, Int.reduceLT, Int.reduceLE, Int.reduceAdd, Int.reduceSub, Int.reduceMul, Int.reduceNeg, Int.reduceToNat, Int.reduceEq, Int.reduceNe, reduceIte, reduceCtorEq, BitVec.reduceOfInt, BitVec.reduceToNat]; try simp only [top_out])
  exact dropC_append hM rfl hK
end Go.Proofs.Ytccnffjjahdneaa.Eng
