/- Flights held against flights. -/
import Derived.Test.YtccnffjjahdneaaN5
namespace Go.Proofs.Ytccnffjjahdneaa.Eng
open Go Go.RowKit
set_option linter.unusedSimpArgs false
set_option linter.unusedVariables false
set_option linter.unusedSimpArgs false
set_option linter.unusedVariables false

/-- a slice of bytes, or nil -/
def BytesAt (M : List Blk) (x : SV) (l : List (BitVec 8)) : Prop := l.length ≤ 140737488355000 ∧ ((x = .sn ∧ l = []) ∨ ∃ n cap, x = .sl n 0 l.length cap ∧ BAt M n 0 l)
theorem BytesAt.app {M L : List Blk} {x : SV} {l : List (BitVec 8)} (h : BytesAt M x l) : BytesAt (M ++ L) x l := by
  obtain ⟨h0, h | ⟨n, c, h1, h2⟩⟩ := h
  · exact ⟨h0, .inl h⟩
  · exact ⟨h0, .inr ⟨n, c, h1, h2.app⟩⟩
theorem BytesAt.one {M : List Blk} {x : SV} {l : List (BitVec 8)} (h : BytesAt M x l) : x.one = true := by
  obtain ⟨_, ⟨rfl, _⟩ | ⟨n, c, rfl, _⟩⟩ := h <;> rfl

theorem same_any (M : List Blk) (x y : SV) (a b : List (BitVec 8)) (K : SV → List Blk → Prop) (ha : BytesAt M x a) (hb : BytesAt M y b) (hK : K (.b (a == b)) M) :
    callVC Try.prog 16 [x, y] M K := by
  have hn : ∀ L : List Blk, BAt (M ++ Blk.row [] 0 :: L) M.length 0 [] := fun L => BAt.row (z := []) (ty := 0) (by rw [get_app0]; rfl)
  obtain ⟨la, ⟨rfl, rfl⟩ | ⟨n, c, rfl, h1⟩⟩ := ha <;> obtain ⟨lb, ⟨rfl, rfl⟩ | ⟨n', c', rfl, h2⟩⟩ := hb
  · refine callVC_drop (callVC_names (fun hM => ?_) Try.call16)
    refine call_nil (a := []) 0 ?_
    refine call_nil (a := [.sl M.length 0 0 0]) (b := []) 0 ?_
    refine same_ok2 M.length 0 0 (M ++ [Blk.row [] 0]).length 0 0 0 0 [] [] _ _ (hn []).app (BAt.row (z := []) (ty := 0) (by rw [get_app0]; rfl)) (by simp) (by simp) rfl rfl ?_
    rw [List.append_assoc]
    exact dropC_append hM rfl hK
  · refine callVC_drop (callVC_names (fun hM => ?_) Try.call16)
    refine call_nil (a := []) 0 ?_
    refine same_ok2 M.length 0 0 n' 0 c' 0 b.length [] b _ _ (hn []) h2.app (by simp) (by omega) rfl rfl ?_
    exact dropC_append hM rfl hK
  · refine callVC_drop (callVC_names (fun hM => ?_) Try.call16)
    refine call_nil (a := [.sl n 0 a.length c]) (b := []) 0 ?_
    refine same_ok2 n 0 c M.length 0 0 a.length 0 a [] _ _ h1.app (hn []) (by omega) (by simp) rfl rfl ?_
    exact dropC_append hM rfl hK
  · exact same_ok2 n 0 c n' 0 c' a.length b.length a b _ _ h1 h2 (by omega) (by omega) rfl rfl hK

/-- a flight's value -/
def fgS (no to : Int) (x : SV) : SV := .agg [.i .i64 no, .i .i64 to, x]
def sameFB (no to : Int) (a : List (BitVec 8)) (no' to' : Int) (b : List (BitVec 8)) : Bool := (a == b) && (no == no') && (to == to')
theorem sameFlight_ok (M : List Blk) (no to no' to' : Int) (x y : SV) (a b : List (BitVec 8)) (K : SV → List Blk → Prop) (ha : BytesAt M x a) (hb : BytesAt M y b) (hK : K (.b (sameFB no to a no' to' b)) M) :
    callVC Try.prog 26 [fgS no to x, fgS no' to' y] M K := by
  have h1 := ha.one
  have h2 := hb.one
  unfold fgS
  refine fn_rule tabOK Try.func26 rfl Try.call26 (by kernel_rfl) (fun hM => ?_)
  (refine top_in ?_; simp -implicitDefEqProofs only [Try.ntmps26, Try.results26, go_sem, -List.reduceReplicate, ↓L_gdZ_tt, ↓L_gdZ_tf, ↓L_gdZ_ft, ↓L_gdZ_ff, ↓T_and, ↓T_imp, ↓T_all, Nat.reduceBEq, Nat.reduceAdd, Nat.reduceSub, Nat.reduceMul, Nat.reduceLT, Nat.reduceLeDiff, Nat.reduceEqDiff, Int.reduceLT, Int.reduceLE, Int.reduceAdd, Int.reduceSub, Int.reduceMul, Int.reduceNeg, Int.reduceToNat, Int.reduceEq, Int.reduceNe, reduceIte, reduceCtorEq, BitVec.reduceOfInt, BitVec.reduceToNat, h1, h2]; try simp only [top_out])
  refine same_any _ x y a b _ ha.app hb.app ?_
  unfold sameFB at hK
  (refine top_in ?_; simp -implicitDefEqProofs only [go_sem, -List.reduceReplicate, ↓L_gdZ_tt, ↓L_gdZ_tf, ↓L_gdZ_ft, ↓L_gdZ_ff, ↓T_and, ↓T_imp, ↓T_all, Nat.reduceBEq, Nat.reduceAdd, Nat.reduceSub, Nat.reduceMul, Nat.reduceLT, Nat.reduceLeDiff, Nat.reduceEqDiff, Int.reduceLT, Int.reduceLE, Int.reduceAdd, Int.reduceSub, Int.reduceMul, Int.reduceNeg, Int.reduceToNat, Int.reduceEq, Int.reduceNe, reduceIte, reduceCtorEq, BitVec.reduceOfInt, BitVec.reduceToNat]; try simp only [top_out])
  cases e1 : (a == b)
  · (refine top_in ?_; simp -implicitDefEqProofs only [go_sem, -List.reduceReplicate, ↓L_gdZ_tt, ↓L_gdZ_tf, ↓L_gdZ_ft, ↓L_gdZ_ff, ↓T_and, ↓T_imp, ↓T_all, Nat.reduceBEq, Nat.reduceAdd, Nat.reduceSub, Nat.reduceMul, Nat.reduceLT, Nat.reduceLeDiff, Nat.reduceEqDiff, Int.reduceLT, Int.reduceLE, Int.reduceAdd, Int.reduceSub, Int.reduceMul, Int.reduceNeg, Int.reduceToNat, Int.reduceEq, Int.reduceNe, reduceIte, reduceCtorEq, BitVec.reduceOfInt, BitVec.reduceToNat]; try simp only [top_out])
    rw [e1] at hK
    exact dropC_append hM rfl (by simpa using hK)
  · (refine top_in ?_; simp -implicitDefEqProofs only [go_sem, -List.reduceReplicate, ↓L_gdZ_tt, ↓L_gdZ_tf, ↓L_gdZ_ft, ↓L_gdZ_ff, ↓T_and, ↓T_imp, ↓T_all, Nat.reduceBEq, Nat.reduceAdd, Nat.reduceSub, Nat.reduceMul, Nat.reduceLT, Nat.reduceLeDiff, Nat.reduceEqDiff, Int.reduceLT, Int.reduceLE, Int.reduceAdd, Int.reduceSub, Int.reduceMul, Int.reduceNeg, Int.reduceToNat, Int.reduceEq, Int.reduceNe, reduceIte, reduceCtorEq, BitVec.reduceOfInt, BitVec.reduceToNat]; try simp only [top_out])
    rw [e1] at hK
    refine ⟨fun e2 => ?_, fun e2 => ?_⟩
    · rw [e2] at hK
      exact dropC_append hM rfl (by simpa using hK)
    · rw [e2] at hK
      exact dropC_append hM rfl (by simpa using hK)
theorem flC_length (xs : List (Int × Int × SV)) : (flC xs).length = xs.length * 3 := by
  induction xs with
  | nil => rfl
  | cons x xs ih => simp only [flC, List.length_append, ih, List.length_cons, List.length_nil]; omega
theorem flC_get : ∀ (xs : List (Int × Int × SV)) (zz : List SV) (k : Nat) {x : Int × Int × SV}, xs[k]? = some x → ((flC xs ++ zz).drop (k * 3)).take 3 = [.i .i64 x.1, .i .i64 x.2.1, x.2.2]
  | [], zz, k, x, h => by simp at h
  | y :: xs, zz, 0, x, h => by
    simp only [List.getElem?_cons_zero, Option.some.injEq] at h
    subst h
    simp [flC]
  | y :: xs, zz, k + 1, x, h => by
    have ih := flC_get xs zz k (x := x) (by simpa using h)
    rw [← ih]
    have e : (k + 1) * 3 = k * 3 + 3 := by omega
    rw [e]
    simp only [flC, List.cons_append, List.nil_append, List.drop_succ_cons]

/-- flights in a list, their bytes there or nil -/
def HoldsB (M : List Blk) (fs : List (Int × Int × List (BitVec 8))) (xs : List (Int × Int × SV)) : Prop :=
  xs.map (fun x => (x.1, x.2.1)) = fs.map (fun f => (f.1, f.2.1)) ∧ ∀ (i : Nat) (f : Int × Int × List (BitVec 8)) (x : Int × Int × SV), fs[i]? = some f → xs[i]? = some x → BytesAt M x.2.2 f.2.2
theorem Holds3.toB {M : List Blk} {fs : List (Int × Int × List (BitVec 8))} {xs : List (Int × Int × SV)} (h : Holds3 M fs xs) (hl : ∀ f, f ∈ fs → f.2.2.length ≤ 140737488355000) : HoldsB M fs xs :=
  ⟨h.1, fun i f x hf hx => ⟨hl f (List.mem_of_getElem? hf), .inr (h.2 i f x hf hx)⟩⟩
theorem HoldsB.len {M : List Blk} {fs : List (Int × Int × List (BitVec 8))} {xs : List (Int × Int × SV)} (h : HoldsB M fs xs) : xs.length = fs.length := by
  have := congrArg List.length h.1
  simpa using this
theorem HoldsB.at {M : List Blk} {fs : List (Int × Int × List (BitVec 8))} {xs : List (Int × Int × SV)} (h : HoldsB M fs xs) {k : Nat} (hk : k < fs.length) :
    ∃ f x, fs[k]? = some f ∧ xs[k]? = some x ∧ x.1 = f.1 ∧ x.2.1 = f.2.1 ∧ BytesAt M x.2.2 f.2.2 := by
  have hk' : k < xs.length := by rw [h.len]; exact hk
  refine ⟨fs[k], xs[k], List.getElem?_eq_getElem hk, List.getElem?_eq_getElem hk', ?_, ?_, h.2 k _ _ (List.getElem?_eq_getElem hk) (List.getElem?_eq_getElem hk')⟩
  · have := congrArg (·[k]?) h.1
    simp [List.getElem?_map, List.getElem?_eq_getElem hk, List.getElem?_eq_getElem hk'] at this
    exact this.1
  · have := congrArg (·[k]?) h.1
    simp [List.getElem?_map, List.getElem?_eq_getElem hk, List.getElem?_eq_getElem hk'] at this
    exact this.2
theorem sameFB_eq (f g : Int × Int × List (BitVec 8)) : sameFB f.1 f.2.1 f.2.2 g.1 g.2.1 g.2.2 = decide (f = g) := by
  obtain ⟨a, b, c⟩ := f
  obtain ⟨a', b', c'⟩ := g
  unfold sameFB
  rw [Bool.eq_iff_iff]
  simp
  exact ⟨fun h => ⟨h.1.2, h.2, h.1.1⟩, fun h => ⟨⟨h.2.2, h.1⟩, h.2.1⟩⟩

set_option maxHeartbeats 1000000 in
theorem sameFlights_ok (n c n' c' : Nat) (fs gs : List (Int × Int × List (BitVec 8))) (xs ys : List (Int × Int × SV)) (zz zz' : List SV) (ty ty' : TypeId) (M : List Blk) (K : SV → List Blk → Prop)
    (h1 : M[n]? = some (.row (flC xs ++ zz) ty)) (h2 : M[n']? = some (.row (flC ys ++ zz') ty')) (hx : HoldsB M fs xs) (hy : HoldsB M gs ys) (hl : fs.length ≤ 1048576) (hl' : gs.length ≤ 1048576) (hK : K (.b (decide (fs = gs))) M) :
    callVC Try.prog 27 [.sl n 0 fs.length c, .sl n' 0 gs.length c'] M K := by
  refine fn_rule tabOK Try.func27 rfl Try.call27 (by kernel_rfl) (fun hM => ?_)
  (refine top_in ?_; simp -implicitDefEqProofs only [Try.ntmps27, Try.results27, go_sem, -List.reduceReplicate, ↓L_gdZ_tt, ↓L_gdZ_tf, ↓L_gdZ_ft, ↓L_gdZ_ff, ↓T_and, ↓T_imp, ↓T_all, Nat.reduceBEq, Nat.reduceAdd, Nat.reduceSub, Nat.reduceMul, Nat.reduceLT, Nat.reduceLeDiff, Nat.reduceEqDiff, Int.reduceLT, Int.reduceLE, Int.reduceAdd, Int.reduceSub, Int.reduceMul, Int.reduceNeg, Int.reduceToNat, Int.reduceEq, Int.reduceNe, reduceIte, reduceCtorEq, BitVec.reduceOfInt, BitVec.reduceToNat]; try simp only [top_out])
  refine ⟨fun h => ?_, fun h => ?_⟩
  · refine dropC_self hM rfl ?_
    have : decide (fs = gs) = false := by
      rw [decide_eq_false_iff_not]; intro e; subst e; simp at h
    rw [this] at hK; exact hK
  · have hl2 : fs.length = gs.length := by simp at h; omega
    clear h
    refine loop_code tabOK (by kernel_rfl) (fun m ts M' => ∃ k : Nat, k + m = fs.length ∧ fs.take k = gs.take k ∧ M' = M ∧ frC [some (.sl n 0 fs.length c), some (.sl n' 0 gs.length c'), none, none, none, some (.i .i64 k), none, none, none, none, none, none, none, none, none, none, none, none, none, none, none, none, none, none, none, none, none, none, none] ts) fs.length ?_ ?_
    · exact ⟨0, by omega, rfl, rfl, by simp [frC]⟩
    · rintro m ts _ ⟨k, hk, he, rfl, hf⟩
      obtain ⟨f, rfl⟩ := frC_open _ _ 0 hf
      clear hf
      (refine top_in ?_; simp -implicitDefEqProofs only [go_sem, -List.reduceReplicate, ↓L_gdZ_tt, ↓L_gdZ_tf, ↓L_gdZ_ft, ↓L_gdZ_ff, ↓T_and, ↓T_imp, ↓T_all, Nat.reduceBEq, Nat.reduceAdd, Nat.reduceSub, Nat.reduceMul, Nat.reduceLT, Nat.reduceLeDiff, Nat.reduceEqDiff, Int.reduceLT, Int.reduceLE, Int.reduceAdd, Int.reduceSub, Int.reduceMul, Int.reduceNeg, Int.reduceToNat, Int.reduceEq, Int.reduceNe, reduceIte, reduceCtorEq, BitVec.reduceOfInt, BitVec.reduceToNat]; try simp only [top_out])
      refine ⟨fun h => ?_, fun h => ?_⟩
      · refine draw_rule tabOK (by kernel_rfl : _) (.p 0 (.p 1 (.p 2 (.p 3 (.p 4 (.p 5 (.p 6 (.p 7 (.e 8 [] (.p 9 .nil) .no))))))))) (by kernel_rfl) (by kernel_rfl) ?_
        (refine top_in ?_; simp -implicitDefEqProofs only [go_sem, -List.reduceReplicate, ↓L_gdZ_tt, ↓L_gdZ_tf, ↓L_gdZ_ft, ↓L_gdZ_ff, ↓T_and, ↓T_imp, ↓T_all, Nat.reduceBEq, Nat.reduceAdd, Nat.reduceSub, Nat.reduceMul, Nat.reduceLT, Nat.reduceLeDiff, Nat.reduceEqDiff, Int.reduceLT, Int.reduceLE, Int.reduceAdd, Int.reduceSub, Int.reduceMul, Int.reduceNeg, Int.reduceToNat, Int.reduceEq, Int.reduceNe, reduceIte, reduceCtorEq, BitVec.reduceOfInt, BitVec.reduceToNat, h1, h2]; try simp only [top_out])
        obtain ⟨f1, x1, hf1, hx1, e1, e2, hb1⟩ := hx.at (show k < fs.length by omega)
        obtain ⟨g1, y1, hg1, hy1, e3, e4, hb2⟩ := hy.at (show k < gs.length by omega)
        have l1 := flC_length xs
        have l2 := flC_length ys
        have l3 := hx.len
        have l4 := hy.len
        rw [flC_get xs zz k hx1, flC_get ys zz' k hy1]
        refine ⟨by omega, by omega, by omega, by omega, by omega, by omega, by omega, by omega, ?_⟩
        show callVC _ _ [fgS x1.1 x1.2.1 x1.2.2, fgS y1.1 y1.2.1 y1.2.2] _ _
        refine sameFlight_ok _ x1.1 x1.2.1 y1.1 y1.2.1 x1.2.2 y1.2.2 f1.2.2 g1.2.2 _ hb1 hb2 ?_
        have hfe : sameFB x1.1 x1.2.1 f1.2.2 y1.1 y1.2.1 g1.2.2 = decide (f1 = g1) := by rw [e1, e2, e3, e4]; exact sameFB_eq f1 g1
        rw [hfe]
        (refine top_in ?_; simp -implicitDefEqProofs only [go_sem, -List.reduceReplicate, ↓L_gdZ_tt, ↓L_gdZ_tf, ↓L_gdZ_ft, ↓L_gdZ_ff, ↓T_and, ↓T_imp, ↓T_all, Nat.reduceBEq, Nat.reduceAdd, Nat.reduceSub, Nat.reduceMul, Nat.reduceLT, Nat.reduceLeDiff, Nat.reduceEqDiff, Int.reduceLT, Int.reduceLE, Int.reduceAdd, Int.reduceSub, Int.reduceMul, Int.reduceNeg, Int.reduceToNat, Int.reduceEq, Int.reduceNe, reduceIte, reduceCtorEq, BitVec.reduceOfInt, BitVec.reduceToNat, h1, h2]; try simp only [top_out])
        refine ⟨fun h3 => ?_, fun h3 => ⟨m - 1, by omega, k + 1, by omega, ?_, w64 (by omega) (by omega)⟩⟩
        · have hne : f1 ≠ g1 := by simpa using h3
          have : decide (fs = gs) = false := by
            rw [decide_eq_false_iff_not]; intro e; subst e; rw [hf1] at hg1; exact hne (Option.some.inj hg1)
          rw [this] at hK
          exact dropC_self hM rfl hK
        · have heq : f1 = g1 := by simpa using h3
          rw [List.take_add_one, List.take_add_one, he, hf1, hg1, heq]
      · have hka : k = fs.length := by omega
        subst hka
        have e : fs = gs := by
          rw [List.take_length, hl2, List.take_length] at he; exact he
        refine dropC_self hM rfl ?_
        simpa [e] using hK
end Go.Proofs.Ytccnffjjahdneaa.Eng
