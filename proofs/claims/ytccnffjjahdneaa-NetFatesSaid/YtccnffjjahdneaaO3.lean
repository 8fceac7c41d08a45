/- The document's net. -/
import Derived.Test.YtccnffjjahdneaaO2
import Derived.Test.YtccnffjjahdneaaQ2
namespace Go.Proofs.Ytccnffjjahdneaa.Eng
open Go Go.RowKit
set_option linter.unusedSimpArgs false
set_option linter.unusedVariables false
set_option linter.unusedSimpArgs false
set_option linter.unusedVariables false

/-- a flight of the document's net: number, where to, its slice, its bytes -/
abbrev Rfl := Int × Int × SV × List (BitVec 8)
def r3 (f : Rfl) : Int × Int × SV := (f.1, f.2.1, f.2.2.1)
def vwR (rs : List Rfl) : List (Int × Int × List (BitVec 8)) := rs.map fun f => (f.1, f.2.1, f.2.2.2)
def freeW (zz : List SV) : Prop := ∀ w, w ∈ zz → w ∈ [SV.i .i64 0, SV.sn]
def LstR (M : List Blk) (F : Nat → Prop) (r : Nat) (x : SV) (rs : List Rfl) : Prop :=
  (x = .sn ∧ rs = []) ∨ ∃ q cap zz ty, x = .sl q 0 rs.length cap ∧ M[q]? = some (.row (flC (rs.map r3) ++ zz) ty) ∧ rs.length * 3 + zz.length = cap * 3 ∧ freeW zz ∧ F q ∧ q ≠ r ∧ ∀ f, f ∈ rs → dnS f.2.2.1 ≠ some q
structure RefSt (M : List Blk) (F : Nat → Prop) (r : Nat) (last : Int) (rs : List Rfl) : Prop where
  ex : ∃ x, M[r]? = some (.row [x, .i .i64 last] 76) ∧ LstR M F r x rs
  fr : F r
  inn : ∀ n, F n → n < M.length
  data : ∀ f, f ∈ rs → DatR M F f.2.2.1 f.2.2.2
theorem LstR.ag {S F : Nat → Prop} {M M' : List Blk} {r : Nat} {x : SV} {rs : List Rfl} (h : LstR M F r x rs) (hA : Ag S M M') (hd : ∀ n, F n → ¬ S n) : LstR M' F r x rs := by
  rcases h with h | ⟨q, cap, zz, ty, h1, h2, h3, h4, h5, h6⟩
  · exact .inl h
  · exact .inr ⟨q, cap, zz, ty, h1, hA.get h2 (hd _ h5), h3, h4, h5, h6⟩
theorem RefSt.ag {S F : Nat → Prop} {M M' : List Blk} {r : Nat} {last : Int} {rs : List Rfl} (h : RefSt M F r last rs) (hA : Ag S M M') (hd : ∀ n, F n → ¬ S n) : RefSt M' F r last rs := by
  obtain ⟨x, h1, h2⟩ := h.ex
  exact ⟨⟨x, hA.get h1 (hd _ h.fr), h2.ag hA hd⟩, h.fr, fun n hn => Nat.lt_of_lt_of_le (h.inn n hn) hA.1, fun f hf => (h.data f hf).ag hA (fun d h1 _ => ⟨hd d h1, h1⟩)⟩
theorem flC_cells : ∀ (xs : List (Int × Int × SV)) (zz : List SV) (k : Nat) {x : Int × Int × SV}, xs[k]? = some x → (flC xs ++ zz)[k * 3]? = some (.i .i64 x.1) ∧ (flC xs ++ zz)[k * 3 + 1]? = some (.i .i64 x.2.1) ∧ (flC xs ++ zz)[k * 3 + 2]? = some x.2.2
  | [], zz, k, x, h => by simp at h
  | y :: xs, zz, 0, x, h => by
    simp only [List.getElem?_cons_zero, Option.some.injEq] at h
    subst h
    simp [flC]
  | y :: xs, zz, k + 1, x, h => by
    have ih := flC_cells xs zz k (x := x) (by simpa using h)
    have e : ∀ j, (k + 1) * 3 + j = k * 3 + j + 3 := fun j => by omega
    have e0 : (k + 1) * 3 = k * 3 + 3 := by omega
    simp only [flC, List.cons_append, List.nil_append, e, e0, List.getElem?_cons_succ]
    exact ih
theorem flC_app (xs ys : List (Int × Int × SV)) : flC (xs ++ ys) = flC xs ++ flC ys := by
  induction xs with
  | nil => rfl
  | cons x xs ih => simp only [List.cons_append, flC, ih, List.nil_append]
theorem flC_part (xs : List (Int × Int × SV)) (zz : List SV) (a k : Nat) (h : a + k ≤ xs.length) : ((flC xs ++ zz).drop (a * 3)).take (k * 3) = flC ((xs.drop a).take k) := by
  have e : xs = xs.take a ++ ((xs.drop a).take k ++ (xs.drop a).drop k) := by rw [List.take_append_drop, List.take_append_drop]
  have l1 := flC_length (xs.take a)
  have l2 := flC_length ((xs.drop a).take k)
  rw [List.length_take, Nat.min_eq_left (by omega)] at l1
  rw [List.length_take, List.length_drop, Nat.min_eq_left (by omega)] at l2
  conv => lhs; rw [e, flC_app, flC_app]
  rw [List.append_assoc, ← l1, List.drop_left, List.append_assoc, ← l2, List.take_left]
/-- a part of a list of flights, as a source -/
theorem src_fl {M : List Blk} {q : Nat} {xs : List (Int × Int × SV)} {zz : List SV} {ty : TypeId} (h : M[q]? = some (.row (flC xs ++ zz) ty)) (a k off cap : Nat) (hk : a + k ≤ xs.length) (ho : off = a * 3 ∨ (k = 0 ∧ off = 0)) :
    ∀ K : List SV → Nat → Prop, K (flC ((xs.drop a).take k)) k → srcC M 3 (.sl q off k cap) K := by
  intro K hK
  have hc : cellsAt M q = flC xs ++ zz := by simp [cellsAt, h]
  have hl := flC_length xs
  simp only [srcC, hc]
  rcases ho with rfl | ⟨rfl, rfl⟩
  · exact ⟨by rw [List.length_append]; omega, by rw [flC_part xs zz a k hk]; exact hK⟩
  · refine ⟨by omega, ?_⟩
    simpa [flC] using hK
theorem isI_of {k : IntKind} {cs : List SV} {j : Nat} {x : Int} (h : cs[j]? = some (.i k x)) : isI k cs j = true ∧ cellI cs j = x := by
  simp [isI, cellI, h]

theorem rnew_ok (M : List Blk) (K : SV → List Blk → Prop) (hK : K (.p M.length 0) (M ++ [.row [.sn, .i .i64 0] 76])) :
    callVC Try.prog 29 [] M K := by
  refine fn_rule tabOK Try.func29 rfl Try.call29 (by kernel_rfl) (fun hM => ?_)
  (refine top_in ?_; simp -implicitDefEqProofs only [Try.ntmps29, Try.results29, go_sem, -List.reduceReplicate, ↓L_gdZ_tt, ↓L_gdZ_tf, ↓L_gdZ_ft, ↓L_gdZ_ff, ↓T_and, ↓T_imp, ↓T_all, Nat.reduceBEq, Nat.reduceAdd, Nat.reduceSub, Nat.reduceMul, Nat.reduceLT, Nat.reduceLeDiff, Nat.reduceEqDiff, Int.reduceLT, Int.reduceLE, Int.reduceAdd, Int.reduceSub, Int.reduceMul, Int.reduceNeg, Int.reduceToNat, Int.reduceEq, Int.reduceNe, reduceIte, reduceCtorEq, BitVec.reduceOfInt, BitVec.reduceToNat]; try simp only [top_out])
  exact dropC_all (by simp) hK

/-- one or more flights behind none -/
theorem appFn {T : Tab} {M : List Blk} {ts tx e eby : Nat} {K : SV → List Blk → Prop} (y : List SV) (m : Nat) {x : SV} (htk : T.k ts = .slice e 3 eby) (he0 : 0 < eby) (he : eby ≤ 4096)
    (hz : T.z e = some [.i .i64 0, .i .i64 0, .sn]) (hx : nonInt (T.k tx) = true) (hsrc : ∀ K : List SV → Nat → Prop, K y m → srcC M 3 x K) (hm : m ≤ 1048576)
    (hK : ∀ (z' : List SV) (ty' : TypeId) (cap' : Nat), freeW z' → m * 3 + z'.length = cap' * 3 → K (.sl M.length 0 m cap') (M ++ [.row (y ++ z') ty'])) :
    appendC T M ts tx .sn x K := by
  refine .inr (.inl ?_)
  unfold appendN
  rw [htk]
  refine ⟨hx, he0, by decide, _, hz, hsrc _ ⟨fun hlt => ?_, fun c sp ty' hc hsp hmm => ?_⟩⟩
  · have := growslice_fits (need := m) (old := 0) (bytes := eby) hlt (by
      have : m * eby ≤ 1048577 * 4096 := Nat.mul_le_mul (by omega) he
      omega)
    omega
  · refine hK sp ty' c (fun w hw => ?_) (by rw [hsp, Nat.sub_mul]; have := Nat.mul_le_mul_right 3 hc; omega)
    have := hmm w hw
    simp only [List.mem_cons, List.not_mem_nil, or_false] at this ⊢
    rcases this with h | h | h
    · exact .inl h
    · exact .inl h
    · exact .inr h
/-- flights behind flights -/
theorem appFm {T : Tab} {M : List Blk} {ts tx e eby : Nat} {K : SV → List Blk → Prop} (n : Nat) (cs zz y : List SV) (m : Nat) (ty : TypeId) {x : SV} {len cap : Nat} (htk : T.k ts = .slice e 3 eby) (he0 : 0 < eby) (he : eby ≤ 4096)
    (hz : T.z e = some [.i .i64 0, .i .i64 0, .sn]) (hx : nonInt (T.k tx) = true) (hB : M[n]? = some (.row (cs ++ zz) ty)) (hlen : cs.length = len * 3) (hcap : len * 3 + zz.length = cap * 3)
    (hsrc : ∀ K : List SV → Nat → Prop, K y m → srcC M 3 x K) (hzz : freeW zz) (hb : len + m ≤ 1048576)
    (hK : ∀ (z' : List SV) (ty' : TypeId) (cap' : Nat), freeW z' → (len + m) * 3 + z'.length = cap' * 3 → K (.sl M.length 0 (len + m) cap') (M.set n .dead ++ [.row (cs ++ y ++ z') ty'])) :
    appendC T M ts tx (.sl n 0 len cap) x K := by
  refine .inr (.inl ?_)
  unfold appendN
  rw [htk]
  refine ⟨hx, he0, by decide, _, hz, hsrc _ ?_⟩
  have hce : cellsAt M n = cs ++ zz := by simp [cellsAt, hB]
  refine ⟨rfl, by omega, ⟨_, ty, hB, by simp [hlen]; omega⟩, fun hlt => ?_, fun c sp ty' hc hsp hmm => ?_⟩
  · have := growslice_fits (need := len + m) (old := cap) (bytes := eby) hlt (by
      have : (len + m) * eby ≤ 1048577 * 4096 := Nat.mul_le_mul (by omega) he
      omega)
    omega
  · rw [hce] at hmm ⊢
    rw [← hlen] at hmm ⊢
    rw [List.drop_left] at hmm
    rw [List.take_left]
    refine hK sp ty' c (fun w hw => ?_) (by rw [hsp, Nat.sub_mul]; have := Nat.mul_le_mul_right 3 hc; omega)
    rcases hmm w hw with h | h
    · exact hzz w h
    · simp only [List.mem_cons, List.not_mem_nil, or_false] at h ⊢
      rcases h with h | h | h
      · exact .inl h
      · exact .inl h
      · exact .inr h
/-- bytes that are handed in to be copied or looked at -/
def Byt (M : List Blk) (x : SV) (l : List (BitVec 8)) : Prop :=
  l.length ≤ 140737488355000 ∧ ((x = .sn ∧ l = []) ∨ (∃ a, x = .raw (.slice (some a) 0 0) ∧ l = []) ∨ ∃ n cap, x = .sl n 0 l.length cap ∧ BAt M n 0 l)
theorem Byt.one {M : List Blk} {x : SV} {l : List (BitVec 8)} (h : Byt M x l) : x.one = true := by
  obtain ⟨_, ⟨rfl, _⟩ | ⟨a, rfl, _⟩ | ⟨n, cap, rfl, _⟩⟩ := h <;> rfl
theorem Byt.lenB {M M' : List Blk} {x : SV} {l : List (BitVec 8)} (h : Byt M x l) {e a b : Nat} {K : SV → Prop} : lenB (.slice e a b) M' x K = K (.i .i64 l.length) := by
  obtain ⟨_, ⟨rfl, rfl⟩ | ⟨a, rfl, rfl⟩ | ⟨n, cap, rfl, _⟩⟩ := h <;> rfl
theorem Byt.ag {S : Nat → Prop} {M M' : List Blk} {x : SV} {l : List (BitVec 8)} (h : Byt M x l) (hA : Ag S M M') (hn : ∀ d, dnS x = some d → ¬ S d) : Byt M' x l := by
  obtain ⟨h0, h | h | ⟨n, cap, rfl, h⟩⟩ := h
  · exact ⟨h0, .inl h⟩
  · exact ⟨h0, .inr (.inl h)⟩
  · exact ⟨h0, .inr (.inr ⟨n, cap, rfl, h.ag hA (hn n rfl)⟩)⟩
theorem DatR.byt {M : List Blk} {F : Nat → Prop} {x : SV} {l : List (BitVec 8)} (h : DatR M F x l) : Byt M x l := by
  obtain ⟨h0, h | ⟨d, z, ty, h1, h2, h3⟩⟩ := h
  · exact ⟨h0, .inl h⟩
  · exact ⟨h0, .inr (.inr ⟨d, _, h1, BAt.row h2⟩)⟩
theorem ArgB.byt {M : List Blk} {x : SV} {l : List (BitVec 8)} (h : ArgB M x l) (hl : l.length ≤ 140737488355000) : Byt M x l := by
  obtain ⟨h0, h | h | ⟨n, cap, rfl, _, h, _⟩⟩ := h
  · exact ⟨hl, .inl h⟩
  · exact ⟨hl, .inr (.inl h)⟩
  · exact ⟨hl, .inr (.inr ⟨n, cap, rfl, h⟩)⟩
theorem bytes_any (x : SV) (l : List (BitVec 8)) (M : List Blk) (K : SV → List Blk → Prop) (h : Byt M x l)
    (hK : ∀ z ty, K (.sl M.length 0 l.length (l.length + z.length)) (M ++ [.row (bS (l ++ z)) ty])) :
    callVC Try.prog 15 [x] M K := by
  obtain ⟨h0, ⟨rfl, rfl⟩ | ⟨a, rfl, rfl⟩ | ⟨n, cap, rfl, h⟩⟩ := h
  · refine fn_rule tabOK Try.func15 rfl Try.call15 (by kernel_rfl) (fun hM => ?_)
    (refine top_in ?_; simp -implicitDefEqProofs only [Try.ntmps15, Try.results15, go_sem, -List.reduceReplicate, ↓L_gdZ_tt, ↓L_gdZ_tf, ↓L_gdZ_ft, ↓L_gdZ_ff, ↓T_and, ↓T_imp, ↓T_all, Nat.reduceBEq, Nat.reduceAdd, Nat.reduceSub, Nat.reduceMul, Nat.reduceLT, Nat.reduceLeDiff, Nat.reduceEqDiff, Int.reduceLT, Int.reduceLE, Int.reduceAdd, Int.reduceSub, Int.reduceMul, Int.reduceNeg, Int.reduceToNat, Int.reduceEq, Int.reduceNe, reduceIte, reduceCtorEq, BitVec.reduceOfInt, BitVec.reduceToNat]; try simp only [top_out])
    refine loop_code tabOK (by kernel_rfl) (fun m ts M' => M' = M ∧ frC [some (.sn), none, none, some (.sn), some (.i .i64 0), none, none, none, none, none, none, none, none, none, none, none, none, none, none] ts) 0 ⟨rfl, by simp [frC]⟩ ?_
    rintro m ts _ ⟨rfl, hf⟩
    obtain ⟨f, rfl⟩ := frC_open _ _ 0 hf
    clear hf
    (refine top_in ?_; simp -implicitDefEqProofs only [go_sem, -List.reduceReplicate, ↓L_gdZ_tt, ↓L_gdZ_tf, ↓L_gdZ_ft, ↓L_gdZ_ff, ↓T_and, ↓T_imp, ↓T_all, Nat.reduceBEq, Nat.reduceAdd, Nat.reduceSub, Nat.reduceMul, Nat.reduceLT, Nat.reduceLeDiff, Nat.reduceEqDiff, Int.reduceLT, Int.reduceLE, Int.reduceAdd, Int.reduceSub, Int.reduceMul, Int.reduceNeg, Int.reduceToNat, Int.reduceEq, Int.reduceNe, reduceIte, reduceCtorEq, BitVec.reduceOfInt, BitVec.reduceToNat]; try simp only [top_out])
    exact drop8n0 (ty := 0) hM (hK [] 0)
  · refine fn_rule tabOK Try.func15 rfl Try.call15 (by kernel_rfl) (fun hM => ?_)
    (refine top_in ?_; simp -implicitDefEqProofs only [Try.ntmps15, Try.results15, go_sem, -List.reduceReplicate, ↓L_gdZ_tt, ↓L_gdZ_tf, ↓L_gdZ_ft, ↓L_gdZ_ff, ↓T_and, ↓T_imp, ↓T_all, Nat.reduceBEq, Nat.reduceAdd, Nat.reduceSub, Nat.reduceMul, Nat.reduceLT, Nat.reduceLeDiff, Nat.reduceEqDiff, Int.reduceLT, Int.reduceLE, Int.reduceAdd, Int.reduceSub, Int.reduceMul, Int.reduceNeg, Int.reduceToNat, Int.reduceEq, Int.reduceNe, reduceIte, reduceCtorEq, BitVec.reduceOfInt, BitVec.reduceToNat]; try simp only [top_out])
    refine loop_code tabOK (by kernel_rfl) (fun m ts M' => M' = M ∧ frC [some (.raw (.slice (some a) 0 0)), none, none, some (.sn), some (.i .i64 0), none, none, none, none, none, none, none, none, none, none, none, none, none, none] ts) 0 ⟨rfl, by simp [frC]⟩ ?_
    rintro m ts _ ⟨rfl, hf⟩
    obtain ⟨f, rfl⟩ := frC_open _ _ 0 hf
    clear hf
    (refine top_in ?_; simp -implicitDefEqProofs only [go_sem, -List.reduceReplicate, ↓L_gdZ_tt, ↓L_gdZ_tf, ↓L_gdZ_ft, ↓L_gdZ_ff, ↓T_and, ↓T_imp, ↓T_all, Nat.reduceBEq, Nat.reduceAdd, Nat.reduceSub, Nat.reduceMul, Nat.reduceLT, Nat.reduceLeDiff, Nat.reduceEqDiff, Int.reduceLT, Int.reduceLE, Int.reduceAdd, Int.reduceSub, Int.reduceMul, Int.reduceNeg, Int.reduceToNat, Int.reduceEq, Int.reduceNe, reduceIte, reduceCtorEq, BitVec.reduceOfInt, BitVec.reduceToNat]; try simp only [top_out])
    exact drop8n0 (ty := 0) hM (hK [] 0)
  · exact bytes_ok2 n 0 cap l.length l M K h (by omega) rfl hK

set_option maxHeartbeats 1000000 in
theorem place_ok (r : Nat) (no last : Int) (rs : List Rfl) (M : List Blk) (F : Nat → Prop) (K : SV → List Blk → Prop) (h : RefSt M F r last rs) (hl : rs.length ≤ 1048576)
    (hK : (∀ f, f ∈ rs → f.1 ≠ no) → K (.i .i64 (-1)) M) (hK2 : ∀ (i : Nat) f, rs[i]? = some f → f.1 = no → (∀ (j : Nat) f', j < i → rs[j]? = some f' → f'.1 ≠ no) → K (.i .i64 i) M) :
    callVC Try.prog 39 [.p r 0, .i .i64 no] M K := by
  obtain ⟨x, h1, h2⟩ := h.ex
  have hlen : ∀ {M' : List Blk} {e a b' : Nat} {K : SV → Prop}, lenB (.slice e a b') M' x K = K (.i .i64 rs.length) := by
    intro M' e a b' K
    rcases h2 with ⟨rfl, rfl⟩ | ⟨q, cap, zz, ty, rfl, _⟩ <;> rfl
  refine fn_rule tabOK Try.func39 rfl Try.call39 (by kernel_rfl) (fun hM => ?_)
  (refine top_in ?_; simp -implicitDefEqProofs only [Try.ntmps39, Try.results39, go_sem, -List.reduceReplicate, ↓L_gdZ_tt, ↓L_gdZ_tf, ↓L_gdZ_ft, ↓L_gdZ_ff, ↓T_and, ↓T_imp, ↓T_all, Nat.reduceBEq, Nat.reduceAdd, Nat.reduceSub, Nat.reduceMul, Nat.reduceLT, Nat.reduceLeDiff, Nat.reduceEqDiff, Int.reduceLT, Int.reduceLE, Int.reduceAdd, Int.reduceSub, Int.reduceMul, Int.reduceNeg, Int.reduceToNat, Int.reduceEq, Int.reduceNe, reduceIte, reduceCtorEq, BitVec.reduceOfInt, BitVec.reduceToNat, h1, hlen]; try simp only [top_out])
  refine loop_code tabOK (by kernel_rfl) (fun m ts M' => ∃ k : Nat, k + m = rs.length ∧ (∀ (j : Nat) f', j < k → rs[j]? = some f' → f'.1 ≠ no) ∧ M' = M ∧ frC [some (.p r 0), some (.i .i64 no), none, none, none, some (.i .i64 k), none, none, none, none, none, none, none, none, none, none, none, none, none, none, none, none, none, none, none, none] ts) rs.length ?_ ?_
  · exact ⟨0, by omega, fun j f' hj => absurd hj (by omega), rfl, by simp [frC]⟩
  · rintro m ts _ ⟨k, hk, he, rfl, hf⟩
    obtain ⟨f, rfl⟩ := frC_open _ _ 0 hf
    clear hf
    (refine top_in ?_; simp -implicitDefEqProofs only [go_sem, -List.reduceReplicate, ↓L_gdZ_tt, ↓L_gdZ_tf, ↓L_gdZ_ft, ↓L_gdZ_ff, ↓T_and, ↓T_imp, ↓T_all, Nat.reduceBEq, Nat.reduceAdd, Nat.reduceSub, Nat.reduceMul, Nat.reduceLT, Nat.reduceLeDiff, Nat.reduceEqDiff, Int.reduceLT, Int.reduceLE, Int.reduceAdd, Int.reduceSub, Int.reduceMul, Int.reduceNeg, Int.reduceToNat, Int.reduceEq, Int.reduceNe, reduceIte, reduceCtorEq, BitVec.reduceOfInt, BitVec.reduceToNat, h1, hlen]; try simp only [top_out])
    refine ⟨fun h => ?_, fun h => ?_⟩
    · rcases h2 with ⟨rfl, rfl⟩ | ⟨q, cap, zz, ty, rfl, h3, h4, h5, h6⟩
      · simp at hk h; omega
      · have hlt : k < rs.length := by omega
        have hg : (rs.map r3)[k]? = some (r3 rs[k]) := by rw [List.getElem?_map, List.getElem?_eq_getElem hlt]; rfl
        obtain ⟨c1, c2, c3⟩ := flC_cells _ zz k hg
        obtain ⟨i1, i2⟩ := isI_of c1
        have hfl := flC_length (rs.map r3)
        rw [List.length_map] at hfl
        (refine top_in ?_; simp -implicitDefEqProofs only [go_sem, -List.reduceReplicate, ↓L_gdZ_tt, ↓L_gdZ_tf, ↓L_gdZ_ft, ↓L_gdZ_ff, ↓T_and, ↓T_imp, ↓T_all, Nat.reduceBEq, Nat.reduceAdd, Nat.reduceSub, Nat.reduceMul, Nat.reduceLT, Nat.reduceLeDiff, Nat.reduceEqDiff, Int.reduceLT, Int.reduceLE, Int.reduceAdd, Int.reduceSub, Int.reduceMul, Int.reduceNeg, Int.reduceToNat, Int.reduceEq, Int.reduceNe, reduceIte, reduceCtorEq, BitVec.reduceOfInt, BitVec.reduceToNat, h3, i1, i2]; try simp only [top_out])
        refine ⟨by omega, by omega, by omega, by omega, fun e => ?_, fun e => ⟨m - 1, by omega, k + 1, by omega, ?_, w64 (by omega) (by omega)⟩⟩
        · exact dropC_self hM rfl (hK2 k _ (List.getElem?_eq_getElem hlt) (by simpa [r3] using e) he)
        · intro j f' hj hf'
          by_cases hjk : j = k
          · subst hjk
            rw [List.getElem?_eq_getElem hlt] at hf'
            cases hf'
            simpa [r3] using e
          · exact he j f' (by omega) hf'
    · have hka : k = rs.length := by omega
      refine dropC_self hM rfl (hK (fun f hf => ?_))
      obtain ⟨j, hj⟩ := List.getElem?_of_mem hf
      exact he j f (by have := (List.getElem?_eq_some_iff.1 hj).1; omega) hj
set_option maxHeartbeats 1000000 in
theorem out_ok (r : Nat) (i : Nat) (last : Int) (rs : List Rfl) (M : List Blk) (F : Nat → Prop) (K : SV → List Blk → Prop) (h : RefSt M F r last rs) (hl : rs.length ≤ 1048576) (hi : i < rs.length)
    (hK : ∀ M' F', RefSt M' F' r last (rs.eraseIdx i) → (∀ n, F' n → F n ∨ M.length ≤ n) → Ag (· = r) M M' → K (.tup []) M') :
    callVC Try.prog 40 [.p r 0, .i .i64 i] M K := by
  obtain ⟨x, h1, h2⟩ := h.ex
  rcases h2 with ⟨rfl, rfl⟩ | ⟨q, cap, zz, ty, rfl, h3, h4, h5, h6, h7, h8⟩
  · cases hi
  have hfl := flC_length (rs.map r3)
  rw [List.length_map] at hfl
  have hr := kw h1
  have hq := kw h3
  refine fn_rule tabOK Try.func40 rfl Try.call40 (by kernel_rfl) (fun hM => ?_)
  (refine top_in ?_; simp -implicitDefEqProofs only [Try.ntmps40, Try.results40, go_sem, -List.reduceReplicate, ↓L_gdZ_tt, ↓L_gdZ_tf, ↓L_gdZ_ft, ↓L_gdZ_ff, ↓T_and, ↓T_imp, ↓T_all, Nat.reduceBEq, Nat.reduceAdd, Nat.reduceSub, Nat.reduceMul, Nat.reduceLT, Nat.reduceLeDiff, Nat.reduceEqDiff, Int.reduceLT, Int.reduceLE, Int.reduceAdd, Int.reduceSub, Int.reduceMul, Int.reduceNeg, Int.reduceToNat, Int.reduceEq, Int.reduceNe, reduceIte, reduceCtorEq, BitVec.reduceOfInt, BitVec.reduceToNat, h1, get_lt hr, get_lt hq]; try simp only [top_out])
  refine ⟨by omega, by omega, ?_⟩
  refine appFn (flC (((rs.map r3).drop 0).take i)) i rfl (by decide) (by decide) rfl rfl (src_fl h3 0 i 0 cap (by rw [List.length_map]; omega) (.inl rfl)) (by omega) (fun z1 t1 c1 hz1 hc1 => ?_)
  (refine top_in ?_; simp -implicitDefEqProofs only [go_sem, -List.reduceReplicate, ↓L_gdZ_tt, ↓L_gdZ_tf, ↓L_gdZ_ft, ↓L_gdZ_ff, ↓T_and, ↓T_imp, ↓T_all, Nat.reduceBEq, Nat.reduceAdd, Nat.reduceSub, Nat.reduceMul, Nat.reduceLT, Nat.reduceLeDiff, Nat.reduceEqDiff, Int.reduceLT, Int.reduceLE, Int.reduceAdd, Int.reduceSub, Int.reduceMul, Int.reduceNeg, Int.reduceToNat, Int.reduceEq, Int.reduceNe, reduceIte, reduceCtorEq, BitVec.reduceOfInt, BitVec.reduceToNat, h1, h3, get_lt hr, get_lt hq, w64 (show (-9223372036854775808 : Int) ≤ (i : Int) + 1 by omega) (by omega)]; try simp only [top_out])
  have hi1 : ((i : Int) + 1).toNat = i + 1 := by omega
  rw [hi1]
  have hlm : (rs.map r3).length = rs.length := List.length_map _
  refine ⟨by omega, by omega, ?_⟩
  refine appFm M.length (flC (List.take i (List.map r3 rs))) z1 (flC (((rs.map r3).drop (i + 1)).take (rs.length - (i + 1)))) (rs.length - (i + 1)) t1 rfl (by decide) (by decide) rfl rfl (by simp [go_sem]) (by rw [flC_length, List.length_take, hlm]; omega) hc1
    (src_fl (by rw [get_lt hq]; exact h3) (i + 1) _ _ _ (by rw [hlm]; omega) (by split <;> omega)) hz1 (by omega) (fun z2 t2 c2 hz2 hc2 => ?_)
  (refine top_in ?_; simp -implicitDefEqProofs only [go_sem, -List.reduceReplicate, ↓L_gdZ_tt, ↓L_gdZ_tf, ↓L_gdZ_ft, ↓L_gdZ_ff, ↓T_and, ↓T_imp, ↓T_all, Nat.reduceBEq, Nat.reduceAdd, Nat.reduceSub, Nat.reduceMul, Nat.reduceLT, Nat.reduceLeDiff, Nat.reduceEqDiff, Int.reduceLT, Int.reduceLE, Int.reduceAdd, Int.reduceSub, Int.reduceMul, Int.reduceNeg, Int.reduceToNat, Int.reduceEq, Int.reduceNe, reduceIte, reduceCtorEq, BitVec.reduceOfInt, BitVec.reduceToNat, h1, h3, get_lt hr, get_lt hq, set_lt hr]; try simp only [top_out])
  have hA1 : Ag (fun n => n = r) M (M.set r (Blk.row [SV.sl (M.length + 1) 0 (i + (rs.length - (i + 1))) c2, SV.i IntKind.i64 last] 76) ++ [Blk.dead, Blk.row (flC (List.take i (List.map r3 rs)) ++ (flC (List.take (rs.length - (i + 1)) (List.drop (i + 1) (List.map r3 rs))) ++ z2)) t2]) :=
    Ag.trans (Ag.set rfl) (Ag.app (S := fun _ => False)) (fun n _ e => e.elim)
  have he : rs.eraseIdx i = rs.take i ++ rs.drop (i + 1) := List.eraseIdx_eq_take_drop_succ rs i
  have hel : (rs.eraseIdx i).length = i + (rs.length - (i + 1)) := by rw [List.length_eraseIdx_of_lt hi]; omega
  have hc : flC ((rs.eraseIdx i).map r3) = flC (List.take i (List.map r3 rs)) ++ flC (List.take (rs.length - (i + 1)) (List.drop (i + 1) (List.map r3 rs))) := by
    rw [he, List.map_append, flC_app, List.map_take, List.map_drop, List.take_of_length_le (l := List.drop (i + 1) (List.map r3 rs)) (by simp)]
  have hsub : ∀ f, f ∈ rs.eraseIdx i → f ∈ rs := fun f hf => List.mem_of_mem_eraseIdx hf
  refine dropC_all (by simp) (hK _ (fun n => F n ∨ n = M.length + 1) ⟨⟨.sl (M.length + 1) 0 (i + (rs.length - (i + 1))) c2, ?_, .inr ⟨M.length + 1, c2, z2, t2, by rw [hel], ?_, by rw [hel]; exact hc2, hz2, .inr rfl, by omega, fun f hf e => ?_⟩⟩, .inl h.fr, fun n hn => ?_, fun f hf => ?_⟩ (fun n hn => hn.elim .inl (fun e => .inr (by omega))) hA1)
  · rw [get_lt (by rw [List.length_set]; exact hr), List.getElem?_set_self hr]
  · rw [hc, List.append_assoc]
    simp [go_sem]
  · obtain ⟨_, ⟨e1, _⟩ | ⟨d, z, ty, e1, e2, e3⟩⟩ := h.data f (hsub f hf)
    · rw [e1] at e; cases e
    · rw [e1] at e; cases e
      have := h.inn _ e3
      omega
  · simp only [List.length_append, List.length_set, List.length_cons, List.length_nil]
    rcases hn with hn | rfl
    · have := h.inn n hn; omega
    · omega
  · refine (h.data f (hsub f hf)).ag hA1 (fun d h1' h2' => ⟨fun e => ?_, .inl h1'⟩)
    subst e
    obtain ⟨_, ⟨e1, _⟩ | ⟨d', z, ty, e1, e2, e3⟩⟩ := h.data f (hsub f hf)
    · rw [e1] at h2'; cases h2'
    · rw [e1] at h2'; cases h2'
      rw [h1] at e2
      simp only [Option.some.injEq, Blk.row.injEq] at e2
      obtain ⟨b, hb⟩ := bS_inj_cell e2.1
      cases hb
end Go.Proofs.Ytccnffjjahdneaa.Eng
