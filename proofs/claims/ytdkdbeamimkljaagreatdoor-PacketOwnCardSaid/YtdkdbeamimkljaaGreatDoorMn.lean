/- Joined texts: B1, B2, B3, B4. -/
import Derived.Test.YtdkdbeamimkljaaGreatDoorMm
namespace Go.Proofs.YtdkdbeamimkljaaGreatDoor.Eng
set_option linter.unusedSimpArgs false
set_option linter.unusedVariables false
open Go Go.RowKit
theorem Ag.then {S : Nat → Prop} {M M' M'' : List Blk} (h : Ag S M M') (h' : Ag S M' M'') : Ag S M M'' := Ag.trans h h' (fun _ _ e => e)
theorem all_set {c : List SV} (h : c.all SV.one = true) {j : Nat} {v : SV} (hv : v.one = true) : (c.set j v).all SV.one = true := by
  rw [List.all_eq_true] at *
  intro a ha
  rcases List.mem_or_eq_of_mem_set ha with g | rfl
  · exact h a g
  · exact hv
theorem Own.put {M : List Blk} {k : Nat} {x : SV} {cs : List (List SV)} {i : Nat} {c : List SV} (h : Own M k x cs) (hi : cs[i]? = some c) :
    ∃ n cap R ty, x = .sl n 0 cs.length cap ∧ M[n]? = some (.row R ty) ∧ i * k + k ≤ R.length ∧ (∀ j, j < k → R[i * k + j]? = c[j]?) ∧
    ∀ j v, j < k → v.one = true → Own (M.set n (.row (R.set (i * k + j) v) ty)) k x (cs.set i (c.set j v)) := by
  obtain ⟨h0, h1, ⟨rfl, rfl⟩ | ⟨n, cap, zz, ty, rfl, h2, h3⟩⟩ := h
  · cases hi
  have hlk : ∀ c ∈ cs, c.length = k := fun c hc => (h1 c hc).1
  have hil := (List.getElem?_eq_some_iff.1 hi).1
  have hm : (i + 1) * k ≤ cs.length * k := Nat.mul_le_mul_right k (by omega)
  rw [Nat.add_mul, Nat.one_mul] at hm
  refine ⟨n, cap, cs.flatten ++ zz, ty, rfl, h2, by rw [List.length_append, flat_length hlk]; omega, fun j hj => flat_get hlk hi hj, fun j v hj hv => ⟨by rw [List.length_set]; exact h0, fun c' hc' => ?_, .inr ⟨n, cap, zz, ty, by rw [List.length_set], by rw [flat_set i v hlk hi hj]; exact List.getElem?_set_self (kwMem h2), by rw [List.length_set]; exact h3⟩⟩⟩
  rcases List.mem_or_eq_of_mem_set hc' with g | rfl
  · exact h1 c' g
  · have := h1 c (List.mem_of_getElem? hi)
    exact ⟨by rw [List.length_set]; exact this.1, all_set this.2 hv⟩
def OwnB (M : List Blk) (y : SV) (l : List (BitVec 8)) : Prop := l.length ≤ 1000000 ∧ ((y = .sn ∧ l = []) ∨ ∃ n z ty, y = .sl n 0 l.length (l.length + z.length) ∧ M[n]? = some (.row (bS (l ++ z)) ty))
theorem OwnB.one {M : List Blk} {y : SV} {l : List (BitVec 8)} (h : OwnB M y l) : y.one = true := by
  obtain ⟨_, ⟨rfl, _⟩ | ⟨n, z, ty, rfl, _⟩⟩ := h <;> rfl
theorem OwnB.dn {M : List Blk} {y : SV} {l : List (BitVec 8)} (h : OwnB M y l) : NmG (· < M.length) y := by
  intro d e
  obtain ⟨_, ⟨rfl, _⟩ | ⟨n, z, ty, rfl, h⟩⟩ := h
  · cases e
  · cases e; exact kwMem h
theorem OwnB.byt {M : List Blk} {y : SV} {l : List (BitVec 8)} (h : OwnB M y l) : Byt M y l := by
  obtain ⟨h0, ⟨rfl, rfl⟩ | ⟨n, z, ty, rfl, h⟩⟩ := h
  · exact Byt.sn
  · exact Byt.row h (by omega)
theorem OwnB.lenB {M M' : List Blk} {y : SV} {l : List (BitVec 8)} (h : OwnB M y l) {e a b : Nat} {K : SV → Prop} : lenB (.slice e a b) M' y K = K (.i .i64 l.length) := h.byt.lenB
theorem OwnB.ag {S : Nat → Prop} {M M' : List Blk} {y : SV} {l : List (BitVec 8)} (h : OwnB M y l) (hA : Ag S M M') (hn : NmG (fun d => ¬ S d) y) : OwnB M' y l := by
  obtain ⟨h0, h | ⟨n, z, ty, rfl, h⟩⟩ := h
  · exact ⟨h0, .inl h⟩
  · exact ⟨h0, .inr ⟨n, z, ty, rfl, hA.get h (hn n rfl)⟩⟩
def OwnG (M : List Blk) (y : SV) (l : List (BitVec 8)) : Prop := l.length ≤ 1000000 ∧ ((y = .sn ∧ l = []) ∨ ∃ n hd z tl ty, y = .sl n hd.length l.length (l.length + z.length) ∧ M[n]? = some (.row (bS (hd ++ (l ++ (z ++ tl)))) ty))
theorem OwnB.g {M : List Blk} {y : SV} {l : List (BitVec 8)} (h : OwnB M y l) : OwnG M y l := by
  obtain ⟨h0, h | ⟨n, z, ty, rfl, h⟩⟩ := h
  · exact ⟨h0, .inl h⟩
  · exact ⟨h0, .inr ⟨n, [], z, [], ty, rfl, by simpa using h⟩⟩
theorem OwnG.one {M : List Blk} {y : SV} {l : List (BitVec 8)} (h : OwnG M y l) : y.one = true := by
  obtain ⟨_, ⟨rfl, _⟩ | ⟨n, hd, z, tl, ty, rfl, _⟩⟩ := h <;> rfl
theorem OwnG.dn {M : List Blk} {y : SV} {l : List (BitVec 8)} (h : OwnG M y l) : NmG (· < M.length) y := by
  intro d e
  obtain ⟨_, ⟨rfl, _⟩ | ⟨n, hd, z, tl, ty, rfl, h⟩⟩ := h
  · cases e
  · cases e; exact kwMem h
theorem BAt.rowG {M : List Blk} {n : Nat} {hd l z : List (BitVec 8)} {ty : TypeId} (h : M[n]? = some (.row (bS (hd ++ (l ++ z))) ty)) : BAt M n hd.length l := by
  have := BAt.sub (BAt.row (M := M) (n := n) (l := hd ++ l) (z := z) (ty := ty) (by rw [List.append_assoc]; exact h)) (a := hd.length) (k := l.length) (by rw [List.length_append]; omega)
  rwa [Nat.zero_add, List.drop_left, List.take_length] at this
theorem OwnG.byt {M : List Blk} {y : SV} {l : List (BitVec 8)} (h : OwnG M y l) : Byt M y l := by
  obtain ⟨h0, ⟨rfl, rfl⟩ | ⟨n, hd, z, tl, ty, rfl, h⟩⟩ := h
  · exact Byt.sn
  · refine ⟨by omega, .inr (.inr ⟨n, _, _, rfl, BAt.rowG h, ?_⟩)⟩
    by_cases e : hd ++ (l ++ (z ++ tl)) = []
    · obtain ⟨rfl, e2⟩ := List.append_eq_nil_iff.1 e
      obtain ⟨rfl, e3⟩ := List.append_eq_nil_iff.1 e2
      obtain ⟨rfl, rfl⟩ := List.append_eq_nil_iff.1 e3
      exact .inr ⟨rfl, rfl, ty, h⟩
    · refine .inl ?_
      have := List.length_pos_iff.2 e
      rw [liveN_eq, h]
      simp only [liveB_row, bS_length, decide_eq_true_eq]
      exact this
theorem OwnG.lenB {M M' : List Blk} {y : SV} {l : List (BitVec 8)} (h : OwnG M y l) {e a b : Nat} {K : SV → Prop} : lenB (.slice e a b) M' y K = K (.i .i64 l.length) := h.byt.lenB
theorem OwnG.ag {S : Nat → Prop} {M M' : List Blk} {y : SV} {l : List (BitVec 8)} (h : OwnG M y l) (hA : Ag S M M') (hn : NmG (fun d => ¬ S d) y) : OwnG M' y l := by
  obtain ⟨h0, h | ⟨n, hd, z, tl, ty, rfl, h⟩⟩ := h
  · exact ⟨h0, .inl h⟩
  · exact ⟨h0, .inr ⟨n, hd, z, tl, ty, rfl, hA.get h (hn n rfl)⟩⟩
def offS : SV → Nat
  | .sl _ off _ _ => off
  | _ => 0
theorem OwnG.put {M : List Blk} {y : SV} {l : List (BitVec 8)} (h : OwnG M y l) {j : Nat} (hj : j < l.length) : ∃ n off cap R ty, y = .sl n off l.length cap ∧ M[n]? = some (.row R ty) ∧ off + j < R.length ∧ R[off + j]? = some (.u8 (l.getD j 0#8)) ∧
    ∀ v, OwnG (M.set n (.row (R.set (off + j) (.u8 v)) ty)) y (l.set j v) := by
  obtain ⟨h0, ⟨rfl, rfl⟩ | ⟨n, hd, z, tl, ty, rfl, h⟩⟩ := h
  · cases hj
  · refine ⟨n, _, _, _, ty, rfl, h, by rw [bS_length, List.length_append, List.length_append]; omega, ?_, fun v => ⟨by rw [List.length_set]; exact h0, .inr ⟨n, hd, z, tl, ty, by rw [List.length_set], ?_⟩⟩⟩
    · unfold bS
      rw [List.getElem?_map, List.getElem?_append_right (by omega), Nat.add_sub_cancel_left, List.getElem?_append_left hj, List.getElem?_eq_getElem hj, List.getD_eq_getElem?_getD, List.getElem?_eq_getElem hj]; rfl
    · rw [List.getElem?_set_self (kwMem h)]
      have : (bS (hd ++ (l ++ (z ++ tl)))).set (hd.length + j) (.u8 v) = bS (hd ++ (l.set j v ++ (z ++ tl))) := by
        unfold bS
        rw [← List.set_append_left _ _ hj, ← List.map_set, List.set_append_right _ _ (by omega), Nat.add_sub_cancel_left]
      rw [this]
structure BookR (R : List SV) (base pass : Int) (f : Nat → SV) : Prop where
  len : R.length = 53
  b : R[0]? = some (.i .i64 base)
  p : R[1]? = some (.i .i64 pass)
  f : ∀ j, 2 ≤ j → j < 53 → R[j]? = some (f j) ∧ (f j).one = true
theorem BookR.set {R : List SV} {base pass : Int} {f : Nat → SV} (h : BookR R base pass f) {j : Nat} {v : SV} (h2 : 2 ≤ j) (h53 : j < 53) (hv : v.one = true) : BookR (R.set j v) base pass (fun i => if i = j then v else f i) := by
  refine ⟨by rw [List.length_set]; exact h.len, by rw [List.getElem?_set_ne (by omega)]; exact h.b, by rw [List.getElem?_set_ne (by omega)]; exact h.p, fun i hi hi' => ?_⟩
  by_cases e : i = j
  · subst e
    rw [if_pos rfl, List.getElem?_set_self (by rw [h.len]; exact h53)]
    exact ⟨rfl, hv⟩
  · rw [if_neg e, List.getElem?_set_ne (Ne.symm e)]
    exact h.f i hi hi'
theorem BookR.pass {R : List SV} {base pass : Int} {f : Nat → SV} (h : BookR R base pass f) (p' : Int) : BookR (R.set 1 (.i .i64 p')) base p' f := by
  refine ⟨by rw [List.length_set]; exact h.len, by rw [List.getElem?_set_ne (by omega)]; exact h.b, by rw [List.getElem?_set_self (by rw [h.len]; omega)], fun i hi hi' => ?_⟩
  rw [List.getElem?_set_ne (by omega)]
  exact h.f i hi hi'
def Bk (M : List Blk) (b : Nat) (base pass : Int) (f : Nat → SV) : Prop := ∃ R ty, M[b]? = some (.row R ty) ∧ BookR R base pass f
theorem Bk.ag {S : Nat → Prop} {M M' : List Blk} {b : Nat} {base pass : Int} {f : Nat → SV} (h : Bk M b base pass f) (hA : Ag S M M') (hn : ¬ S b) : Bk M' b base pass f := by
  obtain ⟨R, ty, h1, h2⟩ := h
  exact ⟨R, ty, hA.get h1 hn, h2⟩
def SlO (M : List Blk) (x : SV) (es : List SV) : Prop := Own M 1 x (es.map fun e => [e])
def KB (M : List Blk) (c : Nat → Nat) (ks : List (SV × List (BitVec 8))) : Prop := ∀ (i : Nat) e, ks[i]? = some e → OwnG M e.1 e.2 ∧ NmG (fun n => c n = 6 + i) e.1
theorem KB.ag {S : Nat → Prop} {M M' : List Blk} {c c' : Nat → Nat} {ks : List (SV × List (BitVec 8))} (h : KB M c ks) (hA : Ag S M M') (hc : ∀ n, n < M.length → 6 ≤ c n → c' n = c n) (hS : ∀ n, n < M.length → 6 ≤ c n → ¬ S n) : KB M' c' ks := fun i e he => by
  obtain ⟨h1, h2⟩ := h i e he
  exact ⟨h1.ag hA (fun d hd => hS d (h1.dn d hd) (by have := h2 d hd; omega)), fun d hd => (hc d (h1.dn d hd) (by have := h2 d hd; omega)).trans (h2 d hd)⟩
theorem KB.step {M M' : List Blk} {c : Nat → Nat} {ks : List (SV × List (BitVec 8))} (h : KB M c ks) {i : Nat} {e : SV × List (BitVec 8)} (hi : ks[i]? = some e) {l : List (BitVec 8)} (ho : OwnG M' e.1 l) (hA : Ag (fun d => c d = 6 + i) M M') : KB M' c (ks.set i (e.1, l)) := by
  have hil := (List.getElem?_eq_some_iff.1 hi).1
  intro j a ha
  by_cases g : j = i
  · subst g
    rw [List.getElem?_set_self hil] at ha; cases ha
    exact ⟨ho, (h j e hi).2⟩
  · rw [List.getElem?_set_ne (Ne.symm g)] at ha
    obtain ⟨h1, h2⟩ := h j a ha
    exact ⟨h1.ag hA (fun d hd e => by have := h2 d hd; omega), h2⟩
def bM (pass id j : Int) : BitVec 8 :=
  if pass = 1 then BitVec.ofInt 8 (IntKind.i64.wrap (IntKind.i64.wrap (id * 97) + IntKind.i64.wrap (j * 31)))
  else BitVec.ofInt 8 (IntKind.i64.wrap (IntKind.i64.wrap (IntKind.i64.wrap (IntKind.i64.wrap (IntKind.i64.wrap (id.tdiv 256) * 59) + IntKind.i64.wrap (j * 13)) + IntKind.i64.wrap (id.tmod 256 * 3)) + 1))
theorem byteMark_ok (b : Nat) (base pass id j : Int) (F : Nat → SV) (M : List Blk) (K : SV → List Blk → Prop) (h : Bk M b base pass F) (hK : K (.u8 (bM pass id j)) M) :
    callVC Tryz.prog 136 [.p b 0, .i .i64 id, .i .i64 j] M K := by
  obtain ⟨R, ty, hb, hR⟩ := h
  have hl := hR.len
  obtain ⟨i1, i2⟩ := isI_of hR.p
  refine fn_rule tabOK Tryz.func136 rfl Tryz.call136 (by kernel_rfl) (fun hM => ?_)
  (refine top_in ?_; simp -implicitDefEqProofs only [Tryz.ntmps136, Tryz.results136, go_sem, -List.reduceReplicate, ↓L_gdZ_tt, ↓L_gdZ_tf, ↓L_gdZ_ft, ↓L_gdZ_ff, ↓T_and, ↓T_imp, ↓T_all, hb, i1, i2, hl]; try simp only [top_out])
  refine ⟨fun e => dropC_self hM rfl ?_, fun e => dropC_self hM rfl ?_⟩
  · unfold bM at hK; rw [if_pos (beqT e)] at hK; exact hK
  · unfold bM at hK; rw [if_neg (beqF e)] at hK; exact hK
def markL (pass id : Int) (n : Nat) : List (BitVec 8) := (List.range n).map fun (j : Nat) => bM pass id j
theorem markL_len (pass id : Int) (n : Nat) : (markL pass id n).length = n := by simp [markL]
theorem markL_get (pass id : Int) {n j : Nat} (h : j < n) : (markL pass id n)[j]? = some (bM pass id j) := by
  unfold markL
  rw [List.getElem?_map, List.getElem?_range h]; rfl
theorem markL_getD (pass id : Int) {n j : Nat} (h : j < n) : (markL pass id n).getD j 0#8 = bM pass id j := by rw [List.getD_eq_getElem?_getD, markL_get pass id h]; rfl
theorem mark_ext {pass id : Int} {l : List (BitVec 8)} (h : ∀ j, j < l.length → l.getD j 0#8 = bM pass id j) : l = markL pass id l.length := by
  refine List.ext_getElem? (fun j => ?_)
  rcases Nat.lt_or_ge j l.length with g | g
  · rw [markL_get pass id g, ← h j g, List.getD_eq_getElem?_getD, List.getElem?_eq_getElem g]; rfl
  · rw [List.getElem?_eq_none g, List.getElem?_eq_none (by rw [markL_len]; exact g)]
set_option maxHeartbeats 1000000 in
theorem bytesShow_ok (b : Nat) (base pass id : Int) (F : Nat → SV) (y : SV) (l : List (BitVec 8)) (M : List Blk) (K : SV → List Blk → Prop) (h : Bk M b base pass F) (hy : Byt M y l) (hl : l.length ≤ 1000000) (hK : K (.b (decide (l = markL pass id l.length))) M) :
    callVC Tryz.prog 153 [.p b 0, y, .i .i64 id] M K := by
  have ly : ∀ {M' : List Blk} {e a' b' : Nat} {K : SV → Prop}, lenB (.slice e a' b') M' y K = K (.i .i64 l.length) := hy.lenB
  have o1 := hy.one
  refine fn_rule tabOK Tryz.func153 rfl Tryz.call153 (by kernel_rfl) (fun hM => ?_)
  (refine top_in ?_; simp -implicitDefEqProofs only [Tryz.ntmps153, Tryz.results153, go_sem, -List.reduceReplicate, ↓L_gdZ_tt, ↓L_gdZ_tf, ↓L_gdZ_ft, ↓L_gdZ_ff, ↓T_and, ↓T_imp, ↓T_all, ly, o1]; try simp only [top_out])
  refine loop_code tabOK (by kernel_rfl) (fun m ts M' => ∃ k : Nat, k + m = l.length ∧ M' = M ∧ (∀ j, j < k → l.getD j 0#8 = bM pass id j) ∧ frC [some (.p b 0), some (y), some (.i .i64 id), none, none, none, none, some (.i .i64 k), none, none, none, none, none, none, none, none, none, none, none, none, none, none, none, none, none, none, none, none] ts) l.length ?_ ?_
  · exact ⟨0, by omega, rfl, fun j h => by omega, by simp [frC]⟩
  · rintro m ts M ⟨k, hk, rfl, hj, hf⟩
    obtain ⟨f, rfl⟩ := frC_open _ _ 0 hf
    clear hf
    (refine top_in ?_; simp -implicitDefEqProofs only [go_sem, -List.reduceReplicate, ↓L_gdZ_tt, ↓L_gdZ_tf, ↓L_gdZ_ft, ↓L_gdZ_ff, ↓T_and, ↓T_imp, ↓T_all, ly, o1]; try simp only [top_out])
    refine ⟨fun c1 => ?_, fun c1 => ?_⟩
    · refine byteMark_ok b base pass id k F _ _ h ?_
      obtain ⟨n, off, cap, rfl, l1, ea⟩ := hy.at (by omega)
      obtain ⟨g1, g2, g3⟩ := ea k (by omega)
      (refine top_in ?_; simp -implicitDefEqProofs only [go_sem, -List.reduceReplicate, ↓L_gdZ_tt, ↓L_gdZ_tf, ↓L_gdZ_ft, ↓L_gdZ_ff, ↓T_and, ↓T_imp, ↓T_all, g1, g2]; try simp only [top_out])
      repeat (with_reducible refine And.intro (by omega) ?_)
      refine ⟨fun c2 => ?_, fun c2 => ?_⟩
      · refine dropC_self hM rfl ?_
        rw [decide_eq_false (fun e => ?_)] at hK
        · exact hK
        · rw [e, markL_getD pass id (by omega)] at c2
          simp at c2
      · refine ⟨m - 1, by omega, k + 1, by omega, fun j hj2 => ?_, w64 (by omega) (by omega)⟩
        rcases Nat.lt_or_ge j k with g | g
        · exact hj j g
        · obtain rfl : j = k := by omega
          simpa using c2
    · obtain rfl : k = l.length := by omega
      refine dropC_self hM rfl ?_
      rw [decide_eq_true (mark_ext hj)] at hK
      exact hK
def markTo (pass id : Int) (ks : List (SV × List (BitVec 8))) (i : Nat) : List (SV × List (BitVec 8)) := ks.mapIdx fun k e => if k < i then (e.1, markL pass (id + (k : Int) + 1) e.2.length) else e
theorem markTo_len (pass id : Int) (ks : List (SV × List (BitVec 8))) (i : Nat) : (markTo pass id ks i).length = ks.length := by simp [markTo]
theorem markTo_get {pass id : Int} {ks : List (SV × List (BitVec 8))} {i k : Nat} {e : SV × List (BitVec 8)} (h : ks[k]? = some e) : (markTo pass id ks i)[k]? = some (if k < i then (e.1, markL pass (id + (k : Int) + 1) e.2.length) else e) := by
  unfold markTo
  rw [List.getElem?_mapIdx, h]; rfl
theorem markTo_zero (pass id : Int) (ks : List (SV × List (BitVec 8))) : markTo pass id ks 0 = ks := by
  refine List.ext_getElem? (fun k => ?_)
  cases h : ks[k]? with
  | none => unfold markTo; rw [List.getElem?_mapIdx, h]; rfl
  | some e => rw [markTo_get h, if_neg (by omega)]
theorem markTo_succ {pass id : Int} {ks : List (SV × List (BitVec 8))} {i : Nat} {e : SV × List (BitVec 8)} (h : ks[i]? = some e) : markTo pass id ks (i + 1) = (markTo pass id ks i).set i (e.1, markL pass (id + (i : Int) + 1) e.2.length) := by
  have hl := (List.getElem?_eq_some_iff.1 h).1
  refine List.ext_getElem? (fun k => ?_)
  by_cases g : k = i
  · subst g
    rw [markTo_get h, if_pos (by omega), List.getElem?_set_self (by rw [markTo_len]; exact hl)]
  · rw [List.getElem?_set_ne (Ne.symm g)]
    cases hk : ks[k]? with
    | none => unfold markTo; rw [List.getElem?_mapIdx, List.getElem?_mapIdx, hk]; rfl
    | some a =>
      rw [markTo_get hk, markTo_get hk]
      by_cases g2 : k < i
      · rw [if_pos g2, if_pos (by omega)]
      · rw [if_neg g2, if_neg (by omega)]
theorem markTo_fst (pass id : Int) (ks : List (SV × List (BitVec 8))) (i : Nat) : (markTo pass id ks i).map (·.1) = ks.map (·.1) := by
  refine List.ext_getElem? (fun k => ?_)
  rw [List.getElem?_map, List.getElem?_map]
  cases hk : ks[k]? with
  | none => unfold markTo; rw [List.getElem?_mapIdx, hk]; rfl
  | some a =>
    rw [markTo_get hk]
    split <;> rfl
theorem SlO.at {M : List Blk} {x : SV} {es : List SV} (h : SlO M x es) {i : Nat} {y : SV} (hi : es[i]? = some y) : ∃ n cap, x = .sl n 0 es.length cap ∧ n < M.length ∧ i < (cellsB M[n]?).length ∧ (cellsB M[n]?).getD i uS = y := by
  obtain ⟨n, cap, R, ty, hx, g1, g2, g3, _⟩ := Own.put h (i := i) (c := [y]) (by rw [List.getElem?_map, hi]; rfl)
  rw [List.length_map] at hx
  have := g3 0 (by decide)
  rw [Nat.mul_one] at g2 this
  refine ⟨n, cap, hx, kwMem g1, ?_, ?_⟩
  · rw [g1]; simp only [cellsB]; omega
  · rw [g1]; exact getD_of this
theorem SlO.lenB {M M' : List Blk} {x : SV} {es : List SV} (h : SlO M x es) {e a b : Nat} {K : SV → Prop} : lenB (.slice e a b) M' x K = K (.i .i64 es.length) := by
  have := (Own.lst h (by decide)).lenB (M' := M') (e := e) (a := a) (b := b) (K := K)
  rw [this, List.length_map]
theorem SlO.ag {S : Nat → Prop} {M M' : List Blk} {x : SV} {es : List SV} (h : SlO M x es) (hA : Ag S M M') (hn : NmG (fun d => ¬ S d) x) : SlO M' x es := Own.ag h hA hn
set_option maxHeartbeats 2000000 in
theorem bytesWrite_ok (b : Nat) (base pass id : Int) (F : Nat → SV) (c : Nat → Nat) (ks : List (SV × List (BitVec 8))) (M : List Blk) (K : SV → List Blk → Prop) (h : Bk M b base pass F) (cb : c b = 1) (hx : SlO M (F 2) (ks.map (·.1))) (cx : NmG (fun n => c n = 2) (F 2)) (hk : KB M c ks) (hid : 0 ≤ id ∧ id ≤ 1000000) (hl : ks.length ≤ 1000000)
    (hK : ∀ M', KB M' c (markTo pass id ks ks.length) → Ag (fun n => 6 ≤ c n) M M' → K (.i .i64 (id + ks.length)) M') :
    callVC Tryz.prog 61 [.p b 0, .i .i64 id] M K := by
  have hB := h
  obtain ⟨R, ty, hb, hR⟩ := h
  have hl3 := hR.len
  obtain ⟨h2, o2⟩ := hR.f 2 (by decide) (by decide)
  have g2 := getD_of h2
  have lx : ∀ {M' : List Blk} {e a' b' : Nat} {K : SV → Prop}, lenB (.slice e a' b') M' (F 2) K = K (.i .i64 ks.length) := by intro M' e a' b' K; rw [hx.lenB, List.length_map]
  refine fn_rule tabOK Tryz.func61 rfl Tryz.call61 (by kernel_rfl) (fun hM => ?_)
  (refine top_in ?_; simp -implicitDefEqProofs only [Tryz.ntmps61, Tryz.results61, go_sem, -List.reduceReplicate, ↓L_gdZ_tt, ↓L_gdZ_tf, ↓L_gdZ_ft, ↓L_gdZ_ff, ↓T_and, ↓T_imp, ↓T_all, hb, g2, hl3]; try simp only [top_out])
  refine loop_code tabOK (by kernel_rfl) (fun m ts M' => ∃ i : Nat, i + m = ks.length ∧ KB M' c (markTo pass id ks i) ∧ Ag (fun n => 6 ≤ c n) M M' ∧ frC [some (.p b 0), some (.i .i64 (id + (i : Int))), none, none, none, some (.i .i64 i), none, none, none, none, none, none, none, none, none, none, none, none, none, none, none, none, none, none, none, none, none, none, none, none, none, none, none, none, none, none, none, none, none, none, none, none, none, none] ts) ks.length ?_ ?_
  · exact ⟨0, by omega, by rw [markTo_zero]; exact hk, Ag.refl, by simp [frC]⟩
  · rintro m ts M1 ⟨i, him, hk1, hA, hf⟩
    have hm := hA.1
    have hb1 := hA.get hb (by rw [cb]; decide)
    have hx1 := hx.ag hA (fun d hd e => by have := cx d hd; omega)
    obtain ⟨f, rfl⟩ := frC_open _ _ 0 hf
    clear hf
    (refine top_in ?_; simp -implicitDefEqProofs only [go_sem, -List.reduceReplicate, ↓L_gdZ_tt, ↓L_gdZ_tf, ↓L_gdZ_ft, ↓L_gdZ_ff, ↓T_and, ↓T_imp, ↓T_all, hb1, g2, hl3, o2, lx]; try simp only [top_out])
    refine ⟨fun c1 => ?_, fun c1 => ?_⟩
    · obtain ⟨e, he⟩ : ∃ e, ks[i]? = some e := ⟨_, List.getElem?_eq_getElem (by omega)⟩
      have w1 : IntKind.i64.wrap (id + (i : Int) + 1) = id + (i : Int) + 1 := w64 (by omega) (by omega)
      have hm0 := markTo_get (pass := pass) (id := id) (i := i) he
      rw [if_neg (by omega)] at hm0
      have hml := markTo_len pass id ks i
      obtain ⟨nx, cx2, hxs, lx1, lx2, gx⟩ := hx1.at (i := i) (y := e.1) (by rw [List.getElem?_map, he]; rfl)
      rw [List.length_map] at hxs
      have hxne : ¬ 6 ≤ c nx := by have := cx nx (by rw [hxs]; rfl); omega
      refine loop_code tabOK (by kernel_rfl) (fun m ts M' => ∃ (j : Nat) (l : List (BitVec 8)), j + m = e.2.length ∧ KB M' c ((markTo pass id ks i).set i (e.1, l)) ∧ l.length = e.2.length ∧ (∀ q, q < j → l.getD q 0#8 = bM pass (id + (i : Int) + 1) q) ∧ Ag (fun n => 6 ≤ c n) M1 M' ∧ frC [some (.p b 0), some (.i .i64 (id + (i : Int) + 1)), none, none, none, some (.i .i64 i), some (.i .i64 j), none, none, none, none, none, none, none, none, none, none, none, none, none, none, none, none, none, none, none, none, none, none, none, none, none, none, none, none, none, none, none, none, none, none, none, none, none] ts) e.2.length ?_ ?_
      · refine ⟨0, e.2, by omega, ?_, rfl, fun q h => by omega, Ag.refl, by simp [frC, w1]⟩
        rw [show (markTo pass id ks i).set i (e.1, e.2) = markTo pass id ks i from ?_]
        · exact hk1
        · obtain ⟨h1, h2⟩ := List.getElem?_eq_some_iff.1 hm0
          rw [← h2]; exact List.set_getElem_self h1
      · rintro m2 ts M2 ⟨j, l, hjm, hk2, hll, hlq, hA2, hf⟩
        have hb2 := hA2.get hb1 (by rw [cb]; decide)
        have hset : ((markTo pass id ks i).set i (e.1, l))[i]? = some (e.1, l) := List.getElem?_set_self (by omega)
        obtain ⟨ho, hoc⟩ := hk2 i _ hset
        have ly : ∀ {M' : List Blk} {e' a' b' : Nat} {K : SV → Prop}, lenB (.slice e' a' b') M' e.1 K = K (.i .i64 l.length) := ho.lenB
        have oy := ho.one
        have gx2 : (cellsB M2[nx]?).getD i uS = e.1 := by rw [hA2.2 nx lx1 hxne]; exact gx
        have lx3 : i < (cellsB M2[nx]?).length := by rw [hA2.2 nx lx1 hxne]; exact lx2
        simp only at oy
        obtain ⟨f, rfl⟩ := frC_open _ _ 0 hf
        clear hf
        (refine top_in ?_; simp -implicitDefEqProofs only [go_sem, -List.reduceReplicate, ↓L_gdZ_tt, ↓L_gdZ_tf, ↓L_gdZ_ft, ↓L_gdZ_ff, ↓T_and, ↓T_imp, ↓T_all, hb2, g2, hl3, o2, hxs, gx2, ly, oy]; try simp only [top_out])
        repeat (with_reducible refine And.intro (by omega) ?_)
        refine ⟨fun c2 => ?_, fun c2 => ?_⟩
        · obtain ⟨n, off, cap, R3, ty3, hy, p1, p2, p3, p4⟩ := ho.put (j := j) (by simp only; omega)
          simp only at hy p4
          have hn6 : c n = 6 + i := hoc n (by rw [hy]; rfl)
          refine draw_rule tabOK (by kernel_rfl : _) (.p 0 (.p 1 (.p 2 (.p 3 (.p 4 (.p 5 (.p 6 (.p 7 (.p 8 (.p 9 (.p 10 (.e 11 [1, 2, 3, 5, 6] (.p 12 (.e 13 [] .nil .no)) .no)))))))))))) (by kernel_rfl) (by kernel_rfl) ?_
          (refine top_in ?_; simp -implicitDefEqProofs only [go_sem, -List.reduceReplicate, ↓L_gdZ_tt, ↓L_gdZ_tf, ↓L_gdZ_ft, ↓L_gdZ_ff, ↓T_and, ↓T_imp, ↓T_all, hb2, g2, hl3, o2, hxs, gx2, ly, oy, hy]; try simp only [top_out])
          repeat (with_reducible refine And.intro (by omega) ?_)
          refine byteMark_ok b base pass _ _ F M2 _ (hB.ag (hA.then hA2) (by rw [cb]; decide)) ?_
          (refine top_in ?_; simp -implicitDefEqProofs only [go_sem, -List.reduceReplicate, ↓L_gdZ_tt, ↓L_gdZ_tf, ↓L_gdZ_ft, ↓L_gdZ_ff, ↓T_and, ↓T_imp, ↓T_all, hb2, g2, hl3, o2, hxs, gx2, ly, oy, hy, p1]; try simp only [top_out])
          repeat (with_reducible refine And.intro (by omega) ?_)
          have hA3 : Ag (fun d => c d = 6 + i) M2 (M2.set n (.row (R3.set (off + j) (.u8 (bM pass (id + (i : Int) + 1) j))) ty3)) := Ag.set hn6
          have hk3 := hk2.step hset (p4 (bM pass (id + (i : Int) + 1) j)) hA3
          rw [List.set_set] at hk3
          have hl6 : l.length ≤ 1000000 := ho.1
          simp only [← hy]
          refine ⟨m2 - 1, by omega, j + 1, l.set j (bM pass (id + (i : Int) + 1) j), by omega, hk3, by rw [List.length_set]; exact hll, fun q hq => ?_, hA2.then (hA3.mono (fun d e => by omega)), w64 (by omega) (by omega)⟩
          rw [List.getD_eq_getElem?_getD]
          by_cases e : q = j
          · subst e
            rw [List.getElem?_set_self (by omega)]; rfl
          · rw [List.getElem?_set_ne (Ne.symm e), ← List.getD_eq_getElem?_getD]
            exact hlq q (by omega)
        · obtain rfl : j = l.length := by omega
          refine ⟨m - 1, by omega, i + 1, by omega, ?_, hA.then hA2, ?_⟩
          · rw [markTo_succ he, ← hll, ← mark_ext hlq]; exact hk2
          · exact ⟨by omega, w64 (by omega) (by omega)⟩
    · obtain rfl : i = ks.length := by omega
      exact dropC_all hm (hK M1 hk1 hA)
def Shows (M : List Blk) (pass id : Int) (y : SV) : Prop := ∃ h, Byt M y h ∧ h.length ≤ 1000000 ∧ h = markL pass id h.length
theorem Shows.ag {S : Nat → Prop} {M M' : List Blk} {pass id : Int} {y : SV} (h : Shows M pass id y) (hA : Ag S M M') (hn : NmG (fun d => ¬ S d) y) : Shows M' pass id y := by
  obtain ⟨l, h1, h2⟩ := h
  exact ⟨l, h1.ag hA hn, h2⟩
set_option maxHeartbeats 2000000 in
theorem bytesHold_ok (b : Nat) (base pass id : Int) (F : Nat → SV) (xs gs : List SV) (M : List Blk) (K : SV → List Blk → Prop) (h : Bk M b base pass F) (hx : SlO M (F 2) xs) (hg : SlO M (F 4) gs) (hxm : ∀ (i : Nat) y, xs[i]? = some y → Shows M pass (id + (i : Int) + 1) y) (hgm : ∀ (i : Nat) y, gs[i]? = some y → Shows M pass (id + (i : Int) + 1) y) (hid : 0 ≤ id ∧ id ≤ 1000000) (hl : xs.length ≤ 1000000)
    (hK : K (.tup [.i .i64 (id + xs.length), .b true]) M) :
    callVC Tryz.prog 78 [.p b 0, .i .i64 id] M K := by
  have hB := h
  obtain ⟨R, ty, hb, hR⟩ := h
  have hl3 := hR.len
  obtain ⟨h2, o2⟩ := hR.f 2 (by decide) (by decide)
  have g2 := getD_of h2
  obtain ⟨h4, o4⟩ := hR.f 4 (by decide) (by decide)
  have g4 := getD_of h4
  have lx : ∀ {M' : List Blk} {e a' b' : Nat} {K : SV → Prop}, lenB (.slice e a' b') M' (F 2) K = K (.i .i64 xs.length) := hx.lenB
  have lg : ∀ {M' : List Blk} {e a' b' : Nat} {K : SV → Prop}, lenB (.slice e a' b') M' (F 4) K = K (.i .i64 gs.length) := hg.lenB
  refine fn_rule tabOK Tryz.func78 rfl Tryz.call78 (by kernel_rfl) (fun hM => ?_)
  (refine top_in ?_; simp -implicitDefEqProofs only [Tryz.ntmps78, Tryz.results78, go_sem, -List.reduceReplicate, ↓L_gdZ_tt, ↓L_gdZ_tf, ↓L_gdZ_ft, ↓L_gdZ_ff, ↓T_and, ↓T_imp, ↓T_all, hb, g2, hl3]; try simp only [top_out])
  refine loop_code tabOK (by kernel_rfl) (fun m ts M' => ∃ i : Nat, i + m = xs.length ∧ M' = M ∧ frC [some (.p b 0), some (.i .i64 (id + (i : Int))), none, none, none, none, some (.b true), some (.i .i64 i), none, none, none, none, none, none, none, none, none, none, none, none, none, none, none, none, none, none, none, none, none, none, none, none, none, none, none, none, none, none, none, none, none, none, none, none, none, none, none, none, none, none, none, none, none, none, none, none, none, none] ts) xs.length ?_ ?_
  · exact ⟨0, by omega, rfl, by simp [frC]⟩
  · rintro m ts M ⟨i, him, rfl, hf⟩
    obtain ⟨f, rfl⟩ := frC_open _ _ 0 hf
    clear hf
    (refine top_in ?_; simp -implicitDefEqProofs only [go_sem, -List.reduceReplicate, ↓L_gdZ_tt, ↓L_gdZ_tf, ↓L_gdZ_ft, ↓L_gdZ_ff, ↓T_and, ↓T_imp, ↓T_all, hb, g2, hl3, o2, lx]; try simp only [top_out])
    refine ⟨fun c1 => ?_, fun c1 => ?_⟩
    · obtain ⟨y, hy⟩ : ∃ y, xs[i]? = some y := ⟨_, List.getElem?_eq_getElem (by omega)⟩
      obtain ⟨l, hy1, hy2, hy3⟩ := hxm i y hy
      have w1 : IntKind.i64.wrap (id + (i : Int) + 1) = id + (i : Int) + 1 := w64 (by omega) (by omega)
      obtain ⟨nx, cx2, hxs, lx1, lx2, gx⟩ := hx.at hy
      have oy := hy1.one
      (refine top_in ?_; simp -implicitDefEqProofs only [go_sem, -List.reduceReplicate, ↓L_gdZ_tt, ↓L_gdZ_tf, ↓L_gdZ_ft, ↓L_gdZ_ff, ↓T_and, ↓T_imp, ↓T_all, hb, g2, hl3, o2, hxs, gx, oy, w1]; try simp only [top_out])
      repeat (with_reducible refine And.intro (by omega) ?_)
      refine bytesShow_ok b base pass _ F y l M _ hB hy1 hy2 ?_
      rw [decide_eq_true hy3]
      (refine top_in ?_; simp -implicitDefEqProofs only [go_sem, -List.reduceReplicate, ↓L_gdZ_tt, ↓L_gdZ_tf, ↓L_gdZ_ft, ↓L_gdZ_ff, ↓T_and, ↓T_imp, ↓T_all, hb, g2, g4, hl3, o2, o4, lg, oy, w1]; try simp only [top_out])
      refine ⟨fun c2 => ?_, fun c2 => ?_⟩
      · obtain ⟨z, hz⟩ : ∃ z, gs[i]? = some z := ⟨_, List.getElem?_eq_getElem (by omega)⟩
        obtain ⟨lz, hz1, hz2, hz3⟩ := hgm i z hz
        obtain ⟨ng, cg2, hgs, lg1, lg2, gz⟩ := hg.at hz
        have oz := hz1.one
        (refine top_in ?_; simp -implicitDefEqProofs only [go_sem, -List.reduceReplicate, ↓L_gdZ_tt, ↓L_gdZ_tf, ↓L_gdZ_ft, ↓L_gdZ_ff, ↓T_and, ↓T_imp, ↓T_all, hb, hgs, gz, oz, w1]; try simp only [top_out])
        repeat (with_reducible refine And.intro (by omega) ?_)
        refine bytesShow_ok b base pass _ F z lz M _ hB hz1 hz2 ?_
        rw [decide_eq_true hz3]
        (refine top_in ?_; simp -implicitDefEqProofs only [go_sem, -List.reduceReplicate, ↓L_gdZ_tt, ↓L_gdZ_tf, ↓L_gdZ_ft, ↓L_gdZ_ff, ↓T_and, ↓T_imp, ↓T_all, hb, g2, g4, hl3, o2, o4, lg, oy, oz, w1]; try simp only [top_out])
        exact ⟨m - 1, by omega, i + 1, by omega, by omega, w64 (by omega) (by omega)⟩
      · exact ⟨m - 1, by omega, i + 1, by omega, by omega, w64 (by omega) (by omega)⟩
    · obtain rfl : i = xs.length := by omega
      exact dropC_all (Nat.le_refl _) hK
set_option maxHeartbeats 2000000 in
theorem keep_ok (b : Nat) (base pass : Int) (F : Nat → SV) (c : Nat → Nat) (xs ws : List SV) (y : SV) (l : List (BitVec 8)) (M : List Blk) (K : SV → List Blk → Prop) (h : Bk M b base pass F) (cb : c b = 1) (hx : SlO M (F 2) xs) (cx : NmG (fun n => c n = 2) (F 2)) (hw : SlO M (F 3) ws) (cw : NmG (fun n => c n = 3) (F 3)) (hy : Byt M y l) (cy : NmG (fun n => c n ≠ 1 ∧ c n ≠ 2 ∧ c n ≠ 3) y) (hxl : xs.length ≤ 100000) (hwl : ws.length ≤ 100000)
    (hK : ∀ (v : SV) (M' : List Blk) (F' : Nat → SV) (c' : Nat → Nat) (w : SV), (∀ j, j ≠ 2 → j ≠ 3 → F' j = F j) → Bk M' b base pass F' → (∀ n, n < M.length → c' n = c n) → SlO M' (F' 2) (xs ++ [y]) → NmG (fun n => c' n = 2) (F' 2) → SlO M' (F' 3) (ws ++ [w]) → NmG (fun n => c' n = 3) (F' 3) → Byt M' w l → NmG (fun n => c' n = 5) w → Ag (fun n => c n = 1 ∨ c n = 2 ∨ c n = 3) M M' → K v M') :
    callVC Tryz.prog 18 [.p b 0, y] M K := by
  have hB := h
  obtain ⟨R, ty, hb, hR⟩ := h
  have hl3 := hR.len
  obtain ⟨h2, o2⟩ := hR.f 2 (by decide) (by decide)
  have g2 := getD_of h2
  have oy := hy.one
  obtain ⟨h3, o3⟩ := hR.f 3 (by decide) (by decide)
  have q1 := cellsS_one oy
  have g3 := getD_of h3
  have hbl := kwMem hb
  refine fn_rule tabOK Tryz.func18 rfl Tryz.call18 (by kernel_rfl) (fun hM => ?_)
  (refine top_in ?_; simp -implicitDefEqProofs only [Tryz.ntmps18, Tryz.results18, go_sem, -List.reduceReplicate, ↓L_gdZ_tt, ↓L_gdZ_tf, ↓L_gdZ_ft, ↓L_gdZ_ff, ↓T_and, ↓T_imp, ↓T_all, hb, g2, hl3, oy, o2, q1]; try simp only [top_out])
  refine ⟨by decide, appK (xs.map fun e => [e]) [[y]] rfl (by decide) (by decide) (by decide) rfl rfl rfl (Own.app hx) (fun c' hc => by rw [List.mem_singleton.1 hc]; exact ⟨rfl, by simp [oy]⟩) (src_one (by rw [get_app0]; rfl) rfl) (by simp; omega) (fun M1 s1 w1 n1 A1 => ?_)⟩
  have hb1 := A1.get ((get_lt hbl).trans hb) (fun e => by have := cx b e; omega)
  have m1 := A1.1
  have os1 := w1.one
  have hbl1 := kwMem hb1
  have hR1 := hR.set (j := 2) (v := s1) (by decide) (by decide) os1
  (refine top_in ?_; simp -implicitDefEqProofs only [go_sem, -List.reduceReplicate, ↓L_gdZ_tt, ↓L_gdZ_tf, ↓L_gdZ_ft, ↓L_gdZ_ff, ↓T_and, ↓T_imp, ↓T_all, hb1, hl3, os1, cellsS_one os1]; try simp only [top_out])
  generalize hF1 : (fun i => if i = 2 then s1 else F i) = F1 at hR1
  have hM2 : Ag (fun n => n = b) M1 (M1.set b (.row (R.set 2 s1) ty)) := Ag.set rfl
  have hb2 : (M1.set b (.row (R.set 2 s1) ty))[b]? = some (.row (R.set 2 s1) ty) := gss0 hbl1
  generalize M1.set b (.row (R.set 2 s1) ty) = M2 at hM2 hb2 ⊢
  have hl4 := hR1.len
  have g3' : (R.set 2 s1).getD 3 uS = F 3 := by rw [List.getD_eq_getElem?_getD, List.getElem?_set_ne (by decide), h3]; rfl
  refine draw_rule tabOK (by kernel_rfl : _) (.p 0 (.p 1 (.p 2 (.p 3 (.p 4 (.p 5 (.e 6 [2, 3, 4] (.e 7 [2, 3, 4] (.e 8 [] (.p 9 (.p 10 (.e 11 [] .nil .no))) .no) .no) .no))))))) (by kernel_rfl) (by kernel_rfl) ?_
  (refine top_in ?_; simp -implicitDefEqProofs only [go_sem, -List.reduceReplicate, ↓L_gdZ_tt, ↓L_gdZ_tf, ↓L_gdZ_ft, ↓L_gdZ_ff, ↓T_and, ↓T_imp, ↓T_all, hb2, hl4, g3', o3, oy]; try simp only [top_out])
  have hA2 : Ag (fun n => c n = 1 ∨ c n = 2) M M2 := Ag.trans (S' := fun n => dnS (F 2) = some n ∨ n = b) Ag.app (Ag.trans (S' := fun n => n = b) (A1.mono (fun n e => .inl e)) hM2 (fun n _ e => .inr e)) (fun n _ h => by
    rcases h with h | h
    · exact .inr (cx n h)
    · exact .inl (h ▸ cb))
  have hy2 := hy.ag hA2 (fun d hd => by have := cy d hd; omega)
  refine bytes_byt y l M2 _ hy2 (fun M3 w bw nw A3 => ?_)
  have hb3 := A3.get hb2 (fun e => e)
  have ow := bw.one
  have hbl3 := kwMem hb3
  (refine top_in ?_; simp -implicitDefEqProofs only [go_sem, -List.reduceReplicate, ↓L_gdZ_tt, ↓L_gdZ_tf, ↓L_gdZ_ft, ↓L_gdZ_ff, ↓T_and, ↓T_imp, ↓T_all, get_lt hbl3, hb3, hl4, g3', o3, oy, ow, cellsS_one ow]; try simp only [top_out])
  have hA3 := hA2.then (A3.mono (fun _ e => e.elim))
  have m3 := A3.1
  have m2 := hM2.1
  simp only [List.length_append, List.length_singleton] at m1 n1
  have hw3 : SlO M3 (F 3) ws := hw.ag hA3 (fun d hd h => by have := cw d hd; omega)
  refine ⟨by decide, appK (ws.map fun e => [e]) [[w]] rfl (by decide) (by decide) (by decide) rfl rfl rfl (Own.app hw3) (fun c' hc => by rw [List.mem_singleton.1 hc]; exact ⟨rfl, by simp [ow]⟩) (src_one (by rw [get_app0]; rfl) rfl) (by simp; omega) (fun M4 s2 w2 n2 A4 => ?_)⟩
  have hb4 := A4.get ((get_lt hbl3).trans hb3) (fun e => by have := cw b e; omega)
  have os2 := w2.one
  have hbl4 := kwMem hb4
  have m4 := A4.1
  simp only [List.length_append, List.length_singleton] at m4 n2
  have hR2 := hR1.set (j := 3) (v := s2) (by decide) (by decide) os2
  (refine top_in ?_; simp -implicitDefEqProofs only [go_sem, -List.reduceReplicate, ↓L_gdZ_tt, ↓L_gdZ_tf, ↓L_gdZ_ft, ↓L_gdZ_ff, ↓T_and, ↓T_imp, ↓T_all, hb4, hl4, os2, cellsS_one os2]; try simp only [top_out])
  have hM5 : Ag (fun n => n = b) M4 (M4.set b (.row ((R.set 2 s1).set 3 s2) ty)) := Ag.set rfl
  have hs1 : ∀ d, dnS s1 = some d → d = M.length + 1 := fun d e => n1 d e
  have hs2 : ∀ d, dnS s2 = some d → d = M3.length + 1 := fun d e => n2 d e
  have hA5 : Ag (fun n => c n = 1 ∨ c n = 2 ∨ c n = 3) M (M4.set b (.row ((R.set 2 s1).set 3 s2) ty)) := Ag.trans (S' := fun n => dnS (F 3) = some n ∨ n = b) (hA3.mono (fun n e => by omega)) (Ag.trans (S' := fun n => dnS (F 3) = some n ∨ n = b) Ag.app (Ag.trans (S' := fun n => n = b) (A4.mono (fun n e => .inl e)) hM5 (fun n _ e => .inr e)) (fun n _ e => e)) (fun n _ h => by
    rcases h with h | h
    · exact .inr (.inr (cw n h))
    · exact .inl (h ▸ cb))
  have e2 : (if (2 : Nat) = 3 then s2 else F1 2) = s1 := by rw [if_neg (by decide), ← hF1]; rfl
  have e3 : (if (3 : Nat) = 3 then s2 else F1 3) = s2 := if_pos rfl
  have hwn : ∀ d, dnS (F 3) = some d → d < M.length := fun d e => Own.dn hw d e
  refine dropC_all (by have := hA5.1; exact this) (hK _ _ (fun i => if i = 3 then s2 else F1 i) (fun n => if n < M.length then c n else if dnS s1 = some n then 2 else if dnS s2 = some n then 3 else 5) w (fun j h2 h3 => by rw [if_neg h3, ← hF1]; exact if_neg h2) ⟨_, ty, gss0 hbl4, hR2⟩ (fun n hn => if_pos hn) ?_ ?_ ?_ ?_ ?_ ?_ hA5)
  all_goals clear hK
  · rw [e2]
    have t : SlO M1 s1 (xs ++ [y]) := by
      show Own M1 1 s1 ((xs ++ [y]).map fun e => [e])
      rw [List.map_append]; exact w1
    exact ((((t.ag hM2 (fun d e h => by have := hs1 d e; omega)).ag A3 (fun _ _ e => e)).ag (S := fun _ => False) Ag.app (fun _ _ e => e)).ag A4 (fun d e h => by have := hs1 d e; have := Own.dn hw d h; omega)).ag hM5 (fun d e h => by have := hs1 d e; omega)
  · intro d e
    rw [e2] at e
    have := hs1 d e
    rw [if_neg (by omega), if_pos e]
  · rw [e3]
    have t : SlO M4 s2 (ws ++ [w]) := by
      show Own M4 1 s2 ((ws ++ [w]).map fun e => [e])
      rw [List.map_append]; exact w2
    exact t.ag hM5 (fun d e h => by have := hs2 d e; omega)
  · intro d e
    rw [e3] at e
    have h2' := hs2 d e
    rw [if_neg (by omega), if_neg (fun h => by have := hs1 d h; have := w1.dn d h; omega), if_pos e]
  · exact (((bw.app).ag A4 (fun d e h => by have := nw d e; have := Own.dn hw d h; omega))).ag hM5 (fun d e h => by have := nw d e; omega)
  · intro d e
    have h1' := nw d e
    have h2' := bw.dn d e
    rw [if_neg (by omega), if_neg (fun h => by have := hs1 d h; have := w1.dn d h; omega), if_neg (fun h => by have := hs2 d h; omega)]
def SameOff (x y : SV) : Prop := ∀ d, dnS x = some d → dnS y = some d → offS x = offS y
theorem app1 {T : Tab} {M : List Blk} {ts tx e : TypeId} {K : SV → List Blk → Prop} {y x : SV} {l : List (BitVec 8)} (w : BitVec 8) (htk : T.k ts = .slice e 1 1) (hz : T.z e = some [.u8 0#8]) (hx : nonInt (T.k tx) = true) (h : OwnG M y l) (hsrc : SrcIs M x [w]) (hb : l.length + 1 ≤ 1000000)
    (hK : ∀ M' y', OwnG M' y' (l ++ [w]) → NmG (fun n => dnS y = some n ∨ n = M.length) y' → Ag (fun n => dnS y = some n) M M' → (∀ p lp, Byt M p lp → lp.length ≤ l.length → SameOff p y → Byt M' p lp) → (∀ d, dnS y' = some d → d < M.length → offS y' = offS y) → K y' M') : appendC T M ts tx y x K := by
  obtain ⟨h0, ⟨rfl, rfl⟩ | ⟨n, hd, z, tl, ty, rfl, hB⟩⟩ := h
  · refine app8n [w] htk hz hx hsrc (by simp) (fun z' ty' => ?_)
    refine hK _ _ ⟨by simp, .inr ⟨M.length, [], z', [], ty', by simp, by rw [get_app0]; simp⟩⟩ (fun d e => by cases e; exact .inr rfl) Ag.app (fun p lp hp _ _ => hp.app) (fun d e h => by cases e; omega)
  · have hn := kwMem hB
    have hce : cellsAt M n = bS (hd ++ (l ++ (z ++ tl))) := by simp [cellsAt, hB]
    refine .inl ?_
    unfold appendA
    rw [htk]
    refine ⟨hx, by decide, by decide, hsrc _ ?_⟩
    simp only [List.length_cons, List.length_nil, Nat.zero_add]
    refine ⟨fun hle => ?_, fun hlt => ?_⟩
    · rw [hB]
      simp only
      refine ⟨by simp only [bS_length, List.length_append]; omega, ?_⟩
      obtain ⟨z0, z1, rfl⟩ : ∃ z0 z1, z = z0 :: z1 := by
        cases z with
        | nil => exact absurd hle (by simp)
        | cons a b => exact ⟨a, b, rfl⟩
      have hs : splice (bS (hd ++ (l ++ (z0 :: z1 ++ tl)))) (hd.length + l.length * 1) (bS [w]) = bS (hd ++ (l ++ [w] ++ (z1 ++ tl))) := by
        unfold splice
        have e1 : (bS (hd ++ (l ++ (z0 :: z1 ++ tl)))).take (hd.length + l.length * 1) = bS (hd ++ l) := by rw [Nat.mul_one, bS_take, ← List.append_assoc, ← List.length_append, List.take_left]
        have e2 : (bS (hd ++ (l ++ (z0 :: z1 ++ tl)))).drop (hd.length + l.length * 1 + (bS [w]).length) = bS (z1 ++ tl) := by
          rw [Nat.mul_one, bS_length, bS_drop]
          congr 1
          rw [← List.drop_drop, ← List.append_assoc, ← List.length_append, List.drop_left]; rfl
        rw [e1, e2, bS_append, bS_append]
        simp only [List.append_assoc]
      rw [hs]
      have hrow : (M.set n (.row (bS (hd ++ (l ++ [w] ++ (z1 ++ tl)))) ty))[n]? = some (.row (bS (hd ++ (l ++ [w] ++ (z1 ++ tl)))) ty) := gss0 hn
      have hA : Ag (fun d => dnS (.sl n hd.length l.length (l.length + (z0 :: z1).length)) = some d) M (M.set n (.row (bS (hd ++ (l ++ [w] ++ (z1 ++ tl)))) ty)) := Ag.set rfl
      have := hK _ (.sl n hd.length (l.length + 1) (l.length + (z0 :: z1).length)) ⟨by simp; omega, .inr ⟨n, hd, z1, tl, ty, by simp; omega, hrow⟩⟩ (fun d e => by cases e; exact .inl rfl) hA (fun p lp hp h1 h2 => ?_) (fun d e h => rfl)
      · simpa using this
      · by_cases e : dnS p = some n
        · obtain ⟨q0, ⟨rfl, _⟩ | ⟨a, rfl, _⟩ | ⟨n', off', cap', rfl, q1, q2⟩⟩ := hp
          · cases e
          · cases e
          · cases e
            have ho : off' = hd.length := h2 n rfl rfl
            subst ho
            have q3 := q1.cells
            rw [hce, bS_drop, List.drop_left, bS_take, List.take_append_of_le_length h1] at q3
            refine ⟨q0, .inr (.inr ⟨n, _, cap', rfl, ⟨by simpa using hn, ?_, ?_⟩, .inl ?_⟩)⟩
            · simp only [cellsAt, hrow, cellsB, bS_length, List.length_append]; omega
            · simp only [cellsAt, hrow, cellsB]
              rw [bS_drop, List.drop_left, bS_take, List.append_assoc, List.take_append_of_le_length h1]
              exact q3
            · rw [liveN_eq, hrow]
              simp only [liveB_row, bS_length, List.length_append, decide_eq_true_eq]
              simp; omega
        · exact hp.ag hA (fun d hd h => e (by rw [hd]; cases h; rfl))
    · refine ⟨?_, by rw [hce]; simp only [bS_length, List.length_append]; omega, ?_⟩
      · have := growslice_fits (need := l.length + 1) (old := l.length + z.length) (bytes := 1) hlt (by omega)
        omega
      · rw [hz]
        simp only
        intro c hc
        rw [hce, Nat.mul_one, bS_drop, List.drop_left, bS_take, List.take_left]
        obtain ⟨z', hz', hzl⟩ : ∃ z' : List (BitVec 8), zerosS [.u8 0#8] (c - (l.length + 1)) = bS z' ∧ z'.length = c - (l.length + 1) := by
          generalize c - (l.length + 1) = k
          refine ⟨List.replicate k 0#8, ?_, by simp⟩
          unfold zerosS bS
          induction k with
          | zero => rfl
          | succ k ih => rw [List.replicate_succ, List.flatten_cons, ih, List.replicate_succ, List.map_cons]; rfl
        rw [hz', show bS l ++ bS [w] ++ bS z' = bS (l ++ [w] ++ z') by rw [bS_append, bS_append]]
        have := hK (M ++ [.row (bS (l ++ [w] ++ z')) e]) (.sl M.length 0 (l.length + 1) c) ⟨by simp; omega, .inr ⟨M.length, [], z', [], e, by simp; omega, by rw [get_app0]; simp⟩⟩ (fun d e => by cases e; exact .inr rfl) Ag.app (fun p lp hp _ _ => hp.app) (fun d e h => by cases e; omega)
        exact this
def Pair (M : List Blk) (pass id : Int) (x y : SV) (N : Nat) : Prop := ∃ lx ly, Byt M x lx ∧ OwnG M y ly ∧ lx.length ≤ ly.length ∧ lx = markL pass id lx.length ∧ ly = markL pass id ly.length ∧ ly.length ≤ N ∧ SameOff x y
theorem Pair.ag {S : Nat → Prop} {M M' : List Blk} {pass id : Int} {x y : SV} {N : Nat} (h : Pair M pass id x y N) (hA : Ag S M M') (hx : NmG (fun d => ¬ S d) x) (hy : NmG (fun d => ¬ S d) y) : Pair M' pass id x y N := by
  obtain ⟨lx, ly, h1, h2, h3⟩ := h
  exact ⟨lx, ly, h1.ag hA hx, h2.ag hA hy, h3⟩
def PG (M : List Blk) (c : Nat → Nat) (pass id : Int) (ps : List (SV × SV)) (N i : Nat) : Prop := ∀ (k : Nat) p, ps[k]? = some p → Pair M pass (id + (k : Int) + 1) p.1 p.2 (if k < i then N + 1 else N) ∧ NmG (fun n => c n = 6 + k) p.1 ∧ NmG (fun n => c n = 6 + k) p.2
theorem PG.ag {S : Nat → Prop} {M M' : List Blk} {c c' : Nat → Nat} {pass id : Int} {ps : List (SV × SV)} {N i : Nat} (h : PG M c pass id ps N i) (hA : Ag S M M') (hc : ∀ n, n < M.length → c' n = c n) (hS : ∀ n, n < M.length → 6 ≤ c n → ¬ S n) : PG M' c' pass id ps N i := fun k p hp => by
  obtain ⟨h1, h2, h3⟩ := h k p hp
  obtain ⟨lx, ly, q1, q2, q3⟩ := h1
  have hx := fun d hd => q1.dn d hd
  have hy := fun d hd => q2.dn d hd
  exact ⟨⟨lx, ly, q1.ag hA (fun d hd => hS d (hx d hd) (by have := h2 d hd; omega)), q2.ag hA (fun d hd => hS d (hy d hd) (by have := h3 d hd; omega)), q3⟩, fun d hd => (hc d (hx d hd)).trans (h2 d hd), fun d hd => (hc d (hy d hd)).trans (h3 d hd)⟩
theorem markL_succ (pass id : Int) (n : Nat) : markL pass id (n + 1) = markL pass id n ++ [bM pass id (n : Int)] := by
  unfold markL
  rw [List.range_succ, List.map_append]; rfl
theorem set_same' {α : Type} {l : List α} {k : Nat} {a : α} (h : l[k]? = some a) : l.set k a = l := by
  obtain ⟨h1, h2⟩ := List.getElem?_eq_some_iff.1 h
  rw [← h2]; exact List.set_getElem_self h1
theorem take_set_succ {α : Type} {l : List α} {i : Nat} {q : α} (h : i < l.length) : (l.set i q).take (i + 1) = l.take i ++ [q] := by
  refine List.ext_getElem? (fun k => ?_)
  rcases Nat.lt_trichotomy k i with g | g | g
  · rw [List.getElem?_take_of_lt (by omega), List.getElem?_set_ne (by omega), List.getElem?_append_left (by rw [List.length_take]; omega), List.getElem?_take_of_lt g]
  · subst g
    rw [List.getElem?_take_of_lt (by omega), List.getElem?_set_self h, List.getElem?_append_right (by rw [List.length_take]; omega), List.length_take, Nat.min_eq_left (by omega), Nat.sub_self]; rfl
  · rw [List.getElem?_eq_none (by rw [List.length_take, List.length_set]; omega), List.getElem?_eq_none (by rw [List.length_append, List.length_take]; simp; omega)]
set_option maxHeartbeats 4000000 in
set_option maxRecDepth 20000 in
theorem bytesGrow_ok (b : Nat) (base pass id : Int) (t : Nat) (F : Nat → SV) (c : Nat → Nat) (ps : List (SV × SV)) (N : Nat) (M : List Blk) (K : SV → List Blk → Prop) (h : Bk M b base pass F) (cb : c b = 1) (hx : SlO M (F 2) (ps.map (·.1))) (cx : NmG (fun n => c n = 2) (F 2)) (hg : SlO M (F 4) (if t = 0 then [] else ps.map (·.2))) (cg : NmG (fun n => c n = 4) (F 4)) (hps : PG M c pass id ps N 0) (hsame : t = 0 → ∀ (k : Nat) p, ps[k]? = some p → p.2 = p.1)
    (hN : N < 1000000) (hid : 0 ≤ id ∧ id ≤ 1000000) (hl : ps.length ≤ 100000) (ht : t ≤ 1000)
    (hK : ∀ (M' : List Blk) (F' : Nat → SV) (c' : Nat → Nat) (ps' : List (SV × SV)), ps'.map (·.1) = ps.map (·.1) → Bk M' b base pass F' → (∀ j, j ≠ 4 → F' j = F j) → (∀ n, n < M.length → c' n = c n) → SlO M' (F' 4) (ps'.map (·.2)) → NmG (fun n => c' n = 4) (F' 4) → PG M' c' pass id ps' N ps.length → Ag (fun n => c n = 1 ∨ c n = 4 ∨ 6 ≤ c n) M M' → K (.i .i64 (id + ps.length)) M') :
    callVC Tryz.prog 95 [.p b 0, .i .i64 id, .i .i64 t] M K := by
  have hB := h
  obtain ⟨R, ty, hb, hR⟩ := h
  have hl3 := hR.len
  obtain ⟨h2, o2⟩ := hR.f 2 (by decide) (by decide)
  have g2 := getD_of h2
  have lx : ∀ {M' : List Blk} {e a' b' : Nat} {K : SV → Prop}, lenB (.slice e a' b') M' (F 2) K = K (.i .i64 ps.length) := by intro M' e a' b' K; rw [hx.lenB, List.length_map]
  have hbl := kwMem hb
  refine fn_rule tabOK Tryz.func95 rfl Tryz.call95 (by kernel_rfl) (fun hM => ?_)
  (refine top_in ?_; simp -implicitDefEqProofs only [Tryz.ntmps95, Tryz.results95, go_sem, -List.reduceReplicate, ↓L_gdZ_tt, ↓L_gdZ_tf, ↓L_gdZ_ft, ↓L_gdZ_ff, ↓T_and, ↓T_imp, ↓T_all, hb, g2, hl3]; try simp only [top_out])
  refine loop_code tabOK (by kernel_rfl) (fun m ts M' => ∃ (i : Nat) (ps1 : List (SV × SV)) (F1 : Nat → SV) (c1 : Nat → Nat), i + m = ps.length ∧ ps1.map (·.1) = ps.map (·.1) ∧ (t = 0 → ∀ (k : Nat) p, i ≤ k → ps1[k]? = some p → p.2 = p.1) ∧ Bk M' b base pass F1 ∧ (∀ j, j ≠ 4 → F1 j = F j) ∧ (∀ n, n < M.length → c1 n = c n) ∧ SlO M' (F1 4) (if t = 0 then (ps1.take i).map (·.2) else ps1.map (·.2)) ∧ NmG (fun n => c1 n = 4) (F1 4) ∧ PG M' c1 pass id ps1 N i ∧ Ag (fun n => c n = 1 ∨ c n = 4 ∨ 6 ≤ c n) M M' ∧ frC (some (.p b 0) :: some (.i .i64 (id + (i : Int))) :: some (.i .i64 t) :: none :: none :: none :: none :: some (.i .i64 i) :: none :: none :: none :: none :: none :: none :: none :: none :: none :: none :: none :: none :: none :: none :: none :: none :: none :: none :: none :: none :: none :: none :: none :: none :: none :: none :: none :: none :: none :: none :: none :: none :: none :: none :: none :: none :: none :: none :: none :: none :: none :: none :: none :: none :: none :: none :: none :: none :: none :: none :: none :: none :: none :: none :: none :: none :: none :: none :: []) ts) ps.length ?_ ?_
  · exact ⟨0, ps, F, c, by omega, rfl, fun h k p _ hp => hsame h k p hp, hB, fun _ _ => rfl, fun _ _ => rfl, by simpa using hg, cg, hps, Ag.refl, by simp [frC]⟩
  · rintro m ts M1 ⟨i, ps1, F1, c1, him, hfst, hsm, hB1, hF1, hc1, hg1, cg1, hps1, hA, hf⟩
    have hm := hA.1
    have hpl : ps1.length = ps.length := by rw [← List.length_map (f := fun p : SV × SV => p.1), hfst, List.length_map]
    have hx1 : SlO M1 (F 2) (ps1.map (·.1)) := by rw [hfst]; exact hx.ag hA (fun d hd e => by have := cx d hd; omega)
    have hBk1 := hB1
    obtain ⟨R1, ty1, hb1, hR1⟩ := hB1
    have hl1 := hR1.len
    obtain ⟨h21, o21⟩ := hR1.f 2 (by decide) (by decide)
    rw [hF1 2 (by decide)] at h21 o21
    have g21 := getD_of h21
    obtain ⟨h41, o41⟩ := hR1.f 4 (by decide) (by decide)
    have g41 := getD_of h41
    obtain ⟨f, rfl⟩ := frC_open _ _ 0 hf
    clear hf
    (refine top_in ?_; simp -implicitDefEqProofs only [go_sem, -List.reduceReplicate, ↓L_gdZ_tt, ↓L_gdZ_tf, ↓L_gdZ_ft, ↓L_gdZ_ff, ↓T_and, ↓T_imp, ↓T_all, hb1, g21, hl1, o21, lx]; try simp only [top_out])
    refine ⟨fun e1 => ?_, fun e1 => ?_⟩
    · have w1 : IntKind.i64.wrap (id + (i : Int) + 1) = id + (i : Int) + 1 := w64 (by omega) (by omega)
      obtain ⟨p, hp⟩ : ∃ p, ps1[i]? = some p := ⟨_, List.getElem?_eq_getElem (by omega)⟩
      refine ⟨fun e2 => ?_, fun e2 => ?_⟩
      · have ht0 : t = 0 := by have := beqT e2; omega
        rw [if_pos ht0] at hg1
        have hp21 := hsm ht0 i p (by omega) hp
        obtain ⟨nx, cx2, hxs, lx1, lx2, gx⟩ := hx1.at (i := i) (y := p.1) (by rw [List.getElem?_map, hp]; rfl)
        rw [List.length_map, hpl] at hxs
        obtain ⟨⟨la0, ly0, q01, q02, _⟩, n01, n02⟩ := hps1 i p hp
        have ox := q01.one
        have hbl1 := kwMem hb1
        refine draw_rule tabOK (by kernel_rfl : _) (.p 0 (.p 1 (.p 2 (.p 3 (.p 4 (.p 5 (.p 6 (.p 7 (.p 8 (.p 9 (.p 10 (.p 11 (.e 12 [2, 3, 4] (.e 13 [] (.p 14 (.p 15 (.e 16 [] .nil .no))) .no) .no))))))))))))) (by kernel_rfl) (by kernel_rfl) ?_
        (refine top_in ?_; simp -implicitDefEqProofs only [go_sem, -List.reduceReplicate, ↓L_gdZ_tt, ↓L_gdZ_tf, ↓L_gdZ_ft, ↓L_gdZ_ff, ↓T_and, ↓T_imp, ↓T_all, get_lt hbl1, get_lt lx1, hb1, g21, g41, hl1, o21, o41, hxs, gx, ox, cellsS_one ox]; try simp only [top_out])
        repeat (with_reducible refine And.intro (by omega) ?_)
        refine appK (((ps1.take i).map (fun p : SV × SV => p.2)).map fun e => [e]) [[p.1]] rfl (by decide) (by decide) (by decide) rfl rfl rfl (Own.app hg1) (fun c' hc => by rw [List.mem_singleton.1 hc]; exact ⟨rfl, by simp [ox]⟩) (src_one (by rw [get_app0]; rfl) rfl) (by simp; omega) (fun M4 s4 w4 n4 A4 => ?_)
        have hcb1 : c1 b = 1 := (hc1 b hbl).trans cb
        have hti : ((ps1.take i).map (fun p : SV × SV => p.2)).length = i := by rw [List.length_map, List.length_take]; omega
        have hb4 := A4.get ((get_lt hbl1).trans hb1) (fun e => by have := cg1 b e; omega)
        have os4 := w4.one
        have m4 := A4.1
        rw [List.length_append, List.length_singleton] at m4
        have hbl4 := kwMem hb4
        (refine top_in ?_; simp -implicitDefEqProofs only [go_sem, -List.reduceReplicate, ↓L_gdZ_tt, ↓L_gdZ_tf, ↓L_gdZ_ft, ↓L_gdZ_ff, ↓T_and, ↓T_imp, ↓T_all, hb4, hl1, os4, cellsS_one os4]; try simp only [top_out])
        have hR4 := hR1.set (j := 4) (v := s4) (by decide) (by decide) os4
        have hM5 : Ag (fun n => n = b) M4 (M4.set b (.row (R1.set 4 s4) ty1)) := Ag.set rfl
        have hb2 : (M4.set b (.row (R1.set 4 s4) ty1))[b]? = some (.row (R1.set 4 s4) ty1) := gss0 hbl4
        have hl2 := hR4.len
        have g42 : (R1.set 4 s4).getD 4 uS = s4 := by rw [List.getD_eq_getElem?_getD, List.getElem?_set_self (by omega)]; rfl
        have w4n := w4.dn
        have g4n := Own.dn hg1
        obtain ⟨c2, hcd⟩ : ∃ c2 : Nat → Nat, ∀ n, c2 n = if n < M1.length then c1 n else 4 := ⟨_, fun _ => rfl⟩
        have hc2 : ∀ n, n < M.length → c2 n = c n := fun n hn => ((hcd n).trans (if_pos (by omega))).trans (hc1 n hn)
        have hall1 : Ag (fun n => c1 n = 1 ∨ c1 n = 4) M1 (M4.set b (.row (R1.set 4 s4) ty1)) := Ag.trans (S' := fun n => dnS (F1 4) = some n ∨ n = b) Ag.app (Ag.trans (S' := fun n => n = b) (A4.mono (fun n e => .inl e)) hM5 (fun n _ e => .inr e)) (fun n _ e => by
          rcases e with e | e
          · exact .inr (cg1 n e)
          · exact .inl (e ▸ hcb1))
        have hA2 : Ag (fun n => c n = 1 ∨ c n = 4 ∨ 6 ≤ c n) M (M4.set b (.row (R1.set 4 s4) ty1)) := Ag.trans hA hall1 (fun n hn h => by rw [hc1 n hn] at h; omega)
        have hgs2 : SlO (M4.set b (.row (R1.set 4 s4) ty1)) s4 ((ps1.take i).map (·.2) ++ [p.1]) := by
          show Own _ 1 _ (((ps1.take i).map (·.2) ++ [p.1]).map fun e => [e])
          rw [List.map_append]
          exact w4.ag hM5 (fun d hd e => by have := n4 d hd; rw [List.length_append, List.length_singleton] at this; omega)
        have cg2' : NmG (fun n => c2 n = 4) s4 := fun d hd => (hcd d).trans (if_neg (by have := n4 d hd; rw [List.length_append, List.length_singleton] at this; omega))
        have hps2 : PG (M4.set b (.row (R1.set 4 s4) ty1)) c2 pass id ps1 N i := hps1.ag hall1 (fun n hn => (hcd n).trans (if_pos hn)) (fun n _ h e => by omega)
        have hBk2 : Bk (M4.set b (.row (R1.set 4 s4) ty1)) b base pass (fun j => if j = 4 then s4 else F1 j) := ⟨_, ty1, hb2, hR4⟩
        have hF2 : ∀ j, j ≠ 4 → (if j = 4 then s4 else F1 j) = F j := fun j hj => (if_neg hj).trans (hF1 j hj)
        have hgi : ((ps1.take i).map (·.2) ++ [p.1])[i]? = some p.2 := by rw [List.getElem?_append_right (by omega), hti, Nat.sub_self, hp21]; rfl
        have hnext : ∀ y', ((ps1.take i).map (·.2) ++ [p.1]).set i y' = (if t = 0 then ((ps1.set i (p.1, y')).take (i + 1)).map (·.2) else (ps1.set i (p.1, y')).map (·.2)) := fun y' => by
          rw [if_pos ht0, List.set_append_right _ _ (by omega), hti, Nat.sub_self, take_set_succ (by omega), List.map_append]; rfl
        have o42 := os4
        clear hb1 hR1 hl1 h21 o21 g21 h41 o41 g41 hBk1 hps1 hA hg1 cg1 hc1 hF1 hm hx1 hR4 hb4 A4 w4 n4 hM5 hall1 hcb1 hbl1 hbl4 lx1 lx2 gx q01 q02 n01 n02 m4 w4n g4n
        generalize hF2' : (fun j => if j = 4 then s4 else F1 j) = F2 at hBk2
        have f24 : F2 4 = s4 := by rw [← hF2']; rfl
        replace g42 := g42.trans f24.symm
        replace hgs2 : SlO (M4.set b (.row (R1.set 4 s4) ty1)) (F2 4) ((ps1.take i).map (·.2) ++ [p.1]) := by rw [f24]; exact hgs2
        replace cg2' : NmG (fun n => c2 n = 4) (F2 4) := by rw [f24]; exact cg2'
        replace o42 : (F2 4).one = true := by rw [f24]; exact o42
        replace hF2 : ∀ j, j ≠ 4 → F2 j = F j := fun j hj => by rw [← hF2']; exact hF2 j hj
        clear hcd
        generalize M4.set b (.row (R1.set 4 s4) ty1) = M2 at *
        generalize R1.set 4 s4 = R2 at *
        generalize (ps1.take i).map (·.2) ++ [p.1] = gs2 at *
        have hgl := (List.getElem?_eq_some_iff.1 hgi).1
        obtain ⟨ng, cg2, hgs, lg1, lg2, gy⟩ := hgs2.at hgi
        obtain ⟨⟨la, ly, q1, q2, q3, q4, q5, q6, q7⟩, n1, n2⟩ := hps2 i p hp
        rw [if_neg (by omega)] at q6
        have oy := q2.one
        have hbl2 := kwMem hb2
        have lyy : ∀ {M' : List Blk} {e a' b' : Nat} {K : SV → Prop}, lenB (.slice e a' b') M' p.2 K = K (.i .i64 ly.length) := q2.lenB
        (refine top_in ?_; simp -implicitDefEqProofs only [go_sem, -List.reduceReplicate, ↓L_gdZ_tt, ↓L_gdZ_tf, ↓L_gdZ_ft, ↓L_gdZ_ff, ↓T_and, ↓T_imp, ↓T_all, hb2, g42, o42, hl2, hgs, gy, oy, lyy, w1]; try simp only [top_out])
        repeat (with_reducible refine And.intro (by omega) ?_)
        refine byteMark_ok b base pass _ _ F2 M2 _ hBk2 ?_
        refine draw_rule tabOK (by kernel_rfl : _) (.p 0 (.p 1 (.p 2 (.p 3 (.p 4 (.p 5 (.p 6 (.p 7 (.p 8 (.p 9 (.p 10 (.p 11 (.p 12 (.e 13 [1, 2, 3, 6, 7, 8, 10, 11] (.e 14 [1, 2, 3] (.p 15 (.e 16 [] .nil .no)) .no) .no)))))))))))))) (by kernel_rfl) (by kernel_rfl) ?_
        (refine top_in ?_; simp -implicitDefEqProofs only [go_sem, -List.reduceReplicate, ↓L_gdZ_tt, ↓L_gdZ_tf, ↓L_gdZ_ft, ↓L_gdZ_ff, ↓T_and, ↓T_imp, ↓T_all, get_lt hbl2, get_lt lg1, hb2, g42, o42, hl2, hgs, gy, oy, lyy, w1]; try simp only [top_out])
        repeat (with_reducible refine And.intro (by omega) ?_)
        have hcb : c2 b = 1 := (hc2 b hbl).trans cb
        refine app1 (bM pass (id + (i : Int) + 1) ly.length) rfl rfl rfl (q2.ag (S := fun _ => False) Ag.app (fun _ _ e => e)) (src_u8 (by rw [get_app0]; rfl)) (by omega) (fun M3 y' ho hn A3 hpre hoff => ?_)
        have hb3 := A3.get ((get_lt hbl2).trans hb2) (fun e => by have := n2 b e; omega)
        have oy' := ho.one
        have m3 := A3.1
        rw [List.length_append, List.length_singleton] at m3 hn
        have hgs3 : SlO M3 (F2 4) gs2 := (hgs2.ag (S := fun _ => False) Ag.app (fun _ _ e => e)).ag A3 (fun d hd e => by have := cg2' d hd; have := n2 d e; omega)
        obtain ⟨ng', cap', R', ty', hx', r1, r2, r3, r4⟩ := Own.put hgs3 (i := i) (c := [p.2]) (by rw [List.getElem?_map, hgi]; rfl)
        rw [List.length_map] at hx'
        cases hgs.symm.trans hx'
        have r5 := r4 0 y' (by decide) oy'
        simp only [Nat.mul_one, Nat.add_zero] at r2 r5
        (refine top_in ?_; simp -implicitDefEqProofs only [go_sem, -List.reduceReplicate, ↓L_gdZ_tt, ↓L_gdZ_tf, ↓L_gdZ_ft, ↓L_gdZ_ff, ↓T_and, ↓T_imp, ↓T_all, r1, oy', cellsS_one oy', hb3]; try simp only [top_out])
        repeat (with_reducible refine And.intro (by omega) ?_)
        simp only [← hgs]
        refine ⟨⟨⟨by omega, g42⟩, by omega, by omega⟩, by omega, by omega, by omega, by omega, ?_⟩
        have hA4 : Ag (fun n => n = ng) M3 (M3.set ng (.row (R'.set i y') ty')) := Ag.set rfl
        have hng4 : c2 ng = 4 := cg2' ng (by rw [hgs]; rfl)
        have hmm := hA2.1
        have hng2 : ∀ d, dnS p.2 = some d → d ≠ ng := fun d hd e => by have := n2 d hd; rw [e, hng4] at this; omega
        have hall : ∀ {x : SV} {l : List (BitVec 8)}, NmG (fun d => ¬ (dnS p.2 = some d ∨ d = ng)) x → (Byt M2 x l → Byt (M3.set ng (.row (R'.set i y') ty')) x l) ∧ (OwnG M2 x l → OwnG (M3.set ng (.row (R'.set i y') ty')) x l) := fun hx => ⟨fun h => ((h.app).ag A3 (fun d hd e => hx d hd (.inl e))).ag hA4 (fun d hd e => hx d hd (.inr e)), fun h => ((h.ag (S := fun _ => False) Ag.app (fun _ _ e => e)).ag A3 (fun d hd e => hx d hd (.inl e))).ag hA4 (fun d hd e => hx d hd (.inr e))⟩
        refine ⟨m - 1, by omega, i + 1, ps1.set i (p.1, y'), F2, fun n => if n < M2.length then c2 n else 6 + i, by omega, ?_, fun h k q hk hq => hsm h k q (by omega) (by rwa [List.getElem?_set_ne (by omega)] at hq), ((hBk2.ag (S := fun _ => False) Ag.app (fun e => e)).ag A3 (fun e => by have := n2 b e; omega)).ag hA4 (fun e => by rw [e, hng4] at hcb; omega), hF2, fun n hn => (if_pos (by omega)).trans (hc2 n hn), ?_, fun d hd => (if_pos (Own.dn hgs2 d hd)).trans (cg2' d hd), fun k q hq => ?_, Ag.trans hA2 (S' := fun n => n < M2.length → c2 n = 4 ∨ 6 ≤ c2 n) (Ag.app.then ((A3.mono (fun d e _ => .inr (by have := n2 d e; omega))).then (hA4.mono (fun d e _ => .inl (e ▸ hng4))))) (fun n hn h => by
          have := h (by omega)
          rw [hc2 n hn] at this
          exact .inr this), by omega, w64 (by omega) (by omega)⟩
        · rw [List.map_set, ← hfst]
          exact set_same' (by rw [List.getElem?_map, hp]; rfl)
        · rw [← hnext y']
          show Own _ 1 _ ((gs2.set i y').map fun e => [e])
          rw [List.map_set]
          exact r5
        · by_cases ek : k = i
          · subst ek
            rw [List.getElem?_set_self (by omega)] at hq
            cases hq
            refine ⟨⟨la, ly ++ [bM pass (id + (k : Int) + 1) ly.length], ?_, ho.ag hA4 (fun d hd e => ?_), by rw [List.length_append]; omega, q4, by rw [List.length_append, List.length_singleton, markL_succ, ← q5], by rw [if_pos (by omega), List.length_append, List.length_singleton]; omega, fun d hd1 hd2 => ?_⟩, fun d hd => (if_pos (q1.dn d hd)).trans (n1 d hd), fun d hd => ?_⟩
            · exact (hpre p.1 la q1.app q3 q7).ag hA4 (fun d hd e => by have := n1 d hd; rw [e, hng4] at this; omega)
            · rcases hn d hd with g | g
              · exact hng2 d g e
              · omega
            · have hdl := q1.dn d hd1
              rcases hn d hd2 with g | g
              · exact (q7 d hd1 g).trans (hoff d hd2 (by rw [List.length_append]; omega)).symm
              · omega
            · rcases hn d hd with g | g
              · exact (if_pos (q2.dn d g)).trans (n2 d g)
              · exact if_neg (by omega)
          · rw [List.getElem?_set_ne (Ne.symm ek)] at hq
            obtain ⟨⟨lc, ld, z1, z2, z3, z4, z5, z6, z9⟩, z7, z8⟩ := hps2 k q hq
            refine ⟨⟨lc, ld, (hall (fun d hd e => ?_)).1 z1, (hall (fun d hd e => ?_)).2 z2, z3, z4, z5, ?_, z9⟩, fun d hd => (if_pos (z1.dn d hd)).trans (z7 d hd), fun d hd => (if_pos (z2.dn d hd)).trans (z8 d hd)⟩
            · have := z7 d hd
              rcases e with e | e
              · have := n2 d e; omega
              · rw [e, hng4] at this; omega
            · have := z8 d hd
              rcases e with e | e
              · have := n2 d e; omega
              · rw [e, hng4] at this; omega
            · by_cases g : k < i
              · rw [if_pos g] at z6; rw [if_pos (by omega)]; exact z6
              · rw [if_neg g] at z6; rw [if_neg (by omega)]; exact z6
      · have ht0 : t ≠ 0 := by have := beqF e2; omega
        rw [if_neg ht0] at hg1
        have hnext : ∀ y', (ps1.map (·.2)).set i y' = (if t = 0 then ((ps1.set i (p.1, y')).take (i + 1)).map (·.2) else (ps1.set i (p.1, y')).map (·.2)) := fun y' => by rw [if_neg ht0, List.map_set]
        have hgi : (ps1.map (·.2))[i]? = some p.2 := by rw [List.getElem?_map, hp]; rfl
        have hBk2 := hBk1
        have hps2 := hps1
        have hA2 := hA
        have hgs2 := hg1
        have cg2' := cg1
        have hc2 := hc1
        have hF2 := hF1
        have hb2 := hb1
        have hl2 := hl1
        have o42 := o41
        have g42 := g41
        clear hb1 hR1 hl1 h21 o21 g21 h41 o41 g41 hBk1 hps1 hA hg1 cg1 hc1 hF1 hm hx1
        generalize ps1.map (·.2) = gs2 at hnext hgi hgs2
        generalize F1 = F2 at *
        generalize M1 = M2 at *
        generalize R1 = R2 at *
        generalize c1 = c2 at *
        have hgl := (List.getElem?_eq_some_iff.1 hgi).1
        obtain ⟨ng, cg2, hgs, lg1, lg2, gy⟩ := hgs2.at hgi
        obtain ⟨⟨la, ly, q1, q2, q3, q4, q5, q6, q7⟩, n1, n2⟩ := hps2 i p hp
        rw [if_neg (by omega)] at q6
        have oy := q2.one
        have hbl2 := kwMem hb2
        have lyy : ∀ {M' : List Blk} {e a' b' : Nat} {K : SV → Prop}, lenB (.slice e a' b') M' p.2 K = K (.i .i64 ly.length) := q2.lenB
        (refine top_in ?_; simp -implicitDefEqProofs only [go_sem, -List.reduceReplicate, ↓L_gdZ_tt, ↓L_gdZ_tf, ↓L_gdZ_ft, ↓L_gdZ_ff, ↓T_and, ↓T_imp, ↓T_all, hb2, g42, o42, hl2, hgs, gy, oy, lyy, w1]; try simp only [top_out])
        repeat (with_reducible refine And.intro (by omega) ?_)
        refine byteMark_ok b base pass _ _ F2 M2 _ hBk2 ?_
        refine draw_rule tabOK (by kernel_rfl : _) (.p 0 (.p 1 (.p 2 (.p 3 (.p 4 (.p 5 (.p 6 (.p 7 (.p 8 (.p 9 (.p 10 (.p 11 (.p 12 (.e 13 [1, 2, 3, 6, 7, 8, 10, 11] (.e 14 [1, 2, 3] (.p 15 (.e 16 [] .nil .no)) .no) .no)))))))))))))) (by kernel_rfl) (by kernel_rfl) ?_
        (refine top_in ?_; simp -implicitDefEqProofs only [go_sem, -List.reduceReplicate, ↓L_gdZ_tt, ↓L_gdZ_tf, ↓L_gdZ_ft, ↓L_gdZ_ff, ↓T_and, ↓T_imp, ↓T_all, get_lt hbl2, get_lt lg1, hb2, g42, o42, hl2, hgs, gy, oy, lyy, w1]; try simp only [top_out])
        repeat (with_reducible refine And.intro (by omega) ?_)
        have hcb : c2 b = 1 := (hc2 b hbl).trans cb
        refine app1 (bM pass (id + (i : Int) + 1) ly.length) rfl rfl rfl (q2.ag (S := fun _ => False) Ag.app (fun _ _ e => e)) (src_u8 (by rw [get_app0]; rfl)) (by omega) (fun M3 y' ho hn A3 hpre hoff => ?_)
        have hb3 := A3.get ((get_lt hbl2).trans hb2) (fun e => by have := n2 b e; omega)
        have oy' := ho.one
        have m3 := A3.1
        rw [List.length_append, List.length_singleton] at m3 hn
        have hgs3 : SlO M3 (F2 4) gs2 := (hgs2.ag (S := fun _ => False) Ag.app (fun _ _ e => e)).ag A3 (fun d hd e => by have := cg2' d hd; have := n2 d e; omega)
        obtain ⟨ng', cap', R', ty', hx', r1, r2, r3, r4⟩ := Own.put hgs3 (i := i) (c := [p.2]) (by rw [List.getElem?_map, hgi]; rfl)
        rw [List.length_map] at hx'
        cases hgs.symm.trans hx'
        have r5 := r4 0 y' (by decide) oy'
        simp only [Nat.mul_one, Nat.add_zero] at r2 r5
        (refine top_in ?_; simp -implicitDefEqProofs only [go_sem, -List.reduceReplicate, ↓L_gdZ_tt, ↓L_gdZ_tf, ↓L_gdZ_ft, ↓L_gdZ_ff, ↓T_and, ↓T_imp, ↓T_all, r1, oy', cellsS_one oy', hb3]; try simp only [top_out])
        repeat (with_reducible refine And.intro (by omega) ?_)
        simp only [← hgs]
        refine ⟨⟨⟨by omega, g42⟩, by omega, by omega⟩, by omega, by omega, by omega, by omega, ?_⟩
        have hA4 : Ag (fun n => n = ng) M3 (M3.set ng (.row (R'.set i y') ty')) := Ag.set rfl
        have hng4 : c2 ng = 4 := cg2' ng (by rw [hgs]; rfl)
        have hmm := hA2.1
        have hng2 : ∀ d, dnS p.2 = some d → d ≠ ng := fun d hd e => by have := n2 d hd; rw [e, hng4] at this; omega
        have hall : ∀ {x : SV} {l : List (BitVec 8)}, NmG (fun d => ¬ (dnS p.2 = some d ∨ d = ng)) x → (Byt M2 x l → Byt (M3.set ng (.row (R'.set i y') ty')) x l) ∧ (OwnG M2 x l → OwnG (M3.set ng (.row (R'.set i y') ty')) x l) := fun hx => ⟨fun h => ((h.app).ag A3 (fun d hd e => hx d hd (.inl e))).ag hA4 (fun d hd e => hx d hd (.inr e)), fun h => ((h.ag (S := fun _ => False) Ag.app (fun _ _ e => e)).ag A3 (fun d hd e => hx d hd (.inl e))).ag hA4 (fun d hd e => hx d hd (.inr e))⟩
        refine ⟨m - 1, by omega, i + 1, ps1.set i (p.1, y'), F2, fun n => if n < M2.length then c2 n else 6 + i, by omega, ?_, fun h k q hk hq => hsm h k q (by omega) (by rwa [List.getElem?_set_ne (by omega)] at hq), ((hBk2.ag (S := fun _ => False) Ag.app (fun e => e)).ag A3 (fun e => by have := n2 b e; omega)).ag hA4 (fun e => by rw [e, hng4] at hcb; omega), hF2, fun n hn => (if_pos (by omega)).trans (hc2 n hn), ?_, fun d hd => (if_pos (Own.dn hgs2 d hd)).trans (cg2' d hd), fun k q hq => ?_, Ag.trans hA2 (S' := fun n => n < M2.length → c2 n = 4 ∨ 6 ≤ c2 n) (Ag.app.then ((A3.mono (fun d e _ => .inr (by have := n2 d e; omega))).then (hA4.mono (fun d e _ => .inl (e ▸ hng4))))) (fun n hn h => by
          have := h (by omega)
          rw [hc2 n hn] at this
          exact .inr this), by omega, w64 (by omega) (by omega)⟩
        · rw [List.map_set, ← hfst]
          exact set_same' (by rw [List.getElem?_map, hp]; rfl)
        · rw [← hnext y']
          show Own _ 1 _ ((gs2.set i y').map fun e => [e])
          rw [List.map_set]
          exact r5
        · by_cases ek : k = i
          · subst ek
            rw [List.getElem?_set_self (by omega)] at hq
            cases hq
            refine ⟨⟨la, ly ++ [bM pass (id + (k : Int) + 1) ly.length], ?_, ho.ag hA4 (fun d hd e => ?_), by rw [List.length_append]; omega, q4, by rw [List.length_append, List.length_singleton, markL_succ, ← q5], by rw [if_pos (by omega), List.length_append, List.length_singleton]; omega, fun d hd1 hd2 => ?_⟩, fun d hd => (if_pos (q1.dn d hd)).trans (n1 d hd), fun d hd => ?_⟩
            · exact (hpre p.1 la q1.app q3 q7).ag hA4 (fun d hd e => by have := n1 d hd; rw [e, hng4] at this; omega)
            · rcases hn d hd with g | g
              · exact hng2 d g e
              · omega
            · have hdl := q1.dn d hd1
              rcases hn d hd2 with g | g
              · exact (q7 d hd1 g).trans (hoff d hd2 (by rw [List.length_append]; omega)).symm
              · omega
            · rcases hn d hd with g | g
              · exact (if_pos (q2.dn d g)).trans (n2 d g)
              · exact if_neg (by omega)
          · rw [List.getElem?_set_ne (Ne.symm ek)] at hq
            obtain ⟨⟨lc, ld, z1, z2, z3, z4, z5, z6, z9⟩, z7, z8⟩ := hps2 k q hq
            refine ⟨⟨lc, ld, (hall (fun d hd e => ?_)).1 z1, (hall (fun d hd e => ?_)).2 z2, z3, z4, z5, ?_, z9⟩, fun d hd => (if_pos (z1.dn d hd)).trans (z7 d hd), fun d hd => (if_pos (z2.dn d hd)).trans (z8 d hd)⟩
            · have := z7 d hd
              rcases e with e | e
              · have := n2 d e; omega
              · rw [e, hng4] at this; omega
            · have := z8 d hd
              rcases e with e | e
              · have := n2 d e; omega
              · rw [e, hng4] at this; omega
            · by_cases g : k < i
              · rw [if_pos g] at z6; rw [if_pos (by omega)]; exact z6
              · rw [if_neg g] at z6; rw [if_neg (by omega)]; exact z6
    · obtain rfl : i = ps.length := by omega
      refine dropC_all hm (hK M1 F1 _ ps1 hfst hBk1 hF1 hc1 ?_ cg1 hps1 hA)
      split at hg1
      · rwa [List.take_of_length_le (by omega)] at hg1
      · exact hg1
end Go.Proofs.YtdkdbeamimkljaaGreatDoor.Eng
