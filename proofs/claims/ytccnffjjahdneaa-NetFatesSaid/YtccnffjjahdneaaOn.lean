/- What NetFates asks of the other net texts: a script among the arguments, appends, small facts (as in O8, O9, Ob, Oc, Og). -/
import Derived.Test.YtccnffjjahdneaaO3
import Derived.Test.YtccnffjjahdneaaEngP
namespace Go.Proofs.Ytccnffjjahdneaa.Eng
open Go Go.RowKit Go.ChangeShapes Go.WideShapes
set_option linter.unusedSimpArgs false
set_option linter.unusedVariables false
set_option linter.unusedSimpArgs false
set_option linter.unusedVariables false

abbrev Flt := Int × Int × List (BitVec 8)
theorem DatR.lt {M : List Blk} {F : Nat → Prop} {x : SV} {l : List (BitVec 8)} (h : DatR M F x l) : x.one = true ∧ x.lt M.length = true := by
  obtain ⟨_, ⟨rfl, _⟩ | ⟨d, z, ty, rfl, e2, e3⟩⟩ := h
  · exact ⟨rfl, rfl⟩
  · exact ⟨rfl, by simpa [SV.lt] using kw e2⟩
theorem vwE_len (fs : List Ent) : (vwE fs).length = fs.length := by simp [vwE]
/-- a step's value -/
def opS (ki : Int) (se : Bool) (to no xx a : Int) (x : SV) : SV := .agg [.i .i64 ki, .b se, .i .i64 to, .i .i64 no, .i .i64 xx, .i .i64 a, x]
theorem draw_from {P : Program} {bs id : Nat} {ops : Array Oper} {ts : List SV} {M : List Blk} {Q : Exit → List SV → List Blk → Prop} (U : List Blk → Prop) (hU : U M) (h : ∀ M2, U M2 → DrawVC P bs id ops ts M2 Q) : DrawVC P bs id ops ts M Q := h M hU
theorem own : ownKnob Try.prog.godebug = none := by kernel_rfl
theorem laid : laidOutB Try.prog = true := by kernel_rfl
theorem c8 : Try.prog.cellsOf 5 = 1 := by kernel_rfl
theorem b8 : Try.prog.bytesOf 5 = 1 := by kernel_rfl
theorem cInt : Try.prog.cellsOf 3 = 1 := by kernel_rfl
theorem cBool : Try.prog.cellsOf 4 = 1 := by kernel_rfl
theorem cSl : Try.prog.cellsOf 22 = 1 := by kernel_rfl
theorem cOp : Try.prog.cellsOf 43 = 7 := by kernel_rfl
/-- a step as it lies among the arguments -/
def OpR (y : Rec) : Prop := ∃ (ki : Int) (se : Bool) (to no xx a : Int) (l : List (BitVec 8)) (xd : Nat → SV), (∀ m, y.1 m = [.i .i64 ki, .b se, .i .i64 to, .i .i64 no, .i .i64 xx, .i .i64 a, xd m]) ∧ (∀ m, (xd m).one = true) ∧
  (-9223372036854775808 ≤ no ∧ no ≤ 9223372036854775807) ∧ ∀ (M : List Blk) (m : Nat), M[m]? = some y.2 → ArgB M (xd m) l
set_option maxRecDepth 100000 in
theorem rec_op {H : Type} {enc : TypeId × Value → H} {W : World} : RecOf enc Try.prog W 43 OpR := by
  intro n cs x h hsz
  obtain ⟨xs, n', _, hx, hl, hxl, hi⟩ := DataW.trod_struct Try.underlying43 h
  rw [cOp] at hl
  obtain ⟨f0, g0, w0⟩ := field_int hi hxl 0 (ty := 3) (off := 0) rfl Try.underlying3 cInt
  obtain ⟨d1, p1, e1, h1⟩ := field_cell hi hxl 1 (ty := 4) (off := 1) rfl cBool
  obtain ⟨f2, g2, w2⟩ := field_int hi hxl 2 (ty := 3) (off := 2) rfl Try.underlying3 cInt
  obtain ⟨f3, g3, w3⟩ := field_int hi hxl 3 (ty := 3) (off := 3) rfl Try.underlying3 cInt
  obtain ⟨f4, g4, w4⟩ := field_int hi hxl 4 (ty := 3) (off := 4) rfl Try.underlying3 cInt
  obtain ⟨f5, g5, w5⟩ := field_int hi hxl 5 (ty := 3) (off := 5) rfl Try.underlying3 cInt
  obtain ⟨d6, p6, e6, h6⟩ := field_cell hi hxl 6 (ty := 22) (off := 6) rfl cSl
  match cs, hl with
  | [c0, c1, c2, c3, c4, c5, c6], _ =>
    simp at g0 g2 g3 g4 g5
    subst g0 g2 g3 g4 g5
    simp only [List.drop_succ_cons, List.drop_zero, List.take_succ_cons, List.take_zero] at h1 h6
    obtain ⟨b, hb, _⟩ := DataW.trod_bool Try.underlying4 h1
    simp at hb
    subst hb
    have hw6 : ∀ k ∈ d6.weights Try.prog 22, k ≤ reachBytes := by
      intro k hk
      refine hsz k ?_
      rw [hx]
      simp only [DataW.weights, Try.underlying43]
      exact weightsEach_get (i := 6) (t := 22) (d := d6) rfl (by rw [List.getElem?_map, e6]; rfl) hk
    obtain ⟨l, xd, B, a, hin, hden⟩ := bytes_in Try.underlying22 Try.underlying5 c8 b8 h6 hw6
    refine ⟨(fun m => [.i .i64 f0, .b b, .i .i64 f2, .i .i64 f3, .i .i64 f4, .i .i64 f5, xd m], B), a, ⟨f0, b, f2, f3, f4, f5, l, xd, fun _ => rfl, hin.one, wf_i64 w3, hin.bytes⟩, hin.blk, fun m => ⟨by rw [cOp]; rfl, by have := hin.one m; simp only [List.all_cons, List.all_nil, this, Bool.and_true]; rfl, by simp [ltL, SV.lt, hin.lt]⟩, fun ρ m hρ => by simp [denL, den, hden m ρ hρ]⟩
/-- a script of steps in memory -/
structure ScrAt (M : List Blk) (s b : Nat) (l : List Rec) : Prop where
  row : M[s]? = some (.ro (recC b l))
  recs : ∀ i y, l[i]? = some y → OpR y ∧ M[b + i]? = some y.2
theorem ScrAt.ag {S : Nat → Prop} {M M' : List Blk} {s b : Nat} {l : List Rec} (h : ScrAt M s b l) (hA : Ag S M M') (hS : ∀ n, n < M.length → ¬ S n) : ScrAt M' s b l :=
  ⟨hA.get h.row (hS _ (kw h.row)), fun i y hi => ⟨(h.recs i y hi).1, hA.get (h.recs i y hi).2 (hS _ (kw (h.recs i y hi).2))⟩⟩
theorem OpR.len {y : Rec} (h : OpR y) (m : Nat) : (y.1 m).length = 7 := by
  obtain ⟨ki, se, to, no, xx, a, l, xd, h1, _⟩ := h
  rw [h1]; rfl
theorem recC_at {k : Nat} (l : List Rec) (b i j : Nat) (hk : ∀ y, y ∈ l → ∀ m, (y.1 m).length = k) {y : Rec} (h : l[i]? = some y) (hj : j < k) : (recC b l)[i * k + j]? = (y.1 (b + i))[j]? := by
  have := recC_drop l b i hk h []
  rw [List.append_nil] at this
  rw [← this, List.getElem?_take_of_lt hj, List.getElem?_drop]
/-- a step of the script: what is loaded -/
theorem ScrAt.step {M : List Blk} {s b : Nat} {l : List Rec} (h : ScrAt M s b l) {i : Nat} (hi : i < l.length) :
    ∃ ki se to no xx a d x, (recC b l).length = l.length * 7 ∧ ((recC b l).drop (i * 7)).take 7 = [.i .i64 ki, .b se, .i .i64 to, .i .i64 no, .i .i64 xx, .i .i64 a, x] ∧ (recC b l).getD (i * 7 + 1) uS = .b se ∧ (isI .i64 (recC b l) (i * 7) = true ∧ cellI (recC b l) (i * 7) = ki) ∧
      ((isI .i64 (recC b l) (i * 7 + 3) = true ∧ cellI (recC b l) (i * 7 + 3) = no)) ∧ (-9223372036854775808 ≤ no ∧ no ≤ 9223372036854775807) ∧ ArgB M x d := by
  have hk : ∀ y, y ∈ l → ∀ m, (y.1 m).length = 7 := fun y hy m => by
    obtain ⟨j, hj⟩ := List.getElem?_of_mem hy
    exact (h.recs j y hj).1.len m
  have hy : l[i]? = some l[i] := List.getElem?_eq_getElem hi
  generalize l[i] = y at hy
  obtain ⟨⟨ki, se, to, no, xx, a, d, xd, h1, h2, h3, h4⟩, hB⟩ := h.recs i y hy
  have hd := recC_drop l b i hk hy []
  rw [List.append_nil, h1] at hd
  have at' : ∀ j, j < 7 → (recC b l)[i * 7 + j]? = [SV.i .i64 ki, .b se, .i .i64 to, .i .i64 no, .i .i64 xx, .i .i64 a, xd (b + i)][j]? := fun j hj => by rw [recC_at l b i j hk hy hj, h1]
  refine ⟨ki, se, to, no, xx, a, d, xd (b + i), recC_length l b hk, hd, ?_, isI_of (by have := at' 0 (by decide); simpa using this), isI_of (by have := at' 3 (by decide); simpa using this), h3, h4 M (b + i) hB⟩
  rw [List.getD_eq_getElem?_getD, at' 1 (by decide)]; rfl
theorem ArgB.dn {M : List Blk} {x : SV} {l : List (BitVec 8)} (h : ArgB M x l) : ∀ d, dnS x = some d → d < M.length := by
  intro d e
  obtain ⟨_, ⟨rfl, _⟩ | ⟨a, rfl, _⟩ | ⟨n, cap, rfl, _, hb, _⟩⟩ := h
  · cases e
  · cases e
  · cases e; exact hb.lt
theorem ArgB.ag {S : Nat → Prop} {M M' : List Blk} {x : SV} {l : List (BitVec 8)} (h : ArgB M x l) (hA : Ag S M M') (hS : ∀ n, n < M.length → ¬ S n) : Byt M' x l := by
  have hd := h.dn
  exact (h.byt (by have := h.1; omega)).ag hA (fun d e => hS d (hd d e))

/-- elements behind none -/
theorem appGn {T : Tab} {M : List Blk} {ts tx e esz eby : Nat} {K : SV → List Blk → Prop} (z0 y : List SV) (m : Nat) {x : SV} (htk : T.k ts = .slice e esz eby) (he0 : 0 < eby) (he1 : 0 < esz)
    (hz : T.z e = some z0) (hx : nonInt (T.k tx) = true) (hsrc : ∀ K : List SV → Nat → Prop, K y m → srcC M esz x K) (hm : m * eby ≤ 4294967296)
    (hK : ∀ (z' : List SV) (ty' : TypeId) (cap' : Nat), (∀ w, w ∈ z' → w ∈ z0) → m * esz + z'.length = cap' * esz → K (.sl M.length 0 m cap') (M ++ [.row (y ++ z') ty'])) :
    appendC T M ts tx .sn x K := by
  refine .inr (.inl ?_)
  unfold appendN
  rw [htk]
  refine ⟨hx, he0, he1, _, hz, hsrc _ ⟨fun hlt => ?_, fun c sp ty' hc hsp hmm => ?_⟩⟩
  · have := growslice_fits (need := m) (old := 0) (bytes := eby) hlt (by omega)
    omega
  · refine hK sp ty' c hmm (by rw [hsp, Nat.sub_mul]; have := Nat.mul_le_mul_right esz hc; omega)
/-- elements behind elements -/
theorem appGm {T : Tab} {M : List Blk} {ts tx e esz eby : Nat} {K : SV → List Blk → Prop} (z0 : List SV) (n : Nat) (cs zz y : List SV) (m : Nat) (ty : TypeId) {x : SV} {len cap : Nat} (htk : T.k ts = .slice e esz eby) (he0 : 0 < eby) (he1 : 0 < esz)
    (hz : T.z e = some z0) (hx : nonInt (T.k tx) = true) (hB : M[n]? = some (.row (cs ++ zz) ty)) (hlen : cs.length = len * esz) (hcap : len * esz + zz.length = cap * esz)
    (hsrc : ∀ K : List SV → Nat → Prop, K y m → srcC M esz x K) (hzz : ∀ w, w ∈ zz → w ∈ z0) (hb : (len + m) * eby ≤ 4294967296)
    (hK : ∀ (z' : List SV) (ty' : TypeId) (cap' : Nat), (∀ w, w ∈ z' → w ∈ z0) → (len + m) * esz + z'.length = cap' * esz → K (.sl M.length 0 (len + m) cap') (M.set n .dead ++ [.row (cs ++ y ++ z') ty'])) :
    appendC T M ts tx (.sl n 0 len cap) x K := by
  refine .inr (.inl ?_)
  unfold appendN
  rw [htk]
  refine ⟨hx, he0, he1, _, hz, hsrc _ ?_⟩
  have hce : cellsAt M n = cs ++ zz := by simp [cellsAt, hB]
  have hlc : len ≤ cap := by
    have : len * esz ≤ cap * esz := by omega
    exact Nat.le_of_mul_le_mul_right this he1
  refine ⟨rfl, hlc, ⟨_, ty, hB, by rw [List.length_append, hlen]; omega⟩, fun hlt => ?_, fun c sp ty' hc hsp hmm => ?_⟩
  · have := growslice_fits (need := len + m) (old := cap) (bytes := eby) hlt (by omega)
    omega
  · rw [hce] at hmm ⊢
    rw [← hlen] at hmm ⊢
    rw [List.drop_left] at hmm
    rw [List.take_left]
    refine hK sp ty' c (fun w hw => ?_) (by rw [hsp, Nat.sub_mul]; have := Nat.mul_le_mul_right esz hc; omega)
    rcases hmm w hw with h | h
    · exact hzz w h
    · exact h
end Go.Proofs.Ytccnffjjahdneaa.Eng
