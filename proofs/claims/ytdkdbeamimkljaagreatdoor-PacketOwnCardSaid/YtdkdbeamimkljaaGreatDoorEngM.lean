/- The engine, part M: lists of bytes in memory. -/
import Derived.Test.YtdkdbeamimkljaaGreatDoorEngT
import Derived.Laws.Append
namespace Go.Proofs.YtdkdbeamimkljaaGreatDoor.Eng
open Go Go.RowKit
set_option linter.unusedSimpArgs false
set_option linter.unusedVariables false
/-- from cell 'off' of block n on lie the bytes l -/
structure BAt (M : List Blk) (n off : Nat) (l : List (BitVec 8)) : Prop where
  lt : n < M.length
  len : off + l.length ≤ (cellsAt M n).length
  cells : ((cellsAt M n).drop off).take l.length = bS l
theorem get_lt {M L : List Blk} {n : Nat} (h : n < M.length) : (M ++ L)[n]? = M[n]? := List.getElem?_append_left h
theorem cells_lt' {M L : List Blk} {n : Nat} (h : n < M.length) : cellsAt (M ++ L) n = cellsAt M n := by
  unfold cellsAt; rw [get_lt h]
theorem BAt.app {M L : List Blk} {n off : Nat} {l : List (BitVec 8)} (h : BAt M n off l) : BAt (M ++ L) n off l :=
  ⟨by have := h.lt; simp; omega, by rw [cells_lt' h.lt]; exact h.len, by rw [cells_lt' h.lt]; exact h.cells⟩
theorem BAt.get {M : List Blk} {n off : Nat} {l : List (BitVec 8)} (h : BAt M n off l) {j : Nat} (hj : j < l.length) : (cellsB M[n]?)[off + j]? = some (.u8 (l.getD j 0#8)) := by
  have h1 : (((cellsAt M n).drop off).take l.length)[j]? = some (.u8 (l.getD j 0#8)) := by
    rw [h.cells]
    unfold bS
    rw [List.getElem?_map, List.getD_eq_getElem?_getD, List.getElem?_eq_getElem hj]
    rfl
  rw [List.getElem?_take_of_lt hj, List.getElem?_drop] at h1
  exact h1
theorem BAt.is8 {M : List Blk} {n off : Nat} {l : List (BitVec 8)} (h : BAt M n off l) {j : Nat} (hj : j < l.length) : Eng.is8 (cellsB M[n]?) (off + j) = true := by
  unfold Eng.is8; rw [h.get hj]
theorem BAt.cell8 {M : List Blk} {n off : Nat} {l : List (BitVec 8)} (h : BAt M n off l) {j : Nat} (hj : j < l.length) : Eng.cell8 (cellsB M[n]?) (off + j) = l.getD j 0#8 := by
  unfold Eng.cell8; rw [h.get hj]
theorem BAt.le {M : List Blk} {n off : Nat} {l : List (BitVec 8)} (h : BAt M n off l) {j : Nat} (hj : j ≤ l.length) : off + j ≤ (cellsB M[n]?).length := by
  have := h.len
  have e : cellsB M[n]? = cellsAt M n := rfl
  rw [e]; omega
/-- a part of it -/
theorem BAt.sub {M : List Blk} {n off : Nat} {l : List (BitVec 8)} (h : BAt M n off l) {a k : Nat} (hk : a + k ≤ l.length) : BAt M n (off + a) ((l.drop a).take k) := by
  have hlen : ((l.drop a).take k).length = k := by simp; omega
  refine ⟨h.lt, by rw [hlen]; have := h.len; omega, ?_⟩
  rw [hlen, ← List.drop_drop]
  have h1 : (((cellsAt M n).drop off).take l.length).drop a = (((cellsAt M n).drop off).drop a).take (l.length - a) := by rw [List.drop_take]
  have h2 : (((cellsAt M n).drop off).drop a).take k = ((((cellsAt M n).drop off).drop a).take (l.length - a)).take k := by
    rw [List.take_take, Nat.min_eq_left (by omega)]
  rw [h2, ← h1, h.cells, bS_drop, bS_take]
theorem BAt.row {M : List Blk} {n : Nat} {l z : List (BitVec 8)} {ty : TypeId} (h : M[n]? = some (.row (bS (l ++ z)) ty)) : BAt M n 0 l := by
  have e : cellsAt M n = bS (l ++ z) := by simp [cellsAt, h]
  refine ⟨(List.getElem?_eq_some_iff.1 h).1, by rw [e]; simp [bS_length], ?_⟩
  rw [e, List.drop_zero, bS_take, List.take_left]
theorem BAt.ro {M : List Blk} {n : Nat} {l z : List (BitVec 8)} (h : M[n]? = some (.ro (bS (l ++ z)))) : BAt M n 0 l := by
  have e : cellsAt M n = bS (l ++ z) := by simp [cellsAt, h]
  refine ⟨(List.getElem?_eq_some_iff.1 h).1, by rw [e]; simp [bS_length], ?_⟩
  rw [e, List.drop_zero, bS_take, List.take_left]
/-- what a source gives -/
def SrcIs (M : List Blk) (x : SV) (y : List (BitVec 8)) : Prop := ∀ K : List SV → Nat → Prop, K (bS y) y.length → srcC M 1 x K
theorem BAt.src {M : List Blk} {n off cap : Nat} {l : List (BitVec 8)} (h : BAt M n off l) : SrcIs M (.sl n off l.length cap) l := by
  intro K hK
  refine ⟨by have := h.len; omega, ?_⟩
  rw [Nat.mul_one, h.cells]; exact hK
theorem src_row {M : List Blk} {n len cap : Nat} {l z : List (BitVec 8)} {ty : TypeId} (h : M[n]? = some (.row (bS (l ++ z)) ty)) (hl : len = l.length) : SrcIs M (.sl n 0 len cap) l := by
  subst hl; exact (BAt.row h).src
theorem src_sn {M : List Blk} : SrcIs M .sn [] := fun K hK => hK
theorem src_u8 {M : List Blk} {n cap : Nat} {x : BitVec 8} {ty : TypeId} (h : M[n]? = some (.row [.u8 x] ty)) : SrcIs M (.sl n 0 1 cap) [x] :=
  BAt.src (l := [x]) (BAt.row (z := []) (ty := ty) h)
theorem src_str {M : List Blk} {s : ByteArray} : SrcIs M (.str s) (s.data.toList.map UInt8.toBitVec) := by
  intro K hK
  refine ⟨rfl, ?_⟩
  have : (s.data.toList.map fun b => SV.u8 b.toBitVec) = bS (s.data.toList.map UInt8.toBitVec) := by simp [bS]
  rw [this]
  simpa using hK
theorem bytes_of {l : List SV} (z : List (BitVec 8)) (h : ∀ y, y ∈ l → y ∈ bS z ∨ y ∈ [SV.u8 0#8]) : ∃ w : List (BitVec 8), l = bS w ∧ w.length = l.length := by
  induction l with
  | nil => exact ⟨[], rfl, rfl⟩
  | cons a l ih =>
    obtain ⟨w, hw, hl⟩ := ih (fun y hy => h y (by simp [hy]))
    have : ∃ b, a = .u8 b := by
      rcases h a (by simp) with h1 | h1
      · obtain ⟨b, _, rfl⟩ := List.mem_map.1 h1; exact ⟨b, rfl⟩
      · simp at h1; exact ⟨_, h1⟩
    obtain ⟨b, rfl⟩ := this
    exact ⟨b :: w, by rw [hw]; rfl, by simp [hl]⟩
/-- bytes behind bytes -/
theorem app8 {T : Tab} {M : List Blk} {ts tx e : TypeId} {K : SV → List Blk → Prop} (n : Nat) (l z y : List (BitVec 8)) (ty : TypeId) {x : SV} {len cap : Nat} (htk : T.k ts = .slice e 1 1) (hz : T.z e = some [.u8 0#8]) (hx : nonInt (T.k tx) = true)
    (hB : M[n]? = some (.row (bS (l ++ z)) ty)) (hlen : len = l.length) (hcap : cap = l.length + z.length) (hsrc : SrcIs M x y) (hb : l.length + y.length ≤ 140737488355328)
    (hK : ∀ (z' : List (BitVec 8)) (ty' : TypeId), K (.sl M.length 0 (l.length + y.length) (l.length + y.length + z'.length)) (M.set n .dead ++ [.row (bS (l ++ y ++ z')) ty'])) :
    appendC T M ts tx (.sl n 0 len cap) x K := by
  subst hlen hcap
  refine .inr (.inl ?_)
  unfold appendN
  rw [htk]
  refine ⟨hx, by decide, by decide, _, hz, hsrc _ ?_⟩
  have hce : cellsAt M n = bS (l ++ z) := by simp [cellsAt, hB]
  refine ⟨rfl, by omega, ⟨_, ty, hB, by simp [bS_length]⟩, fun hlt => ?_, fun c sp ty' hc hsp hm => ?_⟩
  · have := growslice_fits (need := l.length + y.length) (old := l.length + z.length) (bytes := 1) hlt (by omega)
    omega
  · rw [hce] at hm ⊢
    obtain ⟨z', rfl, hzl⟩ := bytes_of (l ++ z) (fun y hy => (hm y hy).imp List.mem_of_mem_drop id)
    have := hK z' ty'
    rw [show l.length + y.length + z'.length = c by rw [hzl]; omega] at this
    rw [Nat.mul_one, bS_take, List.take_left, bS_append, bS_append]
    exact this
theorem app8n {T : Tab} {M : List Blk} {ts tx e : TypeId} {K : SV → List Blk → Prop} (y : List (BitVec 8)) {x : SV} (htk : T.k ts = .slice e 1 1) (hz : T.z e = some [.u8 0#8]) (hx : nonInt (T.k tx) = true)
    (hsrc : SrcIs M x y) (hb : y.length ≤ 140737488355328)
    (hK : ∀ (z' : List (BitVec 8)) (ty' : TypeId), K (.sl M.length 0 y.length (y.length + z'.length)) (M ++ [.row (bS (y ++ z')) ty'])) :
    appendC T M ts tx .sn x K := by
  refine .inr (.inl ?_)
  unfold appendN
  rw [htk]
  refine ⟨hx, by decide, by decide, _, hz, hsrc _ ⟨fun hlt => ?_, fun c sp ty' hc hsp hm => ?_⟩⟩
  · have := growslice_fits (need := y.length) (old := 0) (bytes := 1) hlt (by omega)
    omega
  · obtain ⟨z', rfl, hzl⟩ := bytes_of [] (fun y hy => .inr (hm y hy))
    have := hK z' ty'
    rw [show y.length + z'.length = c by rw [hzl]; omega] at this
    rw [bS_append]
    exact this
theorem src_zeros {M : List Blk} {k : Nat} : SrcIs M (.str (zerosStr k)) (List.replicate k 0#8) := by
  have := src_str (M := M) (s := zerosStr k)
  have e : (zerosStr k).data.toList.map UInt8.toBitVec = List.replicate k 0#8 := by simp [zerosStr]
  rwa [e] at this
/-- zeros behind bytes -/
theorem app8z {T : Tab} {M : List Blk} {ts tx tstr e : TypeId} {K : SV → List Blk → Prop} (n : Nat) (l z : List (BitVec 8)) (k : Nat) (ty : TypeId) {len cap : Nat} (htk : T.k ts = .slice e 1 1) (hz : T.z e = some [.u8 0#8]) (hx : T.k tx = .int .i64) (hs : T.k tstr = .str)
    (hB : M[n]? = some (.row (bS (l ++ z)) ty)) (hlen : len = l.length) (hcap : cap = l.length + z.length) (hb : l.length + k ≤ 140737488355328)
    (hK : ∀ (z' : List (BitVec 8)) (ty' : TypeId), K (.sl M.length 0 (l.length + k) (l.length + k + z'.length)) (M.set n .dead ++ [.row (bS (l ++ List.replicate k 0#8 ++ z')) ty'])) :
    appendC T M ts tx (.sl n 0 len cap) (.i .i64 k) K := by
  have h := app8 (tx := tstr) (x := .str (zerosStr k)) n l z (List.replicate k 0#8) ty htk hz (by rw [hs]; rfl) hB hlen hcap src_zeros (by simpa using hb) (K := K) (by simpa using hK)
  refine .inr (.inr (.inl ⟨hx, by omega, by omega, e, tstr, htk, hz, hs, ?_, ?_⟩))
  · rw [Int.toNat_natCast]
    rcases h with h | h | h | h
    · exact .inl h
    · exact .inr h
    · exact h.elim
    · unfold appendG at h
      rw [htk] at h
      exact h.elim
  · rw [Int.toNat_natCast, hlen]; exact hb
/-- bytes copied over bytes -/
theorem copy8 {T : Tab} {M : List Blk} {td e : TypeId} {K : SV → List Blk → Prop} (n off : Nat) (l y : List (BitVec 8)) (ty : TypeId) {x : SV} {len cap : Nat} (htk : T.k td = .slice e 1 1)
    (hB : M[n]? = some (.row (bS l) ty)) (hlen : off + len ≤ l.length) (hsrc : SrcIs M x y)
    (hK : K (.i .i64 (Nat.min y.length len : Nat)) (M.set n (.row (bS (l.take off ++ y.take len ++ l.drop (off + Nat.min y.length len))) ty))) :
    copyC T M td (.sl n off len cap) x K := by
  unfold copyC
  rw [htk]
  refine ⟨by decide, hsrc _ ?_⟩
  simp only
  rw [hB]
  simp only
  refine ⟨by simp [bS_length]; omega, ?_⟩
  have e1 : y.take (Nat.min y.length len) = y.take len := by
    rw [show Nat.min y.length len = min y.length len from rfl]
    rcases Nat.le_total y.length len with h | h
    · rw [Nat.min_eq_left h, List.take_of_length_le (Nat.le_refl _), List.take_of_length_le h]
    · rw [Nat.min_eq_right h]
  have e2 : (y.take len).length = Nat.min y.length len := by rw [List.length_take]; exact Nat.min_comm _ _
  rw [Nat.mul_one, splice, bS_take, bS_take, bS_length, e1, e2, bS_drop, bS_append, bS_append]
  exact hK
/-! names turned: bytes name nothing -/
theorem rn_bS (τ : Nat → Option Nat) (l : List (BitVec 8)) : rnL τ (bS l) = bS l := by
  induction l with
  | nil => rfl
  | cons a l ih => simp only [bS, List.map_cons, rnL, SV.rn] at ih ⊢; rw [ih]
theorem lt_row (m : Nat) (l : List (BitVec 8)) (ty : TypeId) : Blk.lt m (.row (bS l) ty) = true := bS_lt m l
/-- a block of bytes kept -/
theorem keep8 {τ : Nat → Option Nat} {L : List Blk} {k : Nat} {l : List (BitVec 8)} {ty : TypeId} (h : L[k]? = some (.row (bS l) ty)) : BlkRn τ L (some k) (.row (bS l) ty) :=
  ⟨bS l, h, bS_one l, fun ρ => by rw [rn_bS]⟩
theorem rn_sl {m : Nat} {ks : List (Option Nat)} {n off len cap : Nat} (h : n < m) : (SV.sl n off len cap).rn (tau m ks) = .sl n off len cap := by simp [SV.rn, tau_lt h]
theorem rn_p {m : Nat} {ks : List (Option Nat)} {n off : Nat} (h : n < m) : (SV.p n off).rn (tau m ks) = .p n off := by simp [SV.rn, tau_lt h]
def rnSl (m : Nat) (o : Option Nat) (off len cap : Nat) : SV := match o with | some k => .sl (m + k) off len cap | none => .raw (.slice none len cap)
def rnP (m : Nat) (o : Option Nat) (off : Nat) : SV := match o with | some k => .p (m + k) off | none => .pn
theorem rnSl_s {m k off len cap : Nat} : rnSl m (some k) off len cap = .sl (m + k) off len cap := rfl
theorem rnSl_n {m : Nat} {ρ : Ren} : den ρ (rnSl m none 0 0 0) = den ρ .sn := by simp [rnSl, den]
theorem rnP_s {m k off : Nat} : rnP m (some k) off = .p (m + k) off := rfl
theorem rn_sl_at {m : Nat} {ks : List (Option Nat)} {j off len cap : Nat} : (SV.sl (m + j) off len cap).rn (tau m ks) = rnSl m (ks[j]?).join off len cap := by
  simp only [SV.rn, tau_at, rnSl]
  cases ks[j]? with
  | none => rfl
  | some o => cases o <;> rfl
theorem rn_sl_at0 {m : Nat} {ks : List (Option Nat)} {off len cap : Nat} : (SV.sl m off len cap).rn (tau m ks) = rnSl m (ks[0]?).join off len cap := rn_sl_at (j := 0)
theorem rn_p_at {m : Nat} {ks : List (Option Nat)} {j off : Nat} : (SV.p (m + j) off).rn (tau m ks) = rnP m (ks[j]?).join off := by
  simp only [SV.rn, tau_at, rnP]
  cases ks[j]? with
  | none => rfl
  | some o => cases o <;> rfl
theorem rn_p_at0 {m : Nat} {ks : List (Option Nat)} {off : Nat} : (SV.p m off).rn (tau m ks) = rnP m (ks[0]?).join off := rn_p_at (j := 0)
theorem rn_nil {m : Nat} {ks : List (Option Nat)} {ρ : Ren} : den ρ ((SV.sl m 0 0 0).rn (tau m (none :: ks))) = den ρ .sn := by
  have : tau m (none :: ks) m = none := by rw [tau_at0]; rfl
  simp [SV.rn, this, den]
theorem rn_i {τ : Nat → Option Nat} {k : IntKind} {x : Int} : (SV.i k x).rn τ = .i k x := rfl
theorem rn_u8 {τ : Nat → Option Nat} {x : BitVec 8} : (SV.u8 x).rn τ = .u8 x := rfl
theorem rn_u32 {τ : Nat → Option Nat} {x : BitVec 32} : (SV.u32 x).rn τ = .u32 x := rfl
theorem rn_u64 {τ : Nat → Option Nat} {x : BitVec 64} : (SV.u64 x).rn τ = .u64 x := rfl
theorem rn_b {τ : Nat → Option Nat} {x : Bool} : (SV.b x).rn τ = .b x := rfl
theorem rn_str {τ : Nat → Option Nat} {x : ByteArray} : (SV.str x).rn τ = .str x := rfl
theorem rn_sn {τ : Nat → Option Nat} : SV.sn.rn τ = .sn := rfl
theorem rn_pn {τ : Nat → Option Nat} : SV.pn.rn τ = .pn := rfl
theorem rn_agg {τ : Nat → Option Nat} {l : List SV} : (SV.agg l).rn τ = .agg (rnL τ l) := rfl
theorem rn_tup {τ : Nat → Option Nat} {l : List SV} : (SV.tup l).rn τ = .tup (rnL τ l) := rfl
theorem rnL_nil {τ : Nat → Option Nat} : rnL τ [] = [] := rfl
theorem rnL_cons {τ : Nat → Option Nat} {x : SV} {l : List SV} : rnL τ (x :: l) = x.rn τ :: rnL τ l := rfl
theorem frRn_nil {m : Nat} {τ : Nat → Option Nat} : frRn m τ [] [] = True := rfl
theorem frRn_s {m : Nat} {τ : Nat → Option Nat} {x y : SV} {r : List (Option SV)} {l : List SV} : frRn m τ (some x :: r) (y :: l) = ((∀ ρ, den ρ (x.rn τ) = den ρ y) ∧ frRn m τ r l) := rfl
theorem frRn_n {m : Nat} {τ : Nat → Option Nat} {y : SV} {r : List (Option SV)} {l : List SV} : frRn m τ (none :: r) (y :: l) = frRn m τ r l := rfl
theorem frLt_nil {m : Nat} : frLt m [] = true := rfl
theorem frLt_s {m : Nat} {x : SV} {r : List (Option SV)} : frLt m (some x :: r) = (x.lt m && frLt m r) := rfl
theorem frLt_n {m : Nat} {r : List (Option SV)} : frLt m (none :: r) = frLt m r := rfl
theorem ltL_nil' {m : Nat} : ltL m [] = true := rfl
/-- one block of bytes is what is left -/
theorem drop8 {M L : List Blk} {K : SV → List Blk → Prop} {n len cap : Nat} {l : List (BitVec 8)} {ty : TypeId} (k : Nat) (hM : ∀ (n : Nat) (B : Blk), M[n]? = some B → B.lt M.length = true) (hn : n = M.length + k)
    (hk : L[k]? = some (.row (bS l) ty)) (hK : K (.sl M.length 0 len cap) (M ++ [.row (bS l) ty])) : dropC M.length (.sl n 0 len cap) (M ++ L) K := by
  subst hn
  refine dropC_gc hM [some k] (.sl M.length 0 len cap) [.row (bS l) ty] rfl ⟨keep8 hk, trivial⟩ (by simp [lt_row]) (by simp [SV.lt]) (fun ρ => ?_) hK
  rw [rn_sl_at0]; rfl
/-- the same, in a tuple with a number -/
theorem drop8t {M L : List Blk} {K : SV → List Blk → Prop} {n len cap : Nat} {l : List (BitVec 8)} {ty : TypeId} {e : Int} (k : Nat) (hM : ∀ (n : Nat) (B : Blk), M[n]? = some B → B.lt M.length = true) (hn : n = M.length + k)
    (hk : L[k]? = some (.row (bS l) ty)) (hK : K (.tup [.sl M.length 0 len cap, .i .i64 e]) (M ++ [.row (bS l) ty])) : dropC M.length (.tup [.sl n 0 len cap, .i .i64 e]) (M ++ L) K := by
  subst hn
  refine dropC_gc hM [some k] (.tup [.sl M.length 0 len cap, .i .i64 e]) [.row (bS l) ty] rfl ⟨keep8 hk, trivial⟩ (by simp [lt_row]) (by simp [SV.lt, ltL]) (fun ρ => ?_) hK
  simp only [rn_tup, rnL_cons, rnL_nil, rn_sl_at0, rn_i]
  rfl
/-- nothing is left but nil -/
theorem drop8n {M L : List Blk} {K : SV → List Blk → Prop} {ty : TypeId} (hM : ∀ (n : Nat) (B : Blk), M[n]? = some B → B.lt M.length = true)
    (hK : K (.sl M.length 0 0 0) (M ++ [.row (bS []) ty])) : dropC M.length .sn (M ++ L) K :=
  dropC_gc hM [none] (.sl M.length 0 0 0) [.row [] ty] rfl ⟨rfl, trivial⟩ (by simp [Blk.lt, ltL]) (by simp [SV.lt]) (fun ρ => rn_nil) hK
theorem covF_gc0 {M : List Blk} {ts : List SV} {C : List SV → List Blk → Prop} (hM : ∀ (n : Nat) (B : Blk), M[n]? = some B → B.lt M.length = true) (ks : List (Option Nat)) (sp : List (Option SV)) (L' : List Blk)
    (hd : dupl ks = false) (hb : blksRn (tau M.length ks) [] ks L') (hl : L'.all (Blk.lt (M.length + L'.length)) = true) (hf : frRn M.length (tau M.length ks) sp ts) (hfl : frLt (M.length + L'.length) sp = true)
    (hC : ∀ ts', frC sp ts' → C ts' (M ++ L')) : CovF M.length ts M C := by
  have := covF_gc (L := []) (ts := ts) (C := C) hM ks sp L' hd hb hl hf hfl hC
  rwa [List.append_nil] at this
/-- nil handed on, as an empty row -/
theorem call_nil {P : Program} {f : FuncId} {a b : List SV} {M : List Blk} {K : SV → List Blk → Prop} (ty : TypeId) (h : callVC P f (a ++ .sl M.length 0 0 0 :: b) (M ++ [.row [] ty]) K) : callVC P f (a ++ .sn :: b) M K := by
  rcases h with h | ⟨e, hc, hsem⟩
  · refine .inl ⟨h.1, fun G ρ w hs hl => ?_⟩
    have hext : Ext ρ (fun k => if k = M.length then none else ρ k) M.length := fun k hk => if_neg (by omega)
    simp only [ltL_append, ltL, Bool.and_eq_true] at hl
    have hla := ltL_mono (show M.length ≤ (M ++ [Blk.row [] ty]).length by simp) _ hl.1
    have hlb := ltL_mono (show M.length ≤ (M ++ [Blk.row [] ty]).length by simp) _ hl.2.2
    have := h.2 G _ w (hs.nilRow ty) (by simp only [ltL_append, ltL, hla, hlb, SV.lt, Bool.and_true, Bool.true_and]; simp)
    have he : denL (fun k => if k = M.length then none else ρ k) (a ++ .sl M.length 0 0 0 :: b) = denL ρ (a ++ .sn :: b) := by
      simp only [denL_append, denL, den, adr, if_true, Option.map_none]
      rw [denL_congr hext a hl.1, denL_congr hext b hl.2.2]
    rw [he] at this
    refine this.mono fun e w' ⟨ρ', v, M', h1, h2, h3, h4, h5, h6⟩ => ?_
    exact ⟨ρ', v, M', hext.trans h1 (by simp), by simp at h2; omega, h3, h4, h5, h6⟩
  · refine .inr ⟨e, hc, fun hl G ρ w hs => ?_⟩
    have hext : Ext ρ (fun k => if k = M.length then none else ρ k) M.length := fun k hk => if_neg (by omega)
    simp only [ltL_append, ltL, Bool.and_eq_true] at hl
    have hla := ltL_mono (show M.length ≤ (M ++ [Blk.row [] ty]).length by simp) _ hl.1
    have hlb := ltL_mono (show M.length ≤ (M ++ [Blk.row [] ty]).length by simp) _ hl.2.2
    obtain ⟨ρ', v, M', w', hr, h1, h2, h3, h4, h5⟩ := hsem (by simp only [ltL_append, ltL, hla, hlb, SV.lt, Bool.and_true, Bool.true_and]; simp) G _ w (hs.nilRow ty)
    have he : denL (fun k => if k = M.length then none else ρ k) (a ++ .sl M.length 0 0 0 :: b) = denL ρ (a ++ .sn :: b) := by
      simp only [denL_append, denL, den, adr, if_true, Option.map_none]
      rw [denL_congr hext a hl.1, denL_congr hext b hl.2.2]
    simp only [he] at hr
    exact ⟨ρ', v, M', w', hr, hext.trans h1 (by simp), by simp at h2; omega, h3, h4, h5⟩
end Go.Proofs.YtdkdbeamimkljaaGreatDoor.Eng
