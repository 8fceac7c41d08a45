/- The engine, part F: indexes, fields, conversions, composite values, slices. -/
import Derived.Test.YtdkdbeamimkljaaGreatDoorEngE
namespace Go.Proofs.YtdkdbeamimkljaaGreatDoor.Eng
open Go Go.RowKit
set_option linter.unusedSimpArgs false
set_option linter.unusedVariables false
def ixOf : SV → Option Int
  | .i _ x => some x
  | .u8 x => some x.toNat
  | .u32 x => some x.toNat
  | .u64 x => some x.toNat
  | _ => none
def ixaC (T : Tab) (M : List Blk) (t : TypeId) (x i : SV) (K : SV → Prop) : Prop :=
  match ixOf i with
  | some j =>
    match T.k t, x with
    | .arr n _ esz _, .p nm off => 0 ≤ j ∧ j < n ∧ 0 < esz ∧ off + (j.toNat + 1) * esz ≤ (cellsAt M nm).length ∧ K (.p nm (off + j.toNat * esz))
    | .slice _ esz _, .sl nm off len _ => 0 ≤ j ∧ j < len ∧ 0 < esz ∧ off + (j.toNat + 1) * esz ≤ (cellsAt M nm).length ∧ K (.p nm (off + j.toNat * esz))
    | _, _ => False
  | none => False
def ixC (T : Tab) (t : TypeId) (x i : SV) (K : SV → Prop) : Prop :=
  match ixOf i with
  | some j =>
    match T.k t, x with
    | .arr n e esz _, .agg l => 0 ≤ j ∧ j < n ∧ cellC (T.k e) l (j.toNat * esz) K
    | .str, .str s => 0 ≤ j ∧ j < s.size ∧ K (.u8 (s.get! j.toNat).toBitVec)
    | _, _ => False
  | none => False
def faC (T : Tab) (M : List Blk) (s : TypeId) (x : SV) (f : Nat) (K : SV → Prop) : Prop :=
  match T.f s f with
  | some (fo, sz, _) =>
    match x with
    | .p n off => off + fo + sz ≤ (cellsAt M n).length ∧ K (.p n (off + fo))
    | _ => False
  | none => False
def fC (T : Tab) (s : TypeId) (x : SV) (f : Nat) (K : SV → Prop) : Prop :=
  match T.f s f with
  | some (fo, _, t) =>
    match x with
    | .agg l => cellC (T.k t) l fo K
    | _ => False
  | none => False
def nilC (M : List Blk) (x : SV) (K : SV → Prop) : Prop :=
  match x with
  | .p n off => liveN M n = true ∧ K (.p n off)
  | .fn (.func f) a c => K (.fn (.func f) a c)
  | _ => False
def convC (T : Tab) (d : TypeId) (x : SV) (K : SV → Prop) : Prop :=
  match T.k d, x with
  | .int .u8, .i _ a => K (.u8 (BitVec.ofInt 8 a))
  | .int .u8, .u8 a => K (.u8 a)
  | .int .u8, .u32 a => K (.u8 (a.setWidth 8))
  | .int .u8, .u64 a => K (.u8 (a.setWidth 8))
  | .int .u32, .i _ a => K (.u32 (BitVec.ofInt 32 a))
  | .int .u32, .u8 a => K (.u32 (a.setWidth 32))
  | .int .u32, .u32 a => K (.u32 a)
  | .int .u32, .u64 a => K (.u32 (a.setWidth 32))
  | .int .u64, .i _ a => K (.u64 (BitVec.ofInt 64 a))
  | .int .u64, .u8 a => K (.u64 (a.setWidth 64))
  | .int .u64, .u32 a => K (.u64 (a.setWidth 64))
  | .int .u64, .u64 a => K (.u64 a)
  | .int .i64, .u8 a => K (.i .i64 a.toNat)
  | .int .i64, .u32 a => K (.i .i64 a.toNat)
  | .int k, .u64 a => K (.i k (k.wrap a.toNat))
  | .int k, .u32 a => K (.i k (k.wrap a.toNat))
  | .int k, .u8 a => K (.i k (k.wrap a.toNat))
  | .int k, .i _ a => K (.i k (k.wrap a))
  | .str, .str s => K (.str s)
  | _, _ => False
/-- the bytes of cells, as a string -/
def byteOf : SV → UInt8
  | .u8 b => UInt8.ofBitVec b
  | _ => 0
def strOf (cs : List SV) : ByteArray := ⟨(cs.map byteOf).toArray⟩
def isU8 : SV → Bool
  | .u8 _ => true
  | _ => false
/-- a list of bytes, as a string -/
def strC (T : Tab) (M : List Blk) (tk : TK) (x : SV) (K : SV → Prop) : Prop :=
  match tk with
  | .slice e esz _ => T.k e = .int .u8 ∧ esz = 1 ∧
    match x with
    | .sl n off len _ => off + len ≤ (cellsAt M n).length ∧ (((cellsAt M n).drop off).take len).all isU8 = true ∧ K (.str (strOf (((cellsAt M n).drop off).take len)))
    | .sn => K (.str (strOf []))
    | .raw (.slice (some _) 0 _) => K (.str (strOf []))
    | _ => False
  | _ => False
def convG (T : Tab) (M : List Blk) (s d : TypeId) (x : SV) (K : SV → Prop) : Prop :=
  match T.k d with
  | .str => match x with
    | .str a => K (.str a)
    | x => strC T M (T.k s) x K
  | _ => convC T d x K
def unC (op : UnOp) (x : SV) (K : SV → Prop) : Prop :=
  match op, x with
  | .not, .b a => K (.b (!a))
  | .neg, .i k a => K (.i k (k.wrap (0 - a)))
  | .xor, .u8 a => K (.u8 (~~~a))
  | .xor, .u32 a => K (.u32 (~~~a))
  | .xor, .u64 a => K (.u64 (~~~a))
  | _, _ => False
def pickC (c x y : SV) (K : SV → Prop) : Prop :=
  match c with
  | .b c => (c = true → K x) ∧ (c = false → K y)
  | _ => False
def extC (x : SV) (i : Nat) (K : SV → Prop) : Prop :=
  match x with
  | .tup l => match l[i]? with
    | some v => K v
    | none => False
  | _ => False
def fillS (place : Nat → Option (Nat × Nat)) : List SV → List (Nat × SV) → Option (List SV)
  | cells, [] => some cells
  | cells, (i, v) :: rest =>
    match place i with
    | none => none
    | some (off, size) => if (cellsS v).length = size ∧ off + size ≤ cells.length ∧ (cellsS v).all SV.one = true then fillS place (splice cells off (cellsS v)) rest else none
def buildC (T : Tab) (t : TypeId) (parts : List (Nat × SV)) (K : SV → Prop) : Prop :=
  match T.z t with
  | none => False
  | some z =>
    match T.k t with
    | .arr _ _ esz _ =>
      match fillS (fun i => some (i * esz, esz)) z parts with
      | some l => K (.agg l)
      | none => False
    | .struct _ =>
      match fillS (fun i => (T.f t i).map fun x => (x.1, x.2.1)) z parts with
      | some l => K (.agg l)
      | none => False
    | _ => False
/-- a bound of a slice -/
def bndC (o : Option SV) (d y : Nat) (K : Nat → Prop) : Prop :=
  match o with
  | none => K d
  | some v => match ixOf v with
    | some j => 0 ≤ j ∧ j ≤ y ∧ K j.toNat
    | none => False
def bnds (len cap : Nat) (lo hi mx : Option SV) (K : Nat → Nat → Nat → Prop) : Prop :=
  match hi, mx with
  | none, some _ => False
  | _, _ => bndC mx cap cap fun m => bndC hi len m fun h => bndC lo 0 h fun l => K l h m
def sliceC (T : Tab) (M : List Blk) (t : TypeId) (x : SV) (lo hi mx : Option SV) (K : SV → Prop) : Prop :=
  match T.k t, x with
  | .arr n _ esz _, .p nm off => liveN M nm = true ∧ bnds n n lo hi mx fun l h m => K (.sl nm (if m = l then off else off + l * esz) (h - l) (m - l))
  | .slice _ esz _, .sl nm off len cap => bnds len cap lo hi mx fun l h m => K (.sl nm (if m = l then off else off + l * esz) (h - l) (m - l))
  | .slice _ _ _, .sn => bnds 0 0 lo hi mx fun _ _ _ => K .sn
  | _, _ => False
section
variable {P : Program} {T : Tab} {M : List Blk}
theorem ixOf_den {x : SV} {j : Int} (h : ixOf x = some j) : ∃ k, ∀ ρ, den ρ x = .int k j := by
  cases x <;> simp [ixOf] at h
  case i k a => exact ⟨k, fun ρ => by simp [den, h]⟩
  case u8 => subst h; exact ⟨.u8, fun ρ => den_u8 ρ _⟩
  case u32 => subst h; exact ⟨.u32, fun ρ => den_u32 ρ _⟩
  case u64 => subst h; exact ⟨.u64, fun ρ => den_u64 ρ _⟩
theorem cells_ren {G : Cx} {ρ : Ren} {w : World} (hs : Sim G ρ M w) {n off : Nat} (h : off < (cellsAt M n).length) : ∃ g o, ρ n = some (g, o) := by
  obtain ⟨g, o, hg, _⟩ := cells_get hs (List.getElem?_eq_getElem h)
  exact ⟨g, o, hg⟩
theorem info_of {P : Program} {t : TypeId} {sz : Nat} (h : (P.info? t).map (·.size) = some sz) : ∃ i, P.info? t = some i ∧ i.size = sz := by
  cases hq : P.info? t with
  | none => simp [hq] at h
  | some i => exact ⟨i, rfl, by simpa [hq] using h⟩
theorem run_sizeOf {P : Program} {t : TypeId} {sz : Nat} (h : (P.info? t).map (·.size) = some sz) (w : World) : (sizeOf t).run P w = .ok sz w := by
  obtain ⟨i, hi, hs⟩ := info_of h
  simp [sizeOf, typeInfo, hi, hs]
theorem ixaC_ok (hT : TabOK P T) {t : TypeId} {x i : SV} {K : SV → List Blk → Prop} (hx : x.lt M.length = true) (h : ixaC T M t x i (fun v => K v M)) :
    SemOK P M (fun ρ => Instr.indexAt t (den ρ x) (den ρ i)) K := by
  unfold ixaC at h
  split at h
  · rename_i j hj
    obtain ⟨k, hk⟩ := ixOf_den hj
    split at h
    · rename_i n e esz sz nm off htk
      obtain ⟨h0, h1, hpos, hl, hK⟩ := h
      obtain ⟨d, ti, hd, hi, rfl, _, _, he⟩ := tk_facts (Tab.facts hT htk (by simp)) (by simp)
      refine SemOK.pure _ (by simpa [SV.lt] using hx) hK (fun G ρ w hs => ?_)
      have hlt : off < (cellsAt M nm).length := by
        have : 0 < (j.toNat + 1) * esz := Nat.mul_pos (by omega) hpos
        omega
      obtain ⟨g, o, hg⟩ := cells_ren hs hlt
      have hp : ∀ q, den ρ (.p nm q) = .pointer (some ⟨g, o + q, none⟩) := fun q => by simp [den, adr, hg]
      rw [hk ρ, hp, hp]
      simp only [Instr.indexAt, asIntOf, Sem.run_bind, Sem.run_pure, Result.andThen_ok, run_underlying hd, Instr.sureAddr, run_sizeOf he, if_pos (And.intro h0 h1), addr_add, Nat.add_assoc]
    · rename_i e esz eby nm off len cap htk
      obtain ⟨h0, h1, hpos, hl, hK⟩ := h
      obtain ⟨d, ti, hd, hi, _, rfl, he, _⟩ := tk_facts (Tab.facts hT htk (by simp)) (by simp)
      refine SemOK.pure _ (by simpa [SV.lt] using hx) hK (fun G ρ w hs => ?_)
      have hlt : off < (cellsAt M nm).length := by
        have : 0 < (j.toNat + 1) * esz := Nat.mul_pos (by omega) hpos
        omega
      obtain ⟨g, o, hg⟩ := cells_ren hs hlt
      have hp : ∀ q, den ρ (.p nm q) = .pointer (some ⟨g, o + q, none⟩) := fun q => by simp [den, adr, hg]
      have hsl : den ρ (.sl nm off len cap) = .slice (some ⟨g, o + off, none⟩) len cap := by simp [den, adr, hg]
      rw [hk ρ, hsl, hp]
      simp only [Instr.indexAt, asIntOf, Sem.run_bind, Sem.run_pure, Result.andThen_ok, run_underlying hd, run_sizeOf he, if_pos (And.intro h0 h1), addr_add, Nat.add_assoc]
    · cases h
  · cases h
/-- a cell of a value, read: in a list of cells -/
theorem cellC_part (hT : TabOK P T) {t : TypeId} {l : List SV} {off : Nat} {K : SV → Prop} (h : cellC (T.k t) l off K) :
    ∃ v, K v ∧ (∀ m, ltL m l = true → v.lt m = true) ∧ ∀ ρ w, (part t (denL ρ l).toArray off).run P w = .ok (den ρ v) w := by
  have one : ∀ (v : SV) (d : TypeDesc), P.underlying t = some d → isAggD d = false → l[off]? = some v → K v →
      ∃ v, K v ∧ (∀ m, ltL m l = true → v.lt m = true) ∧ ∀ ρ w, (part t (denL ρ l).toArray off).run P w = .ok (den ρ v) w := by
    intro v d hd ha hv hK
    refine ⟨v, hK, fun m hm => ltL_get hm hv, fun ρ w => ?_⟩
    have hg : (denL ρ l)[off]? = some (den ρ v) := by simp [denL_get, hv]
    simp [part, Sem.run_bind, run_isAgg hd, ha, hg]
  have many : ∀ (d : TypeDesc) (sz : Nat), P.underlying t = some d → (P.info? t).map (·.size) = some sz → isAggD d = true → K (.agg ((l.drop off).take sz)) →
      ∃ v, K v ∧ (∀ m, ltL m l = true → v.lt m = true) ∧ ∀ ρ w, (part t (denL ρ l).toArray off).run P w = .ok (den ρ v) w := by
    intro d sz hd hi ha hK
    refine ⟨_, hK, fun m hm => ltL_sub hm (fun x hx => List.mem_of_mem_drop (List.mem_of_mem_take hx)), fun ρ w => ?_⟩
    simp only [part, Sem.run_bind, run_isAgg hd, ha, Result.andThen_ok, if_true, run_sizeOf hi, Sem.run_pure, den, denL_take, denL_drop]
    congr 2
    rw [List.extract_toArray, List.extract_eq_take_drop]
    congr 2
    omega
  have get : ∀ (h : off < l.length), l[off]? = some (l.getD off uS) := by
    intro h; simp [List.getD_eq_getElem?_getD, List.getElem?_eq_getElem h]
  cases htk : T.k t with
  | int k =>
    obtain ⟨d, i, hd, hi, hf⟩ := tk_facts (Tab.facts hT htk (by simp)) (by simp)
    obtain ⟨h1, rfl⟩ := hf
    rw [htk] at h
    cases k <;> simp only [cellC] at h
    case u8 => exact one _ _ hd rfl (is8_get h.1) h.2
    case u32 => exact one _ _ hd rfl (is32_get h.1) h.2
    case u64 => exact one _ _ hd rfl (is64_get h.1) h.2
    all_goals exact one _ _ hd rfl (isI_get h.1) h.2
  | arr m e esz sz =>
    obtain ⟨d, i, hd, hi, rfl, rfl, _, _⟩ := tk_facts (Tab.facts hT htk (by simp)) (by simp)
    rw [htk] at h
    simp only [cellC] at h
    exact many _ i.size hd (by simp [hi]) rfl h.2.2
  | struct sz =>
    obtain ⟨d, i, hd, hi, rfl, fs, rfl⟩ := tk_facts (Tab.facts hT htk (by simp)) (by simp)
    rw [htk] at h
    simp only [cellC] at h
    exact many _ i.size hd (by simp [hi]) rfl h.2.2
  | other => rw [htk] at h; simp only [cellC] at h
  | bool | str =>
    obtain ⟨d, i, hd, hi, _, rfl⟩ := tk_facts (Tab.facts hT htk (by simp)) (by simp)
    rw [htk] at h
    simp only [cellC] at h
    exact one _ _ hd rfl (get h.1) h.2
  | slice e esz eby =>
    obtain ⟨d, i, hd, hi, _, rfl, _⟩ := tk_facts (Tab.facts hT htk (by simp)) (by simp)
    rw [htk] at h
    simp only [cellC] at h
    exact one _ _ hd rfl (get h.1) h.2
  | ptr | iface =>
    obtain ⟨d, i, hd, hi, _, _, rfl⟩ := tk_facts (Tab.facts hT htk (by simp)) (by simp)
    rw [htk] at h
    simp only [cellC] at h
    exact one _ _ hd rfl (get h.1) h.2
  | map e =>
    obtain ⟨d, i, hd, hi, _, _, rfl, _⟩ := tk_facts (Tab.facts hT htk (by simp)) (by simp)
    rw [htk] at h
    simp only [cellC] at h
    exact one _ _ hd rfl (get h.1) h.2
  | func =>
    obtain ⟨d, i, hd, hi, _, _, _, _, rfl⟩ := tk_facts (Tab.facts hT htk (by simp)) (by simp)
    rw [htk] at h
    simp only [cellC] at h
    exact one _ _ hd rfl (get h.1) h.2
theorem ixC_ok (hT : TabOK P T) {t : TypeId} {x i : SV} {K : SV → List Blk → Prop} (hx : x.lt M.length = true) (h : ixC T t x i (fun v => K v M)) :
    SemOK P M (fun ρ => Instr.index t (den ρ x) (den ρ i)) K := by
  unfold ixC at h
  split at h
  · rename_i j hj
    obtain ⟨k, hk⟩ := ixOf_den hj
    split at h
    · rename_i n e esz sz l htk
      obtain ⟨h0, h1, hc⟩ := h
      obtain ⟨d, ti, hd, hi, rfl, _, _, he⟩ := tk_facts (Tab.facts hT htk (by simp)) (by simp)
      obtain ⟨v, hK, hlt, hr⟩ := cellC_part hT hc
      refine SemOK.pure v (hlt _ hx) hK (fun G ρ w hs => ?_)
      rw [hk ρ]
      simp only [den, Instr.index, asIntOf, Sem.run_bind, Sem.run_pure, Result.andThen_ok, run_underlying hd, if_pos (And.intro h0 h1), run_sizeOf he]
      exact hr ρ w
    · rename_i s htk
      obtain ⟨h0, h1, hK⟩ := h
      obtain ⟨d, ti, hd, hi, _, rfl⟩ := tk_facts (Tab.facts hT htk (by simp)) (by simp)
      refine SemOK.pure _ rfl hK (fun G ρ w hs => ?_)
      rw [hk ρ]
      have hlt : j.toNat < s.size := by omega
      simp only [den, Instr.index, asIntOf, Sem.run_bind, Sem.run_pure, Result.andThen_ok, run_underlying hd, if_pos h0]
      have : s[j.toNat]? = some (s.get! j.toNat) := by
        rw [getElem?_pos s j.toNat hlt]
        congr 1
        show s.data[j.toNat] = s.data[j.toNat]!
        rw [getElem!_pos s.data j.toNat hlt]
      rw [this]
      rfl
    · cases h
  · cases h
theorem fo_facts (hT : TabOK P T) {s : TypeId} {f fo sz : Nat} {t : TypeId} (h : T.f s f = some (fo, sz, t)) : ∃ fs x i, P.underlying s = some (.struct fs) ∧ fs[f]? = some x ∧ P.info? x.type = some i ∧
    x.offset = fo ∧ i.size = sz ∧ x.type = t ∧ sz ≠ 0 := by
  have := hT.fo s f _ h
  unfold foOf at this
  cases hd : P.underlying s with
  | none => simp [hd] at this
  | some d =>
    cases d <;> simp [hd] at this
    rename_i fs
    cases hx : fs[f]? with
    | none => simp [hx] at this
    | some x =>
      cases hi : P.info? x.type with
      | none => simp [hx, hi] at this
      | some i =>
        simp only [hx, hi] at this
        split at this
        · cases this
        · rename_i hne
          simp only [Option.some.injEq, Prod.mk.injEq] at this
          obtain ⟨rfl, rfl, rfl⟩ := this
          exact ⟨fs, x, i, rfl, hx, hi, rfl, rfl, rfl, hne⟩
theorem faC_ok (hT : TabOK P T) {s : TypeId} {x : SV} {f : Nat} {K : SV → List Blk → Prop} (hx : x.lt M.length = true) (h : faC T M s x f (fun v => K v M)) :
    SemOK P M (fun ρ => Instr.fieldAt s (den ρ x) f) K := by
  unfold faC at h
  split at h
  · rename_i fo sz ft hf
    obtain ⟨fs, fx, fi, hd, hfx, hfi, rfl, rfl, rfl, hne⟩ := fo_facts hT hf
    split at h
    · rename_i n off
      obtain ⟨hl, hK⟩ := h
      refine SemOK.pure _ (by simpa [SV.lt] using hx) hK (fun G ρ w hs => ?_)
      obtain ⟨g, o, hg⟩ := cells_ren hs (show off < (cellsAt M n).length by omega)
      have hp : ∀ q, den ρ (.p n q) = .pointer (some ⟨g, o + q, none⟩) := fun q => by simp [den, adr, hg]
      rw [hp, hp]
      simp only [Instr.fieldAt, Sem.run_bind, run_underlying hd, Result.andThen_ok, hfx, Instr.sureAddr, Sem.run_pure, fieldPlace, run_sizeOf (show (P.info? fx.type).map (·.size) = some fi.size by simp [hfi]), if_neg hne, addr_add, Nat.add_assoc]
    · cases h
  · cases h
theorem fC_ok (hT : TabOK P T) {s : TypeId} {x : SV} {f : Nat} {K : SV → List Blk → Prop} (hx : x.lt M.length = true) (h : fC T s x f (fun v => K v M)) :
    SemOK P M (fun ρ => Instr.field s (den ρ x) f) K := by
  unfold fC at h
  split at h
  · rename_i fo sz ft hf
    obtain ⟨fs, fx, fi, hd, hfx, hfi, rfl, rfl, rfl, hne⟩ := fo_facts hT hf
    split at h
    · rename_i l
      obtain ⟨v, hK, hlt, hr⟩ := cellC_part hT h
      refine SemOK.pure v (hlt _ hx) hK (fun G ρ w hs => ?_)
      simp only [den, Instr.field, Sem.run_bind, run_underlying hd, Result.andThen_ok, hfx, asAgg, Sem.run_pure]
      exact hr ρ w
    · cases h
  · cases h
theorem convC_ok (hT : TabOK P T) (s : TypeId) (hs : (P.underlying s).isSome = true) {d : TypeId} {x : SV} {K : SV → List Blk → Prop} (hx : x.lt M.length = true) (h : convC T d x (fun v => K v M)) :
    SemOK P M (fun ρ => convert s d (den ρ x)) K := by
  obtain ⟨sd, hsd⟩ := Option.isSome_iff_exists.1 hs
  have ints : ∀ (k k' : IntKind) (a : Int) (v : SV), T.k d = .int k → (∀ ρ, den ρ x = .int k' a) → (∀ ρ, den ρ v = .int k (k.wrap a)) → (∀ m, v.lt m = true) → K v M → SemOK P M (fun ρ => convert s d (den ρ x)) K := by
    intro k k' a v htk hxv hv hlt hK
    obtain ⟨dd, ti, hd, hi, _, rfl⟩ := tk_facts (Tab.facts hT htk (by simp)) (by simp)
    refine SemOK.pure v (hlt _) hK (fun G ρ w _ => ?_)
    rw [hxv ρ, hv ρ]
    simp only [convert, Sem.run_bind, run_underlying hsd, run_underlying hd, Result.andThen_ok, Conv.intToInt]
    rfl
  have sw : ∀ {n : Nat} (a : BitVec n) (m : Nat), BitVec.ofInt m (a.toNat : Int) = a.setWidth m := fun a m => by rw [BitVec.ofInt_natCast]; exact BitVec.eq_of_toNat_eq (by simp)
  have w64 : ∀ (n : Nat), n < 2 ^ 32 → IntKind.i64.wrap (n : Int) = n := by
    intro n hn; simp only [IntKind.wrap, IntKind.bits, IntKind.signed]; simp; omega
  unfold convC at h
  split at h
  case h_1 htk => exact ints .u8 _ _ _ htk (fun ρ => den_i ρ _ _) (fun ρ => by rw [den_u8, wrapU (k := .u8) rfl]; rfl) (fun _ => rfl) h
  case h_2 htk => exact ints .u8 _ _ _ htk (fun ρ => den_u8 ρ _) (fun ρ => (den_u8 ρ _).trans (congrArg (Value.int .u8) (wrapU_self (k := .u8) rfl _).symm)) (fun _ => rfl) h
  case h_3 htk => exact ints .u8 _ _ _ htk (fun ρ => den_u32 ρ _) (fun ρ => by rw [den_u8, wrapU (k := .u8) rfl, sw]; rfl) (fun _ => rfl) h
  case h_4 htk => exact ints .u8 _ _ _ htk (fun ρ => den_u64 ρ _) (fun ρ => by rw [den_u8, wrapU (k := .u8) rfl, sw]; rfl) (fun _ => rfl) h
  case h_5 htk => exact ints .u32 _ _ _ htk (fun ρ => den_i ρ _ _) (fun ρ => by rw [den_u32, wrapU (k := .u32) rfl]; rfl) (fun _ => rfl) h
  case h_6 htk => exact ints .u32 _ _ _ htk (fun ρ => den_u8 ρ _) (fun ρ => by rw [den_u32, wrapU (k := .u32) rfl, sw]; rfl) (fun _ => rfl) h
  case h_7 htk => exact ints .u32 _ _ _ htk (fun ρ => den_u32 ρ _) (fun ρ => (den_u32 ρ _).trans (congrArg (Value.int .u32) (wrapU_self (k := .u32) rfl _).symm)) (fun _ => rfl) h
  case h_8 htk => exact ints .u32 _ _ _ htk (fun ρ => den_u64 ρ _) (fun ρ => by rw [den_u32, wrapU (k := .u32) rfl, sw]; rfl) (fun _ => rfl) h
  case h_9 htk => exact ints .u64 _ _ _ htk (fun ρ => den_i ρ _ _) (fun ρ => by rw [den_u64, wrapU (k := .u64) rfl]; rfl) (fun _ => rfl) h
  case h_10 htk => exact ints .u64 _ _ _ htk (fun ρ => den_u8 ρ _) (fun ρ => by rw [den_u64, wrapU (k := .u64) rfl, sw]; rfl) (fun _ => rfl) h
  case h_11 htk => exact ints .u64 _ _ _ htk (fun ρ => den_u32 ρ _) (fun ρ => by rw [den_u64, wrapU (k := .u64) rfl, sw]; rfl) (fun _ => rfl) h
  case h_12 htk => exact ints .u64 _ _ _ htk (fun ρ => den_u64 ρ _) (fun ρ => (den_u64 ρ _).trans (congrArg (Value.int .u64) (wrapU_self (k := .u64) rfl _).symm)) (fun _ => rfl) h
  case h_13 a htk => exact ints .i64 _ _ _ htk (fun ρ => den_u8 ρ _) (fun ρ => by rw [den_i, w64 _ (by have := a.isLt; omega)]) (fun _ => rfl) h
  case h_14 a htk => exact ints .i64 _ _ _ htk (fun ρ => den_u32 ρ _) (fun ρ => by rw [den_i, w64 _ a.isLt]) (fun _ => rfl) h
  case h_15 htk => exact ints _ _ _ _ htk (fun ρ => den_u64 ρ _) (fun ρ => den_i ρ _ _) (fun _ => rfl) h
  case h_16 htk => exact ints _ _ _ _ htk (fun ρ => den_u32 ρ _) (fun ρ => den_i ρ _ _) (fun _ => rfl) h
  case h_17 htk => exact ints _ _ _ _ htk (fun ρ => den_u8 ρ _) (fun ρ => den_i ρ _ _) (fun _ => rfl) h
  case h_18 htk => exact ints _ _ _ _ htk (fun ρ => den_i ρ _ _) (fun ρ => den_i ρ _ _) (fun _ => rfl) h
  case h_19 st htk =>
    obtain ⟨dd, ti, hd, hi, _, rfl⟩ := tk_facts (Tab.facts hT htk (by simp)) (by simp)
    refine SemOK.pure _ rfl h (fun G ρ w _ => ?_)
    simp only [den, convert, Sem.run_bind, run_underlying hsd, run_underlying hd, Result.andThen_ok]
    cases sd <;> rfl
  case h_20 => cases h
theorem push_all (ρ : Ren) (w : World) (f : Value → ByteArray → Sem (ForInStep ByteArray)) (hf : ∀ (b : BitVec 8) (s : ByteArray), (f (.int .u8 b.toNat) s).run P w = .ok (.yield (s.push (UInt8.ofNat b.toNat))) w) : ∀ (cs : List SV) (s : ByteArray), cs.all isU8 = true →
    (forIn (denL ρ cs) s f).run P w = .ok ⟨(s.data.toList ++ cs.map byteOf).toArray⟩ w
  | [], s, _ => by simp [denL]
  | c :: cs, s, h => by
    simp only [List.all_cons, Bool.and_eq_true] at h
    cases c with
    | u8 b =>
      have ih := push_all ρ w f hf cs (s.push (UInt8.ofNat b.toNat)) h.2
      simp only [denL, den, List.forIn_cons, Sem.run_bind, hf, Result.andThen_ok]
      rw [ih]
      simp [byteOf, ByteArray.push, UInt8.ofNat, UInt8.ofBitVec]
    | _ => exact absurd h.1 (by simp [isU8])
theorem strC_ok (hT : TabOK P T) {s d : TypeId} (hd : T.k d = .str) {x : SV} {K : SV → List Blk → Prop} (hx : x.lt M.length = true) (h : strC T M (T.k s) x (fun v => K v M)) :
    SemOK P M (fun ρ => convert s d (den ρ x)) K := by
  unfold strC at h
  split at h
  case h_2 => cases h
  rename_i e esz eby htk
  obtain ⟨he, h1, h⟩ := h
  obtain ⟨dd, ti, hd', hi, _, rfl⟩ := tk_facts (Tab.facts hT hd (by simp)) (by simp)
  obtain ⟨ds, ts, hs', hsi, _, rfl, _⟩ := tk_facts (Tab.facts hT htk (by simp)) (by simp)
  obtain ⟨de, te, he', hei, _, rfl⟩ := tk_facts (Tab.facts hT he (by simp)) (by simp)
  have run : ∀ (a : Option Addr) (len cap : Nat) (w : World), (convert s d (.slice a len cap)).run P w = (Conv.bytesToString (.slice a len cap)).run P w := by
    intro a len cap w
    simp only [convert, Sem.run_bind, run_underlying hs', run_underlying hd', run_underlying he', Result.andThen_ok]
  split at h
  · rename_i n off len cap
    obtain ⟨hl, hu, hK⟩ := h
    refine SemOK.pure _ rfl hK (fun G ρ w hs => ?_)
    rcases Nat.eq_zero_or_pos len with rfl | hp
    · simp only [den, run]
      cases ha : adr ρ n off with
      | none => simp [Conv.bytesToString, strOf]; rfl
      | some a =>
        simp only [Conv.bytesToString, Sem.run_bind]
        have : (loadCells a 0).run P w = .ok #[] w := run_loadCells_list (P := P) w a [] (fun j v hv => by simp at hv)
        rw [this]
        simp [strOf]; rfl
    · obtain ⟨g, o, hg, hr⟩ := run_loadCells_at (P := P) hs hl hp
      simp only [den, run, adr, hg, Option.map_some, Conv.bytesToString, Sem.run_bind, hr, Result.andThen_ok]
      rw [List.forIn_toArray, push_all (P := P) ρ w _ (fun b s => rfl) _ _ hu]
      rfl
  · refine SemOK.pure _ rfl h (fun G ρ w hs => ?_)
    simp only [den, run]
    simp [Conv.bytesToString, strOf]; rfl
  · rename_i a cap
    refine SemOK.pure _ rfl h (fun G ρ w hs => ?_)
    simp only [den, run, Conv.bytesToString, Sem.run_bind]
    have : (loadCells a 0).run P w = .ok #[] w := run_loadCells_list (P := P) w a [] (fun j v hv => by simp at hv)
    rw [this]
    simp [strOf]; rfl
  · cases h
theorem convG_ok (hT : TabOK P T) (s : TypeId) (hs : (P.underlying s).isSome = true) {d : TypeId} {x : SV} {K : SV → List Blk → Prop} (hx : x.lt M.length = true) (h : convG T M s d x (fun v => K v M)) :
    SemOK P M (fun ρ => convert s d (den ρ x)) K := by
  unfold convG at h
  split at h
  · rename_i htk
    split at h
    · refine convC_ok hT s hs hx ?_
      unfold convC
      rw [htk]; exact h
    · exact strC_ok hT htk hx h
  · exact convC_ok hT s hs hx h
theorem unC_ok {op : UnOp} {x : SV} {K : SV → List Blk → Prop} (h : unC op x (fun v => K v M)) : SemOK P M (fun ρ => Op.unary op (den ρ x)) K := by
  have xu : ∀ (k : IntKind) (hk : k.signed = false) (a : BitVec k.bits), k.wrap ((BitVec.ofInt k.bits k.max ^^^ BitVec.ofInt k.bits (a.toNat : Int)).toNat : Int) = (~~~a).toNat := by
    intro k hk a
    rw [ofInt_self, wrapU_self hk]
    have : BitVec.ofInt k.bits k.max = BitVec.allOnes k.bits := by
      cases k <;> first | (cases hk; done) | rfl
    rw [this, BitVec.allOnes_xor]
  unfold unC at h
  split at h
  · exact SemOK.pure _ rfl h (fun G ρ w _ => by simp [den, Op.unary])
  · exact SemOK.pure _ rfl h (fun G ρ w _ => by simp [den, Op.unary, Op.intArith])
  · rename_i a
    exact SemOK.pure _ rfl h (fun G ρ w _ => by
      rw [den_u8, den_u8]
      simp only [Op.unary, Op.intBits, Sem.run_pure]
      exact congrArg (fun z => Result.ok (Value.int .u8 z) w) (xu .u8 rfl a))
  · rename_i a
    exact SemOK.pure _ rfl h (fun G ρ w _ => by
      rw [den_u32, den_u32]
      simp only [Op.unary, Op.intBits, Sem.run_pure]
      exact congrArg (fun z => Result.ok (Value.int .u32 z) w) (xu .u32 rfl a))
  · rename_i a
    exact SemOK.pure _ rfl h (fun G ρ w _ => by
      rw [den_u64, den_u64]
      simp only [Op.unary, Op.intBits, Sem.run_pure]
      exact congrArg (fun z => Result.ok (Value.int .u64 z) w) (xu .u64 rfl a))
  · cases h
theorem pickC_ok {c x y : SV} {K : SV → List Blk → Prop} (hx : x.lt M.length = true) (hy : y.lt M.length = true) (h : pickC c x y (fun v => K v M)) :
    SemOK P M (fun ρ => do pure (if ← asBool (den ρ c) then den ρ x else den ρ y)) K := by
  unfold pickC at h
  split at h
  · rename_i c
    cases c
    · exact SemOK.pure y hy (h.2 rfl) (fun G ρ w _ => by simp [den, asBool])
    · exact SemOK.pure x hx (h.1 rfl) (fun G ρ w _ => by simp [den, asBool])
  · cases h
theorem extC_ok {x : SV} {i : Nat} {K : SV → List Blk → Prop} (hx : x.lt M.length = true) (h : extC x i (fun v => K v M)) : SemOK P M (fun ρ => Instr.extract (den ρ x) i) K := by
  unfold extC at h
  split at h
  · rename_i l
    split at h
    · rename_i v hv
      refine SemOK.pure v (ltL_get hx hv) h (fun G ρ w _ => ?_)
      simp [den, Instr.extract, denL_get, hv]
    · cases h
  · cases h
theorem foldl_set (ρ : Ren) : ∀ (vs : List Value) (cs : List Value) (off k : Nat), off + k + vs.length ≤ cs.length →
    (vs.zipIdx k).foldl (fun (cs : Array Value) (x : Value × Nat) => cs.setIfInBounds (off + x.2) x.1) cs.toArray = (cs.take (off + k) ++ vs ++ cs.drop (off + k + vs.length)).toArray
  | [], cs, off, k, _ => by simp
  | v :: vs, cs, off, k, h => by
    simp only [List.zipIdx_cons, List.foldl_cons]
    have hl : (v :: vs).length = vs.length + 1 := rfl
    rw [hl] at h
    have hlt : off + k < cs.length := by omega
    have := foldl_set ρ vs (cs.set (off + k) v) off (k + 1) (by simp only [List.length_set]; omega)
    rw [show cs.toArray.setIfInBounds (off + k) v = (cs.set (off + k) v).toArray by simp, this]
    congr 1
    have e1 : (cs.set (off + k) v).take (off + (k + 1)) = cs.take (off + k) ++ [v] := by
      have hmin : min (off + k) cs.length = off + k := Nat.min_eq_left (Nat.le_of_lt hlt)
      rw [List.set_eq_take_append_cons_drop, if_pos hlt, List.take_append, List.length_take, hmin, show off + (k + 1) - (off + k) = 1 by omega,
        List.take_take, Nat.min_eq_right (by omega)]
      simp
    have e2 : (cs.set (off + k) v).drop (off + (k + 1) + vs.length) = cs.drop (off + k + (v :: vs).length) := by
      rw [List.drop_set_of_lt (by omega)]
      congr 1
      simp; omega
    rw [e1, e2]; simp
theorem fillS_ok (ρ : Ren) (place : Nat → Option (Nat × Nat)) : ∀ (parts : List (Nat × SV)) (z l : List SV), fillS place z parts = some l →
    Instr.fill place (denL ρ z).toArray (parts.map fun x => (x.1, den ρ x.2)) = some (denL ρ l).toArray
  | [], z, l, h => by
    simp only [fillS, Option.some.injEq] at h
    subst h
    rfl
  | (i, v) :: parts, z, l, h => by
    simp only [fillS] at h
    split at h
    · cases h
    · rename_i off size hp
      split at h
      · rename_i hc
        obtain ⟨h1, h2, h3⟩ := hc
        have ih := fillS_ok ρ place parts _ l h
        simp only [List.map_cons, Instr.fill, hp]
        have hcells := cellsS_den ρ v h3
        have hsz : (den ρ v).cells.size = size := by rw [hcells]; simp [denL_length, h1]
        rw [if_neg (by simp [hsz, denL_length]; omega)]
        rw [← ih]
        congr 1
        rw [hcells]
        have := foldl_set ρ (denL ρ (cellsS v)) (denL ρ z) off 0 (by simp [denL_length]; omega)
        simp only [Nat.add_zero] at this
        have e : splice z off (cellsS v) = z.take off ++ cellsS v ++ z.drop (off + (cellsS v).length) := rfl
        rw [e, denL_append, denL_append, denL_take, denL_drop]
        rw [denL_length] at this
        rw [← this, ← Array.foldl_toList, Array.toList_zipIdx]
      · cases h
theorem fillS_lt {m : Nat} (place : Nat → Option (Nat × Nat)) : ∀ (parts : List (Nat × SV)) (z l : List SV), ltL m z = true → (∀ x, x ∈ parts → x.2.lt m = true) → fillS place z parts = some l → ltL m l = true
  | [], z, l, hz, _, h => by
    simp only [fillS, Option.some.injEq] at h
    exact h ▸ hz
  | (i, v) :: parts, z, l, hz, hp, h => by
    simp only [fillS] at h
    split at h
    · cases h
    · split at h
      · refine fillS_lt place parts _ l ?_ (fun x hx => hp x (by simp [hx])) h
        simp only [splice, ltL_append, Bool.and_eq_true]
        exact ⟨⟨ltL_sub hz (fun x hx => List.mem_of_mem_take hx), cellsS_lt (hp (i, v) (by simp))⟩, ltL_sub hz (fun x hx => List.mem_of_mem_drop hx)⟩
      · cases h
theorem run_mapM_places (fs : List Field) (w : World) : (∀ x, x ∈ fs → (P.info? x.type).isSome = true) →
    (fs.mapM fun (f : Field) => (do pure (f.offset, ← sizeOf f.type) : Sem (Nat × Nat))).run P w = .ok (fs.map fun (f : Field) => (f.offset, ((P.info? f.type).map (·.size)).getD 0)) w := by
  induction fs with
  | nil => intro _; rfl
  | cons f fs ih =>
    intro h
    obtain ⟨i, hi⟩ := Option.isSome_iff_exists.1 (h f (by simp))
    simp only [List.mapM_cons, Sem.run_bind, run_sizeOf (show (P.info? f.type).map (·.size) = some i.size by simp [hi]), Result.andThen_ok, Sem.run_pure, ih (fun x hx => h x (by simp [hx])), List.map_cons, hi, Option.map_some, Option.getD_some]
theorem zero_facts (hT : TabOK P T) {t : TypeId} {z : List SV} (h : T.z t = some z) : ∃ i v, P.info? t = some i ∧ i.zero = some v ∧ z = v.cells.toList.map cS ∧ (∀ ρ, (denL ρ z).toArray = v.cells) ∧ (∀ m, ltL m z = true) ∧ z.all SV.one = true ∧ i.size = z.length := by
  obtain ⟨h1, h2, h3⟩ := hT.zero t z h
  unfold zeroOf at h1
  cases hi : P.info? t with
  | none => simp [hi] at h1
  | some i =>
    cases hz : i.zero with
    | none => simp [hi, hz] at h1
    | some v =>
      simp only [hi, hz, Option.bind_some, Option.map_some, Option.some.injEq] at h1
      refine ⟨i, v, rfl, hz, h1.symm, fun ρ => ?_, fun m => ?_, h2, by simpa [hi] using h3⟩
      · rw [← h1, denL_eq, List.map_map]
        have : (den ρ ∘ cS) = id := funext (cS_den ρ)
        rw [this]; simp
      · rw [← h1, ltL_eq, List.all_eq_true]
        intro x hx
        obtain ⟨y, _, rfl⟩ := List.mem_map.1 hx
        exact cS_lt _ y
theorem buildC_ok (hT : TabOK P T) {t : TypeId} {parts : List (Nat × SV)} {K : SV → List Blk → Prop} (hp : ∀ x, x ∈ parts → x.2.lt M.length = true)
    (hfs : ∀ fs, P.underlying t = some (.struct fs) → fs.toList.all (fun x => (P.info? x.type).isSome && ((P.info? x.type).map (·.size) != some 0)) = true)
    (h : buildC T t parts (fun v => K v M)) : SemOK P M (fun ρ => Instr.build t (parts.map fun x => (x.1, den ρ x.2)).toArray) K := by
  unfold buildC at h
  split at h
  · cases h
  · rename_i z hz
    obtain ⟨i, v, hi, hzero, _, hden, hlt, _, _⟩ := zero_facts hT hz
    have hzv : ∀ w, (zeroValue t).run P w = .ok v w := fun w => by simp [zeroValue, typeInfo, hi, hzero]
    split at h
    · rename_i n e esz sz htk
      obtain ⟨d, ti, hd, hi', rfl, _, _, he⟩ := tk_facts (Tab.facts hT htk (by simp)) (by simp)
      split at h
      · rename_i l hl
        refine SemOK.pure (.agg l) (fillS_lt _ _ _ _ (hlt _) hp hl) h (fun G ρ w _ => ?_)
        have := fillS_ok ρ _ parts z l hl
        rw [hden ρ] at this
        simp only [Instr.build, Sem.run_bind, hzv, Result.andThen_ok, run_underlying hd, run_sizeOf he, this, Sem.run_pure, den]
      · cases h
    · rename_i sz htk
      obtain ⟨d, ti, hd, hi', _, fs, rfl⟩ := tk_facts (Tab.facts hT htk (by simp)) (by simp)
      split at h
      · rename_i l hl
        refine SemOK.pure (.agg l) (fillS_lt _ _ _ _ (hlt _) hp hl) h (fun G ρ w _ => ?_)
        have hall := hfs fs hd
        have hpl : (fs.mapM fun (f : Field) => (do pure (f.offset, ← sizeOf f.type) : Sem (Nat × Nat))).run P w = .ok (fs.toList.map fun (f : Field) => (f.offset, ((P.info? f.type).map (·.size)).getD 0)).toArray w := by
          rw [Array.mapM_eq_mapM_toList]
          simp only [Sem.run_map, run_mapM_places fs.toList w (fun x hx => by
            have := List.all_eq_true.1 hall x hx
            simp only [Bool.and_eq_true] at this
            exact this.1), Result.andThen_ok]
        have hplace : ∀ j, (fs.toList.map fun (f : Field) => (f.offset, ((P.info? f.type).map (·.size)).getD 0)).toArray[j]? = (foOf P t j).map fun x => (x.1, x.2.1) := by
          intro j
          unfold foOf
          simp only [hd, List.getElem?_toArray, List.getElem?_map, Array.getElem?_toList]
          cases hx : fs[j]? with
          | none => rfl
          | some x =>
            have hmem : x ∈ fs.toList := by
              have : fs.toList[j]? = some x := by simpa using hx
              exact List.mem_of_getElem? this
            have := List.all_eq_true.1 hall x hmem
            simp only [Bool.and_eq_true] at this
            obtain ⟨ix, hix⟩ := Option.isSome_iff_exists.1 this.1
            have hne : ix.size ≠ 0 := by
              have h2 := this.2
              simp [hix] at h2
              exact h2
            simp [hix, hne]
        have hl' : fillS (fun j => (foOf P t j).map fun x => (x.1, x.2.1)) z parts = some l := by
          have key : ∀ (parts : List (Nat × SV)) (z : List SV), fillS (fun i => (T.f t i).map fun x => (x.1, x.2.1)) z parts = some l → fillS (fun j => (foOf P t j).map fun x => (x.1, x.2.1)) z parts = some l := by
            intro parts
            induction parts with
            | nil => intro z h; exact h
            | cons pv parts ih =>
              intro z h
              obtain ⟨j, pv⟩ := pv
              simp only [fillS] at h ⊢
              cases hf : T.f t j with
              | none => simp [hf] at h
              | some x =>
                rw [hT.fo t j x hf]
                simp only [hf, Option.map_some] at h ⊢
                split at h
                · rename_i hc
                  rw [if_pos hc]
                  exact ih _ h
                · cases h
          exact key parts z hl
        have := fillS_ok ρ _ parts z l hl'
        rw [hden ρ] at this
        simp only [Instr.build, Sem.run_bind, hzv, Result.andThen_ok, run_underlying hd, hpl]
        rw [show (fun x => (fs.toList.map fun (f : Field) => (f.offset, ((P.info? f.type).map (·.size)).getD 0)).toArray[x]?) = (fun j => (foOf P t j).map fun x => (x.1, x.2.1)) from funext hplace]
        rw [this]
        simp only [Sem.run_pure, den]
      · cases h
    · cases h
theorem bndC_ok {o : Option SV} {d y : Nat} {K : Nat → Prop} (h : bndC o d y K) : ∃ n, K n ∧ ((o = none ∧ n = d) ∨ ∃ v, o = some v ∧ ∀ code ρ w, (Instr.sliceBound (den ρ v) y code).run P w = .ok n w) := by
  cases o with
  | none => exact ⟨d, h, .inl ⟨rfl, rfl⟩⟩
  | some v =>
    simp only [bndC] at h
    split at h
    · rename_i j hj
      obtain ⟨k, hk⟩ := ixOf_den hj
      refine ⟨j.toNat, h.2.2, .inr ⟨v, rfl, fun code ρ w => ?_⟩⟩
      simp only [hk ρ, Instr.sliceBound, asIntOf, Sem.run_bind, Sem.run_pure, Result.andThen_ok, if_pos (And.intro h.1 h.2.1)]
    · cases h
theorem bnds_ok {len cap : Nat} {lo hi mx : Option SV} {K : Nat → Nat → Nat → Prop} (isS : Bool) (h : bnds len cap lo hi mx K) :
    ∃ l h m, K l h m ∧ ∀ ρ w, (Instr.sliceBounds isS len cap (lo.map (den ρ)) (hi.map (den ρ)) (mx.map (den ρ))).run P w = .ok (l, h, m) w := by
  unfold bnds at h
  split at h
  · cases h
  · rename_i hne
    obtain ⟨m, h1, r1⟩ := bndC_ok (P := P) h
    obtain ⟨hh, h2, r2⟩ := bndC_ok (P := P) h1
    obtain ⟨l, h3, r3⟩ := bndC_ok (P := P) h2
    refine ⟨l, hh, m, h3, fun ρ w => ?_⟩
    rcases r1 with ⟨rfl, rfl⟩ | ⟨v1, rfl, r1⟩ <;> rcases r2 with ⟨rfl, rfl⟩ | ⟨v2, rfl, r2⟩ <;> rcases r3 with ⟨rfl, rfl⟩ | ⟨v3, rfl, r3⟩ <;>
      first
      | exact absurd rfl (hne _ rfl)
      | simp [Instr.sliceBounds, *]
theorem sliceC_ok (hT : TabOK P T) {t : TypeId} {x : SV} {lo hi mx : Option SV} {K : SV → List Blk → Prop} (hx : x.lt M.length = true) (h : sliceC T M t x lo hi mx (fun v => K v M)) :
    SemOK P M (fun ρ => Instr.sliceAt t (den ρ x) (lo.map (den ρ)) (hi.map (den ρ)) (mx.map (den ρ))) K := by
  unfold sliceC at h
  split at h
  · rename_i n e esz sz nm off htk
    obtain ⟨hlv, h⟩ := h
    obtain ⟨d, ti, hd, _, rfl, _, _, he⟩ := tk_facts (Tab.facts hT htk (by simp)) (by simp)
    obtain ⟨l, hh, m, hK, hr⟩ := bnds_ok (P := P) false h
    refine SemOK.pure _ (by simpa [SV.lt] using hx) hK (fun G ρ w hs => ?_)
    obtain ⟨g, o, hg⟩ := live_ren hs hlv
    have hp : den ρ (.p nm off) = .pointer (some ⟨g, o + off, none⟩) := by simp [den, adr, hg]
    rw [hp]
    simp only [Instr.sliceAt, Sem.run_bind, run_underlying hd, Result.andThen_ok, Instr.sureAddr, Sem.run_pure, hr, run_sizeOf he, den, adr, hg, Option.map_some, addr_add]
    split <;> simp [Nat.add_assoc]
  · rename_i e esz eby nm off len cap htk
    obtain ⟨d, ti, hd, _, _, rfl, he, _⟩ := tk_facts (Tab.facts hT htk (by simp)) (by simp)
    obtain ⟨l, hh, m, hK, hr⟩ := bnds_ok (P := P) true h
    refine SemOK.pure _ (by simpa [SV.lt] using hx) hK (fun G ρ w hs => ?_)
    simp only [den, Instr.sliceAt, Instr.slice, Sem.run_bind, run_underlying hd, Result.andThen_ok, hr, run_sizeOf he, Sem.run_pure]
    congr 2
    cases hρ : ρ nm with
    | none => simp [adr, hρ]
    | some a =>
      simp only [adr, hρ, Option.map_some, addr_add]
      split <;> simp [Nat.add_assoc]
  · rename_i e esz eby htk
    obtain ⟨d, ti, hd, _, _, rfl, he, _⟩ := tk_facts (Tab.facts hT htk (by simp)) (by simp)
    -- all bounds are nought
    have hz : ∃ l h m, (l = 0 ∧ h = 0 ∧ m = 0 ∧ K .sn M) ∧ ∀ ρ w, (Instr.sliceBounds true 0 0 (lo.map (den ρ)) (hi.map (den ρ)) (mx.map (den ρ))).run P w = .ok (l, h, m) w := by
      refine bnds_ok (P := P) true ?_
      revert h
      unfold bnds
      split
      · exact id
      · intro h
        have key : ∀ (o : Option SV) (d : Nat) (K : Nat → Prop), d = 0 → bndC o d 0 K → bndC o d 0 (fun n => n = 0 ∧ K n) := by
          intro o d K hd hb
          cases o with
          | none => exact ⟨hd, hb⟩
          | some v =>
            simp only [bndC] at hb ⊢
            cases hv : ixOf v with
            | none => simp [hv] at hb
            | some j =>
              simp only [hv] at hb
              exact ⟨hb.1, hb.2.1, by omega, hb.2.2⟩
        have mono : ∀ (o : Option SV) (d y : Nat) (K K' : Nat → Prop), (∀ n, K n → K' n) → bndC o d y K → bndC o d y K' := by
          intro o d y K K' hi hb
          cases o with
          | none => exact hi _ hb
          | some v =>
            simp only [bndC] at hb ⊢
            cases hv : ixOf v with
            | none => simp [hv] at hb
            | some j =>
              simp only [hv] at hb
              exact ⟨hb.1, hb.2.1, hi _ hb.2.2⟩
        refine mono _ _ _ _ _ ?_ (key mx 0 _ rfl h)
        rintro m ⟨rfl, hm⟩
        refine mono _ _ _ _ _ ?_ (key hi 0 _ rfl hm)
        rintro m ⟨rfl, hm⟩
        refine mono _ _ _ _ _ ?_ (key lo 0 _ rfl hm)
        rintro m ⟨rfl, hm⟩
        exact ⟨rfl, rfl, rfl, hm⟩
    obtain ⟨l, hh, m, ⟨rfl, rfl, rfl, hK⟩, hr⟩ := hz
    refine SemOK.pure _ rfl hK (fun G ρ w hs => ?_)
    simp only [den, Instr.sliceAt, Instr.slice, Sem.run_bind, run_underlying hd, Result.andThen_ok, hr, run_sizeOf he, Sem.run_pure]
    simp
  · cases h
theorem nilC_ok {x : SV} {X : Operand} {o : Oper} (ho : o.op = .nilCheck X) {ts : List SV} {K : SV → List Blk → Prop} (hx : x = evS ts X) (h : nilC M x (fun v => K v M)) : OpOK P o ts M K := by
  subst hx
  intro G ρ w a hs ht next Q hn
  unfold nilC at h
  unfold Oper.wp execOp
  simp only [ho]
  have hev := ht.ev X
  have hlt := ht.ev_lt X
  split at h
  · rename_i n off he
    obtain ⟨hlv, hK⟩ := h
    obtain ⟨g, o', hg⟩ := live_ren hs hlv
    have hp : den ρ (.p n off) = .pointer (some ⟨g, o' + off, none⟩) := by simp [den, adr, hg]
    rw [he] at hev hlt
    rw [hev]
    have := hn ρ (.p n off) M w (Ext.refl _ _) (Nat.le_refl _) hs hlt hK
    rw [hp] at this ⊢
    exact this
  · rename_i f fa fc he
    rw [he] at hev hlt
    rw [hev]
    have := hn ρ (.fn (.func f) fa fc) M w (Ext.refl _ _) (Nat.le_refl _) hs hlt h
    simp only [den] at this ⊢
    exact this
  · cases h
end
end Go.Proofs.YtdkdbeamimkljaaGreatDoor.Eng
