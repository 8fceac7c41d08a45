/- The engine, part D: one operation. -/
import Derived.Test.YtdkdbeamimkljaaGreatDoorEngC
namespace Go.Proofs.YtdkdbeamimkljaaGreatDoor.Eng
open Go Go.RowKit
set_option linter.unusedSimpArgs false
set_option linter.unusedVariables false
/-- what an operation does to a state: its value, and the memory behind it -/
def OpOK (P : Program) (o : Oper) (ts : List SV) (M : List Blk) (K : SV → List Blk → Prop) : Prop :=
  ∀ (G : Cx) (ρ : Ren) (w : World) (a : Act), Sim G ρ M w → TS ρ M.length ts a →
    ∀ (next : Act → World → Prop) (Q : Exit → Act → World → Prop),
      (∀ ρ' v M' w', Ext ρ ρ' M.length → M.length ≤ M'.length → Sim G ρ' M' w' → v.lt M'.length = true → K v M' → next (a.put o.dst (den ρ' v)) w') → o.wp P a w next Q
def SemOK (P : Program) (M : List Blk) (s : Ren → Sem Value) (K : SV → List Blk → Prop) : Prop :=
  ∀ (G : Cx) (ρ : Ren) (w : World), Sim G ρ M w → ∃ ρ' v M' w', (s ρ).run P w = .ok (den ρ' v) w' ∧ Ext ρ ρ' M.length ∧ M.length ≤ M'.length ∧ Sim G ρ' M' w' ∧ v.lt M'.length = true ∧ K v M'
def SemOKu (P : Program) (M : List Blk) (s : Ren → Sem Unit) (K : SV → List Blk → Prop) : Prop :=
  ∀ (G : Cx) (ρ : Ren) (w : World), Sim G ρ M w → ∃ ρ' M' w', (s ρ).run P w = .ok () w' ∧ Ext ρ ρ' M.length ∧ M.length ≤ M'.length ∧ Sim G ρ' M' w' ∧ K uS M'
theorem OpOK.of_sem {P : Program} {o : Oper} {ts : List SV} {M : List Blk} {K : SV → List Blk → Prop} (s : Ren → Sem Value)
    (he : ∀ ρ a, TS ρ M.length ts a → execOp a.eval o = (do pure (Next.value (← s ρ)))) (h : SemOK P M s K) : OpOK P o ts M K := by
  intro G ρ w a hs ht next Q hn
  obtain ⟨ρ', v, M', w', hr, h1, h2, h3, h4, h5⟩ := h G ρ w hs
  unfold Oper.wp
  rw [he ρ a ht]
  simp only [Sem.run_bind, hr, Result.andThen_ok, Sem.run_pure, Oper.upon]
  exact hn ρ' v M' w' h1 h2 h3 h4 h5
theorem OpOK.of_semu {P : Program} {o : Oper} {ts : List SV} {M : List Blk} {K : SV → List Blk → Prop} (s : Ren → Sem Unit)
    (he : ∀ ρ a, TS ρ M.length ts a → execOp a.eval o = (do s ρ; pure Next.skip)) (h : SemOKu P M s K) : OpOK P o ts M K := by
  intro G ρ w a hs ht next Q hn
  obtain ⟨ρ', M', w', hr, h1, h2, h3, h5⟩ := h G ρ w hs
  unfold Oper.wp
  rw [he ρ a ht]
  simp only [Sem.run_bind, hr, Result.andThen_ok, Sem.run_pure, Oper.upon]
  exact hn ρ' uS M' w' h1 h2 h3 rfl h5
theorem SemOK.pure {P : Program} {M : List Blk} {s : Ren → Sem Value} {K : SV → List Blk → Prop} (v : SV) (hv : v.lt M.length = true) (hK : K v M)
    (h : ∀ G ρ w, Sim G ρ M w → (s ρ).run P w = .ok (den ρ v) w) : SemOK P M s K :=
  fun G ρ w hs => ⟨ρ, v, M, w, h G ρ w hs, Ext.refl _ _, Nat.le_refl _, hs, hv, hK⟩
/-! the words of memory -/
def isI (k : IntKind) (cs : List SV) (j : Nat) : Bool := match cs[j]? with | some (.i k' _) => k' == k | _ => false
def cellI (cs : List SV) (j : Nat) : Int := match cs[j]? with | some (.i _ x) => x | _ => 0
def is8 (cs : List SV) (j : Nat) : Bool := match cs[j]? with | some (.u8 _) => true | _ => false
def cell8 (cs : List SV) (j : Nat) : BitVec 8 := match cs[j]? with | some (.u8 x) => x | _ => 0#8
def is32 (cs : List SV) (j : Nat) : Bool := match cs[j]? with | some (.u32 _) => true | _ => false
def cell32 (cs : List SV) (j : Nat) : BitVec 32 := match cs[j]? with | some (.u32 x) => x | _ => 0#32
def is64 (cs : List SV) (j : Nat) : Bool := match cs[j]? with | some (.u64 _) => true | _ => false
def cell64 (cs : List SV) (j : Nat) : BitVec 64 := match cs[j]? with | some (.u64 x) => x | _ => 0#64
theorem is8_get {cs : List SV} {j : Nat} (h : is8 cs j = true) : cs[j]? = some (.u8 (cell8 cs j)) := by
  unfold is8 at h; unfold cell8; split at h <;> simp_all
theorem is32_get {cs : List SV} {j : Nat} (h : is32 cs j = true) : cs[j]? = some (.u32 (cell32 cs j)) := by
  unfold is32 at h; unfold cell32; split at h <;> simp_all
theorem is64_get {cs : List SV} {j : Nat} (h : is64 cs j = true) : cs[j]? = some (.u64 (cell64 cs j)) := by
  unfold is64 at h; unfold cell64; split at h <;> simp_all
theorem isI_get {k : IntKind} {cs : List SV} {j : Nat} (h : isI k cs j = true) : cs[j]? = some (.i k (cellI cs j)) := by
  unfold isI at h; unfold cellI; split at h <;> simp_all
/-- a cell of type t, read -/
def cellC (tk : TK) (cs : List SV) (j : Nat) (K : SV → Prop) : Prop :=
  match tk with
  | .int .u8 => is8 cs j = true ∧ K (.u8 (cell8 cs j))
  | .int .u32 => is32 cs j = true ∧ K (.u32 (cell32 cs j))
  | .int .u64 => is64 cs j = true ∧ K (.u64 (cell64 cs j))
  | .int k => isI k cs j = true ∧ K (.i k (cellI cs j))
  | .arr _ _ _ sz | .struct sz => 0 < sz ∧ j + sz ≤ cs.length ∧ K (.agg ((cs.drop j).take sz))
  | .other => False
  | _ => j < cs.length ∧ K (cs.getD j uS)
def loadC (T : Tab) (t : TypeId) (a : SV) (M : List Blk) (K : SV → Prop) : Prop :=
  match a with
  | .p n off => cellC (T.k t) (cellsAt M n) off K
  | _ => False
def splice (cs : List SV) (off : Nat) (vs : List SV) : List SV := cs.take off ++ vs ++ cs.drop (off + vs.length)
def storeB (tk : TK) (n off : Nat) (v : SV) (M : List Blk) (B : Option Blk) (K : List Blk → Prop) : Prop :=
  match B with
  | some (.row cs ty) =>
    match tk, v with
    | .arr _ _ _ sz, .agg vs | .struct sz, .agg vs => 0 < sz ∧ vs.length = sz ∧ vs.all SV.one = true ∧ off + sz ≤ cs.length ∧ K (M.set n (.row (splice cs off vs) ty))
    | .arr .., _ | .struct .., _ | .other, _ => False
    | _, v => v.one = true ∧ off < cs.length ∧ K (M.set n (.row (cs.set off v) ty))
  | _ => False
def storeC (T : Tab) (t : TypeId) (a v : SV) (M : List Blk) (K : List Blk → Prop) : Prop :=
  match a with
  | .p n off => storeB (T.k t) n off v M M[n]? K
  | _ => False
def allocC (T : Tab) (t : TypeId) (M : List Blk) (K : SV → List Blk → Prop) : Prop :=
  match T.z t with
  | some cs => K (.p M.length 0) (M ++ [.row cs t])
  | none => False
def cellsS : SV → List SV
  | .agg l => l
  | v => [v]
def boxC (t : TypeId) (x : SV) (M : List Blk) (K : SV → List Blk → Prop) : Prop :=
  (cellsS x).all SV.one = true ∧ K (.p M.length 0) (M ++ [.row (cellsS x) t])
theorem cellsS_den (ρ : Ren) (x : SV) (h : (cellsS x).all SV.one = true) : (den ρ x).cells = (denL ρ (cellsS x)).toArray := by
  by_cases hx : ∃ l, x = .agg l
  · obtain ⟨l, rfl⟩ := hx
    simp only [cellsS, den, Value.cells]
  · have e : cellsS x = [x] := by
      cases x <;> first | rfl | exact absurd ⟨_, rfl⟩ hx
    rw [e] at h ⊢
    simp only [List.all_cons, List.all_nil, Bool.and_true] at h
    rw [one_cells (one_den h)]
    simp [denL]
theorem cellsS_lt {m : Nat} {x : SV} (h : x.lt m = true) : ltL m (cellsS x) = true := by
  cases x <;> first | exact h | (simp only [cellsS, ltL, h, Bool.and_true])
/-! soundness -/
section
variable {P : Program} {T : Tab} {M : List Blk}
def isAggD : TypeDesc → Bool
  | .struct _ | .array _ _ => true
  | _ => false
def tkFact (P : Program) (tk : TK) (d : TypeDesc) (i : TypeInfo) : Prop :=
  match tk with
  | .arr n e esz sz => d = .array n e ∧ i.size = sz ∧ n * esz = sz ∧ (P.info? e).map (·.size) = some esz
  | .struct sz => i.size = sz ∧ (∃ fs, d = .struct fs)
  | .int k => i.size = 1 ∧ d = .int k
  | .bool => i.size = 1 ∧ d = .bool
  | .str => i.size = 1 ∧ d = .string
  | .ptr => i.size = 1 ∧ ∃ e, d = .pointer e
  | .map e => i.size = 1 ∧ ∃ k, d = .map k e ∧ P.underlying k = some (.int .i64)
  | .func => i.size = 1 ∧ ∃ a b c, d = .func a b c
  | .iface => i.size = 1 ∧ ∃ ms, d = .interface ms
  | .slice e esz eby => i.size = 1 ∧ d = .slice e ∧ (P.info? e).map (·.size) = some esz ∧ (P.info? e).map (·.bytes) = some eby
  | .other => False
theorem run_isAgg {t : TypeId} {d : TypeDesc} (h : P.underlying t = some d) (w : World) : (isAgg t).run P w = .ok (isAggD d) w := by
  unfold isAgg
  rw [Sem.run_bind, run_underlying h w]
  cases d <;> simp [isAggD]
theorem tk_facts {t : TypeId} {tk : TK} (h : tkOf P t = tk) (hne : tk ≠ .other) : ∃ d i, P.underlying t = some d ∧ P.info? t = some i ∧ tkFact P tk d i := by
  unfold tkOf at h
  cases hd : P.underlying t with
  | none => simp [hd] at h; exact absurd h.symm hne
  | some d =>
    cases hi : P.info? t with
    | none => cases d <;> simp [hd, hi] at h <;> exact absurd h.symm hne
    | some i =>
      refine ⟨d, i, rfl, rfl, ?_⟩
      cases d <;> simp only [hd, hi] at h <;> (try exact absurd h.symm hne)
      case slice e =>
        split at h
        · cases he : P.info? e with
          | none => simp [he] at h; exact absurd h.symm hne
          | some j => simp [he] at h; subst h; rename_i h1; exact ⟨h1, rfl, by simp [he], by simp [he]⟩
        · exact absurd h.symm hne
      case array n e =>
        cases he : P.info? e with
        | none => simp [he] at h; exact absurd h.symm hne
        | some j =>
          simp only [he] at h
          split at h
          · rename_i h1; subst h; exact ⟨rfl, rfl, h1, by simp [he]⟩
          · exact absurd h.symm hne
      case struct fs =>
        split at h
        · subst h; exact ⟨rfl, fs, rfl⟩
        · exact absurd h.symm hne
      case map k e =>
        split at h
        · rename_i h1
          split at h
          · rename_i hk; subst h; exact ⟨h1, k, rfl, hk⟩
          · exact absurd h.symm hne
        · exact absurd h.symm hne
      all_goals
        split at h
        · rename_i h1; subst h; simp_all [tkFact]
        · exact absurd h.symm hne
theorem struct_zero {t : TypeId} {sz : Nat} (h : tkOf P t = .struct sz) {i : TypeInfo} (hi : P.info? t = some i) {v : Value} (hz : i.zero = some v) : ∃ l, v = .agg l := by
  unfold tkOf at h
  cases hd : P.underlying t with
  | none => simp [hd] at h
  | some d =>
    cases d <;> simp only [hd, hi] at h <;> (try (split at h <;> (try split at h) <;> cases h; done))
    case struct fs =>
      split at h
      · rename_i h1
        rw [hz] at h1
        cases v <;> simp [zAg] at h1
        exact ⟨_, rfl⟩
      · cases h
    all_goals (cases h)
theorem Tab.facts (hT : TabOK P T) {t : TypeId} {tk : TK} (h : T.k t = tk) (hne : tk ≠ .other) : tkOf P t = tk := by
  rcases hT.tk t with h' | h'
  · exact absurd (h.symm.trans h') hne
  · exact h'.trans h
/-- one cell, loaded -/
theorem run_load1 {G : Cx} {ρ : Ren} {w : World} (hs : Sim G ρ M w) {t : TypeId} {d : TypeDesc} (hd : P.underlying t = some d) (ha : isAggD d = false)
    {n off : Nat} {v : SV} (hv : (cellsAt M n)[off]? = some v) : (Instr.loadAt t (den ρ (.p n off))).run P w = .ok (den ρ v) w := by
  obtain ⟨g, o, hg, hc⟩ := cells_get hs hv
  have hp : den ρ (.p n off) = .pointer (some ⟨g, o + off, none⟩) := by simp [den, adr, hg]
  rw [hp]
  simp only [Instr.loadAt, Instr.sureAddr, Sem.run_bind, Sem.run_pure, Result.andThen_ok, loadVar, run_isAgg hd, ha, Bool.false_eq_true, if_false, run_load, hc]
theorem run_loadN {G : Cx} {ρ : Ren} {w : World} (hs : Sim G ρ M w) {t : TypeId} {d : TypeDesc} {i : TypeInfo} (hd : P.underlying t = some d) (hi : P.info? t = some i)
    (ha : isAggD d = true) {n off : Nat} (hpos : 0 < i.size) (hl : off + i.size ≤ (cellsAt M n).length) :
    (Instr.loadAt t (den ρ (.p n off))).run P w = .ok (den ρ (.agg (((cellsAt M n).drop off).take i.size))) w := by
  obtain ⟨g, o, hg, hr⟩ := run_loadCells_at (P := P) hs hl hpos
  have hp : den ρ (.p n off) = .pointer (some ⟨g, o + off, none⟩) := by simp [den, adr, hg]
  rw [hp]
  simp only [Instr.loadAt, Instr.sureAddr, Sem.run_bind, Sem.run_pure, Result.andThen_ok, loadVar, run_isAgg hd, ha, if_true, sizeOf, typeInfo, run_program, hi, hr, den]
theorem loadC_val (hT : TabOK P T) {t : TypeId} {a : SV} {K : SV → Prop} (h : loadC T t a M K) :
    ∃ v, K v ∧ ∀ G ρ w, Sim G ρ M w → (Instr.loadAt t (den ρ a)).run P w = .ok (den ρ v) w ∧ v.lt M.length = true := by
  cases a with
  | p n off =>
    simp only [loadC] at h
    have one : ∀ (v : SV) (d : TypeDesc), P.underlying t = some d → isAggD d = false → (cellsAt M n)[off]? = some v → K v → ∃ v, K v ∧ ∀ G ρ w, Sim G ρ M w → (Instr.loadAt t (den ρ (.p n off))).run P w = .ok (den ρ v) w ∧ v.lt M.length = true := by
      intro v d hd ha hv hK
      exact ⟨v, hK, fun G ρ w hs => ⟨run_load1 hs hd ha hv, ltL_get (cells_lt hs n) hv⟩⟩
    have many : ∀ (d : TypeDesc) (i : TypeInfo), P.underlying t = some d → P.info? t = some i → isAggD d = true → 0 < i.size → off + i.size ≤ (cellsAt M n).length →
        K (.agg (((cellsAt M n).drop off).take i.size)) → ∃ v, K v ∧ ∀ G ρ w, Sim G ρ M w → (Instr.loadAt t (den ρ (.p n off))).run P w = .ok (den ρ v) w ∧ v.lt M.length = true := by
      intro d i hd hi ha hp hl hK
      exact ⟨_, hK, fun G ρ w hs => ⟨run_loadN hs hd hi ha hp hl, ltL_sub (cells_lt hs n) (fun x hx => List.mem_of_mem_drop (List.mem_of_mem_take hx))⟩⟩
    have get : ∀ (h : off < (cellsAt M n).length), (cellsAt M n)[off]? = some ((cellsAt M n).getD off uS) := by
      intro h; simp [List.getD_eq_getElem?_getD, List.getElem?_eq_getElem h]
    cases htk : T.k t with
    | int k =>
      obtain ⟨d, i, hd, hi, hf⟩ := tk_facts (Tab.facts hT htk (by simp)) (by simp)
      obtain ⟨h1, rfl⟩ := hf
      rw [htk] at h
      cases k <;> simp only [cellC] at h
      case u8 => exact one _ _ hd rfl (is8_get h.1) h.2
      case u32 => exact one _ _ hd rfl (is32_get h.1) h.2
      case u64 => exact one _ _ hd rfl (is64_get h.1) h.2
      all_goals exact one _ _ hd rfl (isI_get h.1) h.2
    | arr m e esz sz =>
      obtain ⟨d, i, hd, hi, rfl, rfl, _, _⟩ := tk_facts (Tab.facts hT htk (by simp)) (by simp)
      rw [htk] at h
      simp only [cellC] at h
      exact many _ i hd hi rfl h.1 h.2.1 h.2.2
    | struct sz =>
      obtain ⟨d, i, hd, hi, rfl, fs, rfl⟩ := tk_facts (Tab.facts hT htk (by simp)) (by simp)
      rw [htk] at h
      simp only [cellC] at h
      exact many _ i hd hi rfl h.1 h.2.1 h.2.2
    | other => rw [htk] at h; simp only [cellC] at h
    | bool | str =>
      obtain ⟨d, i, hd, hi, _, rfl⟩ := tk_facts (Tab.facts hT htk (by simp)) (by simp)
      rw [htk] at h
      simp only [cellC] at h
      exact one _ _ hd rfl (get h.1) h.2
    | slice e esz eby =>
      obtain ⟨d, i, hd, hi, _, rfl, _⟩ := tk_facts (Tab.facts hT htk (by simp)) (by simp)
      rw [htk] at h
      simp only [cellC] at h
      exact one _ _ hd rfl (get h.1) h.2
    | ptr | iface =>
      obtain ⟨d, i, hd, hi, _, _, rfl⟩ := tk_facts (Tab.facts hT htk (by simp)) (by simp)
      rw [htk] at h
      simp only [cellC] at h
      exact one _ _ hd rfl (get h.1) h.2
    | map e =>
      obtain ⟨d, i, hd, hi, _, _, rfl, _⟩ := tk_facts (Tab.facts hT htk (by simp)) (by simp)
      rw [htk] at h
      simp only [cellC] at h
      exact one _ _ hd rfl (get h.1) h.2
    | func =>
      obtain ⟨d, i, hd, hi, _, _, _, _, rfl⟩ := tk_facts (Tab.facts hT htk (by simp)) (by simp)
      rw [htk] at h
      simp only [cellC] at h
      exact one _ _ hd rfl (get h.1) h.2
  | _ => simp only [loadC] at h
theorem loadC_ok (hT : TabOK P T) {t : TypeId} {a : SV} {K : SV → List Blk → Prop} (h : loadC T t a M (fun v => K v M)) :
    SemOK P M (fun ρ => Instr.loadAt t (den ρ a)) K := by
  obtain ⟨v, hK, hr⟩ := loadC_val hT h
  exact fun G ρ w hs => ⟨ρ, v, M, w, (hr G ρ w hs).1, Ext.refl _ _, Nat.le_refl _, hs, (hr G ρ w hs).2, hK⟩
theorem run_storeCells {P : Program} (g : Nat) (ty : TypeId) : ∀ (vs : List Value) (w : World) (off j : Nat) (pre cur post : List Value), (∀ v, v ∈ vs → v.oneCell' = true) →
    w.heap[g]? = some (.cells (pre ++ cur ++ post).toArray ty (0, 0)) → pre.length = off + j → cur.length = vs.length →
    (storeCells ⟨g, off, none⟩ vs j).run P w = .ok () (if vs = [] then w else w.setRow g (pre ++ vs ++ post).toArray)
  | [], w, off, j, pre, cur, post, _, _, _, _ => by simp [storeCells]
  | v :: vs, w, off, j, pre, cur, post, hv, hh, hp, hc => by
    cases cur with
    | nil => simp at hc
    | cons c cur =>
      have hone := hv v (by simp)
      have hcell : w.cell? ⟨g, off + j, none⟩ = some c := by
        rw [cell_of_row w g _ _ _ _ hh]
        simp [List.getElem?_append, hp]
      have hfr : w.frozen? ⟨g, off + j, none⟩ = false := frozen_of_row w g _ _ ty hh
      have hset : w.setCell ⟨g, off + j, none⟩ v = w.setRow g (pre ++ v :: cur ++ post).toArray := by
        rw [setCell_eq_setRow w g _ _ ty (0, 0) v hh]
        congr 1
        simp [List.set_append, hp]
      simp only [storeCells, Sem.run_bind, addr_add, run_store P w _ v .plain hone, hcell, hfr, Bool.false_eq_true, if_false, Result.andThen_ok, hset]
      have hh' : (w.setRow g (pre ++ v :: cur ++ post).toArray).heap[g]? = some (.cells ((pre ++ [v]) ++ cur ++ post).toArray ty (0, 0)) := by
        rw [setRow_heap w g _ _ ty (0, 0) hh]; simp
      rw [run_storeCells g ty vs _ off (j + 1) (pre ++ [v]) cur post (fun x hx => hv x (by simp [hx])) hh' (by simp [hp]; omega) (by simpa using hc)]
      by_cases he : vs = []
      · subst he
        have : cur = [] := by simpa using hc
        subst this
        simp
      · rw [if_neg he, if_neg (by simp), setRow_setRow]
        simp
theorem storeC_ok (hT : TabOK P T) {t : TypeId} {a v : SV} {K : SV → List Blk → Prop} (hv : v.lt M.length = true) (h : storeC T t a v M (fun M' => K uS M')) :
    SemOKu P M (fun ρ => Instr.storeAt t (den ρ a) (den ρ v)) K := by
  cases a with
  | p n off =>
    simp only [storeC] at h
    cases hB : M[n]? with
    | none => rw [hB] at h; simp only [storeB] at h
    | some B =>
      cases B with
      | ro cs => rw [hB] at h; simp only [storeB] at h
      | obj o => rw [hB] at h; simp only [storeB] at h
      | here => rw [hB] at h; simp only [storeB] at h
      | dead => rw [hB] at h; simp only [storeB] at h
      | row cs ty =>
        rw [hB] at h
        -- the common part
        have common : ∀ (sz : Nat) (vs : List SV), ((P.info? t).map (·.size) = some sz) → (∀ ρ, (den ρ v).cells = (denL ρ vs).toArray) → vs.length = sz → vs.all SV.one = true → ltL M.length vs = true → 0 < sz → off + sz ≤ cs.length →
            K uS (M.set n (.row (splice cs off vs) ty)) → SemOKu P M (fun ρ => Instr.storeAt t (den ρ (.p n off)) (den ρ v)) K := by
          intro sz vs hi hden hlen hone hlt hpos hle hK G ρ w hs
          have hspl : (splice cs off vs).all SV.one = true := by
            have h0 := (hs.blk n _ hB).1
            simp only [splice, List.all_append, Bool.and_eq_true, List.all_eq_true] at *
            exact ⟨⟨fun x hx => h0 x (List.mem_of_mem_take hx), hone⟩, fun x hx => h0 x (List.mem_of_mem_drop hx)⟩
          have hspl2 : ltL M.length (splice cs off vs) = true := by
            have h0 : ltL M.length cs = true := hs.lt n _ hB
            simp only [splice, ltL_append, Bool.and_eq_true]
            exact ⟨⟨ltL_sub h0 (fun x hx => List.mem_of_mem_take hx), hlt⟩, ltL_sub h0 (fun x hx => List.mem_of_mem_drop hx)⟩
          obtain ⟨g, hg, hh, hs'⟩ := hs.setRow hB (by intro e; rw [e] at hle; simp at hle; omega) hspl hspl2
          refine ⟨ρ, _, _, ?_, Ext.refl _ _, by simp, hs', hK⟩
          have hp : den ρ (.p n off) = .pointer (some ⟨g, off, none⟩) := by simp [den, adr, hg]
          show (Instr.storeAt t (den ρ (.p n off)) (den ρ v)).run P w = _
          rw [hp]
          obtain ⟨i, hi'⟩ : ∃ i, P.info? t = some i := by
            cases hq : P.info? t with
            | none => simp [hq] at hi
            | some i => exact ⟨i, rfl⟩
          have hsz : i.size = sz := by simpa [hi'] using hi
          have hsize : (den ρ v).cells.size = i.size := by rw [hden ρ, hsz]; simp [denL_length, hlen]
          have hcs : (denL ρ cs) = (denL ρ cs).take off ++ ((denL ρ cs).drop off).take sz ++ (denL ρ cs).drop (off + sz) := by
            rw [← List.drop_drop, List.append_assoc, List.take_append_drop, List.take_append_drop]
          have hlcs : (denL ρ cs).length = cs.length := denL_length ρ cs
          have hones : ∀ x, x ∈ denL ρ vs → x.oneCell' = true := by
            intro x hx
            rw [denL_eq] at hx
            obtain ⟨y, hy, rfl⟩ := List.mem_map.1 hx
            exact one_den (List.all_eq_true.1 hone y hy)
          have hr := run_storeCells (P := P) g ty (denL ρ vs) w off 0 ((denL ρ cs).take off) (((denL ρ cs).drop off).take sz) ((denL ρ cs).drop (off + sz)) hones
            (by rw [← hcs]; exact hh) (by simp [hlcs]; omega) (by simp [denL_length, hlcs]; omega)
          have hne : denL ρ vs ≠ [] := by
            intro e
            have := congrArg List.length e
            simp [denL_length, hlen] at this
            omega
          rw [if_neg hne] at hr
          have hfin : ((denL ρ cs).take off ++ denL ρ vs ++ (denL ρ cs).drop (off + sz)) = denL ρ (splice cs off vs) := by
            simp [splice, denL_append, denL_take, denL_drop, hlen]
          rw [hfin] at hr
          simp only [Instr.storeAt, Instr.sureAddr, Sem.run_bind, Sem.run_pure, Result.andThen_ok, storeVar, sizeOf, typeInfo, run_program, hi', hden ρ]
          rw [hden ρ] at hsize
          rw [if_neg (by simpa using hsize)]
          exact hr
        have single : (T.k t).one = true → v.one = true → off < cs.length → K uS (M.set n (.row (cs.set off v) ty)) → SemOKu P M (fun ρ => Instr.storeAt t (den ρ (.p n off)) (den ρ v)) K := by
          intro h1 h2 h3 h4
          have hne : T.k t ≠ .other := by intro e; rw [e] at h1; cases h1
          obtain ⟨d, i, hd, hi, hf⟩ := tk_facts (Tab.facts hT rfl hne) hne
          have hsz : i.size = 1 := by
            revert hf h1
            generalize T.k t = tk
            cases tk <;> simp [TK.one, tkFact] <;> intros <;> assumption
          have hspl : splice cs off [v] = cs.set off v := by
            rw [List.set_eq_take_append_cons_drop, if_pos h3]; simp [splice]
          exact common 1 [v] (by simp [hi, hsz]) (fun ρ => by rw [one_cells (one_den h2)]; simp [denL]) rfl (by simp [h2]) (by simp [ltL, hv]) (by omega) (by omega) (by rw [hspl]; exact h4)
        cases htk : T.k t with
        | arr m e esz sz =>
          rw [htk] at h
          cases v <;> simp only [storeB] at h
          rename_i vs
          obtain ⟨d, i, hd, hi, rfl, rfl, _, _⟩ := tk_facts (Tab.facts hT htk (by simp)) (by simp)
          exact common i.size vs (by simp [hi]) (fun ρ => by simp [den, Value.cells]) h.2.1 h.2.2.1 hv h.1 h.2.2.2.1 h.2.2.2.2
        | struct sz =>
          rw [htk] at h
          cases v <;> simp only [storeB] at h
          rename_i vs
          obtain ⟨d, i, hd, hi, rfl, fs, rfl⟩ := tk_facts (Tab.facts hT htk (by simp)) (by simp)
          exact common i.size vs (by simp [hi]) (fun ρ => by simp [den, Value.cells]) h.2.1 h.2.2.1 hv h.1 h.2.2.2.1 h.2.2.2.2
        | other => rw [htk] at h; simp only [storeB] at h
        | _ =>
          rw [htk] at h
          simp only [storeB] at h
          exact single (by rw [htk]; rfl) h.1 h.2.1 h.2.2
  | _ => simp only [storeC] at h
theorem box_sem {t : TypeId} {cs : List SV} (ho : cs.all SV.one = true) (hl : ltL M.length cs = true) {K : SV → List Blk → Prop} (hK : K (.p M.length 0) (M ++ [.row cs t]))
    (s : Ren → Sem Value) (hs : ∀ ρ w, (s ρ).run P w = .ok (.pointer (some ⟨w.heap.size, 0, none⟩)) (w.alloc (.cells (denL ρ cs).toArray t (0, 0)))) : SemOK P M s K := by
  intro G ρ w h
  refine ⟨upd ρ M.length (w.heap.size, 0), .p M.length 0, _, _, ?_, upd_ext _ _ _, by simp, h.alloc ho hl t, by simp [SV.lt], hK⟩
  rw [hs ρ w]
  simp [den, adr, upd]
theorem allocC_ok (hT : TabOK P T) {t : TypeId} {K : SV → List Blk → Prop} (h : allocC T t M K) : SemOK P M (fun _ => Instr.alloc t true (.tuple #[])) K := by
  unfold allocC at h
  cases hz : T.z t with
  | none => simp [hz] at h
  | some cs =>
    simp only [hz] at h
    obtain ⟨h1, h2, _⟩ := hT.zero t cs hz
    unfold zeroOf at h1
    cases hi : P.info? t with
    | none => simp [hi] at h1
    | some i =>
      cases hzz : i.zero with
      | none => simp [hi, hzz] at h1
      | some v =>
        simp only [hi, hzz, Option.bind_some, Option.map_some, Option.some.injEq] at h1
        have hlt : ltL M.length cs = true := by
          rw [← h1, ltL_eq, List.all_eq_true]
          intro x hx
          obtain ⟨y, _, rfl⟩ := List.mem_map.1 hx
          exact cS_lt _ y
        refine box_sem h2 hlt h _ (fun ρ w => ?_)
        have hd : (denL ρ cs).toArray = v.cells := by
          rw [← h1, denL_eq, List.map_map]
          have : (den ρ ∘ cS) = id := funext (cS_den ρ)
          rw [this]; simp
        rw [hd]
        simp only [Instr.alloc, zeroValue, typeInfo, Sem.run_bind, run_program, hi, hzz, Sem.run_pure, Result.andThen_ok, newVar, newRow, run_newObj]
        rfl
theorem boxC_ok {t : TypeId} {x : SV} (hx : x.lt M.length = true) {K : SV → List Blk → Prop} (h : boxC t x M K) : SemOK P M (fun ρ => Instr.box t (den ρ x)) K := by
  refine box_sem h.1 (cellsS_lt hx) h.2 _ (fun ρ w => ?_)
  simp only [Instr.box, newVar, newRow, Sem.run_bind, run_newObj, Result.andThen_ok, Sem.run_pure, cellsS_den ρ x h.1]
  rfl
end
end Go.Proofs.YtdkdbeamimkljaaGreatDoor.Eng
