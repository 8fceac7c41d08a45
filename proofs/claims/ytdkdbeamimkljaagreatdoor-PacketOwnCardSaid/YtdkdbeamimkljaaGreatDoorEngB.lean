/- The engine, part B: memory steps: a new block, a store, a load; tables of types. -/
import Derived.Test.YtdkdbeamimkljaaGreatDoorEngA
namespace Go.Proofs.YtdkdbeamimkljaaGreatDoor.Eng
open Go Go.RowKit
set_option linter.unusedSimpArgs false
set_option linter.unusedVariables false
/-! tables of types -/
inductive TK where
  | int (k : IntKind)
  | bool | str | ptr | func | iface
  /-- of int keys; its elements' type -/
  | map (e : Nat)
  | slice (e esz eby : Nat)
  | arr (n e esz sz : Nat)
  | struct (sz : Nat)
  | other
  deriving DecidableEq
def zAg : Option Value → Bool
  | some (.agg _) => true
  | _ => false
def tkOf (P : Program) (t : TypeId) : TK :=
  match P.underlying t, P.info? t with
  | some (.int k), some i => if i.size = 1 then .int k else .other
  | some .bool, some i => if i.size = 1 then .bool else .other
  | some .string, some i => if i.size = 1 then .str else .other
  | some (.pointer _), some i => if i.size = 1 then .ptr else .other
  | some (.map k e), some i => if i.size = 1 then (match P.underlying k with | some (.int .i64) => .map e | _ => .other) else .other
  | some (.func _ _ _), some i => if i.size = 1 then .func else .other
  | some (.interface _), some i => if i.size = 1 then .iface else .other
  | some (.slice e), some i => if i.size = 1 then (match P.info? e with | some j => .slice e j.size j.bytes | none => .other) else .other
  | some (.array n e), some i => (match P.info? e with | some j => if n * j.size = i.size then .arr n e j.size i.size else .other | none => .other)
  | some (.struct _), some i => if zAg i.zero then .struct i.size else .other
  | _, _ => .other
def TK.one : TK → Bool
  | .arr .. | .struct .. | .other => false
  | _ => true
/-- the cells of a type's zero -/
def zeroOf (P : Program) (t : TypeId) : Option (List SV) := ((P.info? t).bind (·.zero)).map fun v => v.cells.toList.map cS
/-- a field's offset, size, type -/
def foOf (P : Program) (s : TypeId) (f : Nat) : Option (Nat × Nat × TypeId) :=
  match P.underlying s with
  | some (.struct fs) => match fs[f]? with
    | some x => match P.info? x.type with
      | some i => if i.size = 0 then none else some (x.offset, i.size, x.type)
      | none => none
    | none => none
  | _ => none
def kindsFs (P : Program) (kd : TypeId → Option (List IntKind)) : List Field → Nat → Option (List IntKind)
  | [], _ => some []
  | f :: fs, off =>
    if f.name = "_" ∨ f.offset ≠ off then none else
      match kd f.type with
      | some ks => if ks = [] then none else (kindsFs P kd fs (off + ks.length)).map (ks ++ ·)
      | none => none
/-- the kinds of the cells of an integer, or of a struct of integers and such structs -/
def kindsOf (P : Program) : Nat → TypeId → Option (List IntKind)
  | 0, _ => none
  | d + 1, t =>
    match P.underlying t, P.info? t with
    | some (.int k), some i => if i.size = 1 then some [k] else none
    | some (.struct fs), some i => if P.stoodInHeld t then none else
        match kindsFs P (kindsOf P d) fs.toList 0 with
        | some ks => if i.size = ks.length then some ks else none
        | none => none
    | _, _ => none
structure Tab where
  tk : List TK
  zero : List (Option (List SV))
  fo : List (List (Nat × Nat × TypeId))
  /-- types of which an equality needs no look at interfaces -/
  eqp : List Bool
  /-- structs of integers: their cells' kinds -/
  eqk : List (Option (List IntKind))
def Tab.k (T : Tab) (t : TypeId) : TK := T.tk.getD t .other
def Tab.z (T : Tab) (t : TypeId) : Option (List SV) := T.zero.getD t none
def Tab.f (T : Tab) (t : TypeId) (f : Nat) : Option (Nat × Nat × TypeId) := (T.fo.getD t [])[f]?
structure TabOK (P : Program) (T : Tab) : Prop where
  tk : ∀ t, T.k t = .other ∨ tkOf P t = T.k t
  zero : ∀ t l, T.z t = some l → zeroOf P t = some l ∧ l.all SV.one = true ∧ (P.info? t).map (·.size) = some l.length
  fo : ∀ t f o, T.f t f = some o → foOf P t f = some o
  eqp : ∀ t, T.eqp.getD t false = true → P.eqGuardType P.depth t = false
  eqk : ∀ t ks, T.eqk.getD t none = some ks → kindsOf P 4 t = some ks
def zOK (P : Program) : Nat → List (Option (List SV)) → Prop
  | _, [] => True
  | i, none :: r => zOK P (i + 1) r
  | i, some l :: r => (zeroOf P i = some l ∧ l.all SV.one = true ∧ (P.info? i).map (·.size) = some l.length) ∧ zOK P (i + 1) r
theorem zOK_get {P : Program} : ∀ (l : List (Option (List SV))) (i : Nat), zOK P i l → ∀ t x, l.getD t none = some x → zeroOf P (i + t) = some x ∧ x.all SV.one = true ∧ (P.info? (i + t)).map (·.size) = some x.length
  | [], _, _, t, x, h => by simp at h
  | none :: r, i, hz, 0, x, h => by simp at h
  | none :: r, i, hz, t + 1, x, h => by
    have := zOK_get r (i + 1) hz t x (by simpa using h)
    rwa [show i + 1 + t = i + (t + 1) by omega] at this
  | some l :: r, i, hz, 0, x, h => by
    simp at h
    subst h
    exact hz.1
  | some l :: r, i, hz, t + 1, x, h => by
    have := zOK_get r (i + 1) hz.2 t x (by simpa using h)
    rwa [show i + 1 + t = i + (t + 1) by omega] at this
theorem tabOK_of {P : Program} {T : Tab} (h1 : (List.range T.tk.length).all (fun t => decide (T.k t = .other ∨ tkOf P t = T.k t)) = true)
    (h2 : zOK P 0 T.zero)
    (h3 : (List.range T.fo.length).all (fun t => (List.range (T.fo.getD t []).length).all fun f => decide (foOf P t f = T.f t f)) = true)
    (h4 : (List.range T.eqp.length).all (fun t => !(T.eqp.getD t false) || !(P.eqGuardType P.depth t)) = true)
    (h5 : (List.range T.eqk.length).all (fun t => decide (T.eqk.getD t none = none ∨ kindsOf P 4 t = T.eqk.getD t none)) = true) : TabOK P T where
  tk t := by
    by_cases h : t < T.tk.length
    · exact of_decide_eq_true (List.all_eq_true.1 h1 t (List.mem_range.2 h))
    · exact .inl (by simp [Tab.k, List.getD_eq_getElem?_getD, List.getElem?_eq_none (Nat.not_lt.1 h)])
  zero t l h := by
    have := zOK_get T.zero 0 h2 t l h
    simpa using this
  fo t f o ho := by
    have ho' := ho
    unfold Tab.f at ho
    by_cases h : t < T.fo.length
    · have hf : f < (T.fo.getD t []).length := (List.getElem?_eq_some_iff.1 ho).1
      have := of_decide_eq_true (List.all_eq_true.1 (List.all_eq_true.1 h3 t (List.mem_range.2 h)) f (List.mem_range.2 hf))
      rw [this, ho']
    · simp [List.getD_eq_getElem?_getD, List.getElem?_eq_none (Nat.not_lt.1 h)] at ho
  eqp t ht := by
    by_cases h : t < T.eqp.length
    · have := List.all_eq_true.1 h4 t (List.mem_range.2 h)
      rw [ht] at this
      simpa using this
    · simp [List.getD_eq_getElem?_getD, List.getElem?_eq_none (Nat.not_lt.1 h)] at ht
  eqk t ks ht := by
    by_cases h : t < T.eqk.length
    · rcases of_decide_eq_true (List.all_eq_true.1 h5 t (List.mem_range.2 h)) with h | h
      · rw [h] at ht; cases ht
      · rw [h, ht]
    · simp [List.getD_eq_getElem?_getD, List.getElem?_eq_none (Nat.not_lt.1 h)] at ht
/-! the memory -/
def cellsAt (M : List Blk) (n : Nat) : List SV :=
  match M[n]? with
  | some (.row cs _) => cs
  | some (.ro cs) => cs
  | _ => []
theorem cells_one {G : Cx} {ρ : Ren} {M : List Blk} {w : World} (h : Sim G ρ M w) {n j : Nat} {v : SV} (hv : (cellsAt M n)[j]? = some v) : v.one = true := by
  unfold cellsAt at hv
  cases hB : M[n]? with
  | none => simp [hB] at hv
  | some B =>
    cases B with
    | row cs ty =>
      simp only [hB] at hv
      have := (h.blk n _ hB).1
      exact List.all_eq_true.1 this v (List.mem_of_getElem? hv)
    | ro cs =>
      simp only [hB] at hv
      have := (h.blk n _ hB).1
      exact List.all_eq_true.1 this v (List.mem_of_getElem? hv)
    | obj o => simp [hB] at hv
    | here => simp [hB] at hv
    | dead => simp [hB] at hv
theorem cells_lt {G : Cx} {ρ : Ren} {M : List Blk} {w : World} (h : Sim G ρ M w) (n : Nat) : ltL M.length (cellsAt M n) = true := by
  unfold cellsAt
  cases hB : M[n]? with
  | none => rfl
  | some B =>
    have := h.lt n B hB
    cases B <;> first | exact this | rfl
theorem cells_get {G : Cx} {ρ : Ren} {M : List Blk} {w : World} (h : Sim G ρ M w) {n j : Nat} {v : SV} (hv : (cellsAt M n)[j]? = some v) :
    ∃ g o, ρ n = some (g, o) ∧ w.cell? ⟨g, o + j, none⟩ = some (den ρ v) := by
  unfold cellsAt at hv
  cases hB : M[n]? with
  | none => simp [hB] at hv
  | some B =>
    cases B with
    | row cs ty =>
      simp only [hB] at hv
      obtain ⟨_, ⟨rfl, _⟩ | ⟨g, hg, _, hh⟩⟩ := h.blk n _ hB
      · cases hv
      refine ⟨g, 0, hg, ?_⟩
      rw [cell_of_row w g _ _ _ _ hh]
      simp [denL_get, hv]
    | ro cs =>
      simp only [hB] at hv
      obtain ⟨_, ⟨_, hn⟩ | ⟨g, o, hg, _, hc⟩⟩ := h.blk n _ hB
      · rw [hn] at hv; cases hv
      · exact ⟨g, o, hg, hc j v hv⟩
    | obj o => simp [hB] at hv
    | here => simp [hB] at hv
    | dead => simp [hB] at hv
theorem addr_add (g o j : Nat) : (⟨g, o, none⟩ : Addr).add j = ⟨g, o + j, none⟩ := by
  unfold Addr.add
  split <;> simp_all
/-- a part of a block, as it is loaded -/
theorem run_loadCells_at {P : Program} {G : Cx} {ρ : Ren} {M : List Blk} {w : World} (h : Sim G ρ M w) {n off sz : Nat} (hs : off + sz ≤ (cellsAt M n).length) (hpos : 0 < sz) :
    ∃ g o, ρ n = some (g, o) ∧ (loadCells ⟨g, o + off, none⟩ sz).run P w = .ok (denL ρ (((cellsAt M n).drop off).take sz)).toArray w := by
  obtain ⟨v0, hv0⟩ : ∃ v, (cellsAt M n)[off]? = some v := ⟨_, List.getElem?_eq_getElem (by omega)⟩
  obtain ⟨g, o, hg, _⟩ := cells_get h hv0
  refine ⟨g, o, hg, ?_⟩
  have hl : (denL ρ (((cellsAt M n).drop off).take sz)).length = sz := by rw [denL_length]; simp; omega
  have := run_loadCells_list (P := P) w ⟨g, o + off, none⟩ (denL ρ (((cellsAt M n).drop off).take sz)) (fun j v hv => by
    rw [addr_add]
    rw [denL_get] at hv
    have hj : j < sz := by
      rcases Nat.lt_or_ge j sz with h' | h'
      · exact h'
      · rw [List.getElem?_eq_none (by simp; omega)] at hv; cases hv
    rw [List.getElem?_take_of_lt hj, List.getElem?_drop] at hv
    cases hx : (cellsAt M n)[off + j]? with
    | none => simp [hx] at hv
    | some x =>
      simp only [hx, Option.map_some, Option.some.injEq] at hv
      obtain ⟨g', o', hg', hc⟩ := cells_get h hx
      have e : (g', o') = (g, o) := Option.some.inj (hg'.symm.trans hg)
      obtain ⟨rfl, rfl⟩ := Prod.mk.inj e
      rw [Nat.add_assoc, hc, hv])
  rw [hl] at this
  exact this
def upd (ρ : Ren) (n : Nat) (a : Nat × Nat) : Ren := fun k => if k = n then some a else ρ k
theorem upd_ext (ρ : Ren) (m : Nat) (a : Nat × Nat) : Ext ρ (upd ρ m a) m := fun n hn => by
  unfold upd; rw [if_neg (by omega)]
theorem heap_push_lt (w : World) (o : Obj) (k : Nat) (h : k < w.heap.size) : (w.alloc o).heap[k]? = w.heap[k]? := Below.heap_alloc w o k h
theorem heap_some_lt {w : World} {g : Nat} {o : Obj} (h : w.heap[g]? = some o) : g < w.heap.size := (Array.getElem?_eq_some_iff.1 h).1
/-- the block of a live name lies in the heap -/
theorem live_lt {G : Cx} {ρ : Ren} {M : List Blk} {w : World} (h : Sim G ρ M w) {n : Nat} {B : Blk} (hB : M[n]? = some B) (hl : B.live = true) {g : Nat} (hg : (ρ n).map (·.1) = some g) :
    g < w.heap.size := by
  cases B with
  | row cs ty =>
    obtain ⟨_, ⟨_, hn⟩ | ⟨g', hg', _, hh⟩⟩ := h.blk n _ hB
    · rw [hn] at hg; cases hg
    · rw [hg'] at hg
      simp at hg
      exact hg ▸ heap_some_lt hh
  | ro cs =>
    obtain ⟨_, ⟨hn, _⟩ | ⟨g', o, hg', hlt, _⟩⟩ := h.blk n _ hB
    · rw [hn] at hg; cases hg
    · rw [hg'] at hg
      simp at hg
      exact hg ▸ hlt
  | obj o =>
    obtain ⟨g', hg', _, hh⟩ := h.blk n _ hB
    rw [hg'] at hg
    simp at hg
    exact hg ▸ heap_some_lt hh
  | here => cases hl
  | dead => cases hl
theorem cell_heap {w w' : World} {g : Nat} (h : w'.heap[g]? = w.heap[g]?) (a : Addr) (ha : a.block = g) : w'.cell? a = w.cell? a := by
  unfold World.cell?
  rw [ha, h]
/-- a change of the world outside of all that is named, and of all that is kept -/
theorem BlkOk.world {G : Cx} {ρ : Ren} {w w' : World} {n : Nat} {B : Blk} (h : BlkOk G ρ w n B) (hs : w.heap.size ≤ w'.heap.size)
    (hk : B.live = true → ∀ g, (ρ n).map (·.1) = some g → w'.heap[g]? = w.heap[g]?) : BlkOk G ρ w' n B := by
  cases B with
  | row cs ty =>
    obtain ⟨h1, h2 | ⟨g, hg, hkp, hh⟩⟩ := h
    · exact ⟨h1, .inl h2⟩
    · exact ⟨h1, .inr ⟨g, hg, hkp, by rw [hk rfl g (by simp [hg])]; exact hh⟩⟩
  | ro cs =>
    obtain ⟨h1, h2⟩ := h
    refine ⟨h1, ?_⟩
    rcases h2 with h2 | ⟨g, o, hg, hlt, hc⟩
    · exact .inl h2
    · exact .inr ⟨g, o, hg, by omega, fun j v hv => by rw [cell_heap (hk rfl g (by simp [hg])) _ rfl]; exact hc j v hv⟩
  | obj o =>
    obtain ⟨g, hg, hkp, hh⟩ := h
    exact ⟨g, hg, hkp, by rw [hk rfl g (by simp [hg])]; exact hh⟩
  | here => exact h
  | dead => trivial
theorem BlkOk.ren {G : Cx} {ρ ρ' : Ren} {w : World} {n m : Nat} {B : Blk} (h : BlkOk G ρ w n B) (he : Ext ρ ρ' m) (hn : n < m) (hl : B.lt m = true) : BlkOk G ρ' w n B := by
  cases B with
  | row cs ty =>
    obtain ⟨h1, h2 | ⟨g, hg, hkp, hh⟩⟩ := h
    · exact ⟨h1, .inl ⟨h2.1, by rw [he n hn]; exact h2.2⟩⟩
    · exact ⟨h1, .inr ⟨g, by rw [he n hn]; exact hg, hkp, by rw [denL_congr he cs hl]; exact hh⟩⟩
  | ro cs =>
    obtain ⟨h1, h2⟩ := h
    refine ⟨h1, ?_⟩
    rw [he n hn]
    rcases h2 with h2 | ⟨g, o, hg, hlt, hc⟩
    · exact .inl h2
    · exact .inr ⟨g, o, hg, hlt, fun j v hv => by rw [den_congr he v (ltL_get hl hv)]; exact hc j v hv⟩
  | obj o =>
    obtain ⟨g, hg, hkp, hh⟩ := h
    exact ⟨g, by rw [he n hn]; exact hg, hkp, by rw [MObj.den_congr he o hl]; exact hh⟩
  | here =>
    obtain ⟨g, o, hg⟩ := h
    exact ⟨g, o, by rw [he n hn]; exact hg⟩
  | dead => trivial
theorem Blk.lt_mono {B : Blk} {m m' : Nat} (h : B.lt m = true) (hm : m ≤ m') : B.lt m' = true := by
  cases B with
  | row cs ty => exact ltL_mono hm _ h
  | ro cs => exact ltL_mono hm _ h
  | obj o => exact MObj.lt_mono hm o h
  | here => rfl
  | dead => rfl
/-- a new block -/
theorem Sim.alloc {G : Cx} {ρ : Ren} {M : List Blk} {w : World} (h : Sim G ρ M w) {cs : List SV} (ho : cs.all SV.one = true) (hl : ltL M.length cs = true) (ty : TypeId) :
    Sim G (upd ρ M.length (w.heap.size, 0)) (M ++ [.row cs ty]) (w.alloc (.cells (denL ρ cs).toArray ty (0, 0))) := by
  have hE := upd_ext ρ M.length (w.heap.size, 0)
  have hget : ∀ n B, (M ++ [Blk.row cs ty])[n]? = some B → (n < M.length ∧ M[n]? = some B) ∨ (n = M.length ∧ B = .row cs ty) := by
    intro n B hB
    rcases Nat.lt_or_ge n M.length with hn | hn
    · exact .inl ⟨hn, by rwa [List.getElem?_append_left hn] at hB⟩
    · rw [List.getElem?_append_right hn] at hB
      by_cases he : n = M.length
      · subst he; simp at hB; exact .inr ⟨rfl, hB.symm⟩
      · rw [List.getElem?_eq_none (by simp; omega)] at hB; cases hB
  have hnew : (upd ρ M.length (w.heap.size, 0)) M.length = some (w.heap.size, 0) := by simp [upd]
  refine ⟨h.os, h.tape, h.output, ?_, by simp; have := h.base; omega, ?_, ?_, ?_, ?_⟩
  · intro k hk
    obtain ⟨h1, h2⟩ := h.kept k hk
    exact ⟨by simp; omega, by rw [heap_push_lt w _ k h1]; exact h2⟩
  · intro n hn
    rw [hE n (by have := h.base; omega)]
    exact h.same n hn
  · intro n B hB
    rcases hget n B hB with ⟨hn, hB'⟩ | ⟨rfl, rfl⟩
    · exact Blk.lt_mono (h.lt n B hB') (by simp)
    · exact ltL_mono (by simp) _ hl
  · intro n B hB
    rcases hget n B hB with ⟨hn, hB'⟩ | ⟨rfl, rfl⟩
    · have h1 := (h.blk n B hB').world (w' := w.alloc (.cells (denL ρ cs).toArray ty (0, 0))) (by simp) (fun hl g hg => heap_push_lt w _ g (live_lt h hB' hl hg))
      exact h1.ren hE hn (h.lt n B hB')
    · refine ⟨ho, .inr ⟨w.heap.size, hnew, fun hk => ?_, ?_⟩⟩
      · have := (h.kept _ hk).1; omega
      · rw [heap_alloc_new, denL_congr hE cs hl]
  · intro n m B C hB hC hr hlv hne
    rcases hget n B hB with ⟨hn, hB'⟩ | ⟨rfl, rfl⟩ <;> rcases hget m C hC with ⟨hm, hC'⟩ | ⟨rfl, rfl⟩
    · rw [hE n hn, hE m hm]; exact h.sep n m B C hB' hC' hr hlv hne
    · rw [hE n hn, hnew]
      intro a b ha hb he
      cases hb
      have := live_lt h hB' (by cases B <;> simp_all [Blk.isRow, Blk.live]) (g := w.heap.size) (by rw [ha]; simp [he])
      omega
    · rw [hnew, hE m hm]
      intro a b ha hb he
      cases ha
      have := live_lt h hC' hlv (g := w.heap.size) (by rw [hb]; simp [← he])
      omega
    · exact absurd rfl hne
/-- a row written over -/
theorem Sim.setRow {G : Cx} {ρ : Ren} {M : List Blk} {w : World} (h : Sim G ρ M w) {n : Nat} {cs cs' : List SV} {ty : TypeId} (hB : M[n]? = some (.row cs ty)) (hne : cs ≠ [])
    (ho : cs'.all SV.one = true) (hl : ltL M.length cs' = true) : ∃ g, ρ n = some (g, 0) ∧ w.heap[g]? = some (.cells (denL ρ cs).toArray ty (0, 0)) ∧
      Sim G ρ (M.set n (.row cs' ty)) (w.setRow g (denL ρ cs').toArray) := by
  obtain ⟨_, ⟨h0, _⟩ | ⟨g, hg, hkp, hh⟩⟩ := h.blk n _ hB
  · exact absurd h0 hne
  have hn : n < M.length := (List.getElem?_eq_some_iff.1 hB).1
  refine ⟨g, hg, hh, h.os, h.tape, h.output, ?_, by simp; exact h.base, h.same, ?_, ?_, ?_⟩
  · intro k hk
    obtain ⟨h1, h2⟩ := h.kept k hk
    exact ⟨by simp; omega, by rw [setRow_other w g k _ (fun e => hkp (e ▸ hk))]; exact h2⟩
  · intro m B hB'
    simp only [List.length_set]
    by_cases he : n = m
    · subst he
      rw [List.getElem?_set_self hn] at hB'
      cases hB'
      exact hl
    · rw [List.getElem?_set_ne he] at hB'
      exact h.lt m B hB'
  · intro m B hB'
    by_cases he : n = m
    · subst he
      rw [List.getElem?_set_self hn] at hB'
      cases hB'
      exact ⟨ho, .inr ⟨g, hg, hkp, setRow_heap w g _ _ ty (0, 0) hh⟩⟩
    · rw [List.getElem?_set_ne he] at hB'
      refine (h.blk m B hB').world (by simp) (fun hlv g' hg' => setRow_other w g g' _ ?_)
      intro e
      subst e
      cases hm' : ρ m with
      | none => simp [hm'] at hg'
      | some b => exact h.sep n m _ B hB hB' rfl hlv he _ b hg hm' (by simpa [hm'] using hg'.symm)
  · intro a b B C hB' hC' hr hlv hne
    have key : ∀ (m : Nat) (B : Blk), (M.set n (.row cs' ty))[m]? = some B → ∃ B' : Blk, M[m]? = some B' ∧ (B.isRow = true → B'.isRow = true) ∧ (B.live = true → B'.live = true) := by
      intro m B hm
      by_cases he : n = m
      · subst he; exact ⟨_, hB, fun _ => rfl, fun _ => rfl⟩
      · rw [List.getElem?_set_ne he] at hm; exact ⟨B, hm, id, id⟩
    obtain ⟨B', h1, h2, _⟩ := key a B hB'
    obtain ⟨C', h4, _, h6⟩ := key b C hC'
    exact h.sep a b B' C' h1 h4 (h2 hr) (h6 hlv) hne
/-- a new map, or what goes over one -/
theorem Sim.allocO {G : Cx} {ρ : Ren} {M : List Blk} {w : World} (h : Sim G ρ M w) (o : MObj) (hl : o.lt M.length = true) :
    Sim G (upd ρ M.length (w.heap.size, 0)) (M ++ [.obj o]) (w.alloc (o.den ρ)) := by
  have hE := upd_ext ρ M.length (w.heap.size, 0)
  have hget : ∀ n B, (M ++ [Blk.obj o])[n]? = some B → (n < M.length ∧ M[n]? = some B) ∨ (n = M.length ∧ B = .obj o) := by
    intro n B hB
    rcases Nat.lt_or_ge n M.length with hn | hn
    · exact .inl ⟨hn, by rwa [List.getElem?_append_left hn] at hB⟩
    · rw [List.getElem?_append_right hn] at hB
      by_cases he : n = M.length
      · subst he; simp at hB; exact .inr ⟨rfl, hB.symm⟩
      · rw [List.getElem?_eq_none (by simp; omega)] at hB; cases hB
  have hnew : (upd ρ M.length (w.heap.size, 0)) M.length = some (w.heap.size, 0) := by simp [upd]
  refine ⟨h.os, h.tape, h.output, ?_, by simp; have := h.base; omega, ?_, ?_, ?_, ?_⟩
  · intro k hk
    obtain ⟨h1, h2⟩ := h.kept k hk
    exact ⟨by simp; omega, by rw [heap_push_lt w _ k h1]; exact h2⟩
  · intro n hn
    rw [hE n (by have := h.base; omega)]
    exact h.same n hn
  · intro n B hB
    rcases hget n B hB with ⟨hn, hB'⟩ | ⟨rfl, rfl⟩
    · exact Blk.lt_mono (h.lt n B hB') (by simp)
    · exact MObj.lt_mono (by simp) _ hl
  · intro n B hB
    rcases hget n B hB with ⟨hn, hB'⟩ | ⟨rfl, rfl⟩
    · have h1 := (h.blk n B hB').world (w' := w.alloc (o.den ρ)) (by simp) (fun hl g hg => heap_push_lt w _ g (live_lt h hB' hl hg))
      exact h1.ren hE hn (h.lt n B hB')
    · refine ⟨w.heap.size, hnew, fun hk => ?_, ?_⟩
      · have := (h.kept _ hk).1; omega
      · rw [heap_alloc_new, MObj.den_congr hE o hl]
  · intro n m B C hB hC hr hlv hne
    rcases hget n B hB with ⟨hn, hB'⟩ | ⟨rfl, rfl⟩ <;> rcases hget m C hC with ⟨hm, hC'⟩ | ⟨rfl, rfl⟩
    · rw [hE n hn, hE m hm]; exact h.sep n m B C hB' hC' hr hlv hne
    · rw [hE n hn, hnew]
      intro a b ha hb he
      cases hb
      have := live_lt h hB' (by cases B <;> simp_all [Blk.isRow, Blk.live]) (g := w.heap.size) (by rw [ha]; simp [he])
      omega
    · rw [hnew, hE m hm]
      intro a b ha hb he
      cases ha
      have := live_lt h hC' hlv (g := w.heap.size) (by rw [hb]; simp [← he])
      omega
    · exact absurd rfl hne
/-- the world with one object turned -/
def putObj (w : World) (g : Nat) (o : Obj) : World := { w with heap := w.heap.setIfInBounds g o }
theorem putObj_other (w : World) (g k : Nat) (o : Obj) (h : k ≠ g) : (putObj w g o).heap[k]? = w.heap[k]? := by
  unfold putObj
  rw [Array.getElem?_setIfInBounds_ne (by omega)]
theorem putObj_heap {w : World} {g : Nat} {o0 : Obj} (o : Obj) (h : w.heap[g]? = some o0) : (putObj w g o).heap[g]? = some o := by
  unfold putObj
  rw [Array.getElem?_setIfInBounds_self_of_lt (heap_some_lt h)]
/-- an object turned -/
theorem Sim.setObj {G : Cx} {ρ : Ren} {M : List Blk} {w : World} (h : Sim G ρ M w) {n : Nat} {o o' : MObj} (hB : M[n]? = some (.obj o)) (hl : o'.lt M.length = true) :
    ∃ g, ρ n = some (g, 0) ∧ w.heap[g]? = some (o.den ρ) ∧ Sim G ρ (M.set n (.obj o')) (putObj w g (o'.den ρ)) := by
  obtain ⟨g, hg, hkp, hh⟩ := h.blk n _ hB
  have hn : n < M.length := (List.getElem?_eq_some_iff.1 hB).1
  refine ⟨g, hg, hh, h.os, h.tape, h.output, ?_, by simp; exact h.base, h.same, ?_, ?_, ?_⟩
  · intro k hk
    obtain ⟨h1, h2⟩ := h.kept k hk
    exact ⟨by simp [putObj]; omega, by rw [putObj_other w g k _ (fun e => hkp (e ▸ hk))]; exact h2⟩
  · intro m B hB'
    simp only [List.length_set]
    by_cases he : n = m
    · subst he
      rw [List.getElem?_set_self hn] at hB'
      cases hB'
      exact hl
    · rw [List.getElem?_set_ne he] at hB'
      exact h.lt m B hB'
  · intro m B hB'
    by_cases he : n = m
    · subst he
      rw [List.getElem?_set_self hn] at hB'
      cases hB'
      exact ⟨g, hg, hkp, putObj_heap _ hh⟩
    · rw [List.getElem?_set_ne he] at hB'
      refine (h.blk m B hB').world (by simp [putObj]) (fun hlv g' hg' => putObj_other w g g' _ ?_)
      intro e
      subst e
      cases hm' : ρ m with
      | none => simp [hm'] at hg'
      | some b => exact h.sep n m _ B hB hB' rfl hlv he _ b hg hm' (by simpa [hm'] using hg'.symm)
  · intro a b B C hB' hC' hr hlv hne
    have key : ∀ (m : Nat) (B : Blk), (M.set n (.obj o'))[m]? = some B → ∃ B' : Blk, M[m]? = some B' ∧ (B.isRow = true → B'.isRow = true) ∧ (B.live = true → B'.live = true) := by
      intro m B hm
      by_cases he : n = m
      · subst he; exact ⟨_, hB, fun _ => rfl, fun _ => rfl⟩
      · rw [List.getElem?_set_ne he] at hm; exact ⟨B, hm, id, id⟩
    obtain ⟨B', h1, h2, _⟩ := key a B hB'
    obtain ⟨C', h4, _, h6⟩ := key b C hC'
    exact h.sep a b B' C' h1 h4 (h2 hr) (h6 hlv) hne
theorem Sim.drew {G : Cx} {ρ : Ren} {M : List Blk} {w : World} (h : Sim G ρ M w) : Sim G ρ M { w with drawn := w.drawn + 1 } :=
  ⟨h.os, h.tape, ⟨h.output.1, by have := h.output.2; show _ ≤ w.drawn + 1; omega⟩, h.kept, h.base, h.same, h.lt, fun n B hB => by
    have := h.blk n B hB
    cases B <;> exact this, h.sep⟩
end Go.Proofs.YtdkdbeamimkljaaGreatDoor.Eng
