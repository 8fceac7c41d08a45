/- The engine, part V: maps of int keys. -/
import Derived.Test.YtdkdbeamimkljaaGreatDoorEngF
import Derived.Maps.RangeRun
namespace Go.Proofs.YtdkdbeamimkljaaGreatDoor.Eng
open Go Go.RowKit
set_option linter.unusedSimpArgs false
set_option linter.unusedVariables false
/-- the first entry of a key -/
def findE (j : Int) : List (Int × SV × Nat) → Option SV
  | [] => none
  | e :: es => if j = e.1 then some e.2.1 else findE j es
/-- without the first entry of a key -/
def delE (j : Int) : List (Int × SV × Nat) → List (Int × SV × Nat)
  | [] => []
  | e :: es => if j = e.1 then es else e :: delE j es
def okS (ok : Bool) (v : SV) (b : Bool) : SV := if ok then .tup [v, .b b] else v
def isAg : TK → Bool
  | .struct _ => true
  | _ => false
/-- what is looked up: there, or a struct's zero -/
def lookE (T : Tab) (e : TypeId) (o : Option SV) (ok : Bool) (K : SV → Prop) : Prop :=
  match o with
  | some v => K (okS ok v true)
  | none => match T.z e with
    | some z => isAg (T.k e) = true ∧ K (okS ok (.agg z) false)
    | none => False
def lookC (T : Tab) (M : List Blk) (t : TypeId) (x k : SV) (ok : Bool) (K : SV → Prop) : Prop :=
  match T.k t, x, k with
  | .map e, .mp n, .i .i64 j => match M[n]? with
    | some (.obj (.map es _)) => lookE T e (findE j es) ok K
    | _ => False
  | _, _, _ => False
/-- a new key -/
def updC (T : Tab) (M : List Blk) (t : TypeId) (x k v : SV) (K : List Blk → Prop) : Prop :=
  match T.k t, x, k with
  | .map _, .mp n, .i .i64 j => match M[n]? with
    | some (.obj (.map es c)) => findE j es = none ∧ K (M.set n (.obj (.map (es ++ [(j, v, c)]) (c + 1))))
    | _ => False
  | _, _, _ => False
def delC (T : Tab) (M : List Blk) (t : TypeId) (x k : SV) (K : List Blk → Prop) : Prop :=
  match T.k t, x, k with
  | .map _, .mp n, .i .i64 j => match M[n]? with
    | some (.obj (.map es c)) => K (M.set n (.obj (.map (delE j es) c)))
    | _ => False
  | _, _, _ => False
def lenO (B : Option Blk) (K : SV → Prop) : Prop :=
  match B with
  | some (.obj (.map es _)) => K (.i .i64 es.length)
  | _ => False
def rangeC (T : Tab) (M : List Blk) (t : TypeId) (x : SV) (K : SV → List Blk → Prop) : Prop :=
  match T.k t, x with
  | .map _, .mp n => match M[n]? with
    | some (.obj (.map _ c)) => K (.p M.length 0) (M ++ [.obj (.it n c [] c)])
    | _ => False
  | _, _ => False
def nextC (M : List Blk) (x : SV) (K : SV → List Blk → Prop) : Prop :=
  match x with
  | .p r 0 => match M[r]? with
    | some (.obj (.it m since seen st)) => match M[m]? with
      | some (.obj (.map es c)) => (∀ e, e ∈ es → e.2.2 < since) ∧ since ≤ st ∧ ((∀ e, e ∈ es → e.2.2 ∈ seen) → K (.tup [.b false]) M) ∧
          (∀ e, e ∈ es → e.2.2 ∉ seen → K (.tup [.b true, .i .i64 e.1, e.2.1]) (M.set r (.obj (.it m since (seen ++ [e.2.2]) c))))
      | _ => False
    | _ => False
  | _ => False
def entryD (es : List (Int × SV × Nat)) (o : Option Nat) (K : SV → Prop) : Prop :=
  match o with
  | some s => match es.find? (fun e => e.2.2 == s) with
    | some e => K (.tup [.i .i64 e.1, e.2.1])
    | none => False
  | none => False
def entryC (M : List Blk) (x : SV) (K : SV → Prop) : Prop :=
  match x with
  | .p r 0 => match M[r]? with
    | some (.obj (.it m _ seen st)) => match M[m]? with
      | some (.obj (.map es c)) => c = st ∧ entryD es seen.getLast? K
      | _ => False
    | _ => False
  | _ => False
section
variable {P : Program} {T : Tab} {M : List Blk}
theorem findNow_ents (ρ : Ren) (j : Int) : ∀ (es : List (Int × SV × Nat)) (i : Nat),
    (findE j es = none ∧ delE j es = es ∧ Instr.findNow (.int .i64) (.int .i64 j) (entsD ρ es) i = some none) ∨
    (∃ v k, findE j es = some v ∧ Instr.findNow (.int .i64) (.int .i64 j) (entsD ρ es) i = some (some (i + k, den ρ v)) ∧ k < es.length ∧ (entsD ρ es).eraseIdx k = entsD ρ (delE j es))
  | [], i => .inl ⟨rfl, rfl, rfl⟩
  | e :: es, i => by
    by_cases h : j = e.1
    · exact .inr ⟨e.2.1, 0, by simp [findE, h], by simp [entsD, Instr.findNow, Instr.sameNow, h], by simp, by simp [entsD, delE, h]⟩
    · rcases findNow_ents ρ j es (i + 1) with ⟨h1, h2, h3⟩ | ⟨v, k, h1, h2, h3, h4⟩
      · exact .inl ⟨by simp [findE, h, h1], by simp [delE, h, h2], by simpa [entsD, Instr.findNow, Instr.sameNow, beq_false_of_ne h] using h3⟩
      · refine .inr ⟨v, k + 1, by simp [findE, h, h1], ?_, by simp; omega, ?_⟩
        · have : i + (k + 1) = i + 1 + k := by omega
          rw [this]
          simpa [entsD, Instr.findNow, Instr.sameNow, beq_false_of_ne h] using h2
        · simpa [entsD, delE, h] using h4
theorem run_findKey_int {ρ : Ren} {kt : TypeId} (hk : P.underlying kt = some (.int .i64)) (j : Int) (es : List (Int × SV × Nat)) (w : World) :
    (findE j es = none ∧ delE j es = es ∧ (Instr.findKey kt (.int .i64 j) (entsD ρ es)).run P w = .ok none w) ∨
    (∃ v k, findE j es = some v ∧ (Instr.findKey kt (.int .i64 j) (entsD ρ es)).run P w = .ok (some (k, den ρ v)) w ∧ k < es.length ∧ (entsD ρ es).eraseIdx k = entsD ρ (delE j es)) := by
  rcases findNow_ents ρ j es 0 with ⟨h1, h2, h3⟩ | ⟨v, k, h1, h2, h3, h4⟩
  · exact .inl ⟨h1, h2, by simp only [Instr.findKey, Sem.run_bind, run_underlying hk, Result.andThen_ok, h3]; rfl⟩
  · exact .inr ⟨v, k, h1, by simp only [Instr.findKey, Sem.run_bind, run_underlying hk, Result.andThen_ok, h2, Nat.zero_add]; rfl, h3, h4⟩
theorem run_checkKey_int {kt : TypeId} (hk : P.underlying kt = some (.int .i64)) (b : Bool) (n : Nat) (j : Int) (w : World) : (Instr.checkKey b (n + 1) kt (.int .i64 j)).run P w = .ok () w := by
  simp only [Instr.checkKey, Sem.run_bind, run_underlying hk, Result.andThen_ok]; rfl
theorem map_facts (hT : TabOK P T) {t e : TypeId} (h : T.k t = .map e) : ∃ k, P.underlying t = some (.map k e) ∧ P.underlying k = some (.int .i64) := by
  obtain ⟨d, i, hd, hi, _, k, rfl, hk⟩ := tk_facts (Tab.facts hT h (by simp)) (by simp)
  exact ⟨k, hd, hk⟩
theorem obj_run {w : World} {r : Nat} {es : Array MapEntry} {c : Nat} (hb : w.heap[r]? = some (.map es c)) : (Go.getObj r).run P w = .ok (.map es c) w := by simp [Go.getObj, Sem.run, hb]
theorem entsD_append (ρ : Ren) (es : List (Int × SV × Nat)) (j : Int) (v : SV) (c : Nat) : entsD ρ (es ++ [(j, v, c)]) = entsD ρ es ++ [⟨.int .i64 j, den ρ v, c⟩] := by simp [entsD]
theorem obj_get {G : Cx} {ρ : Ren} {w : World} (hs : Sim G ρ M w) {n : Nat} {o : MObj} (hB : M[n]? = some (.obj o)) : ∃ g, ρ n = some (g, 0) ∧ w.heap[g]? = some (o.den ρ) := by
  obtain ⟨g, hg, _, hh⟩ := hs.blk n _ hB
  exact ⟨g, hg, hh⟩
theorem findE_lt {m : Nat} {j : Int} {v : SV} : ∀ {es : List (Int × SV × Nat)}, ltL m (es.map (·.2.1)) = true → findE j es = some v → v.lt m = true
  | [], _, h => by cases h
  | e :: es, hl, h => by
    simp only [List.map_cons, ltL, Bool.and_eq_true] at hl
    unfold findE at h
    split at h
    · cases h; exact hl.1
    · exact findE_lt hl.2 h
theorem delE_mem {j : Int} : ∀ {es : List (Int × SV × Nat)} {x}, x ∈ delE j es → x ∈ es
  | [], x, h => by cases h
  | e :: es, x, h => by
    unfold delE at h
    split at h
    · exact List.mem_cons_of_mem _ h
    · rcases List.mem_cons.1 h with h | h
      · exact h ▸ List.mem_cons_self
      · exact List.mem_cons_of_mem _ (delE_mem h)
theorem lookC_ok (hT : TabOK P T) {t : TypeId} {x k : SV} {ok : Bool} {K : SV → List Blk → Prop} (h : lookC T M t x k ok (fun v => K v M)) :
    SemOK P M (fun ρ => Instr.lookup t (den ρ x) (den ρ k) ok) K := by
  unfold lookC at h
  split at h
  · rename_i e n j he
    obtain ⟨kt, ht, hk⟩ := map_facts hT he
    split at h
    · rename_i es c hB
      intro G ρ w hs
      obtain ⟨g, hg, hh⟩ := obj_get hs hB
      simp only [MObj.den] at hh
      have hv : den ρ (.mp n) = .map (some g) := by simp [den, hg]
      have hl := hs.lt n _ hB
      simp only [Blk.lt, MObj.lt] at hl
      have h10 : (10000 : Nat) = 9999 + 1 := rfl
      rcases run_findKey_int (ρ := ρ) hk j es w with ⟨h1, _, h3⟩ | ⟨v, i, h1, h2, _, _⟩
      · rw [h1] at h
        unfold lookE at h
        simp only at h
        cases hz : T.z e with
        | none => simp [hz] at h
        | some z =>
          simp only [hz] at h
          obtain ⟨hag, hK⟩ := h
          obtain ⟨i, zv, hi, hiz, _, hd, hzl, _, _⟩ := zero_facts hT hz
          have hagg : zv = .agg (denL ρ z).toArray := by
            cases htk : T.k e <;> simp [htk, isAg] at hag
            rename_i sz
            obtain ⟨l, rfl⟩ := struct_zero (Tab.facts hT htk (by simp)) hi hiz
            have := hd ρ
            simp only [Value.cells] at this
            rw [this]
          refine ⟨ρ, _, M, w, ?_, Ext.refl _ _, Nat.le_refl _, hs, ?_, hK⟩
          · show (Instr.lookup t (den ρ (.mp n)) (.int .i64 j) ok).run P w = _
            rw [hv]
            simp only [Instr.lookup, Sem.run_bind, run_underlying ht, Result.andThen_ok, obj_run hh, Sem.run_pure, List.toList_toArray]
            rw [h10, run_checkKey_int hk]
            simp only [Result.andThen_ok, h3, zeroValue, typeInfo, Sem.run_bind, run_program, hi, hiz, Sem.run_pure]
            cases ok <;> simp [okS, den, denL, hagg]
          · cases ok <;> simp [okS, SV.lt, ltL, hzl]
      · rw [h1] at h
        refine ⟨ρ, _, M, w, ?_, Ext.refl _ _, Nat.le_refl _, hs, ?_, h⟩
        · show (Instr.lookup t (den ρ (.mp n)) (.int .i64 j) ok).run P w = _
          rw [hv]
          simp only [Instr.lookup, Sem.run_bind, run_underlying ht, Result.andThen_ok, obj_run hh, Sem.run_pure, List.toList_toArray]
          rw [h10, run_checkKey_int hk]
          simp only [Result.andThen_ok, h2, Sem.run_pure]
          cases ok <;> simp [okS, den, denL]
        · have := findE_lt hl h1
          cases ok <;> simp [okS, SV.lt, ltL, this]
    · exact h.elim
  · exact h.elim
theorem setObj_run {w : World} {g : Nat} {es : Array MapEntry} {c : Nat} (o : Obj) (h : w.heap[g]? = some (.map es c)) : (Go.setObj g o).run P w = .ok () (putObj w g o) := by
  simp [Go.setObj, Sem.run, h, putObj]
theorem updC_ok (hT : TabOK P T) {t : TypeId} {x k v : SV} {K : SV → List Blk → Prop} (hv : v.lt M.length = true) (h : updC T M t x k v (fun M' => K uS M')) :
    SemOKu P M (fun ρ => Instr.mapUpdate t (den ρ x) (den ρ k) (den ρ v)) K := by
  unfold updC at h
  split at h
  · rename_i e n j he
    obtain ⟨kt, ht, hk⟩ := map_facts hT he
    split at h
    · rename_i es c hB
      intro G ρ w hs
      have hl := hs.lt n _ hB
      simp only [Blk.lt, MObj.lt] at hl
      obtain ⟨g, hg, hh, hs'⟩ := hs.setObj (o' := .map (es ++ [(j, v, c)]) (c + 1)) hB (by simp only [MObj.lt, List.map_append, ltL_append, hl, List.map_cons, List.map_nil, ltL, hv, Bool.and_self])
      simp only [MObj.den] at hh
      refine ⟨ρ, _, _, ?_, Ext.refl _ _, by simp, hs', h.2⟩
      have hv' : den ρ (.mp n) = .map (some g) := by simp [den, hg]
      show (Instr.mapUpdate t (den ρ (.mp n)) (.int .i64 j) (den ρ v)).run P w = _
      rw [hv']
      have h10 : (10000 : Nat) = 9999 + 1 := rfl
      rcases run_findKey_int (ρ := ρ) hk j es w with ⟨h1, _, h3⟩ | ⟨v', i, h1, h2, _, _⟩
      · simp only [Instr.mapUpdate, Sem.run_bind, run_underlying ht, Result.andThen_ok, obj_run hh, List.toList_toArray]
        rw [h10, run_checkKey_int hk]
        simp only [Result.andThen_ok, h3, setObj_run _ hh, MObj.den, entsD_append]
        simp
      · rw [h.1] at h1; cases h1
    · exact h.elim
  · exact h.elim
theorem delC_ok (hT : TabOK P T) {t : TypeId} {x k : SV} {ats : Array TypeId} {ty : TypeId} (h0 : ats[0]? = some t) {K : SV → List Blk → Prop} (h : delC T M t x k (fun M' => K (.tup []) M')) :
    SemOK P M (fun ρ => Builtin.delete_ ats ty #[den ρ x, den ρ k]) K := by
  unfold delC at h
  split at h
  · rename_i e n j he
    obtain ⟨kt, ht, hk⟩ := map_facts hT he
    split at h
    · rename_i es c hB
      intro G ρ w hs
      have hl := hs.lt n _ hB
      simp only [Blk.lt, MObj.lt] at hl
      have hl' : ltL M.length ((delE j es).map (·.2.1)) = true := by
        rw [ltL_eq, List.all_eq_true] at hl ⊢
        intro y hy
        obtain ⟨z, hz, rfl⟩ := List.mem_map.1 hy
        exact hl _ (List.mem_map.2 ⟨z, delE_mem hz, rfl⟩)
      obtain ⟨g, hg, hh, hs'⟩ := hs.setObj (o' := .map (delE j es) c) hB hl'
      simp only [MObj.den] at hh
      refine ⟨ρ, .tup [], _, _, ?_, Ext.refl _ _, by simp, hs', rfl, h⟩
      have hv' : den ρ (.mp n) = .map (some g) := by simp [den, hg]
      show (Builtin.delete_ ats ty #[den ρ (.mp n), .int .i64 j]).run P w = _
      rw [hv']
      have h10 : (10000 : Nat) = 9999 + 1 := rfl
      have hd : den ρ (.tup []) = .tuple #[] := by simp [den, denL]
      rw [hd]
      rcases run_findKey_int (ρ := ρ) hk j es w with ⟨h1, h2, h3⟩ | ⟨v', i, h1, h2, h3, h4⟩
      · simp only [Builtin.delete_, h0, Sem.run_bind, run_underlying ht, Result.andThen_ok, obj_run hh, List.getElem?_toArray, List.getElem?_cons_zero, List.getElem?_cons_succ]
        rw [h10, run_checkKey_int hk]
        simp only [Result.andThen_ok, h3, Sem.run_bind, setObj_run _ hh, MObj.den, h2, Sem.run_pure]
      · simp only [Builtin.delete_, h0, Sem.run_bind, run_underlying ht, Result.andThen_ok, obj_run hh, List.getElem?_toArray, List.getElem?_cons_zero, List.getElem?_cons_succ]
        rw [h10, run_checkKey_int hk]
        have he : (entsD ρ es).toArray.eraseIdxIfInBounds i = (entsD ρ (delE j es)).toArray := by
          rw [← h4]
          apply Array.ext'
          simp
        simp only [Result.andThen_ok, h2, Sem.run_bind, setObj_run _ hh, MObj.den, he, Sem.run_pure]
    · exact h.elim
  · exact h.elim
theorem makeMap_ok {t : TypeId} {K : SV → List Blk → Prop} (h : K (.mp M.length) (M ++ [.obj (.map [] 0)])) : SemOK P M (fun _ => Instr.makeMap t none) K := by
  intro G ρ w hs
  have := hs.allocO (.map [] 0) rfl
  refine ⟨_, .mp M.length, _, _, ?_, upd_ext _ _ _, by simp, this, by simp [SV.lt], h⟩
  simp [Instr.makeMap, den, upd, MObj.den, entsD]
theorem rangeC_ok (hT : TabOK P T) {t : TypeId} {x : SV} {K : SV → List Blk → Prop} (hx : x.lt M.length = true) (h : rangeC T M t x K) : SemOK P M (fun ρ => Instr.range t (den ρ x)) K := by
  unfold rangeC at h
  split at h
  · rename_i e n he
    obtain ⟨kt, ht, hk⟩ := map_facts hT he
    split at h
    · rename_i es c hB
      intro G ρ w hs
      obtain ⟨g, hg, hh⟩ := obj_get hs hB
      simp only [MObj.den] at hh
      simp only [SV.lt, decide_eq_true_eq] at hx
      have := hs.allocO (.it n c [] c) (by simpa [MObj.lt] using hx)
      refine ⟨_, .p M.length 0, _, _, ?_, upd_ext _ _ _, by simp, this, by simp [SV.lt], h⟩
      have hv' : den ρ (.mp n) = .map (some g) := by simp [den, hg]
      show (Instr.range t (den ρ (.mp n))).run P w = _
      rw [hv']
      simp [Instr.range, run_underlying ht, obj_run hh, den, adr, upd, MObj.den, hg]
    · exact h.elim
  · exact h.elim
theorem nextC_ok {x : SV} {ty : TypeId} {K : SV → List Blk → Prop} (h : nextC M x K) : SemOK P M (fun ρ => Instr.next (den ρ x) false ty) K := by
  unfold nextC at h
  split at h
  · rename_i r
    split at h
    · rename_i m since seen st hB
      split at h
      · rename_i es c hC
        obtain ⟨h1, h2, h3, h4⟩ := h
        intro G ρ w hs
        obtain ⟨g, hg, hh⟩ := obj_get hs hB
        obtain ⟨gm, hgm, hhm⟩ := obj_get hs hC
        simp only [MObj.den, hgm, Option.map_some] at hh hhm
        have hv' : den ρ (.p r 0) = .pointer (some ⟨g, 0, none⟩) := by simp [den, adr, hg]
        have hl := hs.lt r _ hB
        simp only [Blk.lt, MObj.lt, decide_eq_true_eq] at hl
        rcases run_next_at (P := P) w ty g gm since st seen.toArray (entsD ρ es).toArray c hh hhm (by
          intro y hy
          simp only [entsD, List.toList_toArray, List.mem_map] at hy
          obtain ⟨z, hz, rfl⟩ := hy
          exact h1 z hz) h2 with ⟨hsz, hr⟩ | ⟨e, he, w1, hw1, hr⟩
        · refine ⟨ρ, .tup [.b false], M, w, ?_, Ext.refl _ _, Nat.le_refl _, hs, rfl, h3 ?_⟩
          · show (Instr.next (den ρ (.p r 0)) false ty).run P w = _
            rw [hv', hr]; simp [den, denL]
          · intro e he
            apply Classical.byContradiction
            intro hn
            have : leftOf (entsD ρ es).toArray seen.toArray = #[] := Array.eq_empty_of_size_eq_zero hsz
            unfold leftOf at this
            rw [Array.filter_eq_empty_iff] at this
            have := this ⟨.int .i64 e.1, den ρ e.2.1, e.2.2⟩ (by simp only [entsD, List.mem_toArray, List.mem_map]; exact ⟨e, he, rfl⟩)
            simp at this
            exact hn this
        · have he' : ∃ z, z ∈ es ∧ e = ⟨.int .i64 z.1, den ρ z.2.1, z.2.2⟩ ∧ z.2.2 ∉ seen := by
            unfold leftOf at he
            simp only [Array.toList_filter, List.toList_toArray, List.mem_filter, entsD, List.mem_map] at he
            obtain ⟨⟨z, hz, rfl⟩, hc⟩ := he
            exact ⟨z, hz, rfl, by simpa using hc⟩
          obtain ⟨z, hz, rfl, hzs⟩ := he'
          have hs1 : Sim G ρ M w1 := by
            rcases hw1 with rfl | rfl
            · exact hs
            · exact hs.drew
          obtain ⟨g', hg', _, hs'⟩ := hs1.setObj (o' := .it m since (seen ++ [z.2.2]) c) hB (by simpa [MObj.lt] using hl)
          obtain rfl : g' = g := by rw [hg] at hg'; cases hg'; rfl
          refine ⟨ρ, .tup [.b true, .i .i64 z.1, z.2.1], _, _, ?_, Ext.refl _ _, by simp, hs', ?_, h4 z hz hzs⟩
          · show (Instr.next (den ρ (.p r 0)) false ty).run P w = _
            rw [hv', hr]
            simp [den, denL, MObj.den, hgm, putObj, ChangeMaps.setBlock]
          · have hlm := hs.lt m _ hC
            simp only [Blk.lt, MObj.lt] at hlm
            rw [ltL_eq, List.all_eq_true] at hlm
            simp [SV.lt, ltL, hlm _ (List.mem_map.2 ⟨z, hz, rfl⟩)]
      · exact h.elim
    · exact h.elim
  · exact h.elim
theorem entryC_ok {x : SV} {K : SV → List Blk → Prop} (h : entryC M x (fun v => K v M)) : SemOK P M (fun ρ => Instr.entry (den ρ x)) K := by
  unfold entryC at h
  split at h
  · rename_i r
    split at h
    · rename_i m since seen st hB
      split at h
      · rename_i es c hC
        obtain ⟨rfl, h⟩ := h
        intro G ρ w hs
        obtain ⟨g, hg, hh⟩ := obj_get hs hB
        obtain ⟨gm, hgm, hhm⟩ := obj_get hs hC
        simp only [MObj.den, hgm, Option.map_some] at hh hhm
        have hv' : den ρ (.p r 0) = .pointer (some ⟨g, 0, none⟩) := by simp [den, adr, hg]
        unfold entryD at h
        split at h
        · rename_i s hseen
          split at h
          · rename_i e hfind
            refine ⟨ρ, _, M, w, ?_, Ext.refl _ _, Nat.le_refl _, hs, ?_, h⟩
            · show (Instr.entry (den ρ (.p r 0))).run P w = _
              rw [hv']
              have hb : seen.toArray.back? = some s := by rw [List.back?_toArray]; exact hseen
              have hf : (entsD ρ es).toArray.find? (·.born == s) = some ⟨.int .i64 e.1, den ρ e.2.1, e.2.2⟩ := by
                simp only [List.find?_toArray, entsD, List.find?_map, Function.comp_def, hfind, Option.map_some]
              simp only [Instr.entry, getObj, Sem.run_bind, Sem.run, hh, hhm, Result.andThen, hb, bne_self_eq_false, Bool.false_eq_true, if_false, hf]
              simp [den, denL]
            · have hlm := hs.lt m _ hC
              simp only [Blk.lt, MObj.lt] at hlm
              rw [ltL_eq, List.all_eq_true] at hlm
              simp [SV.lt, ltL, hlm _ (List.mem_map.2 ⟨e, List.mem_of_find?_eq_some hfind, rfl⟩)]
          · exact h.elim
        · exact h.elim
      · exact h.elim
    · exact h.elim
  · exact h.elim
end
end Go.Proofs.YtdkdbeamimkljaaGreatDoor.Eng
