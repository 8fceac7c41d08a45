/- The engine, part I: a region that draws its order: one plan for all orders. -/
import Derived.Test.YtdkdbeamimkljaaGreatDoorEngJ
namespace Go.Proofs.YtdkdbeamimkljaaGreatDoor.Eng
open Go Go.RowKit
set_option linter.unusedSimpArgs false
set_option linter.unusedVariables false
/-- a step of a plan: an operation that only computes or reads; one that acts, and what is looked at once more behind it -/
inductive Stp where
  | p (i : Nat)
  | e (i : Nat) (rc : List Nat)
  deriving DecidableEq
def Stp.ix : Stp → Nat
  | .p i => i
  | .e i _ => i
def Stp.act : Stp → Bool
  | .p _ => false
  | .e .. => true
/-- a plan: pure steps, and where steps act: one of several may be the next -/
inductive Tr where
  | nil
  | no
  | p (i : Nat) (r : Tr)
  | e (i : Nat) (rc : List Nat) (r alt : Tr)
def Tr.heads : Tr → List Nat
  | .e i _ _ alt => i :: alt.heads
  | _ => []
abbrev Pend := Nat × List SV × SV
def rcC (P : Program) (T : Tab) (ops : List Oper) : List Pend → List Nat → List Blk → Prop
  | [], _, _ => True
  | (i, ts, v) :: pd, rc, M =>
    (if rc.contains i then (match ops[i]? with | some o => opC P T o.op ts M (fun v' M' => v' = v ∧ M' = M) | none => False) else True) ∧ rcC P T ops pd rc M
/-- a guard's arms -/
def gdO (ops : List Oper) (ts : List SV) (g : Option (Nat × Bool)) (A B : Prop) : Prop :=
  match g with
  | none => A
  | some (j, want) => gdC (yS ops ts j) want A B
def drawC (P : Program) (T : Tab) (ops : List Oper) : Tr → List SV → List Blk → List Pend → (List SV → List Blk → Prop) → Prop
  | .nil, ts, M, _, K => K ts M
  | .no, _, _, _, _ => True
  | .p i r, ts, M, pd, K => match ops[i]? with
    | none => False
    | some o => gdO ops ts o.guard (opC P T o.op ts M (fun v M' => drawC P T ops r (putS ts o.dst v) M' ((i, ts, v) :: pd) K)) (drawC P T ops r (putS ts o.dst uS) M pd K)
  | .e i rc r alt, ts, M, pd, K => (match ops[i]? with
    | none => False
    | some o => gdO ops ts o.guard (opC P T o.op ts M (fun v M' => rcC P T ops pd rc M' ∧ drawC P T ops r (putS ts o.dst v) M' pd K)) (drawC P T ops r (putS ts o.dst uS) M pd K)) ∧
    drawC P T ops alt ts M pd K
/-! what a plan must be -/
def bindsOf (o : Oper) : List Nat := (o.after.toList.filter (Region.binds .any)).map (·.on)
def tmpsOf (ops : List Oper) (o : Oper) : List Nat :=
  (o.op.operands.toList.filterMap fun | .tmp t => some t | _ => none) ++
  (match o.guard with | some (j, _) => ((ops[j]?).bind (·.dst)).toList | none => []) ++ o.dst.toList
def ancStep (ops : List Oper) (A : List Nat) (i : Nat) : List Nat :=
  match ops[i]? with
  | some o => A.set i ((bindsOf o).foldl (fun s j => s ||| 2 ^ j ||| A.getD j 0) 0)
  | none => A
def memFree (T : Tab) : Op → Bool
  | .move _ | .assign _ | .pick .. | .unOp .. | .field .. | .index .. | .extract .. | .build .. | .makeFunc .. => true
  | .binOp .eql t _ _ _ | .binOp .neq t _ _ _ => match T.k t with | .int _ | .bool | .arr .. | .struct _ | .str => true | _ => false
  | .binOp .. => true
  | _ => false
/-- a number, worked out before it is used -/
def forceN {α : Type} (n : Nat) (f : Nat → α) : α := Nat.casesOn n (f 0) (fun m => f (m + 1))
def forceL {α : Type} : List Nat → (List Nat → α) → α
  | [], f => f []
  | x :: l, f => forceN x fun y => forceL l fun r => f (y :: r)
theorem forceN_eq {α : Type} (n : Nat) (f : Nat → α) : forceN n f = f n := by cases n <;> rfl
theorem forceL_eq {α : Type} : ∀ (l : List Nat) (f : List Nat → α), forceL l f = f l
  | [], _ => rfl
  | x :: l, f => by simp only [forceL]; rw [forceN_eq, forceL_eq]
/-- a step of the plan, behind those in 'pre' -/
def stepC (T : Tab) (ops : List Oper) (A : List Nat) (pre : List Stp) (s : Stp) : Bool :=
  match ops[s.ix]? with
  | some o =>
    (bindsOf o).all (fun j => pre.any fun x => x.ix == j) &&
    !(pre.any fun x => x.ix == s.ix) &&
    (match s with
     | .p _ => detOp o.op
     | .e _ rc => pre.all fun x => x.act || (A.getD s.ix 0).testBit x.ix || rc.contains x.ix || (match ops[x.ix]? with | some o => memFree T o.op | none => true)) &&
    pre.all (fun x => (A.getD s.ix 0).testBit x.ix || (match ops[x.ix]? with
     | some y => !(o.dst.toList.any fun d => (tmpsOf ops y).contains d) && !(y.dst.toList.any fun d => (tmpsOf ops o).contains d)
     | none => true))
  | none => false
def covC (ops : List Oper) (A : List Nat) (pre : List Stp) (t : Tr) : Bool :=
  match t with
  | .e .. => (List.range ops.length).all fun j => (pre.any fun x => x.ix == j) || t.heads.contains j || t.heads.any fun h => (A.getD j 0).testBit h
  | .no => false
  | _ => true
def planFrom (T : Tab) (ops : List Oper) (A : List Nat) : List Stp → Tr → Bool
  | pre, .nil => (List.range ops.length).all fun i => pre.any fun x => x.ix == i
  | _, .no => true
  | pre, .p i r => stepC T ops A pre (.p i) && covC ops A (.p i :: pre) r && planFrom T ops A (.p i :: pre) r
  | pre, .e i rc r alt => stepC T ops A pre (.e i rc) && covC ops A (.e i rc :: pre) r && planFrom T ops A (.e i rc :: pre) r && planFrom T ops A pre alt
/-- all masks, in the operations' order -/
def masks (ops : List Oper) : Nat → List Nat → List Nat → (List Nat → Bool) → Bool
  | _, [], A, f => f A
  | 0, _, A, f => f A
  | n + 1, i :: l, A, f => forceL (ancStep ops A i) fun A' => masks ops n l A' f
def planOK (T : Tab) (ops : List Oper) (t : Tr) : Bool :=
  masks ops ops.length (List.range ops.length) (List.replicate ops.length 0) fun A => covC ops A [] t && planFrom T ops A [] t
section
variable {P : Program} {T : Tab}
/-! operations and their operands -/
theorem evs_congr {ts ts' : List SV} : ∀ (l : List Operand), (∀ x, x ∈ l → evS ts x = evS ts' x) → l.map (evS ts) = l.map (evS ts') := fun l h => List.map_congr_left h
theorem evo_congr {ts ts' : List SV} : ∀ (o : Option Operand), (∀ x, x ∈ o.toArray.toList → evS ts x = evS ts' x) → o.map (evS ts) = o.map (evS ts')
  | none, _ => rfl
  | some x, h => by simp only [Option.map_some]; rw [h x (by simp)]
theorem opC_ts {op : Op} {ts ts' : List SV} {M : List Blk} {K : SV → List Blk → Prop} (h : ∀ x, x ∈ op.operands.toList → evS ts x = evS ts' x) (hc : opC P T op ts M K) : opC P T op ts' M K := by
  cases op <;> simp only [opC] at hc ⊢ <;> try exact hc
  case move x | assign x | box t x | load t x | nilCheck x | sliceToArrayPointer t x | unOp o t x | convert s d x | fieldAddr t x f | field t x f | extract x i =>
    rw [← h x (by simp [Op.operands])]; exact hc
  case pick c x y => rw [← h c (by simp [Op.operands]), ← h x (by simp [Op.operands]), ← h y (by simp [Op.operands])]; exact hc
  case store t x y | binOp o t x y u | indexAddr t x y | index t x y | makeSlice t x y =>
    rw [← h x (by simp [Op.operands]), ← h y (by simp [Op.operands])]; exact hc
  case makeMap t r =>
    cases r with
    | none => exact hc
    | some r => exact hc
  case lookup t x k ok => rw [← h x (by simp [Op.operands]), ← h k (by simp [Op.operands])]; exact hc
  case mapUpdate t x k v => rw [← h x (by simp [Op.operands]), ← h k (by simp [Op.operands]), ← h v (by simp [Op.operands])]; exact hc
  case range t x => rw [← h x (by simp [Op.operands])]; exact hc
  case next x b =>
    cases b with
    | false =>
      simp only at hc ⊢
      rw [← h x (by simp [Op.operands])]; exact hc
    | true => exact hc
  case entry x => rw [← h x (by simp [Op.operands])]; exact hc
  case build t ps =>
    have : (ps.toList.map fun x => (x.1, evS ts x.2)) = ps.toList.map fun x => (x.1, evS ts' x.2) := by
      refine List.map_congr_left (fun x hx => ?_)
      rw [h x.2 (by simp only [Op.operands]; exact List.mem_map.2 ⟨x, hx, rfl⟩)]
    rw [← this]; exact hc
  case buildSlice t n ps =>
    have : (ps.toList.map fun x => (x.1, evS ts x.2)) = ps.toList.map fun x => (x.1, evS ts' x.2) := by
      refine List.map_congr_left (fun x hx => ?_)
      rw [h x.2 (by simp only [Op.operands]; exact List.mem_map.2 ⟨x, hx, rfl⟩)]
    rw [← this]; exact hc
  case slice t x lo hi mx =>
    rw [← h x (by simp [Op.operands]), ← evo_congr (ts := ts) lo (fun y hy => h y (by simp [Op.operands] at hy ⊢; exact .inr (.inl hy))), ← evo_congr (ts := ts) hi (fun y hy => h y (by simp [Op.operands] at hy ⊢; exact .inr (.inr (.inl hy)))),
      ← evo_congr (ts := ts) mx (fun y hy => h y (by simp [Op.operands] at hy ⊢; exact .inr (.inr (.inr hy))))]
    exact hc
  case makeFunc f x c =>
    rw [← evs_congr (ts := ts) x.toList (fun y hy => h y (by simp [Op.operands] at hy ⊢; exact .inl hy)), ← evs_congr (ts := ts) c.toList (fun y hy => h y (by simp [Op.operands] at hy ⊢; exact .inr hy))]
    exact hc
  case call c =>
    obtain ⟨callee, as, ats⟩ := c
    cases callee with
    | value f =>
      simp only at hc ⊢
      rw [← h f (by simp [Op.operands, Call.operands]), ← evs_congr (ts := ts) as.toList (fun y hy => h y (by simp [Op.operands, Call.operands] at hy ⊢; exact .inr hy))]
      exact hc
    | builtin b =>
      simp only at hc ⊢
      rw [← evs_congr (ts := ts) as.toList (fun y hy => h y (by simp [Op.operands, Call.operands] at hy ⊢; exact hy))]
      exact hc
    | invoke r m => exact hc
theorem eqC_free {M M2 : List Blk} {t : TypeId} {x y : SV} {K : Bool → Prop} (hf : (match T.k t with | .int _ | .bool | .arr .. | .struct _ | .str => true | _ => false) = true) (h : eqC T M t x y K) : eqC T M2 t x y K := by
  cases htk : T.k t <;> simp only [htk] at hf <;> try (cases hf; done)
  all_goals
    unfold eqC at *
    split at h <;> simp_all [isSl]
theorem opC_free {op : Op} {ts : List SV} {M M2 : List Blk} {v : SV} (hf : memFree T op = true) (h : opC P T op ts M (fun v' M' => v' = v ∧ M' = M)) : opC P T op ts M2 (fun v' M' => v' = v ∧ M' = M2) := by
  have bin : ∀ (o : BinOp) (t : TypeId) (x y : SV), memFree T (.binOp o t (.tmp 0) (.tmp 0) 0) = true → binC T M o t x y (fun v' => v' = v) → binC T M2 o t x y (fun v' => v' = v) := by
    intro o t x y hf h
    unfold binC at *
    split at h <;> try exact h
    split at h
    · exact eqC_free (by simpa [memFree] using hf) h
    · exact eqC_free (by simpa [memFree] using hf) h
    · exact h
  cases op <;> simp only [memFree] at hf <;> try (cases hf; done)
  case binOp o t x y u =>
    simp only [opC, and_true] at h ⊢
    exact bin o t _ _ (by cases o <;> first | exact hf | rfl) h
  all_goals
    simp only [opC, and_true] at h ⊢
    exact h
/-! what a plan that is let by gives -/
def Closed (ops : List Oper) (L : Nat → Bool) : Prop := ∀ i o, ops[i]? = some o → L i = true → ∀ k, k ∈ bindsOf o → L k = true
/-- j comes ahead of i in every order -/
def Anc (ops : List Oper) (j i : Nat) : Prop := ∀ L : Nat → Bool, Closed ops L → (∀ o, ops[i]? = some o → ∀ k, k ∈ bindsOf o → L k = true) → L j = true
def Apart (ops : List Oper) (x y : Nat) : Prop := ∀ ox oy, ops[x]? = some ox → ops[y]? = some oy → (∀ d, ox.dst = some d → d ∉ tmpsOf ops oy) ∧ (∀ d, oy.dst = some d → d ∉ tmpsOf ops ox)
structure Facts (T : Tab) (ops : List Oper) (pre : List Stp) (s : Stp) : Prop where
  here : ∃ o, ops[s.ix]? = some o
  edges : ∀ o, ops[s.ix]? = some o → ∀ j, j ∈ bindsOf o → ∃ x, x ∈ pre ∧ x.ix = j
  new : ∀ x, x ∈ pre → x.ix ≠ s.ix
  again : ∀ i rc, s = .e i rc → ∀ x, x ∈ pre → x.act = true ∨ Anc ops x.ix s.ix ∨ x.ix ∈ rc ∨ ∀ o, ops[x.ix]? = some o → memFree T o.op = true
  slots : ∀ x, x ∈ pre → Anc ops x.ix s.ix ∨ Apart ops x.ix s.ix
  det : ∀ i, s = .p i → ∀ o, ops[i]? = some o → detOp o.op = true
theorem testBit_or_pow {s j k a : Nat} (h : (s ||| 2 ^ k ||| a).testBit j = true) : s.testBit j = true ∨ j = k ∨ a.testBit j = true := by
  simp only [Nat.testBit_or, Bool.or_eq_true, Nat.testBit_two_pow] at h
  rcases h with (h | h) | h
  · exact .inl h
  · exact .inr (.inl (of_decide_eq_true h).symm)
  · exact .inr (.inr h)
theorem fold_bits (A : List Nat) (j : Nat) : ∀ (l : List Nat) (s : Nat), (l.foldl (fun s k => s ||| 2 ^ k ||| A.getD k 0) s).testBit j = true → s.testBit j = true ∨ ∃ k, k ∈ l ∧ (j = k ∨ (A.getD k 0).testBit j = true)
  | [], s, h => .inl h
  | k :: l, s, h => by
    rcases fold_bits A j l _ h with h | ⟨k', hk, h⟩
    · rcases testBit_or_pow h with h | h | h
      · exact .inl h
      · exact .inr ⟨k, by simp, .inl h⟩
      · exact .inr ⟨k, by simp, .inr h⟩
    · exact .inr ⟨k', by simp [hk], h⟩
def MasksOK (ops : List Oper) (A : List Nat) : Prop := ∀ i j, (A.getD i 0).testBit j = true → Anc ops j i
theorem ancStep_ok {ops : List Oper} {A : List Nat} (h : MasksOK ops A) (i : Nat) : MasksOK ops (ancStep ops A i) := by
  unfold ancStep
  cases ho : ops[i]? with
  | none => exact h
  | some o =>
    intro i' j hb
    by_cases hi : i = i'
    · subst hi
      by_cases hlt : i < A.length
      · simp only [List.getD_eq_getElem?_getD, List.getElem?_set_self hlt, Option.getD_some] at hb
        have hb' := fold_bits A j (bindsOf o) 0 (by simpa [List.getD_eq_getElem?_getD] using hb)
        rcases hb' with hb' | ⟨k, hk, hb'⟩
        · simp at hb'
        · intro L hc hL
          rcases hb' with rfl | hb'
          · exact hL o ho j hk
          · exact h k j hb' L hc (fun o' ho' k' hk' => hc k o' ho' (hL o ho k hk) k' hk')
      · simp [List.getD_eq_getElem?_getD, List.getElem?_set, hlt] at hb
    · simp only [List.getD_eq_getElem?_getD, List.getElem?_set_ne hi] at hb
      exact h i' j (by simpa [List.getD_eq_getElem?_getD] using hb)
theorem stepC_facts {ops : List Oper} {A : List Nat} (hA : MasksOK ops A) {pre : List Stp} {s0 : Stp} (h1 : stepC T ops A pre s0 = true) : Facts T ops pre s0 := by
  unfold stepC at h1
  cases ho : ops[s0.ix]? with
  | none => simp [ho] at h1
  | some o =>
    simp only [ho, Bool.and_eq_true] at h1
    obtain ⟨⟨⟨g1, g2⟩, g4⟩, g5⟩ := h1
    refine ⟨⟨o, ho⟩, ?_, ?_, ?_, ?_, ?_⟩
    · intro o' ho' j hj
      have : o = o' := Option.some.inj (ho.symm.trans ho')
      subst this
      have := List.all_eq_true.1 g1 j hj
      obtain ⟨x, hx, he⟩ := List.any_eq_true.1 this
      exact ⟨x, hx, by simpa using he⟩
    · intro x hx he
      have : (pre.any fun x => x.ix == s0.ix) = true := List.any_eq_true.2 ⟨x, hx, by simpa using he⟩
      rw [this] at g2
      cases g2
    · intro i rc hs x hx
      subst hs
      have := List.all_eq_true.1 g4 x hx
      simp only [Bool.or_eq_true] at this
      rcases this with ((h | h) | h) | h
      · exact .inl h
      · exact .inr (.inl (hA _ _ h))
      · exact .inr (.inr (.inl (by simpa using h)))
      · refine .inr (.inr (.inr (fun o' ho' => ?_)))
        rw [ho'] at h
        exact h
    · intro x hx
      have := List.all_eq_true.1 g5 x hx
      simp only [Bool.or_eq_true] at this
      rcases this with h | h
      · exact .inl (hA _ _ h)
      · refine .inr (fun ox oy hox hoy => ?_)
        have : o = oy := Option.some.inj (ho.symm.trans hoy)
        subst this
        rw [hox] at h
        simp only [Bool.and_eq_true, Bool.not_eq_true', List.any_eq_false] at h
        refine ⟨fun d hd hm => ?_, fun d hd hm => ?_⟩
        · have := h.2 d (by simp [hd])
          simp [hm] at this
        · have := h.1 d (by simp [hd])
          simp [hm] at this
    · intro i hs o' ho'
      subst hs
      have : o = o' := Option.some.inj (ho.symm.trans ho')
      subst this
      exact g4
theorem Facts.mem {ops : List Oper} {pre pre' : List Stp} {s : Stp} (h : Facts T ops pre s) (hm : ∀ x, x ∈ pre' ↔ x ∈ pre) : Facts T ops pre' s :=
  ⟨h.here, fun o ho j hj => by obtain ⟨x, hx, he⟩ := h.edges o ho j hj; exact ⟨x, (hm x).2 hx, he⟩, fun x hx => h.new x ((hm x).1 hx),
    fun i rc hs x hx => h.again i rc hs x ((hm x).1 hx), fun x hx => h.slots x ((hm x).1 hx), h.det⟩
def Cov (ops : List Oper) (pre : List Stp) (t : Tr) : Prop :=
  match t with
  | .e .. => ∀ j, j < ops.length → (∃ x, x ∈ pre ∧ x.ix = j) ∨ j ∈ t.heads ∨ ∃ h, h ∈ t.heads ∧ Anc ops h j
  | .no => False
  | _ => True
def TreeOK (T : Tab) (ops : List Oper) : List Stp → Tr → Prop
  | pre, .nil => ∀ i, i < ops.length → ∃ x, x ∈ pre ∧ x.ix = i
  | _, .no => True
  | pre, .p i r => Facts T ops pre (.p i) ∧ Cov ops (pre ++ [.p i]) r ∧ TreeOK T ops (pre ++ [.p i]) r
  | pre, .e i rc r alt => Facts T ops pre (.e i rc) ∧ Cov ops (pre ++ [.e i rc]) r ∧ TreeOK T ops (pre ++ [.e i rc]) r ∧ TreeOK T ops pre alt
theorem covC_ok {ops : List Oper} {A : List Nat} (hA : MasksOK ops A) {pre pre' : List Stp} (hm : ∀ x, x ∈ pre' ↔ x ∈ pre) {t : Tr} (h : covC ops A pre t = true) : Cov ops pre' t := by
  cases t with
  | nil => trivial
  | p i r => trivial
  | no => cases h
  | e i rc r alt =>
    intro j hj
    have := List.all_eq_true.1 h j (List.mem_range.2 hj)
    simp only [Bool.or_eq_true] at this
    rcases this with (h | h) | h
    · obtain ⟨x, hx, he⟩ := List.any_eq_true.1 h
      exact .inl ⟨x, (hm x).2 hx, by simpa using he⟩
    · exact .inr (.inl (by simpa using h))
    · obtain ⟨y, hy, he⟩ := List.any_eq_true.1 h
      exact .inr (.inr ⟨y, hy, hA _ _ he⟩)
theorem planFrom_ok {ops : List Oper} {A : List Nat} (hA : MasksOK ops A) : ∀ (t : Tr) (pre pre' : List Stp), (∀ x, x ∈ pre' ↔ x ∈ pre) → planFrom T ops A pre t = true → TreeOK T ops pre' t
  | .nil, pre, pre', hm, h => by
    intro i hi
    have := List.all_eq_true.1 h i (List.mem_range.2 hi)
    obtain ⟨x, hx, he⟩ := List.any_eq_true.1 this
    exact ⟨x, (hm x).2 hx, by simpa using he⟩
  | .no, _, _, _, _ => trivial
  | .p i r, pre, pre', hm, h => by
    simp only [planFrom, Bool.and_eq_true] at h
    have hm' : ∀ x, x ∈ pre' ++ [.p i] ↔ x ∈ Stp.p i :: pre := fun x => by simp [hm x, or_comm]
    exact ⟨(stepC_facts hA h.1.1).mem hm, covC_ok hA hm' h.1.2, planFrom_ok hA r _ _ hm' h.2⟩
  | .e i rc r alt, pre, pre', hm, h => by
    simp only [planFrom, Bool.and_eq_true] at h
    have hm' : ∀ x, x ∈ pre' ++ [.e i rc] ↔ x ∈ Stp.e i rc :: pre := fun x => by simp [hm x, or_comm]
    exact ⟨(stepC_facts hA h.1.1.1).mem hm, covC_ok hA hm' h.1.1.2, planFrom_ok hA r _ _ hm' h.1.2, planFrom_ok hA alt _ _ hm h.2⟩
theorem masks_ok {ops : List Oper} {f : List Nat → Bool} {Q : Prop} (hf : ∀ A, MasksOK ops A → f A = true → Q) : ∀ (n : Nat) (l A : List Nat), MasksOK ops A → masks ops n l A f = true → Q
  | 0, [], A, hA, h => hf A hA h
  | 0, _ :: _, A, hA, h => hf A hA h
  | _ + 1, [], A, hA, h => hf A hA h
  | n + 1, i :: l, A, hA, h => by
    simp only [masks, forceL_eq] at h
    exact masks_ok hf n l _ (ancStep_ok hA i) h
theorem planOK_facts {ops : List Oper} {t : Tr} (h : planOK T ops t = true) : Cov ops [] t ∧ TreeOK T ops [] t := by
  refine masks_ok (fun A hA hf => ?_) _ _ _ (fun i j hb => ?_) h
  · simp only [Bool.and_eq_true] at hf
    exact ⟨covC_ok hA (fun x => Iff.rfl) hf.1, planFrom_ok hA t [] [] (fun x => Iff.rfl) hf.2⟩
  · simp only [List.getD_eq_getElem?_getD, List.getElem?_replicate] at hb
    split at hb <;> simp at hb
/-! slots -/
def dstOf (ops : List Oper) (i : Nat) : Option Tmp := (ops[i]?).bind (·.dst)
def foldV (ops : List Oper) (vals : Nat → SV) : List SV → List Nat → List SV
  | ts, [] => ts
  | ts, i :: l => foldV ops vals (putS ts (dstOf ops i) (vals i)) l
theorem foldV_append (ops : List Oper) (vals : Nat → SV) : ∀ (l r : List Nat) (ts : List SV), foldV ops vals ts (l ++ r) = foldV ops vals (foldV ops vals ts l) r
  | [], _, _ => rfl
  | i :: l, r, ts => foldV_append ops vals l r _
theorem foldV_vals {ops : List Oper} {vals vals' : Nat → SV} : ∀ (l : List Nat) (ts : List SV), (∀ i, i ∈ l → vals i = vals' i) → foldV ops vals ts l = foldV ops vals' ts l
  | [], _, _ => rfl
  | i :: l, ts, h => by
    simp only [foldV]
    rw [h i (by simp)]
    exact foldV_vals l _ (fun j hj => h j (by simp [hj]))
theorem putS_length (ts : List SV) (d : Option Tmp) (v : SV) : (putS ts d v).length = ts.length := by cases d <;> simp [putS]
theorem putS_getD_ne {ts : List SV} {d : Option Tmp} {v : SV} {s : Nat} (h : d ≠ some s) : (putS ts d v).getD s uS = ts.getD s uS := by
  cases d with
  | none => rfl
  | some d =>
    simp only [putS, List.getD_eq_getElem?_getD]
    rw [List.getElem?_set_ne (fun e => h (by rw [e]))]
theorem putS_getD_same {ts ts' : List SV} (hl : ts.length = ts'.length) (d : Option Tmp) (v : SV) {s : Nat} (h : ts.getD s uS = ts'.getD s uS) : (putS ts d v).getD s uS = (putS ts' d v).getD s uS := by
  cases d with
  | none => exact h
  | some d =>
    by_cases hd : d = s
    · subst hd
      simp only [putS, List.getD_eq_getElem?_getD]
      by_cases hlt : d < ts.length
      · rw [List.getElem?_set_self hlt, List.getElem?_set_self (hl ▸ hlt)]
      · have e1 : (ts.set d v)[d]? = none := List.getElem?_eq_none (by rw [List.length_set]; exact Nat.le_of_not_lt hlt)
        have e2 : (ts'.set d v)[d]? = none := List.getElem?_eq_none (by rw [List.length_set, ← hl]; exact Nat.le_of_not_lt hlt)
        rw [e1, e2]
    · rw [putS_getD_ne (fun e => hd (Option.some.inj e)), putS_getD_ne (fun e => hd (Option.some.inj e))]
      exact h
theorem foldV_slot {ops : List Oper} {vals : Nat → SV} {s : Nat} (p : Nat → Bool) : ∀ (l : List Nat) (ts ts' : List SV), ts.length = ts'.length → ts.getD s uS = ts'.getD s uS → (∀ i, i ∈ l → dstOf ops i = some s → p i = true) →
    (foldV ops vals ts (l.filter p)).getD s uS = (foldV ops vals ts' l).getD s uS
  | [], ts, ts', _, h, _ => h
  | i :: l, ts, ts', hl, h, hw => by
    have hw' : ∀ j, j ∈ l → dstOf ops j = some s → p j = true := fun j hj => hw j (by simp [hj])
    by_cases hp : p i = true
    · rw [List.filter_cons_of_pos hp]
      exact foldV_slot p l _ _ (by rw [putS_length, putS_length, hl]) (putS_getD_same hl _ _ h) hw'
    · rw [List.filter_cons_of_neg hp]
      refine foldV_slot p l _ _ (by rw [putS_length, hl]) ?_ hw'
      rw [putS_getD_ne (fun e => hp (hw i (by simp) e))]
      exact h
theorem putS_comm {ts : List SV} {d d' : Option Tmp} {v v' : SV} (h : ∀ x, d = some x → d' ≠ some x) : putS (putS ts d v) d' v' = putS (putS ts d' v') d v := by
  cases d with
  | none => rfl
  | some d =>
    cases d' with
    | none => rfl
    | some d' =>
      simp only [putS]
      exact List.set_comm _ _ (fun e => h d rfl (by rw [e]))
theorem foldV_put {ops : List Oper} {vals : Nat → SV} {d : Option Tmp} {v : SV} : ∀ (l : List Nat) (ts : List SV), (∀ j, j ∈ l → ∀ x, d = some x → dstOf ops j ≠ some x) → foldV ops vals (putS ts d v) l = putS (foldV ops vals ts l) d v
  | [], _, _ => rfl
  | j :: l, ts, h => by
    simp only [foldV]
    rw [putS_comm (h j (by simp))]
    exact foldV_put l _ (fun k hk => h k (by simp [hk]))
/-! the theorem -/
theorem evS_of_slot {ts ts' : List SV} {x : Operand} (h : ∀ t, x = .tmp t → ts.getD t uS = ts'.getD t uS) : evS ts x = evS ts' x := by
  cases x with
  | tmp t => exact h t rfl
  | const v => rfl
  | global g => rfl
  | func f => rfl
theorem operands_tmps {ops : List Oper} {o : Oper} {t : Nat} (h : Operand.tmp t ∈ o.op.operands.toList) : t ∈ tmpsOf ops o := by
  unfold tmpsOf
  exact List.mem_append_left _ (List.mem_append_left _ (List.mem_filterMap.2 ⟨_, h, rfl⟩))
theorem guard_tmps {ops : List Oper} {o : Oper} {j : Nat} {w : Bool} {d : Nat} (hg : o.guard = some (j, w)) (hd : (ops[j]?).bind (·.dst) = some d) : d ∈ tmpsOf ops o := by
  unfold tmpsOf
  refine List.mem_append_left _ (List.mem_append_right _ ?_)
  simp [hg, hd]
theorem gdO_ts {ops : List Oper} {o : Oper} {ts ts' : List SV} {A B : Prop} (h : ∀ t, t ∈ tmpsOf ops o → ts.getD t uS = ts'.getD t uS) (hg : gdO ops ts o.guard A B) : gdO ops ts' o.guard A B := by
  unfold gdO at *
  cases hgd : o.guard with
  | none => rw [hgd] at hg; exact hg
  | some g =>
    obtain ⟨j, w⟩ := g
    rw [hgd] at hg
    simp only at hg ⊢
    have : yS ops ts j = yS ops ts' j := by
      unfold yS
      cases hd : (ops[j]?).bind (·.dst) with
      | none => rfl
      | some d => exact h d (guard_tmps hgd hd)
    rw [← this]
    exact hg
theorem gdO_cases {ρ : Ren} {m : Nat} {ts : List SV} {a : Act} (ht : TS ρ m ts a) {ops : List Oper} {o : Oper} {A B : Prop} (h : gdO ops ts o.guard A B) :
    (Region.wanted o (yielded ops.toArray a.tmps) = true ∧ A) ∨ (Region.wanted o (yielded ops.toArray a.tmps) = false ∧ B) := by
  cases hg : o.guard with
  | none => rw [hg] at h; exact .inl ⟨by simp [Region.wanted, hg], h⟩
  | some g =>
    obtain ⟨j, w⟩ := g
    rw [hg] at h
    exact wanted_gd ht hg h
theorem foldV_getD_ne {ops : List Oper} {vals : Nat → SV} {s : Nat} : ∀ (l : List Nat) (ts : List SV), (∀ i, i ∈ l → dstOf ops i ≠ some s) → (foldV ops vals ts l).getD s uS = ts.getD s uS
  | [], _, _ => rfl
  | i :: l, ts, h => by
    simp only [foldV]
    rw [foldV_getD_ne l _ (fun j hj => h j (by simp [hj])), putS_getD_ne (h i (by simp))]
theorem gdO_split {ops : List Oper} {ts : List SV} {g : Option (Nat × Bool)} {A B : Prop} (h : gdO ops ts g A B) : (A ∧ ∀ A' : Prop, A' → gdO ops ts g A' False) ∨ (B ∧ ∀ B' : Prop, B' → gdO ops ts g False B') := by
  cases g with
  | none => exact .inl ⟨h, fun _ h => h⟩
  | some g =>
    obtain ⟨j, w⟩ := g
    simp only [gdO] at h ⊢
    generalize yS ops ts j = y at h ⊢
    unfold gdC at h ⊢
    split at h
    · rename_i b
      cases b
      · exact .inr ⟨h.2 rfl, fun B' hB => ⟨fun e => (by cases e), fun _ => hB⟩⟩
      · exact .inl ⟨h.1 rfl, fun A' hA => ⟨fun _ => hA, fun e => (by cases e)⟩⟩
    · rename_i b
      cases b
      · exact .inl ⟨h.1 rfl, fun A' hA => ⟨fun _ => hA, fun e => (by cases e)⟩⟩
      · exact .inr ⟨h.2 rfl, fun B' hB => ⟨fun e => (by cases e), fun _ => hB⟩⟩
    · exact .inr ⟨h, fun B' hB => hB⟩
    · cases h
/-- what is kept of a step that has not been taken -/
def Owed (P : Program) (T : Tab) (ops : List Oper) (M : List Blk) (pd : List Pend) (i : Nat) (o : Oper) (ts : List SV) (v : SV) : Prop :=
  (gdO ops ts o.guard False (v = uS)) ∨ ((∀ A' : Prop, A' → gdO ops ts o.guard A' False) ∧ opC P T o.op ts M (fun v' M' => v' = v ∧ M' = M) ∧ (i, ts, v) ∈ pd)
structure DrawInv (P : Program) (T : Tab) (ops : List Oper) (ts0 : List SV) (K : List SV → List Blk → Prop) (G : Cx) (L : Nat → Bool) (a : Act) (w : World) (pre : List Stp) (r : Tr) (vals : Nat → SV) (M : List Blk) (ρ : Ren)
    (pd : List Pend) : Prop where
  path : ∀ p1 s p2, pre = p1 ++ s :: p2 → Facts T ops p1 s
  cov : Cov ops pre r
  tree : TreeOK T ops pre r
  closed : Closed ops L
  inside : ∀ i, L i = true → ∃ x, x ∈ pre ∧ x.ix = i
  acted : ∀ x, x ∈ pre → x.act = true → L x.ix = true
  sim : Sim G ρ M w
  ts : TS ρ M.length (foldV ops vals ts0 ((pre.map Stp.ix).filter L)) a
  defers : a.defers = []
  vc : drawC P T ops r (foldV ops vals ts0 (pre.map Stp.ix)) M pd K
  pend : ∀ p1 i p2, pre = p1 ++ .p i :: p2 → ∀ o, ops[i]? = some o → L i = false → Owed P T ops M pd i o (foldV ops vals ts0 (p1.map Stp.ix)) (vals i)
theorem path_snoc {ops : List Oper} {pre : List Stp} {s : Stp} (h : ∀ p1 s p2, pre = p1 ++ s :: p2 → Facts T ops p1 s) (hs : Facts T ops pre s) : ∀ p1 x p2, pre ++ [s] = p1 ++ x :: p2 → Facts T ops p1 x := by
  intro p1 x p2 hq
  rcases List.append_eq_append_iff.1 hq with ⟨q, h1, h2⟩ | ⟨q, h1, h2⟩
  · cases q with
    | nil => simp at h1 h2; rw [← h2.1, h1]; exact hs
    | cons y q => simp at h2
  · cases q with
    | nil => simp at h1 h2; rw [h2.1, ← h1]; exact hs
    | cons y q =>
      simp only [List.cons_append, List.cons.injEq] at h2
      obtain ⟨rfl, h2⟩ := h2
      exact h p1 x q h1
/-- the part of the tree behind one of the acts that may be the next -/
theorem tree_pick {ops : List Oper} {pre : List Stp} {ts : List SV} {M : List Blk} {pd : List Pend} {K : List SV → List Blk → Prop} {i : Nat} : ∀ {t : Tr}, TreeOK T ops pre t → i ∈ t.heads → drawC P T ops t ts M pd K →
    ∃ rc r, Facts T ops pre (.e i rc) ∧ Cov ops (pre ++ [.e i rc]) r ∧ TreeOK T ops (pre ++ [.e i rc]) r ∧ (match ops[i]? with
      | none => False
      | some o => gdO ops ts o.guard (opC P T o.op ts M (fun v M' => rcC P T ops pd rc M' ∧ drawC P T ops r (putS ts o.dst v) M' pd K)) (drawC P T ops r (putS ts o.dst uS) M pd K))
  | .nil, _, h, _ => by cases h
  | .no, _, h, _ => by cases h
  | .p .., _, h, _ => by cases h
  | .e j rc r alt, ht, h, hc => by
    rcases List.mem_cons.1 h with rfl | h
    · exact ⟨rc, r, ht.1, ht.2.1, ht.2.2.1, hc.1⟩
    · exact tree_pick ht.2.2.2 h hc.2
theorem head_facts {ops : List Oper} {pre : List Stp} {i : Nat} : ∀ {t : Tr}, TreeOK T ops pre t → i ∈ t.heads → ∃ rc, Facts T ops pre (.e i rc)
  | .nil, _, h => by cases h
  | .no, _, h => by cases h
  | .p .., _, h => by cases h
  | .e j rc r alt, ht, h => by
    rcases List.mem_cons.1 h with rfl | h
    · exact ⟨rc, ht.1⟩
    · exact head_facts ht.2.2.2 h
theorem rcC_get {ops : List Oper} {M : List Blk} {rc : List Nat} : ∀ {pd : List Pend}, rcC P T ops pd rc M → ∀ {i ts v}, (i, ts, v) ∈ pd → i ∈ rc → ∀ {o}, ops[i]? = some o → opC P T o.op ts M (fun v' M' => v' = v ∧ M' = M)
  | [], _, _, _, _, h, _, _, _ => by cases h
  | (j, tj, vj) :: pd, h, i, ts, v, hm, hi, o, ho => by
    simp only [rcC] at h
    rcases List.mem_cons.1 hm with he | hm
    · obtain ⟨rfl, rfl, rfl⟩ : i = j ∧ ts = tj ∧ v = vj := by simpa using he
      have := h.1
      rw [if_pos (by simpa using hi), ho] at this
      exact this
    · exact rcC_get h.2 hm hi ho
theorem split_snoc {α : Type} {x y : α} : ∀ {pre p1 p2 : List α}, pre ++ [x] = p1 ++ y :: p2 → (p1 = pre ∧ y = x) ∨ ∃ q, pre = p1 ++ y :: q ∧ p2 = q ++ [x]
  | [], [], p2, h => by simp at h; exact .inl ⟨rfl, h.1.symm⟩
  | [], z :: p1, p2, h => by simp at h
  | z :: pre, [], p2, h => by
    simp only [List.nil_append, List.cons_append, List.cons.injEq] at h
    obtain ⟨rfl, rfl⟩ := h
    exact .inr ⟨pre, rfl, rfl⟩
  | z :: pre, z' :: p1, p2, h => by
    simp only [List.cons_append, List.cons.injEq] at h
    obtain ⟨rfl, h⟩ := h
    rcases split_snoc h with ⟨rfl, h'⟩ | ⟨q, rfl, h'⟩
    · exact .inl ⟨rfl, h'⟩
    · exact .inr ⟨q, rfl, h'⟩
theorem draw_advance {ops : List Oper} {ts0 : List SV} {K : List SV → List Blk → Prop} {G : Cx} {L : Nat → Bool} {a : Act} {w : World} {M : List Blk} {ρ : Ren} :
    ∀ (r : Tr) (pre : List Stp) (vals : Nat → SV) (pd : List Pend), DrawInv P T ops ts0 K G L a w pre r vals M ρ pd →
    ∃ pre' r' vals' pd', DrawInv P T ops ts0 K G L a w pre' r' vals' M ρ pd' ∧ (∀ i r'', r' ≠ .p i r'') ∧ ∀ j, j ∈ r'.heads → L j = false
  | .nil, pre, vals, pd, h => ⟨pre, .nil, vals, pd, h, fun _ _ e => (by cases e), fun j hj => by cases hj⟩
  | .no, pre, vals, pd, h => h.cov.elim
  | .e i rc r alt, pre, vals, pd, h => by
    refine ⟨pre, _, vals, pd, h, fun _ _ e => (by cases e), fun j hj => ?_⟩
    obtain ⟨rc', hf⟩ := head_facts h.tree hj
    cases hL : L j with
    | false => rfl
    | true =>
      obtain ⟨x, hx, he⟩ := h.inside _ hL
      exact absurd he (hf.new x hx)
  | .p i r, pre, vals, pd, h => by
    have hf := h.tree.1
    obtain ⟨o, ho⟩ := hf.here
    have ho' : ops[i]? = some o := ho
    have hvc := h.vc
    simp only [drawC, ho'] at hvc
    have hni : ∀ j, j ∈ pre.map Stp.ix → j ≠ i := by
      intro j hj
      obtain ⟨x, hx, rfl⟩ := List.mem_map.1 hj
      exact hf.new x hx
    have hLi : L i = false := by
      cases hL : L i with
      | false => rfl
      | true =>
        obtain ⟨x, hx, he⟩ := h.inside i hL
        exact absurd he (hf.new x hx)
    have go : ∀ (v : SV) (pd' : List Pend), (∀ x, x ∈ pd → x ∈ pd') → drawC P T ops r (putS (foldV ops vals ts0 (pre.map Stp.ix)) o.dst v) M pd' K →
        Owed P T ops M pd' i o (foldV ops vals ts0 (pre.map Stp.ix)) v →
        ∃ pre' r' vals' pd', DrawInv P T ops ts0 K G L a w pre' r' vals' M ρ pd' ∧ (∀ i r'', r' ≠ .p i r'') ∧ ∀ j, j ∈ r'.heads → L j = false := by
      intro v pd' hsub hvc' how
      have hv : ∀ l : List Nat, (∀ j, j ∈ l → j ≠ i) → foldV ops (fun k => if k = i then v else vals k) ts0 l = foldV ops vals ts0 l := fun l hl => foldV_vals l ts0 (fun j hj => if_neg (hl j hj))
      refine draw_advance r (pre ++ [.p i]) (fun k => if k = i then v else vals k) pd' ⟨path_snoc h.path hf, h.tree.2.1, h.tree.2.2, h.closed, ?_, ?_, h.sim, ?_, h.defers, ?_, ?_⟩
      · intro j hj
        obtain ⟨x, hx, he⟩ := h.inside j hj
        exact ⟨x, by simp [hx], he⟩
      · intro x hx ha
        rcases List.mem_append.1 hx with hx | hx
        · exact h.acted x hx ha
        · simp at hx; subst hx; cases ha
      · have e : ((pre ++ [Stp.p i]).map Stp.ix).filter L = (pre.map Stp.ix).filter L := by
          simp [Stp.ix, hLi]
        rw [e, hv _ (fun j hj => hni j (List.mem_filter.1 hj).1)]
        exact h.ts
      · have e : (pre ++ [Stp.p i]).map Stp.ix = pre.map Stp.ix ++ [i] := by simp [Stp.ix]
        rw [e, foldV_append, hv _ hni]
        simp only [foldV, if_true, dstOf, ho', Option.bind_some]
        exact hvc'
      · intro p1 j p2 hsplit oj hoj hLj
        rcases split_snoc hsplit with ⟨rfl, he⟩ | ⟨q, hj, _⟩
        · cases he
          have : o = oj := Option.some.inj (ho'.symm.trans hoj)
          subst this
          rw [hv _ hni]
          simp only [if_true]
          exact how
        · have hmem : ∀ k, k ∈ p1.map Stp.ix → k ≠ i := fun k hk => hni k (by rw [hj]; simp at hk ⊢; exact .inl hk)
          have hji : j ≠ i := hni j (by rw [hj]; simp [Stp.ix])
          have := h.pend p1 j _ hj oj hoj hLj
          rw [hv _ hmem, if_neg hji]
          rcases this with g | ⟨g1, g2, g3⟩
          · exact .inl g
          · exact .inr ⟨g1, g2, hsub _ g3⟩
    rcases gdO_split hvc with ⟨hcd, hg⟩ | ⟨hr, hg⟩
    · obtain ⟨v, hc, hr⟩ := opC_det (hf.det i rfl o ho') hcd
      exact go v _ (fun x hx => List.mem_cons_of_mem _ hx) hr (.inr ⟨hg, hc, List.mem_cons_self ..⟩)
    · exact go uS pd (fun _ h => h) hr (.inl (hg _ rfl))
theorem getD_in' {listed : Array Bool} {i : Nat} (hi : i < listed.size) (h : listed.getD i false = false) : listed.getD i true = false := by
  simp [hi] at h ⊢; exact h
theorem getD_out' {listed : Array Bool} {i : Nat} (h : listed.getD i true = false) : i < listed.size ∧ listed.getD i false = false := by
  rcases Nat.lt_or_ge i listed.size with h' | h'
  · simp [h'] at h ⊢; exact h
  · simp [Array.getElem?_eq_none h'] at h
theorem draw_listed {ops : List Oper} {listed : Array Bool} (hsz : listed.size = ops.length) (hr : Region.ready .any ops.toArray listed = []) :
    ∀ (t : Tr) (pre : List Stp), Cov ops pre t → TreeOK T ops pre t → (∀ x, x ∈ pre → listed.getD x.ix false = true) → ∀ i, i < ops.length → listed.getD i false = true := by
  have one : ∀ (pre : List Stp) (s : Stp), Facts T ops pre s → (∀ x, x ∈ pre → listed.getD x.ix false = true) → listed.getD s.ix false = true := by
    intro pre s hf hl
    cases hL : listed.getD s.ix false with
    | true => rfl
    | false =>
      exfalso
      obtain ⟨o, ho⟩ := hf.here
      have hlt : s.ix < ops.length := (List.getElem?_eq_some_iff.1 ho).1
      have hm : s.ix ∈ Region.ready .any ops.toArray listed := by
        refine mem_ready.2 ⟨getD_in' (by omega) hL, o, by simpa using ho, fun e he hb => ?_⟩
        obtain ⟨y, hy, hye⟩ := hf.edges o ho e.on (List.mem_map.2 ⟨e, List.mem_filter.2 ⟨by simpa using he, hb⟩, rfl⟩)
        rw [← hye]; exact hl y hy
      rw [hr] at hm
      cases hm
  have snoc : ∀ (pre : List Stp) (s : Stp), Facts T ops pre s → (∀ x, x ∈ pre → listed.getD x.ix false = true) → ∀ x, x ∈ pre ++ [s] → listed.getD x.ix false = true := by
    intro pre s hf hl x hx
    rcases List.mem_append.1 hx with hx | hx
    · exact hl x hx
    · simp at hx; subst hx; exact one pre _ hf hl
  intro t
  induction t with
  | nil =>
    intro pre _ ht hl i hi
    obtain ⟨x, hx, rfl⟩ := ht i hi
    exact hl x hx
  | no => intro pre hc _ _ _ _; exact hc.elim
  | p i r ih => intro pre _ ht hl; exact ih _ ht.2.1 ht.2.2 (snoc pre _ ht.1 hl)
  | e i rc r alt ih _ => intro pre _ ht hl; exact ih _ ht.2.1 ht.2.2.1 (snoc pre _ ht.1 hl)
theorem filter_split {α : Type} {L L' : α → Bool} {p1 p2 : List α} {i : α} (hi : L i = false) (hi' : L' i = true) (h1 : ∀ x, x ∈ p1 → L' x = L x) (h2 : ∀ x, x ∈ p2 → L' x = L x) :
    (p1 ++ i :: p2).filter L = p1.filter L ++ p2.filter L ∧ (p1 ++ i :: p2).filter L' = p1.filter L ++ i :: p2.filter L := by
  have e1 : p1.filter L' = p1.filter L := List.filter_congr h1
  have e2 : p2.filter L' = p2.filter L := List.filter_congr h2
  constructor
  · rw [List.filter_append, List.filter_cons_of_neg (by simp [hi])]
  · rw [List.filter_append, List.filter_cons_of_pos (by simp [hi']), e1, e2]
theorem dst_tmps {ops : List Oper} {o : Oper} {d : Nat} (h : o.dst = some d) : d ∈ tmpsOf ops o := by
  unfold tmpsOf
  exact List.mem_append_right _ (by simp [h])
theorem draw_any (hT : TabOK P T) {ops : List Oper} (hside : ops.all (fun o => opSide P o.op) = true) {t0 : Tr} {ts0 : List SV} {K : List SV → List Blk → Prop} {G : Cx}
    (hcov0 : Cov ops [] t0) (htree0 : TreeOK T ops [] t0) {Q : Exit → Act → World → Prop}
    (hQ : ∀ ρ' ts' M' w' a', Sim G ρ' M' w' → TS ρ' M'.length ts' a' → a'.defers = [] → K ts' M' → Q .normal a' w') :
    ∀ (fuel : Nat) (listed : Array Bool) (a : Act) (w : World) (pre : List Stp) (r : Tr) (vals : Nat → SV) (M : List Blk) (ρ : Ren) (pd : List Pend), listed.size = ops.length →
      ((List.range ops.length).filter (fun i => listed.getD i false)).length + fuel = ops.length → DrawInv P T ops ts0 K G (fun i => listed.getD i false) a w pre r vals M ρ pd → wpAny P .any ops.toArray Q fuel listed a w := by
  -- the end
  have fin : ∀ (listed : Array Bool) (a : Act) (w : World) (pre : List Stp) (r : Tr) (vals : Nat → SV) (M : List Blk) (ρ : Ren) (pd : List Pend), (∀ i, i < ops.length → listed.getD i false = true) →
      DrawInv P T ops ts0 K G (fun i => listed.getD i false) a w pre r vals M ρ pd → Q .normal a w := by
    intro listed a w pre r vals M ρ pd hl h
    obtain ⟨pre, r, vals, pd, h, hnp, hh⟩ := draw_advance r pre vals pd h
    have hr : r = .nil := by
      cases r with
      | nil => rfl
      | no => exact h.cov.elim
      | p i r => exact absurd rfl (hnp i r)
      | e i rc r alt =>
        have h1 := hh i (List.mem_cons_self ..)
        obtain ⟨o, ho⟩ := h.tree.1.here
        rw [show listed.getD i false = true from hl i (List.getElem?_eq_some_iff.1 ho).1] at h1
        cases h1
    subst hr
    have e : (pre.map Stp.ix).filter (fun i => listed.getD i false) = pre.map Stp.ix := by
      rw [List.filter_eq_self]
      intro i hi
      obtain ⟨x, hx, rfl⟩ := List.mem_map.1 hi
      obtain ⟨b1, b2, hb⟩ := List.append_of_mem hx
      obtain ⟨o, ho⟩ := (h.path b1 x b2 hb).here
      exact hl x.ix (List.getElem?_eq_some_iff.1 ho).1
    have hts := h.ts
    rw [e] at hts
    exact hQ ρ _ M w a h.sim hts h.defers h.vc
  intro fuel
  induction fuel with
  | zero =>
    intro listed a w pre r vals M ρ pd hsz hc h
    have hfull : ∀ i, i < ops.length → listed.getD i false = true := by
      have hle : ((List.range ops.length).filter (fun i => listed.getD i false)).length = (List.range ops.length).length := by simp only [List.length_range]; omega
      exact fun i hi => (List.length_filter_eq_length_iff.1 hle) i (List.mem_range.2 hi)
    refine ⟨?_, fin listed a w pre r vals M ρ pd hfull h⟩
    by_cases hr : Region.ready .any ops.toArray listed = []
    · exact hr
    · obtain ⟨i, hi⟩ := List.exists_mem_of_ne_nil _ hr
      obtain ⟨h1, o, ho, _⟩ := mem_ready.1 hi
      have hlt : i < ops.length := by have := (Array.getElem?_eq_some_iff.1 ho).1; simpa using this
      have := hfull i hlt
      rw [(getD_out' h1).2] at this
      cases this
  | succ fuel ih =>
    intro listed a w pre r vals M ρ pd hsz hc h
    refine ⟨fun hr => fin listed a w pre r vals M ρ pd (draw_listed hsz hr t0 [] hcov0 htree0 (fun x hx => by cases hx)) h, fun i hi => ?_⟩
    obtain ⟨h1, o, ho, hedges⟩ := mem_ready.1 hi
    obtain ⟨hisz, hLi⟩ := getD_out' h1
    have hlt : i < ops.length := by omega
    have ho' : ops[i]? = some o := by simpa using ho
    have hsid : opSide P o.op = true := List.all_eq_true.1 hside o (List.mem_of_getElem? ho')
    -- advance first
    obtain ⟨pre, r, vals, pd, h, hnp, hh⟩ := draw_advance r pre vals pd h
    -- what is known of ancestors
    have hE : ∀ o', ops[i]? = some o' → ∀ k, k ∈ bindsOf o' → listed.getD k false = true := by
      intro o' ho'' k hk
      have : o = o' := Option.some.inj (ho'.symm.trans ho'')
      subst this
      obtain ⟨e, he, rfl⟩ := List.mem_map.1 hk
      obtain ⟨he1, he2⟩ := List.mem_filter.1 he
      exact hedges e (by simpa using he1) he2
    have hanc : ∀ j, Anc ops j i → listed.getD j false = true := fun j hj => hj _ h.closed hE
    have hanc' : ∀ j k, Anc ops j k → listed.getD k false = true → listed.getD j false = true := fun j k hj hk => hj _ h.closed (fun o' ho'' x hx => h.closed k o' ho'' hk x hx)
    -- the new list
    have hL' : ∀ j, (listed.setIfInBounds i true).getD j false = if j = i then true else listed.getD j false := by
      intro j
      by_cases hj : j = i
      · subst hj; simp [hisz]
      · rw [if_neg hj, getD_set_ne false (fun e => hj e.symm)]
    have hclosed' : Closed ops (fun j => (listed.setIfInBounds i true).getD j false) := by
      intro k ok hok hLk x hx
      simp only [hL'] at hLk ⊢
      by_cases hk : k = i
      · subst hk
        have := hE ok hok x hx
        split
        · rfl
        · exact this
      · rw [if_neg hk] at hLk
        have := h.closed k ok hok hLk x hx
        split
        · rfl
        · exact this
    have hndp : ∀ q1 s q2, pre = q1 ++ s :: q2 → ∀ x, x ∈ q1 ++ q2 → x.ix ≠ s.ix := by
      intro q1 s q2 hq x hx
      rcases List.mem_append.1 hx with hx | hx
      · exact (h.path q1 s q2 hq).new x hx
      · obtain ⟨b1, b2, rfl⟩ := List.append_of_mem hx
        have := (h.path (q1 ++ s :: b1) x b2 (by rw [hq]; simp)).new s (by simp)
        exact fun e => this e.symm
    -- the count
    have hcount : ((List.range ops.length).filter (fun j => (listed.setIfInBounds i true).getD j false)).length + fuel = ops.length := by
      obtain ⟨q1, q2, hq⟩ := List.append_of_mem (List.mem_range.2 hlt)
      have hno := List.nodup_range (n := ops.length)
      rw [hq] at hno
      have hne : ∀ k, k ∈ q1 ∨ k ∈ q2 → k ≠ i := by
        rw [List.nodup_append] at hno
        obtain ⟨_, hn2, hn3⟩ := hno
        intro k hk
        rcases hk with hk | hk
        · exact hn3 k hk i (List.mem_cons_self ..)
        · exact fun e => (List.nodup_cons.1 hn2).1 (e ▸ hk)
      have hf := filter_split (L := fun j => listed.getD j false) (L' := fun j => (listed.setIfInBounds i true).getD j false) (p1 := q1) (p2 := q2) (i := i) hLi (by simp only [hL', if_true])
        (fun x hx => by simp only [hL']; rw [if_neg (hne x (.inl hx))]) (fun x hx => by simp only [hL']; rw [if_neg (hne x (.inr hx))])
      rw [hq, hf.1] at hc
      rw [hq, hf.2]
      simp only [List.length_append, List.length_cons] at hc ⊢
      omega
    have hwp : ∀ {A B : Prop} {ts : List SV}, (∀ t, t ∈ tmpsOf ops o → ts.getD t uS = (foldV ops vals ts0 ((pre.map Stp.ix).filter (fun j => listed.getD j false))).getD t uS) → gdO ops ts o.guard A B →
        (A → o.wp P a w (wpAny P .any ops.toArray Q fuel (listed.setIfInBounds i true)) Q) → (B → wpAny P .any ops.toArray Q fuel (listed.setIfInBounds i true) (a.put o.dst undef) w) →
        wpOp P ops.toArray Q i (wpAny P .any ops.toArray Q fuel (listed.setIfInBounds i true)) a w := by
      intro A B ts hslot hg hA hB
      have hg' := gdO_ts hslot hg
      unfold wpOp
      simp only [ho]
      rcases gdO_cases h.ts hg' with ⟨hw, hA'⟩ | ⟨hw, hB'⟩
      · rw [if_pos hw]; exact .inl (hA hA')
      · rw [if_neg (by simp [hw])]; exact hB hB'
    by_cases hin : ∃ x, x ∈ pre ∧ x.ix = i
    · -- a step that was owed
      obtain ⟨s, hs, hsi⟩ := hin
      have hact : s.act = false := by
        cases ha : s.act with
        | false => rfl
        | true =>
          have := h.acted s hs ha
          simp only [hsi] at this
          rw [hLi] at this
          cases this
      have hsp : s = .p i := by
        cases s with
        | p j => simp [Stp.ix] at hsi; rw [hsi]
        | e j rc => simp [Stp.act] at hact
      subst hsp
      obtain ⟨p1, p2, hpre⟩ := List.append_of_mem hs
      have hf := h.path p1 _ _ hpre
      have hne1 : ∀ k, k ∈ p1.map Stp.ix → k ≠ i := fun k hk => by
        obtain ⟨x, hx, rfl⟩ := List.mem_map.1 hk; exact hf.new x hx
      have hne2 : ∀ k, k ∈ p2.map Stp.ix → k ≠ i := fun k hk => by
        obtain ⟨x, hx, rfl⟩ := List.mem_map.1 hk
        exact hndp p1 _ _ hpre x (by simp [hx])
      have hm : pre.map Stp.ix = p1.map Stp.ix ++ i :: p2.map Stp.ix := by rw [hpre]; simp [Stp.ix]
      have hfs := filter_split (L := fun j => listed.getD j false) (L' := fun j => (listed.setIfInBounds i true).getD j false) (p1 := p1.map Stp.ix) (p2 := p2.map Stp.ix) (i := i) hLi (by simp only [hL', if_true])
        (fun x hx => by simp only [hL']; rw [if_neg (hne1 x hx)]) (fun x hx => by simp only [hL']; rw [if_neg (hne2 x hx)])
      -- what is listed behind it does not touch its slots
      have hlate : ∀ k, k ∈ (p2.map Stp.ix).filter (fun j => listed.getD j false) → ∃ ok, ops[k]? = some ok ∧ (∀ d, ok.dst = some d → d ∉ tmpsOf ops o) ∧ (∀ d, o.dst = some d → d ∉ tmpsOf ops ok) := by
        intro k hk
        obtain ⟨hk1, hk2⟩ := List.mem_filter.1 hk
        obtain ⟨x, hx, rfl⟩ := List.mem_map.1 hk1
        obtain ⟨b1, b2, hb⟩ := List.append_of_mem hx
        have hfx := h.path (p1 ++ .p i :: b1) x b2 (by rw [hpre, hb]; simp)
        obtain ⟨ox, hox⟩ := hfx.here
        rcases hfx.slots (.p i) (by simp) with hA | hA
        · have := hanc' _ _ hA hk2
          rw [show listed.getD (Stp.p i).ix false = false from hLi] at this
          cases this
        · obtain ⟨g1, g2⟩ := hA o ox ho' hox
          exact ⟨ox, hox, g2, g1⟩
      have hslot : ∀ t, t ∈ tmpsOf ops o → (foldV ops vals ts0 (p1.map Stp.ix)).getD t uS = (foldV ops vals ts0 ((pre.map Stp.ix).filter (fun j => listed.getD j false))).getD t uS := by
        intro t ht
        have e := foldV_getD_ne (ops := ops) (vals := vals) (s := t) ((p2.map Stp.ix).filter fun j => listed.getD j false) (foldV ops vals ts0 ((p1.map Stp.ix).filter fun j => listed.getD j false)) (fun k hk => by
          obtain ⟨ok, hok, g1, _⟩ := hlate k hk
          simp only [dstOf, hok, Option.bind_some]
          exact fun e => g1 t e ht)
        rw [hm, hfs.1, foldV_append, e]
        refine (foldV_slot (fun j => listed.getD j false) (p1.map Stp.ix) ts0 ts0 rfl rfl (fun k hk hd => ?_)).symm
        obtain ⟨x, hx, rfl⟩ := List.mem_map.1 hk
        rcases hf.slots x hx with hA | hA
        · exact hanc _ hA
        · cases hox : ops[x.ix]? with
          | none => simp [dstOf, hox] at hd
          | some ox =>
            simp only [dstOf, hox, Option.bind_some] at hd
            exact absurd ht ((hA ox o hox ho').1 t hd)
      -- the state behind it
      have next : ∀ (ρ' : Ren) (w' : World) (v : SV), v = vals i → Ext ρ ρ' M.length → Sim G ρ' M w' → v.lt M.length = true → wpAny P .any ops.toArray Q fuel (listed.setIfInBounds i true) (a.put o.dst (den ρ' v)) w' := by
        intro ρ' w' v hv hx hs' hvl
        refine ih _ _ _ pre r vals M ρ' pd (by simp [hsz]) hcount ⟨h.path, h.cov, h.tree, hclosed', ?_, ?_, hs', ?_, (put_defers _ _ _).trans h.defers, h.vc, ?_⟩
        · intro j hj
          simp only [hL'] at hj
          by_cases hji : j = i
          · exact ⟨.p i, hs, by simp [Stp.ix, hji]⟩
          · rw [if_neg hji] at hj; exact h.inside j hj
        · intro x hx ha
          simp only [hL']
          split
          · rfl
          · exact h.acted x hx ha
        · rw [hm, hfs.2, foldV_append]
          have e : foldV ops vals (foldV ops vals ts0 ((p1.map Stp.ix).filter fun j => listed.getD j false)) (i :: (p2.map Stp.ix).filter fun j => listed.getD j false) =
              putS (foldV ops vals ts0 ((pre.map Stp.ix).filter fun j => listed.getD j false)) o.dst v := by
            simp only [foldV, dstOf, ho', Option.bind_some]
            rw [foldV_put _ _ (fun k hk x hx => by
              obtain ⟨ok, hok, _, g2⟩ := hlate k hk
              simp only [dstOf, hok, Option.bind_some]
              exact fun e => g2 x hx (dst_tmps e)), hm, hfs.1, foldV_append, hv]
          rw [e]
          exact h.ts.put hx (Nat.le_refl _) hvl o.dst
        · intro q1 j q2 hq oj hoj hLj
          simp only [hL'] at hLj
          split at hLj
          · cases hLj
          · exact h.pend q1 j q2 hq oj hoj hLj
      rcases h.pend p1 i p2 hpre o ho' hLi with hskip | ⟨hg, hc', _⟩
      · refine hwp hslot hskip (fun e => e.elim) (fun e => ?_)
        have := next ρ w uS e.symm (Ext.refl _ _) h.sim rfl
        exact this
      · refine hwp hslot (hg _ hc') (fun hc'' => ?_) (fun e => e.elim)
        have hc3 : opC P T o.op (foldV ops vals ts0 ((pre.map Stp.ix).filter (fun j => listed.getD j false))) M (fun v' M' => v' = vals i ∧ M' = M) :=
          opC_ts (fun x hx => evS_of_slot (fun t ht => hslot t (operands_tmps (ht ▸ hx)))) hc''
        exact opC_ok hT o hsid hc3 G ρ w a h.sim h.ts _ Q (fun ρ' v M' w' g1 g2 g3 g4 g5 => by
          obtain ⟨rfl, rfl⟩ := g5
          exact next ρ' w' _ rfl g1 g3 g4)
    · -- a step that acts, one that may be the next
      have hhead : i ∈ r.heads := by
        cases r with
        | nil => exact absurd (h.tree i hlt) hin
        | no => exact h.cov.elim
        | p k r => exact absurd rfl (hnp k r)
        | e k rc r alt =>
          rcases h.cov i hlt with hx | hx | ⟨k, hk, hka⟩
          · exact absurd hx hin
          · exact hx
          · have := hanc k hka
            have hk' : listed.getD k false = false := hh k hk
            rw [hk'] at this
            cases this
      obtain ⟨rc, r', hf, hcov', htree', hvc⟩ := tree_pick h.tree hhead h.vc
      have hni : ∀ j, j ∈ pre.map Stp.ix → j ≠ i := fun j hj => by
        obtain ⟨x, hx, rfl⟩ := List.mem_map.1 hj; exact hf.new x hx
      have hslot : ∀ t, t ∈ tmpsOf ops o → (foldV ops vals ts0 (pre.map Stp.ix)).getD t uS = (foldV ops vals ts0 ((pre.map Stp.ix).filter (fun j => listed.getD j false))).getD t uS := by
        intro t ht
        refine (foldV_slot (fun j => listed.getD j false) (pre.map Stp.ix) ts0 ts0 rfl rfl (fun k hk hd => ?_)).symm
        obtain ⟨x, hx, rfl⟩ := List.mem_map.1 hk
        rcases hf.slots x hx with hA | hA
        · exact hanc _ hA
        · cases hox : ops[x.ix]? with
          | none => simp [dstOf, hox] at hd
          | some ox =>
            simp only [dstOf, hox, Option.bind_some] at hd
            exact absurd ht ((hA ox o hox ho').1 t hd)
      simp only [ho'] at hvc
      have next : ∀ (ρ' : Ren) (w' : World) (v : SV) (M' : List Blk), Ext ρ ρ' M.length → M.length ≤ M'.length → Sim G ρ' M' w' → v.lt M'.length = true →
          (∀ j tj vj oj, (j, tj, vj) ∈ pd → ops[j]? = some oj → opC P T oj.op tj M (fun v' M'' => v' = vj ∧ M'' = M) → (j ∈ rc ∨ memFree T oj.op = true) → opC P T oj.op tj M' (fun v' M'' => v' = vj ∧ M'' = M')) →
          drawC P T ops r' (putS (foldV ops vals ts0 (pre.map Stp.ix)) o.dst v) M' pd K → wpAny P .any ops.toArray Q fuel (listed.setIfInBounds i true) (a.put o.dst (den ρ' v)) w' := by
        intro ρ' w' v M' hx hle hs' hvl hrec hvc'
        have hv : ∀ l : List Nat, (∀ j, j ∈ l → j ≠ i) → foldV ops (fun k => if k = i then v else vals k) ts0 l = foldV ops vals ts0 l := fun l hl => foldV_vals l ts0 (fun j hj => if_neg (hl j hj))
        refine ih _ _ _ (pre ++ [.e i rc]) r' (fun k => if k = i then v else vals k) M' ρ' pd (by simp [hsz]) hcount ⟨path_snoc h.path hf, hcov', htree', hclosed', ?_, ?_, hs', ?_, (put_defers _ _ _).trans h.defers, ?_, ?_⟩
        · intro j hj
          simp only [hL'] at hj
          by_cases hji : j = i
          · exact ⟨.e i rc, by simp, by simp [Stp.ix, hji]⟩
          · rw [if_neg hji] at hj
            obtain ⟨x, hx, he⟩ := h.inside j hj
            exact ⟨x, by simp [hx], he⟩
        · intro x hx ha
          simp only [hL']
          rcases List.mem_append.1 hx with hx | hx
          · split
            · rfl
            · exact h.acted x hx ha
          · simp at hx; subst hx; simp [Stp.ix]
        · have e1 : ((pre ++ [Stp.e i rc]).map Stp.ix).filter (fun j => (listed.setIfInBounds i true).getD j false) = (pre.map Stp.ix).filter (fun j => listed.getD j false) ++ [i] := by
            have := filter_split (L := fun j => listed.getD j false) (L' := fun j => (listed.setIfInBounds i true).getD j false) (p1 := pre.map Stp.ix) (p2 := []) (i := i) hLi (by simp only [hL', if_true])
              (fun x hx => by simp only [hL']; rw [if_neg (hni x hx)]) (fun x hx => by cases hx)
            simpa [Stp.ix] using this.2
          rw [e1, foldV_append, hv _ (fun j hj => hni j (List.mem_filter.1 hj).1)]
          simp only [foldV, dstOf, ho', Option.bind_some, if_true]
          exact h.ts.put hx hle hvl o.dst
        · have e1 : (pre ++ [Stp.e i rc]).map Stp.ix = pre.map Stp.ix ++ [i] := by simp [Stp.ix]
          rw [e1, foldV_append, hv _ hni]
          simp only [foldV, dstOf, ho', Option.bind_some, if_true]
          exact hvc'
        · intro q1 j q2 hq oj hoj hLj
          rcases split_snoc hq with ⟨rfl, he⟩ | ⟨q, hj, _⟩
          · cases he
          · have hji : j ≠ i := hni j (by rw [hj]; simp [Stp.ix])
            have hmem : ∀ k, k ∈ q1.map Stp.ix → k ≠ i := fun k hk => hni k (by rw [hj]; simp at hk ⊢; exact .inl hk)
            simp only [hL', if_neg hji] at hLj
            rw [hv _ hmem, if_neg hji]
            rcases h.pend q1 j q hj oj hoj hLj with g | ⟨g1, g2, g3⟩
            · exact .inl g
            · refine .inr ⟨g1, hrec j _ _ oj g3 hoj g2 ?_, g3⟩
              rcases hf.again i rc rfl (.p j) (by rw [hj]; simp) with e | e | e | e
              · cases e
              · have := hanc _ e
                rw [show listed.getD (Stp.p j).ix false = false from hLj] at this
                cases this
              · exact .inl e
              · exact .inr (e oj hoj)
      refine hwp hslot hvc (fun hc' => ?_) (fun hB => ?_)
      · have hc3 := opC_ts (ts' := foldV ops vals ts0 ((pre.map Stp.ix).filter (fun j => listed.getD j false))) (fun x hx => evS_of_slot (fun t ht => hslot t (operands_tmps (ht ▸ hx)))) hc'
        exact opC_ok hT o hsid hc3 G ρ w a h.sim h.ts _ Q (fun ρ' v M' w' g1 g2 g3 g4 g5 => next ρ' w' v M' g1 g2 g3 g4 (fun j tj vj oj hm hoj hcj hor => by
          rcases hor with hor | hor
          · exact rcC_get g5.1 hm hor hoj
          · exact opC_free hor hcj) g5.2)
      · exact next ρ w uS M (Ext.refl _ _) (Nat.le_refl _) h.sim rfl (fun j tj vj oj _ _ hcj _ => hcj) hB
/-- A region that draws its order, by a plan. -/
theorem draw_rule (hT : TabOK P T) {bs : Nat} (hm : P.follows .mixedOrders = true) {id : Nat} {ops : List Oper} {ts : List SV} {M : List Blk} {Q : Exit → List SV → List Blk → Prop} (plan : Tr) (hside : ops.all (fun o => opSide P o.op) = true)
    (hplan : planOK T ops plan = true) (h : drawC P T ops plan ts M [] (Q .normal)) : DrawVC P bs id ops.toArray ts M Q := by
  intro G ρ w a hG hs ht hd R hR
  obtain ⟨hcov, htree⟩ := planOK_facts hplan
  have hrep : ∀ i, (Array.replicate ops.length false).getD i false = false := by
    intro i
    rcases Nat.lt_or_ge i ops.length with h | h <;> simp [h]
  refine wp_region_any hm (draw_any hT hside hcov htree (Q := R) (K := Q .normal) (G := G) (ts0 := ts) (fun ρ' ts' M' w' a' h1 h2 h3 h4 => hR _ ρ' ts' M' w' a' h1 h2 h3 h4) _ _ _ _ [] plan (fun _ => uS) M ρ [] (by simp) ?_ ⟨fun p1 x p2 hq => (by cases p1 <;> cases hq), hcov, htree, ?_, ?_, ?_, hs.drew, ht, hd, h, ?_⟩)
  · simp [hrep]
  · intro i o _ hL
    have hL' : (Array.replicate ops.length false).getD i false = true := hL
    rw [hrep i] at hL'; cases hL'
  · intro i hL
    have hL' : (Array.replicate ops.length false).getD i false = true := hL
    rw [hrep i] at hL'; cases hL'
  · intro x hx; cases hx
  · intro p1 i p2 hq; cases p1 <;> cases hq
end
end Go.Proofs.YtdkdbeamimkljaaGreatDoor.Eng
