/- The engine, part T: what simp runs by: a mark for what is to be run, and the equations under it. -/
import Derived.Test.YtbiolfeincepoaaGreatDoorEngS
namespace Go.Proofs.YtbiolfeincepoaaGreatDoor.Eng
open Go Go.RowKit
set_option linter.unusedSimpArgs false
set_option linter.unusedVariables false

/-- what is to be run -/
def Top (p : Prop) : Prop := p
theorem top_in {p : Prop} (h : Top p) : p := h
theorem top_out {p : Prop} : Top p = p := rfl
theorem T_and {a b : Prop} : Top (a ∧ b) = (Top a ∧ Top b) := rfl
theorem T_imp {a b : Prop} : Top (a → b) = (a → Top b) := rfl
theorem T_all {α : Type} {p : α → Prop} : Top (∀ x, p x) = (∀ x, Top (p x)) := rfl
theorem T_true : Top True = True := rfl
theorem T_false : Top False = False := rfl
theorem T_eq {α : Type} {a b : α} : Top (a = b) = (a = b) := rfl
theorem T_ne {α : Type} {a b : α} : Top (a ≠ b) = (a ≠ b) := rfl
theorem T_not {a : Prop} : Top (¬ a) = (¬ a) := rfl
theorem T_leN {a b : Nat} : Top (a ≤ b) = (a ≤ b) := rfl
theorem T_ltN {a b : Nat} : Top (a < b) = (a < b) := rfl
theorem T_leI {a b : Int} : Top (a ≤ b) = (a ≤ b) := rfl
theorem T_ltI {a b : Int} : Top (a < b) = (a < b) := rfl

/-- a guard: what is known of it goes into its slot -/
def gdS (d : Option Tmp) (y : SV) (w : Bool) (ts : List SV) (A B : List SV → Prop) : Prop :=
  match d, y with
  | some s, .b c => (c = w → A (ts.set s (.b w))) ∧ (c = !w → B (ts.set s (.b (!w))))
  | _, y => gdC y w (A ts) (B ts)
theorem set_same {ts : List SV} {s : Nat} {v : SV} (h : ts.getD s uS = v) (hv : v ≠ uS) : ts.set s v = ts := by
  by_cases hs : s < ts.length
  · rw [List.getD_eq_getElem?_getD, List.getElem?_eq_getElem hs] at h
    apply List.ext_getElem?
    intro i
    rw [List.getElem?_set]
    split
    · rename_i e; subst e; rw [List.getElem?_eq_getElem hs]; simpa using h.symm
    · rfl
  · exact absurd (by rw [← h, List.getD_eq_getElem?_getD, List.getElem?_eq_none (by omega)]; rfl) hv
theorem gdS_eq {ops : List Oper} {ts : List SV} {j : Nat} {w : Bool} {A B : List SV → Prop} : gdC (yS ops ts j) w (A ts) (B ts) = gdS ((ops[j]?).bind (·.dst)) (yS ops ts j) w ts A B := by
  unfold gdS yS
  cases (ops[j]?).bind (·.dst) with
  | none => rfl
  | some s =>
    simp only
    cases h : ts.getD s uS with
    | b c =>
      simp only
      have hs : ts.set s (.b c) = ts := set_same h (by simp [uS])
      cases w <;> cases c <;> simp [gdC, hs]
    | _ => rfl
/-- a choice: a known one is made before its arms are looked at -/
def gdZ (c w : Bool) (A B : Prop) : Prop := (c = w → A) ∧ (c = !w → B)
theorem T_gdS_b {s : Nat} {c w : Bool} {ts : List SV} {A B : List SV → Prop} : Top (gdS (some s) (.b c) w ts A B) = Top (gdZ c w (A (ts.set s (.b w))) (B (ts.set s (.b (!w))))) := rfl
theorem T_gdZ {c w : Bool} {A B : Prop} : Top (gdZ c w A B) = ((c = w → Top A) ∧ (c = !w → Top B)) := rfl
theorem L_gdZ_tt {A B : Prop} : Top (gdZ true true A B) = Top A := by simp [Top, gdZ]
theorem L_gdZ_tf {A B : Prop} : Top (gdZ true false A B) = Top B := by simp [Top, gdZ]
theorem L_gdZ_ft {A B : Prop} : Top (gdZ false true A B) = Top B := by simp [Top, gdZ]
theorem L_gdZ_ff {A B : Prop} : Top (gdZ false false A B) = Top A := by simp [Top, gdZ]
theorem T_condC_z {c : Bool} {A B : Prop} : Top (condC (.b c) A B) = Top (gdZ c true A B) := by cases c <;> simp [Top, condC, gdZ]
theorem T_pickC_z {c : Bool} {x y : SV} {K : SV → Prop} : Top (pickC (.b c) x y K) = Top (gdZ c true (K x) (K y)) := by cases c <;> simp [Top, pickC, gdZ]
theorem T_gdS_u {s : Nat} {w : Bool} {ts : List SV} {A B : List SV → Prop} : Top (gdS (some s) uS w ts A B) = Top (B ts) := congrArg Top (gdC_u (w := w) (A := A ts) (B := B ts))
section
variable {P : Program} {T : Tab}
theorem T_regC_nil {ops : List Oper} {ts : List SV} {M : List Blk} {K : List SV → List Blk → Prop} : Top (regC P T ops [] ts M K) = Top (K ts M) := rfl
theorem T_regC_plain {ops os : List Oper} {d : Option Tmp} {op : Op} {t : TypeId} {p : String} {af : Array Edge} {ts : List SV} {M : List Blk} {K : List SV → List Blk → Prop} :
    Top (regC P T ops ({ dst := d, op := op, type := t, pos := p, after := af, guard := none } :: os) ts M K) = Top (opC P T op ts M (fun v M' => regC P T ops os (putS ts d v) M' K)) := rfl
theorem T_regC_guard {ops os : List Oper} {d : Option Tmp} {op : Op} {t : TypeId} {p : String} {af : Array Edge} {j : Nat} {w : Bool} {ts : List SV} {M : List Blk} {K : List SV → List Blk → Prop} :
    Top (regC P T ops ({ dst := d, op := op, type := t, pos := p, after := af, guard := some (j, w) } :: os) ts M K) =
      Top (gdS ((ops[j]?).bind (·.dst)) (yS ops ts j) w ts (fun ts => opC P T op ts M (fun v M' => regC P T ops os (putS ts d v) M' K)) (fun ts => regC P T ops os (putS ts d uS) M K)) :=
  congrArg Top (gdS_eq (A := fun ts => opC P T op ts M (fun v M' => regC P T ops os (putS ts d v) M' K)) (B := fun ts => regC P T ops os (putS ts d uS) M K))
theorem T_drB_pg {ops : List Oper} {r : Tr} {ts : List SV} {M : List Blk} {pd : List Pend} {K : List SV → List Blk → Prop} {d : Option Tmp} {op : Op} {t : TypeId} {p : String} {af : Array Edge} {i j : Nat} {w : Bool} :
    Top (drB P T ops (.p i) (some { dst := d, op := op, type := t, pos := p, after := af, guard := some (j, w) }) r ts M pd K) =
      Top (gdS ((ops[j]?).bind (·.dst)) (yS ops ts j) w ts (fun ts => opC P T op ts M (fun v M' => drawC P T ops r (putS ts d v) M' ((i, ts, v) :: pd) K)) (fun ts => drawC P T ops r (putS ts d uS) M pd K)) :=
  congrArg Top (drB_pg.trans (gdS_eq (A := fun ts => opC P T op ts M (fun v M' => drawC P T ops r (putS ts d v) M' ((i, ts, v) :: pd) K)) (B := fun ts => drawC P T ops r (putS ts d uS) M pd K)))
theorem T_drB_eg {ops : List Oper} {r : Tr} {ts : List SV} {M : List Blk} {pd : List Pend} {K : List SV → List Blk → Prop} {d : Option Tmp} {op : Op} {t : TypeId} {p : String} {af : Array Edge} {i j : Nat} {rc : List Nat} {w : Bool} :
    Top (drB P T ops (.e i rc) (some { dst := d, op := op, type := t, pos := p, after := af, guard := some (j, w) }) r ts M pd K) =
      Top (gdS ((ops[j]?).bind (·.dst)) (yS ops ts j) w ts (fun ts => opC P T op ts M (fun v M' => rcC P T ops pd rc M' ∧ drawC P T ops r (putS ts d v) M' pd K)) (fun ts => drawC P T ops r (putS ts d uS) M pd K)) :=
  congrArg Top (drB_eg.trans (gdS_eq (A := fun ts => opC P T op ts M (fun v M' => rcC P T ops pd rc M' ∧ drawC P T ops r (putS ts d v) M' pd K)) (B := fun ts => drawC P T ops r (putS ts d uS) M pd K)))
end
theorem T_codeC_skip {P : Program} {T : Tab} {bs : Nat} {ts : List SV} {M : List Blk} {Q : Exit → List SV → List Blk → Prop} : Top (codeC P T bs .skip ts M Q) = Top (Q .normal ts M) := congrArg Top codeC_skip
theorem T_codeC_label {P : Program} {T : Tab} {bs : Nat} {ts : List SV} {M : List Blk} {Q : Exit → List SV → List Blk → Prop} {l : Nat} : Top (codeC P T bs (.label l) ts M Q) = Top (Q .normal ts M) := congrArg Top codeC_label
theorem T_codeC_region {P : Program} {T : Tab} {bs : Nat} {ts : List SV} {M : List Blk} {Q : Exit → List SV → List Blk → Prop} {id : Nat} {ops : List Oper} : Top (codeC P T bs (.region id ops.toArray false) ts M Q) = Top (regC P T ops ops ts M (Q .normal)) := congrArg Top codeC_region
theorem T_codeC_draw {P : Program} {T : Tab} {bs : Nat} {ts : List SV} {M : List Blk} {Q : Exit → List SV → List Blk → Prop} {id : Nat} {ops : Array Oper} : Top (codeC P T bs (.region id ops true) ts M Q) = Top (DrawVC P bs id ops ts M Q) := congrArg Top codeC_draw
theorem T_codeC_seq {P : Program} {T : Tab} {bs : Nat} {ts : List SV} {M : List Blk} {Q : Exit → List SV → List Blk → Prop} {a b : Code} : Top (codeC P T bs (.seq a b) ts M Q) = Top (codeC P T bs a ts M (thenC (fun ts M => codeC P T bs b ts M Q) Q)) := congrArg Top codeC_seq
theorem T_codeC_cond {P : Program} {T : Tab} {bs : Nat} {ts : List SV} {M : List Blk} {Q : Exit → List SV → List Blk → Prop} {c : Operand} {a b : Code} : Top (codeC P T bs (.cond c a b) ts M Q) = Top (condC (evS ts c) (codeC P T bs a ts M Q) (codeC P T bs b ts M Q)) := congrArg Top codeC_cond
theorem T_codeC_block {P : Program} {T : Tab} {bs : Nat} {ts : List SV} {M : List Blk} {Q : Exit → List SV → List Blk → Prop} {id : Nat} {c : Code} : Top (codeC P T bs (.block id c) ts M Q) = Top (codeC P T bs c ts M (blockC id Q)) := congrArg Top codeC_block
theorem T_codeC_loop {P : Program} {T : Tab} {bs : Nat} {ts : List SV} {M : List Blk} {Q : Exit → List SV → List Blk → Prop} {c : Code} : Top (codeC P T bs (.loop c) ts M Q) = Top (LoopVC P bs c ts M Q) := congrArg Top codeC_loop
theorem T_roundsC_succ {P : Program} {T : Tab} {bs : Nat} {ts : List SV} {M : List Blk} {Q : Exit → List SV → List Blk → Prop} {c : Code} {n : Nat} : Top (roundsC P T bs c Q (n + 1) ts M) = Top (codeC P T bs c ts M (thenC (fun ts M => roundsC P T bs c Q n ts M) Q)) := congrArg Top roundsC_succ
theorem T_codeC_exit {P : Program} {T : Tab} {bs : Nat} {ts : List SV} {M : List Blk} {Q : Exit → List SV → List Blk → Prop} {id : Nat} : Top (codeC P T bs (.exit id) ts M Q) = Top (Q (.exit id) ts M) := congrArg Top codeC_exit
theorem T_codeC_ret {P : Program} {T : Tab} {bs : Nat} {ts : List SV} {M : List Blk} {Q : Exit → List SV → List Blk → Prop} : Top (codeC P T bs .ret ts M Q) = Top (Q .ret ts M) := congrArg Top codeC_ret
theorem T_opC_move {P : Program} {T : Tab} {ts : List SV} {M : List Blk} {K : SV → List Blk → Prop} {x : Operand} : Top (opC P T (.move x) ts M K) = Top (K (evS ts x) M) := congrArg Top opC_move
theorem T_opC_assign {P : Program} {T : Tab} {ts : List SV} {M : List Blk} {K : SV → List Blk → Prop} {x : Operand} : Top (opC P T (.assign x) ts M K) = Top (K (evS ts x) M) := congrArg Top opC_assign
theorem T_opC_pick {P : Program} {T : Tab} {ts : List SV} {M : List Blk} {K : SV → List Blk → Prop} {c x y : Operand} : Top (opC P T (.pick c x y) ts M K) = Top (pickC (evS ts c) (evS ts x) (evS ts y) (fun v => K v M)) := congrArg Top opC_pick
theorem T_opC_alloc {P : Program} {T : Tab} {ts : List SV} {M : List Blk} {K : SV → List Blk → Prop} {t : TypeId} : Top (opC P T (.alloc t) ts M K) = Top (allocC T t M K) := congrArg Top opC_alloc
theorem T_opC_box {P : Program} {T : Tab} {ts : List SV} {M : List Blk} {K : SV → List Blk → Prop} {t : TypeId} {x : Operand} : Top (opC P T (.box t x) ts M K) = Top (boxC t (evS ts x) M K) := congrArg Top opC_box
theorem T_opC_build {P : Program} {T : Tab} {ts : List SV} {M : List Blk} {K : SV → List Blk → Prop} {t : TypeId} {ps : List (Nat × Operand)} : Top (opC P T (.build t ps.toArray) ts M K) = Top (buildC T t (ps.map fun x => (x.1, evS ts x.2)) (fun v => K v M)) := congrArg Top opC_build
theorem T_opC_buildSlice {P : Program} {T : Tab} {ts : List SV} {M : List Blk} {K : SV → List Blk → Prop} {t : TypeId} {n : Nat} {ps : List (Nat × Operand)} : Top (opC P T (.buildSlice t n ps.toArray) ts M K) = Top (bsC T t n (ps.map fun x => (x.1, evS ts x.2)) M K) := congrArg Top opC_buildSlice
theorem T_opC_s2a {P : Program} {T : Tab} {ts : List SV} {M : List Blk} {K : SV → List Blk → Prop} {t : TypeId} {x : Operand} : Top (opC P T (.sliceToArrayPointer t x) ts M K) = Top (apC T t (evS ts x) (fun v => K v M)) := congrArg Top opC_s2a
theorem T_opC_load {P : Program} {T : Tab} {ts : List SV} {M : List Blk} {K : SV → List Blk → Prop} {t : TypeId} {x : Operand} : Top (opC P T (.load t x) ts M K) = Top (loadC T t (evS ts x) M (fun v => K v M)) := congrArg Top opC_load
theorem T_opC_store {P : Program} {T : Tab} {ts : List SV} {M : List Blk} {K : SV → List Blk → Prop} {t : TypeId} {x y : Operand} : Top (opC P T (.store t x y) ts M K) = Top (storeC T t (evS ts x) (evS ts y) M (fun M' => K uS M')) := congrArg Top opC_store
theorem T_opC_nilCheck {P : Program} {T : Tab} {ts : List SV} {M : List Blk} {K : SV → List Blk → Prop} {x : Operand} : Top (opC P T (.nilCheck x) ts M K) = Top (nilC M (evS ts x) (fun v => K v M)) := congrArg Top opC_nilCheck
theorem T_opC_binOp {P : Program} {T : Tab} {ts : List SV} {M : List Blk} {K : SV → List Blk → Prop} {op : BinOp} {t u : TypeId} {x y : Operand} : Top (opC P T (.binOp op t x y u) ts M K) = Top (binC T M op t (evS ts x) (evS ts y) (fun v => K v M)) := congrArg Top opC_binOp
theorem T_opC_unOp {P : Program} {T : Tab} {ts : List SV} {M : List Blk} {K : SV → List Blk → Prop} {op : UnOp} {t : TypeId} {x : Operand} : Top (opC P T (.unOp op t x) ts M K) = Top (unC op (evS ts x) (fun v => K v M)) := congrArg Top opC_unOp
theorem T_opC_convert {P : Program} {T : Tab} {ts : List SV} {M : List Blk} {K : SV → List Blk → Prop} {s d : TypeId} {x : Operand} : Top (opC P T (.convert s d x) ts M K) = Top (convG T M s d (evS ts x) (fun v => K v M)) := congrArg Top opC_convert
theorem T_opC_slice {P : Program} {T : Tab} {ts : List SV} {M : List Blk} {K : SV → List Blk → Prop} {t : TypeId} {x : Operand} {lo hi mx : Option Operand} : Top (opC P T (.slice t x lo hi mx) ts M K) = Top (sliceC T M t (evS ts x) (lo.map (evS ts)) (hi.map (evS ts)) (mx.map (evS ts)) (fun v => K v M)) := congrArg Top opC_slice
theorem T_opC_fieldAddr {P : Program} {T : Tab} {ts : List SV} {M : List Blk} {K : SV → List Blk → Prop} {t : TypeId} {x : Operand} {f : Nat} : Top (opC P T (.fieldAddr t x f) ts M K) = Top (faC T M t (evS ts x) f (fun v => K v M)) := congrArg Top opC_fieldAddr
theorem T_opC_field {P : Program} {T : Tab} {ts : List SV} {M : List Blk} {K : SV → List Blk → Prop} {t : TypeId} {x : Operand} {f : Nat} : Top (opC P T (.field t x f) ts M K) = Top (fC T t (evS ts x) f (fun v => K v M)) := congrArg Top opC_field
theorem T_opC_indexAddr {P : Program} {T : Tab} {ts : List SV} {M : List Blk} {K : SV → List Blk → Prop} {t : TypeId} {x i : Operand} : Top (opC P T (.indexAddr t x i) ts M K) = Top (ixaC T M t (evS ts x) (evS ts i) (fun v => K v M)) := congrArg Top opC_indexAddr
theorem T_opC_index {P : Program} {T : Tab} {ts : List SV} {M : List Blk} {K : SV → List Blk → Prop} {t : TypeId} {x i : Operand} : Top (opC P T (.index t x i) ts M K) = Top (ixC T t (evS ts x) (evS ts i) (fun v => K v M)) := congrArg Top opC_index
theorem T_opC_extract {P : Program} {T : Tab} {ts : List SV} {M : List Blk} {K : SV → List Blk → Prop} {x : Operand} {i : Nat} : Top (opC P T (.extract x i) ts M K) = Top (extC (evS ts x) i (fun v => K v M)) := congrArg Top opC_extract
theorem T_opC_makeSlice {P : Program} {T : Tab} {ts : List SV} {M : List Blk} {K : SV → List Blk → Prop} {t : TypeId} {l c : Operand} : Top (opC P T (.makeSlice t l c) ts M K) = Top (makeC T t (evS ts l) (evS ts c) M K) := congrArg Top opC_makeSlice
theorem T_opC_makeFunc {P : Program} {T : Tab} {ts : List SV} {M : List Blk} {K : SV → List Blk → Prop} {f : Fn} {x c : List Operand} : Top (opC P T (.makeFunc f x.toArray c.toArray) ts M K) = Top (K (.fn f (x.map (evS ts)) (c.map (evS ts))) M) := congrArg Top opC_makeFunc
theorem T_opC_makeMap {P : Program} {T : Tab} {ts : List SV} {M : List Blk} {K : SV → List Blk → Prop} {t : TypeId} : Top (opC P T (.makeMap t none) ts M K) = Top (K (.mp M.length) (M ++ [.obj (.map [] 0)])) := congrArg Top opC_makeMap
theorem T_opC_lookup {P : Program} {T : Tab} {ts : List SV} {M : List Blk} {K : SV → List Blk → Prop} {t : TypeId} {x k : Operand} {b : Bool} : Top (opC P T (.lookup t x k b) ts M K) = Top (lookC T M t (evS ts x) (evS ts k) b (fun v => K v M)) := congrArg Top opC_lookup
theorem T_opC_mapUpdate {P : Program} {T : Tab} {ts : List SV} {M : List Blk} {K : SV → List Blk → Prop} {t : TypeId} {x k v : Operand} : Top (opC P T (.mapUpdate t x k v) ts M K) = Top (updC T M t (evS ts x) (evS ts k) (evS ts v) (fun M' => K uS M')) := congrArg Top opC_mapUpdate
theorem T_opC_range {P : Program} {T : Tab} {ts : List SV} {M : List Blk} {K : SV → List Blk → Prop} {t : TypeId} {x : Operand} : Top (opC P T (.range t x) ts M K) = Top (rangeC T M t (evS ts x) K) := congrArg Top opC_range
theorem T_opC_next {P : Program} {T : Tab} {ts : List SV} {M : List Blk} {K : SV → List Blk → Prop} {x : Operand} : Top (opC P T (.next x false) ts M K) = Top (nextC M (evS ts x) K) := congrArg Top opC_next
theorem T_opC_entry {P : Program} {T : Tab} {ts : List SV} {M : List Blk} {K : SV → List Blk → Prop} {x : Operand} : Top (opC P T (.entry x) ts M K) = Top (entryC M (evS ts x) (fun v => K v M)) := congrArg Top opC_entry
theorem T_opC_builtin {P : Program} {T : Tab} {ts : List SV} {M : List Blk} {K : SV → List Blk → Prop} {b : Builtin} {as : List Operand} {ats : List TypeId} : Top (opC P T (.call { callee := .builtin b, args := as.toArray, argTypes := ats.toArray }) ts M K) = Top (bltC T b ats (as.map (evS ts)) M K) := congrArg Top opC_builtin
theorem T_opC_call {P : Program} {T : Tab} {ts : List SV} {M : List Blk} {K : SV → List Blk → Prop} {f : Operand} {as : List Operand} {ats : Array TypeId} : Top (opC P T (.call { callee := .value f, args := as.toArray, argTypes := ats }) ts M K) = Top (fnC P (evS ts f) (as.map (evS ts)) M K) := congrArg Top opC_call
theorem T_lookC_mp {T : Tab} {M : List Blk} {t : TypeId} {n : Nat} {j : Int} {b : Bool} {K : SV → Prop} : Top (lookC T M t (.mp n) (.i .i64 j) b K) = Top (lookB T (T.k t) M[n]? j b K) := congrArg Top lookC_mp
theorem T_lookB_map {T : Tab} {e : TypeId} {es : List (Int × SV × Nat)} {c : Nat} {j : Int} {b : Bool} {K : SV → Prop} : Top (lookB T (.map e) (some (.obj (.map es c))) j b K) = Top (lookE T e (findE j es) b K) := congrArg Top lookB_map
theorem T_lookE_some {T : Tab} {e : TypeId} {v : SV} {b : Bool} {K : SV → Prop} : Top (lookE T e (some v) b K) = Top (K (okS b v true)) := congrArg Top lookE_some
theorem T_lookE_none {T : Tab} {e : TypeId} {b : Bool} {K : SV → Prop} : Top (lookE T e none b K) = Top (lookZ (T.k e) (T.z e) b K) := congrArg Top lookE_none
theorem T_lookZ_some {tk : TK} {z : List SV} {b : Bool} {K : SV → Prop} : Top (lookZ tk (some z) b K) = Top ((isAg tk = true ∧ K (okS b (.agg z) false))) := congrArg Top lookZ_some
theorem T_updC_mp {T : Tab} {M : List Blk} {t : TypeId} {n : Nat} {j : Int} {v : SV} {K : List Blk → Prop} : Top (updC T M t (.mp n) (.i .i64 j) v K) = Top (updB (T.k t) n M[n]? j v M K) := congrArg Top updC_mp
theorem T_updB_map {M : List Blk} {e n : Nat} {es : List (Int × SV × Nat)} {c : Nat} {j : Int} {v : SV} {K : List Blk → Prop} : Top (updB (.map e) n (some (.obj (.map es c))) j v M K) = Top ((findE j es = none ∧ K (M.set n (.obj (.map (es ++ [(j, v, c)]) (c + 1)))))) := congrArg Top updB_map
theorem T_delC_mp {T : Tab} {M : List Blk} {t : TypeId} {n : Nat} {j : Int} {K : List Blk → Prop} : Top (delC T M t (.mp n) (.i .i64 j) K) = Top (delB (T.k t) n M[n]? j M K) := congrArg Top delC_mp
theorem T_delB_map {M : List Blk} {e n : Nat} {es : List (Int × SV × Nat)} {c : Nat} {j : Int} {K : List Blk → Prop} : Top (delB (.map e) n (some (.obj (.map es c))) j M K) = Top (K (M.set n (.obj (.map (delE j es) c)))) := congrArg Top delB_map
theorem T_rangeC_mp {T : Tab} {M : List Blk} {t : TypeId} {n : Nat} {K : SV → List Blk → Prop} : Top (rangeC T M t (.mp n) K) = Top (rangeB (T.k t) n M[n]? M K) := congrArg Top rangeC_mp
theorem T_rangeB_map {M : List Blk} {e n : Nat} {es : List (Int × SV × Nat)} {c : Nat} {K : SV → List Blk → Prop} : Top (rangeB (.map e) n (some (.obj (.map es c))) M K) = Top (K (.p M.length 0) (M ++ [.obj (.it n c [] c)])) := congrArg Top rangeB_map
theorem T_nextC_p {M : List Blk} {r : Nat} {K : SV → List Blk → Prop} : Top (nextC M (.p r 0) K) = Top (nextB M r M[r]? K) := congrArg Top nextC_p
theorem T_nextB_it {M : List Blk} {r m since st : Nat} {seen : List Nat} {K : SV → List Blk → Prop} : Top (nextB M r (some (.obj (.it m since seen st))) K) = Top (nextD M r m since seen st M[m]? K) := congrArg Top nextB_it
theorem T_nextD_map {M : List Blk} {r m since st : Nat} {seen : List Nat} {es : List (Int × SV × Nat)} {c : Nat} {K : SV → List Blk → Prop} : Top (nextD M r m since seen st (some (.obj (.map es c))) K) = Top (((∀ e, e ∈ es → e.2.2 < since) ∧ since ≤ st ∧ ((∀ e, e ∈ es → e.2.2 ∈ seen) → K (.tup [.b false]) M) ∧ (∀ e, e ∈ es → e.2.2 ∉ seen → K (.tup [.b true, .i .i64 e.1, e.2.1]) (M.set r (.obj (.it m since (seen ++ [e.2.2]) c)))))) := congrArg Top nextD_map
theorem T_entryC_p {M : List Blk} {r : Nat} {K : SV → Prop} : Top (entryC M (.p r 0) K) = Top (entryB M M[r]? K) := congrArg Top entryC_p
theorem T_entryB_it {M : List Blk} {m since st : Nat} {seen : List Nat} {K : SV → Prop} : Top (entryB M (some (.obj (.it m since seen st))) K) = Top (entryG st seen M[m]? K) := congrArg Top entryB_it
theorem T_entryG_map {st : Nat} {seen : List Nat} {es : List (Int × SV × Nat)} {c : Nat} {K : SV → Prop} : Top (entryG st seen (some (.obj (.map es c))) K) = Top ((c = st ∧ entryD es seen.getLast? K)) := congrArg Top entryG_map
theorem T_entryD_some {es : List (Int × SV × Nat)} {s : Nat} {K : SV → Prop} : Top (entryD es (some s) K) = Top (entryF (es.find? (fun e => e.2.2 == s)) K) := congrArg Top entryD_some
theorem T_entryF_some {e : Int × SV × Nat} {K : SV → Prop} : Top (entryF (some e) K) = Top (K (.tup [.i .i64 e.1, e.2.1])) := congrArg Top entryF_some
theorem T_binC_u8u8 {T : Tab} {M : List Blk} {op : BinOp} {t : TypeId} {a b : BitVec 8} {K : SV → Prop} : Top (binC T M op t (.u8 a) (.u8 b) K) = Top (bvC op a b .u8 K) := congrArg Top binC_u8u8
theorem T_binC_u8i {T : Tab} {M : List Blk} {op : BinOp} {t : TypeId} {k : IntKind} {a : BitVec 8} {b : Int} {K : SV → Prop} : Top (binC T M op t (.u8 a) (.i k b) K) = Top ((0 ≤ b ∧ shC op a b.toNat .u8 K)) := congrArg Top binC_u8i
theorem T_binC_iu8 {T : Tab} {M : List Blk} {op : BinOp} {t : TypeId} {k : IntKind} {a : Int} {b : BitVec 8} {K : SV → Prop} : Top (binC T M op t (.i k a) (.u8 b) K) = Top (shI op k a b.toNat K) := congrArg Top binC_iu8
theorem T_binC_u8u32 {T : Tab} {M : List Blk} {op : BinOp} {t : TypeId} {a : BitVec 8} {b : BitVec 32} {K : SV → Prop} : Top (binC T M op t (.u8 a) (.u32 b) K) = Top (shC op a b.toNat .u8 K) := congrArg Top binC_u8u32
theorem T_binC_u8u64 {T : Tab} {M : List Blk} {op : BinOp} {t : TypeId} {a : BitVec 8} {b : BitVec 64} {K : SV → Prop} : Top (binC T M op t (.u8 a) (.u64 b) K) = Top (shC op a b.toNat .u8 K) := congrArg Top binC_u8u64
theorem T_binC_u32u32 {T : Tab} {M : List Blk} {op : BinOp} {t : TypeId} {a b : BitVec 32} {K : SV → Prop} : Top (binC T M op t (.u32 a) (.u32 b) K) = Top (bvC op a b .u32 K) := congrArg Top binC_u32u32
theorem T_binC_u32i {T : Tab} {M : List Blk} {op : BinOp} {t : TypeId} {k : IntKind} {a : BitVec 32} {b : Int} {K : SV → Prop} : Top (binC T M op t (.u32 a) (.i k b) K) = Top ((0 ≤ b ∧ shC op a b.toNat .u32 K)) := congrArg Top binC_u32i
theorem T_binC_iu32 {T : Tab} {M : List Blk} {op : BinOp} {t : TypeId} {k : IntKind} {a : Int} {b : BitVec 32} {K : SV → Prop} : Top (binC T M op t (.i k a) (.u32 b) K) = Top (shI op k a b.toNat K) := congrArg Top binC_iu32
theorem T_binC_u32u8 {T : Tab} {M : List Blk} {op : BinOp} {t : TypeId} {a : BitVec 32} {b : BitVec 8} {K : SV → Prop} : Top (binC T M op t (.u32 a) (.u8 b) K) = Top (shC op a b.toNat .u32 K) := congrArg Top binC_u32u8
theorem T_binC_u32u64 {T : Tab} {M : List Blk} {op : BinOp} {t : TypeId} {a : BitVec 32} {b : BitVec 64} {K : SV → Prop} : Top (binC T M op t (.u32 a) (.u64 b) K) = Top (shC op a b.toNat .u32 K) := congrArg Top binC_u32u64
theorem T_binC_u64u64 {T : Tab} {M : List Blk} {op : BinOp} {t : TypeId} {a b : BitVec 64} {K : SV → Prop} : Top (binC T M op t (.u64 a) (.u64 b) K) = Top (bvC op a b .u64 K) := congrArg Top binC_u64u64
theorem T_binC_u64i {T : Tab} {M : List Blk} {op : BinOp} {t : TypeId} {k : IntKind} {a : BitVec 64} {b : Int} {K : SV → Prop} : Top (binC T M op t (.u64 a) (.i k b) K) = Top ((0 ≤ b ∧ shC op a b.toNat .u64 K)) := congrArg Top binC_u64i
theorem T_binC_iu64 {T : Tab} {M : List Blk} {op : BinOp} {t : TypeId} {k : IntKind} {a : Int} {b : BitVec 64} {K : SV → Prop} : Top (binC T M op t (.i k a) (.u64 b) K) = Top (shI op k a b.toNat K) := congrArg Top binC_iu64
theorem T_binC_u64u8 {T : Tab} {M : List Blk} {op : BinOp} {t : TypeId} {a : BitVec 64} {b : BitVec 8} {K : SV → Prop} : Top (binC T M op t (.u64 a) (.u8 b) K) = Top (shC op a b.toNat .u64 K) := congrArg Top binC_u64u8
theorem T_binC_u64u32 {T : Tab} {M : List Blk} {op : BinOp} {t : TypeId} {a : BitVec 64} {b : BitVec 32} {K : SV → Prop} : Top (binC T M op t (.u64 a) (.u32 b) K) = Top (shC op a b.toNat .u64 K) := congrArg Top binC_u64u32
theorem T_binC_ii {T : Tab} {M : List Blk} {op : BinOp} {t : TypeId} {a b : Int} {K : SV → Prop} : Top (binC T M op t (.i .i64 a) (.i .i64 b) K) = Top (intC op .i64 a b K) := congrArg Top binC_ii
theorem T_binC_eql_b {T : Tab} {M : List Blk} {t : TypeId} {a b : Bool} {K : SV → Prop} : Top (binC T M .eql t (.b a) (.b b) K) = Top (eqC T M t (.b a) (.b b) (fun r => K (.b (r)))) := congrArg Top binC_eql_b
theorem T_binC_neq_b {T : Tab} {M : List Blk} {t : TypeId} {a b : Bool} {K : SV → Prop} : Top (binC T M .neq t (.b a) (.b b) K) = Top (eqC T M t (.b a) (.b b) (fun r => K (.b (!r)))) := congrArg Top binC_neq_b
theorem T_eqC_b {T : Tab} {M : List Blk} {t : TypeId} {a b : Bool} {K : Bool → Prop} : Top (eqC T M t (.b a) (.b b) K) = Top ((T.k t = .bool ∧ K (a == b))) := congrArg Top eqC_b
theorem T_binC_eql_pnpn {T : Tab} {M : List Blk} {t : TypeId}  {K : SV → Prop} : Top (binC T M .eql t (.pn) (.pn) K) = Top (eqC T M t (.pn) (.pn) (fun r => K (.b (r)))) := congrArg Top binC_eql_pnpn
theorem T_binC_neq_pnpn {T : Tab} {M : List Blk} {t : TypeId}  {K : SV → Prop} : Top (binC T M .neq t (.pn) (.pn) K) = Top (eqC T M t (.pn) (.pn) (fun r => K (.b (!r)))) := congrArg Top binC_neq_pnpn
theorem T_eqC_pnpn {T : Tab} {M : List Blk} {t : TypeId}  {K : Bool → Prop} : Top (eqC T M t (.pn) (.pn) K) = Top ((T.k t = .ptr ∧ K true)) := congrArg Top eqC_pnpn
theorem T_binC_eql_ppn {T : Tab} {M : List Blk} {t : TypeId} {n off : Nat} {K : SV → Prop} : Top (binC T M .eql t (.p n off) (.pn) K) = Top (eqC T M t (.p n off) (.pn) (fun r => K (.b (r)))) := congrArg Top binC_eql_ppn
theorem T_binC_neq_ppn {T : Tab} {M : List Blk} {t : TypeId} {n off : Nat} {K : SV → Prop} : Top (binC T M .neq t (.p n off) (.pn) K) = Top (eqC T M t (.p n off) (.pn) (fun r => K (.b (!r)))) := congrArg Top binC_neq_ppn
theorem T_eqC_ppn {T : Tab} {M : List Blk} {t : TypeId} {n off : Nat} {K : Bool → Prop} : Top (eqC T M t (.p n off) (.pn) K) = Top ((T.k t = .ptr ∧ liveN M n = true ∧ K false)) := congrArg Top eqC_ppn
theorem T_binC_eql_pnp {T : Tab} {M : List Blk} {t : TypeId} {n off : Nat} {K : SV → Prop} : Top (binC T M .eql t (.pn) (.p n off) K) = Top (eqC T M t (.pn) (.p n off) (fun r => K (.b (r)))) := congrArg Top binC_eql_pnp
theorem T_binC_neq_pnp {T : Tab} {M : List Blk} {t : TypeId} {n off : Nat} {K : SV → Prop} : Top (binC T M .neq t (.pn) (.p n off) K) = Top (eqC T M t (.pn) (.p n off) (fun r => K (.b (!r)))) := congrArg Top binC_neq_pnp
theorem T_eqC_pnp {T : Tab} {M : List Blk} {t : TypeId} {n off : Nat} {K : Bool → Prop} : Top (eqC T M t (.pn) (.p n off) K) = Top ((T.k t = .ptr ∧ liveN M n = true ∧ K false)) := congrArg Top eqC_pnp
theorem T_binC_eql_snsn {T : Tab} {M : List Blk} {t : TypeId}  {K : SV → Prop} : Top (binC T M .eql t (.sn) (.sn) K) = Top (eqC T M t (.sn) (.sn) (fun r => K (.b (r)))) := congrArg Top binC_eql_snsn
theorem T_binC_neq_snsn {T : Tab} {M : List Blk} {t : TypeId}  {K : SV → Prop} : Top (binC T M .neq t (.sn) (.sn) K) = Top (eqC T M t (.sn) (.sn) (fun r => K (.b (!r)))) := congrArg Top binC_neq_snsn
theorem T_eqC_snsn {T : Tab} {M : List Blk} {t : TypeId}  {K : Bool → Prop} : Top (eqC T M t (.sn) (.sn) K) = Top ((isSl (T.k t) = true ∧ K true)) := congrArg Top eqC_snsn
theorem T_binC_eql_slsn {T : Tab} {M : List Blk} {t : TypeId} {n off len cap : Nat} {K : SV → Prop} : Top (binC T M .eql t (.sl n off len cap) (.sn) K) = Top (eqC T M t (.sl n off len cap) (.sn) (fun r => K (.b (r)))) := congrArg Top binC_eql_slsn
theorem T_binC_neq_slsn {T : Tab} {M : List Blk} {t : TypeId} {n off len cap : Nat} {K : SV → Prop} : Top (binC T M .neq t (.sl n off len cap) (.sn) K) = Top (eqC T M t (.sl n off len cap) (.sn) (fun r => K (.b (!r)))) := congrArg Top binC_neq_slsn
theorem T_eqC_slsn {T : Tab} {M : List Blk} {t : TypeId} {n off len cap : Nat} {K : Bool → Prop} : Top (eqC T M t (.sl n off len cap) (.sn) K) = Top ((isSl (T.k t) = true ∧ liveN M n = true ∧ K false)) := congrArg Top eqC_slsn
theorem T_binC_eql_snsl {T : Tab} {M : List Blk} {t : TypeId} {n off len cap : Nat} {K : SV → Prop} : Top (binC T M .eql t (.sn) (.sl n off len cap) K) = Top (eqC T M t (.sn) (.sl n off len cap) (fun r => K (.b (r)))) := congrArg Top binC_eql_snsl
theorem T_binC_neq_snsl {T : Tab} {M : List Blk} {t : TypeId} {n off len cap : Nat} {K : SV → Prop} : Top (binC T M .neq t (.sn) (.sl n off len cap) K) = Top (eqC T M t (.sn) (.sl n off len cap) (fun r => K (.b (!r)))) := congrArg Top binC_neq_snsl
theorem T_eqC_snsl {T : Tab} {M : List Blk} {t : TypeId} {n off len cap : Nat} {K : Bool → Prop} : Top (eqC T M t (.sn) (.sl n off len cap) K) = Top ((isSl (T.k t) = true ∧ liveN M n = true ∧ K false)) := congrArg Top eqC_snsl
theorem T_binC_eql_rwsn {T : Tab} {M : List Blk} {t : TypeId} {a : Addr} {l c : Nat} {K : SV → Prop} : Top (binC T M .eql t (.raw (.slice (some a) l c)) (.sn) K) = Top (eqC T M t (.raw (.slice (some a) l c)) (.sn) (fun r => K (.b (r)))) := congrArg Top binC_eql_rwsn
theorem T_binC_neq_rwsn {T : Tab} {M : List Blk} {t : TypeId} {a : Addr} {l c : Nat} {K : SV → Prop} : Top (binC T M .neq t (.raw (.slice (some a) l c)) (.sn) K) = Top (eqC T M t (.raw (.slice (some a) l c)) (.sn) (fun r => K (.b (!r)))) := congrArg Top binC_neq_rwsn
theorem T_eqC_rwsn {T : Tab} {M : List Blk} {t : TypeId} {a : Addr} {l c : Nat} {K : Bool → Prop} : Top (eqC T M t (.raw (.slice (some a) l c)) (.sn) K) = Top ((isSl (T.k t) = true ∧ K false)) := congrArg Top eqC_rwsn
theorem T_binC_eql_agg {T : Tab} {M : List Blk} {t : TypeId} {xs ys : List SV} {K : SV → Prop} : Top (binC T M .eql t (.agg xs) (.agg ys) K) = Top (eqC T M t (.agg xs) (.agg ys) (fun r => K (.b (r)))) := congrArg Top binC_eql_agg
theorem T_binC_neq_agg {T : Tab} {M : List Blk} {t : TypeId} {xs ys : List SV} {K : SV → Prop} : Top (binC T M .neq t (.agg xs) (.agg ys) K) = Top (eqC T M t (.agg xs) (.agg ys) (fun r => K (.b (!r)))) := congrArg Top binC_neq_agg
theorem T_eqC_agg {T : Tab} {M : List Blk} {t : TypeId} {xs ys : List SV} {K : Bool → Prop} : Top (eqC T M t (.agg xs) (.agg ys) K) = Top (aggEq T t xs ys K) := congrArg Top eqC_agg
theorem T_gdC_t {b : Bool} {A B : Prop} : Top (gdC (.b b) true A B) = Top (((b = true → A) ∧ (b = false → B))) := congrArg Top gdC_t
theorem T_gdC_f {b : Bool} {A B : Prop} : Top (gdC (.b b) false A B) = Top (((b = false → A) ∧ (b = true → B))) := congrArg Top gdC_f
theorem T_gdC_u {w : Bool} {A B : Prop} : Top (gdC uS w A B) = Top (B) := congrArg Top gdC_u
theorem T_blockC_exit {id id' : Nat} {Q : Exit → List SV → List Blk → Prop} {ts : List SV} {M : List Blk} : Top (blockC id Q (.exit id') ts M) = Top ((if id' = id then Q .normal ts M else Q (.exit id') ts M)) := congrArg Top blockC_exit
theorem T_thenC_exit {id' : Nat} {n : List SV → List Blk → Prop} {Q : Exit → List SV → List Blk → Prop} {ts : List SV} {M : List Blk} : Top (thenC n Q (.exit id') ts M) = Top (Q (.exit id') ts M) := congrArg Top thenC_exit
theorem T_blockC_normal {id : Nat} {Q : Exit → List SV → List Blk → Prop} {ts : List SV} {M : List Blk} : Top (blockC id Q .normal ts M) = Top (Q .normal ts M) := congrArg Top blockC_normal
theorem T_blockC_ret {id : Nat} {Q : Exit → List SV → List Blk → Prop} {ts : List SV} {M : List Blk} : Top (blockC id Q .ret ts M) = Top (Q .ret ts M) := congrArg Top blockC_ret
theorem T_thenC_normal {n : List SV → List Blk → Prop} {Q : Exit → List SV → List Blk → Prop} {ts : List SV} {M : List Blk} : Top (thenC n Q .normal ts M) = Top (n ts M) := congrArg Top thenC_normal
theorem T_thenC_ret {n : List SV → List Blk → Prop} {Q : Exit → List SV → List Blk → Prop} {ts : List SV} {M : List Blk} : Top (thenC n Q .ret ts M) = Top (Q .ret ts M) := congrArg Top thenC_ret
theorem T_cellC_u8 {cs : List SV} {j : Nat} {K : SV → Prop} : Top (cellC (.int .u8) cs j K) = Top ((is8 cs j = true ∧ K (.u8 (cell8 cs j)))) := congrArg Top cellC_u8
theorem T_cellC_u32 {cs : List SV} {j : Nat} {K : SV → Prop} : Top (cellC (.int .u32) cs j K) = Top ((is32 cs j = true ∧ K (.u32 (cell32 cs j)))) := congrArg Top cellC_u32
theorem T_cellC_u64 {cs : List SV} {j : Nat} {K : SV → Prop} : Top (cellC (.int .u64) cs j K) = Top ((is64 cs j = true ∧ K (.u64 (cell64 cs j)))) := congrArg Top cellC_u64
theorem T_cellC_i64 {cs : List SV} {j : Nat} {K : SV → Prop} : Top (cellC (.int .i64) cs j K) = Top ((isI .i64 cs j = true ∧ K (.i .i64 (cellI cs j)))) := congrArg Top cellC_i64
theorem T_cellC_arr {n e esz sz : Nat} {cs : List SV} {j : Nat} {K : SV → Prop} : Top (cellC (.arr n e esz sz) cs j K) = Top ((0 < sz ∧ j + sz ≤ cs.length ∧ K (.agg ((cs.drop j).take sz)))) := congrArg Top cellC_arr
theorem T_cellC_struct {sz : Nat} {cs : List SV} {j : Nat} {K : SV → Prop} : Top (cellC (.struct sz) cs j K) = Top ((0 < sz ∧ j + sz ≤ cs.length ∧ K (.agg ((cs.drop j).take sz)))) := congrArg Top cellC_struct
theorem T_cellC_bool {cs : List SV} {j : Nat} {K : SV → Prop} : Top (cellC .bool cs j K) = Top ((j < cs.length ∧ K (cs.getD j uS))) := congrArg Top cellC_bool
theorem T_storeB_bool {n off : Nat} {v : SV} {M : List Blk} {cs : List SV} {ty : TypeId} {K : List Blk → Prop} : Top (storeB .bool n off v M (some (.row cs ty)) K) = Top ((v.one = true ∧ off < cs.length ∧ K (M.set n (.row (cs.set off v) ty)))) := congrArg Top storeB_bool
theorem T_cellC_str {cs : List SV} {j : Nat} {K : SV → Prop} : Top (cellC .str cs j K) = Top ((j < cs.length ∧ K (cs.getD j uS))) := congrArg Top cellC_str
theorem T_storeB_str {n off : Nat} {v : SV} {M : List Blk} {cs : List SV} {ty : TypeId} {K : List Blk → Prop} : Top (storeB .str n off v M (some (.row cs ty)) K) = Top ((v.one = true ∧ off < cs.length ∧ K (M.set n (.row (cs.set off v) ty)))) := congrArg Top storeB_str
theorem T_cellC_ptr {cs : List SV} {j : Nat} {K : SV → Prop} : Top (cellC .ptr cs j K) = Top ((j < cs.length ∧ K (cs.getD j uS))) := congrArg Top cellC_ptr
theorem T_storeB_ptr {n off : Nat} {v : SV} {M : List Blk} {cs : List SV} {ty : TypeId} {K : List Blk → Prop} : Top (storeB .ptr n off v M (some (.row cs ty)) K) = Top ((v.one = true ∧ off < cs.length ∧ K (M.set n (.row (cs.set off v) ty)))) := congrArg Top storeB_ptr
theorem T_cellC_func {cs : List SV} {j : Nat} {K : SV → Prop} : Top (cellC .func cs j K) = Top ((j < cs.length ∧ K (cs.getD j uS))) := congrArg Top cellC_func
theorem T_storeB_func {n off : Nat} {v : SV} {M : List Blk} {cs : List SV} {ty : TypeId} {K : List Blk → Prop} : Top (storeB .func n off v M (some (.row cs ty)) K) = Top ((v.one = true ∧ off < cs.length ∧ K (M.set n (.row (cs.set off v) ty)))) := congrArg Top storeB_func
theorem T_cellC_iface {cs : List SV} {j : Nat} {K : SV → Prop} : Top (cellC .iface cs j K) = Top ((j < cs.length ∧ K (cs.getD j uS))) := congrArg Top cellC_iface
theorem T_storeB_iface {n off : Nat} {v : SV} {M : List Blk} {cs : List SV} {ty : TypeId} {K : List Blk → Prop} : Top (storeB .iface n off v M (some (.row cs ty)) K) = Top ((v.one = true ∧ off < cs.length ∧ K (M.set n (.row (cs.set off v) ty)))) := congrArg Top storeB_iface
theorem T_cellC_map {e : Nat} {cs : List SV} {j : Nat} {K : SV → Prop} : Top (cellC (.map e) cs j K) = Top ((j < cs.length ∧ K (cs.getD j uS))) := congrArg Top cellC_map
theorem T_storeB_map {e n off : Nat} {v : SV} {M : List Blk} {cs : List SV} {ty : TypeId} {K : List Blk → Prop} : Top (storeB (.map e) n off v M (some (.row cs ty)) K) = Top ((v.one = true ∧ off < cs.length ∧ K (M.set n (.row (cs.set off v) ty)))) := congrArg Top storeB_map
theorem T_cellC_slice {e a b : Nat} {cs : List SV} {j : Nat} {K : SV → Prop} : Top (cellC (.slice e a b) cs j K) = Top ((j < cs.length ∧ K (cs.getD j uS))) := congrArg Top cellC_slice
theorem T_storeB_slice {e a b n off : Nat} {v : SV} {M : List Blk} {cs : List SV} {ty : TypeId} {K : List Blk → Prop} : Top (storeB (.slice e a b) n off v M (some (.row cs ty)) K) = Top ((v.one = true ∧ off < cs.length ∧ K (M.set n (.row (cs.set off v) ty)))) := congrArg Top storeB_slice
theorem T_storeB_int {k : IntKind} {n off : Nat} {v : SV} {M : List Blk} {cs : List SV} {ty : TypeId} {K : List Blk → Prop} : Top (storeB (.int k) n off v M (some (.row cs ty)) K) = Top ((v.one = true ∧ off < cs.length ∧ K (M.set n (.row (cs.set off v) ty)))) := congrArg Top storeB_int
theorem T_storeB_arr {m e esz sz n off : Nat} {vs : List SV} {M : List Blk} {cs : List SV} {ty : TypeId} {K : List Blk → Prop} : Top (storeB (.arr m e esz sz) n off (.agg vs) M (some (.row cs ty)) K) = Top ((0 < sz ∧ vs.length = sz ∧ vs.all SV.one = true ∧ off + sz ≤ cs.length ∧ K (M.set n (.row (splice cs off vs) ty)))) := congrArg Top storeB_arr
theorem T_storeB_struct {sz n off : Nat} {vs : List SV} {M : List Blk} {cs : List SV} {ty : TypeId} {K : List Blk → Prop} : Top (storeB (.struct sz) n off (.agg vs) M (some (.row cs ty)) K) = Top ((0 < sz ∧ vs.length = sz ∧ vs.all SV.one = true ∧ off + sz ≤ cs.length ∧ K (M.set n (.row (splice cs off vs) ty)))) := congrArg Top storeB_struct
theorem T_loadC_p {T : Tab} {t : TypeId} {n off : Nat} {M : List Blk} {K : SV → Prop} : Top (loadC T t (.p n off) M K) = Top (cellC (T.k t) (cellsAt M n) off K) := congrArg Top loadC_p
theorem T_storeC_p {T : Tab} {t : TypeId} {n off : Nat} {v : SV} {M : List Blk} {K : List Blk → Prop} : Top (storeC T t (.p n off) v M K) = Top (storeB (T.k t) n off v M M[n]? K) := congrArg Top storeC_p
theorem T_allocC_eq {T : Tab} {t : TypeId} {M : List Blk} {K : SV → List Blk → Prop} : Top (allocC T t M K) = Top (allocB (T.z t) t M K) := congrArg Top allocC_eq
theorem T_allocB_some {cs : List SV} {t : TypeId} {M : List Blk} {K : SV → List Blk → Prop} : Top (allocB (some cs) t M K) = Top (K (.p M.length 0) (M ++ [.row cs t])) := congrArg Top allocB_some
theorem T_boxC_eq {t : TypeId} {x : SV} {M : List Blk} {K : SV → List Blk → Prop} : Top (boxC t x M K) = Top (((cellsS x).all SV.one = true ∧ K (.p M.length 0) (M ++ [.row (cellsS x) t]))) := congrArg Top boxC_eq
theorem T_ixaC_eq {T : Tab} {M : List Blk} {t : TypeId} {x i : SV} {K : SV → Prop} : Top (ixaC T M t x i K) = Top (ixaB (T.k t) M x (ixOf i) K) := congrArg Top ixaC_eq
theorem T_ixaB_arr {M : List Blk} {n e esz sz nm off : Nat} {j : Int} {K : SV → Prop} : Top (ixaB (.arr n e esz sz) M (.p nm off) (some j) K) = Top ((0 ≤ j ∧ j < n ∧ 0 < esz ∧ off + (j.toNat + 1) * esz ≤ (cellsAt M nm).length ∧ K (.p nm (off + j.toNat * esz)))) := congrArg Top ixaB_arr
theorem T_ixaB_sl {M : List Blk} {e esz eby nm off len cap : Nat} {j : Int} {K : SV → Prop} : Top (ixaB (.slice e esz eby) M (.sl nm off len cap) (some j) K) = Top ((0 ≤ j ∧ j < len ∧ 0 < esz ∧ off + (j.toNat + 1) * esz ≤ (cellsAt M nm).length ∧ K (.p nm (off + j.toNat * esz)))) := congrArg Top ixaB_sl
theorem T_ixC_eq {T : Tab} {t : TypeId} {x i : SV} {K : SV → Prop} : Top (ixC T t x i K) = Top (ixB T (T.k t) x (ixOf i) K) := congrArg Top ixC_eq
theorem T_ixB_arr {T : Tab} {n e esz sz : Nat} {l : List SV} {j : Int} {K : SV → Prop} : Top (ixB T (.arr n e esz sz) (.agg l) (some j) K) = Top ((0 ≤ j ∧ j < n ∧ cellC (T.k e) l (j.toNat * esz) K)) := congrArg Top ixB_arr
theorem T_ixB_str {T : Tab} {s : ByteArray} {j : Int} {K : SV → Prop} : Top (ixB T .str (.str s) (some j) K) = Top ((0 ≤ j ∧ j < s.size ∧ K (.u8 (s.get! j.toNat).toBitVec))) := congrArg Top ixB_str
theorem T_faC_eq {T : Tab} {M : List Blk} {s : TypeId} {x : SV} {f : Nat} {K : SV → Prop} : Top (faC T M s x f K) = Top (faB (T.f s f) M x K) := congrArg Top faC_eq
theorem T_faB_p {M : List Blk} {fo sz ft n off : Nat} {K : SV → Prop} : Top (faB (some (fo, sz, ft)) M (.p n off) K) = Top ((off + fo + sz ≤ (cellsAt M n).length ∧ K (.p n (off + fo)))) := congrArg Top faB_p
theorem T_fC_eq {T : Tab} {s : TypeId} {x : SV} {f : Nat} {K : SV → Prop} : Top (fC T s x f K) = Top (fB T (T.f s f) x K) := congrArg Top fC_eq
theorem T_fB_agg {T : Tab} {fo sz ft : Nat} {l : List SV} {K : SV → Prop} : Top (fB T (some (fo, sz, ft)) (.agg l) K) = Top (cellC (T.k ft) l fo K) := congrArg Top fB_agg
theorem T_nilC_p {M : List Blk} {n off : Nat} {K : SV → Prop} : Top (nilC M (.p n off) K) = Top ((liveN M n = true ∧ K (.p n off))) := congrArg Top nilC_p
theorem T_nilC_fn {M : List Blk} {f : FuncId} {a c : List SV} {K : SV → Prop} : Top (nilC M (.fn (.func f) a c) K) = Top (K (.fn (.func f) a c)) := congrArg Top nilC_fn
theorem T_convG_eq {T : Tab} {M : List Blk} {s d : TypeId} {x : SV} {K : SV → Prop} : Top (convG T M s d x K) = Top (convH T M (T.k s) (T.k d) x K) := congrArg Top convG_eq
theorem T_convH_int {T : Tab} {M : List Blk} {tk : TK} {k : IntKind} {x : SV} {K : SV → Prop} : Top (convH T M tk (.int k) x K) = Top (convB (.int k) x K) := congrArg Top convH_int
theorem T_convH_ss {T : Tab} {M : List Blk} {tk : TK} {a : ByteArray} {K : SV → Prop} : Top (convH T M tk .str (.str a) K) = Top (K (.str a)) := congrArg Top convH_ss
theorem T_binC_str {T : Tab} {M : List Blk} {op : BinOp} {t : TypeId} {a b : ByteArray} {K : SV → Prop} : Top (binC T M op t (.str a) (.str b) K) = Top (strE op a b K) := congrArg Top binC_str
theorem T_strE_eql {a b : ByteArray} {K : SV → Prop} : Top (strE .eql a b K) = Top (K (.b (a.toList == b.toList))) := congrArg Top strE_eql
theorem T_strE_neq {a b : ByteArray} {K : SV → Prop} : Top (strE .neq a b K) = Top (K (.b (a.toList != b.toList))) := congrArg Top strE_neq
theorem T_convC_eq {T : Tab} {d : TypeId} {x : SV} {K : SV → Prop} : Top (convC T d x K) = Top (convB (T.k d) x K) := congrArg Top convC_eq
theorem T_convB_u8_i {k : IntKind} {a : Int} {K : SV → Prop} : Top (convB (.int .u8) (.i k a) K) = Top (K (.u8 (BitVec.ofInt 8 a))) := congrArg Top convB_u8_i
theorem T_convB_u8_u8 {a : BitVec 8} {K : SV → Prop} : Top (convB (.int .u8) (.u8 a) K) = Top (K (.u8 a)) := congrArg Top convB_u8_u8
theorem T_convB_u8_u32 {a : BitVec 32} {K : SV → Prop} : Top (convB (.int .u8) (.u32 a) K) = Top (K (.u8 (a.setWidth 8))) := congrArg Top convB_u8_u32
theorem T_convB_u8_u64 {a : BitVec 64} {K : SV → Prop} : Top (convB (.int .u8) (.u64 a) K) = Top (K (.u8 (a.setWidth 8))) := congrArg Top convB_u8_u64
theorem T_convB_u32_i {k : IntKind} {a : Int} {K : SV → Prop} : Top (convB (.int .u32) (.i k a) K) = Top (K (.u32 (BitVec.ofInt 32 a))) := congrArg Top convB_u32_i
theorem T_convB_u32_u8 {a : BitVec 8} {K : SV → Prop} : Top (convB (.int .u32) (.u8 a) K) = Top (K (.u32 (a.setWidth 32))) := congrArg Top convB_u32_u8
theorem T_convB_u32_u32 {a : BitVec 32} {K : SV → Prop} : Top (convB (.int .u32) (.u32 a) K) = Top (K (.u32 a)) := congrArg Top convB_u32_u32
theorem T_convB_u32_u64 {a : BitVec 64} {K : SV → Prop} : Top (convB (.int .u32) (.u64 a) K) = Top (K (.u32 (a.setWidth 32))) := congrArg Top convB_u32_u64
theorem T_convB_u64_i {k : IntKind} {a : Int} {K : SV → Prop} : Top (convB (.int .u64) (.i k a) K) = Top (K (.u64 (BitVec.ofInt 64 a))) := congrArg Top convB_u64_i
theorem T_convB_u64_u8 {a : BitVec 8} {K : SV → Prop} : Top (convB (.int .u64) (.u8 a) K) = Top (K (.u64 (a.setWidth 64))) := congrArg Top convB_u64_u8
theorem T_convB_u64_u32 {a : BitVec 32} {K : SV → Prop} : Top (convB (.int .u64) (.u32 a) K) = Top (K (.u64 (a.setWidth 64))) := congrArg Top convB_u64_u32
theorem T_convB_u64_u64 {a : BitVec 64} {K : SV → Prop} : Top (convB (.int .u64) (.u64 a) K) = Top (K (.u64 a)) := congrArg Top convB_u64_u64
theorem T_convB_i64_u8 {a : BitVec 8} {K : SV → Prop} : Top (convB (.int .i64) (.u8 a) K) = Top (K (.i .i64 a.toNat)) := congrArg Top convB_i64_u8
theorem T_convB_i64_u32 {a : BitVec 32} {K : SV → Prop} : Top (convB (.int .i64) (.u32 a) K) = Top (K (.i .i64 a.toNat)) := congrArg Top convB_i64_u32
theorem T_convB_i64_u64 {a : BitVec 64} {K : SV → Prop} : Top (convB (.int .i64) (.u64 a) K) = Top (K (.i .i64 (IntKind.i64.wrap a.toNat))) := congrArg Top convB_i64_u64
theorem T_convB_i64_i {k : IntKind} {a : Int} {K : SV → Prop} : Top (convB (.int .i64) (.i k a) K) = Top (K (.i .i64 (IntKind.i64.wrap a))) := congrArg Top convB_i64_i
theorem T_convB_str {s : ByteArray} {K : SV → Prop} : Top (convB .str (.str s) K) = Top (K (.str s)) := congrArg Top convB_str
theorem T_unC_not {a : Bool} {K : SV → Prop} : Top (unC .not (.b a) K) = Top (K (.b (!a))) := congrArg Top unC_not
theorem T_unC_neg {k : IntKind} {a : Int} {K : SV → Prop} : Top (unC .neg (.i k a) K) = Top (K (.i k (k.wrap (0 - a)))) := congrArg Top unC_neg
theorem T_unC_xor_u8 {a : BitVec 8} {K : SV → Prop} : Top (unC .xor (.u8 a) K) = Top (K (.u8 (~~~a))) := congrArg Top unC_xor_u8
theorem T_unC_xor_u32 {a : BitVec 32} {K : SV → Prop} : Top (unC .xor (.u32 a) K) = Top (K (.u32 (~~~a))) := congrArg Top unC_xor_u32
theorem T_unC_xor_u64 {a : BitVec 64} {K : SV → Prop} : Top (unC .xor (.u64 a) K) = Top (K (.u64 (~~~a))) := congrArg Top unC_xor_u64
theorem T_extC_tup {l : List SV} {i : Nat} {K : SV → Prop} : Top (extC (.tup l) i K) = Top (extB l[i]? K) := congrArg Top extC_tup
theorem T_extB_some {v : SV} {K : SV → Prop} : Top (extB (some v) K) = Top (K v) := congrArg Top extB_some
theorem T_aggEq_eq {T : Tab} {t : TypeId} {xs ys : List SV} {K : Bool → Prop} : Top (aggEq T t xs ys K) = Top (aggB T (T.k t) (T.eqp.getD t false) (T.eqk.getD t none) xs ys K) := congrArg Top aggEq_eq
theorem T_aggB_arr {T : Tab} {n e esz sz : Nat} {g : Bool} {q : Option (List IntKind)} {xs ys : List SV} {K : Bool → Prop} : Top (aggB T (.arr n e esz sz) g q xs ys K) = Top (aggI (T.k e) n esz g xs ys K) := congrArg Top aggB_arr
theorem T_aggB_struct {T : Tab} {sz : Nat} {g : Bool} {q : Option (List IntKind)} {xs ys : List SV} {K : Bool → Prop} : Top (aggB T (.struct sz) g q xs ys K) = Top (aggQ g q xs ys K) := congrArg Top aggB_struct
theorem T_aggQ_some {g : Bool} {ks : List IntKind} {xs ys : List SV} {K : Bool → Prop} : Top (aggQ g (some ks) xs ys K) = Top ((g = true ∧ oks ks xs = true ∧ oks ks ys = true ∧ K (eqL xs ys))) := congrArg Top aggQ_some
theorem T_aggI_int {k : IntKind} {n esz : Nat} {g : Bool} {xs ys : List SV} {K : Bool → Prop} : Top (aggI (.int k) n esz g xs ys K) = Top ((esz = 1 ∧ g = true ∧ xs.length = n ∧ ys.length = n ∧ xs.all (ofK k) = true ∧ ys.all (ofK k) = true ∧ K (eqL xs ys))) := congrArg Top aggI_int
theorem T_buildC_eq {T : Tab} {t : TypeId} {ps : List (Nat × SV)} {K : SV → Prop} : Top (buildC T t ps K) = Top (buildB T t (T.z t) (T.k t) ps K) := congrArg Top buildC_eq
theorem T_buildB_arr {T : Tab} {t n e esz sz : Nat} {z : List SV} {ps : List (Nat × SV)} {K : SV → Prop} : Top (buildB T t (some z) (.arr n e esz sz) ps K) = Top (aggO (fillS (fun i => some (i * esz, esz)) z ps) K) := congrArg Top buildB_arr
theorem T_buildB_struct {T : Tab} {t sz : Nat} {z : List SV} {ps : List (Nat × SV)} {K : SV → Prop} : Top (buildB T t (some z) (.struct sz) ps K) = Top (aggO (fillS (fun i => (T.f t i).map fun x => (x.1, x.2.1)) z ps) K) := congrArg Top buildB_struct
theorem T_aggO_some {l : List SV} {K : SV → Prop} : Top (aggO (some l) K) = Top (K (.agg l)) := congrArg Top aggO_some
theorem T_fnC_fn {P : Program} {f : FuncId} {a c as : List SV} {M : List Blk} {K : SV → List Blk → Prop} : Top (fnC P (.fn (.func f) a c) as M K) = Top (callVC P f (a ++ as ++ c) M K) := congrArg Top fnC_fn
theorem T_bndC_none {d y : Nat} {K : Nat → Prop} : Top (bndC none d y K) = Top (K d) := congrArg Top bndC_none
theorem T_bndC_some {v : SV} {d y : Nat} {K : Nat → Prop} : Top (bndC (some v) d y K) = Top (bndB (ixOf v) y K) := congrArg Top bndC_some
theorem T_bndB_some {j : Int} {y : Nat} {K : Nat → Prop} : Top (bndB (some j) y K) = Top ((0 ≤ j ∧ j ≤ y ∧ K j.toNat)) := congrArg Top bndB_some
theorem T_bnds_nn {len cap : Nat} {lo : Option SV} {K : Nat → Nat → Nat → Prop} : Top (bnds len cap lo none none K) = Top (bndC lo 0 len fun l => K l len cap) := congrArg Top bnds_nn
theorem T_bnds_sn {len cap : Nat} {lo : Option SV} {hi : SV} {K : Nat → Nat → Nat → Prop} : Top (bnds len cap lo (some hi) none K) = Top (bndC (some hi) len cap fun h => bndC lo 0 h fun l => K l h cap) := congrArg Top bnds_sn
theorem T_bnds_ss {len cap : Nat} {lo : Option SV} {hi mx : SV} {K : Nat → Nat → Nat → Prop} : Top (bnds len cap lo (some hi) (some mx) K) = Top (bndC (some mx) cap cap fun m => bndC (some hi) len m fun h => bndC lo 0 h fun l => K l h m) := congrArg Top bnds_ss
theorem T_sliceC_eq {T : Tab} {M : List Blk} {t : TypeId} {x : SV} {lo hi mx : Option SV} {K : SV → Prop} : Top (sliceC T M t x lo hi mx K) = Top (sliceB (T.k t) M x lo hi mx K) := congrArg Top sliceC_eq
theorem T_sliceB_arr {n e esz sz nm off : Nat} {M : List Blk} {lo hi mx : Option SV} {K : SV → Prop} : Top (sliceB (.arr n e esz sz) M (.p nm off) lo hi mx K) = Top ((liveN M nm = true ∧ bnds n n lo hi mx fun l h m => K (.sl nm (if m = l then off else off + l * esz) (h - l) (m - l)))) := congrArg Top sliceB_arr
theorem T_sliceB_sl {e esz eby nm off len cap : Nat} {M : List Blk} {lo hi mx : Option SV} {K : SV → Prop} : Top (sliceB (.slice e esz eby) M (.sl nm off len cap) lo hi mx K) = Top ((bnds len cap lo hi mx fun l h m => K (.sl nm (if m = l then off else off + l * esz) (h - l) (m - l)))) := congrArg Top sliceB_sl
theorem T_sliceB_sn {e esz eby : Nat} {M : List Blk} {lo hi mx : Option SV} {K : SV → Prop} : Top (sliceB (.slice e esz eby) M .sn lo hi mx K) = Top ((bnds 0 0 lo hi mx fun _ _ _ => K .sn)) := congrArg Top sliceB_sn
theorem T_bsC_eq {T : Tab} {t : TypeId} {n : Nat} {ps : List (Nat × SV)} {M : List Blk} {K : SV → List Blk → Prop} : Top (bsC T t n ps M K) = Top (bsB T (T.k t) n ps M K) := congrArg Top bsC_eq
theorem T_bsB_sl {T : Tab} {e esz eby n : Nat} {ps : List (Nat × SV)} {M : List Blk} {K : SV → List Blk → Prop} : Top (bsB T (.slice e esz eby) n ps M K) = Top ((0 < esz ∧ n * esz ≤ 2 ^ 24 ∧ bsD (T.z e) e esz n (idxP 0 n ps) ps M K)) := congrArg Top bsB_sl
theorem T_bsD_t {z : List SV} {e esz n : Nat} {ps : List (Nat × SV)} {M : List Blk} {K : SV → List Blk → Prop} : Top (bsD (some z) e esz n true ps M K) = Top ((partsOK esz ps ∧ K (.sl M.length 0 n n) (M ++ [.row (catS ps) e]))) := congrArg Top bsD_t
theorem T_partsOK_nil {e : Nat} : Top (partsOK e []) = Top (True) := congrArg Top partsOK_nil
theorem T_partsOK_cons {e i : Nat} {v : SV} {r : List (Nat × SV)} : Top (partsOK e ((i, v) :: r)) = Top (((cellsS v).length = e ∧ (cellsS v).all SV.one = true ∧ partsOK e r)) := congrArg Top partsOK_cons
theorem T_apC_eq {T : Tab} {t : TypeId} {x : SV} {K : SV → Prop} : Top (apC T t x K) = Top (apB (T.k t) x K) := congrArg Top apC_eq
theorem T_apB_arr {n e a b m off l c : Nat} {K : SV → Prop} : Top (apB (.arr n e a b) (.sl m off l c) K) = Top ((n ≤ l ∧ K (.p m off))) := congrArg Top apB_arr
theorem T_makeC_eq {T : Tab} {t : TypeId} {l c : SV} {M : List Blk} {K : SV → List Blk → Prop} : Top (makeC T t l c M K) = Top (makeB T (T.k t) (ixOf l) (ixOf c) M K) := congrArg Top makeC_eq
theorem T_makeB_sl {T : Tab} {e esz eby : Nat} {l c : Int} {M : List Blk} {K : SV → List Blk → Prop} : Top (makeB T (.slice e esz eby) (some l) (some c) M K) = Top ((0 ≤ l ∧ l ≤ c ∧ c ≤ 2 ^ 62 ∧ eby * c ≤ 2 ^ 48 ∧ makeD (T.z e) e l c M K)) := congrArg Top makeB_sl
theorem T_makeD_some {z : List SV} {e : Nat} {l c : Int} {M : List Blk} {K : SV → List Blk → Prop} : Top (makeD (some z) e l c M K) = Top (K (.sl M.length 0 l.toNat c.toNat) (M ++ [.row (zerosS z c.toNat) e])) := congrArg Top makeD_some
theorem T_bltC_len {T : Tab} {M : List Blk} {t : TypeId} {x : SV} {K : SV → List Blk → Prop} : Top (bltC T .len [t] [x] M K) = Top (lenB (T.k t) M x (fun v => K v M)) := congrArg Top bltC_len
theorem T_bltC_cap {T : Tab} {M : List Blk} {t : TypeId} {x : SV} {K : SV → List Blk → Prop} : Top (bltC T .cap [t] [x] M K) = Top (capB (T.k t) x (fun v => K v M)) := congrArg Top bltC_cap
theorem T_bltC_append {T : Tab} {M : List Blk} {t u : TypeId} {s x : SV} {K : SV → List Blk → Prop} : Top (bltC T .append [t, u] [s, x] M K) = Top (appendC T M t u s x K) := congrArg Top bltC_append
theorem T_bltC_copy {T : Tab} {M : List Blk} {t u : TypeId} {d x : SV} {K : SV → List Blk → Prop} : Top (bltC T .copy [t, u] [d, x] M K) = Top (copyC T M t d x K) := congrArg Top bltC_copy
theorem T_bltC_clear {T : Tab} {M : List Blk} {t : TypeId} {x : SV} {K : SV → List Blk → Prop} : Top (bltC T .clear [t] [x] M K) = Top (clearC T M t x (fun M' => K (.tup []) M')) := congrArg Top bltC_clear
theorem T_bltC_delete {T : Tab} {M : List Blk} {t u : TypeId} {x k : SV} {K : SV → List Blk → Prop} : Top (bltC T .delete [t, u] [x, k] M K) = Top (delC T M t x k (fun M' => K (.tup []) M')) := congrArg Top bltC_delete
theorem T_lenB_map {M : List Blk} {e n : Nat} {K : SV → Prop} : Top (lenB (.map e) M (.mp n) K) = Top (lenO M[n]? K) := congrArg Top lenB_map
theorem T_lenO_map {es : List (Int × SV × Nat)} {c : Nat} {K : SV → Prop} : Top (lenO (some (.obj (.map es c))) K) = Top (K (.i .i64 es.length)) := congrArg Top lenO_map
theorem T_bltC_min {T : Tab} {M : List Blk} {ats : List TypeId} {l : List SV} {K : SV → List Blk → Prop} : Top (bltC T .min ats l M K) = Top (minC l (fun v => K v M)) := congrArg Top bltC_min
theorem T_bltC_max {T : Tab} {M : List Blk} {ats : List TypeId} {l : List SV} {K : SV → List Blk → Prop} : Top (bltC T .max ats l M K) = Top (maxC l (fun v => K v M)) := congrArg Top bltC_max
theorem T_lenB_sl {M : List Blk} {e a b n off l c : Nat} {K : SV → Prop} : Top (lenB (.slice e a b) M (.sl n off l c) K) = Top (K (.i .i64 l)) := congrArg Top lenB_sl
theorem T_lenB_sn {M : List Blk} {e a b : Nat} {K : SV → Prop} : Top (lenB (.slice e a b) M .sn K) = Top (K (.i .i64 0)) := congrArg Top lenB_sn
theorem T_lenB_raw {M : List Blk} {e a b l c : Nat} {x : Option Addr} {K : SV → Prop} : Top (lenB (.slice e a b) M (.raw (.slice x l c)) K) = Top (K (.i .i64 l)) := congrArg Top lenB_raw
theorem T_lenB_str {M : List Blk} {s : ByteArray} {K : SV → Prop} : Top (lenB .str M (.str s) K) = Top (K (.i .i64 s.size)) := congrArg Top lenB_str
theorem T_lenB_arr {M : List Blk} {n e a b : Nat} {x : SV} {K : SV → Prop} : Top (lenB (.arr n e a b) M x K) = Top (K (.i .i64 n)) := congrArg Top lenB_arr
theorem T_capB_sl {e a b n off l c : Nat} {K : SV → Prop} : Top (capB (.slice e a b) (.sl n off l c) K) = Top (K (.i .i64 c)) := congrArg Top capB_sl
theorem T_capB_sn {e a b : Nat} {K : SV → Prop} : Top (capB (.slice e a b) .sn K) = Top (K (.i .i64 0)) := congrArg Top capB_sn
theorem T_capB_arr {n e a b : Nat} {x : SV} {K : SV → Prop} : Top (capB (.arr n e a b) x K) = Top (K (.i .i64 n)) := congrArg Top capB_arr
theorem T_minC_2 {k k' : IntKind} {a b : Int} {K : SV → Prop} : Top (minC [.i k a, .i k' b] K) = Top (K (.i k (min a b))) := congrArg Top minC_2
theorem T_minC_3 {k k' k'' : IntKind} {a b c : Int} {K : SV → Prop} : Top (minC [.i k a, .i k' b, .i k'' c] K) = Top (K (.i k (min (min a b) c))) := congrArg Top minC_3
theorem T_maxC_2 {k k' : IntKind} {a b : Int} {K : SV → Prop} : Top (maxC [.i k a, .i k' b] K) = Top (K (.i k (max a b))) := congrArg Top maxC_2
theorem T_maxC_3 {k k' k'' : IntKind} {a b c : Int} {K : SV → Prop} : Top (maxC [.i k a, .i k' b, .i k'' c] K) = Top (K (.i k (max (max a b) c))) := congrArg Top maxC_3
theorem T_minC_u {a b : BitVec 64} {K : SV → Prop} : Top (minC [.u64 a, .u64 b] K) = Top (K (.u64 (if b.toNat < a.toNat then b else a))) := congrArg Top minC_u
theorem T_maxC_u {a b : BitVec 64} {K : SV → Prop} : Top (maxC [.u64 a, .u64 b] K) = Top (K (.u64 (if a.toNat < b.toNat then b else a))) := congrArg Top maxC_u
theorem T_srcC_sl {M : List Blk} {esz n off len cap : Nat} {K : List SV → Nat → Prop} : Top (srcC M esz (.sl n off len cap) K) = Top ((off + len * esz ≤ (cellsAt M n).length ∧ K (((cellsAt M n).drop off).take (len * esz)) len)) := congrArg Top srcC_sl
theorem T_srcC_sn {M : List Blk} {esz : Nat} {K : List SV → Nat → Prop} : Top (srcC M esz .sn K) = Top (K [] 0) := congrArg Top srcC_sn
theorem T_srcC_str {M : List Blk} {esz : Nat} {s : ByteArray} {K : List SV → Nat → Prop} : Top (srcC M esz (.str s) K) = Top ((esz = 1 ∧ K (s.data.toList.map fun b => .u8 b.toBitVec) s.size)) := congrArg Top srcC_str
theorem T_resL_nil {T : Tab} {ts : List SV} {M : List Blk} {K : List SV → Prop} : Top (resL T ts M [] K) = Top (K []) := congrArg Top resL_nil
theorem T_resL_tmp {T : Tab} {ts : List SV} {M : List Blk} {t : Nat} {rs : List ResultVar} {K : List SV → Prop} : Top (resL T ts M (.tmp t :: rs) K) = Top (resL T ts M rs (fun l => K (ts.getD t uS :: l))) := congrArg Top resL_tmp
theorem T_resL_cell {T : Tab} {ts : List SV} {M : List Blk} {a t : Nat} {rs : List ResultVar} {K : List SV → Prop} : Top (resL T ts M (.cell a t :: rs) K) = Top (loadC T t (ts.getD a uS) M (fun v => resL T ts M rs (fun l => K (v :: l)))) := congrArg Top resL_cell
theorem T_endC_normal {T : Tab} {m0 : Nat} {rs : List ResultVar} {K : SV → List Blk → Prop} {ts : List SV} {M : List Blk} : Top (endC T m0 rs K .normal ts M) = Top (resL T ts M rs fun l => dropC m0 (tupS l) M K) := congrArg Top endC_normal
theorem T_endC_ret {T : Tab} {m0 : Nat} {rs : List ResultVar} {K : SV → List Blk → Prop} {ts : List SV} {M : List Blk} : Top (endC T m0 rs K .ret ts M) = Top (resL T ts M rs fun l => dropC m0 (tupS l) M K) := congrArg Top endC_ret
theorem T_bvC_add {n : Nat} {a b : BitVec n} {mk : BitVec n → SV} {K : SV → Prop} : Top (bvC .add a b mk K) = Top (K (mk (a + b))) := congrArg Top bvC_add
theorem T_bvC_sub {n : Nat} {a b : BitVec n} {mk : BitVec n → SV} {K : SV → Prop} : Top (bvC .sub a b mk K) = Top (K (mk (a - b))) := congrArg Top bvC_sub
theorem T_bvC_mul {n : Nat} {a b : BitVec n} {mk : BitVec n → SV} {K : SV → Prop} : Top (bvC .mul a b mk K) = Top (K (mk (a * b))) := congrArg Top bvC_mul
theorem T_bvC_quo {n : Nat} {a b : BitVec n} {mk : BitVec n → SV} {K : SV → Prop} : Top (bvC .quo a b mk K) = Top ((b ≠ 0#n ∧ K (mk (a / b)))) := congrArg Top bvC_quo
theorem T_bvC_rem {n : Nat} {a b : BitVec n} {mk : BitVec n → SV} {K : SV → Prop} : Top (bvC .rem a b mk K) = Top ((b ≠ 0#n ∧ K (mk (a % b)))) := congrArg Top bvC_rem
theorem T_bvC_and {n : Nat} {a b : BitVec n} {mk : BitVec n → SV} {K : SV → Prop} : Top (bvC .and a b mk K) = Top (K (mk (a &&& b))) := congrArg Top bvC_and
theorem T_bvC_or {n : Nat} {a b : BitVec n} {mk : BitVec n → SV} {K : SV → Prop} : Top (bvC .or a b mk K) = Top (K (mk (a ||| b))) := congrArg Top bvC_or
theorem T_bvC_xor {n : Nat} {a b : BitVec n} {mk : BitVec n → SV} {K : SV → Prop} : Top (bvC .xor a b mk K) = Top (K (mk (a ^^^ b))) := congrArg Top bvC_xor
theorem T_bvC_andNot {n : Nat} {a b : BitVec n} {mk : BitVec n → SV} {K : SV → Prop} : Top (bvC .andNot a b mk K) = Top (K (mk (a &&& ~~~b))) := congrArg Top bvC_andNot
theorem T_bvC_shl {n : Nat} {a b : BitVec n} {mk : BitVec n → SV} {K : SV → Prop} : Top (bvC .shl a b mk K) = Top (K (mk (a <<< b.toNat))) := congrArg Top bvC_shl
theorem T_bvC_shr {n : Nat} {a b : BitVec n} {mk : BitVec n → SV} {K : SV → Prop} : Top (bvC .shr a b mk K) = Top (K (mk (a >>> b.toNat))) := congrArg Top bvC_shr
theorem T_bvC_eql {n : Nat} {a b : BitVec n} {mk : BitVec n → SV} {K : SV → Prop} : Top (bvC .eql a b mk K) = Top (K (.b (a == b))) := congrArg Top bvC_eql
theorem T_bvC_neq {n : Nat} {a b : BitVec n} {mk : BitVec n → SV} {K : SV → Prop} : Top (bvC .neq a b mk K) = Top (K (.b (a != b))) := congrArg Top bvC_neq
theorem T_bvC_lss {n : Nat} {a b : BitVec n} {mk : BitVec n → SV} {K : SV → Prop} : Top (bvC .lss a b mk K) = Top (K (.b (decide (a.toNat < b.toNat)))) := congrArg Top bvC_lss
theorem T_bvC_leq {n : Nat} {a b : BitVec n} {mk : BitVec n → SV} {K : SV → Prop} : Top (bvC .leq a b mk K) = Top (K (.b (decide (a.toNat ≤ b.toNat)))) := congrArg Top bvC_leq
theorem T_bvC_gtr {n : Nat} {a b : BitVec n} {mk : BitVec n → SV} {K : SV → Prop} : Top (bvC .gtr a b mk K) = Top (K (.b (decide (b.toNat < a.toNat)))) := congrArg Top bvC_gtr
theorem T_bvC_geq {n : Nat} {a b : BitVec n} {mk : BitVec n → SV} {K : SV → Prop} : Top (bvC .geq a b mk K) = Top (K (.b (decide (b.toNat ≤ a.toNat)))) := congrArg Top bvC_geq
theorem T_shC_shl {n c : Nat} {a : BitVec n} {mk : BitVec n → SV} {K : SV → Prop} : Top (shC .shl a c mk K) = Top (K (mk (a <<< c))) := congrArg Top shC_shl
theorem T_shC_shr {n c : Nat} {a : BitVec n} {mk : BitVec n → SV} {K : SV → Prop} : Top (shC .shr a c mk K) = Top (K (mk (a >>> c))) := congrArg Top shC_shr
theorem T_intC_add {k : IntKind} {a b : Int} {K : SV → Prop} : Top (intC .add k a b K) = Top (K (.i k (k.wrap (a + b)))) := congrArg Top intC_add
theorem T_intC_sub {k : IntKind} {a b : Int} {K : SV → Prop} : Top (intC .sub k a b K) = Top (K (.i k (k.wrap (a - b)))) := congrArg Top intC_sub
theorem T_intC_mul {k : IntKind} {a b : Int} {K : SV → Prop} : Top (intC .mul k a b K) = Top (K (.i k (k.wrap (a * b)))) := congrArg Top intC_mul
theorem T_intC_quo {k : IntKind} {a b : Int} {K : SV → Prop} : Top (intC .quo k a b K) = Top ((b ≠ 0 ∧ K (.i k (k.wrap (a.tdiv b))))) := congrArg Top intC_quo
theorem T_intC_rem {k : IntKind} {a b : Int} {K : SV → Prop} : Top (intC .rem k a b K) = Top ((b ≠ 0 ∧ K (.i k (a.tmod b)))) := congrArg Top intC_rem
theorem T_intC_shl {k : IntKind} {a b : Int} {K : SV → Prop} : Top (intC .shl k a b K) = Top ((0 ≤ b ∧ K (.i k (k.wrap (a * 2 ^ min b.toNat k.bits))))) := congrArg Top intC_shl
theorem T_intC_shr {k : IntKind} {a b : Int} {K : SV → Prop} : Top (intC .shr k a b K) = Top ((0 ≤ b ∧ K (.i k (a.fdiv (2 ^ min b.toNat k.bits))))) := congrArg Top intC_shr
theorem T_intC_eql {k : IntKind} {a b : Int} {K : SV → Prop} : Top (intC .eql k a b K) = Top (K (.b (a == b))) := congrArg Top intC_eql
theorem T_intC_neq {k : IntKind} {a b : Int} {K : SV → Prop} : Top (intC .neq k a b K) = Top (K (.b (a != b))) := congrArg Top intC_neq
theorem T_intC_lss {k : IntKind} {a b : Int} {K : SV → Prop} : Top (intC .lss k a b K) = Top (K (.b (decide (a < b)))) := congrArg Top intC_lss
theorem T_intC_leq {k : IntKind} {a b : Int} {K : SV → Prop} : Top (intC .leq k a b K) = Top (K (.b (decide (a ≤ b)))) := congrArg Top intC_leq
theorem T_intC_gtr {k : IntKind} {a b : Int} {K : SV → Prop} : Top (intC .gtr k a b K) = Top (K (.b (decide (b < a)))) := congrArg Top intC_gtr
theorem T_intC_geq {k : IntKind} {a b : Int} {K : SV → Prop} : Top (intC .geq k a b K) = Top (K (.b (decide (b ≤ a)))) := congrArg Top intC_geq
theorem T_intC_and {k : IntKind} {a b : Int} {K : SV → Prop} : Top (intC .and k a b K) = Top (K (.i k (k.wrap (BitVec.ofInt k.bits a &&& BitVec.ofInt k.bits b).toNat))) := congrArg Top intC_and
theorem T_intC_or {k : IntKind} {a b : Int} {K : SV → Prop} : Top (intC .or k a b K) = Top (K (.i k (k.wrap (BitVec.ofInt k.bits a ||| BitVec.ofInt k.bits b).toNat))) := congrArg Top intC_or
theorem T_intC_xor {k : IntKind} {a b : Int} {K : SV → Prop} : Top (intC .xor k a b K) = Top (K (.i k (k.wrap (BitVec.ofInt k.bits a ^^^ BitVec.ofInt k.bits b).toNat))) := congrArg Top intC_xor
theorem T_intC_andNot {k : IntKind} {a b : Int} {K : SV → Prop} : Top (intC .andNot k a b K) = Top (K (.i k (k.wrap (BitVec.ofInt k.bits a &&& ~~~BitVec.ofInt k.bits b).toNat))) := congrArg Top intC_andNot
theorem T_shI_shl {k : IntKind} {a : Int} {c : Nat} {K : SV → Prop} : Top (shI .shl k a c K) = Top (K (.i k (k.wrap (a * 2 ^ min c k.bits)))) := congrArg Top shI_shl
theorem T_shI_shr {k : IntKind} {a : Int} {c : Nat} {K : SV → Prop} : Top (shI .shr k a c K) = Top (K (.i k (a.fdiv (2 ^ min c k.bits)))) := congrArg Top shI_shr
theorem T_drawC_nil {P : Program} {T : Tab} {ops : List Oper} {ts : List SV} {M : List Blk} {pd : List Pend} {K : List SV → List Blk → Prop} : Top (drawC P T ops .nil ts M pd K) = Top (K ts M) := congrArg Top drawC_nil
theorem T_drawC_no {P : Program} {T : Tab} {ops : List Oper} {ts : List SV} {M : List Blk} {pd : List Pend} {K : List SV → List Blk → Prop} : Top (drawC P T ops .no ts M pd K) = Top (True) := congrArg Top drawC_no
theorem T_drawC_p {P : Program} {T : Tab} {ops : List Oper} {r : Tr} {ts : List SV} {M : List Blk} {pd : List Pend} {K : List SV → List Blk → Prop} {i : Nat} : Top (drawC P T ops (.p i r) ts M pd K) = Top (drB P T ops (.p i) ops[i]? r ts M pd K) := congrArg Top drawC_p
theorem T_drawC_e {P : Program} {T : Tab} {ops : List Oper} {r : Tr} {ts : List SV} {M : List Blk} {pd : List Pend} {K : List SV → List Blk → Prop} {i : Nat} {rc : List Nat} {alt : Tr} : Top (drawC P T ops (.e i rc r alt) ts M pd K) = Top ((drB P T ops (.e i rc) ops[i]? r ts M pd K ∧ drawC P T ops alt ts M pd K)) := congrArg Top drawC_e
theorem T_drB_p {P : Program} {T : Tab} {ops : List Oper} {r : Tr} {ts : List SV} {M : List Blk} {pd : List Pend} {K : List SV → List Blk → Prop} {d : Option Tmp} {op : Op} {t : TypeId} {p : String} {af : Array Edge} {i : Nat} : Top (drB P T ops (.p i) (some { dst := d, op := op, type := t, pos := p, after := af, guard := none }) r ts M pd K) = Top (opC P T op ts M (fun v M' => drawC P T ops r (putS ts d v) M' ((i, ts, v) :: pd) K)) := congrArg Top drB_p
theorem T_drB_e {P : Program} {T : Tab} {ops : List Oper} {r : Tr} {ts : List SV} {M : List Blk} {pd : List Pend} {K : List SV → List Blk → Prop} {d : Option Tmp} {op : Op} {t : TypeId} {p : String} {af : Array Edge} {i : Nat} {rc : List Nat} : Top (drB P T ops (.e i rc) (some { dst := d, op := op, type := t, pos := p, after := af, guard := none }) r ts M pd K) = Top (opC P T op ts M (fun v M' => rcC P T ops pd rc M' ∧ drawC P T ops r (putS ts d v) M' pd K)) := congrArg Top drB_e
theorem T_rcC_empty {P : Program} {T : Tab} {ops : List Oper} {pd : List Pend} {M : List Blk} : Top (rcC P T ops pd [] M) = Top (True) := congrArg Top rcC_empty
theorem T_rcC_nil {P : Program} {T : Tab} {ops : List Oper} {rc : List Nat} {M : List Blk} : Top (rcC P T ops [] rc M) = Top (True) := congrArg Top rcC_nil
theorem T_rcC_cons {P : Program} {T : Tab} {ops : List Oper} {i : Nat} {ts : List SV} {v : SV} {pd : List Pend} {rc : List Nat} {M : List Blk} : Top (rcC P T ops ((i, ts, v) :: pd) rc M) = Top ((rcB P T (rc.contains i) ops[i]? ts v M ∧ rcC P T ops pd rc M)) := congrArg Top rcC_cons
theorem T_rcB_f {P : Program} {T : Tab} {o : Option Oper} {ts : List SV} {v : SV} {M : List Blk} : Top (rcB P T false o ts v M) = Top (True) := congrArg Top rcB_f
theorem T_rcB_t {P : Program} {T : Tab} {d : Option Tmp} {op : Op} {t : TypeId} {p : String} {af : Array Edge} {g : Option (Nat × Bool)} {ts : List SV} {v : SV} {M : List Blk} : Top (rcB P T true (some { dst := d, op := op, type := t, pos := p, after := af, guard := g }) ts v M) = Top (opC P T op ts M (fun v' M' => v' = v ∧ M' = M)) := congrArg Top rcB_t
attribute [go_sem] T_and T_imp T_all T_true T_false T_eq T_ne T_not T_leN T_ltN T_leI T_ltI T_gdS_b T_gdS_u T_gdZ T_condC_z T_pickC_z T_regC_nil T_regC_plain T_regC_guard T_drB_pg T_drB_eg T_codeC_skip T_codeC_label T_codeC_region T_codeC_draw T_codeC_seq T_codeC_cond T_codeC_block T_codeC_loop T_roundsC_succ T_codeC_exit T_codeC_ret T_opC_move T_opC_assign T_opC_pick T_opC_alloc T_opC_box T_opC_build T_opC_buildSlice T_opC_s2a T_opC_load T_opC_store T_opC_nilCheck T_opC_binOp T_opC_unOp T_opC_convert T_opC_slice T_opC_fieldAddr T_opC_field T_opC_indexAddr T_opC_index T_opC_extract T_opC_makeSlice T_opC_makeFunc T_opC_makeMap T_opC_lookup T_opC_mapUpdate T_opC_range T_opC_next T_opC_entry T_opC_builtin T_opC_call T_lookC_mp T_lookB_map T_lookE_some T_lookE_none T_lookZ_some T_updC_mp T_updB_map T_delC_mp T_delB_map T_rangeC_mp T_rangeB_map T_nextC_p T_nextB_it T_nextD_map T_entryC_p T_entryB_it T_entryG_map T_entryD_some T_entryF_some T_binC_u8u8 T_binC_u8i T_binC_iu8 T_binC_u8u32 T_binC_u8u64 T_binC_u32u32 T_binC_u32i T_binC_iu32 T_binC_u32u8 T_binC_u32u64 T_binC_u64u64 T_binC_u64i T_binC_iu64 T_binC_u64u8 T_binC_u64u32 T_binC_ii T_binC_eql_b T_binC_neq_b T_eqC_b T_binC_eql_pnpn T_binC_neq_pnpn T_eqC_pnpn T_binC_eql_ppn T_binC_neq_ppn T_eqC_ppn T_binC_eql_pnp T_binC_neq_pnp T_eqC_pnp T_binC_eql_snsn T_binC_neq_snsn T_eqC_snsn T_binC_eql_slsn T_binC_neq_slsn T_eqC_slsn T_binC_eql_snsl T_binC_neq_snsl T_eqC_snsl T_binC_eql_rwsn T_binC_neq_rwsn T_eqC_rwsn T_binC_eql_agg T_binC_neq_agg T_eqC_agg T_gdC_t T_gdC_f T_gdC_u T_blockC_exit T_thenC_exit T_blockC_normal T_blockC_ret T_thenC_normal T_thenC_ret T_cellC_u8 T_cellC_u32 T_cellC_u64 T_cellC_i64 T_cellC_arr T_cellC_struct T_cellC_bool T_storeB_bool T_cellC_str T_storeB_str T_cellC_ptr T_storeB_ptr T_cellC_func T_storeB_func T_cellC_iface T_storeB_iface T_cellC_map T_storeB_map T_cellC_slice T_storeB_slice T_storeB_int T_storeB_arr T_storeB_struct T_loadC_p T_storeC_p T_allocC_eq T_allocB_some T_boxC_eq T_ixaC_eq T_ixaB_arr T_ixaB_sl T_ixC_eq T_ixB_arr T_ixB_str T_faC_eq T_faB_p T_fC_eq T_fB_agg T_nilC_p T_nilC_fn T_convG_eq T_convH_int T_convH_ss T_binC_str T_strE_eql T_strE_neq T_convC_eq T_convB_u8_i T_convB_u8_u8 T_convB_u8_u32 T_convB_u8_u64 T_convB_u32_i T_convB_u32_u8 T_convB_u32_u32 T_convB_u32_u64 T_convB_u64_i T_convB_u64_u8 T_convB_u64_u32 T_convB_u64_u64 T_convB_i64_u8 T_convB_i64_u32 T_convB_i64_u64 T_convB_i64_i T_convB_str T_unC_not T_unC_neg T_unC_xor_u8 T_unC_xor_u32 T_unC_xor_u64 T_extC_tup T_extB_some T_aggEq_eq T_aggB_arr T_aggB_struct T_aggQ_some T_aggI_int T_buildC_eq T_buildB_arr T_buildB_struct T_aggO_some T_fnC_fn T_bndC_none T_bndC_some T_bndB_some T_bnds_nn T_bnds_sn T_bnds_ss T_sliceC_eq T_sliceB_arr T_sliceB_sl T_sliceB_sn T_bsC_eq T_bsB_sl T_bsD_t T_partsOK_nil T_partsOK_cons T_apC_eq T_apB_arr T_makeC_eq T_makeB_sl T_makeD_some T_bltC_len T_bltC_cap T_bltC_append T_bltC_copy T_bltC_clear T_bltC_delete T_lenB_map T_lenO_map T_bltC_min T_bltC_max T_lenB_sl T_lenB_sn T_lenB_raw T_lenB_str T_lenB_arr T_capB_sl T_capB_sn T_capB_arr T_minC_2 T_minC_3 T_maxC_2 T_maxC_3 T_minC_u T_maxC_u T_srcC_sl T_srcC_sn T_srcC_str T_resL_nil T_resL_tmp T_resL_cell T_endC_normal T_endC_ret T_bvC_add T_bvC_sub T_bvC_mul T_bvC_quo T_bvC_rem T_bvC_and T_bvC_or T_bvC_xor T_bvC_andNot T_bvC_shl T_bvC_shr T_bvC_eql T_bvC_neq T_bvC_lss T_bvC_leq T_bvC_gtr T_bvC_geq T_shC_shl T_shC_shr T_intC_add T_intC_sub T_intC_mul T_intC_quo T_intC_rem T_intC_shl T_intC_shr T_intC_eql T_intC_neq T_intC_lss T_intC_leq T_intC_gtr T_intC_geq T_intC_and T_intC_or T_intC_xor T_intC_andNot T_shI_shl T_shI_shr T_drawC_nil T_drawC_no T_drawC_p T_drawC_e T_drB_p T_drB_e T_rcC_empty T_rcC_nil T_rcC_cons T_rcB_f T_rcB_t
attribute [go_sem] yS isAg_struct okS_t okS_f evS_tmp evS_const evS_func putS_some putS_none vS_i64 vS_u8 cS_u8 vS_u32 cS_u32 vS_u64 cS_u64 cS_i64 vS_bool cS_bool vS_str cS_str vS_pn cS_pn vS_sn cS_sn vS_mn cS_mn vS_fnil cS_fnil vS_inil cS_inil vS_agg cellsS_agg cellsS_i one_i lt_i cellsS_u8 one_u8 lt_u8 cellsS_u32 one_u32 lt_u32 cellsS_u64 one_u64 lt_u64 cellsS_b one_b lt_b cellsS_p one_p lt_p cellsS_pn one_pn lt_pn cellsS_sl one_sl lt_sl cellsS_sn one_sn lt_sn cellsS_mp one_mp lt_mp cellsS_mn one_mn lt_mn cellsS_str one_str lt_str cellsS_fn one_fn lt_fn cellsS_fnil one_fnil lt_fnil cellsS_ifc one_ifc lt_ifc cellsS_inil one_inil lt_inil ixOf_i ixOf_u8 ixOf_u32 ixOf_u64 oks_nil oks_cons ofK_i64 ofK_u8 ofK_u32 ofK_u64 eqL_nil eqL_cons eqS_i eqS_u8 eqS_u32 eqS_u64 idxP_nil idxP_cons catS_nil catS_cons tupS_one tupS_nil tupS_two lt_agg lt_tup lt_raw ltL_nil ltL_cons liveN_eq liveB_row liveB_here liveB_ro cellsAt_eq cellsB_row cellsB_ro fillS_nil fillS_cons fillD_some stp_p stp_e is8_z cell8_z is8_s cell8_s is32_z cell32_z is32_s cell32_s is64_z cell64_z is64_s cell64_s isI_z cellI_z isI_s cellI_s List.set_cons_succ List.set_cons_zero List.getD_cons_succ List.getD_cons_zero List.getElem?_cons_succ List.getElem?_cons_zero List.getElem?_nil List.map_cons List.map_nil Option.map_some Option.map_none Option.bind_some Option.bind_none List.length_cons List.length_nil List.cons_append List.nil_append List.append_nil List.contains_cons List.contains_nil Bool.or_false Bool.false_or Bool.or_true Bool.true_or TK.one isSl List.all_cons List.all_nil Bool.and_true Bool.true_and Nat.zero_add Nat.add_zero Nat.zero_lt_succ bS_one bS_length bS_is8 bS_cell8 bS_set bS_zeros bS_zeros' bS_ofK bS_eqL bS_take bS_drop bS_append and_true true_and if_true if_false decide_eq_true_eq decide_eq_false_iff_not and_self not_true_eq_false not_false_eq_true true_implies false_implies BitVec.ofNat_eq_ofNat Int.toNat_natCast get_app get_app0 set_app set_app0 List.append_assoc List.length_append Nat.add_assoc Nat.mul_one Nat.one_mul repU repU0 frC_nn frC_ss frC_ns fillF_n fillF_s fillF_u SV.i.injEq SV.u8.injEq SV.u32.injEq SV.u64.injEq SV.b.injEq SV.p.injEq SV.agg.injEq SV.sl.injEq List.drop_zero take_all splice_all splice_z splice_s splice_n decide_true decide_false ite_self Nat.sub_zero List.length_replicate Nat.le_refl List.length_set Bool.not_true Bool.not_false beq_self_eq_true cast_lit
attribute [congr] convG_congr convH_congr strE_congr strC_congr lookC_congr lookB_congr lookE_congr lookZ_congr updC_congr updB_congr delC_congr delB_congr lenO_congr rangeC_congr rangeB_congr nextC_congr nextB_congr nextD_congr entryC_congr entryB_congr entryG_congr entryD_congr entryF_congr codeC_congr regC_congr opC_congr binC_congr bvC_congr shC_congr intC_congr shI_congr eqC_congr aggEq_congr unC_congr convC_congr pickC_congr loadC_congr cellC_congr storeC_congr storeB_congr allocC_congr boxC_congr ixaC_congr ixC_congr faC_congr fC_congr nilC_congr extC_congr buildC_congr sliceC_congr makeC_congr bsC_congr bsB_congr bsD_congr apC_congr apB_congr roundsC_congr CovF_congr bltC_congr fnC_congr callVC_congr thenC_congr blockC_congr condC_congr gdC_congr LoopVC_congr DrawVC_congr resL_congr endC_congr ixaB_congr ixB_congr faB_congr fB_congr convB_congr extB_congr aggI_congr aggB_congr aggQ_congr aggO_congr buildB_congr bndB_congr bndC_congr bnds_congr sliceB_congr makeD_congr makeB_congr lenB_congr capB_congr appendC_congr copyC_congr allocB_congr dropC_congr srcC_congr drawC_congr drB_congr rcC_congr rcB_congr minC_congr maxC_congr
end Go.Proofs.YtbiolfeincepoaaGreatDoor.Eng
