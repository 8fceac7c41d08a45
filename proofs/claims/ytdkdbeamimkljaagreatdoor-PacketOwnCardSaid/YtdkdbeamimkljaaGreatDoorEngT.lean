/- The engine, part T: what simp runs by: a mark for what is to be run, and the equations under it. -/
import Derived.Test.YtdkdbeamimkljaaGreatDoorEngS
namespace Go.Proofs.YtdkdbeamimkljaaGreatDoor.Eng
open Go Go.RowKit
set_option linter.unusedSimpArgs false
set_option linter.unusedVariables false
/-- what is to be run -/
def Top (p : Prop) : Prop := p
theorem top_in {p : Prop} (h : Top p) : p := h
theorem top_out {p : Prop} : Top p = p := rfl
theorem T_and {a b : Prop} : Top (a ∧ b) = (Top a ∧ Top b) := rfl
theorem T_imp {a b : Prop} : Top (a → b) = (a → Top b) := rfl
theorem T_all {α : Type} {p : α → Prop} : Top (∀ x, p x) = (∀ x, Top (p x)) := rfl
theorem T_true : Top True = True := rfl
theorem T_eq {α : Type} {a b : α} : Top (a = b) = (a = b) := rfl
theorem T_leN {a b : Nat} : Top (a ≤ b) = (a ≤ b) := rfl
theorem T_ltN {a b : Nat} : Top (a < b) = (a < b) := rfl
theorem T_leI {a b : Int} : Top (a ≤ b) = (a ≤ b) := rfl
theorem T_ltI {a b : Int} : Top (a < b) = (a < b) := rfl
/-- a guard: what is known of it goes into its slot -/
def gdS (d : Option Tmp) (y : SV) (w : Bool) (ts : List SV) (A B : List SV → Prop) : Prop :=
  match d, y with
  | some s, .b c => (c = w → A (ts.set s (.b w))) ∧ (c = !w → B (ts.set s (.b (!w))))
  | _, y => gdC y w (A ts) (B ts)
theorem set_same {ts : List SV} {s : Nat} {v : SV} (h : ts.getD s uS = v) (hv : v ≠ uS) : ts.set s v = ts := by
  by_cases hs : s < ts.length
  · rw [List.getD_eq_getElem?_getD, List.getElem?_eq_getElem hs] at h
    apply List.ext_getElem?
    intro i
    rw [List.getElem?_set]
    split
    · rename_i e; subst e; rw [List.getElem?_eq_getElem hs]; simpa using h.symm
    · rfl
  · exact absurd (by rw [← h, List.getD_eq_getElem?_getD, List.getElem?_eq_none (by omega)]; rfl) hv
theorem gdS_eq {ops : List Oper} {ts : List SV} {j : Nat} {w : Bool} {A B : List SV → Prop} : gdC (yS ops ts j) w (A ts) (B ts) = gdS ((ops[j]?).bind (·.dst)) (yS ops ts j) w ts A B := by
  unfold gdS yS
  cases (ops[j]?).bind (·.dst) with
  | none => rfl
  | some s =>
    simp only
    cases h : ts.getD s uS with
    | b c =>
      simp only
      have hs : ts.set s (.b c) = ts := set_same h (by simp [uS])
      cases w <;> cases c <;> simp [gdC, hs]
    | _ => rfl
/-- a choice: a known one is made before its arms are looked at -/
def gdZ (c w : Bool) (A B : Prop) : Prop := (c = w → A) ∧ (c = !w → B)
theorem T_gdS_b {s : Nat} {c w : Bool} {ts : List SV} {A B : List SV → Prop} : Top (gdS (some s) (.b c) w ts A B) = Top (gdZ c w (A (ts.set s (.b w))) (B (ts.set s (.b (!w))))) := rfl
theorem T_gdZ {c w : Bool} {A B : Prop} : Top (gdZ c w A B) = ((c = w → Top A) ∧ (c = !w → Top B)) := rfl
theorem L_gdZ_tt {A B : Prop} : Top (gdZ true true A B) = Top A := by simp [Top, gdZ]
theorem L_gdZ_tf {A B : Prop} : Top (gdZ true false A B) = Top B := by simp [Top, gdZ]
theorem L_gdZ_ft {A B : Prop} : Top (gdZ false true A B) = Top B := by simp [Top, gdZ]
theorem L_gdZ_ff {A B : Prop} : Top (gdZ false false A B) = Top A := by simp [Top, gdZ]
theorem T_condC_z {c : Bool} {A B : Prop} : Top (condC (.b c) A B) = Top (gdZ c true A B) := by cases c <;> simp [Top, condC, gdZ]
theorem T_pickC_z {c : Bool} {x y : SV} {K : SV → Prop} : Top (pickC (.b c) x y K) = Top (gdZ c true (K x) (K y)) := by cases c <;> simp [Top, pickC, gdZ]
theorem T_gdS_u {s : Nat} {w : Bool} {ts : List SV} {A B : List SV → Prop} : Top (gdS (some s) uS w ts A B) = Top (B ts) := congrArg Top (gdC_u (w := w) (A := A ts) (B := B ts))
section
variable {P : Program} {T : Tab}
theorem T_regC_nil {ops : List Oper} {ts : List SV} {M : List Blk} {K : List SV → List Blk → Prop} : Top (regC P T ops [] ts M K) = Top (K ts M) := rfl
theorem T_regC_plain {ops os : List Oper} {d : Option Tmp} {op : Op} {t : TypeId} {p : String} {af : Array Edge} {ts : List SV} {M : List Blk} {K : List SV → List Blk → Prop} :
    Top (regC P T ops ({ dst := d, op := op, type := t, pos := p, after := af, guard := none } :: os) ts M K) = Top (opC P T op ts M (fun v M' => regC P T ops os (putS ts d v) M' K)) := rfl
theorem T_regC_guard {ops os : List Oper} {d : Option Tmp} {op : Op} {t : TypeId} {p : String} {af : Array Edge} {j : Nat} {w : Bool} {ts : List SV} {M : List Blk} {K : List SV → List Blk → Prop} :
    Top (regC P T ops ({ dst := d, op := op, type := t, pos := p, after := af, guard := some (j, w) } :: os) ts M K) =
      Top (gdS ((ops[j]?).bind (·.dst)) (yS ops ts j) w ts (fun ts => opC P T op ts M (fun v M' => regC P T ops os (putS ts d v) M' K)) (fun ts => regC P T ops os (putS ts d uS) M K)) :=
  congrArg Top (gdS_eq (A := fun ts => opC P T op ts M (fun v M' => regC P T ops os (putS ts d v) M' K)) (B := fun ts => regC P T ops os (putS ts d uS) M K))
end
theorem T_codeC_skip {P : Program} {T : Tab} {bs : Nat} {ts : List SV} {M : List Blk} {Q : Exit → List SV → List Blk → Prop} : Top (codeC P T bs .skip ts M Q) = Top (Q .normal ts M) := congrArg Top codeC_skip
theorem T_codeC_region {P : Program} {T : Tab} {bs : Nat} {ts : List SV} {M : List Blk} {Q : Exit → List SV → List Blk → Prop} {id : Nat} {ops : List Oper} : Top (codeC P T bs (.region id ops.toArray false) ts M Q) = Top (regC P T ops ops ts M (Q .normal)) := congrArg Top codeC_region
theorem T_codeC_draw {P : Program} {T : Tab} {bs : Nat} {ts : List SV} {M : List Blk} {Q : Exit → List SV → List Blk → Prop} {id : Nat} {ops : Array Oper} : Top (codeC P T bs (.region id ops true) ts M Q) = Top (DrawVC P bs id ops ts M Q) := congrArg Top codeC_draw
theorem T_codeC_seq {P : Program} {T : Tab} {bs : Nat} {ts : List SV} {M : List Blk} {Q : Exit → List SV → List Blk → Prop} {a b : Code} : Top (codeC P T bs (.seq a b) ts M Q) = Top (codeC P T bs a ts M (thenC (fun ts M => codeC P T bs b ts M Q) Q)) := congrArg Top codeC_seq
theorem T_codeC_cond {P : Program} {T : Tab} {bs : Nat} {ts : List SV} {M : List Blk} {Q : Exit → List SV → List Blk → Prop} {c : Operand} {a b : Code} : Top (codeC P T bs (.cond c a b) ts M Q) = Top (condC (evS ts c) (codeC P T bs a ts M Q) (codeC P T bs b ts M Q)) := congrArg Top codeC_cond
theorem T_codeC_block {P : Program} {T : Tab} {bs : Nat} {ts : List SV} {M : List Blk} {Q : Exit → List SV → List Blk → Prop} {id : Nat} {c : Code} : Top (codeC P T bs (.block id c) ts M Q) = Top (codeC P T bs c ts M (blockC id Q)) := congrArg Top codeC_block
theorem T_codeC_loop {P : Program} {T : Tab} {bs : Nat} {ts : List SV} {M : List Blk} {Q : Exit → List SV → List Blk → Prop} {c : Code} : Top (codeC P T bs (.loop c) ts M Q) = Top (LoopVC P bs c ts M Q) := congrArg Top codeC_loop
theorem T_roundsC_succ {P : Program} {T : Tab} {bs : Nat} {ts : List SV} {M : List Blk} {Q : Exit → List SV → List Blk → Prop} {c : Code} {n : Nat} : Top (roundsC P T bs c Q (n + 1) ts M) = Top (codeC P T bs c ts M (thenC (fun ts M => roundsC P T bs c Q n ts M) Q)) := congrArg Top roundsC_succ
theorem T_codeC_exit {P : Program} {T : Tab} {bs : Nat} {ts : List SV} {M : List Blk} {Q : Exit → List SV → List Blk → Prop} {id : Nat} : Top (codeC P T bs (.exit id) ts M Q) = Top (Q (.exit id) ts M) := congrArg Top codeC_exit
theorem T_codeC_ret {P : Program} {T : Tab} {bs : Nat} {ts : List SV} {M : List Blk} {Q : Exit → List SV → List Blk → Prop} : Top (codeC P T bs .ret ts M Q) = Top (Q .ret ts M) := congrArg Top codeC_ret
theorem T_opC_move {P : Program} {T : Tab} {ts : List SV} {M : List Blk} {K : SV → List Blk → Prop} {x : Operand} : Top (opC P T (.move x) ts M K) = Top (K (evS ts x) M) := congrArg Top opC_move
theorem T_opC_assign {P : Program} {T : Tab} {ts : List SV} {M : List Blk} {K : SV → List Blk → Prop} {x : Operand} : Top (opC P T (.assign x) ts M K) = Top (K (evS ts x) M) := congrArg Top opC_assign
theorem T_opC_pick {P : Program} {T : Tab} {ts : List SV} {M : List Blk} {K : SV → List Blk → Prop} {c x y : Operand} : Top (opC P T (.pick c x y) ts M K) = Top (pickC (evS ts c) (evS ts x) (evS ts y) (fun v => K v M)) := congrArg Top opC_pick
theorem T_opC_alloc {P : Program} {T : Tab} {ts : List SV} {M : List Blk} {K : SV → List Blk → Prop} {t : TypeId} : Top (opC P T (.alloc t) ts M K) = Top (allocC T t M K) := congrArg Top opC_alloc
theorem T_opC_box {P : Program} {T : Tab} {ts : List SV} {M : List Blk} {K : SV → List Blk → Prop} {t : TypeId} {x : Operand} : Top (opC P T (.box t x) ts M K) = Top (boxC t (evS ts x) M K) := congrArg Top opC_box
theorem T_opC_build {P : Program} {T : Tab} {ts : List SV} {M : List Blk} {K : SV → List Blk → Prop} {t : TypeId} {ps : List (Nat × Operand)} : Top (opC P T (.build t ps.toArray) ts M K) = Top (buildC T t (ps.map fun x => (x.1, evS ts x.2)) (fun v => K v M)) := congrArg Top opC_build
theorem T_opC_buildSlice {P : Program} {T : Tab} {ts : List SV} {M : List Blk} {K : SV → List Blk → Prop} {t : TypeId} {n : Nat} {ps : List (Nat × Operand)} : Top (opC P T (.buildSlice t n ps.toArray) ts M K) = Top (bsC T t n (ps.map fun x => (x.1, evS ts x.2)) M K) := congrArg Top opC_buildSlice
theorem T_opC_s2a {P : Program} {T : Tab} {ts : List SV} {M : List Blk} {K : SV → List Blk → Prop} {t : TypeId} {x : Operand} : Top (opC P T (.sliceToArrayPointer t x) ts M K) = Top (apC T t (evS ts x) (fun v => K v M)) := congrArg Top opC_s2a
theorem T_opC_load {P : Program} {T : Tab} {ts : List SV} {M : List Blk} {K : SV → List Blk → Prop} {t : TypeId} {x : Operand} : Top (opC P T (.load t x) ts M K) = Top (loadC T t (evS ts x) M (fun v => K v M)) := congrArg Top opC_load
theorem T_opC_store {P : Program} {T : Tab} {ts : List SV} {M : List Blk} {K : SV → List Blk → Prop} {t : TypeId} {x y : Operand} : Top (opC P T (.store t x y) ts M K) = Top (storeC T t (evS ts x) (evS ts y) M (fun M' => K uS M')) := congrArg Top opC_store
theorem T_opC_nilCheck {P : Program} {T : Tab} {ts : List SV} {M : List Blk} {K : SV → List Blk → Prop} {x : Operand} : Top (opC P T (.nilCheck x) ts M K) = Top (nilC M (evS ts x) (fun v => K v M)) := congrArg Top opC_nilCheck
theorem T_opC_binOp {P : Program} {T : Tab} {ts : List SV} {M : List Blk} {K : SV → List Blk → Prop} {op : BinOp} {t u : TypeId} {x y : Operand} : Top (opC P T (.binOp op t x y u) ts M K) = Top (binC T M op t (evS ts x) (evS ts y) (fun v => K v M)) := congrArg Top opC_binOp
theorem T_opC_unOp {P : Program} {T : Tab} {ts : List SV} {M : List Blk} {K : SV → List Blk → Prop} {op : UnOp} {t : TypeId} {x : Operand} : Top (opC P T (.unOp op t x) ts M K) = Top (unC op (evS ts x) (fun v => K v M)) := congrArg Top opC_unOp
theorem T_opC_convert {P : Program} {T : Tab} {ts : List SV} {M : List Blk} {K : SV → List Blk → Prop} {s d : TypeId} {x : Operand} : Top (opC P T (.convert s d x) ts M K) = Top (convG T M s d (evS ts x) (fun v => K v M)) := congrArg Top opC_convert
theorem T_opC_slice {P : Program} {T : Tab} {ts : List SV} {M : List Blk} {K : SV → List Blk → Prop} {t : TypeId} {x : Operand} {lo hi mx : Option Operand} : Top (opC P T (.slice t x lo hi mx) ts M K) = Top (sliceC T M t (evS ts x) (lo.map (evS ts)) (hi.map (evS ts)) (mx.map (evS ts)) (fun v => K v M)) := congrArg Top opC_slice
theorem T_opC_fieldAddr {P : Program} {T : Tab} {ts : List SV} {M : List Blk} {K : SV → List Blk → Prop} {t : TypeId} {x : Operand} {f : Nat} : Top (opC P T (.fieldAddr t x f) ts M K) = Top (faC T M t (evS ts x) f (fun v => K v M)) := congrArg Top opC_fieldAddr
theorem T_opC_indexAddr {P : Program} {T : Tab} {ts : List SV} {M : List Blk} {K : SV → List Blk → Prop} {t : TypeId} {x i : Operand} : Top (opC P T (.indexAddr t x i) ts M K) = Top (ixaC T M t (evS ts x) (evS ts i) (fun v => K v M)) := congrArg Top opC_indexAddr
theorem T_opC_index {P : Program} {T : Tab} {ts : List SV} {M : List Blk} {K : SV → List Blk → Prop} {t : TypeId} {x i : Operand} : Top (opC P T (.index t x i) ts M K) = Top (ixC T t (evS ts x) (evS ts i) (fun v => K v M)) := congrArg Top opC_index
theorem T_opC_extract {P : Program} {T : Tab} {ts : List SV} {M : List Blk} {K : SV → List Blk → Prop} {x : Operand} {i : Nat} : Top (opC P T (.extract x i) ts M K) = Top (extC (evS ts x) i (fun v => K v M)) := congrArg Top opC_extract
theorem T_opC_makeSlice {P : Program} {T : Tab} {ts : List SV} {M : List Blk} {K : SV → List Blk → Prop} {t : TypeId} {l c : Operand} : Top (opC P T (.makeSlice t l c) ts M K) = Top (makeC T t (evS ts l) (evS ts c) M K) := congrArg Top opC_makeSlice
theorem T_opC_makeFunc {P : Program} {T : Tab} {ts : List SV} {M : List Blk} {K : SV → List Blk → Prop} {f : Fn} {x c : List Operand} : Top (opC P T (.makeFunc f x.toArray c.toArray) ts M K) = Top (K (.fn f (x.map (evS ts)) (c.map (evS ts))) M) := congrArg Top opC_makeFunc
theorem T_opC_builtin {P : Program} {T : Tab} {ts : List SV} {M : List Blk} {K : SV → List Blk → Prop} {b : Builtin} {as : List Operand} {ats : List TypeId} : Top (opC P T (.call { callee := .builtin b, args := as.toArray, argTypes := ats.toArray }) ts M K) = Top (bltC T b ats (as.map (evS ts)) M K) := congrArg Top opC_builtin
theorem T_opC_call {P : Program} {T : Tab} {ts : List SV} {M : List Blk} {K : SV → List Blk → Prop} {f : Operand} {as : List Operand} {ats : Array TypeId} : Top (opC P T (.call { callee := .value f, args := as.toArray, argTypes := ats }) ts M K) = Top (fnC P (evS ts f) (as.map (evS ts)) M K) := congrArg Top opC_call
theorem T_binC_u8u8 {T : Tab} {M : List Blk} {op : BinOp} {t : TypeId} {a b : BitVec 8} {K : SV → Prop} : Top (binC T M op t (.u8 a) (.u8 b) K) = Top (bvC op a b .u8 K) := congrArg Top binC_u8u8
theorem T_binC_u8i {T : Tab} {M : List Blk} {op : BinOp} {t : TypeId} {k : IntKind} {a : BitVec 8} {b : Int} {K : SV → Prop} : Top (binC T M op t (.u8 a) (.i k b) K) = Top ((0 ≤ b ∧ shC op a b.toNat .u8 K)) := congrArg Top binC_u8i
theorem T_binC_u8u64 {T : Tab} {M : List Blk} {op : BinOp} {t : TypeId} {a : BitVec 8} {b : BitVec 64} {K : SV → Prop} : Top (binC T M op t (.u8 a) (.u64 b) K) = Top (shC op a b.toNat .u8 K) := congrArg Top binC_u8u64
theorem T_binC_u32u32 {T : Tab} {M : List Blk} {op : BinOp} {t : TypeId} {a b : BitVec 32} {K : SV → Prop} : Top (binC T M op t (.u32 a) (.u32 b) K) = Top (bvC op a b .u32 K) := congrArg Top binC_u32u32
theorem T_binC_u32i {T : Tab} {M : List Blk} {op : BinOp} {t : TypeId} {k : IntKind} {a : BitVec 32} {b : Int} {K : SV → Prop} : Top (binC T M op t (.u32 a) (.i k b) K) = Top ((0 ≤ b ∧ shC op a b.toNat .u32 K)) := congrArg Top binC_u32i
theorem T_binC_u32u64 {T : Tab} {M : List Blk} {op : BinOp} {t : TypeId} {a : BitVec 32} {b : BitVec 64} {K : SV → Prop} : Top (binC T M op t (.u32 a) (.u64 b) K) = Top (shC op a b.toNat .u32 K) := congrArg Top binC_u32u64
theorem T_binC_u64u64 {T : Tab} {M : List Blk} {op : BinOp} {t : TypeId} {a b : BitVec 64} {K : SV → Prop} : Top (binC T M op t (.u64 a) (.u64 b) K) = Top (bvC op a b .u64 K) := congrArg Top binC_u64u64
theorem T_binC_u64i {T : Tab} {M : List Blk} {op : BinOp} {t : TypeId} {k : IntKind} {a : BitVec 64} {b : Int} {K : SV → Prop} : Top (binC T M op t (.u64 a) (.i k b) K) = Top ((0 ≤ b ∧ shC op a b.toNat .u64 K)) := congrArg Top binC_u64i
theorem T_binC_ii {T : Tab} {M : List Blk} {op : BinOp} {t : TypeId} {a b : Int} {K : SV → Prop} : Top (binC T M op t (.i .i64 a) (.i .i64 b) K) = Top (intC op .i64 a b K) := congrArg Top binC_ii
theorem T_binC_eql_snsn {T : Tab} {M : List Blk} {t : TypeId}  {K : SV → Prop} : Top (binC T M .eql t (.sn) (.sn) K) = Top (eqC T M t (.sn) (.sn) (fun r => K (.b (r)))) := congrArg Top binC_eql_snsn
theorem T_eqC_snsn {T : Tab} {M : List Blk} {t : TypeId}  {K : Bool → Prop} : Top (eqC T M t (.sn) (.sn) K) = Top ((isSl (T.k t) = true ∧ K true)) := congrArg Top eqC_snsn
theorem T_binC_eql_slsn {T : Tab} {M : List Blk} {t : TypeId} {n off len cap : Nat} {K : SV → Prop} : Top (binC T M .eql t (.sl n off len cap) (.sn) K) = Top (eqC T M t (.sl n off len cap) (.sn) (fun r => K (.b (r)))) := congrArg Top binC_eql_slsn
theorem T_eqC_slsn {T : Tab} {M : List Blk} {t : TypeId} {n off len cap : Nat} {K : Bool → Prop} : Top (eqC T M t (.sl n off len cap) (.sn) K) = Top ((isSl (T.k t) = true ∧ liveN M n = true ∧ K false)) := congrArg Top eqC_slsn
theorem T_binC_neq_agg {T : Tab} {M : List Blk} {t : TypeId} {xs ys : List SV} {K : SV → Prop} : Top (binC T M .neq t (.agg xs) (.agg ys) K) = Top (eqC T M t (.agg xs) (.agg ys) (fun r => K (.b (!r)))) := congrArg Top binC_neq_agg
theorem T_eqC_agg {T : Tab} {M : List Blk} {t : TypeId} {xs ys : List SV} {K : Bool → Prop} : Top (eqC T M t (.agg xs) (.agg ys) K) = Top (aggEq T t xs ys K) := congrArg Top eqC_agg
theorem T_blockC_exit {id id' : Nat} {Q : Exit → List SV → List Blk → Prop} {ts : List SV} {M : List Blk} : Top (blockC id Q (.exit id') ts M) = Top ((if id' = id then Q .normal ts M else Q (.exit id') ts M)) := congrArg Top blockC_exit
theorem T_thenC_exit {id' : Nat} {n : List SV → List Blk → Prop} {Q : Exit → List SV → List Blk → Prop} {ts : List SV} {M : List Blk} : Top (thenC n Q (.exit id') ts M) = Top (Q (.exit id') ts M) := congrArg Top thenC_exit
theorem T_blockC_normal {id : Nat} {Q : Exit → List SV → List Blk → Prop} {ts : List SV} {M : List Blk} : Top (blockC id Q .normal ts M) = Top (Q .normal ts M) := congrArg Top blockC_normal
theorem T_blockC_ret {id : Nat} {Q : Exit → List SV → List Blk → Prop} {ts : List SV} {M : List Blk} : Top (blockC id Q .ret ts M) = Top (Q .ret ts M) := congrArg Top blockC_ret
theorem T_thenC_normal {n : List SV → List Blk → Prop} {Q : Exit → List SV → List Blk → Prop} {ts : List SV} {M : List Blk} : Top (thenC n Q .normal ts M) = Top (n ts M) := congrArg Top thenC_normal
theorem T_thenC_ret {n : List SV → List Blk → Prop} {Q : Exit → List SV → List Blk → Prop} {ts : List SV} {M : List Blk} : Top (thenC n Q .ret ts M) = Top (Q .ret ts M) := congrArg Top thenC_ret
theorem T_cellC_u8 {cs : List SV} {j : Nat} {K : SV → Prop} : Top (cellC (.int .u8) cs j K) = Top ((is8 cs j = true ∧ K (.u8 (cell8 cs j)))) := congrArg Top cellC_u8
theorem T_cellC_u32 {cs : List SV} {j : Nat} {K : SV → Prop} : Top (cellC (.int .u32) cs j K) = Top ((is32 cs j = true ∧ K (.u32 (cell32 cs j)))) := congrArg Top cellC_u32
theorem T_cellC_u64 {cs : List SV} {j : Nat} {K : SV → Prop} : Top (cellC (.int .u64) cs j K) = Top ((is64 cs j = true ∧ K (.u64 (cell64 cs j)))) := congrArg Top cellC_u64
theorem T_cellC_i64 {cs : List SV} {j : Nat} {K : SV → Prop} : Top (cellC (.int .i64) cs j K) = Top ((isI .i64 cs j = true ∧ K (.i .i64 (cellI cs j)))) := congrArg Top cellC_i64
theorem T_cellC_arr {n e esz sz : Nat} {cs : List SV} {j : Nat} {K : SV → Prop} : Top (cellC (.arr n e esz sz) cs j K) = Top ((0 < sz ∧ j + sz ≤ cs.length ∧ K (.agg ((cs.drop j).take sz)))) := congrArg Top cellC_arr
theorem T_cellC_struct {sz : Nat} {cs : List SV} {j : Nat} {K : SV → Prop} : Top (cellC (.struct sz) cs j K) = Top ((0 < sz ∧ j + sz ≤ cs.length ∧ K (.agg ((cs.drop j).take sz)))) := congrArg Top cellC_struct
theorem T_cellC_ptr {cs : List SV} {j : Nat} {K : SV → Prop} : Top (cellC .ptr cs j K) = Top ((j < cs.length ∧ K (cs.getD j uS))) := congrArg Top cellC_ptr
theorem T_cellC_slice {e a b : Nat} {cs : List SV} {j : Nat} {K : SV → Prop} : Top (cellC (.slice e a b) cs j K) = Top ((j < cs.length ∧ K (cs.getD j uS))) := congrArg Top cellC_slice
theorem T_storeB_slice {e a b n off : Nat} {v : SV} {M : List Blk} {cs : List SV} {ty : TypeId} {K : List Blk → Prop} : Top (storeB (.slice e a b) n off v M (some (.row cs ty)) K) = Top ((v.one = true ∧ off < cs.length ∧ K (M.set n (.row (cs.set off v) ty)))) := congrArg Top storeB_slice
theorem T_storeB_int {k : IntKind} {n off : Nat} {v : SV} {M : List Blk} {cs : List SV} {ty : TypeId} {K : List Blk → Prop} : Top (storeB (.int k) n off v M (some (.row cs ty)) K) = Top ((v.one = true ∧ off < cs.length ∧ K (M.set n (.row (cs.set off v) ty)))) := congrArg Top storeB_int
theorem T_storeB_arr {m e esz sz n off : Nat} {vs : List SV} {M : List Blk} {cs : List SV} {ty : TypeId} {K : List Blk → Prop} : Top (storeB (.arr m e esz sz) n off (.agg vs) M (some (.row cs ty)) K) = Top ((0 < sz ∧ vs.length = sz ∧ vs.all SV.one = true ∧ off + sz ≤ cs.length ∧ K (M.set n (.row (splice cs off vs) ty)))) := congrArg Top storeB_arr
theorem T_storeB_struct {sz n off : Nat} {vs : List SV} {M : List Blk} {cs : List SV} {ty : TypeId} {K : List Blk → Prop} : Top (storeB (.struct sz) n off (.agg vs) M (some (.row cs ty)) K) = Top ((0 < sz ∧ vs.length = sz ∧ vs.all SV.one = true ∧ off + sz ≤ cs.length ∧ K (M.set n (.row (splice cs off vs) ty)))) := congrArg Top storeB_struct
theorem T_loadC_p {T : Tab} {t : TypeId} {n off : Nat} {M : List Blk} {K : SV → Prop} : Top (loadC T t (.p n off) M K) = Top (cellC (T.k t) (cellsAt M n) off K) := congrArg Top loadC_p
theorem T_storeC_p {T : Tab} {t : TypeId} {n off : Nat} {v : SV} {M : List Blk} {K : List Blk → Prop} : Top (storeC T t (.p n off) v M K) = Top (storeB (T.k t) n off v M M[n]? K) := congrArg Top storeC_p
theorem T_allocC_eq {T : Tab} {t : TypeId} {M : List Blk} {K : SV → List Blk → Prop} : Top (allocC T t M K) = Top (allocB (T.z t) t M K) := congrArg Top allocC_eq
theorem T_allocB_some {cs : List SV} {t : TypeId} {M : List Blk} {K : SV → List Blk → Prop} : Top (allocB (some cs) t M K) = Top (K (.p M.length 0) (M ++ [.row cs t])) := congrArg Top allocB_some
theorem T_boxC_eq {t : TypeId} {x : SV} {M : List Blk} {K : SV → List Blk → Prop} : Top (boxC t x M K) = Top (((cellsS x).all SV.one = true ∧ K (.p M.length 0) (M ++ [.row (cellsS x) t]))) := congrArg Top boxC_eq
theorem T_ixaC_eq {T : Tab} {M : List Blk} {t : TypeId} {x i : SV} {K : SV → Prop} : Top (ixaC T M t x i K) = Top (ixaB (T.k t) M x (ixOf i) K) := congrArg Top ixaC_eq
theorem T_ixaB_arr {M : List Blk} {n e esz sz nm off : Nat} {j : Int} {K : SV → Prop} : Top (ixaB (.arr n e esz sz) M (.p nm off) (some j) K) = Top ((0 ≤ j ∧ j < n ∧ 0 < esz ∧ off + (j.toNat + 1) * esz ≤ (cellsAt M nm).length ∧ K (.p nm (off + j.toNat * esz)))) := congrArg Top ixaB_arr
theorem T_ixaB_sl {M : List Blk} {e esz eby nm off len cap : Nat} {j : Int} {K : SV → Prop} : Top (ixaB (.slice e esz eby) M (.sl nm off len cap) (some j) K) = Top ((0 ≤ j ∧ j < len ∧ 0 < esz ∧ off + (j.toNat + 1) * esz ≤ (cellsAt M nm).length ∧ K (.p nm (off + j.toNat * esz)))) := congrArg Top ixaB_sl
theorem T_ixC_eq {T : Tab} {t : TypeId} {x i : SV} {K : SV → Prop} : Top (ixC T t x i K) = Top (ixB T (T.k t) x (ixOf i) K) := congrArg Top ixC_eq
theorem T_ixB_arr {T : Tab} {n e esz sz : Nat} {l : List SV} {j : Int} {K : SV → Prop} : Top (ixB T (.arr n e esz sz) (.agg l) (some j) K) = Top ((0 ≤ j ∧ j < n ∧ cellC (T.k e) l (j.toNat * esz) K)) := congrArg Top ixB_arr
theorem T_faC_eq {T : Tab} {M : List Blk} {s : TypeId} {x : SV} {f : Nat} {K : SV → Prop} : Top (faC T M s x f K) = Top (faB (T.f s f) M x K) := congrArg Top faC_eq
theorem T_faB_p {M : List Blk} {fo sz ft n off : Nat} {K : SV → Prop} : Top (faB (some (fo, sz, ft)) M (.p n off) K) = Top ((off + fo + sz ≤ (cellsAt M n).length ∧ K (.p n (off + fo)))) := congrArg Top faB_p
theorem T_nilC_p {M : List Blk} {n off : Nat} {K : SV → Prop} : Top (nilC M (.p n off) K) = Top ((liveN M n = true ∧ K (.p n off))) := congrArg Top nilC_p
theorem T_convG_eq {T : Tab} {M : List Blk} {s d : TypeId} {x : SV} {K : SV → Prop} : Top (convG T M s d x K) = Top (convH T M (T.k s) (T.k d) x K) := congrArg Top convG_eq
theorem T_convH_int {T : Tab} {M : List Blk} {tk : TK} {k : IntKind} {x : SV} {K : SV → Prop} : Top (convH T M tk (.int k) x K) = Top (convB (.int k) x K) := congrArg Top convH_int
theorem T_convB_u8_i {k : IntKind} {a : Int} {K : SV → Prop} : Top (convB (.int .u8) (.i k a) K) = Top (K (.u8 (BitVec.ofInt 8 a))) := congrArg Top convB_u8_i
theorem T_convB_u8_u32 {a : BitVec 32} {K : SV → Prop} : Top (convB (.int .u8) (.u32 a) K) = Top (K (.u8 (a.setWidth 8))) := congrArg Top convB_u8_u32
theorem T_convB_u8_u64 {a : BitVec 64} {K : SV → Prop} : Top (convB (.int .u8) (.u64 a) K) = Top (K (.u8 (a.setWidth 8))) := congrArg Top convB_u8_u64
theorem T_convB_u32_i {k : IntKind} {a : Int} {K : SV → Prop} : Top (convB (.int .u32) (.i k a) K) = Top (K (.u32 (BitVec.ofInt 32 a))) := congrArg Top convB_u32_i
theorem T_convB_u32_u64 {a : BitVec 64} {K : SV → Prop} : Top (convB (.int .u32) (.u64 a) K) = Top (K (.u32 (a.setWidth 32))) := congrArg Top convB_u32_u64
theorem T_convB_u64_i {k : IntKind} {a : Int} {K : SV → Prop} : Top (convB (.int .u64) (.i k a) K) = Top (K (.u64 (BitVec.ofInt 64 a))) := congrArg Top convB_u64_i
theorem T_convB_u64_u8 {a : BitVec 8} {K : SV → Prop} : Top (convB (.int .u64) (.u8 a) K) = Top (K (.u64 (a.setWidth 64))) := congrArg Top convB_u64_u8
theorem T_convB_u64_u32 {a : BitVec 32} {K : SV → Prop} : Top (convB (.int .u64) (.u32 a) K) = Top (K (.u64 (a.setWidth 64))) := congrArg Top convB_u64_u32
theorem T_convB_i64_u8 {a : BitVec 8} {K : SV → Prop} : Top (convB (.int .i64) (.u8 a) K) = Top (K (.i .i64 a.toNat)) := congrArg Top convB_i64_u8
theorem T_convB_i64_u32 {a : BitVec 32} {K : SV → Prop} : Top (convB (.int .i64) (.u32 a) K) = Top (K (.i .i64 a.toNat)) := congrArg Top convB_i64_u32
theorem T_unC_not {a : Bool} {K : SV → Prop} : Top (unC .not (.b a) K) = Top (K (.b (!a))) := congrArg Top unC_not
theorem T_unC_xor_u8 {a : BitVec 8} {K : SV → Prop} : Top (unC .xor (.u8 a) K) = Top (K (.u8 (~~~a))) := congrArg Top unC_xor_u8
theorem T_unC_xor_u32 {a : BitVec 32} {K : SV → Prop} : Top (unC .xor (.u32 a) K) = Top (K (.u32 (~~~a))) := congrArg Top unC_xor_u32
theorem T_unC_xor_u64 {a : BitVec 64} {K : SV → Prop} : Top (unC .xor (.u64 a) K) = Top (K (.u64 (~~~a))) := congrArg Top unC_xor_u64
theorem T_extC_tup {l : List SV} {i : Nat} {K : SV → Prop} : Top (extC (.tup l) i K) = Top (extB l[i]? K) := congrArg Top extC_tup
theorem T_extB_some {v : SV} {K : SV → Prop} : Top (extB (some v) K) = Top (K v) := congrArg Top extB_some
theorem T_aggEq_eq {T : Tab} {t : TypeId} {xs ys : List SV} {K : Bool → Prop} : Top (aggEq T t xs ys K) = Top (aggB T (T.k t) (T.eqp.getD t false) (T.eqk.getD t none) xs ys K) := congrArg Top aggEq_eq
theorem T_aggB_arr {T : Tab} {n e esz sz : Nat} {g : Bool} {q : Option (List IntKind)} {xs ys : List SV} {K : Bool → Prop} : Top (aggB T (.arr n e esz sz) g q xs ys K) = Top (aggI (T.k e) n esz g xs ys K) := congrArg Top aggB_arr
theorem T_aggI_int {k : IntKind} {n esz : Nat} {g : Bool} {xs ys : List SV} {K : Bool → Prop} : Top (aggI (.int k) n esz g xs ys K) = Top ((esz = 1 ∧ g = true ∧ xs.length = n ∧ ys.length = n ∧ xs.all (ofK k) = true ∧ ys.all (ofK k) = true ∧ K (eqL xs ys))) := congrArg Top aggI_int
theorem T_buildC_eq {T : Tab} {t : TypeId} {ps : List (Nat × SV)} {K : SV → Prop} : Top (buildC T t ps K) = Top (buildB T t (T.z t) (T.k t) ps K) := congrArg Top buildC_eq
theorem T_buildB_arr {T : Tab} {t n e esz sz : Nat} {z : List SV} {ps : List (Nat × SV)} {K : SV → Prop} : Top (buildB T t (some z) (.arr n e esz sz) ps K) = Top (aggO (fillS (fun i => some (i * esz, esz)) z ps) K) := congrArg Top buildB_arr
theorem T_buildB_struct {T : Tab} {t sz : Nat} {z : List SV} {ps : List (Nat × SV)} {K : SV → Prop} : Top (buildB T t (some z) (.struct sz) ps K) = Top (aggO (fillS (fun i => (T.f t i).map fun x => (x.1, x.2.1)) z ps) K) := congrArg Top buildB_struct
theorem T_aggO_some {l : List SV} {K : SV → Prop} : Top (aggO (some l) K) = Top (K (.agg l)) := congrArg Top aggO_some
theorem T_fnC_fn {P : Program} {f : FuncId} {a c as : List SV} {M : List Blk} {K : SV → List Blk → Prop} : Top (fnC P (.fn (.func f) a c) as M K) = Top (callVC P f (a ++ as ++ c) M K) := congrArg Top fnC_fn
theorem T_bndC_none {d y : Nat} {K : Nat → Prop} : Top (bndC none d y K) = Top (K d) := congrArg Top bndC_none
theorem T_bndC_some {v : SV} {d y : Nat} {K : Nat → Prop} : Top (bndC (some v) d y K) = Top (bndB (ixOf v) y K) := congrArg Top bndC_some
theorem T_bndB_some {j : Int} {y : Nat} {K : Nat → Prop} : Top (bndB (some j) y K) = Top ((0 ≤ j ∧ j ≤ y ∧ K j.toNat)) := congrArg Top bndB_some
theorem T_bnds_nn {len cap : Nat} {lo : Option SV} {K : Nat → Nat → Nat → Prop} : Top (bnds len cap lo none none K) = Top (bndC lo 0 len fun l => K l len cap) := congrArg Top bnds_nn
theorem T_bnds_sn {len cap : Nat} {lo : Option SV} {hi : SV} {K : Nat → Nat → Nat → Prop} : Top (bnds len cap lo (some hi) none K) = Top (bndC (some hi) len cap fun h => bndC lo 0 h fun l => K l h cap) := congrArg Top bnds_sn
theorem T_bnds_ss {len cap : Nat} {lo : Option SV} {hi mx : SV} {K : Nat → Nat → Nat → Prop} : Top (bnds len cap lo (some hi) (some mx) K) = Top (bndC (some mx) cap cap fun m => bndC (some hi) len m fun h => bndC lo 0 h fun l => K l h m) := congrArg Top bnds_ss
theorem T_sliceC_eq {T : Tab} {M : List Blk} {t : TypeId} {x : SV} {lo hi mx : Option SV} {K : SV → Prop} : Top (sliceC T M t x lo hi mx K) = Top (sliceB (T.k t) M x lo hi mx K) := congrArg Top sliceC_eq
theorem T_sliceB_arr {n e esz sz nm off : Nat} {M : List Blk} {lo hi mx : Option SV} {K : SV → Prop} : Top (sliceB (.arr n e esz sz) M (.p nm off) lo hi mx K) = Top ((liveN M nm = true ∧ bnds n n lo hi mx fun l h m => K (.sl nm (if m = l then off else off + l * esz) (h - l) (m - l)))) := congrArg Top sliceB_arr
theorem T_sliceB_sl {e esz eby nm off len cap : Nat} {M : List Blk} {lo hi mx : Option SV} {K : SV → Prop} : Top (sliceB (.slice e esz eby) M (.sl nm off len cap) lo hi mx K) = Top ((bnds len cap lo hi mx fun l h m => K (.sl nm (if m = l then off else off + l * esz) (h - l) (m - l)))) := congrArg Top sliceB_sl
theorem T_bsC_eq {T : Tab} {t : TypeId} {n : Nat} {ps : List (Nat × SV)} {M : List Blk} {K : SV → List Blk → Prop} : Top (bsC T t n ps M K) = Top (bsB T (T.k t) n ps M K) := congrArg Top bsC_eq
theorem T_bsB_sl {T : Tab} {e esz eby n : Nat} {ps : List (Nat × SV)} {M : List Blk} {K : SV → List Blk → Prop} : Top (bsB T (.slice e esz eby) n ps M K) = Top ((0 < esz ∧ n * esz ≤ 2 ^ 24 ∧ bsD (T.z e) e esz n (idxP 0 n ps) ps M K)) := congrArg Top bsB_sl
theorem T_bsD_t {z : List SV} {e esz n : Nat} {ps : List (Nat × SV)} {M : List Blk} {K : SV → List Blk → Prop} : Top (bsD (some z) e esz n true ps M K) = Top ((partsOK esz ps ∧ K (.sl M.length 0 n n) (M ++ [.row (catS ps) e]))) := congrArg Top bsD_t
theorem T_partsOK_nil {e : Nat} : Top (partsOK e []) = Top (True) := congrArg Top partsOK_nil
theorem T_partsOK_cons {e i : Nat} {v : SV} {r : List (Nat × SV)} : Top (partsOK e ((i, v) :: r)) = Top (((cellsS v).length = e ∧ (cellsS v).all SV.one = true ∧ partsOK e r)) := congrArg Top partsOK_cons
theorem T_apC_eq {T : Tab} {t : TypeId} {x : SV} {K : SV → Prop} : Top (apC T t x K) = Top (apB (T.k t) x K) := congrArg Top apC_eq
theorem T_apB_arr {n e a b m off l c : Nat} {K : SV → Prop} : Top (apB (.arr n e a b) (.sl m off l c) K) = Top ((n ≤ l ∧ K (.p m off))) := congrArg Top apB_arr
theorem T_makeC_eq {T : Tab} {t : TypeId} {l c : SV} {M : List Blk} {K : SV → List Blk → Prop} : Top (makeC T t l c M K) = Top (makeB T (T.k t) (ixOf l) (ixOf c) M K) := congrArg Top makeC_eq
theorem T_makeB_sl {T : Tab} {e esz eby : Nat} {l c : Int} {M : List Blk} {K : SV → List Blk → Prop} : Top (makeB T (.slice e esz eby) (some l) (some c) M K) = Top ((0 ≤ l ∧ l ≤ c ∧ c ≤ 2 ^ 62 ∧ eby * c ≤ 2 ^ 48 ∧ makeD (T.z e) e l c M K)) := congrArg Top makeB_sl
theorem T_makeD_some {z : List SV} {e : Nat} {l c : Int} {M : List Blk} {K : SV → List Blk → Prop} : Top (makeD (some z) e l c M K) = Top (K (.sl M.length 0 l.toNat c.toNat) (M ++ [.row (zerosS z c.toNat) e])) := congrArg Top makeD_some
theorem T_bltC_len {T : Tab} {M : List Blk} {t : TypeId} {x : SV} {K : SV → List Blk → Prop} : Top (bltC T .len [t] [x] M K) = Top (lenB (T.k t) M x (fun v => K v M)) := congrArg Top bltC_len
theorem T_bltC_append {T : Tab} {M : List Blk} {t u : TypeId} {s x : SV} {K : SV → List Blk → Prop} : Top (bltC T .append [t, u] [s, x] M K) = Top (appendC T M t u s x K) := congrArg Top bltC_append
theorem T_bltC_copy {T : Tab} {M : List Blk} {t u : TypeId} {d x : SV} {K : SV → List Blk → Prop} : Top (bltC T .copy [t, u] [d, x] M K) = Top (copyC T M t d x K) := congrArg Top bltC_copy
theorem T_bltC_min {T : Tab} {M : List Blk} {ats : List TypeId} {l : List SV} {K : SV → List Blk → Prop} : Top (bltC T .min ats l M K) = Top (minC l (fun v => K v M)) := congrArg Top bltC_min
theorem T_lenB_sl {M : List Blk} {e a b n off l c : Nat} {K : SV → Prop} : Top (lenB (.slice e a b) M (.sl n off l c) K) = Top (K (.i .i64 l)) := congrArg Top lenB_sl
theorem T_lenB_sn {M : List Blk} {e a b : Nat} {K : SV → Prop} : Top (lenB (.slice e a b) M .sn K) = Top (K (.i .i64 0)) := congrArg Top lenB_sn
theorem T_minC_2 {k k' : IntKind} {a b : Int} {K : SV → Prop} : Top (minC [.i k a, .i k' b] K) = Top (K (.i k (min a b))) := congrArg Top minC_2
theorem T_resL_nil {T : Tab} {ts : List SV} {M : List Blk} {K : List SV → Prop} : Top (resL T ts M [] K) = Top (K []) := congrArg Top resL_nil
theorem T_resL_tmp {T : Tab} {ts : List SV} {M : List Blk} {t : Nat} {rs : List ResultVar} {K : List SV → Prop} : Top (resL T ts M (.tmp t :: rs) K) = Top (resL T ts M rs (fun l => K (ts.getD t uS :: l))) := congrArg Top resL_tmp
theorem T_resL_cell {T : Tab} {ts : List SV} {M : List Blk} {a t : Nat} {rs : List ResultVar} {K : List SV → Prop} : Top (resL T ts M (.cell a t :: rs) K) = Top (loadC T t (ts.getD a uS) M (fun v => resL T ts M rs (fun l => K (v :: l)))) := congrArg Top resL_cell
theorem T_endC_normal {T : Tab} {m0 : Nat} {rs : List ResultVar} {K : SV → List Blk → Prop} {ts : List SV} {M : List Blk} : Top (endC T m0 rs K .normal ts M) = Top (resL T ts M rs fun l => dropC m0 (tupS l) M K) := congrArg Top endC_normal
theorem T_endC_ret {T : Tab} {m0 : Nat} {rs : List ResultVar} {K : SV → List Blk → Prop} {ts : List SV} {M : List Blk} : Top (endC T m0 rs K .ret ts M) = Top (resL T ts M rs fun l => dropC m0 (tupS l) M K) := congrArg Top endC_ret
theorem T_bvC_add {n : Nat} {a b : BitVec n} {mk : BitVec n → SV} {K : SV → Prop} : Top (bvC .add a b mk K) = Top (K (mk (a + b))) := congrArg Top bvC_add
theorem T_bvC_mul {n : Nat} {a b : BitVec n} {mk : BitVec n → SV} {K : SV → Prop} : Top (bvC .mul a b mk K) = Top (K (mk (a * b))) := congrArg Top bvC_mul
theorem T_bvC_and {n : Nat} {a b : BitVec n} {mk : BitVec n → SV} {K : SV → Prop} : Top (bvC .and a b mk K) = Top (K (mk (a &&& b))) := congrArg Top bvC_and
theorem T_bvC_or {n : Nat} {a b : BitVec n} {mk : BitVec n → SV} {K : SV → Prop} : Top (bvC .or a b mk K) = Top (K (mk (a ||| b))) := congrArg Top bvC_or
theorem T_bvC_xor {n : Nat} {a b : BitVec n} {mk : BitVec n → SV} {K : SV → Prop} : Top (bvC .xor a b mk K) = Top (K (mk (a ^^^ b))) := congrArg Top bvC_xor
theorem T_bvC_shl {n : Nat} {a b : BitVec n} {mk : BitVec n → SV} {K : SV → Prop} : Top (bvC .shl a b mk K) = Top (K (mk (a <<< b.toNat))) := congrArg Top bvC_shl
theorem T_bvC_shr {n : Nat} {a b : BitVec n} {mk : BitVec n → SV} {K : SV → Prop} : Top (bvC .shr a b mk K) = Top (K (mk (a >>> b.toNat))) := congrArg Top bvC_shr
theorem T_bvC_eql {n : Nat} {a b : BitVec n} {mk : BitVec n → SV} {K : SV → Prop} : Top (bvC .eql a b mk K) = Top (K (.b (a == b))) := congrArg Top bvC_eql
theorem T_bvC_neq {n : Nat} {a b : BitVec n} {mk : BitVec n → SV} {K : SV → Prop} : Top (bvC .neq a b mk K) = Top (K (.b (a != b))) := congrArg Top bvC_neq
theorem T_bvC_lss {n : Nat} {a b : BitVec n} {mk : BitVec n → SV} {K : SV → Prop} : Top (bvC .lss a b mk K) = Top (K (.b (decide (a.toNat < b.toNat)))) := congrArg Top bvC_lss
theorem T_bvC_leq {n : Nat} {a b : BitVec n} {mk : BitVec n → SV} {K : SV → Prop} : Top (bvC .leq a b mk K) = Top (K (.b (decide (a.toNat ≤ b.toNat)))) := congrArg Top bvC_leq
theorem T_bvC_gtr {n : Nat} {a b : BitVec n} {mk : BitVec n → SV} {K : SV → Prop} : Top (bvC .gtr a b mk K) = Top (K (.b (decide (b.toNat < a.toNat)))) := congrArg Top bvC_gtr
theorem T_shC_shl {n c : Nat} {a : BitVec n} {mk : BitVec n → SV} {K : SV → Prop} : Top (shC .shl a c mk K) = Top (K (mk (a <<< c))) := congrArg Top shC_shl
theorem T_shC_shr {n c : Nat} {a : BitVec n} {mk : BitVec n → SV} {K : SV → Prop} : Top (shC .shr a c mk K) = Top (K (mk (a >>> c))) := congrArg Top shC_shr
theorem T_intC_add {k : IntKind} {a b : Int} {K : SV → Prop} : Top (intC .add k a b K) = Top (K (.i k (k.wrap (a + b)))) := congrArg Top intC_add
theorem T_intC_sub {k : IntKind} {a b : Int} {K : SV → Prop} : Top (intC .sub k a b K) = Top (K (.i k (k.wrap (a - b)))) := congrArg Top intC_sub
theorem T_intC_mul {k : IntKind} {a b : Int} {K : SV → Prop} : Top (intC .mul k a b K) = Top (K (.i k (k.wrap (a * b)))) := congrArg Top intC_mul
theorem T_intC_quo {k : IntKind} {a b : Int} {K : SV → Prop} : Top (intC .quo k a b K) = Top ((b ≠ 0 ∧ K (.i k (k.wrap (a.tdiv b))))) := congrArg Top intC_quo
theorem T_intC_rem {k : IntKind} {a b : Int} {K : SV → Prop} : Top (intC .rem k a b K) = Top ((b ≠ 0 ∧ K (.i k (a.tmod b)))) := congrArg Top intC_rem
theorem T_intC_eql {k : IntKind} {a b : Int} {K : SV → Prop} : Top (intC .eql k a b K) = Top (K (.b (a == b))) := congrArg Top intC_eql
theorem T_intC_neq {k : IntKind} {a b : Int} {K : SV → Prop} : Top (intC .neq k a b K) = Top (K (.b (a != b))) := congrArg Top intC_neq
theorem T_intC_lss {k : IntKind} {a b : Int} {K : SV → Prop} : Top (intC .lss k a b K) = Top (K (.b (decide (a < b)))) := congrArg Top intC_lss
theorem T_intC_leq {k : IntKind} {a b : Int} {K : SV → Prop} : Top (intC .leq k a b K) = Top (K (.b (decide (a ≤ b)))) := congrArg Top intC_leq
theorem T_intC_gtr {k : IntKind} {a b : Int} {K : SV → Prop} : Top (intC .gtr k a b K) = Top (K (.b (decide (b < a)))) := congrArg Top intC_gtr
theorem T_intC_geq {k : IntKind} {a b : Int} {K : SV → Prop} : Top (intC .geq k a b K) = Top (K (.b (decide (b ≤ a)))) := congrArg Top intC_geq
theorem T_drawC_nil {P : Program} {T : Tab} {ops : List Oper} {ts : List SV} {M : List Blk} {pd : List Pend} {K : List SV → List Blk → Prop} : Top (drawC P T ops .nil ts M pd K) = Top (K ts M) := congrArg Top drawC_nil
theorem T_drawC_no {P : Program} {T : Tab} {ops : List Oper} {ts : List SV} {M : List Blk} {pd : List Pend} {K : List SV → List Blk → Prop} : Top (drawC P T ops .no ts M pd K) = Top (True) := congrArg Top drawC_no
theorem T_drawC_p {P : Program} {T : Tab} {ops : List Oper} {r : Tr} {ts : List SV} {M : List Blk} {pd : List Pend} {K : List SV → List Blk → Prop} {i : Nat} : Top (drawC P T ops (.p i r) ts M pd K) = Top (drB P T ops (.p i) ops[i]? r ts M pd K) := congrArg Top drawC_p
theorem T_drawC_e {P : Program} {T : Tab} {ops : List Oper} {r : Tr} {ts : List SV} {M : List Blk} {pd : List Pend} {K : List SV → List Blk → Prop} {i : Nat} {rc : List Nat} {alt : Tr} : Top (drawC P T ops (.e i rc r alt) ts M pd K) = Top ((drB P T ops (.e i rc) ops[i]? r ts M pd K ∧ drawC P T ops alt ts M pd K)) := congrArg Top drawC_e
theorem T_drB_p {P : Program} {T : Tab} {ops : List Oper} {r : Tr} {ts : List SV} {M : List Blk} {pd : List Pend} {K : List SV → List Blk → Prop} {d : Option Tmp} {op : Op} {t : TypeId} {p : String} {af : Array Edge} {i : Nat} : Top (drB P T ops (.p i) (some { dst := d, op := op, type := t, pos := p, after := af, guard := none }) r ts M pd K) = Top (opC P T op ts M (fun v M' => drawC P T ops r (putS ts d v) M' ((i, ts, v) :: pd) K)) := congrArg Top drB_p
theorem T_drB_e {P : Program} {T : Tab} {ops : List Oper} {r : Tr} {ts : List SV} {M : List Blk} {pd : List Pend} {K : List SV → List Blk → Prop} {d : Option Tmp} {op : Op} {t : TypeId} {p : String} {af : Array Edge} {i : Nat} {rc : List Nat} : Top (drB P T ops (.e i rc) (some { dst := d, op := op, type := t, pos := p, after := af, guard := none }) r ts M pd K) = Top (opC P T op ts M (fun v M' => rcC P T ops pd rc M' ∧ drawC P T ops r (putS ts d v) M' pd K)) := congrArg Top drB_e
theorem T_rcC_empty {P : Program} {T : Tab} {ops : List Oper} {pd : List Pend} {M : List Blk} : Top (rcC P T ops pd [] M) = Top (True) := congrArg Top rcC_empty
theorem T_rcC_nil {P : Program} {T : Tab} {ops : List Oper} {rc : List Nat} {M : List Blk} : Top (rcC P T ops [] rc M) = Top (True) := congrArg Top rcC_nil
theorem T_rcC_cons {P : Program} {T : Tab} {ops : List Oper} {i : Nat} {ts : List SV} {v : SV} {pd : List Pend} {rc : List Nat} {M : List Blk} : Top (rcC P T ops ((i, ts, v) :: pd) rc M) = Top ((rcB P T (rc.contains i) ops[i]? ts v M ∧ rcC P T ops pd rc M)) := congrArg Top rcC_cons
theorem T_rcB_f {P : Program} {T : Tab} {o : Option Oper} {ts : List SV} {v : SV} {M : List Blk} : Top (rcB P T false o ts v M) = Top (True) := congrArg Top rcB_f
theorem T_rcB_t {P : Program} {T : Tab} {d : Option Tmp} {op : Op} {t : TypeId} {p : String} {af : Array Edge} {g : Option (Nat × Bool)} {ts : List SV} {v : SV} {M : List Blk} : Top (rcB P T true (some { dst := d, op := op, type := t, pos := p, after := af, guard := g }) ts v M) = Top (opC P T op ts M (fun v' M' => v' = v ∧ M' = M)) := congrArg Top rcB_t
attribute [go_sem] T_and T_imp T_all T_true T_eq T_leN T_ltN T_leI T_ltI T_gdS_b T_gdS_u T_gdZ T_condC_z T_pickC_z T_regC_nil T_regC_plain T_regC_guard T_codeC_skip T_codeC_region T_codeC_draw T_codeC_seq T_codeC_cond T_codeC_block T_codeC_loop T_roundsC_succ T_codeC_exit T_codeC_ret T_opC_move T_opC_assign T_opC_pick T_opC_alloc T_opC_box T_opC_build T_opC_buildSlice T_opC_s2a T_opC_load T_opC_store T_opC_nilCheck T_opC_binOp T_opC_unOp T_opC_convert T_opC_slice T_opC_fieldAddr T_opC_indexAddr T_opC_index T_opC_extract T_opC_makeSlice T_opC_makeFunc T_opC_builtin T_opC_call T_binC_u8u8 T_binC_u8i T_binC_u8u64 T_binC_u32u32 T_binC_u32i T_binC_u32u64 T_binC_u64u64 T_binC_u64i T_binC_ii T_binC_eql_snsn T_eqC_snsn T_binC_eql_slsn T_eqC_slsn T_binC_neq_agg T_eqC_agg T_blockC_exit T_thenC_exit T_blockC_normal T_blockC_ret T_thenC_normal T_thenC_ret T_cellC_u8 T_cellC_u32 T_cellC_u64 T_cellC_i64 T_cellC_arr T_cellC_struct T_cellC_ptr T_cellC_slice T_storeB_slice T_storeB_int T_storeB_arr T_storeB_struct T_loadC_p T_storeC_p T_allocC_eq T_allocB_some T_boxC_eq T_ixaC_eq T_ixaB_arr T_ixaB_sl T_ixC_eq T_ixB_arr T_faC_eq T_faB_p T_nilC_p T_convG_eq T_convH_int T_convB_u8_i T_convB_u8_u32 T_convB_u8_u64 T_convB_u32_i T_convB_u32_u64 T_convB_u64_i T_convB_u64_u8 T_convB_u64_u32 T_convB_i64_u8 T_convB_i64_u32 T_unC_not T_unC_xor_u8 T_unC_xor_u32 T_unC_xor_u64 T_extC_tup T_extB_some T_aggEq_eq T_aggB_arr T_aggI_int T_buildC_eq T_buildB_arr T_buildB_struct T_aggO_some T_fnC_fn T_bndC_none T_bndC_some T_bndB_some T_bnds_nn T_bnds_sn T_bnds_ss T_sliceC_eq T_sliceB_arr T_sliceB_sl T_bsC_eq T_bsB_sl T_bsD_t T_partsOK_nil T_partsOK_cons T_apC_eq T_apB_arr T_makeC_eq T_makeB_sl T_makeD_some T_bltC_len T_bltC_append T_bltC_copy T_bltC_min T_lenB_sl T_lenB_sn T_minC_2 T_resL_nil T_resL_tmp T_resL_cell T_endC_normal T_endC_ret T_bvC_add T_bvC_mul T_bvC_and T_bvC_or T_bvC_xor T_bvC_shl T_bvC_shr T_bvC_eql T_bvC_neq T_bvC_lss T_bvC_leq T_bvC_gtr T_shC_shl T_shC_shr T_intC_add T_intC_sub T_intC_mul T_intC_quo T_intC_rem T_intC_eql T_intC_neq T_intC_lss T_intC_leq T_intC_gtr T_intC_geq T_drawC_nil T_drawC_no T_drawC_p T_drawC_e T_drB_p T_drB_e T_rcC_empty T_rcC_nil T_rcC_cons T_rcB_f T_rcB_t
attribute [go_sem] yS evS_tmp evS_const evS_func putS_some putS_none vS_i64 vS_u8 vS_u32 vS_u64 vS_bool vS_pn vS_sn vS_fnil cellsS_agg cellsS_i one_i lt_i cellsS_u8 one_u8 lt_u8 one_u32 lt_u32 cellsS_u64 one_u64 lt_u64 lt_b cellsS_p one_p lt_p cellsS_sl one_sl lt_sl one_sn lt_fn ixOf_i ixOf_u8 idxP_nil idxP_cons catS_nil catS_cons tupS_one tupS_nil tupS_two lt_agg lt_tup ltL_cons liveN_eq liveB_row cellsAt_eq cellsB_row fillS_nil fillS_cons fillD_some is32_z cell32_z is64_z cell64_z is64_s cell64_s isI_z cellI_z isI_s cellI_s List.set_cons_succ List.set_cons_zero List.getD_cons_succ List.getD_cons_zero List.getElem?_cons_succ List.getElem?_cons_zero List.getElem?_nil List.map_cons List.map_nil Option.map_some Option.map_none Option.bind_some Option.bind_none List.length_cons List.length_nil List.cons_append List.nil_append List.append_nil List.contains_cons List.contains_nil Bool.or_false Bool.false_or Bool.or_true Bool.true_or TK.one isSl List.all_cons List.all_nil Bool.and_true Bool.true_and Nat.zero_add Nat.add_zero Nat.zero_lt_succ bS_one bS_length bS_is8 bS_cell8 bS_set bS_zeros' bS_ofK bS_eqL bS_take bS_drop bS_append and_true true_and if_true if_false decide_eq_true_eq decide_eq_false_iff_not and_self not_true_eq_false not_false_eq_true true_implies false_implies BitVec.ofNat_eq_ofNat Int.toNat_natCast get_app get_app0 set_app set_app0 List.append_assoc List.length_append Nat.add_assoc Nat.mul_one Nat.one_mul repU repU0 frC_nn frC_ss frC_ns fillF_n fillF_s fillF_u SV.i.injEq SV.u8.injEq SV.u32.injEq SV.u64.injEq SV.b.injEq SV.p.injEq SV.agg.injEq SV.sl.injEq List.drop_zero take_all splice_all splice_z splice_s splice_n decide_true decide_false ite_self Nat.sub_zero List.length_replicate Nat.le_refl List.length_set Bool.not_true Bool.not_false beq_self_eq_true cast_lit
attribute [congr] convG_congr convH_congr strE_congr strC_congr lookC_congr lookB_congr lookE_congr lookZ_congr updC_congr updB_congr delC_congr delB_congr lenO_congr rangeC_congr rangeB_congr nextC_congr nextB_congr nextD_congr entryC_congr entryB_congr entryG_congr entryD_congr entryF_congr codeC_congr regC_congr opC_congr binC_congr bvC_congr shC_congr intC_congr shI_congr eqC_congr aggEq_congr unC_congr convC_congr pickC_congr loadC_congr cellC_congr storeC_congr storeB_congr allocC_congr boxC_congr ixaC_congr ixC_congr faC_congr fC_congr nilC_congr extC_congr buildC_congr sliceC_congr makeC_congr bsC_congr bsB_congr bsD_congr apC_congr apB_congr roundsC_congr CovF_congr bltC_congr fnC_congr callVC_congr thenC_congr blockC_congr condC_congr gdC_congr LoopVC_congr DrawVC_congr resL_congr endC_congr ixaB_congr ixB_congr faB_congr fB_congr convB_congr extB_congr aggI_congr aggB_congr aggQ_congr aggO_congr buildB_congr bndB_congr bndC_congr bnds_congr sliceB_congr makeD_congr makeB_congr lenB_congr capB_congr appendC_congr copyC_congr allocB_congr dropC_congr srcC_congr drawC_congr drB_congr rcC_congr rcB_congr minC_congr maxC_congr
end Go.Proofs.YtdkdbeamimkljaaGreatDoor.Eng
