/- The engine, part R: the equations that simp runs on. Printed by mkeq.py (own work). -/
import Derived.Test.YtdkdbeamimkljaaGreatDoorEngI
namespace Go.Proofs.YtdkdbeamimkljaaGreatDoor.Eng
open Go Go.RowKit
set_option linter.unusedSimpArgs false
set_option linter.unusedVariables false
def allocB (z : Option (List SV)) (t : TypeId) (M : List Blk) (K : SV → List Blk → Prop) : Prop :=
  match z with
  | some cs => K (.p M.length 0) (M ++ [.row cs t])
  | none => False
def ixaB (tk : TK) (M : List Blk) (x : SV) (i : Option Int) (K : SV → Prop) : Prop :=
  match i with
  | some j =>
    match tk, x with
    | .arr n _ esz _, .p nm off => 0 ≤ j ∧ j < n ∧ 0 < esz ∧ off + (j.toNat + 1) * esz ≤ (cellsAt M nm).length ∧ K (.p nm (off + j.toNat * esz))
    | .slice _ esz _, .sl nm off len _ => 0 ≤ j ∧ j < len ∧ 0 < esz ∧ off + (j.toNat + 1) * esz ≤ (cellsAt M nm).length ∧ K (.p nm (off + j.toNat * esz))
    | _, _ => False
  | none => False
def ixB (T : Tab) (tk : TK) (x : SV) (i : Option Int) (K : SV → Prop) : Prop :=
  match i with
  | some j =>
    match tk, x with
    | .arr n e esz _, .agg l => 0 ≤ j ∧ j < n ∧ cellC (T.k e) l (j.toNat * esz) K
    | .str, .str s => 0 ≤ j ∧ j < s.size ∧ K (.u8 (s.get! j.toNat).toBitVec)
    | _, _ => False
  | none => False
def faB (f : Option (Nat × Nat × TypeId)) (M : List Blk) (x : SV) (K : SV → Prop) : Prop :=
  match f with
  | some (fo, sz, _) =>
    match x with
    | .p n off => off + fo + sz ≤ (cellsAt M n).length ∧ K (.p n (off + fo))
    | _ => False
  | none => False
def fB (T : Tab) (f : Option (Nat × Nat × TypeId)) (x : SV) (K : SV → Prop) : Prop :=
  match f with
  | some (fo, _, t) =>
    match x with
    | .agg l => cellC (T.k t) l fo K
    | _ => False
  | none => False
def convB (tk : TK) (x : SV) (K : SV → Prop) : Prop :=
  match tk, x with
  | .int .u8, .i _ a => K (.u8 (BitVec.ofInt 8 a))
  | .int .u8, .u8 a => K (.u8 a)
  | .int .u8, .u32 a => K (.u8 (a.setWidth 8))
  | .int .u8, .u64 a => K (.u8 (a.setWidth 8))
  | .int .u32, .i _ a => K (.u32 (BitVec.ofInt 32 a))
  | .int .u32, .u8 a => K (.u32 (a.setWidth 32))
  | .int .u32, .u32 a => K (.u32 a)
  | .int .u32, .u64 a => K (.u32 (a.setWidth 32))
  | .int .u64, .i _ a => K (.u64 (BitVec.ofInt 64 a))
  | .int .u64, .u8 a => K (.u64 (a.setWidth 64))
  | .int .u64, .u32 a => K (.u64 (a.setWidth 64))
  | .int .u64, .u64 a => K (.u64 a)
  | .int .i64, .u8 a => K (.i .i64 a.toNat)
  | .int .i64, .u32 a => K (.i .i64 a.toNat)
  | .int k, .u64 a => K (.i k (k.wrap a.toNat))
  | .int k, .u32 a => K (.i k (k.wrap a.toNat))
  | .int k, .u8 a => K (.i k (k.wrap a.toNat))
  | .int k, .i _ a => K (.i k (k.wrap a))
  | .str, .str s => K (.str s)
  | _, _ => False
def convH (T : Tab) (M : List Blk) (ks kd : TK) (x : SV) (K : SV → Prop) : Prop :=
  match kd with
  | .str => match x with
    | .str a => K (.str a)
    | x => strC T M ks x K
  | kd => convB kd x K
def extB (v : Option SV) (K : SV → Prop) : Prop :=
  match v with
  | some v => K v
  | none => False
def aggI (tk : TK) (n esz : Nat) (g : Bool) (xs ys : List SV) (K : Bool → Prop) : Prop :=
  match tk with
  | .int k => esz = 1 ∧ g = true ∧ xs.length = n ∧ ys.length = n ∧ xs.all (ofK k) = true ∧ ys.all (ofK k) = true ∧ K (eqL xs ys)
  | _ => False
def aggQ (g : Bool) (q : Option (List IntKind)) (xs ys : List SV) (K : Bool → Prop) : Prop :=
  match q with
  | some ks => g = true ∧ oks ks xs = true ∧ oks ks ys = true ∧ K (eqL xs ys)
  | none => False
def aggB (T : Tab) (tk : TK) (g : Bool) (q : Option (List IntKind)) (xs ys : List SV) (K : Bool → Prop) : Prop :=
  match tk with
  | .arr n e esz _ => aggI (T.k e) n esz g xs ys K
  | .struct _ => aggQ g q xs ys K
  | _ => False
def aggO (l : Option (List SV)) (K : SV → Prop) : Prop :=
  match l with
  | some l => K (.agg l)
  | none => False
def buildB (T : Tab) (t : TypeId) (z : Option (List SV)) (tk : TK) (parts : List (Nat × SV)) (K : SV → Prop) : Prop :=
  match z with
  | none => False
  | some z =>
    match tk with
    | .arr _ _ esz _ => aggO (fillS (fun i => some (i * esz, esz)) z parts) K
    | .struct _ => aggO (fillS (fun i => (T.f t i).map fun x => (x.1, x.2.1)) z parts) K
    | _ => False
def fillD (place : Nat → Option (Nat × Nat)) (cells : List SV) (p : Option (Nat × Nat)) (v : SV) (rest : List (Nat × SV)) : Option (List SV) :=
  match p with
  | none => none
  | some (off, size) => if (cellsS v).length = size ∧ off + size ≤ cells.length ∧ (cellsS v).all SV.one = true then fillS place (splice cells off (cellsS v)) rest else none
def bndB (j : Option Int) (y : Nat) (K : Nat → Prop) : Prop :=
  match j with
  | some j => 0 ≤ j ∧ j ≤ y ∧ K j.toNat
  | none => False
def sliceB (tk : TK) (M : List Blk) (x : SV) (lo hi mx : Option SV) (K : SV → Prop) : Prop :=
  match tk, x with
  | .arr n _ esz _, .p nm off => liveN M nm = true ∧ bnds n n lo hi mx fun l h m => K (.sl nm (if m = l then off else off + l * esz) (h - l) (m - l))
  | .slice _ esz _, .sl nm off len cap => bnds len cap lo hi mx fun l h m => K (.sl nm (if m = l then off else off + l * esz) (h - l) (m - l))
  | .slice _ _ _, .sn => bnds 0 0 lo hi mx fun _ _ _ => K .sn
  | _, _ => False
def makeD (z : Option (List SV)) (e : TypeId) (l c : Int) (M : List Blk) (K : SV → List Blk → Prop) : Prop :=
  match z with
  | some z => K (.sl M.length 0 l.toNat c.toNat) (M ++ [.row (zerosS z c.toNat) e])
  | none => False
def makeB (T : Tab) (tk : TK) (l c : Option Int) (M : List Blk) (K : SV → List Blk → Prop) : Prop :=
  match tk, l, c with
  | .slice e _ eby, some l, some c => 0 ≤ l ∧ l ≤ c ∧ c ≤ 2 ^ 62 ∧ eby * c ≤ 2 ^ 48 ∧ makeD (T.z e) e l c M K
  | _, _, _ => False
def bsD (z : Option (List SV)) (e esz len : Nat) (b : Bool) (parts : List (Nat × SV)) (M : List Blk) (K : SV → List Blk → Prop) : Prop :=
  match z with
  | some z => match b with
      | true => partsOK esz parts ∧ K (.sl M.length 0 len len) (M ++ [.row (catS parts) e])
      | false => match fillS (fun i => some (i * esz, esz)) (zerosS z len) parts with
        | some l => l.all SV.one = true ∧ K (.sl M.length 0 len len) (M ++ [.row l e])
        | none => False
  | none => False
def bsB (T : Tab) (tk : TK) (len : Nat) (parts : List (Nat × SV)) (M : List Blk) (K : SV → List Blk → Prop) : Prop :=
  match tk with
  | .slice e esz _ => 0 < esz ∧ len * esz ≤ 2 ^ 24 ∧ bsD (T.z e) e esz len (idxP 0 len parts) parts M K
  | _ => False
def apB (tk : TK) (x : SV) (K : SV → Prop) : Prop :=
  match tk, x with
  | .arr n _ _ _, .sl nm off len _ => n ≤ len ∧ K (.p nm off)
  | _, _ => False
def lookB (T : Tab) (tk : TK) (B : Option Blk) (j : Int) (ok : Bool) (K : SV → Prop) : Prop :=
  match tk with
  | .map e => match B with
    | some (.obj (.map es _)) => lookE T e (findE j es) ok K
    | _ => False
  | _ => False
def lookZ (tk : TK) (z : Option (List SV)) (ok : Bool) (K : SV → Prop) : Prop :=
  match z with
  | some z => isAg tk = true ∧ K (okS ok (.agg z) false)
  | none => False
def updB (tk : TK) (n : Nat) (B : Option Blk) (j : Int) (v : SV) (M : List Blk) (K : List Blk → Prop) : Prop :=
  match tk with
  | .map _ => match B with
    | some (.obj (.map es c)) => findE j es = none ∧ K (M.set n (.obj (.map (es ++ [(j, v, c)]) (c + 1))))
    | _ => False
  | _ => False
def delB (tk : TK) (n : Nat) (B : Option Blk) (j : Int) (M : List Blk) (K : List Blk → Prop) : Prop :=
  match tk with
  | .map _ => match B with
    | some (.obj (.map es c)) => K (M.set n (.obj (.map (delE j es) c)))
    | _ => False
  | _ => False
def rangeB (tk : TK) (n : Nat) (B : Option Blk) (M : List Blk) (K : SV → List Blk → Prop) : Prop :=
  match tk with
  | .map _ => match B with
    | some (.obj (.map _ c)) => K (.p M.length 0) (M ++ [.obj (.it n c [] c)])
    | _ => False
  | _ => False
def nextD (M : List Blk) (r m since : Nat) (seen : List Nat) (st : Nat) (B : Option Blk) (K : SV → List Blk → Prop) : Prop :=
  match B with
  | some (.obj (.map es c)) => (∀ e, e ∈ es → e.2.2 < since) ∧ since ≤ st ∧ ((∀ e, e ∈ es → e.2.2 ∈ seen) → K (.tup [.b false]) M) ∧
      (∀ e, e ∈ es → e.2.2 ∉ seen → K (.tup [.b true, .i .i64 e.1, e.2.1]) (M.set r (.obj (.it m since (seen ++ [e.2.2]) c))))
  | _ => False
def nextB (M : List Blk) (r : Nat) (B : Option Blk) (K : SV → List Blk → Prop) : Prop :=
  match B with
  | some (.obj (.it m since seen st)) => nextD M r m since seen st M[m]? K
  | _ => False
def entryF (o : Option (Int × SV × Nat)) (K : SV → Prop) : Prop :=
  match o with
  | some e => K (.tup [.i .i64 e.1, e.2.1])
  | none => False
def entryG (st : Nat) (seen : List Nat) (B : Option Blk) (K : SV → Prop) : Prop :=
  match B with
  | some (.obj (.map es c)) => c = st ∧ entryD es seen.getLast? K
  | _ => False
def entryB (M : List Blk) (B : Option Blk) (K : SV → Prop) : Prop :=
  match B with
  | some (.obj (.it m _ seen st)) => entryG st seen M[m]? K
  | _ => False
def lenB (tk : TK) (M : List Blk) (x : SV) (K : SV → Prop) : Prop :=
  match tk, x with
  | .map _, .mp n => lenO M[n]? K
  | .slice .., .sl _ _ l _ => K (.i .i64 l)
  | .slice .., .sn => K (.i .i64 0)
  | .slice .., .raw (.slice _ l _) => K (.i .i64 l)
  | .str, .str s => K (.i .i64 s.size)
  | .arr n _ _ _, _ => K (.i .i64 n)
  | _, _ => False
def capB (tk : TK) (x : SV) (K : SV → Prop) : Prop :=
  match tk, x with
  | .slice .., .sl _ _ _ c => K (.i .i64 c)
  | .slice .., .sn => K (.i .i64 0)
  | .arr n _ _ _, _ => K (.i .i64 n)
  | _, _ => False
def liveB (B : Option Blk) : Bool :=
  match B with
  | some (.row cs _) => decide (0 < cs.length)
  | some (.ro cs) => decide (0 < cs.length)
  | some .here => true
  | _ => false
def drB (P : Program) (T : Tab) (ops : List Oper) (s : Stp) (o : Option Oper) (r : Tr) (ts : List SV) (M : List Blk) (pd : List Pend) (K : List SV → List Blk → Prop) : Prop :=
  match o with
  | none => False
  | some o =>
    match s with
    | .p i => gdO ops ts o.guard (opC P T o.op ts M (fun v M' => drawC P T ops r (putS ts o.dst v) M' ((i, ts, v) :: pd) K)) (drawC P T ops r (putS ts o.dst uS) M pd K)
    | .e _ rc => gdO ops ts o.guard (opC P T o.op ts M (fun v M' => rcC P T ops pd rc M' ∧ drawC P T ops r (putS ts o.dst v) M' pd K)) (drawC P T ops r (putS ts o.dst uS) M pd K)
def rcB (P : Program) (T : Tab) (b : Bool) (o : Option Oper) (ts : List SV) (v : SV) (M : List Blk) : Prop :=
  match b with
  | false => True
  | true => match o with
    | some o => opC P T o.op ts M (fun v' M' => v' = v ∧ M' = M)
    | none => False
def cellsB (B : Option Blk) : List SV :=
  match B with
  | some (.row cs _) => cs
  | some (.ro cs) => cs
  | _ => []
theorem codeC_skip {P : Program} {T : Tab} {bs : Nat} {ts : List SV} {M : List Blk} {Q : Exit → List SV → List Blk → Prop} : codeC P T bs .skip ts M Q = Q .normal ts M := rfl
theorem codeC_region {P : Program} {T : Tab} {bs : Nat} {ts : List SV} {M : List Blk} {Q : Exit → List SV → List Blk → Prop} {id : Nat} {ops : List Oper} : codeC P T bs (.region id ops.toArray false) ts M Q = regC P T ops ops ts M (Q .normal) := rfl
theorem codeC_draw {P : Program} {T : Tab} {bs : Nat} {ts : List SV} {M : List Blk} {Q : Exit → List SV → List Blk → Prop} {id : Nat} {ops : Array Oper} : codeC P T bs (.region id ops true) ts M Q = DrawVC P bs id ops ts M Q := rfl
theorem codeC_seq {P : Program} {T : Tab} {bs : Nat} {ts : List SV} {M : List Blk} {Q : Exit → List SV → List Blk → Prop} {a b : Code} : codeC P T bs (.seq a b) ts M Q = codeC P T bs a ts M (thenC (fun ts M => codeC P T bs b ts M Q) Q) := rfl
theorem codeC_cond {P : Program} {T : Tab} {bs : Nat} {ts : List SV} {M : List Blk} {Q : Exit → List SV → List Blk → Prop} {c : Operand} {a b : Code} : codeC P T bs (.cond c a b) ts M Q = condC (evS ts c) (codeC P T bs a ts M Q) (codeC P T bs b ts M Q) := rfl
theorem codeC_block {P : Program} {T : Tab} {bs : Nat} {ts : List SV} {M : List Blk} {Q : Exit → List SV → List Blk → Prop} {id : Nat} {c : Code} : codeC P T bs (.block id c) ts M Q = codeC P T bs c ts M (blockC id Q) := rfl
theorem codeC_loop {P : Program} {T : Tab} {bs : Nat} {ts : List SV} {M : List Blk} {Q : Exit → List SV → List Blk → Prop} {c : Code} : codeC P T bs (.loop c) ts M Q = LoopVC P bs c ts M Q := rfl
theorem roundsC_succ {P : Program} {T : Tab} {bs : Nat} {ts : List SV} {M : List Blk} {Q : Exit → List SV → List Blk → Prop} {c : Code} {n : Nat} : roundsC P T bs c Q (n + 1) ts M = codeC P T bs c ts M (thenC (fun ts M => roundsC P T bs c Q n ts M) Q) := rfl
theorem codeC_exit {P : Program} {T : Tab} {bs : Nat} {ts : List SV} {M : List Blk} {Q : Exit → List SV → List Blk → Prop} {id : Nat} : codeC P T bs (.exit id) ts M Q = Q (.exit id) ts M := rfl
theorem codeC_ret {P : Program} {T : Tab} {bs : Nat} {ts : List SV} {M : List Blk} {Q : Exit → List SV → List Blk → Prop} : codeC P T bs .ret ts M Q = Q .ret ts M := rfl
theorem opC_move {P : Program} {T : Tab} {ts : List SV} {M : List Blk} {K : SV → List Blk → Prop} {x : Operand} : opC P T (.move x) ts M K = K (evS ts x) M := rfl
theorem opC_assign {P : Program} {T : Tab} {ts : List SV} {M : List Blk} {K : SV → List Blk → Prop} {x : Operand} : opC P T (.assign x) ts M K = K (evS ts x) M := rfl
theorem opC_pick {P : Program} {T : Tab} {ts : List SV} {M : List Blk} {K : SV → List Blk → Prop} {c x y : Operand} : opC P T (.pick c x y) ts M K = pickC (evS ts c) (evS ts x) (evS ts y) (fun v => K v M) := rfl
theorem opC_alloc {P : Program} {T : Tab} {ts : List SV} {M : List Blk} {K : SV → List Blk → Prop} {t : TypeId} : opC P T (.alloc t) ts M K = allocC T t M K := rfl
theorem opC_box {P : Program} {T : Tab} {ts : List SV} {M : List Blk} {K : SV → List Blk → Prop} {t : TypeId} {x : Operand} : opC P T (.box t x) ts M K = boxC t (evS ts x) M K := rfl
theorem opC_build {P : Program} {T : Tab} {ts : List SV} {M : List Blk} {K : SV → List Blk → Prop} {t : TypeId} {ps : List (Nat × Operand)} : opC P T (.build t ps.toArray) ts M K = buildC T t (ps.map fun x => (x.1, evS ts x.2)) (fun v => K v M) := rfl
theorem opC_buildSlice {P : Program} {T : Tab} {ts : List SV} {M : List Blk} {K : SV → List Blk → Prop} {t : TypeId} {n : Nat} {ps : List (Nat × Operand)} : opC P T (.buildSlice t n ps.toArray) ts M K = bsC T t n (ps.map fun x => (x.1, evS ts x.2)) M K := rfl
theorem opC_s2a {P : Program} {T : Tab} {ts : List SV} {M : List Blk} {K : SV → List Blk → Prop} {t : TypeId} {x : Operand} : opC P T (.sliceToArrayPointer t x) ts M K = apC T t (evS ts x) (fun v => K v M) := rfl
theorem opC_load {P : Program} {T : Tab} {ts : List SV} {M : List Blk} {K : SV → List Blk → Prop} {t : TypeId} {x : Operand} : opC P T (.load t x) ts M K = loadC T t (evS ts x) M (fun v => K v M) := rfl
theorem opC_store {P : Program} {T : Tab} {ts : List SV} {M : List Blk} {K : SV → List Blk → Prop} {t : TypeId} {x y : Operand} : opC P T (.store t x y) ts M K = storeC T t (evS ts x) (evS ts y) M (fun M' => K uS M') := rfl
theorem opC_nilCheck {P : Program} {T : Tab} {ts : List SV} {M : List Blk} {K : SV → List Blk → Prop} {x : Operand} : opC P T (.nilCheck x) ts M K = nilC M (evS ts x) (fun v => K v M) := rfl
theorem opC_binOp {P : Program} {T : Tab} {ts : List SV} {M : List Blk} {K : SV → List Blk → Prop} {op : BinOp} {t u : TypeId} {x y : Operand} : opC P T (.binOp op t x y u) ts M K = binC T M op t (evS ts x) (evS ts y) (fun v => K v M) := rfl
theorem opC_unOp {P : Program} {T : Tab} {ts : List SV} {M : List Blk} {K : SV → List Blk → Prop} {op : UnOp} {t : TypeId} {x : Operand} : opC P T (.unOp op t x) ts M K = unC op (evS ts x) (fun v => K v M) := rfl
theorem opC_convert {P : Program} {T : Tab} {ts : List SV} {M : List Blk} {K : SV → List Blk → Prop} {s d : TypeId} {x : Operand} : opC P T (.convert s d x) ts M K = convG T M s d (evS ts x) (fun v => K v M) := rfl
theorem opC_slice {P : Program} {T : Tab} {ts : List SV} {M : List Blk} {K : SV → List Blk → Prop} {t : TypeId} {x : Operand} {lo hi mx : Option Operand} : opC P T (.slice t x lo hi mx) ts M K = sliceC T M t (evS ts x) (lo.map (evS ts)) (hi.map (evS ts)) (mx.map (evS ts)) (fun v => K v M) := rfl
theorem opC_fieldAddr {P : Program} {T : Tab} {ts : List SV} {M : List Blk} {K : SV → List Blk → Prop} {t : TypeId} {x : Operand} {f : Nat} : opC P T (.fieldAddr t x f) ts M K = faC T M t (evS ts x) f (fun v => K v M) := rfl
theorem opC_indexAddr {P : Program} {T : Tab} {ts : List SV} {M : List Blk} {K : SV → List Blk → Prop} {t : TypeId} {x i : Operand} : opC P T (.indexAddr t x i) ts M K = ixaC T M t (evS ts x) (evS ts i) (fun v => K v M) := rfl
theorem opC_index {P : Program} {T : Tab} {ts : List SV} {M : List Blk} {K : SV → List Blk → Prop} {t : TypeId} {x i : Operand} : opC P T (.index t x i) ts M K = ixC T t (evS ts x) (evS ts i) (fun v => K v M) := rfl
theorem opC_extract {P : Program} {T : Tab} {ts : List SV} {M : List Blk} {K : SV → List Blk → Prop} {x : Operand} {i : Nat} : opC P T (.extract x i) ts M K = extC (evS ts x) i (fun v => K v M) := rfl
theorem opC_makeSlice {P : Program} {T : Tab} {ts : List SV} {M : List Blk} {K : SV → List Blk → Prop} {t : TypeId} {l c : Operand} : opC P T (.makeSlice t l c) ts M K = makeC T t (evS ts l) (evS ts c) M K := rfl
theorem opC_makeFunc {P : Program} {T : Tab} {ts : List SV} {M : List Blk} {K : SV → List Blk → Prop} {f : Fn} {x c : List Operand} : opC P T (.makeFunc f x.toArray c.toArray) ts M K = K (.fn f (x.map (evS ts)) (c.map (evS ts))) M := rfl
theorem opC_builtin {P : Program} {T : Tab} {ts : List SV} {M : List Blk} {K : SV → List Blk → Prop} {b : Builtin} {as : List Operand} {ats : List TypeId} : opC P T (.call { callee := .builtin b, args := as.toArray, argTypes := ats.toArray }) ts M K = bltC T b ats (as.map (evS ts)) M K := rfl
theorem opC_call {P : Program} {T : Tab} {ts : List SV} {M : List Blk} {K : SV → List Blk → Prop} {f : Operand} {as : List Operand} {ats : Array TypeId} : opC P T (.call { callee := .value f, args := as.toArray, argTypes := ats }) ts M K = fnC P (evS ts f) (as.map (evS ts)) M K := rfl
theorem binC_u8u8 {T : Tab} {M : List Blk} {op : BinOp} {t : TypeId} {a b : BitVec 8} {K : SV → Prop} : binC T M op t (.u8 a) (.u8 b) K = bvC op a b .u8 K := rfl
theorem binC_u8i {T : Tab} {M : List Blk} {op : BinOp} {t : TypeId} {k : IntKind} {a : BitVec 8} {b : Int} {K : SV → Prop} : binC T M op t (.u8 a) (.i k b) K = (0 ≤ b ∧ shC op a b.toNat .u8 K) := rfl
theorem binC_u8u64 {T : Tab} {M : List Blk} {op : BinOp} {t : TypeId} {a : BitVec 8} {b : BitVec 64} {K : SV → Prop} : binC T M op t (.u8 a) (.u64 b) K = shC op a b.toNat .u8 K := rfl
theorem binC_u32u32 {T : Tab} {M : List Blk} {op : BinOp} {t : TypeId} {a b : BitVec 32} {K : SV → Prop} : binC T M op t (.u32 a) (.u32 b) K = bvC op a b .u32 K := rfl
theorem binC_u32i {T : Tab} {M : List Blk} {op : BinOp} {t : TypeId} {k : IntKind} {a : BitVec 32} {b : Int} {K : SV → Prop} : binC T M op t (.u32 a) (.i k b) K = (0 ≤ b ∧ shC op a b.toNat .u32 K) := rfl
theorem binC_u32u64 {T : Tab} {M : List Blk} {op : BinOp} {t : TypeId} {a : BitVec 32} {b : BitVec 64} {K : SV → Prop} : binC T M op t (.u32 a) (.u64 b) K = shC op a b.toNat .u32 K := rfl
theorem binC_u64u64 {T : Tab} {M : List Blk} {op : BinOp} {t : TypeId} {a b : BitVec 64} {K : SV → Prop} : binC T M op t (.u64 a) (.u64 b) K = bvC op a b .u64 K := rfl
theorem binC_u64i {T : Tab} {M : List Blk} {op : BinOp} {t : TypeId} {k : IntKind} {a : BitVec 64} {b : Int} {K : SV → Prop} : binC T M op t (.u64 a) (.i k b) K = (0 ≤ b ∧ shC op a b.toNat .u64 K) := rfl
theorem binC_ii {T : Tab} {M : List Blk} {op : BinOp} {t : TypeId} {a b : Int} {K : SV → Prop} : binC T M op t (.i .i64 a) (.i .i64 b) K = intC op .i64 a b K := rfl
theorem binC_eql_snsn {T : Tab} {M : List Blk} {t : TypeId}  {K : SV → Prop} : binC T M .eql t (.sn) (.sn) K = eqC T M t (.sn) (.sn) (fun r => K (.b (r))) := rfl
theorem eqC_snsn {T : Tab} {M : List Blk} {t : TypeId}  {K : Bool → Prop} : eqC T M t (.sn) (.sn) K = (isSl (T.k t) = true ∧ K true) := rfl
theorem binC_eql_slsn {T : Tab} {M : List Blk} {t : TypeId} {n off len cap : Nat} {K : SV → Prop} : binC T M .eql t (.sl n off len cap) (.sn) K = eqC T M t (.sl n off len cap) (.sn) (fun r => K (.b (r))) := rfl
theorem eqC_slsn {T : Tab} {M : List Blk} {t : TypeId} {n off len cap : Nat} {K : Bool → Prop} : eqC T M t (.sl n off len cap) (.sn) K = (isSl (T.k t) = true ∧ liveN M n = true ∧ K false) := rfl
theorem binC_neq_agg {T : Tab} {M : List Blk} {t : TypeId} {xs ys : List SV} {K : SV → Prop} : binC T M .neq t (.agg xs) (.agg ys) K = eqC T M t (.agg xs) (.agg ys) (fun r => K (.b (!r))) := rfl
theorem eqC_agg {T : Tab} {M : List Blk} {t : TypeId} {xs ys : List SV} {K : Bool → Prop} : eqC T M t (.agg xs) (.agg ys) K = aggEq T t xs ys K := rfl
theorem gdC_u {w : Bool} {A B : Prop} : gdC uS w A B = B := by cases w <;> rfl
theorem blockC_exit {id id' : Nat} {Q : Exit → List SV → List Blk → Prop} {ts : List SV} {M : List Blk} : blockC id Q (.exit id') ts M = (if id' = id then Q .normal ts M else Q (.exit id') ts M) := rfl
theorem thenC_exit {id' : Nat} {n : List SV → List Blk → Prop} {Q : Exit → List SV → List Blk → Prop} {ts : List SV} {M : List Blk} : thenC n Q (.exit id') ts M = Q (.exit id') ts M := rfl
theorem blockC_normal {id : Nat} {Q : Exit → List SV → List Blk → Prop} {ts : List SV} {M : List Blk} : blockC id Q .normal ts M = Q .normal ts M := rfl
theorem blockC_ret {id : Nat} {Q : Exit → List SV → List Blk → Prop} {ts : List SV} {M : List Blk} : blockC id Q .ret ts M = Q .ret ts M := rfl
theorem thenC_normal {n : List SV → List Blk → Prop} {Q : Exit → List SV → List Blk → Prop} {ts : List SV} {M : List Blk} : thenC n Q .normal ts M = n ts M := rfl
theorem thenC_ret {n : List SV → List Blk → Prop} {Q : Exit → List SV → List Blk → Prop} {ts : List SV} {M : List Blk} : thenC n Q .ret ts M = Q .ret ts M := rfl
theorem evS_tmp {ts : List SV} {t : Nat} : evS ts (.tmp t) = ts.getD t uS := rfl
theorem evS_const {ts : List SV} {v : Value} : evS ts (.const v) = vS v := rfl
theorem evS_func {ts : List SV} {f : FuncId} : evS ts (.func f) = (.fn (.func f) [] []) := rfl
theorem putS_some {ts : List SV} {d : Nat} {v : SV} : putS ts (some d) v = ts.set d v := rfl
theorem putS_none {ts : List SV} {v : SV} : putS ts none v = ts := rfl
theorem vS_i64 {x : Int} : vS (.int .i64 x) = (.i .i64 x) := rfl
theorem vS_u8 {x : Int} : vS (.int .u8 x) = (if 0 ≤ x ∧ x < 256 then .u8 (BitVec.ofInt 8 x) else .raw (.int .u8 x)) := rfl
theorem vS_u32 {x : Int} : vS (.int .u32 x) = (if 0 ≤ x ∧ x < 4294967296 then .u32 (BitVec.ofInt 32 x) else .raw (.int .u32 x)) := rfl
theorem vS_u64 {x : Int} : vS (.int .u64 x) = (if 0 ≤ x ∧ x < 18446744073709551616 then .u64 (BitVec.ofInt 64 x) else .raw (.int .u64 x)) := rfl
theorem vS_bool {b : Bool} : vS (.bool b) = (.b b) := rfl
theorem vS_pn  : vS (.pointer none) = (.pn) := rfl
theorem vS_sn  : vS (.slice none 0 0) = (.sn) := rfl
theorem vS_fnil  : vS .nilFunc = (.fnil) := rfl
theorem cellC_u8 {cs : List SV} {j : Nat} {K : SV → Prop} : cellC (.int .u8) cs j K = (is8 cs j = true ∧ K (.u8 (cell8 cs j))) := rfl
theorem cellC_u32 {cs : List SV} {j : Nat} {K : SV → Prop} : cellC (.int .u32) cs j K = (is32 cs j = true ∧ K (.u32 (cell32 cs j))) := rfl
theorem cellC_u64 {cs : List SV} {j : Nat} {K : SV → Prop} : cellC (.int .u64) cs j K = (is64 cs j = true ∧ K (.u64 (cell64 cs j))) := rfl
theorem cellC_i64 {cs : List SV} {j : Nat} {K : SV → Prop} : cellC (.int .i64) cs j K = (isI .i64 cs j = true ∧ K (.i .i64 (cellI cs j))) := rfl
theorem cellC_arr {n e esz sz : Nat} {cs : List SV} {j : Nat} {K : SV → Prop} : cellC (.arr n e esz sz) cs j K = (0 < sz ∧ j + sz ≤ cs.length ∧ K (.agg ((cs.drop j).take sz))) := rfl
theorem cellC_struct {sz : Nat} {cs : List SV} {j : Nat} {K : SV → Prop} : cellC (.struct sz) cs j K = (0 < sz ∧ j + sz ≤ cs.length ∧ K (.agg ((cs.drop j).take sz))) := rfl
theorem cellC_ptr {cs : List SV} {j : Nat} {K : SV → Prop} : cellC .ptr cs j K = (j < cs.length ∧ K (cs.getD j uS)) := rfl
theorem cellC_slice {e a b : Nat} {cs : List SV} {j : Nat} {K : SV → Prop} : cellC (.slice e a b) cs j K = (j < cs.length ∧ K (cs.getD j uS)) := rfl
theorem storeB_slice {e a b n off : Nat} {v : SV} {M : List Blk} {cs : List SV} {ty : TypeId} {K : List Blk → Prop} : storeB (.slice e a b) n off v M (some (.row cs ty)) K = (v.one = true ∧ off < cs.length ∧ K (M.set n (.row (cs.set off v) ty))) := rfl
theorem storeB_int {k : IntKind} {n off : Nat} {v : SV} {M : List Blk} {cs : List SV} {ty : TypeId} {K : List Blk → Prop} : storeB (.int k) n off v M (some (.row cs ty)) K = (v.one = true ∧ off < cs.length ∧ K (M.set n (.row (cs.set off v) ty))) := rfl
theorem storeB_arr {m e esz sz n off : Nat} {vs : List SV} {M : List Blk} {cs : List SV} {ty : TypeId} {K : List Blk → Prop} : storeB (.arr m e esz sz) n off (.agg vs) M (some (.row cs ty)) K = (0 < sz ∧ vs.length = sz ∧ vs.all SV.one = true ∧ off + sz ≤ cs.length ∧ K (M.set n (.row (splice cs off vs) ty))) := rfl
theorem storeB_struct {sz n off : Nat} {vs : List SV} {M : List Blk} {cs : List SV} {ty : TypeId} {K : List Blk → Prop} : storeB (.struct sz) n off (.agg vs) M (some (.row cs ty)) K = (0 < sz ∧ vs.length = sz ∧ vs.all SV.one = true ∧ off + sz ≤ cs.length ∧ K (M.set n (.row (splice cs off vs) ty))) := rfl
theorem loadC_p {T : Tab} {t : TypeId} {n off : Nat} {M : List Blk} {K : SV → Prop} : loadC T t (.p n off) M K = cellC (T.k t) (cellsAt M n) off K := rfl
theorem storeC_p {T : Tab} {t : TypeId} {n off : Nat} {v : SV} {M : List Blk} {K : List Blk → Prop} : storeC T t (.p n off) v M K = storeB (T.k t) n off v M M[n]? K := rfl
theorem allocC_eq {T : Tab} {t : TypeId} {M : List Blk} {K : SV → List Blk → Prop} : allocC T t M K = allocB (T.z t) t M K := rfl
theorem allocB_some {cs : List SV} {t : TypeId} {M : List Blk} {K : SV → List Blk → Prop} : allocB (some cs) t M K = K (.p M.length 0) (M ++ [.row cs t]) := rfl
theorem boxC_eq {t : TypeId} {x : SV} {M : List Blk} {K : SV → List Blk → Prop} : boxC t x M K = ((cellsS x).all SV.one = true ∧ K (.p M.length 0) (M ++ [.row (cellsS x) t])) := rfl
theorem cellsS_agg {l : List SV} : cellsS (.agg l) = l := rfl
theorem cellsS_i {k : IntKind} {x : Int} : cellsS (.i k x) = [.i k x] := rfl
theorem one_i {k : IntKind} {x : Int} : SV.one (.i k x) = true := rfl
theorem lt_i {m : Nat} {k : IntKind} {x : Int} : SV.lt m (.i k x) = true := rfl
theorem cellsS_u8 {x : BitVec 8} : cellsS (.u8 x) = [.u8 x] := rfl
theorem one_u8 {x : BitVec 8} : SV.one (.u8 x) = true := rfl
theorem lt_u8 {m : Nat} {x : BitVec 8} : SV.lt m (.u8 x) = true := rfl
theorem one_u32 {x : BitVec 32} : SV.one (.u32 x) = true := rfl
theorem lt_u32 {m : Nat} {x : BitVec 32} : SV.lt m (.u32 x) = true := rfl
theorem cellsS_u64 {x : BitVec 64} : cellsS (.u64 x) = [.u64 x] := rfl
theorem one_u64 {x : BitVec 64} : SV.one (.u64 x) = true := rfl
theorem lt_u64 {m : Nat} {x : BitVec 64} : SV.lt m (.u64 x) = true := rfl
theorem lt_b {m : Nat} {x : Bool} : SV.lt m (.b x) = true := rfl
theorem cellsS_p {n off : Nat} : cellsS (.p n off) = [.p n off] := rfl
theorem one_p {n off : Nat} : SV.one (.p n off) = true := rfl
theorem lt_p {m : Nat} {n off : Nat} : SV.lt m (.p n off) = decide (n < m) := rfl
theorem cellsS_sl {n off len cap : Nat} : cellsS (.sl n off len cap) = [.sl n off len cap] := rfl
theorem one_sl {n off len cap : Nat} : SV.one (.sl n off len cap) = true := rfl
theorem lt_sl {m : Nat} {n off len cap : Nat} : SV.lt m (.sl n off len cap) = decide (n < m) := rfl
theorem one_sn  : SV.one (.sn) = true := rfl
theorem lt_fn {m : Nat} {f : Fn} {a c : List SV} : SV.lt m (.fn f a c) = (ltL m a && ltL m c) := rfl
theorem ixOf_i {k : IntKind} {x : Int} : ixOf (.i k x) = some x := rfl
theorem ixOf_u8 {x : BitVec 8} : ixOf (.u8 x) = some (x.toNat : Int) := rfl
theorem ixaC_eq {T : Tab} {M : List Blk} {t : TypeId} {x i : SV} {K : SV → Prop} : ixaC T M t x i K = ixaB (T.k t) M x (ixOf i) K := by unfold ixaC ixaB; cases ixOf i <;> rfl
theorem ixaB_arr {M : List Blk} {n e esz sz nm off : Nat} {j : Int} {K : SV → Prop} : ixaB (.arr n e esz sz) M (.p nm off) (some j) K = (0 ≤ j ∧ j < n ∧ 0 < esz ∧ off + (j.toNat + 1) * esz ≤ (cellsAt M nm).length ∧ K (.p nm (off + j.toNat * esz))) := rfl
theorem ixaB_sl {M : List Blk} {e esz eby nm off len cap : Nat} {j : Int} {K : SV → Prop} : ixaB (.slice e esz eby) M (.sl nm off len cap) (some j) K = (0 ≤ j ∧ j < len ∧ 0 < esz ∧ off + (j.toNat + 1) * esz ≤ (cellsAt M nm).length ∧ K (.p nm (off + j.toNat * esz))) := rfl
theorem ixC_eq {T : Tab} {t : TypeId} {x i : SV} {K : SV → Prop} : ixC T t x i K = ixB T (T.k t) x (ixOf i) K := by unfold ixC ixB; cases ixOf i <;> rfl
theorem ixB_arr {T : Tab} {n e esz sz : Nat} {l : List SV} {j : Int} {K : SV → Prop} : ixB T (.arr n e esz sz) (.agg l) (some j) K = (0 ≤ j ∧ j < n ∧ cellC (T.k e) l (j.toNat * esz) K) := rfl
theorem faC_eq {T : Tab} {M : List Blk} {s : TypeId} {x : SV} {f : Nat} {K : SV → Prop} : faC T M s x f K = faB (T.f s f) M x K := rfl
theorem faB_p {M : List Blk} {fo sz ft n off : Nat} {K : SV → Prop} : faB (some (fo, sz, ft)) M (.p n off) K = (off + fo + sz ≤ (cellsAt M n).length ∧ K (.p n (off + fo))) := rfl
theorem nilC_p {M : List Blk} {n off : Nat} {K : SV → Prop} : nilC M (.p n off) K = (liveN M n = true ∧ K (.p n off)) := rfl
theorem convG_eq {T : Tab} {M : List Blk} {s d : TypeId} {x : SV} {K : SV → Prop} : convG T M s d x K = convH T M (T.k s) (T.k d) x K := by unfold convG convH; rw [show convC T d x K = convB (T.k d) x K from rfl]; cases T.k d <;> rfl
theorem convH_int {T : Tab} {M : List Blk} {tk : TK} {k : IntKind} {x : SV} {K : SV → Prop} : convH T M tk (.int k) x K = convB (.int k) x K := rfl
theorem convB_u8_i {k : IntKind} {a : Int} {K : SV → Prop} : convB (.int .u8) (.i k a) K = K (.u8 (BitVec.ofInt 8 a)) := rfl
theorem convB_u8_u32 {a : BitVec 32} {K : SV → Prop} : convB (.int .u8) (.u32 a) K = K (.u8 (a.setWidth 8)) := rfl
theorem convB_u8_u64 {a : BitVec 64} {K : SV → Prop} : convB (.int .u8) (.u64 a) K = K (.u8 (a.setWidth 8)) := rfl
theorem convB_u32_i {k : IntKind} {a : Int} {K : SV → Prop} : convB (.int .u32) (.i k a) K = K (.u32 (BitVec.ofInt 32 a)) := rfl
theorem convB_u32_u64 {a : BitVec 64} {K : SV → Prop} : convB (.int .u32) (.u64 a) K = K (.u32 (a.setWidth 32)) := rfl
theorem convB_u64_i {k : IntKind} {a : Int} {K : SV → Prop} : convB (.int .u64) (.i k a) K = K (.u64 (BitVec.ofInt 64 a)) := rfl
theorem convB_u64_u8 {a : BitVec 8} {K : SV → Prop} : convB (.int .u64) (.u8 a) K = K (.u64 (a.setWidth 64)) := rfl
theorem convB_u64_u32 {a : BitVec 32} {K : SV → Prop} : convB (.int .u64) (.u32 a) K = K (.u64 (a.setWidth 64)) := rfl
theorem convB_i64_u8 {a : BitVec 8} {K : SV → Prop} : convB (.int .i64) (.u8 a) K = K (.i .i64 a.toNat) := rfl
theorem convB_i64_u32 {a : BitVec 32} {K : SV → Prop} : convB (.int .i64) (.u32 a) K = K (.i .i64 a.toNat) := rfl
theorem unC_not {a : Bool} {K : SV → Prop} : unC .not (.b a) K = K (.b (!a)) := rfl
theorem unC_xor_u8 {a : BitVec 8} {K : SV → Prop} : unC .xor (.u8 a) K = K (.u8 (~~~a)) := rfl
theorem unC_xor_u32 {a : BitVec 32} {K : SV → Prop} : unC .xor (.u32 a) K = K (.u32 (~~~a)) := rfl
theorem unC_xor_u64 {a : BitVec 64} {K : SV → Prop} : unC .xor (.u64 a) K = K (.u64 (~~~a)) := rfl
theorem extC_tup {l : List SV} {i : Nat} {K : SV → Prop} : extC (.tup l) i K = extB l[i]? K := rfl
theorem extB_some {v : SV} {K : SV → Prop} : extB (some v) K = K v := rfl
theorem aggEq_eq {T : Tab} {t : TypeId} {xs ys : List SV} {K : Bool → Prop} : aggEq T t xs ys K = aggB T (T.k t) (T.eqp.getD t false) (T.eqk.getD t none) xs ys K := by unfold aggEq aggB aggI aggQ; rfl
theorem aggB_arr {T : Tab} {n e esz sz : Nat} {g : Bool} {q : Option (List IntKind)} {xs ys : List SV} {K : Bool → Prop} : aggB T (.arr n e esz sz) g q xs ys K = aggI (T.k e) n esz g xs ys K := rfl
theorem aggI_int {k : IntKind} {n esz : Nat} {g : Bool} {xs ys : List SV} {K : Bool → Prop} : aggI (.int k) n esz g xs ys K = (esz = 1 ∧ g = true ∧ xs.length = n ∧ ys.length = n ∧ xs.all (ofK k) = true ∧ ys.all (ofK k) = true ∧ K (eqL xs ys)) := rfl
theorem buildC_eq {T : Tab} {t : TypeId} {ps : List (Nat × SV)} {K : SV → Prop} : buildC T t ps K = buildB T t (T.z t) (T.k t) ps K := by unfold buildC buildB aggO; rfl
theorem buildB_arr {T : Tab} {t n e esz sz : Nat} {z : List SV} {ps : List (Nat × SV)} {K : SV → Prop} : buildB T t (some z) (.arr n e esz sz) ps K = aggO (fillS (fun i => some (i * esz, esz)) z ps) K := rfl
theorem buildB_struct {T : Tab} {t sz : Nat} {z : List SV} {ps : List (Nat × SV)} {K : SV → Prop} : buildB T t (some z) (.struct sz) ps K = aggO (fillS (fun i => (T.f t i).map fun x => (x.1, x.2.1)) z ps) K := rfl
theorem aggO_some {l : List SV} {K : SV → Prop} : aggO (some l) K = K (.agg l) := rfl
theorem fnC_fn {P : Program} {f : FuncId} {a c as : List SV} {M : List Blk} {K : SV → List Blk → Prop} : fnC P (.fn (.func f) a c) as M K = callVC P f (a ++ as ++ c) M K := rfl
theorem bndC_none {d y : Nat} {K : Nat → Prop} : bndC none d y K = K d := rfl
theorem bndC_some {v : SV} {d y : Nat} {K : Nat → Prop} : bndC (some v) d y K = bndB (ixOf v) y K := rfl
theorem bndB_some {j : Int} {y : Nat} {K : Nat → Prop} : bndB (some j) y K = (0 ≤ j ∧ j ≤ y ∧ K j.toNat) := rfl
theorem bnds_nn {len cap : Nat} {lo : Option SV} {K : Nat → Nat → Nat → Prop} : bnds len cap lo none none K = bndC lo 0 len fun l => K l len cap := rfl
theorem bnds_sn {len cap : Nat} {lo : Option SV} {hi : SV} {K : Nat → Nat → Nat → Prop} : bnds len cap lo (some hi) none K = bndC (some hi) len cap fun h => bndC lo 0 h fun l => K l h cap := rfl
theorem bnds_ss {len cap : Nat} {lo : Option SV} {hi mx : SV} {K : Nat → Nat → Nat → Prop} : bnds len cap lo (some hi) (some mx) K = bndC (some mx) cap cap fun m => bndC (some hi) len m fun h => bndC lo 0 h fun l => K l h m := rfl
theorem sliceC_eq {T : Tab} {M : List Blk} {t : TypeId} {x : SV} {lo hi mx : Option SV} {K : SV → Prop} : sliceC T M t x lo hi mx K = sliceB (T.k t) M x lo hi mx K := rfl
theorem sliceB_arr {n e esz sz nm off : Nat} {M : List Blk} {lo hi mx : Option SV} {K : SV → Prop} : sliceB (.arr n e esz sz) M (.p nm off) lo hi mx K = (liveN M nm = true ∧ bnds n n lo hi mx fun l h m => K (.sl nm (if m = l then off else off + l * esz) (h - l) (m - l))) := rfl
theorem sliceB_sl {e esz eby nm off len cap : Nat} {M : List Blk} {lo hi mx : Option SV} {K : SV → Prop} : sliceB (.slice e esz eby) M (.sl nm off len cap) lo hi mx K = (bnds len cap lo hi mx fun l h m => K (.sl nm (if m = l then off else off + l * esz) (h - l) (m - l))) := rfl
theorem bsC_eq {T : Tab} {t : TypeId} {n : Nat} {ps : List (Nat × SV)} {M : List Blk} {K : SV → List Blk → Prop} : bsC T t n ps M K = bsB T (T.k t) n ps M K := rfl
theorem bsB_sl {T : Tab} {e esz eby n : Nat} {ps : List (Nat × SV)} {M : List Blk} {K : SV → List Blk → Prop} : bsB T (.slice e esz eby) n ps M K = (0 < esz ∧ n * esz ≤ 2 ^ 24 ∧ bsD (T.z e) e esz n (idxP 0 n ps) ps M K) := rfl
theorem bsD_t {z : List SV} {e esz n : Nat} {ps : List (Nat × SV)} {M : List Blk} {K : SV → List Blk → Prop} : bsD (some z) e esz n true ps M K = (partsOK esz ps ∧ K (.sl M.length 0 n n) (M ++ [.row (catS ps) e])) := rfl
theorem idxP_nil {k n : Nat} : idxP k n [] = (k == n) := rfl
theorem idxP_cons {k n i : Nat} {v : SV} {r : List (Nat × SV)} : idxP k n ((i, v) :: r) = (i == k && idxP (k + 1) n r) := rfl
theorem catS_nil  : catS [] = ([] : List SV) := rfl
theorem catS_cons {i : Nat} {v : SV} {r : List (Nat × SV)} : catS ((i, v) :: r) = cellsS v ++ catS r := rfl
theorem partsOK_nil {e : Nat} : partsOK e [] = True := rfl
theorem partsOK_cons {e i : Nat} {v : SV} {r : List (Nat × SV)} : partsOK e ((i, v) :: r) = ((cellsS v).length = e ∧ (cellsS v).all SV.one = true ∧ partsOK e r) := rfl
theorem apC_eq {T : Tab} {t : TypeId} {x : SV} {K : SV → Prop} : apC T t x K = apB (T.k t) x K := rfl
theorem apB_arr {n e a b m off l c : Nat} {K : SV → Prop} : apB (.arr n e a b) (.sl m off l c) K = (n ≤ l ∧ K (.p m off)) := rfl
theorem makeC_eq {T : Tab} {t : TypeId} {l c : SV} {M : List Blk} {K : SV → List Blk → Prop} : makeC T t l c M K = makeB T (T.k t) (ixOf l) (ixOf c) M K := rfl
theorem makeB_sl {T : Tab} {e esz eby : Nat} {l c : Int} {M : List Blk} {K : SV → List Blk → Prop} : makeB T (.slice e esz eby) (some l) (some c) M K = (0 ≤ l ∧ l ≤ c ∧ c ≤ 2 ^ 62 ∧ eby * c ≤ 2 ^ 48 ∧ makeD (T.z e) e l c M K) := rfl
theorem makeD_some {z : List SV} {e : Nat} {l c : Int} {M : List Blk} {K : SV → List Blk → Prop} : makeD (some z) e l c M K = K (.sl M.length 0 l.toNat c.toNat) (M ++ [.row (zerosS z c.toNat) e]) := rfl
theorem bltC_len {T : Tab} {M : List Blk} {t : TypeId} {x : SV} {K : SV → List Blk → Prop} : bltC T .len [t] [x] M K = lenB (T.k t) M x (fun v => K v M) := rfl
theorem bltC_append {T : Tab} {M : List Blk} {t u : TypeId} {s x : SV} {K : SV → List Blk → Prop} : bltC T .append [t, u] [s, x] M K = appendC T M t u s x K := rfl
theorem bltC_copy {T : Tab} {M : List Blk} {t u : TypeId} {d x : SV} {K : SV → List Blk → Prop} : bltC T .copy [t, u] [d, x] M K = copyC T M t d x K := rfl
theorem bltC_min {T : Tab} {M : List Blk} {ats : List TypeId} {l : List SV} {K : SV → List Blk → Prop} : bltC T .min ats l M K = minC l (fun v => K v M) := rfl
theorem lenB_sl {M : List Blk} {e a b n off l c : Nat} {K : SV → Prop} : lenB (.slice e a b) M (.sl n off l c) K = K (.i .i64 l) := rfl
theorem lenB_sn {M : List Blk} {e a b : Nat} {K : SV → Prop} : lenB (.slice e a b) M .sn K = K (.i .i64 0) := rfl
theorem minC_2 {k k' : IntKind} {a b : Int} {K : SV → Prop} : minC [.i k a, .i k' b] K = K (.i k (min a b)) := rfl
theorem resL_nil {T : Tab} {ts : List SV} {M : List Blk} {K : List SV → Prop} : resL T ts M [] K = K [] := rfl
theorem resL_tmp {T : Tab} {ts : List SV} {M : List Blk} {t : Nat} {rs : List ResultVar} {K : List SV → Prop} : resL T ts M (.tmp t :: rs) K = resL T ts M rs (fun l => K (ts.getD t uS :: l)) := rfl
theorem resL_cell {T : Tab} {ts : List SV} {M : List Blk} {a t : Nat} {rs : List ResultVar} {K : List SV → Prop} : resL T ts M (.cell a t :: rs) K = loadC T t (ts.getD a uS) M (fun v => resL T ts M rs (fun l => K (v :: l))) := rfl
theorem endC_normal {T : Tab} {m0 : Nat} {rs : List ResultVar} {K : SV → List Blk → Prop} {ts : List SV} {M : List Blk} : endC T m0 rs K .normal ts M = resL T ts M rs fun l => dropC m0 (tupS l) M K := rfl
theorem endC_ret {T : Tab} {m0 : Nat} {rs : List ResultVar} {K : SV → List Blk → Prop} {ts : List SV} {M : List Blk} : endC T m0 rs K .ret ts M = resL T ts M rs fun l => dropC m0 (tupS l) M K := rfl
theorem tupS_one {v : SV} : tupS [v] = v := rfl
theorem tupS_nil  : tupS [] = (.tup []) := rfl
theorem tupS_two {u v : SV} {l : List SV} : tupS (u :: v :: l) = (.tup (u :: v :: l)) := rfl
theorem lt_agg {m : Nat} {l : List SV} : SV.lt m (.agg l) = ltL m l := rfl
theorem lt_tup {m : Nat} {l : List SV} : SV.lt m (.tup l) = ltL m l := rfl
theorem ltL_cons {m : Nat} {x : SV} {l : List SV} : ltL m (x :: l) = (x.lt m && ltL m l) := rfl
theorem liveN_eq {M : List Blk} {n : Nat} : liveN M n = liveB M[n]? := rfl
theorem liveB_row {cs : List SV} {ty : TypeId} : liveB (some (.row cs ty)) = decide (0 < cs.length) := rfl
theorem cellsAt_eq {M : List Blk} {n : Nat} : cellsAt M n = cellsB M[n]? := rfl
theorem cellsB_row {cs : List SV} {ty : TypeId} : cellsB (some (.row cs ty)) = cs := rfl
theorem bvC_add {n : Nat} {a b : BitVec n} {mk : BitVec n → SV} {K : SV → Prop} : bvC .add a b mk K = K (mk (a + b)) := rfl
theorem bvC_mul {n : Nat} {a b : BitVec n} {mk : BitVec n → SV} {K : SV → Prop} : bvC .mul a b mk K = K (mk (a * b)) := rfl
theorem bvC_and {n : Nat} {a b : BitVec n} {mk : BitVec n → SV} {K : SV → Prop} : bvC .and a b mk K = K (mk (a &&& b)) := rfl
theorem bvC_or {n : Nat} {a b : BitVec n} {mk : BitVec n → SV} {K : SV → Prop} : bvC .or a b mk K = K (mk (a ||| b)) := rfl
theorem bvC_xor {n : Nat} {a b : BitVec n} {mk : BitVec n → SV} {K : SV → Prop} : bvC .xor a b mk K = K (mk (a ^^^ b)) := rfl
theorem bvC_shl {n : Nat} {a b : BitVec n} {mk : BitVec n → SV} {K : SV → Prop} : bvC .shl a b mk K = K (mk (a <<< b.toNat)) := rfl
theorem bvC_shr {n : Nat} {a b : BitVec n} {mk : BitVec n → SV} {K : SV → Prop} : bvC .shr a b mk K = K (mk (a >>> b.toNat)) := rfl
theorem bvC_eql {n : Nat} {a b : BitVec n} {mk : BitVec n → SV} {K : SV → Prop} : bvC .eql a b mk K = K (.b (a == b)) := rfl
theorem bvC_neq {n : Nat} {a b : BitVec n} {mk : BitVec n → SV} {K : SV → Prop} : bvC .neq a b mk K = K (.b (a != b)) := rfl
theorem bvC_lss {n : Nat} {a b : BitVec n} {mk : BitVec n → SV} {K : SV → Prop} : bvC .lss a b mk K = K (.b (decide (a.toNat < b.toNat))) := rfl
theorem bvC_leq {n : Nat} {a b : BitVec n} {mk : BitVec n → SV} {K : SV → Prop} : bvC .leq a b mk K = K (.b (decide (a.toNat ≤ b.toNat))) := rfl
theorem bvC_gtr {n : Nat} {a b : BitVec n} {mk : BitVec n → SV} {K : SV → Prop} : bvC .gtr a b mk K = K (.b (decide (b.toNat < a.toNat))) := rfl
theorem shC_shl {n c : Nat} {a : BitVec n} {mk : BitVec n → SV} {K : SV → Prop} : shC .shl a c mk K = K (mk (a <<< c)) := rfl
theorem shC_shr {n c : Nat} {a : BitVec n} {mk : BitVec n → SV} {K : SV → Prop} : shC .shr a c mk K = K (mk (a >>> c)) := rfl
theorem intC_add {k : IntKind} {a b : Int} {K : SV → Prop} : intC .add k a b K = K (.i k (k.wrap (a + b))) := rfl
theorem intC_sub {k : IntKind} {a b : Int} {K : SV → Prop} : intC .sub k a b K = K (.i k (k.wrap (a - b))) := rfl
theorem intC_mul {k : IntKind} {a b : Int} {K : SV → Prop} : intC .mul k a b K = K (.i k (k.wrap (a * b))) := rfl
theorem intC_quo {k : IntKind} {a b : Int} {K : SV → Prop} : intC .quo k a b K = (b ≠ 0 ∧ K (.i k (k.wrap (a.tdiv b)))) := rfl
theorem intC_rem {k : IntKind} {a b : Int} {K : SV → Prop} : intC .rem k a b K = (b ≠ 0 ∧ K (.i k (a.tmod b))) := rfl
theorem intC_eql {k : IntKind} {a b : Int} {K : SV → Prop} : intC .eql k a b K = K (.b (a == b)) := rfl
theorem intC_neq {k : IntKind} {a b : Int} {K : SV → Prop} : intC .neq k a b K = K (.b (a != b)) := rfl
theorem intC_lss {k : IntKind} {a b : Int} {K : SV → Prop} : intC .lss k a b K = K (.b (decide (a < b))) := rfl
theorem intC_leq {k : IntKind} {a b : Int} {K : SV → Prop} : intC .leq k a b K = K (.b (decide (a ≤ b))) := rfl
theorem intC_gtr {k : IntKind} {a b : Int} {K : SV → Prop} : intC .gtr k a b K = K (.b (decide (b < a))) := rfl
theorem intC_geq {k : IntKind} {a b : Int} {K : SV → Prop} : intC .geq k a b K = K (.b (decide (b ≤ a))) := rfl
theorem fillS_nil {pl : Nat → Option (Nat × Nat)} {cs : List SV} : fillS pl cs [] = some cs := rfl
theorem fillS_cons {pl : Nat → Option (Nat × Nat)} {cs : List SV} {i : Nat} {v : SV} {r : List (Nat × SV)} : fillS pl cs ((i, v) :: r) = fillD pl cs (pl i) v r := by rw [fillS]; unfold fillD; rfl
theorem fillD_some {pl : Nat → Option (Nat × Nat)} {cs : List SV} {off size : Nat} {v : SV} {r : List (Nat × SV)} : fillD pl cs (some (off, size)) v r = (if (cellsS v).length = size ∧ off + size ≤ cs.length ∧ (cellsS v).all SV.one = true then fillS pl (splice cs off (cellsS v)) r else none) := rfl
theorem drawC_nil {P : Program} {T : Tab} {ops : List Oper} {ts : List SV} {M : List Blk} {pd : List Pend} {K : List SV → List Blk → Prop} : drawC P T ops .nil ts M pd K = K ts M := rfl
theorem drawC_no {P : Program} {T : Tab} {ops : List Oper} {ts : List SV} {M : List Blk} {pd : List Pend} {K : List SV → List Blk → Prop} : drawC P T ops .no ts M pd K = True := rfl
theorem drawC_p {P : Program} {T : Tab} {ops : List Oper} {r : Tr} {ts : List SV} {M : List Blk} {pd : List Pend} {K : List SV → List Blk → Prop} {i : Nat} : drawC P T ops (.p i r) ts M pd K = drB P T ops (.p i) ops[i]? r ts M pd K := by simp only [drawC, drB]; cases ops[i]? <;> rfl
theorem drawC_e {P : Program} {T : Tab} {ops : List Oper} {r : Tr} {ts : List SV} {M : List Blk} {pd : List Pend} {K : List SV → List Blk → Prop} {i : Nat} {rc : List Nat} {alt : Tr} : drawC P T ops (.e i rc r alt) ts M pd K = (drB P T ops (.e i rc) ops[i]? r ts M pd K ∧ drawC P T ops alt ts M pd K) := by simp only [drawC, drB]; cases ops[i]? <;> rfl
theorem drB_p {P : Program} {T : Tab} {ops : List Oper} {r : Tr} {ts : List SV} {M : List Blk} {pd : List Pend} {K : List SV → List Blk → Prop} {d : Option Tmp} {op : Op} {t : TypeId} {p : String} {af : Array Edge} {i : Nat} : drB P T ops (.p i) (some { dst := d, op := op, type := t, pos := p, after := af, guard := none }) r ts M pd K = opC P T op ts M (fun v M' => drawC P T ops r (putS ts d v) M' ((i, ts, v) :: pd) K) := rfl
theorem drB_e {P : Program} {T : Tab} {ops : List Oper} {r : Tr} {ts : List SV} {M : List Blk} {pd : List Pend} {K : List SV → List Blk → Prop} {d : Option Tmp} {op : Op} {t : TypeId} {p : String} {af : Array Edge} {i : Nat} {rc : List Nat} : drB P T ops (.e i rc) (some { dst := d, op := op, type := t, pos := p, after := af, guard := none }) r ts M pd K = opC P T op ts M (fun v M' => rcC P T ops pd rc M' ∧ drawC P T ops r (putS ts d v) M' pd K) := rfl
theorem rcC_empty {P : Program} {T : Tab} {ops : List Oper} {pd : List Pend} {M : List Blk} : rcC P T ops pd [] M = True := by induction pd with | nil => rfl | cons x pd ih => obtain ⟨i, ts, v⟩ := x; simp only [rcC, ih, List.contains_nil]; simp
theorem rcC_nil {P : Program} {T : Tab} {ops : List Oper} {rc : List Nat} {M : List Blk} : rcC P T ops [] rc M = True := rfl
theorem rcC_cons {P : Program} {T : Tab} {ops : List Oper} {i : Nat} {ts : List SV} {v : SV} {pd : List Pend} {rc : List Nat} {M : List Blk} : rcC P T ops ((i, ts, v) :: pd) rc M = (rcB P T (rc.contains i) ops[i]? ts v M ∧ rcC P T ops pd rc M) := by simp only [rcC, rcB]; cases rc.contains i with | false => simp only [Bool.false_eq_true, if_false, true_and] | true => simp only [if_true]; cases ops[i]? <;> rfl
theorem rcB_f {P : Program} {T : Tab} {o : Option Oper} {ts : List SV} {v : SV} {M : List Blk} : rcB P T false o ts v M = True := rfl
theorem rcB_t {P : Program} {T : Tab} {d : Option Tmp} {op : Op} {t : TypeId} {p : String} {af : Array Edge} {g : Option (Nat × Bool)} {ts : List SV} {v : SV} {M : List Blk} : rcB P T true (some { dst := d, op := op, type := t, pos := p, after := af, guard := g }) ts v M = opC P T op ts M (fun v' M' => v' = v ∧ M' = M) := rfl
theorem is32_z {a : BitVec 32} {l : List SV} : is32 (.u32 a :: l) 0 = true := rfl
theorem cell32_z {a : BitVec 32} {l : List SV} : cell32 (.u32 a :: l) 0 = a := rfl
theorem is64_z {a : BitVec 64} {l : List SV} : is64 (.u64 a :: l) 0 = true := rfl
theorem cell64_z {a : BitVec 64} {l : List SV} : cell64 (.u64 a :: l) 0 = a := rfl
theorem is64_s {y : SV} {l : List SV} {j : Nat} : is64 (y :: l) (j + 1) = is64 l j := rfl
theorem cell64_s {y : SV} {l : List SV} {j : Nat} : cell64 (y :: l) (j + 1) = cell64 l j := rfl
theorem isI_z {k : IntKind} {a : Int} {l : List SV} : isI k (.i k a :: l) 0 = true := by simp [isI]
theorem cellI_z {k : IntKind} {a : Int} {l : List SV} : cellI (.i k a :: l) 0 = a := rfl
theorem isI_s {k : IntKind} {y : SV} {l : List SV} {j : Nat} : isI k (y :: l) (j + 1) = isI k l j := rfl
theorem cellI_s {y : SV} {l : List SV} {j : Nat} : cellI (y :: l) (j + 1) = cellI l j := rfl
section
variable {P : Program} {T : Tab}
theorem ixaB_congr {tk tk' : TK} {M : List Blk} {x : SV} {i i' : Option Int} {K : SV → Prop} (h : tk = tk') (h1 : i = i') : ixaB tk M x i K = ixaB tk' M x i' K := by rw [h, h1]
theorem ixB_congr {tk tk' : TK} {x : SV} {i i' : Option Int} {K : SV → Prop} (h : tk = tk') (h1 : i = i') : ixB T tk x i K = ixB T tk' x i' K := by rw [h, h1]
theorem faB_congr {f f' : Option (Nat × Nat × TypeId)} {M : List Blk} {x : SV} {K : SV → Prop} (h : f = f') : faB f M x K = faB f' M x K := by rw [h]
theorem fB_congr {f f' : Option (Nat × Nat × TypeId)} {x : SV} {K : SV → Prop} (h : f = f') : fB T f x K = fB T f' x K := by rw [h]
theorem convH_congr {M : List Blk} {ks ks' kd kd' : TK} {x : SV} {K : SV → Prop} (h : ks = ks') (h1 : kd = kd') : convH T M ks kd x K = convH T M ks' kd' x K := by rw [h, h1]
theorem convB_congr {tk tk' : TK} {x : SV} {K : SV → Prop} (h : tk = tk') : convB tk x K = convB tk' x K := by rw [h]
theorem extB_congr {v v' : Option SV} {K : SV → Prop} (h : v = v') : extB v K = extB v' K := by rw [h]
theorem aggI_congr {tk tk' : TK} {n esz : Nat} {g g' : Bool} {xs ys : List SV} {K : Bool → Prop} (h : tk = tk') (h1 : g = g') : aggI tk n esz g xs ys K = aggI tk' n esz g' xs ys K := by rw [h, h1]
theorem aggB_congr {tk tk' : TK} {g g' : Bool} {q q' : Option (List IntKind)} {xs ys : List SV} {K : Bool → Prop} (h : tk = tk') (h1 : g = g') (h2 : q = q') : aggB T tk g q xs ys K = aggB T tk' g' q' xs ys K := by rw [h, h1, h2]
theorem aggQ_congr {g g' : Bool} {q q' : Option (List IntKind)} {xs ys : List SV} {K : Bool → Prop} (h1 : g = g') (h2 : q = q') : aggQ g q xs ys K = aggQ g' q' xs ys K := by rw [h1, h2]
theorem aggO_congr {l l' : Option (List SV)} {K : SV → Prop} (h : l = l') : aggO l K = aggO l' K := by rw [h]
theorem buildB_congr {t : TypeId} {z z' : Option (List SV)} {tk tk' : TK} {ps : List (Nat × SV)} {K : SV → Prop} (h : z = z') (h1 : tk = tk') : buildB T t z tk ps K = buildB T t z' tk' ps K := by rw [h, h1]
theorem bndB_congr {j j' : Option Int} {y : Nat} {K : Nat → Prop} (h : j = j') : bndB j y K = bndB j' y K := by rw [h]
theorem bndC_congr {o o' : Option SV} {d y y' : Nat} {K : Nat → Prop} (h : o = o') (h1 : y = y') : bndC o d y K = bndC o' d y' K := by rw [h, h1]
theorem bnds_congr {len cap : Nat} {lo hi mx : Option SV} {K : Nat → Nat → Nat → Prop} : bnds len cap lo hi mx K = bnds len cap lo hi mx K := rfl
theorem sliceB_congr {tk tk' : TK} {M : List Blk} {x : SV} {lo hi mx : Option SV} {K : SV → Prop} (h : tk = tk') : sliceB tk M x lo hi mx K = sliceB tk' M x lo hi mx K := by rw [h]
theorem makeD_congr {z z' : Option (List SV)} {e : TypeId} {l c : Int} {M : List Blk} {K : SV → List Blk → Prop} (h : z = z') : makeD z e l c M K = makeD z' e l c M K := by rw [h]
theorem makeB_congr {tk tk' : TK} {l l' c c' : Option Int} {M : List Blk} {K : SV → List Blk → Prop} (h : tk = tk') (h1 : l = l') (h2 : c = c') : makeB T tk l c M K = makeB T tk' l' c' M K := by rw [h, h1, h2]
theorem bsC_congr {t : TypeId} {n : Nat} {ps ps' : List (Nat × SV)} {M : List Blk} {K : SV → List Blk → Prop} (h : ps = ps') : bsC T t n ps M K = bsC T t n ps' M K := by rw [h]
theorem bsB_congr {tk tk' : TK} {n : Nat} {ps : List (Nat × SV)} {M : List Blk} {K : SV → List Blk → Prop} (h : tk = tk') : bsB T tk n ps M K = bsB T tk' n ps M K := by rw [h]
theorem bsD_congr {z z' : Option (List SV)} {e esz n : Nat} {b b' : Bool} {ps : List (Nat × SV)} {M : List Blk} {K : SV → List Blk → Prop} (h : z = z') (h1 : b = b') : bsD z e esz n b ps M K = bsD z' e esz n b' ps M K := by rw [h, h1]
theorem apC_congr {t : TypeId} {x x' : SV} {K : SV → Prop} (h : x = x') : apC T t x K = apC T t x' K := by rw [h]
theorem apB_congr {tk tk' : TK} {x : SV} {K : SV → Prop} (h : tk = tk') : apB tk x K = apB tk' x K := by rw [h]
theorem CovF_congr {b : Nat} {ts ts' : List SV} {M M' : List Blk} {C : List SV → List Blk → Prop} (h : ts = ts') (h' : M = M') : CovF b ts M C = CovF b ts' M' C := by rw [h, h']
theorem roundsC_congr {bs : Nat} {c : Code} {Q : Exit → List SV → List Blk → Prop} {n : Nat} {ts ts' : List SV} {M M' : List Blk} (h : ts = ts') (h' : M = M') : roundsC P T bs c Q n ts M = roundsC P T bs c Q n ts' M' := by rw [h, h']
theorem lenB_congr {tk tk' : TK} {M : List Blk} {x : SV} {K : SV → Prop} (h : tk = tk') : lenB tk M x K = lenB tk' M x K := by rw [h]
theorem capB_congr {tk tk' : TK} {x : SV} {K : SV → Prop} (h : tk = tk') : capB tk x K = capB tk' x K := by rw [h]
theorem appendC_congr {M : List Blk} {ts tx : TypeId} {s x : SV} {K : SV → List Blk → Prop} : appendC T M ts tx s x K = appendC T M ts tx s x K := rfl
theorem copyC_congr {M : List Blk} {t : TypeId} {d x : SV} {K : SV → List Blk → Prop} : copyC T M t d x K = copyC T M t d x K := rfl
theorem allocB_congr {z z' : Option (List SV)} {t : TypeId} {M : List Blk} {K : SV → List Blk → Prop} (h : z = z') : allocB z t M K = allocB z' t M K := by rw [h]
theorem dropC_congr {m0 m0' : Nat} {v v' : SV} {M M' : List Blk} {K : SV → List Blk → Prop} (h : m0 = m0') (h1 : v = v') (h2 : M = M') : dropC m0 v M K = dropC m0' v' M' K := by rw [h, h1, h2]
theorem srcC_congr {M : List Blk} {esz : Nat} {x : SV} {K : List SV → Nat → Prop} : srcC M esz x K = srcC M esz x K := rfl
theorem drawC_congr {ops : List Oper} {r : Tr} {ts ts' : List SV} {M M' : List Blk} {pd : List Pend} {K : List SV → List Blk → Prop} (h : ts = ts') (h1 : M = M') : drawC P T ops r ts M pd K = drawC P T ops r ts' M' pd K := by rw [h, h1]
theorem drB_congr {ops : List Oper} {s : Stp} {o o' : Option Oper} {r : Tr} {ts : List SV} {M : List Blk} {pd : List Pend} {K : List SV → List Blk → Prop} (h : o = o') : drB P T ops s o r ts M pd K = drB P T ops s o' r ts M pd K := by rw [h]
theorem rcC_congr {ops : List Oper} {pd : List Pend} {rc : List Nat} {M M' : List Blk} (h : M = M') : rcC P T ops pd rc M = rcC P T ops pd rc M' := by rw [h]
theorem rcB_congr {b b' : Bool} {o o' : Option Oper} {ts : List SV} {v : SV} {M : List Blk} (h : b = b') (h1 : o = o') : rcB P T b o ts v M = rcB P T b' o' ts v M := by rw [h, h1]
theorem lookC_congr {M : List Blk} {t : TypeId} {x x' k k' : SV} {b : Bool} {K : SV → Prop} (h : x = x') (h1 : k = k') : lookC T M t x k b K = lookC T M t x' k' b K := by rw [h, h1]
theorem lookB_congr {tk tk' : TK} {B B' : Option Blk} {j : Int} {b : Bool} {K : SV → Prop} (h : tk = tk') (h1 : B = B') : lookB T tk B j b K = lookB T tk' B' j b K := by rw [h, h1]
theorem lookE_congr {e : TypeId} {o o' : Option SV} {b : Bool} {K : SV → Prop} (h : o = o') : lookE T e o b K = lookE T e o' b K := by rw [h]
theorem lookZ_congr {tk tk' : TK} {z z' : Option (List SV)} {b : Bool} {K : SV → Prop} (h : tk = tk') (h1 : z = z') : lookZ tk z b K = lookZ tk' z' b K := by rw [h, h1]
theorem updC_congr {M : List Blk} {t : TypeId} {x x' k k' v v' : SV} {K : List Blk → Prop} (h : x = x') (h1 : k = k') (h2 : v = v') : updC T M t x k v K = updC T M t x' k' v' K := by rw [h, h1, h2]
theorem updB_congr {tk tk' : TK} {n : Nat} {B B' : Option Blk} {j : Int} {v : SV} {M : List Blk} {K : List Blk → Prop} (h : tk = tk') (h1 : B = B') : updB tk n B j v M K = updB tk' n B' j v M K := by rw [h, h1]
theorem delC_congr {M : List Blk} {t : TypeId} {x x' k k' : SV} {K : List Blk → Prop} (h : x = x') (h1 : k = k') : delC T M t x k K = delC T M t x' k' K := by rw [h, h1]
theorem delB_congr {tk tk' : TK} {n : Nat} {B B' : Option Blk} {j : Int} {M : List Blk} {K : List Blk → Prop} (h : tk = tk') (h1 : B = B') : delB tk n B j M K = delB tk' n B' j M K := by rw [h, h1]
theorem lenO_congr {B B' : Option Blk} {K : SV → Prop} (h : B = B') : lenO B K = lenO B' K := by rw [h]
theorem rangeC_congr {M : List Blk} {t : TypeId} {x x' : SV} {K : SV → List Blk → Prop} (h : x = x') : rangeC T M t x K = rangeC T M t x' K := by rw [h]
theorem rangeB_congr {tk tk' : TK} {n : Nat} {B B' : Option Blk} {M : List Blk} {K : SV → List Blk → Prop} (h : tk = tk') (h1 : B = B') : rangeB tk n B M K = rangeB tk' n B' M K := by rw [h, h1]
theorem nextC_congr {M : List Blk} {x x' : SV} {K : SV → List Blk → Prop} (h : x = x') : nextC M x K = nextC M x' K := by rw [h]
theorem nextB_congr {M : List Blk} {r : Nat} {B B' : Option Blk} {K : SV → List Blk → Prop} (h : B = B') : nextB M r B K = nextB M r B' K := by rw [h]
theorem nextD_congr {M : List Blk} {r m s st : Nat} {seen : List Nat} {B B' : Option Blk} {K : SV → List Blk → Prop} (h : B = B') : nextD M r m s seen st B K = nextD M r m s seen st B' K := by rw [h]
theorem entryC_congr {M : List Blk} {x x' : SV} {K : SV → Prop} (h : x = x') : entryC M x K = entryC M x' K := by rw [h]
theorem entryB_congr {M : List Blk} {B B' : Option Blk} {K : SV → Prop} (h : B = B') : entryB M B K = entryB M B' K := by rw [h]
theorem entryG_congr {st : Nat} {seen : List Nat} {B B' : Option Blk} {K : SV → Prop} (h : B = B') : entryG st seen B K = entryG st seen B' K := by rw [h]
theorem entryD_congr {es : List (Int × SV × Nat)} {o o' : Option Nat} {K : SV → Prop} (h : o = o') : entryD es o K = entryD es o' K := by rw [h]
theorem entryF_congr {o o' : Option (Int × SV × Nat)} {K : SV → Prop} (h : o = o') : entryF o K = entryF o' K := by rw [h]
theorem minC_congr {l l' : List SV} {K : SV → Prop} (h : l = l') : minC l K = minC l' K := by rw [h]
theorem maxC_congr {l l' : List SV} {K : SV → Prop} (h : l = l') : maxC l K = maxC l' K := by rw [h]
end
end Go.Proofs.YtdkdbeamimkljaaGreatDoor.Eng
