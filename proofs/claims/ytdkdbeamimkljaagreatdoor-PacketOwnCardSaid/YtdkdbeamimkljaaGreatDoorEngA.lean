/- The engine, part A: symbolic values, their meaning in a memory, blocks, and what a state of the walk says of a world. -/
import Derived.WalkKit
import Derived.KernelRfl
namespace Go.Proofs.YtdkdbeamimkljaaGreatDoor.Eng
open Go Go.RowKit
set_option linter.unusedSimpArgs false
set_option linter.unusedVariables false
/-- where the block of a name lies: block and first cell; none: a nil base -/
abbrev Ren := Nat → Option (Nat × Nat)
inductive SV where
  | i (k : IntKind) (x : Int)
  | u8 (x : BitVec 8)
  | u32 (x : BitVec 32)
  | u64 (x : BitVec 64)
  | b (x : Bool)
  | str (x : ByteArray)
  | p (n off : Nat)
  | pn
  | sl (n off len cap : Nat)
  | sn
  | mp (n : Nat)
  | mn
  | agg (l : List SV)
  | tup (l : List SV)
  | fn (f : Fn) (first cap : List SV)
  | fnil
  | ifc (t : TypeId) (v : SV)
  | inil
  | raw (v : Value)
def adr (ρ : Ren) (n off : Nat) : Option Addr := (ρ n).map fun a => ⟨a.1, a.2 + off, none⟩
mutual
def den (ρ : Ren) : SV → Value
  | .i k x => .int k x
  | .u8 x => .int .u8 x.toNat
  | .u32 x => .int .u32 x.toNat
  | .u64 x => .int .u64 x.toNat
  | .b x => .bool x
  | .str x => .string x
  | .p n off => .pointer (adr ρ n off)
  | .pn => .pointer none
  | .sl n off len cap => .slice (adr ρ n off) len cap
  | .sn => .slice none 0 0
  | .mp n => .map ((ρ n).map (·.1))
  | .mn => .map none
  | .agg l => .agg (denL ρ l).toArray
  | .tup l => .tuple (denL ρ l).toArray
  | .fn f x c => .func f (denL ρ x).toArray (denL ρ c).toArray
  | .fnil => .nilFunc
  | .ifc t v => .iface t (den ρ v)
  | .inil => .nilIface
  | .raw v => v
def denL (ρ : Ren) : List SV → List Value
  | [] => []
  | x :: l => den ρ x :: denL ρ l
end
mutual
def SV.lt (m : Nat) : SV → Bool
  | .p n _ => decide (n < m)
  | .sl n _ _ _ => decide (n < m)
  | .mp n => decide (n < m)
  | .agg l => ltL m l
  | .tup l => ltL m l
  | .fn _ x c => ltL m x && ltL m c
  | .ifc _ v => v.lt m
  | .i .. | .u8 .. | .u32 .. | .u64 .. | .b .. | .str .. | .pn | .sn | .mn | .fnil | .inil | .raw .. => true
def ltL (m : Nat) : List SV → Bool
  | [] => true
  | x :: l => x.lt m && ltL m l
end
/-- a value of one cell -/
def SV.one : SV → Bool
  | .agg _ | .tup _ => false
  | .raw v => v.oneCell'
  | _ => true
theorem denL_eq (ρ : Ren) (l : List SV) : denL ρ l = l.map (den ρ) := by
  induction l with
  | nil => rfl
  | cons x l ih => simp [denL, ih]
theorem ltL_eq (m : Nat) (l : List SV) : ltL m l = l.all (SV.lt m) := by
  induction l with
  | nil => rfl
  | cons x l ih => simp [ltL, ih]
theorem one_den {ρ : Ren} {x : SV} (h : x.one = true) : (den ρ x).oneCell' = true := by
  cases x <;> simp_all [SV.one, den, Value.oneCell']
theorem one_cells {v : Value} (h : v.oneCell' = true) : v.cells = #[v] := by
  cases v <;> simp_all [Value.oneCell', Value.cells]
mutual
theorem den_congr {ρ ρ' : Ren} {m : Nat} (h : ∀ n, n < m → ρ' n = ρ n) : ∀ x : SV, x.lt m = true → den ρ' x = den ρ x
  | .i .., _ | .u8 .., _ | .u32 .., _ | .u64 .., _ | .b .., _ | .str .., _ | .pn, _ | .sn, _ | .mn, _ | .fnil, _ | .inil, _ | .raw .., _ => by simp [den]
  | .p n off, hx => by simp [SV.lt] at hx; simp [den, adr, h n hx]
  | .sl n off len cap, hx => by simp [SV.lt] at hx; simp [den, adr, h n hx]
  | .mp n, hx => by simp [SV.lt] at hx; simp [den, h n hx]
  | .agg l, hx => by simp only [SV.lt] at hx; simp only [den, denL_congr h l hx]
  | .tup l, hx => by simp only [SV.lt] at hx; simp only [den, denL_congr h l hx]
  | .fn f x c, hx => by
    simp only [SV.lt, Bool.and_eq_true] at hx
    simp only [den, denL_congr h x hx.1, denL_congr h c hx.2]
  | .ifc t v, hx => by simp only [SV.lt] at hx; simp only [den, den_congr h v hx]
theorem denL_congr {ρ ρ' : Ren} {m : Nat} (h : ∀ n, n < m → ρ' n = ρ n) : ∀ l : List SV, ltL m l = true → denL ρ' l = denL ρ l
  | [], _ => rfl
  | x :: l, hx => by
    simp only [ltL, Bool.and_eq_true] at hx
    simp only [denL, den_congr h x hx.1, denL_congr h l hx.2]
end
mutual
theorem lt_mono {m m' : Nat} (h : m ≤ m') : ∀ x : SV, x.lt m = true → x.lt m' = true
  | .i .., _ | .u8 .., _ | .u32 .., _ | .u64 .., _ | .b .., _ | .str .., _ | .pn, _ | .sn, _ | .mn, _ | .fnil, _ | .inil, _ | .raw .., _ => by simp [SV.lt]
  | .p n off, hx => by simp [SV.lt] at hx ⊢; omega
  | .sl n off len cap, hx => by simp [SV.lt] at hx ⊢; omega
  | .mp n, hx => by simp [SV.lt] at hx ⊢; omega
  | .agg l, hx => by simp only [SV.lt] at hx ⊢; exact ltL_mono h l hx
  | .tup l, hx => by simp only [SV.lt] at hx ⊢; exact ltL_mono h l hx
  | .fn f x c, hx => by
    simp only [SV.lt, Bool.and_eq_true] at hx ⊢
    exact ⟨ltL_mono h x hx.1, ltL_mono h c hx.2⟩
  | .ifc t v, hx => by simp only [SV.lt] at hx ⊢; exact lt_mono h v hx
theorem ltL_mono {m m' : Nat} (h : m ≤ m') : ∀ l : List SV, ltL m l = true → ltL m' l = true
  | [], _ => rfl
  | x :: l, hx => by
    simp only [ltL, Bool.and_eq_true] at hx ⊢
    exact ⟨lt_mono h x hx.1, ltL_mono h l hx.2⟩
end
theorem ltL_get {m : Nat} {l : List SV} (h : ltL m l = true) {j : Nat} {x : SV} (hx : l[j]? = some x) : x.lt m = true := by
  rw [ltL_eq, List.all_eq_true] at h
  exact h x (List.mem_of_getElem? hx)
theorem ltL_append {m : Nat} {l r : List SV} : ltL m (l ++ r) = (ltL m l && ltL m r) := by simp [ltL_eq]
theorem ltL_set {m : Nat} {l : List SV} (h : ltL m l = true) {x : SV} (hx : x.lt m = true) (j : Nat) : ltL m (l.set j x) = true := by
  rw [ltL_eq, List.all_eq_true] at h ⊢
  intro y hy
  rcases List.mem_or_eq_of_mem_set hy with h' | h'
  · exact h y h'
  · exact h' ▸ hx
theorem ltL_sub {m : Nat} {l r : List SV} (h : ltL m l = true) (hs : ∀ x, x ∈ r → x ∈ l) : ltL m r = true := by
  rw [ltL_eq, List.all_eq_true] at h ⊢
  exact fun x hx => h x (hs x hx)
theorem denL_length (ρ : Ren) (l : List SV) : (denL ρ l).length = l.length := by simp [denL_eq]
theorem denL_append (ρ : Ren) (l r : List SV) : denL ρ (l ++ r) = denL ρ l ++ denL ρ r := by simp [denL_eq]
theorem denL_get (ρ : Ren) (l : List SV) (j : Nat) : (denL ρ l)[j]? = l[j]?.map (den ρ) := by simp [denL_eq]
theorem denL_set (ρ : Ren) (l : List SV) (j : Nat) (x : SV) : denL ρ (l.set j x) = (denL ρ l).set j (den ρ x) := by
  simp only [denL_eq, List.map_set]
theorem denL_take (ρ : Ren) (l : List SV) (n : Nat) : denL ρ (l.take n) = (denL ρ l).take n := by simp only [denL_eq, List.map_take]
theorem denL_drop (ρ : Ren) (l : List SV) (n : Nat) : denL ρ (l.drop n) = (denL ρ l).drop n := by simp only [denL_eq, List.map_drop]
/-! blocks -/
/-- a map of int keys: key, value, stamp; what goes over a map -/
inductive MObj where
  | map (es : List (Int × SV × Nat)) (clock : Nat)
  | it (m since : Nat) (seen : List Nat) (stepped : Nat)
def entsD (ρ : Ren) (es : List (Int × SV × Nat)) : List MapEntry := es.map fun e => ⟨.int .i64 e.1, den ρ e.2.1, e.2.2⟩
def MObj.den (ρ : Ren) : MObj → Obj
  | .map es c => .map (entsD ρ es).toArray c
  | .it m s seen st => .mapIter ((ρ m).map (·.1)) s seen.toArray st
def MObj.lt (m : Nat) : MObj → Bool
  | .map es _ => ltL m (es.map (·.2.1))
  | .it n _ _ _ => decide (n < m)
theorem entsD_congr {ρ ρ' : Ren} {m : Nat} (h : ∀ n, n < m → ρ' n = ρ n) (es : List (Int × SV × Nat)) (hl : ltL m (es.map (·.2.1)) = true) : entsD ρ' es = entsD ρ es := by
  unfold entsD
  refine List.map_congr_left (fun e he => ?_)
  rw [ltL_eq, List.all_eq_true] at hl
  rw [den_congr h e.2.1 (hl _ (List.mem_map.2 ⟨e, he, rfl⟩))]
theorem MObj.den_congr {ρ ρ' : Ren} {m : Nat} (h : ∀ n, n < m → ρ' n = ρ n) (o : MObj) (ho : o.lt m = true) : o.den ρ' = o.den ρ := by
  cases o with
  | map es c => simp only [MObj.den, entsD_congr h es ho]
  | it n s seen st => simp only [MObj.lt, decide_eq_true_eq] at ho; simp only [MObj.den, h n ho]
theorem MObj.lt_mono {m m' : Nat} (h : m ≤ m') (o : MObj) (ho : o.lt m = true) : o.lt m' = true := by
  cases o with
  | map es c => exact ltL_mono h _ ho
  | it n s seen st => simp only [MObj.lt, decide_eq_true_eq] at ho ⊢; omega
inductive Blk where
  /-- a whole block of the walk's own; an empty one may be nil -/
  | row (cs : List SV) (ty : TypeId)
  /-- cells that are read alone -/
  | ro (cs : List SV)
  /-- a map of the walk's own, or what goes over one -/
  | obj (o : MObj)
  /-- its address is not nil; nothing more is known -/
  | here
  | dead
def Blk.lt (m : Nat) : Blk → Bool
  | .row cs _ | .ro cs => ltL m cs
  | .obj o => o.lt m
  | .here | .dead => true
def Blk.live : Blk → Bool
  | .here | .dead => false
  | _ => true
def Blk.isRow : Blk → Bool
  | .row .. | .obj _ => true
  | _ => false
/-- what does not change: blocks that are kept, the world that they come of, the names that stand -/
structure Cx where
  keep : Nat → Prop
  w0 : World
  ρ0 : Ren
  m0 : Nat
/-- a block's meaning -/
def BlkOk (G : Cx) (ρ : Ren) (w : World) (n : Nat) : Blk → Prop
  | .row cs ty => cs.all SV.one = true ∧ ((cs = [] ∧ ρ n = none) ∨ ∃ g, ρ n = some (g, 0) ∧ ¬ G.keep g ∧ w.heap[g]? = some (.cells (denL ρ cs).toArray ty (0, 0)))
  | .ro cs => cs.all SV.one = true ∧ ((ρ n = none ∧ cs = []) ∨ ∃ g o, ρ n = some (g, o) ∧ g < w.heap.size ∧ ∀ j v, cs[j]? = some v → w.cell? ⟨g, o + j, none⟩ = some (den ρ v))
  | .obj o => ∃ g, ρ n = some (g, 0) ∧ ¬ G.keep g ∧ w.heap[g]? = some (o.den ρ)
  | .here => ∃ g o, ρ n = some (g, o)
  | .dead => True
structure Sim (G : Cx) (ρ : Ren) (M : List Blk) (w : World) : Prop where
  os : w.os = G.w0.os
  tape : w.tape = G.w0.tape
  output : w.output = G.w0.output ∧ G.w0.drawn ≤ w.drawn
  kept : ∀ k, G.keep k → k < w.heap.size ∧ w.heap[k]? = G.w0.heap[k]?
  base : G.m0 ≤ M.length
  same : ∀ n, n < G.m0 → ρ n = G.ρ0 n
  lt : ∀ (n : Nat) (B : Blk), M[n]? = some B → B.lt M.length = true
  blk : ∀ (n : Nat) (B : Blk), M[n]? = some B → BlkOk G ρ w n B
  sep : ∀ (n m : Nat) (B C : Blk), M[n]? = some B → M[m]? = some C → B.isRow = true → C.live = true → n ≠ m → ∀ a b, ρ n = some a → ρ m = some b → a.1 ≠ b.1
structure TS (ρ : Ren) (m : Nat) (ts : List SV) (a : Act) : Prop where
  tmps : a.tmps = (denL ρ ts).toArray
  lt : ltL m ts = true
def Ext (ρ ρ' : Ren) (m : Nat) : Prop := ∀ n, n < m → ρ' n = ρ n
theorem Ext.refl (ρ : Ren) (m : Nat) : Ext ρ ρ m := fun _ _ => rfl
theorem Ext.trans {ρ ρ' ρ'' : Ren} {m m' : Nat} (h : Ext ρ ρ' m) (h' : Ext ρ' ρ'' m') (hm : m ≤ m') : Ext ρ ρ'' m :=
  fun n hn => (h' n (by omega)).trans (h n hn)
/-! the frame -/
def uS : SV := .raw undef
/-- a cell's value: an integer of an unsigned kind that is in range as a word -/
def cS : Value → SV
  | .int .u8 x => if 0 ≤ x ∧ x < 256 then .u8 (BitVec.ofInt 8 x) else .raw (.int .u8 x)
  | .int .u32 x => if 0 ≤ x ∧ x < 4294967296 then .u32 (BitVec.ofInt 32 x) else .raw (.int .u32 x)
  | .int .u64 x => if 0 ≤ x ∧ x < 18446744073709551616 then .u64 (BitVec.ofInt 64 x) else .raw (.int .u64 x)
  | .int k x => .i k x
  | .bool x => .b x
  | .string s => .str s
  | .pointer none => .pn
  | .slice none 0 0 => .sn
  | .map none => .mn
  | .nilFunc => .fnil
  | .nilIface => .inil
  | v => .raw v
def vS : Value → SV
  | .agg cs => .agg (cs.toList.map cS)
  | .tuple cs => .raw (.tuple cs)
  | v => cS v
theorem ofInt_toNat {n : Nat} {x : Int} (h0 : 0 ≤ x) (h1 : x < 2 ^ n) : ((BitVec.ofInt n x).toNat : Int) = x := by
  rw [BitVec.toNat_ofInt]
  have : x % (2 ^ n : Nat) = x := Int.emod_eq_of_lt h0 (by simpa using h1)
  rw [this]
  omega
theorem cS_den (ρ : Ren) (v : Value) : den ρ (cS v) = v := by
  unfold cS
  split <;> try simp only [den]
  · split
    · rename_i h; simp only [den]; rw [ofInt_toNat h.1 (by simpa using h.2)]
    · simp only [den]
  · split
    · rename_i h; simp only [den]; rw [ofInt_toNat h.1 (by simpa using h.2)]
    · simp only [den]
  · split
    · rename_i h; simp only [den]; rw [ofInt_toNat h.1 (by simpa using h.2)]
    · simp only [den]
theorem cS_lt (m : Nat) (v : Value) : (cS v).lt m = true := by
  unfold cS
  split <;> (try split) <;> simp only [SV.lt]
theorem vS_den (ρ : Ren) (v : Value) : den ρ (vS v) = v := by
  unfold vS
  split
  · rename_i cs
    simp only [den]
    congr 1
    rw [denL_eq, List.map_map]
    have : (den ρ ∘ cS) = id := funext (cS_den ρ)
    rw [this]
    simp
  · simp only [den]
  · exact cS_den ρ _
theorem vS_lt (m : Nat) (v : Value) : (vS v).lt m = true := by
  unfold vS
  split
  · rename_i cs
    simp only [SV.lt]
    rw [ltL_eq, List.all_eq_true]
    intro x hx
    obtain ⟨y, _, rfl⟩ := List.mem_map.1 hx
    exact cS_lt m y
  · simp only [SV.lt]
  · exact cS_lt m _
def evS (ts : List SV) : Operand → SV
  | .tmp t => ts.getD t uS
  | .const v => vS v
  | .global g => .raw (.pointer (some { block := g, off := 0 }))
  | .func f => .fn (.func f) [] []
def putS (ts : List SV) : Option Tmp → SV → List SV
  | none, _ => ts
  | some d, v => ts.set d v
theorem TS.ev {ρ : Ren} {m : Nat} {ts : List SV} {a : Act} (h : TS ρ m ts a) (x : Operand) : a.eval x = den ρ (evS ts x) := by
  cases x with
  | tmp t =>
    show a.tmps.getD t undef = den ρ (ts.getD t uS)
    rw [h.tmps]
    simp only [Array.getD_eq_getD_getElem?, List.getElem?_toArray, denL_get, List.getD_eq_getElem?_getD]
    cases ts[t]? <;> simp [uS, den]
  | const v => exact (vS_den ρ v).symm
  | global g => rfl
  | func f => simp [Act.eval, evS, den, denL]
theorem TS.ev_lt {ρ : Ren} {m : Nat} {ts : List SV} {a : Act} (h : TS ρ m ts a) (x : Operand) : (evS ts x).lt m = true := by
  cases x with
  | tmp t =>
    show (ts.getD t uS).lt m = true
    rw [List.getD_eq_getElem?_getD]
    cases hx : ts[t]? with
    | none => simp [uS, SV.lt]
    | some y => exact ltL_get h.lt hx
  | const v => exact vS_lt m v
  | global g => rfl
  | func f => rfl
theorem TS.put {ρ ρ' : Ren} {m m' : Nat} {ts : List SV} {a : Act} (h : TS ρ m ts a) (he : Ext ρ ρ' m) (hm : m ≤ m') {v : SV} (hv : v.lt m' = true) (dst : Option Tmp) :
    TS ρ' m' (putS ts dst v) (a.put dst (den ρ' v)) := by
  cases dst with
  | none => exact ⟨by simp only [Act.put, putS, h.tmps, denL_congr he ts h.lt], ltL_mono hm _ h.lt⟩
  | some d =>
    refine ⟨?_, ltL_set (ltL_mono hm _ h.lt) hv d⟩
    simp only [Act.put, putS, h.tmps, denL_set, denL_congr he ts h.lt]
    simp
theorem TS.put_undef {ρ : Ren} {m : Nat} {ts : List SV} {a : Act} (h : TS ρ m ts a) (dst : Option Tmp) :
    TS ρ m (putS ts dst uS) (a.put dst undef) := h.put (Ext.refl _ _) (Nat.le_refl _) (v := uS) rfl dst
end Go.Proofs.YtdkdbeamimkljaaGreatDoor.Eng
