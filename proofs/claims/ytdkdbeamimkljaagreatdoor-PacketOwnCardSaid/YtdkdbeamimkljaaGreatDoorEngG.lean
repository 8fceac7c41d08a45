/- The engine, part G: builtins, make, append, copy, calls; one operation of any kind. -/
import Derived.Test.YtdkdbeamimkljaaGreatDoorEngV
import Derived.Laws.Append
namespace Go.Proofs.YtdkdbeamimkljaaGreatDoor.Eng
open Go Go.RowKit
set_option linter.unusedSimpArgs false
set_option linter.unusedVariables false
/-- a call of a Go function -/
def callE (P : Program) (f : FuncId) (args : List SV) (M : List Blk) (K : SV → List Blk → Prop) : Prop :=
  (∀ as w, (callFunc f as).run P w = .ok (.enter f as) w) ∧
  ∀ (G : Cx) (ρ : Ren) (w : World), Sim G ρ M w → ltL M.length args = true → Calls P f (denL ρ args).toArray w fun e w' =>
    ∃ ρ' v M', Ext ρ ρ' M.length ∧ M.length ≤ M'.length ∧ Sim G ρ' M' w' ∧ v.lt M'.length = true ∧ e = .returned (den ρ' v) ∧ K v M'
/-- a call of a function without a body -/
def callX (P : Program) (f : FuncId) (args : List SV) (M : List Blk) (K : SV → List Blk → Prop) : Prop :=
  ∃ e : Array Value → Sem Value, (∀ as w, (callFunc f as).run P w = ((e as).run P w).andThen fun v w' => .ok (.value v) w') ∧ (ltL M.length args = true → SemOK P M (fun ρ => e (denL ρ args).toArray) K)
/-- a call -/
def callVC (P : Program) (f : FuncId) (args : List SV) (M : List Blk) (K : SV → List Blk → Prop) : Prop := callE P f args M K ∨ callX P f args M K
/-- n zeros in a row -/
def zerosS (z : List SV) (n : Nat) : List SV := (List.replicate n z).flatten
/-- what is copied or appended: its cells, and how many elements -/
def srcC (M : List Blk) (esz : Nat) (x : SV) (K : List SV → Nat → Prop) : Prop :=
  match x with
  | .sl n off len _ => off + len * esz ≤ (cellsAt M n).length ∧ K (((cellsAt M n).drop off).take (len * esz)) len
  | .sn => K [] 0
  | .raw (.slice _ 0 _) => K [] 0
  | .str s => esz = 1 ∧ K (s.data.toList.map fun b => .u8 b.toBitVec) s.size
  | _ => False
def nonInt : TK → Bool
  | .slice .. | .str => true
  | _ => false
/-- append, the slice's name kept where it has room -/
def appendA (T : Tab) (M : List Blk) (ts tx : TypeId) (s x : SV) (K : SV → List Blk → Prop) : Prop :=
  match T.k ts with
  | .slice e esz eby =>
    nonInt (T.k tx) = true ∧ 0 < eby ∧ 0 < esz ∧ srcC M esz x fun ys m =>
      match s with
      | .sl n off len cap =>
        (len + m ≤ cap → match M[n]? with
          | some (.row cs ty) => off + (len + m) * esz ≤ cs.length ∧ K (.sl n off (len + m) cap) (M.set n (.row (splice cs (off + len * esz) ys) ty))
          | _ => m = 0 ∧ K (.sl n off len cap) M) ∧
        (cap < len + m → Builtin.nextslicecap (len + m) cap * eby ≤ 2 ^ 48 ∧ off + len * esz ≤ (cellsAt M n).length ∧ match T.z e with
          | some z => ∀ c, len + m ≤ c → K (.sl M.length 0 (len + m) c) (M ++ [.row (((cellsAt M n).drop off).take (len * esz) ++ ys ++ zerosS z (c - (len + m))) e])
          | none => False)
      | .sn =>
        (m = 0 → K .sn M) ∧
        (0 < m → Builtin.nextslicecap m 0 * eby ≤ 2 ^ 48 ∧ match T.z e with
          | some z => ∀ c, m ≤ c → K (.sl M.length 0 m c) (M ++ [.row (ys ++ zerosS z (c - m)) e])
          | none => False)
      | _ => False
  | _ => False
/-- append, the result under a new name, and the slice itself not used any more -/
def appendN (T : Tab) (M : List Blk) (ts tx : TypeId) (s x : SV) (K : SV → List Blk → Prop) : Prop :=
  match T.k ts with
  | .slice e esz eby =>
    nonInt (T.k tx) = true ∧ 0 < eby ∧ 0 < esz ∧ ∃ z, T.z e = some z ∧ srcC M esz x fun ys m =>
      match s with
      | .sl n off len cap => off = 0 ∧ len ≤ cap ∧ (∃ cs ty, M[n]? = some (.row cs ty) ∧ cs.length = cap * esz) ∧ (cap < len + m → Builtin.nextslicecap (len + m) cap * eby ≤ 2 ^ 48) ∧
          ∀ c sp ty, len + m ≤ c → sp.length = (c - (len + m)) * esz → (∀ y, y ∈ sp → y ∈ (cellsAt M n).drop (len * esz) ∨ y ∈ z) → K (.sl M.length 0 (len + m) c) (M.set n .dead ++ [.row ((cellsAt M n).take (len * esz) ++ ys ++ sp) ty])
      | .sn => (0 < m → Builtin.nextslicecap m 0 * eby ≤ 2 ^ 48) ∧
          ∀ c sp ty, m ≤ c → sp.length = (c - m) * esz → (∀ y, y ∈ sp → y ∈ z) → K (.sl M.length 0 m c) (M ++ [.row (ys ++ sp) ty])
      | _ => False
  | _ => False
/-- zeros, as a string -/
def zerosStr (n : Nat) : ByteArray := ⟨Array.replicate n 0⟩
/-- bytes of zero, as many as a number says -/
def appendZ (T : Tab) (M : List Blk) (ts tx : TypeId) (s x : SV) (K : SV → List Blk → Prop) : Prop :=
  match x with
  | .i .i64 n => T.k tx = .int .i64 ∧ 0 ≤ n ∧ n ≤ 140737488355328 ∧ ∃ e tstr, T.k ts = .slice e 1 1 ∧ T.z e = some [.u8 0#8] ∧ T.k tstr = .str ∧
      (appendA T M ts tstr s (.str (zerosStr n.toNat)) K ∨ appendN T M ts tstr s (.str (zerosStr n.toNat)) K) ∧
      (match s with | .sl _ _ len _ => len + n.toNat ≤ 140737488355328 | .sn => True | _ => False)
  | _ => False
/-- append of as many zeros as a number says, where there is no room -/
def appendG (T : Tab) (M : List Blk) (ts tx : TypeId) (s x : SV) (K : SV → List Blk → Prop) : Prop :=
  match T.k ts, x with
  | .slice e esz eby, .i .i64 n =>
    T.k tx = .int .i64 ∧ 0 < n ∧ 0 < eby ∧ 0 < esz ∧ n * (eby : Nat) ≤ 2 ^ 48 ∧
      match s with
      | .sl m off len cap => cap < len + n.toNat ∧ len + n.toNat ≤ 140737488355328 ∧ Builtin.nextslicecap (len + n.toNat) cap * eby ≤ 2 ^ 48 ∧ off + len * esz ≤ (cellsAt M m).length ∧
          (match T.z e with
          | some z => ∀ c, len + n.toNat ≤ c → K (.sl M.length 0 (len + n.toNat) c) (M ++ [.row (((cellsAt M m).drop off).take (len * esz) ++ zerosS z n.toNat ++ zerosS z (c - (len + n.toNat))) e])
          | none => False)
      | .sn => n ≤ 140737488355328 ∧ Builtin.nextslicecap n.toNat 0 * eby ≤ 2 ^ 48 ∧
          (match T.z e with
          | some z => ∀ c, n.toNat ≤ c → K (.sl M.length 0 n.toNat c) (M ++ [.row (zerosS z n.toNat ++ zerosS z (c - n.toNat)) e])
          | none => False)
      | _ => False
  | _, _ => False
def appendC (T : Tab) (M : List Blk) (ts tx : TypeId) (s x : SV) (K : SV → List Blk → Prop) : Prop :=
  appendA T M ts tx s x K ∨ appendN T M ts tx s x K ∨ appendZ T M ts tx s x K ∨ appendG T M ts tx s x K
/-- clear of a slice -/
def clearC (T : Tab) (M : List Blk) (t : TypeId) (x : SV) (K : List Blk → Prop) : Prop :=
  match T.k t with
  | .slice e esz _ => 0 < esz ∧
    match x with
    | .sl n off len _ =>
      match M[n]?, T.z e with
      | some (.row cs ty), some z => off + len * esz ≤ cs.length ∧ K (M.set n (.row (splice cs off (zerosS z len)) ty))
      | _, _ => len = 0 ∧ K M
    | .sn => K M
    | _ => False
  | _ => False
def copyC (T : Tab) (M : List Blk) (td : TypeId) (d x : SV) (K : SV → List Blk → Prop) : Prop :=
  match T.k td with
  | .slice _ esz _ => 0 < esz ∧ srcC M esz x fun ys m =>
    match d with
    | .sl n off len _ =>
      match M[n]? with
      | some (.row cs ty) => off + len * esz ≤ cs.length ∧ K (.i .i64 (Nat.min m len : Nat)) (M.set n (.row (splice cs off (ys.take (Nat.min m len * esz))) ty))
      | _ => len = 0 ∧ K (.i .i64 0) M
    | .sn => K (.i .i64 0) M
    | _ => False
  | _ => False
def makeC (T : Tab) (t : TypeId) (l c : SV) (M : List Blk) (K : SV → List Blk → Prop) : Prop :=
  match T.k t, ixOf l, ixOf c with
  | .slice e _ eby, some l, some c =>
    0 ≤ l ∧ l ≤ c ∧ c ≤ 2 ^ 62 ∧ eby * c ≤ 2 ^ 48 ∧ match T.z e with
      | some z => K (.sl M.length 0 l.toNat c.toNat) (M ++ [.row (zerosS z c.toNat) e])
      | none => False
  | _, _, _ => False
/-- the parts of a slice that is written out: all of them, in order -/
def idxP : Nat → Nat → List (Nat × SV) → Bool
  | k, n, [] => k == n
  | k, n, (i, _) :: r => i == k && idxP (k + 1) n r
def catS : List (Nat × SV) → List SV
  | [] => []
  | (_, v) :: r => cellsS v ++ catS r
def partsOK (esz : Nat) : List (Nat × SV) → Prop
  | [] => True
  | (_, v) :: r => (cellsS v).length = esz ∧ (cellsS v).all SV.one = true ∧ partsOK esz r
def bsC (T : Tab) (t : TypeId) (len : Nat) (parts : List (Nat × SV)) (M : List Blk) (K : SV → List Blk → Prop) : Prop :=
  match T.k t with
  | .slice e esz _ => 0 < esz ∧ len * esz ≤ 2 ^ 24 ∧ match T.z e with
    | some z => match idxP 0 len parts with
      | true => partsOK esz parts ∧ K (.sl M.length 0 len len) (M ++ [.row (catS parts) e])
      | false => match fillS (fun i => some (i * esz, esz)) (zerosS z len) parts with
        | some l => l.all SV.one = true ∧ K (.sl M.length 0 len len) (M ++ [.row l e])
        | none => False
    | none => False
  | _ => False
/-- an array's address out of a slice -/
def apC (T : Tab) (t : TypeId) (x : SV) (K : SV → Prop) : Prop :=
  match T.k t, x with
  | .arr n _ _ _, .sl nm off len _ => n ≤ len ∧ K (.p nm off)
  | _, _ => False
def lenC (T : Tab) (M : List Blk) (t : TypeId) (x : SV) (K : SV → Prop) : Prop :=
  match T.k t, x with
  | .map _, .mp n => lenO M[n]? K
  | .slice .., .sl _ _ l _ => K (.i .i64 l)
  | .slice .., .sn => K (.i .i64 0)
  | .slice .., .raw (.slice _ l _) => K (.i .i64 l)
  | .str, .str s => K (.i .i64 s.size)
  | .arr n _ _ _, _ => K (.i .i64 n)
  | _, _ => False
def capC (T : Tab) (t : TypeId) (x : SV) (K : SV → Prop) : Prop :=
  match T.k t, x with
  | .slice .., .sl _ _ _ c => K (.i .i64 c)
  | .slice .., .sn => K (.i .i64 0)
  | .arr n _ _ _, _ => K (.i .i64 n)
  | _, _ => False
def minC : List SV → (SV → Prop) → Prop
  | [.i k a, .i _ b], K => K (.i k (min a b))
  | [.i k a, .i _ b, .i _ c], K => K (.i k (min (min a b) c))
  | [.u64 a, .u64 b], K => K (.u64 (if b.toNat < a.toNat then b else a))
  | _, _ => False
def maxC : List SV → (SV → Prop) → Prop
  | [.i k a, .i _ b], K => K (.i k (max a b))
  | [.i k a, .i _ b, .i _ c], K => K (.i k (max (max a b) c))
  | [.u64 a, .u64 b], K => K (.u64 (if a.toNat < b.toNat then b else a))
  | _, _ => False
def bltC (T : Tab) (b : Builtin) (ats : List TypeId) (args : List SV) (M : List Blk) (K : SV → List Blk → Prop) : Prop :=
  match b, ats, args with
  | .len, [t], [x] => lenC T M t x (fun v => K v M)
  | .clear, [t], [x] => clearC T M t x (fun M' => K (.tup []) M')
  | .delete, t :: _, [x, k] => delC T M t x k (fun M' => K (.tup []) M')
  | .cap, [t], [x] => capC T t x (fun v => K v M)
  | .append, [t, u], [s, x] => appendC T M t u s x K
  | .copy, t :: _, [d, x] => copyC T M t d x K
  | .min, _, l => minC l (fun v => K v M)
  | .max, _, l => maxC l (fun v => K v M)
  | _, _, _ => False
def fnC (P : Program) (x : SV) (args : List SV) (M : List Blk) (K : SV → List Blk → Prop) : Prop :=
  match x with
  | .fn (.func f) first cap => callVC P f (first ++ args ++ cap) M K
  | _ => False
/-- an operation -/
def opC (P : Program) (T : Tab) (op : Op) (ts : List SV) (M : List Blk) (K : SV → List Blk → Prop) : Prop :=
  match op with
  | .move x | .assign x => K (evS ts x) M
  | .pick c x y => pickC (evS ts c) (evS ts x) (evS ts y) (fun v => K v M)
  | .alloc t => allocC T t M K
  | .box t x => boxC t (evS ts x) M K
  | .build t parts => buildC T t (parts.toList.map fun x => (x.1, evS ts x.2)) (fun v => K v M)
  | .buildSlice t len parts => bsC T t len (parts.toList.map fun x => (x.1, evS ts x.2)) M K
  | .sliceToArrayPointer t x => apC T t (evS ts x) (fun v => K v M)
  | .load t x => loadC T t (evS ts x) M (fun v => K v M)
  | .store t x y => storeC T t (evS ts x) (evS ts y) M (fun M' => K uS M')
  | .nilCheck x => nilC M (evS ts x) (fun v => K v M)
  | .binOp op t x y _ => binC T M op t (evS ts x) (evS ts y) (fun v => K v M)
  | .unOp op _ x => unC op (evS ts x) (fun v => K v M)
  | .convert s d x => convG T M s d (evS ts x) (fun v => K v M)
  | .slice t x lo hi mx => sliceC T M t (evS ts x) (lo.map (evS ts)) (hi.map (evS ts)) (mx.map (evS ts)) (fun v => K v M)
  | .fieldAddr t x f => faC T M t (evS ts x) f (fun v => K v M)
  | .field t x f => fC T t (evS ts x) f (fun v => K v M)
  | .indexAddr t x i => ixaC T M t (evS ts x) (evS ts i) (fun v => K v M)
  | .index t x i => ixC T t (evS ts x) (evS ts i) (fun v => K v M)
  | .extract x i => extC (evS ts x) i (fun v => K v M)
  | .makeSlice t l c => makeC T t (evS ts l) (evS ts c) M K
  | .makeMap _ none => K (.mp M.length) (M ++ [.obj (.map [] 0)])
  | .lookup t x k ok => lookC T M t (evS ts x) (evS ts k) ok (fun v => K v M)
  | .mapUpdate t x k v => updC T M t (evS ts x) (evS ts k) (evS ts v) (fun M' => K uS M')
  | .range t x => rangeC T M t (evS ts x) K
  | .next x false => nextC M (evS ts x) K
  | .entry x => entryC M (evS ts x) (fun v => K v M)
  | .makeFunc f x c => K (.fn f (x.toList.map (evS ts)) (c.toList.map (evS ts))) M
  | .call { callee := .builtin b, args := as, argTypes := ats } => bltC T b ats.toList (as.toList.map (evS ts)) M K
  | .call { callee := .value f, args := as, .. } => fnC P (evS ts f) (as.toList.map (evS ts)) M K
  | _ => False
/-- what an operation asks of the program's tables beside -/
def opSide (P : Program) (op : Op) : Bool :=
  match op with
  | .convert s _ _ => (P.underlying s).isSome
  | .build t _ => match P.underlying t with
    | some (.struct fs) => fs.toList.all (fun x => (P.info? x.type).isSome && ((P.info? x.type).map (·.size) != some 0))
    | _ => true
  | _ => true
section
variable {P : Program} {T : Tab} {M : List Blk}
theorem range_mul (k : Nat) : ∀ n, List.range ((n + 1) * k) = List.range (n * k) ++ (List.range k).map (n * k + ·) := fun n => by
  rw [show (n + 1) * k = n * k + k by rw [Nat.add_mul, Nat.one_mul], List.range_add]
theorem zeros_eq (z : Array Value) : ∀ n, ((Array.range (n * z.size)).map fun i => z[i % z.size]!).toList = (List.replicate n z.toList).flatten
  | 0 => by simp
  | n + 1 => by
    have ih := zeros_eq z n
    simp only [Array.toList_map, Array.toList_range] at ih ⊢
    rw [range_mul, List.map_append, ih, List.replicate_succ', List.flatten_append, List.map_map]
    congr 1
    have : ((fun i => z[i % z.size]!) ∘ fun x => n * z.size + x) = fun x => z[(n * z.size + x) % z.size]! := rfl
    rw [this]
    simp only [List.flatten_cons, List.flatten_nil, List.append_nil]
    apply List.ext_getElem
    · simp
    · intro i h1 h2
      simp only [List.length_map, List.length_range] at h1
      simp only [List.getElem_map, List.getElem_range]
      rw [Nat.mul_comm, Nat.mul_add_mod, Nat.mod_eq_of_lt h1, getElem!_pos z i h1]
      simp
theorem zerosS_den (ρ : Ren) {z : List SV} {v : Array Value} (h : (denL ρ z).toArray = v) (n : Nat) : denL ρ (zerosS z n) = ((Array.range (n * v.size)).map fun i => v[i % v.size]!).toList := by
  rw [zeros_eq, ← h]
  unfold zerosS
  rw [denL_eq, List.map_flatten, List.map_replicate]
  simp [denL_eq]
theorem zerosS_one {z : List SV} (h : z.all SV.one = true) (n : Nat) : (zerosS z n).all SV.one = true := by
  unfold zerosS
  rw [List.all_eq_true] at *
  intro x hx
  obtain ⟨l, hl, hx⟩ := List.mem_flatten.1 hx
  rw [List.eq_of_mem_replicate hl] at hx
  exact h x hx
theorem zerosS_lt {m : Nat} {z : List SV} (h : ltL m z = true) (n : Nat) : ltL m (zerosS z n) = true := by
  unfold zerosS
  rw [ltL_eq, List.all_eq_true] at *
  intro x hx
  obtain ⟨l, hl, hx⟩ := List.mem_flatten.1 hx
  rw [List.eq_of_mem_replicate hl] at hx
  exact h x hx
/-- a new row -/
theorem new_row {cs : List SV} (ho : cs.all SV.one = true) (hl : ltL M.length cs = true) (e : TypeId) (len cap : Nat) {K : SV → List Blk → Prop}
    (hK : K (.sl M.length 0 len cap) (M ++ [.row cs e])) {G : Cx} {ρ : Ren} {w : World} (hs : Sim G ρ M w) :
    ∃ ρ' v M', den ρ' v = .slice (some ⟨w.heap.size, 0, none⟩) len cap ∧ Ext ρ ρ' M.length ∧ M.length ≤ M'.length ∧ Sim G ρ' M' (w.alloc (.cells (denL ρ cs).toArray e (0, 0))) ∧ v.lt M'.length = true ∧ K v M' :=
  ⟨upd ρ M.length (w.heap.size, 0), .sl M.length 0 len cap, _, by simp [den, adr, upd], upd_ext _ _ _, by simp, hs.alloc ho hl e, by simp [SV.lt], hK⟩
theorem makeC_ok (hT : TabOK P T) {t : TypeId} {l c : SV} {K : SV → List Blk → Prop} (h : makeC T t l c M K) : SemOK P M (fun ρ => Instr.makeSlice t (den ρ l) (den ρ c)) K := by
  unfold makeC at h
  split at h
  · rename_i e esz eby li ci htk hl hc
    obtain ⟨h0, h1, h62, h48, h⟩ := h
    split at h
    · rename_i z hz
      obtain ⟨i, v, hi, hzero, _, hden, hlt, hone, hzl⟩ := zero_facts hT hz
      obtain ⟨d, ti, hd, hi', _, rfl, he, hby⟩ := tk_facts (Tab.facts hT htk (by simp)) (by simp)
      obtain ⟨kl, hkl⟩ := ixOf_den hl
      obtain ⟨kc, hkc⟩ := ixOf_den hc
      have hib : i.bytes = eby := by simpa [hi] using hby
      intro G ρ w hs
      obtain ⟨ρ', v', M', h3, h4, h5, h6, h7, h8⟩ := new_row (zerosS_one hone ci.toNat) (zerosS_lt (hlt _) ci.toNat) e li.toNat ci.toNat h hs
      refine ⟨ρ', v', M', _, ?_, h4, h5, h6, h7, h8⟩
      show (Instr.makeSlice t (den ρ l) (den ρ c)).run P w = _
      rw [h3, hkl ρ, hkc ρ]
      have wl : IntKind.i64.wrap li = li := by simp only [IntKind.wrap, IntKind.bits, IntKind.signed]; simp; omega
      have wc : IntKind.i64.wrap ci = ci := by simp only [IntKind.wrap, IntKind.bits, IntKind.signed]; simp; omega
      have hzs : v.cells.size = i.size := by
        rw [← hden ρ, hzl]; simp [denL_length]
      have n1 : ¬ ci < 0 := by omega
      have n2 : ¬ ((eby : Int) * ci > 2 ^ 48) := by omega
      have n3 : ¬ li < 0 := by omega
      have n4 : ¬ li > ci := by omega
      have hcond : ((decide (ci < 0) || decide ((i.bytes : Int) * ci > 2 ^ 48)) || decide (li < 0) || decide (li > ci)) = false := by
        rw [hib]; simp only [n1, n2, n3, n4, decide_false, Bool.or_self]
      simp only [Instr.makeSlice, Sem.run_bind, run_underlying hd, Result.andThen_ok, asInt, asIntOf, Sem.run_pure, typeInfo, run_program, hi, wl, wc, hcond, Bool.false_eq_true, if_false, run_askRoom, sizeOf]
      have hcells : (denL ρ (zerosS z ci.toNat)).toArray = ((Array.range (ci.toNat * i.size)).map fun j => v.cells[j % v.cells.size]!) := by
        rw [zerosS_den ρ (hden ρ), hzs]
      by_cases hn : ci.toNat * i.size = 0
      · rw [if_pos hn]
        simp only [Sem.run_pure, Result.andThen_ok, newRow, Sem.run_bind, run_newObj, World.alloc_eq]
        rw [hcells, hn]
        have hr0 : Array.range 0 = #[] := rfl
        simp [hr0]
      · rw [if_neg hn]
        simp only [zeroValue, typeInfo, Sem.run_bind, run_program, hi, hzero, Sem.run_pure, Result.andThen_ok, newRow, run_newObj, World.alloc_eq]
        rw [hcells]
    · cases h
  · cases h
theorem fill_seq {esz : Nat} : ∀ (parts : List (Nat × SV)) (k n : Nat) (pre tail : List SV), idxP k n parts = true → partsOK esz parts → pre.length = k * esz → tail.length = (n - k) * esz →
    fillS (fun i => some (i * esz, esz)) (pre ++ tail) parts = some (pre ++ catS parts)
  | [], k, n, pre, tail, hi, _, _, ht => by
    simp only [idxP, beq_iff_eq] at hi
    subst hi
    have : tail = [] := List.length_eq_zero_iff.1 (by simpa using ht)
    simp [fillS, catS, this]
  | (i, v) :: r, k, n, pre, tail, hi, hp, hk, ht => by
    simp only [idxP, Bool.and_eq_true, beq_iff_eq] at hi
    obtain ⟨rfl, hi⟩ := hi
    obtain ⟨h1, h2, h3⟩ := hp
    have hlt : i < n := by
      have : ∀ (l : List (Nat × SV)) (k : Nat), idxP k n l = true → k ≤ n := by
        intro l
        induction l with
        | nil => intro k h; simp only [idxP, beq_iff_eq] at h; omega
        | cons a l ih => intro k h; obtain ⟨a1, a2⟩ := a; simp only [idxP, Bool.and_eq_true, beq_iff_eq] at h; have := ih _ h.2; omega
      have := this r _ hi
      omega
    have hle : esz ≤ tail.length := by rw [ht]; exact Nat.le_mul_of_pos_left _ (by omega)
    simp only [fillS]
    rw [if_pos ⟨h1, by simp only [List.length_append]; omega, h2⟩]
    have e : splice (pre ++ tail) (i * esz) (cellsS v) = (pre ++ cellsS v) ++ tail.drop esz := by
      unfold splice
      rw [← hk, List.take_left, h1, ← List.drop_drop, List.drop_left]
    rw [e, fill_seq r (i + 1) n (pre ++ cellsS v) (tail.drop esz) hi h3 (by simp [hk, h1, Nat.add_mul]) (by
      rw [List.length_drop, ht, show n - i = (n - (i + 1)) + 1 by omega, Nat.add_mul]; omega)]
    simp [catS]
theorem bsC_ok (hT : TabOK P T) {t : TypeId} {len : Nat} {parts : List (Nat × SV)} {K : SV → List Blk → Prop} (hp : ∀ x, x ∈ parts → x.2.lt M.length = true) (h : bsC T t len parts M K) :
    SemOK P M (fun ρ => Instr.buildSlice t len (parts.map fun x => (x.1, den ρ x.2)).toArray) K := by
  unfold bsC at h
  split at h
  · rename_i e esz eby htk
    obtain ⟨hesz, h24, h⟩ := h
    obtain ⟨d, ti, hd, hi', _, rfl, he, hby⟩ := tk_facts (Tab.facts hT htk (by simp)) (by simp)
    split at h
    · rename_i z hz
      obtain ⟨i, v, hi, hzero, _, hden, hlt, hone, hzl⟩ := zero_facts hT hz
      have hzs : z.length = esz := by rw [← hzl]; simpa [hi] using he
      have hfill : ∃ l, fillS (fun i => some (i * esz, esz)) (zerosS z len) parts = some l ∧ l.all SV.one = true ∧ K (.sl M.length 0 len len) (M ++ [.row l e]) := by
        split at h
        · rename_i hidx
          have := fill_seq parts 0 len [] (zerosS z len) hidx h.1 (by simp) (by simp [zerosS, List.length_flatten, hzs])
          refine ⟨_, this, ?_, by simpa using h.2⟩
          rw [List.nil_append]
          have hall : ∀ (l : List (Nat × SV)), partsOK esz l → (catS l).all SV.one = true := by
            intro l
            induction l with
            | nil => intro _; rfl
            | cons a l ih => intro hh; obtain ⟨a1, a2⟩ := a; simp only [catS, List.all_append, hh.2.1, ih hh.2.2, Bool.and_self]
          exact hall _ h.1
        · split at h
          · rename_i l hl
            exact ⟨l, hl, h⟩
          · exact h.elim
      obtain ⟨l, hl, hlo, hK⟩ := hfill
      intro G ρ w hs
      have hll := fillS_lt (m := M.length) _ parts _ l (zerosS_lt (hlt _) len) hp hl
      obtain ⟨ρ', v', M', h3, h4, h5, h6, h7, h8⟩ := new_row hlo hll e len len hK hs
      refine ⟨ρ', v', M', _, ?_, h4, h5, h6, h7, h8⟩
      show (Instr.buildSlice t len (parts.map fun x => (x.1, den ρ x.2)).toArray).run P w = _
      rw [h3]
      have hf := fillS_ok ρ _ parts _ l hl
      have hvs : v.cells.size = esz := by rw [← hden ρ]; simp [denL_length, hzs]
      have hz0 : (denL ρ (zerosS z len)).toArray = ((Array.range (len * esz)).map fun j => v.cells[j % v.cells.size]!) := by
        rw [zerosS_den ρ (hden ρ), hvs]
      rw [hz0] at hf
      have h24' : ¬ (len * esz > 2 ^ 24) := by omega
      simp only [Instr.buildSlice, Sem.run_bind, run_underlying hd, Result.andThen_ok, run_sizeOf he, if_neg h24']
      by_cases hn : len * esz = 0
      · rw [if_pos hn]
        have hf0 : Instr.fill (fun i => some (i * esz, esz)) (Array.map (fun j => (#[] : Array Value)[j % (#[] : Array Value).size]!) (Array.range (len * esz))) (parts.map fun x => (x.1, den ρ x.2)) = some (denL ρ l).toArray := by
          have hr0 : Array.range 0 = #[] := rfl
          rw [hn, hr0] at hf ⊢
          simpa using hf
        simp only [Sem.run_pure, Sem.run_bind, Result.andThen_ok]
        rw [hf0]
        simp only [newRow, Sem.run_bind, run_newObj, World.alloc_eq, Result.andThen_ok, Sem.run_pure]
      · rw [if_neg hn]
        simp only [zeroValue, typeInfo, Sem.run_bind, run_program, hi, hzero, Sem.run_pure, Result.andThen_ok]
        rw [hf]
        simp only [newRow, Sem.run_bind, run_newObj, World.alloc_eq, Result.andThen_ok, Sem.run_pure]
    · exact h.elim
  · exact h.elim
theorem apC_ok (hT : TabOK P T) {t : TypeId} {x : SV} {K : SV → List Blk → Prop} (hx : x.lt M.length = true) (h : apC T t x (fun v => K v M)) : SemOK P M (fun ρ => Instr.arrayAt t (den ρ x)) K := by
  unfold apC at h
  split at h
  · rename_i n e esz sz nm off len cap htk
    obtain ⟨hle, hK⟩ := h
    obtain ⟨d, ti, hd, hi', rfl, _, _, he⟩ := tk_facts (Tab.facts hT htk (by simp)) (by simp)
    refine SemOK.pure (.p nm off) (by simpa [SV.lt] using hx) hK (fun G ρ w _ => ?_)
    have : ¬ (len < n) := by omega
    simp [Instr.arrayAt, Sem.run_bind, run_underlying hd, den, this]
  · exact h.elim
theorem lenC_ok (hT : TabOK P T) {t : TypeId} {x : SV} {ats : Array TypeId} {ty : TypeId} (h0 : ats[0]? = some t) {K : SV → List Blk → Prop} (h : lenC T M t x (fun v => K v M)) :
    SemOK P M (fun ρ => Builtin.len_ ats ty #[den ρ x]) K := by
  unfold lenC at h
  split at h
  · rename_i e n htk
    obtain ⟨kt, ht, hk⟩ := map_facts hT htk
    unfold lenO at h
    split at h
    · rename_i es c hB
      refine SemOK.pure _ rfl h (fun G ρ w hs => ?_)
      obtain ⟨g, hg, hh⟩ := obj_get hs hB
      simp only [MObj.den] at hh
      have hv : den ρ (.mp n) = .map (some g) := by simp [den, hg]
      rw [hv]
      simp [Builtin.len_, h0, run_underlying ht, den, goInt, obj_run hh, entsD]
    · exact h.elim
  · rename_i htk
    obtain ⟨d, ti, hd, hi', _, rfl, _⟩ := tk_facts (Tab.facts hT htk (by simp)) (by simp)
    exact SemOK.pure _ rfl h (fun G ρ w _ => by simp [Builtin.len_, h0, run_underlying hd, den, goInt])
  · rename_i htk
    obtain ⟨d, ti, hd, hi', _, rfl, _⟩ := tk_facts (Tab.facts hT htk (by simp)) (by simp)
    exact SemOK.pure _ rfl h (fun G ρ w _ => by simp [Builtin.len_, h0, run_underlying hd, den, goInt])
  · rename_i htk
    obtain ⟨d, ti, hd, hi', _, rfl, _⟩ := tk_facts (Tab.facts hT htk (by simp)) (by simp)
    exact SemOK.pure _ rfl h (fun G ρ w _ => by simp [Builtin.len_, h0, run_underlying hd, den, goInt])
  · rename_i htk
    obtain ⟨d, ti, hd, hi', _, rfl⟩ := tk_facts (Tab.facts hT htk (by simp)) (by simp)
    exact SemOK.pure _ rfl h (fun G ρ w _ => by simp [Builtin.len_, h0, run_underlying hd, den, goInt])
  · rename_i n e esz sz htk
    obtain ⟨d, ti, hd, hi', rfl, _⟩ := tk_facts (Tab.facts hT htk (by simp)) (by simp)
    refine SemOK.pure _ rfl h (fun G ρ w _ => ?_)
    generalize den ρ _ = y
    have e1 : (#[y][0]? : Option Value) = some y := rfl
    simp only [Builtin.len_, h0, e1, Sem.run_bind, run_underlying hd, Result.andThen_ok, den, goInt]
    rfl
  · cases h
theorem capC_ok (hT : TabOK P T) {t : TypeId} {x : SV} {ats : Array TypeId} {ty : TypeId} (h0 : ats[0]? = some t) {K : SV → List Blk → Prop} (h : capC T t x (fun v => K v M)) :
    SemOK P M (fun ρ => Builtin.cap_ ats ty #[den ρ x]) K := by
  unfold capC at h
  split at h
  · rename_i htk
    obtain ⟨d, ti, hd, hi', _, rfl, _⟩ := tk_facts (Tab.facts hT htk (by simp)) (by simp)
    exact SemOK.pure _ rfl h (fun G ρ w _ => by simp [Builtin.cap_, h0, run_underlying hd, den, goInt])
  · rename_i htk
    obtain ⟨d, ti, hd, hi', _, rfl, _⟩ := tk_facts (Tab.facts hT htk (by simp)) (by simp)
    exact SemOK.pure _ rfl h (fun G ρ w _ => by simp [Builtin.cap_, h0, run_underlying hd, den, goInt])
  · rename_i n e esz sz htk
    obtain ⟨d, ti, hd, hi', rfl, _⟩ := tk_facts (Tab.facts hT htk (by simp)) (by simp)
    refine SemOK.pure _ rfl h (fun G ρ w _ => ?_)
    generalize den ρ _ = y
    have e1 : (#[y][0]? : Option Value) = some y := rfl
    simp only [Builtin.cap_, h0, e1, Sem.run_bind, run_underlying hd, Result.andThen_ok, den, goInt]
    rfl
  · cases h
theorem srcC_ok {esz : Nat} {x : SV} {K : List SV → Nat → Prop} (h : srcC M esz x K) : ∃ ys m, K ys m ∧ ys.length = m * esz ∧ ∀ G ρ w, Sim G ρ M w → x.lt M.length = true →
    ys.all SV.one = true ∧ ltL M.length ys = true ∧ (Builtin.lenOf (den ρ x)).run P w = .ok m w ∧
    ∀ k, k ≤ m → (Builtin.firstCells esz k (den ρ x)).run P w = .ok (denL ρ (ys.take (k * esz))).toArray w := by
  unfold srcC at h
  split at h
  · rename_i n off len cap
    obtain ⟨hl, hK⟩ := h
    refine ⟨_, len, hK, by simp; omega, fun G ρ w hs hx => ⟨?_, ltL_sub (cells_lt hs n) (fun y hy => List.mem_of_mem_drop (List.mem_of_mem_take hy)), by simp [den, Builtin.lenOf], fun k hk => ?_⟩⟩
    · rw [List.all_eq_true]
      intro y hy
      obtain ⟨j, hj, rfl⟩ := List.getElem_of_mem (List.mem_of_mem_drop (List.mem_of_mem_take hy))
      exact cells_one hs (List.getElem?_eq_getElem hj)
    · rw [List.take_take, Nat.min_eq_left (Nat.mul_le_mul_right _ hk)]
      have hke : k * esz ≤ len * esz := Nat.mul_le_mul_right _ hk
      by_cases h0 : k * esz = 0
      · rw [h0]
        cases hρ : ρ n with
        | none => simp [den, adr, hρ, Builtin.firstCells, denL]
        | some a => simp [den, adr, hρ, Builtin.firstCells, denL, h0, loadCells, loadCellsFrom]
      · obtain ⟨g, o, hg, hr⟩ := run_loadCells_at (P := P) hs (show off + k * esz ≤ (cellsAt M n).length by omega) (by omega)
        simp only [den, adr, hg, Option.map_some, Builtin.firstCells]
        exact hr
  · exact ⟨[], 0, h, by simp, fun G ρ w hs hx => ⟨rfl, rfl, by simp [den, Builtin.lenOf], fun k hk => by simp [den, Builtin.firstCells, denL]⟩⟩
  · rename_i a c
    refine ⟨[], 0, h, by simp, fun G ρ w hs hx => ⟨rfl, rfl, by simp [den, Builtin.lenOf], fun k hk => ?_⟩⟩
    obtain rfl : k = 0 := by omega
    cases a <;> simp [den, Builtin.firstCells, denL, loadCells, loadCellsFrom]
  · rename_i s
    obtain ⟨rfl, hK⟩ := h
    refine ⟨_, s.size, hK, by simp, fun G ρ w hs hx => ⟨List.all_eq_true.2 (fun y hy => by obtain ⟨b, _, rfl⟩ := List.mem_map.1 hy; rfl), by rw [ltL_eq]; exact List.all_eq_true.2 (fun y hy => by obtain ⟨b, _, rfl⟩ := List.mem_map.1 hy; rfl), by simp [den, Builtin.lenOf], fun k hk => ?_⟩⟩
    simp only [den, Builtin.firstCells, Sem.run_pure]
    congr 1
    apply Array.ext'
    rw [Nat.mul_one]
    simp only [Array.toList_map, denL_eq, List.map_take, List.map_map]
    have : (s.extract 0 k).data.toList = s.data.toList.take k := by
      rw [ByteArray.data_extract, Array.toList_extract, List.extract_eq_take_drop]; simp
    rw [this, List.map_take]
    congr 1
  · cases h
theorem run_storeAll {G : Cx} {ρ : Ren} {w : World} (hs : Sim G ρ M w) {n off : Nat} {cs ys : List SV} {ty : TypeId} (hB : M[n]? = some (.row cs ty)) (hcn : cs ≠ []) (ho : ys.all SV.one = true) (hl : ltL M.length ys = true)
    (hle : off + ys.length ≤ cs.length) : ∃ g w', ρ n = some (g, 0) ∧ (storeCells ⟨g, off, none⟩ (denL ρ ys)).run P w = .ok () w' ∧ Sim G ρ (M.set n (.row (splice cs off ys) ty)) w' := by
  have hspl : (splice cs off ys).all SV.one = true := by
    have h0 := (hs.blk n _ hB).1
    simp only [splice, List.all_append, Bool.and_eq_true, List.all_eq_true] at *
    exact ⟨⟨fun x hx => h0 x (List.mem_of_mem_take hx), ho⟩, fun x hx => h0 x (List.mem_of_mem_drop hx)⟩
  have hspl2 : ltL M.length (splice cs off ys) = true := by
    have h0 : ltL M.length cs = true := hs.lt n _ hB
    simp only [splice, ltL_append, Bool.and_eq_true]
    exact ⟨⟨ltL_sub h0 (fun x hx => List.mem_of_mem_take hx), hl⟩, ltL_sub h0 (fun x hx => List.mem_of_mem_drop hx)⟩
  obtain ⟨g, hg, hh, hs'⟩ := hs.setRow hB hcn hspl hspl2
  by_cases he : ys = []
  · subst he
    refine ⟨g, w, hg, rfl, ?_⟩
    have e : splice cs off [] = cs := by simp [splice]
    have e2 : M.set n (.row (splice cs off []) ty) = M := by
      rw [e]
      apply List.ext_getElem?
      intro j
      by_cases hj : n = j
      · subst hj; rw [List.getElem?_set_self (List.getElem?_eq_some_iff.1 hB).1, hB]
      · rw [List.getElem?_set_ne hj]
    rw [e2]
    exact hs
  · refine ⟨g, _, hg, ?_, hs'⟩
    have hcs : (denL ρ cs) = (denL ρ cs).take off ++ ((denL ρ cs).drop off).take ys.length ++ (denL ρ cs).drop (off + ys.length) := by
      rw [← List.drop_drop, List.append_assoc, List.take_append_drop, List.take_append_drop]
    have hlcs : (denL ρ cs).length = cs.length := denL_length ρ cs
    have hones : ∀ x, x ∈ denL ρ ys → x.oneCell' = true := by
      intro x hx
      rw [denL_eq] at hx
      obtain ⟨y, hy, rfl⟩ := List.mem_map.1 hx
      exact one_den (List.all_eq_true.1 ho y hy)
    have hr := run_storeCells (P := P) g ty (denL ρ ys) w off 0 ((denL ρ cs).take off) (((denL ρ cs).drop off).take ys.length) ((denL ρ cs).drop (off + ys.length)) hones
      (by rw [← hcs]; exact hh) (by simp [hlcs]; omega) (by simp [denL_length, hlcs]; omega)
    have hne : denL ρ ys ≠ [] := by
      intro e
      have := congrArg List.length e
      rw [denL_length] at this
      exact he (List.length_eq_zero_iff.1 this)
    rw [if_neg hne] at hr
    have hfin : ((denL ρ cs).take off ++ denL ρ ys ++ (denL ρ cs).drop (off + ys.length)) = denL ρ (splice cs off ys) := by
      simp [splice, denL_append, denL_take, denL_drop]
    rw [hfin] at hr
    exact hr
theorem nonInt_run (hT : TabOK P T) {t : TypeId} (h : nonInt (T.k t) = true) : ∃ d, P.underlying t = some d ∧ (d = .string ∨ ∃ e, d = .slice e) := by
  cases htk : T.k t <;> simp [htk, nonInt] at h
  · obtain ⟨d, ti, hd, _, _, rfl⟩ := tk_facts (Tab.facts hT htk (by simp)) (by simp)
    exact ⟨_, hd, .inl rfl⟩
  · obtain ⟨d, ti, hd, _, _, rfl, _⟩ := tk_facts (Tab.facts hT htk (by simp)) (by simp)
    exact ⟨_, hd, .inr ⟨_, rfl⟩⟩
theorem run_cap (need old : Nat) (e : TypeId) (w : World) : ∃ c, need ≤ c ∧ (choose (.appendCap need old e)).run P w = .ok c { w with drawn := w.drawn + 1 } := by
  refine ⟨need + (w.tape w.drawn (.appendCap need old e)) % (2 ^ 63 - need), by omega, ?_⟩
  simp [Question.forced, Question.cut]
theorem appendA_ok (hT : TabOK P T) {ts tx : TypeId} {s x : SV} {ats : Array TypeId} {ty : TypeId} (h0 : ats[0]? = some ts) (h1 : ats[1]? = some tx) {K : SV → List Blk → Prop}
    (hsl : s.lt M.length = true) (hxl : x.lt M.length = true) (h : appendA T M ts tx s x K) : SemOK P M (fun ρ => Builtin.append_ ats ty #[den ρ s, den ρ x]) K := by
  unfold appendA at h
  split at h
  · rename_i e esz eby htk
    obtain ⟨hni, hby0, hesz, hsrc⟩ := h
    obtain ⟨d, ti, hd, hi', _, rfl, he, hby⟩ := tk_facts (Tab.facts hT htk (by simp)) (by simp)
    obtain ⟨ei, hei, hes⟩ := info_of he
    have heb : ei.bytes = eby := by simpa [hei] using hby
    obtain ⟨ys, m, h, hysl, hf⟩ := srcC_ok (P := P) hsrc
    intro G ρ w hs
    obtain ⟨hyo, hyl, hlen, hfirst⟩ := hf G ρ w hs hxl
    have hyst : ys.take (m * esz) = ys := List.take_of_length_le (by omega)
    have hfm := hfirst m (Nat.le_refl _)
    rw [hyst] at hfm
    have e0 : (#[den ρ s, den ρ x][0]? : Option Value) = some (den ρ s) := rfl
    have e1 : (#[den ρ s, den ρ x][1]? : Option Value) = some (den ρ x) := rfl
    obtain ⟨dx, hdx, hzr⟩ := nonInt_run hT hni
    have hsz : ∀ w', (sizeOf e).run P w' = .ok esz w' := fun w' => run_sizeOf he w'
    -- the arm that makes a new array
    have grow : ∀ (base : Option Addr) (len cap : Nat) (old z : List SV), T.z e = some z → den ρ s = .slice base len cap → cap < len + m → Builtin.nextslicecap (len + m) cap * eby ≤ 2 ^ 48 →
        old.all SV.one = true → ltL M.length old = true → (∀ w', w'.heap = w.heap → Sim G ρ M w' → (Builtin.firstCells esz len (den ρ s)).run P w' = .ok (denL ρ old).toArray w') →
        (∀ c, len + m ≤ c → K (.sl M.length 0 (len + m) c) (M ++ [.row (old ++ ys ++ zerosS z (c - (len + m))) e])) →
        ∃ ρ' v M' w', (Builtin.append_ ats ty #[den ρ s, den ρ x]).run P w = .ok (den ρ' v) w' ∧ Ext ρ ρ' M.length ∧ M.length ≤ M'.length ∧ Sim G ρ' M' w' ∧ v.lt M'.length = true ∧ K v M' := by
      intro base len cap old z hz hds hlt hcap hoo hol hold hK
      obtain ⟨i, v, hi, hzero, _, hden, hzlt, hone, hzl⟩ := zero_facts hT hz
      have hie : i = ei := Option.some.inj (hi.symm.trans hei)
      subst hie
      obtain ⟨c, hc, hrc⟩ := run_cap (P := P) (len + m) cap e w
      have hs1 := hs.drew
      have hzs : v.cells.size = esz := by rw [← hden ρ, ← hes, hzl]; simp [denL_length]
      have hrow : (old ++ ys ++ zerosS z (c - (len + m))).all SV.one = true := by
        rw [List.all_append, List.all_append, hoo, hyo, zerosS_one hone]; rfl
      have hrowl : ltL M.length (old ++ ys ++ zerosS z (c - (len + m))) = true := by
        rw [ltL_append, ltL_append, hol, hyl, zerosS_lt (hzlt _)]; rfl
      obtain ⟨ρ', v', M', g3, g4, g5, g6, g7, g8⟩ := new_row hrow hrowl e (len + m) c (hK c hc) hs1
      refine ⟨ρ', v', M', _, ?_, g4, g5, g6, g7, g8⟩
      rw [g3]
      have hn1 : ¬ (len + m ≤ cap) := by omega
      have hf1 := (hf G ρ _ hs1 hxl).2.2.2 m (Nat.le_refl _)
      rw [hyst] at hf1
      have ho1 := hold { w with drawn := w.drawn + 1 } rfl hs1
      rw [hds] at ho1 ⊢
      have e0 : (#[Value.slice base len cap, den ρ x][0]? : Option Value) = some (Value.slice base len cap) := rfl
      have e1 : (#[Value.slice base len cap, den ρ x][1]? : Option Value) = some (den ρ x) := rfl
      have hb0 : ¬ (((len + m : Nat) : Int) > IntKind.i64.max ∧ (False ∨ i.bytes = 0)) := by
        rintro ⟨_, h | h⟩
        · cases h
        · omega
      have hcap' : ¬ (Builtin.nextslicecap (len + m) cap * i.bytes > 2 ^ 48) := by rw [heb]; omega
      have hzc : Builtin.zeroCells v.cells (c - (len + m)) = (denL ρ (zerosS z (c - (len + m)))).toArray := by
        apply Array.ext'; simp [zerosS_den ρ (hden ρ), Builtin.zeroCells]
      rcases hzr with rfl | ⟨ex, rfl⟩ <;> simp only [Builtin.append_, h0, h1, e0, e1, Sem.run_bind, run_underlying hd, Result.andThen_ok, hsz, run_underlying hdx, Sem.run_pure, Bool.false_eq_true, if_false, hlen, if_neg hn1, typeInfo, run_program, hei, if_neg hb0, if_neg hcap',
        hrc, run_askRoom, ho1, Bool.not_false, if_true, hf1, zeroValue, hzero, Sem.run_pure, newRow, run_newObj, World.alloc_eq, hzc]
      all_goals simp [denL_append]
    show ∃ ρ' v M' w', (Builtin.append_ ats ty #[den ρ s, den ρ x]).run P w = .ok (den ρ' v) w' ∧ Ext ρ ρ' M.length ∧ M.length ≤ M'.length ∧ Sim G ρ' M' w' ∧ v.lt M'.length = true ∧ K v M'
    cases s with
    | sl n off len cap =>
      obtain ⟨hin, hout⟩ := h
      by_cases hc : len + m ≤ cap
      · have hin := hin hc
        have hin : (∃ cs rty, M[n]? = some (.row cs rty) ∧ cs ≠ [] ∧ off + (len + m) * esz ≤ cs.length ∧ K (.sl n off (len + m) cap) (M.set n (.row (splice cs (off + len * esz) ys) rty))) ∨ (m = 0 ∧ K (.sl n off len cap) M) := by
          split at hin
          · rename_i cs rty hB
            by_cases hcn : cs = []
            · subst hcn
              obtain ⟨hle, hK⟩ := hin
              have hm0 : m = 0 := by
                rcases Nat.eq_zero_or_pos m with h | h
                · exact h
                · have := Nat.mul_le_mul (show 1 ≤ len + m by omega) (show 1 ≤ esz by omega)
                  simp at hle; omega
              subst hm0
              obtain rfl : ys = [] := List.length_eq_zero_iff.1 (by omega)
              refine .inr ⟨rfl, ?_⟩
              have e2 : M.set n (.row (splice [] (off + len * esz) []) rty) = M := by
                have : splice [] (off + len * esz) [] = [] := by simp [splice]
                rw [this]
                apply List.ext_getElem?
                intro j
                by_cases hj : n = j
                · subst hj; rw [List.getElem?_set_self (List.getElem?_eq_some_iff.1 hB).1, hB]
                · rw [List.getElem?_set_ne hj]
              rw [e2] at hK
              exact hK
            · exact .inl ⟨cs, rty, hB, hcn, hin⟩
          · exact .inr hin
        rcases hin with ⟨cs, rty, hB, hcn, hle, hK⟩ | hin
        · have hadd : (len + m) * esz = len * esz + m * esz := Nat.add_mul _ _ _
          obtain ⟨g, w', hg, hr, hs'⟩ := run_storeAll (P := P) hs hB hcn hyo hyl (show off + len * esz + ys.length ≤ cs.length by omega)
          refine ⟨ρ, .sl n off (len + m) cap, _, w', ?_, Ext.refl _ _, by simp, hs', by simpa [SV.lt] using hsl, hK⟩
          have hds : ∀ l, den ρ (.sl n off l cap) = .slice (some ⟨g, off, none⟩) l cap := fun l => by simp [den, adr, hg]
          rw [hds, hds]
          have e0 : (#[Value.slice (some ⟨g, off, none⟩) len cap, den ρ x][0]? : Option Value) = some (Value.slice (some ⟨g, off, none⟩) len cap) := rfl
          have e1 : (#[Value.slice (some ⟨g, off, none⟩) len cap, den ρ x][1]? : Option Value) = some (den ρ x) := rfl
          rcases hzr with rfl | ⟨ex, rfl⟩ <;> simp only [Builtin.append_, h0, h1, e0, e1, Sem.run_bind, run_underlying hd, Result.andThen_ok, hsz, run_underlying hdx, Sem.run_pure, Bool.false_eq_true, if_false, hlen, if_pos hc, Bool.not_false, if_true, hfm, addr_add, hr, Sem.run_pure]
        · obtain ⟨rfl, hK⟩ := hin
          have hys0 : ys = [] := List.length_eq_zero_iff.1 (by omega)
          subst hys0
          have hc' : len ≤ cap := by omega
          refine ⟨ρ, .sl n off len cap, M, w, ?_, Ext.refl _ _, Nat.le_refl _, hs, hsl, hK⟩
          have hst : ∀ a, (storeCells a (denL ρ []).toArray.toList).run P w = .ok () w := fun a => rfl
          cases hρ : ρ n with
          | none =>
            have hds : den ρ (.sl n off len cap) = .slice none len cap := by simp [den, adr, hρ]
            rw [hds]
            have e0 : (#[Value.slice none len cap, den ρ x][0]? : Option Value) = some (Value.slice none len cap) := rfl
            have e1 : (#[Value.slice none len cap, den ρ x][1]? : Option Value) = some (den ρ x) := rfl
            rcases hzr with rfl | ⟨ex, rfl⟩ <;> simp only [Builtin.append_, h0, h1, e0, e1, Sem.run_bind, run_underlying hd, Result.andThen_ok, hsz, run_underlying hdx, Sem.run_pure, Bool.false_eq_true, if_false, hlen, if_pos hc', Bool.not_false, if_true, hfm, Sem.run_pure, Nat.add_zero]
          | some a =>
            have hds : den ρ (.sl n off len cap) = .slice (some ⟨a.1, a.2 + off, none⟩) len cap := by simp [den, adr, hρ]
            rw [hds]
            have e0 : (#[Value.slice (some ⟨a.1, a.2 + off, none⟩) len cap, den ρ x][0]? : Option Value) = some (Value.slice (some ⟨a.1, a.2 + off, none⟩) len cap) := rfl
            have e1 : (#[Value.slice (some ⟨a.1, a.2 + off, none⟩) len cap, den ρ x][1]? : Option Value) = some (den ρ x) := rfl
            rcases hzr with rfl | ⟨ex, rfl⟩ <;> simp only [Builtin.append_, h0, h1, e0, e1, Sem.run_bind, run_underlying hd, Result.andThen_ok, hsz, run_underlying hdx, Sem.run_pure, Bool.false_eq_true, if_false, hlen, if_pos hc', Bool.not_false, if_true, hfm, Sem.run_pure, Nat.add_zero, hst]
      · obtain ⟨hcap, hle, hz⟩ := hout (by omega)
        split at hz
        · rename_i z hz'
          have hsub : ∀ y, y ∈ ((cellsAt M n).drop off).take (len * esz) → y ∈ cellsAt M n := fun y hy => List.mem_of_mem_drop (List.mem_of_mem_take hy)
          refine grow (adr ρ n off) len cap _ z hz' (by simp [den]) (by omega) hcap ?_ (ltL_sub (cells_lt hs n) hsub) (fun w' _ hs1 => ?_) hz
          · rw [List.all_eq_true]
            intro y hy
            obtain ⟨j, hj, rfl⟩ := List.getElem_of_mem (hsub y hy)
            exact cells_one hs (List.getElem?_eq_getElem hj)
          · by_cases h0 : len * esz = 0
            · rw [h0]
              cases hρ : ρ n with
              | none => simp [den, adr, hρ, Builtin.firstCells, denL]
              | some a => simp [den, adr, hρ, Builtin.firstCells, denL, h0, loadCells, loadCellsFrom]
            · obtain ⟨g, o, hg, hr⟩ := run_loadCells_at (P := P) hs1 hle (by omega)
              simp only [den, adr, hg, Option.map_some, Builtin.firstCells]
              exact hr
        · cases hz
    | sn =>
      obtain ⟨hin, hout⟩ := h
      by_cases hm : m = 0
      · subst hm
        have hys0 : ys = [] := List.length_eq_zero_iff.1 (by omega)
        subst hys0
        refine ⟨ρ, .sn, M, w, ?_, Ext.refl _ _, Nat.le_refl _, hs, rfl, hin rfl⟩
        have hds : den ρ .sn = .slice none 0 0 := by rw [den]
        rw [hds]
        have e0 : (#[Value.slice none 0 0, den ρ x][0]? : Option Value) = some (Value.slice none 0 0) := rfl
        have e1 : (#[Value.slice none 0 0, den ρ x][1]? : Option Value) = some (den ρ x) := rfl
        rcases hzr with rfl | ⟨ex, rfl⟩ <;> simp only [Builtin.append_, h0, h1, e0, e1, Sem.run_bind, run_underlying hd, Result.andThen_ok, hsz, run_underlying hdx, Sem.run_pure, Bool.false_eq_true, if_false, hlen, Nat.add_zero, Nat.le_refl, Bool.not_false, if_true, hfm, Sem.run_pure]
      · obtain ⟨hcap, hz⟩ := hout (by omega)
        split at hz
        · rename_i z hz'
          have hds : den ρ .sn = .slice none 0 0 := by rw [den]
          refine grow none 0 0 [] z hz' hds (by omega) (by simpa using hcap) rfl rfl (fun w' _ _ => by rw [hds]; simp [Builtin.firstCells, denL]) ?_
          intro c hc
          have := hz c (by omega)
          simpa using this
        · cases hz
    | _ => exact h.elim
  · cases h
theorem appendN_ok (hT : TabOK P T) {ts tx : TypeId} {s x : SV} {ats : Array TypeId} {ty : TypeId} (h0 : ats[0]? = some ts) (h1 : ats[1]? = some tx) {K : SV → List Blk → Prop}
    (hsl : s.lt M.length = true) (hxl : x.lt M.length = true) (h : appendN T M ts tx s x K) : SemOK P M (fun ρ => Builtin.append_ ats ty #[den ρ s, den ρ x]) K := by
  -- what the state comes to under the new name
  let K1 : SV → List Blk → Prop := fun v M1 => ∀ (G : Cx) (ρ : Ren) (w : World), Sim G ρ M1 w → v.lt M1.length = true →
    ∃ ρ' v' M', Ext ρ ρ' M.length ∧ M.length ≤ M'.length ∧ Sim G ρ' M' w ∧ v'.lt M'.length = true ∧ den ρ' v' = den ρ v ∧ K v' M'
  have self : ∀ v M1, M.length ≤ M1.length → K v M1 → K1 v M1 := fun v M1 hle hK G ρ w hs hv => ⟨ρ, v, M1, Ext.refl _ _, hle, hs, hv, rfl, hK⟩
  have key : appendA T M ts tx s x K1 := by
    unfold appendN at h
    unfold appendA
    split at h
    · rename_i e esz eby htk
      obtain ⟨hni, hby0, hesz, z, hz, hsrc⟩ := h
      refine ⟨hni, hby0, hesz, ?_⟩
      have hzl : ∀ k, (zerosS z k).length = k * esz := by
        obtain ⟨i, v, hi, _, _, _, _, _, hzl⟩ := zero_facts hT hz
        obtain ⟨d, ti, hd, hi', _, rfl, he, hby⟩ := tk_facts (Tab.facts hT htk (by simp)) (by simp)
        have : z.length = esz := by rw [← hzl]; simpa [hi] using he
        intro k
        simp [zerosS, List.length_flatten, this]
      have hzm : ∀ k y, y ∈ zerosS z k → y ∈ z := fun k y hy => by
        simp only [zerosS, List.mem_flatten, List.mem_replicate] at hy
        obtain ⟨l, ⟨_, rfl⟩, hy⟩ := hy
        exact hy
      have mono : ∀ {f g : List SV → Nat → Prop}, (∀ ys m, ys.length = m * esz → f ys m → g ys m) → srcC M esz x f → srcC M esz x g := by
        intro f g hfg h
        unfold srcC at h ⊢
        split at h <;> (try simp only at h ⊢) <;> try exact h
        · exact ⟨h.1, hfg _ _ (by simp; omega) h.2⟩
        · exact hfg _ _ (by simp) h
        · exact hfg _ _ (by simp) h
        · exact ⟨h.1, hfg _ _ (by simp [h.1]) h.2⟩
      refine mono (fun ys m hys h => ?_) hsrc
      cases s <;> simp only at h ⊢ <;> try exact h
      case sl n off len cap =>
        obtain ⟨rfl, hle, ⟨cs, rty, hB, hcs⟩, hcap, hK⟩ := h
        have hcell : cellsAt M n = cs := by simp [cellsAt, hB]
        have hn : n < M.length := (List.getElem?_eq_some_iff.1 hB).1
        rw [hcell] at hK
        refine ⟨fun hin => ?_, fun hout => ?_⟩
        · rw [hB]
          simp only
          have hm : (len + m) * esz ≤ cap * esz := Nat.mul_le_mul_right _ hin
          have hadd : (len + m) * esz = len * esz + m * esz := Nat.add_mul _ _ _
          refine ⟨by omega, fun G ρ w hs hv => ?_⟩
          have hset : (M.set n (.row (splice cs (0 + len * esz) ys) rty))[n]? = some (.row (splice cs (0 + len * esz) ys) rty) := List.getElem?_set_self hn
          have hmv := hs.move hset
          have hspl : splice cs (0 + len * esz) ys = cs.take (len * esz) ++ ys ++ cs.drop ((len + m) * esz) := by
            simp only [splice, Nat.zero_add, hadd, hys]
          have hmem : ∀ y, y ∈ cs.drop ((len + m) * esz) → y ∈ cs.drop (len * esz) ∨ y ∈ z := fun y hy => .inl (by
            rw [hadd, ← List.drop_drop] at hy; exact List.mem_of_mem_drop hy)
          have hKK := hK cap (cs.drop ((len + m) * esz)) rty hin (by simp [hcs, Nat.sub_mul]) hmem
          rw [List.length_set] at hmv
          rw [List.set_set, hspl] at hmv
          refine ⟨_, .sl M.length 0 (len + m) cap, M.set n .dead ++ [.row (cs.take (len * esz) ++ ys ++ cs.drop ((len + m) * esz)) rty], fun k hk => if_neg (by omega), by simp, hmv, by simp [SV.lt], ?_, hKK⟩
          simp only [den, adr, if_true]
        · rw [hcell, hz]
          refine ⟨hcap hout, by simp [hcs]; exact Nat.mul_le_mul_right _ hle, fun c hc => ?_⟩
          have hKK := hK c (zerosS z (c - (len + m))) e hc (hzl _) (fun y hy => .inr (hzm _ y hy))
          intro G ρ w hs hv
          -- the elder block dies where it stands
          have hd : Sim G ρ (M.set n .dead ++ [.row (cs.take (len * esz) ++ ys ++ zerosS z (c - (len + m))) e]) w := by
            have hs0 := hs
            rw [List.drop_zero] at hs0
            have hget : ∀ (k : Nat) (B : Blk), (M.set n .dead ++ [.row (cs.take (len * esz) ++ ys ++ zerosS z (c - (len + m))) e])[k]? = some B →
                B = .dead ∨ (M ++ [.row (cs.take (len * esz) ++ ys ++ zerosS z (c - (len + m))) e])[k]? = some B := by
              intro k B hk
              rcases Nat.lt_or_ge k M.length with hl | hl
              · rw [List.getElem?_append_left (by simpa using hl)] at hk
                rw [List.getElem?_append_left hl]
                by_cases hnk : n = k
                · subst hnk; rw [List.getElem?_set_self hn] at hk; cases hk; exact .inl rfl
                · rw [List.getElem?_set_ne hnk] at hk; exact .inr hk
              · rw [List.getElem?_append_right (by simpa using hl), List.length_set] at hk
                rw [List.getElem?_append_right hl]; exact .inr hk
            refine ⟨hs0.os, hs0.tape, hs0.output, hs0.kept, by have := hs0.base; simpa using this, hs0.same, ?_, ?_, ?_⟩
            · intro k B hk
              rcases hget k B hk with rfl | h
              · rfl
              · have := hs0.lt k B h; simpa using this
            · intro k B hk
              rcases hget k B hk with rfl | h
              · trivial
              · exact hs0.blk k B h
            · intro k k' B C hk hk' hr hl
              rcases hget k B hk with rfl | h
              · cases hr
              rcases hget k' C hk' with rfl | h'
              · cases hl
              exact hs0.sep k k' B C h h' hr hl
          exact ⟨ρ, .sl M.length 0 (len + m) c, _, Ext.refl _ _, by simp, hd, by simp [SV.lt], rfl, hKK⟩
      case sn =>
        obtain ⟨hcap, hK⟩ := h
        refine ⟨fun hm => ?_, fun hm => ⟨hcap hm, ?_⟩⟩
        · subst hm
          obtain rfl : ys = [] := List.length_eq_zero_iff.1 (by omega)
          intro G ρ w hs hv
          refine ⟨_, .sl M.length 0 0 0, M ++ [.row [] ts], fun k hk => if_neg (by omega), by simp, hs.nilRow ts, by simp [SV.lt], ?_, by simpa using hK 0 [] ts (Nat.le_refl _) (by simp) (by simp)⟩
          simp [den, adr]
        · rw [hz]
          exact fun c hc => self _ _ (by simp) (by simpa using hK c (zerosS z (c - m)) e hc (hzl _) (hzm _))
    · exact h.elim
  intro G ρ w hs
  obtain ⟨ρ', v, M', w', h1, h2, h3, h4, h5, h6⟩ := appendA_ok (P := P) (ty := ty) hT h0 h1 hsl hxl key G ρ w hs
  obtain ⟨ρ2, v2, M2, g1, g2, g3, g4, g5, g6⟩ := h6 G ρ' w' h4 h5
  exact ⟨ρ2, v2, M2, w', by rw [g5]; exact h1, h2.trans g1 (Nat.le_refl _), g2, g3, g4, g6⟩
theorem run_appendZ (hT : TabOK P T) {ts tx tstr e : TypeId} {ats : Array TypeId} {ty : TypeId} (h0 : ats[0]? = some ts) (h1 : ats[1]? = some tx) (hx : T.k tx = .int .i64) (hs : T.k ts = .slice e 1 1) (hz : T.z e = some [.u8 0#8]) (hstr : T.k tstr = .str)
    (base : Option Addr) (len cap : Nat) (n : Int) (hn0 : 0 ≤ n) (hn : n ≤ 140737488355328) (hlen : len + n.toNat ≤ 140737488355328) (w : World) :
    (Builtin.append_ ats ty #[.slice base len cap, .int .i64 n]).run P w = (Builtin.append_ #[ts, tstr] ty #[.slice base len cap, .string (zerosStr n.toNat)]).run P w := by
  obtain ⟨d1, i1, hd1, _, _, rfl⟩ := tk_facts (Tab.facts hT hx (by simp)) (by simp)
  obtain ⟨d2, i2, hd2, _, _, rfl, he, hby⟩ := tk_facts (Tab.facts hT hs (by simp)) (by simp)
  obtain ⟨d3, i3, hd3, _, _, rfl⟩ := tk_facts (Tab.facts hT hstr (by simp)) (by simp)
  obtain ⟨i, v, hi, hzero, _, hden, _, _, hzl⟩ := zero_facts hT hz
  have hib : i.bytes = 1 := by simpa [hi] using hby
  have hcells : v.cells = #[.int .u8 0] := by rw [← hden (fun _ => none)]; simp [denL, den]
  have wn : IntKind.i64.wrap n = n := by simp only [IntKind.wrap, IntKind.bits, IntKind.signed]; simp; omega
  have n1 : ¬ n < 0 := by omega
  have n2 : ¬ (n * ((1 : Nat) : Int) > 2 ^ 48) := by omega
  have hsz : (zerosStr n.toNat).size = n.toNat := by simp [zerosStr, ByteArray.size]
  have hnew : Builtin.zeroCells #[Value.int .u8 0] n.toNat = ((zerosStr n.toNat).extract 0 n.toNat).data.map fun b => Value.int .u8 b.toNat := by
    have h1 : ((zerosStr n.toNat).extract 0 n.toNat).data = Array.replicate n.toNat 0 := by
      rw [ByteArray.data_extract]; simp [zerosStr]
    rw [h1]
    apply Array.ext'
    unfold Builtin.zeroCells
    rw [zeros_eq]
    simp [List.flatten_replicate_singleton]
  have he : ∀ w', (sizeOf e).run P w' = .ok 1 w' := fun w' => run_sizeOf he w'
  have e0 : ∀ x : Value, (#[Value.slice base len cap, x][0]? : Option Value) = some (Value.slice base len cap) := fun _ => rfl
  have e1 : ∀ x : Value, (#[Value.slice base len cap, x][1]? : Option Value) = some x := fun _ => rfl
  have e2 : (#[ts, tstr][0]? : Option TypeId) = some ts := rfl
  have e3 : (#[ts, tstr][1]? : Option TypeId) = some tstr := rfl
  have hzv : ∀ w', (zeroValue e).run P w' = .ok v w' := fun w' => by simp [zeroValue, typeInfo, hi, hzero]
  have happ : ∀ w', (if n.toNat * 1 = 0 then pure #[] else do pure (Builtin.zeroCells (← zeroValue e).cells n.toNat) : Sem (Array Value)).run P w' = .ok (((zerosStr n.toNat).extract 0 n.toNat).data.map fun b => Value.int .u8 b.toNat) w' := by
    intro w'
    by_cases h : n.toNat * 1 = 0
    · rw [if_pos h]
      have h0 : n.toNat = 0 := by omega
      rw [h0]
      simp [zerosStr]
    · rw [if_neg h]
      simp only [Sem.run_bind, hzv, Result.andThen_ok, hcells, hnew, Sem.run_pure]
  by_cases hc : len + n.toNat ≤ cap
  · simp only [Builtin.append_, h0, h1, e0, e1, e2, e3, Sem.run_bind, run_underlying hd2, run_underlying hd1, run_underlying hd3, Result.andThen_ok, he, Sem.run_pure, if_true, asInt, asIntOf, wn, typeInfo, run_program, hi, hib, Builtin.lenOf, hsz, decide_eq_true_eq, if_neg n1, if_neg n2, if_pos hc, Bool.not_true, Bool.false_eq_true, if_false, happ, Builtin.firstCells, Bool.not_false]
  · have hb0 : ¬ (((len + n.toNat : Nat) : Int) > IntKind.i64.max ∧ (True ∨ i.bytes = 0)) := by
      rintro ⟨h, _⟩
      simp [IntKind.max, IntKind.signed, IntKind.bits] at h
      omega
    have hb1 : ¬ (((len + n.toNat : Nat) : Int) > IntKind.i64.max ∧ (False ∨ i.bytes = 0)) := fun ⟨h, _⟩ => hb0 ⟨h, .inl trivial⟩
    have hfit := growslice_fits (need := len + n.toNat) (old := cap) (bytes := i.bytes) (by omega) (by rw [hib]; omega)
    have hb2 : ¬ (Builtin.nextslicecap (len + n.toNat) cap * i.bytes > 2 ^ 48) := by omega
    rw [hib] at hb0 hb1 hb2
    simp only [Builtin.append_, h0, h1, e0, e1, e2, e3, Sem.run_bind, run_underlying hd2, run_underlying hd1, run_underlying hd3, Result.andThen_ok, he, Sem.run_pure, if_true, asInt, asIntOf, wn, typeInfo, run_program, hi, hib, Builtin.lenOf, hsz, decide_eq_true_eq, if_neg n1, if_neg n2, if_neg hc, Bool.not_true, Bool.false_eq_true, if_false, happ, Builtin.firstCells, Bool.not_false, if_neg hb0, if_neg hb1, if_neg hb2, hzv]
theorem appendG_ok (hT : TabOK P T) {ts tx : TypeId} {s x : SV} {ats : Array TypeId} {ty : TypeId} (h0 : ats[0]? = some ts) (h1 : ats[1]? = some tx) {K : SV → List Blk → Prop}
    (h : appendG T M ts tx s x K) : SemOK P M (fun ρ => Builtin.append_ ats ty #[den ρ s, den ρ x]) K := by
  unfold appendG at h
  split at h
  · rename_i e esz eby n htk
    obtain ⟨hx, hn0, hby0, hesz, hnb, h⟩ := h
    obtain ⟨d, ti, hd, hi', _, rfl, he, hby⟩ := tk_facts (Tab.facts hT htk (by simp)) (by simp)
    obtain ⟨dx, ix, hdx, _, _, rfl⟩ := tk_facts (Tab.facts hT hx (by simp)) (by simp)
    obtain ⟨ei, hei, hes⟩ := info_of he
    have heb : ei.bytes = eby := by simpa [hei] using hby
    have hsz : ∀ w', (sizeOf e).run P w' = .ok esz w' := fun w' => run_sizeOf he w'
    intro G ρ w hs
    show ∃ ρ' v M' w', (Builtin.append_ ats ty #[den ρ s, den ρ (.i .i64 n)]).run P w = .ok (den ρ' v) w' ∧ Ext ρ ρ' M.length ∧ M.length ≤ M'.length ∧ Sim G ρ' M' w' ∧ v.lt M'.length = true ∧ K v M'
    have grow : ∀ (base : Option Addr) (len cap : Nat) (old z : List SV), T.z e = some z → den ρ s = .slice base len cap → cap < len + n.toNat → len + n.toNat ≤ 140737488355328 → Builtin.nextslicecap (len + n.toNat) cap * eby ≤ 2 ^ 48 →
        old.all SV.one = true → ltL M.length old = true → (∀ w', w'.heap = w.heap → Sim G ρ M w' → (Builtin.firstCells esz len (den ρ s)).run P w' = .ok (denL ρ old).toArray w') →
        (∀ c, len + n.toNat ≤ c → K (.sl M.length 0 (len + n.toNat) c) (M ++ [.row (old ++ zerosS z n.toNat ++ zerosS z (c - (len + n.toNat))) e])) →
        ∃ ρ' v M' w', (Builtin.append_ ats ty #[den ρ s, den ρ (.i .i64 n)]).run P w = .ok (den ρ' v) w' ∧ Ext ρ ρ' M.length ∧ M.length ≤ M'.length ∧ Sim G ρ' M' w' ∧ v.lt M'.length = true ∧ K v M' := by
      intro base len cap old z hz hds hlt hmax hcap hoo hol hold hK
      obtain ⟨i, v, hi, hzero, _, hden, hzlt, hone, hzl⟩ := zero_facts hT hz
      have hie : i = ei := Option.some.inj (hi.symm.trans hei)
      subst hie
      obtain ⟨c, hc, hrc⟩ := run_cap (P := P) (len + n.toNat) cap e w
      have hs1 := hs.drew
      have hrow : (old ++ zerosS z n.toNat ++ zerosS z (c - (len + n.toNat))).all SV.one = true := by
        rw [List.all_append, List.all_append, hoo, zerosS_one hone, zerosS_one hone]; rfl
      have hrowl : ltL M.length (old ++ zerosS z n.toNat ++ zerosS z (c - (len + n.toNat))) = true := by
        rw [ltL_append, ltL_append, hol, zerosS_lt (hzlt _), zerosS_lt (hzlt _)]; rfl
      obtain ⟨ρ', v', M', g3, g4, g5, g6, g7, g8⟩ := new_row hrow hrowl e (len + n.toNat) c (hK c hc) hs1
      refine ⟨ρ', v', M', _, ?_, g4, g5, g6, g7, g8⟩
      rw [g3]
      have hn1 : ¬ (len + n.toNat ≤ cap) := by omega
      have ho1 := hold { w with drawn := w.drawn + 1 } rfl hs1
      rw [hds] at ho1 ⊢
      have e0 : (#[Value.slice base len cap, Value.int .i64 n][0]? : Option Value) = some (Value.slice base len cap) := rfl
      have e1 : (#[Value.slice base len cap, Value.int .i64 n][1]? : Option Value) = some (Value.int .i64 n) := rfl
      have hb0 : ¬ (((len + n.toNat : Nat) : Int) > IntKind.i64.max ∧ (True ∨ i.bytes = 0)) := by
        rintro ⟨h, _⟩
        simp [IntKind.max, IntKind.signed, IntKind.bits] at h
        omega
      have hcap' : ¬ (Builtin.nextslicecap (len + n.toNat) cap * i.bytes > 2 ^ 48) := by rw [heb]; omega
      have wn : IntKind.i64.wrap n = n := by simp only [IntKind.wrap, IntKind.bits, IntKind.signed]; simp; omega
      have n1 : ¬ n < 0 := by omega
      have n2 : ¬ (n * ((i.bytes : Nat) : Int) > 2 ^ 48) := by rw [heb]; omega
      have n3 : ¬ (n.toNat * esz = 0) := by
        have := Nat.mul_pos (show 0 < n.toNat by omega) hesz
        omega
      have hzc : ∀ k, Builtin.zeroCells v.cells k = (denL ρ (zerosS z k)).toArray := fun k => by
        apply Array.ext'; simp [zerosS_den ρ (hden ρ), Builtin.zeroCells]
      simp only [Builtin.append_, h0, h1, e0, e1, den_i, Sem.run_bind, run_underlying hd, Result.andThen_ok, hsz, run_underlying hdx, Sem.run_pure, if_true, asInt, asIntOf, wn, if_neg n1, if_neg hn1, typeInfo, run_program, hei, if_neg n2, if_neg hb0, if_neg hcap',
        hrc, run_askRoom, ho1, Bool.not_true, Bool.false_eq_true, if_false, if_neg n3, zeroValue, hzero, newRow, run_newObj, World.alloc_eq, hzc]
      all_goals simp [denL_append]
    cases s with
    | sl m off len cap =>
      obtain ⟨hlt, hmax, hcap, hle, hz⟩ := h
      split at hz
      · rename_i z hz'
        have hsub : ∀ y, y ∈ ((cellsAt M m).drop off).take (len * esz) → y ∈ cellsAt M m := fun y hy => List.mem_of_mem_drop (List.mem_of_mem_take hy)
        refine grow (adr ρ m off) len cap _ z hz' (by simp [den]) hlt hmax hcap ?_ (ltL_sub (cells_lt hs m) hsub) (fun w' _ hs1 => ?_) hz
        · rw [List.all_eq_true]
          intro y hy
          obtain ⟨j, hj, rfl⟩ := List.getElem_of_mem (hsub y hy)
          exact cells_one hs (List.getElem?_eq_getElem hj)
        · by_cases h0 : len * esz = 0
          · rw [h0]
            cases hρ : ρ m with
            | none => simp [den, adr, hρ, Builtin.firstCells, denL]
            | some a => simp [den, adr, hρ, Builtin.firstCells, denL, h0, loadCells, loadCellsFrom]
          · obtain ⟨g, o, hg, hr⟩ := run_loadCells_at (P := P) hs1 hle (by omega)
            simp only [den, adr, hg, Option.map_some, Builtin.firstCells]
            exact hr
      · cases hz
    | sn =>
      obtain ⟨hmax, hcap, hz⟩ := h
      split at hz
      · rename_i z hz'
        have hds : den ρ .sn = .slice none 0 0 := by rw [den]
        refine grow none 0 0 [] z hz' hds (by omega) (by omega) (by simpa using hcap) rfl rfl (fun w' _ _ => by rw [hds]; simp [Builtin.firstCells, denL]) ?_
        intro c hc
        have := hz c (by omega)
        simpa using this
      · cases hz
    | _ => exact h.elim
  · cases h
theorem appendC_ok (hT : TabOK P T) {ts tx : TypeId} {s x : SV} {ats : Array TypeId} {ty : TypeId} (h0 : ats[0]? = some ts) (h1 : ats[1]? = some tx) {K : SV → List Blk → Prop}
    (hsl : s.lt M.length = true) (hxl : x.lt M.length = true) (h : appendC T M ts tx s x K) : SemOK P M (fun ρ => Builtin.append_ ats ty #[den ρ s, den ρ x]) K := by
  rcases h with h | h | h | h
  · exact appendA_ok hT h0 h1 hsl hxl h
  · exact appendN_ok hT h0 h1 hsl hxl h
  · unfold appendZ at h
    split at h
    · rename_i n
      obtain ⟨hx, hn0, hn, e, tstr, hs, hz, hstr, h, hl⟩ := h
      have key : SemOK P M (fun ρ => Builtin.append_ #[ts, tstr] ty #[den ρ s, den ρ (.str (zerosStr n.toNat))]) K := by
        rcases h with h | h
        · exact appendA_ok hT rfl rfl hsl rfl h
        · exact appendN_ok hT rfl rfl hsl rfl h
      intro G ρ w hsim
      obtain ⟨ρ', v, M', w', g1, g2⟩ := key G ρ w hsim
      refine ⟨ρ', v, M', w', ?_, g2⟩
      show (Builtin.append_ ats ty #[den ρ s, den ρ (.i .i64 n)]).run P w = _
      rw [den_i]
      cases s <;> try (exact hl.elim)
      · rename_i nm off len cap
        have := run_appendZ (P := P) (ty := ty) hT h0 h1 hx hs hz hstr (adr ρ nm off) len cap n hn0 hn hl w
        simp only [den] at this g1 ⊢
        rw [this]; exact g1
      · have := run_appendZ (P := P) (ty := ty) hT h0 h1 hx hs hz hstr none 0 0 n hn0 hn (by omega) w
        simp only [den] at this g1 ⊢
        rw [this]; exact g1
    · exact h.elim
  · exact appendG_ok hT h0 h1 h
theorem clearC_ok (hT : TabOK P T) {t : TypeId} {x : SV} {ats : Array TypeId} {ty : TypeId} (h0 : ats[0]? = some t) {K : SV → List Blk → Prop}
    (hxl : x.lt M.length = true) (h : clearC T M t x (fun M' => K (.tup []) M')) : SemOK P M (fun ρ => Builtin.clear_ ats ty #[den ρ x]) K := by
  unfold clearC at h
  split at h
  · rename_i e esz eby htk
    obtain ⟨hesz, h⟩ := h
    obtain ⟨d, ti, hd, hi', _, rfl, he, hby⟩ := tk_facts (Tab.facts hT htk (by simp)) (by simp)
    intro G ρ w hs
    show ∃ ρ' v M' w', (Builtin.clear_ ats ty #[den ρ x]).run P w = .ok (den ρ' v) w' ∧ Ext ρ ρ' M.length ∧ M.length ≤ M'.length ∧ Sim G ρ' M' w' ∧ v.lt M'.length = true ∧ K v M'
    have none' : ∀ (b : Option Addr) (len cap : Nat), (len = 0 ∨ b = none) → (Builtin.clear_ ats ty #[Value.slice b len cap]).run P w = .ok (.tuple #[]) w := by
      intro b len cap hl
      have e0 : (#[Value.slice b len cap][0]? : Option Value) = some (Value.slice b len cap) := rfl
      simp only [Builtin.clear_, h0, e0, Sem.run_bind, run_underlying hd, Result.andThen_ok]
      rcases hl with rfl | rfl
      · cases b <;> rfl
      · rfl
    cases x with
    | sn =>
      refine ⟨ρ, .tup [], M, w, ?_, Ext.refl _ _, Nat.le_refl _, hs, rfl, h⟩
      rw [den]; exact none' none 0 0 (.inl rfl)
    | sl n off len cap =>
      by_cases hl0 : len = 0
      · subst hl0
        refine ⟨ρ, .tup [], M, w, by rw [den]; exact none' _ 0 cap (.inl rfl), Ext.refl _ _, Nat.le_refl _, hs, rfl, ?_⟩
        simp only at h
        split at h
        · rename_i cs rty z hB hz
          have : splice cs off (zerosS z 0) = cs := by simp [splice, zerosS]
          have e2 : M.set n (.row cs rty) = M := by
            apply List.ext_getElem?
            intro j
            by_cases hj : n = j
            · subst hj; rw [List.getElem?_set_self (List.getElem?_eq_some_iff.1 hB).1, hB]
            · rw [List.getElem?_set_ne hj]
          rw [this, e2] at h
          exact h.2
        · exact h.2
      · simp only at h
        split at h
        · rename_i cs rty z hB hz
          obtain ⟨hle, hK⟩ := h
          obtain ⟨i, v, hi, hzero, _, hden, hzlt, hone, hzl⟩ := zero_facts hT hz
          obtain ⟨ei, hei, hes⟩ := info_of he
          have hie : i = ei := Option.some.inj (hi.symm.trans hei)
          subst hie
          have hzz : (zerosS z len).length = len * esz := by
            have : z.length = esz := by rw [← hzl]; exact hes
            simp [zerosS, List.length_flatten, this]
          have hpos : 0 < len * esz := Nat.mul_pos (by omega) hesz
          have hcn : cs ≠ [] := by rintro rfl; simp at hle; omega
          obtain ⟨g, w', hg, hr, hs'⟩ := run_storeAll (P := P) hs hB hcn (zerosS_one hone len) (zerosS_lt (hzlt _) len) (show off + (zerosS z len).length ≤ cs.length by omega)
          refine ⟨ρ, .tup [], _, w', ?_, Ext.refl _ _, by simp, hs', rfl, hK⟩
          have hds : den ρ (.sl n off len cap) = .slice (some ⟨g, off, none⟩) len cap := by simp [den, adr, hg]
          rw [hds]
          have e0 : (#[Value.slice (some ⟨g, off, none⟩) len cap][0]? : Option Value) = some (Value.slice (some ⟨g, off, none⟩) len cap) := rfl
          have hzc : (Builtin.zeroCells v.cells len).toList = denL ρ (zerosS z len) := by
            simp [zerosS_den ρ (hden ρ), Builtin.zeroCells]
          cases len with
          | zero => omega
          | succ len =>
            simp only [Builtin.clear_, h0, e0, Sem.run_bind, run_underlying hd, Result.andThen_ok, zeroValue, typeInfo, run_program, hi, hzero, Sem.run_pure, hzc, hr]
            rfl
        · exact absurd h.1 hl0
    | _ => exact h.elim
  · cases h
theorem copyC_ok (hT : TabOK P T) {td : TypeId} {d x : SV} {ats : Array TypeId} {ty : TypeId} (h0 : ats[0]? = some td) {K : SV → List Blk → Prop}
    (hdl : d.lt M.length = true) (hxl : x.lt M.length = true) (h : copyC T M td d x K) : SemOK P M (fun ρ => Builtin.copy_ ats ty #[den ρ d, den ρ x]) K := by
  unfold copyC at h
  split at h
  · rename_i e esz eby htk
    obtain ⟨dd, ti, hd, hi', _, rfl, he, hby⟩ := tk_facts (Tab.facts hT htk (by simp)) (by simp)
    obtain ⟨hesz, h⟩ := h
    obtain ⟨ys, m, h, hysl, hf⟩ := srcC_ok (P := P) h
    intro G ρ w hs
    obtain ⟨hyo, hyl, hlen, hfirst⟩ := hf G ρ w hs hxl
    have hsz : ∀ w', (sizeOf e).run P w' = .ok esz w' := fun w' => run_sizeOf he w'
    show ∃ ρ' v M' w', (Builtin.copy_ ats ty #[den ρ d, den ρ x]).run P w = .ok (den ρ' v) w' ∧ Ext ρ ρ' M.length ∧ M.length ≤ M'.length ∧ Sim G ρ' M' w' ∧ v.lt M'.length = true ∧ K v M'
    cases d with
    | sl n off len cap =>
      simp only at h
      have hmin : Nat.min m len ≤ m := Nat.min_le_left _ _
      have hmin2 : Nat.min m len ≤ len := Nat.min_le_right _ _
      have hfm := hfirst (Nat.min m len) hmin
      have h : (∃ cs rty, M[n]? = some (.row cs rty) ∧ cs ≠ [] ∧ off + len * esz ≤ cs.length ∧ K (.i .i64 (Nat.min m len : Nat)) (M.set n (.row (splice cs off (ys.take (Nat.min m len * esz))) rty))) ∨ (len = 0 ∧ K (.i .i64 0) M) := by
        split at h
        · rename_i cs rty hB
          by_cases hcn : cs = []
          · subst hcn
            obtain ⟨hle, hK⟩ := h
            have hl0 : len = 0 := by
              rcases Nat.eq_zero_or_pos len with h | h
              · exact h
              · have := Nat.mul_le_mul (show 1 ≤ len by omega) (show 1 ≤ esz by omega)
                simp at hle; omega
            subst hl0
            refine .inr ⟨rfl, ?_⟩
            have e2 : M.set n (.row (splice [] off (ys.take (Nat.min m 0 * esz))) rty) = M := by
              have e1 : Nat.min m 0 = 0 := Nat.min_zero m
              have : splice [] off (ys.take (Nat.min m 0 * esz)) = [] := by rw [e1]; simp [splice]
              rw [this]
              apply List.ext_getElem?
              intro j
              by_cases hj : n = j
              · subst hj; rw [List.getElem?_set_self (List.getElem?_eq_some_iff.1 hB).1, hB]
              · rw [List.getElem?_set_ne hj]
            rw [e2, show Nat.min m 0 = 0 from Nat.min_zero m] at hK
            exact hK
          · exact .inl ⟨cs, rty, hB, hcn, h⟩
        · exact .inr h
      rcases h with ⟨cs, rty, hB, hcn, hle, hK⟩ | h
      · have hm1 : Nat.min m len * esz ≤ len * esz := Nat.mul_le_mul_right _ hmin2
        have hy1 : (ys.take (Nat.min m len * esz)).all SV.one = true := by
          rw [List.all_eq_true] at *
          exact fun y hy => hyo y (List.mem_of_mem_take hy)
        obtain ⟨g, w', hg, hr, hs'⟩ := run_storeAll (P := P) hs hB hcn hy1 (ltL_sub hyl (fun y hy => List.mem_of_mem_take hy)) (show off + (ys.take (Nat.min m len * esz)).length ≤ cs.length by
          rw [List.length_take]; omega)
        refine ⟨ρ, .i .i64 (Nat.min m len : Nat), _, w', ?_, Ext.refl _ _, by simp, hs', rfl, hK⟩
        have hds : den ρ (.sl n off len cap) = .slice (some ⟨g, off, none⟩) len cap := by simp [den, adr, hg]
        rw [hds, den_i]
        have e0 : (#[Value.slice (some ⟨g, off, none⟩) len cap, den ρ x][0]? : Option Value) = some (Value.slice (some ⟨g, off, none⟩) len cap) := rfl
        have e1 : (#[Value.slice (some ⟨g, off, none⟩) len cap, den ρ x][1]? : Option Value) = some (den ρ x) := rfl
        simp only [Builtin.copy_, h0, e0, e1, Sem.run_bind, run_underlying hd, Result.andThen_ok, hsz, hlen, hfm, hr, Sem.run_pure, goInt]
      · obtain ⟨rfl, hK⟩ := h
        refine ⟨ρ, .i .i64 0, M, w, ?_, Ext.refl _ _, Nat.le_refl _, hs, rfl, hK⟩
        have hm0 : Nat.min m 0 = 0 := Nat.min_zero m
        rw [hm0] at hfm
        have hst : ∀ a, (storeCells a (denL ρ (ys.take (0 * esz))).toArray.toList).run P w = .ok () w := fun a => by simp [denL, storeCells]
        rw [den_i]
        cases hρ : ρ n with
        | none =>
          have hds : den ρ (.sl n off 0 cap) = .slice none 0 cap := by simp [den, adr, hρ]
          rw [hds]
          have e0 : (#[Value.slice none 0 cap, den ρ x][0]? : Option Value) = some (Value.slice none 0 cap) := rfl
          have e1 : (#[Value.slice none 0 cap, den ρ x][1]? : Option Value) = some (den ρ x) := rfl
          simp only [Builtin.copy_, h0, e0, e1, Sem.run_bind, run_underlying hd, Result.andThen_ok, hsz, hlen, hm0, hfm, Sem.run_pure, goInt]
          rfl
        | some a =>
          have hds : den ρ (.sl n off 0 cap) = .slice (some ⟨a.1, a.2 + off, none⟩) 0 cap := by simp [den, adr, hρ]
          rw [hds]
          have e0 : (#[Value.slice (some ⟨a.1, a.2 + off, none⟩) 0 cap, den ρ x][0]? : Option Value) = some (Value.slice (some ⟨a.1, a.2 + off, none⟩) 0 cap) := rfl
          have e1 : (#[Value.slice (some ⟨a.1, a.2 + off, none⟩) 0 cap, den ρ x][1]? : Option Value) = some (den ρ x) := rfl
          simp only [Builtin.copy_, h0, e0, e1, Sem.run_bind, run_underlying hd, Result.andThen_ok, hsz, hlen, hm0, hfm, hst, Sem.run_pure, goInt]
          rfl
    | sn =>
      refine ⟨ρ, .i .i64 0, M, w, ?_, Ext.refl _ _, Nat.le_refl _, hs, rfl, h⟩
      have hm0 : Nat.min m 0 = 0 := Nat.min_zero m
      have hfm := hfirst 0 (by omega)
      have hds : den ρ .sn = .slice none 0 0 := by rw [den]
      rw [hds, den_i]
      have e0 : (#[Value.slice none 0 0, den ρ x][0]? : Option Value) = some (Value.slice none 0 0) := rfl
      have e1 : (#[Value.slice none 0 0, den ρ x][1]? : Option Value) = some (den ρ x) := rfl
      simp only [Builtin.copy_, h0, e0, e1, Sem.run_bind, run_underlying hd, Result.andThen_ok, hsz, hlen, hm0, hfm, Sem.run_pure, goInt]
      rfl
    | _ => exact h.elim
  · cases h
theorem minC_ok {l : List SV} {ats : Array TypeId} {ty : TypeId} {K : SV → List Blk → Prop} (h : minC l (fun v => K v M)) : SemOK P M (fun ρ => Builtin.min_ ats ty (denL ρ l).toArray) K := by
  have hm : ∀ a b : Int, (if b < a then b else a) = min a b := fun a b => by rw [Int.min_def]; split <;> split <;> omega
  unfold minC at h
  split at h
  · exact SemOK.pure _ rfl h (fun G ρ w _ => by simp [Builtin.min_, denL, den, Builtin.min2, hm])
  · exact SemOK.pure _ rfl h (fun G ρ w _ => by simp [Builtin.min_, denL, den, Builtin.min2, hm])
  · rename_i a b
    refine SemOK.pure _ rfl h (fun G ρ w _ => ?_)
    simp only [Builtin.min_, denL, den_u64, List.foldlM_cons, List.foldlM_nil, Builtin.min2, Sem.run_bind, Sem.run_pure, Result.andThen_ok]
    have : ((b.toNat : Int) < a.toNat) ↔ b.toNat < a.toNat := by omega
    simp only [this]
    split <;> rfl
  · cases h
theorem maxC_ok {l : List SV} {ats : Array TypeId} {ty : TypeId} {K : SV → List Blk → Prop} (h : maxC l (fun v => K v M)) : SemOK P M (fun ρ => Builtin.max_ ats ty (denL ρ l).toArray) K := by
  have hm : ∀ a b : Int, (if a < b then b else a) = max a b := fun a b => by rw [Int.max_def]; split <;> split <;> omega
  unfold maxC at h
  split at h
  · exact SemOK.pure _ rfl h (fun G ρ w _ => by simp [Builtin.max_, denL, den, Builtin.max2, hm])
  · exact SemOK.pure _ rfl h (fun G ρ w _ => by simp [Builtin.max_, denL, den, Builtin.max2, hm])
  · rename_i a b
    refine SemOK.pure _ rfl h (fun G ρ w _ => ?_)
    simp only [Builtin.max_, denL, den_u64, List.foldlM_cons, List.foldlM_nil, Builtin.max2, Sem.run_bind, Sem.run_pure, Result.andThen_ok]
    have : ((b.toNat : Int) > a.toNat) ↔ a.toNat < b.toNat := by omega
    simp only [this]
    split <;> rfl
  · cases h
theorem TS.evs {ρ : Ren} {m : Nat} {ts : List SV} {a : Act} (h : TS ρ m ts a) (l : List Operand) : l.map a.eval = denL ρ (l.map (evS ts)) := by
  rw [denL_eq, List.map_map]
  exact List.map_congr_left (fun x _ => h.ev x)
theorem TS.evs_lt {ρ : Ren} {m : Nat} {ts : List SV} {a : Act} (h : TS ρ m ts a) (l : List Operand) : ltL m (l.map (evS ts)) = true := by
  rw [ltL_eq, List.all_eq_true]
  intro x hx
  obtain ⟨y, _, rfl⟩ := List.mem_map.1 hx
  exact h.ev_lt y
theorem fnC_ok {o : Oper} {f : Operand} {as : Array Operand} {ats : Array TypeId} (ho : o.op = .call { callee := .value f, args := as, argTypes := ats }) {ts : List SV} {K : SV → List Blk → Prop}
    (h : fnC P (evS ts f) (as.toList.map (evS ts)) M K) : OpOK P o ts M K := by
  intro G ρ w a hs ht next Q hn
  have hev := ht.ev f
  have hlt := ht.ev_lt f
  unfold fnC at h
  split at h
  · rename_i g first cap he
    rw [he] at hev hlt
    simp only [den] at hev
    simp only [SV.lt, Bool.and_eq_true] at hlt
    have hargs : (as.map a.eval) = (denL ρ (as.toList.map (evS ts))).toArray := by
      rw [← ht.evs as.toList]; exact Array.ext' (Array.toList_map)
    have hall : (denL ρ first).toArray ++ (as.map a.eval) ++ (denL ρ cap).toArray = (denL ρ (first ++ as.toList.map (evS ts) ++ cap)).toArray := by
      rw [hargs, denL_append, denL_append]; simp
    have hlall : ltL M.length (first ++ as.toList.map (evS ts) ++ cap) = true := by rw [ltL_append, ltL_append, hlt.1, hlt.2, ht.evs_lt]; rfl
    rcases h with ⟨hc, hcall⟩ | ⟨e, hc, hsem⟩
    · unfold Oper.wp execOp
      simp only [ho, resolve, hev, Deferred.ofValue, Sem.run_bind, Sem.run_pure, Result.andThen_ok, invoke, hc, Oper.upon]
      rw [hall]
      refine (hcall G ρ w hs hlall).mono ?_
      rintro e w' ⟨ρ', v, M', h1, h2, h3, h4, rfl, h5⟩
      exact hn ρ' v M' w' h1 h2 h3 h4 h5
    · obtain ⟨ρ', v, M', w', hr, h1, h2, h3, h4, h5⟩ := hsem hlall G ρ w hs
      unfold Oper.wp execOp
      simp only [ho, resolve, hev, Deferred.ofValue, Sem.run_bind, Sem.run_pure, Result.andThen_ok, invoke, hc, hall, hr, Oper.upon]
      exact hn ρ' v M' w' h1 h2 h3 h4 h5
  · cases h
theorem bltC_ok (hT : TabOK P T) {o : Oper} {b : Builtin} {as : Array Operand} {ats : Array TypeId} (ho : o.op = .call { callee := .builtin b, args := as, argTypes := ats }) {ts : List SV}
    {K : SV → List Blk → Prop} (h : bltC T b ats.toList (as.toList.map (evS ts)) M K) : OpOK P o ts M K := by
  have key : ∀ (s : Array Value → Sem Value) (l : List SV), as.toList.map (evS ts) = l → (∀ consts args, builtin b ats o.type consts args = do pure (.value (← s args))) →
      (∀ ltl : ltL M.length l = true, SemOK P M (fun ρ => s (denL ρ l).toArray) K) → OpOK P o ts M K := by
    intro s l hl hb hsem G ρ w a hs ht
    subst hl
    refine OpOK.of_sem (fun ρ => s (denL ρ (as.toList.map (evS ts))).toArray) (fun ρ a ht => ?_) (hsem (ht.evs_lt _)) G ρ w a hs ht
    have hargs : (as.map a.eval) = (denL ρ (as.toList.map (evS ts))).toArray := by
      rw [← ht.evs as.toList]; exact Array.ext' (Array.toList_map)
    unfold execOp
    simp only [ho, resolve, pure_bind, invoke, hb, hargs]
  have at0 : ∀ {t : TypeId} {l : List TypeId}, ats.toList = t :: l → ats[0]? = some t := by
    intro t l h; have := congrArg (·[0]?) h; simpa using this
  have at1 : ∀ {t u : TypeId} {l : List TypeId}, ats.toList = t :: u :: l → ats[1]? = some u := by
    intro t u l h; have := congrArg (·[1]?) h; simpa using this
  generalize hats : ats.toList = al at h
  generalize hl : as.toList.map (evS ts) = l at h
  unfold bltC at h
  split at h
  · exact key (Builtin.len_ ats o.type) _ hl (fun _ _ => rfl) (fun _ => by simpa [denL] using lenC_ok hT (at0 hats) h)
  · refine key (Builtin.clear_ ats o.type) _ hl (fun _ _ => rfl) (fun hlt => ?_)
    simp only [ltL, Bool.and_true] at hlt
    have := clearC_ok (P := P) hT (ty := o.type) (at0 hats) hlt h
    simpa [denL] using this
  · refine key (Builtin.delete_ ats o.type) _ hl (fun _ _ => rfl) (fun _ => ?_)
    have := delC_ok (P := P) hT (ty := o.type) (at0 hats) h
    simpa [denL] using this
  · exact key (Builtin.cap_ ats o.type) _ hl (fun _ _ => rfl) (fun _ => by simpa [denL] using capC_ok hT (at0 hats) h)
  · refine key (Builtin.append_ ats o.type) _ hl (fun _ _ => rfl) (fun hlt => ?_)
    simp only [ltL, Bool.and_true, Bool.and_eq_true] at hlt
    simpa [denL] using appendC_ok hT (ty := o.type) (at0 hats) (at1 hats) hlt.1 hlt.2 h
  · refine key (Builtin.copy_ ats o.type) _ hl (fun _ _ => rfl) (fun hlt => ?_)
    simp only [ltL, Bool.and_true, Bool.and_eq_true] at hlt
    simpa [denL] using copyC_ok hT (ty := o.type) (at0 hats) hlt.1 hlt.2 h
  · exact key (Builtin.min_ ats o.type) _ hl (fun _ _ => rfl) (fun _ => minC_ok h)
  · exact key (Builtin.max_ ats o.type) _ hl (fun _ _ => rfl) (fun _ => maxC_ok h)
  · cases h
def pmap (ρv : Operand → Value) (parts : Array (Nat × Operand)) : Array (Nat × Value) := parts.map fun x => (x.1, ρv x.2)
theorem exec_bs {o : Oper} {t : TypeId} {len : Nat} {parts : Array (Nat × Operand)} (hop : o.op = .buildSlice t len parts) (ρv : Operand → Value) :
    execOp ρv o = (do let x ← Instr.buildSlice t len (pmap ρv parts); pure (.value x)) := by
  unfold execOp
  rw [hop]
  rfl
theorem pmap_ev {ρ : Ren} {m : Nat} {ts : List SV} {a : Act} (ht : TS ρ m ts a) (parts : Array (Nat × Operand)) :
    pmap a.eval parts = ((parts.toList.map fun x => (x.1, evS ts x.2)).map fun x => (x.1, den ρ x.2)).toArray := by
  apply Array.ext'
  simp only [pmap, Array.toList_map, List.map_map]
  exact List.map_congr_left (fun x _ => by simp only [Function.comp]; rw [ht.ev])
theorem opC_ok (hT : TabOK P T) (o : Oper) {ts : List SV} {K : SV → List Blk → Prop} (hside : opSide P o.op = true) (h : opC P T o.op ts M K) : OpOK P o ts M K := by
  have sem : ∀ (s : (Operand → Value) → Sem Value) (s' : Ren → Sem Value), (∀ ρv, execOp ρv o = do pure (.value (← s ρv))) → (∀ ρ a, TS ρ M.length ts a → s a.eval = s' ρ) →
      ((∀ x : Operand, (evS ts x).lt M.length = true) → SemOK P M s' K) → OpOK P o ts M K := by
    intro s s' he hs hsem G ρ w a hsim ht
    exact OpOK.of_sem s' (fun ρ a ht => by rw [he, hs ρ a ht]) (hsem (fun x => ht.ev_lt x)) G ρ w a hsim ht
  have lts : (∀ x : Operand, (evS ts x).lt M.length = true) → ∀ l : List Operand, ltL M.length (l.map (evS ts)) = true := by
    intro hl l
    rw [ltL_eq, List.all_eq_true]
    intro x hx
    obtain ⟨y, _, rfl⟩ := List.mem_map.1 hx
    exact hl y
  cases hop : o.op <;> rw [hop] at h hside <;> simp only [opC] at h
  case move x | assign x =>
    refine sem (fun ρv => pure (ρv x)) (fun ρ => pure (den ρ (evS ts x))) (fun ρv => by unfold execOp; simp [hop]) (fun ρ a ht => by rw [ht.ev]) (fun hl => ?_)
    exact SemOK.pure _ (hl x) h (fun G ρ w _ => rfl)
  case pick c x y =>
    exact sem (fun ρv => do pure (if ← asBool (ρv c) then ρv x else ρv y)) (fun ρ => do pure (if ← asBool (den ρ (evS ts c)) then den ρ (evS ts x) else den ρ (evS ts y)))
      (fun ρv => by unfold execOp; simp only [hop, bind_assoc, pure_bind]) (fun ρ a ht => by rw [ht.ev, ht.ev, ht.ev]) (fun hl => pickC_ok (hl x) (hl y) h)
  case alloc t =>
    exact sem (fun _ => Instr.alloc t true (.tuple #[])) _ (fun ρv => by unfold execOp; simp only [hop]) (fun ρ a ht => rfl) (fun _ => allocC_ok hT h)
  case box t x =>
    exact sem (fun ρv => Instr.box t (ρv x)) (fun ρ => Instr.box t (den ρ (evS ts x))) (fun ρv => by unfold execOp; simp only [hop]) (fun ρ a ht => by rw [ht.ev]) (fun hl => boxC_ok (hl x) h)
  case build t parts =>
    refine sem (fun ρv => Instr.build t (parts.map fun x => (x.1, ρv x.2))) (fun ρ => Instr.build t ((parts.toList.map fun x => (x.1, evS ts x.2)).map fun x => (x.1, den ρ x.2)).toArray)
      (fun ρv => by unfold execOp; simp only [hop]) (fun ρ a ht => ?_) (fun hl => buildC_ok hT ?_ ?_ h)
    · congr 1
      apply Array.ext'
      simp only [Array.toList_map, List.map_map]
      exact List.map_congr_left (fun x _ => by simp only [Function.comp]; rw [ht.ev])
    · intro x hx
      obtain ⟨y, _, rfl⟩ := List.mem_map.1 hx
      exact hl y.2
    · intro fs hfs
      simpa [opSide, hfs] using hside
  case buildSlice t len parts =>
    have hps : ∀ hl : (∀ x : Operand, (evS ts x).lt M.length = true), ∀ x, x ∈ (parts.toList.map fun x => (x.1, evS ts x.2)) → x.2.lt M.length = true := by
      intro hl x hx
      obtain ⟨y, _, rfl⟩ := List.mem_map.1 hx
      exact hl y.2
    have hev : ∀ (ρ : Ren) (a : Act), TS ρ M.length ts a → pmap a.eval parts = ((parts.toList.map fun x => (x.1, evS ts x.2)).map fun x => (x.1, den ρ x.2)).toArray := fun ρ a ht => pmap_ev ht parts
    revert h hps hev
    generalize (parts.toList.map fun x => (x.1, evS ts x.2)) = ps
    intro h hps hev
    exact sem (fun ρv => Instr.buildSlice t len (pmap ρv parts)) (fun ρ => Instr.buildSlice t len (ps.map fun x => (x.1, den ρ x.2)).toArray)
      (fun ρv => exec_bs hop ρv) (fun ρ a ht => congrArg (Instr.buildSlice t len) (hev ρ a ht)) (fun hl => by have h9 := @bsC_ok P T M hT t len ps K (hps hl) h; exact h9)
  case sliceToArrayPointer t x =>
    exact sem (fun ρv => Instr.arrayAt t (ρv x)) (fun ρ => Instr.arrayAt t (den ρ (evS ts x))) (fun ρv => by unfold execOp; simp only [hop]) (fun ρ a ht => by rw [ht.ev]) (fun hl => apC_ok hT (hl x) h)
  case load t x =>
    exact sem (fun ρv => Instr.loadAt t (ρv x)) (fun ρ => Instr.loadAt t (den ρ (evS ts x))) (fun ρv => by unfold execOp; simp only [hop]) (fun ρ a ht => by rw [ht.ev]) (fun _ => loadC_ok hT h)
  case store t x y =>
    intro G ρ w a hsim ht
    exact OpOK.of_semu (fun ρ => Instr.storeAt t (den ρ (evS ts x)) (den ρ (evS ts y))) (fun ρ a ht => by unfold execOp; simp only [hop]; rw [ht.ev, ht.ev]) (storeC_ok hT (ht.ev_lt y) h) G ρ w a hsim ht
  case nilCheck x => exact nilC_ok hop rfl h
  case binOp op t x y u =>
    exact sem (fun ρv => do eqGuard op t x y (ρv x) (ρv y); binOp op t (ρv x) (ρv y)) (fun ρ => do eqGuard op t x y (den ρ (evS ts x)) (den ρ (evS ts y)); binOp op t (den ρ (evS ts x)) (den ρ (evS ts y)))
      (fun ρv => by unfold execOp; simp only [hop]) (fun ρ a ht => by rw [ht.ev, ht.ev]) (fun _ => binC_ok hT op t x y h)
  case unOp op t x =>
    exact sem (fun ρv => Op.unary op (ρv x)) (fun ρ => Op.unary op (den ρ (evS ts x))) (fun ρv => by unfold execOp; simp only [hop]) (fun ρ a ht => by rw [ht.ev]) (fun _ => unC_ok h)
  case convert s d x =>
    exact sem (fun ρv => convert s d (ρv x)) (fun ρ => convert s d (den ρ (evS ts x))) (fun ρv => by unfold execOp; simp only [hop]) (fun ρ a ht => by rw [ht.ev]) (fun hl => convG_ok hT s hside (hl x) h)
  case slice t x lo hi mx =>
    refine sem (fun ρv => Instr.sliceAt t (ρv x) (lo.map ρv) (hi.map ρv) (mx.map ρv)) (fun ρ => Instr.sliceAt t (den ρ (evS ts x)) ((lo.map (evS ts)).map (den ρ)) ((hi.map (evS ts)).map (den ρ)) ((mx.map (evS ts)).map (den ρ)))
      (fun ρv => by unfold execOp; simp only [hop]) (fun ρ a ht => ?_) (fun hl => sliceC_ok hT (hl x) h)
    have e : ∀ o : Option Operand, (o.map (evS ts)).map (den ρ) = o.map a.eval := by
      intro o; cases o with
      | none => rfl
      | some x => simp only [Option.map_some]; rw [ht.ev]
    rw [e, e, e, ht.ev]
  case fieldAddr t x f =>
    exact sem (fun ρv => Instr.fieldAt t (ρv x) f) (fun ρ => Instr.fieldAt t (den ρ (evS ts x)) f) (fun ρv => by unfold execOp; simp only [hop]) (fun ρ a ht => by rw [ht.ev]) (fun hl => faC_ok hT (hl x) h)
  case field t x f =>
    exact sem (fun ρv => Instr.field t (ρv x) f) (fun ρ => Instr.field t (den ρ (evS ts x)) f) (fun ρv => by unfold execOp; simp only [hop]) (fun ρ a ht => by rw [ht.ev]) (fun hl => fC_ok hT (hl x) h)
  case indexAddr t x i =>
    exact sem (fun ρv => Instr.indexAt t (ρv x) (ρv i)) (fun ρ => Instr.indexAt t (den ρ (evS ts x)) (den ρ (evS ts i))) (fun ρv => by unfold execOp; simp only [hop]) (fun ρ a ht => by rw [ht.ev, ht.ev]) (fun hl => ixaC_ok hT (hl x) h)
  case index t x i =>
    exact sem (fun ρv => Instr.index t (ρv x) (ρv i)) (fun ρ => Instr.index t (den ρ (evS ts x)) (den ρ (evS ts i))) (fun ρv => by unfold execOp; simp only [hop]) (fun ρ a ht => by rw [ht.ev, ht.ev]) (fun hl => ixC_ok hT (hl x) h)
  case extract x i =>
    exact sem (fun ρv => Instr.extract (ρv x) i) (fun ρ => Instr.extract (den ρ (evS ts x)) i) (fun ρv => by unfold execOp; simp only [hop]) (fun ρ a ht => by rw [ht.ev]) (fun hl => extC_ok (hl x) h)
  case makeSlice t l c =>
    exact sem (fun ρv => Instr.makeSlice t (ρv l) (ρv c)) (fun ρ => Instr.makeSlice t (den ρ (evS ts l)) (den ρ (evS ts c))) (fun ρv => by unfold execOp; simp only [hop]) (fun ρ a ht => by rw [ht.ev, ht.ev]) (fun _ => makeC_ok hT h)
  case makeMap t r =>
    cases r with
    | none => exact sem (fun _ => Instr.makeMap t none) _ (fun ρv => by unfold execOp; simp only [hop, Option.map_none]) (fun ρ a ht => rfl) (fun _ => makeMap_ok h)
    | some r => exact h.elim
  case lookup t x k ok =>
    exact sem (fun ρv => Instr.lookup t (ρv x) (ρv k) ok) (fun ρ => Instr.lookup t (den ρ (evS ts x)) (den ρ (evS ts k)) ok) (fun ρv => by unfold execOp; simp only [hop]) (fun ρ a ht => by rw [ht.ev, ht.ev]) (fun _ => lookC_ok hT h)
  case mapUpdate t x k v =>
    intro G ρ w a hsim ht
    exact OpOK.of_semu (fun ρ => Instr.mapUpdate t (den ρ (evS ts x)) (den ρ (evS ts k)) (den ρ (evS ts v))) (fun ρ a ht => by unfold execOp; simp only [hop]; rw [ht.ev, ht.ev, ht.ev]) (updC_ok hT (ht.ev_lt v) h) G ρ w a hsim ht
  case range t x =>
    exact sem (fun ρv => Instr.range t (ρv x)) (fun ρ => Instr.range t (den ρ (evS ts x))) (fun ρv => by unfold execOp; simp only [hop]) (fun ρ a ht => by rw [ht.ev]) (fun hl => rangeC_ok hT (hl x) h)
  case next x s =>
    cases s with
    | false => exact sem (fun ρv => Instr.next (ρv x) false o.type) (fun ρ => Instr.next (den ρ (evS ts x)) false o.type) (fun ρv => by unfold execOp; simp only [hop]) (fun ρ a ht => by rw [ht.ev]) (fun _ => nextC_ok h)
    | true => exact h.elim
  case entry x =>
    exact sem (fun ρv => Instr.entry (ρv x)) (fun ρ => Instr.entry (den ρ (evS ts x))) (fun ρv => by unfold execOp; simp only [hop]) (fun ρ a ht => by rw [ht.ev]) (fun _ => entryC_ok h)
  case makeFunc f x c =>
    refine sem (fun ρv => Instr.makeFunc f (x.map ρv) (c.map ρv)) (fun ρ => pure (den ρ (.fn f (x.toList.map (evS ts)) (c.toList.map (evS ts))))) (fun ρv => by unfold execOp; simp only [hop]) (fun ρ a ht => ?_) (fun hl => ?_)
    · have e : ∀ l : Array Operand, (l.map a.eval) = (denL ρ (l.toList.map (evS ts))).toArray := fun l => by rw [← ht.evs l.toList]; exact Array.ext' (Array.toList_map)
      simp only [Instr.makeFunc, den, e]
    · exact SemOK.pure _ (by simp only [SV.lt, lts hl, Bool.and_self]) h (fun G ρ w _ => rfl)
  case call c =>
    obtain ⟨callee, as, ats⟩ := c
    cases callee with
    | value f => exact fnC_ok hop h
    | builtin b => exact bltC_ok hT hop h
    | invoke r m => exact h.elim
end
end Go.Proofs.YtdkdbeamimkljaaGreatDoor.Eng
