/- Joined texts: C2, C3, C4. -/
import Derived.Test.YtdcplcfedcmcmaaMa
import Derived.Lib.Bytealg
import Derived.Lib.BytesEntry
/- Lists of bytes and lists of elements of k cells, in memory. -/
namespace Go.Proofs.Ytdcplcfedcmcmaa.Eng
open Go Go.RowKit
set_option linter.unusedSimpArgs false
set_option linter.unusedVariables false

theorem beqT {a b : Int} (h : (a == b) = true) : a = b := by simpa using h
theorem beqF {a b : Int} (h : (a == b) = false) : a ≠ b := by simpa using h
theorem bneT {a b : Int} (h : (a != b) = true) : a ≠ b := by simpa using h
theorem bneF {a b : Int} (h : (a != b) = false) : a = b := by simpa using h
theorem take_snoc {l : List (BitVec 8)} {k : Nat} (h : k < l.length) : l.take (k + 1) = l.take k ++ [l.getD k 0#8] := by
  rw [List.take_succ_eq_append_getElem h, List.getD_eq_getElem?_getD, List.getElem?_eq_getElem h]; rfl
theorem same_take {a b : List (BitVec 8)} (h : a.length = b.length) (ha : a.take a.length = b.take a.length) : a = b := by
  rw [List.take_length, h, List.take_length] at ha; exact ha
theorem isI_of {k : IntKind} {cs : List SV} {j : Nat} {x : Int} (h : cs[j]? = some (.i k x)) : isI k cs j = true ∧ cellI cs j = x := by
  simp [isI, cellI, h]
theorem is64_of {cs : List SV} {j : Nat} {x : BitVec 64} (h : cs[j]? = some (.u64 x)) : is64 cs j = true ∧ cell64 cs j = x := by
  simp [is64, cell64, h]
theorem getD_of {cs : List SV} {j : Nat} {x : SV} (h : cs[j]? = some x) : cs.getD j uS = x := by
  rw [List.getD_eq_getElem?_getD, h]; rfl

theorem get_last {L : List Blk} {B : Blk} {n : Nat} (h : n = L.length) : (L ++ [B])[n]? = some B := by subst h; simp
theorem Ag.atk {S : Nat → Prop} {M L M' : List Blk} (hA : Ag S (M ++ L) M') (hS : ∀ n, M.length ≤ n → ¬ S n) {k : Nat} {B : Blk} (h : L[k]? = some B) : M'[M.length + k]? = some B := by
  have hk := (List.getElem?_eq_some_iff.1 h).1
  rw [hA.2 _ (by rw [List.length_append]; omega) (hS _ (by omega)), get_app, h]
theorem Ag.at0 {S : Nat → Prop} {M L M' : List Blk} (hA : Ag S (M ++ L) M') (hS : ∀ n, M.length ≤ n → ¬ S n) {B : Blk} (h : L[0]? = some B) : M'[M.length]? = some B := hA.atk (k := 0) hS h
@[go_sem] theorem gso1 {M : List Blk} {n : Nat} {B : Blk} : (M.set n B)[n + 1]? = M[n + 1]? := List.getElem?_set_ne (by omega)
@[go_sem] theorem gsp1 {M : List Blk} {n : Nat} {B : Blk} : (M.set (n + 1) B)[n]? = M[n]? := List.getElem?_set_ne (by omega)
@[go_sem] theorem gso2 {M : List Blk} {n : Nat} {B : Blk} : (M.set n B)[n + 2]? = M[n + 2]? := List.getElem?_set_ne (by omega)
@[go_sem] theorem gsp2 {M : List Blk} {n : Nat} {B : Blk} : (M.set (n + 2) B)[n]? = M[n]? := List.getElem?_set_ne (by omega)
@[go_sem] theorem gso3 {M : List Blk} {n : Nat} {B : Blk} : (M.set n B)[n + 3]? = M[n + 3]? := List.getElem?_set_ne (by omega)
@[go_sem] theorem gsp3 {M : List Blk} {n : Nat} {B : Blk} : (M.set (n + 3) B)[n]? = M[n]? := List.getElem?_set_ne (by omega)
@[go_sem] theorem gso4 {M : List Blk} {n : Nat} {B : Blk} : (M.set n B)[n + 4]? = M[n + 4]? := List.getElem?_set_ne (by omega)
@[go_sem] theorem gsp4 {M : List Blk} {n : Nat} {B : Blk} : (M.set (n + 4) B)[n]? = M[n]? := List.getElem?_set_ne (by omega)
@[go_sem] theorem gso5 {M : List Blk} {n : Nat} {B : Blk} : (M.set n B)[n + 5]? = M[n + 5]? := List.getElem?_set_ne (by omega)
@[go_sem] theorem gsp5 {M : List Blk} {n : Nat} {B : Blk} : (M.set (n + 5) B)[n]? = M[n]? := List.getElem?_set_ne (by omega)
@[go_sem] theorem gsq12 {M : List Blk} {n : Nat} {B : Blk} : (M.set (n + 1) B)[n + 2]? = M[n + 2]? := List.getElem?_set_ne (by omega)
@[go_sem] theorem gsq13 {M : List Blk} {n : Nat} {B : Blk} : (M.set (n + 1) B)[n + 3]? = M[n + 3]? := List.getElem?_set_ne (by omega)
@[go_sem] theorem gsq14 {M : List Blk} {n : Nat} {B : Blk} : (M.set (n + 1) B)[n + 4]? = M[n + 4]? := List.getElem?_set_ne (by omega)
@[go_sem] theorem gsq15 {M : List Blk} {n : Nat} {B : Blk} : (M.set (n + 1) B)[n + 5]? = M[n + 5]? := List.getElem?_set_ne (by omega)
@[go_sem] theorem gsq21 {M : List Blk} {n : Nat} {B : Blk} : (M.set (n + 2) B)[n + 1]? = M[n + 1]? := List.getElem?_set_ne (by omega)
@[go_sem] theorem gsq23 {M : List Blk} {n : Nat} {B : Blk} : (M.set (n + 2) B)[n + 3]? = M[n + 3]? := List.getElem?_set_ne (by omega)
@[go_sem] theorem gsq24 {M : List Blk} {n : Nat} {B : Blk} : (M.set (n + 2) B)[n + 4]? = M[n + 4]? := List.getElem?_set_ne (by omega)
@[go_sem] theorem gsq25 {M : List Blk} {n : Nat} {B : Blk} : (M.set (n + 2) B)[n + 5]? = M[n + 5]? := List.getElem?_set_ne (by omega)
@[go_sem] theorem gsq31 {M : List Blk} {n : Nat} {B : Blk} : (M.set (n + 3) B)[n + 1]? = M[n + 1]? := List.getElem?_set_ne (by omega)
@[go_sem] theorem gsq32 {M : List Blk} {n : Nat} {B : Blk} : (M.set (n + 3) B)[n + 2]? = M[n + 2]? := List.getElem?_set_ne (by omega)
@[go_sem] theorem gsq34 {M : List Blk} {n : Nat} {B : Blk} : (M.set (n + 3) B)[n + 4]? = M[n + 4]? := List.getElem?_set_ne (by omega)
@[go_sem] theorem gsq35 {M : List Blk} {n : Nat} {B : Blk} : (M.set (n + 3) B)[n + 5]? = M[n + 5]? := List.getElem?_set_ne (by omega)
@[go_sem] theorem gsq41 {M : List Blk} {n : Nat} {B : Blk} : (M.set (n + 4) B)[n + 1]? = M[n + 1]? := List.getElem?_set_ne (by omega)
@[go_sem] theorem gsq42 {M : List Blk} {n : Nat} {B : Blk} : (M.set (n + 4) B)[n + 2]? = M[n + 2]? := List.getElem?_set_ne (by omega)
@[go_sem] theorem gsq43 {M : List Blk} {n : Nat} {B : Blk} : (M.set (n + 4) B)[n + 3]? = M[n + 3]? := List.getElem?_set_ne (by omega)
@[go_sem] theorem gsq45 {M : List Blk} {n : Nat} {B : Blk} : (M.set (n + 4) B)[n + 5]? = M[n + 5]? := List.getElem?_set_ne (by omega)
@[go_sem] theorem gsq51 {M : List Blk} {n : Nat} {B : Blk} : (M.set (n + 5) B)[n + 1]? = M[n + 1]? := List.getElem?_set_ne (by omega)
@[go_sem] theorem gsq52 {M : List Blk} {n : Nat} {B : Blk} : (M.set (n + 5) B)[n + 2]? = M[n + 2]? := List.getElem?_set_ne (by omega)
@[go_sem] theorem gsq53 {M : List Blk} {n : Nat} {B : Blk} : (M.set (n + 5) B)[n + 3]? = M[n + 3]? := List.getElem?_set_ne (by omega)
@[go_sem] theorem gsq54 {M : List Blk} {n : Nat} {B : Blk} : (M.set (n + 5) B)[n + 4]? = M[n + 4]? := List.getElem?_set_ne (by omega)
theorem gss0 {M : List Blk} {n : Nat} {B : Blk} (h : n < M.length) : (M.set n B)[n]? = some B := List.getElem?_set_self h
theorem gss {M : List Blk} {n a : Nat} {B C : Blk} (h : n < M.length) : ((M.set a B).set n C)[n]? = some C := List.getElem?_set_self (by simpa using h)
theorem noS {P : Nat → Prop} : ∀ n, P n → ¬ (fun _ : Nat => False) n := fun _ _ e => e
theorem one_i64 {k : IntKind} {x : Int} : (SV.i k x).one = true := rfl
def dnS : SV → Option Nat
  | .sl d _ _ _ => some d
  | _ => none
def NmG (G : Nat → Prop) (x : SV) : Prop := ∀ d, dnS x = some d → G d
theorem NmG.mono {G G' : Nat → Prop} {x : SV} (h : NmG G x) (hG : ∀ n, G n → G' n) : NmG G' x := fun d e => hG d (h d e)
theorem NmG.sn {G : Nat → Prop} : NmG G .sn := fun _ e => by cases e

/-- its address is not nil, or it is an empty row's -/
def There (M : List Blk) (d dc len : Nat) : Prop := liveN M d = true ∨ (dc = 0 ∧ len = 0 ∧ ∃ ty, M[d]? = some (.row [] ty))
theorem There.ag {S : Nat → Prop} {M M' : List Blk} {d dc len : Nat} (h : There M d dc len) (hA : Ag S M M') (hd : d < M.length) (hn : ¬ S d) : There M' d dc len := by
  have e := hA.2 d hd hn
  rcases h with h | ⟨h1, h2, ty, h3⟩
  · exact .inl (by unfold liveN at *; rw [e]; exact h)
  · exact .inr ⟨h1, h2, ty, by rw [e]; exact h3⟩

/-- bytes that are handed in to be copied or looked at -/
def Byt (M : List Blk) (x : SV) (l : List (BitVec 8)) : Prop :=
  l.length ≤ 140737488355000 ∧ ((x = .sn ∧ l = []) ∨ (∃ a, x = .raw (.slice (some a) 0 0) ∧ l = []) ∨ ∃ n cap, x = .sl n 0 l.length cap ∧ BAt M n 0 l ∧ There M n cap l.length)
theorem Byt.one {M : List Blk} {x : SV} {l : List (BitVec 8)} (h : Byt M x l) : x.one = true := by
  obtain ⟨_, ⟨rfl, _⟩ | ⟨a, rfl, _⟩ | ⟨n, cap, rfl, _⟩⟩ := h <;> rfl
theorem Byt.lt {M : List Blk} {x : SV} {l : List (BitVec 8)} (h : Byt M x l) : x.lt M.length = true := by
  obtain ⟨_, ⟨rfl, _⟩ | ⟨a, rfl, _⟩ | ⟨n, cap, rfl, h, _⟩⟩ := h
  · rfl
  · rfl
  · simpa [SV.lt] using h.lt
theorem Byt.dn {M : List Blk} {x : SV} {l : List (BitVec 8)} (h : Byt M x l) : NmG (· < M.length) x := by
  intro d e
  obtain ⟨_, ⟨rfl, _⟩ | ⟨a, rfl, _⟩ | ⟨n, cap, rfl, h, _⟩⟩ := h
  · cases e
  · cases e
  · cases e; exact h.lt
theorem Byt.lenB {M M' : List Blk} {x : SV} {l : List (BitVec 8)} (h : Byt M x l) {e a b : Nat} {K : SV → Prop} : lenB (.slice e a b) M' x K = K (.i .i64 l.length) := by
  obtain ⟨_, ⟨rfl, rfl⟩ | ⟨a, rfl, rfl⟩ | ⟨n, cap, rfl, _⟩⟩ := h <;> rfl
theorem Byt.ag {S : Nat → Prop} {M M' : List Blk} {x : SV} {l : List (BitVec 8)} (h : Byt M x l) (hA : Ag S M M') (hn : NmG (fun d => ¬ S d) x) : Byt M' x l := by
  obtain ⟨h0, h | h | ⟨n, cap, rfl, h, ht⟩⟩ := h
  · exact ⟨h0, .inl h⟩
  · exact ⟨h0, .inr (.inl h)⟩
  · exact ⟨h0, .inr (.inr ⟨n, cap, rfl, h.ag hA (hn n rfl), ht.ag hA h.lt (hn n rfl)⟩)⟩
theorem Byt.app {M L : List Blk} {x : SV} {l : List (BitVec 8)} (h : Byt M x l) : Byt (M ++ L) x l := h.ag (S := fun _ => False) Ag.app (fun _ _ e => e)
theorem Byt.row {M : List Blk} {d : Nat} {l z : List (BitVec 8)} {ty : TypeId} (h : M[d]? = some (.row (bS (l ++ z)) ty)) (hl : l.length ≤ 140737488355000) : Byt M (.sl d 0 l.length (l.length + z.length)) l := by
  refine ⟨hl, .inr (.inr ⟨d, _, rfl, BAt.row h, ?_⟩)⟩
  by_cases h0 : l ++ z = []
  · obtain ⟨rfl, rfl⟩ := List.append_eq_nil_iff.1 h0
    exact .inr ⟨rfl, rfl, ty, h⟩
  · refine .inl ?_
    have := List.length_pos_iff.2 h0
    rw [liveN_eq, h]
    simp only [liveB_row, bS_length, decide_eq_true_eq]
    exact this
theorem Byt.sn {M : List Blk} : Byt M .sn [] := ⟨by simp, .inl ⟨rfl, rfl⟩⟩
/-- its block is a row -/
def RowF (M : List Blk) (y : SV) : Prop := ∀ d, dnS y = some d → ∃ R ty, M[d]? = some (.row R ty)
theorem RowF.sn {M : List Blk} : RowF M .sn := fun _ e => by cases e
theorem RowF.ag {S : Nat → Prop} {M M' : List Blk} {y : SV} (h : RowF M y) (hA : Ag S M M') (hn : NmG (fun d => ¬ S d) y) : RowF M' y := fun d e => by
  obtain ⟨R, ty, g⟩ := h d e
  exact ⟨R, ty, hA.get g (hn d e)⟩
theorem RowF.app {M L : List Blk} {y : SV} (h : RowF M y) : RowF (M ++ L) y := h.ag (S := fun _ => False) Ag.app (fun _ _ e => e)
theorem Byt.src {M : List Blk} {x : SV} {l : List (BitVec 8)} (h : Byt M x l) : SrcIs M x l := by
  obtain ⟨h0, ⟨rfl, rfl⟩ | ⟨a, rfl, rfl⟩ | ⟨n, cap, rfl, h, ht⟩⟩ := h
  · exact src_sn
  · exact fun K hK => hK
  · exact h.src
/-- where an element is looked at, the bytes lie in a block -/
theorem Byt.at {M : List Blk} {x : SV} {l : List (BitVec 8)} (h : Byt M x l) (hl : 0 < l.length) : ∃ n cap, x = .sl n 0 l.length cap ∧ n < M.length ∧ ∀ j, j < l.length → Eng.is8 (cellsB M[n]?) j = true ∧ Eng.cell8 (cellsB M[n]?) j = l.getD j 0#8 ∧ j + 1 ≤ (cellsB M[n]?).length := by
  obtain ⟨h0, ⟨rfl, rfl⟩ | ⟨a, rfl, rfl⟩ | ⟨n, cap, rfl, h, ht⟩⟩ := h
  · cases hl
  · cases hl
  · refine ⟨n, cap, rfl, h.lt, fun j hj => ?_⟩
    have g1 := h.is8 hj
    have g2 := h.cell8 hj
    have g3 := h.le (show j + 1 ≤ l.length by omega)
    simp only [Nat.zero_add] at g1 g2 g3
    exact ⟨g1, g2, g3⟩

section flat
theorem flat_length {k : Nat} : ∀ {cs : List (List SV)}, (∀ c ∈ cs, c.length = k) → cs.flatten.length = cs.length * k
  | [], _ => by simp
  | c :: cs, h => by
    rw [List.flatten_cons, List.length_append, flat_length (cs := cs) (fun c hc => h c (by simp [hc])), h c (by simp), List.length_cons, Nat.add_mul, Nat.one_mul]; omega
theorem flat_take {k : Nat} : ∀ {cs : List (List SV)} (i : Nat) (zz : List SV), (∀ c ∈ cs, c.length = k) → i ≤ cs.length → (cs.flatten ++ zz).take (i * k) = (cs.take i).flatten
  | cs, 0, zz, _, _ => by simp
  | [], i + 1, zz, _, hi => by simp at hi
  | c :: cs, i + 1, zz, h, hi => by
    have hc := h c (by simp)
    rw [List.flatten_cons, List.append_assoc, Nat.add_mul, Nat.one_mul, Nat.add_comm, ← hc, List.take_length_add_append, List.take_succ_cons, List.flatten_cons, hc, flat_take i zz (fun c hc => h c (by simp [hc])) (by simpa using hi)]
theorem flat_drop {k : Nat} : ∀ {cs : List (List SV)} (i : Nat) (zz : List SV), (∀ c ∈ cs, c.length = k) → i ≤ cs.length → (cs.flatten ++ zz).drop (i * k) = (cs.drop i).flatten ++ zz
  | cs, 0, zz, _, _ => by simp
  | [], i + 1, zz, _, hi => by simp at hi
  | c :: cs, i + 1, zz, h, hi => by
    have hc := h c (by simp)
    rw [List.flatten_cons, List.append_assoc, Nat.add_mul, Nat.one_mul, Nat.add_comm, ← hc, ← List.drop_drop, List.drop_left, List.drop_succ_cons, hc, flat_drop i zz (fun c hc => h c (by simp [hc])) (by simpa using hi)]
theorem flat_at {k : Nat} {cs : List (List SV)} {zz : List SV} (h : ∀ c ∈ cs, c.length = k) {i : Nat} {c : List SV} (hi : cs[i]? = some c) : ((cs.flatten ++ zz).drop (i * k)).take k = c := by
  obtain ⟨hl, rfl⟩ := List.getElem?_eq_some_iff.1 hi
  have hc := h _ (List.getElem_mem hl)
  rw [flat_drop i zz h (by omega), List.drop_eq_getElem_cons hl, List.flatten_cons, List.append_assoc, List.take_append_of_le_length (by omega), List.take_of_length_le (by omega)]
theorem flat_get {k : Nat} {cs : List (List SV)} {zz : List SV} (h : ∀ c ∈ cs, c.length = k) {i j : Nat} {c : List SV} (hi : cs[i]? = some c) (hj : j < k) : (cs.flatten ++ zz)[i * k + j]? = c[j]? := by
  rw [← flat_at (zz := zz) h hi, List.getElem?_take_of_lt hj, List.getElem?_drop]
theorem flat_set {k : Nat} : ∀ {cs : List (List SV)} {zz : List SV} (i : Nat) {j : Nat} {c : List SV} (v : SV), (∀ c ∈ cs, c.length = k) → cs[i]? = some c → j < k → (cs.flatten ++ zz).set (i * k + j) v = (cs.set i (c.set j v)).flatten ++ zz
  | [], _, _, _, _, _, _, hi, _ => by simp at hi
  | d :: cs, zz, 0, j, c, v, h, hi, hj => by
    simp only [List.getElem?_cons_zero, Option.some.injEq] at hi
    subst hi
    have hc := h d (by simp)
    rw [Nat.zero_mul, Nat.zero_add, List.flatten_cons, List.append_assoc, List.set_append_left _ _ (by omega), List.set_cons_zero, List.flatten_cons, List.append_assoc]
  | d :: cs, zz, i + 1, j, c, v, h, hi, hj => by
    have hc := h d (by simp)
    have ih := flat_set (cs := cs) (c := c) (zz := zz) i v (fun c hc => h c (by simp [hc])) (by simpa using hi) hj
    rw [List.flatten_cons, List.append_assoc, List.set_append_right _ _ (by rw [hc, Nat.add_mul]; omega), hc, show (i + 1) * k + j - k = i * k + j by rw [Nat.add_mul]; omega, ih, List.set_cons_succ, List.flatten_cons, List.append_assoc]
end flat

/-- a list of elements of k cells: nil, empty somewhere, or in a block -/
def Lst (M : List Blk) (k : Nat) (x : SV) (cs : List (List SV)) : Prop :=
  cs.length ≤ 140737488355000 ∧ (∀ c ∈ cs, c.length = k ∧ c.all SV.one = true) ∧ ((x = .sn ∧ cs = []) ∨ (∃ a, x = .raw (.slice (some a) 0 0) ∧ cs = []) ∨ ∃ n cap zz, x = .sl n 0 cs.length cap ∧ n < M.length ∧ cellsAt M n = cs.flatten ++ zz ∧ There M n cap cs.length)
/-- a list of elements of k cells in a row of one's own, or nil -/
def Own (M : List Blk) (k : Nat) (x : SV) (cs : List (List SV)) : Prop :=
  cs.length ≤ 1000000 ∧ (∀ c ∈ cs, c.length = k ∧ c.all SV.one = true) ∧ ((x = .sn ∧ cs = []) ∨ ∃ n cap zz ty, x = .sl n 0 cs.length cap ∧ M[n]? = some (.row (cs.flatten ++ zz) ty) ∧ cs.length * k + zz.length = cap * k)
theorem Lst.one {M : List Blk} {k : Nat} {x : SV} {cs : List (List SV)} (h : Lst M k x cs) : x.one = true := by
  obtain ⟨_, _, ⟨rfl, _⟩ | ⟨a, rfl, _⟩ | ⟨n, cap, zz, rfl, _⟩⟩ := h <;> rfl
theorem Lst.lt {M : List Blk} {k : Nat} {x : SV} {cs : List (List SV)} (h : Lst M k x cs) : x.lt M.length = true := by
  obtain ⟨_, _, ⟨rfl, _⟩ | ⟨a, rfl, _⟩ | ⟨n, cap, zz, rfl, h, _⟩⟩ := h
  · rfl
  · rfl
  · simpa [SV.lt] using h
theorem Lst.dn {M : List Blk} {k : Nat} {x : SV} {cs : List (List SV)} (h : Lst M k x cs) : NmG (· < M.length) x := by
  intro d e
  obtain ⟨_, _, ⟨rfl, _⟩ | ⟨a, rfl, _⟩ | ⟨n, cap, zz, rfl, h, _⟩⟩ := h
  · cases e
  · cases e
  · cases e; exact h
theorem Lst.lenB {M M' : List Blk} {k : Nat} {x : SV} {cs : List (List SV)} (h : Lst M k x cs) {e a b : Nat} {K : SV → Prop} : lenB (.slice e a b) M' x K = K (.i .i64 cs.length) := by
  obtain ⟨_, _, ⟨rfl, rfl⟩ | ⟨a, rfl, rfl⟩ | ⟨n, cap, zz, rfl, _⟩⟩ := h <;> rfl
theorem Lst.ag {S : Nat → Prop} {M M' : List Blk} {k : Nat} {x : SV} {cs : List (List SV)} (h : Lst M k x cs) (hA : Ag S M M') (hn : NmG (fun d => ¬ S d) x) : Lst M' k x cs := by
  obtain ⟨h0, h1, h | h | ⟨n, cap, zz, rfl, h, h2, ht⟩⟩ := h
  · exact ⟨h0, h1, .inl h⟩
  · exact ⟨h0, h1, .inr (.inl h)⟩
  · refine ⟨h0, h1, .inr (.inr ⟨n, cap, zz, rfl, Nat.lt_of_lt_of_le h hA.1, ?_, ht.ag hA h (hn n rfl)⟩)⟩
    unfold cellsAt at *; rw [hA.2 n h (hn n rfl)]; exact h2
theorem Lst.app {M L : List Blk} {k : Nat} {x : SV} {cs : List (List SV)} (h : Lst M k x cs) : Lst (M ++ L) k x cs := h.ag (S := fun _ => False) Ag.app (fun _ _ e => e)
theorem Lst.sn {M : List Blk} {k : Nat} : Lst M k .sn [] := ⟨by simp, by simp, .inl ⟨rfl, rfl⟩⟩
/-- where an element is looked at, the list lies in a block -/
theorem Lst.at {M : List Blk} {k : Nat} {x : SV} {cs : List (List SV)} (h : Lst M k x cs) (hl : 0 < cs.length) : ∃ n cap, x = .sl n 0 cs.length cap ∧ n < M.length ∧ (cs.length * k ≤ (cellsB M[n]?).length) ∧
    ∀ i c, cs[i]? = some c → ((cellsB M[n]?).drop (i * k)).take k = c ∧ c.length = k ∧ i * k + k ≤ (cellsB M[n]?).length ∧ ∀ j, j < k → (cellsB M[n]?)[i * k + j]? = c[j]? := by
  obtain ⟨h0, h1, ⟨rfl, rfl⟩ | ⟨a, rfl, rfl⟩ | ⟨n, cap, zz, rfl, h, h2, ht⟩⟩ := h
  · cases hl
  · cases hl
  · have e : cellsB M[n]? = cs.flatten ++ zz := h2
    replace h1 : ∀ c ∈ cs, c.length = k := fun c hc => (h1 c hc).1
    have hfl := flat_length h1
    refine ⟨n, cap, rfl, h, by rw [e, List.length_append, hfl]; omega, fun i c hi => ?_⟩
    rw [e]
    have hil := (List.getElem?_eq_some_iff.1 hi).1
    have : (i + 1) * k ≤ cs.length * k := Nat.mul_le_mul_right k (by omega)
    rw [Nat.add_mul, Nat.one_mul] at this
    exact ⟨flat_at h1 hi, h1 c (List.mem_of_getElem? hi), by rw [List.length_append, hfl]; omega, fun j hj => flat_get h1 hi hj⟩
/-- as a source of an append or a copy -/
theorem Lst.src {M : List Blk} {k : Nat} {x : SV} {cs : List (List SV)} (h : Lst M k x cs) : ∀ K : List SV → Nat → Prop, K cs.flatten cs.length → srcC M k x K := by
  obtain ⟨h0, h1, ⟨rfl, rfl⟩ | ⟨a, rfl, rfl⟩ | ⟨n, cap, zz, rfl, h, h2, ht⟩⟩ := h
  · exact fun K hK => hK
  · exact fun K hK => hK
  · intro K hK
    have hfl := flat_length (k := k) (fun c hc => (h1 c hc).1)
    simp only [srcC, h2, Nat.zero_add, List.drop_zero]
    refine ⟨by rw [List.length_append, hfl]; omega, ?_⟩
    rw [← hfl, List.take_left]; exact hK
theorem Own.lst {M : List Blk} {k : Nat} {x : SV} {cs : List (List SV)} (h : Own M k x cs) (hk : 0 < k) : Lst M k x cs := by
  obtain ⟨h0, h1, ⟨rfl, rfl⟩ | ⟨n, cap, zz, ty, rfl, h, h2⟩⟩ := h
  · exact Lst.sn
  · refine ⟨by omega, h1, .inr (.inr ⟨n, cap, zz, rfl, kw h, by simp [cellsAt, h], ?_⟩)⟩
    by_cases e : cs.flatten ++ zz = []
    · obtain ⟨e1, rfl⟩ := List.append_eq_nil_iff.1 e
      have hfl := flat_length (k := k) (cs := cs) (fun c hc => (h1 c hc).1)
      rw [e1] at hfl
      simp only [List.length_nil] at hfl h2
      have hc : cs.length = 0 := by
        rcases Nat.mul_eq_zero.1 hfl.symm with h | h
        · exact h
        · omega
      have hcap : cap = 0 := by
        rw [hc] at h2
        rcases Nat.mul_eq_zero.1 (show cap * k = 0 by omega) with h | h
        · exact h
        · omega
      rw [List.append_nil, e1] at h
      exact .inr ⟨hcap, hc, ty, h⟩
    · refine .inl ?_
      have := List.length_pos_iff.2 e
      rw [liveN_eq, h]
      simp only [liveB_row, decide_eq_true_eq]
      exact this
theorem Own.ag {S : Nat → Prop} {M M' : List Blk} {k : Nat} {x : SV} {cs : List (List SV)} (h : Own M k x cs) (hA : Ag S M M') (hn : NmG (fun d => ¬ S d) x) : Own M' k x cs := by
  obtain ⟨h0, h1, h | ⟨n, cap, zz, ty, rfl, h, h2⟩⟩ := h
  · exact ⟨h0, h1, .inl h⟩
  · exact ⟨h0, h1, .inr ⟨n, cap, zz, ty, rfl, hA.get h (hn n rfl), h2⟩⟩
theorem Own.app {M L : List Blk} {k : Nat} {x : SV} {cs : List (List SV)} (h : Own M k x cs) : Own (M ++ L) k x cs := h.ag (S := fun _ => False) Ag.app (fun _ _ e => e)
theorem Own.dn {M : List Blk} {k : Nat} {x : SV} {cs : List (List SV)} (h : Own M k x cs) : NmG (· < M.length) x := by
  intro d e
  obtain ⟨_, _, ⟨rfl, _⟩ | ⟨n, cap, zz, ty, rfl, h, _⟩⟩ := h
  · cases e
  · cases e; exact kw h
theorem Own.one {M : List Blk} {k : Nat} {x : SV} {cs : List (List SV)} (h : Own M k x cs) : x.one = true := by
  obtain ⟨_, _, ⟨rfl, _⟩ | ⟨n, cap, zz, ty, rfl, _⟩⟩ := h <;> rfl
theorem Own.sn {M : List Blk} {k : Nat} : Own M k .sn [] := ⟨by simp, by simp, .inl ⟨rfl, rfl⟩⟩

/-! elements -/
def pxC (p : Pfx) : List SV := [.i .i64 p.fam, .u64 p.hi, .u64 p.lo, .i .i64 p.bits]
def prC (e : Pr × SV × SV) : List SV := [.i .i64 e.1.link, e.2.1, e.2.2]
def lnC (e : Ln × SV) : List SV := [e.2, .i .i64 e.1.side, .i .i64 e.1.cur, .i .i64 e.1.next, .u64 e.1.sc, .u64 e.1.ce, .i .i64 e.1.sec, .i .i64 e.1.nano]
def chC (e : Ch × SV) : List SV := [.i .i64 e.1.kind, .i .i64 e.1.link, .i .i64 e.1.side, e.2] ++ pxC e.1.pfx
def Pxs (M : List Blk) (x : SV) (l : List Pfx) : Prop := Lst M 4 x (l.map pxC)
structure PrE (M : List Blk) (G : Nat → Prop) (e : Pr × SV × SV) : Prop where
  key : Byt M e.2.1 e.1.key
  kg : NmG G e.2.1
  pfx : Pxs M e.2.2 e.1.pfx
  pg : NmG G e.2.2
structure LnE (M : List Blk) (G : Nat → Prop) (e : Ln × SV) : Prop where
  key : Byt M e.2 e.1.key
  kg : NmG G e.2
structure ChE (M : List Blk) (G : Nat → Prop) (e : Ch × SV) : Prop where
  key : Byt M e.2 e.1.key
  kg : NmG G e.2
def Prs (M : List Blk) (G : Nat → Prop) (x : SV) (ps : List Pr) : Prop := ∃ es : List (Pr × SV × SV), es.map (·.1) = ps ∧ Lst M 3 x (es.map prC) ∧ NmG G x ∧ ∀ e ∈ es, PrE M G e
def Lns (M : List Blk) (G : Nat → Prop) (x : SV) (ls : List Ln) : Prop := ∃ es : List (Ln × SV), es.map (·.1) = ls ∧ Lst M 8 x (es.map lnC) ∧ NmG G x ∧ ∀ e ∈ es, LnE M G e
def Chs (M : List Blk) (G : Nat → Prop) (x : SV) (l : List Ch) : Prop := ∃ es : List (Ch × SV), es.map (·.1) = l ∧ Lst M 8 x (es.map chC) ∧ NmG G x ∧ ∀ e ∈ es, ChE M G e
theorem PrE.ag {S G : Nat → Prop} {M M' : List Blk} {e : Pr × SV × SV} (h : PrE M G e) (hA : Ag S M M') (hS : ∀ n, n < M.length → G n → ¬ S n) : PrE M' G e :=
  ⟨h.key.ag hA (fun d e => hS d (h.key.dn d e) (h.kg d e)), h.kg, h.pfx.ag hA (fun d e => hS d (h.pfx.dn d e) (h.pg d e)), h.pg⟩
theorem LnE.ag {S G : Nat → Prop} {M M' : List Blk} {e : Ln × SV} (h : LnE M G e) (hA : Ag S M M') (hS : ∀ n, n < M.length → G n → ¬ S n) : LnE M' G e :=
  ⟨h.key.ag hA (fun d e => hS d (h.key.dn d e) (h.kg d e)), h.kg⟩
theorem ChE.ag {S G : Nat → Prop} {M M' : List Blk} {e : Ch × SV} (h : ChE M G e) (hA : Ag S M M') (hS : ∀ n, n < M.length → G n → ¬ S n) : ChE M' G e :=
  ⟨h.key.ag hA (fun d e => hS d (h.key.dn d e) (h.kg d e)), h.kg⟩
theorem Prs.ag {S G : Nat → Prop} {M M' : List Blk} {x : SV} {ps : List Pr} (h : Prs M G x ps) (hA : Ag S M M') (hS : ∀ n, n < M.length → G n → ¬ S n) : Prs M' G x ps := by
  obtain ⟨es, h1, h2, h3, h4⟩ := h
  exact ⟨es, h1, h2.ag hA (fun d e => hS d (h2.dn d e) (h3 d e)), h3, fun e he => (h4 e he).ag hA hS⟩
theorem Lns.ag {S G : Nat → Prop} {M M' : List Blk} {x : SV} {ls : List Ln} (h : Lns M G x ls) (hA : Ag S M M') (hS : ∀ n, n < M.length → G n → ¬ S n) : Lns M' G x ls := by
  obtain ⟨es, h1, h2, h3, h4⟩ := h
  exact ⟨es, h1, h2.ag hA (fun d e => hS d (h2.dn d e) (h3 d e)), h3, fun e he => (h4 e he).ag hA hS⟩
theorem Chs.ag {S G : Nat → Prop} {M M' : List Blk} {x : SV} {l : List Ch} (h : Chs M G x l) (hA : Ag S M M') (hS : ∀ n, n < M.length → G n → ¬ S n) : Chs M' G x l := by
  obtain ⟨es, h1, h2, h3, h4⟩ := h
  exact ⟨es, h1, h2.ag hA (fun d e => hS d (h2.dn d e) (h3 d e)), h3, fun e he => (h4 e he).ag hA hS⟩
theorem PrE.mono {G G' : Nat → Prop} {M : List Blk} {e : Pr × SV × SV} (h : PrE M G e) (hG : ∀ n, G n → G' n) : PrE M G' e := ⟨h.key, h.kg.mono hG, h.pfx, h.pg.mono hG⟩
theorem LnE.mono {G G' : Nat → Prop} {M : List Blk} {e : Ln × SV} (h : LnE M G e) (hG : ∀ n, G n → G' n) : LnE M G' e := ⟨h.key, h.kg.mono hG⟩
theorem ChE.mono {G G' : Nat → Prop} {M : List Blk} {e : Ch × SV} (h : ChE M G e) (hG : ∀ n, G n → G' n) : ChE M G' e := ⟨h.key, h.kg.mono hG⟩
theorem NmG.and {G G' : Nat → Prop} {x : SV} (h : NmG G x) (h' : NmG G' x) : NmG (fun n => G n ∧ G' n) x := fun d e => ⟨h d e, h' d e⟩
theorem PrE.bnd {G : Nat → Prop} {M : List Blk} {e : Pr × SV × SV} (h : PrE M G e) : PrE M (fun n => G n ∧ n < M.length) e := ⟨h.key, h.kg.and h.key.dn, h.pfx, h.pg.and h.pfx.dn⟩
theorem LnE.bnd {G : Nat → Prop} {M : List Blk} {e : Ln × SV} (h : LnE M G e) : LnE M (fun n => G n ∧ n < M.length) e := ⟨h.key, h.kg.and h.key.dn⟩
theorem ChE.bnd {G : Nat → Prop} {M : List Blk} {e : Ch × SV} (h : ChE M G e) : ChE M (fun n => G n ∧ n < M.length) e := ⟨h.key, h.kg.and h.key.dn⟩
theorem Prs.mono {G G' : Nat → Prop} {M : List Blk} {x : SV} {ps : List Pr} (h : Prs M G x ps) (hG : ∀ n, G n → G' n) : Prs M G' x ps := by
  obtain ⟨es, h1, h2, h3, h4⟩ := h
  exact ⟨es, h1, h2, h3.mono hG, fun e he => (h4 e he).mono hG⟩
theorem Lns.mono {G G' : Nat → Prop} {M : List Blk} {x : SV} {ls : List Ln} (h : Lns M G x ls) (hG : ∀ n, G n → G' n) : Lns M G' x ls := by
  obtain ⟨es, h1, h2, h3, h4⟩ := h
  exact ⟨es, h1, h2, h3.mono hG, fun e he => (h4 e he).mono hG⟩
theorem Chs.mono {G G' : Nat → Prop} {M : List Blk} {x : SV} {l : List Ch} (h : Chs M G x l) (hG : ∀ n, G n → G' n) : Chs M G' x l := by
  obtain ⟨es, h1, h2, h3, h4⟩ := h
  exact ⟨es, h1, h2, h3.mono hG, fun e he => (h4 e he).mono hG⟩
end Go.Proofs.Ytdcplcfedcmcmaa.Eng

/- Bytes: held against each other, cloned; elements appended. -/
namespace Go.Proofs.Ytdcplcfedcmcmaa.Eng
open Go Go.RowKit
set_option linter.unusedSimpArgs false
set_option linter.unusedVariables false

/-- elements behind elements -/
theorem appK {T : Tab} {M : List Blk} {ts tx e eby k : Nat} {K : SV → List Blk → Prop} {s x : SV} {z : List SV} (cs ys : List (List SV)) (htk : T.k ts = .slice e k eby) (he0 : 0 < eby) (he : eby ≤ 4096) (hk : 0 < k) (hz : T.z e = some z) (hzl : z.length = k) (hx : nonInt (T.k tx) = true)
    (h : Own M k s cs) (hys : ∀ c ∈ ys, c.length = k ∧ c.all SV.one = true) (hsrc : ∀ K : List SV → Nat → Prop, K ys.flatten ys.length → srcC M k x K) (hb : cs.length + ys.length ≤ 1000000)
    (hK : ∀ M' s', Own M' k s' (cs ++ ys) → NmG (fun n => n = M.length) s' → Ag (fun n => dnS s = some n) M M' → K s' M') : appendC T M ts tx s x K := by
  have hyl := flat_length (k := k) (cs := ys) (fun c hc => (hys c hc).1)
  obtain ⟨h0, h1, ⟨rfl, rfl⟩ | ⟨n, cap, zz, ty, rfl, h2, h3⟩⟩ := h
  · refine .inr (.inl ?_)
    unfold appendN
    rw [htk]
    refine ⟨hx, he0, hk, z, hz, hsrc _ ⟨fun hlt => ?_, fun c sp ty' hc hsp hmm => ?_⟩⟩
    · have := growslice_fits (need := ys.length) (old := 0) (bytes := eby) hlt (by
        have : ys.length * eby ≤ 1048577 * 4096 := Nat.mul_le_mul (by simp at hb; omega) he
        omega)
      omega
    · refine hK _ _ ⟨by simpa using hb, by simpa using hys, .inr ⟨M.length, c, sp, ty', by simp, by rw [get_app0]; rfl, ?_⟩⟩ (fun d e => by cases e; rfl) (Ag.app)
      rw [List.nil_append, hsp, Nat.sub_mul]; have := Nat.mul_le_mul_right k hc; omega
  · have hcl := flat_length (k := k) (cs := cs) (fun c hc => (h1 c hc).1)
    have hce : cellsAt M n = cs.flatten ++ zz := by simp [cellsAt, h2]
    have hlc : cs.length ≤ cap := by
      have : cs.length * k ≤ cap * k := by omega
      exact Nat.le_of_mul_le_mul_right this hk
    refine .inr (.inl ?_)
    unfold appendN
    rw [htk]
    refine ⟨hx, he0, hk, z, hz, hsrc _ ?_⟩
    refine ⟨rfl, hlc, ⟨_, ty, h2, by rw [List.length_append, hcl]; omega⟩, fun hlt => ?_, fun c sp ty' hc hsp hmm => ?_⟩
    · have := growslice_fits (need := cs.length + ys.length) (old := cap) (bytes := eby) hlt (by
        have : (cs.length + ys.length) * eby ≤ 1048577 * 4096 := Nat.mul_le_mul (by omega) he
        omega)
      omega
    · rw [hce, ← hcl, List.take_left]
      refine hK _ _ ⟨by simpa using hb, fun c hc => ?_, .inr ⟨M.length, c, sp, ty', by simp, ?_, ?_⟩⟩ (fun d e => by cases e; rfl) (Ag.trans (S' := fun _ => False) (Ag.set rfl) Ag.app (fun n _ e => e.elim))
      · rcases List.mem_append.1 hc with hc | hc
        · exact h1 c hc
        · exact hys c hc
      · have : M.length = (M.set n .dead).length := by simp
        conv => lhs; rw [this]
        rw [get_app0, List.flatten_append]; rfl
      · rw [List.length_append, hsp, Nat.sub_mul]; have := Nat.mul_le_mul_right k hc; omega
/-- one element -/
theorem src_one {M : List Blk} {n k cap : Nat} {c : List SV} {ty : TypeId} (h : M[n]? = some (.row c ty)) (hc : c.length = k) : ∀ K : List SV → Nat → Prop, K [c].flatten [c].length → srcC M k (.sl n 0 1 cap) K := by
  intro K hK
  simp only [srcC, cellsAt, h, Nat.zero_add, Nat.one_mul, List.drop_zero]
  refine ⟨by omega, ?_⟩
  rw [List.take_of_length_le (by omega)]
  simpa using hK

theorem same_byt (M : List Blk) (x y : SV) (a b : List (BitVec 8)) (K : SV → List Blk → Prop) (ha : Byt M x a) (hb : Byt M y b) (hK : K (.b (a == b)) M) :
    callVC Try.prog 18 [x, y] M K := by
  have la : ∀ {M' : List Blk} {e a' b' : Nat} {K : SV → Prop}, lenB (.slice e a' b') M' x K = K (.i .i64 a.length) := ha.lenB
  have lb : ∀ {M' : List Blk} {e a' b' : Nat} {K : SV → Prop}, lenB (.slice e a' b') M' y K = K (.i .i64 b.length) := hb.lenB
  have ha0 := ha.1
  have hb0 := hb.1
  refine fn_rule tabOK Try.func18 rfl Try.call18 (by kernel_rfl) (fun hM => ?_)
  (refine top_in ?_; simp -implicitDefEqProofs only [Try.ntmps18, Try.results18, go_sem, -List.reduceReplicate, ↓L_gdZ_tt, ↓L_gdZ_tf, ↓L_gdZ_ft, ↓L_gdZ_ff, ↓T_and, ↓T_imp, ↓T_all, la, lb]; try simp only [top_out])
  refine ⟨fun h => ?_, fun h => ?_⟩
  · refine dropC_self hM rfl ?_
    have : (a == b) = false := by
      rw [beq_eq_false_iff_ne]; intro e; subst e; simp at h
    rw [this] at hK; exact hK
  · have hl : a.length = b.length := by simp at h; omega
    clear h
    refine loop_code tabOK (by kernel_rfl) (fun m ts M' => ∃ k : Nat, k + m = a.length ∧ a.take k = b.take k ∧ M' = M ∧ frC [some (x), some (y), none, none, none, some (.i .i64 k), none, none, none, none, none, none, none, none, none, none, none, none, none, none, none, none, none, none, none, none] ts) a.length ?_ ?_
    · exact ⟨0, by omega, rfl, rfl, by simp [frC]⟩
    · rintro m ts _ ⟨k, hk, he, rfl, hf⟩
      obtain ⟨f, rfl⟩ := frC_open _ _ 0 hf
      clear hf
      (refine top_in ?_; simp -implicitDefEqProofs only [go_sem, -List.reduceReplicate, ↓L_gdZ_tt, ↓L_gdZ_tf, ↓L_gdZ_ft, ↓L_gdZ_ff, ↓T_and, ↓T_imp, ↓T_all, la, lb]; try simp only [top_out])
      refine ⟨fun h => ?_, fun h => ?_⟩
      · have hka : k < a.length := by omega
        obtain ⟨n1, cap1, rfl, l1, ea⟩ := ha.at (by omega)
        obtain ⟨n2, cap2, rfl, l2, eb⟩ := hb.at (by omega)
        obtain ⟨g1, g2, g3⟩ := ea k (by omega)
        obtain ⟨g4, g5, g6⟩ := eb k (by omega)
        refine draw_rule tabOK (by kernel_rfl : _) (.p 0 (.p 1 (.p 2 (.p 3 (.p 4 (.p 5 (.p 6 (.p 7 (.p 8 .nil))))))))) (by kernel_rfl) (by kernel_rfl) ?_
        (refine top_in ?_; simp -implicitDefEqProofs only [go_sem, -List.reduceReplicate, ↓L_gdZ_tt, ↓L_gdZ_tf, ↓L_gdZ_ft, ↓L_gdZ_ff, ↓T_and, ↓T_imp, ↓T_all, g1, g2, g3, g4, g5, g6]; try simp only [top_out])
        refine ⟨by omega, by omega, by omega, by omega, fun h1 => dropC_self hM rfl ?_, fun h1 => ⟨m - 1, by omega, k + 1, by omega, ?_, w64 (by omega) (by omega)⟩⟩
        · have : (a == b) = false := by
            rw [beq_eq_false_iff_ne]; intro e; subst e; simp at h1
          rw [this] at hK; exact hK
        · rw [take_snoc (by omega), take_snoc (by omega), he]
          rw [eq_of_beq (by simpa using h1 : (a.getD k 0#8 == b.getD k 0#8) = true)]
      · have hka : k = a.length := by omega
        subst hka
        have e := same_take hl he
        subst e
        refine dropC_self hM rfl ?_
        simpa using hK
/-- the order, from a place where all ahead is the same -/
theorem ltB_take : ∀ {a b : List (BitVec 8)} {k : Nat}, a.take k = b.take k → k ≤ a.length → k ≤ b.length → ltB a b = ltB (a.drop k) (b.drop k)
  | a, b, 0, _, _, _ => by simp
  | [], b, k + 1, _, h, _ => by simp at h
  | _ :: _, [], k + 1, _, _, h => by simp at h
  | x :: a, y :: b, k + 1, h, h1, h2 => by
    simp only [List.take_succ_cons, List.cons.injEq] at h
    simp only [ltB, h.1, if_true, List.drop_succ_cons]
    exact ltB_take h.2 (by simpa using h1) (by simpa using h2)
theorem less_byt (M : List Blk) (x y : SV) (a b : List (BitVec 8)) (K : SV → List Blk → Prop) (ha : Byt M x a) (hb : Byt M y b) (hK : K (.b (ltB a b)) M) :
    callVC Try.prog 13 [x, y] M K := by
  have la : ∀ {M' : List Blk} {e a' b' : Nat} {K : SV → Prop}, lenB (.slice e a' b') M' x K = K (.i .i64 a.length) := ha.lenB
  have lb : ∀ {M' : List Blk} {e a' b' : Nat} {K : SV → Prop}, lenB (.slice e a' b') M' y K = K (.i .i64 b.length) := hb.lenB
  have ha0 := ha.1
  have hb0 := hb.1
  refine fn_rule tabOK Try.func13 rfl Try.call13 (by kernel_rfl) (fun hM => ?_)
  (refine top_in ?_; simp -implicitDefEqProofs only [Try.ntmps13, Try.results13, go_sem, -List.reduceReplicate, ↓L_gdZ_tt, ↓L_gdZ_tf, ↓L_gdZ_ft, ↓L_gdZ_ff, ↓T_and, ↓T_imp, ↓T_all, la, lb]; try simp only [top_out])
  refine loop_code tabOK (by kernel_rfl) (fun m ts M' => ∃ k : Nat, k + m = a.length ∧ k ≤ b.length ∧ a.take k = b.take k ∧ M' = M ∧ frC [some (x), some (y), none, none, none, some (.i .i64 k), none, none, none, none, none, none, none, none, none, none, none, none, none, none, none, none, none, none, none, none, none, none, none, none, none, none, none, none, none, none, none, none, none, none, none] ts) a.length ?_ ?_
  · exact ⟨0, by omega, by omega, rfl, rfl, by simp [frC]⟩
  · rintro m ts _ ⟨k, hk, hkb, he, rfl, hf⟩
    have hlt := ltB_take he (by omega) hkb
    have hend : k = a.length ∨ k = b.length → ltB a b = decide (a.length < b.length) := by
      intro h
      rw [hlt]
      rcases h with h | h
      · rw [h, List.drop_length]
        rcases Nat.lt_or_ge a.length b.length with g | g
        · rw [List.drop_eq_getElem_cons g, decide_eq_true g]; rfl
        · rw [List.drop_eq_nil_of_le g, decide_eq_false (by omega)]; rfl
      · have : ¬ a.length < b.length := by omega
        rw [h, List.drop_length, decide_eq_false this]
        cases a.drop b.length <;> rfl
    obtain ⟨f, rfl⟩ := frC_open _ _ 0 hf
    clear hf
    (refine top_in ?_; simp -implicitDefEqProofs only [go_sem, -List.reduceReplicate, ↓L_gdZ_tt, ↓L_gdZ_tf, ↓L_gdZ_ft, ↓L_gdZ_ff, ↓T_and, ↓T_imp, ↓T_all, la, lb]; try simp only [top_out])
    refine ⟨fun h1 => ⟨fun h2 => ?_, fun h2 => ?_⟩, fun h1 => ?_⟩
    · obtain ⟨n1, cap1, rfl, l1, ea⟩ := ha.at (by omega)
      obtain ⟨n2, cap2, rfl, l2, eb⟩ := hb.at (by omega)
      obtain ⟨g1, g2, g3⟩ := ea k (by omega)
      obtain ⟨g4, g5, g6⟩ := eb k (by omega)
      have da := List.drop_eq_getElem_cons (l := a) (i := k) (by omega)
      have db := List.drop_eq_getElem_cons (l := b) (i := k) (by omega)
      have ga : a.getD k 0#8 = a[k] := by rw [List.getD_eq_getElem?_getD, List.getElem?_eq_getElem (by omega)]; rfl
      have gb : b.getD k 0#8 = b[k] := by rw [List.getD_eq_getElem?_getD, List.getElem?_eq_getElem (by omega)]; rfl
      refine draw_rule tabOK (by kernel_rfl : _) (.p 0 (.p 1 (.p 2 (.p 3 (.p 4 (.p 5 (.p 6 (.p 7 (.p 8 .nil))))))))) (by kernel_rfl) (by kernel_rfl) ?_
      (refine top_in ?_; simp -implicitDefEqProofs only [go_sem, -List.reduceReplicate, ↓L_gdZ_tt, ↓L_gdZ_tf, ↓L_gdZ_ft, ↓L_gdZ_ff, ↓T_and, ↓T_imp, ↓T_all, g1, g2, g3, g4, g5, g6]; try simp only [top_out])
      refine ⟨by omega, by omega, by omega, by omega, fun h3 => ?_, fun h3 => ⟨m - 1, by omega, k + 1, by omega, by omega, ?_, w64 (by omega) (by omega)⟩⟩
      · refine draw_rule tabOK (by kernel_rfl : _) (.p 0 (.p 1 (.p 2 (.p 3 (.p 4 (.p 5 (.p 6 (.p 7 (.p 8 (.p 9 .nil)))))))))) (by kernel_rfl) (by kernel_rfl) ?_
        (refine top_in ?_; simp -implicitDefEqProofs only [go_sem, -List.reduceReplicate, ↓L_gdZ_tt, ↓L_gdZ_tf, ↓L_gdZ_ft, ↓L_gdZ_ff, ↓T_and, ↓T_imp, ↓T_all, g1, g2, g3, g4, g5, g6]; try simp only [top_out])
        refine ⟨by omega, by omega, by omega, by omega, dropC_self hM rfl ?_⟩
        rw [hlt, da, db] at hK
        simp only [ltB] at hK
        rw [if_neg (by rw [← ga, ← gb]; simpa using h3), ← ga, ← gb] at hK
        exact hK
      · rw [take_snoc (by omega), take_snoc (by omega), he]
        rw [eq_of_beq (by simpa using h3 : (a.getD k 0#8 == b.getD k 0#8) = true)]
    · refine dropC_self hM rfl ?_
      rw [hend (by omega)] at hK
      simpa using hK
    · refine dropC_self hM rfl ?_
      rw [hend (by omega)] at hK
      simpa using hK
/-- a clone that has the same bytes, or nil -/
theorem clone_byt (x : SV) (l : List (BitVec 8)) (M : List Blk) (K : SV → List Blk → Prop) (h : Byt M x l)
    (hK : ∀ M' y, Byt M' y l → NmG (fun n => M.length ≤ n) y → Ag (fun _ => False) M M' → K y M') :
    callVC Try.prog 24 [x] M K := by
  have run : ∀ (n cap : Nat) (l : List (BitVec 8)) (M : List Blk) (K : SV → List Blk → Prop), l.length ≤ 140737488355000 → BAt M n 0 l → liveN M n = true →
      (∀ M' y, Byt M' y l → NmG (fun n => M.length ≤ n) y → Ag (fun _ => False) M M' → K y M') → callVC Try.prog 24 [.sl n 0 l.length cap] M K := by
    intro n cap l M K hl hb hv hK
    refine fn_rule tabOK Try.func24 rfl Try.call24 (by kernel_rfl) (fun hM => ?_)
    (refine top_in ?_; simp -implicitDefEqProofs only [Try.ntmps24, Try.results24, go_sem, -List.reduceReplicate, ↓L_gdZ_tt, ↓L_gdZ_tf, ↓L_gdZ_ft, ↓L_gdZ_ff, ↓T_and, ↓T_imp, ↓T_all, hv]; try simp only [top_out])
    refine ⟨by decide, ?_⟩
    refine app8 M.length [] [] l 5 rfl rfl rfl (by simp [get_app0, bS]) (by simp) (by simp) hb.app.src (by simp; omega) ?_
    intro z' ty'
    (refine top_in ?_; simp -implicitDefEqProofs only [go_sem, -List.reduceReplicate, ↓L_gdZ_tt, ↓L_gdZ_tf, ↓L_gdZ_ft, ↓L_gdZ_ff, ↓T_and, ↓T_imp, ↓T_all]; try simp only [top_out])
    exact dropC_all (by simp) (hK _ _ (Byt.row (z := z') (ty := ty') (by rw [get_app]; rfl) hl) (fun d e => by cases e; simp) (Ag.app))
  have hl := h.1
  obtain ⟨h0, ⟨rfl, rfl⟩ | ⟨a, rfl, rfl⟩ | ⟨n, cap, rfl, hb, ht⟩⟩ := h
  · refine fn_rule tabOK Try.func24 rfl Try.call24 (by kernel_rfl) (fun hM => ?_)
    (refine top_in ?_; simp -implicitDefEqProofs only [Try.ntmps24, Try.results24, go_sem, -List.reduceReplicate, ↓L_gdZ_tt, ↓L_gdZ_tf, ↓L_gdZ_ft, ↓L_gdZ_ff, ↓T_and, ↓T_imp, ↓T_all]; try simp only [top_out])
    exact dropC_self hM rfl (hK M .sn Byt.sn NmG.sn Ag.refl)
  · refine fn_rule tabOK Try.func24 rfl Try.call24 (by kernel_rfl) (fun hM => ?_)
    (refine top_in ?_; simp -implicitDefEqProofs only [Try.ntmps24, Try.results24, go_sem, -List.reduceReplicate, ↓L_gdZ_tt, ↓L_gdZ_tf, ↓L_gdZ_ft, ↓L_gdZ_ff, ↓T_and, ↓T_imp, ↓T_all]; try simp only [top_out])
    refine ⟨by decide, ?_⟩
    refine app8 M.length [] [] [] 5 rfl rfl rfl (by simp [get_app0, bS]) (by simp) (by simp) (fun K hK => hK) (by simp) ?_
    intro z' ty'
    (refine top_in ?_; simp -implicitDefEqProofs only [go_sem, -List.reduceReplicate, ↓L_gdZ_tt, ↓L_gdZ_tf, ↓L_gdZ_ft, ↓L_gdZ_ff, ↓T_and, ↓T_imp, ↓T_all]; try simp only [top_out])
    have e : (M ++ [Blk.dead, Blk.row (bS z') ty'])[M.length + 1]? = some (.row (bS ([] ++ z')) ty') := by rw [get_app]; rfl
    have := hK _ _ (Byt.row e hl) (fun d e => by cases e; simp) Ag.app
    simp only [List.length_nil, Nat.zero_add] at this ⊢
    exact dropC_all (by simp) this
  · rcases ht with ht | ⟨rfl, h0, ty, hB⟩
    · exact run n cap l M K hl hb ht hK
    · obtain rfl : l = [] := List.length_eq_zero_iff.1 h0
      refine callVC_names (fun hM => ?_) Try.call24
      refine call_amb [] [] Try.call24 hB ?_ ?_
      · refine fn_rule tabOK Try.func24 rfl Try.call24 (by kernel_rfl) (fun hM => ?_)
        (refine top_in ?_; simp -implicitDefEqProofs only [Try.ntmps24, Try.results24, go_sem, -List.reduceReplicate, ↓L_gdZ_tt, ↓L_gdZ_tf, ↓L_gdZ_ft, ↓L_gdZ_ff, ↓T_and, ↓T_imp, ↓T_all]; try simp only [top_out])
        exact dropC_self hM rfl (hK M .sn Byt.sn NmG.sn Ag.refl)
      · refine run M.length 0 [] _ _ (by simp) ⟨by simp, by simp, by simp [cellsAt, bS]⟩ (by simp [liveN]) (fun M' y h1 h2 h3 => ?_)
        have hm := h3.1
        simp only [List.length_append, List.length_cons, List.length_nil] at hm
        exact dropC_all (by omega) (hK M' y h1 (h2.mono (fun n hn => by simp at hn; omega)) (Ag.trans (Ag.app) h3 (fun _ _ e => e)))
theorem strH_byt {T : Tab} {M : List Blk} {x : SV} {l : List (BitVec 8)} (h : Byt M x l) {e b : Nat} {K : SV → Prop} : convH T M (.slice e 1 b) .str x K = (T.k e = .int .u8 ∧ K (.str (strOf (bS l)))) := by
  have hall : ∀ l : List (BitVec 8), (bS l).all isU8 = true := fun l => by simp [bS, isU8]
  obtain ⟨h0, ⟨rfl, rfl⟩ | ⟨a, rfl, rfl⟩ | ⟨n, cap, rfl, hb, ht⟩⟩ := h
  · simp [convH, strC, bS]
  · simp [convH, strC, bS]
  · have h1 := hb.len
    have h2 := hb.cells
    simp only [convH, strC, h2, hall, true_and]
    apply propext
    exact ⟨fun h => ⟨h.1, h.2.2⟩, fun h => ⟨h.1, h1, h.2⟩⟩
theorem strOf_eq (a b : List (BitVec 8)) : ((strOf (bS a)).toList == (strOf (bS b)).toList) = (a == b) := by
  have e : ∀ l : List (BitVec 8), (strOf (bS l)).toList = l.map UInt8.ofBitVec := by
    intro l
    unfold strOf
    rw [ByteArray.toList_mk]
    unfold bS
    rw [List.map_map]
    rfl
  rw [e, e]
  have inj : ∀ (a b : List (BitVec 8)), a.map UInt8.ofBitVec = b.map UInt8.ofBitVec → a = b := by
    intro a b h
    have := congrArg (List.map UInt8.toBitVec) h
    rw [List.map_map, List.map_map, show (UInt8.toBitVec ∘ UInt8.ofBitVec) = id from funext (fun _ => rfl), List.map_id, List.map_id] at this
    exact this
  by_cases h : a = b
  · subst h; simp
  · have : a.map UInt8.ofBitVec ≠ b.map UInt8.ofBitVec := fun e => h (inj _ _ e)
    rw [beq_eq_false_iff_ne.2 this, beq_eq_false_iff_ne.2 h]
theorem equal_byt (M : List Blk) (x y : SV) (a b : List (BitVec 8)) (K : SV → List Blk → Prop) (ha : Byt M x a) (hb : Byt M y b) (hK : K (.b (a == b)) M) :
    callVC Try.prog 78 [x, y] M K := by
  have la : ∀ {T : Tab} {e b : Nat} {K : SV → Prop}, convH T M (.slice e 1 b) .str x K = (T.k e = .int .u8 ∧ K (.str (strOf (bS a)))) := strH_byt ha
  have lb : ∀ {T : Tab} {e b' : Nat} {K : SV → Prop}, convH T M (.slice e 1 b') .str y K = (T.k e = .int .u8 ∧ K (.str (strOf (bS b)))) := strH_byt hb
  refine fn_rule tabOK Try.func78 rfl Try.call78 (by kernel_rfl) (fun hM => ?_)
  (refine top_in ?_; simp -implicitDefEqProofs only [Try.ntmps78, Try.results78, go_sem, -List.reduceReplicate, ↓L_gdZ_tt, ↓L_gdZ_tf, ↓L_gdZ_ft, ↓L_gdZ_ff, ↓T_and, ↓T_imp, ↓T_all, la, lb, strOf_eq]; try simp only [top_out])
  exact dropC_self hM rfl hK
end Go.Proofs.Ytdcplcfedcmcmaa.Eng

/- The order of bytes in the library. -/
namespace Go.Proofs.Ytdcplcfedcmcmaa.Eng
open Go Go.RowKit
set_option linter.unusedSimpArgs false
set_option linter.unusedVariables false

theorem libBytes (a : List (BitVec 8)) : Lib.bytesOf (a.map fun b => (b.toNat : Int)) = a.map UInt8.ofBitVec := by
  unfold Lib.bytesOf
  rw [List.map_map]
  refine List.map_congr_left (fun b _ => ?_)
  simp [Function.comp, UInt8.ofBitVec, Nat.toUInt8, UInt8.ofNat]
theorem bytesOf_byt {P : Program} {G : Cx} {ρ : Ren} {M : List Blk} {w : World} (hs : Sim G ρ M w) {x : SV} {a : List (BitVec 8)} (h : Byt M x a) : (Extern.Bytes.bytesOf (den ρ x)).run P w = .ok ⟨(a.map UInt8.ofBitVec).toArray⟩ w := by
  obtain ⟨h0, ⟨rfl, rfl⟩ | ⟨q, rfl, rfl⟩ | ⟨n, cap, rfl, hb, ht⟩⟩ := h
  · simp [den, Extern.Bytes.bytesOf]; rfl
  · simp [den, Extern.Bytes.bytesOf, Extern.Bytes.loadBytes]; rfl
  · by_cases h1 : a = []
    · subst h1
      simp only [den]
      cases adr ρ n 0 with
      | none => simp [Extern.Bytes.bytesOf]; rfl
      | some q => simp [Extern.Bytes.bytesOf, Extern.Bytes.loadBytes]; rfl
    · have hp := List.length_pos_iff.2 h1
      have hg0 := hb.get (j := 0) hp
      obtain ⟨g, o, hg, _⟩ := cells_get hs hg0
      have hl := Lib.run_loadBytesX (P := P) w (a.map fun b => (b.toNat : Int)) ⟨g, o, none⟩ .empty (fun j z hj => by
        rw [List.getElem?_map] at hj
        cases hja : a[j]? with
        | none => rw [hja] at hj; cases hj
        | some b =>
          rw [hja] at hj
          simp only [Option.map_some, Option.some.injEq] at hj
          subst hj
          have hjl := (List.getElem?_eq_some_iff.1 hja).1
          obtain ⟨g', o', hg', hc⟩ := cells_get hs (hb.get hjl)
          rw [hg] at hg'
          cases hg'
          rw [addr_add]
          rw [Nat.zero_add] at hc
          rw [hc, List.getD_eq_getElem?_getD, hja]; rfl)
      rw [List.length_map, libBytes] at hl
      simp only [den, adr, hg, Option.map_some, Nat.add_zero, Extern.Bytes.bytesOf]
      rw [hl]
      congr 1
      apply ByteArray.ext
      show (#[] : Array UInt8) ++ _ = _
      simp
theorem compareBytes_eq : ∀ (a b : List (BitVec 8)), Lib.compareBytes (a.map UInt8.ofBitVec) (b.map UInt8.ofBitVec) = cmpB a b
  | [], [] => rfl
  | [], _ :: _ => rfl
  | _ :: _, [] => rfl
  | x :: a, y :: b => by
    have ih := compareBytes_eq a b
    have lt : ∀ x y : BitVec 8, (UInt8.ofBitVec x < UInt8.ofBitVec y) ↔ x.toNat < y.toNat := fun x y => Iff.rfl
    have of : ∀ {a b : List (BitVec 8)} {u v : Bool}, ltB a b = u → ltB b a = v → cmpB a b = if u = true then -1 else if v = true then 1 else 0 := by
      intro a b u v h h'; subst h h'; rfl
    simp only [List.map_cons, Lib.compareBytes, lt]
    by_cases e : x = y
    · subst e
      rw [if_neg (Nat.lt_irrefl _), if_neg (Nat.lt_irrefl _), ih]
      have h1 : ltB (x :: a) (x :: b) = ltB a b := by simp [ltB]
      have h2 : ltB (x :: b) (x :: a) = ltB b a := by simp [ltB]
      rw [of h1 h2, of (a := a) (b := b) rfl rfl]
    · have h1 : ltB (x :: a) (y :: b) = decide (x.toNat < y.toNat) := by simp [ltB, e]
      have h2 : ltB (y :: b) (x :: a) = decide (y.toNat < x.toNat) := by simp [ltB, Ne.symm e]
      have hne : x.toNat ≠ y.toNat := fun h => e (BitVec.eq_of_toNat_eq h)
      rw [of h1 h2]
      by_cases g : x.toNat < y.toNat
      · simp [g]
      · have g' : y.toNat < x.toNat := by omega
        simp [g, g']
theorem extern_cmp (M : List Blk) (x y : SV) (a b : List (BitVec 8)) (K : SV → List Blk → Prop) (ha : Byt M x a) (hb : Byt M y b) (hK : K (.i .i64 (cmpB a b)) M) :
    callVC Try.prog 95 [x, y] M K := by
  refine .inr ⟨Extern.BytealgCompare.compare, fun xs w => run_callFunc_extern Try.func95 (by kernel_rfl) (by kernel_rfl) (by kernel_rfl) (by kernel_rfl) xs w, fun _ => SemOK.pure (.i .i64 (cmpB a b)) rfl hK (fun G ρ w hs => ?_)⟩
  change Sem.run _ (do pure (goInt (Extern.BytealgCompare.cmp (← Extern.Bytes.bytesOf (den ρ x)) (← Extern.Bytes.bytesOf (den ρ y))))) w = _
  simp only [Sem.run_bind, bytesOf_byt hs ha, bytesOf_byt hs hb, Result.andThen_ok, Sem.run_pure, Lib.cmp_eq]
  rw [compareBytes_eq]; rfl
theorem compare_byt (M : List Blk) (x y : SV) (a b : List (BitVec 8)) (K : SV → List Blk → Prop) (ha : Byt M x a) (hb : Byt M y b) (hK : K (.i .i64 (cmpB a b)) M) :
    callVC Try.prog 86 [x, y] M K := by
  refine fn_rule tabOK Try.func86 rfl Try.call86 (by kernel_rfl) (fun hM => ?_)
  (refine top_in ?_; simp -implicitDefEqProofs only [Try.ntmps86, Try.results86, go_sem, -List.reduceReplicate, ↓L_gdZ_tt, ↓L_gdZ_tf, ↓L_gdZ_ft, ↓L_gdZ_ff, ↓T_and, ↓T_imp, ↓T_all]; try simp only [top_out])
  refine extern_cmp _ x y a b _ ha hb ?_
  (refine top_in ?_; simp -implicitDefEqProofs only [go_sem, -List.reduceReplicate, ↓L_gdZ_tt, ↓L_gdZ_tf, ↓L_gdZ_ft, ↓L_gdZ_ff, ↓T_and, ↓T_imp, ↓T_all]; try simp only [top_out])
  exact dropC_self hM rfl hK
end Go.Proofs.Ytdcplcfedcmcmaa.Eng
