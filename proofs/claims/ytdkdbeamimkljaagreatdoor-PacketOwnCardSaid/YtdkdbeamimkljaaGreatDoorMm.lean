/- Joined texts: C0, C1, Ch, C2, C3. -/
import Derived.Test.YtdkdbeamimkljaaGreatDoorMl
import Derived.Test.YtdkdbeamimkljaaGreatDoorMe
import Derived.Test.YtdkdbeamimkljaaGreatDoorTab
import Derived.Test.YtdkdbeamimkljaaGreatDoorEngM
import Derived.Test.YtdkdbeamimkljaaGreatDoorEngQ
import Derived.Lib.Bytealg
import Derived.Lib.BytesEntry
namespace Go.Proofs.YtdkdbeamimkljaaGreatDoor.Eng
set_option linter.unusedSimpArgs false
set_option linter.unusedVariables false
open Go Go.RowKit
theorem kwMem {n : Nat} {B : Blk} {M : List Blk} (h : M[n]? = some B) : n < M.length := (List.getElem?_eq_some_iff.1 h).1
theorem cellsS_one {x : SV} (h : x.one = true) : cellsS x = [x] := by
  cases x <;> first | rfl | cases h
def Ag (S : Nat → Prop) (M M' : List Blk) : Prop := M.length ≤ M'.length ∧ ∀ n, n < M.length → ¬ S n → M'[n]? = M[n]?
theorem Ag.refl {S : Nat → Prop} {M : List Blk} : Ag S M M := ⟨Nat.le_refl _, fun _ _ _ => rfl⟩
theorem Ag.trans {S S' : Nat → Prop} {M M' M'' : List Blk} (h : Ag S M M') (h' : Ag S' M' M'') (hs : ∀ n, n < M.length → S' n → S n) : Ag S M M'' :=
  ⟨Nat.le_trans h.1 h'.1, fun n hn hS => (h'.2 n (Nat.lt_of_lt_of_le hn h.1) (fun h2 => hS (hs n hn h2))).trans (h.2 n hn hS)⟩
theorem Ag.mono {S S' : Nat → Prop} {M M' : List Blk} (h : Ag S M M') (hs : ∀ n, S n → S' n) : Ag S' M M' := ⟨h.1, fun n hn hS => h.2 n hn (fun h2 => hS (hs n h2))⟩
theorem Ag.app {S : Nat → Prop} {M L : List Blk} : Ag S M (M ++ L) := ⟨by simp, fun n hn _ => get_lt hn⟩
theorem Ag.set {S : Nat → Prop} {M : List Blk} {a : Nat} {B : Blk} (ha : S a) : Ag S M (M.set a B) :=
  ⟨by simp, fun n hn hS => List.getElem?_set_ne (fun e => hS (by rw [← e]; exact ha))⟩
theorem Ag.get {S : Nat → Prop} {M M' : List Blk} {n : Nat} {B : Blk} (h : Ag S M M') (hB : M[n]? = some B) (hn : ¬ S n) : M'[n]? = some B := by
  rw [h.2 n (kwMem hB) hn]; exact hB
theorem BAt.ag {S : Nat → Prop} {M M' : List Blk} {n off : Nat} {l : List (BitVec 8)} (h : BAt M n off l) (hA : Ag S M M') (hn : ¬ S n) : BAt M' n off l := by
  have e : cellsAt M' n = cellsAt M n := by unfold cellsAt; rw [hA.2 n h.lt hn]
  exact ⟨Nat.lt_of_lt_of_le h.lt hA.1, by rw [e]; exact h.len, by rw [e]; exact h.cells⟩
theorem isI_of {k : IntKind} {cs : List SV} {j : Nat} {x : Int} (h : cs[j]? = some (.i k x)) : isI k cs j = true ∧ cellI cs j = x := by
  simp [isI, cellI, h]
theorem getD_of {cs : List SV} {j : Nat} {x : SV} (h : cs[j]? = some x) : cs.getD j uS = x := by
  rw [List.getD_eq_getElem?_getD, h]; rfl
theorem get_last {L : List Blk} {B : Blk} {n : Nat} (h : n = L.length) : (L ++ [B])[n]? = some B := by subst h; simp
theorem Ag.atk {S : Nat → Prop} {M L M' : List Blk} (hA : Ag S (M ++ L) M') (hS : ∀ n, M.length ≤ n → ¬ S n) {k : Nat} {B : Blk} (h : L[k]? = some B) : M'[M.length + k]? = some B := by
  have hk := (List.getElem?_eq_some_iff.1 h).1
  rw [hA.2 _ (by rw [List.length_append]; omega) (hS _ (by omega)), get_app, h]
theorem Ag.at0 {S : Nat → Prop} {M L M' : List Blk} (hA : Ag S (M ++ L) M') (hS : ∀ n, M.length ≤ n → ¬ S n) {B : Blk} (h : L[0]? = some B) : M'[M.length]? = some B := hA.atk (k := 0) hS h
theorem gss0 {M : List Blk} {n : Nat} {B : Blk} (h : n < M.length) : (M.set n B)[n]? = some B := List.getElem?_set_self h
theorem noS {P : Nat → Prop} : ∀ n, P n → ¬ (fun _ : Nat => False) n := fun _ _ e => e
def dnS : SV → Option Nat
  | .sl d _ _ _ => some d
  | _ => none
def NmG (G : Nat → Prop) (x : SV) : Prop := ∀ d, dnS x = some d → G d
theorem NmG.mono {G G' : Nat → Prop} {x : SV} (h : NmG G x) (hG : ∀ n, G n → G' n) : NmG G' x := fun d e => hG d (h d e)
theorem NmG.sn {G : Nat → Prop} : NmG G .sn := fun _ e => by cases e
def There (M : List Blk) (d dc len : Nat) : Prop := liveN M d = true ∨ (dc = 0 ∧ len = 0 ∧ ∃ ty, M[d]? = some (.row [] ty))
theorem There.ag {S : Nat → Prop} {M M' : List Blk} {d dc len : Nat} (h : There M d dc len) (hA : Ag S M M') (hd : d < M.length) (hn : ¬ S d) : There M' d dc len := by
  have e := hA.2 d hd hn
  rcases h with h | ⟨h1, h2, ty, h3⟩
  · exact .inl (by unfold liveN at *; rw [e]; exact h)
  · exact .inr ⟨h1, h2, ty, by rw [e]; exact h3⟩
def Byt (M : List Blk) (x : SV) (l : List (BitVec 8)) : Prop :=
  l.length ≤ 140737488355000 ∧ ((x = .sn ∧ l = []) ∨ (∃ a, x = .raw (.slice (some a) 0 0) ∧ l = []) ∨ ∃ n off cap, x = .sl n off l.length cap ∧ BAt M n off l ∧ There M n (off + cap) l.length)
theorem Byt.one {M : List Blk} {x : SV} {l : List (BitVec 8)} (h : Byt M x l) : x.one = true := by
  obtain ⟨_, ⟨rfl, _⟩ | ⟨a, rfl, _⟩ | ⟨n, off, cap, rfl, _⟩⟩ := h <;> rfl
theorem Byt.lt {M : List Blk} {x : SV} {l : List (BitVec 8)} (h : Byt M x l) : x.lt M.length = true := by
  obtain ⟨_, ⟨rfl, _⟩ | ⟨a, rfl, _⟩ | ⟨n, off, cap, rfl, h, _⟩⟩ := h
  · rfl
  · rfl
  · simpa [SV.lt] using h.lt
theorem Byt.dn {M : List Blk} {x : SV} {l : List (BitVec 8)} (h : Byt M x l) : NmG (· < M.length) x := by
  intro d e
  obtain ⟨_, ⟨rfl, _⟩ | ⟨a, rfl, _⟩ | ⟨n, off, cap, rfl, h, _⟩⟩ := h
  · cases e
  · cases e
  · cases e; exact h.lt
theorem Byt.lenB {M M' : List Blk} {x : SV} {l : List (BitVec 8)} (h : Byt M x l) {e a b : Nat} {K : SV → Prop} : lenB (.slice e a b) M' x K = K (.i .i64 l.length) := by
  obtain ⟨_, ⟨rfl, rfl⟩ | ⟨a, rfl, rfl⟩ | ⟨n, off, cap, rfl, _⟩⟩ := h <;> rfl
theorem Byt.ag {S : Nat → Prop} {M M' : List Blk} {x : SV} {l : List (BitVec 8)} (h : Byt M x l) (hA : Ag S M M') (hn : NmG (fun d => ¬ S d) x) : Byt M' x l := by
  obtain ⟨h0, h | h | ⟨n, off, cap, rfl, h, ht⟩⟩ := h
  · exact ⟨h0, .inl h⟩
  · exact ⟨h0, .inr (.inl h)⟩
  · exact ⟨h0, .inr (.inr ⟨n, off, cap, rfl, h.ag hA (hn n rfl), ht.ag hA h.lt (hn n rfl)⟩)⟩
theorem Byt.app {M L : List Blk} {x : SV} {l : List (BitVec 8)} (h : Byt M x l) : Byt (M ++ L) x l := h.ag (S := fun _ => False) Ag.app (fun _ _ e => e)
theorem Byt.row {M : List Blk} {d : Nat} {l z : List (BitVec 8)} {ty : TypeId} (h : M[d]? = some (.row (bS (l ++ z)) ty)) (hl : l.length ≤ 140737488355000) : Byt M (.sl d 0 l.length (l.length + z.length)) l := by
  refine ⟨hl, .inr (.inr ⟨d, 0, _, rfl, BAt.row h, ?_⟩)⟩
  by_cases h0 : l ++ z = []
  · obtain ⟨rfl, rfl⟩ := List.append_eq_nil_iff.1 h0
    exact .inr ⟨rfl, rfl, ty, h⟩
  · refine .inl ?_
    have := List.length_pos_iff.2 h0
    rw [liveN_eq, h]
    simp only [liveB_row, bS_length, decide_eq_true_eq]
    exact this
theorem Byt.sn {M : List Blk} : Byt M .sn [] := ⟨by simp, .inl ⟨rfl, rfl⟩⟩
def RowF (M : List Blk) (y : SV) : Prop := ∀ d, dnS y = some d → ∃ R ty, M[d]? = some (.row R ty)
theorem RowF.sn {M : List Blk} : RowF M .sn := fun _ e => by cases e
theorem RowF.ag {S : Nat → Prop} {M M' : List Blk} {y : SV} (h : RowF M y) (hA : Ag S M M') (hn : NmG (fun d => ¬ S d) y) : RowF M' y := fun d e => by
  obtain ⟨R, ty, g⟩ := h d e
  exact ⟨R, ty, hA.get g (hn d e)⟩
theorem Byt.src {M : List Blk} {x : SV} {l : List (BitVec 8)} (h : Byt M x l) : SrcIs M x l := by
  obtain ⟨h0, ⟨rfl, rfl⟩ | ⟨a, rfl, rfl⟩ | ⟨n, off, cap, rfl, h, ht⟩⟩ := h
  · exact src_sn
  · exact fun K hK => hK
  · exact h.src
theorem Byt.at {M : List Blk} {x : SV} {l : List (BitVec 8)} (h : Byt M x l) (hl : 0 < l.length) : ∃ n off cap, x = .sl n off l.length cap ∧ n < M.length ∧ ∀ j, j < l.length → Eng.is8 (cellsB M[n]?) (off + j) = true ∧ Eng.cell8 (cellsB M[n]?) (off + j) = l.getD j 0#8 ∧ off + (j + 1) ≤ (cellsB M[n]?).length := by
  obtain ⟨h0, ⟨rfl, rfl⟩ | ⟨a, rfl, rfl⟩ | ⟨n, off, cap, rfl, h, ht⟩⟩ := h
  · cases hl
  · cases hl
  · exact ⟨n, off, cap, rfl, h.lt, fun j hj => ⟨h.is8 hj, h.cell8 hj, h.le (show j + 1 ≤ l.length by omega)⟩⟩
section flat
theorem flat_length {k : Nat} : ∀ {cs : List (List SV)}, (∀ c ∈ cs, c.length = k) → cs.flatten.length = cs.length * k
  | [], _ => by simp
  | c :: cs, h => by
    rw [List.flatten_cons, List.length_append, flat_length (cs := cs) (fun c hc => h c (by simp [hc])), h c (by simp), List.length_cons, Nat.add_mul, Nat.one_mul]; omega
theorem flat_take {k : Nat} : ∀ {cs : List (List SV)} (i : Nat) (zz : List SV), (∀ c ∈ cs, c.length = k) → i ≤ cs.length → (cs.flatten ++ zz).take (i * k) = (cs.take i).flatten
  | cs, 0, zz, _, _ => by simp
  | [], i + 1, zz, _, hi => by simp at hi
  | c :: cs, i + 1, zz, h, hi => by
    have hc := h c (by simp)
    rw [List.flatten_cons, List.append_assoc, Nat.add_mul, Nat.one_mul, Nat.add_comm, ← hc, List.take_length_add_append, List.take_succ_cons, List.flatten_cons, hc, flat_take i zz (fun c hc => h c (by simp [hc])) (by simpa using hi)]
theorem flat_drop {k : Nat} : ∀ {cs : List (List SV)} (i : Nat) (zz : List SV), (∀ c ∈ cs, c.length = k) → i ≤ cs.length → (cs.flatten ++ zz).drop (i * k) = (cs.drop i).flatten ++ zz
  | cs, 0, zz, _, _ => by simp
  | [], i + 1, zz, _, hi => by simp at hi
  | c :: cs, i + 1, zz, h, hi => by
    have hc := h c (by simp)
    rw [List.flatten_cons, List.append_assoc, Nat.add_mul, Nat.one_mul, Nat.add_comm, ← hc, ← List.drop_drop, List.drop_left, List.drop_succ_cons, hc, flat_drop i zz (fun c hc => h c (by simp [hc])) (by simpa using hi)]
theorem flat_at {k : Nat} {cs : List (List SV)} {zz : List SV} (h : ∀ c ∈ cs, c.length = k) {i : Nat} {c : List SV} (hi : cs[i]? = some c) : ((cs.flatten ++ zz).drop (i * k)).take k = c := by
  obtain ⟨hl, rfl⟩ := List.getElem?_eq_some_iff.1 hi
  have hc := h _ (List.getElem_mem hl)
  rw [flat_drop i zz h (by omega), List.drop_eq_getElem_cons hl, List.flatten_cons, List.append_assoc, List.take_append_of_le_length (by omega), List.take_of_length_le (by omega)]
theorem flat_get {k : Nat} {cs : List (List SV)} {zz : List SV} (h : ∀ c ∈ cs, c.length = k) {i j : Nat} {c : List SV} (hi : cs[i]? = some c) (hj : j < k) : (cs.flatten ++ zz)[i * k + j]? = c[j]? := by
  rw [← flat_at (zz := zz) h hi, List.getElem?_take_of_lt hj, List.getElem?_drop]
theorem flat_set {k : Nat} : ∀ {cs : List (List SV)} {zz : List SV} (i : Nat) {j : Nat} {c : List SV} (v : SV), (∀ c ∈ cs, c.length = k) → cs[i]? = some c → j < k → (cs.flatten ++ zz).set (i * k + j) v = (cs.set i (c.set j v)).flatten ++ zz
  | [], _, _, _, _, _, _, hi, _ => by simp at hi
  | d :: cs, zz, 0, j, c, v, h, hi, hj => by
    simp only [List.getElem?_cons_zero, Option.some.injEq] at hi
    subst hi
    have hc := h d (by simp)
    rw [Nat.zero_mul, Nat.zero_add, List.flatten_cons, List.append_assoc, List.set_append_left _ _ (by omega), List.set_cons_zero, List.flatten_cons, List.append_assoc]
  | d :: cs, zz, i + 1, j, c, v, h, hi, hj => by
    have hc := h d (by simp)
    have ih := flat_set (cs := cs) (c := c) (zz := zz) i v (fun c hc => h c (by simp [hc])) (by simpa using hi) hj
    rw [List.flatten_cons, List.append_assoc, List.set_append_right _ _ (by rw [hc, Nat.add_mul]; omega), hc, show (i + 1) * k + j - k = i * k + j by rw [Nat.add_mul]; omega, ih, List.set_cons_succ, List.flatten_cons, List.append_assoc]
end flat
def Lst (M : List Blk) (k : Nat) (x : SV) (cs : List (List SV)) : Prop :=
  cs.length ≤ 140737488355000 ∧ (∀ c ∈ cs, c.length = k ∧ c.all SV.one = true) ∧ ((x = .sn ∧ cs = []) ∨ (∃ a, x = .raw (.slice (some a) 0 0) ∧ cs = []) ∨ ∃ n cap zz, x = .sl n 0 cs.length cap ∧ n < M.length ∧ cellsAt M n = cs.flatten ++ zz ∧ There M n cap cs.length)
def Own (M : List Blk) (k : Nat) (x : SV) (cs : List (List SV)) : Prop :=
  cs.length ≤ 1000000 ∧ (∀ c ∈ cs, c.length = k ∧ c.all SV.one = true) ∧ ((x = .sn ∧ cs = []) ∨ ∃ n cap zz ty, x = .sl n 0 cs.length cap ∧ M[n]? = some (.row (cs.flatten ++ zz) ty) ∧ cs.length * k + zz.length = cap * k)
theorem Lst.one {M : List Blk} {k : Nat} {x : SV} {cs : List (List SV)} (h : Lst M k x cs) : x.one = true := by
  obtain ⟨_, _, ⟨rfl, _⟩ | ⟨a, rfl, _⟩ | ⟨n, cap, zz, rfl, _⟩⟩ := h <;> rfl
theorem Lst.lt {M : List Blk} {k : Nat} {x : SV} {cs : List (List SV)} (h : Lst M k x cs) : x.lt M.length = true := by
  obtain ⟨_, _, ⟨rfl, _⟩ | ⟨a, rfl, _⟩ | ⟨n, cap, zz, rfl, h, _⟩⟩ := h
  · rfl
  · rfl
  · simpa [SV.lt] using h
theorem Lst.lenB {M M' : List Blk} {k : Nat} {x : SV} {cs : List (List SV)} (h : Lst M k x cs) {e a b : Nat} {K : SV → Prop} : lenB (.slice e a b) M' x K = K (.i .i64 cs.length) := by
  obtain ⟨_, _, ⟨rfl, rfl⟩ | ⟨a, rfl, rfl⟩ | ⟨n, cap, zz, rfl, _⟩⟩ := h <;> rfl
theorem Lst.ag {S : Nat → Prop} {M M' : List Blk} {k : Nat} {x : SV} {cs : List (List SV)} (h : Lst M k x cs) (hA : Ag S M M') (hn : NmG (fun d => ¬ S d) x) : Lst M' k x cs := by
  obtain ⟨h0, h1, h | h | ⟨n, cap, zz, rfl, h, h2, ht⟩⟩ := h
  · exact ⟨h0, h1, .inl h⟩
  · exact ⟨h0, h1, .inr (.inl h)⟩
  · refine ⟨h0, h1, .inr (.inr ⟨n, cap, zz, rfl, Nat.lt_of_lt_of_le h hA.1, ?_, ht.ag hA h (hn n rfl)⟩)⟩
    unfold cellsAt at *; rw [hA.2 n h (hn n rfl)]; exact h2
theorem Lst.sn {M : List Blk} {k : Nat} : Lst M k .sn [] := ⟨by simp, by simp, .inl ⟨rfl, rfl⟩⟩
theorem Lst.at {M : List Blk} {k : Nat} {x : SV} {cs : List (List SV)} (h : Lst M k x cs) (hl : 0 < cs.length) : ∃ n cap, x = .sl n 0 cs.length cap ∧ n < M.length ∧ (cs.length * k ≤ (cellsB M[n]?).length) ∧
    ∀ i c, cs[i]? = some c → ((cellsB M[n]?).drop (i * k)).take k = c ∧ c.length = k ∧ i * k + k ≤ (cellsB M[n]?).length ∧ ∀ j, j < k → (cellsB M[n]?)[i * k + j]? = c[j]? := by
  obtain ⟨h0, h1, ⟨rfl, rfl⟩ | ⟨a, rfl, rfl⟩ | ⟨n, cap, zz, rfl, h, h2, ht⟩⟩ := h
  · cases hl
  · cases hl
  · have e : cellsB M[n]? = cs.flatten ++ zz := h2
    replace h1 : ∀ c ∈ cs, c.length = k := fun c hc => (h1 c hc).1
    have hfl := flat_length h1
    refine ⟨n, cap, rfl, h, by rw [e, List.length_append, hfl]; omega, fun i c hi => ?_⟩
    rw [e]
    have hil := (List.getElem?_eq_some_iff.1 hi).1
    have : (i + 1) * k ≤ cs.length * k := Nat.mul_le_mul_right k (by omega)
    rw [Nat.add_mul, Nat.one_mul] at this
    exact ⟨flat_at h1 hi, h1 c (List.mem_of_getElem? hi), by rw [List.length_append, hfl]; omega, fun j hj => flat_get h1 hi hj⟩
theorem Lst.src {M : List Blk} {k : Nat} {x : SV} {cs : List (List SV)} (h : Lst M k x cs) : ∀ K : List SV → Nat → Prop, K cs.flatten cs.length → srcC M k x K := by
  obtain ⟨h0, h1, ⟨rfl, rfl⟩ | ⟨a, rfl, rfl⟩ | ⟨n, cap, zz, rfl, h, h2, ht⟩⟩ := h
  · exact fun K hK => hK
  · exact fun K hK => hK
  · intro K hK
    have hfl := flat_length (k := k) (fun c hc => (h1 c hc).1)
    simp only [srcC, h2, Nat.zero_add, List.drop_zero]
    refine ⟨by rw [List.length_append, hfl]; omega, ?_⟩
    rw [← hfl, List.take_left]; exact hK
theorem Own.lst {M : List Blk} {k : Nat} {x : SV} {cs : List (List SV)} (h : Own M k x cs) (hk : 0 < k) : Lst M k x cs := by
  obtain ⟨h0, h1, ⟨rfl, rfl⟩ | ⟨n, cap, zz, ty, rfl, h, h2⟩⟩ := h
  · exact Lst.sn
  · refine ⟨by omega, h1, .inr (.inr ⟨n, cap, zz, rfl, kwMem h, by simp [cellsAt, h], ?_⟩)⟩
    by_cases e : cs.flatten ++ zz = []
    · obtain ⟨e1, rfl⟩ := List.append_eq_nil_iff.1 e
      have hfl := flat_length (k := k) (cs := cs) (fun c hc => (h1 c hc).1)
      rw [e1] at hfl
      simp only [List.length_nil] at hfl h2
      have hc : cs.length = 0 := by
        rcases Nat.mul_eq_zero.1 hfl.symm with h | h
        · exact h
        · omega
      have hcap : cap = 0 := by
        rw [hc] at h2
        rcases Nat.mul_eq_zero.1 (show cap * k = 0 by omega) with h | h
        · exact h
        · omega
      rw [List.append_nil, e1] at h
      exact .inr ⟨hcap, hc, ty, h⟩
    · refine .inl ?_
      have := List.length_pos_iff.2 e
      rw [liveN_eq, h]
      simp only [liveB_row, decide_eq_true_eq]
      exact this
theorem Own.ag {S : Nat → Prop} {M M' : List Blk} {k : Nat} {x : SV} {cs : List (List SV)} (h : Own M k x cs) (hA : Ag S M M') (hn : NmG (fun d => ¬ S d) x) : Own M' k x cs := by
  obtain ⟨h0, h1, h | ⟨n, cap, zz, ty, rfl, h, h2⟩⟩ := h
  · exact ⟨h0, h1, .inl h⟩
  · exact ⟨h0, h1, .inr ⟨n, cap, zz, ty, rfl, hA.get h (hn n rfl), h2⟩⟩
theorem Own.app {M L : List Blk} {k : Nat} {x : SV} {cs : List (List SV)} (h : Own M k x cs) : Own (M ++ L) k x cs := h.ag (S := fun _ => False) Ag.app (fun _ _ e => e)
theorem Own.dn {M : List Blk} {k : Nat} {x : SV} {cs : List (List SV)} (h : Own M k x cs) : NmG (· < M.length) x := by
  intro d e
  obtain ⟨_, _, ⟨rfl, _⟩ | ⟨n, cap, zz, ty, rfl, h, _⟩⟩ := h
  · cases e
  · cases e; exact kwMem h
theorem Own.one {M : List Blk} {k : Nat} {x : SV} {cs : List (List SV)} (h : Own M k x cs) : x.one = true := by
  obtain ⟨_, _, ⟨rfl, _⟩ | ⟨n, cap, zz, ty, rfl, _⟩⟩ := h <;> rfl
theorem Own.sn {M : List Blk} {k : Nat} : Own M k .sn [] := ⟨by simp, by simp, .inl ⟨rfl, rfl⟩⟩
/-! elements -/
theorem NmG.and {G G' : Nat → Prop} {x : SV} (h : NmG G x) (h' : NmG G' x) : NmG (fun n => G n ∧ G' n) x := fun d e => ⟨h d e, h' d e⟩
theorem appK {T : Tab} {M : List Blk} {ts tx e eby k : Nat} {K : SV → List Blk → Prop} {s x : SV} {z : List SV} (cs ys : List (List SV)) (htk : T.k ts = .slice e k eby) (he0 : 0 < eby) (he : eby ≤ 4096) (hk : 0 < k) (hz : T.z e = some z) (hzl : z.length = k) (hx : nonInt (T.k tx) = true)
    (h : Own M k s cs) (hys : ∀ c ∈ ys, c.length = k ∧ c.all SV.one = true) (hsrc : ∀ K : List SV → Nat → Prop, K ys.flatten ys.length → srcC M k x K) (hb : cs.length + ys.length ≤ 1000000)
    (hK : ∀ M' s', Own M' k s' (cs ++ ys) → NmG (fun n => n = M.length) s' → Ag (fun n => dnS s = some n) M M' → K s' M') : appendC T M ts tx s x K := by
  have hyl := flat_length (k := k) (cs := ys) (fun c hc => (hys c hc).1)
  obtain ⟨h0, h1, ⟨rfl, rfl⟩ | ⟨n, cap, zz, ty, rfl, h2, h3⟩⟩ := h
  · refine .inr (.inl ?_)
    unfold appendN
    rw [htk]
    refine ⟨hx, he0, hk, z, hz, hsrc _ ⟨fun hlt => ?_, fun c sp ty' hc hsp hmm => ?_⟩⟩
    · have := growslice_fits (need := ys.length) (old := 0) (bytes := eby) hlt (by
        have : ys.length * eby ≤ 1048577 * 4096 := Nat.mul_le_mul (by simp at hb; omega) he
        omega)
      omega
    · refine hK _ _ ⟨by simpa using hb, by simpa using hys, .inr ⟨M.length, c, sp, ty', by simp, by rw [get_app0]; rfl, ?_⟩⟩ (fun d e => by cases e; rfl) (Ag.app)
      rw [List.nil_append, hsp, Nat.sub_mul]; have := Nat.mul_le_mul_right k hc; omega
  · have hcl := flat_length (k := k) (cs := cs) (fun c hc => (h1 c hc).1)
    have hce : cellsAt M n = cs.flatten ++ zz := by simp [cellsAt, h2]
    have hlc : cs.length ≤ cap := by
      have : cs.length * k ≤ cap * k := by omega
      exact Nat.le_of_mul_le_mul_right this hk
    refine .inr (.inl ?_)
    unfold appendN
    rw [htk]
    refine ⟨hx, he0, hk, z, hz, hsrc _ ?_⟩
    refine ⟨rfl, hlc, ⟨_, ty, h2, by rw [List.length_append, hcl]; omega⟩, fun hlt => ?_, fun c sp ty' hc hsp hmm => ?_⟩
    · have := growslice_fits (need := cs.length + ys.length) (old := cap) (bytes := eby) hlt (by
        have : (cs.length + ys.length) * eby ≤ 1048577 * 4096 := Nat.mul_le_mul (by omega) he
        omega)
      omega
    · rw [hce, ← hcl, List.take_left]
      refine hK _ _ ⟨by simpa using hb, fun c hc => ?_, .inr ⟨M.length, c, sp, ty', by simp, ?_, ?_⟩⟩ (fun d e => by cases e; rfl) (Ag.trans (S' := fun _ => False) (Ag.set rfl) Ag.app (fun n _ e => e.elim))
      · rcases List.mem_append.1 hc with hc | hc
        · exact h1 c hc
        · exact hys c hc
      · have : M.length = (M.set n .dead).length := by simp
        conv => lhs; rw [this]
        rw [get_app0, List.flatten_append]; rfl
      · rw [List.length_append, hsp, Nat.sub_mul]; have := Nat.mul_le_mul_right k hc; omega
theorem src_one {M : List Blk} {n k cap : Nat} {c : List SV} {ty : TypeId} (h : M[n]? = some (.row c ty)) (hc : c.length = k) : ∀ K : List SV → Nat → Prop, K [c].flatten [c].length → srcC M k (.sl n 0 1 cap) K := by
  intro K hK
  simp only [srcC, cellsAt, h, Nat.zero_add, Nat.one_mul, List.drop_zero]
  refine ⟨by omega, ?_⟩
  rw [List.take_of_length_le (by omega)]
  simpa using hK
theorem same_byt (M : List Blk) (x y : SV) (a b : List (BitVec 8)) (K : SV → List Blk → Prop) (ha : Byt M x a) (hb : Byt M y b) (hK : K (.b (a == b)) M) :
    callVC Tryz.prog 9 [x, y] M K := by
  have la : ∀ {M' : List Blk} {e a' b' : Nat} {K : SV → Prop}, lenB (.slice e a' b') M' x K = K (.i .i64 a.length) := ha.lenB
  have lb : ∀ {M' : List Blk} {e a' b' : Nat} {K : SV → Prop}, lenB (.slice e a' b') M' y K = K (.i .i64 b.length) := hb.lenB
  have ha0 := ha.1
  have hb0 := hb.1
  refine fn_rule tabOK Tryz.func9 rfl Tryz.call9 (by kernel_rfl) (fun hM => ?_)
  (refine top_in ?_; simp -implicitDefEqProofs only [Tryz.ntmps9, Tryz.results9, go_sem, -List.reduceReplicate, ↓L_gdZ_tt, ↓L_gdZ_tf, ↓L_gdZ_ft, ↓L_gdZ_ff, ↓T_and, ↓T_imp, ↓T_all, la, lb]; try simp only [top_out])
  refine ⟨fun h => ?_, fun h => ?_⟩
  · refine dropC_self hM rfl ?_
    have : (a == b) = false := by
      rw [beq_eq_false_iff_ne]; intro e; subst e; simp at h
    rw [this] at hK; exact hK
  · have hl : a.length = b.length := by simp at h; omega
    clear h
    refine loop_code tabOK (by kernel_rfl) (fun m ts M' => ∃ k : Nat, k + m = a.length ∧ a.take k = b.take k ∧ M' = M ∧ frC [some (x), some (y), none, none, none, some (.i .i64 k), none, none, none, none, none, none, none, none, none, none, none, none, none, none, none, none, none, none, none, none] ts) a.length ?_ ?_
    · exact ⟨0, by omega, rfl, rfl, by simp [frC]⟩
    · rintro m ts _ ⟨k, hk, he, rfl, hf⟩
      obtain ⟨f, rfl⟩ := frC_open _ _ 0 hf
      clear hf
      (refine top_in ?_; simp -implicitDefEqProofs only [go_sem, -List.reduceReplicate, ↓L_gdZ_tt, ↓L_gdZ_tf, ↓L_gdZ_ft, ↓L_gdZ_ff, ↓T_and, ↓T_imp, ↓T_all, la, lb]; try simp only [top_out])
      refine ⟨fun h => ?_, fun h => ?_⟩
      · have hka : k < a.length := by omega
        obtain ⟨n1, o1, cap1, rfl, l1, ea⟩ := ha.at (by omega)
        obtain ⟨n2, o2, cap2, rfl, l2, eb⟩ := hb.at (by omega)
        obtain ⟨g1, g2, g3⟩ := ea k (by omega)
        obtain ⟨g4, g5, g6⟩ := eb k (by omega)
        refine draw_rule tabOK (by kernel_rfl : _) (.p 0 (.p 1 (.p 2 (.p 3 (.p 4 (.p 5 (.p 6 (.p 7 (.p 8 .nil))))))))) (by kernel_rfl) (by kernel_rfl) ?_
        (refine top_in ?_; simp -implicitDefEqProofs only [go_sem, -List.reduceReplicate, ↓L_gdZ_tt, ↓L_gdZ_tf, ↓L_gdZ_ft, ↓L_gdZ_ff, ↓T_and, ↓T_imp, ↓T_all, g1, g2, g3, g4, g5, g6]; try simp only [top_out])
        refine ⟨by omega, by omega, by omega, by omega, fun h1 => dropC_self hM rfl ?_, fun h1 => ⟨m - 1, by omega, k + 1, by omega, ?_, w64 (by omega) (by omega)⟩⟩
        · have : (a == b) = false := by
            rw [beq_eq_false_iff_ne]; intro e; subst e; simp at h1
          rw [this] at hK; exact hK
        · rw [take_snoc (by omega), take_snoc (by omega), he]
          rw [eq_of_beq (by simpa using h1 : (a.getD k 0#8 == b.getD k 0#8) = true)]
      · have hka : k = a.length := by omega
        subst hka
        have e := same_take hl he
        subst e
        refine dropC_self hM rfl ?_
        simpa using hK
theorem bytes_byr (x : SV) (l : List (BitVec 8)) (M : List Blk) (K : SV → List Blk → Prop) (h : Byt M x l)
    (hK : ∀ M' y, Byt M' y l → NmG (fun n => M.length ≤ n) y → RowF M' y → Ag (fun _ => False) M M' → K y M') :
    callVC Tryz.prog 12 [x] M K := by
  have la : ∀ {M' : List Blk} {e a' b' : Nat} {K : SV → Prop}, lenB (.slice e a' b') M' x K = K (.i .i64 l.length) := h.lenB
  have hl := h.1
  refine fn_rule tabOK Tryz.func12 rfl Tryz.call12 (by kernel_rfl) (fun hM => ?_)
  (refine top_in ?_; simp -implicitDefEqProofs only [Tryz.ntmps12, Tryz.results12, go_sem, -List.reduceReplicate, ↓L_gdZ_tt, ↓L_gdZ_tf, ↓L_gdZ_ft, ↓L_gdZ_ff, ↓T_and, ↓T_imp, ↓T_all]; try simp only [top_out])
  refine loop_code tabOK (by kernel_rfl) (fun m ts M' => ∃ (k : Nat) (s : SV), k + m = l.length ∧ Ag (fun _ => False) M M' ∧ ((s = .sn ∧ k = 0) ∨ ∃ n z ty, s = .sl n 0 k (k + z.length) ∧ M'[n]? = some (.row (bS (l.take k ++ z)) ty) ∧ M.length ≤ n) ∧ frC [some (x), none, none, some (s), some (.i .i64 k), none, none, none, none, none, none, none, none, none, none, none, none, none, none] ts) l.length ?_ ?_
  · exact ⟨0, .sn, by omega, Ag.refl, .inl ⟨rfl, rfl⟩, by simp [frC]⟩
  · rintro m ts M1 ⟨k, s, hk, hA, hs, hf⟩
    have hm := hA.1
    obtain ⟨f, rfl⟩ := frC_open _ _ 0 hf
    clear hf
    (refine top_in ?_; simp -implicitDefEqProofs only [go_sem, -List.reduceReplicate, ↓L_gdZ_tt, ↓L_gdZ_tf, ↓L_gdZ_ft, ↓L_gdZ_ff, ↓T_and, ↓T_imp, ↓T_all, la]; try simp only [top_out])
    refine ⟨fun h1 => ?_, fun h1 => ?_⟩
    · obtain ⟨n1, o1, cap1, rfl, l1, ea⟩ := (h.ag hA (fun _ _ e => e)).at (by omega)
      obtain ⟨g1, g2, g3⟩ := ea k (by omega)
      (refine top_in ?_; simp -implicitDefEqProofs only [go_sem, -List.reduceReplicate, ↓L_gdZ_tt, ↓L_gdZ_tf, ↓L_gdZ_ft, ↓L_gdZ_ff, ↓T_and, ↓T_imp, ↓T_all, g1, g2, g3]; try simp only [top_out])
      refine ⟨by omega, by omega, by decide, ?_⟩
      rcases hs with ⟨rfl, rfl⟩ | ⟨n, z, ty, rfl, hr, hn⟩
      · refine app8n [l.getD 0 0#8] rfl rfl rfl (src_u8 (by rw [get_app0]; rfl)) (by simp) (fun z' ty' => ?_)
        (refine top_in ?_; simp -implicitDefEqProofs only [go_sem, -List.reduceReplicate, ↓L_gdZ_tt, ↓L_gdZ_tf, ↓L_gdZ_ft, ↓L_gdZ_ff, ↓T_and, ↓T_imp, ↓T_all]; try simp only [top_out])
        refine ⟨m - 1, by omega, 1, .sl (M1.length + 1) 0 1 (1 + z'.length), by omega, Ag.trans hA Ag.app (fun _ _ e => e), .inr ⟨M1.length + 1, z', ty', rfl, ?_, by omega⟩, rfl, w64 (by omega) (by omega)⟩
        have : l.take 1 = [l.getD 0 0#8] := by simpa using take_snoc (l := l) (k := 0) (by omega)
        rw [get_app, this]; rfl
      · have hl2 := kwMem hr
        refine app8 n (l.take k) z [l.getD k 0#8] ty rfl rfl rfl (by rw [get_lt hl2]; exact hr) (by simp; omega) (by simp; omega) (src_u8 (by rw [get_app0]; rfl)) (by simp; omega) (fun z' ty' => ?_)
        (refine top_in ?_; simp -implicitDefEqProofs only [go_sem, -List.reduceReplicate, ↓L_gdZ_tt, ↓L_gdZ_tf, ↓L_gdZ_ft, ↓L_gdZ_ff, ↓T_and, ↓T_imp, ↓T_all]; try simp only [top_out])
        have hmin : min k l.length = k := by omega
        refine ⟨m - 1, by omega, k + 1, .sl (M1.length + 1) 0 (k + 1) (k + 1 + z'.length), by omega, ?_, .inr ⟨M1.length + 1, z', ty', rfl, ?_, by omega⟩, by rw [List.length_take, hmin, Nat.add_assoc], w64 (by omega) (by omega)⟩
        · exact Ag.trans hA (S' := fun q => q = n) (Ag.trans (S' := fun q => q = n) (Ag.app (S := fun q => q = n)) (Ag.trans (S' := fun _ => False) (Ag.set rfl) Ag.app (fun _ _ e => e.elim)) (fun _ _ e => e)) (fun q h1 h2 => by omega)
        · rw [get_last (by simp), take_snoc (by omega)]; simp [bS]
    · obtain rfl : k = l.length := by omega
      rw [List.take_length] at hs
      rcases hs with ⟨rfl, h0⟩ | ⟨n, z, ty, rfl, hr, hn⟩
      · exact dropC_all hm (hK M1 .sn (by rw [List.length_eq_zero_iff.1 h0]; exact Byt.sn) NmG.sn RowF.sn hA)
      · exact dropC_all hm (hK M1 _ (Byt.row hr hl) (fun d e => by cases e; exact hn) (fun d e => by cases e; exact ⟨_, _, hr⟩) hA)
theorem bytes_byt (x : SV) (l : List (BitVec 8)) (M : List Blk) (K : SV → List Blk → Prop) (h : Byt M x l)
    (hK : ∀ M' y, Byt M' y l → NmG (fun n => M.length ≤ n) y → Ag (fun _ => False) M M' → K y M') :
    callVC Tryz.prog 12 [x] M K := bytes_byr x l M K h (fun M' y h1 h2 _ h4 => hK M' y h1 h2 h4)
end Go.Proofs.YtdkdbeamimkljaaGreatDoor.Eng
