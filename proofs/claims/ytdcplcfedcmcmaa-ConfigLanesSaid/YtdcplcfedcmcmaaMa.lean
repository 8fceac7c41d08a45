/- Joined texts: C0, C1, Ca, Cb, Cc, Ch. -/
import Derived.Test.YtdcplcfedcmcmaaTab
import Derived.Test.YtdcplcfedcmcmaaEngM
import Derived.Test.YtdcplcfedcmcmaaEngQ
/- What a call leaves, seen under other names. -/
namespace Go.Proofs.Ytdcplcfedcmcmaa.Eng
open Go Go.RowKit
set_option linter.unusedSimpArgs false
set_option linter.unusedVariables false
attribute [go_sem_proc] Nat.reduceBEq Nat.reduceAdd Nat.reduceSub Nat.reduceMul Nat.reduceLT Nat.reduceLeDiff Nat.reduceEqDiff Int.reduceLT Int.reduceLE Int.reduceAdd Int.reduceSub Int.reduceMul Int.reduceNeg Int.reduceToNat Int.reduceEq Int.reduceNe reduceIte reduceCtorEq BitVec.reduceOfInt BitVec.reduceToNat

/-- an answer that is a bool, nothing else left -/
theorem dropB {M L : List Blk} {b b' : Bool} {K : SV → List Blk → Prop} (hM : ∀ (n : Nat) (B : Blk), M[n]? = some B → B.lt M.length = true) (hK : K (.b b) M) (h : b = b') : dropC M.length (.b b') (M ++ L) K :=
  dropC_append hM rfl (h ▸ hK)
theorem dropB0 {M : List Blk} {b b' : Bool} {K : SV → List Blk → Prop} (hM : ∀ (n : Nat) (B : Blk), M[n]? = some B → B.lt M.length = true) (hK : K (.b b) M) (h : b = b') : dropC M.length (.b b') M K :=
  dropC_self hM rfl (h ▸ hK)

/-- what a call leaves, seen under other names -/
theorem callVC_drop {P : Program} {f : FuncId} {args : List SV} {M : List Blk} {K : SV → List Blk → Prop} (h : callVC P f args M (fun v M' => dropC M.length v M' K)) : callVC P f args M K := by
  rcases h with h | ⟨e, hc, hsem⟩
  · exact .inl ⟨h.1, fun G ρ w hs hl => (h.2 G ρ w hs hl).mono fun _ _ ⟨ρ', v, M', h1, h2, h3, h4, h5, h6⟩ => by
      obtain ⟨ρ2, v2, M2, g1, g2, g3, g4, g5, g6⟩ := h6 G ρ' _ hs.base h3 h4
      exact ⟨ρ2, v2, M2, h1.trans g1 (Nat.le_refl _), g2, g3, g4, by rw [g5]; exact h5, g6⟩⟩
  · refine .inr ⟨e, hc, fun hl G ρ w hs => ?_⟩
    obtain ⟨ρ', v, M', w', hr, h1, h2, h3, h4, h6⟩ := hsem hl G ρ w hs
    obtain ⟨ρ2, v2, M2, g1, g2, g3, g4, g5, g6⟩ := h6 G ρ' _ hs.base h3 h4
    exact ⟨ρ2, v2, M2, w', by rw [g5]; exact hr, h1.trans g1 (Nat.le_refl _), g2, g3, g4, g6⟩
theorem drop8n0 {M : List Blk} {K : SV → List Blk → Prop} {ty : TypeId} (hM : ∀ (n : Nat) (B : Blk), M[n]? = some B → B.lt M.length = true)
    (hK : K (.sl M.length 0 0 0) (M ++ [.row (bS []) ty])) : dropC M.length .sn M K := by
  have := drop8n (L := []) (ty := ty) hM hK
  rwa [List.append_nil] at this
theorem drop8nt {M : List Blk} {K : SV → List Blk → Prop} {ty : TypeId} {e : Int} (hM : ∀ (n : Nat) (B : Blk), M[n]? = some B → B.lt M.length = true)
    (hK : K (.tup [.sl M.length 0 0 0, .i .i64 e]) (M ++ [.row (bS []) ty])) : dropC M.length (.tup [.sn, .i .i64 e]) M K := by
  have := dropC_gc (L := []) (v := .tup [.sn, .i .i64 e]) (K := K) hM [none] (.tup [.sl M.length 0 0 0, .i .i64 e]) [.row [] ty] rfl ⟨rfl, trivial⟩ (by simp [Blk.lt, ltL]) (by simp [SV.lt, ltL]) (fun ρ => ?_) hK
  · rwa [List.append_nil] at this
  · have h0 : den ρ ((SV.sl M.length 0 0 0).rn (tau M.length [none])) = den ρ .sn := rn_nil
    simp only [rn_tup, rnL_cons, rnL_nil, rn_i]
    simp only [den, denL] at h0 ⊢
    rw [h0]
/-- the memory of a call is well named -/
theorem callVC_names {P : Program} {f : FuncId} {args : List SV} {M : List Blk} {K : SV → List Blk → Prop} (h : (∀ (n : Nat) (B : Blk), M[n]? = some B → B.lt M.length = true) → callVC P f args M K) (hc : ∀ xs w, (callFunc f xs).run P w = .ok (.enter f xs) w) : callVC P f args M K :=
  .inl ⟨hc, fun G ρ w hs hl => (callVC_E hc (h hs.lt)).2 G ρ w hs hl⟩

theorem drop0 {v : SV} {M : List Blk} {K : SV → List Blk → Prop} (hv : v.lt 0 = true) (hK : K v []) : dropC 0 v M K :=
  dropC_append (M := []) (N := M) (fun _ _ h => by simp at h) hv hK
/-- an answer of a list, or nil, and a bool -/
theorem drop8nb {M : List Blk} {K : SV → List Blk → Prop} {ty : TypeId} {e : Bool} (hM : ∀ (n : Nat) (B : Blk), M[n]? = some B → B.lt M.length = true)
    (hK : K (.tup [.sl M.length 0 0 0, .b e]) (M ++ [.row (bS []) ty])) : dropC M.length (.tup [.sn, .b e]) M K := by
  have := dropC_gc (L := []) (v := .tup [.sn, .b e]) (K := K) hM [none] (.tup [.sl M.length 0 0 0, .b e]) [.row [] ty] rfl ⟨rfl, trivial⟩ (by simp [Blk.lt, ltL]) (by simp [SV.lt, ltL]) (fun ρ => ?_) hK
  · rwa [List.append_nil] at this
  · have h0 : den ρ ((SV.sl M.length 0 0 0).rn (tau M.length [none])) = den ρ .sn := rn_nil
    simp only [rn_tup, rnL_cons, rnL_nil, rn_b]
    simp only [den, denL] at h0 ⊢
    rw [h0]
/-- a nil list handed in, seen as an empty one under a new name -/
theorem call_nil' {P : Program} {f : FuncId} (a b : List SV) {M L : List Blk} {K : SV → List Blk → Prop} (k : Nat) (hk : k = L.length) (h : callVC P f (a ++ .sl (M.length + k) 0 0 0 :: b) (M ++ (L ++ [.row (bS []) 0])) K) : callVC P f (a ++ .sn :: b) (M ++ L) K := by
  subst hk
  refine call_nil 0 ?_
  rw [List.length_append, List.append_assoc]
  exact h
end Go.Proofs.Ytdcplcfedcmcmaa.Eng

/- Memory: blocks turned, frames (as in N3, O1, O2, O8, O9). -/
namespace Go.Proofs.Ytdcplcfedcmcmaa.Eng
open Go Go.RowKit
set_option linter.unusedSimpArgs false
set_option linter.unusedVariables false
set_option linter.unusedSimpArgs false
set_option linter.unusedVariables false

theorem set_lt {M L : List Blk} {a : Nat} {B : Blk} (h : a < M.length) : (M ++ L).set a B = M.set a B ++ L := List.set_append_left _ _ h

/-- a memory with one block turned is well named -/
theorem names_set {M : List Blk} {a : Nat} {B : Blk} (hM : ∀ (n : Nat) (B : Blk), M[n]? = some B → B.lt M.length = true) (hB : B.lt M.length = true) : ∀ (n : Nat) (C : Blk), (M.set a B)[n]? = some C → C.lt (M.set a B).length = true := by
  intro n C hC
  rw [List.length_set]
  by_cases e : a = n
  · subst e
    have ha : a < M.length := by
      have := (List.getElem?_eq_some_iff.1 hC).1
      simpa using this
    rw [List.getElem?_set_self ha] at hC; cases hC; exact hB
  · rw [List.getElem?_set_ne e] at hC; exact hM n C hC
theorem BAt.set {M : List Blk} {a n off : Nat} {B : Blk} {l : List (BitVec 8)} (h : BAt M n off l) (hne : a ≠ n) : BAt (M.set a B) n off l := by
  have e : cellsAt (M.set a B) n = cellsAt M n := by unfold cellsAt; rw [List.getElem?_set_ne hne]
  exact ⟨by rw [List.length_set]; exact h.lt, by rw [e]; exact h.len, by rw [e]; exact h.cells⟩
theorem live_set {M : List Blk} {a n : Nat} {B : Blk} (h : liveN M n = true) (hne : a ≠ n) : liveN (M.set a B) n = true := by
  unfold liveN at *; rwa [List.getElem?_set_ne hne]
theorem live_app {M L : List Blk} {n : Nat} (h : liveN M n = true) (hn : n < M.length) : liveN (M ++ L) n = true := by
  unfold liveN at *; rwa [List.getElem?_append_left hn]
theorem kw {n : Nat} {B : Blk} {M : List Blk} (h : M[n]? = some B) : n < M.length := (List.getElem?_eq_some_iff.1 h).1

@[go_sem] theorem get_sapp {M L : List Blk} {a k : Nat} {B : Blk} : (M.set a B ++ L)[M.length + k]? = L[k]? := by
  have := get_app (M.set a B) L k
  rwa [List.length_set] at this
@[go_sem] theorem get_sapp0 {M L : List Blk} {a : Nat} {B : Blk} : (M.set a B ++ L)[M.length]? = L[0]? := get_sapp (k := 0)
@[go_sem] theorem set_sapp {M L : List Blk} {a k : Nat} {B C : Blk} : (M.set a B ++ L).set (M.length + k) C = M.set a B ++ L.set k C := by
  have := set_app (M.set a B) L k C
  rwa [List.length_set] at this
@[go_sem] theorem set_sapp0 {M L : List Blk} {a : Nat} {B C : Blk} : (M.set a B ++ L).set M.length C = M.set a B ++ L.set 0 C := set_sapp (k := 0)
@[go_sem] theorem get_sapp2 {M L : List Blk} {a b k : Nat} {B D : Blk} : ((M.set a B).set b D ++ L)[M.length + k]? = L[k]? := by
  have := get_app ((M.set a B).set b D) L k
  rwa [List.length_set, List.length_set] at this
@[go_sem] theorem get_sapp20 {M L : List Blk} {a b : Nat} {B D : Blk} : ((M.set a B).set b D ++ L)[M.length]? = L[0]? := get_sapp2 (k := 0)
@[go_sem] theorem set_sapp2 {M L : List Blk} {a b k : Nat} {B C D : Blk} : ((M.set a B).set b D ++ L).set (M.length + k) C = (M.set a B).set b D ++ L.set k C := by
  have := set_app ((M.set a B).set b D) L k C
  rwa [List.length_set, List.length_set] at this
@[go_sem] theorem set_sapp20 {M L : List Blk} {a b : Nat} {B C D : Blk} : ((M.set a B).set b D ++ L).set M.length C = (M.set a B).set b D ++ L.set 0 C := set_sapp2 (k := 0)
theorem set_slt {M L : List Blk} {a b : Nat} {B C : Blk} (h : b < M.length) : (M.set a B ++ L).set b C = (M.set a B).set b C ++ L := set_lt (by rw [List.length_set]; exact h)
theorem cellsS_one {x : SV} (h : x.one = true) : cellsS x = [x] := by
  cases x <;> first | rfl | cases h

/-- only blocks of S have changed -/
def Ag (S : Nat → Prop) (M M' : List Blk) : Prop := M.length ≤ M'.length ∧ ∀ n, n < M.length → ¬ S n → M'[n]? = M[n]?
theorem Ag.refl {S : Nat → Prop} {M : List Blk} : Ag S M M := ⟨Nat.le_refl _, fun _ _ _ => rfl⟩
theorem Ag.trans {S S' : Nat → Prop} {M M' M'' : List Blk} (h : Ag S M M') (h' : Ag S' M' M'') (hs : ∀ n, n < M.length → S' n → S n) : Ag S M M'' :=
  ⟨Nat.le_trans h.1 h'.1, fun n hn hS => (h'.2 n (Nat.lt_of_lt_of_le hn h.1) (fun h2 => hS (hs n hn h2))).trans (h.2 n hn hS)⟩
theorem Ag.mono {S S' : Nat → Prop} {M M' : List Blk} (h : Ag S M M') (hs : ∀ n, S n → S' n) : Ag S' M M' := ⟨h.1, fun n hn hS => h.2 n hn (fun h2 => hS (hs n h2))⟩
theorem Ag.app {S : Nat → Prop} {M L : List Blk} : Ag S M (M ++ L) := ⟨by simp, fun n hn _ => get_lt hn⟩
theorem Ag.set {S : Nat → Prop} {M : List Blk} {a : Nat} {B : Blk} (ha : S a) : Ag S M (M.set a B) :=
  ⟨by simp, fun n hn hS => List.getElem?_set_ne (fun e => hS (by rw [← e]; exact ha))⟩
theorem Ag.get {S : Nat → Prop} {M M' : List Blk} {n : Nat} {B : Blk} (h : Ag S M M') (hB : M[n]? = some B) (hn : ¬ S n) : M'[n]? = some B := by
  rw [h.2 n (kw hB) hn]; exact hB
theorem BAt.ag {S : Nat → Prop} {M M' : List Blk} {n off : Nat} {l : List (BitVec 8)} (h : BAt M n off l) (hA : Ag S M M') (hn : ¬ S n) : BAt M' n off l := by
  have e : cellsAt M' n = cellsAt M n := by unfold cellsAt; rw [hA.2 n h.lt hn]
  exact ⟨Nat.lt_of_lt_of_le h.lt hA.1, by rw [e]; exact h.len, by rw [e]; exact h.cells⟩
/-- what is new alone has changed -/
theorem Ag.ext {S : Nat → Prop} {M M' : List Blk} (h : Ag S M M') (hs : ∀ n, n < M.length → ¬ S n) : ∃ L, M' = M ++ L := by
  refine ⟨M'.drop M.length, ?_⟩
  have e : M'.take M.length = M := by
    apply List.ext_getElem?
    intro i
    rcases Nat.lt_or_ge i M.length with hi | hi
    · rw [List.getElem?_take_of_lt hi]; exact h.2 i hi (hs i hi)
    · rw [List.getElem?_eq_none (by simp; omega), List.getElem?_eq_none hi]
  rw [← e]
  have := h.1
  simp [List.length_take, Nat.min_eq_left this]
theorem dropC_ag {S : Nat → Prop} {M M' : List Blk} {v : SV} {K : SV → List Blk → Prop} (hM : ∀ (n : Nat) (B : Blk), M[n]? = some B → B.lt M.length = true) (hA : Ag S M M') (hs : ∀ n, n < M.length → ¬ S n) (hv : v.lt M.length = true) (hK : K v M) : dropC M.length v M' K := by
  obtain ⟨L, rfl⟩ := hA.ext hs
  exact dropC_append hM hv hK
theorem loop_from {P : Program} {bs : Nat} {c : Code} {ts : List SV} {M : List Blk} {Q : Exit → List SV → List Blk → Prop} (U : List Blk → Prop) (hU : U M) (h : U M → LoopVC P bs c ts M Q) : LoopVC P bs c ts M Q := h hU
theorem call_from {P : Program} {f : FuncId} {args : List SV} {M : List Blk} {K : SV → List Blk → Prop} (U : List Blk → Prop) (hU : U M) (h : ∀ M2, U M2 → callVC P f args M2 K) : callVC P f args M K := h M hU
theorem draw_from {P : Program} {bs id : Nat} {ops : Array Oper} {ts : List SV} {M : List Blk} {Q : Exit → List SV → List Blk → Prop} (U : List Blk → Prop) (hU : U M) (h : ∀ M2, U M2 → DrawVC P bs id ops ts M2 Q) : DrawVC P bs id ops ts M Q := h M hU
end Go.Proofs.Ytdcplcfedcmcmaa.Eng

/- Configurations in plain Lean: what a list of changes does. -/
namespace Go.Proofs.Ytdcplcfedcmcmaa.Eng
open Go Go.RowKit
set_option linter.unusedSimpArgs false
set_option linter.unusedVariables false

structure Pfx where
  fam : Int
  hi : BitVec 64
  lo : BitVec 64
  bits : Int
deriving DecidableEq
structure Pr where
  link : Int
  key : List (BitVec 8)
  pfx : List Pfx
deriving DecidableEq
structure Ln where
  key : List (BitVec 8)
  side : Int
  cur : Int
  next : Int
  sc : BitVec 64
  ce : BitVec 64
  sec : Int
  nano : Int
deriving DecidableEq
structure Ch where
  kind : Int
  link : Int
  side : Int
  key : List (BitVec 8)
  pfx : Pfx
deriving DecidableEq
structure St where
  ps : List Pr
  ls : List Ln

/-- the order of bytes -/
def ltB : List (BitVec 8) → List (BitVec 8) → Bool
  | [], [] => false
  | [], _ :: _ => true
  | _ :: _, [] => false
  | a :: l, b :: r => if a = b then ltB l r else decide (a.toNat < b.toNat)
theorem ltB_irr : ∀ a, ltB a a = false
  | [] => rfl
  | a :: l => by simp only [ltB, if_true]; exact ltB_irr l
theorem ltB_trans : ∀ {a b c : List (BitVec 8)}, ltB a b = true → ltB b c = true → ltB a c = true
  | [], [], _, h, _ => by simp [ltB] at h
  | [], _ :: _, [], _, h => by simp [ltB] at h
  | [], _ :: _, _ :: _, _, _ => rfl
  | _ :: _, [], _, h, _ => by simp [ltB] at h
  | _ :: _, _ :: _, [], _, h => by simp [ltB] at h
  | x :: a, y :: b, z :: c, h1, h2 => by
    simp only [ltB] at h1 h2 ⊢
    by_cases e1 : x = y
    · subst e1
      by_cases e2 : x = z
      · rw [if_pos e2]; rw [if_pos rfl] at h1; rw [if_pos e2] at h2; exact ltB_trans h1 h2
      · rw [if_neg e2] at h2 ⊢; exact h2
    · rw [if_neg e1] at h1
      by_cases e2 : y = z
      · subst e2; rw [if_neg e1]; exact h1
      · rw [if_neg e2] at h2
        have h1' := of_decide_eq_true h1
        have h2' := of_decide_eq_true h2
        rw [if_neg (by intro e; subst e; omega)]
        exact decide_eq_true (by omega)
theorem ltB_tri : ∀ (a b : List (BitVec 8)), ltB a b = false → ltB b a = false → a = b
  | [], [], _, _ => rfl
  | [], _ :: _, h, _ => by simp [ltB] at h
  | _ :: _, [], _, h => by simp [ltB] at h
  | x :: a, y :: b, h1, h2 => by
    simp only [ltB] at h1 h2
    by_cases e : x = y
    · subst e
      rw [if_pos rfl] at h1 h2
      rw [ltB_tri a b h1 h2]
    · rw [if_neg e] at h1
      rw [if_neg (fun e' => e e'.symm)] at h2
      have h1' := of_decide_eq_false h1
      have h2' := of_decide_eq_false h2
      exact absurd (BitVec.eq_of_toNat_eq (by omega)) e
theorem ltB_asym {a b : List (BitVec 8)} (h : ltB a b = true) : ltB b a = false := by
  cases e : ltB b a
  · rfl
  · have := ltB_trans h e
    rw [ltB_irr] at this; cases this
/-- bytes compared: -1, 0, 1 -/
def cmpB (a b : List (BitVec 8)) : Int := if ltB a b then -1 else if ltB b a then 1 else 0
theorem cmpB_lt {a b : List (BitVec 8)} : cmpB a b < 0 ↔ ltB a b = true := by
  unfold cmpB
  cases ltB a b <;> cases ltB b a <;> simp
theorem cmpB_eq {a b : List (BitVec 8)} : cmpB a b = 0 ↔ a = b := by
  unfold cmpB
  constructor
  · intro h
    cases e : ltB a b
    · cases e' : ltB b a
      · exact ltB_tri _ _ e e'
      · rw [e, e'] at h; simp at h
    · rw [e] at h; simp at h
  · rintro rfl
    rw [ltB_irr]; simp

def ordI (a b : Int) : Int := if a < b then -1 else if a > b then 1 else 0
def ordN (a b : BitVec 64) : Int := if a.toNat < b.toNat then -1 else if a.toNat > b.toNat then 1 else 0
/-- the first of them that is not 0 -/
def orI : List Int → Int
  | [] => 0
  | a :: l => if a = 0 then orI l else a
def cmpP (a b : Pfx) : Int := orI [ordI a.fam b.fam, ordI a.bits b.bits, ordN a.hi b.hi, ordN a.lo b.lo]
def ltP (a b : Pfx) : Prop := a.fam < b.fam ∨ (a.fam = b.fam ∧ (a.bits < b.bits ∨ (a.bits = b.bits ∧ (a.hi.toNat < b.hi.toNat ∨ (a.hi = b.hi ∧ a.lo.toNat < b.lo.toNat)))))
theorem ordI_lt {a b : Int} : ordI a b = -1 ↔ a < b := by unfold ordI; repeat' split <;> (constructor <;> intro h <;> omega)
theorem ordI_gt {a b : Int} : ordI a b = 1 ↔ b < a := by unfold ordI; repeat' split <;> (constructor <;> intro h <;> omega)
theorem ordI_eq {a b : Int} : ordI a b = 0 ↔ a = b := by unfold ordI; repeat' split <;> (constructor <;> intro h <;> omega)
theorem ordN_eq {a b : BitVec 64} : ordN a b = 0 ↔ a = b := by
  unfold ordN
  constructor
  · intro h
    refine BitVec.eq_of_toNat_eq ?_
    split at h
    · simp at h
    · split at h
      · simp at h
      · omega
  · rintro rfl; simp
theorem ordN_cases (a b : BitVec 64) : (ordN a b = -1 ∧ a.toNat < b.toNat) ∨ (ordN a b = 0 ∧ a = b) ∨ (ordN a b = 1 ∧ b.toNat < a.toNat) := by
  by_cases h1 : a.toNat < b.toNat
  · exact .inl ⟨by unfold ordN; rw [if_pos h1], h1⟩
  · by_cases h2 : a.toNat > b.toNat
    · exact .inr (.inr ⟨by unfold ordN; rw [if_neg h1, if_pos h2], h2⟩)
    · have e : a = b := BitVec.eq_of_toNat_eq (by omega)
      exact .inr (.inl ⟨ordN_eq.2 e, e⟩)
theorem ordI_cases (a b : Int) : (ordI a b = -1 ∧ a < b) ∨ (ordI a b = 0 ∧ a = b) ∨ (ordI a b = 1 ∧ b < a) := by
  by_cases h1 : a < b
  · exact .inl ⟨ordI_lt.2 h1, h1⟩
  · by_cases h2 : b < a
    · exact .inr (.inr ⟨ordI_gt.2 h2, h2⟩)
    · exact .inr (.inl ⟨ordI_eq.2 (by omega), by omega⟩)
/-- what a comparison comes to -/
theorem cmpP_cases (a b : Pfx) : (cmpP a b = -1 ∧ ltP a b) ∨ (cmpP a b = 0 ∧ a = b) ∨ (cmpP a b = 1 ∧ ltP b a) := by
  obtain ⟨fa, ha, la, ba⟩ := a
  obtain ⟨fb, hb, lb, bb⟩ := b
  unfold cmpP ltP
  simp only [orI]
  rcases ordI_cases fa fb with ⟨e1, h1⟩ | ⟨e1, h1⟩ | ⟨e1, h1⟩
  · left; rw [e1]; exact ⟨if_neg (by decide), .inl h1⟩
  · rw [e1, if_pos rfl]
    rcases ordI_cases ba bb with ⟨e2, h2⟩ | ⟨e2, h2⟩ | ⟨e2, h2⟩
    · left; rw [e2]; exact ⟨if_neg (by decide), .inr ⟨h1, .inl h2⟩⟩
    · rw [e2, if_pos rfl]
      rcases ordN_cases ha hb with ⟨e3, h3⟩ | ⟨e3, h3⟩ | ⟨e3, h3⟩
      · left; rw [e3]; exact ⟨if_neg (by decide), .inr ⟨h1, .inr ⟨h2, .inl h3⟩⟩⟩
      · rw [e3, if_pos rfl]
        rcases ordN_cases la lb with ⟨e4, h4⟩ | ⟨e4, h4⟩ | ⟨e4, h4⟩
        · left; rw [e4]; exact ⟨by decide, .inr ⟨h1, .inr ⟨h2, .inr ⟨h3, h4⟩⟩⟩⟩
        · right; left; rw [e4]; exact ⟨by decide, by rw [h1, h2, h3, h4]⟩
        · right; right; rw [e4]; exact ⟨by decide, .inr ⟨h1.symm, .inr ⟨h2.symm, .inr ⟨h3.symm, h4⟩⟩⟩⟩
      · right; right; rw [e3]; exact ⟨if_neg (by decide), .inr ⟨h1.symm, .inr ⟨h2.symm, .inl h3⟩⟩⟩
    · right; right; rw [e2]; exact ⟨if_neg (by decide), .inr ⟨h1.symm, .inl h2⟩⟩
  · right; right; rw [e1]; exact ⟨if_neg (by decide), .inl h1⟩
theorem ltP_irr {a : Pfx} : ¬ ltP a a := by unfold ltP; omega
theorem ltP_trans {a b c : Pfx} (h : ltP a b) (h' : ltP b c) : ltP a c := by
  unfold ltP at *
  rcases h with h | ⟨h1, h | ⟨h2, h | ⟨h3, h⟩⟩⟩ <;> rcases h' with g | ⟨g1, g | ⟨g2, g | ⟨g3, g⟩⟩⟩
  all_goals try (left; omega)
  all_goals refine .inr ⟨by omega, ?_⟩
  all_goals try (left; omega)
  all_goals refine .inr ⟨by omega, ?_⟩
  · left; omega
  · left; rw [← g3]; exact h
  · left; rw [h3]; exact g
  · exact .inr ⟨h3.trans g3, by omega⟩
theorem cmpP_eq {a b : Pfx} : cmpP a b = 0 ↔ a = b := by
  rcases cmpP_cases a b with ⟨e, h⟩ | ⟨e, h⟩ | ⟨e, h⟩ <;> rw [e]
  · exact ⟨fun h => by omega, fun e => absurd (e ▸ h) ltP_irr⟩
  · exact ⟨fun _ => h, fun _ => rfl⟩
  · exact ⟨fun h => by omega, fun e => absurd (e ▸ h) ltP_irr⟩
theorem cmpP_lt {a b : Pfx} : cmpP a b < 0 ↔ ltP a b := by
  rcases cmpP_cases a b with ⟨e, h⟩ | ⟨e, h⟩ | ⟨e, h⟩ <;> rw [e]
  · exact ⟨fun _ => h, fun _ => by omega⟩
  · exact ⟨fun h => by omega, fun g => absurd (h ▸ g) ltP_irr⟩
  · exact ⟨fun h => by omega, fun g => absurd (ltP_trans h g) ltP_irr⟩
theorem cmpP_gt {a b : Pfx} : 0 < cmpP a b ↔ ltP b a := by
  rcases cmpP_cases a b with ⟨e, h⟩ | ⟨e, h⟩ | ⟨e, h⟩ <;> rw [e]
  · exact ⟨fun h => by omega, fun g => absurd (ltP_trans h g) ltP_irr⟩
  · exact ⟨fun h => by omega, fun g => absurd (h ▸ g) ltP_irr⟩
  · exact ⟨fun _ => h, fun _ => by omega⟩

/-- a prefix: its address's later bits are 0 -/
def widthP (f : Int) : Nat := if f = 4 then 32 else if f = 6 then 128 else 0
def bitP (p : Pfx) (k : Nat) : Bool := if k < 64 then p.lo.getLsbD k else p.hi.getLsbD (k - 64)
def validA (p : Pfx) : Bool := decide (p.fam = 6) || (decide (p.fam = 4) && decide (p.hi = 0#64) && decide (p.lo.toNat < 4294967296))
def validP (p : Pfx) : Bool := validA p && decide (0 ≤ p.bits) && decide (p.bits ≤ widthP p.fam) && (List.range (widthP p.fam - p.bits.toNat)).all fun k => !bitP p k

/-- where a change's peer, a key's owner, its lane, a prefix's holder stand -/
def St.peer (s : St) (link : Int) : Option Nat := s.ps.findIdx? fun p => p.link = link
def St.owner (s : St) (key : List (BitVec 8)) : Option Nat := s.ps.findIdx? fun p => p.key = key
def St.lane (s : St) (key : List (BitVec 8)) : Option Nat := s.ls.findIdx? fun l => l.key = key
def St.holder (s : St) (x : Pfx) : Option Nat := s.ps.findIdx? fun p => decide (x ∈ p.pfx)
def Pfx.none : Pfx := ⟨0, 0#64, 0#64, 0⟩
def Ch.keyed (c : Ch) : Bool := decide (c.kind = 1) || decide (c.kind = 3)
def Ch.pre (c : Ch) : Bool := decide (c.kind = 4) || decide (c.kind = 5)
def Ch.spare (c : Ch) : Bool := decide (c.kind < 1) || decide (5 < c.kind) || (!c.keyed && (decide (c.key ≠ []) || decide (c.side ≠ 0))) || (!c.pre && decide (c.pfx ≠ Pfx.none))
def Ln.lifted (l : Ln) : Int := max l.cur l.next + 1
def St.keyedF (s : St) (c : Ch) : Int :=
  match s.lane c.key with
  | none => if 32 ≤ s.ls.length then 167 else 0
  | some k => match s.ls[k]? with
    | none => 0
    | some l => if l.side ≠ c.side then 174 else if 2147483647 < l.lifted then 168 else 0
def St.givenF (s : St) (c : Ch) : Int :=
  if c.link < 1 ∨ 4294967295 < c.link then 161
  else if c.key.length ≠ 32 then 162
  else if c.side < 0 ∨ 1 < c.side then 163
  else if c.kind = 1 ∧ s.peer c.link ≠ none then 164
  else if c.kind = 3 ∧ s.peer c.link = none then 169
  else if s.owner c.key ≠ none ∧ s.owner c.key ≠ s.peer c.link then 165
  else if c.kind = 1 ∧ 16 ≤ s.ps.length then 166
  else s.keyedF c
def St.pfxOf (s : St) (link : Int) : List Pfx := match s.peer link with | some i => (s.ps[i]?.map (·.pfx)).getD [] | none => []
def St.fault (s : St) (c : Ch) : Int :=
  if c.spare then 160
  else if c.keyed then s.givenF c
  else if c.link < 1 ∨ 4294967295 < c.link then 161
  else if c.kind ≠ 2 ∧ validP c.pfx = false then 170
  else if s.peer c.link = none then 169
  else if c.kind = 4 ∧ s.holder c.pfx ≠ none then 171
  else if c.kind = 4 ∧ 16 ≤ (s.pfxOf c.link).length then 172
  else if c.kind = 5 ∧ s.holder c.pfx ≠ s.peer c.link then 173
  else 0
def insAt {α : Type} (l : List α) (i : Nat) (a : α) : List α := l.take i ++ a :: l.drop i
def St.give (s : St) (c : Ch) : List Ln :=
  match s.lane c.key with
  | some k => match s.ls[k]? with
    | some l => s.ls.set k { l with cur := l.lifted, sc := 0#64, ce := 0#64 }
    | none => s.ls
  | none => insAt s.ls (s.ls.findIdx fun l => ltB c.key l.key) ⟨c.key, c.side, 1, 0, 0#64, 0#64, 0, 0⟩
def withP (l : List Pfx) (c : Ch) : List Pfx :=
  if c.kind = 5 then l.filter (fun x => decide (x ≠ c.pfx)) else insAt l (l.findIdx fun x => decide (cmpP c.pfx x < 0)) c.pfx
def St.done (s : St) (c : Ch) : St :=
  if c.kind = 1 then ⟨insAt s.ps (s.ps.findIdx fun p => decide (c.link < p.link)) ⟨c.link, c.key, []⟩, s.give c⟩
  else if c.kind = 2 then ⟨s.ps.filter fun p => decide (p.link ≠ c.link), s.ls⟩
  else if c.kind = 3 then ⟨s.ps.map fun p => if p.link = c.link then { p with key := c.key } else p, s.give c⟩
  else ⟨s.ps.map fun p => if p.link = c.link then { p with pfx := withP p.pfx c } else p, s.ls⟩
/-- changes from the i-th on: what is left, or the first that has a fault -/
def St.run (s : St) : Nat → List Ch → St ⊕ (Nat × Int)
  | _, [] => .inl s
  | i, c :: l => if s.fault c = 0 then (s.done c).run (i + 1) l else .inr (i, s.fault c)
def St.judge (s : St) (l : List Ch) : St ⊕ (Nat × Int) := if l.length = 0 ∨ 32 < l.length then .inr (0, 160) else s.run 0 l

/-- a configuration -/
structure Ln.Ok (l : Ln) : Prop where
  key : l.key.length = 32
  side : l.side = 0 ∨ l.side = 1
  cur : 1 ≤ l.cur ∧ l.cur ≤ 2147483647
  next : 0 ≤ l.next ∧ l.next ≤ 2147483647
structure Pr.Ok (p : Pr) : Prop where
  link : 1 ≤ p.link ∧ p.link ≤ 4294967295
  many : p.pfx.length ≤ 16
  valid : ∀ x ∈ p.pfx, validP x = true
  ord : p.pfx.Pairwise ltP
structure St.Right (s : St) : Prop where
  np : s.ps.length ≤ 16
  nl : s.ls.length ≤ 32
  lane : ∀ l ∈ s.ls, l.Ok
  lord : s.ls.Pairwise fun a b => ltB a.key b.key = true
  peer : ∀ p ∈ s.ps, p.Ok
  pord : s.ps.Pairwise fun a b => a.link < b.link
  keys : s.ps.Pairwise fun a b => a.key ≠ b.key
  pfxs : s.ps.Pairwise fun a b => ∀ x ∈ a.pfx, x ∉ b.pfx
  has : ∀ p ∈ s.ps, ∃ l ∈ s.ls, l.key = p.key
end Go.Proofs.Ytdcplcfedcmcmaa.Eng

/- A configuration stays one: in plain Lean. -/
namespace Go.Proofs.Ytdcplcfedcmcmaa.Eng
open Go Go.RowKit
set_option linter.unusedSimpArgs false
set_option linter.unusedVariables false

section lists
variable {α : Type}
theorem ix_none {l : List α} {q : α → Bool} (h : ∀ x ∈ l, q x = false) : l.findIdx? q = none := by
  rw [List.findIdx?_eq_none_iff]; exact h
theorem ix_none' {l : List α} {q : α → Bool} (h : l.findIdx? q = none) : ∀ x ∈ l, q x = false := List.findIdx?_eq_none_iff.1 h
theorem ix_some {l : List α} {q : α → Bool} {i : Nat} {a : α} (hi : l[i]? = some a) (hq : q a = true) (hj : ∀ (j : Nat) b, j < i → l[j]? = some b → q b = false) : l.findIdx? q = some i := by
  rw [List.findIdx?_eq_some_iff_getElem]
  obtain ⟨h, rfl⟩ := List.getElem?_eq_some_iff.1 hi
  refine ⟨h, hq, fun j hji => ?_⟩
  have := hj j _ hji (List.getElem?_eq_getElem (by omega))
  simp [this]
theorem ix_some' {l : List α} {q : α → Bool} {i : Nat} (h : l.findIdx? q = some i) : ∃ a, l[i]? = some a ∧ q a = true ∧ ∀ (j : Nat) b, j < i → l[j]? = some b → q b = false := by
  rw [List.findIdx?_eq_some_iff_getElem] at h
  obtain ⟨h1, h2, h3⟩ := h
  refine ⟨l[i], List.getElem?_eq_getElem h1, h2, fun j b hj hb => ?_⟩
  obtain ⟨h4, rfl⟩ := List.getElem?_eq_some_iff.1 hb
  simpa using h3 j hj
theorem fix_of {l : List α} {q : α → Bool} {i : Nat} (hi : i ≤ l.length) (hj : ∀ (j : Nat) b, j < i → l[j]? = some b → q b = false) (hq : ∀ a, l[i]? = some a → q a = true) : l.findIdx q = i := by
  rcases Nat.lt_or_ge i l.length with h | h
  · rw [List.findIdx_eq h]
    refine ⟨hq _ (List.getElem?_eq_getElem h), fun j hji => ?_⟩
    simpa using hj j _ hji (List.getElem?_eq_getElem (by omega))
  · obtain rfl : i = l.length := by omega
    rw [List.findIdx_eq_length]
    intro x hx
    obtain ⟨j, hj'⟩ := List.getElem?_of_mem hx
    exact hj j x (List.getElem?_eq_some_iff.1 hj').1 hj'
theorem fix_facts (l : List α) (q : α → Bool) : l.findIdx q ≤ l.length ∧ (∀ (j : Nat) b, j < l.findIdx q → l[j]? = some b → q b = false) ∧ ∀ a, l[l.findIdx q]? = some a → q a = true := by
  refine ⟨List.findIdx_le_length, fun j b hj hb => ?_, fun a ha => ?_⟩
  · obtain ⟨h, rfl⟩ := List.getElem?_eq_some_iff.1 hb
    simpa using List.not_of_lt_findIdx hj
  · obtain ⟨h, rfl⟩ := List.getElem?_eq_some_iff.1 ha
    exact List.findIdx_getElem
theorem insAt_length (l : List α) (i : Nat) (a : α) : (insAt l i a).length = l.length + 1 := by
  unfold insAt
  simp only [List.length_append, List.length_take, List.length_cons, List.length_drop]; omega
theorem mem_insAt {l : List α} {i : Nat} {a x : α} : x ∈ insAt l i a ↔ x = a ∨ x ∈ l := by
  unfold insAt
  have : x ∈ l ↔ x ∈ l.take i ∨ x ∈ l.drop i := by rw [← List.mem_append, List.take_append_drop]
  rw [this, List.mem_append, List.mem_cons]
  constructor <;> (rintro (h | h | h) <;> simp [h])
theorem pw_insAt {R : α → α → Prop} {l : List α} {i : Nat} {a : α} (h : l.Pairwise R) (h1 : ∀ (j : Nat) x, j < i → l[j]? = some x → R x a) (h2 : ∀ (j : Nat) x, i ≤ j → l[j]? = some x → R a x) : (insAt l i a).Pairwise R := by
  unfold insAt
  rw [List.pairwise_append, List.pairwise_cons]
  rw [← List.take_append_drop i l, List.pairwise_append] at h
  obtain ⟨p1, p2, p3⟩ := h
  have m1 : ∀ x ∈ l.take i, R x a := fun x hx => by
    obtain ⟨j, hj⟩ := List.getElem?_of_mem hx
    rw [List.getElem?_take] at hj
    split at hj
    · exact h1 j x ‹_› hj
    · cases hj
  have m2 : ∀ x ∈ l.drop i, R a x := fun x hx => by
    obtain ⟨j, hj⟩ := List.getElem?_of_mem hx
    rw [List.getElem?_drop] at hj
    exact h2 _ x (by omega) hj
  exact ⟨p1, ⟨m2, p2⟩, fun x hx y hy => by
    rcases List.mem_cons.1 hy with rfl | hy
    · exact m1 x hx
    · exact p3 x hx y hy⟩
/-- all in front of the first are smaller, all from there on greater -/
theorem pw_lb {R : α → α → Prop} {l : List α} (h : l.Pairwise R) {i j : Nat} {a b : α} (hi : l[i]? = some a) (hj : l[j]? = some b) (hij : i < j) : R a b := by
  obtain ⟨h1, rfl⟩ := List.getElem?_eq_some_iff.1 hi
  obtain ⟨h2, rfl⟩ := List.getElem?_eq_some_iff.1 hj
  exact List.pairwise_iff_getElem.1 h i j h1 h2 hij
theorem map_one {l : List α} {i : Nat} {a : α} {q : α → Prop} [DecidablePred q] (f : α → α) (hi : l[i]? = some a) (hq : ∀ (j : Nat) b, l[j]? = some b → (q b ↔ j = i)) : (l.map fun b => if q b then f b else b) = l.set i (f a) := by
  apply List.ext_getElem?
  intro j
  rw [List.getElem?_map, List.getElem?_set]
  cases hj : l[j]? with
  | none =>
    rw [Option.map_none]
    split
    · rename_i e; subst e; rw [hi] at hj; cases hj
    · rfl
  | some b =>
    rw [Option.map_some]
    by_cases e : i = j
    · subst e
      rw [hi] at hj; cases hj
      rw [if_pos ((hq i a hi).2 rfl), if_pos rfl, if_pos (List.getElem?_eq_some_iff.1 hi).1]
    · rw [if_neg (fun h => e ((hq j b hj).1 h).symm), if_neg e]
theorem filter_one {q : α → Bool} : ∀ {l : List α} {i : Nat}, (∀ (j : Nat) b, l[j]? = some b → (q b = false ↔ j = i)) → l.filter q = l.take i ++ l.drop (i + 1)
  | [], i, _ => by simp
  | a :: l, 0, h => by
    have h0 := (h 0 a rfl).2 rfl
    rw [List.filter_cons, if_neg (by rw [h0]; decide)]
    simp only [List.take_zero, List.drop_succ_cons, List.drop_zero, List.nil_append]
    refine List.filter_eq_self.2 (fun x hx => ?_)
    obtain ⟨j, hj⟩ := List.getElem?_of_mem hx
    cases e : q x
    · have := (h (j + 1) x (by simpa using hj)).1 e; omega
    · rfl
  | a :: l, i + 1, h => by
    have h0 : q a = true := by
      cases e : q a
      · have := (h 0 a rfl).1 e; omega
      · rfl
    rw [List.filter_cons, if_pos h0, filter_one (i := i) (fun j b hb => by
      have := h (j + 1) b (by simpa using hb)
      rw [this]; omega)]
    simp
theorem pw_mem {R : α → α → Prop} {l : List α} (h : l.Pairwise R) (hs : ∀ a b, R a b → R b a) {a b : α} (ha : a ∈ l) (hb : b ∈ l) (hne : a ≠ b) : R a b := by
  obtain ⟨i, hi⟩ := List.getElem?_of_mem ha
  obtain ⟨j, hj⟩ := List.getElem?_of_mem hb
  rcases Nat.lt_trichotomy i j with g | g | g
  · exact pw_lb h hi hj g
  · subst g; rw [hi] at hj; cases hj; exact absurd rfl hne
  · exact hs _ _ (pw_lb h hj hi g)
end lists

theorem St.peer_none {s : St} {link : Int} : s.peer link = none ↔ ∀ p ∈ s.ps, p.link ≠ link :=
  ⟨fun h p hp => by simpa using ix_none' h p hp, fun h => ix_none (fun p hp => by simpa using h p hp)⟩
theorem St.peer_some {s : St} (h : s.Right) {link : Int} {i : Nat} : s.peer link = some i ↔ ∃ p, s.ps[i]? = some p ∧ p.link = link := by
  constructor
  · intro e
    obtain ⟨a, h1, h2, _⟩ := ix_some' e
    exact ⟨a, h1, by simpa using h2⟩
  · rintro ⟨p, h1, h2⟩
    refine ix_some h1 (by simpa using h2) (fun j b hj hb => ?_)
    have := pw_lb h.pord hb h1 hj
    simp; omega
theorem St.owner_none {s : St} {key : List (BitVec 8)} : s.owner key = none ↔ ∀ p ∈ s.ps, p.key ≠ key :=
  ⟨fun h p hp => by simpa using ix_none' h p hp, fun h => ix_none (fun p hp => by simpa using h p hp)⟩
theorem St.owner_some {s : St} (h : s.Right) {key : List (BitVec 8)} {i : Nat} : s.owner key = some i ↔ ∃ p, s.ps[i]? = some p ∧ p.key = key := by
  constructor
  · intro e
    obtain ⟨a, h1, h2, _⟩ := ix_some' e
    exact ⟨a, h1, by simpa using h2⟩
  · rintro ⟨p, h1, h2⟩
    refine ix_some h1 (by simpa using h2) (fun j b hj hb => ?_)
    have := pw_lb h.keys hb h1 hj
    simpa using fun e : b.key = key => this (e.trans h2.symm)
theorem St.lane_none {s : St} {key : List (BitVec 8)} : s.lane key = none ↔ ∀ p ∈ s.ls, p.key ≠ key :=
  ⟨fun h p hp => by simpa using ix_none' h p hp, fun h => ix_none (fun p hp => by simpa using h p hp)⟩
theorem St.lane_some {s : St} (h : s.Right) {key : List (BitVec 8)} {i : Nat} : s.lane key = some i ↔ ∃ p, s.ls[i]? = some p ∧ p.key = key := by
  constructor
  · intro e
    obtain ⟨a, h1, h2, _⟩ := ix_some' e
    exact ⟨a, h1, by simpa using h2⟩
  · rintro ⟨p, h1, h2⟩
    refine ix_some h1 (by simpa using h2) (fun j b hj hb => ?_)
    have := pw_lb h.lord hb h1 hj
    simp only [decide_eq_false_iff_not]
    intro e
    rw [e, h2, ltB_irr] at this; cases this
theorem St.holder_none {s : St} {x : Pfx} : s.holder x = none ↔ ∀ p ∈ s.ps, x ∉ p.pfx :=
  ⟨fun h p hp => by simpa using ix_none' h p hp, fun h => ix_none (fun p hp => by simpa using h p hp)⟩
theorem St.holder_some {s : St} (h : s.Right) {x : Pfx} {i : Nat} : s.holder x = some i ↔ ∃ p, s.ps[i]? = some p ∧ x ∈ p.pfx := by
  constructor
  · intro e
    obtain ⟨a, h1, h2, _⟩ := ix_some' e
    exact ⟨a, h1, by simpa using h2⟩
  · rintro ⟨p, h1, h2⟩
    refine ix_some h1 (by simpa using h2) (fun j b hj hb => ?_)
    have := pw_lb h.pfxs hb h1 hj
    simpa using fun e : x ∈ b.pfx => this x e h2

/-- where a link's peer stands, or would stand -/
def AtP (s : St) (link : Int) (i : Nat) : Prop := i ≤ s.ps.length ∧ (∀ (j : Nat) p, j < i → s.ps[j]? = some p → p.link < link) ∧ ∀ (j : Nat) p, i ≤ j → s.ps[j]? = some p → link ≤ p.link
theorem AtP.peer {s : St} (h : s.Right) {link : Int} {i : Nat} (ha : AtP s link i) : (s.peer link).isSome = decide (∃ p, s.ps[i]? = some p ∧ p.link = link) := by
  by_cases e : ∃ p, s.ps[i]? = some p ∧ p.link = link
  · rw [(St.peer_some h).2 e]; simp [e]
  · rw [decide_eq_false e]
    rw [St.peer_none.2 (fun p hp hl => ?_)]; rfl
    obtain ⟨j, hj⟩ := List.getElem?_of_mem hp
    rcases Nat.lt_trichotomy j i with g | g | g
    · have := ha.2.1 j p g hj; omega
    · subst g; exact e ⟨p, hj, hl⟩
    · have hlt := (List.getElem?_eq_some_iff.1 hj).1
      have h1 : s.ps[i]? = some s.ps[i] := List.getElem?_eq_getElem (by omega)
      have h2 := ha.2.2 i _ (Nat.le_refl i) h1
      have h3 := pw_lb h.pord h1 hj g
      omega
theorem AtP.ins {s : St} (h : s.Right) {link : Int} {i : Nat} (ha : AtP s link i) (hn : s.peer link = none) : (s.ps.findIdx fun p => decide (link < p.link)) = i := by
  refine fix_of ha.1 (fun j b hj hb => ?_) (fun a hi => ?_)
  · have := ha.2.1 j b hj hb
    simp; omega
  · have h1 := ha.2.2 i a (Nat.le_refl i) hi
    have h2 := St.peer_none.1 hn a (List.mem_of_getElem? hi)
    simp; omega
/-- where a key's lane stands, or would stand -/
def AtL (s : St) (key : List (BitVec 8)) (i : Nat) : Prop := i ≤ s.ls.length ∧ (∀ (j : Nat) p, j < i → s.ls[j]? = some p → ltB p.key key = true) ∧ ∀ (j : Nat) p, i ≤ j → s.ls[j]? = some p → ltB p.key key = false
theorem AtL.lane {s : St} (h : s.Right) {key : List (BitVec 8)} {i : Nat} (ha : AtL s key i) : (s.lane key).isSome = decide (∃ p, s.ls[i]? = some p ∧ p.key = key) := by
  by_cases e : ∃ p, s.ls[i]? = some p ∧ p.key = key
  · rw [(St.lane_some h).2 e]; simp [e]
  · rw [decide_eq_false e]
    rw [St.lane_none.2 (fun p hp hl => ?_)]; rfl
    obtain ⟨j, hj⟩ := List.getElem?_of_mem hp
    rcases Nat.lt_trichotomy j i with g | g | g
    · have := ha.2.1 j p g hj
      rw [hl, ltB_irr] at this; cases this
    · subst g; exact e ⟨p, hj, hl⟩
    · have hlt := (List.getElem?_eq_some_iff.1 hj).1
      have h1 : s.ls[i]? = some s.ls[i] := List.getElem?_eq_getElem (by omega)
      have h2 := ha.2.2 i _ (Nat.le_refl i) h1
      have h3 := pw_lb h.lord h1 hj g
      rw [hl, h2] at h3; cases h3
theorem AtL.ins {s : St} {key : List (BitVec 8)} {i : Nat} (ha : AtL s key i) (hn : s.lane key = none) : (s.ls.findIdx fun l => ltB key l.key) = i := by
  refine fix_of ha.1 (fun j b hj hb => ltB_asym (ha.2.1 j b hj hb)) (fun a hi => ?_)
  have h1 := ha.2.2 i a (Nat.le_refl i) hi
  have h2 := St.lane_none.1 hn a (List.mem_of_getElem? hi)
  cases e : ltB key a.key
  · exact absurd (ltB_tri _ _ h1 e) h2
  · rfl

theorem give_right {s : St} (h : s.Right) {c : Ch} (hk : c.key.length = 32) (hs : c.side = 0 ∨ c.side = 1) (hf : s.keyedF c = 0) :
    (s.give c).length ≤ 32 ∧ (∀ l ∈ s.give c, l.Ok) ∧ ((s.give c).Pairwise fun a b => ltB a.key b.key = true) ∧ (∀ l ∈ s.ls, ∃ l' ∈ s.give c, l'.key = l.key) ∧ ∃ l ∈ s.give c, l.key = c.key := by
  unfold St.keyedF at hf
  unfold St.give
  cases e : s.lane c.key with
  | none =>
    rw [e] at hf
    simp only at hf ⊢
    have hlt : s.ls.length < 32 := by
      split at hf
      · cases hf
      · omega
    obtain ⟨f1, f2, f3⟩ := fix_facts s.ls fun l => ltB c.key l.key
    have hnn := St.lane_none.1 e
    refine ⟨by rw [insAt_length]; omega, fun l hl => ?_, pw_insAt h.lord (fun j x hj hx => ?_) (fun j x hj hx => ?_), fun l hl => ⟨l, mem_insAt.2 (.inr hl), rfl⟩, ⟨_, mem_insAt.2 (.inl rfl), rfl⟩⟩
    · rcases mem_insAt.1 hl with rfl | hl
      · exact ⟨hk, hs, ⟨Int.le_refl _, by show (1 : Int) ≤ 2147483647; decide⟩, ⟨Int.le_refl _, by show (0 : Int) ≤ 2147483647; decide⟩⟩
      · exact h.lane l hl
    · have := f2 j x hj hx
      cases e2 : ltB x.key c.key
      · exact absurd (ltB_tri _ _ e2 this) (hnn x (List.mem_of_getElem? hx))
      · rfl
    · have hlen := (List.getElem?_eq_some_iff.1 hx).1
      have h1 := List.getElem?_eq_getElem (l := s.ls) (i := s.ls.findIdx fun l => ltB c.key l.key) (by omega)
      have h2 := f3 _ h1
      rcases Nat.lt_or_ge (s.ls.findIdx fun l => ltB c.key l.key) j with g | g
      · exact ltB_trans h2 (pw_lb h.lord h1 hx g)
      · obtain rfl : j = s.ls.findIdx fun l => ltB c.key l.key := by omega
        exact f3 x hx
  | some k =>
    rw [e] at hf
    obtain ⟨l, hl, hkey⟩ := (St.lane_some h).1 e
    simp only [hl] at hf ⊢
    have hlok := h.lane l (List.mem_of_getElem? hl)
    have hlift : l.lifted ≤ 2147483647 := by
      split at hf
      · cases hf
      · split at hf
        · cases hf
        · omega
    have hl1 := hlok.cur
    have hl2 := hlok.next
    have hset : (s.ls.set k { l with cur := l.lifted, sc := 0#64, ce := 0#64 }).map (·.key) = s.ls.map (·.key) := by
      rw [List.map_set]
      refine List.ext_getElem? (fun j => ?_)
      rw [List.getElem?_set]
      split
      · rename_i e; subst e
        rw [List.getElem?_map, hl, if_pos (by simpa using (List.getElem?_eq_some_iff.1 hl).1)]; rfl
      · rfl
    have hmem : ∀ key, (∃ l' ∈ s.ls.set k { l with cur := l.lifted, sc := 0#64, ce := 0#64 }, l'.key = key) ↔ ∃ l' ∈ s.ls, l'.key = key := fun key => by
      rw [← List.mem_map (f := Ln.key) (l := s.ls), ← hset, List.mem_map]
    refine ⟨by rw [List.length_set]; exact h.nl, fun l' hl' => ?_, ?_, fun l' hl' => (hmem _).2 ⟨l', hl', rfl⟩, (hmem _).2 ⟨l, List.mem_of_getElem? hl, hkey⟩⟩
    · rcases List.mem_or_eq_of_mem_set hl' with g | rfl
      · exact h.lane l' g
      · exact ⟨hlok.key, hlok.side, ⟨by show 1 ≤ l.lifted; unfold Ln.lifted; omega, hlift⟩, hl2⟩
    · have := h.lord
      rw [← List.pairwise_map (f := Ln.key) (R := fun a b => ltB a b = true)] at this ⊢
      rw [hset]; exact this

theorem pr_map {s : St} {link : Int} {f : Pr → Pr} (i : Nat) (h : s.Right) (hi : s.peer link = some i) :
    ∃ p, s.ps[i]? = some p ∧ p.link = link ∧ (s.ps.map fun p => if p.link = link then f p else p) = s.ps.set i (f p) := by
  obtain ⟨p, h1, h2⟩ := (St.peer_some h).1 hi
  refine ⟨p, h1, h2, map_one f h1 (fun j b hb => ⟨fun e => ?_, fun e => ?_⟩)⟩
  · rcases Nat.lt_trichotomy j i with g | g | g
    · have := pw_lb h.pord hb h1 g; omega
    · exact g
    · have := pw_lb h.pord h1 hb g; omega
  · subst e; rw [h1] at hb; cases hb; exact h2
theorem pr_filter {s : St} {link : Int} (i : Nat) (h : s.Right) (hi : s.peer link = some i) : (s.ps.filter fun p => decide (p.link ≠ link)) = s.ps.take i ++ s.ps.drop (i + 1) := by
  obtain ⟨p, h1, h2⟩ := (St.peer_some h).1 hi
  refine filter_one (fun j b hb => ?_)
  simp only [ne_eq, decide_not, Bool.not_eq_false', decide_eq_true_eq]
  constructor
  · intro e
    rcases Nat.lt_trichotomy j i with g | g | g
    · have := pw_lb h.pord hb h1 g; omega
    · exact g
    · have := pw_lb h.pord h1 hb g; omega
  · rintro rfl
    rw [h1] at hb; cases hb; exact h2
/-- where a prefix stands, or would stand -/
def AtX (l : List Pfx) (x : Pfx) (i : Nat) : Prop := i ≤ l.length ∧ (∀ (j : Nat) y, j < i → l[j]? = some y → cmpP y x < 0) ∧ ∀ (j : Nat) y, i ≤ j → l[j]? = some y → ¬ cmpP y x < 0
theorem AtX.ins {l : List Pfx} {x : Pfx} {i : Nat} (ha : AtX l x i) (hn : x ∉ l) : (l.findIdx fun y => decide (cmpP x y < 0)) = i := by
  refine fix_of ha.1 (fun j b hj hb => ?_) (fun a hi => ?_)
  · have := ha.2.1 j b hj hb
    rw [cmpP_lt] at this
    simp only [decide_eq_false_iff_not]
    rw [cmpP_lt]
    exact fun g => ltP_irr (ltP_trans this g)
  · have h1 := ha.2.2 i a (Nat.le_refl i) hi
    rw [cmpP_lt] at h1
    simp only [decide_eq_true_eq]
    rcases cmpP_cases a x with ⟨_, g⟩ | ⟨_, g⟩ | ⟨_, g⟩
    · exact absurd g h1
    · exact absurd (g ▸ List.mem_of_getElem? hi) hn
    · exact cmpP_lt.2 g
theorem pfx_filter {l : List Pfx} (h : l.Pairwise ltP) {x : Pfx} {i : Nat} (hi : l[i]? = some x) : (l.filter fun y => decide (y ≠ x)) = l.take i ++ l.drop (i + 1) := by
  refine filter_one (fun j b hb => ?_)
  simp only [ne_eq, decide_not, Bool.not_eq_false', decide_eq_true_eq]
  constructor
  · rintro rfl
    rcases Nat.lt_trichotomy j i with g | g | g
    · exact absurd (pw_lb h hb hi g) ltP_irr
    · exact g
    · exact absurd (pw_lb h hi hb g) ltP_irr
  · rintro rfl
    rw [hi] at hb; cases hb; rfl
theorem fault_facts {s : St} (h : s.Right) {c : Ch} (hf : s.fault c = 0) : 1 ≤ c.link ∧ c.link ≤ 4294967295 ∧ ((c.kind = 1 ∧ s.peer c.link = none ∧ s.owner c.key = none ∧ s.ps.length < 16 ∧ c.key.length = 32 ∧ (c.side = 0 ∨ c.side = 1) ∧ s.keyedF c = 0) ∨ (c.kind = 2 ∧ ∃ i, s.peer c.link = some i) ∨
    (c.kind = 3 ∧ ∃ i, s.peer c.link = some i ∧ (s.owner c.key = none ∨ s.owner c.key = some i) ∧ c.key.length = 32 ∧ (c.side = 0 ∨ c.side = 1) ∧ s.keyedF c = 0) ∨ (c.kind = 4 ∧ (∃ i, s.peer c.link = some i) ∧ validP c.pfx = true ∧ s.holder c.pfx = none ∧ (s.pfxOf c.link).length < 16) ∨
    (c.kind = 5 ∧ ∃ i, s.peer c.link = some i ∧ s.holder c.pfx = some i)) := by
  unfold St.fault at hf
  split at hf
  · cases hf
  rename_i hsp
  have hkd : 1 ≤ c.kind ∧ c.kind ≤ 5 := by
    unfold Ch.spare at hsp
    simp only [Bool.or_eq_true, decide_eq_true_eq, not_or] at hsp
    omega
  split at hf
  · rename_i hk
    unfold Ch.keyed at hk
    simp only [Bool.or_eq_true, decide_eq_true_eq] at hk
    unfold St.givenF at hf
    split at hf
    · cases hf
    split at hf
    · cases hf
    split at hf
    · cases hf
    split at hf
    · cases hf
    split at hf
    · cases hf
    split at hf
    · cases hf
    split at hf
    · cases hf
    rename_i g1 g2 g3 g4 g5 g6 g7
    refine ⟨by omega, by omega, ?_⟩
    rcases hk with hk | hk
    · have hp : s.peer c.link = none := by
        cases e : s.peer c.link
        · rfl
        · exact absurd ⟨hk, by simp [e]⟩ g4
      refine .inl ⟨hk, hp, ?_, by omega, by omega, by omega, hf⟩
      cases e : s.owner c.key
      · rfl
      · exact absurd ⟨by simp [e], by simp [e, hp]⟩ g6
    · refine .inr (.inr (.inl ⟨hk, ?_⟩))
      cases e : s.peer c.link with
      | none => exact absurd ⟨hk, e⟩ g5
      | some i =>
        refine ⟨i, rfl, ?_, by omega, by omega, hf⟩
        cases e2 : s.owner c.key with
        | none => exact .inl rfl
        | some j =>
          by_cases e3 : j = i
          · subst e3; exact .inr rfl
          · exact absurd ⟨by simp [e2], by simp [e2, e, e3]⟩ g6
  · rename_i hk
    unfold Ch.keyed at hk
    simp only [Bool.or_eq_true, decide_eq_true_eq, not_or] at hk
    split at hf
    · cases hf
    split at hf
    · cases hf
    split at hf
    · cases hf
    split at hf
    · cases hf
    split at hf
    · cases hf
    split at hf
    · cases hf
    rename_i g1 g2 g3 g4 g5 g6
    refine ⟨by omega, by omega, ?_⟩
    have hpe : ∃ i, s.peer c.link = some i := by
      cases e : s.peer c.link with
      | none => exact absurd e g3
      | some i => exact ⟨i, rfl⟩
    have k3 : c.kind = 2 ∨ c.kind = 4 ∨ c.kind = 5 := by omega
    rcases k3 with k | k | k
    · exact .inr (.inl ⟨k, hpe⟩)
    · refine .inr (.inr (.inr (.inl ⟨k, hpe, ?_, ?_, by omega⟩)))
      · cases e : validP c.pfx
        · exact absurd ⟨by omega, e⟩ g2
        · rfl
      · cases e : s.holder c.pfx
        · rfl
        · exact absurd ⟨k, by simp [e]⟩ g4
    · refine .inr (.inr (.inr (.inr ⟨k, ?_⟩)))
      obtain ⟨i, hi⟩ := hpe
      refine ⟨i, hi, ?_⟩
      rw [← hi]
      exact Decidable.byContradiction (fun e => g6 ⟨k, e⟩)
theorem pw_set {α : Type} {R : α → α → Prop} {l : List α} {i : Nat} {a b : α} (h : l.Pairwise R) (hi : l[i]? = some a) (h1 : ∀ (j : Nat) x, j < i → l[j]? = some x → R x b) (h2 : ∀ (j : Nat) x, i < j → l[j]? = some x → R b x) : (l.set i b).Pairwise R := by
  have hlt := (List.getElem?_eq_some_iff.1 hi).1
  rw [List.pairwise_iff_getElem] at h ⊢
  intro j k hj hk hjk
  simp only [List.length_set] at hj hk
  rw [List.getElem_set, List.getElem_set]
  split
  · rw [if_neg (by omega)]
    exact h2 k _ (by omega) (List.getElem?_eq_getElem hk)
  · split
    · exact h1 j _ (by omega) (List.getElem?_eq_getElem hj)
    · exact h j k hj hk hjk
theorem withP_mem {l : List Pfx} {c : Ch} {x : Pfx} (h : x ∈ withP l c) : x = c.pfx ∧ c.kind ≠ 5 ∨ x ∈ l := by
  unfold withP at h
  split at h
  · exact .inr (List.mem_filter.1 h).1
  · rcases mem_insAt.1 h with e | e
    · exact .inl ⟨e, by assumption⟩
    · exact .inr e
theorem done_right {s : St} (h : s.Right) {c : Ch} (hf : s.fault c = 0) : (s.done c).Right := by
  obtain ⟨l1, l2, g⟩ := fault_facts h hf
  unfold St.done
  rcases g with ⟨k, hp, ho, hl, hkl, hsd, hkf⟩ | ⟨k, i, hi⟩ | ⟨k, i, hi, ho, hkl, hsd, hkf⟩ | ⟨k, ⟨i, hi⟩, hv, hh, hl⟩ | ⟨k, i, hi, hh⟩
  · rw [if_pos k]
    obtain ⟨g1, g2, g3, g4, g5⟩ := give_right h hkl hsd hkf
    obtain ⟨f1, f2, f3⟩ := fix_facts s.ps fun p => decide (c.link < p.link)
    have hpn := St.peer_none.1 hp
    have hon := St.owner_none.1 ho
    refine ⟨by rw [insAt_length]; omega, g1, g2, g3, fun p hp => ?_, pw_insAt h.pord (fun j x hj hx => ?_) (fun j x hj hx => ?_), pw_insAt h.keys (fun j x _ hx => hon x (List.mem_of_getElem? hx)) (fun j x _ hx e => hon x (List.mem_of_getElem? hx) e.symm),
      pw_insAt h.pfxs (fun j x _ hx y hy => by simp) (fun j x _ hx y hy => by cases hy), fun p hp => ?_⟩
    · rcases mem_insAt.1 hp with rfl | hp
      · exact ⟨⟨l1, l2⟩, by simp, by simp, by simp⟩
      · exact h.peer p hp
    · have h1 := f2 j x hj hx
      have h2 := hpn x (List.mem_of_getElem? hx)
      simp only [decide_eq_false_iff_not] at h1
      show x.link < c.link
      omega
    · have hlen := (List.getElem?_eq_some_iff.1 hx).1
      have h1 := List.getElem?_eq_getElem (l := s.ps) (i := s.ps.findIdx fun p => decide (c.link < p.link)) (by omega)
      have h2 := f3 _ h1
      simp only [decide_eq_true_eq] at h2
      show c.link < x.link
      rcases Nat.lt_or_ge (s.ps.findIdx fun p => decide (c.link < p.link)) j with g | g
      · have := pw_lb h.pord h1 hx g; omega
      · obtain rfl : j = s.ps.findIdx fun p => decide (c.link < p.link) := by omega
        rw [h1] at hx; cases hx; exact h2
    · rcases mem_insAt.1 hp with rfl | hp
      · exact g5
      · obtain ⟨l, m1, m2⟩ := h.has p hp
        obtain ⟨l', m3, m4⟩ := g4 l m1
        exact ⟨l', m3, m4.trans m2⟩
  · rw [if_neg (by omega), if_pos k]
    have hsub : (s.ps.filter fun p => decide (p.link ≠ c.link)).Sublist s.ps := List.filter_sublist
    exact ⟨Nat.le_trans hsub.length_le h.np, h.nl, h.lane, h.lord, fun p hp => h.peer p (hsub.subset hp), h.pord.sublist hsub, h.keys.sublist hsub, h.pfxs.sublist hsub, fun p hp => h.has p (hsub.subset hp)⟩
  · rw [if_neg (by omega), if_neg (by omega), if_pos k]
    obtain ⟨g1, g2, g3, g4, g5⟩ := give_right h hkl hsd hkf
    obtain ⟨p, e1, e2, e3⟩ := pr_map (f := fun p => { p with key := c.key }) i h hi
    rw [e3]
    have hpk := h.peer p (List.mem_of_getElem? e1)
    have hon : ∀ (j : Nat) x, j ≠ i → s.ps[j]? = some x → x.key ≠ c.key := by
      intro j x hj hx e
      rcases ho with ho | ho
      · exact St.owner_none.1 ho x (List.mem_of_getElem? hx) e
      · have := (St.owner_some h).2 ⟨x, hx, e⟩
        rw [ho] at this; cases this; exact hj rfl
    refine ⟨by rw [List.length_set]; exact h.np, g1, g2, g3, fun q hq => ?_, pw_set h.pord e1 (fun j x hj hx => by have := pw_lb h.pord hx e1 hj; exact this) (fun j x hj hx => by have := pw_lb h.pord e1 hx hj; exact this),
      pw_set h.keys e1 (fun j x hj hx => hon j x (by omega) hx) (fun j x hj hx e => hon j x (by omega) hx e.symm),
      pw_set h.pfxs e1 (fun j x hj hx => by have := pw_lb h.pfxs hx e1 hj; exact this) (fun j x hj hx => by have := pw_lb h.pfxs e1 hx hj; exact this), fun q hq => ?_⟩
    · rcases List.mem_or_eq_of_mem_set hq with hq | rfl
      · exact h.peer q hq
      · exact ⟨hpk.link, hpk.many, hpk.valid, hpk.ord⟩
    · rcases List.mem_or_eq_of_mem_set hq with hq | rfl
      · obtain ⟨l, m1, m2⟩ := h.has q hq
        obtain ⟨l', m3, m4⟩ := g4 l m1
        exact ⟨l', m3, m4.trans m2⟩
      · exact g5
  all_goals
    rw [if_neg (by omega), if_neg (by omega), if_neg (by omega)]
    obtain ⟨p, e1, e2, e3⟩ := pr_map (f := fun p => { p with pfx := withP p.pfx c }) i h hi
    rw [e3]
    have hpk := h.peer p (List.mem_of_getElem? e1)
    have hof : s.pfxOf c.link = p.pfx := by unfold St.pfxOf; rw [hi]; simp [e1]
  · have hnn := St.holder_none.1 hh
    rw [hof] at hl
    have hw : withP p.pfx c = insAt p.pfx (p.pfx.findIdx fun x => decide (cmpP c.pfx x < 0)) c.pfx := by unfold withP; rw [if_neg (by omega)]
    obtain ⟨f1, f2, f3⟩ := fix_facts p.pfx fun x => decide (cmpP c.pfx x < 0)
    have hpn := hnn p (List.mem_of_getElem? e1)
    have hq : ∀ q ∈ s.ps.set i { p with pfx := withP p.pfx c }, q ∈ s.ps ∨ q = { p with pfx := withP p.pfx c } := fun q hq => List.mem_or_eq_of_mem_set hq
    refine ⟨by rw [List.length_set]; exact h.np, h.nl, h.lane, h.lord, fun q hq' => ?_, pw_set h.pord e1 (fun j x hj hx => by have := pw_lb h.pord hx e1 hj; exact this) (fun j x hj hx => by have := pw_lb h.pord e1 hx hj; exact this),
      pw_set h.keys e1 (fun j x hj hx => by have := pw_lb h.keys hx e1 hj; exact this) (fun j x hj hx => by have := pw_lb h.keys e1 hx hj; exact this), pw_set h.pfxs e1 (fun j x hj hx y hy hy' => ?_) (fun j x hj hx y hy hy' => ?_), fun q hq' => ?_⟩
    · rcases hq q hq' with g | rfl
      · exact h.peer q g
      · refine ⟨hpk.link, by show (withP p.pfx c).length ≤ 16; rw [hw, insAt_length]; omega, fun x hx => ?_, ?_⟩
        · rcases withP_mem hx with ⟨rfl, _⟩ | g
          · exact hv
          · exact hpk.valid x g
        · show (withP p.pfx c).Pairwise ltP
          rw [hw]
          refine pw_insAt hpk.ord (fun j x hj hx => ?_) (fun j x hj hx => ?_)
          · have := f2 j x hj hx
            simp only [decide_eq_false_iff_not] at this
            rcases cmpP_cases c.pfx x with ⟨_, g⟩ | ⟨_, g⟩ | ⟨_, g⟩
            · exact absurd (cmpP_lt.2 g) this
            · exact absurd (g ▸ List.mem_of_getElem? hx) hpn
            · exact g
          · have hlen := (List.getElem?_eq_some_iff.1 hx).1
            have h1 := List.getElem?_eq_getElem (l := p.pfx) (i := p.pfx.findIdx fun x => decide (cmpP c.pfx x < 0)) (by omega)
            have h2 := f3 _ h1
            simp only [decide_eq_true_eq] at h2
            rw [cmpP_lt] at h2
            rcases Nat.lt_or_ge (p.pfx.findIdx fun x => decide (cmpP c.pfx x < 0)) j with g | g
            · exact ltP_trans h2 (pw_lb hpk.ord h1 hx g)
            · obtain rfl : j = p.pfx.findIdx fun x => decide (cmpP c.pfx x < 0) := by omega
              rw [h1] at hx; cases hx; exact h2
    · rcases withP_mem hy' with ⟨rfl, _⟩ | g
      · exact hnn x (List.mem_of_getElem? hx) hy
      · exact pw_lb h.pfxs hx e1 hj y hy g
    · rcases withP_mem hy with ⟨rfl, _⟩ | g
      · exact hnn x (List.mem_of_getElem? hx) hy'
      · exact pw_lb h.pfxs e1 hx hj y g hy'
    · rcases hq q hq' with g | rfl
      · exact h.has q g
      · exact h.has p (List.mem_of_getElem? e1)
  · have hw : withP p.pfx c = p.pfx.filter fun x => decide (x ≠ c.pfx) := by unfold withP; rw [if_pos k]
    have hsub : (withP p.pfx c).Sublist p.pfx := by rw [hw]; exact List.filter_sublist
    have hq : ∀ q ∈ s.ps.set i { p with pfx := withP p.pfx c }, q ∈ s.ps ∨ q = { p with pfx := withP p.pfx c } := fun q hq => List.mem_or_eq_of_mem_set hq
    refine ⟨by rw [List.length_set]; exact h.np, h.nl, h.lane, h.lord, fun q hq' => ?_, pw_set h.pord e1 (fun j x hj hx => by have := pw_lb h.pord hx e1 hj; exact this) (fun j x hj hx => by have := pw_lb h.pord e1 hx hj; exact this),
      pw_set h.keys e1 (fun j x hj hx => by have := pw_lb h.keys hx e1 hj; exact this) (fun j x hj hx => by have := pw_lb h.keys e1 hx hj; exact this), pw_set h.pfxs e1 (fun j x hj hx y hy hy' => pw_lb h.pfxs hx e1 hj y hy (hsub.subset hy')) (fun j x hj hx y hy hy' => pw_lb h.pfxs e1 hx hj y (hsub.subset hy) hy'), fun q hq' => ?_⟩
    · rcases hq q hq' with g | rfl
      · exact h.peer q g
      · exact ⟨hpk.link, Nat.le_trans hsub.length_le hpk.many, fun x hx => hpk.valid x (hsub.subset hx), hpk.ord.sublist hsub⟩
    · rcases hq q hq' with g | rfl
      · exact h.has q g
      · exact h.has p (List.mem_of_getElem? e1)
theorem run_right : ∀ {l : List Ch} {s s' : St} {i : Nat}, s.Right → s.run i l = .inl s' → s'.Right
  | [], s, s', i, h, e => by simp only [St.run, Sum.inl.injEq] at e; exact e ▸ h
  | c :: l, s, s', i, h, e => by
    simp only [St.run] at e
    split at e
    · exact run_right (done_right h ‹_›) e
    · cases e
end Go.Proofs.Ytdcplcfedcmcmaa.Eng

/- Prefixes' bits, in plain Lean. -/
namespace Go.Proofs.Ytdcplcfedcmcmaa.Eng
open Go Go.RowKit
set_option linter.unusedSimpArgs false
set_option linter.unusedVariables false

theorem mask_lsb (k j : Nat) (hk : k ≤ 64) (hj : j < 64) : ((1#64 <<< k) - 1#64).getLsbD j = decide (j < k) := by
  have e : ((1#64 <<< k) - 1#64).toNat = 2 ^ k - 1 := by
    rcases Nat.lt_or_ge k 64 with h | h
    · have h2 : 2 ^ k < 2 ^ 64 := Nat.pow_lt_pow_right (by decide) h
      have h1 : (1#64 <<< k).toNat = 2 ^ k := by
        rw [BitVec.toNat_shiftLeft, show (1#64).toNat = 1 from rfl, Nat.one_shiftLeft]
        exact Nat.mod_eq_of_lt h2
      have h3 : 1 ≤ 2 ^ k := Nat.one_le_two_pow
      rw [BitVec.toNat_sub, h1]
      show (2 ^ 64 - 1 + 2 ^ k) % 2 ^ 64 = 2 ^ k - 1
      rw [show 2 ^ 64 - 1 + 2 ^ k = 2 ^ k - 1 + 2 ^ 64 by omega, Nat.add_mod_right]
      exact Nat.mod_eq_of_lt (by omega)
    · obtain rfl : k = 64 := by omega
      decide
  rw [← BitVec.testBit_toNat, e, Nat.testBit_two_pow_sub_one]
theorem mask_eq (x : BitVec 64) (k : Nat) (hk : k ≤ 64) : (x &&& ~~~((1#64 <<< k) - 1#64)) = x ↔ ∀ j, j < k → x.getLsbD j = false := by
  constructor
  · intro h j hj
    have := congrArg (fun y => BitVec.getLsbD y j) h
    simp only [BitVec.getLsbD_and, BitVec.getLsbD_not, mask_lsb k j hk (by omega), decide_eq_true hj] at this
    simpa using this.symm
  · intro h
    apply BitVec.eq_of_getLsbD_eq
    intro j hj
    rw [BitVec.getLsbD_and, BitVec.getLsbD_not, mask_lsb k j hk hj]
    by_cases g : j < k
    · rw [h j g]; simp
    · simp [g, hj]
def onesP (n : Int) : BitVec 64 := (1#64 <<< n.toNat) - 1#64
/-- an address with nothing but its first bits -/
def cutP (p : Pfx) : BitVec 64 × BitVec 64 :=
  if p.fam = 4 then (p.hi, p.lo &&& ~~~onesP (32 - p.bits)) else (p.hi &&& ~~~onesP (64 - min p.bits 64), p.lo &&& ~~~onesP (128 - max p.bits 64))
theorem valid_cut {p : Pfx} : validP p = (validA p && (decide (0 ≤ p.bits) && (decide (p.bits ≤ widthP p.fam) && decide (cutP p = (p.hi, p.lo))))) := by
  unfold validP
  cases hv : validA p
  · simp
  by_cases h0 : ¬ 0 ≤ p.bits
  · simp [h0]
  by_cases h1 : ¬ p.bits ≤ widthP p.fam
  · simp [h1]
  replace h0 := Decidable.not_not.1 h0
  replace h1 := Decidable.not_not.1 h1
  simp only [h0, h1, decide_true, Bool.true_and]
  have key : (∀ k, k < widthP p.fam - p.bits.toNat → bitP p k = false) ↔ cutP p = (p.hi, p.lo) := by
    unfold validA at hv
    simp only [Bool.or_eq_true, Bool.and_eq_true, decide_eq_true_eq] at hv
    unfold cutP widthP at *
    rcases hv with hv | ⟨⟨hv, hh⟩, hl⟩
    · simp only [hv] at h1 ⊢
      simp only [if_neg (show ¬ (6 : Int) = 4 by decide), if_true, Prod.mk.injEq, onesP] at h1 ⊢
      rw [mask_eq _ _ (by omega), mask_eq _ _ (by omega)]
      constructor
      · intro h
        refine ⟨fun j hj => ?_, fun j hj => ?_⟩
        · have := h (j + 64) (by omega)
          unfold bitP at this
          rwa [if_neg (by omega), Nat.add_sub_cancel] at this
        · have := h j (by omega)
          unfold bitP at this
          rwa [if_pos (by omega)] at this
      · rintro ⟨g1, g2⟩ k hk
        unfold bitP
        split
        · exact g2 k (by omega)
        · exact g1 (k - 64) (by omega)
    · simp only [hv] at h1 ⊢
      simp only [if_true, Prod.mk.injEq, true_and, onesP] at h1 ⊢
      rw [mask_eq _ _ (by omega)]
      constructor
      · intro h j hj
        have := h j (by omega)
        unfold bitP at this
        rwa [if_pos (by omega)] at this
      · intro g k hk
        unfold bitP
        rw [if_pos (by omega)]
        exact g k (by omega)
  rw [Bool.eq_iff_iff, decide_eq_true_eq, ← key, List.all_eq_true]
  constructor
  · intro h k hk
    simpa using h k (List.mem_range.2 hk)
  · intro h k hk
    simpa using h k (List.mem_range.1 hk)
theorem bit_eq (x : BitVec 64) (k : Nat) : (x >>> k &&& 1#64 == 1#64) = x.getLsbD k := by
  have h0 : ∀ j, (x >>> k &&& 1#64).getLsbD j = (decide (j = 0) && x.getLsbD k) := by
    intro j
    rw [BitVec.getLsbD_and, BitVec.getLsbD_ushiftRight]
    by_cases e : j = 0
    · subst e; simp
    · simp [e, BitVec.getLsbD_one]
  cases g : x.getLsbD k
  · have : x >>> k &&& 1#64 = 0#64 := by
      apply BitVec.eq_of_getLsbD_eq
      intro j hj
      rw [h0 j, g]; simp
    rw [this]; decide
  · have : x >>> k &&& 1#64 = 1#64 := by
      apply BitVec.eq_of_getLsbD_eq
      intro j hj
      rw [h0 j, g]; simp [BitVec.getLsbD_one]
    rw [this]; decide
end Go.Proofs.Ytdcplcfedcmcmaa.Eng

/- A list of bytes that may be nil, or empty: both answers of a look at nil. -/
namespace Go.Proofs.Ytdcplcfedcmcmaa.Eng
open Go Go.RowKit
set_option linter.unusedSimpArgs false
set_option linter.unusedVariables false
set_option linter.unusedSimpArgs false
set_option linter.unusedVariables false

theorem Sim.hereB {G : Cx} {ρ : Ren} {M : List Blk} {w : World} (h : Sim G ρ M w) (g o : Nat) : Sim G (upd ρ M.length (g, o)) (M ++ [.here]) w := by
  have hE := upd_ext ρ M.length (g, o)
  have hget : ∀ n B, (M ++ [Blk.here])[n]? = some B → (n < M.length ∧ M[n]? = some B) ∨ (n = M.length ∧ B = .here) := by
    intro n B hB
    rcases Nat.lt_or_ge n M.length with hn | hn
    · exact .inl ⟨hn, by rwa [List.getElem?_append_left hn] at hB⟩
    · rw [List.getElem?_append_right hn] at hB
      by_cases he : n = M.length
      · subst he; simp at hB; exact .inr ⟨rfl, hB.symm⟩
      · rw [List.getElem?_eq_none (by simp; omega)] at hB; cases hB
  refine ⟨h.os, h.tape, h.output, h.kept, by simp; have := h.base; omega, ?_, ?_, ?_, ?_⟩
  · intro n hn
    rw [hE n (by have := h.base; omega)]
    exact h.same n hn
  · intro n B hB
    rcases hget n B hB with ⟨hn, hB'⟩ | ⟨rfl, rfl⟩
    · exact Blk.lt_mono (h.lt n B hB') (by simp)
    · rfl
  · intro n B hB
    rcases hget n B hB with ⟨hn, hB'⟩ | ⟨rfl, rfl⟩
    · exact (h.blk n B hB').ren hE hn (h.lt n B hB')
    · exact ⟨g, o, by simp [upd]⟩
  · intro n m B C hB hC hr hlv hne
    rcases hget n B hB with ⟨hn, hB'⟩ | ⟨rfl, rfl⟩
    · rcases hget m C hC with ⟨hm, hC'⟩ | ⟨rfl, rfl⟩
      · rw [hE n hn, hE m hm]; exact h.sep n m B C hB' hC' hr hlv hne
      · cases hlv
    · cases hr

/-- an empty row's slice handed in: it is nil, or its address is not -/
theorem call_amb {P : Program} {f : FuncId} (a b : List SV) {n : Nat} {ty : TypeId} {M : List Blk} {K : SV → List Blk → Prop} (hent : ∀ xs w, (callFunc f xs).run P w = .ok (.enter f xs) w) (hB : M[n]? = some (.row [] ty)) (hnil0 : callVC P f (a ++ .sn :: b) M K)
    (hlive0 : callVC P f (a ++ .sl M.length 0 0 0 :: b) (M ++ [.here]) (fun v M' => dropC M.length v M' K)) : callVC P f (a ++ .sl n 0 0 0 :: b) M K := by
  have hnil := callVC_E hent hnil0
  have hlive := callVC_E hent hlive0
  refine .inl ⟨hent, fun G ρ w hs hl => ?_⟩
  simp only [ltL_append, ltL, Bool.and_eq_true] at hl
  obtain ⟨_, ⟨_, h0⟩ | ⟨g, hg, _, _⟩⟩ := hs.blk n _ hB
  · have e : denL ρ (a ++ .sl n 0 0 0 :: b) = denL ρ (a ++ .sn :: b) := by simp [denL_append, denL, den, adr, h0]
    rw [e]
    exact hnil.2 G ρ w hs (by simp only [ltL_append, ltL, hl.1, hl.2.2, SV.lt, Bool.and_self])
  · have hE := upd_ext ρ M.length (g, 0)
    have e : denL ρ (a ++ .sl n 0 0 0 :: b) = denL (upd ρ M.length (g, 0)) (a ++ .sl M.length 0 0 0 :: b) := by
      rw [denL_append, denL_append, denL_congr hE a hl.1]
      simp only [denL, denL_congr hE b hl.2.2]
      congr 2
      simp [den, adr, hg, upd]
    rw [e]
    have hlen : M.length ≤ (M ++ [Blk.here]).length := by simp
    refine (hlive.2 G _ w (hs.hereB g 0) (by simp only [ltL_append, ltL, ltL_mono hlen _ hl.1, ltL_mono hlen _ hl.2.2, SV.lt, Bool.and_true, Bool.true_and]; simp)).mono ?_
    rintro e w' ⟨ρ', v, M', h1, h2, h3, h4, h5, h6⟩
    obtain ⟨ρ2, v2, M2, g1, g2, g3, g4, g5, g6⟩ := h6 G ρ' w' hs.base h3 h4
    exact ⟨ρ2, v2, M2, (hE.trans h1 hlen).trans g1 (Nat.le_refl _), g2, g3, g4, by rw [g5]; exact h5, g6⟩
end Go.Proofs.Ytdcplcfedcmcmaa.Eng
