/- The engine, part K: a state seen under other names: what is not named any more is forgotten. -/
import Derived.Test.YtdkdbeamimkljaaGreatDoorEngB
namespace Go.Proofs.YtdkdbeamimkljaaGreatDoor.Eng
open Go Go.RowKit
set_option linter.unusedSimpArgs false
set_option linter.unusedVariables false
/-- the same cells under two namings -/
def BEq (ρ ρ' : Ren) (B B' : Blk) : Prop :=
  (∃ cs cs' ty, B = .row cs ty ∧ B' = .row cs' ty ∧ denL ρ' cs' = denL ρ cs ∧ cs'.all SV.one = true) ∨ (∃ cs cs', B = .ro cs ∧ B' = .ro cs' ∧ denL ρ' cs' = denL ρ cs ∧ cs'.all SV.one = true) ∨
  (∃ o o', B = .obj o ∧ B' = .obj o' ∧ o'.den ρ' = o.den ρ) ∨ (B = .here ∧ B' = .here)
/-- where a block of the new naming comes from -/
def From (ρ ρ' : Ren) (M : List Blk) (σ : Nat → Option Nat) (n : Nat) (B' : Blk) : Prop :=
  B' = .dead ∨ (ρ' n = none ∧ ∃ ty, B' = .row [] ty) ∨ ∃ k B, σ n = some k ∧ ρ' n = ρ k ∧ M[k]? = some B ∧ BEq ρ ρ' B B'
theorem denL_nil_of {ρ ρ' : Ren} {cs cs' : List SV} (h : denL ρ' cs' = denL ρ cs) (h0 : cs = []) : cs' = [] := by
  subst h0
  have := congrArg List.length h
  rw [denL_length, denL_length] at this
  exact List.length_eq_zero_iff.1 this
theorem Sim.cover {G : Cx} {ρ : Ren} {M : List Blk} {w : World} (h : Sim G ρ M w) (ρ' : Ren) (M' : List Blk) (hm : G.m0 ≤ M'.length) (hid : ∀ n, n < G.m0 → ρ' n = ρ n)
    (hlt : ∀ (n : Nat) (B : Blk), M'[n]? = some B → B.lt M'.length = true) (σ : Nat → Option Nat) (hblk : ∀ (n : Nat) (B' : Blk), M'[n]? = some B' → From ρ ρ' M σ n B')
    (hinj : ∀ (n n' : Nat) (B B' : Blk) (k : Nat), M'[n]? = some B → M'[n']? = some B' → B.isRow = true → B'.live = true → σ n = some k → σ n' = some k → n = n') : Sim G ρ' M' w := by
  refine ⟨h.os, h.tape, h.output, h.kept, hm, fun n hn => (hid n hn).trans (h.same n hn), hlt, ?_, ?_⟩
  · intro n B' hB'
    rcases hblk n B' hB' with rfl | ⟨hn, ty, rfl⟩ | ⟨k, B, _, hk, hB, ⟨cs, cs', ty, rfl, rfl, hd, ho⟩ | ⟨cs, cs', rfl, rfl, hd, ho⟩ | ⟨o, o', rfl, rfl, hd⟩ | ⟨rfl, rfl⟩⟩
    · trivial
    · exact ⟨rfl, .inl ⟨rfl, hn⟩⟩
    · obtain ⟨_, ⟨h0, h1⟩ | ⟨g, hg, hkp, hh⟩⟩ := h.blk k _ hB
      · exact ⟨ho, .inl ⟨denL_nil_of hd h0, hk.trans h1⟩⟩
      · exact ⟨ho, .inr ⟨g, hk.trans hg, hkp, by rw [hd]; exact hh⟩⟩
    · obtain ⟨_, ⟨h1, h0⟩ | ⟨g, o, hg, hlt', hc⟩⟩ := h.blk k _ hB
      · exact ⟨ho, .inl ⟨hk.trans h1, denL_nil_of hd h0⟩⟩
      · refine ⟨ho, .inr ⟨g, o, hk.trans hg, hlt', fun j v hv => ?_⟩⟩
        have e : (denL ρ cs)[j]? = some (den ρ' v) := by rw [← hd, denL_get, hv]; rfl
        rw [denL_get] at e
        cases hcj : cs[j]? with
        | none => rw [hcj] at e; cases e
        | some u =>
          rw [hcj] at e
          simp only [Option.map_some, Option.some.injEq] at e
          rw [← e]
          exact hc j u hcj
    · obtain ⟨g, hg, hkp, hh⟩ := h.blk k _ hB
      exact ⟨g, hk.trans hg, hkp, by rw [hd]; exact hh⟩
    · obtain ⟨g, o, hg⟩ := h.blk k _ hB
      exact ⟨g, o, hk.trans hg⟩
  · intro n m B C hB hC hr hl hne a b ha hb
    rcases hblk n B hB with rfl | ⟨hn, ty, rfl⟩ | ⟨k, B0, hσ, hk, hB0, hbe⟩
    · cases hr
    · rw [hn] at ha; cases ha
    rcases hblk m C hC with rfl | ⟨hn, ty, rfl⟩ | ⟨k', C0, hσ', hk', hC0, hce⟩
    · cases hl
    · rw [hn] at hb; cases hb
    have hkk : k ≠ k' := fun e => hne (hinj n m B C k hB hC hr hl hσ (e ▸ hσ'))
    refine h.sep k k' B0 C0 hB0 hC0 ?_ ?_ hkk a b (by rw [← hk]; exact ha) (by rw [← hk']; exact hb)
    · rcases hbe with ⟨_, _, _, rfl, rfl, _⟩ | ⟨_, _, rfl, rfl, _⟩ | ⟨_, _, rfl, rfl, _⟩ | ⟨rfl, rfl⟩
      · rfl
      · cases hr
      · rfl
      · cases hr
    · rcases hce with ⟨_, _, _, rfl, rfl, _⟩ | ⟨_, _, rfl, rfl, _⟩ | ⟨_, _, rfl, rfl, _⟩ | ⟨rfl, rfl⟩ <;> first | rfl | cases hl
/-- a row under a new name, the elder one dead -/
theorem Sim.move {G : Cx} {ρ : Ren} {M : List Blk} {w : World} (h : Sim G ρ M w) {n : Nat} {cs : List SV} {ty : TypeId} (hB : M[n]? = some (.row cs ty)) :
    Sim G (fun k => if k = M.length then ρ n else ρ k) (M.set n .dead ++ [.row cs ty]) w := by
  have hn : n < M.length := (List.getElem?_eq_some_iff.1 hB).1
  have hext : Ext ρ (fun k => if k = M.length then ρ n else ρ k) M.length := fun k hk => if_neg (by omega)
  have hget : ∀ (k : Nat) (B : Blk), (M.set n Blk.dead ++ [Blk.row cs ty])[k]? = some B → (k < M.length ∧ k ≠ n ∧ M[k]? = some B) ∨ (k = n ∧ B = .dead) ∨ (k = M.length ∧ B = .row cs ty) := by
    intro k B hk
    rcases Nat.lt_or_ge k M.length with hl | hl
    · rw [List.getElem?_append_left (by simpa using hl)] at hk
      by_cases he : n = k
      · subst he; rw [List.getElem?_set_self hn] at hk; cases hk; exact .inr (.inl ⟨rfl, rfl⟩)
      · rw [List.getElem?_set_ne he] at hk; exact .inl ⟨hl, fun e => he e.symm, hk⟩
    · rw [List.getElem?_append_right (by simpa using hl)] at hk
      by_cases he : k = M.length
      · subst he; simp at hk; exact .inr (.inr ⟨rfl, hk.symm⟩)
      · rw [List.getElem?_eq_none (by simp; omega)] at hk; cases hk
  have hlen : (M.set n Blk.dead ++ [Blk.row cs ty]).length = M.length + 1 := by simp
  have hone : ∀ (k : Nat) (B : Blk), M[k]? = some B → BEq ρ (fun k => if k = M.length then ρ n else ρ k) B B ∨ B = .dead := by
    intro k B hk
    have hl := h.lt k B hk
    have hb := h.blk k B hk
    cases B with
    | row cs ty => exact .inl (.inl ⟨cs, cs, ty, rfl, rfl, denL_congr hext cs hl, hb.1⟩)
    | ro cs => exact .inl (.inr (.inl ⟨cs, cs, rfl, rfl, denL_congr hext cs hl, hb.1⟩))
    | obj o => exact .inl (.inr (.inr (.inl ⟨o, o, rfl, rfl, MObj.den_congr hext o hl⟩)))
    | here => exact .inl (.inr (.inr (.inr ⟨rfl, rfl⟩)))
    | dead => exact .inr rfl
  refine h.cover _ _ (by rw [hlen]; have := h.base; omega) (fun k hk => if_neg (by have := h.base; omega)) ?_ (fun k => if k = M.length then some n else some k) ?_ ?_
  · intro k B hk
    rw [hlen]
    rcases hget k B hk with ⟨_, _, h1⟩ | ⟨_, rfl⟩ | ⟨_, rfl⟩
    · exact Blk.lt_mono (h.lt k B h1) (by omega)
    · rfl
    · exact Blk.lt_mono (h.lt n _ hB) (by omega)
  · intro k B hk
    rcases hget k B hk with ⟨hl, _, h1⟩ | ⟨_, rfl⟩ | ⟨rfl, rfl⟩
    · rcases hone k B h1 with h2 | rfl
      · exact .inr (.inr ⟨k, B, if_neg (by omega), if_neg (by omega), h1, h2⟩)
      · exact .inl rfl
    · exact .inl rfl
    · rcases hone n _ hB with h2 | h2
      · exact .inr (.inr ⟨n, _, if_pos rfl, if_pos rfl, hB, h2⟩)
      · cases h2
  · intro k k' B B' j hk hk' hr hl hj hj'
    rcases hget k B hk with ⟨g1, g2, h1⟩ | ⟨_, rfl⟩ | ⟨rfl, rfl⟩ <;> rcases hget k' B' hk' with ⟨g3, g4, h2⟩ | ⟨_, rfl⟩ | ⟨rfl, rfl⟩ <;> (try (cases hr; done)) <;> (try (cases hl; done)) <;> (try rfl)
    · rw [if_neg (by omega)] at hj hj'
      exact Option.some.inj (hj.trans hj'.symm)
    · rw [if_neg (by omega)] at hj
      rw [if_pos rfl] at hj'
      exact absurd (Option.some.inj (hj.trans hj'.symm)) g2
    · rw [if_pos rfl] at hj
      rw [if_neg (by omega)] at hj'
      exact absurd (Option.some.inj (hj'.trans hj.symm)) g4
/-- an empty row that is nil -/
theorem Sim.nilRow {G : Cx} {ρ : Ren} {M : List Blk} {w : World} (h : Sim G ρ M w) (ty : TypeId) :
    Sim G (fun k => if k = M.length then none else ρ k) (M ++ [.row [] ty]) w := by
  have hext : Ext ρ (fun k => if k = M.length then none else ρ k) M.length := fun k hk => if_neg (by omega)
  have hget : ∀ (k : Nat) (B : Blk), (M ++ [Blk.row [] ty])[k]? = some B → (k < M.length ∧ M[k]? = some B) ∨ (k = M.length ∧ B = .row [] ty) := by
    intro k B hk
    rcases Nat.lt_or_ge k M.length with hl | hl
    · rw [List.getElem?_append_left hl] at hk
      exact .inl ⟨hl, hk⟩
    · rw [List.getElem?_append_right hl] at hk
      by_cases he : k = M.length
      · subst he; simp at hk; exact .inr ⟨rfl, hk.symm⟩
      · rw [List.getElem?_eq_none (by simp; omega)] at hk; cases hk
  refine h.cover _ _ (by simp; have := h.base; omega) (fun k hk => if_neg (by have := h.base; omega)) ?_ (fun k => if k = M.length then none else some k) ?_ ?_
  · intro k B hk
    rcases hget k B hk with ⟨_, h1⟩ | ⟨_, rfl⟩
    · exact Blk.lt_mono (h.lt k B h1) (by simp)
    · rfl
  · intro k B hk
    rcases hget k B hk with ⟨hl, h1⟩ | ⟨rfl, rfl⟩
    · have hl' := h.lt k B h1
      have hb := h.blk k B h1
      cases B with
      | row cs ty => exact .inr (.inr ⟨k, _, if_neg (by omega), if_neg (by omega), h1, .inl ⟨cs, cs, ty, rfl, rfl, denL_congr hext cs hl', hb.1⟩⟩)
      | ro cs => exact .inr (.inr ⟨k, _, if_neg (by omega), if_neg (by omega), h1, .inr (.inl ⟨cs, cs, rfl, rfl, denL_congr hext cs hl', hb.1⟩)⟩)
      | obj o => exact .inr (.inr ⟨k, _, if_neg (by omega), if_neg (by omega), h1, .inr (.inr (.inl ⟨o, o, rfl, rfl, MObj.den_congr hext o hl'⟩))⟩)
      | here => exact .inr (.inr ⟨k, _, if_neg (by omega), if_neg (by omega), h1, .inr (.inr (.inr ⟨rfl, rfl⟩))⟩)
      | dead => exact .inl rfl
    · exact .inr (.inl ⟨if_pos rfl, ty, rfl⟩)
  · intro k k' B B' j hk hk' hr hl hj hj'
    rcases hget k B hk with ⟨g1, h1⟩ | ⟨rfl, rfl⟩
    · rcases hget k' B' hk' with ⟨g3, h2⟩ | ⟨rfl, rfl⟩
      · rw [if_neg (by omega)] at hj hj'
        exact Option.some.inj (hj.trans hj'.symm)
      · rw [if_pos rfl] at hj'; cases hj'
    · rw [if_pos rfl] at hj; cases hj
/-! names under a map -/
mutual
def SV.rn (τ : Nat → Option Nat) : SV → SV
  | .p n off => match τ n with | some k => .p k off | none => .pn
  | .sl n off len cap => match τ n with | some k => .sl k off len cap | none => .raw (.slice none len cap)
  | .mp n => match τ n with | some k => .mp k | none => .mn
  | .agg l => .agg (rnL τ l)
  | .tup l => .tup (rnL τ l)
  | .fn f x c => .fn f (rnL τ x) (rnL τ c)
  | .ifc t v => .ifc t (v.rn τ)
  | .i k x => .i k x
  | .u8 x => .u8 x
  | .u32 x => .u32 x
  | .u64 x => .u64 x
  | .b x => .b x
  | .str x => .str x
  | .pn => .pn
  | .sn => .sn
  | .mn => .mn
  | .fnil => .fnil
  | .inil => .inil
  | .raw v => .raw v
def rnL (τ : Nat → Option Nat) : List SV → List SV
  | [] => []
  | x :: l => x.rn τ :: rnL τ l
end
def reOf (ρ : Ren) (τ : Nat → Option Nat) : Ren := fun n => (τ n).bind ρ
mutual
theorem den_rn (ρ : Ren) (τ : Nat → Option Nat) : ∀ x : SV, den (reOf ρ τ) x = den ρ (x.rn τ)
  | .p n off => by simp only [SV.rn]; cases h : τ n <;> simp [den, adr, reOf, h]
  | .sl n off len cap => by simp only [SV.rn]; cases h : τ n <;> simp [den, adr, reOf, h]
  | .mp n => by simp only [SV.rn]; cases h : τ n <;> simp [den, adr, reOf, h]
  | .agg l => by simp only [SV.rn, den, denL_rn ρ τ l]
  | .tup l => by simp only [SV.rn, den, denL_rn ρ τ l]
  | .fn f x c => by simp only [SV.rn, den, denL_rn ρ τ x, denL_rn ρ τ c]
  | .ifc t v => by simp only [SV.rn, den, den_rn ρ τ v]
  | .i .. | .u8 .. | .u32 .. | .u64 .. | .b .. | .str .. | .pn | .sn | .mn | .fnil | .inil | .raw .. => by simp only [SV.rn, den]
theorem denL_rn (ρ : Ren) (τ : Nat → Option Nat) : ∀ l : List SV, denL (reOf ρ τ) l = denL ρ (rnL τ l)
  | [] => rfl
  | x :: l => by simp only [rnL, denL, den_rn ρ τ x, denL_rn ρ τ l]
end
/-- a memory's new blocks, listed by where they come from -/
def tau (m : Nat) (ks : List (Option Nat)) (n : Nat) : Option Nat :=
  if n < m then some n else (ks[n - m]?).bind fun o => o.map (m + ·)
theorem tau_lt {m : Nat} {ks : List (Option Nat)} {n : Nat} (h : n < m) : tau m ks n = some n := if_pos h
theorem tau_at {m : Nat} {ks : List (Option Nat)} {j : Nat} : tau m ks (m + j) = (ks[j]?).bind fun o => o.map (m + ·) := by
  unfold tau; rw [if_neg (by omega)]; congr 2; omega
theorem tau_at0 {m : Nat} {ks : List (Option Nat)} : tau m ks m = (ks[0]?).bind fun o => o.map (m + ·) := tau_at (j := 0)
/-- what a new block must be: the old one's cells, with the names turned back -/
def BlkRn (τ : Nat → Option Nat) (L : List Blk) (k : Option Nat) (B' : Blk) : Prop :=
  match k, B' with
  | _, .dead => True
  | none, .row cs _ => cs = []
  | some k, .row cs' ty => ∃ cs, L[k]? = some (.row cs ty) ∧ cs'.all SV.one = true ∧ ∀ ρ, denL ρ (rnL τ cs') = denL ρ cs
  | some k, .ro cs' => ∃ cs, L[k]? = some (.ro cs) ∧ cs'.all SV.one = true ∧ ∀ ρ, denL ρ (rnL τ cs') = denL ρ cs
  | some k, .obj o' => ∃ o, L[k]? = some (.obj o) ∧ ∀ ρ, o'.den (reOf ρ τ) = o.den ρ
  | none, .ro _ => False
  | none, .obj _ => False
  | some k, .here => L[k]? = some .here
  | none, .here => False
def blksRn (τ : Nat → Option Nat) (L : List Blk) : List (Option Nat) → List Blk → Prop
  | [], [] => True
  | k :: ks, B :: Bs => BlkRn τ L k B ∧ blksRn τ L ks Bs
  | _, _ => False
theorem blksRn_get {τ : Nat → Option Nat} {L : List Blk} : ∀ (ks : List (Option Nat)) (Bs : List Blk), blksRn τ L ks Bs → ∀ (j : Nat) (B : Blk), Bs[j]? = some B → ∃ k, ks[j]? = some k ∧ BlkRn τ L k B
  | [], [], _, j, B, h => by simp at h
  | [], _ :: _, h, _, _, _ => h.elim
  | _ :: _, [], h, _, _, _ => h.elim
  | k :: ks, B0 :: Bs, h, 0, B, hB => ⟨k, rfl, by cases hB; exact h.1⟩
  | k :: ks, B0 :: Bs, h, j + 1, B, hB => blksRn_get ks Bs h.2 j B (by simpa using hB)
def dupl : List (Option Nat) → Bool
  | [] => false
  | none :: l => dupl l
  | some k :: l => l.contains (some k) || dupl l
theorem dupl_get : ∀ (ks : List (Option Nat)) (i j k : Nat), dupl ks = false → ks[i]? = some (some k) → ks[j]? = some (some k) → i = j
  | [], i, j, k, _, h, _ => by simp at h
  | none :: l, 0, _, k, _, h, _ => by simp at h
  | none :: l, _ + 1, 0, k, _, _, h => by simp at h
  | none :: l, i + 1, j + 1, k, hd, h, h' => by rw [dupl_get l i j k hd (by simpa using h) (by simpa using h')]
  | some a :: l, i, j, k, hd, h, h' => by
    simp only [dupl, Bool.or_eq_false_iff] at hd
    have key : ∀ n : Nat, l[n]? ≠ some (some a) := by
      intro n hn
      have := hd.1
      have hmem := List.mem_of_getElem? hn
      simp only [List.contains_eq_mem, decide_eq_false_iff_not] at this
      exact this hmem
    match i, j with
    | 0, 0 => rfl
    | 0, j + 1 => simp at h h'; subst h; exact absurd h' (key j)
    | i + 1, 0 => simp at h h'; subst h'; exact absurd h (key i)
    | i + 1, j + 1 => rw [dupl_get l i j k hd.2 (by simpa using h) (by simpa using h')]
/-- a state of blocks M ++ L seen as one of blocks M ++ L' -/
theorem Sim.gc {G : Cx} {ρ : Ren} {M L L' : List Blk} {w : World} (h : Sim G ρ (M ++ L) w) (hG : G.m0 ≤ M.length) (hM : ∀ (n : Nat) (B : Blk), M[n]? = some B → B.lt M.length = true) (ks : List (Option Nat))
    (hd : dupl ks = false) (hb : blksRn (tau M.length ks) L ks L') (hl : L'.all (Blk.lt (M.length + L'.length)) = true) : Sim G (reOf ρ (tau M.length ks)) (M ++ L') w := by
  have hget : ∀ (n : Nat) (B : Blk), (M ++ L')[n]? = some B → (n < M.length ∧ M[n]? = some B) ∨ ∃ j, n = M.length + j ∧ L'[j]? = some B := by
    intro n B hB
    rcases Nat.lt_or_ge n M.length with hn | hn
    · rw [List.getElem?_append_left hn] at hB; exact .inl ⟨hn, hB⟩
    · rw [List.getElem?_append_right hn] at hB; exact .inr ⟨n - M.length, by omega, hB⟩
  have hext : Ext ρ (reOf ρ (tau M.length ks)) M.length := fun n hn => by simp [reOf, tau_lt hn]
  refine h.cover _ _ (by simp; omega) (fun n hn => hext n (by omega)) ?_ (tau M.length ks) ?_ ?_
  · intro n B hB
    rcases hget n B hB with ⟨_, h1⟩ | ⟨j, rfl, h1⟩
    · exact Blk.lt_mono (hM n B h1) (by simp)
    · rw [List.length_append]; exact List.all_eq_true.1 hl B (List.mem_of_getElem? h1)
  · intro n B hB
    rcases hget n B hB with ⟨hn, h1⟩ | ⟨j, rfl, h1⟩
    · have h2 : (M ++ L)[n]? = some B := by rw [List.getElem?_append_left hn]; exact h1
      have hl' := hM n B h1
      have hbk := h.blk n B h2
      have e : reOf ρ (tau M.length ks) n = ρ n := hext n hn
      cases B with
      | row cs ty => exact .inr (.inr ⟨n, _, tau_lt hn, e, h2, .inl ⟨cs, cs, ty, rfl, rfl, denL_congr hext cs hl', hbk.1⟩⟩)
      | ro cs => exact .inr (.inr ⟨n, _, tau_lt hn, e, h2, .inr (.inl ⟨cs, cs, rfl, rfl, denL_congr hext cs hl', hbk.1⟩)⟩)
      | obj o => exact .inr (.inr ⟨n, _, tau_lt hn, e, h2, .inr (.inr (.inl ⟨o, o, rfl, rfl, MObj.den_congr hext o hl'⟩))⟩)
      | here => exact .inr (.inr ⟨n, _, tau_lt hn, e, h2, .inr (.inr (.inr ⟨rfl, rfl⟩))⟩)
      | dead => exact .inl rfl
    · obtain ⟨k, hk, hr⟩ := blksRn_get ks L' hb j B h1
      have ht : tau M.length ks (M.length + j) = k.map (M.length + ·) := by rw [tau_at, hk]; rfl
      cases k with
      | none =>
        cases B with
        | row cs ty => simp only [BlkRn] at hr; subst hr; exact .inr (.inl ⟨by simp [reOf, ht], ty, rfl⟩)
        | ro cs => exact hr.elim
        | obj o => exact hr.elim
        | here => exact hr.elim
        | dead => exact .inl rfl
      | some k =>
        have hML : ∀ B, L[k]? = some B → (M ++ L)[M.length + k]? = some B := fun B hB => by
          rw [List.getElem?_append_right (by omega)]; rw [← hB]; congr 1; omega
        cases B with
        | row cs' ty =>
          obtain ⟨cs, h1, h2, h3⟩ := hr
          exact .inr (.inr ⟨M.length + k, _, ht, by simp [reOf, ht], hML _ h1, .inl ⟨cs, cs', ty, rfl, rfl, (denL_rn ρ _ cs').trans (h3 ρ), h2⟩⟩)
        | ro cs' =>
          obtain ⟨cs, h1, h2, h3⟩ := hr
          exact .inr (.inr ⟨M.length + k, _, ht, by simp [reOf, ht], hML _ h1, .inr (.inl ⟨cs, cs', rfl, rfl, (denL_rn ρ _ cs').trans (h3 ρ), h2⟩)⟩)
        | obj o' =>
          obtain ⟨o, h1, h3⟩ := hr
          exact .inr (.inr ⟨M.length + k, _, ht, by simp [reOf, ht], hML _ h1, .inr (.inr (.inl ⟨o, o', rfl, rfl, h3 ρ⟩))⟩)
        | here => exact .inr (.inr ⟨M.length + k, _, ht, by simp [reOf, ht], hML _ hr, .inr (.inr (.inr ⟨rfl, rfl⟩))⟩)
        | dead => exact .inl rfl
  · intro n n' B B' k hB hB' hr hlv hk hk'
    rcases hget n B hB with ⟨hn, h1⟩ | ⟨j, rfl, h1⟩ <;> rcases hget n' B' hB' with ⟨hn', h1'⟩ | ⟨j', rfl, h1'⟩
    · rw [tau_lt hn] at hk; rw [tau_lt hn'] at hk'; exact Option.some.inj (hk.trans hk'.symm)
    · rw [tau_lt hn] at hk; rw [tau_at] at hk'
      cases h2 : ks[j']? with
      | none => simp [h2] at hk'
      | some o =>
        cases o with
        | none => simp [h2] at hk'
        | some a => simp [h2] at hk hk'; omega
    · rw [tau_lt hn'] at hk'; rw [tau_at] at hk
      cases h2 : ks[j]? with
      | none => simp [h2] at hk
      | some o =>
        cases o with
        | none => simp [h2] at hk
        | some a => simp [h2] at hk hk'; omega
    · rw [tau_at] at hk hk'
      cases h2 : ks[j]? with
      | none => simp [h2] at hk
      | some o =>
        cases o with
        | none => simp [h2] at hk
        | some a =>
          cases h3 : ks[j']? with
          | none => simp [h3] at hk'
          | some o' =>
            cases o' with
            | none => simp [h3] at hk'
            | some b =>
              simp [h2, h3] at hk hk'
              have : a = b := by omega
              subst this
              rw [dupl_get ks j j' a hd h2 h3]
/-! what is left of a state: a value and a memory; a frame and a memory -/
/-- a value and its memory, seen as another one with what stands below m kept -/
def dropC (m : Nat) (v : SV) (M : List Blk) (K : SV → List Blk → Prop) : Prop :=
  ∀ (G : Cx) (ρ : Ren) (w : World), G.m0 ≤ m → Sim G ρ M w → v.lt M.length = true → ∃ ρ' v' M', Ext ρ ρ' m ∧ m ≤ M'.length ∧ Sim G ρ' M' w ∧ v'.lt M'.length = true ∧ den ρ' v' = den ρ v ∧ K v' M'
/-- a frame and its memory, seen as others that C tells -/
def CovF (b : Nat) (ts : List SV) (M : List Blk) (C : List SV → List Blk → Prop) : Prop :=
  ∀ (G : Cx) (ρ : Ren) (w : World) (a : Act), G.m0 ≤ b → Sim G ρ M w → TS ρ M.length ts a → ∃ ρ' ts' M', Sim G ρ' M' w ∧ TS ρ' M'.length ts' a ∧ C ts' M'
theorem covF_self {b : Nat} {ts : List SV} {M : List Blk} {C : List SV → List Blk → Prop} (h : C ts M) : CovF b ts M C := fun G ρ w a _ hs ht => ⟨ρ, ts, M, hs, ht, h⟩
theorem dropC_gc {M L : List Blk} {v : SV} {K : SV → List Blk → Prop} (hM : ∀ (n : Nat) (B : Blk), M[n]? = some B → B.lt M.length = true) (ks : List (Option Nat)) (v' : SV) (L' : List Blk)
    (hd : dupl ks = false) (hb : blksRn (tau M.length ks) L ks L') (hl : L'.all (Blk.lt (M.length + L'.length)) = true) (hv : v'.lt (M.length + L'.length) = true)
    (hden : ∀ ρ, den ρ (v'.rn (tau M.length ks)) = den ρ v) (hK : K v' (M ++ L')) : dropC M.length v (M ++ L) K := by
  intro G ρ w hG hs hlt
  refine ⟨reOf ρ (tau M.length ks), v', M ++ L', fun n hn => by simp [reOf, tau_lt hn], by simp, hs.gc hG hM ks hd hb hl, by rw [List.length_append]; exact hv, ?_, hK⟩
  rw [den_rn, hden]
/-! frames -/
def frC : List (Option SV) → List SV → Prop
  | [], [] => True
  | some x :: r, y :: l => y = x ∧ frC r l
  | none :: r, _ :: l => frC r l
  | _, _ => False
/-- a frame's slots, with the names turned back -/
def frRn (m : Nat) (τ : Nat → Option Nat) : List (Option SV) → List SV → Prop
  | [], [] => True
  | some x :: r, y :: l => (∀ ρ, den ρ (x.rn τ) = den ρ y) ∧ frRn m τ r l
  | none :: r, _ :: l => frRn m τ r l
  | _, _ => False
def frLt (m : Nat) : List (Option SV) → Bool
  | [] => true
  | some x :: r => x.lt m && frLt m r
  | none :: r => frLt m r
theorem frRn_ok {m k : Nat} {τ : Nat → Option Nat} {ρ : Ren} : ∀ (sp : List (Option SV)) (ts : List SV), frRn m τ sp ts → frLt k sp = true →
    ∃ ts', frC sp ts' ∧ denL (reOf ρ τ) ts' = denL ρ ts ∧ ltL k ts' = true
  | [], [], _, _ => ⟨[], trivial, rfl, rfl⟩
  | [], _ :: _, h, _ => h.elim
  | some x :: r, [], h, _ => h.elim
  | none :: r, [], h, _ => h.elim
  | some x :: r, y :: l, h, hl => by
    simp only [frLt, Bool.and_eq_true] at hl
    obtain ⟨ts', h1, h2, h3⟩ := frRn_ok (m := m) (ρ := ρ) r l h.2 hl.2
    exact ⟨x :: ts', ⟨rfl, h1⟩, by simp only [denL, den_rn, h.1 ρ, h2], by simp only [ltL, hl.1, h3, Bool.and_self]⟩
  | none :: r, y :: l, h, hl => by
    obtain ⟨ts', h1, h2, h3⟩ := frRn_ok (m := m) (ρ := ρ) r l h hl
    exact ⟨.raw (den ρ y) :: ts', h1, by simp only [denL, den, h2], by simp only [ltL, SV.lt, h3, Bool.and_self]⟩
theorem covF_gc {M L : List Blk} {ts : List SV} {C : List SV → List Blk → Prop} (hM : ∀ (n : Nat) (B : Blk), M[n]? = some B → B.lt M.length = true) (ks : List (Option Nat)) (sp : List (Option SV)) (L' : List Blk)
    (hd : dupl ks = false) (hb : blksRn (tau M.length ks) L ks L') (hl : L'.all (Blk.lt (M.length + L'.length)) = true) (hf : frRn M.length (tau M.length ks) sp ts) (hfl : frLt (M.length + L'.length) sp = true)
    (hC : ∀ ts', frC sp ts' → C ts' (M ++ L')) : CovF M.length ts (M ++ L) C := by
  intro G ρ w a hG hs ht
  obtain ⟨ts', h1, h2, h3⟩ := frRn_ok (m := M.length) (ρ := ρ) sp ts hf hfl
  exact ⟨reOf ρ (tau M.length ks), ts', M ++ L', hs.gc hG hM ks hd hb hl, ⟨by rw [ht.tmps, h2], by rw [List.length_append]; exact h3⟩, hC ts' h1⟩
end Go.Proofs.YtdkdbeamimkljaaGreatDoor.Eng
