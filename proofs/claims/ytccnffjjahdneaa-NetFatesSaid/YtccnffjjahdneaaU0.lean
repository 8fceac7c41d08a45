/- What a call leaves, seen under other names. -/
import Derived.Test.YtccnffjjahdneaaU1
import Derived.Test.YtccnffjjahdneaaEngM
namespace Go.Proofs.Ytccnffjjahdneaa.Eng
open Go Go.RowKit
set_option linter.unusedSimpArgs false
set_option linter.unusedVariables false

/-- an answer that is a bool, nothing else left -/
theorem dropB {M L : List Blk} {b b' : Bool} {K : SV → List Blk → Prop} (hM : ∀ (n : Nat) (B : Blk), M[n]? = some B → B.lt M.length = true) (hK : K (.b b) M) (h : b = b') : dropC M.length (.b b') (M ++ L) K :=
  dropC_append hM rfl (h ▸ hK)
theorem dropB0 {M : List Blk} {b b' : Bool} {K : SV → List Blk → Prop} (hM : ∀ (n : Nat) (B : Blk), M[n]? = some B → B.lt M.length = true) (hK : K (.b b) M) (h : b = b') : dropC M.length (.b b') M K :=
  dropC_self hM rfl (h ▸ hK)

/-- what a call leaves, seen under other names -/
theorem callVC_drop {P : Program} {f : FuncId} {args : List SV} {M : List Blk} {K : SV → List Blk → Prop} (h : callVC P f args M (fun v M' => dropC M.length v M' K)) : callVC P f args M K :=
  ⟨h.1, fun G ρ w hs hl => (h.2 G ρ w hs hl).mono fun _ _ ⟨ρ', v, M', h1, h2, h3, h4, h5, h6⟩ => by
    obtain ⟨ρ2, v2, M2, g1, g2, g3, g4, g5, g6⟩ := h6 G ρ' _ hs.base h3 h4
    exact ⟨ρ2, v2, M2, h1.trans g1 (Nat.le_refl _), g2, g3, g4, by rw [g5]; exact h5, g6⟩⟩
theorem drop8n0 {M : List Blk} {K : SV → List Blk → Prop} {ty : TypeId} (hM : ∀ (n : Nat) (B : Blk), M[n]? = some B → B.lt M.length = true)
    (hK : K (.sl M.length 0 0 0) (M ++ [.row (bS []) ty])) : dropC M.length .sn M K := by
  have := drop8n (L := []) (ty := ty) hM hK
  rwa [List.append_nil] at this
theorem drop8nt {M : List Blk} {K : SV → List Blk → Prop} {ty : TypeId} {e : Int} (hM : ∀ (n : Nat) (B : Blk), M[n]? = some B → B.lt M.length = true)
    (hK : K (.tup [.sl M.length 0 0 0, .i .i64 e]) (M ++ [.row (bS []) ty])) : dropC M.length (.tup [.sn, .i .i64 e]) M K := by
  have := dropC_gc (L := []) (v := .tup [.sn, .i .i64 e]) (K := K) hM [none] (.tup [.sl M.length 0 0 0, .i .i64 e]) [.row [] ty] rfl ⟨rfl, trivial⟩ (by simp [Blk.lt, ltL]) (by simp [SV.lt, ltL]) (fun ρ => ?_) hK
  · rwa [List.append_nil] at this
  · have h0 : den ρ ((SV.sl M.length 0 0 0).rn (tau M.length [none])) = den ρ .sn := rn_nil
    simp only [rn_tup, rnL_cons, rnL_nil, rn_i]
    simp only [den, denL] at h0 ⊢
    rw [h0]
/-- the memory of a call is well named -/
theorem callVC_names {P : Program} {f : FuncId} {args : List SV} {M : List Blk} {K : SV → List Blk → Prop} (h : (∀ (n : Nat) (B : Blk), M[n]? = some B → B.lt M.length = true) → callVC P f args M K) (hc : ∀ xs w, (callFunc f xs).run P w = .ok (.enter f xs) w) : callVC P f args M K :=
  ⟨hc, fun G ρ w hs hl => (h hs.lt).2 G ρ w hs hl⟩

theorem drop0 {v : SV} {M : List Blk} {K : SV → List Blk → Prop} (hv : v.lt 0 = true) (hK : K v []) : dropC 0 v M K :=
  dropC_append (M := []) (N := M) (fun _ _ h => by simp at h) hv hK
/-- an answer of a list, or nil, and a bool -/
theorem drop8nb {M : List Blk} {K : SV → List Blk → Prop} {ty : TypeId} {e : Bool} (hM : ∀ (n : Nat) (B : Blk), M[n]? = some B → B.lt M.length = true)
    (hK : K (.tup [.sl M.length 0 0 0, .b e]) (M ++ [.row (bS []) ty])) : dropC M.length (.tup [.sn, .b e]) M K := by
  have := dropC_gc (L := []) (v := .tup [.sn, .b e]) (K := K) hM [none] (.tup [.sl M.length 0 0 0, .b e]) [.row [] ty] rfl ⟨rfl, trivial⟩ (by simp [Blk.lt, ltL]) (by simp [SV.lt, ltL]) (fun ρ => ?_) hK
  · rwa [List.append_nil] at this
  · have h0 : den ρ ((SV.sl M.length 0 0 0).rn (tau M.length [none])) = den ρ .sn := rn_nil
    simp only [rn_tup, rnL_cons, rnL_nil, rn_b]
    simp only [den, denL] at h0 ⊢
    rw [h0]
/-- a nil list handed in, seen as an empty one under a new name -/
theorem call_nil' {P : Program} {f : FuncId} (a b : List SV) {M L : List Blk} {K : SV → List Blk → Prop} (k : Nat) (hk : k = L.length) (h : callVC P f (a ++ .sl (M.length + k) 0 0 0 :: b) (M ++ (L ++ [.row (bS []) 0])) K) : callVC P f (a ++ .sn :: b) (M ++ L) K := by
  subst hk
  refine call_nil 0 ?_
  rw [List.length_append, List.append_assoc]
  exact h
end Go.Proofs.Ytccnffjjahdneaa.Eng
