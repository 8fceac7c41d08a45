/- A list of bytes that may be nil, or empty: both answers of a look at nil. -/
import Derived.Test.YtccnffjjahdneaaU0
namespace Go.Proofs.Ytccnffjjahdneaa.Eng
open Go Go.RowKit
set_option linter.unusedSimpArgs false
set_option linter.unusedVariables false
set_option linter.unusedSimpArgs false
set_option linter.unusedVariables false

theorem Sim.hereB {G : Cx} {ρ : Ren} {M : List Blk} {w : World} (h : Sim G ρ M w) (g o : Nat) : Sim G (upd ρ M.length (g, o)) (M ++ [.here]) w := by
  have hE := upd_ext ρ M.length (g, o)
  have hget : ∀ n B, (M ++ [Blk.here])[n]? = some B → (n < M.length ∧ M[n]? = some B) ∨ (n = M.length ∧ B = .here) := by
    intro n B hB
    rcases Nat.lt_or_ge n M.length with hn | hn
    · exact .inl ⟨hn, by rwa [List.getElem?_append_left hn] at hB⟩
    · rw [List.getElem?_append_right hn] at hB
      by_cases he : n = M.length
      · subst he; simp at hB; exact .inr ⟨rfl, hB.symm⟩
      · rw [List.getElem?_eq_none (by simp; omega)] at hB; cases hB
  refine ⟨h.os, h.tape, h.output, h.kept, by simp; have := h.base; omega, ?_, ?_, ?_, ?_⟩
  · intro n hn
    rw [hE n (by have := h.base; omega)]
    exact h.same n hn
  · intro n B hB
    rcases hget n B hB with ⟨hn, hB'⟩ | ⟨rfl, rfl⟩
    · exact Blk.lt_mono (h.lt n B hB') (by simp)
    · rfl
  · intro n B hB
    rcases hget n B hB with ⟨hn, hB'⟩ | ⟨rfl, rfl⟩
    · exact (h.blk n B hB').ren hE hn (h.lt n B hB')
    · exact ⟨g, o, by simp [upd]⟩
  · intro n m B C hB hC hr hlv hne
    rcases hget n B hB with ⟨hn, hB'⟩ | ⟨rfl, rfl⟩
    · rcases hget m C hC with ⟨hm, hC'⟩ | ⟨rfl, rfl⟩
      · rw [hE n hn, hE m hm]; exact h.sep n m B C hB' hC' hr hlv hne
      · cases hlv
    · cases hr

/-- an empty row's slice handed in: it is nil, or its address is not -/
theorem call_amb {P : Program} {f : FuncId} (a b : List SV) {n : Nat} {ty : TypeId} {M : List Blk} {K : SV → List Blk → Prop} (hB : M[n]? = some (.row [] ty)) (hnil : callVC P f (a ++ .sn :: b) M K)
    (hlive : callVC P f (a ++ .sl M.length 0 0 0 :: b) (M ++ [.here]) (fun v M' => dropC M.length v M' K)) : callVC P f (a ++ .sl n 0 0 0 :: b) M K := by
  refine ⟨hnil.1, fun G ρ w hs hl => ?_⟩
  simp only [ltL_append, ltL, Bool.and_eq_true] at hl
  obtain ⟨_, ⟨_, h0⟩ | ⟨g, hg, _, _⟩⟩ := hs.blk n _ hB
  · have e : denL ρ (a ++ .sl n 0 0 0 :: b) = denL ρ (a ++ .sn :: b) := by simp [denL_append, denL, den, adr, h0]
    rw [e]
    exact hnil.2 G ρ w hs (by simp only [ltL_append, ltL, hl.1, hl.2.2, SV.lt, Bool.and_self])
  · have hE := upd_ext ρ M.length (g, 0)
    have e : denL ρ (a ++ .sl n 0 0 0 :: b) = denL (upd ρ M.length (g, 0)) (a ++ .sl M.length 0 0 0 :: b) := by
      rw [denL_append, denL_append, denL_congr hE a hl.1]
      simp only [denL, denL_congr hE b hl.2.2]
      congr 2
      simp [den, adr, hg, upd]
    rw [e]
    have hlen : M.length ≤ (M ++ [Blk.here]).length := by simp
    refine (hlive.2 G _ w (hs.hereB g 0) (by simp only [ltL_append, ltL, ltL_mono hlen _ hl.1, ltL_mono hlen _ hl.2.2, SV.lt, Bool.and_true, Bool.true_and]; simp)).mono ?_
    rintro e w' ⟨ρ', v, M', h1, h2, h3, h4, h5, h6⟩
    obtain ⟨ρ2, v2, M2, g1, g2, g3, g4, g5, g6⟩ := h6 G ρ' w' hs.base h3 h4
    exact ⟨ρ2, v2, M2, (hE.trans h1 hlen).trans g1 (Nat.le_refl _), g2, g3, g4, by rw [g5]; exact h5, g6⟩
end Go.Proofs.Ytccnffjjahdneaa.Eng
