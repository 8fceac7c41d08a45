/- A clone of what may be nil or empty. -/
import Derived.Test.YtccnffjjahdneaaN3
import Derived.Test.YtccnffjjahdneaaUh
namespace Go.Proofs.Ytccnffjjahdneaa.Eng
open Go Go.RowKit
set_option linter.unusedSimpArgs false
set_option linter.unusedVariables false
set_option linter.unusedSimpArgs false
set_option linter.unusedVariables false

theorem clone_amb (n : Nat) (ty : TypeId) (M : List Blk) (K : SV → List Blk → Prop) (hB : M[n]? = some (.row [] ty)) (hK : ∀ z ty, K (.sl M.length 0 0 (0 + z.length)) (M ++ [.row (bS ([] ++ z)) ty])) :
    callVC Try.prog 28 [.sl n 0 0 0] M K := by
  refine callVC_names (fun hM => ?_) Try.call28
  refine call_amb [] [] hB ?_ ?_
  · refine callVC_drop ?_
    refine clone_nil _ _ ?_
    exact drop8n0 (ty := 0) hM (hK [] 0)
  · refine clone_ok M.length 0 0 0 [] _ _ ⟨by simp, by simp, by simp [cellsAt, bS]⟩ (by simp [liveN]) (by simp) rfl (fun z tz => ?_)
    rw [List.length_append, List.append_assoc]
    exact drop8 1 hM rfl rfl (hK z tz)
/-- its address is not nil, or it is an empty row's -/
def There (M : List Blk) (d dc : Nat) (l : List (BitVec 8)) : Prop := liveN M d = true ∨ (dc = 0 ∧ l = [] ∧ ∃ ty, M[d]? = some (.row [] ty))
theorem There.app {M L : List Blk} {d dc : Nat} {l : List (BitVec 8)} (h : There M d dc l) (hd : d < M.length) : There (M ++ L) d dc l := by
  rcases h with h | ⟨h1, h2, ty, h3⟩
  · exact .inl (live_app h hd)
  · exact .inr ⟨h1, h2, ty, by rw [get_lt hd]; exact h3⟩
theorem There.row {M : List Blk} {d : Nat} {l z : List (BitVec 8)} {ty : TypeId} (h : M[d]? = some (.row (bS (l ++ z)) ty)) : There M d (l.length + z.length) l := by
  by_cases h0 : l ++ z = []
  · obtain ⟨rfl, rfl⟩ := List.append_eq_nil_iff.1 h0
    exact .inr ⟨rfl, rfl, ty, h⟩
  · refine .inl ?_
    have := List.length_pos_iff.2 h0
    rw [liveN_eq, h]
    simp only [liveB_row, bS_length, decide_eq_true_eq]
    exact this
theorem clone_any (d dc len : Nat) (l : List (BitVec 8)) (M : List Blk) (K : SV → List Blk → Prop) (hb : BAt M d 0 l) (ht : There M d dc l) (hl : l.length ≤ 140737488355327) (hlen : len = l.length)
    (hK : ∀ z ty, K (.sl M.length 0 l.length (l.length + z.length)) (M ++ [.row (bS (l ++ z)) ty])) :
    callVC Try.prog 28 [.sl d 0 len dc] M K := by
  rcases ht with h | ⟨rfl, rfl, ty, h⟩
  · exact clone_ok d 0 dc len l M K hb h hl hlen hK
  · subst hlen
    exact clone_amb d ty M K h hK
end Go.Proofs.Ytccnffjjahdneaa.Eng
