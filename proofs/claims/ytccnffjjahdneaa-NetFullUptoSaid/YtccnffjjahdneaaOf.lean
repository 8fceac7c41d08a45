/- What the row of NetFull asks. -/
import Derived.Test.YtccnffjjahdneaaOe
import Derived.Test.YtccnffjjahdneaaQ3
namespace Go.Proofs.Ytccnffjjahdneaa.Eng
open Go Go.RowKit Go.ChangeShapes Go.WideShapes
set_option linter.unusedSimpArgs false
set_option linter.unusedVariables false
theorem bInt : Try.prog.bytesOf 3 = 8 := by kernel_rfl
theorem ints_of : ∀ (z : List (List SV)), (∀ y ∈ z, (∃ x : Int, -9223372036854775808 ≤ x ∧ x ≤ 9223372036854775807 ∧ y = [.i .i64 x]) ∧ y.length = Try.prog.cellsOf 3) → ∃ n : List Int, z.flatten = (n.map fun n => SV.i .i64 n) ∧ z.length = n.length
  | [], _ => ⟨[], rfl, rfl⟩
  | y :: z, h => by
    obtain ⟨n, h1, h2⟩ := ints_of z (fun w hw => h w (by simp [hw]))
    obtain ⟨⟨x, _, _, rfl⟩, _⟩ := h y (by simp)
    exact ⟨x :: n, by simp [h1], by simp [h2]⟩
theorem ArgAt.app {M L : List Blk} {x : SV} {l : List (BitVec 8)} (h : ArgAt M x l) : ArgAt (M ++ L) x l := by
  obtain ⟨h0, h | ⟨n, cap, h1, h2, h3, h4⟩⟩ := h
  · exact ⟨h0, .inl h⟩
  · exact ⟨h0, .inr ⟨n, cap, h1, h2.app, live_app h3 h2.lt, h4⟩⟩
theorem law_netFull (to more : Int) (x : SV) (b : List (BitVec 8)) (s cap n : Nat) (gone : List Int) (M : List Blk) (hx : ArgAt M x b) (hg : M[s]? = some (.ro (gone.map fun n => .i .i64 n))) (hn : n = gone.length) (h1 : n ≤ cap) (h2 : cap * 8 ≤ 140737488351232) :
    callVC Try.prog 5 [.i .i64 to, x, .sl s 0 n cap, .i .i64 more] M (fun v _ => v = .b true) := by
  subst hn
  exact full_law to more x b s cap gone M _ hx hg (by omega) rfl
end Go.Proofs.Ytccnffjjahdneaa.Eng
