/- What the rows of chapter 4 ask: the program's facts. -/
import Derived.Test.YthcfjecicdfngaaEngQ
import Derived.Test.YthcfjecicdfngaaAb
namespace Go.Proofs.Ythcfjecicdfngaa.Eng
open Go Go.RowKit Go.ChangeShapes Go.WideShapes
set_option linter.unusedSimpArgs false
set_option linter.unusedVariables false

theorem own : ownKnob Try.prog.godebug = none := by kernel_rfl
theorem laid : laidOutB Try.prog = true := by kernel_rfl
theorem c8 : Try.prog.cellsOf 5 = 1 := by kernel_rfl
theorem b8 : Try.prog.bytesOf 5 = 1 := by kernel_rfl
theorem c16 : Try.prog.cellsOf 36 = 16 := by kernel_rfl
theorem b16 : Try.prog.bytesOf 36 = 16 := by kernel_rfl
theorem flat16 : ∀ l : List (List SV), (∀ y ∈ l, (∃ b : List (BitVec 8), b.length = 16 ∧ y = bS b) ∧ y.length = Try.prog.cellsOf 36) → ∃ B : List (BitVec 8), B.length = 16 * l.length ∧ l.flatten = bS B
  | [], _ => ⟨[], rfl, rfl⟩
  | y :: l, h => by
    obtain ⟨B, h1, h2⟩ := flat16 l fun z hz => h z (by simp [hz])
    obtain ⟨⟨b, h3, rfl⟩, _⟩ := h y (by simp)
    exact ⟨b ++ B, by simp; omega, by rw [List.flatten_cons, h2, bS_append]⟩
end Go.Proofs.Ythcfjecicdfngaa.Eng
