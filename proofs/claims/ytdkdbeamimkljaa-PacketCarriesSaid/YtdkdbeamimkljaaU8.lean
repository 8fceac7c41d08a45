/- What the rows of chapter 9 ask: the program's facts, a head opened. -/
import Derived.Test.YtdkdbeamimkljaaEngO
import Derived.Test.YtdkdbeamimkljaaU7
namespace Go.Proofs.Ytdkdbeamimkljaa.Eng
open Go Go.RowKit Go.ChangeShapes Go.WideShapes
set_option linter.unusedSimpArgs false
set_option linter.unusedVariables false

theorem own : ownKnob Try.prog.godebug = none := by kernel_rfl
theorem laid : laidOutB Try.prog = true := by kernel_rfl
theorem c8 : Try.prog.cellsOf 5 = 1 := by kernel_rfl
theorem b8 : Try.prog.bytesOf 5 = 1 := by kernel_rfl
theorem cInt : Try.prog.cellsOf 3 = 1 := by kernel_rfl
theorem cU64 : Try.prog.cellsOf 22 = 1 := by kernel_rfl
theorem cHead : Try.prog.cellsOf 24 = 4 := by kernel_rfl
set_option maxRecDepth 100000 in
theorem open_head {H : Type} {enc : TypeId × Value → H} {W : World} {base : Nat} {v : Value} {d : DataW H} {ps : List MemPlace} (hval : Value.okWide Try.prog W .any base 24 v)
    (hd : DataW.Trod enc Try.prog W 0 (fun _ => true) true 24 v d ps) : ∃ (t l g : Int) (c : BitVec 64), ∀ ρ, den ρ (hdS t l g c) = v := by
  obtain ⟨cs, xs, n, rfl, hl, _, hxl, _, hi⟩ := open_struct Try.underlying24 hval hd
  rw [cHead] at hl
  match cs, hl with
  | [a, b, c, e], _ =>
    obtain ⟨t, g0, w0⟩ := field_int hi hxl 0 (ty := 3) (off := 0) rfl Try.underlying3 cInt
    obtain ⟨l, g1, w1⟩ := field_int hi hxl 1 (ty := 3) (off := 1) rfl Try.underlying3 cInt
    obtain ⟨g, g2, w2⟩ := field_int hi hxl 2 (ty := 3) (off := 2) rfl Try.underlying3 cInt
    obtain ⟨k, g3, w3⟩ := field_int hi hxl 3 (ty := 22) (off := 3) rfl Try.underlying22 cU64
    obtain ⟨y, rfl⟩ := u64_of w3
    simp at g0 g1 g2 g3
    subst g0 g1 g2 g3
    exact ⟨t, l, g, y, fun ρ => by simp [hdS, den, denL]⟩
end Go.Proofs.Ytdkdbeamimkljaa.Eng
