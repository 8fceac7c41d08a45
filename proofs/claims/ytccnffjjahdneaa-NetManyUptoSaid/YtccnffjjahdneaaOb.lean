/- A script of steps among a law's arguments. -/
import Derived.Test.YtccnffjjahdneaaO9
import Derived.Test.YtccnffjjahdneaaEngP
namespace Go.Proofs.Ytccnffjjahdneaa.Eng
open Go Go.RowKit Go.ChangeShapes Go.WideShapes
set_option linter.unusedSimpArgs false
set_option linter.unusedVariables false
set_option linter.unusedSimpArgs false
set_option linter.unusedVariables false

theorem own : ownKnob Try.prog.godebug = none := by kernel_rfl
theorem laid : laidOutB Try.prog = true := by kernel_rfl
theorem c8 : Try.prog.cellsOf 5 = 1 := by kernel_rfl
theorem b8 : Try.prog.bytesOf 5 = 1 := by kernel_rfl
theorem cInt : Try.prog.cellsOf 3 = 1 := by kernel_rfl
theorem cBool : Try.prog.cellsOf 4 = 1 := by kernel_rfl
theorem cSl : Try.prog.cellsOf 22 = 1 := by kernel_rfl
theorem cOp : Try.prog.cellsOf 43 = 7 := by kernel_rfl
/-- a step as it lies among the arguments -/
def OpR (y : Rec) : Prop := ∃ (ki : Int) (se : Bool) (to no xx a : Int) (l : List (BitVec 8)) (xd : Nat → SV), (∀ m, y.1 m = [.i .i64 ki, .b se, .i .i64 to, .i .i64 no, .i .i64 xx, .i .i64 a, xd m]) ∧ (∀ m, (xd m).one = true) ∧
  (-9223372036854775808 ≤ no ∧ no ≤ 9223372036854775807) ∧ ∀ (M : List Blk) (m : Nat), M[m]? = some y.2 → ArgB M (xd m) l
set_option maxRecDepth 100000 in
theorem rec_op {H : Type} {enc : TypeId × Value → H} {W : World} : RecOf enc Try.prog W 43 OpR := by
  intro n cs x h hsz
  obtain ⟨xs, n', _, hx, hl, hxl, hi⟩ := DataW.trod_struct Try.underlying43 h
  rw [cOp] at hl
  obtain ⟨f0, g0, w0⟩ := field_int hi hxl 0 (ty := 3) (off := 0) rfl Try.underlying3 cInt
  obtain ⟨d1, p1, e1, h1⟩ := field_cell hi hxl 1 (ty := 4) (off := 1) rfl cBool
  obtain ⟨f2, g2, w2⟩ := field_int hi hxl 2 (ty := 3) (off := 2) rfl Try.underlying3 cInt
  obtain ⟨f3, g3, w3⟩ := field_int hi hxl 3 (ty := 3) (off := 3) rfl Try.underlying3 cInt
  obtain ⟨f4, g4, w4⟩ := field_int hi hxl 4 (ty := 3) (off := 4) rfl Try.underlying3 cInt
  obtain ⟨f5, g5, w5⟩ := field_int hi hxl 5 (ty := 3) (off := 5) rfl Try.underlying3 cInt
  obtain ⟨d6, p6, e6, h6⟩ := field_cell hi hxl 6 (ty := 22) (off := 6) rfl cSl
  match cs, hl with
  | [c0, c1, c2, c3, c4, c5, c6], _ =>
    simp at g0 g2 g3 g4 g5
    subst g0 g2 g3 g4 g5
    simp only [List.drop_succ_cons, List.drop_zero, List.take_succ_cons, List.take_zero] at h1 h6
    obtain ⟨b, hb, _⟩ := DataW.trod_bool Try.underlying4 h1
    simp at hb
    subst hb
    have hw6 : ∀ k ∈ d6.weights Try.prog 22, k ≤ reachBytes := by
      intro k hk
      refine hsz k ?_
      rw [hx]
      simp only [DataW.weights, Try.underlying43]
      exact weightsEach_get (i := 6) (t := 22) (d := d6) rfl (by rw [List.getElem?_map, e6]; rfl) hk
    obtain ⟨l, xd, B, a, hin, hden⟩ := bytes_in Try.underlying22 Try.underlying5 c8 b8 h6 hw6
    refine ⟨(fun m => [.i .i64 f0, .b b, .i .i64 f2, .i .i64 f3, .i .i64 f4, .i .i64 f5, xd m], B), a, ⟨f0, b, f2, f3, f4, f5, l, xd, fun _ => rfl, hin.one, wf_i64 w3, hin.bytes⟩, hin.blk, fun m => ⟨by rw [cOp]; rfl, by have := hin.one m; simp only [List.all_cons, List.all_nil, this, Bool.and_true]; rfl, by simp [ltL, SV.lt, hin.lt]⟩, fun ρ m hρ => by simp [denL, den, hden m ρ hρ]⟩
end Go.Proofs.Ytccnffjjahdneaa.Eng
