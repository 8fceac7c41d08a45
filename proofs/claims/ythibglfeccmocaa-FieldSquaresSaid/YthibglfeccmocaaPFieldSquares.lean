/- 'FieldSquares' returns true for every two bytes and two blocks and leaves its arguments as they were; there are no conditions. -/
import Derived.Test.YthibglfeccmocaaFx
import Derived.Test.YthibglfeccmocaaPz
import Derived.Test.YthibglfeccmocaaRows
namespace Go.Proofs.Ythibglfeccmocaa.Eng
open Go Go.RowKit Go.ChangeShapes Go.WideShapes
set_option linter.unusedSimpArgs false
set_option linter.unusedVariables false
set_option maxRecDepth 100000 in
theorem fieldSquares_lifted (os : Os) (started : os.Started) (H : Type) (enc : TypeId × Value → H) :
    ReturnsInHanded {} Try.checked os 9 .any (Rows.fieldSquaresSpec.pre6 enc Try.prog Try.f9 Rows.fieldSquaresRow.domain false) (Rows.fieldSquaresSpec.post enc Try.prog Try.f9 false true false false) := by
  refine law_lifted (C := Try.checked) own started (by kernel_rfl) Try.func9
    (ChangeSpec.witness6 (enc := enc) (C := Try.checked) false ⟨#[], #[.int .u8 0, .int .u8 0, .agg (Array.replicate 16 (.int .u8 0)), .agg (Array.replicate 16 (.int .u8 0))], []⟩ 8 (by kernel_rfl) (by kernel_rfl) (by kernel_rfl) (by kernel_rfl))
    laid (by kernel_rfl) rfl Try.underlying4 rfl ?_ ?_
  · intro ds hds
    match ds, hds with
    | [_, _, _, _], _ => exact ⟨rfl, rfl, rfl⟩
  · intro W base vs ds p hA0 hlt hval0 _
    have hA : DataW.TrodAll enc Try.prog W 0 (fun _ => true) true Try.f9.params.toList vs ds p := hA0
    have hval : ∀ (j : Nat) t v, Try.f9.params[j]? = some t → vs[j]? = some v → Value.okWide Try.prog W .any base t v := hval0
    rw [Try.params9] at hA hval
    obtain ⟨v0, vs, d0, ds, p0, q, rfl, rfl, rfl, h0, hA⟩ := trodAll_cons hA
    obtain ⟨v1, vs, d1, ds, p1, q, rfl, rfl, rfl, h1, hA⟩ := trodAll_cons hA
    obtain ⟨v2, vs, d2, ds, p2, q, rfl, rfl, rfl, h2, hA⟩ := trodAll_cons hA
    obtain ⟨v3, vs, d3, ds, p3, q, rfl, rfl, rfl, h3, hA⟩ := trodAll_cons hA
    obtain ⟨rfl, rfl, rfl⟩ := trodAll_nil hA
    obtain ⟨x0, rfl, rfl⟩ := open_u8 Try.underlying5 (hval 0 5 v0 rfl rfl) h0
    obtain ⟨x1, rfl, rfl⟩ := open_u8 Try.underlying5 (hval 1 5 v1 rfl rfl) h1
    obtain ⟨x2, l2, rfl, e2⟩ := open_arr8 Try.underlying27 Try.underlying5 c5 c27 (hval 2 27 v2 rfl rfl) h2
    obtain ⟨x3, l3, rfl, e3⟩ := open_arr8 Try.underlying27 Try.underlying5 c5 c27 (hval 3 27 v3 rfl rfl) h3
    exact ⟨fun _ => none, [], [.u8 x0, .u8 x1, .agg (bS x2), .agg (bS x3)], ⟨by rw [e2 (fun _ => none), e3 (fun _ => none)]; rfl, by simp [ltL, SV.lt, bS_lt], by simp⟩, law_fieldSquares x0 x1 x2 x3 l2 l3⟩

theorem fieldSquares_holds : Rows.FieldSquaresSaid :=
  OpenClaim.holds_of_wide 9 Try.f9 rfl rfl rfl rfl rfl rfl rfl ⟨rfl, rfl, rfl, rfl, rfl⟩ rfl rfl rfl rfl rfl (by kernel_rfl) Try.func9 (by kernel_rfl)
    (of_decide_eq_true (by kernel_rfl)) (by unfold Func.isWrapper; first | (rw [if_pos (by decide +kernel)]; kernel_rfl) | (rw [if_neg (by decide +kernel)]; exact ⟨rfl, rfl⟩))
    (fun os started H enc _ => fieldSquares_lifted os started H enc)
end Go.Proofs.Ythibglfeccmocaa.Eng
