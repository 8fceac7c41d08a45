/- 'FieldInverse' returns true for every two bytes and leaves its arguments as they were; there are no conditions. -/
import Derived.Test.YthibglfeccmocaaFw
import Derived.Test.YthibglfeccmocaaPz
import Derived.Test.YthibglfeccmocaaRows
namespace Go.Proofs.Ythibglfeccmocaa.Eng
open Go Go.RowKit Go.ChangeShapes Go.WideShapes
set_option linter.unusedSimpArgs false
set_option linter.unusedVariables false
set_option maxRecDepth 100000 in
theorem fieldInverse_lifted (os : Os) (started : os.Started) (H : Type) (enc : TypeId × Value → H) :
    ReturnsInHanded {} Try.checked os 10 .any (Rows.fieldInverseSpec.pre6 enc Try.prog Try.f10 Rows.fieldInverseRow.domain false) (Rows.fieldInverseSpec.post enc Try.prog Try.f10 false true false false) := by
  refine law_lifted (C := Try.checked) own started (by kernel_rfl) Try.func10
    (ChangeSpec.witness6 (enc := enc) (C := Try.checked) false ⟨#[], #[.int .u8 0, .int .u8 0], []⟩ 8 (by kernel_rfl) (by kernel_rfl) (by kernel_rfl) (by kernel_rfl))
    laid (by kernel_rfl) rfl Try.underlying4 rfl ?_ ?_
  · intro ds hds
    match ds, hds with
    | [_, _], _ => exact ⟨rfl, rfl, rfl⟩
  · intro W base vs ds p hA0 hlt hval0 _
    have hA : DataW.TrodAll enc Try.prog W 0 (fun _ => true) true Try.f10.params.toList vs ds p := hA0
    have hval : ∀ (j : Nat) t v, Try.f10.params[j]? = some t → vs[j]? = some v → Value.okWide Try.prog W .any base t v := hval0
    rw [Try.params10] at hA hval
    obtain ⟨v0, vs, d0, ds, p0, q, rfl, rfl, rfl, h0, hA⟩ := trodAll_cons hA
    obtain ⟨v1, vs, d1, ds, p1, q, rfl, rfl, rfl, h1, hA⟩ := trodAll_cons hA
    obtain ⟨rfl, rfl, rfl⟩ := trodAll_nil hA
    obtain ⟨x0, rfl, rfl⟩ := open_u8 Try.underlying5 (hval 0 5 v0 rfl rfl) h0
    obtain ⟨x1, rfl, rfl⟩ := open_u8 Try.underlying5 (hval 1 5 v1 rfl rfl) h1
    exact ⟨fun _ => none, [], [.u8 x0, .u8 x1], ⟨rfl, by simp [ltL, SV.lt, bS_lt], by simp⟩, law_fieldInverse x0 x1⟩

theorem fieldInverse_holds : Rows.FieldInverseSaid :=
  OpenClaim.holds_of_wide 10 Try.f10 rfl rfl rfl rfl rfl rfl rfl ⟨rfl, rfl, rfl, rfl, rfl⟩ rfl rfl rfl rfl rfl (by kernel_rfl) Try.func10 (by kernel_rfl)
    (of_decide_eq_true (by kernel_rfl)) (by unfold Func.isWrapper; first | (rw [if_pos (by decide +kernel)]; kernel_rfl) | (rw [if_neg (by decide +kernel)]; exact ⟨rfl, rfl⟩))
    (fun os started H enc _ => fieldInverse_lifted os started H enc)
end Go.Proofs.Ythibglfeccmocaa.Eng
