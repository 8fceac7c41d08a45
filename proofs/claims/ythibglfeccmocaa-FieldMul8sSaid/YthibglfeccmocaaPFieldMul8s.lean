/- 'FieldMul8s' returns true for every two bytes and leaves its arguments as they were; there are no conditions. -/
import Derived.Test.YthibglfeccmocaaFw
import Derived.Test.YthibglfeccmocaaPz
import Derived.Test.YthibglfeccmocaaRows
namespace Go.Proofs.Ythibglfeccmocaa.Eng
open Go Go.RowKit Go.ChangeShapes Go.WideShapes
set_option linter.unusedSimpArgs false
set_option linter.unusedVariables false
set_option maxRecDepth 100000 in
theorem fieldMul8s_lifted (os : Os) (started : os.Started) (H : Type) (enc : TypeId × Value → H) :
    ReturnsInHanded {} Try.checked os 3 .any (Rows.fieldMul8sSpec.pre6 enc Try.prog Try.f3 Rows.fieldMul8sRow.domain false) (Rows.fieldMul8sSpec.post enc Try.prog Try.f3 false true false false) := by
  refine law_lifted (C := Try.checked) own started (by kernel_rfl) Try.func3
    (ChangeSpec.witness6 (enc := enc) (C := Try.checked) false ⟨#[], #[.int .u8 0, .int .u8 0], []⟩ 8 (by kernel_rfl) (by kernel_rfl) (by kernel_rfl) (by kernel_rfl))
    laid (by kernel_rfl) rfl Try.underlying4 rfl ?_ ?_
  · intro ds hds
    match ds, hds with
    | [_, _], _ => exact ⟨rfl, rfl, rfl⟩
  · intro W base vs ds p hA0 hlt hval0 _
    have hA : DataW.TrodAll enc Try.prog W 0 (fun _ => true) true Try.f3.params.toList vs ds p := hA0
    have hval : ∀ (j : Nat) t v, Try.f3.params[j]? = some t → vs[j]? = some v → Value.okWide Try.prog W .any base t v := hval0
    rw [Try.params3] at hA hval
    obtain ⟨v0, vs, d0, ds, p0, q, rfl, rfl, rfl, h0, hA⟩ := trodAll_cons hA
    obtain ⟨v1, vs, d1, ds, p1, q, rfl, rfl, rfl, h1, hA⟩ := trodAll_cons hA
    obtain ⟨rfl, rfl, rfl⟩ := trodAll_nil hA
    obtain ⟨x0, rfl, rfl⟩ := open_u8 Try.underlying5 (hval 0 5 v0 rfl rfl) h0
    obtain ⟨x1, rfl, rfl⟩ := open_u8 Try.underlying5 (hval 1 5 v1 rfl rfl) h1
    exact ⟨fun _ => none, [], [.u8 x0, .u8 x1], ⟨rfl, by simp [ltL, SV.lt, bS_lt], by simp⟩, law_fieldMul8s x0 x1⟩

theorem fieldMul8s_holds : Rows.FieldMul8sSaid :=
  OpenClaim.holds_of_wide 3 Try.f3 rfl rfl rfl rfl rfl rfl rfl ⟨rfl, rfl, rfl, rfl, rfl⟩ rfl rfl rfl rfl rfl (by kernel_rfl) Try.func3 (by kernel_rfl)
    (of_decide_eq_true (by kernel_rfl)) (by unfold Func.isWrapper; first | (rw [if_pos (by decide +kernel)]; kernel_rfl) | (rw [if_neg (by decide +kernel)]; exact ⟨rfl, rfl⟩))
    (fun os started H enc _ => fieldMul8s_lifted os started H enc)
end Go.Proofs.Ythibglfeccmocaa.Eng
