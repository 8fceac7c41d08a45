/- 'FieldInv8s' returns true for every byte and leaves its arguments as they were; there are no conditions. -/
import Derived.Test.YthibglfeccmocaaFw
import Derived.Test.YthibglfeccmocaaPz
import Derived.Test.YthibglfeccmocaaRows
namespace Go.Proofs.Ythibglfeccmocaa.Eng
open Go Go.RowKit Go.ChangeShapes Go.WideShapes
set_option linter.unusedSimpArgs false
set_option linter.unusedVariables false
set_option maxRecDepth 100000 in
theorem fieldInv8s_lifted (os : Os) (started : os.Started) (H : Type) (enc : TypeId × Value → H) :
    ReturnsInHanded {} Try.checked os 4 .any (Rows.fieldInv8sSpec.pre6 enc Try.prog Try.f4 Rows.fieldInv8sRow.domain false) (Rows.fieldInv8sSpec.post enc Try.prog Try.f4 false true false false) := by
  refine law_lifted (C := Try.checked) own started (by kernel_rfl) Try.func4
    (ChangeSpec.witness6 (enc := enc) (C := Try.checked) false ⟨#[], #[.int .u8 0], []⟩ 8 (by kernel_rfl) (by kernel_rfl) (by kernel_rfl) (by kernel_rfl))
    laid (by kernel_rfl) rfl Try.underlying4 rfl ?_ ?_
  · intro ds hds
    match ds, hds with
    | [_], _ => exact ⟨rfl, rfl, rfl⟩
  · intro W base vs ds p hA0 hlt hval0 _
    have hA : DataW.TrodAll enc Try.prog W 0 (fun _ => true) true Try.f4.params.toList vs ds p := hA0
    have hval : ∀ (j : Nat) t v, Try.f4.params[j]? = some t → vs[j]? = some v → Value.okWide Try.prog W .any base t v := hval0
    rw [Try.params4] at hA hval
    obtain ⟨v0, vs, d0, ds, p0, q, rfl, rfl, rfl, h0, hA⟩ := trodAll_cons hA
    obtain ⟨rfl, rfl, rfl⟩ := trodAll_nil hA
    obtain ⟨x0, rfl, rfl⟩ := open_u8 Try.underlying5 (hval 0 5 v0 rfl rfl) h0
    exact ⟨fun _ => none, [], [.u8 x0], ⟨rfl, by simp [ltL, SV.lt, bS_lt], by simp⟩, law_fieldInv8s x0⟩

theorem fieldInv8s_holds : Rows.FieldInv8sSaid :=
  OpenClaim.holds_of_wide 4 Try.f4 rfl rfl rfl rfl rfl rfl rfl ⟨rfl, rfl, rfl, rfl, rfl⟩ rfl rfl rfl rfl rfl (by kernel_rfl) Try.func4 (by kernel_rfl)
    (of_decide_eq_true (by kernel_rfl)) (by unfold Func.isWrapper; first | (rw [if_pos (by decide +kernel)]; kernel_rfl) | (rw [if_neg (by decide +kernel)]; exact ⟨rfl, rfl⟩))
    (fun os started H enc _ => fieldInv8s_lifted os started H enc)
end Go.Proofs.Ythibglfeccmocaa.Eng
