/- 'FieldLaws128' returns true for every three blocks of sixteen bytes and leaves its arguments as they were; there are no conditions. -/
import Derived.Test.YthibglfeccmocaaFv
import Derived.Test.YthibglfeccmocaaPz
import Derived.Test.YthibglfeccmocaaRows
namespace Go.Proofs.Ythibglfeccmocaa.Eng
open Go Go.RowKit Go.ChangeShapes Go.WideShapes
set_option linter.unusedSimpArgs false
set_option linter.unusedVariables false
set_option maxRecDepth 100000 in
theorem fieldLaws128_lifted (os : Os) (started : os.Started) (H : Type) (enc : TypeId × Value → H) :
    ReturnsInHanded {} Try.checked os 8 .any (Rows.fieldLaws128Spec.pre6 enc Try.prog Try.f8 Rows.fieldLaws128Row.domain false) (Rows.fieldLaws128Spec.post enc Try.prog Try.f8 false true false false) := by
  refine law_lifted (C := Try.checked) own started (by kernel_rfl) Try.func8
    (ChangeSpec.witness6 (enc := enc) (C := Try.checked) false ⟨#[], #[.agg (Array.replicate 16 (.int .u8 0)), .agg (Array.replicate 16 (.int .u8 0)), .agg (Array.replicate 16 (.int .u8 0))], []⟩ 8 (by kernel_rfl) (by kernel_rfl) (by kernel_rfl) (by kernel_rfl))
    laid (by kernel_rfl) rfl Try.underlying4 rfl ?_ ?_
  · intro ds hds
    match ds, hds with
    | [_, _, _], _ => exact ⟨rfl, rfl, rfl⟩
  · intro W base vs ds p hA0 hlt hval0 _
    have hA : DataW.TrodAll enc Try.prog W 0 (fun _ => true) true Try.f8.params.toList vs ds p := hA0
    have hval : ∀ (j : Nat) t v, Try.f8.params[j]? = some t → vs[j]? = some v → Value.okWide Try.prog W .any base t v := hval0
    rw [Try.params8] at hA hval
    obtain ⟨v0, vs, d0, ds, p0, q, rfl, rfl, rfl, h0, hA⟩ := trodAll_cons hA
    obtain ⟨v1, vs, d1, ds, p1, q, rfl, rfl, rfl, h1, hA⟩ := trodAll_cons hA
    obtain ⟨v2, vs, d2, ds, p2, q, rfl, rfl, rfl, h2, hA⟩ := trodAll_cons hA
    obtain ⟨rfl, rfl, rfl⟩ := trodAll_nil hA
    obtain ⟨x0, l0, rfl, e0⟩ := open_arr8 Try.underlying27 Try.underlying5 c5 c27 (hval 0 27 v0 rfl rfl) h0
    obtain ⟨x1, l1, rfl, e1⟩ := open_arr8 Try.underlying27 Try.underlying5 c5 c27 (hval 1 27 v1 rfl rfl) h1
    obtain ⟨x2, l2, rfl, e2⟩ := open_arr8 Try.underlying27 Try.underlying5 c5 c27 (hval 2 27 v2 rfl rfl) h2
    exact ⟨fun _ => none, [], [.agg (bS x0), .agg (bS x1), .agg (bS x2)], ⟨by rw [e0 (fun _ => none), e1 (fun _ => none), e2 (fun _ => none)]; rfl, by simp [ltL, SV.lt, bS_lt], by simp⟩, law_fieldLaws128 x0 x1 x2 l0 l1 l2⟩

theorem fieldLaws128_holds : Rows.FieldLaws128Said :=
  OpenClaim.holds_of_wide 8 Try.f8 rfl rfl rfl rfl rfl rfl rfl ⟨rfl, rfl, rfl, rfl, rfl⟩ rfl rfl rfl rfl rfl (by kernel_rfl) Try.func8 (by kernel_rfl)
    (of_decide_eq_true (by kernel_rfl)) (by unfold Func.isWrapper; first | (rw [if_pos (by decide +kernel)]; kernel_rfl) | (rw [if_neg (by decide +kernel)]; exact ⟨rfl, rfl⟩))
    (fun os started H enc _ => fieldLaws128_lifted os started H enc)
end Go.Proofs.Ythibglfeccmocaa.Eng
