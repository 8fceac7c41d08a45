/- 'ConfigLanes' returns true for every list of lists of changes and leaves its arguments as they were; there are no conditions. -/
import Derived.Test.YtdcplcfedcmcmaaMj
import Derived.Test.YtdcplcfedcmcmaaRows
namespace Go.Proofs.Ytdcplcfedcmcmaa.Eng
open Go Go.RowKit Go.ChangeShapes Go.WideShapes
set_option linter.unusedSimpArgs false
set_option linter.unusedVariables false
set_option maxRecDepth 100000 in
theorem configLanes_lifted (os : Os) (started : os.Started) (H : Type) (enc : TypeId × Value → H) :
    ReturnsInHanded {} Try.checked os 4 .any (Rows.configLanesSpec.pre6 enc Try.prog Try.f4 Rows.configLanesRow.domain false) (Rows.configLanesSpec.post enc Try.prog Try.f4 false true false false) := by
  refine law_lifted_sized (C := Try.checked) own started (by kernel_rfl) Try.func4
    (ChangeSpec.witness6 (enc := enc) (C := Try.checked) false ⟨#[], #[.slice none 0 0], []⟩ 8 (by kernel_rfl) (by kernel_rfl) (by kernel_rfl) (by kernel_rfl))
    laid (by kernel_rfl) rfl Try.underlying4 rfl ?_ ?_
  · intro ds hds
    match ds, hds with
    | [_], _ => exact ⟨rfl, rfl, rfl⟩
  · intro W base vs ds p hA0 hlt hval0 hwt0
    have hA : DataW.TrodAll enc Try.prog W 0 (fun _ => true) true Try.f4.params.toList vs ds p := hA0
    have hval : ∀ (j : Nat) t v, Try.f4.params[j]? = some t → vs[j]? = some v → Value.okWide Try.prog W .any base t v := hval0
    have hwt : ∀ (j : Nat) t d, Try.f4.params[j]? = some t → ds[j]? = some d → ∀ n ∈ d.weights Try.prog t, n ≤ reachBytes := hwt0
    rw [Try.params4] at hA hval hwt
    obtain ⟨v0, vs, d0, ds, p0, q, rfl, rfl, rfl, h0, hA⟩ := trodAll_cons hA
    obtain ⟨rfl, rfl, rfl⟩ := trodAll_nil hA
    have G := given_start (P := Try.prog) (W := W)
    obtain ⟨ρ0, L0, y0, G, a0⟩ := given_op G Try.underlying34 (by kernel_rfl) op_chss (hval 0 34 v0 rfl rfl) h0 (hwt 0 34 d0 rfl rfl)
    exact ⟨_, (L0), [y0], G, callVC_E Try.call4 (law_configLanes a0)⟩

theorem configLanes_holds : Rows.ConfigLanesSaid :=
  OpenClaim.holds_of_wide 4 Try.f4 rfl rfl rfl rfl rfl rfl rfl ⟨rfl, rfl, rfl, rfl, rfl⟩ rfl rfl rfl rfl rfl (by kernel_rfl) Try.func4 (by kernel_rfl)
    (of_decide_eq_true (by kernel_rfl)) (by unfold Func.isWrapper; first | (rw [if_pos (by decide +kernel)]; kernel_rfl) | (rw [if_neg (by decide +kernel)]; exact ⟨rfl, rfl⟩))
    (fun os started H enc _ => configLanes_lifted os started H enc)
end Go.Proofs.Ytdcplcfedcmcmaa.Eng
