/- 'ConfigJudges' returns true for every list of lists of changes and leaves its arguments as they were; there are no conditions. -/
import Derived.Test.YtdcplcfedcmcmaaGreatMi
import Derived.Test.YtdcplcfedcmcmaaGreatRows
namespace Go.Proofs.YtdcplcfedcmcmaaGreat.Eng
open Go Go.RowKit Go.ChangeShapes Go.WideShapes
set_option linter.unusedSimpArgs false
set_option linter.unusedVariables false
set_option maxRecDepth 100000 in
theorem configJudges_lifted (os : Os) (started : os.Started) (H : Type) (enc : TypeId × Value → H) :
    ReturnsInHanded {} Tryz.checked os 3 .any (Rows.configJudgesSpec.pre6 enc Tryz.prog Tryz.f3 Rows.configJudgesRow.domain false) (Rows.configJudgesSpec.post enc Tryz.prog Tryz.f3 false true false false) := by
  refine law_lifted_sized (C := Tryz.checked) own started (by kernel_rfl) Tryz.func3
    (ChangeSpec.witness6 (enc := enc) (C := Tryz.checked) false ⟨#[], #[.slice none 0 0], []⟩ 8 (by kernel_rfl) (by kernel_rfl) (by kernel_rfl) (by kernel_rfl))
    laid (by kernel_rfl) rfl Tryz.underlying4 rfl ?_ ?_
  · intro ds hds
    match ds, hds with
    | [_], _ => exact ⟨rfl, rfl, rfl⟩
  · intro W base vs ds p hA0 hlt hval0 hwt0
    have hA : DataW.TrodAll enc Tryz.prog W 0 (fun _ => true) true Tryz.f3.params.toList vs ds p := hA0
    have hval : ∀ (j : Nat) t v, Tryz.f3.params[j]? = some t → vs[j]? = some v → Value.okWide Tryz.prog W .any base t v := hval0
    have hwt : ∀ (j : Nat) t d, Tryz.f3.params[j]? = some t → ds[j]? = some d → ∀ n ∈ d.weights Tryz.prog t, n ≤ reachBytes := hwt0
    rw [Tryz.params3] at hA hval hwt
    obtain ⟨v0, vs, d0, ds, p0, q, rfl, rfl, rfl, h0, hA⟩ := trodAll_cons hA
    obtain ⟨rfl, rfl, rfl⟩ := trodAll_nil hA
    have G := given_start (P := Tryz.prog) (W := W)
    obtain ⟨ρ0, L0, y0, G, a0⟩ := given_op G Tryz.underlying22 (by kernel_rfl) op_chss (hval 0 22 v0 rfl rfl) h0 (hwt 0 22 d0 rfl rfl)
    exact ⟨_, (L0), [y0], G, callVC_E Tryz.call3 (law_configJudges a0)⟩

theorem configJudges_holds : Rows.ConfigJudgesSaid :=
  OpenClaim.holds_of_wide 3 Tryz.f3 rfl rfl rfl rfl rfl rfl rfl ⟨rfl, rfl, rfl, rfl, rfl⟩ rfl rfl rfl rfl rfl (by kernel_rfl) Tryz.func3 (by kernel_rfl)
    (of_decide_eq_true (by kernel_rfl)) (by unfold Func.isWrapper; first | (rw [if_pos (by decide +kernel)]; kernel_rfl) | (rw [if_neg (by decide +kernel)]; exact ⟨rfl, rfl⟩))
    (fun os started H enc _ => configJudges_lifted os started H enc)
end Go.Proofs.YtdcplcfedcmcmaaGreat.Eng
