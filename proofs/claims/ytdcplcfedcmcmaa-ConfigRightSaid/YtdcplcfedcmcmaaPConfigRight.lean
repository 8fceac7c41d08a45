/- 'ConfigRight' returns true for every list of changes over every configuration and leaves its arguments as they were; there are no conditions. -/
import Derived.Test.YtdcplcfedcmcmaaMj
import Derived.Test.YtdcplcfedcmcmaaRows
namespace Go.Proofs.Ytdcplcfedcmcmaa.Eng
open Go Go.RowKit Go.ChangeShapes Go.WideShapes
set_option linter.unusedSimpArgs false
set_option linter.unusedVariables false
set_option maxRecDepth 100000 in
theorem configRight_lifted (os : Os) (started : os.Started) (H : Type) (enc : TypeId × Value → H) :
    ReturnsInHanded {} Try.checked os 3 .any (Rows.configRightSpec.pre6 enc Try.prog Try.f3 Rows.configRightRow.domain false) (Rows.configRightSpec.post enc Try.prog Try.f3 false true false false) := by
  refine law_lifted_sized (C := Try.checked) own started (by kernel_rfl) Try.func3
    (ChangeSpec.witness6 (enc := enc) (C := Try.checked) false ⟨#[], #[.slice none 0 0, .slice none 0 0, .slice none 0 0], []⟩ 8 (by kernel_rfl) (by kernel_rfl) (by kernel_rfl) (by kernel_rfl))
    laid (by kernel_rfl) rfl Try.underlying4 rfl ?_ ?_
  · intro ds hds
    match ds, hds with
    | [_, _, _], _ => exact ⟨rfl, rfl, rfl⟩
  · intro W base vs ds p hA0 hlt hval0 hwt0
    have hA : DataW.TrodAll enc Try.prog W 0 (fun _ => true) true Try.f3.params.toList vs ds p := hA0
    have hval : ∀ (j : Nat) t v, Try.f3.params[j]? = some t → vs[j]? = some v → Value.okWide Try.prog W .any base t v := hval0
    have hwt : ∀ (j : Nat) t d, Try.f3.params[j]? = some t → ds[j]? = some d → ∀ n ∈ d.weights Try.prog t, n ≤ reachBytes := hwt0
    rw [Try.params3] at hA hval hwt
    obtain ⟨v0, vs, d0, ds, p0, q, rfl, rfl, rfl, h0, hA⟩ := trodAll_cons hA
    obtain ⟨v1, vs, d1, ds, p1, q, rfl, rfl, rfl, h1, hA⟩ := trodAll_cons hA
    obtain ⟨v2, vs, d2, ds, p2, q, rfl, rfl, rfl, h2, hA⟩ := trodAll_cons hA
    obtain ⟨rfl, rfl, rfl⟩ := trodAll_nil hA
    have G := given_start (P := Try.prog) (W := W)
    obtain ⟨ρ0, L0, y0, G, a0⟩ := given_op G Try.underlying22 (by kernel_rfl) op_prs (hval 0 22 v0 rfl rfl) h0 (hwt 0 22 d0 rfl rfl)
    obtain ⟨ρ1, L1, y1, G, a1⟩ := given_op G Try.underlying23 (by kernel_rfl) op_lns (hval 1 23 v1 rfl rfl) h1 (hwt 1 23 d1 rfl rfl)
    obtain ⟨ρ2, L2, y2, G, a2⟩ := given_op G Try.underlying24 (by kernel_rfl) op_chs (hval 2 24 v2 rfl rfl) h2 (hwt 2 24 d2 rfl rfl)
    exact ⟨_, (L0 ++ L1 ++ L2), [y0, y1, y2], G, callVC_E Try.call3 (law_configRight a0 a1 a2)⟩

theorem configRight_holds : Rows.ConfigRightSaid :=
  OpenClaim.holds_of_wide 3 Try.f3 rfl rfl rfl rfl rfl rfl rfl ⟨rfl, rfl, rfl, rfl, rfl⟩ rfl rfl rfl rfl rfl (by kernel_rfl) Try.func3 (by kernel_rfl)
    (of_decide_eq_true (by kernel_rfl)) (by unfold Func.isWrapper; first | (rw [if_pos (by decide +kernel)]; kernel_rfl) | (rw [if_neg (by decide +kernel)]; exact ⟨rfl, rfl⟩))
    (fun os started H enc _ => configRight_lifted os started H enc)
end Go.Proofs.Ytdcplcfedcmcmaa.Eng
