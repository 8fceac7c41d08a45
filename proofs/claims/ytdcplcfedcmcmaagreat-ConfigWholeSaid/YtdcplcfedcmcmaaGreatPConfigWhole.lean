/- 'ConfigWhole' returns true for every list of changes over every configuration and leaves its arguments as they were; there are no conditions. -/
import Derived.Test.YtdcplcfedcmcmaaGreatMj
import Derived.Test.YtdcplcfedcmcmaaGreatRows
namespace Go.Proofs.YtdcplcfedcmcmaaGreat.Eng
open Go Go.RowKit Go.ChangeShapes Go.WideShapes
set_option linter.unusedSimpArgs false
set_option linter.unusedVariables false
set_option maxRecDepth 100000 in
theorem configWhole_lifted (os : Os) (started : os.Started) (H : Type) (enc : TypeId × Value → H) :
    ReturnsInHanded {} Tryz.checked os 5 .any (Rows.configWholeSpec.pre6 enc Tryz.prog Tryz.f5 Rows.configWholeRow.domain false) (Rows.configWholeSpec.post enc Tryz.prog Tryz.f5 false true false false) := by
  refine law_lifted_sized (C := Tryz.checked) own started (by kernel_rfl) Tryz.func5
    (ChangeSpec.witness6 (enc := enc) (C := Tryz.checked) false ⟨#[], #[.slice none 0 0, .slice none 0 0, .slice none 0 0], []⟩ 8 (by kernel_rfl) (by kernel_rfl) (by kernel_rfl) (by kernel_rfl))
    laid (by kernel_rfl) rfl Tryz.underlying4 rfl ?_ ?_
  · intro ds hds
    match ds, hds with
    | [_, _, _], _ => exact ⟨rfl, rfl, rfl⟩
  · intro W base vs ds p hA0 hlt hval0 hwt0
    have hA : DataW.TrodAll enc Tryz.prog W 0 (fun _ => true) true Tryz.f5.params.toList vs ds p := hA0
    have hval : ∀ (j : Nat) t v, Tryz.f5.params[j]? = some t → vs[j]? = some v → Value.okWide Tryz.prog W .any base t v := hval0
    have hwt : ∀ (j : Nat) t d, Tryz.f5.params[j]? = some t → ds[j]? = some d → ∀ n ∈ d.weights Tryz.prog t, n ≤ reachBytes := hwt0
    rw [Tryz.params5] at hA hval hwt
    obtain ⟨v0, vs, d0, ds, p0, q, rfl, rfl, rfl, h0, hA⟩ := trodAll_cons hA
    obtain ⟨v1, vs, d1, ds, p1, q, rfl, rfl, rfl, h1, hA⟩ := trodAll_cons hA
    obtain ⟨v2, vs, d2, ds, p2, q, rfl, rfl, rfl, h2, hA⟩ := trodAll_cons hA
    obtain ⟨rfl, rfl, rfl⟩ := trodAll_nil hA
    have G := given_start (P := Tryz.prog) (W := W)
    obtain ⟨ρ0, L0, y0, G, a0⟩ := given_op G Tryz.underlying24 (by kernel_rfl) op_prs (hval 0 24 v0 rfl rfl) h0 (hwt 0 24 d0 rfl rfl)
    obtain ⟨ρ1, L1, y1, G, a1⟩ := given_op G Tryz.underlying25 (by kernel_rfl) op_lns (hval 1 25 v1 rfl rfl) h1 (hwt 1 25 d1 rfl rfl)
    obtain ⟨ρ2, L2, y2, G, a2⟩ := given_op G Tryz.underlying29 (by kernel_rfl) op_chs (hval 2 29 v2 rfl rfl) h2 (hwt 2 29 d2 rfl rfl)
    exact ⟨_, (L0 ++ L1 ++ L2), [y0, y1, y2], G, callVC_E Tryz.call5 (law_configWhole a0 a1 a2)⟩

theorem configWhole_holds : Rows.ConfigWholeSaid :=
  OpenClaim.holds_of_wide 5 Tryz.f5 rfl rfl rfl rfl rfl rfl rfl ⟨rfl, rfl, rfl, rfl, rfl⟩ rfl rfl rfl rfl rfl (by kernel_rfl) Tryz.func5 (by kernel_rfl)
    (of_decide_eq_true (by kernel_rfl)) (by unfold Func.isWrapper; first | (rw [if_pos (by decide +kernel)]; kernel_rfl) | (rw [if_neg (by decide +kernel)]; exact ⟨rfl, rfl⟩))
    (fun os started H enc _ => configWhole_lifted os started H enc)
end Go.Proofs.YtdcplcfedcmcmaaGreat.Eng
