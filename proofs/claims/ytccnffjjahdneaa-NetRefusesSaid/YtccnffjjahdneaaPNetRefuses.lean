/- 'NetRefuses' returns true whatever the input and leaves its arguments as they were; there are no conditions. -/
import Derived.Test.YtccnffjjahdneaaNc
import Derived.Test.YtccnffjjahdneaaRows
namespace Go.Proofs.Ytccnffjjahdneaa.Eng
open Go Go.RowKit Go.ChangeShapes Go.WideShapes
set_option linter.unusedSimpArgs false
set_option linter.unusedVariables false
set_option maxRecDepth 100000 in
theorem netRefuses_lifted (os : Os) (started : os.Started) (H : Type) (enc : TypeId × Value → H) :
    ReturnsInHanded {} Try.checked os 8 .any (Rows.netRefusesSpec.pre6 enc Try.prog Try.f8 Rows.netRefusesRow.domain false) (Rows.netRefusesSpec.post enc Try.prog Try.f8 false true false false) := by
  refine law_lifted_sized (C := Try.checked) own started (by kernel_rfl) Try.func8
    (ChangeSpec.witness6 (enc := enc) (C := Try.checked) false ⟨#[], #[.slice none 0 0, .int .i64 0, .int .i64 0, .int .i64 0], []⟩ 8 (by kernel_rfl) (by kernel_rfl) (by kernel_rfl) (by kernel_rfl))
    laid (by kernel_rfl) rfl Try.underlying4 rfl ?_ ?_
  · intro ds hds
    match ds, hds with
    | [_, _, _, _], _ => exact ⟨rfl, rfl, rfl⟩
  · intro W base vs ds p hA0 hlt hval0 hwt0
    have hA : DataW.TrodAll enc Try.prog W 0 (fun _ => true) true Try.f8.params.toList vs ds p := hA0
    have hval : ∀ (j : Nat) t v, Try.f8.params[j]? = some t → vs[j]? = some v → Value.okWide Try.prog W .any base t v := hval0
    have hwt : ∀ (j : Nat) t d, Try.f8.params[j]? = some t → ds[j]? = some d → ∀ n ∈ d.weights Try.prog t, n ≤ reachBytes := hwt0
    rw [Try.params8] at hA hval hwt
    obtain ⟨v0, vs, d0, ds, p0, q, rfl, rfl, rfl, h0, hA⟩ := trodAll_cons hA
    obtain ⟨v1, vs, d1, ds, p1, q, rfl, rfl, rfl, h1, hA⟩ := trodAll_cons hA
    obtain ⟨v2, vs, d2, ds, p2, q, rfl, rfl, rfl, h2, hA⟩ := trodAll_cons hA
    obtain ⟨v3, vs, d3, ds, p3, q, rfl, rfl, rfl, h3, hA⟩ := trodAll_cons hA
    obtain ⟨rfl, rfl, rfl⟩ := trodAll_nil hA
    have G := given_start (P := Try.prog) (W := W)
    obtain ⟨ρ0, x0, y0, L0, G, a0⟩ := given_arg G Try.underlying22 Try.underlying5 c8 b8 (hval 0 22 v0 rfl rfl) h0 (hwt 0 22 d0 rfl rfl)
    obtain ⟨x1, lo1, hi1, e1⟩ := open_i64 Try.underlying3 (hval 1 3 v1 rfl rfl) h1
    have G := given_val G e1 rfl
    obtain ⟨x2, lo2, hi2, e2⟩ := open_i64 Try.underlying3 (hval 2 3 v2 rfl rfl) h2
    have G := given_val G e2 rfl
    obtain ⟨x3, lo3, hi3, e3⟩ := open_i64 Try.underlying3 (hval 3 3 v3 rfl rfl) h3
    have G := given_val G e3 rfl
    exact ⟨_, L0, [y0, .i .i64 x1, .i .i64 x2, .i .i64 x3], G, law_netRefuses y0 x0 x1 x2 x3 _ a0⟩

theorem netRefuses_holds : Rows.NetRefusesSaid :=
  OpenClaim.holds_of_wide 8 Try.f8 rfl rfl rfl rfl rfl rfl rfl ⟨rfl, rfl, rfl, rfl, rfl⟩ rfl rfl rfl rfl rfl (by kernel_rfl) Try.func8 (by kernel_rfl)
    (of_decide_eq_true (by kernel_rfl)) (by unfold Func.isWrapper; first | (rw [if_pos (by decide +kernel)]; kernel_rfl) | (rw [if_neg (by decide +kernel)]; exact ⟨rfl, rfl⟩))
    (fun os started H enc _ => netRefuses_lifted os started H enc)
end Go.Proofs.Ytccnffjjahdneaa.Eng
