/- 'NetFates' returns true for every script and leaves its arguments as they were; there are no conditions. -/
import Derived.Test.YtccnffjjahdneaaOm
import Derived.Test.YtccnffjjahdneaaRows
namespace Go.Proofs.Ytccnffjjahdneaa.Eng
open Go Go.RowKit Go.ChangeShapes Go.WideShapes
set_option linter.unusedSimpArgs false
set_option linter.unusedVariables false
set_option maxRecDepth 100000 in
theorem netFates_lifted (os : Os) (started : os.Started) (H : Type) (enc : TypeId × Value → H) :
    ReturnsInHanded {} Try.checked os 7 .any (Rows.netFatesSpec.pre6 enc Try.prog Try.f7 Rows.netFatesRow.domain false) (Rows.netFatesSpec.post enc Try.prog Try.f7 false true false false) := by
  refine law_lifted_sized (C := Try.checked) own started (by kernel_rfl) Try.func7
    (ChangeSpec.witness6 (enc := enc) (C := Try.checked) false ⟨#[], #[.slice none 0 0], []⟩ 8 (by kernel_rfl) (by kernel_rfl) (by kernel_rfl) (by kernel_rfl))
    laid (by kernel_rfl) rfl Try.underlying4 rfl ?_ ?_
  · intro ds hds
    match ds, hds with
    | [_], _ => exact ⟨rfl, rfl, rfl⟩
  · intro W base vs ds p hA0 hlt hval0 hwt0
    have hA : DataW.TrodAll enc Try.prog W 0 (fun _ => true) true Try.f7.params.toList vs ds p := hA0
    have hval : ∀ (j : Nat) t v, Try.f7.params[j]? = some t → vs[j]? = some v → Value.okWide Try.prog W .any base t v := hval0
    have hwt : ∀ (j : Nat) t d, Try.f7.params[j]? = some t → ds[j]? = some d → ∀ n ∈ d.weights Try.prog t, n ≤ reachBytes := hwt0
    rw [Try.params7] at hA hval hwt
    obtain ⟨v0, vs, d0, ds, p0, q, rfl, rfl, rfl, h0, hA⟩ := trodAll_cons hA
    obtain ⟨rfl, rfl, rfl⟩ := trodAll_nil hA
    have G := given_start (P := Try.prog) (W := W)
    obtain ⟨ρ0, y0, c0, k0, m0, r0, G⟩ := given_recs G Try.underlying39 rec_op (hval 0 39 v0 rfl rfl) h0 (hwt 0 39 d0 rfl rfl)
    rw [bOp] at m0
    exact ⟨_, ((.ro (recC (0 + 1) y0) :: y0.map (fun x : Rec => x.2))), [.sl 0 0 y0.length c0], G, law_netFates c0 y0 _ 0 1 (scr_given (L := []) (h := r0)) k0 m0⟩

theorem netFates_holds : Rows.NetFatesSaid :=
  OpenClaim.holds_of_wide 7 Try.f7 rfl rfl rfl rfl rfl rfl rfl ⟨rfl, rfl, rfl, rfl, rfl⟩ rfl rfl rfl rfl rfl (by kernel_rfl) Try.func7 (by kernel_rfl)
    (of_decide_eq_true (by kernel_rfl)) (by unfold Func.isWrapper; first | (rw [if_pos (by decide +kernel)]; kernel_rfl) | (rw [if_neg (by decide +kernel)]; exact ⟨rfl, rfl⟩))
    (fun os started H enc _ => netFates_lifted os started H enc)
end Go.Proofs.Ytccnffjjahdneaa.Eng
