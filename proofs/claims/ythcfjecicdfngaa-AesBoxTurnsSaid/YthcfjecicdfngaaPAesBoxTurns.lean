/- 'AesBoxTurns' returns true for every two bytes and leaves its arguments as they were; there are no conditions. -/
import Derived.Test.YthcfjecicdfngaaAc
import Derived.Test.YthcfjecicdfngaaRows
namespace Go.Proofs.Ythcfjecicdfngaa.Eng
open Go Go.RowKit Go.ChangeShapes Go.WideShapes
set_option linter.unusedSimpArgs false
set_option linter.unusedVariables false
set_option maxRecDepth 100000 in
theorem aesBoxTurns_lifted (os : Os) (started : os.Started) (H : Type) (enc : TypeId × Value → H) :
    ReturnsInHanded {} Try.checked os 7 .any (Rows.aesBoxTurnsSpec.pre6 enc Try.prog Try.f7 Rows.aesBoxTurnsRow.domain false) (Rows.aesBoxTurnsSpec.post enc Try.prog Try.f7 false true false false) := by
  refine law_lifted_sized (C := Try.checked) own started (by kernel_rfl) Try.func7
    (ChangeSpec.witness6 (enc := enc) (C := Try.checked) false ⟨#[], #[.int .u8 0, .int .u8 0], []⟩ 8 (by kernel_rfl) (by kernel_rfl) (by kernel_rfl) (by kernel_rfl))
    laid (by kernel_rfl) rfl Try.underlying4 rfl ?_ ?_
  · intro ds hds
    match ds, hds with
    | [_, _], _ => exact ⟨rfl, rfl, rfl⟩
  · intro W base vs ds p hA0 hlt hval0 hwt0
    have hA : DataW.TrodAll enc Try.prog W 0 (fun _ => true) true Try.f7.params.toList vs ds p := hA0
    have hval : ∀ (j : Nat) t v, Try.f7.params[j]? = some t → vs[j]? = some v → Value.okWide Try.prog W .any base t v := hval0
    have hwt : ∀ (j : Nat) t d, Try.f7.params[j]? = some t → ds[j]? = some d → ∀ n ∈ d.weights Try.prog t, n ≤ reachBytes := hwt0
    rw [Try.params7] at hA hval hwt
    obtain ⟨v0, vs, d0, ds, p0, q, rfl, rfl, rfl, h0, hA⟩ := trodAll_cons hA
    obtain ⟨v1, vs, d1, ds, p1, q, rfl, rfl, rfl, h1, hA⟩ := trodAll_cons hA
    obtain ⟨rfl, rfl, rfl⟩ := trodAll_nil hA
    have G := given_start (P := Try.prog) (W := W)
    obtain ⟨x0, e0⟩ := open_w8 Try.underlying5 (hval 0 5 v0 rfl rfl) h0
    have G := given_val G e0 rfl
    obtain ⟨x1, e1⟩ := open_w8 Try.underlying5 (hval 1 5 v1 rfl rfl) h1
    have G := given_val G e1 rfl
    exact ⟨_, [], [.u8 x0, .u8 x1], G, law_aesBoxTurns x0 x1⟩

theorem aesBoxTurns_holds : Rows.AesBoxTurnsSaid :=
  OpenClaim.holds_of_wide 7 Try.f7 rfl rfl rfl rfl rfl rfl rfl ⟨rfl, rfl, rfl, rfl, rfl⟩ rfl rfl rfl rfl rfl (by kernel_rfl) Try.func7 (by kernel_rfl)
    (of_decide_eq_true (by kernel_rfl)) (by unfold Func.isWrapper; first | (rw [if_pos (by decide +kernel)]; kernel_rfl) | (rw [if_neg (by decide +kernel)]; exact ⟨rfl, rfl⟩))
    (fun os started H enc _ => aesBoxTurns_lifted os started H enc)
end Go.Proofs.Ythcfjecicdfngaa.Eng
