/- 'AesBlocks' returns true for every list of bytes and every block and leaves its arguments as they were; there are no conditions. -/
import Derived.Test.YthcfjecicdfngaaAf
import Derived.Test.YthcfjecicdfngaaAc
import Derived.Test.YthcfjecicdfngaaRows
namespace Go.Proofs.Ythcfjecicdfngaa.Eng
open Go Go.RowKit Go.ChangeShapes Go.WideShapes
set_option linter.unusedSimpArgs false
set_option linter.unusedVariables false
set_option maxRecDepth 100000 in
theorem aesBlocks_lifted (os : Os) (started : os.Started) (H : Type) (enc : TypeId × Value → H) :
    ReturnsInHanded {} Try.checked os 5 .any (Rows.aesBlocksSpec.pre6 enc Try.prog Try.f5 Rows.aesBlocksRow.domain false) (Rows.aesBlocksSpec.post enc Try.prog Try.f5 false true false false) := by
  refine law_lifted_sized (C := Try.checked) own started (by kernel_rfl) Try.func5
    (ChangeSpec.witness6 (enc := enc) (C := Try.checked) false ⟨#[], #[.slice none 0 0, .agg (Array.replicate 16 (.int .u8 0))], []⟩ 8 (by kernel_rfl) (by kernel_rfl) (by kernel_rfl) (by kernel_rfl))
    laid (by kernel_rfl) rfl Try.underlying4 rfl ?_ ?_
  · intro ds hds
    match ds, hds with
    | [_, _], _ => exact ⟨rfl, rfl, rfl⟩
  · intro W base vs ds p hA0 hlt hval0 hwt0
    have hA : DataW.TrodAll enc Try.prog W 0 (fun _ => true) true Try.f5.params.toList vs ds p := hA0
    have hval : ∀ (j : Nat) t v, Try.f5.params[j]? = some t → vs[j]? = some v → Value.okWide Try.prog W .any base t v := hval0
    have hwt : ∀ (j : Nat) t d, Try.f5.params[j]? = some t → ds[j]? = some d → ∀ n ∈ d.weights Try.prog t, n ≤ reachBytes := hwt0
    rw [Try.params5] at hA hval hwt
    obtain ⟨v0, vs, d0, ds, p0, q, rfl, rfl, rfl, h0, hA⟩ := trodAll_cons hA
    obtain ⟨v1, vs, d1, ds, p1, q, rfl, rfl, rfl, h1, hA⟩ := trodAll_cons hA
    obtain ⟨rfl, rfl, rfl⟩ := trodAll_nil hA
    have G := given_start (P := Try.prog) (W := W)
    obtain ⟨ρ0, x0, c0, l0, m0, G⟩ := given_bytes G Try.underlying25 Try.underlying5 c8 b8 (hval 0 25 v0 rfl rfl) h0 (hwt 0 25 d0 rfl rfl)
    obtain ⟨x1, l1, -, b1⟩ := open_arr8 Try.underlying36 Try.underlying5 c8 c16 (hval 1 36 v1 rfl rfl) h1
    have G := given_val G (x := .agg (bS x1)) (fun ρ => (b1 ρ).symm) (bS_lt _ _)
    exact ⟨_, [.ro (bS x0)], [.sl 0 0 x0.length c0, .agg (bS x1)], G, law_aesBlocks 0 0 c0 x0 x1 _ (BAt.ro (z := []) (by rw [List.append_nil]; rfl)) (by omega) l0 l1⟩

theorem aesBlocks_holds : Rows.AesBlocksSaid :=
  OpenClaim.holds_of_wide 5 Try.f5 rfl rfl rfl rfl rfl rfl rfl ⟨rfl, rfl, rfl, rfl, rfl⟩ rfl rfl rfl rfl rfl (by kernel_rfl) Try.func5 (by kernel_rfl)
    (of_decide_eq_true (by kernel_rfl)) (by unfold Func.isWrapper; first | (rw [if_pos (by decide +kernel)]; kernel_rfl) | (rw [if_neg (by decide +kernel)]; exact ⟨rfl, rfl⟩))
    (fun os started H enc _ => aesBlocks_lifted os started H enc)
end Go.Proofs.Ythcfjecicdfngaa.Eng
