/- 'AesPermutes' returns true for every list of bytes and every two blocks and leaves its arguments as they were; there are no conditions. -/
import Derived.Test.YthcfjecicdfngaaAg
import Derived.Test.YthcfjecicdfngaaAc
import Derived.Test.YthcfjecicdfngaaRows
namespace Go.Proofs.Ythcfjecicdfngaa.Eng
open Go Go.RowKit Go.ChangeShapes Go.WideShapes
set_option linter.unusedSimpArgs false
set_option linter.unusedVariables false
set_option maxRecDepth 100000 in
theorem aesPermutes_lifted (os : Os) (started : os.Started) (H : Type) (enc : TypeId × Value → H) :
    ReturnsInHanded {} Try.checked os 6 .any (Rows.aesPermutesSpec.pre6 enc Try.prog Try.f6 Rows.aesPermutesRow.domain false) (Rows.aesPermutesSpec.post enc Try.prog Try.f6 false true false false) := by
  refine law_lifted_sized (C := Try.checked) own started (by kernel_rfl) Try.func6
    (ChangeSpec.witness6 (enc := enc) (C := Try.checked) false ⟨#[], #[.slice none 0 0, .agg (Array.replicate 16 (.int .u8 0)), .agg (Array.replicate 16 (.int .u8 0))], []⟩ 8 (by kernel_rfl) (by kernel_rfl) (by kernel_rfl) (by kernel_rfl))
    laid (by kernel_rfl) rfl Try.underlying4 rfl ?_ ?_
  · intro ds hds
    match ds, hds with
    | [_, _, _], _ => exact ⟨rfl, rfl, rfl⟩
  · intro W base vs ds p hA0 hlt hval0 hwt0
    have hA : DataW.TrodAll enc Try.prog W 0 (fun _ => true) true Try.f6.params.toList vs ds p := hA0
    have hval : ∀ (j : Nat) t v, Try.f6.params[j]? = some t → vs[j]? = some v → Value.okWide Try.prog W .any base t v := hval0
    have hwt : ∀ (j : Nat) t d, Try.f6.params[j]? = some t → ds[j]? = some d → ∀ n ∈ d.weights Try.prog t, n ≤ reachBytes := hwt0
    rw [Try.params6] at hA hval hwt
    obtain ⟨v0, vs, d0, ds, p0, q, rfl, rfl, rfl, h0, hA⟩ := trodAll_cons hA
    obtain ⟨v1, vs, d1, ds, p1, q, rfl, rfl, rfl, h1, hA⟩ := trodAll_cons hA
    obtain ⟨v2, vs, d2, ds, p2, q, rfl, rfl, rfl, h2, hA⟩ := trodAll_cons hA
    obtain ⟨rfl, rfl, rfl⟩ := trodAll_nil hA
    have G := given_start (P := Try.prog) (W := W)
    obtain ⟨ρ0, x0, c0, l0, m0, G⟩ := given_bytes G Try.underlying25 Try.underlying5 c8 b8 (hval 0 25 v0 rfl rfl) h0 (hwt 0 25 d0 rfl rfl)
    obtain ⟨x1, l1, -, b1⟩ := open_arr8 Try.underlying36 Try.underlying5 c8 c16 (hval 1 36 v1 rfl rfl) h1
    have G := given_val G (x := .agg (bS x1)) (fun ρ => (b1 ρ).symm) (bS_lt _ _)
    obtain ⟨x2, l2, -, b2⟩ := open_arr8 Try.underlying36 Try.underlying5 c8 c16 (hval 2 36 v2 rfl rfl) h2
    have G := given_val G (x := .agg (bS x2)) (fun ρ => (b2 ρ).symm) (bS_lt _ _)
    exact ⟨_, [.ro (bS x0)], [.sl 0 0 x0.length c0, .agg (bS x1), .agg (bS x2)], G, law_aesPermutes 0 0 c0 x0 x1 x2 _ (BAt.ro (z := []) (by rw [List.append_nil]; rfl)) (by omega) l0 l1 l2 (fun _ h => aes_inj l1 l2 14 h)⟩

theorem aesPermutes_holds : Rows.AesPermutesSaid :=
  OpenClaim.holds_of_wide 6 Try.f6 rfl rfl rfl rfl rfl rfl rfl ⟨rfl, rfl, rfl, rfl, rfl⟩ rfl rfl rfl rfl rfl (by kernel_rfl) Try.func6 (by kernel_rfl)
    (of_decide_eq_true (by kernel_rfl)) (by unfold Func.isWrapper; first | (rw [if_pos (by decide +kernel)]; kernel_rfl) | (rw [if_neg (by decide +kernel)]; exact ⟨rfl, rfl⟩))
    (fun os started H enc _ => aesPermutes_lifted os started H enc)
end Go.Proofs.Ythcfjecicdfngaa.Eng
