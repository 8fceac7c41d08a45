/- 'AesTwo' returns true for every two lists of bytes and every list of blocks and leaves its arguments as they were; there are no conditions. -/
import Derived.Test.YthcfjecicdfngaaAh
import Derived.Test.YthcfjecicdfngaaAc
import Derived.Test.YthcfjecicdfngaaRows
namespace Go.Proofs.Ythcfjecicdfngaa.Eng
open Go Go.RowKit Go.ChangeShapes Go.WideShapes
set_option linter.unusedSimpArgs false
set_option linter.unusedVariables false
set_option maxRecDepth 100000 in
theorem aesTwo_lifted (os : Os) (started : os.Started) (H : Type) (enc : TypeId × Value → H) :
    ReturnsInHanded {} Try.checked os 8 .any (Rows.aesTwoSpec.pre6 enc Try.prog Try.f8 Rows.aesTwoRow.domain false) (Rows.aesTwoSpec.post enc Try.prog Try.f8 false true false false) := by
  refine law_lifted_sized (C := Try.checked) own started (by kernel_rfl) Try.func8
    (ChangeSpec.witness6 (enc := enc) (C := Try.checked) false ⟨#[], #[.slice none 0 0, .slice none 0 0, .slice none 0 0], []⟩ 8 (by kernel_rfl) (by kernel_rfl) (by kernel_rfl) (by kernel_rfl))
    laid (by kernel_rfl) rfl Try.underlying4 rfl ?_ ?_
  · intro ds hds
    match ds, hds with
    | [_, _, _], _ => exact ⟨rfl, rfl, rfl⟩
  · intro W base vs ds p hA0 hlt hval0 hwt0
    have hA : DataW.TrodAll enc Try.prog W 0 (fun _ => true) true Try.f8.params.toList vs ds p := hA0
    have hval : ∀ (j : Nat) t v, Try.f8.params[j]? = some t → vs[j]? = some v → Value.okWide Try.prog W .any base t v := hval0
    have hwt : ∀ (j : Nat) t d, Try.f8.params[j]? = some t → ds[j]? = some d → ∀ n ∈ d.weights Try.prog t, n ≤ reachBytes := hwt0
    rw [Try.params8] at hA hval hwt
    obtain ⟨v0, vs, d0, ds, p0, q, rfl, rfl, rfl, h0, hA⟩ := trodAll_cons hA
    obtain ⟨v1, vs, d1, ds, p1, q, rfl, rfl, rfl, h1, hA⟩ := trodAll_cons hA
    obtain ⟨v2, vs, d2, ds, p2, q, rfl, rfl, rfl, h2, hA⟩ := trodAll_cons hA
    obtain ⟨rfl, rfl, rfl⟩ := trodAll_nil hA
    have G := given_start (P := Try.prog) (W := W)
    obtain ⟨ρ0, x0, c0, l0, m0, G⟩ := given_bytes G Try.underlying25 Try.underlying5 c8 b8 (hval 0 25 v0 rfl rfl) h0 (hwt 0 25 d0 rfl rfl)
    obtain ⟨ρ1, x1, c1, l1, m1, G⟩ := given_bytes G Try.underlying25 Try.underlying5 c8 b8 (hval 1 25 v1 rfl rfl) h1 (hwt 1 25 d1 rfl rfl)
    obtain ⟨ρ2, y2, c2, l2, m2, r2, G⟩ := given_flats G Try.underlying41 (flat_arr8 Try.underlying36 Try.underlying5 c8 c16) (hval 2 41 v2 rfl rfl) h2 (hwt 2 41 d2 rfl rfl)
    obtain ⟨x2, n2, z2⟩ := flat16 y2 r2
    rw [z2] at G
    rw [b16] at m2
    exact ⟨_, [.ro (bS x0), .ro (bS x1), .ro (bS x2)], [.sl 0 0 x0.length c0, .sl 1 0 x1.length c1, .sl 2 0 y2.length c2], G, law_aesTwo 0 c0 1 c1 2 c2 y2.length x0 x1 x2 _ (BAt.ro (z := []) (by rw [List.append_nil]; rfl)) (BAt.ro (z := []) (by rw [List.append_nil]; rfl)) (BAt.ro (z := []) (by rw [List.append_nil]; rfl)) n2 (by omega) (by omega) (by omega) l0 l1 l2⟩

theorem aesTwo_holds : Rows.AesTwoSaid :=
  OpenClaim.holds_of_wide 8 Try.f8 rfl rfl rfl rfl rfl rfl rfl ⟨rfl, rfl, rfl, rfl, rfl⟩ rfl rfl rfl rfl rfl (by kernel_rfl) Try.func8 (by kernel_rfl)
    (of_decide_eq_true (by kernel_rfl)) (by unfold Func.isWrapper; first | (rw [if_pos (by decide +kernel)]; kernel_rfl) | (rw [if_neg (by decide +kernel)]; exact ⟨rfl, rfl⟩))
    (fun os started H enc _ => aesTwo_lifted os started H enc)
end Go.Proofs.Ythcfjecicdfngaa.Eng
