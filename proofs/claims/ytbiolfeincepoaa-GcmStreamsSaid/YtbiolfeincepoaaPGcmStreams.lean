/- 'GcmStreams' returns true for every five lists of bytes and every byte and leaves its arguments as they were; there are no conditions. -/
import Derived.Test.YtbiolfeincepoaaGa
import Derived.Test.YtbiolfeincepoaaRows
namespace Go.Proofs.Ytbiolfeincepoaa.Eng
open Go Go.RowKit Go.ChangeShapes Go.WideShapes
set_option linter.unusedSimpArgs false
set_option linter.unusedVariables false
set_option maxRecDepth 100000 in
theorem gcmStreams_lifted (os : Os) (started : os.Started) (H : Type) (enc : TypeId × Value → H) :
    ReturnsInHanded {} Try.checked os 7 .any (Rows.gcmStreamsSpec.pre6 enc Try.prog Try.f7 Rows.gcmStreamsRow.domain false) (Rows.gcmStreamsSpec.post enc Try.prog Try.f7 false true false false) := by
  refine law_lifted_sized (C := Try.checked) own started (by kernel_rfl) Try.func7
    (ChangeSpec.witness6 (enc := enc) (C := Try.checked) false ⟨#[], #[.slice none 0 0, .slice none 0 0, .slice none 0 0, .slice none 0 0, .slice none 0 0, .int .u8 0], []⟩ 8 (by kernel_rfl) (by kernel_rfl) (by kernel_rfl) (by kernel_rfl))
    laid (by kernel_rfl) rfl Try.underlying4 rfl ?_ ?_
  · intro ds hds
    match ds, hds with
    | [_, _, _, _, _, _], _ => exact ⟨rfl, rfl, rfl⟩
  · intro W base vs ds p hA0 hlt hval0 hwt0
    have hA : DataW.TrodAll enc Try.prog W 0 (fun _ => true) true Try.f7.params.toList vs ds p := hA0
    have hval : ∀ (j : Nat) t v, Try.f7.params[j]? = some t → vs[j]? = some v → Value.okWide Try.prog W .any base t v := hval0
    have hwt : ∀ (j : Nat) t d, Try.f7.params[j]? = some t → ds[j]? = some d → ∀ n ∈ d.weights Try.prog t, n ≤ reachBytes := hwt0
    rw [Try.params7] at hA hval hwt
    obtain ⟨v0, vs, d0, ds, p0, q, rfl, rfl, rfl, h0, hA⟩ := trodAll_cons hA
    obtain ⟨v1, vs, d1, ds, p1, q, rfl, rfl, rfl, h1, hA⟩ := trodAll_cons hA
    obtain ⟨v2, vs, d2, ds, p2, q, rfl, rfl, rfl, h2, hA⟩ := trodAll_cons hA
    obtain ⟨v3, vs, d3, ds, p3, q, rfl, rfl, rfl, h3, hA⟩ := trodAll_cons hA
    obtain ⟨v4, vs, d4, ds, p4, q, rfl, rfl, rfl, h4, hA⟩ := trodAll_cons hA
    obtain ⟨v5, vs, d5, ds, p5, q, rfl, rfl, rfl, h5, hA⟩ := trodAll_cons hA
    obtain ⟨rfl, rfl, rfl⟩ := trodAll_nil hA
    have G := given_start (P := Try.prog) (W := W)
    obtain ⟨ρ0, x0, c0, l0, m0, G⟩ := given_bytes G Try.underlying22 Try.underlying5 c8 b8 (hval 0 22 v0 rfl rfl) h0 (hwt 0 22 d0 rfl rfl)
    obtain ⟨ρ1, x1, c1, l1, m1, G⟩ := given_bytes G Try.underlying22 Try.underlying5 c8 b8 (hval 1 22 v1 rfl rfl) h1 (hwt 1 22 d1 rfl rfl)
    obtain ⟨ρ2, x2, c2, l2, m2, G⟩ := given_bytes G Try.underlying22 Try.underlying5 c8 b8 (hval 2 22 v2 rfl rfl) h2 (hwt 2 22 d2 rfl rfl)
    obtain ⟨ρ3, x3, c3, l3, m3, G⟩ := given_bytes G Try.underlying22 Try.underlying5 c8 b8 (hval 3 22 v3 rfl rfl) h3 (hwt 3 22 d3 rfl rfl)
    obtain ⟨ρ4, x4, c4, l4, m4, G⟩ := given_bytes G Try.underlying22 Try.underlying5 c8 b8 (hval 4 22 v4 rfl rfl) h4 (hwt 4 22 d4 rfl rfl)
    obtain ⟨x5, e5⟩ := open_w8 Try.underlying5 (hval 5 5 v5 rfl rfl) h5
    have G := given_val G e5 rfl
    exact ⟨_, [.ro (bS x0), .ro (bS x1), .ro (bS x2), .ro (bS x3), .ro (bS x4)], [.sl 0 0 x0.length c0, .sl 1 0 x1.length c1, .sl 2 0 x2.length c2, .sl 3 0 x3.length c3, .sl 4 0 x4.length c4, .u8 x5], G, law_gcmStreams 0 c0 1 c1 2 c2 3 c3 4 c4 x0 x1 x2 x3 x4 x5 _ (BAt.ro (z := []) (by rw [List.append_nil]; rfl)) (BAt.ro (z := []) (by rw [List.append_nil]; rfl)) (BAt.ro (z := []) (by rw [List.append_nil]; rfl)) (BAt.ro (z := []) (by rw [List.append_nil]; rfl)) (BAt.ro (z := []) (by rw [List.append_nil]; rfl)) (by omega) (by omega) (by omega) (by omega) (by omega) l0 l1 l2 l3 l4⟩

theorem gcmStreams_holds : Rows.GcmStreamsSaid :=
  OpenClaim.holds_of_wide 7 Try.f7 rfl rfl rfl rfl rfl rfl rfl ⟨rfl, rfl, rfl, rfl, rfl⟩ rfl rfl rfl rfl rfl (by kernel_rfl) Try.func7 (by kernel_rfl)
    (of_decide_eq_true (by kernel_rfl)) (by unfold Func.isWrapper; first | (rw [if_pos (by decide +kernel)]; kernel_rfl) | (rw [if_neg (by decide +kernel)]; exact ⟨rfl, rfl⟩))
    (fun os started H enc _ => gcmStreams_lifted os started H enc)
end Go.Proofs.Ytbiolfeincepoaa.Eng
