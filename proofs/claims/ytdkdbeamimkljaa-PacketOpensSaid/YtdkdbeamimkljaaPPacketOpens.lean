/- 'PacketOpens' returns true for every key, side and list of bytes and leaves its arguments as they were; there are no conditions. -/
import Derived.Test.YtdkdbeamimkljaaMb
import Derived.Test.YtdkdbeamimkljaaRows
namespace Go.Proofs.Ytdkdbeamimkljaa.Eng
open Go Go.RowKit Go.ChangeShapes Go.WideShapes
set_option linter.unusedSimpArgs false
set_option linter.unusedVariables false
set_option maxRecDepth 100000 in
theorem packetOpens_lifted (os : Os) (started : os.Started) (H : Type) (enc : TypeId × Value → H) :
    ReturnsInHanded {} Try.checked os 8 .any (Rows.packetOpensSpec.pre6 enc Try.prog Try.f8 Rows.packetOpensRow.domain false) (Rows.packetOpensSpec.post enc Try.prog Try.f8 false true false false) := by
  refine law_lifted_sized (C := Try.checked) own started (by kernel_rfl) Try.func8
    (ChangeSpec.witness6 (enc := enc) (C := Try.checked) false ⟨#[], #[.slice none 0 0, .int .i64 0, .slice none 0 0], []⟩ 8 (by kernel_rfl) (by kernel_rfl) (by kernel_rfl) (by kernel_rfl))
    laid (by kernel_rfl) rfl Try.underlying4 rfl ?_ ?_
  · intro ds hds
    match ds, hds with
    | [_, _, _], _ => exact ⟨rfl, rfl, rfl⟩
  · intro W base vs ds p hA0 hlt hval0 hwt0
    have hA : DataW.TrodAll enc Try.prog W 0 (fun _ => true) true Try.f8.params.toList vs ds p := hA0
    have hval : ∀ (j : Nat) t v, Try.f8.params[j]? = some t → vs[j]? = some v → Value.okWide Try.prog W .any base t v := hval0
    have hwt : ∀ (j : Nat) t d, Try.f8.params[j]? = some t → ds[j]? = some d → ∀ n ∈ d.weights Try.prog t, n ≤ reachBytes := hwt0
    rw [Try.params8] at hA hval hwt
    obtain ⟨v0, vs, d0, ds, p0, q, rfl, rfl, rfl, h0, hA⟩ := trodAll_cons hA
    obtain ⟨v1, vs, d1, ds, p1, q, rfl, rfl, rfl, h1, hA⟩ := trodAll_cons hA
    obtain ⟨v2, vs, d2, ds, p2, q, rfl, rfl, rfl, h2, hA⟩ := trodAll_cons hA
    obtain ⟨rfl, rfl, rfl⟩ := trodAll_nil hA
    have G := given_start (P := Try.prog) (W := W)
    obtain ⟨ρ0, x0, c0, l0, m0, G⟩ := given_bytes G Try.underlying25 Try.underlying5 c8 b8 (hval 0 25 v0 rfl rfl) h0 (hwt 0 25 d0 rfl rfl)
    obtain ⟨x1, lo1, hi1, e1⟩ := open_i64 Try.underlying3 (hval 1 3 v1 rfl rfl) h1
    have G := given_val G e1 rfl
    obtain ⟨ρ2, x2, c2, l2, m2, G⟩ := given_bytes G Try.underlying25 Try.underlying5 c8 b8 (hval 2 25 v2 rfl rfl) h2 (hwt 2 25 d2 rfl rfl)
    exact ⟨_, [.ro (bS x0), .ro (bS x2)], [.sl 0 0 x0.length c0, .i .i64 x1, .sl 1 0 x2.length c2], G, law_packetOpens 0 c0 1 c2 x0 x2 x1 _ (BAt.ro (z := []) (by rw [List.append_nil]; rfl)) (BAt.ro (z := []) (by rw [List.append_nil]; rfl)) (by omega) (by omega) l0 l2⟩

theorem packetOpens_holds : Rows.PacketOpensSaid :=
  OpenClaim.holds_of_wide 8 Try.f8 rfl rfl rfl rfl rfl rfl rfl ⟨rfl, rfl, rfl, rfl, rfl⟩ rfl rfl rfl rfl rfl (by kernel_rfl) Try.func8 (by kernel_rfl)
    (of_decide_eq_true (by kernel_rfl)) (by unfold Func.isWrapper; first | (rw [if_pos (by decide +kernel)]; kernel_rfl) | (rw [if_neg (by decide +kernel)]; exact ⟨rfl, rfl⟩))
    (fun os started H enc _ => packetOpens_lifted os started H enc)
end Go.Proofs.Ytdkdbeamimkljaa.Eng
