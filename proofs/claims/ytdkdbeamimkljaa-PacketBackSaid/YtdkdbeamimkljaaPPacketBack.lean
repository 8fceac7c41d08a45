/- 'PacketBack' returns true for every key, side, packet and list of bytes and leaves its arguments as they were; there are no conditions. -/
import Derived.Test.YtdkdbeamimkljaaMb
import Derived.Test.YtdkdbeamimkljaaRows
namespace Go.Proofs.Ytdkdbeamimkljaa.Eng
open Go Go.RowKit Go.ChangeShapes Go.WideShapes
set_option linter.unusedSimpArgs false
set_option linter.unusedVariables false
set_option maxRecDepth 100000 in
theorem packetBack_lifted (os : Os) (started : os.Started) (H : Type) (enc : TypeId × Value → H) :
    ReturnsInHanded {} Try.checked os 10 .any (Rows.packetBackSpec.pre6 enc Try.prog Try.f10 Rows.packetBackRow.domain false) (Rows.packetBackSpec.post enc Try.prog Try.f10 false true false false) := by
  refine law_lifted_sized (C := Try.checked) own started (by kernel_rfl) Try.func10
    (ChangeSpec.witness6 (enc := enc) (C := Try.checked) false ⟨#[], #[.slice none 0 0, .int .i64 0, .agg #[.int .i64 0, .int .i64 0, .int .i64 0, .int .u64 0, .slice none 0 0], .slice none 0 0], []⟩ 8 (by kernel_rfl) (by kernel_rfl) (by kernel_rfl) (by kernel_rfl))
    laid (by kernel_rfl) rfl Try.underlying4 rfl ?_ ?_
  · intro ds hds
    match ds, hds with
    | [_, _, _, _], _ => exact ⟨rfl, rfl, rfl⟩
  · intro W base vs ds p hA0 hlt hval0 hwt0
    have hA : DataW.TrodAll enc Try.prog W 0 (fun _ => true) true Try.f10.params.toList vs ds p := hA0
    have hval : ∀ (j : Nat) t v, Try.f10.params[j]? = some t → vs[j]? = some v → Value.okWide Try.prog W .any base t v := hval0
    have hwt : ∀ (j : Nat) t d, Try.f10.params[j]? = some t → ds[j]? = some d → ∀ n ∈ d.weights Try.prog t, n ≤ reachBytes := hwt0
    rw [Try.params10] at hA hval hwt
    obtain ⟨v0, vs, d0, ds, p0, q, rfl, rfl, rfl, h0, hA⟩ := trodAll_cons hA
    obtain ⟨v1, vs, d1, ds, p1, q, rfl, rfl, rfl, h1, hA⟩ := trodAll_cons hA
    obtain ⟨v2, vs, d2, ds, p2, q, rfl, rfl, rfl, h2, hA⟩ := trodAll_cons hA
    obtain ⟨v3, vs, d3, ds, p3, q, rfl, rfl, rfl, h3, hA⟩ := trodAll_cons hA
    obtain ⟨rfl, rfl, rfl⟩ := trodAll_nil hA
    have G := given_start (P := Try.prog) (W := W)
    obtain ⟨ρ0, x0, c0, l0, m0, G⟩ := given_bytes G Try.underlying25 Try.underlying5 c8 b8 (hval 0 25 v0 rfl rfl) h0 (hwt 0 25 d0 rfl rfl)
    obtain ⟨x1, lo1, hi1, e1⟩ := open_i64 Try.underlying3 (hval 1 3 v1 rfl rfl) h1
    have G := given_val G e1 rfl
    obtain ⟨t2, l2, g2, c2, ρ2, x2, k2, l2x, m2, G⟩ := given_packet G (hval 2 57 v2 rfl rfl) h2 (hwt 2 57 d2 rfl rfl)
    obtain ⟨ρ3, x3, c3, l3, m3, G⟩ := given_bytes G Try.underlying25 Try.underlying5 c8 b8 (hval 3 25 v3 rfl rfl) h3 (hwt 3 25 d3 rfl rfl)
    exact ⟨_, [.ro (bS x0), .ro (bS x2), .ro (bS x3)], [.sl 0 0 x0.length c0, .i .i64 x1, pkS t2 l2 g2 c2 (.sl 1 0 x2.length k2), .sl 2 0 x3.length c3], G, law_packetBack 0 c0 1 k2 2 c3 x0 x2 x3 x1 t2 l2 g2 c2 _ (BAt.ro (z := []) (by rw [List.append_nil]; rfl)) (BAt.ro (z := []) (by rw [List.append_nil]; rfl)) (BAt.ro (z := []) (by rw [List.append_nil]; rfl)) (by omega) (by omega) (by omega) l0 l2x l3⟩

theorem packetBack_holds : Rows.PacketBackSaid :=
  OpenClaim.holds_of_wide 10 Try.f10 rfl rfl rfl rfl rfl rfl rfl ⟨rfl, rfl, rfl, rfl, rfl⟩ rfl rfl rfl rfl rfl (by kernel_rfl) Try.func10 (by kernel_rfl)
    (of_decide_eq_true (by kernel_rfl)) (by unfold Func.isWrapper; first | (rw [if_pos (by decide +kernel)]; kernel_rfl) | (rw [if_neg (by decide +kernel)]; exact ⟨rfl, rfl⟩))
    (fun os started H enc _ => packetBack_lifted os started H enc)
end Go.Proofs.Ytdkdbeamimkljaa.Eng
