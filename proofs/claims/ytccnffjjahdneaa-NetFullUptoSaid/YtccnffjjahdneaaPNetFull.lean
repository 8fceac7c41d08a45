/- 'NetFull' returns true for arguments that are together of bulk at most 1048576 and leaves its arguments as they were; there are no conditions. -/
import Derived.Test.YtccnffjjahdneaaOf
import Derived.Test.YtccnffjjahdneaaRows
namespace Go.Proofs.Ytccnffjjahdneaa.Eng
open Go Go.RowKit Go.ChangeShapes Go.WideShapes
set_option linter.unusedSimpArgs false
set_option linter.unusedVariables false
set_option maxRecDepth 100000 in
theorem netFull_lifted (os : Os) (started : os.Started) (H : Type) (enc : TypeId × Value → H) (F : Stop.Interp) :
    ReturnsInHanded {} Try.checked os 5 .any ((Rows.OpenSpec.upto Rows.netFullSpec).pre6 enc Try.prog Try.f5 Rows.netFullUptoRow.domain false) (((Rows.OpenSpec.upto Rows.netFullSpec).at F).post enc Try.prog Try.f5 false true false false) := by
  refine returnsInHanded_of_cond_sized (C := Try.checked) (s := Rows.OpenSpec.upto Rows.netFullSpec) (k := Rows.uptoSmall) rfl own started (by kernel_rfl) Try.func5
    (OpenSpec.witness (enc := enc) (C := Try.checked) (s := Rows.OpenSpec.upto Rows.netFullSpec) (k := Rows.uptoSmall) rfl false ⟨#[], #[.int .i64 0, .slice none 0 0, .slice none 0 0, .int .i64 0], []⟩ 8 (by kernel_rfl) (by kernel_rfl) (by kernel_rfl)
      (x := ([.lit (.int .i64 0), .nil, .nil, .lit (.int .i64 0)], [], [])) (by kernel_rfl) rfl (by kernel_rfl)) ?_
  intro W base args ds gs before hval hW _ _ hsz _
  refine law_contract (C := Try.checked) (s := Rows.netFullSpec) laid (by kernel_rfl) rfl Try.underlying4 rfl ?_ ?_ W base args ds gs before hval hW hsz
  · intro ds hds
    match ds, hds with
    | [_, _, _, _], _ => exact ⟨rfl, rfl, rfl⟩
  · intro W base vs ds p hA0 hlt hval0 hwt0
    have hA : DataW.TrodAll enc Try.prog W 0 (fun _ => true) true Try.f5.params.toList vs ds p := hA0
    have hval : ∀ (j : Nat) t v, Try.f5.params[j]? = some t → vs[j]? = some v → Value.okWide Try.prog W .any base t v := hval0
    have hwt : ∀ (j : Nat) t d, Try.f5.params[j]? = some t → ds[j]? = some d → ∀ n ∈ d.weights Try.prog t, n ≤ reachBytes := hwt0
    rw [Try.params5] at hA hval hwt
    obtain ⟨v0, vs, d0, ds, p0, q, rfl, rfl, rfl, h0, hA⟩ := trodAll_cons hA
    obtain ⟨v1, vs, d1, ds, p1, q, rfl, rfl, rfl, h1, hA⟩ := trodAll_cons hA
    obtain ⟨v2, vs, d2, ds, p2, q, rfl, rfl, rfl, h2, hA⟩ := trodAll_cons hA
    obtain ⟨v3, vs, d3, ds, p3, q, rfl, rfl, rfl, h3, hA⟩ := trodAll_cons hA
    obtain ⟨rfl, rfl, rfl⟩ := trodAll_nil hA
    have G := given_start (P := Try.prog) (W := W)
    obtain ⟨x0, lo0, hi0, e0⟩ := open_i64 Try.underlying3 (hval 0 3 v0 rfl rfl) h0
    have G := given_val G e0 rfl
    obtain ⟨ρ1, x1, y1, L1, G, a1⟩ := given_arg G Try.underlying22 Try.underlying5 c8 b8 (hval 1 22 v1 rfl rfl) h1 (hwt 1 22 d1 rfl rfl)
    obtain ⟨ρ2, z2, c2, k2, m2, r2, G⟩ := given_flats G Try.underlying46 (flat_i64 Try.underlying3 cInt) (hval 2 46 v2 rfl rfl) h2 (hwt 2 46 d2 rfl rfl)
    obtain ⟨n2, e2, f2⟩ := ints_of z2 r2
    rw [e2] at G
    rw [bInt] at m2
    obtain ⟨x3, lo3, hi3, e3⟩ := open_i64 Try.underlying3 (hval 3 3 v3 rfl rfl) h3
    have G := given_val G e3 rfl
    exact ⟨_, (L1 ++ [Blk.ro (n2.map fun n => SV.i IntKind.i64 n)]), [.i .i64 x0, y1, .sl ((L1)).length 0 z2.length c2, .i .i64 x3], G, law_netFull x0 x3 y1 x1 _ c2 _ n2 _ (ArgAt.app a1) (by rw [get_app0]; rfl) f2 k2 m2⟩

theorem netFull_holds : Rows.NetFullUptoSaid :=
  OpenClaim.holds_of_cond 5 Try.f5 rfl rfl rfl rfl rfl rfl rfl ⟨rfl, rfl, rfl, rfl, rfl⟩ rfl rfl rfl rfl rfl (by kernel_rfl) Try.func5 (by kernel_rfl)
    (of_decide_eq_true (by kernel_rfl)) (by unfold Func.isWrapper; first | (rw [if_pos (by decide +kernel)]; kernel_rfl) | (rw [if_neg (by decide +kernel)]; exact ⟨rfl, rfl⟩))
    (fun os started H enc _ F => netFull_lifted os started H enc F)
end Go.Proofs.Ytccnffjjahdneaa.Eng
