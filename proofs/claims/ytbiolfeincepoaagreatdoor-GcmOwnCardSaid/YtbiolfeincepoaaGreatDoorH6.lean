/- 'GcmOwn': the law. -/
import Derived.Test.YtbiolfeincepoaaGreatDoorH5
import Derived.Test.YtbiolfeincepoaaGreatDoorMo
namespace Go.Proofs.YtbiolfeincepoaaGreatDoor.Eng
open Go Go.RowKit Go.ChangeShapes Go.WideShapes
set_option linter.unusedSimpArgs false
set_option linter.unusedVariables false
section
variable {H : Type} {enc : TypeId × Value → H} {W : World}
theorem op_bbs : Op enc Tryz.prog W 23 (RLst 1 RBytC) := op_list Tryz.underlying23 (by kernel_rfl) (by kernel_rfl) (by decide) (of_decide_eq_true (by kernel_rfl)) RBytC.stab op_bytesC
end
theorem law_gcmOwn {x y z : SV} {M : List Blk} (hx : RBytC M [x]) (hy : RBytC M [y]) (hz : RLst 1 RBytC M [z]) (K : SV → List Blk → Prop) (hK : ∀ M', K (.b true) M') : callVC Tryz.prog 3 [x, y, z] M K := by
  obtain ⟨x, key, h, hx1, _⟩ := hx; cases h
  obtain ⟨y, nonce, h, hy1, _⟩ := hy; cases h
  obtain ⟨z, es, h, hz1, hz2⟩ := hz; cases h
  obtain ⟨tl, rfl, h3⟩ := list_choose (f := fun p : SV × List (BitVec 8) => [p.1]) (Q := fun p => Byt M p.1 p.2 ∧ Roomed p.1 p.2) (fun c hc => by
    obtain ⟨x, l, h1, h2, h3⟩ := hz2 c hc
    exact ⟨(x, l), h1, h2, h3⟩)
  exact gown_ok x y z key nonce _ M K hx1 hy1 tl hz1 rfl (fun p hp => h3 p hp) hK
end Go.Proofs.YtbiolfeincepoaaGreatDoor.Eng
