/- 'PacketOwn': the row and its tied card. -/
import Derived.Test.YtdkdbeamimkljaaGreatDoorY5
import Derived.Test.YtdkdbeamimkljaaGreatDoorQ3
import Derived.Test.YtdkdbeamimkljaaGreatDoorRows
import Derived.Test.YtdkdbeamimkljaaGreatDoorCards
import Derived.Test.YtdkdbeamimkljaaGreatDoorTie
import Derived.LaidLaws
import Derived.Lay
import Derived.MakeChecks
import Derived.Stop.Joined
import Derived.Handed
namespace Go.Proofs.YtdkdbeamimkljaaGreatDoor.Eng
open Go Go.RowKit Go.ChangeShapes Go.WideShapes
set_option linter.unusedSimpArgs false
set_option linter.unusedVariables false
set_option maxRecDepth 100000
theorem own : ownKnob Tryz.prog.godebug = none := by kernel_rfl
theorem laid : laidOutB Tryz.prog = true := by kernel_rfl
theorem packetOwn_laid (os : Os) (args : Array Value) : laidMetH Tryz.prog Rows.packetOwnRow.laid ((World.laidAll Tryz.prog os Rows.packetOwnRow.laid).forCall (fun _ _ => 0) ⟨#[], args, []⟩).memory := by
  rw [MakeChecks.laidMetH_plain _ _ _ (by kernel_rfl)]
  exact laidMet_laidAll args (by kernel_rfl) (by kernel_rfl)
theorem packetOwn_lifted (os : Os) (started : os.Started) (H : Type) (enc : TypeId × Value → H) :
    ReturnsInHanded {} Tryz.checked os 3 .any (fun w args => (Rows.packetOwnSpec.pre enc Tryz.prog Tryz.f3 [] false w args ∧ laidMetH Tryz.prog Rows.packetOwnRow.laid w) ∧ sizedMet enc Tryz.prog Tryz.f3 (OpenSpec.ofChange Rows.packetOwnSpec) false w args) (Rows.packetOwnSpec.post enc Tryz.prog Tryz.f3 false true false false) := by
  refine returnsInHanded_of_change_and (C := Tryz.checked) (X := fun w _ => laidMetH Tryz.prog Rows.packetOwnRow.laid w) (fun _ _ _ hh h => h.of_heap hh) own started (by kernel_rfl) Tryz.func3
    (ChangeSpec.witness_at (enc := enc) (C := Tryz.checked) (os := os) (X := fun w _ => laidMetH Tryz.prog Rows.packetOwnRow.laid w) false (World.laidAll Tryz.prog os Rows.packetOwnRow.laid) #[.slice none 0 0, .slice none 0 0] 8 (World.laidAll_os _ _ _) (by kernel_rfl) (by kernel_rfl) (by kernel_rfl) (by kernel_rfl) (by kernel_rfl) (packetOwn_laid os _)) ?_
  intro W base args ds gs before hval hW _ hsz _ _
  refine law_contract (C := Tryz.checked) (s := Rows.packetOwnSpec) laid (by kernel_rfl) rfl Tryz.underlying4 rfl ?_ ?_ W base args ds gs before hval hW hsz
  · intro ds hds
    match ds, hds with
    | [_, _], _ => exact ⟨rfl, rfl, rfl⟩
  · intro W base vs ds p hA0 hlt hval0 hwt0
    have hA : DataW.TrodAll enc Tryz.prog W 0 (fun _ => true) true Tryz.f3.params.toList vs ds p := hA0
    have hval : ∀ (j : Nat) t v, Tryz.f3.params[j]? = some t → vs[j]? = some v → Value.okWide Tryz.prog W .any base t v := hval0
    have hwt : ∀ (j : Nat) t d, Tryz.f3.params[j]? = some t → ds[j]? = some d → ∀ n ∈ d.weights Tryz.prog t, n ≤ reachBytes := hwt0
    rw [Tryz.params3] at hA hval hwt
    obtain ⟨v0, vs, d0, ds, p0, q, rfl, rfl, rfl, h0, hA⟩ := trodAll_cons hA
    obtain ⟨v1, vs, d1, ds, p1, q, rfl, rfl, rfl, h1, hA⟩ := trodAll_cons hA
    obtain ⟨rfl, rfl, rfl⟩ := trodAll_nil hA
    have G := given_start (P := Tryz.prog) (W := W)
    obtain ⟨ρ0, L0, y0, G, a0⟩ := given_op G Tryz.underlying22 (by kernel_rfl) op_bytesC (hval 0 22 v0 rfl rfl) h0 (hwt 0 22 d0 rfl rfl)
    obtain ⟨ρ1, L1, y1, G, a1⟩ := given_op G Tryz.underlying23 (by kernel_rfl) op_pls (hval 1 23 v1 rfl rfl) h1 (hwt 1 23 d1 rfl rfl)
    exact ⟨_, [] ++ L0 ++ L1, [y0, y1], G, callVC_E Tryz.call3 (law_packetOwn (RBytC.stab _ _ _ a0) a1 _ (fun _ => rfl))⟩
theorem packetOwn_holds : Rows.PacketOwnSaid :=
  OpenClaim.holds_of_wide 3 Tryz.f3 rfl rfl rfl rfl rfl rfl rfl ⟨rfl, rfl, rfl, rfl, rfl⟩ rfl rfl rfl rfl rfl (by kernel_rfl) Tryz.func3 (by kernel_rfl)
    (of_decide_eq_true (by kernel_rfl)) (by unfold Func.isWrapper; first | (rw [if_pos (by decide +kernel)]; kernel_rfl) | (rw [if_neg (by decide +kernel)]; exact ⟨rfl, rfl⟩))
    (fun os started H enc _ => packetOwn_lifted os started H enc)
theorem packetOwn_card_holds : Rows.PacketOwnCardSaid :=
  Claim7.holds_tied_plain_at .later [] [.data, .data, .data] true (true, "0f4269362ffe41594f3310302556e74d109c094a42ee81697ee3aaa00e18c636") false
    packetOwn_holds (fun _ h => by cases h) (by kernel_rfl) (fun _ h => by cases h) packetOwn_row_tie rfl ⟨rfl, rfl⟩ (by kernel_rfl) rfl
    (fun f fn hf hfn => by
      obtain rfl : f = 3 := Option.some.inj ((show Tryz.prog.funcNamed "culvert/culvertlaw9.PacketOwn" = some 3 by kernel_rfl).symm.trans hf) |>.symm
      obtain rfl : fn = Tryz.f3 := (Option.some.inj (Tryz.func3.symm.trans hfn)).symm
      exact ⟨by kernel_rfl, fun j t ht => by
        rw [Tryz.params3] at ht
        have hm : t ∈ [22, 23] := by simpa using Array.mem_of_getElem? ht
        have hall : ([22, 23].all fun u => !Tryz.prog.wantsStandIn u) = true := by kernel_rfl
        exact (show Tryz.prog.wantsStandIn t = false by simpa using List.all_eq_true.1 hall t hm)⟩)
    (by kernel_rfl)
end Go.Proofs.YtdkdbeamimkljaaGreatDoor.Eng
