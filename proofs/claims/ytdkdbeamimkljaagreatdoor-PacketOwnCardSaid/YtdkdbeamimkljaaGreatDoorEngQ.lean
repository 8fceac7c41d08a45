/- The engine, part Q: arguments that are lists of flat elements (numbers, bools, structs and arrays of them). -/
import Derived.Test.YtdkdbeamimkljaaGreatDoorEngP
namespace Go.Proofs.YtdkdbeamimkljaaGreatDoor.Eng
open Go Go.RowKit Go.ChangeShapes Go.WideShapes
set_option linter.unusedSimpArgs false
set_option linter.unusedVariables false
section
variable {H : Type} {enc : TypeId × Value → H} {P : Program} {W : World} {base : Nat}
/-- what the cells of a flat type are -/
def FlatOf (enc : TypeId × Value → H) (P : Program) (W : World) (e : TypeId) (R : List SV → Prop) : Prop :=
  ∀ (n : Nat) (cs : List Value) (x : DataW H × List MemPlace), DataW.trod enc P W 0 (fun _ => true) true n e cs = some x →
    ∃ svs, R svs ∧ svs.length = P.cellsOf e ∧ svs.all SV.one = true ∧ ltL 0 svs = true ∧ ∀ ρ, denL ρ svs = cs
theorem flat_i64 {e : TypeId} (ht : P.underlying e = some (.int .i64)) (hc : P.cellsOf e = 1) :
    FlatOf enc P W e (fun svs => ∃ x : Int, -9223372036854775808 ≤ x ∧ x ≤ 9223372036854775807 ∧ svs = [.i .i64 x]) := by
  intro n cs x h
  obtain ⟨m, rfl, _, hw⟩ := DataW.trod_int ht h
  exact ⟨[.i .i64 m], ⟨m, (wf_i64 hw).1, (wf_i64 hw).2, rfl⟩, by simp [hc], rfl, rfl, fun ρ => by simp [denL, den]⟩
theorem flat_u64 {e : TypeId} (ht : P.underlying e = some (.int .u64)) (hc : P.cellsOf e = 1) :
    FlatOf enc P W e (fun svs => ∃ x : BitVec 64, svs = [.u64 x]) := by
  intro n cs x h
  obtain ⟨m, rfl, _, hw⟩ := DataW.trod_int ht h
  obtain ⟨y, rfl⟩ := u64_of hw
  exact ⟨[.u64 y], ⟨y, rfl⟩, by simp [hc], rfl, rfl, fun ρ => by simp [denL, den]⟩
theorem flat_u8 {e : TypeId} (ht : P.underlying e = some (.int .u8)) (hc : P.cellsOf e = 1) :
    FlatOf enc P W e (fun svs => ∃ x : BitVec 8, svs = [.u8 x]) := by
  intro n cs x h
  obtain ⟨m, rfl, _, hw⟩ := DataW.trod_int ht h
  obtain ⟨y, rfl⟩ := u8_of hw
  exact ⟨[.u8 y], ⟨y, rfl⟩, by simp [hc], rfl, rfl, fun ρ => by simp [denL, den]⟩
end
end Go.Proofs.YtdkdbeamimkljaaGreatDoor.Eng
