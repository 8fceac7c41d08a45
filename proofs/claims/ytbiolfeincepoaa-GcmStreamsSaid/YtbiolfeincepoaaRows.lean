/-
  No cell of these rows narrows 'for every input' (looked for: loops, veiled, ifaces, maps, wideKeys, modest, calm, conditions, laid).
  DERIVED. THE GIVEN ROWS OF THIS SEAT. 5 by the template 'for every input the law returns true; each argument reads behind the call as it read before'; 0 by the template 'total and deterministic' (their statements: YtbiolfeincepoaaTotals.lean).
  GIVEN WITH THE SEED: the statements are not yours to turn. If you find one false, say at which input.
  Laid BY PROGRAM, IN A SANDBOX (cutbox-rows.mjs): the forced cells as the released guide's own fill.sh prints them over the translation 97f2a85e2b59e33b… (all of the seat's roots in one cut). By AI agents, Wed Nov 11 2026. No macro, syntax, notation, axiom, sorry.
-/
import Derived.Test.YtbiolfeincepoaaChecked
import GoSem.Claim
import GoSem.ClaimJoined
import GoSem.ClaimMapViews
import Derived.JoinedTies
import Derived.KernelRfl
namespace Go.Proofs.Ytbiolfeincepoaa
/- THE CELL 'sum', in the pinned program and in every row, IS THE sha256 OF THE DUMP (.gsa) THAT YtbiolfeincepoaaProg.lean LOADS. Nothing in Lean hashes anything: it is a label: what it is worth is what the hold of that sum in a sandbox is worth. -/
noncomputable def Try.pinned : Pinned := { name := "ytbiolfeincepoaa", sum := "97f2a85e2b59e33bf4998cb090d1a2ad76ae3fa751e788ec76e88d30c24076dc", checked := Try.checked }
namespace Rows
def none {H : Type} : Left H := { results := [], args := [] }

/-- 'culvertlaw5.GcmSeals': WHATEVER THE INPUT: true; the input reads as it did. -/
def gcmSealsSpec : ChangeSpec := { name := "gcmSeals", fn := fun _ => fun
  | [d1, d2, d3, d4] => { results := [.lit (.bool true)], args := [d1, d2, d3, d4] }
  | _ => none }
def gcmSealsRow : OpenClaim := { program := "ytbiolfeincepoaa", sum := "97f2a85e2b59e33bf4998cb090d1a2ad76ae3fa751e788ec76e88d30c24076dc", func := "culvert/culvertlaw5.GcmSeals", spec := "gcmSeals", unfollowed := true, recurses := true, apart := false }
def GcmSealsSaid : Prop := gcmSealsRow.holds Try.pinned (OpenSpec.ofChange gcmSealsSpec)

/-- ITS FALSE NEIGHBOUR: 'it returns false'. Refute it at one input. -/
def gcmSealsWrong : ChangeSpec := { name := "gcmSeals", fn := fun _ => fun
  | [d1, d2, d3, d4] => { results := [.lit (.bool false)], args := [d1, d2, d3, d4] }
  | _ => none }
def GcmSealsWrongFalsely : Prop := gcmSealsRow.holds Try.pinned (OpenSpec.ofChange gcmSealsWrong)

/-- 'culvertlaw5.GcmOpens': WHATEVER THE INPUT: true; the input reads as it did. -/
def gcmOpensSpec : ChangeSpec := { name := "gcmOpens", fn := fun _ => fun
  | [d1, d2, d3, d4, d5, d6] => { results := [.lit (.bool true)], args := [d1, d2, d3, d4, d5, d6] }
  | _ => none }
def gcmOpensRow : OpenClaim := { program := "ytbiolfeincepoaa", sum := "97f2a85e2b59e33bf4998cb090d1a2ad76ae3fa751e788ec76e88d30c24076dc", func := "culvert/culvertlaw5.GcmOpens", spec := "gcmOpens", unfollowed := true, recurses := true, apart := false }
def GcmOpensSaid : Prop := gcmOpensRow.holds Try.pinned (OpenSpec.ofChange gcmOpensSpec)

/-- ITS FALSE NEIGHBOUR: 'it returns false'. Refute it at one input. -/
def gcmOpensWrong : ChangeSpec := { name := "gcmOpens", fn := fun _ => fun
  | [d1, d2, d3, d4, d5, d6] => { results := [.lit (.bool false)], args := [d1, d2, d3, d4, d5, d6] }
  | _ => none }
def GcmOpensWrongFalsely : Prop := gcmOpensRow.holds Try.pinned (OpenSpec.ofChange gcmOpensWrong)

/-- 'culvertlaw5.GcmBack': WHATEVER THE INPUT: true; the input reads as it did. -/
def gcmBackSpec : ChangeSpec := { name := "gcmBack", fn := fun _ => fun
  | [d1, d2, d3, d4] => { results := [.lit (.bool true)], args := [d1, d2, d3, d4] }
  | _ => none }
def gcmBackRow : OpenClaim := { program := "ytbiolfeincepoaa", sum := "97f2a85e2b59e33bf4998cb090d1a2ad76ae3fa751e788ec76e88d30c24076dc", func := "culvert/culvertlaw5.GcmBack", spec := "gcmBack", unfollowed := true, recurses := true, apart := false }
def GcmBackSaid : Prop := gcmBackRow.holds Try.pinned (OpenSpec.ofChange gcmBackSpec)

/-- ITS FALSE NEIGHBOUR: 'it returns false'. Refute it at one input. -/
def gcmBackWrong : ChangeSpec := { name := "gcmBack", fn := fun _ => fun
  | [d1, d2, d3, d4] => { results := [.lit (.bool false)], args := [d1, d2, d3, d4] }
  | _ => none }
def GcmBackWrongFalsely : Prop := gcmBackRow.holds Try.pinned (OpenSpec.ofChange gcmBackWrong)

/-- 'culvertlaw5.GcmOneForm': WHATEVER THE INPUT: true; the input reads as it did. -/
def gcmOneFormSpec : ChangeSpec := { name := "gcmOneForm", fn := fun _ => fun
  | [d1, d2, d3, d4] => { results := [.lit (.bool true)], args := [d1, d2, d3, d4] }
  | _ => none }
def gcmOneFormRow : OpenClaim := { program := "ytbiolfeincepoaa", sum := "97f2a85e2b59e33bf4998cb090d1a2ad76ae3fa751e788ec76e88d30c24076dc", func := "culvert/culvertlaw5.GcmOneForm", spec := "gcmOneForm", unfollowed := true, recurses := true, apart := false }
def GcmOneFormSaid : Prop := gcmOneFormRow.holds Try.pinned (OpenSpec.ofChange gcmOneFormSpec)

/-- ITS FALSE NEIGHBOUR: 'it returns false'. Refute it at one input. -/
def gcmOneFormWrong : ChangeSpec := { name := "gcmOneForm", fn := fun _ => fun
  | [d1, d2, d3, d4] => { results := [.lit (.bool false)], args := [d1, d2, d3, d4] }
  | _ => none }
def GcmOneFormWrongFalsely : Prop := gcmOneFormRow.holds Try.pinned (OpenSpec.ofChange gcmOneFormWrong)

/-- 'culvertlaw5.GcmStreams': WHATEVER THE INPUT: true; the input reads as it did. -/
def gcmStreamsSpec : ChangeSpec := { name := "gcmStreams", fn := fun _ => fun
  | [d1, d2, d3, d4, d5, d6] => { results := [.lit (.bool true)], args := [d1, d2, d3, d4, d5, d6] }
  | _ => none }
def gcmStreamsRow : OpenClaim := { program := "ytbiolfeincepoaa", sum := "97f2a85e2b59e33bf4998cb090d1a2ad76ae3fa751e788ec76e88d30c24076dc", func := "culvert/culvertlaw5.GcmStreams", spec := "gcmStreams", unfollowed := true, recurses := true, apart := false }
def GcmStreamsSaid : Prop := gcmStreamsRow.holds Try.pinned (OpenSpec.ofChange gcmStreamsSpec)

/-- ITS FALSE NEIGHBOUR: 'it returns false'. Refute it at one input. -/
def gcmStreamsWrong : ChangeSpec := { name := "gcmStreams", fn := fun _ => fun
  | [d1, d2, d3, d4, d5, d6] => { results := [.lit (.bool false)], args := [d1, d2, d3, d4, d5, d6] }
  | _ => none }
def GcmStreamsWrongFalsely : Prop := gcmStreamsRow.holds Try.pinned (OpenSpec.ofChange gcmStreamsWrong)

/- THE SECOND FORM. 'bulk': how many values and letters a reading holds, each counted each time it is reached (what is shared counts as often as it is met; a slice's spare places count too). A statement '..UptoSaid' is the law's where the arguments, and the package variables that the reading takes, are together of bulk at most 1048576: NARROWER than '..Said'. Prove '..Said' where nothing that the law and all that it calls make is longer than what came in: it says more and counts as full. Else prove '..UptoSaid'. A law counts once. -/
mutual
def uptoBulk {H : Type} : DataW H → Nat
  | .lit (.string bytes) => bytes.length + 1
  | .lit _ => 1
  | .nil => 1
  | .ptr d => uptoBulk d + 1
  | .slice elems spare => uptoBulkAll elems + uptoBulkAll spare + 1
  | .agg parts => uptoBulkAll parts + 1
  | .iface _ d => uptoBulk d + 1
  | .map entries => uptoBulkEntries entries + 1
  | .held _ => 1
def uptoBulkAll {H : Type} : List (DataW H) → Nat
  | [] => 0
  | d :: r => uptoBulk d + uptoBulkAll r
def uptoBulkEntries {H : Type} : List (Lit × DataW H) → Nat
  | [] => 0
  | x :: r => uptoBulkEntry x + uptoBulkEntries r
def uptoBulkEntry {H : Type} : Lit × DataW H → Nat
  | (.string bytes, d) => bytes.length + uptoBulk d + 1
  | (_, d) => uptoBulk d + 1
 end
def uptoSmall : (H : Type) → List (DataW H) → Bool := fun _ ds => decide (uptoBulkAll ds ≤ 1048576)
def OpenSpec.upto (s : _root_.Go.ChangeSpec) : _root_.Go.OpenSpec := { _root_.Go.OpenSpec.ofChange s with cond := some uptoSmall }

/-- 'culvertlaw5.GcmSeals', WHERE WHAT IT READS IS OF BULK AT MOST 1048576: true; the input reads as it did. -/
def gcmSealsUptoRow : OpenClaim := { program := "ytbiolfeincepoaa", sum := "97f2a85e2b59e33bf4998cb090d1a2ad76ae3fa751e788ec76e88d30c24076dc", func := "culvert/culvertlaw5.GcmSeals", spec := "gcmSeals", unfollowed := true, recurses := true, apart := false, narrowed := true }
def GcmSealsUptoSaid : Prop := gcmSealsUptoRow.holds Try.pinned (OpenSpec.upto gcmSealsSpec)

/-- 'culvertlaw5.GcmOpens', WHERE WHAT IT READS IS OF BULK AT MOST 1048576: true; the input reads as it did. -/
def gcmOpensUptoRow : OpenClaim := { program := "ytbiolfeincepoaa", sum := "97f2a85e2b59e33bf4998cb090d1a2ad76ae3fa751e788ec76e88d30c24076dc", func := "culvert/culvertlaw5.GcmOpens", spec := "gcmOpens", unfollowed := true, recurses := true, apart := false, narrowed := true }
def GcmOpensUptoSaid : Prop := gcmOpensUptoRow.holds Try.pinned (OpenSpec.upto gcmOpensSpec)

/-- 'culvertlaw5.GcmBack', WHERE WHAT IT READS IS OF BULK AT MOST 1048576: true; the input reads as it did. -/
def gcmBackUptoRow : OpenClaim := { program := "ytbiolfeincepoaa", sum := "97f2a85e2b59e33bf4998cb090d1a2ad76ae3fa751e788ec76e88d30c24076dc", func := "culvert/culvertlaw5.GcmBack", spec := "gcmBack", unfollowed := true, recurses := true, apart := false, narrowed := true }
def GcmBackUptoSaid : Prop := gcmBackUptoRow.holds Try.pinned (OpenSpec.upto gcmBackSpec)

/-- 'culvertlaw5.GcmOneForm', WHERE WHAT IT READS IS OF BULK AT MOST 1048576: true; the input reads as it did. -/
def gcmOneFormUptoRow : OpenClaim := { program := "ytbiolfeincepoaa", sum := "97f2a85e2b59e33bf4998cb090d1a2ad76ae3fa751e788ec76e88d30c24076dc", func := "culvert/culvertlaw5.GcmOneForm", spec := "gcmOneForm", unfollowed := true, recurses := true, apart := false, narrowed := true }
def GcmOneFormUptoSaid : Prop := gcmOneFormUptoRow.holds Try.pinned (OpenSpec.upto gcmOneFormSpec)

/-- 'culvertlaw5.GcmStreams', WHERE WHAT IT READS IS OF BULK AT MOST 1048576: true; the input reads as it did. -/
def gcmStreamsUptoRow : OpenClaim := { program := "ytbiolfeincepoaa", sum := "97f2a85e2b59e33bf4998cb090d1a2ad76ae3fa751e788ec76e88d30c24076dc", func := "culvert/culvertlaw5.GcmStreams", spec := "gcmStreams", unfollowed := true, recurses := true, apart := false, narrowed := true }
def GcmStreamsUptoSaid : Prop := gcmStreamsUptoRow.holds Try.pinned (OpenSpec.upto gcmStreamsSpec)

end Rows
end Go.Proofs.Ytbiolfeincepoaa
