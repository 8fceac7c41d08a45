/-
  No cell of these rows narrows 'for every input' (looked for: loops, veiled, ifaces, maps, wideKeys, modest, calm, conditions, laid).
  DERIVED. THE GIVEN ROWS OF THIS SEAT. 8 by the template 'for every input the law returns true; each argument reads behind the call as it read before'; 0 by the template 'total and deterministic' (their statements: YthibglfeccmocaaTotals.lean).
  GIVEN WITH THE SEED: the statements are not yours to turn. If you find one false, say at which input.
  Laid BY PROGRAM, IN A SANDBOX (cutbox-rows.mjs): the forced cells as the released guide's own fill.sh prints them over the translation 8abd3954d32edd5f… (all of the seat's roots in one cut). By AI agents, Wed Nov 11 2026. No macro, syntax, notation, axiom, sorry.
-/
import Derived.Test.YthibglfeccmocaaChecked
import GoSem.Claim
import GoSem.ClaimJoined
import GoSem.ClaimMapViews
import Derived.JoinedTies
import Derived.KernelRfl
namespace Go.Proofs.Ythibglfeccmocaa
/- THE CELL 'sum', in the pinned program and in every row, IS THE sha256 OF THE DUMP (.gsa) THAT YthibglfeccmocaaProg.lean LOADS. Nothing in Lean hashes anything: it is a label: what it is worth is what the hold of that sum in a sandbox is worth. -/
noncomputable def Try.pinned : Pinned := { name := "ythibglfeccmocaa", sum := "8abd3954d32edd5ff261052fc312d720330c828d90f155d71d7c6ed3728fedf3", checked := Try.checked }
namespace Rows
def none {H : Type} : Left H := { results := [], args := [] }

/-- 'culvertlaw3.FieldMul8s': WHATEVER THE INPUT: true; the input reads as it did. -/
def fieldMul8sSpec : ChangeSpec := { name := "fieldMul8s", fn := fun _ => fun
  | [d1, d2] => { results := [.lit (.bool true)], args := [d1, d2] }
  | _ => none }
def fieldMul8sRow : OpenClaim := { program := "ythibglfeccmocaa", sum := "8abd3954d32edd5ff261052fc312d720330c828d90f155d71d7c6ed3728fedf3", func := "culvert/culvertlaw3.FieldMul8s", spec := "fieldMul8s", apart := false }
def FieldMul8sSaid : Prop := fieldMul8sRow.holds Try.pinned (OpenSpec.ofChange fieldMul8sSpec)

/-- ITS FALSE NEIGHBOUR: 'it returns false'. Refute it at one input. -/
def fieldMul8sWrong : ChangeSpec := { name := "fieldMul8s", fn := fun _ => fun
  | [d1, d2] => { results := [.lit (.bool false)], args := [d1, d2] }
  | _ => none }
def FieldMul8sWrongFalsely : Prop := fieldMul8sRow.holds Try.pinned (OpenSpec.ofChange fieldMul8sWrong)

/-- 'culvertlaw3.FieldInv8s': WHATEVER THE INPUT: true; the input reads as it did. -/
def fieldInv8sSpec : ChangeSpec := { name := "fieldInv8s", fn := fun _ => fun
  | [d] => { results := [.lit (.bool true)], args := [d] }
  | _ => none }
def fieldInv8sRow : OpenClaim := { program := "ythibglfeccmocaa", sum := "8abd3954d32edd5ff261052fc312d720330c828d90f155d71d7c6ed3728fedf3", func := "culvert/culvertlaw3.FieldInv8s", spec := "fieldInv8s", apart := false }
def FieldInv8sSaid : Prop := fieldInv8sRow.holds Try.pinned (OpenSpec.ofChange fieldInv8sSpec)

/-- ITS FALSE NEIGHBOUR: 'it returns false'. Refute it at one input. -/
def fieldInv8sWrong : ChangeSpec := { name := "fieldInv8s", fn := fun _ => fun
  | [d] => { results := [.lit (.bool false)], args := [d] }
  | _ => none }
def FieldInv8sWrongFalsely : Prop := fieldInv8sRow.holds Try.pinned (OpenSpec.ofChange fieldInv8sWrong)

/-- 'culvertlaw3.FieldXors': WHATEVER THE INPUT: true; the input reads as it did. -/
def fieldXorsSpec : ChangeSpec := { name := "fieldXors", fn := fun _ => fun
  | [d1, d2] => { results := [.lit (.bool true)], args := [d1, d2] }
  | _ => none }
def fieldXorsRow : OpenClaim := { program := "ythibglfeccmocaa", sum := "8abd3954d32edd5ff261052fc312d720330c828d90f155d71d7c6ed3728fedf3", func := "culvert/culvertlaw3.FieldXors", spec := "fieldXors", apart := false }
def FieldXorsSaid : Prop := fieldXorsRow.holds Try.pinned (OpenSpec.ofChange fieldXorsSpec)

/-- ITS FALSE NEIGHBOUR: 'it returns false'. Refute it at one input. -/
def fieldXorsWrong : ChangeSpec := { name := "fieldXors", fn := fun _ => fun
  | [d1, d2] => { results := [.lit (.bool false)], args := [d1, d2] }
  | _ => none }
def FieldXorsWrongFalsely : Prop := fieldXorsRow.holds Try.pinned (OpenSpec.ofChange fieldXorsWrong)

/-- 'culvertlaw3.FieldMul128s': WHATEVER THE INPUT: true; the input reads as it did. -/
def fieldMul128sSpec : ChangeSpec := { name := "fieldMul128s", fn := fun _ => fun
  | [d1, d2] => { results := [.lit (.bool true)], args := [d1, d2] }
  | _ => none }
def fieldMul128sRow : OpenClaim := { program := "ythibglfeccmocaa", sum := "8abd3954d32edd5ff261052fc312d720330c828d90f155d71d7c6ed3728fedf3", func := "culvert/culvertlaw3.FieldMul128s", spec := "fieldMul128s", apart := false }
def FieldMul128sSaid : Prop := fieldMul128sRow.holds Try.pinned (OpenSpec.ofChange fieldMul128sSpec)

/-- ITS FALSE NEIGHBOUR: 'it returns false'. Refute it at one input. -/
def fieldMul128sWrong : ChangeSpec := { name := "fieldMul128s", fn := fun _ => fun
  | [d1, d2] => { results := [.lit (.bool false)], args := [d1, d2] }
  | _ => none }
def FieldMul128sWrongFalsely : Prop := fieldMul128sRow.holds Try.pinned (OpenSpec.ofChange fieldMul128sWrong)

/-- 'culvertlaw3.FieldLaws8': WHATEVER THE INPUT: true; the input reads as it did. -/
def fieldLaws8Spec : ChangeSpec := { name := "fieldLaws8", fn := fun _ => fun
  | [d1, d2, d3] => { results := [.lit (.bool true)], args := [d1, d2, d3] }
  | _ => none }
def fieldLaws8Row : OpenClaim := { program := "ythibglfeccmocaa", sum := "8abd3954d32edd5ff261052fc312d720330c828d90f155d71d7c6ed3728fedf3", func := "culvert/culvertlaw3.FieldLaws8", spec := "fieldLaws8", apart := false }
def FieldLaws8Said : Prop := fieldLaws8Row.holds Try.pinned (OpenSpec.ofChange fieldLaws8Spec)

/-- ITS FALSE NEIGHBOUR: 'it returns false'. Refute it at one input. -/
def fieldLaws8Wrong : ChangeSpec := { name := "fieldLaws8", fn := fun _ => fun
  | [d1, d2, d3] => { results := [.lit (.bool false)], args := [d1, d2, d3] }
  | _ => none }
def FieldLaws8WrongFalsely : Prop := fieldLaws8Row.holds Try.pinned (OpenSpec.ofChange fieldLaws8Wrong)

/-- 'culvertlaw3.FieldLaws128': WHATEVER THE INPUT: true; the input reads as it did. -/
def fieldLaws128Spec : ChangeSpec := { name := "fieldLaws128", fn := fun _ => fun
  | [d1, d2, d3] => { results := [.lit (.bool true)], args := [d1, d2, d3] }
  | _ => none }
def fieldLaws128Row : OpenClaim := { program := "ythibglfeccmocaa", sum := "8abd3954d32edd5ff261052fc312d720330c828d90f155d71d7c6ed3728fedf3", func := "culvert/culvertlaw3.FieldLaws128", spec := "fieldLaws128", apart := false }
def FieldLaws128Said : Prop := fieldLaws128Row.holds Try.pinned (OpenSpec.ofChange fieldLaws128Spec)

/-- ITS FALSE NEIGHBOUR: 'it returns false'. Refute it at one input. -/
def fieldLaws128Wrong : ChangeSpec := { name := "fieldLaws128", fn := fun _ => fun
  | [d1, d2, d3] => { results := [.lit (.bool false)], args := [d1, d2, d3] }
  | _ => none }
def FieldLaws128WrongFalsely : Prop := fieldLaws128Row.holds Try.pinned (OpenSpec.ofChange fieldLaws128Wrong)

/-- 'culvertlaw3.FieldSquares': WHATEVER THE INPUT: true; the input reads as it did. -/
def fieldSquaresSpec : ChangeSpec := { name := "fieldSquares", fn := fun _ => fun
  | [d1, d2, d3, d4] => { results := [.lit (.bool true)], args := [d1, d2, d3, d4] }
  | _ => none }
def fieldSquaresRow : OpenClaim := { program := "ythibglfeccmocaa", sum := "8abd3954d32edd5ff261052fc312d720330c828d90f155d71d7c6ed3728fedf3", func := "culvert/culvertlaw3.FieldSquares", spec := "fieldSquares", apart := false }
def FieldSquaresSaid : Prop := fieldSquaresRow.holds Try.pinned (OpenSpec.ofChange fieldSquaresSpec)

/-- ITS FALSE NEIGHBOUR: 'it returns false'. Refute it at one input. -/
def fieldSquaresWrong : ChangeSpec := { name := "fieldSquares", fn := fun _ => fun
  | [d1, d2, d3, d4] => { results := [.lit (.bool false)], args := [d1, d2, d3, d4] }
  | _ => none }
def FieldSquaresWrongFalsely : Prop := fieldSquaresRow.holds Try.pinned (OpenSpec.ofChange fieldSquaresWrong)

/-- 'culvertlaw3.FieldInverse': WHATEVER THE INPUT: true; the input reads as it did. -/
def fieldInverseSpec : ChangeSpec := { name := "fieldInverse", fn := fun _ => fun
  | [d1, d2] => { results := [.lit (.bool true)], args := [d1, d2] }
  | _ => none }
def fieldInverseRow : OpenClaim := { program := "ythibglfeccmocaa", sum := "8abd3954d32edd5ff261052fc312d720330c828d90f155d71d7c6ed3728fedf3", func := "culvert/culvertlaw3.FieldInverse", spec := "fieldInverse", apart := false }
def FieldInverseSaid : Prop := fieldInverseRow.holds Try.pinned (OpenSpec.ofChange fieldInverseSpec)

/-- ITS FALSE NEIGHBOUR: 'it returns false'. Refute it at one input. -/
def fieldInverseWrong : ChangeSpec := { name := "fieldInverse", fn := fun _ => fun
  | [d1, d2] => { results := [.lit (.bool false)], args := [d1, d2] }
  | _ => none }
def FieldInverseWrongFalsely : Prop := fieldInverseRow.holds Try.pinned (OpenSpec.ofChange fieldInverseWrong)

/- THE SECOND FORM. 'bulk': how many values and letters a reading holds, each counted each time it is reached (what is shared counts as often as it is met; a slice's spare places count too). A statement '..UptoSaid' is the law's where the arguments, and the package variables that the reading takes, are together of bulk at most 1048576: NARROWER than '..Said'. Prove '..Said' where nothing that the law and all that it calls make is longer than what came in: it says more and counts as full. Else prove '..UptoSaid'. A law counts once. -/
mutual
def uptoBulk {H : Type} : DataW H → Nat
  | .lit (.string bytes) => bytes.length + 1
  | .lit _ => 1
  | .nil => 1
  | .ptr d => uptoBulk d + 1
  | .slice elems spare => uptoBulkAll elems + uptoBulkAll spare + 1
  | .agg parts => uptoBulkAll parts + 1
  | .iface _ d => uptoBulk d + 1
  | .map entries => uptoBulkEntries entries + 1
  | .held _ => 1
def uptoBulkAll {H : Type} : List (DataW H) → Nat
  | [] => 0
  | d :: r => uptoBulk d + uptoBulkAll r
def uptoBulkEntries {H : Type} : List (Lit × DataW H) → Nat
  | [] => 0
  | x :: r => uptoBulkEntry x + uptoBulkEntries r
def uptoBulkEntry {H : Type} : Lit × DataW H → Nat
  | (.string bytes, d) => bytes.length + uptoBulk d + 1
  | (_, d) => uptoBulk d + 1
 end
def uptoSmall : (H : Type) → List (DataW H) → Bool := fun _ ds => decide (uptoBulkAll ds ≤ 1048576)
def OpenSpec.upto (s : _root_.Go.ChangeSpec) : _root_.Go.OpenSpec := { _root_.Go.OpenSpec.ofChange s with cond := some uptoSmall }

/-- 'culvertlaw3.FieldMul8s', WHERE WHAT IT READS IS OF BULK AT MOST 1048576: true; the input reads as it did. -/
def fieldMul8sUptoRow : OpenClaim := { program := "ythibglfeccmocaa", sum := "8abd3954d32edd5ff261052fc312d720330c828d90f155d71d7c6ed3728fedf3", func := "culvert/culvertlaw3.FieldMul8s", spec := "fieldMul8s", apart := false, narrowed := true }
def FieldMul8sUptoSaid : Prop := fieldMul8sUptoRow.holds Try.pinned (OpenSpec.upto fieldMul8sSpec)

/-- 'culvertlaw3.FieldInv8s', WHERE WHAT IT READS IS OF BULK AT MOST 1048576: true; the input reads as it did. -/
def fieldInv8sUptoRow : OpenClaim := { program := "ythibglfeccmocaa", sum := "8abd3954d32edd5ff261052fc312d720330c828d90f155d71d7c6ed3728fedf3", func := "culvert/culvertlaw3.FieldInv8s", spec := "fieldInv8s", apart := false, narrowed := true }
def FieldInv8sUptoSaid : Prop := fieldInv8sUptoRow.holds Try.pinned (OpenSpec.upto fieldInv8sSpec)

/-- 'culvertlaw3.FieldXors', WHERE WHAT IT READS IS OF BULK AT MOST 1048576: true; the input reads as it did. -/
def fieldXorsUptoRow : OpenClaim := { program := "ythibglfeccmocaa", sum := "8abd3954d32edd5ff261052fc312d720330c828d90f155d71d7c6ed3728fedf3", func := "culvert/culvertlaw3.FieldXors", spec := "fieldXors", apart := false, narrowed := true }
def FieldXorsUptoSaid : Prop := fieldXorsUptoRow.holds Try.pinned (OpenSpec.upto fieldXorsSpec)

/-- 'culvertlaw3.FieldMul128s', WHERE WHAT IT READS IS OF BULK AT MOST 1048576: true; the input reads as it did. -/
def fieldMul128sUptoRow : OpenClaim := { program := "ythibglfeccmocaa", sum := "8abd3954d32edd5ff261052fc312d720330c828d90f155d71d7c6ed3728fedf3", func := "culvert/culvertlaw3.FieldMul128s", spec := "fieldMul128s", apart := false, narrowed := true }
def FieldMul128sUptoSaid : Prop := fieldMul128sUptoRow.holds Try.pinned (OpenSpec.upto fieldMul128sSpec)

/-- 'culvertlaw3.FieldLaws8', WHERE WHAT IT READS IS OF BULK AT MOST 1048576: true; the input reads as it did. -/
def fieldLaws8UptoRow : OpenClaim := { program := "ythibglfeccmocaa", sum := "8abd3954d32edd5ff261052fc312d720330c828d90f155d71d7c6ed3728fedf3", func := "culvert/culvertlaw3.FieldLaws8", spec := "fieldLaws8", apart := false, narrowed := true }
def FieldLaws8UptoSaid : Prop := fieldLaws8UptoRow.holds Try.pinned (OpenSpec.upto fieldLaws8Spec)

/-- 'culvertlaw3.FieldLaws128', WHERE WHAT IT READS IS OF BULK AT MOST 1048576: true; the input reads as it did. -/
def fieldLaws128UptoRow : OpenClaim := { program := "ythibglfeccmocaa", sum := "8abd3954d32edd5ff261052fc312d720330c828d90f155d71d7c6ed3728fedf3", func := "culvert/culvertlaw3.FieldLaws128", spec := "fieldLaws128", apart := false, narrowed := true }
def FieldLaws128UptoSaid : Prop := fieldLaws128UptoRow.holds Try.pinned (OpenSpec.upto fieldLaws128Spec)

/-- 'culvertlaw3.FieldSquares', WHERE WHAT IT READS IS OF BULK AT MOST 1048576: true; the input reads as it did. -/
def fieldSquaresUptoRow : OpenClaim := { program := "ythibglfeccmocaa", sum := "8abd3954d32edd5ff261052fc312d720330c828d90f155d71d7c6ed3728fedf3", func := "culvert/culvertlaw3.FieldSquares", spec := "fieldSquares", apart := false, narrowed := true }
def FieldSquaresUptoSaid : Prop := fieldSquaresUptoRow.holds Try.pinned (OpenSpec.upto fieldSquaresSpec)

/-- 'culvertlaw3.FieldInverse', WHERE WHAT IT READS IS OF BULK AT MOST 1048576: true; the input reads as it did. -/
def fieldInverseUptoRow : OpenClaim := { program := "ythibglfeccmocaa", sum := "8abd3954d32edd5ff261052fc312d720330c828d90f155d71d7c6ed3728fedf3", func := "culvert/culvertlaw3.FieldInverse", spec := "fieldInverse", apart := false, narrowed := true }
def FieldInverseUptoSaid : Prop := fieldInverseUptoRow.holds Try.pinned (OpenSpec.upto fieldInverseSpec)

end Rows
end Go.Proofs.Ythibglfeccmocaa
