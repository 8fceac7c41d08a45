/-
  No cell of these rows narrows 'for every input' (looked for: loops, veiled, ifaces, maps, wideKeys, modest, calm, conditions, laid).
  DERIVED. THE GIVEN ROWS OF THIS SEAT. 6 by the template 'for every input the law returns true; each argument reads behind the call as it read before'; 0 by the template 'total and deterministic' (their statements: YthcfjecicdfngaaTotals.lean).
  GIVEN WITH THE SEED: the statements are not yours to turn. If you find one false, say at which input.
  Laid BY PROGRAM, IN A SANDBOX (cutbox-rows.mjs): the forced cells as the released guide's own fill.sh prints them over the translation 98d98a732465d64e… (all of the seat's roots in one cut). By AI agents, Wed Nov 11 2026. No macro, syntax, notation, axiom, sorry.
-/
import Derived.Test.YthcfjecicdfngaaChecked
import GoSem.Claim
import GoSem.ClaimJoined
import GoSem.ClaimMapViews
import Derived.JoinedTies
import Derived.KernelRfl
namespace Go.Proofs.Ythcfjecicdfngaa
/- THE CELL 'sum', in the pinned program and in every row, IS THE sha256 OF THE DUMP (.gsa) THAT YthcfjecicdfngaaProg.lean LOADS. Nothing in Lean hashes anything: it is a label: what it is worth is what the hold of that sum in a sandbox is worth. -/
noncomputable def Try.pinned : Pinned := { name := "ythcfjecicdfngaa", sum := "98d98a732465d64ec29de09ad01b794684c3011c119198c3a4e23a9263311ae7", checked := Try.checked }
namespace Rows
def none {H : Type} : Left H := { results := [], args := [] }

/-- 'culvertlaw4.AesBoxes': WHATEVER THE INPUT: true; the input reads as it did. -/
def aesBoxesSpec : ChangeSpec := { name := "aesBoxes", fn := fun _ => fun
  | [d] => { results := [.lit (.bool true)], args := [d] }
  | _ => none }
def aesBoxesRow : OpenClaim := { program := "ythcfjecicdfngaa", sum := "98d98a732465d64ec29de09ad01b794684c3011c119198c3a4e23a9263311ae7", func := "culvert/culvertlaw4.AesBoxes", spec := "aesBoxes", apart := false }
def AesBoxesSaid : Prop := aesBoxesRow.holds Try.pinned (OpenSpec.ofChange aesBoxesSpec)

/-- ITS FALSE NEIGHBOUR: 'it returns false'. Refute it at one input. -/
def aesBoxesWrong : ChangeSpec := { name := "aesBoxes", fn := fun _ => fun
  | [d] => { results := [.lit (.bool false)], args := [d] }
  | _ => none }
def AesBoxesWrongFalsely : Prop := aesBoxesRow.holds Try.pinned (OpenSpec.ofChange aesBoxesWrong)

/-- 'culvertlaw4.AesNews': WHATEVER THE INPUT: true; the input reads as it did. -/
def aesNewsSpec : ChangeSpec := { name := "aesNews", fn := fun _ => fun
  | [d] => { results := [.lit (.bool true)], args := [d] }
  | _ => none }
def aesNewsRow : OpenClaim := { program := "ythcfjecicdfngaa", sum := "98d98a732465d64ec29de09ad01b794684c3011c119198c3a4e23a9263311ae7", func := "culvert/culvertlaw4.AesNews", spec := "aesNews", apart := false }
def AesNewsSaid : Prop := aesNewsRow.holds Try.pinned (OpenSpec.ofChange aesNewsSpec)

/-- ITS FALSE NEIGHBOUR: 'it returns false'. Refute it at one input. -/
def aesNewsWrong : ChangeSpec := { name := "aesNews", fn := fun _ => fun
  | [d] => { results := [.lit (.bool false)], args := [d] }
  | _ => none }
def AesNewsWrongFalsely : Prop := aesNewsRow.holds Try.pinned (OpenSpec.ofChange aesNewsWrong)

/-- 'culvertlaw4.AesBlocks': WHATEVER THE INPUT: true; the input reads as it did. -/
def aesBlocksSpec : ChangeSpec := { name := "aesBlocks", fn := fun _ => fun
  | [d1, d2] => { results := [.lit (.bool true)], args := [d1, d2] }
  | _ => none }
def aesBlocksRow : OpenClaim := { program := "ythcfjecicdfngaa", sum := "98d98a732465d64ec29de09ad01b794684c3011c119198c3a4e23a9263311ae7", func := "culvert/culvertlaw4.AesBlocks", spec := "aesBlocks", apart := false }
def AesBlocksSaid : Prop := aesBlocksRow.holds Try.pinned (OpenSpec.ofChange aesBlocksSpec)

/-- ITS FALSE NEIGHBOUR: 'it returns false'. Refute it at one input. -/
def aesBlocksWrong : ChangeSpec := { name := "aesBlocks", fn := fun _ => fun
  | [d1, d2] => { results := [.lit (.bool false)], args := [d1, d2] }
  | _ => none }
def AesBlocksWrongFalsely : Prop := aesBlocksRow.holds Try.pinned (OpenSpec.ofChange aesBlocksWrong)

/-- 'culvertlaw4.AesPermutes': WHATEVER THE INPUT: true; the input reads as it did. -/
def aesPermutesSpec : ChangeSpec := { name := "aesPermutes", fn := fun _ => fun
  | [d1, d2, d3] => { results := [.lit (.bool true)], args := [d1, d2, d3] }
  | _ => none }
def aesPermutesRow : OpenClaim := { program := "ythcfjecicdfngaa", sum := "98d98a732465d64ec29de09ad01b794684c3011c119198c3a4e23a9263311ae7", func := "culvert/culvertlaw4.AesPermutes", spec := "aesPermutes", apart := false }
def AesPermutesSaid : Prop := aesPermutesRow.holds Try.pinned (OpenSpec.ofChange aesPermutesSpec)

/-- ITS FALSE NEIGHBOUR: 'it returns false'. Refute it at one input. -/
def aesPermutesWrong : ChangeSpec := { name := "aesPermutes", fn := fun _ => fun
  | [d1, d2, d3] => { results := [.lit (.bool false)], args := [d1, d2, d3] }
  | _ => none }
def AesPermutesWrongFalsely : Prop := aesPermutesRow.holds Try.pinned (OpenSpec.ofChange aesPermutesWrong)

/-- 'culvertlaw4.AesBoxTurns': WHATEVER THE INPUT: true; the input reads as it did. -/
def aesBoxTurnsSpec : ChangeSpec := { name := "aesBoxTurns", fn := fun _ => fun
  | [d1, d2] => { results := [.lit (.bool true)], args := [d1, d2] }
  | _ => none }
def aesBoxTurnsRow : OpenClaim := { program := "ythcfjecicdfngaa", sum := "98d98a732465d64ec29de09ad01b794684c3011c119198c3a4e23a9263311ae7", func := "culvert/culvertlaw4.AesBoxTurns", spec := "aesBoxTurns", apart := false }
def AesBoxTurnsSaid : Prop := aesBoxTurnsRow.holds Try.pinned (OpenSpec.ofChange aesBoxTurnsSpec)

/-- ITS FALSE NEIGHBOUR: 'it returns false'. Refute it at one input. -/
def aesBoxTurnsWrong : ChangeSpec := { name := "aesBoxTurns", fn := fun _ => fun
  | [d1, d2] => { results := [.lit (.bool false)], args := [d1, d2] }
  | _ => none }
def AesBoxTurnsWrongFalsely : Prop := aesBoxTurnsRow.holds Try.pinned (OpenSpec.ofChange aesBoxTurnsWrong)

/-- 'culvertlaw4.AesTwo': WHATEVER THE INPUT: true; the input reads as it did. -/
def aesTwoSpec : ChangeSpec := { name := "aesTwo", fn := fun _ => fun
  | [d1, d2, d3] => { results := [.lit (.bool true)], args := [d1, d2, d3] }
  | _ => none }
def aesTwoRow : OpenClaim := { program := "ythcfjecicdfngaa", sum := "98d98a732465d64ec29de09ad01b794684c3011c119198c3a4e23a9263311ae7", func := "culvert/culvertlaw4.AesTwo", spec := "aesTwo", apart := false }
def AesTwoSaid : Prop := aesTwoRow.holds Try.pinned (OpenSpec.ofChange aesTwoSpec)

/-- ITS FALSE NEIGHBOUR: 'it returns false'. Refute it at one input. -/
def aesTwoWrong : ChangeSpec := { name := "aesTwo", fn := fun _ => fun
  | [d1, d2, d3] => { results := [.lit (.bool false)], args := [d1, d2, d3] }
  | _ => none }
def AesTwoWrongFalsely : Prop := aesTwoRow.holds Try.pinned (OpenSpec.ofChange aesTwoWrong)

/- THE SECOND FORM. 'bulk': how many values and letters a reading holds, each counted each time it is reached (what is shared counts as often as it is met; a slice's spare places count too). A statement '..UptoSaid' is the law's where the arguments, and the package variables that the reading takes, are together of bulk at most 1048576: NARROWER than '..Said'. Prove '..Said' where nothing that the law and all that it calls make is longer than what came in: it says more and counts as full. Else prove '..UptoSaid'. A law counts once. -/
mutual
def uptoBulk {H : Type} : DataW H → Nat
  | .lit (.string bytes) => bytes.length + 1
  | .lit _ => 1
  | .nil => 1
  | .ptr d => uptoBulk d + 1
  | .slice elems spare => uptoBulkAll elems + uptoBulkAll spare + 1
  | .agg parts => uptoBulkAll parts + 1
  | .iface _ d => uptoBulk d + 1
  | .map entries => uptoBulkEntries entries + 1
  | .held _ => 1
def uptoBulkAll {H : Type} : List (DataW H) → Nat
  | [] => 0
  | d :: r => uptoBulk d + uptoBulkAll r
def uptoBulkEntries {H : Type} : List (Lit × DataW H) → Nat
  | [] => 0
  | x :: r => uptoBulkEntry x + uptoBulkEntries r
def uptoBulkEntry {H : Type} : Lit × DataW H → Nat
  | (.string bytes, d) => bytes.length + uptoBulk d + 1
  | (_, d) => uptoBulk d + 1
 end
def uptoSmall : (H : Type) → List (DataW H) → Bool := fun _ ds => decide (uptoBulkAll ds ≤ 1048576)
def OpenSpec.upto (s : _root_.Go.ChangeSpec) : _root_.Go.OpenSpec := { _root_.Go.OpenSpec.ofChange s with cond := some uptoSmall }

/-- 'culvertlaw4.AesBoxes', WHERE WHAT IT READS IS OF BULK AT MOST 1048576: true; the input reads as it did. -/
def aesBoxesUptoRow : OpenClaim := { program := "ythcfjecicdfngaa", sum := "98d98a732465d64ec29de09ad01b794684c3011c119198c3a4e23a9263311ae7", func := "culvert/culvertlaw4.AesBoxes", spec := "aesBoxes", apart := false, narrowed := true }
def AesBoxesUptoSaid : Prop := aesBoxesUptoRow.holds Try.pinned (OpenSpec.upto aesBoxesSpec)

/-- 'culvertlaw4.AesNews', WHERE WHAT IT READS IS OF BULK AT MOST 1048576: true; the input reads as it did. -/
def aesNewsUptoRow : OpenClaim := { program := "ythcfjecicdfngaa", sum := "98d98a732465d64ec29de09ad01b794684c3011c119198c3a4e23a9263311ae7", func := "culvert/culvertlaw4.AesNews", spec := "aesNews", apart := false, narrowed := true }
def AesNewsUptoSaid : Prop := aesNewsUptoRow.holds Try.pinned (OpenSpec.upto aesNewsSpec)

/-- 'culvertlaw4.AesBlocks', WHERE WHAT IT READS IS OF BULK AT MOST 1048576: true; the input reads as it did. -/
def aesBlocksUptoRow : OpenClaim := { program := "ythcfjecicdfngaa", sum := "98d98a732465d64ec29de09ad01b794684c3011c119198c3a4e23a9263311ae7", func := "culvert/culvertlaw4.AesBlocks", spec := "aesBlocks", apart := false, narrowed := true }
def AesBlocksUptoSaid : Prop := aesBlocksUptoRow.holds Try.pinned (OpenSpec.upto aesBlocksSpec)

/-- 'culvertlaw4.AesPermutes', WHERE WHAT IT READS IS OF BULK AT MOST 1048576: true; the input reads as it did. -/
def aesPermutesUptoRow : OpenClaim := { program := "ythcfjecicdfngaa", sum := "98d98a732465d64ec29de09ad01b794684c3011c119198c3a4e23a9263311ae7", func := "culvert/culvertlaw4.AesPermutes", spec := "aesPermutes", apart := false, narrowed := true }
def AesPermutesUptoSaid : Prop := aesPermutesUptoRow.holds Try.pinned (OpenSpec.upto aesPermutesSpec)

/-- 'culvertlaw4.AesBoxTurns', WHERE WHAT IT READS IS OF BULK AT MOST 1048576: true; the input reads as it did. -/
def aesBoxTurnsUptoRow : OpenClaim := { program := "ythcfjecicdfngaa", sum := "98d98a732465d64ec29de09ad01b794684c3011c119198c3a4e23a9263311ae7", func := "culvert/culvertlaw4.AesBoxTurns", spec := "aesBoxTurns", apart := false, narrowed := true }
def AesBoxTurnsUptoSaid : Prop := aesBoxTurnsUptoRow.holds Try.pinned (OpenSpec.upto aesBoxTurnsSpec)

/-- 'culvertlaw4.AesTwo', WHERE WHAT IT READS IS OF BULK AT MOST 1048576: true; the input reads as it did. -/
def aesTwoUptoRow : OpenClaim := { program := "ythcfjecicdfngaa", sum := "98d98a732465d64ec29de09ad01b794684c3011c119198c3a4e23a9263311ae7", func := "culvert/culvertlaw4.AesTwo", spec := "aesTwo", apart := false, narrowed := true }
def AesTwoUptoSaid : Prop := aesTwoUptoRow.holds Try.pinned (OpenSpec.upto aesTwoSpec)

end Rows
end Go.Proofs.Ythcfjecicdfngaa
