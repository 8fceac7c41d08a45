/-
  No cell of these rows narrows 'for every input' (looked for: loops, veiled, ifaces, maps, wideKeys, modest, calm, conditions, laid).
  DERIVED. THE GIVEN ROWS OF THIS SEAT. 6 by the template 'for every input the law returns true; each argument reads behind the call as it read before'; 0 by the template 'total and deterministic' (their statements: YtccnffjjahdneaaTotals.lean).
  GIVEN WITH THE SEED: the statements are not yours to turn. If you find one false, say at which input.
  Laid BY PROGRAM, IN A SANDBOX (cutbox-rows.mjs): the forced cells as the released guide's own fill.sh prints them over the translation 6e6e1bdf39b4fa70… (all of the seat's roots in one cut). By AI agents, Wed Nov 11 2026. No macro, syntax, notation, axiom, sorry.
-/
import Derived.Test.YtccnffjjahdneaaChecked
import GoSem.Claim
import GoSem.ClaimJoined
import GoSem.ClaimMapViews
import Derived.JoinedTies
import Derived.KernelRfl
namespace Go.Proofs.Ytccnffjjahdneaa
/- THE CELL 'sum', in the pinned program and in every row, IS THE sha256 OF THE DUMP (.gsa) THAT YtccnffjjahdneaaProg.lean LOADS. Nothing in Lean hashes anything: it is a label: what it is worth is what the hold of that sum in a sandbox is worth. -/
noncomputable def Try.pinned : Pinned := { name := "ytccnffjjahdneaa", sum := "6e6e1bdf39b4fa7069d74dbb3b54e87bd551335eefe46049d85ded209592b541", checked := Try.checked }
namespace Rows
def none {H : Type} : Left H := { results := [], args := [] }

/-- 'culvertlaw21.NetFlips': WHATEVER THE INPUT: true; the input reads as it did. -/
def netFlipsSpec : ChangeSpec := { name := "netFlips", fn := fun _ => fun
  | [d1, d2, d3, d4, d5] => { results := [.lit (.bool true)], args := [d1, d2, d3, d4, d5] }
  | _ => none }
def netFlipsRow : OpenClaim := { program := "ytccnffjjahdneaa", sum := "6e6e1bdf39b4fa7069d74dbb3b54e87bd551335eefe46049d85ded209592b541", func := "culvert/culvertlaw21.NetFlips", spec := "netFlips", unfollowed := true, recurses := true, apart := false }
def NetFlipsSaid : Prop := netFlipsRow.holds Try.pinned (OpenSpec.ofChange netFlipsSpec)

/-- ITS FALSE NEIGHBOUR: 'it returns false'. Refute it at one input. -/
def netFlipsWrong : ChangeSpec := { name := "netFlips", fn := fun _ => fun
  | [d1, d2, d3, d4, d5] => { results := [.lit (.bool false)], args := [d1, d2, d3, d4, d5] }
  | _ => none }
def NetFlipsWrongFalsely : Prop := netFlipsRow.holds Try.pinned (OpenSpec.ofChange netFlipsWrong)

/-- 'culvertlaw21.NetPlays': WHATEVER THE INPUT: true; the input reads as it did. -/
def netPlaysSpec : ChangeSpec := { name := "netPlays", fn := fun _ => fun
  | [d] => { results := [.lit (.bool true)], args := [d] }
  | _ => none }
def netPlaysRow : OpenClaim := { program := "ytccnffjjahdneaa", sum := "6e6e1bdf39b4fa7069d74dbb3b54e87bd551335eefe46049d85ded209592b541", func := "culvert/culvertlaw21.NetPlays", spec := "netPlays", unfollowed := true, recurses := true, apart := false }
def NetPlaysSaid : Prop := netPlaysRow.holds Try.pinned (OpenSpec.ofChange netPlaysSpec)

/-- ITS FALSE NEIGHBOUR: 'it returns false'. Refute it at one input. -/
def netPlaysWrong : ChangeSpec := { name := "netPlays", fn := fun _ => fun
  | [d] => { results := [.lit (.bool false)], args := [d] }
  | _ => none }
def NetPlaysWrongFalsely : Prop := netPlaysRow.holds Try.pinned (OpenSpec.ofChange netPlaysWrong)

/-- 'culvertlaw21.NetFull': WHATEVER THE INPUT: true; the input reads as it did. -/
def netFullSpec : ChangeSpec := { name := "netFull", fn := fun _ => fun
  | [d1, d2, d3, d4] => { results := [.lit (.bool true)], args := [d1, d2, d3, d4] }
  | _ => none }
def netFullRow : OpenClaim := { program := "ytccnffjjahdneaa", sum := "6e6e1bdf39b4fa7069d74dbb3b54e87bd551335eefe46049d85ded209592b541", func := "culvert/culvertlaw21.NetFull", spec := "netFull", unfollowed := true, recurses := true, apart := false }
def NetFullSaid : Prop := netFullRow.holds Try.pinned (OpenSpec.ofChange netFullSpec)

/-- ITS FALSE NEIGHBOUR: 'it returns false'. Refute it at one input. -/
def netFullWrong : ChangeSpec := { name := "netFull", fn := fun _ => fun
  | [d1, d2, d3, d4] => { results := [.lit (.bool false)], args := [d1, d2, d3, d4] }
  | _ => none }
def NetFullWrongFalsely : Prop := netFullRow.holds Try.pinned (OpenSpec.ofChange netFullWrong)

/-- 'culvertlaw21.NetMany': WHATEVER THE INPUT: true; the input reads as it did. -/
def netManySpec : ChangeSpec := { name := "netMany", fn := fun _ => fun
  | [d] => { results := [.lit (.bool true)], args := [d] }
  | _ => none }
def netManyRow : OpenClaim := { program := "ytccnffjjahdneaa", sum := "6e6e1bdf39b4fa7069d74dbb3b54e87bd551335eefe46049d85ded209592b541", func := "culvert/culvertlaw21.NetMany", spec := "netMany", unfollowed := true, recurses := true, apart := false }
def NetManySaid : Prop := netManyRow.holds Try.pinned (OpenSpec.ofChange netManySpec)

/-- ITS FALSE NEIGHBOUR: 'it returns false'. Refute it at one input. -/
def netManyWrong : ChangeSpec := { name := "netMany", fn := fun _ => fun
  | [d] => { results := [.lit (.bool false)], args := [d] }
  | _ => none }
def NetManyWrongFalsely : Prop := netManyRow.holds Try.pinned (OpenSpec.ofChange netManyWrong)

/-- 'culvertlaw21.NetFates': WHATEVER THE INPUT: true; the input reads as it did. -/
def netFatesSpec : ChangeSpec := { name := "netFates", fn := fun _ => fun
  | [d] => { results := [.lit (.bool true)], args := [d] }
  | _ => none }
def netFatesRow : OpenClaim := { program := "ytccnffjjahdneaa", sum := "6e6e1bdf39b4fa7069d74dbb3b54e87bd551335eefe46049d85ded209592b541", func := "culvert/culvertlaw21.NetFates", spec := "netFates", unfollowed := true, recurses := true, apart := false }
def NetFatesSaid : Prop := netFatesRow.holds Try.pinned (OpenSpec.ofChange netFatesSpec)

/-- ITS FALSE NEIGHBOUR: 'it returns false'. Refute it at one input. -/
def netFatesWrong : ChangeSpec := { name := "netFates", fn := fun _ => fun
  | [d] => { results := [.lit (.bool false)], args := [d] }
  | _ => none }
def NetFatesWrongFalsely : Prop := netFatesRow.holds Try.pinned (OpenSpec.ofChange netFatesWrong)

/-- 'culvertlaw21.NetRefuses': WHATEVER THE INPUT: true; the input reads as it did. -/
def netRefusesSpec : ChangeSpec := { name := "netRefuses", fn := fun _ => fun
  | [d1, d2, d3, d4] => { results := [.lit (.bool true)], args := [d1, d2, d3, d4] }
  | _ => none }
def netRefusesRow : OpenClaim := { program := "ytccnffjjahdneaa", sum := "6e6e1bdf39b4fa7069d74dbb3b54e87bd551335eefe46049d85ded209592b541", func := "culvert/culvertlaw21.NetRefuses", spec := "netRefuses", unfollowed := true, recurses := true, apart := false }
def NetRefusesSaid : Prop := netRefusesRow.holds Try.pinned (OpenSpec.ofChange netRefusesSpec)

/-- ITS FALSE NEIGHBOUR: 'it returns false'. Refute it at one input. -/
def netRefusesWrong : ChangeSpec := { name := "netRefuses", fn := fun _ => fun
  | [d1, d2, d3, d4] => { results := [.lit (.bool false)], args := [d1, d2, d3, d4] }
  | _ => none }
def NetRefusesWrongFalsely : Prop := netRefusesRow.holds Try.pinned (OpenSpec.ofChange netRefusesWrong)

/- THE SECOND FORM. 'bulk': how many values and letters a reading holds, each counted each time it is reached (what is shared counts as often as it is met; a slice's spare places count too). A statement '..UptoSaid' is the law's where the arguments, and the package variables that the reading takes, are together of bulk at most 1048576: NARROWER than '..Said'. Prove '..Said' where nothing that the law and all that it calls make is longer than what came in: it says more and counts as full. Else prove '..UptoSaid'. A law counts once. -/
mutual
def uptoBulk {H : Type} : DataW H → Nat
  | .lit (.string bytes) => bytes.length + 1
  | .lit _ => 1
  | .nil => 1
  | .ptr d => uptoBulk d + 1
  | .slice elems spare => uptoBulkAll elems + uptoBulkAll spare + 1
  | .agg parts => uptoBulkAll parts + 1
  | .iface _ d => uptoBulk d + 1
  | .map entries => uptoBulkEntries entries + 1
  | .held _ => 1
def uptoBulkAll {H : Type} : List (DataW H) → Nat
  | [] => 0
  | d :: r => uptoBulk d + uptoBulkAll r
def uptoBulkEntries {H : Type} : List (Lit × DataW H) → Nat
  | [] => 0
  | x :: r => uptoBulkEntry x + uptoBulkEntries r
def uptoBulkEntry {H : Type} : Lit × DataW H → Nat
  | (.string bytes, d) => bytes.length + uptoBulk d + 1
  | (_, d) => uptoBulk d + 1
 end
def uptoSmall : (H : Type) → List (DataW H) → Bool := fun _ ds => decide (uptoBulkAll ds ≤ 1048576)
def OpenSpec.upto (s : _root_.Go.ChangeSpec) : _root_.Go.OpenSpec := { _root_.Go.OpenSpec.ofChange s with cond := some uptoSmall }

/-- 'culvertlaw21.NetFlips', WHERE WHAT IT READS IS OF BULK AT MOST 1048576: true; the input reads as it did. -/
def netFlipsUptoRow : OpenClaim := { program := "ytccnffjjahdneaa", sum := "6e6e1bdf39b4fa7069d74dbb3b54e87bd551335eefe46049d85ded209592b541", func := "culvert/culvertlaw21.NetFlips", spec := "netFlips", unfollowed := true, recurses := true, apart := false, narrowed := true }
def NetFlipsUptoSaid : Prop := netFlipsUptoRow.holds Try.pinned (OpenSpec.upto netFlipsSpec)

/-- 'culvertlaw21.NetPlays', WHERE WHAT IT READS IS OF BULK AT MOST 1048576: true; the input reads as it did. -/
def netPlaysUptoRow : OpenClaim := { program := "ytccnffjjahdneaa", sum := "6e6e1bdf39b4fa7069d74dbb3b54e87bd551335eefe46049d85ded209592b541", func := "culvert/culvertlaw21.NetPlays", spec := "netPlays", unfollowed := true, recurses := true, apart := false, narrowed := true }
def NetPlaysUptoSaid : Prop := netPlaysUptoRow.holds Try.pinned (OpenSpec.upto netPlaysSpec)

/-- 'culvertlaw21.NetFull', WHERE WHAT IT READS IS OF BULK AT MOST 1048576: true; the input reads as it did. -/
def netFullUptoRow : OpenClaim := { program := "ytccnffjjahdneaa", sum := "6e6e1bdf39b4fa7069d74dbb3b54e87bd551335eefe46049d85ded209592b541", func := "culvert/culvertlaw21.NetFull", spec := "netFull", unfollowed := true, recurses := true, apart := false, narrowed := true }
def NetFullUptoSaid : Prop := netFullUptoRow.holds Try.pinned (OpenSpec.upto netFullSpec)

/-- 'culvertlaw21.NetMany', WHERE WHAT IT READS IS OF BULK AT MOST 1048576: true; the input reads as it did. -/
def netManyUptoRow : OpenClaim := { program := "ytccnffjjahdneaa", sum := "6e6e1bdf39b4fa7069d74dbb3b54e87bd551335eefe46049d85ded209592b541", func := "culvert/culvertlaw21.NetMany", spec := "netMany", unfollowed := true, recurses := true, apart := false, narrowed := true }
def NetManyUptoSaid : Prop := netManyUptoRow.holds Try.pinned (OpenSpec.upto netManySpec)

/-- 'culvertlaw21.NetFates', WHERE WHAT IT READS IS OF BULK AT MOST 1048576: true; the input reads as it did. -/
def netFatesUptoRow : OpenClaim := { program := "ytccnffjjahdneaa", sum := "6e6e1bdf39b4fa7069d74dbb3b54e87bd551335eefe46049d85ded209592b541", func := "culvert/culvertlaw21.NetFates", spec := "netFates", unfollowed := true, recurses := true, apart := false, narrowed := true }
def NetFatesUptoSaid : Prop := netFatesUptoRow.holds Try.pinned (OpenSpec.upto netFatesSpec)

/-- 'culvertlaw21.NetRefuses', WHERE WHAT IT READS IS OF BULK AT MOST 1048576: true; the input reads as it did. -/
def netRefusesUptoRow : OpenClaim := { program := "ytccnffjjahdneaa", sum := "6e6e1bdf39b4fa7069d74dbb3b54e87bd551335eefe46049d85ded209592b541", func := "culvert/culvertlaw21.NetRefuses", spec := "netRefuses", unfollowed := true, recurses := true, apart := false, narrowed := true }
def NetRefusesUptoSaid : Prop := netRefusesUptoRow.holds Try.pinned (OpenSpec.upto netRefusesSpec)

end Rows
end Go.Proofs.Ytccnffjjahdneaa
