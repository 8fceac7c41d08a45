/-
  No cell of these rows narrows 'for every input' (looked for: loops, veiled, ifaces, maps, wideKeys, modest, calm, conditions, laid).
  DERIVED. THE GIVEN ROWS OF THIS SEAT. 3 by the template 'for every input the law returns true; each argument reads behind the call as it read before'; 0 by the template 'total and deterministic' (their statements: YtdcplcfedcmcmaaGreatTotals.lean).
  GIVEN WITH THE SEED: the statements are not yours to turn. If you find one false, say at which input.
  Laid BY PROGRAM, IN A SANDBOX (cutbox-rows.mjs): the forced cells as the released guide's own fill.sh prints them over the translation fdc0c81615b0b3c8… (all of the seat's roots in one cut). By AI agents, Wed Nov 11 2026. No macro, syntax, notation, axiom, sorry.
-/
import Derived.Test.YtdcplcfedcmcmaaGreatChecked
import GoSem.Claim
import GoSem.ClaimJoined
import GoSem.ClaimMapViews
import Derived.JoinedTies
import Derived.KernelRfl
namespace Go.Proofs.YtdcplcfedcmcmaaGreat
/- THE CELL 'sum', in the pinned program and in every row, IS THE sha256 OF THE DUMP (.gsa) THAT YtdcplcfedcmcmaaGreatProg.lean LOADS. Nothing in Lean hashes anything: it is a label: what it is worth is what the hold of that sum in a sandbox is worth. -/
noncomputable def Tryz.pinned : Pinned := { name := "ytdcplcfedcmcmaagreat", sum := "fdc0c81615b0b3c87a8ffd75da2b0282ef568da87c330921804e25d3b912e3a3", checked := Tryz.checked }
namespace Rows
def none {H : Type} : Left H := { results := [], args := [] }

/-- 'culvertlaw16.ConfigJudges': WHATEVER THE INPUT: true; the input reads as it did. -/
def configJudgesSpec : ChangeSpec := { name := "configJudges", fn := fun _ => fun
  | [d] => { results := [.lit (.bool true)], args := [d] }
  | _ => none }
def configJudgesRow : OpenClaim := { program := "ytdcplcfedcmcmaagreat", sum := "fdc0c81615b0b3c87a8ffd75da2b0282ef568da87c330921804e25d3b912e3a3", func := "culvert/culvertlaw16.ConfigJudges", spec := "configJudges", inPlace := ["internal/bytealg.Compare", "slices.overlaps[culvert/api.Peer]", "slices.overlaps[culvert/api.Lane]", "slices.overlaps[culvert/api.Prefix]"], unfollowed := true, recurses := true, apart := false }
def ConfigJudgesSaid : Prop := configJudgesRow.holds Tryz.pinned (OpenSpec.ofChange configJudgesSpec)

/-- ITS FALSE NEIGHBOUR: 'it returns false'. Refute it at one input. -/
def configJudgesWrong : ChangeSpec := { name := "configJudges", fn := fun _ => fun
  | [d] => { results := [.lit (.bool false)], args := [d] }
  | _ => none }
def ConfigJudgesWrongFalsely : Prop := configJudgesRow.holds Tryz.pinned (OpenSpec.ofChange configJudgesWrong)

/-- 'culvertlaw16.ConfigFrom': WHATEVER THE INPUT: true; the input reads as it did. -/
def configFromSpec : ChangeSpec := { name := "configFrom", fn := fun _ => fun
  | [d1, d2, d3] => { results := [.lit (.bool true)], args := [d1, d2, d3] }
  | _ => none }
def configFromRow : OpenClaim := { program := "ytdcplcfedcmcmaagreat", sum := "fdc0c81615b0b3c87a8ffd75da2b0282ef568da87c330921804e25d3b912e3a3", func := "culvert/culvertlaw16.ConfigFrom", spec := "configFrom", inPlace := ["internal/bytealg.Compare", "slices.overlaps[culvert/api.Peer]", "slices.overlaps[culvert/api.Lane]", "slices.overlaps[culvert/api.Prefix]"], unfollowed := true, recurses := true, apart := false }
def ConfigFromSaid : Prop := configFromRow.holds Tryz.pinned (OpenSpec.ofChange configFromSpec)

/-- ITS FALSE NEIGHBOUR: 'it returns false'. Refute it at one input. -/
def configFromWrong : ChangeSpec := { name := "configFrom", fn := fun _ => fun
  | [d1, d2, d3] => { results := [.lit (.bool false)], args := [d1, d2, d3] }
  | _ => none }
def ConfigFromWrongFalsely : Prop := configFromRow.holds Tryz.pinned (OpenSpec.ofChange configFromWrong)

/-- 'culvertlaw16.ConfigWhole': WHATEVER THE INPUT: true; the input reads as it did. -/
def configWholeSpec : ChangeSpec := { name := "configWhole", fn := fun _ => fun
  | [d1, d2, d3] => { results := [.lit (.bool true)], args := [d1, d2, d3] }
  | _ => none }
def configWholeRow : OpenClaim := { program := "ytdcplcfedcmcmaagreat", sum := "fdc0c81615b0b3c87a8ffd75da2b0282ef568da87c330921804e25d3b912e3a3", func := "culvert/culvertlaw16.ConfigWhole", spec := "configWhole", inPlace := ["internal/bytealg.Compare", "slices.overlaps[culvert/api.Peer]", "slices.overlaps[culvert/api.Lane]", "slices.overlaps[culvert/api.Prefix]"], unfollowed := true, recurses := true, apart := false }
def ConfigWholeSaid : Prop := configWholeRow.holds Tryz.pinned (OpenSpec.ofChange configWholeSpec)

/-- ITS FALSE NEIGHBOUR: 'it returns false'. Refute it at one input. -/
def configWholeWrong : ChangeSpec := { name := "configWhole", fn := fun _ => fun
  | [d1, d2, d3] => { results := [.lit (.bool false)], args := [d1, d2, d3] }
  | _ => none }
def ConfigWholeWrongFalsely : Prop := configWholeRow.holds Tryz.pinned (OpenSpec.ofChange configWholeWrong)

/- THE SECOND FORM. 'bulk': how many values and letters a reading holds, each counted each time it is reached (what is shared counts as often as it is met; a slice's spare places count too). A statement '..UptoSaid' is the law's where the arguments, and the package variables that the reading takes, are together of bulk at most 1048576: NARROWER than '..Said'. Prove '..Said' where nothing that the law and all that it calls make is longer than what came in: it says more and counts as full. Else prove '..UptoSaid'. A law counts once. -/
mutual
def uptoBulk {H : Type} : DataW H → Nat
  | .lit (.string bytes) => bytes.length + 1
  | .lit _ => 1
  | .nil => 1
  | .ptr d => uptoBulk d + 1
  | .slice elems spare => uptoBulkAll elems + uptoBulkAll spare + 1
  | .agg parts => uptoBulkAll parts + 1
  | .iface _ d => uptoBulk d + 1
  | .map entries => uptoBulkEntries entries + 1
  | .held _ => 1
def uptoBulkAll {H : Type} : List (DataW H) → Nat
  | [] => 0
  | d :: r => uptoBulk d + uptoBulkAll r
def uptoBulkEntries {H : Type} : List (Lit × DataW H) → Nat
  | [] => 0
  | x :: r => uptoBulkEntry x + uptoBulkEntries r
def uptoBulkEntry {H : Type} : Lit × DataW H → Nat
  | (.string bytes, d) => bytes.length + uptoBulk d + 1
  | (_, d) => uptoBulk d + 1
 end
def uptoSmall : (H : Type) → List (DataW H) → Bool := fun _ ds => decide (uptoBulkAll ds ≤ 1048576)
def OpenSpec.upto (s : _root_.Go.ChangeSpec) : _root_.Go.OpenSpec := { _root_.Go.OpenSpec.ofChange s with cond := some uptoSmall }

/-- 'culvertlaw16.ConfigJudges', WHERE WHAT IT READS IS OF BULK AT MOST 1048576: true; the input reads as it did. -/
def configJudgesUptoRow : OpenClaim := { program := "ytdcplcfedcmcmaagreat", sum := "fdc0c81615b0b3c87a8ffd75da2b0282ef568da87c330921804e25d3b912e3a3", func := "culvert/culvertlaw16.ConfigJudges", spec := "configJudges", inPlace := ["internal/bytealg.Compare", "slices.overlaps[culvert/api.Peer]", "slices.overlaps[culvert/api.Lane]", "slices.overlaps[culvert/api.Prefix]"], unfollowed := true, recurses := true, apart := false, narrowed := true }
def ConfigJudgesUptoSaid : Prop := configJudgesUptoRow.holds Tryz.pinned (OpenSpec.upto configJudgesSpec)

/-- 'culvertlaw16.ConfigFrom', WHERE WHAT IT READS IS OF BULK AT MOST 1048576: true; the input reads as it did. -/
def configFromUptoRow : OpenClaim := { program := "ytdcplcfedcmcmaagreat", sum := "fdc0c81615b0b3c87a8ffd75da2b0282ef568da87c330921804e25d3b912e3a3", func := "culvert/culvertlaw16.ConfigFrom", spec := "configFrom", inPlace := ["internal/bytealg.Compare", "slices.overlaps[culvert/api.Peer]", "slices.overlaps[culvert/api.Lane]", "slices.overlaps[culvert/api.Prefix]"], unfollowed := true, recurses := true, apart := false, narrowed := true }
def ConfigFromUptoSaid : Prop := configFromUptoRow.holds Tryz.pinned (OpenSpec.upto configFromSpec)

/-- 'culvertlaw16.ConfigWhole', WHERE WHAT IT READS IS OF BULK AT MOST 1048576: true; the input reads as it did. -/
def configWholeUptoRow : OpenClaim := { program := "ytdcplcfedcmcmaagreat", sum := "fdc0c81615b0b3c87a8ffd75da2b0282ef568da87c330921804e25d3b912e3a3", func := "culvert/culvertlaw16.ConfigWhole", spec := "configWhole", inPlace := ["internal/bytealg.Compare", "slices.overlaps[culvert/api.Peer]", "slices.overlaps[culvert/api.Lane]", "slices.overlaps[culvert/api.Prefix]"], unfollowed := true, recurses := true, apart := false, narrowed := true }
def ConfigWholeUptoSaid : Prop := configWholeUptoRow.holds Tryz.pinned (OpenSpec.upto configWholeSpec)

end Rows
end Go.Proofs.YtdcplcfedcmcmaaGreat
