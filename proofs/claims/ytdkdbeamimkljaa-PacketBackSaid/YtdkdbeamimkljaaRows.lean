/-
  No cell of these rows narrows 'for every input' (looked for: loops, veiled, ifaces, maps, wideKeys, modest, calm, conditions, laid).
  DERIVED. THE GIVEN ROWS OF THIS SEAT. 8 by the template 'for every input the law returns true; each argument reads behind the call as it read before'; 0 by the template 'total and deterministic' (their statements: YtdkdbeamimkljaaTotals.lean).
  GIVEN WITH THE SEED: the statements are not yours to turn. If you find one false, say at which input.
  Laid BY PROGRAM, IN A SANDBOX (cutbox-rows.mjs): the forced cells as the released guide's own fill.sh prints them over the translation ba6989eb51d76799… (all of the seat's roots in one cut). By AI agents, Wed Nov 11 2026. No macro, syntax, notation, axiom, sorry.
-/
import Derived.Test.YtdkdbeamimkljaaChecked
import GoSem.Claim
import GoSem.ClaimJoined
import GoSem.ClaimMapViews
import Derived.JoinedTies
import Derived.KernelRfl
namespace Go.Proofs.Ytdkdbeamimkljaa
/- THE CELL 'sum', in the pinned program and in every row, IS THE sha256 OF THE DUMP (.gsa) THAT YtdkdbeamimkljaaProg.lean LOADS. Nothing in Lean hashes anything: it is a label: what it is worth is what the hold of that sum in a sandbox is worth. -/
noncomputable def Try.pinned : Pinned := { name := "ytdkdbeamimkljaa", sum := "ba6989eb51d767992086b9128b790e15dc2985d0e29a65d9cf2d7378bfa1f73a", checked := Try.checked }
namespace Rows
def none {H : Type} : Left H := { results := [], args := [] }

/-- 'culvertlaw9.PacketHeads': WHATEVER THE INPUT: true; the input reads as it did. -/
def packetHeadsSpec : ChangeSpec := { name := "packetHeads", fn := fun _ => fun
  | [d1, d2] => { results := [.lit (.bool true)], args := [d1, d2] }
  | _ => none }
def packetHeadsRow : OpenClaim := { program := "ytdkdbeamimkljaa", sum := "ba6989eb51d767992086b9128b790e15dc2985d0e29a65d9cf2d7378bfa1f73a", func := "culvert/culvertlaw9.PacketHeads", spec := "packetHeads", apart := false }
def PacketHeadsSaid : Prop := packetHeadsRow.holds Try.pinned (OpenSpec.ofChange packetHeadsSpec)

/-- ITS FALSE NEIGHBOUR: 'it returns false'. Refute it at one input. -/
def packetHeadsWrong : ChangeSpec := { name := "packetHeads", fn := fun _ => fun
  | [d1, d2] => { results := [.lit (.bool false)], args := [d1, d2] }
  | _ => none }
def PacketHeadsWrongFalsely : Prop := packetHeadsRow.holds Try.pinned (OpenSpec.ofChange packetHeadsWrong)

/-- 'culvertlaw9.PacketReads': WHATEVER THE INPUT: true; the input reads as it did. -/
def packetReadsSpec : ChangeSpec := { name := "packetReads", fn := fun _ => fun
  | [d] => { results := [.lit (.bool true)], args := [d] }
  | _ => none }
def packetReadsRow : OpenClaim := { program := "ytdkdbeamimkljaa", sum := "ba6989eb51d767992086b9128b790e15dc2985d0e29a65d9cf2d7378bfa1f73a", func := "culvert/culvertlaw9.PacketReads", spec := "packetReads", apart := false }
def PacketReadsSaid : Prop := packetReadsRow.holds Try.pinned (OpenSpec.ofChange packetReadsSpec)

/-- ITS FALSE NEIGHBOUR: 'it returns false'. Refute it at one input. -/
def packetReadsWrong : ChangeSpec := { name := "packetReads", fn := fun _ => fun
  | [d] => { results := [.lit (.bool false)], args := [d] }
  | _ => none }
def PacketReadsWrongFalsely : Prop := packetReadsRow.holds Try.pinned (OpenSpec.ofChange packetReadsWrong)

/-- 'culvertlaw9.PacketApart': WHATEVER THE INPUT: true; the input reads as it did. -/
def packetApartSpec : ChangeSpec := { name := "packetApart", fn := fun _ => fun
  | [d1, d2, d3, d4, d5, d6] => { results := [.lit (.bool true)], args := [d1, d2, d3, d4, d5, d6] }
  | _ => none }
def packetApartRow : OpenClaim := { program := "ytdkdbeamimkljaa", sum := "ba6989eb51d767992086b9128b790e15dc2985d0e29a65d9cf2d7378bfa1f73a", func := "culvert/culvertlaw9.PacketApart", spec := "packetApart", apart := false }
def PacketApartSaid : Prop := packetApartRow.holds Try.pinned (OpenSpec.ofChange packetApartSpec)

/-- ITS FALSE NEIGHBOUR: 'it returns false'. Refute it at one input. -/
def packetApartWrong : ChangeSpec := { name := "packetApart", fn := fun _ => fun
  | [d1, d2, d3, d4, d5, d6] => { results := [.lit (.bool false)], args := [d1, d2, d3, d4, d5, d6] }
  | _ => none }
def PacketApartWrongFalsely : Prop := packetApartRow.holds Try.pinned (OpenSpec.ofChange packetApartWrong)

/-- 'culvertlaw9.PacketPayloads': WHATEVER THE INPUT: true; the input reads as it did. -/
def packetPayloadsSpec : ChangeSpec := { name := "packetPayloads", fn := fun _ => fun
  | [d] => { results := [.lit (.bool true)], args := [d] }
  | _ => none }
def packetPayloadsRow : OpenClaim := { program := "ytdkdbeamimkljaa", sum := "ba6989eb51d767992086b9128b790e15dc2985d0e29a65d9cf2d7378bfa1f73a", func := "culvert/culvertlaw9.PacketPayloads", spec := "packetPayloads", apart := false }
def PacketPayloadsSaid : Prop := packetPayloadsRow.holds Try.pinned (OpenSpec.ofChange packetPayloadsSpec)

/-- ITS FALSE NEIGHBOUR: 'it returns false'. Refute it at one input. -/
def packetPayloadsWrong : ChangeSpec := { name := "packetPayloads", fn := fun _ => fun
  | [d] => { results := [.lit (.bool false)], args := [d] }
  | _ => none }
def PacketPayloadsWrongFalsely : Prop := packetPayloadsRow.holds Try.pinned (OpenSpec.ofChange packetPayloadsWrong)

/-- 'culvertlaw9.PacketCarries': WHATEVER THE INPUT: true; the input reads as it did. -/
def packetCarriesSpec : ChangeSpec := { name := "packetCarries", fn := fun _ => fun
  | [d] => { results := [.lit (.bool true)], args := [d] }
  | _ => none }
def packetCarriesRow : OpenClaim := { program := "ytdkdbeamimkljaa", sum := "ba6989eb51d767992086b9128b790e15dc2985d0e29a65d9cf2d7378bfa1f73a", func := "culvert/culvertlaw9.PacketCarries", spec := "packetCarries", apart := false }
def PacketCarriesSaid : Prop := packetCarriesRow.holds Try.pinned (OpenSpec.ofChange packetCarriesSpec)

/-- ITS FALSE NEIGHBOUR: 'it returns false'. Refute it at one input. -/
def packetCarriesWrong : ChangeSpec := { name := "packetCarries", fn := fun _ => fun
  | [d] => { results := [.lit (.bool false)], args := [d] }
  | _ => none }
def PacketCarriesWrongFalsely : Prop := packetCarriesRow.holds Try.pinned (OpenSpec.ofChange packetCarriesWrong)

/-- 'culvertlaw9.PacketOpens': WHATEVER THE INPUT: true; the input reads as it did. -/
def packetOpensSpec : ChangeSpec := { name := "packetOpens", fn := fun _ => fun
  | [d1, d2, d3] => { results := [.lit (.bool true)], args := [d1, d2, d3] }
  | _ => none }
def packetOpensRow : OpenClaim := { program := "ytdkdbeamimkljaa", sum := "ba6989eb51d767992086b9128b790e15dc2985d0e29a65d9cf2d7378bfa1f73a", func := "culvert/culvertlaw9.PacketOpens", spec := "packetOpens", unfollowed := true, recurses := true, apart := false }
def PacketOpensSaid : Prop := packetOpensRow.holds Try.pinned (OpenSpec.ofChange packetOpensSpec)

/-- ITS FALSE NEIGHBOUR: 'it returns false'. Refute it at one input. -/
def packetOpensWrong : ChangeSpec := { name := "packetOpens", fn := fun _ => fun
  | [d1, d2, d3] => { results := [.lit (.bool false)], args := [d1, d2, d3] }
  | _ => none }
def PacketOpensWrongFalsely : Prop := packetOpensRow.holds Try.pinned (OpenSpec.ofChange packetOpensWrong)

/-- 'culvertlaw9.PacketSeals': WHATEVER THE INPUT: true; the input reads as it did. -/
def packetSealsSpec : ChangeSpec := { name := "packetSeals", fn := fun _ => fun
  | [d1, d2, d3] => { results := [.lit (.bool true)], args := [d1, d2, d3] }
  | _ => none }
def packetSealsRow : OpenClaim := { program := "ytdkdbeamimkljaa", sum := "ba6989eb51d767992086b9128b790e15dc2985d0e29a65d9cf2d7378bfa1f73a", func := "culvert/culvertlaw9.PacketSeals", spec := "packetSeals", unfollowed := true, recurses := true, apart := false }
def PacketSealsSaid : Prop := packetSealsRow.holds Try.pinned (OpenSpec.ofChange packetSealsSpec)

/-- ITS FALSE NEIGHBOUR: 'it returns false'. Refute it at one input. -/
def packetSealsWrong : ChangeSpec := { name := "packetSeals", fn := fun _ => fun
  | [d1, d2, d3] => { results := [.lit (.bool false)], args := [d1, d2, d3] }
  | _ => none }
def PacketSealsWrongFalsely : Prop := packetSealsRow.holds Try.pinned (OpenSpec.ofChange packetSealsWrong)

/-- 'culvertlaw9.PacketBack': WHATEVER THE INPUT: true; the input reads as it did. -/
def packetBackSpec : ChangeSpec := { name := "packetBack", fn := fun _ => fun
  | [d1, d2, d3, d4] => { results := [.lit (.bool true)], args := [d1, d2, d3, d4] }
  | _ => none }
def packetBackRow : OpenClaim := { program := "ytdkdbeamimkljaa", sum := "ba6989eb51d767992086b9128b790e15dc2985d0e29a65d9cf2d7378bfa1f73a", func := "culvert/culvertlaw9.PacketBack", spec := "packetBack", unfollowed := true, recurses := true, apart := false }
def PacketBackSaid : Prop := packetBackRow.holds Try.pinned (OpenSpec.ofChange packetBackSpec)

/-- ITS FALSE NEIGHBOUR: 'it returns false'. Refute it at one input. -/
def packetBackWrong : ChangeSpec := { name := "packetBack", fn := fun _ => fun
  | [d1, d2, d3, d4] => { results := [.lit (.bool false)], args := [d1, d2, d3, d4] }
  | _ => none }
def PacketBackWrongFalsely : Prop := packetBackRow.holds Try.pinned (OpenSpec.ofChange packetBackWrong)

/- THE SECOND FORM. 'bulk': how many values and letters a reading holds, each counted each time it is reached (what is shared counts as often as it is met; a slice's spare places count too). A statement '..UptoSaid' is the law's where the arguments, and the package variables that the reading takes, are together of bulk at most 1048576: NARROWER than '..Said'. Prove '..Said' where nothing that the law and all that it calls make is longer than what came in: it says more and counts as full. Else prove '..UptoSaid'. A law counts once. -/
mutual
def uptoBulk {H : Type} : DataW H → Nat
  | .lit (.string bytes) => bytes.length + 1
  | .lit _ => 1
  | .nil => 1
  | .ptr d => uptoBulk d + 1
  | .slice elems spare => uptoBulkAll elems + uptoBulkAll spare + 1
  | .agg parts => uptoBulkAll parts + 1
  | .iface _ d => uptoBulk d + 1
  | .map entries => uptoBulkEntries entries + 1
  | .held _ => 1
def uptoBulkAll {H : Type} : List (DataW H) → Nat
  | [] => 0
  | d :: r => uptoBulk d + uptoBulkAll r
def uptoBulkEntries {H : Type} : List (Lit × DataW H) → Nat
  | [] => 0
  | x :: r => uptoBulkEntry x + uptoBulkEntries r
def uptoBulkEntry {H : Type} : Lit × DataW H → Nat
  | (.string bytes, d) => bytes.length + uptoBulk d + 1
  | (_, d) => uptoBulk d + 1
 end
def uptoSmall : (H : Type) → List (DataW H) → Bool := fun _ ds => decide (uptoBulkAll ds ≤ 1048576)
def OpenSpec.upto (s : _root_.Go.ChangeSpec) : _root_.Go.OpenSpec := { _root_.Go.OpenSpec.ofChange s with cond := some uptoSmall }

/-- 'culvertlaw9.PacketHeads', WHERE WHAT IT READS IS OF BULK AT MOST 1048576: true; the input reads as it did. -/
def packetHeadsUptoRow : OpenClaim := { program := "ytdkdbeamimkljaa", sum := "ba6989eb51d767992086b9128b790e15dc2985d0e29a65d9cf2d7378bfa1f73a", func := "culvert/culvertlaw9.PacketHeads", spec := "packetHeads", apart := false, narrowed := true }
def PacketHeadsUptoSaid : Prop := packetHeadsUptoRow.holds Try.pinned (OpenSpec.upto packetHeadsSpec)

/-- 'culvertlaw9.PacketReads', WHERE WHAT IT READS IS OF BULK AT MOST 1048576: true; the input reads as it did. -/
def packetReadsUptoRow : OpenClaim := { program := "ytdkdbeamimkljaa", sum := "ba6989eb51d767992086b9128b790e15dc2985d0e29a65d9cf2d7378bfa1f73a", func := "culvert/culvertlaw9.PacketReads", spec := "packetReads", apart := false, narrowed := true }
def PacketReadsUptoSaid : Prop := packetReadsUptoRow.holds Try.pinned (OpenSpec.upto packetReadsSpec)

/-- 'culvertlaw9.PacketApart', WHERE WHAT IT READS IS OF BULK AT MOST 1048576: true; the input reads as it did. -/
def packetApartUptoRow : OpenClaim := { program := "ytdkdbeamimkljaa", sum := "ba6989eb51d767992086b9128b790e15dc2985d0e29a65d9cf2d7378bfa1f73a", func := "culvert/culvertlaw9.PacketApart", spec := "packetApart", apart := false, narrowed := true }
def PacketApartUptoSaid : Prop := packetApartUptoRow.holds Try.pinned (OpenSpec.upto packetApartSpec)

/-- 'culvertlaw9.PacketPayloads', WHERE WHAT IT READS IS OF BULK AT MOST 1048576: true; the input reads as it did. -/
def packetPayloadsUptoRow : OpenClaim := { program := "ytdkdbeamimkljaa", sum := "ba6989eb51d767992086b9128b790e15dc2985d0e29a65d9cf2d7378bfa1f73a", func := "culvert/culvertlaw9.PacketPayloads", spec := "packetPayloads", apart := false, narrowed := true }
def PacketPayloadsUptoSaid : Prop := packetPayloadsUptoRow.holds Try.pinned (OpenSpec.upto packetPayloadsSpec)

/-- 'culvertlaw9.PacketCarries', WHERE WHAT IT READS IS OF BULK AT MOST 1048576: true; the input reads as it did. -/
def packetCarriesUptoRow : OpenClaim := { program := "ytdkdbeamimkljaa", sum := "ba6989eb51d767992086b9128b790e15dc2985d0e29a65d9cf2d7378bfa1f73a", func := "culvert/culvertlaw9.PacketCarries", spec := "packetCarries", apart := false, narrowed := true }
def PacketCarriesUptoSaid : Prop := packetCarriesUptoRow.holds Try.pinned (OpenSpec.upto packetCarriesSpec)

/-- 'culvertlaw9.PacketOpens', WHERE WHAT IT READS IS OF BULK AT MOST 1048576: true; the input reads as it did. -/
def packetOpensUptoRow : OpenClaim := { program := "ytdkdbeamimkljaa", sum := "ba6989eb51d767992086b9128b790e15dc2985d0e29a65d9cf2d7378bfa1f73a", func := "culvert/culvertlaw9.PacketOpens", spec := "packetOpens", unfollowed := true, recurses := true, apart := false, narrowed := true }
def PacketOpensUptoSaid : Prop := packetOpensUptoRow.holds Try.pinned (OpenSpec.upto packetOpensSpec)

/-- 'culvertlaw9.PacketSeals', WHERE WHAT IT READS IS OF BULK AT MOST 1048576: true; the input reads as it did. -/
def packetSealsUptoRow : OpenClaim := { program := "ytdkdbeamimkljaa", sum := "ba6989eb51d767992086b9128b790e15dc2985d0e29a65d9cf2d7378bfa1f73a", func := "culvert/culvertlaw9.PacketSeals", spec := "packetSeals", unfollowed := true, recurses := true, apart := false, narrowed := true }
def PacketSealsUptoSaid : Prop := packetSealsUptoRow.holds Try.pinned (OpenSpec.upto packetSealsSpec)

/-- 'culvertlaw9.PacketBack', WHERE WHAT IT READS IS OF BULK AT MOST 1048576: true; the input reads as it did. -/
def packetBackUptoRow : OpenClaim := { program := "ytdkdbeamimkljaa", sum := "ba6989eb51d767992086b9128b790e15dc2985d0e29a65d9cf2d7378bfa1f73a", func := "culvert/culvertlaw9.PacketBack", spec := "packetBack", unfollowed := true, recurses := true, apart := false, narrowed := true }
def PacketBackUptoSaid : Prop := packetBackUptoRow.holds Try.pinned (OpenSpec.upto packetBackSpec)

end Rows
end Go.Proofs.Ytdkdbeamimkljaa
