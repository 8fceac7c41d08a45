/-
  DERIVED. GIVEN WITH THE SEED: THE CARDS: each row of YtdkdbeamimkljaaGreatDoorRows.lean that lists a variable, with what it lists TIED to the program's text (the seventh form; the later family's looks); each row that meets fmt, with fmt's text TOLD by the authors' own Lean function (tested against real Go, not proved from fmt's source: count such statements apart). THE CARD IS WHAT COUNTS. Prove the row's statement (the work); the ties are given (YtdkdbeamimkljaaGreatDoorTie.lean); close each card by the builder's one call (the guide's Derived/Test/ToyasCard.lean, 'card_holds'). Laid BY PROGRAM, IN A SANDBOX (cutbox-door.mjs). By AI agents, Wed Nov 11 2026. No macro, syntax, notation, axiom, sorry.
-/
import Derived.Test.YtdkdbeamimkljaaGreatDoorRows
import GoSem.ClaimSeven
namespace Go.Proofs.YtdkdbeamimkljaaGreatDoor
namespace Rows

/-- THE TIED CARD OF 'culvertlaw9.PacketOwn'. -/
def packetOwnCard : Claim7 := { stood := { row := packetOwnRow, standIns := [], harness := (true, "0f4269362ffe41594f3310302556e74d109c094a42ee81697ee3aaa00e18c636"), looks := false }, kinds := [], alts := [], laidByText := true, laidKinds := [.data, .data, .data], laidTests := true, laidLooks := .later }
def PacketOwnCardSaid : Prop := Claim7.holds Tryz.pinned (.plain (OpenSpec.ofChange packetOwnSpec)) packetOwnCard

/-- THE SECOND FORM's CARD OF 'culvertlaw9.PacketOwn'. -/
def packetOwnUptoCard : Claim7 := { stood := { row := packetOwnUptoRow, standIns := [], harness := (true, "0f4269362ffe41594f3310302556e74d109c094a42ee81697ee3aaa00e18c636"), looks := false }, kinds := [], alts := [], laidByText := true, laidKinds := [.data, .data, .data], laidTests := true, laidLooks := .later }
def PacketOwnUptoCardSaid : Prop := Claim7.holds Tryz.pinned (.plain (OpenSpec.upto packetOwnSpec)) packetOwnUptoCard
end Rows
end Go.Proofs.YtdkdbeamimkljaaGreatDoor
