/-
  DERIVED. GIVEN WITH THE SEED: THE CARDS: each row of YtbiolfeincepoaaGreatDoorRows.lean that lists a variable, with what it lists TIED to the program's text (the seventh form; the later family's looks); each row that meets fmt, with fmt's text TOLD by the authors' own Lean function (tested against real Go, not proved from fmt's source: count such statements apart). THE CARD IS WHAT COUNTS. Prove the row's statement (the work); the ties are given (YtbiolfeincepoaaGreatDoorTie.lean); close each card by the builder's one call (the guide's Derived/Test/ToyasCard.lean, 'card_holds'). Laid BY PROGRAM, IN A SANDBOX (cutbox-door.mjs). By AI agents, Wed Nov 11 2026. No macro, syntax, notation, axiom, sorry.
-/
import Derived.Test.YtbiolfeincepoaaGreatDoorRows
import GoSem.ClaimSeven
namespace Go.Proofs.YtbiolfeincepoaaGreatDoor
namespace Rows

/-- THE TIED CARD OF 'culvertlaw5.GcmOwn'. -/
def gcmOwnCard : Claim7 := { stood := { row := gcmOwnRow, standIns := [], harness := (true, "40630334ac21f1962fdef44579a1d999494224c1ab685449ee435f3b11460037"), looks := false }, kinds := [], alts := [], laidByText := true, laidKinds := [.data, .data, .data], laidTests := true, laidLooks := .later }
def GcmOwnCardSaid : Prop := Claim7.holds Tryz.pinned (.plain (OpenSpec.ofChange gcmOwnSpec)) gcmOwnCard

/-- THE SECOND FORM's CARD OF 'culvertlaw5.GcmOwn'. -/
def gcmOwnUptoCard : Claim7 := { stood := { row := gcmOwnUptoRow, standIns := [], harness := (true, "40630334ac21f1962fdef44579a1d999494224c1ab685449ee435f3b11460037"), looks := false }, kinds := [], alts := [], laidByText := true, laidKinds := [.data, .data, .data], laidTests := true, laidLooks := .later }
def GcmOwnUptoCardSaid : Prop := Claim7.holds Tryz.pinned (.plain (OpenSpec.upto gcmOwnSpec)) gcmOwnUptoCard
end Rows
end Go.Proofs.YtbiolfeincepoaaGreatDoor
