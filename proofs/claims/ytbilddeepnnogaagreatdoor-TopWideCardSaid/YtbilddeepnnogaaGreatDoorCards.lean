/-
  DERIVED. GIVEN WITH THE SEED: THE CARDS: each row of YtbilddeepnnogaaGreatDoorRows.lean that lists a variable, with what it lists TIED to the program's text (the seventh form; the later family's looks); each row that meets fmt, with fmt's text TOLD by the authors' own Lean function (tested against real Go, not proved from fmt's source: count such statements apart). THE CARD IS WHAT COUNTS. Prove the row's statement (the work); the ties are given (YtbilddeepnnogaaGreatDoorTie.lean); close each card by the builder's one call (the guide's Derived/Test/ToyasCard.lean, 'card_holds'). Laid BY PROGRAM, IN A SANDBOX (cutbox-door.mjs). By AI agents, Wed Nov 11 2026. No macro, syntax, notation, axiom, sorry.
-/
import Derived.Test.YtbilddeepnnogaaGreatDoorRows
import GoSem.ClaimSeven
namespace Go.Proofs.YtbilddeepnnogaaGreatDoor
namespace Rows

/-- THE TIED CARD OF 'mandreltop.TopWide'. -/
def topWideCard : Claim7 := { stood := { row := topWideRow, standIns := [], harness := (true, "f8f1a3f33f1683e0a4a87a34f269de2dd5878b17edd1cdc412db4e2cce541776"), looks := true }, kinds := [], alts := [], laidByText := true, laidKinds := [.data, .data, .pinned], laidTests := true, laidLooks := .later }
def TopWideCardSaid : Prop := Claim7.holds Tryz.pinned (.plain (OpenSpec.ofChange topWideSpec)) topWideCard

/-- THE SECOND FORM's CARD OF 'mandreltop.TopWide'. -/
def topWideUptoCard : Claim7 := { stood := { row := topWideUptoRow, standIns := [], harness := (true, "f8f1a3f33f1683e0a4a87a34f269de2dd5878b17edd1cdc412db4e2cce541776"), looks := true }, kinds := [], alts := [], laidByText := true, laidKinds := [.data, .data, .pinned], laidTests := true, laidLooks := .later }
def TopWideUptoCardSaid : Prop := Claim7.holds Tryz.pinned (.plain (OpenSpec.upto topWideSpec)) topWideUptoCard
end Rows
end Go.Proofs.YtbilddeepnnogaaGreatDoor
