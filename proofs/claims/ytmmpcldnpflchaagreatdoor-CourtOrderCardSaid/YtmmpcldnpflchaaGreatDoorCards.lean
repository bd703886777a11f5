/-
  DERIVED. GIVEN WITH THE SEED: THE CARDS: each row of YtmmpcldnpflchaaGreatDoorRows.lean that lists a variable, with what it lists TIED to the program's text (the seventh form; the later family's looks); each row that meets fmt, with fmt's text TOLD by the authors' own Lean function (tested against real Go, not proved from fmt's source: count such statements apart). THE CARD IS WHAT COUNTS. Prove the row's statement (the work); the ties are given (YtmmpcldnpflchaaGreatDoorTie.lean); close each card by the builder's one call (the guide's Derived/Test/ToyasCard.lean, 'card_holds'). Laid BY PROGRAM, IN A SANDBOX (cutbox-door.mjs). By AI agents, Wed Nov 11 2026. No macro, syntax, notation, axiom, sorry.
-/
import Derived.Test.YtmmpcldnpflchaaGreatDoorRows
import GoSem.ClaimSeven
namespace Go.Proofs.YtmmpcldnpflchaaGreatDoor
namespace Rows

/-- THE TIED CARD OF 'treasurylaw45.CourtOrder'. -/
def courtOrderCard : Claim7 := { stood := { row := courtOrderRow, standIns := [], harness := (true, "b33ef44007a686610fe11b8094ccf50b5668d0daa8ac8ac21a553c7e8b2369f5"), looks := true }, kinds := [], alts := [], laidByText := true, laidKinds := [.data, .data, .data, .data, .sentinel, .sentinel, .pinned], laidTests := true, laidLooks := .later }
def CourtOrderCardSaid : Prop := Claim7.holds Tryz.pinned (.plain (OpenSpec.ofChange courtOrderSpec)) courtOrderCard

/-- THE SECOND FORM's CARD OF 'treasurylaw45.CourtOrder'. -/
def courtOrderUptoCard : Claim7 := { stood := { row := courtOrderUptoRow, standIns := [], harness := (true, "b33ef44007a686610fe11b8094ccf50b5668d0daa8ac8ac21a553c7e8b2369f5"), looks := true }, kinds := [], alts := [], laidByText := true, laidKinds := [.data, .data, .data, .data, .sentinel, .sentinel, .pinned], laidTests := true, laidLooks := .later }
def CourtOrderUptoCardSaid : Prop := Claim7.holds Tryz.pinned (.plain (OpenSpec.upto courtOrderSpec)) courtOrderUptoCard
end Rows
end Go.Proofs.YtmmpcldnpflchaaGreatDoor
