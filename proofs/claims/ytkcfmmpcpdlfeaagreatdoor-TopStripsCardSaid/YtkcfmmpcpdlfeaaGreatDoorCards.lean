/-
  DERIVED. GIVEN WITH THE SEED: THE CARDS: each row of YtkcfmmpcpdlfeaaGreatDoorRows.lean that lists a variable, with what it lists TIED to the program's text (the seventh form; the later family's looks); each row that meets fmt, with fmt's text TOLD by the authors' own Lean function (tested against real Go, not proved from fmt's source: count such statements apart). THE CARD IS WHAT COUNTS. Prove the row's statement (the work); the ties are given (YtkcfmmpcpdlfeaaGreatDoorTie.lean); close each card by the builder's one call (the guide's Derived/Test/ToyasCard.lean, 'card_holds'). Laid BY PROGRAM, IN A SANDBOX (cutbox-door.mjs). By AI agents, Wed Nov 11 2026. No macro, syntax, notation, axiom, sorry.
-/
import Derived.Test.YtkcfmmpcpdlfeaaGreatDoorRows
import GoSem.ClaimSeven
namespace Go.Proofs.YtkcfmmpcpdlfeaaGreatDoor
namespace Rows

/-- THE TIED CARD OF 'treasurytop.TopStrips'. -/
def topStripsCard : Claim7 := { stood := { row := topStripsRow, standIns := [], harness := (true, "6bd74452e6ea4091fbc9ade0f2d3cfa05f854cba6ef75e9e2e652ef8a135c1ae"), looks := true }, kinds := [], alts := [], laidByText := true, laidKinds := [.data, .data, .data, .data, .sentinel, .sentinel, .pinned], laidTests := true, laidLooks := .later }
def TopStripsCardSaid : Prop := Claim7.holds Tryz.pinned (.plain (OpenSpec.ofChange topStripsSpec)) topStripsCard

/-- THE SECOND FORM's CARD OF 'treasurytop.TopStrips'. -/
def topStripsUptoCard : Claim7 := { stood := { row := topStripsUptoRow, standIns := [], harness := (true, "6bd74452e6ea4091fbc9ade0f2d3cfa05f854cba6ef75e9e2e652ef8a135c1ae"), looks := true }, kinds := [], alts := [], laidByText := true, laidKinds := [.data, .data, .data, .data, .sentinel, .sentinel, .pinned], laidTests := true, laidLooks := .later }
def TopStripsUptoCardSaid : Prop := Claim7.holds Tryz.pinned (.plain (OpenSpec.upto topStripsSpec)) topStripsUptoCard
end Rows
end Go.Proofs.YtkcfmmpcpdlfeaaGreatDoor
