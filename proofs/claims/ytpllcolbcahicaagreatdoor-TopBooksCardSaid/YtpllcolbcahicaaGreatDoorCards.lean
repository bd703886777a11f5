/-
  DERIVED. GIVEN WITH THE SEED: THE CARDS: each row of YtpllcolbcahicaaGreatDoorRows.lean that lists a variable, with what it lists TIED to the program's text (the seventh form; the later family's looks); each row that meets fmt, with fmt's text TOLD by the authors' own Lean function (tested against real Go, not proved from fmt's source: count such statements apart). THE CARD IS WHAT COUNTS. Prove the row's statement (the work); the ties are given (YtpllcolbcahicaaGreatDoorTie.lean); close each card by the builder's one call (the guide's Derived/Test/ToyasCard.lean, 'card_holds'). Laid BY PROGRAM, IN A SANDBOX (cutbox-door.mjs). By AI agents, Wed Nov 11 2026. No macro, syntax, notation, axiom, sorry.
-/
import Derived.Test.YtpllcolbcahicaaGreatDoorRows
import GoSem.ClaimSeven
namespace Go.Proofs.YtpllcolbcahicaaGreatDoor
namespace Rows

/-- THE TIED CARD OF 'treasurytop.TopBooks'. -/
def topBooksCard : Claim7 := { stood := { row := topBooksRow, standIns := [], harness := (true, "6562e8db664477da637587a044f4ca6c29fc6c3fc39ad4be3eef01d160a5aac3"), looks := true }, kinds := [], alts := [], laidByText := true, laidKinds := [.data, .data, .data, .data, .sentinel, .sentinel, .pinned], laidTests := true, laidLooks := .later }
def TopBooksCardSaid : Prop := Claim7.holds Tryz.pinned (.plain (OpenSpec.ofChange topBooksSpec)) topBooksCard

/-- THE SECOND FORM's CARD OF 'treasurytop.TopBooks'. -/
def topBooksUptoCard : Claim7 := { stood := { row := topBooksUptoRow, standIns := [], harness := (true, "6562e8db664477da637587a044f4ca6c29fc6c3fc39ad4be3eef01d160a5aac3"), looks := true }, kinds := [], alts := [], laidByText := true, laidKinds := [.data, .data, .data, .data, .sentinel, .sentinel, .pinned], laidTests := true, laidLooks := .later }
def TopBooksUptoCardSaid : Prop := Claim7.holds Tryz.pinned (.plain (OpenSpec.upto topBooksSpec)) topBooksUptoCard
end Rows
end Go.Proofs.YtpllcolbcahicaaGreatDoor
