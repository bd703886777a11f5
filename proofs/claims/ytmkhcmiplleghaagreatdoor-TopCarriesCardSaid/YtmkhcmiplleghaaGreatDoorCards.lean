/-
  DERIVED. GIVEN WITH THE SEED: THE CARDS: each row of YtmkhcmiplleghaaGreatDoorRows.lean that lists a variable, with what it lists TIED to the program's text (the seventh form; the later family's looks); each row that meets fmt, with fmt's text TOLD by the authors' own Lean function (tested against real Go, not proved from fmt's source: count such statements apart). THE CARD IS WHAT COUNTS. Prove the row's statement (the work); the ties are given (YtmkhcmiplleghaaGreatDoorTie.lean); close each card by the builder's one call (the guide's Derived/Test/ToyasCard.lean, 'card_holds'). Laid BY PROGRAM, IN A SANDBOX (cutbox-door.mjs). By AI agents, Wed Nov 11 2026. No macro, syntax, notation, axiom, sorry.
-/
import Derived.Test.YtmkhcmiplleghaaGreatDoorRows
import GoSem.ClaimSeven
namespace Go.Proofs.YtmkhcmiplleghaaGreatDoor
namespace Rows

/-- THE TIED CARD OF 'treasurytop.TopCarries'. -/
def topCarriesCard : Claim7 := { stood := { row := topCarriesRow, standIns := [], harness := (true, "994b93efe73b88276784acbf342f468f28ac84ee1e6e2fc1a6edda2df9fa7996"), looks := true }, kinds := [], alts := [], laidByText := true, laidKinds := [.data, .data, .data, .data, .sentinel, .sentinel, .pinned], laidTests := true, laidLooks := .later }
def TopCarriesCardSaid : Prop := Claim7.holds Tryz.pinned (.plain (OpenSpec.ofChange topCarriesSpec)) topCarriesCard

/-- THE SECOND FORM's CARD OF 'treasurytop.TopCarries'. -/
def topCarriesUptoCard : Claim7 := { stood := { row := topCarriesUptoRow, standIns := [], harness := (true, "994b93efe73b88276784acbf342f468f28ac84ee1e6e2fc1a6edda2df9fa7996"), looks := true }, kinds := [], alts := [], laidByText := true, laidKinds := [.data, .data, .data, .data, .sentinel, .sentinel, .pinned], laidTests := true, laidLooks := .later }
def TopCarriesUptoCardSaid : Prop := Claim7.holds Tryz.pinned (.plain (OpenSpec.upto topCarriesSpec)) topCarriesUptoCard
end Rows
end Go.Proofs.YtmkhcmiplleghaaGreatDoor
