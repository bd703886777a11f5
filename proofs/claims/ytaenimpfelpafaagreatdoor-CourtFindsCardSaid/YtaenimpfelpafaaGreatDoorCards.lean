/-
  DERIVED. GIVEN WITH THE SEED: THE CARDS: each row of YtaenimpfelpafaaGreatDoorRows.lean that lists a variable, with what it lists TIED to the program's text (the seventh form; the later family's looks); each row that meets fmt, with fmt's text TOLD by the authors' own Lean function (tested against real Go, not proved from fmt's source: count such statements apart). THE CARD IS WHAT COUNTS. Prove the row's statement (the work); the ties are given (YtaenimpfelpafaaGreatDoorTie.lean); close each card by the builder's one call (the guide's Derived/Test/ToyasCard.lean, 'card_holds'). Laid BY PROGRAM, IN A SANDBOX (cutbox-door.mjs). By AI agents, Wed Nov 11 2026. No macro, syntax, notation, axiom, sorry.
-/
import Derived.Test.YtaenimpfelpafaaGreatDoorRows
import GoSem.ClaimSeven
namespace Go.Proofs.YtaenimpfelpafaaGreatDoor
namespace Rows

/-- THE TIED CARD OF 'treasurylaw45.CourtClean'. -/
def courtCleanCard : Claim7 := { stood := { row := courtCleanRow, standIns := [], harness := (true, "a37a262c5193767e37fd143b5420fb25ca38eb4c9229308aa73e511ed78c8a96"), looks := true }, kinds := [], alts := [], laidByText := true, laidKinds := [.data, .data, .data, .data, .sentinel, .sentinel, .pinned], laidTests := true, laidLooks := .later }
def CourtCleanCardSaid : Prop := Claim7.holds Tryz.pinned (.plain (OpenSpec.ofChange courtCleanSpec)) courtCleanCard

/-- THE TIED CARD OF 'treasurylaw45.CourtSums'. -/
def courtSumsCard : Claim7 := { stood := { row := courtSumsRow, standIns := [], harness := (true, "a37a262c5193767e37fd143b5420fb25ca38eb4c9229308aa73e511ed78c8a96"), looks := true }, kinds := [], alts := [], laidByText := true, laidKinds := [.data, .data, .data, .data, .sentinel, .sentinel, .pinned], laidTests := true, laidLooks := .later }
def CourtSumsCardSaid : Prop := Claim7.holds Tryz.pinned (.plain (OpenSpec.ofChange courtSumsSpec)) courtSumsCard

/-- THE TIED CARD OF 'treasurylaw45.CourtFinds'. -/
def courtFindsCard : Claim7 := { stood := { row := courtFindsRow, standIns := [], harness := (true, "a37a262c5193767e37fd143b5420fb25ca38eb4c9229308aa73e511ed78c8a96"), looks := true }, kinds := [], alts := [], laidByText := true, laidKinds := [.data, .data, .data, .data, .sentinel, .sentinel, .pinned], laidTests := true, laidLooks := .later }
def CourtFindsCardSaid : Prop := Claim7.holds Tryz.pinned (.plain (OpenSpec.ofChange courtFindsSpec)) courtFindsCard

/-- THE TIED CARD OF 'treasurylaw45.CourtPays'. -/
def courtPaysCard : Claim7 := { stood := { row := courtPaysRow, standIns := [], harness := (true, "a37a262c5193767e37fd143b5420fb25ca38eb4c9229308aa73e511ed78c8a96"), looks := true }, kinds := [], alts := [], laidByText := true, laidKinds := [.data, .data, .data, .data, .sentinel, .sentinel, .pinned], laidTests := true, laidLooks := .later }
def CourtPaysCardSaid : Prop := Claim7.holds Tryz.pinned (.plain (OpenSpec.ofChange courtPaysSpec)) courtPaysCard

/-- THE SECOND FORM's CARD OF 'treasurylaw45.CourtClean'. -/
def courtCleanUptoCard : Claim7 := { stood := { row := courtCleanUptoRow, standIns := [], harness := (true, "a37a262c5193767e37fd143b5420fb25ca38eb4c9229308aa73e511ed78c8a96"), looks := true }, kinds := [], alts := [], laidByText := true, laidKinds := [.data, .data, .data, .data, .sentinel, .sentinel, .pinned], laidTests := true, laidLooks := .later }
def CourtCleanUptoCardSaid : Prop := Claim7.holds Tryz.pinned (.plain (OpenSpec.upto courtCleanSpec)) courtCleanUptoCard

/-- THE SECOND FORM's CARD OF 'treasurylaw45.CourtSums'. -/
def courtSumsUptoCard : Claim7 := { stood := { row := courtSumsUptoRow, standIns := [], harness := (true, "a37a262c5193767e37fd143b5420fb25ca38eb4c9229308aa73e511ed78c8a96"), looks := true }, kinds := [], alts := [], laidByText := true, laidKinds := [.data, .data, .data, .data, .sentinel, .sentinel, .pinned], laidTests := true, laidLooks := .later }
def CourtSumsUptoCardSaid : Prop := Claim7.holds Tryz.pinned (.plain (OpenSpec.upto courtSumsSpec)) courtSumsUptoCard

/-- THE SECOND FORM's CARD OF 'treasurylaw45.CourtFinds'. -/
def courtFindsUptoCard : Claim7 := { stood := { row := courtFindsUptoRow, standIns := [], harness := (true, "a37a262c5193767e37fd143b5420fb25ca38eb4c9229308aa73e511ed78c8a96"), looks := true }, kinds := [], alts := [], laidByText := true, laidKinds := [.data, .data, .data, .data, .sentinel, .sentinel, .pinned], laidTests := true, laidLooks := .later }
def CourtFindsUptoCardSaid : Prop := Claim7.holds Tryz.pinned (.plain (OpenSpec.upto courtFindsSpec)) courtFindsUptoCard

/-- THE SECOND FORM's CARD OF 'treasurylaw45.CourtPays'. -/
def courtPaysUptoCard : Claim7 := { stood := { row := courtPaysUptoRow, standIns := [], harness := (true, "a37a262c5193767e37fd143b5420fb25ca38eb4c9229308aa73e511ed78c8a96"), looks := true }, kinds := [], alts := [], laidByText := true, laidKinds := [.data, .data, .data, .data, .sentinel, .sentinel, .pinned], laidTests := true, laidLooks := .later }
def CourtPaysUptoCardSaid : Prop := Claim7.holds Tryz.pinned (.plain (OpenSpec.upto courtPaysSpec)) courtPaysUptoCard
end Rows
end Go.Proofs.YtaenimpfelpafaaGreatDoor
