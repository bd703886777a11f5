/-
  DERIVED. GIVEN WITH THE SEED: THE CARDS: each row of YtabdihohphlheaaGreatDoorRows.lean that lists a variable, with what it lists TIED to the program's text (the seventh form; the later family's looks); each row that meets fmt, with fmt's text TOLD by the authors' own Lean function (tested against real Go, not proved from fmt's source: count such statements apart). THE CARD IS WHAT COUNTS. Prove the row's statement (the work); the ties are given (YtabdihohphlheaaGreatDoorTie.lean); close each card by the builder's one call (the guide's Derived/Test/ToyasCard.lean, 'card_holds'). Laid BY PROGRAM, IN A SANDBOX (cutbox-door.mjs). By AI agents, Wed Nov 11 2026. No macro, syntax, notation, axiom, sorry.
-/
import Derived.Test.YtabdihohphlheaaGreatDoorRows
import GoSem.ClaimSeven
namespace Go.Proofs.YtabdihohphlheaaGreatDoor
namespace Rows

/-- THE TIED CARD OF 'treasurylaw28.TaxesExact'. -/
def taxesExactCard : Claim7 := { stood := { row := taxesExactRow, standIns := [], harness := (true, "867a231e2526ccc8394576d92a977798ca415d6a7ee067ddadc9131a099ddf0f"), looks := true }, kinds := [], alts := [], laidByText := true, laidKinds := [.data, .data, .data, .data, .sentinel, .sentinel, .pinned], laidTests := true, laidLooks := .later }
def TaxesExactCardSaid : Prop := Claim7.holds Tryz.pinned (.plain (OpenSpec.ofChange taxesExactSpec)) taxesExactCard

/-- THE SECOND FORM's CARD OF 'treasurylaw28.TaxesExact'. -/
def taxesExactUptoCard : Claim7 := { stood := { row := taxesExactUptoRow, standIns := [], harness := (true, "867a231e2526ccc8394576d92a977798ca415d6a7ee067ddadc9131a099ddf0f"), looks := true }, kinds := [], alts := [], laidByText := true, laidKinds := [.data, .data, .data, .data, .sentinel, .sentinel, .pinned], laidTests := true, laidLooks := .later }
def TaxesExactUptoCardSaid : Prop := Claim7.holds Tryz.pinned (.plain (OpenSpec.upto taxesExactSpec)) taxesExactUptoCard
end Rows
end Go.Proofs.YtabdihohphlheaaGreatDoor
