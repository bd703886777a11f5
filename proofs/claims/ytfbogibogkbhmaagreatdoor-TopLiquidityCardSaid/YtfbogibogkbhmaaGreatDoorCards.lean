/-
  DERIVED. GIVEN WITH THE SEED: THE CARDS: each row of YtfbogibogkbhmaaGreatDoorRows.lean that lists a variable, with what it lists TIED to the program's text (the seventh form; the later family's looks); each row that meets fmt, with fmt's text TOLD by the authors' own Lean function (tested against real Go, not proved from fmt's source: count such statements apart). THE CARD IS WHAT COUNTS. Prove the row's statement (the work); the ties are given (YtfbogibogkbhmaaGreatDoorTie.lean); close each card by the builder's one call (the guide's Derived/Test/ToyasCard.lean, 'card_holds'). Laid BY PROGRAM, IN A SANDBOX (cutbox-door.mjs). By AI agents, Wed Nov 11 2026. No macro, syntax, notation, axiom, sorry.
-/
import Derived.Test.YtfbogibogkbhmaaGreatDoorRows
import GoSem.ClaimSeven
namespace Go.Proofs.YtfbogibogkbhmaaGreatDoor
namespace Rows

/-- THE TIED CARD OF 'treasurytop.TopLiquidity'. -/
def topLiquidityCard : Claim7 := { stood := { row := topLiquidityRow, standIns := [], harness := (true, "9a87fca92bf4e6161247d61b318d514b4b2840d5bc5bdc0b8f1d3e8947dadae3"), looks := true }, kinds := [], alts := [], laidByText := true, laidKinds := [.data, .data, .data, .data, .sentinel, .sentinel, .pinned], laidTests := true, laidLooks := .later }
def TopLiquidityCardSaid : Prop := Claim7.holds Tryz.pinned (.plain (OpenSpec.ofChange topLiquiditySpec)) topLiquidityCard

/-- THE SECOND FORM's CARD OF 'treasurytop.TopLiquidity'. -/
def topLiquidityUptoCard : Claim7 := { stood := { row := topLiquidityUptoRow, standIns := [], harness := (true, "9a87fca92bf4e6161247d61b318d514b4b2840d5bc5bdc0b8f1d3e8947dadae3"), looks := true }, kinds := [], alts := [], laidByText := true, laidKinds := [.data, .data, .data, .data, .sentinel, .sentinel, .pinned], laidTests := true, laidLooks := .later }
def TopLiquidityUptoCardSaid : Prop := Claim7.holds Tryz.pinned (.plain (OpenSpec.upto topLiquiditySpec)) topLiquidityUptoCard
end Rows
end Go.Proofs.YtfbogibogkbhmaaGreatDoor
