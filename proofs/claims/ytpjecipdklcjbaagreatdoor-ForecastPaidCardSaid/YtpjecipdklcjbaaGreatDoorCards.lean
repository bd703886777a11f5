/-
  DERIVED. GIVEN WITH THE SEED: THE CARDS: each row of YtpjecipdklcjbaaGreatDoorRows.lean that lists a variable, with what it lists TIED to the program's text (the seventh form; the later family's looks); each row that meets fmt, with fmt's text TOLD by the authors' own Lean function (tested against real Go, not proved from fmt's source: count such statements apart). THE CARD IS WHAT COUNTS. Prove the row's statement (the work); the ties are given (YtpjecipdklcjbaaGreatDoorTie.lean); close each card by the builder's one call (the guide's Derived/Test/ToyasCard.lean, 'card_holds'). Laid BY PROGRAM, IN A SANDBOX (cutbox-door.mjs). By AI agents, Wed Nov 11 2026. No macro, syntax, notation, axiom, sorry.
-/
import Derived.Test.YtpjecipdklcjbaaGreatDoorRows
import GoSem.ClaimSeven
namespace Go.Proofs.YtpjecipdklcjbaaGreatDoor
namespace Rows

/-- THE TIED CARD OF 'treasurylaw29.ForecastPaid'. -/
def forecastPaidCard : Claim7 := { stood := { row := forecastPaidRow, standIns := [], harness := (true, "67233acd68021ca93eb93d05a227de8621ec86954ec4031ae4e23cf2742883a9"), looks := true }, kinds := [], alts := [], laidByText := true, laidKinds := [.data, .data, .data, .data, .sentinel, .sentinel, .pinned], laidTests := true, laidLooks := .later }
def ForecastPaidCardSaid : Prop := Claim7.holds Tryz.pinned (.plain (OpenSpec.ofChange forecastPaidSpec)) forecastPaidCard

/-- THE TIED CARD OF 'treasurylaw29.ForecastExact'. -/
def forecastExactCard : Claim7 := { stood := { row := forecastExactRow, standIns := [], harness := (true, "67233acd68021ca93eb93d05a227de8621ec86954ec4031ae4e23cf2742883a9"), looks := true }, kinds := [], alts := [], laidByText := true, laidKinds := [.data, .data, .data, .data, .sentinel, .sentinel, .pinned], laidTests := true, laidLooks := .later }
def ForecastExactCardSaid : Prop := Claim7.holds Tryz.pinned (.plain (OpenSpec.ofChange forecastExactSpec)) forecastExactCard

/-- THE SECOND FORM's CARD OF 'treasurylaw29.ForecastPaid'. -/
def forecastPaidUptoCard : Claim7 := { stood := { row := forecastPaidUptoRow, standIns := [], harness := (true, "67233acd68021ca93eb93d05a227de8621ec86954ec4031ae4e23cf2742883a9"), looks := true }, kinds := [], alts := [], laidByText := true, laidKinds := [.data, .data, .data, .data, .sentinel, .sentinel, .pinned], laidTests := true, laidLooks := .later }
def ForecastPaidUptoCardSaid : Prop := Claim7.holds Tryz.pinned (.plain (OpenSpec.upto forecastPaidSpec)) forecastPaidUptoCard

/-- THE SECOND FORM's CARD OF 'treasurylaw29.ForecastExact'. -/
def forecastExactUptoCard : Claim7 := { stood := { row := forecastExactUptoRow, standIns := [], harness := (true, "67233acd68021ca93eb93d05a227de8621ec86954ec4031ae4e23cf2742883a9"), looks := true }, kinds := [], alts := [], laidByText := true, laidKinds := [.data, .data, .data, .data, .sentinel, .sentinel, .pinned], laidTests := true, laidLooks := .later }
def ForecastExactUptoCardSaid : Prop := Claim7.holds Tryz.pinned (.plain (OpenSpec.upto forecastExactSpec)) forecastExactUptoCard
end Rows
end Go.Proofs.YtpjecipdklcjbaaGreatDoor
