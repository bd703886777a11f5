/-
  DERIVED. GIVEN WITH THE SEED: THE CARDS: each row of YtgapbmaehfdkoaaGreatDoorRows.lean that lists a variable, with what it lists TIED to the program's text (the seventh form; the later family's looks); each row that meets fmt, with fmt's text TOLD by the authors' own Lean function (tested against real Go, not proved from fmt's source: count such statements apart). THE CARD IS WHAT COUNTS. Prove the row's statement (the work); the ties are given (YtgapbmaehfdkoaaGreatDoorTie.lean); close each card by the builder's one call (the guide's Derived/Test/ToyasCard.lean, 'card_holds'). Laid BY PROGRAM, IN A SANDBOX (cutbox-door.mjs). By AI agents, Wed Nov 11 2026. No macro, syntax, notation, axiom, sorry.
-/
import Derived.Test.YtgapbmaehfdkoaaGreatDoorRows
import GoSem.ClaimSeven
namespace Go.Proofs.YtgapbmaehfdkoaaGreatDoor
namespace Rows

/-- THE TIED CARD OF 'treasurylaw27.ReceiptFirst'. -/
def receiptFirstCard : Claim7 := { stood := { row := receiptFirstRow, standIns := [], harness := (true, "7afcd656e792a77c7f10aef469fb3f2eecbae9edf8b0608d35e6c37e034c4cbd"), looks := true }, kinds := [], alts := [], laidByText := true, laidKinds := [.data, .data, .data, .data, .sentinel, .sentinel, .pinned], laidTests := true, laidLooks := .later }
def ReceiptFirstCardSaid : Prop := Claim7.holds Tryz.pinned (.plain (OpenSpec.ofChange receiptFirstSpec)) receiptFirstCard

/-- THE TIED CARD OF 'treasurylaw27.ReceiptSums'. -/
def receiptSumsCard : Claim7 := { stood := { row := receiptSumsRow, standIns := [], harness := (true, "7afcd656e792a77c7f10aef469fb3f2eecbae9edf8b0608d35e6c37e034c4cbd"), looks := true }, kinds := [], alts := [], laidByText := true, laidKinds := [.data, .data, .data, .data, .sentinel, .sentinel, .pinned], laidTests := true, laidLooks := .later }
def ReceiptSumsCardSaid : Prop := Claim7.holds Tryz.pinned (.plain (OpenSpec.ofChange receiptSumsSpec)) receiptSumsCard

/-- THE TIED CARD OF 'treasurylaw27.ReceiptRefunds'. -/
def receiptRefundsCard : Claim7 := { stood := { row := receiptRefundsRow, standIns := [], harness := (true, "7afcd656e792a77c7f10aef469fb3f2eecbae9edf8b0608d35e6c37e034c4cbd"), looks := true }, kinds := [], alts := [], laidByText := true, laidKinds := [.data, .data, .data, .data, .sentinel, .sentinel, .pinned], laidTests := true, laidLooks := .later }
def ReceiptRefundsCardSaid : Prop := Claim7.holds Tryz.pinned (.plain (OpenSpec.ofChange receiptRefundsSpec)) receiptRefundsCard

/-- THE TIED CARD OF 'treasurylaw27.ReceiptExact'. -/
def receiptExactCard : Claim7 := { stood := { row := receiptExactRow, standIns := [], harness := (true, "7afcd656e792a77c7f10aef469fb3f2eecbae9edf8b0608d35e6c37e034c4cbd"), looks := true }, kinds := [], alts := [], laidByText := true, laidKinds := [.data, .data, .data, .data, .sentinel, .sentinel, .pinned], laidTests := true, laidLooks := .later }
def ReceiptExactCardSaid : Prop := Claim7.holds Tryz.pinned (.plain (OpenSpec.ofChange receiptExactSpec)) receiptExactCard

/-- THE TIED CARD OF 'treasurylaw27.ReceiptNever'. -/
def receiptNeverCard : Claim7 := { stood := { row := receiptNeverRow, standIns := [], harness := (true, "7afcd656e792a77c7f10aef469fb3f2eecbae9edf8b0608d35e6c37e034c4cbd"), looks := true }, kinds := [], alts := [], laidByText := true, laidKinds := [.data, .data, .data, .data, .sentinel, .sentinel, .pinned], laidTests := true, laidLooks := .later }
def ReceiptNeverCardSaid : Prop := Claim7.holds Tryz.pinned (.plain (OpenSpec.ofChange receiptNeverSpec)) receiptNeverCard

/-- THE SECOND FORM's CARD OF 'treasurylaw27.ReceiptFirst'. -/
def receiptFirstUptoCard : Claim7 := { stood := { row := receiptFirstUptoRow, standIns := [], harness := (true, "7afcd656e792a77c7f10aef469fb3f2eecbae9edf8b0608d35e6c37e034c4cbd"), looks := true }, kinds := [], alts := [], laidByText := true, laidKinds := [.data, .data, .data, .data, .sentinel, .sentinel, .pinned], laidTests := true, laidLooks := .later }
def ReceiptFirstUptoCardSaid : Prop := Claim7.holds Tryz.pinned (.plain (OpenSpec.upto receiptFirstSpec)) receiptFirstUptoCard

/-- THE SECOND FORM's CARD OF 'treasurylaw27.ReceiptSums'. -/
def receiptSumsUptoCard : Claim7 := { stood := { row := receiptSumsUptoRow, standIns := [], harness := (true, "7afcd656e792a77c7f10aef469fb3f2eecbae9edf8b0608d35e6c37e034c4cbd"), looks := true }, kinds := [], alts := [], laidByText := true, laidKinds := [.data, .data, .data, .data, .sentinel, .sentinel, .pinned], laidTests := true, laidLooks := .later }
def ReceiptSumsUptoCardSaid : Prop := Claim7.holds Tryz.pinned (.plain (OpenSpec.upto receiptSumsSpec)) receiptSumsUptoCard

/-- THE SECOND FORM's CARD OF 'treasurylaw27.ReceiptRefunds'. -/
def receiptRefundsUptoCard : Claim7 := { stood := { row := receiptRefundsUptoRow, standIns := [], harness := (true, "7afcd656e792a77c7f10aef469fb3f2eecbae9edf8b0608d35e6c37e034c4cbd"), looks := true }, kinds := [], alts := [], laidByText := true, laidKinds := [.data, .data, .data, .data, .sentinel, .sentinel, .pinned], laidTests := true, laidLooks := .later }
def ReceiptRefundsUptoCardSaid : Prop := Claim7.holds Tryz.pinned (.plain (OpenSpec.upto receiptRefundsSpec)) receiptRefundsUptoCard

/-- THE SECOND FORM's CARD OF 'treasurylaw27.ReceiptExact'. -/
def receiptExactUptoCard : Claim7 := { stood := { row := receiptExactUptoRow, standIns := [], harness := (true, "7afcd656e792a77c7f10aef469fb3f2eecbae9edf8b0608d35e6c37e034c4cbd"), looks := true }, kinds := [], alts := [], laidByText := true, laidKinds := [.data, .data, .data, .data, .sentinel, .sentinel, .pinned], laidTests := true, laidLooks := .later }
def ReceiptExactUptoCardSaid : Prop := Claim7.holds Tryz.pinned (.plain (OpenSpec.upto receiptExactSpec)) receiptExactUptoCard

/-- THE SECOND FORM's CARD OF 'treasurylaw27.ReceiptNever'. -/
def receiptNeverUptoCard : Claim7 := { stood := { row := receiptNeverUptoRow, standIns := [], harness := (true, "7afcd656e792a77c7f10aef469fb3f2eecbae9edf8b0608d35e6c37e034c4cbd"), looks := true }, kinds := [], alts := [], laidByText := true, laidKinds := [.data, .data, .data, .data, .sentinel, .sentinel, .pinned], laidTests := true, laidLooks := .later }
def ReceiptNeverUptoCardSaid : Prop := Claim7.holds Tryz.pinned (.plain (OpenSpec.upto receiptNeverSpec)) receiptNeverUptoCard
end Rows
end Go.Proofs.YtgapbmaehfdkoaaGreatDoor
