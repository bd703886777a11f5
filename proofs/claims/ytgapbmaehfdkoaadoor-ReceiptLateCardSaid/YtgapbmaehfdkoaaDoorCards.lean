/-
  DERIVED. GIVEN WITH THE SEED: THE CARDS: each row of YtgapbmaehfdkoaaDoorRows.lean that lists a variable, with what it lists TIED to the program's text (the seventh form; the later family's looks); each row that meets fmt, with fmt's text TOLD by the authors' own Lean function (tested against real Go, not proved from fmt's source: count such statements apart). THE CARD IS WHAT COUNTS. Prove the row's statement (the work); the ties are given (YtgapbmaehfdkoaaDoorTie.lean); close each card by the builder's one call (the guide's Derived/Test/ToyasCard.lean, 'card_holds'). Laid BY PROGRAM, IN A SANDBOX (cutbox-door.mjs). By AI agents, Wed Nov 11 2026. No macro, syntax, notation, axiom, sorry.
-/
import Derived.Test.YtgapbmaehfdkoaaDoorRows
import GoSem.ClaimSeven
namespace Go.Proofs.YtgapbmaehfdkoaaDoor
namespace Rows

/-- THE TIED CARD OF 'treasurylaw27.ReceiptLate'. -/
def receiptLateCard : Claim7 := { stood := { row := receiptLateRow, standIns := [], harness := (true, "3c83a769d7ce201487d7da12eac6e565250f85c98303757e8054222c9541c669"), looks := true }, kinds := [], alts := [], laidByText := true, laidKinds := [.data, .data, .data, .data, .sentinel, .sentinel, .pinned], laidTests := true, laidLooks := .later }
def ReceiptLateCardSaid : Prop := Claim7.holds Tryd.pinned (.plain (OpenSpec.ofChange receiptLateSpec)) receiptLateCard

/-- THE SECOND FORM's CARD OF 'treasurylaw27.ReceiptLate'. -/
def receiptLateUptoCard : Claim7 := { stood := { row := receiptLateUptoRow, standIns := [], harness := (true, "3c83a769d7ce201487d7da12eac6e565250f85c98303757e8054222c9541c669"), looks := true }, kinds := [], alts := [], laidByText := true, laidKinds := [.data, .data, .data, .data, .sentinel, .sentinel, .pinned], laidTests := true, laidLooks := .later }
def ReceiptLateUptoCardSaid : Prop := Claim7.holds Tryd.pinned (.plain (OpenSpec.upto receiptLateSpec)) receiptLateUptoCard
end Rows
end Go.Proofs.YtgapbmaehfdkoaaDoor
