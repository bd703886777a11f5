/-
  DERIVED. GIVEN WITH THE SEED: THE CARDS: each row of YtabdihohphlheaaDoorRows.lean that lists a variable, with what it lists TIED to the program's text (the seventh form; the later family's looks); each row that meets fmt, with fmt's text TOLD by the authors' own Lean function (tested against real Go, not proved from fmt's source: count such statements apart). THE CARD IS WHAT COUNTS. Prove the row's statement (the work); the ties are given (YtabdihohphlheaaDoorTie.lean); close each card by the builder's one call (the guide's Derived/Test/ToyasCard.lean, 'card_holds'). Laid BY PROGRAM, IN A SANDBOX (cutbox-door.mjs). By AI agents, Wed Nov 11 2026. No macro, syntax, notation, axiom, sorry.
-/
import Derived.Test.YtabdihohphlheaaDoorRows
import GoSem.ClaimSeven
namespace Go.Proofs.YtabdihohphlheaaDoor
namespace Rows

/-- THE TIED CARD OF 'treasurylaw28.TaxesDays'. -/
def taxesDaysCard : Claim7 := { stood := { row := taxesDaysRow, standIns := [], harness := (true, "9d56d39ffeda5da94ae4d86bb694fb01507b4373bfdce8368237ddbd506bd450"), looks := true }, kinds := [], alts := [], laidByText := true, laidKinds := [.data, .data, .data, .data, .sentinel, .sentinel, .pinned], laidTests := true, laidLooks := .later }
def TaxesDaysCardSaid : Prop := Claim7.holds Tryd.pinned (.plain (OpenSpec.ofChange taxesDaysSpec)) taxesDaysCard

/-- THE TIED CARD OF 'treasurylaw28.TaxesMore'. -/
def taxesMoreCard : Claim7 := { stood := { row := taxesMoreRow, standIns := [], harness := (true, "9d56d39ffeda5da94ae4d86bb694fb01507b4373bfdce8368237ddbd506bd450"), looks := true }, kinds := [], alts := [], laidByText := true, laidKinds := [.data, .data, .data, .data, .sentinel, .sentinel, .pinned], laidTests := true, laidLooks := .later }
def TaxesMoreCardSaid : Prop := Claim7.holds Tryd.pinned (.plain (OpenSpec.ofChange taxesMoreSpec)) taxesMoreCard

/-- THE TIED CARD OF 'treasurylaw28.TaxesSpans'. -/
def taxesSpansCard : Claim7 := { stood := { row := taxesSpansRow, standIns := [], harness := (true, "9d56d39ffeda5da94ae4d86bb694fb01507b4373bfdce8368237ddbd506bd450"), looks := true }, kinds := [], alts := [], laidByText := true, laidKinds := [.data, .data, .data, .data, .sentinel, .sentinel, .pinned], laidTests := true, laidLooks := .later }
def TaxesSpansCardSaid : Prop := Claim7.holds Tryd.pinned (.plain (OpenSpec.ofChange taxesSpansSpec)) taxesSpansCard

/-- THE TIED CARD OF 'treasurylaw28.TaxesYears'. -/
def taxesYearsCard : Claim7 := { stood := { row := taxesYearsRow, standIns := [], harness := (true, "9d56d39ffeda5da94ae4d86bb694fb01507b4373bfdce8368237ddbd506bd450"), looks := true }, kinds := [], alts := [], laidByText := true, laidKinds := [.data, .data, .data, .data, .sentinel, .sentinel, .pinned], laidTests := true, laidLooks := .later }
def TaxesYearsCardSaid : Prop := Claim7.holds Tryd.pinned (.plain (OpenSpec.ofChange taxesYearsSpec)) taxesYearsCard

/-- THE SECOND FORM's CARD OF 'treasurylaw28.TaxesDays'. -/
def taxesDaysUptoCard : Claim7 := { stood := { row := taxesDaysUptoRow, standIns := [], harness := (true, "9d56d39ffeda5da94ae4d86bb694fb01507b4373bfdce8368237ddbd506bd450"), looks := true }, kinds := [], alts := [], laidByText := true, laidKinds := [.data, .data, .data, .data, .sentinel, .sentinel, .pinned], laidTests := true, laidLooks := .later }
def TaxesDaysUptoCardSaid : Prop := Claim7.holds Tryd.pinned (.plain (OpenSpec.upto taxesDaysSpec)) taxesDaysUptoCard

/-- THE SECOND FORM's CARD OF 'treasurylaw28.TaxesMore'. -/
def taxesMoreUptoCard : Claim7 := { stood := { row := taxesMoreUptoRow, standIns := [], harness := (true, "9d56d39ffeda5da94ae4d86bb694fb01507b4373bfdce8368237ddbd506bd450"), looks := true }, kinds := [], alts := [], laidByText := true, laidKinds := [.data, .data, .data, .data, .sentinel, .sentinel, .pinned], laidTests := true, laidLooks := .later }
def TaxesMoreUptoCardSaid : Prop := Claim7.holds Tryd.pinned (.plain (OpenSpec.upto taxesMoreSpec)) taxesMoreUptoCard

/-- THE SECOND FORM's CARD OF 'treasurylaw28.TaxesSpans'. -/
def taxesSpansUptoCard : Claim7 := { stood := { row := taxesSpansUptoRow, standIns := [], harness := (true, "9d56d39ffeda5da94ae4d86bb694fb01507b4373bfdce8368237ddbd506bd450"), looks := true }, kinds := [], alts := [], laidByText := true, laidKinds := [.data, .data, .data, .data, .sentinel, .sentinel, .pinned], laidTests := true, laidLooks := .later }
def TaxesSpansUptoCardSaid : Prop := Claim7.holds Tryd.pinned (.plain (OpenSpec.upto taxesSpansSpec)) taxesSpansUptoCard

/-- THE SECOND FORM's CARD OF 'treasurylaw28.TaxesYears'. -/
def taxesYearsUptoCard : Claim7 := { stood := { row := taxesYearsUptoRow, standIns := [], harness := (true, "9d56d39ffeda5da94ae4d86bb694fb01507b4373bfdce8368237ddbd506bd450"), looks := true }, kinds := [], alts := [], laidByText := true, laidKinds := [.data, .data, .data, .data, .sentinel, .sentinel, .pinned], laidTests := true, laidLooks := .later }
def TaxesYearsUptoCardSaid : Prop := Claim7.holds Tryd.pinned (.plain (OpenSpec.upto taxesYearsSpec)) taxesYearsUptoCard
end Rows
end Go.Proofs.YtabdihohphlheaaDoor
