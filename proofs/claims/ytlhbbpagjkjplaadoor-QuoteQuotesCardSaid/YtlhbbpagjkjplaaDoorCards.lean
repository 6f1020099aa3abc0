/-
  DERIVED. GIVEN WITH THE SEED: THE CARDS: each row of YtlhbbpagjkjplaaDoorRows.lean that lists a variable, with what it lists TIED to the program's text (the seventh form; the later family's looks); each row that meets fmt, with fmt's text TOLD by the authors' own Lean function (tested against real Go, not proved from fmt's source: count such statements apart). THE CARD IS WHAT COUNTS. Prove the row's statement (the work); the ties are given (YtlhbbpagjkjplaaDoorTie.lean); close each card by the builder's one call (the guide's Derived/Test/ToyasCard.lean, 'card_holds'). Laid BY PROGRAM, IN A SANDBOX (cutbox-door.mjs). By AI agents, Wed Nov 11 2026. No macro, syntax, notation, axiom, sorry.
-/
import Derived.Test.YtlhbbpagjkjplaaDoorRows
import GoSem.ClaimSeven
namespace Go.Proofs.YtlhbbpagjkjplaaDoor
namespace Rows

/-- THE TIED CARD OF 'trestlelaw21.MetaMany'. -/
def metaManyCard : Claim7 := { stood := { row := metaManyRow, standIns := [], harness := (true, "dd61b9b98731cfc066c814fd095b7bf7fdc2b5c0e1be47cc1742da70fde4aca3"), looks := true }, kinds := [], alts := [], laidByText := true, laidKinds := [.data, .data, .data, .pinned, .pinned], laidTests := true, laidLooks := .later }
def MetaManyCardSaid : Prop := Claim7.holds Tryd.pinned (.plain (OpenSpec.ofChange metaManySpec)) metaManyCard

/-- THE TIED CARD OF 'trestlelaw03.QuoteQuotes'. -/
def quoteQuotesCard : Claim7 := { stood := { row := quoteQuotesRow, standIns := [], harness := (true, "dd61b9b98731cfc066c814fd095b7bf7fdc2b5c0e1be47cc1742da70fde4aca3"), looks := true }, kinds := [], alts := [], laidByText := true, laidKinds := [.data, .data, .data, .pinned, .pinned], laidTests := true, laidLooks := .later }
def QuoteQuotesCardSaid : Prop := Claim7.holds Tryd.pinned (.plain (OpenSpec.ofChange quoteQuotesSpec)) quoteQuotesCard

/-- THE TIED CARD OF 'trestlelaw03.QuoteBack'. -/
def quoteBackCard : Claim7 := { stood := { row := quoteBackRow, standIns := [], harness := (true, "dd61b9b98731cfc066c814fd095b7bf7fdc2b5c0e1be47cc1742da70fde4aca3"), looks := true }, kinds := [], alts := [], laidByText := true, laidKinds := [.data, .data, .data, .pinned, .pinned], laidTests := true, laidLooks := .later }
def QuoteBackCardSaid : Prop := Claim7.holds Tryd.pinned (.plain (OpenSpec.ofChange quoteBackSpec)) quoteBackCard

/-- THE TIED CARD OF 'trestlelaw09.CommitBack'. -/
def commitBackCard : Claim7 := { stood := { row := commitBackRow, standIns := [], harness := (true, "dd61b9b98731cfc066c814fd095b7bf7fdc2b5c0e1be47cc1742da70fde4aca3"), looks := true }, kinds := [], alts := [], laidByText := true, laidKinds := [.data, .data, .data, .data, .sentinel, .sentinel, .pinned], laidTests := true, laidLooks := .later }
def CommitBackCardSaid : Prop := Claim7.holds Tryd.pinned (.plain (OpenSpec.ofChange commitBackSpec)) commitBackCard

/-- THE TIED CARD OF 'trestlelaw09.CommitHeaders'. -/
def commitHeadersCard : Claim7 := { stood := { row := commitHeadersRow, standIns := [], harness := (true, "dd61b9b98731cfc066c814fd095b7bf7fdc2b5c0e1be47cc1742da70fde4aca3"), looks := true }, kinds := [], alts := [], laidByText := true, laidKinds := [.data, .data, .data, .data, .sentinel, .sentinel, .pinned], laidTests := true, laidLooks := .later }
def CommitHeadersCardSaid : Prop := Claim7.holds Tryd.pinned (.plain (OpenSpec.ofChange commitHeadersSpec)) commitHeadersCard

/-- THE TIED CARD OF 'trestlelaw17.ChangeBounds'. -/
def changeBoundsCard : Claim7 := { stood := { row := changeBoundsRow, standIns := [], harness := (true, "dd61b9b98731cfc066c814fd095b7bf7fdc2b5c0e1be47cc1742da70fde4aca3"), looks := true }, kinds := [], alts := [], laidByText := true, laidKinds := [.data, .data, .data, .data, .data, .data, .pinned, .pinned], laidTests := true, laidLooks := .later }
def ChangeBoundsCardSaid : Prop := Claim7.holds Tryd.pinned (.plain (OpenSpec.ofChange changeBoundsSpec)) changeBoundsCard

/-- THE TIED CARD OF 'trestlelaw17.ChangeKeys'. -/
def changeKeysCard : Claim7 := { stood := { row := changeKeysRow, standIns := [], harness := (true, "dd61b9b98731cfc066c814fd095b7bf7fdc2b5c0e1be47cc1742da70fde4aca3"), looks := true }, kinds := [], alts := [], laidByText := true, laidKinds := [.data, .data, .data, .data, .data, .data, .pinned, .pinned], laidTests := true, laidLooks := .later }
def ChangeKeysCardSaid : Prop := Claim7.holds Tryd.pinned (.plain (OpenSpec.ofChange changeKeysSpec)) changeKeysCard

/-- THE TIED CARD OF 'trestlelaw17.ChangeOrder'. -/
def changeOrderCard : Claim7 := { stood := { row := changeOrderRow, standIns := [], harness := (true, "dd61b9b98731cfc066c814fd095b7bf7fdc2b5c0e1be47cc1742da70fde4aca3"), looks := true }, kinds := [], alts := [], laidByText := true, laidKinds := [.data, .data, .data, .data, .data, .data, .pinned, .pinned], laidTests := true, laidLooks := .later }
def ChangeOrderCardSaid : Prop := Claim7.holds Tryd.pinned (.plain (OpenSpec.ofChange changeOrderSpec)) changeOrderCard

/-- THE TIED CARD OF 'trestlelaw06.IdentPrints'. -/
def identPrintsCard : Claim7 := { stood := { row := identPrintsRow, standIns := [], harness := (true, "dd61b9b98731cfc066c814fd095b7bf7fdc2b5c0e1be47cc1742da70fde4aca3"), looks := true }, kinds := [], alts := [], laidByText := true, laidKinds := [.data, .data, .data, .data, .sentinel, .sentinel, .pinned], laidTests := true, laidLooks := .later }
def IdentPrintsCardSaid : Prop := Claim7.holds Tryd.pinned (.plain (OpenSpec.ofChange identPrintsSpec)) identPrintsCard

/-- THE TIED CARD OF 'trestlelaw06.IdentBack'. -/
def identBackCard : Claim7 := { stood := { row := identBackRow, standIns := [], harness := (true, "dd61b9b98731cfc066c814fd095b7bf7fdc2b5c0e1be47cc1742da70fde4aca3"), looks := true }, kinds := [], alts := [], laidByText := true, laidKinds := [.data, .data, .data, .data, .sentinel, .sentinel, .pinned], laidTests := true, laidLooks := .later }
def IdentBackCardSaid : Prop := Claim7.holds Tryd.pinned (.plain (OpenSpec.ofChange identBackSpec)) identBackCard

/-- THE SECOND FORM's CARD OF 'trestlelaw21.MetaMany'. -/
def metaManyUptoCard : Claim7 := { stood := { row := metaManyUptoRow, standIns := [], harness := (true, "dd61b9b98731cfc066c814fd095b7bf7fdc2b5c0e1be47cc1742da70fde4aca3"), looks := true }, kinds := [], alts := [], laidByText := true, laidKinds := [.data, .data, .data, .pinned, .pinned], laidTests := true, laidLooks := .later }
def MetaManyUptoCardSaid : Prop := Claim7.holds Tryd.pinned (.plain (OpenSpec.upto metaManySpec)) metaManyUptoCard

/-- THE SECOND FORM's CARD OF 'trestlelaw03.QuoteQuotes'. -/
def quoteQuotesUptoCard : Claim7 := { stood := { row := quoteQuotesUptoRow, standIns := [], harness := (true, "dd61b9b98731cfc066c814fd095b7bf7fdc2b5c0e1be47cc1742da70fde4aca3"), looks := true }, kinds := [], alts := [], laidByText := true, laidKinds := [.data, .data, .data, .pinned, .pinned], laidTests := true, laidLooks := .later }
def QuoteQuotesUptoCardSaid : Prop := Claim7.holds Tryd.pinned (.plain (OpenSpec.upto quoteQuotesSpec)) quoteQuotesUptoCard

/-- THE SECOND FORM's CARD OF 'trestlelaw03.QuoteBack'. -/
def quoteBackUptoCard : Claim7 := { stood := { row := quoteBackUptoRow, standIns := [], harness := (true, "dd61b9b98731cfc066c814fd095b7bf7fdc2b5c0e1be47cc1742da70fde4aca3"), looks := true }, kinds := [], alts := [], laidByText := true, laidKinds := [.data, .data, .data, .pinned, .pinned], laidTests := true, laidLooks := .later }
def QuoteBackUptoCardSaid : Prop := Claim7.holds Tryd.pinned (.plain (OpenSpec.upto quoteBackSpec)) quoteBackUptoCard

/-- THE SECOND FORM's CARD OF 'trestlelaw09.CommitBack'. -/
def commitBackUptoCard : Claim7 := { stood := { row := commitBackUptoRow, standIns := [], harness := (true, "dd61b9b98731cfc066c814fd095b7bf7fdc2b5c0e1be47cc1742da70fde4aca3"), looks := true }, kinds := [], alts := [], laidByText := true, laidKinds := [.data, .data, .data, .data, .sentinel, .sentinel, .pinned], laidTests := true, laidLooks := .later }
def CommitBackUptoCardSaid : Prop := Claim7.holds Tryd.pinned (.plain (OpenSpec.upto commitBackSpec)) commitBackUptoCard

/-- THE SECOND FORM's CARD OF 'trestlelaw09.CommitHeaders'. -/
def commitHeadersUptoCard : Claim7 := { stood := { row := commitHeadersUptoRow, standIns := [], harness := (true, "dd61b9b98731cfc066c814fd095b7bf7fdc2b5c0e1be47cc1742da70fde4aca3"), looks := true }, kinds := [], alts := [], laidByText := true, laidKinds := [.data, .data, .data, .data, .sentinel, .sentinel, .pinned], laidTests := true, laidLooks := .later }
def CommitHeadersUptoCardSaid : Prop := Claim7.holds Tryd.pinned (.plain (OpenSpec.upto commitHeadersSpec)) commitHeadersUptoCard

/-- THE SECOND FORM's CARD OF 'trestlelaw17.ChangeBounds'. -/
def changeBoundsUptoCard : Claim7 := { stood := { row := changeBoundsUptoRow, standIns := [], harness := (true, "dd61b9b98731cfc066c814fd095b7bf7fdc2b5c0e1be47cc1742da70fde4aca3"), looks := true }, kinds := [], alts := [], laidByText := true, laidKinds := [.data, .data, .data, .data, .data, .data, .pinned, .pinned], laidTests := true, laidLooks := .later }
def ChangeBoundsUptoCardSaid : Prop := Claim7.holds Tryd.pinned (.plain (OpenSpec.upto changeBoundsSpec)) changeBoundsUptoCard

/-- THE SECOND FORM's CARD OF 'trestlelaw17.ChangeKeys'. -/
def changeKeysUptoCard : Claim7 := { stood := { row := changeKeysUptoRow, standIns := [], harness := (true, "dd61b9b98731cfc066c814fd095b7bf7fdc2b5c0e1be47cc1742da70fde4aca3"), looks := true }, kinds := [], alts := [], laidByText := true, laidKinds := [.data, .data, .data, .data, .data, .data, .pinned, .pinned], laidTests := true, laidLooks := .later }
def ChangeKeysUptoCardSaid : Prop := Claim7.holds Tryd.pinned (.plain (OpenSpec.upto changeKeysSpec)) changeKeysUptoCard

/-- THE SECOND FORM's CARD OF 'trestlelaw17.ChangeOrder'. -/
def changeOrderUptoCard : Claim7 := { stood := { row := changeOrderUptoRow, standIns := [], harness := (true, "dd61b9b98731cfc066c814fd095b7bf7fdc2b5c0e1be47cc1742da70fde4aca3"), looks := true }, kinds := [], alts := [], laidByText := true, laidKinds := [.data, .data, .data, .data, .data, .data, .pinned, .pinned], laidTests := true, laidLooks := .later }
def ChangeOrderUptoCardSaid : Prop := Claim7.holds Tryd.pinned (.plain (OpenSpec.upto changeOrderSpec)) changeOrderUptoCard

/-- THE SECOND FORM's CARD OF 'trestlelaw06.IdentPrints'. -/
def identPrintsUptoCard : Claim7 := { stood := { row := identPrintsUptoRow, standIns := [], harness := (true, "dd61b9b98731cfc066c814fd095b7bf7fdc2b5c0e1be47cc1742da70fde4aca3"), looks := true }, kinds := [], alts := [], laidByText := true, laidKinds := [.data, .data, .data, .data, .sentinel, .sentinel, .pinned], laidTests := true, laidLooks := .later }
def IdentPrintsUptoCardSaid : Prop := Claim7.holds Tryd.pinned (.plain (OpenSpec.upto identPrintsSpec)) identPrintsUptoCard

/-- THE SECOND FORM's CARD OF 'trestlelaw06.IdentBack'. -/
def identBackUptoCard : Claim7 := { stood := { row := identBackUptoRow, standIns := [], harness := (true, "dd61b9b98731cfc066c814fd095b7bf7fdc2b5c0e1be47cc1742da70fde4aca3"), looks := true }, kinds := [], alts := [], laidByText := true, laidKinds := [.data, .data, .data, .data, .sentinel, .sentinel, .pinned], laidTests := true, laidLooks := .later }
def IdentBackUptoCardSaid : Prop := Claim7.holds Tryd.pinned (.plain (OpenSpec.upto identBackSpec)) identBackUptoCard
end Rows
end Go.Proofs.YtlhbbpagjkjplaaDoor
