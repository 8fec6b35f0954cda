/-
  DERIVED. GIVEN WITH THE SEED: THE CARDS: each row of YtgmlcnikphbiiaaDoorRows.lean that lists a variable, with what it lists TIED to the program's text (the seventh form; the later family's looks); each row that meets fmt, with fmt's text TOLD by the authors' own Lean function (tested against real Go, not proved from fmt's source: count such statements apart). THE CARD IS WHAT COUNTS. Prove the row's statement (the work); the ties are given (YtgmlcnikphbiiaaDoorTie.lean); close each card by the builder's one call (the guide's Derived/Test/ToyasCard.lean, 'card_holds'). Laid BY PROGRAM, IN A SANDBOX (cutbox-door.mjs). By AI agents, Wed Nov 11 2026. No macro, syntax, notation, axiom, sorry.
-/
import Derived.Test.YtgmlcnikphbiiaaDoorRows
import GoSem.ClaimSeven
namespace Go.Proofs.YtgmlcnikphbiiaaDoor
namespace Rows

/-- THE TIED CARD OF 'conciergelaw11.LangParses'. -/
def langParsesCard : Claim7 := { stood := { row := langParsesRow, standIns := [], harness := (true, "aab1e85020feb7de46ae33e8d2f05a98e44a3b6cde3aa4e8ecc8bf5cdd68d24e"), looks := true }, kinds := [], alts := [], laidByText := true, laidKinds := [.data, .pinned], laidTests := true, laidLooks := .later }
def LangParsesCardSaid : Prop := Claim7.holds Tryd.pinned (.plain (OpenSpec.ofChange langParsesSpec)) langParsesCard

/-- THE TIED CARD OF 'conciergelaw11.LangBrackets'. -/
def langBracketsCard : Claim7 := { stood := { row := langBracketsRow, standIns := [], harness := (true, "aab1e85020feb7de46ae33e8d2f05a98e44a3b6cde3aa4e8ecc8bf5cdd68d24e"), looks := true }, kinds := [], alts := [], laidByText := true, laidKinds := [.data, .pinned], laidTests := true, laidLooks := .later }
def LangBracketsCardSaid : Prop := Claim7.holds Tryd.pinned (.plain (OpenSpec.ofChange langBracketsSpec)) langBracketsCard

/-- THE TIED CARD OF 'conciergelaw11.LangPrints'. -/
def langPrintsCard : Claim7 := { stood := { row := langPrintsRow, standIns := [], harness := (true, "aab1e85020feb7de46ae33e8d2f05a98e44a3b6cde3aa4e8ecc8bf5cdd68d24e"), looks := true }, kinds := [], alts := [], laidByText := true, laidKinds := [.data, .pinned], laidTests := true, laidLooks := .later }
def LangPrintsCardSaid : Prop := Claim7.holds Tryd.pinned (.plain (OpenSpec.ofChange langPrintsSpec)) langPrintsCard

/-- THE TIED CARD OF 'conciergelaw11.LangBack'. -/
def langBackCard : Claim7 := { stood := { row := langBackRow, standIns := [], harness := (true, "aab1e85020feb7de46ae33e8d2f05a98e44a3b6cde3aa4e8ecc8bf5cdd68d24e"), looks := true }, kinds := [], alts := [], laidByText := true, laidKinds := [.data, .pinned], laidTests := true, laidLooks := .later }
def LangBackCardSaid : Prop := Claim7.holds Tryd.pinned (.plain (OpenSpec.ofChange langBackSpec)) langBackCard

/-- THE TIED CARD OF 'conciergelaw11.LangAgain'. -/
def langAgainCard : Claim7 := { stood := { row := langAgainRow, standIns := [], harness := (true, "aab1e85020feb7de46ae33e8d2f05a98e44a3b6cde3aa4e8ecc8bf5cdd68d24e"), looks := true }, kinds := [], alts := [], laidByText := true, laidKinds := [.data, .pinned], laidTests := true, laidLooks := .later }
def LangAgainCardSaid : Prop := Claim7.holds Tryd.pinned (.plain (OpenSpec.ofChange langAgainSpec)) langAgainCard

/-- THE SECOND FORM's CARD OF 'conciergelaw11.LangParses'. -/
def langParsesUptoCard : Claim7 := { stood := { row := langParsesUptoRow, standIns := [], harness := (true, "aab1e85020feb7de46ae33e8d2f05a98e44a3b6cde3aa4e8ecc8bf5cdd68d24e"), looks := true }, kinds := [], alts := [], laidByText := true, laidKinds := [.data, .pinned], laidTests := true, laidLooks := .later }
def LangParsesUptoCardSaid : Prop := Claim7.holds Tryd.pinned (.plain (OpenSpec.upto langParsesSpec)) langParsesUptoCard

/-- THE SECOND FORM's CARD OF 'conciergelaw11.LangBrackets'. -/
def langBracketsUptoCard : Claim7 := { stood := { row := langBracketsUptoRow, standIns := [], harness := (true, "aab1e85020feb7de46ae33e8d2f05a98e44a3b6cde3aa4e8ecc8bf5cdd68d24e"), looks := true }, kinds := [], alts := [], laidByText := true, laidKinds := [.data, .pinned], laidTests := true, laidLooks := .later }
def LangBracketsUptoCardSaid : Prop := Claim7.holds Tryd.pinned (.plain (OpenSpec.upto langBracketsSpec)) langBracketsUptoCard

/-- THE SECOND FORM's CARD OF 'conciergelaw11.LangPrints'. -/
def langPrintsUptoCard : Claim7 := { stood := { row := langPrintsUptoRow, standIns := [], harness := (true, "aab1e85020feb7de46ae33e8d2f05a98e44a3b6cde3aa4e8ecc8bf5cdd68d24e"), looks := true }, kinds := [], alts := [], laidByText := true, laidKinds := [.data, .pinned], laidTests := true, laidLooks := .later }
def LangPrintsUptoCardSaid : Prop := Claim7.holds Tryd.pinned (.plain (OpenSpec.upto langPrintsSpec)) langPrintsUptoCard

/-- THE SECOND FORM's CARD OF 'conciergelaw11.LangBack'. -/
def langBackUptoCard : Claim7 := { stood := { row := langBackUptoRow, standIns := [], harness := (true, "aab1e85020feb7de46ae33e8d2f05a98e44a3b6cde3aa4e8ecc8bf5cdd68d24e"), looks := true }, kinds := [], alts := [], laidByText := true, laidKinds := [.data, .pinned], laidTests := true, laidLooks := .later }
def LangBackUptoCardSaid : Prop := Claim7.holds Tryd.pinned (.plain (OpenSpec.upto langBackSpec)) langBackUptoCard

/-- THE SECOND FORM's CARD OF 'conciergelaw11.LangAgain'. -/
def langAgainUptoCard : Claim7 := { stood := { row := langAgainUptoRow, standIns := [], harness := (true, "aab1e85020feb7de46ae33e8d2f05a98e44a3b6cde3aa4e8ecc8bf5cdd68d24e"), looks := true }, kinds := [], alts := [], laidByText := true, laidKinds := [.data, .pinned], laidTests := true, laidLooks := .later }
def LangAgainUptoCardSaid : Prop := Claim7.holds Tryd.pinned (.plain (OpenSpec.upto langAgainSpec)) langAgainUptoCard
end Rows
end Go.Proofs.YtgmlcnikphbiiaaDoor
