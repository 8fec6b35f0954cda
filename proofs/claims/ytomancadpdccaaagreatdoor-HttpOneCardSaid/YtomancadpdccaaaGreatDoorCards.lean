/-
  DERIVED. GIVEN WITH THE SEED: THE CARDS: each row of YtomancadpdccaaaGreatDoorRows.lean that lists a variable, with what it lists TIED to the program's text (the seventh form; the later family's looks); each row that meets fmt, with fmt's text TOLD by the authors' own Lean function (tested against real Go, not proved from fmt's source: count such statements apart). THE CARD IS WHAT COUNTS. Prove the row's statement (the work); the ties are given (YtomancadpdccaaaGreatDoorTie.lean); close each card by the builder's one call (the guide's Derived/Test/ToyasCard.lean, 'card_holds'). Laid BY PROGRAM, IN A SANDBOX (cutbox-door.mjs). By AI agents, Wed Nov 11 2026. No macro, syntax, notation, axiom, sorry.
-/
import Derived.Test.YtomancadpdccaaaGreatDoorRows
import GoSem.ClaimSeven
namespace Go.Proofs.YtomancadpdccaaaGreatDoor
namespace Rows

/-- THE TIED CARD OF 'conciergelaw19.HttpParses'. -/
def httpParsesCard : Claim7 := { stood := { row := httpParsesRow, standIns := [], harness := (true, "0fd08e767044337cdf8143d74e1b84452e928c6cd442ba5d770e60920989bb8f"), looks := true }, kinds := [], alts := [], laidByText := true, laidKinds := [.data, .data, .data, .data, .sentinel, .sentinel, .pinned, .pinned], laidTests := true, laidLooks := .later }
def HttpParsesCardSaid : Prop := Claim7.holds Tryz.pinned (.plain (OpenSpec.ofChange httpParsesSpec)) httpParsesCard

/-- THE TIED CARD OF 'conciergelaw19.HttpResponds'. -/
def httpRespondsCard : Claim7 := { stood := { row := httpRespondsRow, standIns := [], harness := (true, "0fd08e767044337cdf8143d74e1b84452e928c6cd442ba5d770e60920989bb8f"), looks := true }, kinds := [], alts := [], laidByText := true, laidKinds := [.data, .data, .data, .data, .sentinel, .sentinel, .pinned, .pinned], laidTests := true, laidLooks := .later }
def HttpRespondsCardSaid : Prop := Claim7.holds Tryz.pinned (.plain (OpenSpec.ofChange httpRespondsSpec)) httpRespondsCard

/-- THE TIED CARD OF 'conciergelaw19.HttpOne'. -/
def httpOneCard : Claim7 := { stood := { row := httpOneRow, standIns := [], harness := (true, "0fd08e767044337cdf8143d74e1b84452e928c6cd442ba5d770e60920989bb8f"), looks := true }, kinds := [], alts := [], laidByText := true, laidKinds := [.data, .data, .data, .data, .sentinel, .sentinel, .pinned, .pinned], laidTests := true, laidLooks := .later }
def HttpOneCardSaid : Prop := Claim7.holds Tryz.pinned (.plain (OpenSpec.ofChange httpOneSpec)) httpOneCard

/-- THE TIED CARD OF 'conciergelaw19.HttpCases'. -/
def httpCasesCard : Claim7 := { stood := { row := httpCasesRow, standIns := [], harness := (true, "0fd08e767044337cdf8143d74e1b84452e928c6cd442ba5d770e60920989bb8f"), looks := true }, kinds := [], alts := [], laidByText := true, laidKinds := [.data, .data, .data, .data, .sentinel, .sentinel, .pinned, .pinned], laidTests := true, laidLooks := .later }
def HttpCasesCardSaid : Prop := Claim7.holds Tryz.pinned (.plain (OpenSpec.ofChange httpCasesSpec)) httpCasesCard

/-- THE TIED CARD OF 'conciergelaw19.HttpBytes'. -/
def httpBytesCard : Claim7 := { stood := { row := httpBytesRow, standIns := [], harness := (true, "0fd08e767044337cdf8143d74e1b84452e928c6cd442ba5d770e60920989bb8f"), looks := true }, kinds := [], alts := [], laidByText := true, laidKinds := [.data, .data, .data, .data, .sentinel, .sentinel, .pinned, .pinned], laidTests := true, laidLooks := .later }
def HttpBytesCardSaid : Prop := Claim7.holds Tryz.pinned (.plain (OpenSpec.ofChange httpBytesSpec)) httpBytesCard

/-- THE TIED CARD OF 'conciergelaw19.HttpReads'. -/
def httpReadsCard : Claim7 := { stood := { row := httpReadsRow, standIns := [], harness := (true, "0fd08e767044337cdf8143d74e1b84452e928c6cd442ba5d770e60920989bb8f"), looks := true }, kinds := [], alts := [], laidByText := true, laidKinds := [.data, .data, .data, .data, .sentinel, .sentinel, .pinned, .pinned], laidTests := true, laidLooks := .later }
def HttpReadsCardSaid : Prop := Claim7.holds Tryz.pinned (.plain (OpenSpec.ofChange httpReadsSpec)) httpReadsCard

/-- THE TIED CARD OF 'conciergelaw19.HttpBack'. -/
def httpBackCard : Claim7 := { stood := { row := httpBackRow, standIns := [], harness := (true, "0fd08e767044337cdf8143d74e1b84452e928c6cd442ba5d770e60920989bb8f"), looks := true }, kinds := [], alts := [], laidByText := true, laidKinds := [.data, .data, .data, .data, .sentinel, .sentinel, .pinned, .pinned], laidTests := true, laidLooks := .later }
def HttpBackCardSaid : Prop := Claim7.holds Tryz.pinned (.plain (OpenSpec.ofChange httpBackSpec)) httpBackCard

/-- THE SECOND FORM's CARD OF 'conciergelaw19.HttpParses'. -/
def httpParsesUptoCard : Claim7 := { stood := { row := httpParsesUptoRow, standIns := [], harness := (true, "0fd08e767044337cdf8143d74e1b84452e928c6cd442ba5d770e60920989bb8f"), looks := true }, kinds := [], alts := [], laidByText := true, laidKinds := [.data, .data, .data, .data, .sentinel, .sentinel, .pinned, .pinned], laidTests := true, laidLooks := .later }
def HttpParsesUptoCardSaid : Prop := Claim7.holds Tryz.pinned (.plain (OpenSpec.upto httpParsesSpec)) httpParsesUptoCard

/-- THE SECOND FORM's CARD OF 'conciergelaw19.HttpResponds'. -/
def httpRespondsUptoCard : Claim7 := { stood := { row := httpRespondsUptoRow, standIns := [], harness := (true, "0fd08e767044337cdf8143d74e1b84452e928c6cd442ba5d770e60920989bb8f"), looks := true }, kinds := [], alts := [], laidByText := true, laidKinds := [.data, .data, .data, .data, .sentinel, .sentinel, .pinned, .pinned], laidTests := true, laidLooks := .later }
def HttpRespondsUptoCardSaid : Prop := Claim7.holds Tryz.pinned (.plain (OpenSpec.upto httpRespondsSpec)) httpRespondsUptoCard

/-- THE SECOND FORM's CARD OF 'conciergelaw19.HttpOne'. -/
def httpOneUptoCard : Claim7 := { stood := { row := httpOneUptoRow, standIns := [], harness := (true, "0fd08e767044337cdf8143d74e1b84452e928c6cd442ba5d770e60920989bb8f"), looks := true }, kinds := [], alts := [], laidByText := true, laidKinds := [.data, .data, .data, .data, .sentinel, .sentinel, .pinned, .pinned], laidTests := true, laidLooks := .later }
def HttpOneUptoCardSaid : Prop := Claim7.holds Tryz.pinned (.plain (OpenSpec.upto httpOneSpec)) httpOneUptoCard

/-- THE SECOND FORM's CARD OF 'conciergelaw19.HttpCases'. -/
def httpCasesUptoCard : Claim7 := { stood := { row := httpCasesUptoRow, standIns := [], harness := (true, "0fd08e767044337cdf8143d74e1b84452e928c6cd442ba5d770e60920989bb8f"), looks := true }, kinds := [], alts := [], laidByText := true, laidKinds := [.data, .data, .data, .data, .sentinel, .sentinel, .pinned, .pinned], laidTests := true, laidLooks := .later }
def HttpCasesUptoCardSaid : Prop := Claim7.holds Tryz.pinned (.plain (OpenSpec.upto httpCasesSpec)) httpCasesUptoCard

/-- THE SECOND FORM's CARD OF 'conciergelaw19.HttpBytes'. -/
def httpBytesUptoCard : Claim7 := { stood := { row := httpBytesUptoRow, standIns := [], harness := (true, "0fd08e767044337cdf8143d74e1b84452e928c6cd442ba5d770e60920989bb8f"), looks := true }, kinds := [], alts := [], laidByText := true, laidKinds := [.data, .data, .data, .data, .sentinel, .sentinel, .pinned, .pinned], laidTests := true, laidLooks := .later }
def HttpBytesUptoCardSaid : Prop := Claim7.holds Tryz.pinned (.plain (OpenSpec.upto httpBytesSpec)) httpBytesUptoCard

/-- THE SECOND FORM's CARD OF 'conciergelaw19.HttpReads'. -/
def httpReadsUptoCard : Claim7 := { stood := { row := httpReadsUptoRow, standIns := [], harness := (true, "0fd08e767044337cdf8143d74e1b84452e928c6cd442ba5d770e60920989bb8f"), looks := true }, kinds := [], alts := [], laidByText := true, laidKinds := [.data, .data, .data, .data, .sentinel, .sentinel, .pinned, .pinned], laidTests := true, laidLooks := .later }
def HttpReadsUptoCardSaid : Prop := Claim7.holds Tryz.pinned (.plain (OpenSpec.upto httpReadsSpec)) httpReadsUptoCard

/-- THE SECOND FORM's CARD OF 'conciergelaw19.HttpBack'. -/
def httpBackUptoCard : Claim7 := { stood := { row := httpBackUptoRow, standIns := [], harness := (true, "0fd08e767044337cdf8143d74e1b84452e928c6cd442ba5d770e60920989bb8f"), looks := true }, kinds := [], alts := [], laidByText := true, laidKinds := [.data, .data, .data, .data, .sentinel, .sentinel, .pinned, .pinned], laidTests := true, laidLooks := .later }
def HttpBackUptoCardSaid : Prop := Claim7.holds Tryz.pinned (.plain (OpenSpec.upto httpBackSpec)) httpBackUptoCard
end Rows
end Go.Proofs.YtomancadpdccaaaGreatDoor
