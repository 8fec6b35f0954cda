/-
  DERIVED. GIVEN WITH THE SEED: THE CARDS: each row of YtminegmjklehnaaDoorRows.lean that lists a variable, with what it lists TIED to the program's text (the seventh form; the later family's looks); each row that meets fmt, with fmt's text TOLD by the authors' own Lean function (tested against real Go, not proved from fmt's source: count such statements apart). THE CARD IS WHAT COUNTS. Prove the row's statement (the work); the ties are given (YtminegmjklehnaaDoorTie.lean); close each card by the builder's one call (the guide's Derived/Test/ToyasCard.lean, 'card_holds'). Laid BY PROGRAM, IN A SANDBOX (cutbox-door.mjs). By AI agents, Wed Nov 11 2026. No macro, syntax, notation, axiom, sorry.
-/
import Derived.Test.YtminegmjklehnaaDoorRows
import GoSem.ClaimSeven
namespace Go.Proofs.YtminegmjklehnaaDoor
namespace Rows

/-- THE TIED CARD OF 'conciergelaw18.JsonBack'. -/
def jsonBackCard : Claim7 := { stood := { row := jsonBackRow, standIns := [], harness := (true, "e9539c5e5d6c9c669dde3b2f44855885ef882b0e475868bae0d8bf3a2fafff1f"), looks := true }, kinds := [], alts := [], laidByText := true, laidKinds := [.data, .data, .data, .data, .sentinel, .sentinel, .pinned], laidTests := true, laidLooks := .later }
def JsonBackCardSaid : Prop := Claim7.holds Tryd.pinned (.plain (OpenSpec.ofChange jsonBackSpec)) jsonBackCard

/-- THE TIED CARD OF 'conciergelaw18.JsonAgain'. -/
def jsonAgainCard : Claim7 := { stood := { row := jsonAgainRow, standIns := [], harness := (true, "e9539c5e5d6c9c669dde3b2f44855885ef882b0e475868bae0d8bf3a2fafff1f"), looks := true }, kinds := [], alts := [], laidByText := true, laidKinds := [.data, .data, .data, .data, .sentinel, .sentinel, .pinned], laidTests := true, laidLooks := .later }
def JsonAgainCardSaid : Prop := Claim7.holds Tryd.pinned (.plain (OpenSpec.ofChange jsonAgainSpec)) jsonAgainCard

/-- THE TIED CARD OF 'conciergelaw18.JsonNests'. -/
def jsonNestsCard : Claim7 := { stood := { row := jsonNestsRow, standIns := [], harness := (true, "e9539c5e5d6c9c669dde3b2f44855885ef882b0e475868bae0d8bf3a2fafff1f"), looks := true }, kinds := [], alts := [], laidByText := true, laidKinds := [.data, .data, .data, .data, .sentinel, .sentinel, .pinned], laidTests := true, laidLooks := .later }
def JsonNestsCardSaid : Prop := Claim7.holds Tryd.pinned (.plain (OpenSpec.ofChange jsonNestsSpec)) jsonNestsCard

/-- THE TIED CARD OF 'conciergelaw18.JsonFields'. -/
def jsonFieldsCard : Claim7 := { stood := { row := jsonFieldsRow, standIns := [], harness := (true, "e9539c5e5d6c9c669dde3b2f44855885ef882b0e475868bae0d8bf3a2fafff1f"), looks := true }, kinds := [], alts := [], laidByText := true, laidKinds := [.data, .data, .data, .data, .sentinel, .sentinel, .pinned], laidTests := true, laidLooks := .later }
def JsonFieldsCardSaid : Prop := Claim7.holds Tryd.pinned (.plain (OpenSpec.ofChange jsonFieldsSpec)) jsonFieldsCard

/-- THE SECOND FORM's CARD OF 'conciergelaw18.JsonBack'. -/
def jsonBackUptoCard : Claim7 := { stood := { row := jsonBackUptoRow, standIns := [], harness := (true, "e9539c5e5d6c9c669dde3b2f44855885ef882b0e475868bae0d8bf3a2fafff1f"), looks := true }, kinds := [], alts := [], laidByText := true, laidKinds := [.data, .data, .data, .data, .sentinel, .sentinel, .pinned], laidTests := true, laidLooks := .later }
def JsonBackUptoCardSaid : Prop := Claim7.holds Tryd.pinned (.plain (OpenSpec.upto jsonBackSpec)) jsonBackUptoCard

/-- THE SECOND FORM's CARD OF 'conciergelaw18.JsonAgain'. -/
def jsonAgainUptoCard : Claim7 := { stood := { row := jsonAgainUptoRow, standIns := [], harness := (true, "e9539c5e5d6c9c669dde3b2f44855885ef882b0e475868bae0d8bf3a2fafff1f"), looks := true }, kinds := [], alts := [], laidByText := true, laidKinds := [.data, .data, .data, .data, .sentinel, .sentinel, .pinned], laidTests := true, laidLooks := .later }
def JsonAgainUptoCardSaid : Prop := Claim7.holds Tryd.pinned (.plain (OpenSpec.upto jsonAgainSpec)) jsonAgainUptoCard

/-- THE SECOND FORM's CARD OF 'conciergelaw18.JsonNests'. -/
def jsonNestsUptoCard : Claim7 := { stood := { row := jsonNestsUptoRow, standIns := [], harness := (true, "e9539c5e5d6c9c669dde3b2f44855885ef882b0e475868bae0d8bf3a2fafff1f"), looks := true }, kinds := [], alts := [], laidByText := true, laidKinds := [.data, .data, .data, .data, .sentinel, .sentinel, .pinned], laidTests := true, laidLooks := .later }
def JsonNestsUptoCardSaid : Prop := Claim7.holds Tryd.pinned (.plain (OpenSpec.upto jsonNestsSpec)) jsonNestsUptoCard

/-- THE SECOND FORM's CARD OF 'conciergelaw18.JsonFields'. -/
def jsonFieldsUptoCard : Claim7 := { stood := { row := jsonFieldsUptoRow, standIns := [], harness := (true, "e9539c5e5d6c9c669dde3b2f44855885ef882b0e475868bae0d8bf3a2fafff1f"), looks := true }, kinds := [], alts := [], laidByText := true, laidKinds := [.data, .data, .data, .data, .sentinel, .sentinel, .pinned], laidTests := true, laidLooks := .later }
def JsonFieldsUptoCardSaid : Prop := Claim7.holds Tryd.pinned (.plain (OpenSpec.upto jsonFieldsSpec)) jsonFieldsUptoCard
end Rows
end Go.Proofs.YtminegmjklehnaaDoor
