/-
  DERIVED. GIVEN WITH THE SEED: THE CARDS: each row of YteaapekkoahilaaDoorRows.lean that lists a variable, with what it lists TIED to the program's text (the seventh form; the later family's looks); each row that meets fmt, with fmt's text TOLD by the authors' own Lean function (tested against real Go, not proved from fmt's source: count such statements apart). THE CARD IS WHAT COUNTS. Prove the row's statement (the work); the ties are given (YteaapekkoahilaaDoorTie.lean); close each card by the builder's one call (the guide's Derived/Test/ToyasCard.lean, 'card_holds'). Laid BY PROGRAM, IN A SANDBOX (cutbox-door.mjs). By AI agents, Wed Nov 11 2026. No macro, syntax, notation, axiom, sorry.
-/
import Derived.Test.YteaapekkoahilaaDoorRows
import GoSem.ClaimSeven
namespace Go.Proofs.YteaapekkoahilaaDoor
namespace Rows

/-- THE TIED CARD OF 'conciergelaw01.NumHexes'. -/
def numHexesCard : Claim7 := { stood := { row := numHexesRow, standIns := [], harness := (true, "a41a18ef3bca24287954487704738a87ef9de160ae437d1899b62128eb2487a5"), looks := true }, kinds := [], alts := [], laidByText := true, laidKinds := [.data, .data, .data], laidTests := true, laidLooks := .later }
def NumHexesCardSaid : Prop := Claim7.holds Tryd.pinned (.plain (OpenSpec.ofChange numHexesSpec)) numHexesCard

/-- THE TIED CARD OF 'conciergelaw01.NumGroups'. -/
def numGroupsCard : Claim7 := { stood := { row := numGroupsRow, standIns := [], harness := (true, "a41a18ef3bca24287954487704738a87ef9de160ae437d1899b62128eb2487a5"), looks := true }, kinds := [], alts := [], laidByText := true, laidKinds := [.data, .data, .data], laidTests := true, laidLooks := .later }
def NumGroupsCardSaid : Prop := Claim7.holds Tryd.pinned (.plain (OpenSpec.ofChange numGroupsSpec)) numGroupsCard

/-- THE TIED CARD OF 'conciergelaw01.NumSums'. -/
def numSumsCard : Claim7 := { stood := { row := numSumsRow, standIns := [], harness := (true, "a41a18ef3bca24287954487704738a87ef9de160ae437d1899b62128eb2487a5"), looks := true }, kinds := [], alts := [], laidByText := true, laidKinds := [.data, .data, .data], laidTests := true, laidLooks := .later }
def NumSumsCardSaid : Prop := Claim7.holds Tryd.pinned (.plain (OpenSpec.ofChange numSumsSpec)) numSumsCard

/-- THE TIED CARD OF 'conciergelaw01.NumOrders'. -/
def numOrdersCard : Claim7 := { stood := { row := numOrdersRow, standIns := [], harness := (true, "a41a18ef3bca24287954487704738a87ef9de160ae437d1899b62128eb2487a5"), looks := true }, kinds := [], alts := [], laidByText := true, laidKinds := [.data, .data, .data], laidTests := true, laidLooks := .later }
def NumOrdersCardSaid : Prop := Claim7.holds Tryd.pinned (.plain (OpenSpec.ofChange numOrdersSpec)) numOrdersCard

/-- THE TIED CARD OF 'conciergelaw01.NumChanges'. -/
def numChangesCard : Claim7 := { stood := { row := numChangesRow, standIns := [], harness := (true, "a41a18ef3bca24287954487704738a87ef9de160ae437d1899b62128eb2487a5"), looks := true }, kinds := [], alts := [], laidByText := true, laidKinds := [.data, .data, .data], laidTests := true, laidLooks := .later }
def NumChangesCardSaid : Prop := Claim7.holds Tryd.pinned (.plain (OpenSpec.ofChange numChangesSpec)) numChangesCard

/-- THE TIED CARD OF 'conciergelaw01.NumWides'. -/
def numWidesCard : Claim7 := { stood := { row := numWidesRow, standIns := [], harness := (true, "a41a18ef3bca24287954487704738a87ef9de160ae437d1899b62128eb2487a5"), looks := true }, kinds := [], alts := [], laidByText := true, laidKinds := [.data, .data, .data], laidTests := true, laidLooks := .later }
def NumWidesCardSaid : Prop := Claim7.holds Tryd.pinned (.plain (OpenSpec.ofChange numWidesSpec)) numWidesCard

/-- THE TIED CARD OF 'conciergelaw01.NumShows'. -/
def numShowsCard : Claim7 := { stood := { row := numShowsRow, standIns := [], harness := (true, "a41a18ef3bca24287954487704738a87ef9de160ae437d1899b62128eb2487a5"), looks := true }, kinds := [], alts := [], laidByText := true, laidKinds := [.data, .data, .data, .sentinel, .sentinel], laidTests := true, laidLooks := .later }
def NumShowsCardSaid : Prop := Claim7.holds Tryd.pinned (.plain (OpenSpec.ofChange numShowsSpec)) numShowsCard

/-- THE TIED CARD OF 'conciergelaw01.NumBack'. -/
def numBackCard : Claim7 := { stood := { row := numBackRow, standIns := [], harness := (true, "a41a18ef3bca24287954487704738a87ef9de160ae437d1899b62128eb2487a5"), looks := true }, kinds := [], alts := [], laidByText := true, laidKinds := [.data, .data, .data, .sentinel, .sentinel], laidTests := true, laidLooks := .later }
def NumBackCardSaid : Prop := Claim7.holds Tryd.pinned (.plain (OpenSpec.ofChange numBackSpec)) numBackCard

/-- THE SECOND FORM's CARD OF 'conciergelaw01.NumHexes'. -/
def numHexesUptoCard : Claim7 := { stood := { row := numHexesUptoRow, standIns := [], harness := (true, "a41a18ef3bca24287954487704738a87ef9de160ae437d1899b62128eb2487a5"), looks := true }, kinds := [], alts := [], laidByText := true, laidKinds := [.data, .data, .data], laidTests := true, laidLooks := .later }
def NumHexesUptoCardSaid : Prop := Claim7.holds Tryd.pinned (.plain (OpenSpec.upto numHexesSpec)) numHexesUptoCard

/-- THE SECOND FORM's CARD OF 'conciergelaw01.NumGroups'. -/
def numGroupsUptoCard : Claim7 := { stood := { row := numGroupsUptoRow, standIns := [], harness := (true, "a41a18ef3bca24287954487704738a87ef9de160ae437d1899b62128eb2487a5"), looks := true }, kinds := [], alts := [], laidByText := true, laidKinds := [.data, .data, .data], laidTests := true, laidLooks := .later }
def NumGroupsUptoCardSaid : Prop := Claim7.holds Tryd.pinned (.plain (OpenSpec.upto numGroupsSpec)) numGroupsUptoCard

/-- THE SECOND FORM's CARD OF 'conciergelaw01.NumSums'. -/
def numSumsUptoCard : Claim7 := { stood := { row := numSumsUptoRow, standIns := [], harness := (true, "a41a18ef3bca24287954487704738a87ef9de160ae437d1899b62128eb2487a5"), looks := true }, kinds := [], alts := [], laidByText := true, laidKinds := [.data, .data, .data], laidTests := true, laidLooks := .later }
def NumSumsUptoCardSaid : Prop := Claim7.holds Tryd.pinned (.plain (OpenSpec.upto numSumsSpec)) numSumsUptoCard

/-- THE SECOND FORM's CARD OF 'conciergelaw01.NumOrders'. -/
def numOrdersUptoCard : Claim7 := { stood := { row := numOrdersUptoRow, standIns := [], harness := (true, "a41a18ef3bca24287954487704738a87ef9de160ae437d1899b62128eb2487a5"), looks := true }, kinds := [], alts := [], laidByText := true, laidKinds := [.data, .data, .data], laidTests := true, laidLooks := .later }
def NumOrdersUptoCardSaid : Prop := Claim7.holds Tryd.pinned (.plain (OpenSpec.upto numOrdersSpec)) numOrdersUptoCard

/-- THE SECOND FORM's CARD OF 'conciergelaw01.NumChanges'. -/
def numChangesUptoCard : Claim7 := { stood := { row := numChangesUptoRow, standIns := [], harness := (true, "a41a18ef3bca24287954487704738a87ef9de160ae437d1899b62128eb2487a5"), looks := true }, kinds := [], alts := [], laidByText := true, laidKinds := [.data, .data, .data], laidTests := true, laidLooks := .later }
def NumChangesUptoCardSaid : Prop := Claim7.holds Tryd.pinned (.plain (OpenSpec.upto numChangesSpec)) numChangesUptoCard

/-- THE SECOND FORM's CARD OF 'conciergelaw01.NumWides'. -/
def numWidesUptoCard : Claim7 := { stood := { row := numWidesUptoRow, standIns := [], harness := (true, "a41a18ef3bca24287954487704738a87ef9de160ae437d1899b62128eb2487a5"), looks := true }, kinds := [], alts := [], laidByText := true, laidKinds := [.data, .data, .data], laidTests := true, laidLooks := .later }
def NumWidesUptoCardSaid : Prop := Claim7.holds Tryd.pinned (.plain (OpenSpec.upto numWidesSpec)) numWidesUptoCard

/-- THE SECOND FORM's CARD OF 'conciergelaw01.NumShows'. -/
def numShowsUptoCard : Claim7 := { stood := { row := numShowsUptoRow, standIns := [], harness := (true, "a41a18ef3bca24287954487704738a87ef9de160ae437d1899b62128eb2487a5"), looks := true }, kinds := [], alts := [], laidByText := true, laidKinds := [.data, .data, .data, .sentinel, .sentinel], laidTests := true, laidLooks := .later }
def NumShowsUptoCardSaid : Prop := Claim7.holds Tryd.pinned (.plain (OpenSpec.upto numShowsSpec)) numShowsUptoCard

/-- THE SECOND FORM's CARD OF 'conciergelaw01.NumBack'. -/
def numBackUptoCard : Claim7 := { stood := { row := numBackUptoRow, standIns := [], harness := (true, "a41a18ef3bca24287954487704738a87ef9de160ae437d1899b62128eb2487a5"), looks := true }, kinds := [], alts := [], laidByText := true, laidKinds := [.data, .data, .data, .sentinel, .sentinel], laidTests := true, laidLooks := .later }
def NumBackUptoCardSaid : Prop := Claim7.holds Tryd.pinned (.plain (OpenSpec.upto numBackSpec)) numBackUptoCard
end Rows
end Go.Proofs.YteaapekkoahilaaDoor
