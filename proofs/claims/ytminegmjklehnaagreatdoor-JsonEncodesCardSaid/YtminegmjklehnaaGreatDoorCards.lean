/-
  DERIVED. GIVEN WITH THE SEED: THE CARDS: each row of YtminegmjklehnaaGreatDoorRows.lean that lists a variable, with what it lists TIED to the program's text (the seventh form; the later family's looks); each row that meets fmt, with fmt's text TOLD by the authors' own Lean function (tested against real Go, not proved from fmt's source: count such statements apart). THE CARD IS WHAT COUNTS. Prove the row's statement (the work); the ties are given (YtminegmjklehnaaGreatDoorTie.lean); close each card by the builder's one call (the guide's Derived/Test/ToyasCard.lean, 'card_holds'). Laid BY PROGRAM, IN A SANDBOX (cutbox-door.mjs). By AI agents, Wed Nov 11 2026. No macro, syntax, notation, axiom, sorry.
-/
import Derived.Test.YtminegmjklehnaaGreatDoorRows
import GoSem.ClaimSeven
namespace Go.Proofs.YtminegmjklehnaaGreatDoor
namespace Rows

/-- THE TIED CARD OF 'conciergelaw18.JsonDecodes'. -/
def jsonDecodesCard : Claim7 := { stood := { row := jsonDecodesRow, standIns := [], harness := (true, "254fbe5fd5ab298a193bac22e62ea539073f81f34252d50dfd314b36f527055f"), looks := true }, kinds := [], alts := [], laidByText := true, laidKinds := [.data, .data, .data, .data, .sentinel, .sentinel, .pinned], laidTests := true, laidLooks := .later }
def JsonDecodesCardSaid : Prop := Claim7.holds Tryz.pinned (.plain (OpenSpec.ofChange jsonDecodesSpec)) jsonDecodesCard

/-- THE TIED CARD OF 'conciergelaw18.JsonEncodes'. -/
def jsonEncodesCard : Claim7 := { stood := { row := jsonEncodesRow, standIns := [], harness := (true, "254fbe5fd5ab298a193bac22e62ea539073f81f34252d50dfd314b36f527055f"), looks := true }, kinds := [], alts := [], laidByText := true, laidKinds := [.data, .data, .data, .data, .sentinel, .sentinel, .pinned], laidTests := true, laidLooks := .later }
def JsonEncodesCardSaid : Prop := Claim7.holds Tryz.pinned (.plain (OpenSpec.ofChange jsonEncodesSpec)) jsonEncodesCard

/-- THE TIED CARD OF 'conciergelaw18.JsonMakes'. -/
def jsonMakesCard : Claim7 := { stood := { row := jsonMakesRow, standIns := [], harness := (true, "254fbe5fd5ab298a193bac22e62ea539073f81f34252d50dfd314b36f527055f"), looks := true }, kinds := [], alts := [], laidByText := true, laidKinds := [.data, .data, .data, .data, .sentinel, .sentinel, .pinned], laidTests := true, laidLooks := .later }
def JsonMakesCardSaid : Prop := Claim7.holds Tryz.pinned (.plain (OpenSpec.ofChange jsonMakesSpec)) jsonMakesCard

/-- THE SECOND FORM's CARD OF 'conciergelaw18.JsonDecodes'. -/
def jsonDecodesUptoCard : Claim7 := { stood := { row := jsonDecodesUptoRow, standIns := [], harness := (true, "254fbe5fd5ab298a193bac22e62ea539073f81f34252d50dfd314b36f527055f"), looks := true }, kinds := [], alts := [], laidByText := true, laidKinds := [.data, .data, .data, .data, .sentinel, .sentinel, .pinned], laidTests := true, laidLooks := .later }
def JsonDecodesUptoCardSaid : Prop := Claim7.holds Tryz.pinned (.plain (OpenSpec.upto jsonDecodesSpec)) jsonDecodesUptoCard

/-- THE SECOND FORM's CARD OF 'conciergelaw18.JsonEncodes'. -/
def jsonEncodesUptoCard : Claim7 := { stood := { row := jsonEncodesUptoRow, standIns := [], harness := (true, "254fbe5fd5ab298a193bac22e62ea539073f81f34252d50dfd314b36f527055f"), looks := true }, kinds := [], alts := [], laidByText := true, laidKinds := [.data, .data, .data, .data, .sentinel, .sentinel, .pinned], laidTests := true, laidLooks := .later }
def JsonEncodesUptoCardSaid : Prop := Claim7.holds Tryz.pinned (.plain (OpenSpec.upto jsonEncodesSpec)) jsonEncodesUptoCard

/-- THE SECOND FORM's CARD OF 'conciergelaw18.JsonMakes'. -/
def jsonMakesUptoCard : Claim7 := { stood := { row := jsonMakesUptoRow, standIns := [], harness := (true, "254fbe5fd5ab298a193bac22e62ea539073f81f34252d50dfd314b36f527055f"), looks := true }, kinds := [], alts := [], laidByText := true, laidKinds := [.data, .data, .data, .data, .sentinel, .sentinel, .pinned], laidTests := true, laidLooks := .later }
def JsonMakesUptoCardSaid : Prop := Claim7.holds Tryz.pinned (.plain (OpenSpec.upto jsonMakesSpec)) jsonMakesUptoCard
end Rows
end Go.Proofs.YtminegmjklehnaaGreatDoor
