/-
  DERIVED. GIVEN WITH THE SEED: THE CARDS: each row of YthgjhfcafdepcaaGreatDoorRows.lean that lists a variable, with what it lists TIED to the program's text (the seventh form; the later family's looks); each row that meets fmt, with fmt's text TOLD by the authors' own Lean function (tested against real Go, not proved from fmt's source: count such statements apart). THE CARD IS WHAT COUNTS. Prove the row's statement (the work); the ties are given (YthgjhfcafdepcaaGreatDoorTie.lean); close each card by the builder's one call (the guide's Derived/Test/ToyasCard.lean, 'card_holds'). Laid BY PROGRAM, IN A SANDBOX (cutbox-door.mjs). By AI agents, Wed Nov 11 2026. No macro, syntax, notation, axiom, sorry.
-/
import Derived.Test.YthgjhfcafdepcaaGreatDoorRows
import GoSem.ClaimSeven
namespace Go.Proofs.YthgjhfcafdepcaaGreatDoor
namespace Rows

/-- THE TIED CARD OF 'conciergelaw20.TokenSigns'. -/
def tokenSignsCard : Claim7 := { stood := { row := tokenSignsRow, standIns := [], harness := (true, "0672a2c5992969f63efe8e84c8f9426b483da1b23ad69f3d77d41037b79bd346"), looks := true }, kinds := [], alts := [], laidByText := true, laidKinds := [.data, .data, .data, .data, .sentinel, .sentinel, .pinned], laidTests := true, laidLooks := .later }
def TokenSignsCardSaid : Prop := Claim7.holds Tryz.pinned (.plain (OpenSpec.ofChange tokenSignsSpec)) tokenSignsCard

/-- THE TIED CARD OF 'conciergelaw20.TokenReads'. -/
def tokenReadsCard : Claim7 := { stood := { row := tokenReadsRow, standIns := [], harness := (true, "0672a2c5992969f63efe8e84c8f9426b483da1b23ad69f3d77d41037b79bd346"), looks := true }, kinds := [], alts := [], laidByText := true, laidKinds := [.data, .data, .data, .data, .sentinel, .sentinel, .pinned], laidTests := true, laidLooks := .later }
def TokenReadsCardSaid : Prop := Claim7.holds Tryz.pinned (.plain (OpenSpec.ofChange tokenReadsSpec)) tokenReadsCard

/-- THE TIED CARD OF 'conciergelaw20.TokenVerifies'. -/
def tokenVerifiesCard : Claim7 := { stood := { row := tokenVerifiesRow, standIns := [], harness := (true, "0672a2c5992969f63efe8e84c8f9426b483da1b23ad69f3d77d41037b79bd346"), looks := true }, kinds := [], alts := [], laidByText := true, laidKinds := [.data, .data, .data, .data, .sentinel, .sentinel, .pinned], laidTests := true, laidLooks := .later }
def TokenVerifiesCardSaid : Prop := Claim7.holds Tryz.pinned (.plain (OpenSpec.ofChange tokenVerifiesSpec)) tokenVerifiesCard

/-- THE TIED CARD OF 'conciergelaw20.TokenBack'. -/
def tokenBackCard : Claim7 := { stood := { row := tokenBackRow, standIns := [], harness := (true, "0672a2c5992969f63efe8e84c8f9426b483da1b23ad69f3d77d41037b79bd346"), looks := true }, kinds := [], alts := [], laidByText := true, laidKinds := [.data, .data, .data, .data, .sentinel, .sentinel, .pinned], laidTests := true, laidLooks := .later }
def TokenBackCardSaid : Prop := Claim7.holds Tryz.pinned (.plain (OpenSpec.ofChange tokenBackSpec)) tokenBackCard

/-- THE TIED CARD OF 'conciergelaw20.TokenAgain'. -/
def tokenAgainCard : Claim7 := { stood := { row := tokenAgainRow, standIns := [], harness := (true, "0672a2c5992969f63efe8e84c8f9426b483da1b23ad69f3d77d41037b79bd346"), looks := true }, kinds := [], alts := [], laidByText := true, laidKinds := [.data, .data, .data, .data, .sentinel, .sentinel, .pinned], laidTests := true, laidLooks := .later }
def TokenAgainCardSaid : Prop := Claim7.holds Tryz.pinned (.plain (OpenSpec.ofChange tokenAgainSpec)) tokenAgainCard

/-- THE TIED CARD OF 'conciergelaw20.TokenKeys'. -/
def tokenKeysCard : Claim7 := { stood := { row := tokenKeysRow, standIns := [], harness := (true, "0672a2c5992969f63efe8e84c8f9426b483da1b23ad69f3d77d41037b79bd346"), looks := true }, kinds := [], alts := [], laidByText := true, laidKinds := [.data, .data, .data, .data, .sentinel, .sentinel, .pinned], laidTests := true, laidLooks := .later }
def TokenKeysCardSaid : Prop := Claim7.holds Tryz.pinned (.plain (OpenSpec.ofChange tokenKeysSpec)) tokenKeysCard

/-- THE SECOND FORM's CARD OF 'conciergelaw20.TokenSigns'. -/
def tokenSignsUptoCard : Claim7 := { stood := { row := tokenSignsUptoRow, standIns := [], harness := (true, "0672a2c5992969f63efe8e84c8f9426b483da1b23ad69f3d77d41037b79bd346"), looks := true }, kinds := [], alts := [], laidByText := true, laidKinds := [.data, .data, .data, .data, .sentinel, .sentinel, .pinned], laidTests := true, laidLooks := .later }
def TokenSignsUptoCardSaid : Prop := Claim7.holds Tryz.pinned (.plain (OpenSpec.upto tokenSignsSpec)) tokenSignsUptoCard

/-- THE SECOND FORM's CARD OF 'conciergelaw20.TokenReads'. -/
def tokenReadsUptoCard : Claim7 := { stood := { row := tokenReadsUptoRow, standIns := [], harness := (true, "0672a2c5992969f63efe8e84c8f9426b483da1b23ad69f3d77d41037b79bd346"), looks := true }, kinds := [], alts := [], laidByText := true, laidKinds := [.data, .data, .data, .data, .sentinel, .sentinel, .pinned], laidTests := true, laidLooks := .later }
def TokenReadsUptoCardSaid : Prop := Claim7.holds Tryz.pinned (.plain (OpenSpec.upto tokenReadsSpec)) tokenReadsUptoCard

/-- THE SECOND FORM's CARD OF 'conciergelaw20.TokenVerifies'. -/
def tokenVerifiesUptoCard : Claim7 := { stood := { row := tokenVerifiesUptoRow, standIns := [], harness := (true, "0672a2c5992969f63efe8e84c8f9426b483da1b23ad69f3d77d41037b79bd346"), looks := true }, kinds := [], alts := [], laidByText := true, laidKinds := [.data, .data, .data, .data, .sentinel, .sentinel, .pinned], laidTests := true, laidLooks := .later }
def TokenVerifiesUptoCardSaid : Prop := Claim7.holds Tryz.pinned (.plain (OpenSpec.upto tokenVerifiesSpec)) tokenVerifiesUptoCard

/-- THE SECOND FORM's CARD OF 'conciergelaw20.TokenBack'. -/
def tokenBackUptoCard : Claim7 := { stood := { row := tokenBackUptoRow, standIns := [], harness := (true, "0672a2c5992969f63efe8e84c8f9426b483da1b23ad69f3d77d41037b79bd346"), looks := true }, kinds := [], alts := [], laidByText := true, laidKinds := [.data, .data, .data, .data, .sentinel, .sentinel, .pinned], laidTests := true, laidLooks := .later }
def TokenBackUptoCardSaid : Prop := Claim7.holds Tryz.pinned (.plain (OpenSpec.upto tokenBackSpec)) tokenBackUptoCard

/-- THE SECOND FORM's CARD OF 'conciergelaw20.TokenAgain'. -/
def tokenAgainUptoCard : Claim7 := { stood := { row := tokenAgainUptoRow, standIns := [], harness := (true, "0672a2c5992969f63efe8e84c8f9426b483da1b23ad69f3d77d41037b79bd346"), looks := true }, kinds := [], alts := [], laidByText := true, laidKinds := [.data, .data, .data, .data, .sentinel, .sentinel, .pinned], laidTests := true, laidLooks := .later }
def TokenAgainUptoCardSaid : Prop := Claim7.holds Tryz.pinned (.plain (OpenSpec.upto tokenAgainSpec)) tokenAgainUptoCard

/-- THE SECOND FORM's CARD OF 'conciergelaw20.TokenKeys'. -/
def tokenKeysUptoCard : Claim7 := { stood := { row := tokenKeysUptoRow, standIns := [], harness := (true, "0672a2c5992969f63efe8e84c8f9426b483da1b23ad69f3d77d41037b79bd346"), looks := true }, kinds := [], alts := [], laidByText := true, laidKinds := [.data, .data, .data, .data, .sentinel, .sentinel, .pinned], laidTests := true, laidLooks := .later }
def TokenKeysUptoCardSaid : Prop := Claim7.holds Tryz.pinned (.plain (OpenSpec.upto tokenKeysSpec)) tokenKeysUptoCard
end Rows
end Go.Proofs.YthgjhfcafdepcaaGreatDoor
