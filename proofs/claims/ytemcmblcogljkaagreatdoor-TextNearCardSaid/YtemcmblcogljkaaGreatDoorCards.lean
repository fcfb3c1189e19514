/-
  DERIVED. GIVEN WITH THE SEED: THE CARDS: each row of YtemcmblcogljkaaGreatDoorRows.lean that lists a variable, with what it lists TIED to the program's text (the seventh form; the later family's looks); each row that meets fmt, with fmt's text TOLD by the authors' own Lean function (tested against real Go, not proved from fmt's source: count such statements apart). THE CARD IS WHAT COUNTS. Prove the row's statement (the work); the ties are given (YtemcmblcogljkaaGreatDoorTie.lean); close each card by the builder's one call (the guide's Derived/Test/ToyasCard.lean, 'card_holds'). Laid BY PROGRAM, IN A SANDBOX (cutbox-door.mjs). By AI agents, Wed Nov 11 2026. No macro, syntax, notation, axiom, sorry.
-/
import Derived.Test.YtemcmblcogljkaaGreatDoorRows
import GoSem.ClaimSeven
namespace Go.Proofs.YtemcmblcogljkaaGreatDoor
namespace Rows

/-- THE TIED CARD OF 'radiolinklaw45.TextRaw'. -/
def textRawCard : Claim7 := { stood := { row := textRawRow, standIns := [], harness := (true, "6f78634bd592f86c136d438766cbe4402a5c1b9bc6be2ef46bca12942315f6e6"), looks := true }, kinds := [], alts := [], laidByText := true, laidKinds := [.data, .data, .data, .data, .sentinel, .sentinel, .pinned], laidTests := true, laidLooks := .later }
def TextRawCardSaid : Prop := Claim7.holds Tryz.pinned (.plain (OpenSpec.ofChange textRawSpec)) textRawCard

/-- THE TIED CARD OF 'radiolinklaw45.TextNear'. -/
def textNearCard : Claim7 := { stood := { row := textNearRow, standIns := [], harness := (true, "6f78634bd592f86c136d438766cbe4402a5c1b9bc6be2ef46bca12942315f6e6"), looks := true }, kinds := [], alts := [], laidByText := true, laidKinds := [.data, .data, .data, .data, .sentinel, .sentinel, .pinned], laidTests := true, laidLooks := .later }
def TextNearCardSaid : Prop := Claim7.holds Tryz.pinned (.plain (OpenSpec.ofChange textNearSpec)) textNearCard

/-- THE TIED CARD OF 'radiolinklaw45.TextFormats'. -/
def textFormatsCard : Claim7 := { stood := { row := textFormatsRow, standIns := [], harness := (true, "6f78634bd592f86c136d438766cbe4402a5c1b9bc6be2ef46bca12942315f6e6"), looks := true }, kinds := [], alts := [], laidByText := true, laidKinds := [.data, .data, .data, .data, .sentinel, .sentinel, .pinned], laidTests := true, laidLooks := .later }
def TextFormatsCardSaid : Prop := Claim7.holds Tryz.pinned (.plain (OpenSpec.ofChange textFormatsSpec)) textFormatsCard

/-- THE SECOND FORM's CARD OF 'radiolinklaw45.TextRaw'. -/
def textRawUptoCard : Claim7 := { stood := { row := textRawUptoRow, standIns := [], harness := (true, "6f78634bd592f86c136d438766cbe4402a5c1b9bc6be2ef46bca12942315f6e6"), looks := true }, kinds := [], alts := [], laidByText := true, laidKinds := [.data, .data, .data, .data, .sentinel, .sentinel, .pinned], laidTests := true, laidLooks := .later }
def TextRawUptoCardSaid : Prop := Claim7.holds Tryz.pinned (.plain (OpenSpec.upto textRawSpec)) textRawUptoCard

/-- THE SECOND FORM's CARD OF 'radiolinklaw45.TextNear'. -/
def textNearUptoCard : Claim7 := { stood := { row := textNearUptoRow, standIns := [], harness := (true, "6f78634bd592f86c136d438766cbe4402a5c1b9bc6be2ef46bca12942315f6e6"), looks := true }, kinds := [], alts := [], laidByText := true, laidKinds := [.data, .data, .data, .data, .sentinel, .sentinel, .pinned], laidTests := true, laidLooks := .later }
def TextNearUptoCardSaid : Prop := Claim7.holds Tryz.pinned (.plain (OpenSpec.upto textNearSpec)) textNearUptoCard

/-- THE SECOND FORM's CARD OF 'radiolinklaw45.TextFormats'. -/
def textFormatsUptoCard : Claim7 := { stood := { row := textFormatsUptoRow, standIns := [], harness := (true, "6f78634bd592f86c136d438766cbe4402a5c1b9bc6be2ef46bca12942315f6e6"), looks := true }, kinds := [], alts := [], laidByText := true, laidKinds := [.data, .data, .data, .data, .sentinel, .sentinel, .pinned], laidTests := true, laidLooks := .later }
def TextFormatsUptoCardSaid : Prop := Claim7.holds Tryz.pinned (.plain (OpenSpec.upto textFormatsSpec)) textFormatsUptoCard
end Rows
end Go.Proofs.YtemcmblcogljkaaGreatDoor
