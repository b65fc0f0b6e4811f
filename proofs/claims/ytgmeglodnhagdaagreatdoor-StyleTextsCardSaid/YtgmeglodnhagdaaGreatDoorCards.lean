/-
  DERIVED. GIVEN WITH THE SEED: THE CARDS: each row of YtgmeglodnhagdaaGreatDoorRows.lean that lists a variable, with what it lists TIED to the program's text (the seventh form; the later family's looks); each row that meets fmt, with fmt's text TOLD by the authors' own Lean function (tested against real Go, not proved from fmt's source: count such statements apart). THE CARD IS WHAT COUNTS. Prove the row's statement (the work); the ties are given (YtgmeglodnhagdaaGreatDoorTie.lean); close each card by the builder's one call (the guide's Derived/Test/ToyasCard.lean, 'card_holds'). Laid BY PROGRAM, IN A SANDBOX (cutbox-door.mjs). By AI agents, Wed Nov 11 2026. No macro, syntax, notation, axiom, sorry.
-/
import Derived.Test.YtgmeglodnhagdaaGreatDoorRows
import GoSem.ClaimSeven
namespace Go.Proofs.YtgmeglodnhagdaaGreatDoor
namespace Rows

/-- THE TIED CARD OF 'gutterlaw04.StyleTexts'. -/
def styleTextsCard : Claim7 := { stood := { row := styleTextsRow, standIns := [], harness := (true, "8ea64fb52aacda3a23f79f756301527785cda9130b243d210bb90a5bc2dbdbfb"), looks := true }, kinds := [], alts := [], laidByText := true, laidKinds := [.data, .data, .data, .data, .handle, .sentinel, .sentinel, .sentinel, .sentinel, .sentinel, .sentinel, .pinned], laidTests := true, laidLooks := .later }
def StyleTextsCardSaid : Prop := Claim7.holds Tryz.pinned (.plain (OpenSpec.ofChange styleTextsSpec)) styleTextsCard

/-- THE TIED CARD OF 'gutterlaw04.StyleBack'. -/
def styleBackCard : Claim7 := { stood := { row := styleBackRow, standIns := [], harness := (true, "8ea64fb52aacda3a23f79f756301527785cda9130b243d210bb90a5bc2dbdbfb"), looks := true }, kinds := [], alts := [], laidByText := true, laidKinds := [.data, .data, .data, .data, .handle, .sentinel, .sentinel, .sentinel, .sentinel, .sentinel, .sentinel, .pinned], laidTests := true, laidLooks := .later }
def StyleBackCardSaid : Prop := Claim7.holds Tryz.pinned (.plain (OpenSpec.ofChange styleBackSpec)) styleBackCard

/-- THE TIED CARD OF 'gutterlaw04.StyleTells'. -/
def styleTellsCard : Claim7 := { stood := { row := styleTellsRow, standIns := [], harness := (true, "8ea64fb52aacda3a23f79f756301527785cda9130b243d210bb90a5bc2dbdbfb"), looks := true }, kinds := [], alts := [], laidByText := true, laidKinds := [.data, .data, .data, .data, .handle, .sentinel, .sentinel, .sentinel, .sentinel, .sentinel, .sentinel, .pinned], laidTests := true, laidLooks := .later }
def StyleTellsCardSaid : Prop := Claim7.holds Tryz.pinned (.plain (OpenSpec.ofChange styleTellsSpec)) styleTellsCard

/-- THE TIED CARD OF 'gutterlaw04.StyleDiffers'. -/
def styleDiffersCard : Claim7 := { stood := { row := styleDiffersRow, standIns := [], harness := (true, "8ea64fb52aacda3a23f79f756301527785cda9130b243d210bb90a5bc2dbdbfb"), looks := true }, kinds := [], alts := [], laidByText := true, laidKinds := [.data, .data, .data, .data, .handle, .sentinel, .sentinel, .sentinel, .sentinel, .sentinel, .sentinel, .pinned], laidTests := true, laidLooks := .later }
def StyleDiffersCardSaid : Prop := Claim7.holds Tryz.pinned (.plain (OpenSpec.ofChange styleDiffersSpec)) styleDiffersCard

/-- THE TIED CARD OF 'gutterlaw04.StylePlaces'. -/
def stylePlacesCard : Claim7 := { stood := { row := stylePlacesRow, standIns := [], harness := (true, "8ea64fb52aacda3a23f79f756301527785cda9130b243d210bb90a5bc2dbdbfb"), looks := true }, kinds := [], alts := [], laidByText := true, laidKinds := [.data, .data, .data, .data, .handle, .sentinel, .sentinel, .sentinel, .sentinel, .sentinel, .sentinel, .pinned], laidTests := true, laidLooks := .later }
def StylePlacesCardSaid : Prop := Claim7.holds Tryz.pinned (.plain (OpenSpec.ofChange stylePlacesSpec)) stylePlacesCard

/-- THE TIED CARD OF 'gutterlaw04.StyleParts'. -/
def stylePartsCard : Claim7 := { stood := { row := stylePartsRow, standIns := [], harness := (true, "8ea64fb52aacda3a23f79f756301527785cda9130b243d210bb90a5bc2dbdbfb"), looks := true }, kinds := [], alts := [], laidByText := true, laidKinds := [.data, .data, .data, .data, .handle, .sentinel, .sentinel, .sentinel, .sentinel, .sentinel, .sentinel, .pinned], laidTests := true, laidLooks := .later }
def StylePartsCardSaid : Prop := Claim7.holds Tryz.pinned (.plain (OpenSpec.ofChange stylePartsSpec)) stylePartsCard

/-- THE SECOND FORM's CARD OF 'gutterlaw04.StyleTexts'. -/
def styleTextsUptoCard : Claim7 := { stood := { row := styleTextsUptoRow, standIns := [], harness := (true, "8ea64fb52aacda3a23f79f756301527785cda9130b243d210bb90a5bc2dbdbfb"), looks := true }, kinds := [], alts := [], laidByText := true, laidKinds := [.data, .data, .data, .data, .handle, .sentinel, .sentinel, .sentinel, .sentinel, .sentinel, .sentinel, .pinned], laidTests := true, laidLooks := .later }
def StyleTextsUptoCardSaid : Prop := Claim7.holds Tryz.pinned (.plain (OpenSpec.upto styleTextsSpec)) styleTextsUptoCard

/-- THE SECOND FORM's CARD OF 'gutterlaw04.StyleBack'. -/
def styleBackUptoCard : Claim7 := { stood := { row := styleBackUptoRow, standIns := [], harness := (true, "8ea64fb52aacda3a23f79f756301527785cda9130b243d210bb90a5bc2dbdbfb"), looks := true }, kinds := [], alts := [], laidByText := true, laidKinds := [.data, .data, .data, .data, .handle, .sentinel, .sentinel, .sentinel, .sentinel, .sentinel, .sentinel, .pinned], laidTests := true, laidLooks := .later }
def StyleBackUptoCardSaid : Prop := Claim7.holds Tryz.pinned (.plain (OpenSpec.upto styleBackSpec)) styleBackUptoCard

/-- THE SECOND FORM's CARD OF 'gutterlaw04.StyleTells'. -/
def styleTellsUptoCard : Claim7 := { stood := { row := styleTellsUptoRow, standIns := [], harness := (true, "8ea64fb52aacda3a23f79f756301527785cda9130b243d210bb90a5bc2dbdbfb"), looks := true }, kinds := [], alts := [], laidByText := true, laidKinds := [.data, .data, .data, .data, .handle, .sentinel, .sentinel, .sentinel, .sentinel, .sentinel, .sentinel, .pinned], laidTests := true, laidLooks := .later }
def StyleTellsUptoCardSaid : Prop := Claim7.holds Tryz.pinned (.plain (OpenSpec.upto styleTellsSpec)) styleTellsUptoCard

/-- THE SECOND FORM's CARD OF 'gutterlaw04.StyleDiffers'. -/
def styleDiffersUptoCard : Claim7 := { stood := { row := styleDiffersUptoRow, standIns := [], harness := (true, "8ea64fb52aacda3a23f79f756301527785cda9130b243d210bb90a5bc2dbdbfb"), looks := true }, kinds := [], alts := [], laidByText := true, laidKinds := [.data, .data, .data, .data, .handle, .sentinel, .sentinel, .sentinel, .sentinel, .sentinel, .sentinel, .pinned], laidTests := true, laidLooks := .later }
def StyleDiffersUptoCardSaid : Prop := Claim7.holds Tryz.pinned (.plain (OpenSpec.upto styleDiffersSpec)) styleDiffersUptoCard

/-- THE SECOND FORM's CARD OF 'gutterlaw04.StylePlaces'. -/
def stylePlacesUptoCard : Claim7 := { stood := { row := stylePlacesUptoRow, standIns := [], harness := (true, "8ea64fb52aacda3a23f79f756301527785cda9130b243d210bb90a5bc2dbdbfb"), looks := true }, kinds := [], alts := [], laidByText := true, laidKinds := [.data, .data, .data, .data, .handle, .sentinel, .sentinel, .sentinel, .sentinel, .sentinel, .sentinel, .pinned], laidTests := true, laidLooks := .later }
def StylePlacesUptoCardSaid : Prop := Claim7.holds Tryz.pinned (.plain (OpenSpec.upto stylePlacesSpec)) stylePlacesUptoCard

/-- THE SECOND FORM's CARD OF 'gutterlaw04.StyleParts'. -/
def stylePartsUptoCard : Claim7 := { stood := { row := stylePartsUptoRow, standIns := [], harness := (true, "8ea64fb52aacda3a23f79f756301527785cda9130b243d210bb90a5bc2dbdbfb"), looks := true }, kinds := [], alts := [], laidByText := true, laidKinds := [.data, .data, .data, .data, .handle, .sentinel, .sentinel, .sentinel, .sentinel, .sentinel, .sentinel, .pinned], laidTests := true, laidLooks := .later }
def StylePartsUptoCardSaid : Prop := Claim7.holds Tryz.pinned (.plain (OpenSpec.upto stylePartsSpec)) stylePartsUptoCard
end Rows
end Go.Proofs.YtgmeglodnhagdaaGreatDoor
