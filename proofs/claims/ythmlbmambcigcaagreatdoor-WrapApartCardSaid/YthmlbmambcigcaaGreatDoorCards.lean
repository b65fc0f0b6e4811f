/-
  DERIVED. GIVEN WITH THE SEED: THE CARDS: each row of YthmlbmambcigcaaGreatDoorRows.lean that lists a variable, with what it lists TIED to the program's text (the seventh form; the later family's looks); each row that meets fmt, with fmt's text TOLD by the authors' own Lean function (tested against real Go, not proved from fmt's source: count such statements apart). THE CARD IS WHAT COUNTS. Prove the row's statement (the work); the ties are given (YthmlbmambcigcaaGreatDoorTie.lean); close each card by the builder's one call (the guide's Derived/Test/ToyasCard.lean, 'card_holds'). Laid BY PROGRAM, IN A SANDBOX (cutbox-door.mjs). By AI agents, Wed Nov 11 2026. No macro, syntax, notation, axiom, sorry.
-/
import Derived.Test.YthmlbmambcigcaaGreatDoorRows
import GoSem.ClaimSeven
namespace Go.Proofs.YthmlbmambcigcaaGreatDoor
namespace Rows

/-- THE TIED CARD OF 'gutterlaw12.WrapPlaces'. -/
def wrapPlacesCard : Claim7 := { stood := { row := wrapPlacesRow, standIns := [], harness := (true, "b9b93de41ce2f49e4f9c88b21859eb4c675a37743eaec1b33af783c97e4d4303"), looks := true }, kinds := [], alts := [], laidByText := true, laidKinds := [.handle, .sentinel, .sentinel], laidTests := true, laidLooks := .later }
def WrapPlacesCardSaid : Prop := Claim7.holds Tryz.pinned (.plain (OpenSpec.ofChange wrapPlacesSpec)) wrapPlacesCard

/-- THE TIED CARD OF 'gutterlaw12.WrapAll'. -/
def wrapAllCard : Claim7 := { stood := { row := wrapAllRow, standIns := [], harness := (true, "b9b93de41ce2f49e4f9c88b21859eb4c675a37743eaec1b33af783c97e4d4303"), looks := true }, kinds := [], alts := [], laidByText := true, laidKinds := [.handle, .sentinel, .sentinel], laidTests := true, laidLooks := .later }
def WrapAllCardSaid : Prop := Claim7.holds Tryz.pinned (.plain (OpenSpec.ofChange wrapAllSpec)) wrapAllCard

/-- THE TIED CARD OF 'gutterlaw12.WrapBelow'. -/
def wrapBelowCard : Claim7 := { stood := { row := wrapBelowRow, standIns := [], harness := (true, "b9b93de41ce2f49e4f9c88b21859eb4c675a37743eaec1b33af783c97e4d4303"), looks := true }, kinds := [], alts := [], laidByText := true, laidKinds := [.handle, .sentinel, .sentinel], laidTests := true, laidLooks := .later }
def WrapBelowCardSaid : Prop := Claim7.holds Tryz.pinned (.plain (OpenSpec.ofChange wrapBelowSpec)) wrapBelowCard

/-- THE TIED CARD OF 'gutterlaw12.WrapHigh'. -/
def wrapHighCard : Claim7 := { stood := { row := wrapHighRow, standIns := [], harness := (true, "b9b93de41ce2f49e4f9c88b21859eb4c675a37743eaec1b33af783c97e4d4303"), looks := true }, kinds := [], alts := [], laidByText := true, laidKinds := [.handle, .sentinel, .sentinel], laidTests := true, laidLooks := .later }
def WrapHighCardSaid : Prop := Claim7.holds Tryz.pinned (.plain (OpenSpec.ofChange wrapHighSpec)) wrapHighCard

/-- THE TIED CARD OF 'gutterlaw12.WrapApart'. -/
def wrapApartCard : Claim7 := { stood := { row := wrapApartRow, standIns := [], harness := (true, "b9b93de41ce2f49e4f9c88b21859eb4c675a37743eaec1b33af783c97e4d4303"), looks := true }, kinds := [], alts := [], laidByText := true, laidKinds := [.handle, .sentinel, .sentinel], laidTests := true, laidLooks := .later }
def WrapApartCardSaid : Prop := Claim7.holds Tryz.pinned (.plain (OpenSpec.ofChange wrapApartSpec)) wrapApartCard

/-- THE TIED CARD OF 'gutterlaw12.WrapClear'. -/
def wrapClearCard : Claim7 := { stood := { row := wrapClearRow, standIns := [], harness := (true, "b9b93de41ce2f49e4f9c88b21859eb4c675a37743eaec1b33af783c97e4d4303"), looks := true }, kinds := [], alts := [], laidByText := true, laidKinds := [.handle, .sentinel, .sentinel], laidTests := true, laidLooks := .later }
def WrapClearCardSaid : Prop := Claim7.holds Tryz.pinned (.plain (OpenSpec.ofChange wrapClearSpec)) wrapClearCard

/-- THE TIED CARD OF 'gutterlaw12.WrapRects'. -/
def wrapRectsCard : Claim7 := { stood := { row := wrapRectsRow, standIns := [], harness := (true, "b9b93de41ce2f49e4f9c88b21859eb4c675a37743eaec1b33af783c97e4d4303"), looks := true }, kinds := [], alts := [], laidByText := true, laidKinds := [.handle, .sentinel, .sentinel], laidTests := true, laidLooks := .later }
def WrapRectsCardSaid : Prop := Claim7.holds Tryz.pinned (.plain (OpenSpec.ofChange wrapRectsSpec)) wrapRectsCard

/-- THE TIED CARD OF 'gutterlaw12.WrapPlain'. -/
def wrapPlainCard : Claim7 := { stood := { row := wrapPlainRow, standIns := [], harness := (true, "b9b93de41ce2f49e4f9c88b21859eb4c675a37743eaec1b33af783c97e4d4303"), looks := true }, kinds := [], alts := [], laidByText := true, laidKinds := [.handle, .sentinel, .sentinel], laidTests := true, laidLooks := .later }
def WrapPlainCardSaid : Prop := Claim7.holds Tryz.pinned (.plain (OpenSpec.ofChange wrapPlainSpec)) wrapPlainCard

/-- THE SECOND FORM's CARD OF 'gutterlaw12.WrapPlaces'. -/
def wrapPlacesUptoCard : Claim7 := { stood := { row := wrapPlacesUptoRow, standIns := [], harness := (true, "b9b93de41ce2f49e4f9c88b21859eb4c675a37743eaec1b33af783c97e4d4303"), looks := true }, kinds := [], alts := [], laidByText := true, laidKinds := [.handle, .sentinel, .sentinel], laidTests := true, laidLooks := .later }
def WrapPlacesUptoCardSaid : Prop := Claim7.holds Tryz.pinned (.plain (OpenSpec.upto wrapPlacesSpec)) wrapPlacesUptoCard

/-- THE SECOND FORM's CARD OF 'gutterlaw12.WrapAll'. -/
def wrapAllUptoCard : Claim7 := { stood := { row := wrapAllUptoRow, standIns := [], harness := (true, "b9b93de41ce2f49e4f9c88b21859eb4c675a37743eaec1b33af783c97e4d4303"), looks := true }, kinds := [], alts := [], laidByText := true, laidKinds := [.handle, .sentinel, .sentinel], laidTests := true, laidLooks := .later }
def WrapAllUptoCardSaid : Prop := Claim7.holds Tryz.pinned (.plain (OpenSpec.upto wrapAllSpec)) wrapAllUptoCard

/-- THE SECOND FORM's CARD OF 'gutterlaw12.WrapBelow'. -/
def wrapBelowUptoCard : Claim7 := { stood := { row := wrapBelowUptoRow, standIns := [], harness := (true, "b9b93de41ce2f49e4f9c88b21859eb4c675a37743eaec1b33af783c97e4d4303"), looks := true }, kinds := [], alts := [], laidByText := true, laidKinds := [.handle, .sentinel, .sentinel], laidTests := true, laidLooks := .later }
def WrapBelowUptoCardSaid : Prop := Claim7.holds Tryz.pinned (.plain (OpenSpec.upto wrapBelowSpec)) wrapBelowUptoCard

/-- THE SECOND FORM's CARD OF 'gutterlaw12.WrapHigh'. -/
def wrapHighUptoCard : Claim7 := { stood := { row := wrapHighUptoRow, standIns := [], harness := (true, "b9b93de41ce2f49e4f9c88b21859eb4c675a37743eaec1b33af783c97e4d4303"), looks := true }, kinds := [], alts := [], laidByText := true, laidKinds := [.handle, .sentinel, .sentinel], laidTests := true, laidLooks := .later }
def WrapHighUptoCardSaid : Prop := Claim7.holds Tryz.pinned (.plain (OpenSpec.upto wrapHighSpec)) wrapHighUptoCard

/-- THE SECOND FORM's CARD OF 'gutterlaw12.WrapApart'. -/
def wrapApartUptoCard : Claim7 := { stood := { row := wrapApartUptoRow, standIns := [], harness := (true, "b9b93de41ce2f49e4f9c88b21859eb4c675a37743eaec1b33af783c97e4d4303"), looks := true }, kinds := [], alts := [], laidByText := true, laidKinds := [.handle, .sentinel, .sentinel], laidTests := true, laidLooks := .later }
def WrapApartUptoCardSaid : Prop := Claim7.holds Tryz.pinned (.plain (OpenSpec.upto wrapApartSpec)) wrapApartUptoCard

/-- THE SECOND FORM's CARD OF 'gutterlaw12.WrapClear'. -/
def wrapClearUptoCard : Claim7 := { stood := { row := wrapClearUptoRow, standIns := [], harness := (true, "b9b93de41ce2f49e4f9c88b21859eb4c675a37743eaec1b33af783c97e4d4303"), looks := true }, kinds := [], alts := [], laidByText := true, laidKinds := [.handle, .sentinel, .sentinel], laidTests := true, laidLooks := .later }
def WrapClearUptoCardSaid : Prop := Claim7.holds Tryz.pinned (.plain (OpenSpec.upto wrapClearSpec)) wrapClearUptoCard

/-- THE SECOND FORM's CARD OF 'gutterlaw12.WrapRects'. -/
def wrapRectsUptoCard : Claim7 := { stood := { row := wrapRectsUptoRow, standIns := [], harness := (true, "b9b93de41ce2f49e4f9c88b21859eb4c675a37743eaec1b33af783c97e4d4303"), looks := true }, kinds := [], alts := [], laidByText := true, laidKinds := [.handle, .sentinel, .sentinel], laidTests := true, laidLooks := .later }
def WrapRectsUptoCardSaid : Prop := Claim7.holds Tryz.pinned (.plain (OpenSpec.upto wrapRectsSpec)) wrapRectsUptoCard

/-- THE SECOND FORM's CARD OF 'gutterlaw12.WrapPlain'. -/
def wrapPlainUptoCard : Claim7 := { stood := { row := wrapPlainUptoRow, standIns := [], harness := (true, "b9b93de41ce2f49e4f9c88b21859eb4c675a37743eaec1b33af783c97e4d4303"), looks := true }, kinds := [], alts := [], laidByText := true, laidKinds := [.handle, .sentinel, .sentinel], laidTests := true, laidLooks := .later }
def WrapPlainUptoCardSaid : Prop := Claim7.holds Tryz.pinned (.plain (OpenSpec.upto wrapPlainSpec)) wrapPlainUptoCard
end Rows
end Go.Proofs.YthmlbmambcigcaaGreatDoor
