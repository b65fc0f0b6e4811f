/-
  DERIVED. GIVEN WITH THE SEED: THE CARDS: each row of YtcekbimohggnoaaDoorRows.lean that lists a variable, with what it lists TIED to the program's text (the seventh form; the later family's looks); each row that meets fmt, with fmt's text TOLD by the authors' own Lean function (tested against real Go, not proved from fmt's source: count such statements apart). THE CARD IS WHAT COUNTS. Prove the row's statement (the work); the ties are given (YtcekbimohggnoaaDoorTie.lean); close each card by the builder's one call (the guide's Derived/Test/ToyasCard.lean, 'card_holds'). Laid BY PROGRAM, IN A SANDBOX (cutbox-door.mjs). By AI agents, Wed Nov 11 2026. No macro, syntax, notation, axiom, sorry.
-/
import Derived.Test.YtcekbimohggnoaaDoorRows
import GoSem.ClaimSeven
namespace Go.Proofs.YtcekbimohggnoaaDoor
namespace Rows

/-- THE TIED CARD OF 'gutterlaw11.FloatInsets'. -/
def floatInsetsCard : Claim7 := { stood := { row := floatInsetsRow, standIns := [], harness := (true, "31a302f301c5ae480c6dc1af98b681bede8fc31c3033bfd130c15c7c042accbc"), looks := true }, kinds := [], alts := [], laidByText := true, laidKinds := [.handle, .sentinel], laidTests := true, laidLooks := .later }
def FloatInsetsCardSaid : Prop := Claim7.holds Tryd.pinned (.plain (OpenSpec.ofChange floatInsetsSpec)) floatInsetsCard

/-- THE TIED CARD OF 'gutterlaw11.FloatAhead'. -/
def floatAheadCard : Claim7 := { stood := { row := floatAheadRow, standIns := [], harness := (true, "31a302f301c5ae480c6dc1af98b681bede8fc31c3033bfd130c15c7c042accbc"), looks := true }, kinds := [], alts := [], laidByText := true, laidKinds := [.handle, .sentinel], laidTests := true, laidLooks := .later }
def FloatAheadCardSaid : Prop := Claim7.holds Tryd.pinned (.plain (OpenSpec.ofChange floatAheadSpec)) floatAheadCard

/-- THE TIED CARD OF 'gutterlaw11.FloatMirror'. -/
def floatMirrorCard : Claim7 := { stood := { row := floatMirrorRow, standIns := [], harness := (true, "31a302f301c5ae480c6dc1af98b681bede8fc31c3033bfd130c15c7c042accbc"), looks := true }, kinds := [], alts := [], laidByText := true, laidKinds := [.handle, .sentinel], laidTests := true, laidLooks := .later }
def FloatMirrorCardSaid : Prop := Claim7.holds Tryd.pinned (.plain (OpenSpec.ofChange floatMirrorSpec)) floatMirrorCard

/-- THE TIED CARD OF 'gutterlaw11.FloatNexts'. -/
def floatNextsCard : Claim7 := { stood := { row := floatNextsRow, standIns := [], harness := (true, "31a302f301c5ae480c6dc1af98b681bede8fc31c3033bfd130c15c7c042accbc"), looks := true }, kinds := [], alts := [], laidByText := true, laidKinds := [.handle, .sentinel], laidTests := true, laidLooks := .later }
def FloatNextsCardSaid : Prop := Claim7.holds Tryd.pinned (.plain (OpenSpec.ofChange floatNextsSpec)) floatNextsCard

/-- THE TIED CARD OF 'gutterlaw11.FloatPlaces'. -/
def floatPlacesCard : Claim7 := { stood := { row := floatPlacesRow, standIns := [], harness := (true, "31a302f301c5ae480c6dc1af98b681bede8fc31c3033bfd130c15c7c042accbc"), looks := true }, kinds := [], alts := [], laidByText := true, laidKinds := [.handle, .sentinel], laidTests := true, laidLooks := .later }
def FloatPlacesCardSaid : Prop := Claim7.holds Tryd.pinned (.plain (OpenSpec.ofChange floatPlacesSpec)) floatPlacesCard

/-- THE TIED CARD OF 'gutterlaw11.FloatClear'. -/
def floatClearCard : Claim7 := { stood := { row := floatClearRow, standIns := [], harness := (true, "31a302f301c5ae480c6dc1af98b681bede8fc31c3033bfd130c15c7c042accbc"), looks := true }, kinds := [], alts := [], laidByText := true, laidKinds := [.handle, .sentinel], laidTests := true, laidLooks := .later }
def FloatClearCardSaid : Prop := Claim7.holds Tryd.pinned (.plain (OpenSpec.ofChange floatClearSpec)) floatClearCard

/-- THE TIED CARD OF 'gutterlaw11.FloatApart'. -/
def floatApartCard : Claim7 := { stood := { row := floatApartRow, standIns := [], harness := (true, "31a302f301c5ae480c6dc1af98b681bede8fc31c3033bfd130c15c7c042accbc"), looks := true }, kinds := [], alts := [], laidByText := true, laidKinds := [.handle, .sentinel], laidTests := true, laidLooks := .later }
def FloatApartCardSaid : Prop := Claim7.holds Tryd.pinned (.plain (OpenSpec.ofChange floatApartSpec)) floatApartCard

/-- THE SECOND FORM's CARD OF 'gutterlaw11.FloatInsets'. -/
def floatInsetsUptoCard : Claim7 := { stood := { row := floatInsetsUptoRow, standIns := [], harness := (true, "31a302f301c5ae480c6dc1af98b681bede8fc31c3033bfd130c15c7c042accbc"), looks := true }, kinds := [], alts := [], laidByText := true, laidKinds := [.handle, .sentinel], laidTests := true, laidLooks := .later }
def FloatInsetsUptoCardSaid : Prop := Claim7.holds Tryd.pinned (.plain (OpenSpec.upto floatInsetsSpec)) floatInsetsUptoCard

/-- THE SECOND FORM's CARD OF 'gutterlaw11.FloatAhead'. -/
def floatAheadUptoCard : Claim7 := { stood := { row := floatAheadUptoRow, standIns := [], harness := (true, "31a302f301c5ae480c6dc1af98b681bede8fc31c3033bfd130c15c7c042accbc"), looks := true }, kinds := [], alts := [], laidByText := true, laidKinds := [.handle, .sentinel], laidTests := true, laidLooks := .later }
def FloatAheadUptoCardSaid : Prop := Claim7.holds Tryd.pinned (.plain (OpenSpec.upto floatAheadSpec)) floatAheadUptoCard

/-- THE SECOND FORM's CARD OF 'gutterlaw11.FloatMirror'. -/
def floatMirrorUptoCard : Claim7 := { stood := { row := floatMirrorUptoRow, standIns := [], harness := (true, "31a302f301c5ae480c6dc1af98b681bede8fc31c3033bfd130c15c7c042accbc"), looks := true }, kinds := [], alts := [], laidByText := true, laidKinds := [.handle, .sentinel], laidTests := true, laidLooks := .later }
def FloatMirrorUptoCardSaid : Prop := Claim7.holds Tryd.pinned (.plain (OpenSpec.upto floatMirrorSpec)) floatMirrorUptoCard

/-- THE SECOND FORM's CARD OF 'gutterlaw11.FloatNexts'. -/
def floatNextsUptoCard : Claim7 := { stood := { row := floatNextsUptoRow, standIns := [], harness := (true, "31a302f301c5ae480c6dc1af98b681bede8fc31c3033bfd130c15c7c042accbc"), looks := true }, kinds := [], alts := [], laidByText := true, laidKinds := [.handle, .sentinel], laidTests := true, laidLooks := .later }
def FloatNextsUptoCardSaid : Prop := Claim7.holds Tryd.pinned (.plain (OpenSpec.upto floatNextsSpec)) floatNextsUptoCard

/-- THE SECOND FORM's CARD OF 'gutterlaw11.FloatPlaces'. -/
def floatPlacesUptoCard : Claim7 := { stood := { row := floatPlacesUptoRow, standIns := [], harness := (true, "31a302f301c5ae480c6dc1af98b681bede8fc31c3033bfd130c15c7c042accbc"), looks := true }, kinds := [], alts := [], laidByText := true, laidKinds := [.handle, .sentinel], laidTests := true, laidLooks := .later }
def FloatPlacesUptoCardSaid : Prop := Claim7.holds Tryd.pinned (.plain (OpenSpec.upto floatPlacesSpec)) floatPlacesUptoCard

/-- THE SECOND FORM's CARD OF 'gutterlaw11.FloatClear'. -/
def floatClearUptoCard : Claim7 := { stood := { row := floatClearUptoRow, standIns := [], harness := (true, "31a302f301c5ae480c6dc1af98b681bede8fc31c3033bfd130c15c7c042accbc"), looks := true }, kinds := [], alts := [], laidByText := true, laidKinds := [.handle, .sentinel], laidTests := true, laidLooks := .later }
def FloatClearUptoCardSaid : Prop := Claim7.holds Tryd.pinned (.plain (OpenSpec.upto floatClearSpec)) floatClearUptoCard

/-- THE SECOND FORM's CARD OF 'gutterlaw11.FloatApart'. -/
def floatApartUptoCard : Claim7 := { stood := { row := floatApartUptoRow, standIns := [], harness := (true, "31a302f301c5ae480c6dc1af98b681bede8fc31c3033bfd130c15c7c042accbc"), looks := true }, kinds := [], alts := [], laidByText := true, laidKinds := [.handle, .sentinel], laidTests := true, laidLooks := .later }
def FloatApartUptoCardSaid : Prop := Claim7.holds Tryd.pinned (.plain (OpenSpec.upto floatApartSpec)) floatApartUptoCard
end Rows
end Go.Proofs.YtcekbimohggnoaaDoor
