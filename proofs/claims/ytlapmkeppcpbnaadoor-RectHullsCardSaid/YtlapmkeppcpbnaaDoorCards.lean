/-
  DERIVED. GIVEN WITH THE SEED: THE CARDS: each row of YtlapmkeppcpbnaaDoorRows.lean that lists a variable, with what it lists TIED to the program's text (the seventh form; the later family's looks); each row that meets fmt, with fmt's text TOLD by the authors' own Lean function (tested against real Go, not proved from fmt's source: count such statements apart). THE CARD IS WHAT COUNTS. Prove the row's statement (the work); the ties are given (YtlapmkeppcpbnaaDoorTie.lean); close each card by the builder's one call (the guide's Derived/Test/ToyasCard.lean, 'card_holds'). Laid BY PROGRAM, IN A SANDBOX (cutbox-door.mjs). By AI agents, Wed Nov 11 2026. No macro, syntax, notation, axiom, sorry.
-/
import Derived.Test.YtlapmkeppcpbnaaDoorRows
import GoSem.ClaimSeven
namespace Go.Proofs.YtlapmkeppcpbnaaDoor
namespace Rows

/-- THE TIED CARD OF 'gutterlaw02.RectMakes'. -/
def rectMakesCard : Claim7 := { stood := { row := rectMakesRow, standIns := [], harness := (true, "37c75536b2233597f68be232dc6098abeb5ebf4b6e9978f03bc8b2a0095f315d"), looks := true }, kinds := [], alts := [], laidByText := true, laidKinds := [.handle], laidTests := true, laidLooks := .later }
def RectMakesCardSaid : Prop := Claim7.holds Tryd.pinned (.plain (OpenSpec.ofChange rectMakesSpec)) rectMakesCard

/-- THE TIED CARD OF 'gutterlaw02.RectHulls'. -/
def rectHullsCard : Claim7 := { stood := { row := rectHullsRow, standIns := [], harness := (true, "37c75536b2233597f68be232dc6098abeb5ebf4b6e9978f03bc8b2a0095f315d"), looks := true }, kinds := [], alts := [], laidByText := true, laidKinds := [.handle], laidTests := true, laidLooks := .later }
def RectHullsCardSaid : Prop := Claim7.holds Tryd.pinned (.plain (OpenSpec.ofChange rectHullsSpec)) rectHullsCard

/-- THE TIED CARD OF 'gutterlaw02.RectMoves'. -/
def rectMovesCard : Claim7 := { stood := { row := rectMovesRow, standIns := [], harness := (true, "37c75536b2233597f68be232dc6098abeb5ebf4b6e9978f03bc8b2a0095f315d"), looks := true }, kinds := [], alts := [], laidByText := true, laidKinds := [.handle], laidTests := true, laidLooks := .later }
def RectMovesCardSaid : Prop := Claim7.holds Tryd.pinned (.plain (OpenSpec.ofChange rectMovesSpec)) rectMovesCard

/-- THE TIED CARD OF 'gutterlaw02.RectApart'. -/
def rectApartCard : Claim7 := { stood := { row := rectApartRow, standIns := [], harness := (true, "37c75536b2233597f68be232dc6098abeb5ebf4b6e9978f03bc8b2a0095f315d"), looks := true }, kinds := [], alts := [], laidByText := true, laidKinds := [.handle], laidTests := true, laidLooks := .later }
def RectApartCardSaid : Prop := Claim7.holds Tryd.pinned (.plain (OpenSpec.ofChange rectApartSpec)) rectApartCard

/-- THE TIED CARD OF 'gutterlaw02.RectTells'. -/
def rectTellsCard : Claim7 := { stood := { row := rectTellsRow, standIns := [], harness := (true, "37c75536b2233597f68be232dc6098abeb5ebf4b6e9978f03bc8b2a0095f315d"), looks := true }, kinds := [], alts := [], laidByText := true, laidKinds := [.handle], laidTests := true, laidLooks := .later }
def RectTellsCardSaid : Prop := Claim7.holds Tryd.pinned (.plain (OpenSpec.ofChange rectTellsSpec)) rectTellsCard

/-- THE TIED CARD OF 'gutterlaw02.RectMeets'. -/
def rectMeetsCard : Claim7 := { stood := { row := rectMeetsRow, standIns := [], harness := (true, "37c75536b2233597f68be232dc6098abeb5ebf4b6e9978f03bc8b2a0095f315d"), looks := true }, kinds := [], alts := [], laidByText := true, laidKinds := [.handle], laidTests := true, laidLooks := .later }
def RectMeetsCardSaid : Prop := Claim7.holds Tryd.pinned (.plain (OpenSpec.ofChange rectMeetsSpec)) rectMeetsCard

/-- THE TIED CARD OF 'gutterlaw02.RectWithin'. -/
def rectWithinCard : Claim7 := { stood := { row := rectWithinRow, standIns := [], harness := (true, "37c75536b2233597f68be232dc6098abeb5ebf4b6e9978f03bc8b2a0095f315d"), looks := true }, kinds := [], alts := [], laidByText := true, laidKinds := [.handle], laidTests := true, laidLooks := .later }
def RectWithinCardSaid : Prop := Claim7.holds Tryd.pinned (.plain (OpenSpec.ofChange rectWithinSpec)) rectWithinCard

/-- THE SECOND FORM's CARD OF 'gutterlaw02.RectMakes'. -/
def rectMakesUptoCard : Claim7 := { stood := { row := rectMakesUptoRow, standIns := [], harness := (true, "37c75536b2233597f68be232dc6098abeb5ebf4b6e9978f03bc8b2a0095f315d"), looks := true }, kinds := [], alts := [], laidByText := true, laidKinds := [.handle], laidTests := true, laidLooks := .later }
def RectMakesUptoCardSaid : Prop := Claim7.holds Tryd.pinned (.plain (OpenSpec.upto rectMakesSpec)) rectMakesUptoCard

/-- THE SECOND FORM's CARD OF 'gutterlaw02.RectHulls'. -/
def rectHullsUptoCard : Claim7 := { stood := { row := rectHullsUptoRow, standIns := [], harness := (true, "37c75536b2233597f68be232dc6098abeb5ebf4b6e9978f03bc8b2a0095f315d"), looks := true }, kinds := [], alts := [], laidByText := true, laidKinds := [.handle], laidTests := true, laidLooks := .later }
def RectHullsUptoCardSaid : Prop := Claim7.holds Tryd.pinned (.plain (OpenSpec.upto rectHullsSpec)) rectHullsUptoCard

/-- THE SECOND FORM's CARD OF 'gutterlaw02.RectMoves'. -/
def rectMovesUptoCard : Claim7 := { stood := { row := rectMovesUptoRow, standIns := [], harness := (true, "37c75536b2233597f68be232dc6098abeb5ebf4b6e9978f03bc8b2a0095f315d"), looks := true }, kinds := [], alts := [], laidByText := true, laidKinds := [.handle], laidTests := true, laidLooks := .later }
def RectMovesUptoCardSaid : Prop := Claim7.holds Tryd.pinned (.plain (OpenSpec.upto rectMovesSpec)) rectMovesUptoCard

/-- THE SECOND FORM's CARD OF 'gutterlaw02.RectApart'. -/
def rectApartUptoCard : Claim7 := { stood := { row := rectApartUptoRow, standIns := [], harness := (true, "37c75536b2233597f68be232dc6098abeb5ebf4b6e9978f03bc8b2a0095f315d"), looks := true }, kinds := [], alts := [], laidByText := true, laidKinds := [.handle], laidTests := true, laidLooks := .later }
def RectApartUptoCardSaid : Prop := Claim7.holds Tryd.pinned (.plain (OpenSpec.upto rectApartSpec)) rectApartUptoCard

/-- THE SECOND FORM's CARD OF 'gutterlaw02.RectTells'. -/
def rectTellsUptoCard : Claim7 := { stood := { row := rectTellsUptoRow, standIns := [], harness := (true, "37c75536b2233597f68be232dc6098abeb5ebf4b6e9978f03bc8b2a0095f315d"), looks := true }, kinds := [], alts := [], laidByText := true, laidKinds := [.handle], laidTests := true, laidLooks := .later }
def RectTellsUptoCardSaid : Prop := Claim7.holds Tryd.pinned (.plain (OpenSpec.upto rectTellsSpec)) rectTellsUptoCard

/-- THE SECOND FORM's CARD OF 'gutterlaw02.RectMeets'. -/
def rectMeetsUptoCard : Claim7 := { stood := { row := rectMeetsUptoRow, standIns := [], harness := (true, "37c75536b2233597f68be232dc6098abeb5ebf4b6e9978f03bc8b2a0095f315d"), looks := true }, kinds := [], alts := [], laidByText := true, laidKinds := [.handle], laidTests := true, laidLooks := .later }
def RectMeetsUptoCardSaid : Prop := Claim7.holds Tryd.pinned (.plain (OpenSpec.upto rectMeetsSpec)) rectMeetsUptoCard

/-- THE SECOND FORM's CARD OF 'gutterlaw02.RectWithin'. -/
def rectWithinUptoCard : Claim7 := { stood := { row := rectWithinUptoRow, standIns := [], harness := (true, "37c75536b2233597f68be232dc6098abeb5ebf4b6e9978f03bc8b2a0095f315d"), looks := true }, kinds := [], alts := [], laidByText := true, laidKinds := [.handle], laidTests := true, laidLooks := .later }
def RectWithinUptoCardSaid : Prop := Claim7.holds Tryd.pinned (.plain (OpenSpec.upto rectWithinSpec)) rectWithinUptoCard
end Rows
end Go.Proofs.YtlapmkeppcpbnaaDoor
