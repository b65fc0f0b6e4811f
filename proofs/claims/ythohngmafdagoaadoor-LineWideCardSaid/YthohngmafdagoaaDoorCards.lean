/-
  DERIVED. GIVEN WITH THE SEED: THE CARDS: each row of YthohngmafdagoaaDoorRows.lean that lists a variable, with what it lists TIED to the program's text (the seventh form; the later family's looks); each row that meets fmt, with fmt's text TOLD by the authors' own Lean function (tested against real Go, not proved from fmt's source: count such statements apart). THE CARD IS WHAT COUNTS. Prove the row's statement (the work); the ties are given (YthohngmafdagoaaDoorTie.lean); close each card by the builder's one call (the guide's Derived/Test/ToyasCard.lean, 'card_holds'). Laid BY PROGRAM, IN A SANDBOX (cutbox-door.mjs). By AI agents, Wed Nov 11 2026. No macro, syntax, notation, axiom, sorry.
-/
import Derived.Test.YthohngmafdagoaaDoorRows
import GoSem.ClaimSeven
namespace Go.Proofs.YthohngmafdagoaaDoor
namespace Rows

/-- THE TIED CARD OF 'gutterlaw08.LineAll'. -/
def lineAllCard : Claim7 := { stood := { row := lineAllRow, standIns := [], harness := (true, "a1ba6e44093fee1aa10ad9c16fab6805d5f9a897e3271d7195ddeccb7d317628"), looks := true }, kinds := [], alts := [], laidByText := true, laidKinds := [.handle], laidTests := true, laidLooks := .later }
def LineAllCardSaid : Prop := Claim7.holds Tryd.pinned (.plain (OpenSpec.ofChange lineAllSpec)) lineAllCard

/-- THE TIED CARD OF 'gutterlaw08.LineWide'. -/
def lineWideCard : Claim7 := { stood := { row := lineWideRow, standIns := [], harness := (true, "a1ba6e44093fee1aa10ad9c16fab6805d5f9a897e3271d7195ddeccb7d317628"), looks := true }, kinds := [], alts := [], laidByText := true, laidKinds := [.handle], laidTests := true, laidLooks := .later }
def LineWideCardSaid : Prop := Claim7.holds Tryd.pinned (.plain (OpenSpec.ofChange lineWideSpec)) lineWideCard

/-- THE TIED CARD OF 'gutterlaw08.LineSums'. -/
def lineSumsCard : Claim7 := { stood := { row := lineSumsRow, standIns := [], harness := (true, "a1ba6e44093fee1aa10ad9c16fab6805d5f9a897e3271d7195ddeccb7d317628"), looks := true }, kinds := [], alts := [], laidByText := true, laidKinds := [.handle], laidTests := true, laidLooks := .later }
def LineSumsCardSaid : Prop := Claim7.holds Tryd.pinned (.plain (OpenSpec.ofChange lineSumsSpec)) lineSumsCard

/-- THE TIED CARD OF 'gutterlaw08.LineWider'. -/
def lineWiderCard : Claim7 := { stood := { row := lineWiderRow, standIns := [], harness := (true, "a1ba6e44093fee1aa10ad9c16fab6805d5f9a897e3271d7195ddeccb7d317628"), looks := true }, kinds := [], alts := [], laidByText := true, laidKinds := [.handle], laidTests := true, laidLooks := .later }
def LineWiderCardSaid : Prop := Claim7.holds Tryd.pinned (.plain (OpenSpec.ofChange lineWiderSpec)) lineWiderCard

/-- THE TIED CARD OF 'gutterlaw08.LineBreaks'. -/
def lineBreaksCard : Claim7 := { stood := { row := lineBreaksRow, standIns := [], harness := (true, "a1ba6e44093fee1aa10ad9c16fab6805d5f9a897e3271d7195ddeccb7d317628"), looks := true }, kinds := [], alts := [], laidByText := true, laidKinds := [.handle], laidTests := true, laidLooks := .later }
def LineBreaksCardSaid : Prop := Claim7.holds Tryd.pinned (.plain (OpenSpec.ofChange lineBreaksSpec)) lineBreaksCard

/-- THE TIED CARD OF 'gutterlaw08.LineNexts'. -/
def lineNextsCard : Claim7 := { stood := { row := lineNextsRow, standIns := [], harness := (true, "a1ba6e44093fee1aa10ad9c16fab6805d5f9a897e3271d7195ddeccb7d317628"), looks := true }, kinds := [], alts := [], laidByText := true, laidKinds := [.handle], laidTests := true, laidLooks := .later }
def LineNextsCardSaid : Prop := Claim7.holds Tryd.pinned (.plain (OpenSpec.ofChange lineNextsSpec)) lineNextsCard

/-- THE TIED CARD OF 'gutterlaw08.LineTells'. -/
def lineTellsCard : Claim7 := { stood := { row := lineTellsRow, standIns := [], harness := (true, "a1ba6e44093fee1aa10ad9c16fab6805d5f9a897e3271d7195ddeccb7d317628"), looks := true }, kinds := [], alts := [], laidByText := true, laidKinds := [.handle], laidTests := true, laidLooks := .later }
def LineTellsCardSaid : Prop := Claim7.holds Tryd.pinned (.plain (OpenSpec.ofChange lineTellsSpec)) lineTellsCard

/-- THE SECOND FORM's CARD OF 'gutterlaw08.LineAll'. -/
def lineAllUptoCard : Claim7 := { stood := { row := lineAllUptoRow, standIns := [], harness := (true, "a1ba6e44093fee1aa10ad9c16fab6805d5f9a897e3271d7195ddeccb7d317628"), looks := true }, kinds := [], alts := [], laidByText := true, laidKinds := [.handle], laidTests := true, laidLooks := .later }
def LineAllUptoCardSaid : Prop := Claim7.holds Tryd.pinned (.plain (OpenSpec.upto lineAllSpec)) lineAllUptoCard

/-- THE SECOND FORM's CARD OF 'gutterlaw08.LineWide'. -/
def lineWideUptoCard : Claim7 := { stood := { row := lineWideUptoRow, standIns := [], harness := (true, "a1ba6e44093fee1aa10ad9c16fab6805d5f9a897e3271d7195ddeccb7d317628"), looks := true }, kinds := [], alts := [], laidByText := true, laidKinds := [.handle], laidTests := true, laidLooks := .later }
def LineWideUptoCardSaid : Prop := Claim7.holds Tryd.pinned (.plain (OpenSpec.upto lineWideSpec)) lineWideUptoCard

/-- THE SECOND FORM's CARD OF 'gutterlaw08.LineSums'. -/
def lineSumsUptoCard : Claim7 := { stood := { row := lineSumsUptoRow, standIns := [], harness := (true, "a1ba6e44093fee1aa10ad9c16fab6805d5f9a897e3271d7195ddeccb7d317628"), looks := true }, kinds := [], alts := [], laidByText := true, laidKinds := [.handle], laidTests := true, laidLooks := .later }
def LineSumsUptoCardSaid : Prop := Claim7.holds Tryd.pinned (.plain (OpenSpec.upto lineSumsSpec)) lineSumsUptoCard

/-- THE SECOND FORM's CARD OF 'gutterlaw08.LineWider'. -/
def lineWiderUptoCard : Claim7 := { stood := { row := lineWiderUptoRow, standIns := [], harness := (true, "a1ba6e44093fee1aa10ad9c16fab6805d5f9a897e3271d7195ddeccb7d317628"), looks := true }, kinds := [], alts := [], laidByText := true, laidKinds := [.handle], laidTests := true, laidLooks := .later }
def LineWiderUptoCardSaid : Prop := Claim7.holds Tryd.pinned (.plain (OpenSpec.upto lineWiderSpec)) lineWiderUptoCard

/-- THE SECOND FORM's CARD OF 'gutterlaw08.LineBreaks'. -/
def lineBreaksUptoCard : Claim7 := { stood := { row := lineBreaksUptoRow, standIns := [], harness := (true, "a1ba6e44093fee1aa10ad9c16fab6805d5f9a897e3271d7195ddeccb7d317628"), looks := true }, kinds := [], alts := [], laidByText := true, laidKinds := [.handle], laidTests := true, laidLooks := .later }
def LineBreaksUptoCardSaid : Prop := Claim7.holds Tryd.pinned (.plain (OpenSpec.upto lineBreaksSpec)) lineBreaksUptoCard

/-- THE SECOND FORM's CARD OF 'gutterlaw08.LineNexts'. -/
def lineNextsUptoCard : Claim7 := { stood := { row := lineNextsUptoRow, standIns := [], harness := (true, "a1ba6e44093fee1aa10ad9c16fab6805d5f9a897e3271d7195ddeccb7d317628"), looks := true }, kinds := [], alts := [], laidByText := true, laidKinds := [.handle], laidTests := true, laidLooks := .later }
def LineNextsUptoCardSaid : Prop := Claim7.holds Tryd.pinned (.plain (OpenSpec.upto lineNextsSpec)) lineNextsUptoCard

/-- THE SECOND FORM's CARD OF 'gutterlaw08.LineTells'. -/
def lineTellsUptoCard : Claim7 := { stood := { row := lineTellsUptoRow, standIns := [], harness := (true, "a1ba6e44093fee1aa10ad9c16fab6805d5f9a897e3271d7195ddeccb7d317628"), looks := true }, kinds := [], alts := [], laidByText := true, laidKinds := [.handle], laidTests := true, laidLooks := .later }
def LineTellsUptoCardSaid : Prop := Claim7.holds Tryd.pinned (.plain (OpenSpec.upto lineTellsSpec)) lineTellsUptoCard
end Rows
end Go.Proofs.YthohngmafdagoaaDoor
