/-
  DERIVED. GIVEN WITH THE SEED: THE PROGRAM's TIES (one call each: nine closed facts by the kernel) AND EACH ROW's TIE, after the 31st guide's Derived/Test/Toyas{Tie, Card}.lean. No idea stands in it: it is a product of the set-up. Laid BY PROGRAM, IN A SANDBOX (cutbox-door.mjs). By AI agents, Wed Nov 11 2026. No macro, syntax, notation, axiom, sorry.
-/
import Derived.Test.YthmlbmambcigcaaGreatDoorRows
import Derived.LaidByTextLater
import Derived.SevenTiedAt
import Derived.LaidSub
import Derived.LaidOnce
namespace Go.Proofs.YthmlbmambcigcaaGreatDoor
open Go
set_option maxRecDepth 100000
theorem seatTie1 : Tryz.prog.laidByTextLater [("errors.errorType", Rows.laid_errors_errorType), ("gutter/float.errFloat", Rows.laid_gutter_float_errFloat), ("gutter/wrap.errWrap", Rows.laid_gutter_wrap_errWrap)] [.handle, .sentinel, .sentinel] true :=
  Program.laidByTextLater_by_one 54 8 2 (by kernel_rfl) (by kernel_rfl) (by kernel_rfl) (by kernel_rfl) (by kernel_rfl) (by kernel_rfl) (fun _ _ => by kernel_rfl)
theorem noOwnUnsafe : Tryz.pinned.checked.prog.headLifts.contains "ownunsafe" = false := by kernel_rfl
theorem tie : Tryz.prog.laidByTextLater [("errors.errorType", Rows.laid_errors_errorType), ("gutter/float.errFloat", Rows.laid_gutter_float_errFloat), ("gutter/wrap.errWrap", Rows.laid_gutter_wrap_errWrap)] [.handle, .sentinel, .sentinel] true :=
  Program.laidByTextLater.sub seatTie1 ["errors.errorType", "gutter/float.errFloat", "gutter/wrap.errWrap"] (by kernel_rfl) (by kernel_rfl)
theorem wrapPlaces_row_tie : Rows.wrapPlacesRow.laidByTextAt .later Tryz.pinned [.handle, .sentinel, .sentinel] true :=
  OpenClaim.laidByTextAt_later rfl rfl tie noOwnUnsafe
theorem wrapAll_row_tie : Rows.wrapAllRow.laidByTextAt .later Tryz.pinned [.handle, .sentinel, .sentinel] true :=
  OpenClaim.laidByTextAt_later rfl rfl tie noOwnUnsafe
theorem wrapBelow_row_tie : Rows.wrapBelowRow.laidByTextAt .later Tryz.pinned [.handle, .sentinel, .sentinel] true :=
  OpenClaim.laidByTextAt_later rfl rfl tie noOwnUnsafe
theorem wrapHigh_row_tie : Rows.wrapHighRow.laidByTextAt .later Tryz.pinned [.handle, .sentinel, .sentinel] true :=
  OpenClaim.laidByTextAt_later rfl rfl tie noOwnUnsafe
theorem wrapApart_row_tie : Rows.wrapApartRow.laidByTextAt .later Tryz.pinned [.handle, .sentinel, .sentinel] true :=
  OpenClaim.laidByTextAt_later rfl rfl tie noOwnUnsafe
theorem wrapClear_row_tie : Rows.wrapClearRow.laidByTextAt .later Tryz.pinned [.handle, .sentinel, .sentinel] true :=
  OpenClaim.laidByTextAt_later rfl rfl tie noOwnUnsafe
theorem wrapRects_row_tie : Rows.wrapRectsRow.laidByTextAt .later Tryz.pinned [.handle, .sentinel, .sentinel] true :=
  OpenClaim.laidByTextAt_later rfl rfl tie noOwnUnsafe
theorem wrapPlain_row_tie : Rows.wrapPlainRow.laidByTextAt .later Tryz.pinned [.handle, .sentinel, .sentinel] true :=
  OpenClaim.laidByTextAt_later rfl rfl tie noOwnUnsafe
theorem wrapPlacesUpto_row_tie : Rows.wrapPlacesUptoRow.laidByTextAt .later Tryz.pinned [.handle, .sentinel, .sentinel] true :=
  OpenClaim.laidByTextAt_later rfl rfl tie noOwnUnsafe
theorem wrapAllUpto_row_tie : Rows.wrapAllUptoRow.laidByTextAt .later Tryz.pinned [.handle, .sentinel, .sentinel] true :=
  OpenClaim.laidByTextAt_later rfl rfl tie noOwnUnsafe
theorem wrapBelowUpto_row_tie : Rows.wrapBelowUptoRow.laidByTextAt .later Tryz.pinned [.handle, .sentinel, .sentinel] true :=
  OpenClaim.laidByTextAt_later rfl rfl tie noOwnUnsafe
theorem wrapHighUpto_row_tie : Rows.wrapHighUptoRow.laidByTextAt .later Tryz.pinned [.handle, .sentinel, .sentinel] true :=
  OpenClaim.laidByTextAt_later rfl rfl tie noOwnUnsafe
theorem wrapApartUpto_row_tie : Rows.wrapApartUptoRow.laidByTextAt .later Tryz.pinned [.handle, .sentinel, .sentinel] true :=
  OpenClaim.laidByTextAt_later rfl rfl tie noOwnUnsafe
theorem wrapClearUpto_row_tie : Rows.wrapClearUptoRow.laidByTextAt .later Tryz.pinned [.handle, .sentinel, .sentinel] true :=
  OpenClaim.laidByTextAt_later rfl rfl tie noOwnUnsafe
theorem wrapRectsUpto_row_tie : Rows.wrapRectsUptoRow.laidByTextAt .later Tryz.pinned [.handle, .sentinel, .sentinel] true :=
  OpenClaim.laidByTextAt_later rfl rfl tie noOwnUnsafe
theorem wrapPlainUpto_row_tie : Rows.wrapPlainUptoRow.laidByTextAt .later Tryz.pinned [.handle, .sentinel, .sentinel] true :=
  OpenClaim.laidByTextAt_later rfl rfl tie noOwnUnsafe
end Go.Proofs.YthmlbmambcigcaaGreatDoor
