/-
  NARROWER THAN 'FOR EVERY INPUT', by the rows' own cells (each row's printed sentence says how): WrapPlaces: laid · WrapAll: laid · WrapBelow: laid · WrapHigh: laid · WrapApart: laid · WrapClear: laid · WrapRects: laid · WrapPlain: laid.
  DERIVED. THE GIVEN ROWS OF THIS SEAT. 8 by the template 'for every input the law returns true; each argument reads behind the call as it read before'; 0 by the template 'total and deterministic' (their statements: YthmlbmambcigcaaGreatDoorTotals.lean).
  GIVEN WITH THE SEED: the statements are not yours to turn. If you find one false, say at which input.
  Laid BY PROGRAM, IN A SANDBOX (cutbox-rows.mjs): the forced cells as the released guide's own fill.sh prints them over the translation 270df9d440314ea9… (all of the seat's roots in one cut). By AI agents, Wed Nov 11 2026. No macro, syntax, notation, axiom, sorry.
-/
import Derived.Test.YthmlbmambcigcaaGreatDoorChecked
import GoSem.Claim
import GoSem.ClaimJoined
import GoSem.ClaimMapViews
import Derived.JoinedTies
import Derived.KernelRfl
namespace Go.Proofs.YthmlbmambcigcaaGreatDoor
/- THE CELL 'sum', in the pinned program and in every row, IS THE sha256 OF THE DUMP (.gsa) THAT YthmlbmambcigcaaGreatDoorProg.lean LOADS. Nothing in Lean hashes anything: it is a label: what it is worth is what the hold of that sum in a sandbox is worth. -/
noncomputable def Tryz.pinned : Pinned := { name := "ythmlbmambcigcaagreatdoor", sum := "270df9d440314ea9490f1fd704da535028e124357bb44883d7d8cd262eab7c40", checked := Tryz.checked }
namespace Rows
def none {H : Type} : Left H := { results := [], args := [] }

/- WHAT THE LISTED PACKAGE-LEVEL VARIABLES READ AS WHEN THE CALL BEGINS. Each datum BY PROGRAM (the guide's laid-datum.mjs) off the statement by which the dump's own 'gosem.cut.vars' lays the variable. In a bare row this is a premise. The card (YthmlbmambcigcaaGreatDoorCards.lean) ties it to the program's text. -/
def laid_errors_errorType {H : Type} : DataW H := .iface "internal/reflectlite.rtype" (.agg [.ptr (.lit (.string [101, 114, 114, 111, 114]))])
def laid_gutter_float_errFloat {H : Type} : DataW H := .iface "*errors.errorString" (.ptr (.agg [.lit (.string [110, 111, 32, 102, 108, 111, 97, 116])]))
def laid_gutter_wrap_errWrap {H : Type} : DataW H := .iface "*errors.errorString" (.ptr (.agg [.lit (.string [110, 111, 116, 32, 112, 108, 97, 99, 101, 100])]))

/-- 'gutterlaw12.WrapPlaces': WHATEVER THE INPUT: true; the input reads as it did. -/
def wrapPlacesSpec : ChangeSpec := { name := "wrapPlaces", fn := fun _ => fun
  | [d1, d2, d3, d4] => { results := [.lit (.bool true)], args := [d1, d2, d3, d4] }
  | _ => none }
def wrapPlacesRow : OpenClaim := { program := "ythmlbmambcigcaagreatdoor", sum := "270df9d440314ea9490f1fd704da535028e124357bb44883d7d8cd262eab7c40", func := "gutter/gutterlaw12.WrapPlaces", spec := "wrapPlaces", inPlace := ["sync/atomic.LoadUint32", "(*internal/sync.Mutex).Lock", "internal/race.Disable", "sync/atomic.CompareAndSwapInt32", "internal/race.Enable", "internal/race.Acquire", "(*internal/sync.Mutex).lockSlow", "internal/sync.runtime_canSpin", "internal/sync.runtime_doSpin", "internal/sync.throw", "internal/sync.runtime_nanotime", "internal/sync.runtime_SemacquireMutex", "sync/atomic.AddInt32", "(*internal/sync.Mutex).Unlock", "internal/race.ReleaseMerge", "(*internal/sync.Mutex).unlockSlow", "internal/sync.fatal", "internal/sync.runtime_Semrelease", "sync/atomic.StoreUint32", "internal/reflectlite.ValueOf", "(internal/reflectlite.Value).Type", "(internal/reflectlite.Value).IsNil", "internal/reflectlite.TypeOf", "(internal/reflectlite.Value).Elem", "(internal/reflectlite.Value).Set"], unfollowed := true, recurses := true, named := ["gutter/wrap.errWrap", "errors.errorType", "gutter/float.errFloat"], apart := false, laid := [("errors.errorType", laid_errors_errorType), ("gutter/float.errFloat", laid_gutter_float_errFloat), ("gutter/wrap.errWrap", laid_gutter_wrap_errWrap)] }
def WrapPlacesSaid : Prop := wrapPlacesRow.holds Tryz.pinned (OpenSpec.ofChange wrapPlacesSpec)

/-- ITS FALSE NEIGHBOUR: 'it returns false'. Refute it at one input. -/
def wrapPlacesWrong : ChangeSpec := { name := "wrapPlaces", fn := fun _ => fun
  | [d1, d2, d3, d4] => { results := [.lit (.bool false)], args := [d1, d2, d3, d4] }
  | _ => none }
def WrapPlacesWrongFalsely : Prop := wrapPlacesRow.holds Tryz.pinned (OpenSpec.ofChange wrapPlacesWrong)

/-- 'gutterlaw12.WrapAll': WHATEVER THE INPUT: true; the input reads as it did. -/
def wrapAllSpec : ChangeSpec := { name := "wrapAll", fn := fun _ => fun
  | [d1, d2, d3, d4] => { results := [.lit (.bool true)], args := [d1, d2, d3, d4] }
  | _ => none }
def wrapAllRow : OpenClaim := { program := "ythmlbmambcigcaagreatdoor", sum := "270df9d440314ea9490f1fd704da535028e124357bb44883d7d8cd262eab7c40", func := "gutter/gutterlaw12.WrapAll", spec := "wrapAll", inPlace := ["sync/atomic.LoadUint32", "(*internal/sync.Mutex).Lock", "internal/race.Disable", "sync/atomic.CompareAndSwapInt32", "internal/race.Enable", "internal/race.Acquire", "(*internal/sync.Mutex).lockSlow", "internal/sync.runtime_canSpin", "internal/sync.runtime_doSpin", "internal/sync.throw", "internal/sync.runtime_nanotime", "internal/sync.runtime_SemacquireMutex", "sync/atomic.AddInt32", "(*internal/sync.Mutex).Unlock", "internal/race.ReleaseMerge", "(*internal/sync.Mutex).unlockSlow", "internal/sync.fatal", "internal/sync.runtime_Semrelease", "sync/atomic.StoreUint32", "internal/reflectlite.ValueOf", "(internal/reflectlite.Value).Type", "(internal/reflectlite.Value).IsNil", "internal/reflectlite.TypeOf", "(internal/reflectlite.Value).Elem", "(internal/reflectlite.Value).Set"], unfollowed := true, recurses := true, named := ["gutter/wrap.errWrap", "errors.errorType", "gutter/float.errFloat"], apart := false, laid := [("errors.errorType", laid_errors_errorType), ("gutter/float.errFloat", laid_gutter_float_errFloat), ("gutter/wrap.errWrap", laid_gutter_wrap_errWrap)] }
def WrapAllSaid : Prop := wrapAllRow.holds Tryz.pinned (OpenSpec.ofChange wrapAllSpec)

/-- ITS FALSE NEIGHBOUR: 'it returns false'. Refute it at one input. -/
def wrapAllWrong : ChangeSpec := { name := "wrapAll", fn := fun _ => fun
  | [d1, d2, d3, d4] => { results := [.lit (.bool false)], args := [d1, d2, d3, d4] }
  | _ => none }
def WrapAllWrongFalsely : Prop := wrapAllRow.holds Tryz.pinned (OpenSpec.ofChange wrapAllWrong)

/-- 'gutterlaw12.WrapBelow': WHATEVER THE INPUT: true; the input reads as it did. -/
def wrapBelowSpec : ChangeSpec := { name := "wrapBelow", fn := fun _ => fun
  | [d1, d2, d3, d4] => { results := [.lit (.bool true)], args := [d1, d2, d3, d4] }
  | _ => none }
def wrapBelowRow : OpenClaim := { program := "ythmlbmambcigcaagreatdoor", sum := "270df9d440314ea9490f1fd704da535028e124357bb44883d7d8cd262eab7c40", func := "gutter/gutterlaw12.WrapBelow", spec := "wrapBelow", inPlace := ["sync/atomic.LoadUint32", "(*internal/sync.Mutex).Lock", "internal/race.Disable", "sync/atomic.CompareAndSwapInt32", "internal/race.Enable", "internal/race.Acquire", "(*internal/sync.Mutex).lockSlow", "internal/sync.runtime_canSpin", "internal/sync.runtime_doSpin", "internal/sync.throw", "internal/sync.runtime_nanotime", "internal/sync.runtime_SemacquireMutex", "sync/atomic.AddInt32", "(*internal/sync.Mutex).Unlock", "internal/race.ReleaseMerge", "(*internal/sync.Mutex).unlockSlow", "internal/sync.fatal", "internal/sync.runtime_Semrelease", "sync/atomic.StoreUint32", "internal/reflectlite.ValueOf", "(internal/reflectlite.Value).Type", "(internal/reflectlite.Value).IsNil", "internal/reflectlite.TypeOf", "(internal/reflectlite.Value).Elem", "(internal/reflectlite.Value).Set"], unfollowed := true, recurses := true, named := ["gutter/wrap.errWrap", "errors.errorType", "gutter/float.errFloat"], apart := false, laid := [("errors.errorType", laid_errors_errorType), ("gutter/float.errFloat", laid_gutter_float_errFloat), ("gutter/wrap.errWrap", laid_gutter_wrap_errWrap)] }
def WrapBelowSaid : Prop := wrapBelowRow.holds Tryz.pinned (OpenSpec.ofChange wrapBelowSpec)

/-- ITS FALSE NEIGHBOUR: 'it returns false'. Refute it at one input. -/
def wrapBelowWrong : ChangeSpec := { name := "wrapBelow", fn := fun _ => fun
  | [d1, d2, d3, d4] => { results := [.lit (.bool false)], args := [d1, d2, d3, d4] }
  | _ => none }
def WrapBelowWrongFalsely : Prop := wrapBelowRow.holds Tryz.pinned (OpenSpec.ofChange wrapBelowWrong)

/-- 'gutterlaw12.WrapHigh': WHATEVER THE INPUT: true; the input reads as it did. -/
def wrapHighSpec : ChangeSpec := { name := "wrapHigh", fn := fun _ => fun
  | [d1, d2, d3] => { results := [.lit (.bool true)], args := [d1, d2, d3] }
  | _ => none }
def wrapHighRow : OpenClaim := { program := "ythmlbmambcigcaagreatdoor", sum := "270df9d440314ea9490f1fd704da535028e124357bb44883d7d8cd262eab7c40", func := "gutter/gutterlaw12.WrapHigh", spec := "wrapHigh", inPlace := ["sync/atomic.LoadUint32", "(*internal/sync.Mutex).Lock", "internal/race.Disable", "sync/atomic.CompareAndSwapInt32", "internal/race.Enable", "internal/race.Acquire", "(*internal/sync.Mutex).lockSlow", "internal/sync.runtime_canSpin", "internal/sync.runtime_doSpin", "internal/sync.throw", "internal/sync.runtime_nanotime", "internal/sync.runtime_SemacquireMutex", "sync/atomic.AddInt32", "(*internal/sync.Mutex).Unlock", "internal/race.ReleaseMerge", "(*internal/sync.Mutex).unlockSlow", "internal/sync.fatal", "internal/sync.runtime_Semrelease", "sync/atomic.StoreUint32", "internal/reflectlite.ValueOf", "(internal/reflectlite.Value).Type", "(internal/reflectlite.Value).IsNil", "internal/reflectlite.TypeOf", "(internal/reflectlite.Value).Elem", "(internal/reflectlite.Value).Set"], unfollowed := true, recurses := true, named := ["gutter/wrap.errWrap", "errors.errorType", "gutter/float.errFloat"], apart := false, laid := [("errors.errorType", laid_errors_errorType), ("gutter/float.errFloat", laid_gutter_float_errFloat), ("gutter/wrap.errWrap", laid_gutter_wrap_errWrap)] }
def WrapHighSaid : Prop := wrapHighRow.holds Tryz.pinned (OpenSpec.ofChange wrapHighSpec)

/-- ITS FALSE NEIGHBOUR: 'it returns false'. Refute it at one input. -/
def wrapHighWrong : ChangeSpec := { name := "wrapHigh", fn := fun _ => fun
  | [d1, d2, d3] => { results := [.lit (.bool false)], args := [d1, d2, d3] }
  | _ => none }
def WrapHighWrongFalsely : Prop := wrapHighRow.holds Tryz.pinned (OpenSpec.ofChange wrapHighWrong)

/-- 'gutterlaw12.WrapApart': WHATEVER THE INPUT: true; the input reads as it did. -/
def wrapApartSpec : ChangeSpec := { name := "wrapApart", fn := fun _ => fun
  | [d1, d2, d3, d4] => { results := [.lit (.bool true)], args := [d1, d2, d3, d4] }
  | _ => none }
def wrapApartRow : OpenClaim := { program := "ythmlbmambcigcaagreatdoor", sum := "270df9d440314ea9490f1fd704da535028e124357bb44883d7d8cd262eab7c40", func := "gutter/gutterlaw12.WrapApart", spec := "wrapApart", inPlace := ["sync/atomic.LoadUint32", "(*internal/sync.Mutex).Lock", "internal/race.Disable", "sync/atomic.CompareAndSwapInt32", "internal/race.Enable", "internal/race.Acquire", "(*internal/sync.Mutex).lockSlow", "internal/sync.runtime_canSpin", "internal/sync.runtime_doSpin", "internal/sync.throw", "internal/sync.runtime_nanotime", "internal/sync.runtime_SemacquireMutex", "sync/atomic.AddInt32", "(*internal/sync.Mutex).Unlock", "internal/race.ReleaseMerge", "(*internal/sync.Mutex).unlockSlow", "internal/sync.fatal", "internal/sync.runtime_Semrelease", "sync/atomic.StoreUint32", "internal/reflectlite.ValueOf", "(internal/reflectlite.Value).Type", "(internal/reflectlite.Value).IsNil", "internal/reflectlite.TypeOf", "(internal/reflectlite.Value).Elem", "(internal/reflectlite.Value).Set"], unfollowed := true, recurses := true, named := ["gutter/wrap.errWrap", "errors.errorType", "gutter/float.errFloat"], apart := false, laid := [("errors.errorType", laid_errors_errorType), ("gutter/float.errFloat", laid_gutter_float_errFloat), ("gutter/wrap.errWrap", laid_gutter_wrap_errWrap)] }
def WrapApartSaid : Prop := wrapApartRow.holds Tryz.pinned (OpenSpec.ofChange wrapApartSpec)

/-- ITS FALSE NEIGHBOUR: 'it returns false'. Refute it at one input. -/
def wrapApartWrong : ChangeSpec := { name := "wrapApart", fn := fun _ => fun
  | [d1, d2, d3, d4] => { results := [.lit (.bool false)], args := [d1, d2, d3, d4] }
  | _ => none }
def WrapApartWrongFalsely : Prop := wrapApartRow.holds Tryz.pinned (OpenSpec.ofChange wrapApartWrong)

/-- 'gutterlaw12.WrapClear': WHATEVER THE INPUT: true; the input reads as it did. -/
def wrapClearSpec : ChangeSpec := { name := "wrapClear", fn := fun _ => fun
  | [d1, d2, d3, d4, d5] => { results := [.lit (.bool true)], args := [d1, d2, d3, d4, d5] }
  | _ => none }
def wrapClearRow : OpenClaim := { program := "ythmlbmambcigcaagreatdoor", sum := "270df9d440314ea9490f1fd704da535028e124357bb44883d7d8cd262eab7c40", func := "gutter/gutterlaw12.WrapClear", spec := "wrapClear", inPlace := ["sync/atomic.LoadUint32", "(*internal/sync.Mutex).Lock", "internal/race.Disable", "sync/atomic.CompareAndSwapInt32", "internal/race.Enable", "internal/race.Acquire", "(*internal/sync.Mutex).lockSlow", "internal/sync.runtime_canSpin", "internal/sync.runtime_doSpin", "internal/sync.throw", "internal/sync.runtime_nanotime", "internal/sync.runtime_SemacquireMutex", "sync/atomic.AddInt32", "(*internal/sync.Mutex).Unlock", "internal/race.ReleaseMerge", "(*internal/sync.Mutex).unlockSlow", "internal/sync.fatal", "internal/sync.runtime_Semrelease", "sync/atomic.StoreUint32", "internal/reflectlite.ValueOf", "(internal/reflectlite.Value).Type", "(internal/reflectlite.Value).IsNil", "internal/reflectlite.TypeOf", "(internal/reflectlite.Value).Elem", "(internal/reflectlite.Value).Set"], unfollowed := true, recurses := true, named := ["gutter/wrap.errWrap", "errors.errorType", "gutter/float.errFloat"], apart := false, laid := [("errors.errorType", laid_errors_errorType), ("gutter/float.errFloat", laid_gutter_float_errFloat), ("gutter/wrap.errWrap", laid_gutter_wrap_errWrap)] }
def WrapClearSaid : Prop := wrapClearRow.holds Tryz.pinned (OpenSpec.ofChange wrapClearSpec)

/-- ITS FALSE NEIGHBOUR: 'it returns false'. Refute it at one input. -/
def wrapClearWrong : ChangeSpec := { name := "wrapClear", fn := fun _ => fun
  | [d1, d2, d3, d4, d5] => { results := [.lit (.bool false)], args := [d1, d2, d3, d4, d5] }
  | _ => none }
def WrapClearWrongFalsely : Prop := wrapClearRow.holds Tryz.pinned (OpenSpec.ofChange wrapClearWrong)

/-- 'gutterlaw12.WrapRects': WHATEVER THE INPUT: true; the input reads as it did. -/
def wrapRectsSpec : ChangeSpec := { name := "wrapRects", fn := fun _ => fun
  | [d1, d2, d3] => { results := [.lit (.bool true)], args := [d1, d2, d3] }
  | _ => none }
def wrapRectsRow : OpenClaim := { program := "ythmlbmambcigcaagreatdoor", sum := "270df9d440314ea9490f1fd704da535028e124357bb44883d7d8cd262eab7c40", func := "gutter/gutterlaw12.WrapRects", spec := "wrapRects", inPlace := ["sync/atomic.LoadUint32", "(*internal/sync.Mutex).Lock", "internal/race.Disable", "sync/atomic.CompareAndSwapInt32", "internal/race.Enable", "internal/race.Acquire", "(*internal/sync.Mutex).lockSlow", "internal/sync.runtime_canSpin", "internal/sync.runtime_doSpin", "internal/sync.throw", "internal/sync.runtime_nanotime", "internal/sync.runtime_SemacquireMutex", "sync/atomic.AddInt32", "(*internal/sync.Mutex).Unlock", "internal/race.ReleaseMerge", "(*internal/sync.Mutex).unlockSlow", "internal/sync.fatal", "internal/sync.runtime_Semrelease", "sync/atomic.StoreUint32", "internal/reflectlite.ValueOf", "(internal/reflectlite.Value).Type", "(internal/reflectlite.Value).IsNil", "internal/reflectlite.TypeOf", "(internal/reflectlite.Value).Elem", "(internal/reflectlite.Value).Set"], unfollowed := true, recurses := true, named := ["gutter/wrap.errWrap", "errors.errorType", "gutter/float.errFloat"], apart := false, laid := [("errors.errorType", laid_errors_errorType), ("gutter/float.errFloat", laid_gutter_float_errFloat), ("gutter/wrap.errWrap", laid_gutter_wrap_errWrap)] }
def WrapRectsSaid : Prop := wrapRectsRow.holds Tryz.pinned (OpenSpec.ofChange wrapRectsSpec)

/-- ITS FALSE NEIGHBOUR: 'it returns false'. Refute it at one input. -/
def wrapRectsWrong : ChangeSpec := { name := "wrapRects", fn := fun _ => fun
  | [d1, d2, d3] => { results := [.lit (.bool false)], args := [d1, d2, d3] }
  | _ => none }
def WrapRectsWrongFalsely : Prop := wrapRectsRow.holds Tryz.pinned (OpenSpec.ofChange wrapRectsWrong)

/-- 'gutterlaw12.WrapPlain': WHATEVER THE INPUT: true; the input reads as it did. -/
def wrapPlainSpec : ChangeSpec := { name := "wrapPlain", fn := fun _ => fun
  | [d1, d2, d3] => { results := [.lit (.bool true)], args := [d1, d2, d3] }
  | _ => none }
def wrapPlainRow : OpenClaim := { program := "ythmlbmambcigcaagreatdoor", sum := "270df9d440314ea9490f1fd704da535028e124357bb44883d7d8cd262eab7c40", func := "gutter/gutterlaw12.WrapPlain", spec := "wrapPlain", inPlace := ["sync/atomic.LoadUint32", "(*internal/sync.Mutex).Lock", "internal/race.Disable", "sync/atomic.CompareAndSwapInt32", "internal/race.Enable", "internal/race.Acquire", "(*internal/sync.Mutex).lockSlow", "internal/sync.runtime_canSpin", "internal/sync.runtime_doSpin", "internal/sync.throw", "internal/sync.runtime_nanotime", "internal/sync.runtime_SemacquireMutex", "sync/atomic.AddInt32", "(*internal/sync.Mutex).Unlock", "internal/race.ReleaseMerge", "(*internal/sync.Mutex).unlockSlow", "internal/sync.fatal", "internal/sync.runtime_Semrelease", "sync/atomic.StoreUint32", "internal/reflectlite.ValueOf", "(internal/reflectlite.Value).Type", "(internal/reflectlite.Value).IsNil", "internal/reflectlite.TypeOf", "(internal/reflectlite.Value).Elem", "(internal/reflectlite.Value).Set"], unfollowed := true, recurses := true, named := ["gutter/wrap.errWrap", "errors.errorType", "gutter/float.errFloat"], apart := false, laid := [("errors.errorType", laid_errors_errorType), ("gutter/float.errFloat", laid_gutter_float_errFloat), ("gutter/wrap.errWrap", laid_gutter_wrap_errWrap)] }
def WrapPlainSaid : Prop := wrapPlainRow.holds Tryz.pinned (OpenSpec.ofChange wrapPlainSpec)

/-- ITS FALSE NEIGHBOUR: 'it returns false'. Refute it at one input. -/
def wrapPlainWrong : ChangeSpec := { name := "wrapPlain", fn := fun _ => fun
  | [d1, d2, d3] => { results := [.lit (.bool false)], args := [d1, d2, d3] }
  | _ => none }
def WrapPlainWrongFalsely : Prop := wrapPlainRow.holds Tryz.pinned (OpenSpec.ofChange wrapPlainWrong)

/- THE SECOND FORM. 'bulk': how many values and letters a reading holds, each counted each time it is reached (what is shared counts as often as it is met; a slice's spare places count too). A statement '..UptoSaid' is the law's where the arguments, and the package variables that the reading takes, are together of bulk at most 1048576: NARROWER than '..Said'. Prove '..Said' where nothing that the law and all that it calls make is longer than what came in: it says more and counts as full. Else prove '..UptoSaid'. A law counts once. -/
mutual
def uptoBulk {H : Type} : DataW H → Nat
  | .lit (.string bytes) => bytes.length + 1
  | .lit _ => 1
  | .nil => 1
  | .ptr d => uptoBulk d + 1
  | .slice elems spare => uptoBulkAll elems + uptoBulkAll spare + 1
  | .agg parts => uptoBulkAll parts + 1
  | .iface _ d => uptoBulk d + 1
  | .map entries => uptoBulkEntries entries + 1
  | .held _ => 1
def uptoBulkAll {H : Type} : List (DataW H) → Nat
  | [] => 0
  | d :: r => uptoBulk d + uptoBulkAll r
def uptoBulkEntries {H : Type} : List (Lit × DataW H) → Nat
  | [] => 0
  | x :: r => uptoBulkEntry x + uptoBulkEntries r
def uptoBulkEntry {H : Type} : Lit × DataW H → Nat
  | (.string bytes, d) => bytes.length + uptoBulk d + 1
  | (_, d) => uptoBulk d + 1
 end
def uptoSmall : (H : Type) → List (DataW H) → Bool := fun _ ds => decide (uptoBulkAll ds ≤ 1048576)
def OpenSpec.upto (s : _root_.Go.ChangeSpec) : _root_.Go.OpenSpec := { _root_.Go.OpenSpec.ofChange s with cond := some uptoSmall }

/-- 'gutterlaw12.WrapPlaces', WHERE WHAT IT READS IS OF BULK AT MOST 1048576: true; the input reads as it did. -/
def wrapPlacesUptoRow : OpenClaim := { program := "ythmlbmambcigcaagreatdoor", sum := "270df9d440314ea9490f1fd704da535028e124357bb44883d7d8cd262eab7c40", func := "gutter/gutterlaw12.WrapPlaces", spec := "wrapPlaces", inPlace := ["sync/atomic.LoadUint32", "(*internal/sync.Mutex).Lock", "internal/race.Disable", "sync/atomic.CompareAndSwapInt32", "internal/race.Enable", "internal/race.Acquire", "(*internal/sync.Mutex).lockSlow", "internal/sync.runtime_canSpin", "internal/sync.runtime_doSpin", "internal/sync.throw", "internal/sync.runtime_nanotime", "internal/sync.runtime_SemacquireMutex", "sync/atomic.AddInt32", "(*internal/sync.Mutex).Unlock", "internal/race.ReleaseMerge", "(*internal/sync.Mutex).unlockSlow", "internal/sync.fatal", "internal/sync.runtime_Semrelease", "sync/atomic.StoreUint32", "internal/reflectlite.ValueOf", "(internal/reflectlite.Value).Type", "(internal/reflectlite.Value).IsNil", "internal/reflectlite.TypeOf", "(internal/reflectlite.Value).Elem", "(internal/reflectlite.Value).Set"], unfollowed := true, recurses := true, named := ["gutter/wrap.errWrap", "errors.errorType", "gutter/float.errFloat"], apart := false, laid := [("errors.errorType", laid_errors_errorType), ("gutter/float.errFloat", laid_gutter_float_errFloat), ("gutter/wrap.errWrap", laid_gutter_wrap_errWrap)], narrowed := true }
def WrapPlacesUptoSaid : Prop := wrapPlacesUptoRow.holds Tryz.pinned (OpenSpec.upto wrapPlacesSpec)

/-- 'gutterlaw12.WrapAll', WHERE WHAT IT READS IS OF BULK AT MOST 1048576: true; the input reads as it did. -/
def wrapAllUptoRow : OpenClaim := { program := "ythmlbmambcigcaagreatdoor", sum := "270df9d440314ea9490f1fd704da535028e124357bb44883d7d8cd262eab7c40", func := "gutter/gutterlaw12.WrapAll", spec := "wrapAll", inPlace := ["sync/atomic.LoadUint32", "(*internal/sync.Mutex).Lock", "internal/race.Disable", "sync/atomic.CompareAndSwapInt32", "internal/race.Enable", "internal/race.Acquire", "(*internal/sync.Mutex).lockSlow", "internal/sync.runtime_canSpin", "internal/sync.runtime_doSpin", "internal/sync.throw", "internal/sync.runtime_nanotime", "internal/sync.runtime_SemacquireMutex", "sync/atomic.AddInt32", "(*internal/sync.Mutex).Unlock", "internal/race.ReleaseMerge", "(*internal/sync.Mutex).unlockSlow", "internal/sync.fatal", "internal/sync.runtime_Semrelease", "sync/atomic.StoreUint32", "internal/reflectlite.ValueOf", "(internal/reflectlite.Value).Type", "(internal/reflectlite.Value).IsNil", "internal/reflectlite.TypeOf", "(internal/reflectlite.Value).Elem", "(internal/reflectlite.Value).Set"], unfollowed := true, recurses := true, named := ["gutter/wrap.errWrap", "errors.errorType", "gutter/float.errFloat"], apart := false, laid := [("errors.errorType", laid_errors_errorType), ("gutter/float.errFloat", laid_gutter_float_errFloat), ("gutter/wrap.errWrap", laid_gutter_wrap_errWrap)], narrowed := true }
def WrapAllUptoSaid : Prop := wrapAllUptoRow.holds Tryz.pinned (OpenSpec.upto wrapAllSpec)

/-- 'gutterlaw12.WrapBelow', WHERE WHAT IT READS IS OF BULK AT MOST 1048576: true; the input reads as it did. -/
def wrapBelowUptoRow : OpenClaim := { program := "ythmlbmambcigcaagreatdoor", sum := "270df9d440314ea9490f1fd704da535028e124357bb44883d7d8cd262eab7c40", func := "gutter/gutterlaw12.WrapBelow", spec := "wrapBelow", inPlace := ["sync/atomic.LoadUint32", "(*internal/sync.Mutex).Lock", "internal/race.Disable", "sync/atomic.CompareAndSwapInt32", "internal/race.Enable", "internal/race.Acquire", "(*internal/sync.Mutex).lockSlow", "internal/sync.runtime_canSpin", "internal/sync.runtime_doSpin", "internal/sync.throw", "internal/sync.runtime_nanotime", "internal/sync.runtime_SemacquireMutex", "sync/atomic.AddInt32", "(*internal/sync.Mutex).Unlock", "internal/race.ReleaseMerge", "(*internal/sync.Mutex).unlockSlow", "internal/sync.fatal", "internal/sync.runtime_Semrelease", "sync/atomic.StoreUint32", "internal/reflectlite.ValueOf", "(internal/reflectlite.Value).Type", "(internal/reflectlite.Value).IsNil", "internal/reflectlite.TypeOf", "(internal/reflectlite.Value).Elem", "(internal/reflectlite.Value).Set"], unfollowed := true, recurses := true, named := ["gutter/wrap.errWrap", "errors.errorType", "gutter/float.errFloat"], apart := false, laid := [("errors.errorType", laid_errors_errorType), ("gutter/float.errFloat", laid_gutter_float_errFloat), ("gutter/wrap.errWrap", laid_gutter_wrap_errWrap)], narrowed := true }
def WrapBelowUptoSaid : Prop := wrapBelowUptoRow.holds Tryz.pinned (OpenSpec.upto wrapBelowSpec)

/-- 'gutterlaw12.WrapHigh', WHERE WHAT IT READS IS OF BULK AT MOST 1048576: true; the input reads as it did. -/
def wrapHighUptoRow : OpenClaim := { program := "ythmlbmambcigcaagreatdoor", sum := "270df9d440314ea9490f1fd704da535028e124357bb44883d7d8cd262eab7c40", func := "gutter/gutterlaw12.WrapHigh", spec := "wrapHigh", inPlace := ["sync/atomic.LoadUint32", "(*internal/sync.Mutex).Lock", "internal/race.Disable", "sync/atomic.CompareAndSwapInt32", "internal/race.Enable", "internal/race.Acquire", "(*internal/sync.Mutex).lockSlow", "internal/sync.runtime_canSpin", "internal/sync.runtime_doSpin", "internal/sync.throw", "internal/sync.runtime_nanotime", "internal/sync.runtime_SemacquireMutex", "sync/atomic.AddInt32", "(*internal/sync.Mutex).Unlock", "internal/race.ReleaseMerge", "(*internal/sync.Mutex).unlockSlow", "internal/sync.fatal", "internal/sync.runtime_Semrelease", "sync/atomic.StoreUint32", "internal/reflectlite.ValueOf", "(internal/reflectlite.Value).Type", "(internal/reflectlite.Value).IsNil", "internal/reflectlite.TypeOf", "(internal/reflectlite.Value).Elem", "(internal/reflectlite.Value).Set"], unfollowed := true, recurses := true, named := ["gutter/wrap.errWrap", "errors.errorType", "gutter/float.errFloat"], apart := false, laid := [("errors.errorType", laid_errors_errorType), ("gutter/float.errFloat", laid_gutter_float_errFloat), ("gutter/wrap.errWrap", laid_gutter_wrap_errWrap)], narrowed := true }
def WrapHighUptoSaid : Prop := wrapHighUptoRow.holds Tryz.pinned (OpenSpec.upto wrapHighSpec)

/-- 'gutterlaw12.WrapApart', WHERE WHAT IT READS IS OF BULK AT MOST 1048576: true; the input reads as it did. -/
def wrapApartUptoRow : OpenClaim := { program := "ythmlbmambcigcaagreatdoor", sum := "270df9d440314ea9490f1fd704da535028e124357bb44883d7d8cd262eab7c40", func := "gutter/gutterlaw12.WrapApart", spec := "wrapApart", inPlace := ["sync/atomic.LoadUint32", "(*internal/sync.Mutex).Lock", "internal/race.Disable", "sync/atomic.CompareAndSwapInt32", "internal/race.Enable", "internal/race.Acquire", "(*internal/sync.Mutex).lockSlow", "internal/sync.runtime_canSpin", "internal/sync.runtime_doSpin", "internal/sync.throw", "internal/sync.runtime_nanotime", "internal/sync.runtime_SemacquireMutex", "sync/atomic.AddInt32", "(*internal/sync.Mutex).Unlock", "internal/race.ReleaseMerge", "(*internal/sync.Mutex).unlockSlow", "internal/sync.fatal", "internal/sync.runtime_Semrelease", "sync/atomic.StoreUint32", "internal/reflectlite.ValueOf", "(internal/reflectlite.Value).Type", "(internal/reflectlite.Value).IsNil", "internal/reflectlite.TypeOf", "(internal/reflectlite.Value).Elem", "(internal/reflectlite.Value).Set"], unfollowed := true, recurses := true, named := ["gutter/wrap.errWrap", "errors.errorType", "gutter/float.errFloat"], apart := false, laid := [("errors.errorType", laid_errors_errorType), ("gutter/float.errFloat", laid_gutter_float_errFloat), ("gutter/wrap.errWrap", laid_gutter_wrap_errWrap)], narrowed := true }
def WrapApartUptoSaid : Prop := wrapApartUptoRow.holds Tryz.pinned (OpenSpec.upto wrapApartSpec)

/-- 'gutterlaw12.WrapClear', WHERE WHAT IT READS IS OF BULK AT MOST 1048576: true; the input reads as it did. -/
def wrapClearUptoRow : OpenClaim := { program := "ythmlbmambcigcaagreatdoor", sum := "270df9d440314ea9490f1fd704da535028e124357bb44883d7d8cd262eab7c40", func := "gutter/gutterlaw12.WrapClear", spec := "wrapClear", inPlace := ["sync/atomic.LoadUint32", "(*internal/sync.Mutex).Lock", "internal/race.Disable", "sync/atomic.CompareAndSwapInt32", "internal/race.Enable", "internal/race.Acquire", "(*internal/sync.Mutex).lockSlow", "internal/sync.runtime_canSpin", "internal/sync.runtime_doSpin", "internal/sync.throw", "internal/sync.runtime_nanotime", "internal/sync.runtime_SemacquireMutex", "sync/atomic.AddInt32", "(*internal/sync.Mutex).Unlock", "internal/race.ReleaseMerge", "(*internal/sync.Mutex).unlockSlow", "internal/sync.fatal", "internal/sync.runtime_Semrelease", "sync/atomic.StoreUint32", "internal/reflectlite.ValueOf", "(internal/reflectlite.Value).Type", "(internal/reflectlite.Value).IsNil", "internal/reflectlite.TypeOf", "(internal/reflectlite.Value).Elem", "(internal/reflectlite.Value).Set"], unfollowed := true, recurses := true, named := ["gutter/wrap.errWrap", "errors.errorType", "gutter/float.errFloat"], apart := false, laid := [("errors.errorType", laid_errors_errorType), ("gutter/float.errFloat", laid_gutter_float_errFloat), ("gutter/wrap.errWrap", laid_gutter_wrap_errWrap)], narrowed := true }
def WrapClearUptoSaid : Prop := wrapClearUptoRow.holds Tryz.pinned (OpenSpec.upto wrapClearSpec)

/-- 'gutterlaw12.WrapRects', WHERE WHAT IT READS IS OF BULK AT MOST 1048576: true; the input reads as it did. -/
def wrapRectsUptoRow : OpenClaim := { program := "ythmlbmambcigcaagreatdoor", sum := "270df9d440314ea9490f1fd704da535028e124357bb44883d7d8cd262eab7c40", func := "gutter/gutterlaw12.WrapRects", spec := "wrapRects", inPlace := ["sync/atomic.LoadUint32", "(*internal/sync.Mutex).Lock", "internal/race.Disable", "sync/atomic.CompareAndSwapInt32", "internal/race.Enable", "internal/race.Acquire", "(*internal/sync.Mutex).lockSlow", "internal/sync.runtime_canSpin", "internal/sync.runtime_doSpin", "internal/sync.throw", "internal/sync.runtime_nanotime", "internal/sync.runtime_SemacquireMutex", "sync/atomic.AddInt32", "(*internal/sync.Mutex).Unlock", "internal/race.ReleaseMerge", "(*internal/sync.Mutex).unlockSlow", "internal/sync.fatal", "internal/sync.runtime_Semrelease", "sync/atomic.StoreUint32", "internal/reflectlite.ValueOf", "(internal/reflectlite.Value).Type", "(internal/reflectlite.Value).IsNil", "internal/reflectlite.TypeOf", "(internal/reflectlite.Value).Elem", "(internal/reflectlite.Value).Set"], unfollowed := true, recurses := true, named := ["gutter/wrap.errWrap", "errors.errorType", "gutter/float.errFloat"], apart := false, laid := [("errors.errorType", laid_errors_errorType), ("gutter/float.errFloat", laid_gutter_float_errFloat), ("gutter/wrap.errWrap", laid_gutter_wrap_errWrap)], narrowed := true }
def WrapRectsUptoSaid : Prop := wrapRectsUptoRow.holds Tryz.pinned (OpenSpec.upto wrapRectsSpec)

/-- 'gutterlaw12.WrapPlain', WHERE WHAT IT READS IS OF BULK AT MOST 1048576: true; the input reads as it did. -/
def wrapPlainUptoRow : OpenClaim := { program := "ythmlbmambcigcaagreatdoor", sum := "270df9d440314ea9490f1fd704da535028e124357bb44883d7d8cd262eab7c40", func := "gutter/gutterlaw12.WrapPlain", spec := "wrapPlain", inPlace := ["sync/atomic.LoadUint32", "(*internal/sync.Mutex).Lock", "internal/race.Disable", "sync/atomic.CompareAndSwapInt32", "internal/race.Enable", "internal/race.Acquire", "(*internal/sync.Mutex).lockSlow", "internal/sync.runtime_canSpin", "internal/sync.runtime_doSpin", "internal/sync.throw", "internal/sync.runtime_nanotime", "internal/sync.runtime_SemacquireMutex", "sync/atomic.AddInt32", "(*internal/sync.Mutex).Unlock", "internal/race.ReleaseMerge", "(*internal/sync.Mutex).unlockSlow", "internal/sync.fatal", "internal/sync.runtime_Semrelease", "sync/atomic.StoreUint32", "internal/reflectlite.ValueOf", "(internal/reflectlite.Value).Type", "(internal/reflectlite.Value).IsNil", "internal/reflectlite.TypeOf", "(internal/reflectlite.Value).Elem", "(internal/reflectlite.Value).Set"], unfollowed := true, recurses := true, named := ["gutter/wrap.errWrap", "errors.errorType", "gutter/float.errFloat"], apart := false, laid := [("errors.errorType", laid_errors_errorType), ("gutter/float.errFloat", laid_gutter_float_errFloat), ("gutter/wrap.errWrap", laid_gutter_wrap_errWrap)], narrowed := true }
def WrapPlainUptoSaid : Prop := wrapPlainUptoRow.holds Tryz.pinned (OpenSpec.upto wrapPlainSpec)

end Rows
end Go.Proofs.YthmlbmambcigcaaGreatDoor
