/-
  NARROWER THAN 'FOR EVERY INPUT', by the rows' own cells (each row's printed sentence says how): FloatInsets: laid · FloatAhead: laid · FloatMirror: laid · FloatNexts: laid · FloatPlaces: laid · FloatClear: laid · FloatApart: laid.
  DERIVED. THE GIVEN ROWS OF THIS SEAT. 7 by the template 'for every input the law returns true; each argument reads behind the call as it read before'; 0 by the template 'total and deterministic' (their statements: YtcekbimohggnoaaDoorTotals.lean).
  GIVEN WITH THE SEED: the statements are not yours to turn. If you find one false, say at which input.
  Laid BY PROGRAM, IN A SANDBOX (cutbox-rows.mjs): the forced cells as the released guide's own fill.sh prints them over the translation 024ca861f3f3a025… (all of the seat's roots in one cut). By AI agents, Wed Nov 11 2026. No macro, syntax, notation, axiom, sorry.
-/
import Derived.Test.YtcekbimohggnoaaDoorChecked
import GoSem.Claim
import GoSem.ClaimJoined
import GoSem.ClaimMapViews
import Derived.JoinedTies
import Derived.KernelRfl
namespace Go.Proofs.YtcekbimohggnoaaDoor
/- THE CELL 'sum', in the pinned program and in every row, IS THE sha256 OF THE DUMP (.gsa) THAT YtcekbimohggnoaaDoorProg.lean LOADS. Nothing in Lean hashes anything: it is a label: what it is worth is what the hold of that sum in a sandbox is worth. -/
noncomputable def Tryd.pinned : Pinned := { name := "ytcekbimohggnoaadoor", sum := "024ca861f3f3a025b9f048ceaebf1ffd38be5bc3aa0c96d9b8640bbbf98c26e0", checked := Tryd.checked }
namespace Rows
def none {H : Type} : Left H := { results := [], args := [] }

/- WHAT THE LISTED PACKAGE-LEVEL VARIABLES READ AS WHEN THE CALL BEGINS. Each datum BY PROGRAM (the guide's laid-datum.mjs) off the statement by which the dump's own 'gosem.cut.vars' lays the variable. In a bare row this is a premise. The card (YtcekbimohggnoaaDoorCards.lean) ties it to the program's text. -/
def laid_errors_errorType {H : Type} : DataW H := .iface "internal/reflectlite.rtype" (.agg [.ptr (.lit (.string [101, 114, 114, 111, 114]))])
def laid_gutter_float_errFloat {H : Type} : DataW H := .iface "*errors.errorString" (.ptr (.agg [.lit (.string [110, 111, 32, 102, 108, 111, 97, 116])]))

/-- 'gutterlaw11.FloatInsets': WHATEVER THE INPUT: true; the input reads as it did. -/
def floatInsetsSpec : ChangeSpec := { name := "floatInsets", fn := fun _ => fun
  | [d1, d2, d3, d4] => { results := [.lit (.bool true)], args := [d1, d2, d3, d4] }
  | _ => none }
def floatInsetsRow : OpenClaim := { program := "ytcekbimohggnoaadoor", sum := "024ca861f3f3a025b9f048ceaebf1ffd38be5bc3aa0c96d9b8640bbbf98c26e0", func := "gutter/gutterlaw11.FloatInsets", spec := "floatInsets", inPlace := ["internal/reflectlite.ValueOf", "(internal/reflectlite.Value).Type", "(internal/reflectlite.Value).IsNil", "internal/reflectlite.TypeOf", "(internal/reflectlite.Value).Elem", "(internal/reflectlite.Value).Set"], unfollowed := true, recurses := true, named := ["gutter/float.errFloat", "errors.errorType"], plainKeys := false, apart := false, laid := [("errors.errorType", laid_errors_errorType), ("gutter/float.errFloat", laid_gutter_float_errFloat)] }
def FloatInsetsSaid : Prop := floatInsetsRow.holds Tryd.pinned (OpenSpec.ofChange floatInsetsSpec)

/-- ITS FALSE NEIGHBOUR: 'it returns false'. Refute it at one input. -/
def floatInsetsWrong : ChangeSpec := { name := "floatInsets", fn := fun _ => fun
  | [d1, d2, d3, d4] => { results := [.lit (.bool false)], args := [d1, d2, d3, d4] }
  | _ => none }
def FloatInsetsWrongFalsely : Prop := floatInsetsRow.holds Tryd.pinned (OpenSpec.ofChange floatInsetsWrong)

/-- 'gutterlaw11.FloatAhead': WHATEVER THE INPUT: true; the input reads as it did. -/
def floatAheadSpec : ChangeSpec := { name := "floatAhead", fn := fun _ => fun
  | [d1, d2, d3] => { results := [.lit (.bool true)], args := [d1, d2, d3] }
  | _ => none }
def floatAheadRow : OpenClaim := { program := "ytcekbimohggnoaadoor", sum := "024ca861f3f3a025b9f048ceaebf1ffd38be5bc3aa0c96d9b8640bbbf98c26e0", func := "gutter/gutterlaw11.FloatAhead", spec := "floatAhead", inPlace := ["internal/reflectlite.ValueOf", "(internal/reflectlite.Value).Type", "(internal/reflectlite.Value).IsNil", "internal/reflectlite.TypeOf", "(internal/reflectlite.Value).Elem", "(internal/reflectlite.Value).Set"], unfollowed := true, recurses := true, named := ["gutter/float.errFloat", "errors.errorType"], plainKeys := false, apart := false, laid := [("errors.errorType", laid_errors_errorType), ("gutter/float.errFloat", laid_gutter_float_errFloat)] }
def FloatAheadSaid : Prop := floatAheadRow.holds Tryd.pinned (OpenSpec.ofChange floatAheadSpec)

/-- ITS FALSE NEIGHBOUR: 'it returns false'. Refute it at one input. -/
def floatAheadWrong : ChangeSpec := { name := "floatAhead", fn := fun _ => fun
  | [d1, d2, d3] => { results := [.lit (.bool false)], args := [d1, d2, d3] }
  | _ => none }
def FloatAheadWrongFalsely : Prop := floatAheadRow.holds Tryd.pinned (OpenSpec.ofChange floatAheadWrong)

/-- 'gutterlaw11.FloatMirror': WHATEVER THE INPUT: true; the input reads as it did. -/
def floatMirrorSpec : ChangeSpec := { name := "floatMirror", fn := fun _ => fun
  | [d1, d2] => { results := [.lit (.bool true)], args := [d1, d2] }
  | _ => none }
def floatMirrorRow : OpenClaim := { program := "ytcekbimohggnoaadoor", sum := "024ca861f3f3a025b9f048ceaebf1ffd38be5bc3aa0c96d9b8640bbbf98c26e0", func := "gutter/gutterlaw11.FloatMirror", spec := "floatMirror", inPlace := ["internal/reflectlite.ValueOf", "(internal/reflectlite.Value).Type", "(internal/reflectlite.Value).IsNil", "internal/reflectlite.TypeOf", "(internal/reflectlite.Value).Elem", "(internal/reflectlite.Value).Set"], unfollowed := true, recurses := true, named := ["gutter/float.errFloat", "errors.errorType"], plainKeys := false, apart := false, laid := [("errors.errorType", laid_errors_errorType), ("gutter/float.errFloat", laid_gutter_float_errFloat)] }
def FloatMirrorSaid : Prop := floatMirrorRow.holds Tryd.pinned (OpenSpec.ofChange floatMirrorSpec)

/-- ITS FALSE NEIGHBOUR: 'it returns false'. Refute it at one input. -/
def floatMirrorWrong : ChangeSpec := { name := "floatMirror", fn := fun _ => fun
  | [d1, d2] => { results := [.lit (.bool false)], args := [d1, d2] }
  | _ => none }
def FloatMirrorWrongFalsely : Prop := floatMirrorRow.holds Tryd.pinned (OpenSpec.ofChange floatMirrorWrong)

/-- 'gutterlaw11.FloatNexts': WHATEVER THE INPUT: true; the input reads as it did. -/
def floatNextsSpec : ChangeSpec := { name := "floatNexts", fn := fun _ => fun
  | [d1, d2, d3] => { results := [.lit (.bool true)], args := [d1, d2, d3] }
  | _ => none }
def floatNextsRow : OpenClaim := { program := "ytcekbimohggnoaadoor", sum := "024ca861f3f3a025b9f048ceaebf1ffd38be5bc3aa0c96d9b8640bbbf98c26e0", func := "gutter/gutterlaw11.FloatNexts", spec := "floatNexts", inPlace := ["internal/reflectlite.ValueOf", "(internal/reflectlite.Value).Type", "(internal/reflectlite.Value).IsNil", "internal/reflectlite.TypeOf", "(internal/reflectlite.Value).Elem", "(internal/reflectlite.Value).Set"], unfollowed := true, recurses := true, named := ["gutter/float.errFloat", "errors.errorType"], plainKeys := false, apart := false, laid := [("errors.errorType", laid_errors_errorType), ("gutter/float.errFloat", laid_gutter_float_errFloat)] }
def FloatNextsSaid : Prop := floatNextsRow.holds Tryd.pinned (OpenSpec.ofChange floatNextsSpec)

/-- ITS FALSE NEIGHBOUR: 'it returns false'. Refute it at one input. -/
def floatNextsWrong : ChangeSpec := { name := "floatNexts", fn := fun _ => fun
  | [d1, d2, d3] => { results := [.lit (.bool false)], args := [d1, d2, d3] }
  | _ => none }
def FloatNextsWrongFalsely : Prop := floatNextsRow.holds Tryd.pinned (OpenSpec.ofChange floatNextsWrong)

/-- 'gutterlaw11.FloatPlaces': WHATEVER THE INPUT: true; the input reads as it did. -/
def floatPlacesSpec : ChangeSpec := { name := "floatPlaces", fn := fun _ => fun
  | [d1, d2] => { results := [.lit (.bool true)], args := [d1, d2] }
  | _ => none }
def floatPlacesRow : OpenClaim := { program := "ytcekbimohggnoaadoor", sum := "024ca861f3f3a025b9f048ceaebf1ffd38be5bc3aa0c96d9b8640bbbf98c26e0", func := "gutter/gutterlaw11.FloatPlaces", spec := "floatPlaces", inPlace := ["internal/reflectlite.ValueOf", "(internal/reflectlite.Value).Type", "(internal/reflectlite.Value).IsNil", "internal/reflectlite.TypeOf", "(internal/reflectlite.Value).Elem", "(internal/reflectlite.Value).Set"], unfollowed := true, recurses := true, named := ["gutter/float.errFloat", "errors.errorType"], plainKeys := false, apart := false, laid := [("errors.errorType", laid_errors_errorType), ("gutter/float.errFloat", laid_gutter_float_errFloat)] }
def FloatPlacesSaid : Prop := floatPlacesRow.holds Tryd.pinned (OpenSpec.ofChange floatPlacesSpec)

/-- ITS FALSE NEIGHBOUR: 'it returns false'. Refute it at one input. -/
def floatPlacesWrong : ChangeSpec := { name := "floatPlaces", fn := fun _ => fun
  | [d1, d2] => { results := [.lit (.bool false)], args := [d1, d2] }
  | _ => none }
def FloatPlacesWrongFalsely : Prop := floatPlacesRow.holds Tryd.pinned (OpenSpec.ofChange floatPlacesWrong)

/-- 'gutterlaw11.FloatClear': WHATEVER THE INPUT: true; the input reads as it did. -/
def floatClearSpec : ChangeSpec := { name := "floatClear", fn := fun _ => fun
  | [d1, d2] => { results := [.lit (.bool true)], args := [d1, d2] }
  | _ => none }
def floatClearRow : OpenClaim := { program := "ytcekbimohggnoaadoor", sum := "024ca861f3f3a025b9f048ceaebf1ffd38be5bc3aa0c96d9b8640bbbf98c26e0", func := "gutter/gutterlaw11.FloatClear", spec := "floatClear", inPlace := ["internal/reflectlite.ValueOf", "(internal/reflectlite.Value).Type", "(internal/reflectlite.Value).IsNil", "internal/reflectlite.TypeOf", "(internal/reflectlite.Value).Elem", "(internal/reflectlite.Value).Set"], unfollowed := true, recurses := true, named := ["gutter/float.errFloat", "errors.errorType"], plainKeys := false, apart := false, laid := [("errors.errorType", laid_errors_errorType), ("gutter/float.errFloat", laid_gutter_float_errFloat)] }
def FloatClearSaid : Prop := floatClearRow.holds Tryd.pinned (OpenSpec.ofChange floatClearSpec)

/-- ITS FALSE NEIGHBOUR: 'it returns false'. Refute it at one input. -/
def floatClearWrong : ChangeSpec := { name := "floatClear", fn := fun _ => fun
  | [d1, d2] => { results := [.lit (.bool false)], args := [d1, d2] }
  | _ => none }
def FloatClearWrongFalsely : Prop := floatClearRow.holds Tryd.pinned (OpenSpec.ofChange floatClearWrong)

/-- 'gutterlaw11.FloatApart': WHATEVER THE INPUT: true; the input reads as it did. -/
def floatApartSpec : ChangeSpec := { name := "floatApart", fn := fun _ => fun
  | [d1, d2] => { results := [.lit (.bool true)], args := [d1, d2] }
  | _ => none }
def floatApartRow : OpenClaim := { program := "ytcekbimohggnoaadoor", sum := "024ca861f3f3a025b9f048ceaebf1ffd38be5bc3aa0c96d9b8640bbbf98c26e0", func := "gutter/gutterlaw11.FloatApart", spec := "floatApart", inPlace := ["internal/reflectlite.ValueOf", "(internal/reflectlite.Value).Type", "(internal/reflectlite.Value).IsNil", "internal/reflectlite.TypeOf", "(internal/reflectlite.Value).Elem", "(internal/reflectlite.Value).Set"], unfollowed := true, recurses := true, named := ["gutter/float.errFloat", "errors.errorType"], plainKeys := false, apart := false, laid := [("errors.errorType", laid_errors_errorType), ("gutter/float.errFloat", laid_gutter_float_errFloat)] }
def FloatApartSaid : Prop := floatApartRow.holds Tryd.pinned (OpenSpec.ofChange floatApartSpec)

/-- ITS FALSE NEIGHBOUR: 'it returns false'. Refute it at one input. -/
def floatApartWrong : ChangeSpec := { name := "floatApart", fn := fun _ => fun
  | [d1, d2] => { results := [.lit (.bool false)], args := [d1, d2] }
  | _ => none }
def FloatApartWrongFalsely : Prop := floatApartRow.holds Tryd.pinned (OpenSpec.ofChange floatApartWrong)

/- THE SECOND FORM. 'bulk': how many values and letters a reading holds, each counted each time it is reached (what is shared counts as often as it is met; a slice's spare places count too). A statement '..UptoSaid' is the law's where the arguments, and the package variables that the reading takes, are together of bulk at most 1048576: NARROWER than '..Said'. Prove '..Said' where nothing that the law and all that it calls make is longer than what came in: it says more and counts as full. Else prove '..UptoSaid'. A law counts once. -/
mutual
def uptoBulk {H : Type} : DataW H → Nat
  | .lit (.string bytes) => bytes.length + 1
  | .lit _ => 1
  | .nil => 1
  | .ptr d => uptoBulk d + 1
  | .slice elems spare => uptoBulkAll elems + uptoBulkAll spare + 1
  | .agg parts => uptoBulkAll parts + 1
  | .iface _ d => uptoBulk d + 1
  | .map entries => uptoBulkEntries entries + 1
  | .held _ => 1
def uptoBulkAll {H : Type} : List (DataW H) → Nat
  | [] => 0
  | d :: r => uptoBulk d + uptoBulkAll r
def uptoBulkEntries {H : Type} : List (Lit × DataW H) → Nat
  | [] => 0
  | x :: r => uptoBulkEntry x + uptoBulkEntries r
def uptoBulkEntry {H : Type} : Lit × DataW H → Nat
  | (.string bytes, d) => bytes.length + uptoBulk d + 1
  | (_, d) => uptoBulk d + 1
 end
def uptoSmall : (H : Type) → List (DataW H) → Bool := fun _ ds => decide (uptoBulkAll ds ≤ 1048576)
def OpenSpec.upto (s : _root_.Go.ChangeSpec) : _root_.Go.OpenSpec := { _root_.Go.OpenSpec.ofChange s with cond := some uptoSmall }

/-- 'gutterlaw11.FloatInsets', WHERE WHAT IT READS IS OF BULK AT MOST 1048576: true; the input reads as it did. -/
def floatInsetsUptoRow : OpenClaim := { program := "ytcekbimohggnoaadoor", sum := "024ca861f3f3a025b9f048ceaebf1ffd38be5bc3aa0c96d9b8640bbbf98c26e0", func := "gutter/gutterlaw11.FloatInsets", spec := "floatInsets", inPlace := ["internal/reflectlite.ValueOf", "(internal/reflectlite.Value).Type", "(internal/reflectlite.Value).IsNil", "internal/reflectlite.TypeOf", "(internal/reflectlite.Value).Elem", "(internal/reflectlite.Value).Set"], unfollowed := true, recurses := true, named := ["gutter/float.errFloat", "errors.errorType"], plainKeys := false, apart := false, laid := [("errors.errorType", laid_errors_errorType), ("gutter/float.errFloat", laid_gutter_float_errFloat)], narrowed := true }
def FloatInsetsUptoSaid : Prop := floatInsetsUptoRow.holds Tryd.pinned (OpenSpec.upto floatInsetsSpec)

/-- 'gutterlaw11.FloatAhead', WHERE WHAT IT READS IS OF BULK AT MOST 1048576: true; the input reads as it did. -/
def floatAheadUptoRow : OpenClaim := { program := "ytcekbimohggnoaadoor", sum := "024ca861f3f3a025b9f048ceaebf1ffd38be5bc3aa0c96d9b8640bbbf98c26e0", func := "gutter/gutterlaw11.FloatAhead", spec := "floatAhead", inPlace := ["internal/reflectlite.ValueOf", "(internal/reflectlite.Value).Type", "(internal/reflectlite.Value).IsNil", "internal/reflectlite.TypeOf", "(internal/reflectlite.Value).Elem", "(internal/reflectlite.Value).Set"], unfollowed := true, recurses := true, named := ["gutter/float.errFloat", "errors.errorType"], plainKeys := false, apart := false, laid := [("errors.errorType", laid_errors_errorType), ("gutter/float.errFloat", laid_gutter_float_errFloat)], narrowed := true }
def FloatAheadUptoSaid : Prop := floatAheadUptoRow.holds Tryd.pinned (OpenSpec.upto floatAheadSpec)

/-- 'gutterlaw11.FloatMirror', WHERE WHAT IT READS IS OF BULK AT MOST 1048576: true; the input reads as it did. -/
def floatMirrorUptoRow : OpenClaim := { program := "ytcekbimohggnoaadoor", sum := "024ca861f3f3a025b9f048ceaebf1ffd38be5bc3aa0c96d9b8640bbbf98c26e0", func := "gutter/gutterlaw11.FloatMirror", spec := "floatMirror", inPlace := ["internal/reflectlite.ValueOf", "(internal/reflectlite.Value).Type", "(internal/reflectlite.Value).IsNil", "internal/reflectlite.TypeOf", "(internal/reflectlite.Value).Elem", "(internal/reflectlite.Value).Set"], unfollowed := true, recurses := true, named := ["gutter/float.errFloat", "errors.errorType"], plainKeys := false, apart := false, laid := [("errors.errorType", laid_errors_errorType), ("gutter/float.errFloat", laid_gutter_float_errFloat)], narrowed := true }
def FloatMirrorUptoSaid : Prop := floatMirrorUptoRow.holds Tryd.pinned (OpenSpec.upto floatMirrorSpec)

/-- 'gutterlaw11.FloatNexts', WHERE WHAT IT READS IS OF BULK AT MOST 1048576: true; the input reads as it did. -/
def floatNextsUptoRow : OpenClaim := { program := "ytcekbimohggnoaadoor", sum := "024ca861f3f3a025b9f048ceaebf1ffd38be5bc3aa0c96d9b8640bbbf98c26e0", func := "gutter/gutterlaw11.FloatNexts", spec := "floatNexts", inPlace := ["internal/reflectlite.ValueOf", "(internal/reflectlite.Value).Type", "(internal/reflectlite.Value).IsNil", "internal/reflectlite.TypeOf", "(internal/reflectlite.Value).Elem", "(internal/reflectlite.Value).Set"], unfollowed := true, recurses := true, named := ["gutter/float.errFloat", "errors.errorType"], plainKeys := false, apart := false, laid := [("errors.errorType", laid_errors_errorType), ("gutter/float.errFloat", laid_gutter_float_errFloat)], narrowed := true }
def FloatNextsUptoSaid : Prop := floatNextsUptoRow.holds Tryd.pinned (OpenSpec.upto floatNextsSpec)

/-- 'gutterlaw11.FloatPlaces', WHERE WHAT IT READS IS OF BULK AT MOST 1048576: true; the input reads as it did. -/
def floatPlacesUptoRow : OpenClaim := { program := "ytcekbimohggnoaadoor", sum := "024ca861f3f3a025b9f048ceaebf1ffd38be5bc3aa0c96d9b8640bbbf98c26e0", func := "gutter/gutterlaw11.FloatPlaces", spec := "floatPlaces", inPlace := ["internal/reflectlite.ValueOf", "(internal/reflectlite.Value).Type", "(internal/reflectlite.Value).IsNil", "internal/reflectlite.TypeOf", "(internal/reflectlite.Value).Elem", "(internal/reflectlite.Value).Set"], unfollowed := true, recurses := true, named := ["gutter/float.errFloat", "errors.errorType"], plainKeys := false, apart := false, laid := [("errors.errorType", laid_errors_errorType), ("gutter/float.errFloat", laid_gutter_float_errFloat)], narrowed := true }
def FloatPlacesUptoSaid : Prop := floatPlacesUptoRow.holds Tryd.pinned (OpenSpec.upto floatPlacesSpec)

/-- 'gutterlaw11.FloatClear', WHERE WHAT IT READS IS OF BULK AT MOST 1048576: true; the input reads as it did. -/
def floatClearUptoRow : OpenClaim := { program := "ytcekbimohggnoaadoor", sum := "024ca861f3f3a025b9f048ceaebf1ffd38be5bc3aa0c96d9b8640bbbf98c26e0", func := "gutter/gutterlaw11.FloatClear", spec := "floatClear", inPlace := ["internal/reflectlite.ValueOf", "(internal/reflectlite.Value).Type", "(internal/reflectlite.Value).IsNil", "internal/reflectlite.TypeOf", "(internal/reflectlite.Value).Elem", "(internal/reflectlite.Value).Set"], unfollowed := true, recurses := true, named := ["gutter/float.errFloat", "errors.errorType"], plainKeys := false, apart := false, laid := [("errors.errorType", laid_errors_errorType), ("gutter/float.errFloat", laid_gutter_float_errFloat)], narrowed := true }
def FloatClearUptoSaid : Prop := floatClearUptoRow.holds Tryd.pinned (OpenSpec.upto floatClearSpec)

/-- 'gutterlaw11.FloatApart', WHERE WHAT IT READS IS OF BULK AT MOST 1048576: true; the input reads as it did. -/
def floatApartUptoRow : OpenClaim := { program := "ytcekbimohggnoaadoor", sum := "024ca861f3f3a025b9f048ceaebf1ffd38be5bc3aa0c96d9b8640bbbf98c26e0", func := "gutter/gutterlaw11.FloatApart", spec := "floatApart", inPlace := ["internal/reflectlite.ValueOf", "(internal/reflectlite.Value).Type", "(internal/reflectlite.Value).IsNil", "internal/reflectlite.TypeOf", "(internal/reflectlite.Value).Elem", "(internal/reflectlite.Value).Set"], unfollowed := true, recurses := true, named := ["gutter/float.errFloat", "errors.errorType"], plainKeys := false, apart := false, laid := [("errors.errorType", laid_errors_errorType), ("gutter/float.errFloat", laid_gutter_float_errFloat)], narrowed := true }
def FloatApartUptoSaid : Prop := floatApartUptoRow.holds Tryd.pinned (OpenSpec.upto floatApartSpec)

end Rows
end Go.Proofs.YtcekbimohggnoaaDoor
