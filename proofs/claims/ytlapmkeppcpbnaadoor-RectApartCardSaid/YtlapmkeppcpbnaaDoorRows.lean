/-
  NARROWER THAN 'FOR EVERY INPUT', by the rows' own cells (each row's printed sentence says how): RectMakes: laid · RectHulls: laid · RectMoves: laid · RectApart: laid · RectTells: laid · RectMeets: laid · RectWithin: laid.
  DERIVED. THE GIVEN ROWS OF THIS SEAT. 7 by the template 'for every input the law returns true; each argument reads behind the call as it read before'; 0 by the template 'total and deterministic' (their statements: YtlapmkeppcpbnaaDoorTotals.lean).
  GIVEN WITH THE SEED: the statements are not yours to turn. If you find one false, say at which input.
  Laid BY PROGRAM, IN A SANDBOX (cutbox-rows.mjs): the forced cells as the released guide's own fill.sh prints them over the translation ac9c32591bc6c819… (all of the seat's roots in one cut). By AI agents, Wed Nov 11 2026. No macro, syntax, notation, axiom, sorry.
-/
import Derived.Test.YtlapmkeppcpbnaaDoorChecked
import GoSem.Claim
import GoSem.ClaimJoined
import GoSem.ClaimMapViews
import Derived.JoinedTies
import Derived.KernelRfl
namespace Go.Proofs.YtlapmkeppcpbnaaDoor
/- THE CELL 'sum', in the pinned program and in every row, IS THE sha256 OF THE DUMP (.gsa) THAT YtlapmkeppcpbnaaDoorProg.lean LOADS. Nothing in Lean hashes anything: it is a label: what it is worth is what the hold of that sum in a sandbox is worth. -/
noncomputable def Tryd.pinned : Pinned := { name := "ytlapmkeppcpbnaadoor", sum := "ac9c32591bc6c8190f93ae19410190fc1f2dc6fecd81c829c30db396a50a9c17", checked := Tryd.checked }
namespace Rows
def none {H : Type} : Left H := { results := [], args := [] }

/- WHAT THE LISTED PACKAGE-LEVEL VARIABLES READ AS WHEN THE CALL BEGINS. Each datum BY PROGRAM (the guide's laid-datum.mjs) off the statement by which the dump's own 'gosem.cut.vars' lays the variable. In a bare row this is a premise. The card (YtlapmkeppcpbnaaDoorCards.lean) ties it to the program's text. -/
def laid_errors_errorType {H : Type} : DataW H := .iface "internal/reflectlite.rtype" (.agg [.ptr (.lit (.string [101, 114, 114, 111, 114]))])

/-- 'gutterlaw02.RectMakes': WHATEVER THE INPUT: true; the input reads as it did. -/
def rectMakesSpec : ChangeSpec := { name := "rectMakes", fn := fun _ => fun
  | [d1, d2, d3, d4, d5] => { results := [.lit (.bool true)], args := [d1, d2, d3, d4, d5] }
  | _ => none }
def rectMakesRow : OpenClaim := { program := "ytlapmkeppcpbnaadoor", sum := "ac9c32591bc6c8190f93ae19410190fc1f2dc6fecd81c829c30db396a50a9c17", func := "gutter/gutterlaw02.RectMakes", spec := "rectMakes", inPlace := ["internal/reflectlite.ValueOf", "(internal/reflectlite.Value).Type", "(internal/reflectlite.Value).IsNil", "internal/reflectlite.TypeOf", "(internal/reflectlite.Value).Elem", "(internal/reflectlite.Value).Set"], unfollowed := true, recurses := true, named := ["errors.errorType"], plainKeys := false, apart := false, laid := [("errors.errorType", laid_errors_errorType)] }
def RectMakesSaid : Prop := rectMakesRow.holds Tryd.pinned (OpenSpec.ofChange rectMakesSpec)

/-- ITS FALSE NEIGHBOUR: 'it returns false'. Refute it at one input. -/
def rectMakesWrong : ChangeSpec := { name := "rectMakes", fn := fun _ => fun
  | [d1, d2, d3, d4, d5] => { results := [.lit (.bool false)], args := [d1, d2, d3, d4, d5] }
  | _ => none }
def RectMakesWrongFalsely : Prop := rectMakesRow.holds Tryd.pinned (OpenSpec.ofChange rectMakesWrong)

/-- 'gutterlaw02.RectHulls': WHATEVER THE INPUT: true; the input reads as it did. -/
def rectHullsSpec : ChangeSpec := { name := "rectHulls", fn := fun _ => fun
  | [d1, d2] => { results := [.lit (.bool true)], args := [d1, d2] }
  | _ => none }
def rectHullsRow : OpenClaim := { program := "ytlapmkeppcpbnaadoor", sum := "ac9c32591bc6c8190f93ae19410190fc1f2dc6fecd81c829c30db396a50a9c17", func := "gutter/gutterlaw02.RectHulls", spec := "rectHulls", inPlace := ["internal/reflectlite.ValueOf", "(internal/reflectlite.Value).Type", "(internal/reflectlite.Value).IsNil", "internal/reflectlite.TypeOf", "(internal/reflectlite.Value).Elem", "(internal/reflectlite.Value).Set"], unfollowed := true, recurses := true, named := ["errors.errorType"], plainKeys := false, apart := false, laid := [("errors.errorType", laid_errors_errorType)] }
def RectHullsSaid : Prop := rectHullsRow.holds Tryd.pinned (OpenSpec.ofChange rectHullsSpec)

/-- ITS FALSE NEIGHBOUR: 'it returns false'. Refute it at one input. -/
def rectHullsWrong : ChangeSpec := { name := "rectHulls", fn := fun _ => fun
  | [d1, d2] => { results := [.lit (.bool false)], args := [d1, d2] }
  | _ => none }
def RectHullsWrongFalsely : Prop := rectHullsRow.holds Tryd.pinned (OpenSpec.ofChange rectHullsWrong)

/-- 'gutterlaw02.RectMoves': WHATEVER THE INPUT: true; the input reads as it did. -/
def rectMovesSpec : ChangeSpec := { name := "rectMoves", fn := fun _ => fun
  | [d1, d2, d3, d4, d5] => { results := [.lit (.bool true)], args := [d1, d2, d3, d4, d5] }
  | _ => none }
def rectMovesRow : OpenClaim := { program := "ytlapmkeppcpbnaadoor", sum := "ac9c32591bc6c8190f93ae19410190fc1f2dc6fecd81c829c30db396a50a9c17", func := "gutter/gutterlaw02.RectMoves", spec := "rectMoves", inPlace := ["internal/reflectlite.ValueOf", "(internal/reflectlite.Value).Type", "(internal/reflectlite.Value).IsNil", "internal/reflectlite.TypeOf", "(internal/reflectlite.Value).Elem", "(internal/reflectlite.Value).Set"], unfollowed := true, recurses := true, named := ["errors.errorType"], plainKeys := false, apart := false, laid := [("errors.errorType", laid_errors_errorType)] }
def RectMovesSaid : Prop := rectMovesRow.holds Tryd.pinned (OpenSpec.ofChange rectMovesSpec)

/-- ITS FALSE NEIGHBOUR: 'it returns false'. Refute it at one input. -/
def rectMovesWrong : ChangeSpec := { name := "rectMoves", fn := fun _ => fun
  | [d1, d2, d3, d4, d5] => { results := [.lit (.bool false)], args := [d1, d2, d3, d4, d5] }
  | _ => none }
def RectMovesWrongFalsely : Prop := rectMovesRow.holds Tryd.pinned (OpenSpec.ofChange rectMovesWrong)

/-- 'gutterlaw02.RectApart': WHATEVER THE INPUT: true; the input reads as it did. -/
def rectApartSpec : ChangeSpec := { name := "rectApart", fn := fun _ => fun
  | [d1, d2, d3] => { results := [.lit (.bool true)], args := [d1, d2, d3] }
  | _ => none }
def rectApartRow : OpenClaim := { program := "ytlapmkeppcpbnaadoor", sum := "ac9c32591bc6c8190f93ae19410190fc1f2dc6fecd81c829c30db396a50a9c17", func := "gutter/gutterlaw02.RectApart", spec := "rectApart", inPlace := ["internal/reflectlite.ValueOf", "(internal/reflectlite.Value).Type", "(internal/reflectlite.Value).IsNil", "internal/reflectlite.TypeOf", "(internal/reflectlite.Value).Elem", "(internal/reflectlite.Value).Set"], unfollowed := true, recurses := true, named := ["errors.errorType"], plainKeys := false, apart := false, laid := [("errors.errorType", laid_errors_errorType)] }
def RectApartSaid : Prop := rectApartRow.holds Tryd.pinned (OpenSpec.ofChange rectApartSpec)

/-- ITS FALSE NEIGHBOUR: 'it returns false'. Refute it at one input. -/
def rectApartWrong : ChangeSpec := { name := "rectApart", fn := fun _ => fun
  | [d1, d2, d3] => { results := [.lit (.bool false)], args := [d1, d2, d3] }
  | _ => none }
def RectApartWrongFalsely : Prop := rectApartRow.holds Tryd.pinned (OpenSpec.ofChange rectApartWrong)

/-- 'gutterlaw02.RectTells': WHATEVER THE INPUT: true; the input reads as it did. -/
def rectTellsSpec : ChangeSpec := { name := "rectTells", fn := fun _ => fun
  | [d1, d2, d3, d4, d5] => { results := [.lit (.bool true)], args := [d1, d2, d3, d4, d5] }
  | _ => none }
def rectTellsRow : OpenClaim := { program := "ytlapmkeppcpbnaadoor", sum := "ac9c32591bc6c8190f93ae19410190fc1f2dc6fecd81c829c30db396a50a9c17", func := "gutter/gutterlaw02.RectTells", spec := "rectTells", inPlace := ["internal/reflectlite.ValueOf", "(internal/reflectlite.Value).Type", "(internal/reflectlite.Value).IsNil", "internal/reflectlite.TypeOf", "(internal/reflectlite.Value).Elem", "(internal/reflectlite.Value).Set"], unfollowed := true, recurses := true, named := ["errors.errorType"], plainKeys := false, apart := false, laid := [("errors.errorType", laid_errors_errorType)] }
def RectTellsSaid : Prop := rectTellsRow.holds Tryd.pinned (OpenSpec.ofChange rectTellsSpec)

/-- ITS FALSE NEIGHBOUR: 'it returns false'. Refute it at one input. -/
def rectTellsWrong : ChangeSpec := { name := "rectTells", fn := fun _ => fun
  | [d1, d2, d3, d4, d5] => { results := [.lit (.bool false)], args := [d1, d2, d3, d4, d5] }
  | _ => none }
def RectTellsWrongFalsely : Prop := rectTellsRow.holds Tryd.pinned (OpenSpec.ofChange rectTellsWrong)

/-- 'gutterlaw02.RectMeets': WHATEVER THE INPUT: true; the input reads as it did. -/
def rectMeetsSpec : ChangeSpec := { name := "rectMeets", fn := fun _ => fun
  | [d1, d2, d3, d4] => { results := [.lit (.bool true)], args := [d1, d2, d3, d4] }
  | _ => none }
def rectMeetsRow : OpenClaim := { program := "ytlapmkeppcpbnaadoor", sum := "ac9c32591bc6c8190f93ae19410190fc1f2dc6fecd81c829c30db396a50a9c17", func := "gutter/gutterlaw02.RectMeets", spec := "rectMeets", inPlace := ["internal/reflectlite.ValueOf", "(internal/reflectlite.Value).Type", "(internal/reflectlite.Value).IsNil", "internal/reflectlite.TypeOf", "(internal/reflectlite.Value).Elem", "(internal/reflectlite.Value).Set"], unfollowed := true, recurses := true, named := ["errors.errorType"], plainKeys := false, apart := false, laid := [("errors.errorType", laid_errors_errorType)] }
def RectMeetsSaid : Prop := rectMeetsRow.holds Tryd.pinned (OpenSpec.ofChange rectMeetsSpec)

/-- ITS FALSE NEIGHBOUR: 'it returns false'. Refute it at one input. -/
def rectMeetsWrong : ChangeSpec := { name := "rectMeets", fn := fun _ => fun
  | [d1, d2, d3, d4] => { results := [.lit (.bool false)], args := [d1, d2, d3, d4] }
  | _ => none }
def RectMeetsWrongFalsely : Prop := rectMeetsRow.holds Tryd.pinned (OpenSpec.ofChange rectMeetsWrong)

/-- 'gutterlaw02.RectWithin': WHATEVER THE INPUT: true; the input reads as it did. -/
def rectWithinSpec : ChangeSpec := { name := "rectWithin", fn := fun _ => fun
  | [d1, d2, d3, d4, d5] => { results := [.lit (.bool true)], args := [d1, d2, d3, d4, d5] }
  | _ => none }
def rectWithinRow : OpenClaim := { program := "ytlapmkeppcpbnaadoor", sum := "ac9c32591bc6c8190f93ae19410190fc1f2dc6fecd81c829c30db396a50a9c17", func := "gutter/gutterlaw02.RectWithin", spec := "rectWithin", inPlace := ["internal/reflectlite.ValueOf", "(internal/reflectlite.Value).Type", "(internal/reflectlite.Value).IsNil", "internal/reflectlite.TypeOf", "(internal/reflectlite.Value).Elem", "(internal/reflectlite.Value).Set"], unfollowed := true, recurses := true, named := ["errors.errorType"], plainKeys := false, apart := false, laid := [("errors.errorType", laid_errors_errorType)] }
def RectWithinSaid : Prop := rectWithinRow.holds Tryd.pinned (OpenSpec.ofChange rectWithinSpec)

/-- ITS FALSE NEIGHBOUR: 'it returns false'. Refute it at one input. -/
def rectWithinWrong : ChangeSpec := { name := "rectWithin", fn := fun _ => fun
  | [d1, d2, d3, d4, d5] => { results := [.lit (.bool false)], args := [d1, d2, d3, d4, d5] }
  | _ => none }
def RectWithinWrongFalsely : Prop := rectWithinRow.holds Tryd.pinned (OpenSpec.ofChange rectWithinWrong)

/- THE SECOND FORM. 'bulk': how many values and letters a reading holds, each counted each time it is reached (what is shared counts as often as it is met; a slice's spare places count too). A statement '..UptoSaid' is the law's where the arguments, and the package variables that the reading takes, are together of bulk at most 1048576: NARROWER than '..Said'. Prove '..Said' where nothing that the law and all that it calls make is longer than what came in: it says more and counts as full. Else prove '..UptoSaid'. A law counts once. -/
mutual
def uptoBulk {H : Type} : DataW H → Nat
  | .lit (.string bytes) => bytes.length + 1
  | .lit _ => 1
  | .nil => 1
  | .ptr d => uptoBulk d + 1
  | .slice elems spare => uptoBulkAll elems + uptoBulkAll spare + 1
  | .agg parts => uptoBulkAll parts + 1
  | .iface _ d => uptoBulk d + 1
  | .map entries => uptoBulkEntries entries + 1
  | .held _ => 1
def uptoBulkAll {H : Type} : List (DataW H) → Nat
  | [] => 0
  | d :: r => uptoBulk d + uptoBulkAll r
def uptoBulkEntries {H : Type} : List (Lit × DataW H) → Nat
  | [] => 0
  | x :: r => uptoBulkEntry x + uptoBulkEntries r
def uptoBulkEntry {H : Type} : Lit × DataW H → Nat
  | (.string bytes, d) => bytes.length + uptoBulk d + 1
  | (_, d) => uptoBulk d + 1
 end
def uptoSmall : (H : Type) → List (DataW H) → Bool := fun _ ds => decide (uptoBulkAll ds ≤ 1048576)
def OpenSpec.upto (s : _root_.Go.ChangeSpec) : _root_.Go.OpenSpec := { _root_.Go.OpenSpec.ofChange s with cond := some uptoSmall }

/-- 'gutterlaw02.RectMakes', WHERE WHAT IT READS IS OF BULK AT MOST 1048576: true; the input reads as it did. -/
def rectMakesUptoRow : OpenClaim := { program := "ytlapmkeppcpbnaadoor", sum := "ac9c32591bc6c8190f93ae19410190fc1f2dc6fecd81c829c30db396a50a9c17", func := "gutter/gutterlaw02.RectMakes", spec := "rectMakes", inPlace := ["internal/reflectlite.ValueOf", "(internal/reflectlite.Value).Type", "(internal/reflectlite.Value).IsNil", "internal/reflectlite.TypeOf", "(internal/reflectlite.Value).Elem", "(internal/reflectlite.Value).Set"], unfollowed := true, recurses := true, named := ["errors.errorType"], plainKeys := false, apart := false, laid := [("errors.errorType", laid_errors_errorType)], narrowed := true }
def RectMakesUptoSaid : Prop := rectMakesUptoRow.holds Tryd.pinned (OpenSpec.upto rectMakesSpec)

/-- 'gutterlaw02.RectHulls', WHERE WHAT IT READS IS OF BULK AT MOST 1048576: true; the input reads as it did. -/
def rectHullsUptoRow : OpenClaim := { program := "ytlapmkeppcpbnaadoor", sum := "ac9c32591bc6c8190f93ae19410190fc1f2dc6fecd81c829c30db396a50a9c17", func := "gutter/gutterlaw02.RectHulls", spec := "rectHulls", inPlace := ["internal/reflectlite.ValueOf", "(internal/reflectlite.Value).Type", "(internal/reflectlite.Value).IsNil", "internal/reflectlite.TypeOf", "(internal/reflectlite.Value).Elem", "(internal/reflectlite.Value).Set"], unfollowed := true, recurses := true, named := ["errors.errorType"], plainKeys := false, apart := false, laid := [("errors.errorType", laid_errors_errorType)], narrowed := true }
def RectHullsUptoSaid : Prop := rectHullsUptoRow.holds Tryd.pinned (OpenSpec.upto rectHullsSpec)

/-- 'gutterlaw02.RectMoves', WHERE WHAT IT READS IS OF BULK AT MOST 1048576: true; the input reads as it did. -/
def rectMovesUptoRow : OpenClaim := { program := "ytlapmkeppcpbnaadoor", sum := "ac9c32591bc6c8190f93ae19410190fc1f2dc6fecd81c829c30db396a50a9c17", func := "gutter/gutterlaw02.RectMoves", spec := "rectMoves", inPlace := ["internal/reflectlite.ValueOf", "(internal/reflectlite.Value).Type", "(internal/reflectlite.Value).IsNil", "internal/reflectlite.TypeOf", "(internal/reflectlite.Value).Elem", "(internal/reflectlite.Value).Set"], unfollowed := true, recurses := true, named := ["errors.errorType"], plainKeys := false, apart := false, laid := [("errors.errorType", laid_errors_errorType)], narrowed := true }
def RectMovesUptoSaid : Prop := rectMovesUptoRow.holds Tryd.pinned (OpenSpec.upto rectMovesSpec)

/-- 'gutterlaw02.RectApart', WHERE WHAT IT READS IS OF BULK AT MOST 1048576: true; the input reads as it did. -/
def rectApartUptoRow : OpenClaim := { program := "ytlapmkeppcpbnaadoor", sum := "ac9c32591bc6c8190f93ae19410190fc1f2dc6fecd81c829c30db396a50a9c17", func := "gutter/gutterlaw02.RectApart", spec := "rectApart", inPlace := ["internal/reflectlite.ValueOf", "(internal/reflectlite.Value).Type", "(internal/reflectlite.Value).IsNil", "internal/reflectlite.TypeOf", "(internal/reflectlite.Value).Elem", "(internal/reflectlite.Value).Set"], unfollowed := true, recurses := true, named := ["errors.errorType"], plainKeys := false, apart := false, laid := [("errors.errorType", laid_errors_errorType)], narrowed := true }
def RectApartUptoSaid : Prop := rectApartUptoRow.holds Tryd.pinned (OpenSpec.upto rectApartSpec)

/-- 'gutterlaw02.RectTells', WHERE WHAT IT READS IS OF BULK AT MOST 1048576: true; the input reads as it did. -/
def rectTellsUptoRow : OpenClaim := { program := "ytlapmkeppcpbnaadoor", sum := "ac9c32591bc6c8190f93ae19410190fc1f2dc6fecd81c829c30db396a50a9c17", func := "gutter/gutterlaw02.RectTells", spec := "rectTells", inPlace := ["internal/reflectlite.ValueOf", "(internal/reflectlite.Value).Type", "(internal/reflectlite.Value).IsNil", "internal/reflectlite.TypeOf", "(internal/reflectlite.Value).Elem", "(internal/reflectlite.Value).Set"], unfollowed := true, recurses := true, named := ["errors.errorType"], plainKeys := false, apart := false, laid := [("errors.errorType", laid_errors_errorType)], narrowed := true }
def RectTellsUptoSaid : Prop := rectTellsUptoRow.holds Tryd.pinned (OpenSpec.upto rectTellsSpec)

/-- 'gutterlaw02.RectMeets', WHERE WHAT IT READS IS OF BULK AT MOST 1048576: true; the input reads as it did. -/
def rectMeetsUptoRow : OpenClaim := { program := "ytlapmkeppcpbnaadoor", sum := "ac9c32591bc6c8190f93ae19410190fc1f2dc6fecd81c829c30db396a50a9c17", func := "gutter/gutterlaw02.RectMeets", spec := "rectMeets", inPlace := ["internal/reflectlite.ValueOf", "(internal/reflectlite.Value).Type", "(internal/reflectlite.Value).IsNil", "internal/reflectlite.TypeOf", "(internal/reflectlite.Value).Elem", "(internal/reflectlite.Value).Set"], unfollowed := true, recurses := true, named := ["errors.errorType"], plainKeys := false, apart := false, laid := [("errors.errorType", laid_errors_errorType)], narrowed := true }
def RectMeetsUptoSaid : Prop := rectMeetsUptoRow.holds Tryd.pinned (OpenSpec.upto rectMeetsSpec)

/-- 'gutterlaw02.RectWithin', WHERE WHAT IT READS IS OF BULK AT MOST 1048576: true; the input reads as it did. -/
def rectWithinUptoRow : OpenClaim := { program := "ytlapmkeppcpbnaadoor", sum := "ac9c32591bc6c8190f93ae19410190fc1f2dc6fecd81c829c30db396a50a9c17", func := "gutter/gutterlaw02.RectWithin", spec := "rectWithin", inPlace := ["internal/reflectlite.ValueOf", "(internal/reflectlite.Value).Type", "(internal/reflectlite.Value).IsNil", "internal/reflectlite.TypeOf", "(internal/reflectlite.Value).Elem", "(internal/reflectlite.Value).Set"], unfollowed := true, recurses := true, named := ["errors.errorType"], plainKeys := false, apart := false, laid := [("errors.errorType", laid_errors_errorType)], narrowed := true }
def RectWithinUptoSaid : Prop := rectWithinUptoRow.holds Tryd.pinned (OpenSpec.upto rectWithinSpec)

end Rows
end Go.Proofs.YtlapmkeppcpbnaaDoor
