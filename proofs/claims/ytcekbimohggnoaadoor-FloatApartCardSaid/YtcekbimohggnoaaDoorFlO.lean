/- What all rows of this seat need: the laid variables; the arguments' shapes. -/
import Derived.Test.YtcekbimohggnoaaDoorFlN
import Derived.Test.YtcekbimohggnoaaDoorSxW
import Derived.Test.YtcekbimohggnoaaDoorRows
import Derived.Test.YtcekbimohggnoaaDoorTie
import Derived.Test.YtcekbimohggnoaaDoorCards
import Derived.LaidLaws
import Derived.LaidHandle
import Derived.Stop.Joined
import Derived.Stop.LaidErr
import Derived.SevenTiedAt
namespace Go.Proofs.YtcekbimohggnoaaDoor
open Go Go.SX Go.Proofs Go.RowKit Go.ChangeShapes
set_option maxRecDepth 100000
set_option linter.unusedVariables false
set_option linter.unusedSectionVars false
set_option linter.unusedSimpArgs false

abbrev laidL : List (String × DataW Unit) := [("errors.errorType", Rows.laid_errors_errorType), ("gutter/float.errFloat", Rows.laid_gutter_float_errFloat)]

theorem es_star : "*" ++ "errors.errorString" = "*errors.errorString" := by decide
theorem es_row (u : TypeId) (h : Tryd.prog.typeName? 3 u = some "*errors.errorString") : u = 127 :=
  typeName_ptr_named (nm := "errors.errorString") (by rw [es_star]; kernel_rfl) (by kernel_rfl) (by decide) u (by rw [es_star]; exact h)

theorem glw_of_laid {W : World} (h : laidMetH Tryd.prog laidL W) : ∃ e : EA, @GLw (@AsRect.gw e) W := by
  have h' : laidMet Tryd.prog [("gutter/float.errFloat", Rows.laid_gutter_float_errFloat)] W ∧ handlesMet Tryd.prog [("errors.errorType", Rows.laid_errors_errorType)] W := h
  obtain ⟨name, u, ty, e1, e2, e3, e4, e5⟩ := h'.2 _ (List.mem_singleton.2 rfl)
  have en : name = [101, 114, 114, 111, 114] := (Option.some.inj e1).symm
  subst en
  have hrt : (Tryd.prog.cutTypes.find? (·.1 == "internal/reflectlite.rtype")).map (·.2) = some 100 := by kernel_rfl
  obtain rfl := Option.some.inj (hrt.symm.trans e2)
  have hone : ((List.range Tryd.prog.types.size).filter fun t => Tryd.prog.rowNamed t [101, 114, 114, 111, 114]) = [47] := by kernel_rfl
  have hm : ty ∈ (List.range Tryd.prog.types.size).filter fun t => Tryd.prog.rowNamed t [101, 114, 114, 111, 114] := List.mem_filter.2 ⟨List.mem_range.2 e3, e4⟩
  rw [hone] at hm
  obtain rfl := List.mem_singleton.1 hm
  have hh : typeHandle Tryd.prog 47 = .pointer (some ⟨2, 47, none⟩) := by kernel_rfl
  rw [hh] at e5
  have het : Tryd.prog.globalNamed "errors.errorType" = some 1 := by kernel_rfl
  have hef : Tryd.prog.globalNamed "gutter/float.errFloat" = some 0 := by kernel_rfl
  have hu := h'.1
  obtain ⟨a, s, hv, _, _, _⟩ := laid_sentinel (ti := 47) (te := 149) (ts := 9) hu hef (by kernel_rfl) Tryd.underlying47 es_row Tryd.underlying127 Tryd.underlying149 rfl rfl Tryd.underlying9 (by kernel_rfl) (by kernel_rfl)
  refine ⟨⟨fun _ => a⟩, fun x hx => ?_⟩
  have hx' : x = (1, 0, .iface 100 (.agg #[.pointer (some ⟨2, 47, none⟩)])) ∨ x = (0, 0, .iface 127 (.pointer (some a))) := by
    cases hx with
    | head => exact .inl rfl
    | tail _ hx => exact .inr (List.mem_singleton.1 hx)
  rcases hx' with rfl | rfl
  · simpa using World.var?_cell het e5 0
  · simpa using World.var?_cell hef hv 0

/-- A world that meets the condition. -/
noncomputable def lowW : Nat := (World.holding Tryd.prog default ⟨#[], #[], []⟩).heap.size
noncomputable def laidWorld (os : Os) : World :=
  let w0 := World.holding Tryd.prog os ⟨#[.cells #[.string ⟨#[110, 111, 32, 102, 108, 111, 97, 116]⟩] 149], #[], []⟩
  { w0 with heap := (w0.heap.modify 1 fun
      | .cells _ t frozen => .cells #[.iface 100 (.agg #[.pointer (some ⟨2, 47, none⟩)])] t frozen
      | o => o).modify 0 fun
      | .cells _ t frozen => .cells #[.iface 127 (.pointer (some ⟨lowW, 0, none⟩))] t frozen
      | o => o }
theorem laidWorld_met (os : Os) (args : Array Value) : laidMetH Tryd.prog laidL ((laidWorld os).forCall (fun _ _ => 0) ⟨#[], args, []⟩).memory :=
  laidMetH_of_parts (laidMet_of_run (ps := [.cell 0 0, .cell lowW 0]) 8 (by kernel_rfl) (by kernel_rfl) (by kernel_rfl)) (by kernel_rfl)
theorem own : ownKnob Tryd.prog.godebug = none := by kernel_rfl

/-- **A law's contract gives what its row asks**, with the laid variables. -/
theorem row_of {f : Nat} {fn : Func} {sp : List V → T V} {s : ChangeSpec} {shs : List (Bool × List K)} {rt : TypeId} {apart : Bool} (H : Type) (enc : TypeId × Value → H) (os : Os) (started : os.Started)
    (hs : ∀ e : EA, @SpecOK (@AsRect.gw e) Tryd.prog f sp) (hfn : Tryd.prog.funcs[f]? = some fn) (hrt : fn.resultTypes = #[rt]) (hu : Tryd.prog.underlying rt = some .bool) (hvars : s.vars = []) (hf : ∀ (ds : List (DataW H)), ds.length = fn.params.size → s.fn H ds = { results := [.lit (.bool true)], args := ds })
    (hpar : parTs Tryd.prog fn.params.toList = some shs) (hlaw : ∀ xs, PVs shs xs → (sp xs).pick = some (V.b true)) (hno : Tryd.checked.prog.inits.idxOf? f = none)
    (hw : ∃ (w : World) (tape : Tape) (i : Input), w.os = os ∧ (w.forCall tape i).Shaped Tryd.checked.prog ∧ i.vars = [] ∧ Input.okWide Tryd.checked.prog (w.forCall tape i) .any w.heap.size f i ∧
      ((s.pre enc Tryd.checked.prog fn [] apart (w.forCall tape i).memory i.args ∧ laidMetH Tryd.prog laidL (w.forCall tape i).memory) ∧ sizedMet enc Tryd.checked.prog fn (OpenSpec.ofChange s) apart (w.forCall tape i).memory i.args) ∧ ({} : Assume).holds Tryd.checked.prog (lone (Frame.enter Tryd.checked.prog f i.args .normal) [] (w.forCall tape i))) :
    ReturnsInHanded {} Tryd.checked os f .any (fun w args => (s.pre enc Tryd.prog fn [] apart w args ∧ laidMetH Tryd.prog laidL w) ∧ sizedMet enc Tryd.prog fn (OpenSpec.ofChange s) apart w args) (s.post enc Tryd.prog fn apart true false false) := by
  refine returnsInHanded_of_change_and (C := Tryd.checked) (X := fun w _ => laidMetH Tryd.prog laidL w) (fun _ _ _ hh h => h.of_heap hh) own started hno hfn hw ?_
  intro W base args ds gs before hval hW _ _ hL _
  obtain ⟨e, hg⟩ := glw_of_laid hL
  letI : EA := e
  exact contract_of (hs e) hrt hu hvars hf hpar hlaw hval hW hg

/-! ### the arguments' shapes -/
theorem pvs_nil {xs : List V} (h : PVs [] xs) : xs = [] := by cases h; rfl
theorem pvs_cons {p : Bool × List K} {ps : List (Bool × List K)} {xs : List V} (h : PVs (p :: ps) xs) : ∃ x l, xs = x :: l ∧ PV p x ∧ PVs ps l := by
  cases h with
  | cons _ x _ l h1 h2 => exact ⟨x, l, rfl, h1, h2⟩
def Wf (n : Int) : Prop := -9223372036854775808 ≤ n ∧ n ≤ 9223372036854775807
theorem kw_int {v : Value} (h : KW (.int .i64) v) : ∃ n, v = .int .i64 n ∧ Wf n := by
  cases h with
  | int _ n hw =>
    refine ⟨n, rfl, ?_⟩
    simp only [Lit.wf, Bool.and_eq_true, decide_eq_true_eq] at hw
    exact hw
theorem pv_int {x : V} (h : PV (false, [.int .i64]) x) : ∃ n, x = V.i n ∧ Wf n := by
  cases h with
  | one _ q hq =>
    cases hq with
    | val _ v hv => obtain ⟨n, rfl, hw⟩ := kw_int hv; exact ⟨n, rfl, hw⟩
theorem pv_floats {x : V} (h : PV (false, [.lst ksF]) x) : ∃ n g, x = lstF n g ∧ n ≤ 9223372036854775807 := by
  cases h with
  | one _ q hq =>
    cases hq with
    | val _ v hv => cases hv
    | lst _ n g hn hg => exact ⟨n, g, rfl, hn⟩
end Go.Proofs.YtcekbimohggnoaaDoor
