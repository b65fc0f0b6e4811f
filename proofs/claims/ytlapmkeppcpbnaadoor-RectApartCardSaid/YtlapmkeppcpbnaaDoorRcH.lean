/- What all rows of this seat need: the laid variable; the arguments' shapes. -/
import Derived.Test.YtlapmkeppcpbnaaDoorRcG
import Derived.Test.YtlapmkeppcpbnaaDoorSxW
import Derived.Test.YtlapmkeppcpbnaaDoorRows
import Derived.Test.YtlapmkeppcpbnaaDoorTie
import Derived.Test.YtlapmkeppcpbnaaDoorCards
import Derived.LaidLaws
import Derived.LaidHandle
import Derived.Stop.Joined
import Derived.SevenTiedAt
namespace Go.Proofs.YtlapmkeppcpbnaaDoor
open Go Go.SX Go.Proofs Go.RowKit Go.ChangeShapes
set_option maxRecDepth 100000
set_option linter.unusedVariables false

abbrev laidL : List (String × DataW Unit) := [("errors.errorType", Rows.laid_errors_errorType)]

theorem glw_of_laid {W : World} (h : laidMetH Tryd.prog laidL W) : GLw W := by
  have h' : laidMet Tryd.prog [] W ∧ handlesMet Tryd.prog laidL W := h
  obtain ⟨name, u, ty, e1, e2, e3, e4, e5⟩ := h'.2 _ (List.mem_singleton.2 rfl)
  have en : name = [101, 114, 114, 111, 114] := (Option.some.inj e1).symm
  subst en
  have hrt : (Tryd.prog.cutTypes.find? (·.1 == "internal/reflectlite.rtype")).map (·.2) = some 78 := by kernel_rfl
  obtain rfl := Option.some.inj (hrt.symm.trans e2)
  have hone : ((List.range Tryd.prog.types.size).filter fun t => Tryd.prog.rowNamed t [101, 114, 114, 111, 114]) = [44] := by kernel_rfl
  have hm : ty ∈ (List.range Tryd.prog.types.size).filter fun t => Tryd.prog.rowNamed t [101, 114, 114, 111, 114] := List.mem_filter.2 ⟨List.mem_range.2 e3, e4⟩
  rw [hone] at hm
  obtain rfl := List.mem_singleton.1 hm
  have hh : typeHandle Tryd.prog 44 = .pointer (some ⟨1, 44, none⟩) := by kernel_rfl
  rw [hh] at e5
  have het : Tryd.prog.globalNamed "errors.errorType" = some 0 := by kernel_rfl
  intro x hx
  have : x = (0, 0, .iface 78 (.agg #[.pointer (some ⟨1, 44, none⟩)])) := List.mem_singleton.1 hx
  subst this
  simpa using World.var?_cell het e5 0

/-- A world that meets the condition. -/
noncomputable def laidWorld (os : Os) : World :=
  let w0 := World.holding Tryd.prog os ⟨#[], #[], []⟩
  { w0 with heap := w0.heap.modify 0 fun
      | .cells _ t frozen => .cells #[.iface 78 (.agg #[.pointer (some ⟨1, 44, none⟩)])] t frozen
      | o => o }
theorem laidWorld_met (os : Os) (args : Array Value) : laidMetH Tryd.prog laidL ((laidWorld os).forCall (fun _ _ => 0) ⟨#[], args, []⟩).memory :=
  laidMetH_of_parts (laidMet_nil _ _) (by kernel_rfl)
theorem own : ownKnob Tryd.prog.godebug = none := by kernel_rfl

/-- **A law's contract gives what its row asks**, with the laid variable. -/
theorem row_of {f : Nat} {fn : Func} {sp : List V → T V} {s : ChangeSpec} {shs : List (Bool × List K)} {rt : TypeId} {apart : Bool} (H : Type) (enc : TypeId × Value → H) (os : Os) (started : os.Started)
    (hs : SpecOK Tryd.prog f sp) (hfn : Tryd.prog.funcs[f]? = some fn) (hrt : fn.resultTypes = #[rt]) (hu : Tryd.prog.underlying rt = some .bool) (hvars : s.vars = []) (hf : ∀ (ds : List (DataW H)), ds.length = fn.params.size → s.fn H ds = { results := [.lit (.bool true)], args := ds })
    (hpar : parTs Tryd.prog fn.params.toList = some shs) (hlaw : ∀ xs, PVs shs xs → (sp xs).pick = some (V.b true)) (hno : Tryd.checked.prog.inits.idxOf? f = none)
    (hw : ∃ (w : World) (tape : Tape) (i : Input), w.os = os ∧ (w.forCall tape i).Shaped Tryd.checked.prog ∧ i.vars = [] ∧ Input.okWide Tryd.checked.prog (w.forCall tape i) .any w.heap.size f i ∧
      ((s.pre enc Tryd.checked.prog fn [] apart (w.forCall tape i).memory i.args ∧ laidMetH Tryd.prog laidL (w.forCall tape i).memory) ∧ sizedMet enc Tryd.checked.prog fn (OpenSpec.ofChange s) apart (w.forCall tape i).memory i.args) ∧ ({} : Assume).holds Tryd.checked.prog (lone (Frame.enter Tryd.checked.prog f i.args .normal) [] (w.forCall tape i))) :
    ReturnsInHanded {} Tryd.checked os f .any (fun w args => (s.pre enc Tryd.prog fn [] apart w args ∧ laidMetH Tryd.prog laidL w) ∧ sizedMet enc Tryd.prog fn (OpenSpec.ofChange s) apart w args) (s.post enc Tryd.prog fn apart true false false) := by
  refine returnsInHanded_of_change_and (C := Tryd.checked) (X := fun w _ => laidMetH Tryd.prog laidL w) (fun _ _ _ hh h => h.of_heap hh) own started hno hfn hw ?_
  intro W base args ds gs before hval hW _ _ hL _
  exact contract_of hs hrt hu hvars hf hpar hlaw hval hW (glw_of_laid hL)

/-! ### the arguments' shapes -/
theorem pvs_nil {xs : List V} (h : PVs [] xs) : xs = [] := by cases h; rfl
theorem pvs_cons {p : Bool × List K} {ps : List (Bool × List K)} {xs : List V} (h : PVs (p :: ps) xs) : ∃ x l, xs = x :: l ∧ PV p x ∧ PVs ps l := by
  cases h with
  | cons _ x _ l h1 h2 => exact ⟨x, l, rfl, h1, h2⟩
def Wf (n : Int) : Prop := -9223372036854775808 ≤ n ∧ n ≤ 9223372036854775807
theorem kw_int {v : Value} (h : KW (.int .i64) v) : ∃ n, v = .int .i64 n ∧ Wf n := by
  cases h with
  | int _ n hw =>
    refine ⟨n, rfl, ?_⟩
    simp only [Lit.wf, Bool.and_eq_true, decide_eq_true_eq] at hw
    exact hw
theorem pv_int {x : V} (h : PV (false, [.int .i64]) x) : ∃ n, x = V.i n ∧ Wf n := by
  cases h with
  | one _ q hq =>
    cases hq with
    | val _ v hv => obtain ⟨n, rfl, hw⟩ := kw_int hv; exact ⟨n, rfl, hw⟩
def WfR (r : Rc) : Prop := Wf r.x ∧ Wf r.y ∧ Wf r.w ∧ Wf r.h
theorem qks_cons {k : K} {ks : List K} {l : List V} (h : QKs (k :: ks) l) : ∃ q r, l = .q q :: r ∧ QK k q ∧ QKs ks r := by
  cases h with
  | cons _ q _ r h1 h2 => exact ⟨q, r, rfl, h1, h2⟩
theorem qk_int {q : Q} (h : QK (.int .i64) q) : ∃ n, q = .c (.int .i64 n) ∧ Wf n := by
  cases h with
  | val _ v hv => obtain ⟨n, rfl, hw⟩ := kw_int hv; exact ⟨n, rfl, hw⟩
theorem pv_rect {x : V} (h : PV (true, ks4) x) : ∃ r : Rc, x = rv r ∧ WfR r := by
  cases h with
  | agg _ l hl =>
    obtain ⟨q1, l1, rfl, h1, hl⟩ := qks_cons hl
    obtain ⟨q2, l2, rfl, h2, hl⟩ := qks_cons hl
    obtain ⟨q3, l3, rfl, h3, hl⟩ := qks_cons hl
    obtain ⟨q4, l4, rfl, h4, hl⟩ := qks_cons hl
    cases hl
    obtain ⟨a, rfl, w1⟩ := qk_int h1
    obtain ⟨b, rfl, w2⟩ := qk_int h2
    obtain ⟨c, rfl, w3⟩ := qk_int h3
    obtain ⟨d, rfl, w4⟩ := qk_int h4
    exact ⟨⟨a, b, c, d⟩, rfl, w1, w2, w3, w4⟩
theorem pv_rects {x : V} (h : PV (false, [.lst ks4]) x) : ∃ n g, x = lst4 n g ∧ n ≤ 9223372036854775807 ∧ ∀ i, i < n → WfR (gRc g i) := by
  cases h with
  | one _ q hq =>
    cases hq with
    | val _ v hv => cases hv
    | lst _ n g hn hg =>
      refine ⟨n, g, rfl, hn, fun i hi => ?_⟩
      have k : ∀ j, j < 4 → ∃ m, g i j = .c (.int .i64 m) ∧ Wf m := fun j hj => by
        have hk : ks4[j]? = some (.int .i64) := by
          rcases (show j = 0 ∨ j = 1 ∨ j = 2 ∨ j = 3 by omega) with rfl | rfl | rfl | rfl <;> rfl
        obtain ⟨v, e, hv⟩ := hg i j _ hi hk
        obtain ⟨m, rfl, hm⟩ := kw_int hv
        exact ⟨m, e, hm⟩
      obtain ⟨a, ea, wa⟩ := k 0 (by omega)
      obtain ⟨b, eb, wb⟩ := k 1 (by omega)
      obtain ⟨c, ec, wc⟩ := k 2 (by omega)
      obtain ⟨d, ed, wd⟩ := k 3 (by omega)
      simp only [gRc, ea, eb, ec, ed, qInt]
      exact ⟨wa, wb, wc, wd⟩

/-- One truth behind the other. -/
def andN : List Bool → Bool
  | [] => true
  | [b] => b
  | b :: l => bif b then andN l else false
abbrev ΓL : Gam := [(10, shown.s), (11, few.s), (12, rect_Meet.s), (13, rect_Meet.s), (14, rect_Hull.s), (15, refHull.s),
  (16, rect_Move.s), (17, rect_Move.s), (18, rect_Within.s), (19, rect_Right.s), (20, rect_Holds.s), (21, rect_Apart.s),
  (22, rect_Right.s), (23, rect_Holds.s), (24, ref_Within.s), (25, refApart.s)]
theorem ΓL.ok : GOK Tryd.prog ΓL := .cons shown.ok (.cons few.ok (.cons rect_Meet.ok (.cons ref_Meet.ok (.cons rect_Hull.ok (.cons refHull.ok (.cons rect_Move.ok (.cons ref_Move.ok (.cons rect_Within.ok (.cons rect_Right.ok (.cons rect_Holds.ok (.cons rect_Apart.ok
  (.cons ref_Right.ok (.cons ref_Holds.ok (.cons ref_Within.ok (.cons refApart.ok (GOK.nil _))))))))))))))))
end Go.Proofs.YtlapmkeppcpbnaaDoor
