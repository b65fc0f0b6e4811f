/- The card of FloatInsets: insets, and where the next one ends: the program's answers are the document's. -/
import Derived.Test.YtcekbimohggnoaaDoorFlO
namespace Go.Proofs.YtcekbimohggnoaaDoor
open Go Go.SX Go.Proofs Go.RowKit Go.ChangeShapes
set_option maxRecDepth 100000
set_option linter.unusedVariables false
set_option linter.unusedSectionVars false
set_option linter.unusedSimpArgs false

section
variable [EA]
noncomputable abbrev ΓL2 : Gam := [(10, shown.s), (11, few.s), (12, fInsets.s), (13, fInsets.s), (14, fNext.s), (15, fNext.s)]
theorem ΓL2.ok : GOK Tryd.prog ΓL2 := .cons shown.ok (.cons few.ok (.cons fInsets.ok (.cons rInsets.ok (.cons fNext.ok (.cons rNext.ok (GOK.nil _))))))
abbrev twice (a : Int) : Bool := a == a
noncomputable def insetsB (m : Nat) (f : Nat → Nat → Q) (w y h : Int) : Bool :=
  andN [true, twice (bif okYH m f w y h then rI (gR f w m) f w y h false m else 0), twice (bif okYH m f w y h then rI (gR f w m) f w y h true m else 0), twice (bif okYH m f w y h then 0 else 110),
    twice (bif rightF m f w then (rEb (gR f w m) y m).1 else 0), (bif rightF m f w then (rEb (gR f w m) y m).2 else false) == (bif rightF m f w then (rEb (gR f w m) y m).2 else false), twice (codF m f w)]
theorem insetsL.eq (m : Nat) (f : Nat → Nat → Q) (w y h : Int) :
    funV Tryd.prog ΓL2 [] Tryd.f3 (cod Tryd.f3) [lstF m f, V.i w, V.i y, V.i h] = .leaf (V.b (insetsB (fewN m) (gz f) w y h)) := by kernel_rfl
def insetsL.s : List V → T V
  | [.q (.lst [.int .i64, .int .i64, .bool, .bool] m f), .q (.c (.int .i64 w)), .q (.c (.int .i64 y)), .q (.c (.int .i64 h))] => .leaf (V.b true)
  | _ => .bad
theorem insetsL.ok : SpecOK Tryd.prog 3 insetsL.s := by
  refine specOK_of_body ΓL2.ok (LamOK.nil _ _) Tryd.func3 (isBody _ (by kernel_rfl)) (by kernel_rfl) fun args r h => ?_
  unfold insetsL.s at h
  split at h
  · rename_i m f w y k
    have hb : insetsB (fewN m) (gz f) w y k = true := by
      unfold insetsB
      simp only [andN, twice, cond_true, beq_self_eq_true]
    rw [insetsL.eq, hb]; exact h
  · cases h
end
theorem insetsL.all (n : Nat) (g : Nat → Nat → Q) (w y h : Int) (_ : n ≤ 9223372036854775807) (_ : Wf w) (_ : Wf y) (_ : Wf h) : (insetsL.s [lstF n g, V.i w, V.i y, V.i h]).pick = some (V.b true) := rfl

theorem insetsL_lifted (os : Os) (started : os.Started) (H : Type) (enc : TypeId × Value → H) :
    ReturnsInHanded {} Tryd.checked os 3 .any (fun w args => (Rows.floatInsetsSpec.pre enc Tryd.prog Tryd.f3 [] false w args ∧ laidMetH Tryd.prog laidL w) ∧ sizedMet enc Tryd.prog Tryd.f3 (OpenSpec.ofChange Rows.floatInsetsSpec) false w args)
      (Rows.floatInsetsSpec.post enc Tryd.prog Tryd.f3 false true false false) :=
  row_of (rt := 4) (shs := [(false, [.lst ksF]), (false, [.int .i64]), (false, [.int .i64]), (false, [.int .i64])]) H enc os started (fun e => @insetsL.ok e) Tryd.func3 (by kernel_rfl) (by kernel_rfl) rfl
    (fun ds hl => by
      have hl' : ds.length = 4 := hl
      match ds, hl' with
      | [d1, d2, d3, d4], _ => rfl)
    (by kernel_rfl)
    (fun xs h => by
      obtain ⟨x1, l, rfl, p1, h⟩ := pvs_cons h
      obtain ⟨x2, l, rfl, p2, h⟩ := pvs_cons h
      obtain ⟨x3, l, rfl, p3, h⟩ := pvs_cons h
      obtain ⟨x4, l, rfl, p4, h⟩ := pvs_cons h
      obtain rfl := pvs_nil h
      obtain ⟨n1, g1, rfl, hn1⟩ := pv_floats p1
      obtain ⟨n2, rfl, w2⟩ := pv_int p2
      obtain ⟨n3, rfl, w3⟩ := pv_int p3
      obtain ⟨n4, rfl, w4⟩ := pv_int p4
      exact insetsL.all n1 g1 n2 n3 n4 hn1 w2 w3 w4)
    (by kernel_rfl)
    (ChangeSpec.witness_at (enc := enc) (C := Tryd.checked) (os := os) (X := fun w _ => laidMetH Tryd.prog laidL w) false (laidWorld os) #[.slice none 0 0, .int .i64 0, .int .i64 0, .int .i64 0] 8 rfl (by kernel_rfl) (by kernel_rfl) (by kernel_rfl) (by kernel_rfl) (by kernel_rfl) (laidWorld_met os _))

theorem insetsL_row : Rows.FloatInsetsSaid :=
  OpenClaim.holds_of_wide 3 Tryd.f3 rfl rfl rfl rfl rfl rfl rfl ⟨rfl, rfl, rfl, rfl, rfl⟩ rfl rfl rfl rfl rfl (by kernel_rfl) Tryd.func3 (by kernel_rfl)
    (of_decide_eq_true (by kernel_rfl)) (by unfold Func.isWrapper; rw [if_neg (of_decide_eq_false (by kernel_rfl))]; exact ⟨rfl, rfl⟩)
    (fun os started H enc _ => insetsL_lifted os started H enc)

theorem insetsL_holds : Rows.FloatInsetsCardSaid :=
  Claim7.holds_tied_plain_at .later [] [.handle, .sentinel] true Rows.floatInsetsCard.stood.harness true
    insetsL_row (fun _ h => by cases h) (by kernel_rfl) (fun _ h => by cases h) floatInsets_row_tie rfl ⟨rfl, rfl⟩ (by kernel_rfl) rfl
    (fun f fn hf hfn => by
      obtain rfl : f = 3 := Option.some.inj ((show Tryd.prog.funcNamed "gutter/gutterlaw11.FloatInsets" = some 3 by kernel_rfl).symm.trans hf) |>.symm
      obtain rfl : fn = Tryd.f3 := (Option.some.inj (Tryd.func3.symm.trans hfn)).symm
      exact ⟨by kernel_rfl, fun j t ht => by
        have e : Tryd.f3.params.all (fun t => !(Tryd.pinned.checked.prog.wantsStandIn t)) = true := by kernel_rfl
        have := Array.all_eq_true_iff_forall_mem.1 e t (Array.mem_of_getElem? ht)
        simpa using this⟩)
    (by kernel_rfl)
#print axioms insetsL_holds
end Go.Proofs.YtcekbimohggnoaaDoor
