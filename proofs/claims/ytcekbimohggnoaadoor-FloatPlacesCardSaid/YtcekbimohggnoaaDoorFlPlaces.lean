/- The card of FloatPlaces: which are floats, where they are placed, how low they reach: the program's answers are the document's. -/
import Derived.Test.YtcekbimohggnoaaDoorFlO
namespace Go.Proofs.YtcekbimohggnoaaDoor
open Go Go.SX Go.Proofs Go.RowKit Go.ChangeShapes
set_option maxRecDepth 100000
set_option linter.unusedVariables false
set_option linter.unusedSectionVars false
set_option linter.unusedSimpArgs false

section
variable [EA]
noncomputable abbrev ΓL1 : Gam := [(10, shown.s), (11, few.s), (16, fPlace.s), (18, fPlace.s), (19, fLow.s), (20, fLow.s), (21, fRight.s), (22, rRight.s), (17, rects.s)]
theorem ΓL1.ok : GOK Tryd.prog ΓL1 := .cons shown.ok (.cons few.ok (.cons fPlace.ok (.cons rPlace.ok (.cons fLow.ok (.cons rLow.ok (.cons fRight.ok (.cons rRight.ok (.cons rects.ok (GOK.nil _)))))))))
noncomputable def placesB (m : Nat) (f : Nat → Nat → Q) (w : Int) : Bool :=
  andN [true, rightF m f w == rightS m f w, rectsB (plN m f w) (gR f w m) (plN m f w) (gR f w m), codF m f w == codF m f w, (bif rightF m f w then lowS (gR f w m) m else 0) == (bif rightF m f w then lowS (gR f w m) m else 0), codF m f w == codF m f w]
theorem places.eq (m : Nat) (f : Nat → Nat → Q) (w : Int) :
    funV Tryd.prog ΓL1 [] Tryd.f7 (cod Tryd.f7) [lstF m f, V.i w] = .leaf (V.b (placesB (fewN m) (gz f) w)) := by kernel_rfl
def places.s : List V → T V
  | [.q (.lst [.int .i64, .int .i64, .bool, .bool] m f), .q (.c (.int .i64 w))] => .leaf (V.b true)
  | _ => .bad
theorem rects_refl (n : Nat) (g : Nat → Nat → Q) : rectsB n g n g = true := by
  unfold rectsB
  rw [beq_self_eq_true, sameB_of fun _ _ => rfl]; rfl
theorem places.ok : SpecOK Tryd.prog 7 places.s := by
  refine specOK_of_body ΓL1.ok (LamOK.nil _ _) Tryd.func7 (isBody _ (by kernel_rfl)) (by kernel_rfl) fun args r h => ?_
  unfold places.s at h
  split at h
  · rename_i m f w
    have hb : placesB (fewN m) (gz f) w = true := by
      unfold placesB
      rw [right_eq, rects_refl]
      simp only [andN, cond_true, beq_self_eq_true]
    rw [places.eq, hb]; exact h
  · cases h
end
theorem places.all (n : Nat) (g : Nat → Nat → Q) (w : Int) (_ : n ≤ 9223372036854775807) (_ : Wf w) : (places.s [lstF n g, V.i w]).pick = some (V.b true) := rfl

theorem places_lifted (os : Os) (started : os.Started) (H : Type) (enc : TypeId × Value → H) :
    ReturnsInHanded {} Tryd.checked os 7 .any (fun w args => (Rows.floatPlacesSpec.pre enc Tryd.prog Tryd.f7 [] false w args ∧ laidMetH Tryd.prog laidL w) ∧ sizedMet enc Tryd.prog Tryd.f7 (OpenSpec.ofChange Rows.floatPlacesSpec) false w args)
      (Rows.floatPlacesSpec.post enc Tryd.prog Tryd.f7 false true false false) :=
  row_of (rt := 4) (shs := [(false, [.lst ksF]), (false, [.int .i64])]) H enc os started (fun e => @places.ok e) Tryd.func7 (by kernel_rfl) (by kernel_rfl) rfl
    (fun ds hl => by
      have hl' : ds.length = 2 := hl
      match ds, hl' with
      | [d1, d2], _ => rfl)
    (by kernel_rfl)
    (fun xs h => by
      obtain ⟨x1, l, rfl, p1, h⟩ := pvs_cons h
      obtain ⟨x2, l, rfl, p2, h⟩ := pvs_cons h
      obtain rfl := pvs_nil h
      obtain ⟨n1, g1, rfl, hn1⟩ := pv_floats p1
      obtain ⟨n2, rfl, w2⟩ := pv_int p2
      exact places.all n1 g1 n2 hn1 w2)
    (by kernel_rfl)
    (ChangeSpec.witness_at (enc := enc) (C := Tryd.checked) (os := os) (X := fun w _ => laidMetH Tryd.prog laidL w) false (laidWorld os) #[.slice none 0 0, .int .i64 0] 8 rfl (by kernel_rfl) (by kernel_rfl) (by kernel_rfl) (by kernel_rfl) (by kernel_rfl) (laidWorld_met os _))

theorem places_row : Rows.FloatPlacesSaid :=
  OpenClaim.holds_of_wide 7 Tryd.f7 rfl rfl rfl rfl rfl rfl rfl ⟨rfl, rfl, rfl, rfl, rfl⟩ rfl rfl rfl rfl rfl (by kernel_rfl) Tryd.func7 (by kernel_rfl)
    (of_decide_eq_true (by kernel_rfl)) (by unfold Func.isWrapper; rw [if_neg (of_decide_eq_false (by kernel_rfl))]; exact ⟨rfl, rfl⟩)
    (fun os started H enc _ => places_lifted os started H enc)

theorem places_holds : Rows.FloatPlacesCardSaid :=
  Claim7.holds_tied_plain_at .later [] [.handle, .sentinel] true Rows.floatPlacesCard.stood.harness true
    places_row (fun _ h => by cases h) (by kernel_rfl) (fun _ h => by cases h) floatPlaces_row_tie rfl ⟨rfl, rfl⟩ (by kernel_rfl) rfl
    (fun f fn hf hfn => by
      obtain rfl : f = 7 := Option.some.inj ((show Tryd.prog.funcNamed "gutter/gutterlaw11.FloatPlaces" = some 7 by kernel_rfl).symm.trans hf) |>.symm
      obtain rfl : fn = Tryd.f7 := (Option.some.inj (Tryd.func7.symm.trans hfn)).symm
      exact ⟨by kernel_rfl, fun j t ht => by
        have e : Tryd.f7.params.all (fun t => !(Tryd.pinned.checked.prog.wantsStandIn t)) = true := by kernel_rfl
        have := Array.all_eq_true_iff_forall_mem.1 e t (Array.mem_of_getElem? ht)
        simpa using this⟩)
    (by kernel_rfl)
#print axioms places_holds
end Go.Proofs.YtcekbimohggnoaaDoor
