/- The card of WrapPlaces: lines beside floats, and how high all is: the program's answers are the document's. -/
import Derived.Test.YthmlbmambcigcaaGreatDoorMe
namespace Go.Proofs.YthmlbmambcigcaaGreatDoor
open Go Go.SX Go.Proofs Go.RowKit Go.ChangeShapes
set_option maxRecDepth 100000
set_option linter.unusedVariables false
set_option linter.unusedSectionVars false
set_option linter.unusedSimpArgs false

section
variable [EA]
abbrev emP : Nat → Nat → Q := fun _ _ => default
noncomputable abbrev ΓW1 : Gam := [(11, wshown.s), (12, few.s), (13, wfew.s), (14, wPlace.s), (15, rWp.s), (16, wHigh.s), (17, rWh.s), (18, pSame.s)]
theorem ΓW1.ok : GOK Tryz.prog ΓW1 := .cons wshown.ok (.cons few.ok (.cons wfew.ok (.cons wPlace.ok (.cons rWp.ok (.cons wHigh.ok (.cons rWh.ok (.cons rPSame.ok (GOK.nil _))))))))
noncomputable abbrev fW1 (n : Nat) (g : Nat → Nat → Q) (m : Nat) (f : Nat → Nat → Q) (w h : Int) : T V := funV Tryz.prog ΓW1 [] Tryz.f3 (cod Tryz.f3) [lWd n g, lstF m f, V.i w, V.i h]
abbrev cW1 (n : Nat) (g : Nat → Nat → Q) (m : Nat) (f : Nat → Nat → Q) (w h : Int) : Wr := ⟨fN g n, fG g n, few8 m, f, w, h⟩
theorem fW1_c1 (n : Nat) (g : Nat → Nat → Q) (m : Nat) (f : Nat → Nat → Q) (w h : Int) : (fW1 n g m f w h).pathC [true, true, true, true, true, true] = [allN (fN g n) (szW (fG g n)), (cW1 n g m f w h).cod != 0, (cW1 n g m f w h).cod != 0, allN (fN g n) (szW (fG g n)), (cW1 n g m f w h).cod != 0, (cW1 n g m f w h).cod != 0] := by kernel_rfl
theorem fW1_l1 (n : Nat) (g : Nat → Nat → Q) (m : Nat) (f : Nat → Nat → Q) (w h : Int) : (fW1 n g m f w h).pathL [true, true, true, true, true, true] = .leaf (V.b (andN [pSameB 0 emP 0 emP, (cW1 n g m f w h).cod == (cW1 n g m f w h).cod, true, (cW1 n g m f w h).cod == (cW1 n g m f w h).cod])) := by kernel_rfl
theorem fW1_c0 (n : Nat) (g : Nat → Nat → Q) (m : Nat) (f : Nat → Nat → Q) (w h : Int) : (fW1 n g m f w h).pathC [true, false, false, true, false, false] = [allN (fN g n) (szW (fG g n)), (cW1 n g m f w h).cod != 0, (cW1 n g m f w h).cod != 0, allN (fN g n) (szW (fG g n)), (cW1 n g m f w h).cod != 0, (cW1 n g m f w h).cod != 0] := by kernel_rfl
theorem fW1_l0 (n : Nat) (g : Nat → Nat → Q) (m : Nat) (f : Nat → Nat → Q) (w h : Int) : (fW1 n g m f w h).pathL [true, false, false, true, false, false] = .leaf (V.b (andN [pSameB (cW1 n g m f w h).pls.length (gOf plQ (cW1 n g m f w h).pls) (cW1 n g m f w h).pls.length (gOf plQ (cW1 n g m f w h).pls), true, hiL h (cW1 n g m f w h).low (cW1 n g m f w h).pls == (cW1 n g m f w h).hiR, true])) := by kernel_rfl
def placesW.s : List V → T V
  | [.q (.lst [.str, .int .i64, .int .i64, .int .i64] n g), .q (.lst [.int .i64, .int .i64, .bool, .bool] m f), .q (.c (.int .i64 w)), .q (.c (.int .i64 h))] => .leaf (V.b true)
  | _ => .bad
theorem placesW.ok : SpecOK Tryz.prog 3 placesW.s := by
  refine okF ΓW1.ok Tryz.func3 (by kernel_rfl) (by kernel_rfl) fun args r hb hr => ?_
  unfold placesW.s at hr
  split at hr
  · rename_i n g m f w h
    refine ⟨[], LamOK.nil _ _, ?_⟩
    have hs := fSz g n
    rw [← hr]
    cases hc : (cW1 n g m f w h).cod != 0 with
    | true =>
      refine (T.pick_path [true, true, true, true, true, true] (fW1 n g m f w h) (by rw [fW1_c1, hs, hc])).trans ?_
      rw [fW1_l1]
      simp only [andN, pSameB_self, beq_self_eq_true, cond_true]
    | false =>
      refine (T.pick_path [true, false, false, true, false, false] (fW1 n g m f w h) (by rw [fW1_c0, hs, hc])).trans ?_
      have he : hiL h (cW1 n g m f w h).low (cW1 n g m f w h).pls = (cW1 n g m f w h).hiR := Wr.hi_eq (c := cW1 n g m f w h) (Wr.ok_of hc)
      rw [fW1_l0, he]
      simp only [andN, pSameB_self, beq_self_eq_true, cond_true]
  · cases hr
end
theorem placesW.all (n : Nat) (g : Nat → Nat → Q) (m : Nat) (f : Nat → Nat → Q) (w h : Int) (_ : n ≤ 9223372036854775807) (_ : m ≤ 9223372036854775807) (_ : Wf w) (_ : Wf h) : (placesW.s [lWd n g, lstF m f, V.i w, V.i h]).pick = some (V.b true) := rfl

theorem placesW_lifted (os : Os) (started : os.Started) (H : Type) (enc : TypeId × Value → H) :
    ReturnsInHanded {} Tryz.checked os 3 .any (fun w args => (Rows.wrapPlacesSpec.pre enc Tryz.prog Tryz.f3 [] false w args ∧ laidMetH Tryz.prog laidL w) ∧ sizedMet enc Tryz.prog Tryz.f3 (OpenSpec.ofChange Rows.wrapPlacesSpec) false w args)
      (Rows.wrapPlacesSpec.post enc Tryz.prog Tryz.f3 false true false false) :=
  row_of (rt := 4) (shs := [(false, [.lst ksWd]), (false, [.lst ksF]), (false, [.int .i64]), (false, [.int .i64])]) H enc os started (fun e => @placesW.ok e) Tryz.func3 (by kernel_rfl) (by kernel_rfl) rfl
    (fun ds hl => by
      have hl' : ds.length = 4 := hl
      match ds, hl' with
      | [d1, d2, d3, d4], _ => rfl)
    (by kernel_rfl)
    (fun xs h => by
      obtain ⟨x1, l, rfl, p1, h⟩ := pvs_cons h
      obtain ⟨x2, l, rfl, p2, h⟩ := pvs_cons h
      obtain ⟨x3, l, rfl, p3, h⟩ := pvs_cons h
      obtain ⟨x4, l, rfl, p4, h⟩ := pvs_cons h
      obtain rfl := pvs_nil h
      obtain ⟨n1, g1, rfl, hn1⟩ := pv_words p1
      obtain ⟨n2, g2, rfl, hn2⟩ := pv_floats p2
      obtain ⟨n3, rfl, w3⟩ := pv_int p3
      obtain ⟨n4, rfl, w4⟩ := pv_int p4
      exact placesW.all n1 g1 n2 g2 n3 n4 hn1 hn2 w3 w4)
    (by kernel_rfl)
    (ChangeSpec.witness_at (enc := enc) (C := Tryz.checked) (os := os) (X := fun w _ => laidMetH Tryz.prog laidL w) false (laidWorld os) #[.slice none 0 0, .slice none 0 0, .int .i64 0, .int .i64 0] 8 rfl (by kernel_rfl) (by kernel_rfl) (by kernel_rfl) (by kernel_rfl) (by kernel_rfl) (laidWorld_met os _))

theorem placesW_row : Rows.WrapPlacesSaid :=
  OpenClaim.holds_of_wide 3 Tryz.f3 rfl rfl rfl rfl rfl rfl rfl ⟨rfl, rfl, rfl, rfl, rfl⟩ rfl rfl rfl rfl rfl (by kernel_rfl) Tryz.func3 (by kernel_rfl)
    (of_decide_eq_true (by kernel_rfl)) (by unfold Func.isWrapper; rw [if_neg (of_decide_eq_false (by kernel_rfl))]; exact ⟨rfl, rfl⟩)
    (fun os started H enc _ => placesW_lifted os started H enc)

theorem placesW_holds : Rows.WrapPlacesCardSaid :=
  Claim7.holds_tied_plain_at .later [] [.handle, .sentinel, .sentinel] true Rows.wrapPlacesCard.stood.harness true
    placesW_row (fun _ h => by cases h) (by kernel_rfl) (fun _ h => by cases h) wrapPlaces_row_tie rfl ⟨rfl, rfl⟩ (by kernel_rfl) rfl
    (fun f fn hf hfn => by
      obtain rfl : f = 3 := Option.some.inj ((show Tryz.prog.funcNamed "gutter/gutterlaw12.WrapPlaces" = some 3 by kernel_rfl).symm.trans hf) |>.symm
      obtain rfl : fn = Tryz.f3 := (Option.some.inj (Tryz.func3.symm.trans hfn)).symm
      exact ⟨by kernel_rfl, fun j t ht => by
        have e : Tryz.f3.params.all (fun t => !(Tryz.pinned.checked.prog.wantsStandIn t)) = true := by kernel_rfl
        have := Array.all_eq_true_iff_forall_mem.1 e t (Array.mem_of_getElem? ht)
        simpa using this⟩)
    (by kernel_rfl)
#print axioms placesW_holds
end Go.Proofs.YthmlbmambcigcaaGreatDoor
