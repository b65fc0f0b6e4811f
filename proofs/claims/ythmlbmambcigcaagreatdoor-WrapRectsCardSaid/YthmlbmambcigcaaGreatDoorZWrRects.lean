/- The card of WrapRects: lines' rectangles, and which lines are the same. -/
import Derived.Test.YthmlbmambcigcaaGreatDoorMe
namespace Go.Proofs.YthmlbmambcigcaaGreatDoor
open Go Go.SX Go.Proofs Go.RowKit Go.ChangeShapes
set_option maxRecDepth 100000
set_option linter.unusedVariables false
set_option linter.unusedSectionVars false
set_option linter.unusedSimpArgs false

section
variable [EA]
noncomputable abbrev ΓW2 : Gam := [(11, wshown.s), (24, pRects.s), (28, pRects.s), (27, rects.s), (26, pSame.s), (18, pSame.s)]
theorem ΓW2.ok : GOK Tryz.prog ΓW2 := .cons wshown.ok (.cons wRects.ok (.cons rRects.ok (.cons rects.ok (.cons wPSame.ok (.cons rPSame.ok (GOK.nil _))))))
noncomputable abbrev fW2 (n : Nat) (g : Nat → Nat → Q) (m : Nat) (f : Nat → Nat → Q) (h : Int) : T V := funV Tryz.prog ΓW2 [] Tryz.f9 (cod Tryz.f9) [lPl n g, lPl m f, V.i h]
abbrev n60 (n : Nat) : Nat := (mn2 (n : Int) 60).toNat - (0 : Int).toNat
abbrev c60 (n : Nat) : Bool := decide ((0 : Int) ≤ 0 ∧ (0 : Int) ≤ mn2 (n : Int) 60 ∧ mn2 (n : Int) 60 ≤ (n : Int))
theorem c60_true (n : Nat) : c60 n = true := by
  unfold c60
  rw [mn2_eq]
  exact decide_eq_true (by omega)
abbrev rW2 (n : Nat) (g : Nat → Nat → Q) (h : Int) : List Rc := rcL (gz g) h (n60 n)
theorem fW2_c (n : Nat) (g : Nat → Nat → Q) (m : Nat) (f : Nat → Nat → Q) (h : Int) : (fW2 n g m f h).pathC [true, true, true, true, true, true, true] = [c60 n, c60 m, true, decide (n60 n ≤ 1000000), decide (n60 n ≤ 1000000), rectsB (rW2 n g h).length (gOf rcQ (rW2 n g h)) (rW2 n g h).length (gOf rcQ (rW2 n g h)), pSameB (n60 n) (gz g) (n60 m) (gz f) == pSameB (n60 n) (gz g) (n60 m) (gz f)] := by kernel_rfl
theorem fW2_l (n : Nat) (g : Nat → Nat → Q) (m : Nat) (f : Nat → Nat → Q) (h : Int) : (fW2 n g m f h).pathL [true, true, true, true, true, true, true] = .leaf (V.b (pSameB (n60 n) (gz g) (n60 n) (gz g))) := by kernel_rfl
def rectsW.s : List V → T V
  | [.q (.lst [.int .i64, .int .i64, .int .i64, .int .i64, .int .i64] n g), .q (.lst [.int .i64, .int .i64, .int .i64, .int .i64, .int .i64] m f), .q (.c (.int .i64 h))] => .leaf (V.b true)
  | _ => .bad
theorem rectsW.ok : SpecOK Tryz.prog 9 rectsW.s := by
  refine okF ΓW2.ok Tryz.func9 (by kernel_rfl) (by kernel_rfl) fun args r hb hr => ?_
  unfold rectsW.s at hr
  split at hr
  · rename_i n g m f h
    refine ⟨[], LamOK.nil _ _, ?_⟩
    have h1 : n60 n ≤ 1000000 := by simp only [n60, mn2_eq]; omega
    have h2 : rectsB (rW2 n g h).length (gOf rcQ (rW2 n g h)) (rW2 n g h).length (gOf rcQ (rW2 n g h)) = true := by
      show (bif !(((rW2 n g h).length : Int) == ((rW2 n g h).length : Int)) then false else sameB (rW2 n g h).length (gOf rcQ (rW2 n g h)) (gOf rcQ (rW2 n g h))) = true
      rw [beq_self_eq_true, sameB_of fun _ _ => rfl]; rfl
    rw [← hr]
    refine (T.pick_path [true, true, true, true, true, true, true] (fW2 n g m f h) (by rw [fW2_c, c60_true, c60_true, decide_eq_true h1, h2, beq_self_eq_true])).trans ?_
    rw [fW2_l, pSameB_self]
  · cases hr
end
theorem rectsW.all (n : Nat) (g : Nat → Nat → Q) (m : Nat) (f : Nat → Nat → Q) (h : Int) (_ : n ≤ 9223372036854775807) (_ : m ≤ 9223372036854775807) (_ : Wf h) : (rectsW.s [lPl n g, lPl m f, V.i h]).pick = some (V.b true) := rfl

theorem rectsW_lifted (os : Os) (started : os.Started) (H : Type) (enc : TypeId × Value → H) :
    ReturnsInHanded {} Tryz.checked os 9 .any (fun w args => (Rows.wrapRectsSpec.pre enc Tryz.prog Tryz.f9 [] false w args ∧ laidMetH Tryz.prog laidL w) ∧ sizedMet enc Tryz.prog Tryz.f9 (OpenSpec.ofChange Rows.wrapRectsSpec) false w args)
      (Rows.wrapRectsSpec.post enc Tryz.prog Tryz.f9 false true false false) :=
  row_of (rt := 4) (shs := [(false, [.lst ksPl]), (false, [.lst ksPl]), (false, [.int .i64])]) H enc os started (fun e => @rectsW.ok e) Tryz.func9 (by kernel_rfl) (by kernel_rfl) rfl
    (fun ds hl => by
      have hl' : ds.length = 3 := hl
      match ds, hl' with
      | [d1, d2, d3], _ => rfl)
    (by kernel_rfl)
    (fun xs h => by
      obtain ⟨x1, l, rfl, p1, h⟩ := pvs_cons h
      obtain ⟨x2, l, rfl, p2, h⟩ := pvs_cons h
      obtain ⟨x3, l, rfl, p3, h⟩ := pvs_cons h
      obtain rfl := pvs_nil h
      obtain ⟨n1, g1, rfl, hn1⟩ := pv_placed p1
      obtain ⟨n2, g2, rfl, hn2⟩ := pv_placed p2
      obtain ⟨n3, rfl, w3⟩ := pv_int p3
      exact rectsW.all n1 g1 n2 g2 n3 hn1 hn2 w3)
    (by kernel_rfl)
    (ChangeSpec.witness_at (enc := enc) (C := Tryz.checked) (os := os) (X := fun w _ => laidMetH Tryz.prog laidL w) false (laidWorld os) #[.slice none 0 0, .slice none 0 0, .int .i64 0] 8 rfl (by kernel_rfl) (by kernel_rfl) (by kernel_rfl) (by kernel_rfl) (by kernel_rfl) (laidWorld_met os _))

theorem rectsW_row : Rows.WrapRectsSaid :=
  OpenClaim.holds_of_wide 9 Tryz.f9 rfl rfl rfl rfl rfl rfl rfl ⟨rfl, rfl, rfl, rfl, rfl⟩ rfl rfl rfl rfl rfl (by kernel_rfl) Tryz.func9 (by kernel_rfl)
    (of_decide_eq_true (by kernel_rfl)) (by unfold Func.isWrapper; rw [if_neg (of_decide_eq_false (by kernel_rfl))]; exact ⟨rfl, rfl⟩)
    (fun os started H enc _ => rectsW_lifted os started H enc)

theorem rectsW_holds : Rows.WrapRectsCardSaid :=
  Claim7.holds_tied_plain_at .later [] [.handle, .sentinel, .sentinel] true Rows.wrapRectsCard.stood.harness true
    rectsW_row (fun _ h => by cases h) (by kernel_rfl) (fun _ h => by cases h) wrapRects_row_tie rfl ⟨rfl, rfl⟩ (by kernel_rfl) rfl
    (fun f fn hf hfn => by
      obtain rfl : f = 9 := Option.some.inj ((show Tryz.prog.funcNamed "gutter/gutterlaw12.WrapRects" = some 9 by kernel_rfl).symm.trans hf) |>.symm
      obtain rfl : fn = Tryz.f9 := (Option.some.inj (Tryz.func9.symm.trans hfn)).symm
      exact ⟨by kernel_rfl, fun j t ht => by
        have e : Tryz.f9.params.all (fun t => !(Tryz.pinned.checked.prog.wantsStandIn t)) = true := by kernel_rfl
        have := Array.all_eq_true_iff_forall_mem.1 e t (Array.mem_of_getElem? ht)
        simpa using this⟩)
    (by kernel_rfl)
#print axioms rectsW_holds
end Go.Proofs.YthmlbmambcigcaaGreatDoor
