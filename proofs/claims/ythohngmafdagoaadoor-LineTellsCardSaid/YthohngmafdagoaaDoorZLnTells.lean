/- The card of LineTells: lines' texts, which are wider, how wide the widest one is, which are the same: the program's answers are the document's. -/
import Derived.Test.YthohngmafdagoaaDoorMd
namespace Go.Proofs.YthohngmafdagoaaDoor
open Go Go.SX Go.Proofs Go.RowKit Go.ChangeShapes
set_option maxRecDepth 100000

set_option linter.unusedVariables false
set_option linter.unusedSectionVars false
set_option linter.unusedSimpArgs false

theorem lnEq_same (x : Ln) : lnEq x x = true := by simp [lnEq]
theorem lSameB_self (n : Nat) (g : Nat → Nat → Q) : lSameB n g n g = true := by
  unfold lSameB
  rw [allN_true fun i _ => lnEq_same (gLn g i)]
  simp
theorem intsB_self (n : Nat) (g : Nat → Nat → Q) : intsB n g n g = true := by
  unfold intsB
  rw [allN_true fun i _ => beq_self_eq_true (qInt (g i 0))]
  simp
theorem lSameB_eq (n : Nat) (g : Nat → Nat → Q) (m : Nat) (h : Nat → Nat → Q) : (lSameB n g m h == rSameB n g m h) = true := by
  rw [show lSameB n g m h = rSameB n g m h from rfl]; exact beq_self_eq_true _
abbrev ΓLt8 : Gam := [(10, shown.s), (11, few.s), (24, fewL.s), (16, lText.s), (25, rText.s), (18, over.s), (27, over.s), (26, ints.s), (15, widest.s), (28, widest.s), (29, lSame.s), (23, rSame.s)]
theorem ΓLt8.ok : GOK Tryd.prog ΓLt8 := .cons shown.ok (.cons few.ok (.cons fewL.ok (.cons lText.ok (.cons rText.ok (.cons lOver.ok (.cons rOver.ok (.cons ints.ok (.cons lWidest.ok (.cons rWidest.ok (.cons lSame.ok (.cons rSame.ok (GOK.nil _))))))))))))
noncomputable abbrev fLt8 (n : Nat) (g : Nat → Nat → Q) (r : Ln) (n1 : Nat) (g1 : Nat → Nat → Q) (n2 : Nat) (g2 : Nat → Nat → Q) (w : Int) : T V := funV Tryd.prog ΓLt8 [] Tryd.f9 (cod Tryd.f9) [lWd n g, lnV r, lLn n1 g1, lLn n2 g2, V.i w]
abbrev ways8 : List Bool := [true, true, true, true, true, true, true, true, true]
theorem fLt8_l (n : Nat) (g : Nat → Nat → Q) (r : Ln) (n1 : Nat) (g1 : Nat → Nat → Q) (n2 : Nat) (g2 : Nat → Nat → Q) (w : Int) : (fLt8 n g r n1 g1 n2 g2 w).pathL ways8 = .leaf (V.b (lSameB (fewLn n1) g1 (fewLn n1) g1)) := by kernel_rfl
theorem fLt8_c (n : Nat) (g : Nat → Nat → Q) (r : Ln) (n1 : Nat) (g1 : Nat → Nat → Q) (n2 : Nat) (g2 : Nat → Nat → Q) (w : Int) : (fLt8 n g r n1 g1 n2 g2 w).pathC ways8 =
    [allN (fN g n) (szW (fG g n)), true, (textR (fN g n) (fG g n) r.a r.z).1.toList == (textR (fN g n) (fG g n) r.a r.z).1.toList, (textR (fN g n) (fG g n) r.a r.z).2 == (textR (fN g n) (fG g n) r.a r.z).2,
     decide (fewLn n1 ≤ 1000000), decide (fewLn n1 ≤ 1000000), intsB (overL g1 w (fewLn n1)).length (gOf intQ (overL g1 w (fewLn n1))) (overL g1 w (fewLn n1)).length (gOf intQ (overL g1 w (fewLn n1))), widestL g1 (fewLn n1) == widestL g1 (fewLn n1), lSameB (fewLn n1) g1 (fewLn n2) g2 == rSameB (fewLn n1) g1 (fewLn n2) g2] := by kernel_rfl
def tellsL.s : List V → T V
  | [.q (.lst [.str, .int .i64, .int .i64, .int .i64] n g), .agg [.q (.c (.int .i64 a)), .q (.c (.int .i64 z)), .q (.c (.int .i64 v))], .q (.lst [.int .i64, .int .i64, .int .i64] n1 g1), .q (.lst [.int .i64, .int .i64, .int .i64] n2 g2), .q (.c (.int .i64 w))] => .leaf (V.b true)
  | _ => .bad
theorem tellsL.ok : SpecOK Tryd.prog 9 tellsL.s := by
  refine okF ΓLt8.ok Tryd.func9 (by kernel_rfl) (by kernel_rfl) fun args r hb hr => ?_
  unfold tellsL.s at hr
  split at hr
  · rename_i n g a z v n1 g1 n2 g2 w
    refine ⟨[], LamOK.nil _ _, ?_⟩
    have h6 : decide (fewLn n1 ≤ 1000000) = true := decide_eq_true (by show (mn2 (n1 : Int) 60).toNat - (0 : Int).toNat ≤ _; unfold mn2; split <;> omega)
    rw [← hr]
    refine (T.pick_path ways8 (fLt8 n g ⟨a, z, v⟩ n1 g1 n2 g2 w) ?_).trans ?_
    · rw [fLt8_c, fSz, h6, intsB_self, lSameB_eq, beq_self_eq_true, beq_self_eq_true, beq_self_eq_true]
    · rw [fLt8_l, lSameB_self]
  · cases hr
theorem tellsL.all (n : Nat) (g : Nat → Nat → Q) (r : Ln) (n1 : Nat) (g1 : Nat → Nat → Q) (n2 : Nat) (g2 : Nat → Nat → Q) (w : Int) (_ : n ≤ 9223372036854775807) (_ : WfL r) (_ : n1 ≤ 9223372036854775807) (_ : n2 ≤ 9223372036854775807) (_ : Wf w) : (tellsL.s [lWd n g, lnV r, lLn n1 g1, lLn n2 g2, V.i w]).pick = some (V.b true) := rfl

theorem tellsL_lifted (os : Os) (started : os.Started) (H : Type) (enc : TypeId × Value → H) :
    ReturnsInHanded {} Tryd.checked os 9 .any (fun w args => (Rows.lineTellsSpec.pre enc Tryd.prog Tryd.f9 [] false w args ∧ laidMetH Tryd.prog laidL w) ∧ sizedMet enc Tryd.prog Tryd.f9 (OpenSpec.ofChange Rows.lineTellsSpec) false w args)
      (Rows.lineTellsSpec.post enc Tryd.prog Tryd.f9 false true false false) :=
  row_of (rt := 4) (shs := [(false, [.lst ksWd]), (true, ksLn), (false, [.lst ksLn]), (false, [.lst ksLn]), (false, [.int .i64])]) H enc os started tellsL.ok Tryd.func9 (by kernel_rfl) (by kernel_rfl) rfl
    (fun ds hl => by
      have hl' : ds.length = 5 := hl
      match ds, hl' with
      | [d1, d2, d3, d4, d5], _ => rfl)
    (by kernel_rfl)
    (fun xs h => by
      obtain ⟨x1, l, rfl, p1, h⟩ := pvs_cons h
      obtain ⟨x2, l, rfl, p2, h⟩ := pvs_cons h
      obtain ⟨x3, l, rfl, p3, h⟩ := pvs_cons h
      obtain ⟨x4, l, rfl, p4, h⟩ := pvs_cons h
      obtain ⟨x5, l, rfl, p5, h⟩ := pvs_cons h
      obtain rfl := pvs_nil h
      obtain ⟨n1, g1, rfl, hn1⟩ := pv_words p1
      obtain ⟨r2, rfl, w2⟩ := pv_line p2
      obtain ⟨n3, g3, rfl, hn3⟩ := pv_lines p3
      obtain ⟨n4, g4, rfl, hn4⟩ := pv_lines p4
      obtain ⟨n5, rfl, w5⟩ := pv_int p5
      exact tellsL.all n1 g1 r2 n3 g3 n4 g4 n5 hn1 w2 hn3 hn4 w5)
    (by kernel_rfl)
    (ChangeSpec.witness_at (enc := enc) (C := Tryd.checked) (os := os) (X := fun w _ => laidMetH Tryd.prog laidL w) false (laidWorld os) #[.slice none 0 0, .agg #[.int .i64 0, .int .i64 0, .int .i64 0], .slice none 0 0, .slice none 0 0, .int .i64 0] 8 rfl (by kernel_rfl) (by kernel_rfl) (by kernel_rfl) (by kernel_rfl) (by kernel_rfl) (laidWorld_met os _))

theorem tellsL_row : Rows.LineTellsSaid :=
  OpenClaim.holds_of_wide 9 Tryd.f9 rfl rfl rfl rfl rfl rfl rfl ⟨rfl, rfl, rfl, rfl, rfl⟩ rfl rfl rfl rfl rfl (by kernel_rfl) Tryd.func9 (by kernel_rfl)
    (of_decide_eq_true (by kernel_rfl)) (by unfold Func.isWrapper; rw [if_neg (of_decide_eq_false (by kernel_rfl))]; exact ⟨rfl, rfl⟩)
    (fun os started H enc _ => tellsL_lifted os started H enc)

theorem tellsL_holds : Rows.LineTellsCardSaid :=
  Claim7.holds_tied_plain_at .later [] [.handle] true Rows.lineTellsCard.stood.harness true
    tellsL_row (fun _ h => by cases h) (by kernel_rfl) (fun _ h => by cases h) lineTells_row_tie rfl ⟨rfl, rfl⟩ (by kernel_rfl) rfl
    (fun f fn hf hfn => by
      obtain rfl : f = 9 := Option.some.inj ((show Tryd.prog.funcNamed "gutter/gutterlaw08.LineTells" = some 9 by kernel_rfl).symm.trans hf) |>.symm
      obtain rfl : fn = Tryd.f9 := (Option.some.inj (Tryd.func9.symm.trans hfn)).symm
      exact ⟨by kernel_rfl, fun j t ht => by
        have e : Tryd.f9.params.all (fun t => !(Tryd.pinned.checked.prog.wantsStandIn t)) = true := by kernel_rfl
        have := Array.all_eq_true_iff_forall_mem.1 e t (Array.mem_of_getElem? ht)
        simpa using this⟩)
    (by kernel_rfl)
#print axioms tellsL_holds
end Go.Proofs.YthohngmafdagoaaDoor
