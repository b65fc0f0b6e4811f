/- The card of LineBreaks: lines of words, and the one that begins with a word: the program's answers are the document's. -/
import Derived.Test.YthohngmafdagoaaDoorMd
namespace Go.Proofs.YthohngmafdagoaaDoor
open Go Go.SX Go.Proofs Go.RowKit Go.ChangeShapes
set_option maxRecDepth 100000

set_option linter.unusedVariables false
set_option linter.unusedSectionVars false
set_option linter.unusedSimpArgs false

theorem lnEq_self (x : Ln) : lnEq x x = true := by simp [lnEq]
theorem rSameB_self (n : Nat) (g : Nat → Nat → Q) : rSameB n g n g = true := by
  unfold rSameB
  rw [allN_true fun i _ => lnEq_self (gLn g i)]
  simp
abbrev ΓLa : Gam := [(10, shown.s), (11, few.s), (12, lBreak.s), (20, rBreak.s), (21, lNext.s), (22, rNext.s), (23, rSame.s)]
theorem ΓLa.ok : GOK Tryd.prog ΓLa := .cons shown.ok (.cons few.ok (.cons lBreak.ok (.cons rBreak.ok (.cons lNext.ok (.cons rNext.ok (.cons rSame.ok (GOK.nil _)))))))
noncomputable abbrev fLa (n : Nat) (g : Nat → Nat → Q) (w i : Int) : T V := funV Tryd.prog ΓLa [] Tryd.f7 (cod Tryd.f7) [lWd n g, V.i w, V.i i]
abbrev emQ : Nat → Nat → Q := fun _ _ => default
theorem fLa_1 (n : Nat) (g : Nat → Nat → Q) (w i : Int) : (fLa n g w i).pathL [true, true, true, true] =
    .leaf (V.b (andN [chkW (fN g n) (fG g n) w == chkW (fN g n) (fG g n) w, lnEq (nextR (fN g n) (fG g n) i w).1 (nextR (fN g n) (fG g n) i w).1, (nextR (fN g n) (fG g n) i w).2 == (nextR (fN g n) (fG g n) i w).2])) := by kernel_rfl
theorem fLa_0 (n : Nat) (g : Nat → Nat → Q) (w i : Int) : (fLa n g w i).pathL [true, false, false, true] =
    .leaf (V.b (andN [rSameB (breakL (fN g n) (fG g n) w).length (gOf lnQ (breakL (fN g n) (fG g n) w)) (breakL (fN g n) (fG g n) w).length (gOf lnQ (breakL (fN g n) (fG g n) w)), lnEq (nextR (fN g n) (fG g n) i w).1 (nextR (fN g n) (fG g n) i w).1, (nextR (fN g n) (fG g n) i w).2 == (nextR (fN g n) (fG g n) i w).2])) := by kernel_rfl
theorem fLa_c1 (n : Nat) (g : Nat → Nat → Q) (w i : Int) : (fLa n g w i).pathC [true, true, true, true] = [allN (fN g n) (szW (fG g n)), chkW (fN g n) (fG g n) w != 0, chkW (fN g n) (fG g n) w != 0, allN (fN g n) (szW (fG g n))] := by kernel_rfl
theorem fLa_c0 (n : Nat) (g : Nat → Nat → Q) (w i : Int) : (fLa n g w i).pathC [true, false, false, true] = [allN (fN g n) (szW (fG g n)), chkW (fN g n) (fG g n) w != 0, chkW (fN g n) (fG g n) w != 0, allN (fN g n) (szW (fG g n))] := by kernel_rfl
def breaksL.s : List V → T V
  | [.q (.lst [.str, .int .i64, .int .i64, .int .i64] n g), .q (.c (.int .i64 w)), .q (.c (.int .i64 i))] => .leaf (V.b true)
  | _ => .bad
theorem breaksL.ok : SpecOK Tryd.prog 7 breaksL.s := by
  refine okF ΓLa.ok Tryd.func7 (by kernel_rfl) (by kernel_rfl) fun args r hb hr => ?_
  unfold breaksL.s at hr
  split at hr
  · rename_i n g w i
    refine ⟨[], LamOK.nil _ _, ?_⟩
    have hs := fSz g n
    rw [← hr]
    cases hc : chkW (fN g n) (fG g n) w != 0 with
    | true =>
      refine (T.pick_path [true, true, true, true] (fLa n g w i) (by rw [fLa_c1, hs, hc])).trans ?_
      rw [fLa_1]
      simp only [andN, lnEq_self, beq_self_eq_true, cond_true]
    | false =>
      refine (T.pick_path [true, false, false, true] (fLa n g w i) (by rw [fLa_c0, hs, hc])).trans ?_
      rw [fLa_0]
      simp only [andN, lnEq_self, rSameB_self, beq_self_eq_true, cond_true]
  · cases hr
theorem breaksL.all (n : Nat) (g : Nat → Nat → Q) (w i : Int) (_ : n ≤ 9223372036854775807) (_ : Wf w) (_ : Wf i) : (breaksL.s [lWd n g, V.i w, V.i i]).pick = some (V.b true) := rfl

theorem breaksL_lifted (os : Os) (started : os.Started) (H : Type) (enc : TypeId × Value → H) :
    ReturnsInHanded {} Tryd.checked os 7 .any (fun w args => (Rows.lineBreaksSpec.pre enc Tryd.prog Tryd.f7 [] false w args ∧ laidMetH Tryd.prog laidL w) ∧ sizedMet enc Tryd.prog Tryd.f7 (OpenSpec.ofChange Rows.lineBreaksSpec) false w args)
      (Rows.lineBreaksSpec.post enc Tryd.prog Tryd.f7 false true false false) :=
  row_of (rt := 4) (shs := [(false, [.lst ksWd]), (false, [.int .i64]), (false, [.int .i64])]) H enc os started breaksL.ok Tryd.func7 (by kernel_rfl) (by kernel_rfl) rfl
    (fun ds hl => by
      have hl' : ds.length = 3 := hl
      match ds, hl' with
      | [d1, d2, d3], _ => rfl)
    (by kernel_rfl)
    (fun xs h => by
      obtain ⟨x1, l, rfl, p1, h⟩ := pvs_cons h
      obtain ⟨x2, l, rfl, p2, h⟩ := pvs_cons h
      obtain ⟨x3, l, rfl, p3, h⟩ := pvs_cons h
      obtain rfl := pvs_nil h
      obtain ⟨n1, g1, rfl, hn1⟩ := pv_words p1
      obtain ⟨n2, rfl, w2⟩ := pv_int p2
      obtain ⟨n3, rfl, w3⟩ := pv_int p3
      exact breaksL.all n1 g1 n2 n3 hn1 w2 w3)
    (by kernel_rfl)
    (ChangeSpec.witness_at (enc := enc) (C := Tryd.checked) (os := os) (X := fun w _ => laidMetH Tryd.prog laidL w) false (laidWorld os) #[.slice none 0 0, .int .i64 0, .int .i64 0] 8 rfl (by kernel_rfl) (by kernel_rfl) (by kernel_rfl) (by kernel_rfl) (by kernel_rfl) (laidWorld_met os _))

theorem breaksL_row : Rows.LineBreaksSaid :=
  OpenClaim.holds_of_wide 7 Tryd.f7 rfl rfl rfl rfl rfl rfl rfl ⟨rfl, rfl, rfl, rfl, rfl⟩ rfl rfl rfl rfl rfl (by kernel_rfl) Tryd.func7 (by kernel_rfl)
    (of_decide_eq_true (by kernel_rfl)) (by unfold Func.isWrapper; rw [if_neg (of_decide_eq_false (by kernel_rfl))]; exact ⟨rfl, rfl⟩)
    (fun os started H enc _ => breaksL_lifted os started H enc)

theorem breaksL_holds : Rows.LineBreaksCardSaid :=
  Claim7.holds_tied_plain_at .later [] [.handle] true Rows.lineBreaksCard.stood.harness true
    breaksL_row (fun _ h => by cases h) (by kernel_rfl) (fun _ h => by cases h) lineBreaks_row_tie rfl ⟨rfl, rfl⟩ (by kernel_rfl) rfl
    (fun f fn hf hfn => by
      obtain rfl : f = 7 := Option.some.inj ((show Tryd.prog.funcNamed "gutter/gutterlaw08.LineBreaks" = some 7 by kernel_rfl).symm.trans hf) |>.symm
      obtain rfl : fn = Tryd.f7 := (Option.some.inj (Tryd.func7.symm.trans hfn)).symm
      exact ⟨by kernel_rfl, fun j t ht => by
        have e : Tryd.f7.params.all (fun t => !(Tryd.pinned.checked.prog.wantsStandIn t)) = true := by kernel_rfl
        have := Array.all_eq_true_iff_forall_mem.1 e t (Array.mem_of_getElem? ht)
        simpa using this⟩)
    (by kernel_rfl)
#print axioms breaksL_holds
end Go.Proofs.YthohngmafdagoaaDoor
