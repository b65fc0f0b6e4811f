/- The card of RectTells: which are rectangles, what they hold, what is within, what is apart: the program's answers are the document's. -/
import Derived.Test.YtlapmkeppcpbnaaDoorRcH
import Derived.Test.YtlapmkeppcpbnaaDoorRcI
namespace Go.Proofs.YtlapmkeppcpbnaaDoor
open Go Go.SX Go.Proofs Go.RowKit Go.ChangeShapes
set_option maxRecDepth 100000
set_option linter.unusedVariables false

def tells.s : List V → T V
  | [.agg [.q (.c (.int .i64 ax)), .q (.c (.int .i64 ay)), .q (.c (.int .i64 aw)), .q (.c (.int .i64 ah))], .agg [.q (.c (.int .i64 bx)), .q (.c (.int .i64 by')), .q (.c (.int .i64 bw)), .q (.c (.int .i64 bh))], .q (.c (.int .i64 x)), .q (.c (.int .i64 y)), .q (.lst [.int .i64, .int .i64, .int .i64, .int .i64] n g)] => .leaf (V.b true)
  | _ => .bad

def tellsB (a b : Rc) (x y : Int) (n : Nat) (g : Nat → Nat → Q) : Bool :=
  andN [true, rightR a == rightR a, holdsB a x y == holdsB a x y, inB a b == withinB a b, apartB n g == apartD n g]

theorem tells.eq (a b : Rc) (x y : Int) (n : Nat) (g : Nat → Nat → Q) :
    funV Tryd.prog ΓL [] Tryd.f7 (cod Tryd.f7) [rv a, rv b, V.i x, V.i y, lst4 n g] = .leaf (V.b (tellsB a b x y (fewN n) (gz g))) := by kernel_rfl

theorem tells.ok : SpecOK Tryd.prog 7 tells.s := by
  refine specOK_of_body ΓL.ok (LamOK.nil _ _) Tryd.func7 (isBody _ (by kernel_rfl)) (by kernel_rfl) fun args r h => ?_
  unfold tells.s at h
  split at h
  · rename_i ax ay aw ah bx by' bw bh x y n g
    have e := tells.eq ⟨ax, ay, aw, ah⟩ ⟨bx, by', bw, bh⟩ x y n g
    have hb : tellsB ⟨ax, ay, aw, ah⟩ ⟨bx, by', bw, bh⟩ x y (fewN n) (gz g) = true := by
      unfold tellsB
      rw [in_within, apart_eq]
      simp only [andN, cond_true, beq_self_eq_true]
    rw [hb] at e
    rw [e]; exact h
  · cases h
theorem tells.all (a b : Rc) (x y : Int) (n : Nat) (g : Nat → Nat → Q) (_ : WfR a) (_ : WfR b) (_ : Wf x) (_ : Wf y) (_ : n ≤ 9223372036854775807) (_ : ∀ i, i < n → WfR (gRc g i)) : (tells.s [rv a, rv b, V.i x, V.i y, lst4 n g]).pick = some (V.b true) := rfl

theorem tells_lifted (os : Os) (started : os.Started) (H : Type) (enc : TypeId × Value → H) :
    ReturnsInHanded {} Tryd.checked os 7 .any (fun w args => (Rows.rectTellsSpec.pre enc Tryd.prog Tryd.f7 [] false w args ∧ laidMetH Tryd.prog laidL w) ∧ sizedMet enc Tryd.prog Tryd.f7 (OpenSpec.ofChange Rows.rectTellsSpec) false w args)
      (Rows.rectTellsSpec.post enc Tryd.prog Tryd.f7 false true false false) :=
  row_of (rt := 4) (shs := [(true, ks4), (true, ks4), (false, [.int .i64]), (false, [.int .i64]), (false, [.lst ks4])]) H enc os started tells.ok Tryd.func7 (by kernel_rfl) (by kernel_rfl) rfl
    (fun ds hl => by
      have hl' : ds.length = 5 := hl
      match ds, hl' with
      | [d1, d2, d3, d4, d5], _ => rfl)
    (by kernel_rfl)
    (fun xs h => by
      obtain ⟨x1, l, rfl, p1, h⟩ := pvs_cons h
      obtain ⟨x2, l, rfl, p2, h⟩ := pvs_cons h
      obtain ⟨x3, l, rfl, p3, h⟩ := pvs_cons h
      obtain ⟨x4, l, rfl, p4, h⟩ := pvs_cons h
      obtain ⟨x5, l, rfl, p5, h⟩ := pvs_cons h
      obtain rfl := pvs_nil h
      obtain ⟨r1, rfl, w1⟩ := pv_rect p1
      obtain ⟨r2, rfl, w2⟩ := pv_rect p2
      obtain ⟨n3, rfl, w3⟩ := pv_int p3
      obtain ⟨n4, rfl, w4⟩ := pv_int p4
      obtain ⟨n5, g5, rfl, hn5, w5⟩ := pv_rects p5
      exact tells.all r1 r2 n3 n4 n5 g5 w1 w2 w3 w4 hn5 w5)
    (by kernel_rfl)
    (ChangeSpec.witness_at (enc := enc) (C := Tryd.checked) (os := os) (X := fun w _ => laidMetH Tryd.prog laidL w) false (laidWorld os) #[.agg #[.int .i64 0, .int .i64 0, .int .i64 0, .int .i64 0], .agg #[.int .i64 0, .int .i64 0, .int .i64 0, .int .i64 0], .int .i64 0, .int .i64 0, .slice none 0 0] 8 rfl (by kernel_rfl) (by kernel_rfl) (by kernel_rfl) (by kernel_rfl) (by kernel_rfl) (laidWorld_met os _))

theorem tells_row : Rows.RectTellsSaid :=
  OpenClaim.holds_of_wide 7 Tryd.f7 rfl rfl rfl rfl rfl rfl rfl ⟨rfl, rfl, rfl, rfl, rfl⟩ rfl rfl rfl rfl rfl (by kernel_rfl) Tryd.func7 (by kernel_rfl)
    (of_decide_eq_true (by kernel_rfl)) (by unfold Func.isWrapper; rw [if_neg (of_decide_eq_false (by kernel_rfl))]; exact ⟨rfl, rfl⟩)
    (fun os started H enc _ => tells_lifted os started H enc)

theorem tells_holds : Rows.RectTellsCardSaid :=
  Claim7.holds_tied_plain_at .later [] [.handle] true Rows.rectTellsCard.stood.harness true
    tells_row (fun _ h => by cases h) (by kernel_rfl) (fun _ h => by cases h) rectTells_row_tie rfl ⟨rfl, rfl⟩ (by kernel_rfl) rfl
    (fun f fn hf hfn => by
      obtain rfl : f = 7 := Option.some.inj ((show Tryd.prog.funcNamed "gutter/gutterlaw02.RectTells" = some 7 by kernel_rfl).symm.trans hf) |>.symm
      obtain rfl : fn = Tryd.f7 := (Option.some.inj (Tryd.func7.symm.trans hfn)).symm
      exact ⟨by kernel_rfl, fun j t ht => by
        have e : Tryd.f7.params.all (fun t => !(Tryd.pinned.checked.prog.wantsStandIn t)) = true := by kernel_rfl
        have := Array.all_eq_true_iff_forall_mem.1 e t (Array.mem_of_getElem? ht)
        simpa using this⟩)
    (by kernel_rfl)
#print axioms tells_holds
end Go.Proofs.YtlapmkeppcpbnaaDoor
