/- The card of RectMakes: where two meet, hulls, what is moved: the program's answers are the document's. -/
import Derived.Test.YtlapmkeppcpbnaaDoorRcH
namespace Go.Proofs.YtlapmkeppcpbnaaDoor
open Go Go.SX Go.Proofs Go.RowKit Go.ChangeShapes
set_option maxRecDepth 100000
set_option linter.unusedVariables false

def makes.s : List V → T V
  | [.agg [.q (.c (.int .i64 ax)), .q (.c (.int .i64 ay)), .q (.c (.int .i64 aw)), .q (.c (.int .i64 ah))], .agg [.q (.c (.int .i64 bx)), .q (.c (.int .i64 by')), .q (.c (.int .i64 bw)), .q (.c (.int .i64 bh))], .q (.c (.int .i64 x)), .q (.c (.int .i64 y)), .q (.lst [.int .i64, .int .i64, .int .i64, .int .i64] n g)] => .leaf (V.b true)
  | _ => .bad

def makesB (a b : Rc) (x y : Int) (n : Nat) (g : Nat → Nat → Q) : Bool :=
  andN [true, eqR (bR (okA a b) (meetR a b) z0) (bR (okA a b) (meetR a b) z0), (bif okA a b then (0 : Int) else 20) == (bif okA a b then 0 else 20),
    eqR (bR (hOK n g) (hullR n g) z0) (bR (hOK n g) (jS g n) z0), (bif hOK n g then (0 : Int) else 20) == (bif hOK n g then 0 else 20),
    eqR (bR (mvOK a x y) (moveO a x y) z0) (bR (mvOK a x y) (moveO a x y) z0), (bif rightR a then (bif overB a x y then (10 : Int) else 0) else 20) == (bif rightR a then (bif overB a x y then 10 else 0) else 20)]

theorem makes.eq (a b : Rc) (x y : Int) (n : Nat) (g : Nat → Nat → Q) :
    funV Tryd.prog ΓL [] Tryd.f3 (cod Tryd.f3) [rv a, rv b, V.i x, V.i y, lst4 n g] = .leaf (V.b (makesB a b x y (fewN n) (gz g))) := by kernel_rfl

theorem makes.ok : SpecOK Tryd.prog 3 makes.s := by
  refine specOK_of_body ΓL.ok (LamOK.nil _ _) Tryd.func3 (isBody _ (by kernel_rfl)) (by kernel_rfl) fun args r h => ?_
  unfold makes.s at h
  split at h
  · rename_i ax ay aw ah bx by' bw bh x y n g
    have e := makes.eq ⟨ax, ay, aw, ah⟩ ⟨bx, by', bw, bh⟩ x y n g
    have hb : makesB ⟨ax, ay, aw, ah⟩ ⟨bx, by', bw, bh⟩ x y (fewN n) (gz g) = true := by
      have e2 := bR_congr (b := hOK (fewN n) (gz g)) (z := z0) hull_jS
      unfold makesB
      rw [e2]
      simp only [andN, eqR_refl, cond_true, beq_self_eq_true]
    rw [hb] at e
    rw [e]; exact h
  · cases h

theorem makes_lifted (os : Os) (started : os.Started) (H : Type) (enc : TypeId × Value → H) :
    ReturnsInHanded {} Tryd.checked os 3 .any (fun w args => (Rows.rectMakesSpec.pre enc Tryd.prog Tryd.f3 [] false w args ∧ laidMetH Tryd.prog laidL w) ∧ sizedMet enc Tryd.prog Tryd.f3 (OpenSpec.ofChange Rows.rectMakesSpec) false w args)
      (Rows.rectMakesSpec.post enc Tryd.prog Tryd.f3 false true false false) :=
  row_of (rt := 4) (shs := [(true, ks4), (true, ks4), (false, [.int .i64]), (false, [.int .i64]), (false, [.lst ks4])]) H enc os started makes.ok Tryd.func3 (by kernel_rfl) (by kernel_rfl) rfl
    (fun ds hl => by
      have hl' : ds.length = 5 := hl
      match ds, hl' with
      | [d1, d2, d3, d4, d5], _ => rfl)
    (by kernel_rfl)
    (fun xs h => by
      obtain ⟨x1, l, rfl, p1, h⟩ := pvs_cons h
      obtain ⟨x2, l, rfl, p2, h⟩ := pvs_cons h
      obtain ⟨x3, l, rfl, p3, h⟩ := pvs_cons h
      obtain ⟨x4, l, rfl, p4, h⟩ := pvs_cons h
      obtain ⟨x5, l, rfl, p5, h⟩ := pvs_cons h
      obtain rfl := pvs_nil h
      obtain ⟨r1, rfl, w1⟩ := pv_rect p1
      obtain ⟨r2, rfl, w2⟩ := pv_rect p2
      obtain ⟨n3, rfl, w3⟩ := pv_int p3
      obtain ⟨n4, rfl, w4⟩ := pv_int p4
      obtain ⟨n5, g5, rfl, hn5, w5⟩ := pv_rects p5
      rfl)
    (by kernel_rfl)
    (ChangeSpec.witness_at (enc := enc) (C := Tryd.checked) (os := os) (X := fun w _ => laidMetH Tryd.prog laidL w) false (laidWorld os) #[.agg #[.int .i64 0, .int .i64 0, .int .i64 0, .int .i64 0], .agg #[.int .i64 0, .int .i64 0, .int .i64 0, .int .i64 0], .int .i64 0, .int .i64 0, .slice none 0 0] 8 rfl (by kernel_rfl) (by kernel_rfl) (by kernel_rfl) (by kernel_rfl) (by kernel_rfl) (laidWorld_met os _))

theorem makes_row : Rows.RectMakesSaid :=
  OpenClaim.holds_of_wide 3 Tryd.f3 rfl rfl rfl rfl rfl rfl rfl ⟨rfl, rfl, rfl, rfl, rfl⟩ rfl rfl rfl rfl rfl (by kernel_rfl) Tryd.func3 (by kernel_rfl)
    (of_decide_eq_true (by kernel_rfl)) (by unfold Func.isWrapper; rw [if_neg (of_decide_eq_false (by kernel_rfl))]; exact ⟨rfl, rfl⟩)
    (fun os started H enc _ => makes_lifted os started H enc)

theorem makes_holds : Rows.RectMakesCardSaid :=
  Claim7.holds_tied_plain_at .later [] [.handle] true Rows.rectMakesCard.stood.harness true
    makes_row (fun _ h => by cases h) (by kernel_rfl) (fun _ h => by cases h) rectMakes_row_tie rfl ⟨rfl, rfl⟩ (by kernel_rfl) rfl
    (fun f fn hf hfn => by
      obtain rfl : f = 3 := Option.some.inj ((show Tryd.prog.funcNamed "gutter/gutterlaw02.RectMakes" = some 3 by kernel_rfl).symm.trans hf) |>.symm
      obtain rfl : fn = Tryd.f3 := (Option.some.inj (Tryd.func3.symm.trans hfn)).symm
      exact ⟨by kernel_rfl, fun j t ht => by
        have h : ∀ t ∈ Tryd.f3.params, Tryd.prog.wantsStandIn t = false := by
          have e : Tryd.f3.params.all (fun t => !(Tryd.prog.wantsStandIn t)) = true := by kernel_rfl
          intro t ht
          have := Array.all_eq_true_iff_forall_mem.1 e t ht
          simpa using this
        exact h t (Array.mem_of_getElem? ht)⟩)
    (by kernel_rfl)
#print axioms makes_holds
end Go.Proofs.YtlapmkeppcpbnaaDoor
