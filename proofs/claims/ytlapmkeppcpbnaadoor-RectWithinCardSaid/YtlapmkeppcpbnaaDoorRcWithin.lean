/- The card of RectWithin: what is within is within what that is within, and holds no other point. -/
import Derived.Test.YtlapmkeppcpbnaaDoorRcH
import Derived.Test.YtlapmkeppcpbnaaDoorRcI
namespace Go.Proofs.YtlapmkeppcpbnaaDoor
open Go Go.SX Go.Proofs Go.RowKit Go.ChangeShapes
set_option maxRecDepth 100000
set_option linter.unusedVariables false

def win.s : List V → T V
  | [.agg [.q (.c (.int .i64 ax)), .q (.c (.int .i64 ay)), .q (.c (.int .i64 aw)), .q (.c (.int .i64 ah))], .agg [.q (.c (.int .i64 bx)), .q (.c (.int .i64 by')), .q (.c (.int .i64 bw)), .q (.c (.int .i64 bh))], .agg [.q (.c (.int .i64 cx)), .q (.c (.int .i64 cy)), .q (.c (.int .i64 cw)), .q (.c (.int .i64 ch))], .q (.c (.int .i64 x)), .q (.c (.int .i64 y))] => .leaf (V.b true)
  | _ => .bad

def winA (a b c : Rc) : Bool := bif inB a b then (bif inB b c then !(inB a c) else false) else false
def winE (a : Rc) : Bool := inB a a == rightR a
def winC (a b : Rc) (x y : Int) : Bool := bif true then (bif !(inB a b) then winE a else (bif !(holdsB a x y) then winE a else (bif holdsB b x y then winE a else false))) else false

theorem win.eq (a b c : Rc) (x y : Int) :
    funV Tryd.prog ΓL [] Tryd.f9 (cod Tryd.f9) [rv a, rv b, rv c, V.i x, V.i y] = .ite (winA a b c) (.leaf (V.b false)) (.leaf (V.b (winC a b x y))) := by kernel_rfl

theorem winA_false (a b c : Rc) : winA a b c = false := by
  unfold winA
  cases h1 : inB a b with
  | false => rfl
  | true =>
    cases h2 : inB b c with
    | false => rfl
    | true =>
      have w1 := in_iff.1 h1
      have w2 := in_iff.1 h2
      have w3 : inB a c = true := in_iff.2 ⟨w1.1, w2.2.1, by have := w1.2.2; have := w2.2.2; omega⟩
      rw [w3]; rfl
theorem winE_true (a : Rc) : winE a = true := by
  unfold winE
  have : inB a a = rightR a := bool_eq (in_iff.trans (Iff.trans ⟨fun h => h.1, fun h => ⟨h, h, by omega⟩⟩ right_iff.symm))
  rw [this]; simp
theorem winC_true (a b : Rc) (x y : Int) : winC a b x y = true := by
  unfold winC
  rw [winE_true]
  cases h1 : inB a b with
  | false => rfl
  | true =>
    cases h2 : holdsB a x y with
    | false => rfl
    | true =>
      have w1 := in_iff.1 h1
      have w2 := holds_iff.1 h2
      have w3 : holdsB b x y = true := holds_iff.2 ⟨w1.2.1, by have := w1.2.2; have := w2.2; omega⟩
      rw [w3]; rfl

theorem win.ok : SpecOK Tryd.prog 9 win.s := by
  refine specOK_of_body ΓL.ok (LamOK.nil _ _) Tryd.func9 (isBody _ (by kernel_rfl)) (by kernel_rfl) fun args r h => ?_
  unfold win.s at h
  split at h
  · rename_i ax ay aw ah bx by' bw bh cx cy cw ch x y
    have e := win.eq ⟨ax, ay, aw, ah⟩ ⟨bx, by', bw, bh⟩ ⟨cx, cy, cw, ch⟩ x y
    rw [winA_false, winC_true] at e
    rw [e, ← h]
    rfl
  · cases h
theorem win.all (a b c : Rc) (x y : Int) (_ : WfR a) (_ : WfR b) (_ : WfR c) (_ : Wf x) (_ : Wf y) : (win.s [rv a, rv b, rv c, V.i x, V.i y]).pick = some (V.b true) := rfl

theorem win_lifted (os : Os) (started : os.Started) (H : Type) (enc : TypeId × Value → H) :
    ReturnsInHanded {} Tryd.checked os 9 .any (fun w args => (Rows.rectWithinSpec.pre enc Tryd.prog Tryd.f9 [] false w args ∧ laidMetH Tryd.prog laidL w) ∧ sizedMet enc Tryd.prog Tryd.f9 (OpenSpec.ofChange Rows.rectWithinSpec) false w args)
      (Rows.rectWithinSpec.post enc Tryd.prog Tryd.f9 false true false false) :=
  row_of (rt := 4) (shs := [(true, ks4), (true, ks4), (true, ks4), (false, [.int .i64]), (false, [.int .i64])]) H enc os started win.ok Tryd.func9 (by kernel_rfl) (by kernel_rfl) rfl
    (fun ds hl => by
      have hl' : ds.length = 5 := hl
      match ds, hl' with
      | [d1, d2, d3, d4, d5], _ => rfl)
    (by kernel_rfl)
    (fun xs h => by
      obtain ⟨x1, l, rfl, p1, h⟩ := pvs_cons h
      obtain ⟨x2, l, rfl, p2, h⟩ := pvs_cons h
      obtain ⟨x3, l, rfl, p3, h⟩ := pvs_cons h
      obtain ⟨x4, l, rfl, p4, h⟩ := pvs_cons h
      obtain ⟨x5, l, rfl, p5, h⟩ := pvs_cons h
      obtain rfl := pvs_nil h
      obtain ⟨r1, rfl, w1⟩ := pv_rect p1
      obtain ⟨r2, rfl, w2⟩ := pv_rect p2
      obtain ⟨r3, rfl, w3⟩ := pv_rect p3
      obtain ⟨n4, rfl, w4⟩ := pv_int p4
      obtain ⟨n5, rfl, w5⟩ := pv_int p5
      exact win.all r1 r2 r3 n4 n5 w1 w2 w3 w4 w5)
    (by kernel_rfl)
    (ChangeSpec.witness_at (enc := enc) (C := Tryd.checked) (os := os) (X := fun w _ => laidMetH Tryd.prog laidL w) false (laidWorld os) #[.agg #[.int .i64 0, .int .i64 0, .int .i64 0, .int .i64 0], .agg #[.int .i64 0, .int .i64 0, .int .i64 0, .int .i64 0], .agg #[.int .i64 0, .int .i64 0, .int .i64 0, .int .i64 0], .int .i64 0, .int .i64 0] 8 rfl (by kernel_rfl) (by kernel_rfl) (by kernel_rfl) (by kernel_rfl) (by kernel_rfl) (laidWorld_met os _))

theorem win_row : Rows.RectWithinSaid :=
  OpenClaim.holds_of_wide 9 Tryd.f9 rfl rfl rfl rfl rfl rfl rfl ⟨rfl, rfl, rfl, rfl, rfl⟩ rfl rfl rfl rfl rfl (by kernel_rfl) Tryd.func9 (by kernel_rfl)
    (of_decide_eq_true (by kernel_rfl)) (by unfold Func.isWrapper; rw [if_neg (of_decide_eq_false (by kernel_rfl))]; exact ⟨rfl, rfl⟩)
    (fun os started H enc _ => win_lifted os started H enc)

theorem win_holds : Rows.RectWithinCardSaid :=
  Claim7.holds_tied_plain_at .later [] [.handle] true Rows.rectWithinCard.stood.harness true
    win_row (fun _ h => by cases h) (by kernel_rfl) (fun _ h => by cases h) rectWithin_row_tie rfl ⟨rfl, rfl⟩ (by kernel_rfl) rfl
    (fun f fn hf hfn => by
      obtain rfl : f = 9 := Option.some.inj ((show Tryd.prog.funcNamed "gutter/gutterlaw02.RectWithin" = some 9 by kernel_rfl).symm.trans hf) |>.symm
      obtain rfl : fn = Tryd.f9 := (Option.some.inj (Tryd.func9.symm.trans hfn)).symm
      exact ⟨by kernel_rfl, fun j t ht => by
        have e : Tryd.f9.params.all (fun t => !(Tryd.pinned.checked.prog.wantsStandIn t)) = true := by kernel_rfl
        have := Array.all_eq_true_iff_forall_mem.1 e t (Array.mem_of_getElem? ht)
        simpa using this⟩)
    (by kernel_rfl)
#print axioms win_holds
end Go.Proofs.YtlapmkeppcpbnaaDoor
