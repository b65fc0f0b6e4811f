/- The card of RectMoves: what is moved is moved back, and holds the point that is moved likewise. -/
import Derived.Test.YtlapmkeppcpbnaaDoorRcH
import Derived.Test.YtlapmkeppcpbnaaDoorRcI
namespace Go.Proofs.YtlapmkeppcpbnaaDoor
open Go Go.SX Go.Proofs Go.RowKit Go.ChangeShapes
set_option maxRecDepth 100000
set_option linter.unusedVariables false

def moves.s : List V → T V
  | [.agg [.q (.c (.int .i64 ax)), .q (.c (.int .i64 ay)), .q (.c (.int .i64 aw)), .q (.c (.int .i64 ah))], .q (.c (.int .i64 x)), .q (.c (.int .i64 y)), .q (.c (.int .i64 px)), .q (.c (.int .i64 py))] => .leaf (V.b true)
  | _ => .bad

abbrev vM (r : Rc) (x y : Int) : Rc := bR (mvOK r x y) (moveO r x y) z0
abbrev vE (r : Rc) (x y : Int) : Int := bif rightR r then (bif overB r x y then 10 else 0) else 20
def movesP (r : Rc) (e : Int) : Bool := bif e == 10 then rightR r else false
def movesA (r : Rc) (e : Int) : Bool := bif true then (bif e == 20 then (bif !(rightR r) then true else movesP r e) else movesP r e) else false
def movesC (r : Rc) (x y px py : Int) : Bool :=
  andN [true, vE (vM r x y) (w64 (0 - x)) (w64 (0 - y)) == 0, eqR (vM (vM r x y) (w64 (0 - x)) (w64 (0 - y))) r, holdsB (vM r x y) (w64 (px + x)) (w64 (py + y)) == holdsB r px py]

theorem moves.eq (r : Rc) (x y px py : Int) :
    funV Tryd.prog ΓL [] Tryd.f5 (cod Tryd.f5) [rv r, V.i x, V.i y, V.i px, V.i py] =
      .ite (!(vE r (x.tmod 10000) (y.tmod 10000) == 0)) (.leaf (V.b (movesA r (vE r (x.tmod 10000) (y.tmod 10000))))) (.leaf (V.b (movesC r (x.tmod 10000) (y.tmod 10000) (px.tmod 10000) (py.tmod 10000)))) := by kernel_rfl

theorem tmod_in (x : Int) : -10000 < x.tmod 10000 ∧ x.tmod 10000 < 10000 := ⟨Int.lt_tmod_of_pos x (by decide), Int.tmod_lt_of_pos x (by decide)⟩

theorem moves_true (r : Rc) (x y px py : Int) (hx : -10000 < x ∧ x < 10000) (hy : -10000 < y ∧ y < 10000) (hpx : -10000 < px ∧ px < 10000) (hpy : -10000 < py ∧ py < 10000) : (bif !(vE r x y == 0) then movesA r (vE r x y) else movesC r x y px py) = true := by
  cases hr : rightR r with
  | false =>
    have e : vE r x y = 20 := by simp [vE, hr]
    rw [e]
    simp [movesA, hr]
  | true =>
    cases ho : overB r x y with
    | true =>
      have e : vE r x y = 10 := by simp [vE, hr, ho]
      rw [e]
      simp [movesA, movesP, hr]
    | false =>
      have e : vE r x y = 0 := by simp [vE, hr, ho]
      rw [e]
      simp only [beq_self_eq_true, Bool.not_true, cond_false]
      have hok := right_iff.1 hr
      have hM : vM r x y = ⟨r.x + x, r.y + y, r.w, r.h⟩ := by
        show bR (mvOK r x y) (moveO r x y) z0 = _
        have : mvOK r x y = true := by simp [mvOK, hr, ho]
        rw [this]
        obtain ⟨a, b, c, d⟩ := r
        simp only [Ok] at hok
        simp only [bR, cond_true]
        rw [w64_id (n := a + x) (by omega) (by omega), w64_id (n := b + y) (by omega) (by omega)]
      have hMok : Ok ⟨r.x + x, r.y + y, r.w, r.h⟩ := by
        unfold overB at ho
        have h3 : rightR (moveO r x y) = true := by
          revert ho
          cases decide (mx2 x y > 4294967296) <;> cases decide (mn2 x y < -4294967296) <;> cases rightR (moveO r x y) <;> simp
        have h4 := right_iff.1 h3
        have : moveO r x y = ⟨r.x + x, r.y + y, r.w, r.h⟩ := by
          obtain ⟨a, b, c, d⟩ := r
          simp only [Ok] at hok
          simp only [moveO]
          rw [w64_id (n := a + x) (by omega) (by omega), w64_id (n := b + y) (by omega) (by omega)]
        rw [this] at h4
        exact h4
      have n1 : w64 (0 - x) = -x := by rw [w64_id (by omega) (by omega)]; omega
      have n2 : w64 (0 - y) = -y := by rw [w64_id (by omega) (by omega)]; omega
      have hback : moveO ⟨r.x + x, r.y + y, r.w, r.h⟩ (-x) (-y) = r := by
        obtain ⟨a, b, c, d⟩ := r
        simp only [Ok] at hok
        simp only [moveO]
        rw [w64_id (n := a + x + -x) (by omega) (by omega), w64_id (n := b + y + -y) (by omega) (by omega)]
        simp only [Rc.mk.injEq, and_self, and_true]
        omega
      have hov : overB ⟨r.x + x, r.y + y, r.w, r.h⟩ (-x) (-y) = false := by
        unfold overB
        rw [hback, hr]
        have m1 : ¬ mx2 (-x) (-y) > 4294967296 := by rw [mx2_eq]; omega
        have m2 : ¬ mn2 (-x) (-y) < -4294967296 := by rw [mn2_eq]; omega
        simp [m1, m2]
      have hE : vE ⟨r.x + x, r.y + y, r.w, r.h⟩ (-x) (-y) = 0 := by simp only [vE, right_iff.2 hMok, hov, cond_true, cond_false]
      have hB : vM ⟨r.x + x, r.y + y, r.w, r.h⟩ (-x) (-y) = r := by
        show bR (mvOK _ (-x) (-y)) (moveO _ (-x) (-y)) z0 = _
        have : mvOK ⟨r.x + x, r.y + y, r.w, r.h⟩ (-x) (-y) = true := by simp [mvOK, right_iff.2 hMok, hov]
        rw [this, hback]
        rfl
      have hH : holdsB ⟨r.x + x, r.y + y, r.w, r.h⟩ (w64 (px + x)) (w64 (py + y)) = holdsB r px py := by
        rw [w64_id (n := px + x) (by omega) (by omega), w64_id (n := py + y) (by omega) (by omega)]
        refine bool_eq (holds_iff.trans (Iff.trans ?_ holds_iff.symm))
        simp only [Holds, hMok, hok, true_and]
        omega
      unfold movesC
      rw [hM, n1, n2, hE, hB, hH, eqR_refl]
      simp [andN]

theorem moves.ok : SpecOK Tryd.prog 5 moves.s := by
  refine specOK_of_body ΓL.ok (LamOK.nil _ _) Tryd.func5 (isBody _ (by kernel_rfl)) (by kernel_rfl) fun args r h => ?_
  unfold moves.s at h
  split at h
  · rename_i ax ay aw ah x y px py
    have e := moves.eq ⟨ax, ay, aw, ah⟩ x y px py
    have hb := moves_true ⟨ax, ay, aw, ah⟩ (x.tmod 10000) (y.tmod 10000) (px.tmod 10000) (py.tmod 10000) (tmod_in x) (tmod_in y) (tmod_in px) (tmod_in py)
    rw [e, ← h]
    rw [pick_ite, pick_leaf, pick_leaf]
    revert hb
    cases (!(vE ⟨ax, ay, aw, ah⟩ (x.tmod 10000) (y.tmod 10000) == 0)) <;> intro hb <;> simp only [cond_true, cond_false] at hb ⊢ <;> rw [hb] <;> rfl
  · cases h
theorem moves.all (a : Rc) (x y px py : Int) (_ : WfR a) (_ : Wf x) (_ : Wf y) (_ : Wf px) (_ : Wf py) : (moves.s [rv a, V.i x, V.i y, V.i px, V.i py]).pick = some (V.b true) := rfl

theorem moves_lifted (os : Os) (started : os.Started) (H : Type) (enc : TypeId × Value → H) :
    ReturnsInHanded {} Tryd.checked os 5 .any (fun w args => (Rows.rectMovesSpec.pre enc Tryd.prog Tryd.f5 [] false w args ∧ laidMetH Tryd.prog laidL w) ∧ sizedMet enc Tryd.prog Tryd.f5 (OpenSpec.ofChange Rows.rectMovesSpec) false w args)
      (Rows.rectMovesSpec.post enc Tryd.prog Tryd.f5 false true false false) :=
  row_of (rt := 4) (shs := [(true, ks4), (false, [.int .i64]), (false, [.int .i64]), (false, [.int .i64]), (false, [.int .i64])]) H enc os started moves.ok Tryd.func5 (by kernel_rfl) (by kernel_rfl) rfl
    (fun ds hl => by
      have hl' : ds.length = 5 := hl
      match ds, hl' with
      | [d1, d2, d3, d4, d5], _ => rfl)
    (by kernel_rfl)
    (fun xs h => by
      obtain ⟨x1, l, rfl, p1, h⟩ := pvs_cons h
      obtain ⟨x2, l, rfl, p2, h⟩ := pvs_cons h
      obtain ⟨x3, l, rfl, p3, h⟩ := pvs_cons h
      obtain ⟨x4, l, rfl, p4, h⟩ := pvs_cons h
      obtain ⟨x5, l, rfl, p5, h⟩ := pvs_cons h
      obtain rfl := pvs_nil h
      obtain ⟨r1, rfl, w1⟩ := pv_rect p1
      obtain ⟨n2, rfl, w2⟩ := pv_int p2
      obtain ⟨n3, rfl, w3⟩ := pv_int p3
      obtain ⟨n4, rfl, w4⟩ := pv_int p4
      obtain ⟨n5, rfl, w5⟩ := pv_int p5
      exact moves.all r1 n2 n3 n4 n5 w1 w2 w3 w4 w5)
    (by kernel_rfl)
    (ChangeSpec.witness_at (enc := enc) (C := Tryd.checked) (os := os) (X := fun w _ => laidMetH Tryd.prog laidL w) false (laidWorld os) #[.agg #[.int .i64 0, .int .i64 0, .int .i64 0, .int .i64 0], .int .i64 0, .int .i64 0, .int .i64 0, .int .i64 0] 8 rfl (by kernel_rfl) (by kernel_rfl) (by kernel_rfl) (by kernel_rfl) (by kernel_rfl) (laidWorld_met os _))

theorem moves_row : Rows.RectMovesSaid :=
  OpenClaim.holds_of_wide 5 Tryd.f5 rfl rfl rfl rfl rfl rfl rfl ⟨rfl, rfl, rfl, rfl, rfl⟩ rfl rfl rfl rfl rfl (by kernel_rfl) Tryd.func5 (by kernel_rfl)
    (of_decide_eq_true (by kernel_rfl)) (by unfold Func.isWrapper; rw [if_neg (of_decide_eq_false (by kernel_rfl))]; exact ⟨rfl, rfl⟩)
    (fun os started H enc _ => moves_lifted os started H enc)

theorem moves_holds : Rows.RectMovesCardSaid :=
  Claim7.holds_tied_plain_at .later [] [.handle] true Rows.rectMovesCard.stood.harness true
    moves_row (fun _ h => by cases h) (by kernel_rfl) (fun _ h => by cases h) rectMoves_row_tie rfl ⟨rfl, rfl⟩ (by kernel_rfl) rfl
    (fun f fn hf hfn => by
      obtain rfl : f = 5 := Option.some.inj ((show Tryd.prog.funcNamed "gutter/gutterlaw02.RectMoves" = some 5 by kernel_rfl).symm.trans hf) |>.symm
      obtain rfl : fn = Tryd.f5 := (Option.some.inj (Tryd.func5.symm.trans hfn)).symm
      exact ⟨by kernel_rfl, fun j t ht => by
        have e : Tryd.f5.params.all (fun t => !(Tryd.pinned.checked.prog.wantsStandIn t)) = true := by kernel_rfl
        have := Array.all_eq_true_iff_forall_mem.1 e t (Array.mem_of_getElem? ht)
        simpa using this⟩)
    (by kernel_rfl)
#print axioms moves_holds
end Go.Proofs.YtlapmkeppcpbnaaDoor
