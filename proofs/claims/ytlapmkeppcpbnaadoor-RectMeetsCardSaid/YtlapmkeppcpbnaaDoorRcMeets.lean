/- The card of RectMeets: what meets is within both, the same either way about, and holds just the points that both hold. -/
import Derived.Test.YtlapmkeppcpbnaaDoorRcH
import Derived.Test.YtlapmkeppcpbnaaDoorRcI
namespace Go.Proofs.YtlapmkeppcpbnaaDoor
open Go Go.SX Go.Proofs Go.RowKit Go.ChangeShapes
set_option maxRecDepth 100000
set_option linter.unusedVariables false

def meets.s : List V → T V
  | [.agg [.q (.c (.int .i64 ax)), .q (.c (.int .i64 ay)), .q (.c (.int .i64 aw)), .q (.c (.int .i64 ah))], .agg [.q (.c (.int .i64 bx)), .q (.c (.int .i64 by')), .q (.c (.int .i64 bw)), .q (.c (.int .i64 bh))], .q (.c (.int .i64 x)), .q (.c (.int .i64 y))] => .leaf (V.b true)
  | _ => .bad

abbrev mE (a b : Rc) : Int := bif okA a b then 0 else 20
abbrev mM (a b : Rc) : Rc := bR (okA a b) (meetR a b) z0
def meetsA (a b : Rc) : Bool := andN [true, mE b a == mE a b, bif rightR a then !(rightR b) else !false]
def both (a b : Rc) (x y : Int) : Bool := bif holdsB a x y then holdsB b x y else false
def meetsC (a b : Rc) (x y : Int) : Bool :=
  andN [true, eqR (mM a b) (mM b a), rightR (mM a b), holdsB (mM a b) x y == both a b x y, bif (mM a b).w == 0 then true else (bif inB (mM a b) a then inB (mM a b) b else false)]

theorem meets.eq (a b : Rc) (x y : Int) :
    funV Tryd.prog ΓL [] Tryd.f8 (cod Tryd.f8) [rv a, rv b, V.i x, V.i y] = .ite (!(mE a b == 0)) (.leaf (V.b (meetsA a b))) (.leaf (V.b (meetsC a b x y))) := by kernel_rfl

theorem mM_eq {a b : Rc} (ha : Ok a) (hb : Ok b) : mM a b = meetS a b := by
  show bR (okA a b) (meetR a b) z0 = _
  rw [okA_iff.2 ⟨ha, hb⟩, ← meet_eq ha hb]
  rfl

theorem meets_true (a b : Rc) (x y : Int) : (bif !(mE a b == 0) then meetsA a b else meetsC a b x y) = true := by
  have hsym : okA a b = okA b a := bool_eq (okA_iff.trans (and_comm.trans okA_iff.symm))
  cases h : okA a b with
  | false =>
    have e1 : mE a b = 20 := by simp [mE, h]
    have e2 : mE b a = 20 := by simp [mE, ← hsym, h]
    have e3 : (bif rightR a then !(rightR b) else !false) = true := by
      unfold okA at h
      cases h1 : rightR a with
      | false => rfl
      | true => rw [h1] at h; simp only [cond_true] at h ⊢; rw [h]; rfl
    rw [e1]
    unfold meetsA
    rw [e1, e2, e3]
    rfl
  | true =>
    have e1 : mE a b = 0 := by simp [mE, h]
    obtain ⟨ha, hb⟩ := okA_iff.1 h
    rw [e1]
    simp only [beq_self_eq_true, Bool.not_true, cond_false]
    unfold meetsC
    rw [mM_eq ha hb, mM_eq hb ha]
    have hm := meetS_ok ha hb
    have c1 : eqR (meetS a b) (meetS b a) = true := by
      rw [eqR_iff]
      unfold meetS
      rw [Int.min_comm (b.x + b.w), Int.min_comm (b.y + b.h), Int.max_comm b.x, Int.max_comm b.y]
    have c2 : (holdsB (meetS a b) x y == both a b x y) = true := by
      have : holdsB (meetS a b) x y = both a b x y := by
        refine bool_eq ?_
        have hboth : both a b x y = true ↔ Holds a x y ∧ Holds b x y := by
          unfold both
          cases h1 : holdsB a x y with
          | false => simp only [cond_false, Bool.false_eq_true, false_iff]; intro hh; rw [holds_iff.2 hh.1] at h1; cases h1
          | true => simp only [cond_true, holds_iff, holds_iff.1 h1, true_and]
        rw [holds_iff, hboth]
        simp only [Holds, ha, hb, hm, true_and]
        obtain ⟨px, py, pw, ph⟩ := a
        obtain ⟨qx, qy, qw, qh⟩ := b
        unfold meetS
        simp only [Ok] at *
        split <;> simp only <;> omega
      rw [this]; simp
    have c3 : (bif (meetS a b).w == 0 then true else (bif inB (meetS a b) a then inB (meetS a b) b else false)) = true := by
      cases hw : ((meetS a b).w == 0) with
      | true => rfl
      | false =>
        have hw' : (meetS a b).w ≠ 0 := by simpa using hw
        have i1 : inB (meetS a b) a = true := by
          refine in_iff.2 ⟨hm, ha, ?_⟩
          revert hw'
          unfold meetS
          split
          · intro _; simp only; omega
          · intro h0; exact absurd rfl h0
        have i2 : inB (meetS a b) b = true := by
          refine in_iff.2 ⟨hm, hb, ?_⟩
          revert hw'
          unfold meetS
          split
          · intro _; simp only; omega
          · intro h0; exact absurd rfl h0
        rw [i1, i2]; rfl
    simp only [andN, c1, c2, c3, right_iff.2 hm, cond_true]

theorem meets.ok : SpecOK Tryd.prog 8 meets.s := by
  refine specOK_of_body ΓL.ok (LamOK.nil _ _) Tryd.func8 (isBody _ (by kernel_rfl)) (by kernel_rfl) fun args r h => ?_
  unfold meets.s at h
  split at h
  · rename_i ax ay aw ah bx by' bw bh x y
    have e := meets.eq ⟨ax, ay, aw, ah⟩ ⟨bx, by', bw, bh⟩ x y
    have hb := meets_true ⟨ax, ay, aw, ah⟩ ⟨bx, by', bw, bh⟩ x y
    rw [e, ← h]
    rw [pick_ite, pick_leaf, pick_leaf]
    revert hb
    cases (!(mE ⟨ax, ay, aw, ah⟩ ⟨bx, by', bw, bh⟩ == 0)) <;> intro hb <;> simp only [cond_true, cond_false] at hb ⊢ <;> rw [hb] <;> rfl
  · cases h
theorem meets.all (a b : Rc) (x y : Int) (_ : WfR a) (_ : WfR b) (_ : Wf x) (_ : Wf y) : (meets.s [rv a, rv b, V.i x, V.i y]).pick = some (V.b true) := rfl

theorem meets_lifted (os : Os) (started : os.Started) (H : Type) (enc : TypeId × Value → H) :
    ReturnsInHanded {} Tryd.checked os 8 .any (fun w args => (Rows.rectMeetsSpec.pre enc Tryd.prog Tryd.f8 [] false w args ∧ laidMetH Tryd.prog laidL w) ∧ sizedMet enc Tryd.prog Tryd.f8 (OpenSpec.ofChange Rows.rectMeetsSpec) false w args)
      (Rows.rectMeetsSpec.post enc Tryd.prog Tryd.f8 false true false false) :=
  row_of (rt := 4) (shs := [(true, ks4), (true, ks4), (false, [.int .i64]), (false, [.int .i64])]) H enc os started meets.ok Tryd.func8 (by kernel_rfl) (by kernel_rfl) rfl
    (fun ds hl => by
      have hl' : ds.length = 4 := hl
      match ds, hl' with
      | [d1, d2, d3, d4], _ => rfl)
    (by kernel_rfl)
    (fun xs h => by
      obtain ⟨x1, l, rfl, p1, h⟩ := pvs_cons h
      obtain ⟨x2, l, rfl, p2, h⟩ := pvs_cons h
      obtain ⟨x3, l, rfl, p3, h⟩ := pvs_cons h
      obtain ⟨x4, l, rfl, p4, h⟩ := pvs_cons h
      obtain rfl := pvs_nil h
      obtain ⟨r1, rfl, w1⟩ := pv_rect p1
      obtain ⟨r2, rfl, w2⟩ := pv_rect p2
      obtain ⟨n3, rfl, w3⟩ := pv_int p3
      obtain ⟨n4, rfl, w4⟩ := pv_int p4
      exact meets.all r1 r2 n3 n4 w1 w2 w3 w4)
    (by kernel_rfl)
    (ChangeSpec.witness_at (enc := enc) (C := Tryd.checked) (os := os) (X := fun w _ => laidMetH Tryd.prog laidL w) false (laidWorld os) #[.agg #[.int .i64 0, .int .i64 0, .int .i64 0, .int .i64 0], .agg #[.int .i64 0, .int .i64 0, .int .i64 0, .int .i64 0], .int .i64 0, .int .i64 0] 8 rfl (by kernel_rfl) (by kernel_rfl) (by kernel_rfl) (by kernel_rfl) (by kernel_rfl) (laidWorld_met os _))

theorem meets_row : Rows.RectMeetsSaid :=
  OpenClaim.holds_of_wide 8 Tryd.f8 rfl rfl rfl rfl rfl rfl rfl ⟨rfl, rfl, rfl, rfl, rfl⟩ rfl rfl rfl rfl rfl (by kernel_rfl) Tryd.func8 (by kernel_rfl)
    (of_decide_eq_true (by kernel_rfl)) (by unfold Func.isWrapper; rw [if_neg (of_decide_eq_false (by kernel_rfl))]; exact ⟨rfl, rfl⟩)
    (fun os started H enc _ => meets_lifted os started H enc)

theorem meets_holds : Rows.RectMeetsCardSaid :=
  Claim7.holds_tied_plain_at .later [] [.handle] true Rows.rectMeetsCard.stood.harness true
    meets_row (fun _ h => by cases h) (by kernel_rfl) (fun _ h => by cases h) rectMeets_row_tie rfl ⟨rfl, rfl⟩ (by kernel_rfl) rfl
    (fun f fn hf hfn => by
      obtain rfl : f = 8 := Option.some.inj ((show Tryd.prog.funcNamed "gutter/gutterlaw02.RectMeets" = some 8 by kernel_rfl).symm.trans hf) |>.symm
      obtain rfl : fn = Tryd.f8 := (Option.some.inj (Tryd.func8.symm.trans hfn)).symm
      exact ⟨by kernel_rfl, fun j t ht => by
        have e : Tryd.f8.params.all (fun t => !(Tryd.pinned.checked.prog.wantsStandIn t)) = true := by kernel_rfl
        have := Array.all_eq_true_iff_forall_mem.1 e t (Array.mem_of_getElem? ht)
        simpa using this⟩)
    (by kernel_rfl)
#print axioms meets_holds
end Go.Proofs.YtlapmkeppcpbnaaDoor
