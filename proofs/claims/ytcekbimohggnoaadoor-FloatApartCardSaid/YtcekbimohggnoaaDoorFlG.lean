/- The document's answer for floats, one by one: where one may be placed. -/
import Derived.Test.YtcekbimohggnoaaDoorFlF
namespace Go.Proofs.YtcekbimohggnoaaDoor
open Go Go.SX Go.Proofs
set_option maxRecDepth 100000
variable [EA]
set_option linter.unusedVariables false
set_option linter.unusedSectionVars false
set_option linter.unusedSimpArgs false

/-! ### beside -/
def besB (r : Rc) (y h : Int) : Bool := bif decide (r.w > 0) then (bif decide (r.h > 0) then (bif decide (r.y < w64 (y + mx2 h 1)) then decide (y < w64 (r.y + r.h)) else false) else false) else false
def anyBes (n : Nat) (g : Nat → Nat → Q) (y h : Int) : Bool := (List.range n).any fun i => besB (gRc g i) y h
theorem anyBes_true {n : Nat} {g : Nat → Nat → Q} {y h : Int} {i : Nat} (hi : i < n) (hh : besB (gRc g i) y h = true) : anyBes n g y h = true := by
  rw [anyBes, List.any_eq_true]
  exact ⟨i, List.mem_range.2 hi, hh⟩
theorem anyBes_false {n : Nat} {g : Nat → Nat → Q} {y h : Int} (hh : ∀ i, i < n → besB (gRc g i) y h = false) : anyBes n g y h = false := by
  rw [anyBes, List.any_eq_false]
  exact fun i hi => by rw [hh i (List.mem_range.1 hi)]; simp
def SBr (n : Nat) (g : Nat → Nat → Q) (y h : Int) (i : Int) : St := mkS 55 [(0, lst4 n g), (1, V.i y), (2, V.i h), (7, V.i i)] [] [] false [] 0
def RBr (n : Nat) (g : Nat → Nat → Q) (y h : Int) : Out := .ite (anyBes n g y h) (.leaf (.ret, mkS 55 [(6, V.b true)] [] [] false [] 0)) (.leaf (.exit 0, mkS 55 [] [] [] false [] 0))
def liveBr : Ex → List Nat | .normal => [0, 1, 2, 7] | .ret => [6] | _ => []
noncomputable abbrev bodyBr : Code := loopAt Tryd.f50 [0, 1, 0, 1]
abbrev inI (i n : Nat) : Bool := decide (0 ≤ (i : Int) ∧ (i : Int) < n)
def okBr (n : Nat) (g : Nat → Nat → Q) (y h : Int) (i : Nat) : Bool :=
  bif inI i n then (bif decide ((gRc g i).w > 0) then (bif inI i n then (bif decide ((gRc g i).h > 0) then (bif inI i n then (bif decide ((gRc g i).y < w64 (y + mx2 h 1)) then (bif inI i n then (bif inI i n then true else false) else false) else true) else false) else true) else false) else true) else false
theorem stepBr (n : Nat) (g : Nat → Nat → Q) (y h : Int) (i : Nat) :
    (sx Tryd.prog [] [] [0, 0, 1, 0, 1] bodyBr (SBr n g y h i)).bind (fun x => T.leaf (x.1, deadS [] (canS 55 0 (liveBr x.1) x.2), chkM 55 0 x.2))
     = .ite (decide ((i : Int) < n)) (.ite (okBr n g y h i) (.ite (besB (gRc g i) y h) (.leaf (.ret, mkS 55 [(6, V.b true)] [] [] false [] 0, true)) (.leaf (.normal, SBr n g y h (w64 (i + 1)), true))) .bad)
        (.leaf (.exit 0, mkS 55 [] [] [] false [] 0, true)) := by kernel_rfl
theorem loopBr (n : Nat) (g : Nat → Nat → Q) (y h : Int) (hn : n ≤ 9223372036854775807) : ∀ x, (RBr n g y h).pick = some x → SemC Tryd.prog (.loop bodyBr) (SBr n g y h 0) x := by
  refine loop_tree (GOK.nil _) (root := cod Tryd.f50) (p := [0, 1, 0, 1]) (by kernel_rfl) (fun i => i ≤ n ∧ ∀ j, j < i → besB (gRc g j) y h = false) (fun i => SBr n g y h i) (fun i => n - i) (RBr n g y h) 55 0 liveBr (fun _ => []) (fun i hi => ?_) 0 ⟨Nat.zero_le _, fun j hj => absurd hj (Nat.not_lt_zero _)⟩
  obtain ⟨hi, hall⟩ := hi
  have e := stepBr n g y h i
  rcases Nat.lt_or_ge i n with hlt | hge
  · have ho : okBr n g y h i = true := by
      unfold okBr inI
      rw [c_in hlt]
      cases decide ((gRc g i).w > 0) <;> cases decide ((gRc g i).h > 0) <;> cases decide ((gRc g i).y < w64 (y + mx2 h 1)) <;> rfl
    cases hr : besB (gRc g i) y h with
    | true => exact ⟨[], .ret, _, LamOK.nil _ _, by rw [e, c_lt hlt, ho, hr]; rfl, .inr ⟨by simp, by rw [RBr, anyBes_true hlt hr]; rfl⟩⟩
    | false =>
      refine ⟨[], .normal, _, LamOK.nil _ _, by rw [e, c_lt hlt, ho, hr]; rfl, .inl ⟨rfl, i + 1, ⟨hlt, fun j hj => ?_⟩, by omega, by rw [w64_suc hlt hn]⟩⟩
      rcases Nat.lt_or_ge j i with h' | h'
      · exact hall j h'
      · rw [show j = i by omega]; exact hr
  · refine ⟨[], .exit 0, _, LamOK.nil _ _, by rw [e, c_ge hge]; rfl, .inr ⟨by simp, by rw [RBr, anyBes_false fun j hj => hall j (by omega)]; rfl⟩⟩
def rbeside.s : List V → T V
  | [.q (.lst [.int .i64, .int .i64, .int .i64, .int .i64] n g), .q (.c (.int .i64 y)), .q (.c (.int .i64 h))] => .leaf (V.b (anyBes n g y h))
  | _ => .bad
theorem rbeside.ok : SpecOK Tryd.prog 50 rbeside.s := by
  refine specOK_of_bodyW (GOK.nil _) Tryd.func50 (isBody _ (by kernel_rfl)) (by kernel_rfl) fun args r hb he => ?_
  unfold rbeside.s at he
  split at he
  · rename_i n g y h
    have hn : n ≤ 9223372036854775807 := (hb (lst4 n g) (by simp)).1
    refine ⟨_, [([0, 1, 0, 1], orc false 55 0 [0, 1, 2, 7] (SBr n g y h 0) (RBr n g y h))], fun _ _ _ x => x, LamOK.orc (c := .loop bodyBr) (by kernel_rfl) (loopBr n g y h hn) (LamOK.nil _ _), ?_⟩
    have e : funV Tryd.prog [] [([0, 1, 0, 1], orc false 55 0 [0, 1, 2, 7] (SBr n g y h 0) (RBr n g y h))] Tryd.f50 (cod Tryd.f50) [lst4 n g, V.i y, V.i h] =
        .ite (@decide (SBr n g y h 0 = SBr n g y h 0) (Classical.propDecidable _)) (.ite (anyBes n g y h) (.leaf (V.b true)) (.leaf (V.b false))) .bad := by kernel_rfl
    rw [e, pick_same, ← he]
    cases anyBes n g y h <;> rfl
  · cases he

/-! ### least -/
def lE (g : Nat → Nat → Q) (y : Int) : Nat → Int
  | 0 => y
  | i + 1 => mx2 (lE g y i) (lowE (gRc g i))
def SLe (n : Nat) (g : Nat → Nat → Q) (x : Fl) (y : Int) (i : Int) : St := mkS 41 [(1, lst4 n g), (2, .ptr 0 0), (5, V.i y), (6, V.i i)] [some (.cells 37 [V.i x.w, V.i x.h, V.b x.r, V.b x.c])] [] false [] 0
def FLe (x : Fl) (y : Int) : Ex × St := (.exit 0, mkS 41 [(5, V.i y)] [some (.cells 37 [V.i x.w, V.i x.h, V.b x.r, V.b x.c])] [] false [] 0)
def liveLe : Ex → List Nat | .normal => [1, 2, 5, 6] | _ => [5]
noncomputable abbrev bodyLe : Code := loopAt Tryd.f39 [0, 1, 0, 1, 1, 1]
theorem stepLe (n : Nat) (g : Nat → Nat → Q) (x : Fl) (y : Int) (i : Nat) :
    (sx Tryd.prog [] [] [0, 0, 1, 0, 1, 1, 1] bodyLe (SLe n g x y i)).bind (fun x => T.leaf (x.1, deadS [] (canS 41 1 (liveLe x.1) x.2), chkM 41 1 x.2))
     = .ite (bif decide ((i : Int) < n) then x.c else false) (.ite (inI i n) (.ite (inI i n) (.leaf (.normal, SLe n g x (mx2 y (lowE (gRc g i))) (w64 (i + 1)), true)) .bad) .bad)
        (.leaf ((FLe x y).1, (FLe x y).2, true)) := by kernel_rfl
def leY (n : Nat) (g : Nat → Nat → Q) (x : Fl) (y : Int) : Int := bif x.c then lE g y n else y
theorem loopLe (n : Nat) (g : Nat → Nat → Q) (x : Fl) (y : Int) (hn : n ≤ 9223372036854775807) : ∀ z, (T.leaf (FLe x (leY n g x y))).pick = some z → SemC Tryd.prog (.loop bodyLe) (SLe n g x y 0) z := by
  refine loop_tree (GOK.nil _) (root := cod Tryd.f39) (p := [0, 1, 0, 1, 1, 1]) (by kernel_rfl) (fun i => i ≤ n ∧ (x.c = false → i = 0)) (fun i => SLe n g x (lE g y i) i) (fun i => n - i) (.leaf (FLe x (leY n g x y))) 41 1 liveLe (fun _ => []) (fun i hi => ?_) 0 ⟨Nat.zero_le _, fun _ => rfl⟩
  have e := stepLe n g x (lE g y i) i
  cases hc : x.c with
  | false =>
    have h0 := hi.2 hc
    subst h0
    refine ⟨[], .exit 0, _, LamOK.nil _ _, by rw [e, hc, show (bif decide (((0 : Nat) : Int) < n) then false else false) = false by cases decide (((0 : Nat) : Int) < n) <;> rfl]; rfl, .inr ⟨by simp, by rw [leY, hc]; rfl⟩⟩
  | true =>
    rcases Nat.lt_or_ge i n with hlt | hge
    · exact ⟨[], .normal, SLe n g x (lE g y (i + 1)) (i + 1 : Nat), LamOK.nil _ _, by rw [e, c_lt hlt, hc, inI, c_in hlt, w64_suc hlt hn]; rfl, .inl ⟨rfl, i + 1, ⟨hlt, fun h => by cases h⟩, by omega, rfl⟩⟩
    · exact ⟨[], .exit 0, _, LamOK.nil _ _, by rw [e, c_ge hge]; rfl, .inr ⟨by simp, by rw [leY, hc, show n = i by omega]; rfl⟩⟩
def rleast.s : List V → T V
  | [.agg [.q (.c (.int .i64 xw)), .q (.c (.int .i64 xh)), .q (.c (.bool xr)), .q (.c (.bool xc))], .q (.lst [.int .i64, .int .i64, .int .i64, .int .i64] n g)] => .leaf (V.i (leY n g ⟨xw, xh, xr, xc⟩ (yB n g)))
  | _ => .bad
theorem rleast.ok : SpecOK Tryd.prog 39 rleast.s := by
  refine specOK_of_bodyW (GOK.nil _) Tryd.func39 (isBody _ (by kernel_rfl)) (by kernel_rfl) fun args r hb he => ?_
  unfold rleast.s at he
  split at he
  · rename_i xw xh xr xc n g
    have hn : n ≤ 9223372036854775807 := (hb (lst4 n g) (by simp)).1
    generalize hx : (⟨xw, xh, xr, xc⟩ : Fl) = x at he
    have hx' : ([.q (.c (.int .i64 xw)), .q (.c (.int .i64 xh)), .q (.c (.bool xr)), .q (.c (.bool xc))] : List V) = [V.i x.w, V.i x.h, V.b x.r, V.b x.c] := by rw [← hx]
    rw [hx']
    refine ⟨_, [([0, 1, 0, 1, 1, 1], orc false 41 1 [1, 2, 5, 6] (SLe n g x (yB n g) 0) (.leaf (FLe x (leY n g x (yB n g)))))], fun _ _ _ x => x, LamOK.orc (c := .loop bodyLe) (by kernel_rfl) (loopLe n g x (yB n g) hn) (LamOK.nil _ _), ?_⟩
    have e : ∀ y Y : Int, funV Tryd.prog [] [([0, 1, 0, 1, 1, 1], orc false 41 1 [1, 2, 5, 6] (SLe n g x y 0) (.leaf (FLe x Y)))] Tryd.f39 (cod Tryd.f39) [fv x, lst4 n g] =
        .ite (decide ((n : Int) > 0)) (.ite (decide (0 ≤ w64 ((n : Int) - 1) ∧ w64 ((n : Int) - 1) < (n : Int))) (.ite (@decide (SLe n g x (yL n g) 0 = SLe n g x y 0) (Classical.propDecidable _)) (.leaf (V.i Y)) .bad) .bad)
          (.ite (@decide (SLe n g x 0 0 = SLe n g x y 0) (Classical.propDecidable _)) (.leaf (V.i Y)) .bad) := fun y Y => by kernel_rfl
    have e' := e (yB n g) (leY n g x (yB n g))
    refine (congrArg T.pick e').trans ?_
    rw [← he, pick_ite]
    rcases Nat.eq_zero_or_pos n with h0 | hpos
    · have g1 : decide ((n : Int) > 0) = false := by simp [h0]
      rw [g1, cond_false]
      have : yB n g = 0 := by simp only [yB, g1, cond_false]
      rw [this, pick_same]
    · have g1 : decide ((n : Int) > 0) = true := by simp; omega
      have hw : w64 ((n : Int) - 1) = n - 1 := w64_id (by omega) (by omega)
      have g2 : decide (0 ≤ w64 ((n : Int) - 1) ∧ w64 ((n : Int) - 1) < (n : Int)) = true := by rw [hw]; simp; omega
      rw [g1, cond_true, pick_ite, g2, cond_true]
      have : yB n g = yL n g := by simp only [yB, g1, cond_true]
      rw [this, pick_same]
  · cases he

/-! ### fits -/
def fitsB (n : Nat) (g f : Nat → Nat → Q) (w : Int) (x : Fl) (y : Int) : Bool := bif decide (w64 (w64 (rI g f w y x.h false n + rI g f w y x.h true n) + x.w) ≤ w) then true else !(anyBes n g y x.h)
abbrev ΓFi : Gam := [(28, rinsets.s), (50, rbeside.s)]
theorem ΓFi.ok : GOK Tryd.prog ΓFi := .cons rinsets.ok (.cons rbeside.ok (GOK.nil _))
def rfits.s : List V → T V
  | [.q (.lst [.int .i64, .int .i64, .bool, .bool] m f), .q (.lst [.int .i64, .int .i64, .int .i64, .int .i64] n g), .q (.c (.int .i64 w)), .agg [.q (.c (.int .i64 xw)), .q (.c (.int .i64 xh)), .q (.c (.bool xr)), .q (.c (.bool xc))], .q (.c (.int .i64 y))] =>
      .ite (decide (n ≤ m)) (.leaf (V.b (fitsB n g f w ⟨xw, xh, xr, xc⟩ y))) .bad
  | _ => .bad
theorem rfits.ok : SpecOK Tryd.prog 40 rfits.s := by
  refine specOK_of_body ΓFi.ok (LamOK.nil _ _) Tryd.func40 (isBody _ (by kernel_rfl)) (by kernel_rfl) fun args r he => ?_
  unfold rfits.s at he
  split at he
  · rename_i m f n g w xw xh xr xc y
    have e : ∀ x : Fl, funV Tryd.prog ΓFi [] Tryd.f40 (cod Tryd.f40) [lstF m f, lst4 n g, V.i w, fv x, V.i y] = .ite (decide (n ≤ m)) (.leaf (V.b (fitsB n g f w x y))) .bad := fun x => by kernel_rfl
    have := e ⟨xw, xh, xr, xc⟩
    rw [this]; exact he
  · cases he
end Go.Proofs.YtcekbimohggnoaaDoor
