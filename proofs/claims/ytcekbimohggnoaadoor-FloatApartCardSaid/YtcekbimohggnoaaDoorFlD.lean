/- The functions of float, one by one: a float is placed. -/
import Derived.Test.YtcekbimohggnoaaDoorFlC
import Derived.Test.YtcekbimohggnoaaDoorSxZm
namespace Go.Proofs.YtcekbimohggnoaaDoor
open Go Go.SX Go.Proofs
set_option maxRecDepth 100000
variable [EA]
set_option linter.unusedVariables false
set_option linter.unusedSectionVars false
set_option linter.unusedSimpArgs false

/-! ### isTight -/
def tightB (es : List (Value × List Q)) (xw w : Int) : Bool := bif decide (w64 (w64 (lkM es false + lkM es true) + xw) > w) then decide ((es.length : Int) > 0) else false
def tight.s : List V → T V
  | [.q (.sp 1 a), .q (.sp 4 b), .q (.sp 1 c)] => match a 0, b 0, c 0 with
    | .mp (.one .bool) false [.int .i64] es, .c (.int .i64 xw), .sp 3 get => match get 2 with
      | .c (.int .i64 w) => .leaf (V.b (tightB es xw w))
      | _ => .bad
    | _, _, _ => .bad
  | _ => .bad
theorem tight.ok : SpecOK Tryd.prog 45 tight.s := by
  refine specOK_of_bodyW (GOK.nil _) Tryd.func45 (isBody _ (by kernel_rfl)) (by kernel_rfl) fun args r hb he => ?_
  unfold tight.s at he
  split at he
  · rename_i a b c
    split at he
    · rename_i es xw get ha hbb hc
      split at he
      · rename_i w hw
        refine ⟨[sp1 (.mp (.one .bool) false [.int .i64] es), .q (.sp 4 fun j => [Q.c (.int .i64 xw), b 1, b 2, b 3].getD j default), sp1 (.sp 3 fun j => [get 0, get 1, .c (.int .i64 w)].getD j default)], [], ?_, LamOK.nil _ _, ?_⟩
        · intro S w' vs hd
          cases hd with
          | cons _ v1 _ l1 d1 hd =>
            cases hd with
            | cons _ v2 _ l2 d2 hd =>
              cases hd with
              | cons _ v3 _ l3 d3 hd =>
                refine .cons _ _ _ _ (.q _ _ (den_sp1 (fun v hv => hv) ha d1.q_inv)) (.cons _ _ _ _ (.q _ _ (den_sp (fun j hj => ?_) d2.q_inv)) (.cons _ _ _ _ (.q _ _ (den_sp1 (fun v hv => ?_) hc d3.q_inv)) hd))
                · rcases (show j = 0 ∨ j = 1 ∨ j = 2 ∨ j = 3 by omega) with rfl | rfl | rfl | rfl
                  · exact hbb
                  · rfl
                  · rfl
                  · rfl
                · exact den_sp (fun j hj => by
                    rcases (show j = 0 ∨ j = 1 ∨ j = 2 by omega) with rfl | rfl | rfl
                    · rfl
                    · rfl
                    · exact hw) hv
        · have e : ∀ (b1 b2 b3 g0 g1 : Q), funV Tryd.prog [] [] Tryd.f45 (cod Tryd.f45) [sp1 (.mp (.one .bool) false [.int .i64] es), .q (.sp 4 fun j => [Q.c (.int .i64 xw), b1, b2, b3].getD j default), sp1 (.sp 3 fun j => [g0, g1, .c (.int .i64 w)].getD j default)] =
              .leaf (V.b (tightB es xw w)) := fun b1 b2 b3 g0 g1 => by kernel_rfl
          rw [e]; exact he
      · cases he
    · cases he
  · cases he

/-! ### place -/
abbrev ΓPl : Gam := [(32, low.s), (26, .x false insets.s), (45, tight.s), (30, end.s)]
theorem ΓPl.ok : GOK Tryd.prog ΓPl := .cons low.ok (.consX insets.ok (.cons tight.ok (.cons end.ok (GOK.nil _))))
abbrev rowOb (n : Nat) (g : Nat → Nat → Q) (m : Nat) (f : Nat → Nat → Q) (w : Int) : Ob := .cells 62 [.q (.lst ks4 n g), .q (.lst ksF m f), V.i w]
abbrev loPl (n : Nat) (g : Nat → Nat → Q) (m : Nat) (f : Nat → Nat → Q) (w : Int) (x : Fl) (es : List (Value × List Q)) : List (Option Ob) :=
  [some (rowOb n g m f w), some (.cells 45 [.ptr 0 0]), some (.cells 37 [V.i x.w, V.i x.h, V.b x.r, V.b x.c]), some (.cells 37 [V.i x.w, V.i x.h, V.b x.r, V.b false]), some (mapI es), some (.cells 51 [.mp 4])]
def SPl (n : Nat) (g : Nat → Nat → Q) (m : Nat) (f : Nat → Nat → Q) (w : Int) (x : Fl) (y : Int) : St :=
  mkS 113 [(2, .ptr 1 0), (3, .ptr 2 0), (4, V.i y), (7, .ptr 5 0), (8, .clo 45 [.ptr 5 0, .ptr 2 0, .ptr 1 0])] (loPl n g m f w x (insM g f w y x.h n)) [] false [] 1
def FPl (n : Nat) (g : Nat → Nat → Q) (m : Nat) (f : Nat → Nat → Q) (w : Int) (x : Fl) (y : Int) : Ex × St :=
  (.exit 0, mkS 113 [(2, .ptr 1 0), (3, .ptr 2 0), (4, V.i y), (7, .ptr 5 0)] (loPl n g m f w x (insM g f w y x.h n)) [] false [] 1)
def livePl : Ex → List Nat | .normal => [2, 3, 4, 7, 8] | _ => [2, 3, 4, 7]
def mvPl : Ex → List (Nat × Nat) | .normal => [(6, 4)] | _ => []
noncomputable abbrev bodyPl : Code := loopAt Tryd.f36 [0, 0, 1, 1, 1, 1, 1, 1]
/-- Where the next end is. -/
def nextY (n : Nat) (g : Nat → Nat → Q) (y : Int) : Int := bif eB g y n then eS n g y n else 0
def tightY (n : Nat) (g f : Nat → Nat → Q) (w : Int) (x : Fl) (y : Int) : Bool := tightB (insM g f w y x.h n) x.w w

theorem stepPl (n : Nat) (g : Nat → Nat → Q) (m : Nat) (f : Nat → Nat → Q) (w : Int) (x : Fl) (y : Int) :
    (sx Tryd.prog ΓPl [] [0, 0, 0, 1, 1, 1, 1, 1, 1] bodyPl (SPl n g m f w x y)).bind (fun x => T.leaf (x.1, deadS [] (canS 113 6 (livePl x.1) (mvL (mvPl x.1) x.2)), chkM 113 6 (mvL (mvPl x.1) x.2)))
     = .ite (tightY n g f w x y)
        (.ite (decide (n ≤ m)) (.leaf (.normal, SPl n g m f w x (nextY n g y), true)) .bad)
        (.leaf ((FPl n g m f w x y).1, (FPl n g m f w x y).2, true)) := by kernel_rfl

/-- Where it is asked, one time behind the other. -/
def yK (n : Nat) (g : Nat → Nat → Q) (y : Int) : Nat → Int
  | 0 => y
  | k + 1 => nextY n g (yK n g y k)
abbrev StopK (n : Nat) (g f : Nat → Nat → Q) (w : Int) (x : Fl) (y : Int) (k : Nat) : Prop := tightY n g f w x (yK n g y k) = false
noncomputable def lastK (n : Nat) (g f : Nat → Nat → Q) (w : Int) (x : Fl) (y : Int) : Nat := @dite _ (∃ k, StopK n g f w x y k) (Classical.propDecidable _) (fun h => leastOf _ h) (fun _ => 0)
theorem lastK_spec {n : Nat} {g f : Nat → Nat → Q} {w : Int} {x : Fl} {y : Int} (h : ∃ k, StopK n g f w x y k) : StopK n g f w x y (lastK n g f w x y) := by
  unfold lastK
  rw [dif_pos h]
  exact leastOf_spec _ h
theorem lastK_before {n : Nat} {g f : Nat → Nat → Q} {w : Int} {x : Fl} {y : Int} (h : ∃ k, StopK n g f w x y k) {k : Nat} (hk : k < lastK n g f w x y) : tightY n g f w x (yK n g y k) = true := by
  cases ht : tightY n g f w x (yK n g y k) with
  | true => rfl
  | false =>
    unfold lastK at hk
    rw [dif_pos h] at hk
    have := leastOf_le _ h k ht
    omega
/-- Where one is placed that is asked for from y on. -/
noncomputable def finY (n : Nat) (g f : Nat → Nat → Q) (w : Int) (x : Fl) (y : Int) : Int := yK n g y (lastK n g f w x y)

theorem loopPl (n : Nat) (g : Nat → Nat → Q) (m : Nat) (f : Nat → Nat → Q) (w : Int) (x : Fl) (y : Int) (hnm : n ≤ m) (hst : ∃ k, StopK n g f w x y k) :
    ∀ z, (T.leaf (FPl n g m f w x (finY n g f w x y))).pick = some z → SemC Tryd.prog (.loop bodyPl) (SPl n g m f w x y) z := by
  refine loop_treeM ΓPl.ok (root := cod Tryd.f36) (p := [0, 0, 1, 1, 1, 1, 1, 1]) (by kernel_rfl) (fun k => k ≤ lastK n g f w x y) (fun k => SPl n g m f w x (yK n g y k)) (fun k => lastK n g f w x y - k) (.leaf (FPl n g m f w x (finY n g f w x y))) 113 6 livePl (fun _ => []) mvPl (fun k hk => ?_) 0 (Nat.zero_le _)
  have e := stepPl n g m f w x (yK n g y k)
  rcases Nat.lt_or_ge k (lastK n g f w x y) with hlt | hge
  · exact ⟨[], .normal, SPl n g m f w x (yK n g y (k + 1)), LamOK.nil _ _, by rw [e, lastK_before hst hlt, decide_eq_true hnm]; rfl, .inl ⟨rfl, k + 1, hlt, by omega, rfl⟩⟩
  · have hk' : k = lastK n g f w x y := by omega
    subst hk'
    exact ⟨[], .exit 0, _, LamOK.nil _ _, by rw [e, lastK_spec hst]; rfl, .inr ⟨by simp, rfl⟩⟩

def neU (x : Fl) : Bool := !(bif x.w == x.w then (bif x.h == x.h then (bif x.r == x.r then (bif x.c == false then true else false) else false) else false) else false)
theorem neU_eq (x : Fl) : neU x = x.c := by
  unfold neU
  cases x.c <;> simp
abbrev atX (es : List (Value × List Q)) (w : Int) (x : Fl) : Int := bif x.r then mx2 (w64 (w64 (w - lkM es true) - x.w)) 0 else lkM es false
/-- Where the search begins. -/
abbrev yL (n : Nat) (g : Nat → Nat → Q) : Int := (gRc g (w64 ((n : Int) - 1)).toNat).y
noncomputable abbrev finT (n : Nat) (g : Nat → Nat → Q) (m : Nat) (f : Nat → Nat → Q) (w : Int) (x : Fl) (Y a : Int) : T XOut :=
  .ite (decide ((0 : Int) ≤ 0 ∧ (0 : Int) ≤ (n : Int) ∧ (n : Int) ≤ (n : Int) ∧ (n : Int) ≤ (n : Int))) (.ite (decide (n < n + 1) && roomB n 1 32) (.leaf ⟨some (rowOb (n + 1) (catG n (gz g) (one1 ⟨a, Y, x.w, x.h⟩)) m f w), none, .tup []⟩) .bad) .bad
noncomputable abbrev askT (n : Nat) (g : Nat → Nat → Q) (m : Nat) (f : Nat → Nat → Q) (w : Int) (x : Fl) (y Y yb : Int) : T XOut :=
  .ite (decide (n ≤ m)) (.ite (@decide (SPl n g m f w x yb = SPl n g m f w x y) (Classical.propDecidable _))
    (.ite x.r (finT n g m f w x Y (mx2 (w64 (w64 (w - lkM (insM g f w Y x.h n) true) - x.w)) 0)) (finT n g m f w x Y (lkM (insM g f w Y x.h n) false))) .bad) .bad

theorem placeE (n : Nat) (g : Nat → Nat → Q) (m : Nat) (f : Nat → Nat → Q) (w : Int) (x : Fl) (y Y : Int) :
    funX Tryd.prog ΓPl [([0, 0, 1, 1, 1, 1, 1, 1], orc false 113 6 [2, 3, 4, 7, 8] (SPl n g m f w x y) (.leaf (FPl n g m f w x Y)))] Tryd.f36 (cod Tryd.f36) false (some (rowOb n g m f w)) [.ptr 0 0, fv x] =
      .ite (decide ((n : Int) > 0)) (.ite (decide (0 ≤ w64 ((n : Int) - 1) ∧ w64 ((n : Int) - 1) < (n : Int))) (.ite (neU x) (askT n g m f w x y Y (mx2 (yL n g) (lowS g n))) (askT n g m f w x y Y (yL n g))) .bad)
        (.ite (neU x) (askT n g m f w x y Y (mx2 0 (lowS g n))) (askT n g m f w x y Y 0)) := by kernel_rfl

abbrev yB (n : Nat) (g : Nat → Nat → Q) : Int := bif decide ((n : Int) > 0) then yL n g else 0
/-- The least place of one more. -/
def y0 (n : Nat) (g : Nat → Nat → Q) (x : Fl) : Int := bif x.c then mx2 (yB n g) (lowS g n) else yB n g
noncomputable abbrev plY (n : Nat) (g f : Nat → Nat → Q) (w : Int) (x : Fl) : Int := finY n g f w x (y0 n g x)
noncomputable abbrev plR (n : Nat) (g f : Nat → Nat → Q) (w : Int) (x : Fl) : Rc := ⟨atX (insM g f w (plY n g f w x) x.h n) w x, plY n g f w x, x.w, x.h⟩
noncomputable abbrev plG (n : Nat) (g f : Nat → Nat → Q) (w : Int) (x : Fl) : Nat → Nat → Q := catG n (gz g) (one1 (plR n g f w x))
abbrev plOK (n : Nat) (g : Nat → Nat → Q) (m : Nat) (f : Nat → Nat → Q) (w : Int) (x : Fl) : Prop := n ≤ m ∧ n ≤ 1000000 ∧ ∃ k, StopK n g f w x (y0 n g x) k

noncomputable def place.s : Option Ob → List V → T XOut
  | some (.cells t [.q (.lst [.int .i64, .int .i64, .int .i64, .int .i64] n g), .q (.lst [.int .i64, .int .i64, .bool, .bool] m f), .q (.c (.int .i64 w))]), [.ptr 0 0, .agg [.q (.c (.int .i64 xw)), .q (.c (.int .i64 xh)), .q (.c (.bool xr)), .q (.c (.bool xc))]] =>
      if t = 62 then .ite (@decide (plOK n g m f w ⟨xw, xh, xr, xc⟩) (Classical.propDecidable _)) (.leaf ⟨some (rowOb (n + 1) (plG n g f w ⟨xw, xh, xr, xc⟩) m f w), none, .tup []⟩) .bad else .bad
  | _, _ => .bad

theorem place.ok : SpecX Tryd.prog 36 true place.s := by
  refine specX_of_bodyW (ho := false) ΓPl.ok Tryd.func36 (isBody _ (by kernel_rfl)) (by kernel_rfl) fun ls args z hl hb he => ?_
  unfold place.s at he
  split at he
  · rename_i t n g m f w xw xh xr xc
    split at he
    · rename_i ht
      subst ht
      simp only [T.pick] at he
      cases hd : @decide (plOK n g m f w ⟨xw, xh, xr, xc⟩) (Classical.propDecidable _) with
      | false => rw [hd] at he; cases he
      | true =>
        rw [hd] at he
        cases he
        obtain ⟨hnm, hn, hst⟩ := @of_decide_eq_true _ (Classical.propDecidable _) hd
        clear hd
        generalize hx : (⟨xw, xh, xr, xc⟩ : Fl) = x at hst
        have hx' : ([.q (.c (.int .i64 xw)), .q (.c (.int .i64 xh)), .q (.c (.bool xr)), .q (.c (.bool xc))] : List V) = [V.i x.w, V.i x.h, V.b x.r, V.b x.c] := by rw [← hx]
        rw [hx']
        refine ⟨_, [([0, 0, 1, 1, 1, 1, 1, 1], orc false 113 6 [2, 3, 4, 7, 8] (SPl n g m f w x (y0 n g x)) (.leaf (FPl n g m f w x (plY n g f w x))))], .rfl, LamOK.orc (c := .loop bodyPl) (by kernel_rfl) (loopPl n g m f w x (y0 n g x) hnm hst) (LamOK.nil _ _), ?_⟩
        have e := placeE n g m f w x (y0 n g x) (plY n g f w x)
        refine (congrArg T.pick e).trans ?_
        have c1 : decide ((0 : Int) ≤ 0 ∧ (0 : Int) ≤ (n : Int) ∧ (n : Int) ≤ (n : Int) ∧ (n : Int) ≤ (n : Int)) = true := by simp
        have c2 : (decide (n < n + 1) && roomB n 1 32) = true := by simp [roomB]; omega
        have key : ∀ yb, yb = y0 n g x → (askT n g m f w x (y0 n g x) (plY n g f w x) yb).pick = some ⟨some (rowOb (n + 1) (plG n g f w x) m f w), none, .tup []⟩ := fun yb hy => by
          subst hy
          unfold askT finT
          rw [pick_ite, decide_eq_true hnm, cond_true, pick_same, pick_ite, pick_ite, pick_ite, c1, c2]
          simp only [cond_true, pick_leaf, pick_ite, c1, c2, plG, plR, atX]
          cases x.r <;> rfl
        rcases Nat.eq_zero_or_pos n with h0 | hpos
        · have g1 : decide ((n : Int) > 0) = false := by simp [h0]
          have hy : y0 n g x = bif x.c then mx2 0 (lowS g n) else 0 := by simp only [y0, yB, g1, cond_false]
          rw [pick_ite, g1, cond_false, pick_ite, neU_eq]
          cases hc : x.c with
          | true => exact key _ (by rw [hy, hc]; rfl)
          | false => exact key _ (by rw [hy, hc]; rfl)
        · have g1 : decide ((n : Int) > 0) = true := by simp; omega
          have hw : w64 ((n : Int) - 1) = n - 1 := w64_id (by omega) (by omega)
          have g2 : decide (0 ≤ w64 ((n : Int) - 1) ∧ w64 ((n : Int) - 1) < (n : Int)) = true := by rw [hw]; simp; omega
          have hy : y0 n g x = bif x.c then mx2 (yL n g) (lowS g n) else yL n g := by simp only [y0, yB, g1, cond_true]
          rw [pick_ite, g1, cond_true, pick_ite, g2, cond_true, pick_ite, neU_eq]
          cases hc : x.c with
          | true => exact key _ (by rw [hy, hc]; rfl)
          | false => exact key _ (by rw [hy, hc]; rfl)
    · cases he
  · cases he
end Go.Proofs.YtcekbimohggnoaaDoor
