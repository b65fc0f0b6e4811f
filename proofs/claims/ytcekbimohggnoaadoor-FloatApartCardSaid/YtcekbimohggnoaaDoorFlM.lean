/- The functions of float, one by one: those that others call. -/
import Derived.Test.YtcekbimohggnoaaDoorFlL
import Derived.Test.YtcekbimohggnoaaDoorAsFloat
namespace Go.Proofs.YtcekbimohggnoaaDoor
open Go Go.SX Go.Proofs
set_option maxRecDepth 100000
variable [EA]
set_option linter.unusedVariables false
set_option linter.unusedSectionVars false
set_option linter.unusedSimpArgs false

noncomputable abbrev ΓT : Gam := [(24, placed.s), (25, AsFloat.ftold.s), (32, low.s), (26, .x false insets.s), (30, end.s), (0 + 1048576, .g AsRect.errF)]
theorem ΓT.ok : GOK Tryd.prog ΓT := .cons placed.ok (.cons AsFloat.ftold.ok (.cons low.ok (.consX insets.ok (.cons end.ok (.consG (List.mem_cons_of_mem _ List.mem_cons_self) (GOK.nil _))))))

abbrev codF (m : Nat) (f : Nat → Nat → Q) (w : Int) : Int := bif rightF m f w then 0 else 110
abbrev plN (m : Nat) (f : Nat → Nat → Q) (w : Int) : Nat := bif rightF m f w then m else 0
/-- What told says of an error; else nothing. -/
noncomputable abbrev tT (x : V) (r : V) : T V := .ite (@decide ([x] = [errFV]) (Classical.propDecidable _)) (.leaf r) .bad
theorem tT_pick (r : V) : (tT errFV r).pick = some r := by
  show (T.ite (@decide ([errFV] = [errFV]) (Classical.propDecidable _)) (T.leaf r) .bad).pick = _
  rw [pick_same]; rfl
noncomputable abbrev dPl (m : Nat) (f : Nat → Nat → Q) (w : Int) : Bool := @decide (allPl m f w) (Classical.propDecidable _)
theorem dPl_true {m : Nat} {f : Nat → Nat → Q} {w : Int} (h : rightF m f w = true) : dPl m f w = true := @decide_eq_true _ (Classical.propDecidable _) (all_pl (right_ok.1 h))
theorem gP_R {m : Nat} {f : Nat → Nat → Q} {w : Int} (h : rightF m f w = true) : gP f w m = gR f w m := gP_eq (right_ok.1 h) m (Nat.le_refl _)

/-! ### Place -/
noncomputable abbrev fPlace.s := spFW fun m f w => .leaf (.tup [lst4 (plN m f w) (gR f w m), V.i (codF m f w)])
theorem fPlace.eq (m : Nat) (f : Nat → Nat → Q) (w : Int) :
    funV Tryd.prog ΓT [] Tryd.f16 (cod Tryd.f16) [lstF m f, V.i w] =
      .ite (rightF m f w) (.ite (dPl m f w) (.ite false (tT nilE (.tup [.q (.c (.slice none 0 0)), V.i 110])) (.leaf (.tup [lst4 m (gP f w m), V.i 0]))) .bad) (.ite true (tT errFV (.tup [.q (.c (.slice none 0 0)), V.i 110])) .bad) := by kernel_rfl
theorem fPlace.ok : SpecOK Tryd.prog 16 fPlace.s := by
  have h0 : SpecOK Tryd.prog 16 (spFW fun m f w => .ite (rightF m f w) (.leaf (.tup [lst4 m (gR f w m), V.i 0])) (.leaf (.tup [.q (.c (.slice none 0 0)), V.i 110]))) := by
    refine okFW ΓT.ok Tryd.func16 (by kernel_rfl) (by kernel_rfl) fun m f w v hb hv => ?_
    refine ⟨[], LamOK.nil _ _, ?_⟩
    rw [fPlace.eq, ← hv, pick_ite, pick_ite]
    cases h : rightF m f w with
    | false => simp only [cond_false]; rw [pick_ite, cond_true, tT_pick]; rfl
    | true => simp only [cond_true]; rw [pick_ite, dPl_true h, cond_true, pick_ite, cond_false, gP_R h]; rfl
  refine h0.res fun args r hb he => ?_
  unfold fPlace.s spFW at he
  split at he
  · rename_i m f w
    simp only [T.pick, Option.some.injEq] at he
    subst he
    cases h : rightF m f w with
    | true =>
      refine ⟨.tup [lst4 m (gR f w m), V.i 0], by simp only [spFW, pick_ite, h, cond_true]; rfl, fun S w' v hd => ?_⟩
      simp only [plN, codF, h, cond_true]; exact hd
    | false =>
      refine ⟨.tup [.q (.c (.slice none 0 0)), V.i 110], by simp only [spFW, pick_ite, h, cond_false]; rfl, fun S w' v hd => ?_⟩
      simp only [plN, codF, h, cond_false]
      cases hd with
      | tup _ vs hl =>
        cases hl with
        | cons _ _ _ _ h1 hl => exact .tup _ _ (.cons _ _ _ _ (den_nil0 rfl h1) hl)
  · cases he

/-! ### Low -/
noncomputable abbrev fLow.s := spFW fun m f w => .leaf (.tup [V.i (bif rightF m f w then lowS (gR f w m) m else 0), V.i (codF m f w)])
theorem fLow.eq (m : Nat) (f : Nat → Nat → Q) (w : Int) :
    funV Tryd.prog ΓT [] Tryd.f19 (cod Tryd.f19) [lstF m f, V.i w] =
      .ite (rightF m f w) (.ite (dPl m f w) (.ite false (tT nilE (.tup [V.i 0, V.i 110])) (.leaf (.tup [V.i (lowS (gP f w m) m), V.i 0]))) .bad) (.ite true (tT errFV (.tup [V.i 0, V.i 110])) .bad) := by kernel_rfl
theorem fLow.ok : SpecOK Tryd.prog 19 fLow.s := by
  refine okFW ΓT.ok Tryd.func19 (by kernel_rfl) (by kernel_rfl) fun m f w v hb hv => ?_
  refine ⟨[], LamOK.nil _ _, ?_⟩
  rw [fLow.eq, ← hv, pick_ite]
  cases h : rightF m f w with
  | false => simp only [cond_false]; rw [pick_ite, cond_true, tT_pick]; simp only [codF, h, cond_false]; rfl
  | true => simp only [cond_true]; rw [pick_ite, dPl_true h, cond_true, pick_ite, cond_false, gP_R h]; simp only [codF, h, cond_true]

/-! ### Insets -/
def bad4 (y h : Int) : Bool := bif decide (y < 0) then true else (bif decide (y > 67108864) then true else (bif decide (h < 0) then true else decide (h > 1048576)))
abbrev okYH (m : Nat) (f : Nat → Nat → Q) (w y h : Int) : Bool := bif rightF m f w then !(bad4 y h) else false
noncomputable def fIn3 (m : Nat) (f : Nat → Nat → Q) (w y h : Int) : V := .tup [V.i (bif okYH m f w y h then rI (gR f w m) f w y h false m else 0), V.i (bif okYH m f w y h then rI (gR f w m) f w y h true m else 0), V.i (bif okYH m f w y h then 0 else 110)]

theorem yh_of {y h : Int} (hb : bad4 y h = false) : YH y h := by
  unfold bad4 at hb
  by_cases h1 : y < 0
  · simp [h1] at hb
  · by_cases h2 : y > 67108864
    · simp [h1, h2] at hb
    · by_cases h3 : h < 0
      · simp [h1, h2, h3] at hb
      · by_cases h4 : h > 1048576
        · simp [h1, h2, h3, h4] at hb
        · exact ⟨by omega, by omega, by omega, by simp only [MS]; omega⟩
abbrev tup3 (a b c : Int) : V := .tup [V.i a, V.i b, V.i c]
noncomputable abbrev inT (m : Nat) (f : Nat → Nat → Q) (w y h : Int) : T V := .ite (decide (m ≤ m)) (.leaf (tup3 (lkM (insM (gP f w m) f w y h m) false) (lkM (insM (gP f w m) f w y h m) true) 0)) .bad
theorem fInsets.eq (m : Nat) (f : Nat → Nat → Q) (w y h : Int) :
    funV Tryd.prog ΓT [] Tryd.f12 (cod Tryd.f12) [lstF m f, V.i w, V.i y, V.i h] =
      .ite (rightF m f w) (.ite (dPl m f w) (.ite (bif true then bad4 y h else false) (.ite true (tT errFV (tup3 0 0 110)) (inT m f w y h)) (.ite false (tT nilE (tup3 0 0 110)) (inT m f w y h))) .bad)
        (.ite (bif false then bad4 y h else false) (.ite true (tT errFV (tup3 0 0 110)) .bad) (.ite true (tT errFV (tup3 0 0 110)) .bad)) := by kernel_rfl
def spFWyh (F : Nat → (Nat → Nat → Q) → Int → Int → Int → T V) : List V → T V
  | [.q (.lst [.int .i64, .int .i64, .bool, .bool] m f), .q (.c (.int .i64 w)), .q (.c (.int .i64 y)), .q (.c (.int .i64 h))] => F m f w y h
  | _ => .bad
noncomputable abbrev fInsets.s := spFWyh fun m f w y h => .leaf (fIn3 m f w y h)
theorem fInsets.ok : SpecOK Tryd.prog 12 fInsets.s := by
  refine specOK_of_body ΓT.ok (LamOK.nil _ _) Tryd.func12 (isBody _ (by kernel_rfl)) (by kernel_rfl) fun args r he => ?_
  unfold fInsets.s spFWyh at he
  split at he
  · rename_i m f w y h
    refine (congrArg T.pick (fInsets.eq m f w y h)).trans ?_
    rw [← he, pick_ite]
    unfold fIn3 okYH
    cases hr : rightF m f w with
    | false => simp only [cond_false, hr]; rw [pick_ite, cond_false, pick_ite, cond_true, tT_pick]; rfl
    | true =>
      simp only [cond_true, hr]
      rw [pick_ite, dPl_true hr, cond_true, pick_ite]
      cases hb : bad4 y h with
      | true => simp only [cond_true, Bool.not_true, cond_false]; rw [pick_ite, cond_true, tT_pick]; rfl
      | false =>
        have q := yh_of hb
        have hg := (gR_all (right_ok.1 hr) m (Nat.le_refl _)).ok
        simp only [cond_false, Bool.not_false, cond_true]
        rw [pick_ite, cond_false]
        unfold inT insM
        rw [gP_R hr, ins_lk hg q false m (Nat.le_refl _), ins_lk hg q true m (Nat.le_refl _), pick_ite, decide_eq_true (Nat.le_refl m), cond_true]
  · cases he

/-! ### Next -/
def spFWy (F : Nat → (Nat → Nat → Q) → Int → Int → T V) : List V → T V
  | [.q (.lst [.int .i64, .int .i64, .bool, .bool] m f), .q (.c (.int .i64 w)), .q (.c (.int .i64 y))] => F m f w y
  | _ => .bad
abbrev tupN (a : Int) (b : Bool) (c : Int) : V := .tup [V.i a, V.b b, V.i c]
noncomputable abbrev fNext.s := spFWy fun m f w y => .leaf (tupN (bif rightF m f w then (rEb (gR f w m) y m).1 else 0) (bif rightF m f w then (rEb (gR f w m) y m).2 else false) (codF m f w))
theorem fNext.eq (m : Nat) (f : Nat → Nat → Q) (w y : Int) :
    funV Tryd.prog ΓT [] Tryd.f14 (cod Tryd.f14) [lstF m f, V.i w, V.i y] =
      .ite (rightF m f w) (.ite (dPl m f w) (.ite false (tT nilE (tupN 0 false 110)) (.leaf (tupN (bif eB (gP f w m) y m then eS m (gP f w m) y m else 0) (eB (gP f w m) y m) 0))) .bad)
        (.ite true (tT errFV (tupN 0 false 110)) .bad) := by kernel_rfl
theorem fNext.ok : SpecOK Tryd.prog 14 fNext.s := by
  refine specOK_of_body ΓT.ok (LamOK.nil _ _) Tryd.func14 (isBody _ (by kernel_rfl)) (by kernel_rfl) fun args r he => ?_
  unfold fNext.s spFWy at he
  split at he
  · rename_i m f w y
    refine (congrArg T.pick (fNext.eq m f w y)).trans ?_
    rw [← he, pick_ite]
    unfold codF
    cases hr : rightF m f w with
    | false => simp only [cond_false, hr]; rw [pick_ite, cond_true, tT_pick]; rfl
    | true =>
      simp only [cond_true, hr]
      rw [pick_ite, dPl_true hr, cond_true, pick_ite, cond_false, gP_R hr]
      obtain ⟨e1, e2⟩ := nextY_eq (g := gR f w m) (n := m) y
      unfold nextY at e1
      rw [e1, e2]
  · cases he

/-! ### the document's -/
noncomputable abbrev ΓRt : Gam := [(22, rRight.s), (29, rplace.s), (27, rsize.s), (28, rinsets.s), (31, rends.s)]
theorem ΓRt.ok : GOK Tryd.prog ΓRt := .cons rRight.ok (.cons rplace.ok (.cons rsize.ok (.cons rinsets.ok (.cons rends.ok (GOK.nil _)))))
noncomputable abbrev dRp (m : Nat) (f : Nat → Nat → Q) (w : Int) : Bool := @decide (allRp m f w) (Classical.propDecidable _)
theorem dRp_true {m : Nat} {f : Nat → Nat → Q} {w : Int} (h : rightF m f w = true) : dRp m f w = true := @decide_eq_true _ (Classical.propDecidable _) (all_rp (right_ok.1 h))

theorem rPlace.eq (m : Nat) (f : Nat → Nat → Q) (w : Int) :
    funV Tryd.prog ΓRt [] Tryd.f18 (cod Tryd.f18) [lstF m f, V.i w] =
      .ite (!(rightS m f w)) (.leaf (.tup [.q (.c (.slice none 0 0)), V.i 110])) (.ite (dRp m f w) (.leaf (.tup [lst4 m (gR f w m), V.i 0])) .bad) := by kernel_rfl
theorem rPlace.ok : SpecOK Tryd.prog 18 fPlace.s := by
  have h0 : SpecOK Tryd.prog 18 (spFW fun m f w => .ite (rightF m f w) (.leaf (.tup [lst4 m (gR f w m), V.i 0])) (.leaf (.tup [.q (.c (.slice none 0 0)), V.i 110]))) := by
    refine okFW ΓRt.ok Tryd.func18 (by kernel_rfl) (by kernel_rfl) fun m f w v hb hv => ?_
    refine ⟨[], LamOK.nil _ _, ?_⟩
    rw [rPlace.eq, ← hv, pick_ite, pick_ite, ← right_eq]
    cases h : rightF m f w with
    | false => rfl
    | true => simp only [Bool.not_true, cond_false, cond_true]; rw [pick_ite, dRp_true h, cond_true]; rfl
  refine h0.res fun args r hb he => ?_
  unfold fPlace.s spFW at he
  split at he
  · rename_i m f w
    simp only [T.pick, Option.some.injEq] at he
    subst he
    cases h : rightF m f w with
    | true =>
      refine ⟨.tup [lst4 m (gR f w m), V.i 0], by simp only [spFW, pick_ite, h, cond_true]; rfl, fun S w' v hd => ?_⟩
      simp only [plN, codF, h, cond_true]; exact hd
    | false =>
      refine ⟨.tup [.q (.c (.slice none 0 0)), V.i 110], by simp only [spFW, pick_ite, h, cond_false]; rfl, fun S w' v hd => ?_⟩
      simp only [plN, codF, h, cond_false]
      cases hd with
      | tup _ vs hl =>
        cases hl with
        | cons _ _ _ _ h1 hl => exact .tup _ _ (.cons _ _ _ _ (den_nil0 rfl h1) hl)
  · cases he

end Go.Proofs.YtcekbimohggnoaaDoor
