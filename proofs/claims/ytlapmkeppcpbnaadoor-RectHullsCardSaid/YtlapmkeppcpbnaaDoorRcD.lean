/- The functions of rect and of the document's answer, one by one: those without loops. -/
import Derived.Test.YtlapmkeppcpbnaaDoorRcC
namespace Go.Proofs.YtlapmkeppcpbnaaDoor
open Go Go.SX Go.Proofs
set_option maxRecDepth 100000
set_option linter.unusedVariables false

abbrev told.s := AsRect.told.s
abbrev qs4 (r : Rc) : List Q := [.c (.int .i64 r.x), .c (.int .i64 r.y), .c (.int .i64 r.w), .c (.int .i64 r.h)]
abbrev rows (l : List (List Q)) : Nat → Nat → Q := fun i j => (l.getD i []).getD j default
abbrev one1 (a : Rc) : Nat → Nat → Q := rows [qs4 a]
abbrev two2 (a b : Rc) : Nat → Nat → Q := rows [qs4 a, qs4 b]
abbrev z0 : Rc := ⟨0, 0, 0, 0⟩
/-- The one or the other. -/
abbrev bR (b : Bool) (r r' : Rc) : Rc := ⟨bif b then r.x else r'.x, bif b then r.y else r'.y, bif b then r.w else r'.w, bif b then r.h else r'.h⟩
abbrev eqR (a b : Rc) : Bool := bif a.x == b.x then (bif a.y == b.y then (bif a.w == b.w then (bif a.h == b.h then true else false) else false) else false) else false
abbrev rx (r : Rc) (e : Int) : V := .tup [rv r, V.i e]

theorem allR_one (a : Rc) : allR 1 (one1 a) = rightR a := by
  show (rightR a && true) = rightR a
  simp
theorem allR_two (a b : Rc) : allR 2 (two2 a b) = bif rightR a then rightR b else false := by
  show (rightR a && (rightR b && true)) = _
  cases rightR a <;> simp

def okA (a b : Rc) : Bool := bif rightR a then rightR b else false
abbrev ΓD : Gam := [(26, rect_areRight.s), (27, told.s), (28, rect_meet.s), (19, rect_Right.s), (31, rect_ends.s)]
theorem ΓD.ok : GOK Tryd.prog ΓD := .cons rect_areRight.ok (.cons AsRect.told.ok (.cons rect_meet.ok (.cons rect_Right.ok (.cons rect_ends.ok (GOK.nil _)))))

abbrev rect_Meet.s := spRR fun a b => .leaf (rx (bR (okA a b) (meetR a b) z0) (bif okA a b then 0 else 20))
theorem rect_Meet.ok : SpecOK Tryd.prog 12 rect_Meet.s := by
  refine okRR (G := fun a b => .ite (allR 2 (two2 a b)) (.ite false (.leaf (rx z0 0)) (.leaf (rx (meetR a b) 0))) (.ite true (.leaf (rx z0 20)) (.leaf (rx (meetR a b) 0)))) (Γ := ΓD) ΓD.ok Tryd.func12 (by kernel_rfl) (by kernel_rfl) (fun a b => by kernel_rfl) fun a b v h => ?_
  rw [allR_two, ← h]
  unfold okA bR
  cases rightR a <;> cases rightR b <;> rfl

abbrev moveO (r : Rc) (x y : Int) : Rc := ⟨w64 (r.x + x), w64 (r.y + y), r.w, r.h⟩
def overB (r : Rc) (x y : Int) : Bool := bif decide (mx2 x y > 4294967296) then true else (bif decide (mn2 x y < -4294967296) then true else !rightR (moveO r x y))
def mvOK (r : Rc) (x y : Int) : Bool := bif rightR r then !overB r x y else false
abbrev rect_Move.s := spRII fun r x y => .leaf (rx (bR (mvOK r x y) (moveO r x y) z0) (bif rightR r then (bif overB r x y then 10 else 0) else 20))
theorem rect_Move.ok : SpecOK Tryd.prog 16 rect_Move.s := by
  refine okRII (G := fun r x y => .ite (allR 1 (one1 r)) (.ite false (.leaf (rx z0 0)) (.ite (overB r x y) (.leaf (rx z0 10)) (.leaf (rx (moveO r x y) 0)))) (.ite true (.leaf (rx z0 20)) (.ite (overB r x y) (.leaf (rx z0 10)) (.leaf (rx (moveO r x y) 0))))) (Γ := ΓD) ΓD.ok Tryd.func16 (by kernel_rfl) (by kernel_rfl) (fun r x y => by kernel_rfl) fun r x y v h => ?_
  rw [allR_one, ← h]
  unfold mvOK bR
  cases rightR r <;> cases overB r x y <;> rfl

def holdsB (r : Rc) (x y : Int) : Bool := bif rightR r then (bif decide (x ≥ r.x) then (bif decide (x < w64 (r.x + r.w)) then (bif decide (y ≥ r.y) then decide (y < w64 (r.y + r.h)) else false) else false) else false) else false
abbrev rect_Holds.s := spRII fun r x y => .leaf (V.b (holdsB r x y))
theorem rect_Holds.ok : SpecOK Tryd.prog 20 rect_Holds.s :=
  okRII (Γ := ΓD) ΓD.ok Tryd.func20 (by kernel_rfl) (by kernel_rfl) (fun r x y => by kernel_rfl) (fun _ _ _ _ h => h)

/-! ### the document's answer -/
abbrev ref01_Right.s : List V → T V := unit_Right.s
theorem ref01_Right.ok : SpecOK Tryd.prog 37 ref01_Right.s := by
  refine specOK_of_body (GOK.nil _) (LamOK.nil _ _) Tryd.func37 (isBody _ (by kernel_rfl)) (by kernel_rfl) fun args r h => ?_
  unfold ref01_Right.s unit_Right.s at h
  split at h
  · rename_i a
    have e : funV Tryd.prog [] [] Tryd.f37 (cod Tryd.f37) [V.i a] = .leaf (V.b (isLen a)) := by kernel_rfl
    rw [e]; exact h
  · cases h
theorem ref_side.ok : SpecOK Tryd.prog 33 rect_isSide.s := by
  refine specOK_of_body (.cons ref01_Right.ok (GOK.nil _)) (LamOK.nil _ _) Tryd.func33 (isBody _ (by kernel_rfl)) (by kernel_rfl) fun args r h => ?_
  unfold rect_isSide.s at h
  split at h
  · rename_i a s
    have e : funV Tryd.prog [(37, ref01_Right.s)] [] Tryd.f33 (cod Tryd.f33) [V.i a, V.i s] = .leaf (V.b (isSide a s)) := by kernel_rfl
    rw [e]; exact h
  · cases h
theorem ref_Right.ok : SpecOK Tryd.prog 22 rect_Right.s :=
  okR (.cons ref_side.ok (GOK.nil _)) Tryd.func22 (by kernel_rfl) (by kernel_rfl) (fun r => by kernel_rfl) (fun _ _ h => h)
abbrev ΓE : Gam := [(22, rect_Right.s)]
theorem ΓE.ok : GOK Tryd.prog ΓE := .cons ref_Right.ok (GOK.nil _)
theorem ref_Holds.ok : SpecOK Tryd.prog 23 rect_Holds.s :=
  okRII (Γ := ΓE) ΓE.ok Tryd.func23 (by kernel_rfl) (by kernel_rfl) (fun r x y => by kernel_rfl) (fun _ _ _ _ h => h)
def withinB (a b : Rc) : Bool := bif rightR a then (bif rightR b then (bif decide (a.x ≥ b.x) then (bif decide (a.y ≥ b.y) then (bif decide (w64 (a.x + a.w) ≤ w64 (b.x + b.w)) then decide (w64 (a.y + a.h) ≤ w64 (b.y + b.h)) else false) else false) else false) else false) else false
abbrev ref_Within.s := spRR fun a b => .leaf (V.b (withinB a b))
theorem ref_Within.ok : SpecOK Tryd.prog 24 ref_Within.s :=
  okRR (Γ := ΓE) ΓE.ok Tryd.func24 (by kernel_rfl) (by kernel_rfl) (fun a b => by kernel_rfl) (fun _ _ _ h => h)
def noB (a b : Rc) : Bool := bif decide (mW a b ≤ 0) then true else decide (mH a b ≤ 0)
theorem noB_eq (a b : Rc) : noB a b = !mB a b := by
  unfold noB mB
  by_cases h1 : mW a b ≤ 0 <;> by_cases h2 : mH a b ≤ 0 <;> simp [h1, h2] <;> omega
theorem ref_Meet.ok : SpecOK Tryd.prog 13 rect_Meet.s := by
  refine okRR (G := fun a b => .ite (bif !rightR a then true else !rightR b) (.leaf (rx z0 20)) (.ite (noB a b) (.leaf (rx ⟨mx2 a.x b.x, mx2 a.y b.y, 0, 0⟩ 0)) (.leaf (rx ⟨mx2 a.x b.x, mx2 a.y b.y, mW a b, mH a b⟩ 0)))) (Γ := ΓE) ΓE.ok Tryd.func13 (by kernel_rfl) (by kernel_rfl) (fun a b => by kernel_rfl) fun a b v h => ?_
  rw [noB_eq, ← h]
  unfold okA bR meetR
  cases rightR a <;> cases rightR b <;> cases mB a b <;> rfl
def overD (r : Rc) (x y : Int) : Bool := bif decide (x < w64 (-4294967296)) then true else (bif decide (x > 4294967296) then true else (bif decide (y < w64 (-4294967296)) then true else (bif decide (y > 4294967296) then true else !rightR (moveO r x y))))
theorem overD_eq (r : Rc) (x y : Int) : overD r x y = overB r x y := by
  have e : w64 (-4294967296) = -4294967296 := by rfl
  unfold overD overB mx2 mn2
  rw [e]
  by_cases h1 : x < -4294967296 <;> by_cases h2 : x > 4294967296 <;> by_cases h3 : y < -4294967296 <;> by_cases h4 : y > 4294967296 <;> by_cases h5 : y > x <;> by_cases h6 : y < x <;> simp [h1, h2, h3, h4, h5, h6] <;> omega
theorem ref_Move.ok : SpecOK Tryd.prog 17 rect_Move.s := by
  refine okRII (G := fun r x y => .ite (!rightR r) (.leaf (rx z0 20)) (.ite (overD r x y) (.leaf (rx z0 10)) (.leaf (rx (moveO r x y) 0)))) (Γ := ΓE) ΓE.ok Tryd.func17 (by kernel_rfl) (by kernel_rfl) (fun r x y => by kernel_rfl) fun r x y v h => ?_
  rw [overD_eq, ← h]
  unfold mvOK bR
  cases rightR r <;> cases overB r x y <;> rfl
end Go.Proofs.YtlapmkeppcpbnaaDoor
