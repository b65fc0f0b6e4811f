/- The functions of rect, one by one: those without loops ahead. -/
import Derived.Test.YtcekbimohggnoaaDoorToldRect
import Derived.Test.YtcekbimohggnoaaDoorSxZ
import Derived.Test.YtcekbimohggnoaaDoorProg
import Derived.KernelRfl
namespace Go.Proofs.YtcekbimohggnoaaDoor
open Go Go.SX Go.Proofs
set_option maxRecDepth 100000
variable [EA]
set_option linter.unusedVariables false
set_option linter.unusedSectionVars false
set_option linter.unusedSimpArgs false

abbrev cod (fn : Func) : Code := fn.body.getD .skip
theorem isBody (fn : Func) (h : fn.body.isSome = true) : fn.body = some (cod fn) := by
  unfold cod; cases hb : fn.body with
  | none => simp [hb] at h
  | some c => rfl

/-- A rectangle. -/
structure Rc where
  x : Int
  y : Int
  w : Int
  h : Int

abbrev rv (r : Rc) : V := .agg [V.i r.x, V.i r.y, V.i r.w, V.i r.h]
abbrev w64 (n : Int) : Int := IntKind.i64.wrap n
def mx2 (a b : Int) : Int := if b > a then b else a
def mn2 (a b : Int) : Int := if b < a then b else a

def isLen (a : Int) : Bool := bif decide (a ≥ -1073741824) then decide (a ≤ 1073741824) else false

def unit_Right.s : List V → T V
  | [.q (.c (.int .i64 a))] => .leaf (V.b (isLen a))
  | _ => .bad
theorem unit_Right.ok : SpecOK Tryd.prog 54 unit_Right.s := by
  refine specOK_of_body (GOK.nil _) (LamOK.nil _ _) Tryd.func54 (isBody _ (by kernel_rfl)) (by kernel_rfl) fun args r h => ?_
  unfold unit_Right.s at h
  split at h
  · rename_i a
    have e : funV Tryd.prog [] [] Tryd.f54 (cod Tryd.f54) [V.i a] = .leaf (V.b (isLen a)) := by kernel_rfl
    rw [e]; exact h
  · cases h

def isSide (a s : Int) : Bool := bif isLen a then (bif decide (s ≥ 0) then (bif decide (s ≤ 2147483648) then isLen (w64 (a + s)) else false) else false) else false
def rect_isSide.s : List V → T V
  | [.q (.c (.int .i64 a)), .q (.c (.int .i64 s))] => .leaf (V.b (isSide a s))
  | _ => .bad
theorem rect_isSide.ok : SpecOK Tryd.prog 52 rect_isSide.s := by
  refine specOK_of_body (.cons unit_Right.ok (GOK.nil _)) (LamOK.nil _ _) Tryd.func52 (isBody _ (by kernel_rfl)) (by kernel_rfl) fun args r h => ?_
  unfold rect_isSide.s at h
  split at h
  · rename_i a s
    have e : funV Tryd.prog [(54, unit_Right.s)] [] Tryd.f52 (cod Tryd.f52) [V.i a, V.i s] = .leaf (V.b (isSide a s)) := by kernel_rfl
    rw [e]; exact h
  · cases h

/-- A function of one rectangle. -/
def spR (F : Rc → T V) : List V → T V
  | [.agg [.q (.c (.int .i64 x)), .q (.c (.int .i64 y)), .q (.c (.int .i64 w)), .q (.c (.int .i64 h))]] => F ⟨x, y, w, h⟩
  | _ => .bad
def spRR (F : Rc → Rc → T V) : List V → T V
  | [.agg [.q (.c (.int .i64 x)), .q (.c (.int .i64 y)), .q (.c (.int .i64 w)), .q (.c (.int .i64 h))], .agg [.q (.c (.int .i64 x')), .q (.c (.int .i64 y')), .q (.c (.int .i64 w')), .q (.c (.int .i64 h'))]] => F ⟨x, y, w, h⟩ ⟨x', y', w', h'⟩
  | _ => .bad
def spRII (F : Rc → Int → Int → T V) : List V → T V
  | [.agg [.q (.c (.int .i64 x)), .q (.c (.int .i64 y)), .q (.c (.int .i64 w)), .q (.c (.int .i64 h))], .q (.c (.int .i64 a)), .q (.c (.int .i64 b))] => F ⟨x, y, w, h⟩ a b
  | _ => .bad
abbrev ks4 : List K := [.int .i64, .int .i64, .int .i64, .int .i64]
/-- A function of a list of rectangles. -/
def spL (F : Nat → (Nat → Nat → Q) → T V) : List V → T V
  | [.q (.lst [.int .i64, .int .i64, .int .i64, .int .i64] n g)] => F n g
  | [.q (.c (.slice none 0 0))] => F 0 (fun _ _ => default)
  | _ => .bad

section
variable {P : Program} [GW] {Γ : Gam} {f : Nat} {fn : Func}

theorem okR {F : Rc → T V} {G : Rc → T V} (hΓ : GOK P Γ) (hf : P.funcs[f]? = some fn) (hb : fn.body.isSome = true) (hent : entersB P f = true)
    (h : ∀ r, funV P Γ [] fn (cod fn) [rv r] = G r) (hG : ∀ r v, (F r).pick = some v → (G r).pick = some v) : SpecOK P f (spR F) := by
  refine specOK_of_body hΓ (LamOK.nil _ _) hf (isBody _ hb) hent fun args r he => ?_
  unfold spR at he
  split at he
  · rename_i x y w hh
    have := h ⟨x, y, w, hh⟩
    rw [this]; exact hG _ _ he
  · cases he

theorem okRR {F : Rc → Rc → T V} {G : Rc → Rc → T V} (hΓ : GOK P Γ) (hf : P.funcs[f]? = some fn) (hb : fn.body.isSome = true) (hent : entersB P f = true)
    (h : ∀ r r', funV P Γ [] fn (cod fn) [rv r, rv r'] = G r r') (hG : ∀ r r' v, (F r r').pick = some v → (G r r').pick = some v) : SpecOK P f (spRR F) := by
  refine specOK_of_body hΓ (LamOK.nil _ _) hf (isBody _ hb) hent fun args r he => ?_
  unfold spRR at he
  split at he
  · rename_i x y w hh x' y' w' hh'
    have := h ⟨x, y, w, hh⟩ ⟨x', y', w', hh'⟩
    rw [this]; exact hG _ _ _ he
  · cases he

theorem okRII {F : Rc → Int → Int → T V} {G : Rc → Int → Int → T V} (hΓ : GOK P Γ) (hf : P.funcs[f]? = some fn) (hb : fn.body.isSome = true) (hent : entersB P f = true)
    (h : ∀ r a b, funV P Γ [] fn (cod fn) [rv r, V.i a, V.i b] = G r a b) (hG : ∀ r a b v, (F r a b).pick = some v → (G r a b).pick = some v) : SpecOK P f (spRII F) := by
  refine specOK_of_body hΓ (LamOK.nil _ _) hf (isBody _ hb) hent fun args r he => ?_
  unfold spRII at he
  split at he
  · rename_i x y w hh a b
    have := h ⟨x, y, w, hh⟩ a b
    rw [this]; exact hG _ _ _ _ he
  · cases he

theorem okL {F : Nat → (Nat → Nat → Q) → T V} (hΓ : GOK P Γ) (hf : P.funcs[f]? = some fn) (hb : fn.body.isSome = true) (hent : entersB P f = true)
    (h : ∀ n g v, QB (.lst ks4 n g) → (F n g).pick = some v → ∃ Λ, LamOK P (cod fn) Λ ∧ (funV P Γ Λ fn (cod fn) [.q (.lst ks4 n g)]).pick = some v) : SpecOK P f (spL F) := by
  refine specOK_of_bodyW hΓ hf (isBody _ hb) hent fun args r hb he => ?_
  unfold spL at he
  split at he
  · rename_i n g
    obtain ⟨Λ, h1, h2⟩ := h n g r (hb (.q (.lst ks4 n g)) (by simp)) he
    exact ⟨_, Λ, fun _ _ _ x => x, h1, h2⟩
  · obtain ⟨Λ, h1, h2⟩ := h 0 _ r ⟨Nat.zero_le _, fun i j hi => absurd hi (Nat.not_lt_zero _)⟩ he
    exact ⟨_, Λ, .nilL .nil, h1, h2⟩
  · cases he
end

def rightR (r : Rc) : Bool := bif isSide r.x r.w then isSide r.y r.h else false
abbrev rect_Right.s := spR fun r => .leaf (V.b (rightR r))
theorem rect_Right.ok : SpecOK Tryd.prog 42 rect_Right.s :=
  okR (.cons rect_isSide.ok (GOK.nil _)) Tryd.func42 (by kernel_rfl) (by kernel_rfl) (fun r => by kernel_rfl) (fun _ _ h => h)

abbrev rect_ends.s := spR fun r => .leaf (.agg [V.i (w64 (r.x + r.w)), V.i (w64 (r.y + r.h))])
theorem rect_ends.ok : SpecOK Tryd.prog 51 rect_ends.s :=
  okR (GOK.nil _) Tryd.func51 (by kernel_rfl) (by kernel_rfl) (fun r => by kernel_rfl) (fun _ _ h => h)

abbrev mW (a b : Rc) : Int := w64 (mn2 (w64 (a.x + a.w)) (w64 (b.x + b.w)) - mx2 a.x b.x)
abbrev mH (a b : Rc) : Int := w64 (mn2 (w64 (a.y + a.h)) (w64 (b.y + b.h)) - mx2 a.y b.y)
/-- Where two meet. -/
def mB (a b : Rc) : Bool := bif decide (mW a b > 0) then decide (mH a b > 0) else false
abbrev meetR (a b : Rc) : Rc := ⟨mx2 a.x b.x, mx2 a.y b.y, bif mB a b then mW a b else 0, bif mB a b then mH a b else 0⟩

def spSR (F : Rc → Rc → T V) : List V → T V
  | [.agg [.q (.c (.int .i64 x)), .q (.c (.int .i64 y)), .q (.c (.int .i64 w)), .q (.c (.int .i64 h)), .q l], .agg [.q (.c (.int .i64 x')), .q (.c (.int .i64 y')), .q (.c (.int .i64 w')), .q (.c (.int .i64 h'))]] => F ⟨x, y, w, h⟩ ⟨x', y', w', h'⟩
  | _ => .bad
abbrev rect_meet.s := spSR fun a b => .leaf (rv (meetR a b))
theorem rect_meet.ok : SpecOK Tryd.prog 44 rect_meet.s := by
  refine specOK_of_body (.cons rect_ends.ok (GOK.nil _)) (LamOK.nil _ _) Tryd.func44 (isBody _ (by kernel_rfl)) (by kernel_rfl) fun args r h => ?_
  unfold rect_meet.s spSR at h
  split at h
  · rename_i x y w hh l x' y' w' hh'
    have e : ∀ a b : Rc, funV Tryd.prog [(51, rect_ends.s)] [] Tryd.f44 (cod Tryd.f44) [.agg [V.i a.x, V.i a.y, V.i a.w, V.i a.h, .q l], rv b] =
        .ite (mB a b) (.leaf (rv ⟨mx2 a.x b.x, mx2 a.y b.y, mW a b, mH a b⟩)) (.leaf (rv ⟨mx2 a.x b.x, mx2 a.y b.y, 0, 0⟩)) := fun a b => by kernel_rfl
    have := e ⟨x, y, w, hh⟩ ⟨x', y', w', hh'⟩
    rw [this, ← h]
    simp only [T.pick, meetR]
    cases mB ⟨x, y, w, hh⟩ ⟨x', y', w', hh'⟩ <;> rfl
  · cases h

/-- A rectangle, and others beside it: what it meets. -/
def rect_meets.s : List V → T V
  | [.agg [.q (.c (.int .i64 x)), .q (.c (.int .i64 y)), .q (.c (.int .i64 w)), .q (.c (.int .i64 h)), .q (.lst [.int .i64, .int .i64, .int .i64, .int .i64] n g)]] =>
      .leaf (.clo 43 [.q (.sp 5 fun j => [Q.c (.int .i64 x), .c (.int .i64 y), .c (.int .i64 w), .c (.int .i64 h), .lst ks4 n g].getD j default)])
  | _ => .bad
theorem rect_meets.ok : SpecOK Tryd.prog 35 rect_meets.s := by
  refine specOK_of_body (GOK.nil _) (LamOK.nil _ _) Tryd.func35 (isBody _ (by kernel_rfl)) (by kernel_rfl) fun args r h => ?_
  unfold rect_meets.s at h
  split at h
  · rename_i x y w hh n g
    have e : funV Tryd.prog [] [] Tryd.f35 (cod Tryd.f35) [.agg [V.i x, V.i y, V.i w, V.i hh, .q (.lst ks4 n g)]] = .leaf (.clo 43 [.q (.sp 5 fun j => [Q.c (.int .i64 x), .c (.int .i64 y), .c (.int .i64 w), .c (.int .i64 hh), .lst ks4 n g].getD j default)]) := by kernel_rfl
    rw [e]; exact h
  · cases h

end Go.Proofs.YtcekbimohggnoaaDoor
