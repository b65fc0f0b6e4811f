/- The functions of rect and of the document's answer, one by one: Meet, hulls, Within. -/
import Derived.Test.YtcekbimohggnoaaDoorRcC
namespace Go.Proofs.YtcekbimohggnoaaDoor
open Go Go.SX Go.Proofs
set_option maxRecDepth 100000
variable [EA]
set_option linter.unusedVariables false
set_option linter.unusedSectionVars false
set_option linter.unusedSimpArgs false

abbrev told.s := AsRect.told.s
abbrev qs4 (r : Rc) : List Q := [.c (.int .i64 r.x), .c (.int .i64 r.y), .c (.int .i64 r.w), .c (.int .i64 r.h)]
abbrev rows (l : List (List Q)) : Nat → Nat → Q := fun i j => (l.getD i []).getD j default
abbrev one1 (a : Rc) : Nat → Nat → Q := rows [qs4 a]
abbrev two2 (a b : Rc) : Nat → Nat → Q := rows [qs4 a, qs4 b]
abbrev z0 : Rc := ⟨0, 0, 0, 0⟩
/-- The one or the other. -/
abbrev bR (b : Bool) (r r' : Rc) : Rc := ⟨bif b then r.x else r'.x, bif b then r.y else r'.y, bif b then r.w else r'.w, bif b then r.h else r'.h⟩
abbrev eqR (a b : Rc) : Bool := bif a.x == b.x then (bif a.y == b.y then (bif a.w == b.w then (bif a.h == b.h then true else false) else false) else false) else false
abbrev rx (r : Rc) (e : Int) : V := .tup [rv r, V.i e]

theorem allR_one (a : Rc) : allR 1 (one1 a) = rightR a := by
  show (rightR a && true) = rightR a
  simp
theorem allR_two (a b : Rc) : allR 2 (two2 a b) = bif rightR a then rightR b else false := by
  show (rightR a && (rightR b && true)) = _
  cases rightR a <;> simp

def okA (a b : Rc) : Bool := bif rightR a then rightR b else false
abbrev ΓD : Gam := [(34, rect_areRight.s), (53, told.s), (44, rect_meet.s), (42, rect_Right.s), (51, rect_ends.s)]
theorem ΓD.ok : GOK Tryd.prog ΓD := .cons rect_areRight.ok (.cons AsRect.told.ok (.cons rect_meet.ok (.cons rect_Right.ok (.cons rect_ends.ok (GOK.nil _)))))

abbrev rect_Meet.s := spRR fun a b => .leaf (rx (bR (okA a b) (meetR a b) z0) (bif okA a b then 0 else 20))
theorem rect_Meet.ok : SpecOK Tryd.prog 49 rect_Meet.s := by
  refine okRR (G := fun a b => .ite (allR 2 (two2 a b)) (.ite false (.leaf (rx z0 0)) (.leaf (rx (meetR a b) 0))) (.ite true (.leaf (rx z0 20)) (.leaf (rx (meetR a b) 0)))) (Γ := ΓD) ΓD.ok Tryd.func49 (by kernel_rfl) (by kernel_rfl) (fun a b => by kernel_rfl) fun a b v h => ?_
  rw [allR_two, ← h]
  unfold okA bR
  cases rightR a <;> cases rightR b <;> rfl

abbrev m1 (n : Nat) : Nat := (n : Int).toNat - (1 : Int).toNat
abbrev gs (g : Nat → Nat → Q) : Nat → Nat → Q := fun j => g ((1 : Int).toNat + j)
/-- The least left and upper edges, the greatest right and lower ones, of the first and of i more. -/
def stH (c r : Rc) : Rc := ⟨mn2 c.x r.x, mn2 c.y r.y, mx2 c.w (w64 (r.x + r.w)), mx2 c.h (w64 (r.y + r.h))⟩
def fstH (r : Rc) : Rc := ⟨r.x, r.y, w64 (r.x + r.w), w64 (r.y + r.h)⟩
def hS (g : Nat → Nat → Q) : Nat → Rc
  | 0 => fstH (gRc g 0)
  | i + 1 => stH (hS g i) (gRc (gs g) i)
abbrev hR (c : Rc) : Rc := ⟨c.x, c.y, w64 (c.w - c.x), w64 (c.h - c.y)⟩

abbrev celR (r : Rc) : Option Ob := some (.cells 39 [V.i r.x, V.i r.y, V.i r.w, V.i r.h])
abbrev loH (g : Nat → Nat → Q) (c : Rc) : List (Option Ob) := [celR z0, none, none, none, none, none, none, none, celR ⟨c.x, c.y, (gRc g 0).w, (gRc g 0).h⟩, some (.cells 96 [V.i c.w, V.i c.h])]
def SH (n : Nat) (g : Nat → Nat → Q) (c : Rc) (i : Nat) : St :=
  mkS 75 [(2, .ptr 0 0), (5, .ptr 8 0), (6, .ptr 9 0), (30, lst4 (m1 n) (gs g)), (31, V.i (m1 n)), (32, V.i i)] (loH g c) [] false [] 0
def FH (g : Nat → Nat → Q) (c : Rc) : Ex × St := (.exit 0, mkS 75 [(2, .ptr 0 0), (5, .ptr 8 0), (6, .ptr 9 0)] (loH g c) [] false [] 0)
noncomputable abbrev bodyH : Code := loopAt Tryd.f41 [0, 1, 0, 1, 1, 1]
def liveH : Ex → List Nat | .normal => [2, 5, 6, 30, 31, 32] | _ => [2, 5, 6]

theorem stepH (n : Nat) (g : Nat → Nat → Q) (c : Rc) (i : Nat) :
    (sx Tryd.prog ΓD [] [0, 0, 1, 0, 1, 1, 1] bodyH (SH n g c i)).bind (fun x => T.leaf (x.1, deadS [] (canS 75 10 (liveH x.1) x.2), chkM 75 10 x.2))
     = .ite (decide ((i : Int) < (m1 n : Nat)))
        (.ite (decide (0 ≤ (i : Int) ∧ (i : Int) < (m1 n : Nat)))
          (.leaf (.normal, mkS 75 [(2, .ptr 0 0), (5, .ptr 8 0), (6, .ptr 9 0), (30, lst4 (m1 n) (gs g)), (31, V.i (m1 n)), (32, V.i (w64 (i + 1)))] (loH g (stH c (gRc (gs g) i))) [] false [] 0, true)) .bad)
        (.leaf ((FH g c).1, (FH g c).2, true)) := by kernel_rfl

theorem loopH (n : Nat) (g : Nat → Nat → Q) (hn : n ≤ 9223372036854775807) : ∀ x, (T.leaf (FH g (hS g (m1 n)))).pick = some x → SemC Tryd.prog (.loop bodyH) (SH n g (fstH (gRc g 0)) 0) x := by
  refine loop_tree ΓD.ok (root := cod Tryd.f41) (p := [0, 1, 0, 1, 1, 1]) (by kernel_rfl) (fun i => i ≤ m1 n) (fun i => SH n g (hS g i) i) (fun i => m1 n - i) (.leaf (FH g (hS g (m1 n)))) 75 10 liveH (fun _ => []) (fun i hi => ?_) 0 (Nat.zero_le _)
  have e := stepH n g (hS g i) i
  rcases Nat.lt_or_ge i (m1 n) with hlt | hge
  · exact ⟨[], .normal, SH n g (hS g (i + 1)) (i + 1), LamOK.nil _ _, by rw [e, c_lt hlt, c_in hlt, w64_suc hlt (by simp only [m1]; omega)]; rfl, .inl ⟨rfl, i + 1, hlt, by omega, rfl⟩⟩
  · exact ⟨[], .exit 0, _, LamOK.nil _ _, by rw [e, c_ge hge]; rfl, .inr ⟨by simp, by rw [show m1 n = i by omega]; rfl⟩⟩

abbrev hullR (n : Nat) (g : Nat → Nat → Q) : Rc := hR (hS g (m1 n))
def hOK (n : Nat) (g : Nat → Nat → Q) : Bool := bif allR n g then !((n : Int) == 0) else false
abbrev rect_hull.s := spL fun n g => .ite (hOK n g) (.leaf (.tup [rv (hullR n g), nilE])) (.leaf (.tup [rv z0, errV 20]))
noncomputable abbrev inH (n : Nat) (g : Nat → Nat → Q) : T V :=
  .ite (decide ((0 : Int) ≤ 0 ∧ (0 : Int) < (n : Int))) (.ite (decide ((0 : Int) ≤ 0 ∧ (0 : Int) < (n : Int))) (.ite (decide ((0 : Int) ≤ 1 ∧ (1 : Int) ≤ (n : Int) ∧ (n : Int) ≤ (n : Int)))
    (.ite (@decide (SH n g (fstH (gRc g 0)) 0 = SH n g (fstH (gRc g 0)) 0) (Classical.propDecidable _)) (.leaf (.tup [rv (hullR n g), nilE])) .bad) .bad) .bad) .bad
theorem rect_hull.ok : SpecOK Tryd.prog 41 rect_hull.s := by
  refine okL (Γ := ΓD) ΓD.ok Tryd.func41 (by kernel_rfl) (by kernel_rfl) fun n g v hb hv => ?_
  refine ⟨[([0, 1, 0, 1, 1, 1], orc false 75 10 [2, 5, 6, 30, 31, 32] (SH n g (fstH (gRc g 0)) 0) (.leaf (FH g (hS g (m1 n)))))], LamOK.orc (c := .loop bodyH) (by kernel_rfl) (loopH n g hb.1) (LamOK.nil _ _), ?_⟩
  have e : funV Tryd.prog ΓD [([0, 1, 0, 1, 1, 1], orc false 75 10 [2, 5, 6, 30, 31, 32] (SH n g (fstH (gRc g 0)) 0) (.leaf (FH g (hS g (m1 n)))))] Tryd.f41 (cod Tryd.f41) [lst4 n g] =
      .ite (allR n g) (.ite (bif false then true else ((n : Int) == 0)) (.leaf (.tup [rv z0, errV 20])) (inH n g))
        (.ite (bif true then true else ((n : Int) == 0)) (.leaf (.tup [rv z0, errV 20])) (inH n g)) := by kernel_rfl
  rw [e, ← hv]
  unfold hOK
  cases h1 : allR n g with
  | false => rfl
  | true =>
    cases h2 : ((n : Int) == 0) with
    | true => rfl
    | false =>
      have h3 : n ≠ 0 := fun h => by subst h; simp at h2
      have c1 : decide ((0 : Int) ≤ 0 ∧ (0 : Int) < (n : Int)) = true := by simp; omega
      have c2 : decide ((0 : Int) ≤ 1 ∧ (1 : Int) ≤ (n : Int) ∧ (n : Int) ≤ (n : Int)) = true := by simp; omega
      simp only [pick_ite, pick_leaf, cond_true, cond_false, decide_true, inH, c1, c2, Bool.not_false]

abbrev ΓF : Gam := (41, rect_hull.s) :: ΓD
theorem ΓF.ok : GOK Tryd.prog ΓF := .cons rect_hull.ok ΓD.ok
def inB (a b : Rc) : Bool := bif hOK 2 (two2 a b) then eqR (hullR 2 (two2 a b)) b else false
abbrev rect_Within.s := spRR fun a b => .leaf (V.b (inB a b))
theorem rect_Within.ok : SpecOK Tryd.prog 33 rect_Within.s := by
  refine okRR (G := fun a b => .ite (hOK 2 (two2 a b)) (.leaf (V.b (bif true then eqR (hullR 2 (two2 a b)) b else false))) (.leaf (V.b (bif false then eqR z0 b else false)))) (Γ := ΓF) ΓF.ok Tryd.func33 (by kernel_rfl) (by kernel_rfl) (fun a b => by kernel_rfl) fun a b v h => ?_
  rw [← h]
  unfold inB
  cases hOK 2 (two2 a b) <;> rfl
end Go.Proofs.YtcekbimohggnoaaDoor
