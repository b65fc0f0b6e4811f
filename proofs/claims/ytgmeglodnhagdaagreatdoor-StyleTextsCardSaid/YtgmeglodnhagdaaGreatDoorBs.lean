/- What all texts share. -/
import Derived.Test.YtgmeglodnhagdaaGreatDoorGw
import Derived.Test.YtgmeglodnhagdaaGreatDoorSxZn
import Derived.Test.YtgmeglodnhagdaaGreatDoorSxVm
import Derived.Test.YtgmeglodnhagdaaGreatDoorProg
import Derived.KernelRfl
namespace Go.Proofs.YtgmeglodnhagdaaGreatDoor
open Go Go.SX Go.Proofs
set_option maxRecDepth 100000
set_option linter.unusedVariables false
set_option linter.unusedSectionVars false
set_option linter.unusedSimpArgs false

abbrev cod (fn : Func) : Code := fn.body.getD .skip
theorem isBody (fn : Func) (h : fn.body.isSome = true) : fn.body = some (cod fn) := by
  unfold cod; cases hb : fn.body with
  | none => simp [hb] at h
  | some c => rfl

abbrev w64 (n : Int) : Int := IntKind.i64.wrap n
def mx2 (a b : Int) : Int := if b > a then b else a
def mn2 (a b : Int) : Int := if b < a then b else a

noncomputable abbrev loopAt (fn : Func) (p : List Nat) : Code := (match codeAt (cod fn) p with
  | some (.loop b) => b
  | _ => .skip)
noncomputable abbrev rfAt (fn : Func) (p : List Nat) : Code × Code := (match codeAt (cod fn) p with
  | some (.rangeFunc _ _ a b) => (a, b)
  | _ => (.skip, .skip))
abbrev gz (g : Nat → Nat → Q) : Nat → Nat → Q := fun j => g ((0 : Int).toNat + j)
abbrev nilE : V := .q (.c .nilIface)
abbrev rows (l : List (List Q)) : Nat → Nat → Q := fun i j => (l.getD i []).getD j default
theorem w64_id {n : Int} (h1 : -9223372036854775808 ≤ n) (h2 : n ≤ 9223372036854775807) : w64 n = n := by
  simp only [w64, IntKind.wrap, IntKind.bits, IntKind.signed]
  simp
  split <;> omega

theorem w64_suc {i n : Nat} (h : i < n) (hn : n ≤ 9223372036854775807) : w64 ((i : Int) + 1) = ((i + 1 : Nat) : Int) := by
  rw [w64_id (by omega) (by omega)]; omega

theorem c_lt {i n : Nat} (h : i < n) : decide ((i : Int) < n) = true := by simp; omega
theorem c_ge {i n : Nat} (h : n ≤ i) : decide ((i : Int) < n) = false := by simp; omega
theorem c_in {i n : Nat} (h : i < n) : decide (0 ≤ (i : Int) ∧ (i : Int) < n) = true := by simp; omega

theorem mn2_eq (a b : Int) : mn2 a b = min a b := by unfold mn2; split <;> omega
theorem mx2_eq (a b : Int) : mx2 a b = max a b := by unfold mx2; split <;> omega

abbrev inI (i n : Nat) : Bool := decide (0 ≤ (i : Int) ∧ (i : Int) < n)
/-- One truth behind the other. -/
def andN : List Bool → Bool
  | [] => true
  | [b] => b
  | b :: l => bif b then andN l else false
theorem gz_id (g : Nat → Nat → Q) : gz g = g := by
  funext i j
  show g ((0 : Int).toNat + i) j = g i j
  rw [show (0 : Int).toNat + i = i by simp]
theorem cond_and (p q : Prop) [Decidable p] [Decidable q] : (bif decide p then decide q else false) = decide (p ∧ q) := by
  by_cases h : p <;> simp [h]
theorem cond_or (p q : Prop) [Decidable p] [Decidable q] : (bif decide p then true else decide q) = decide (p ∨ q) := by
  by_cases h : p <;> simp [h]

end Go.Proofs.YtgmeglodnhagdaaGreatDoor
