/- Loops, and contracts, in short. -/
import Derived.Test.YtgmeglodnhagdaaGreatDoorBs
import Derived.Test.YtgmeglodnhagdaaGreatDoorSxW
namespace Go.Proofs.YtgmeglodnhagdaaGreatDoor
open Go Go.SX Go.Proofs
set_option maxRecDepth 100000
set_option linter.unusedVariables false
set_option linter.unusedSectionVars false
set_option linter.unusedSimpArgs false
section
variable [GW] {P : Program} {Γ : Gam} {root : Code}

/-- What a round comes to. -/
abbrev ltree (P : Program) (Γ : Gam) (Λ : Lam) (p : List Nat) (b : Code) (nn k : Nat) (live : Ex → List Nat) (post : Ex → St → St) (s : St) : T (Ex × St × Bool) :=
  (sx P Γ Λ (0 :: p) b s).bind fun x => .leaf (x.1, deadS [] (canS nn k (live x.1) (post x.1 x.2)), chkM nn k (post x.1 x.2))
def poN : Ex → St → St := fun _ s => s
theorem poN_ok (e : Ex) (s : St) : Sub P s (poN e s) := Sub.refl s
/-- What is let go where a loop ends: all from the name k on. -/
def poK (n k : Nat) (live : Ex → List Nat) : Ex → St → St
  | .normal, s => s
  | e, s => canP n k (live e) s
theorem poK_ok (n k : Nat) (live : Ex → List Nat) (e : Ex) (s : St) : Sub P s (poK n k live e s) := by
  unfold poK
  split
  · exact Sub.refl s
  · exact sub_canP _ _ _ _

theorem loop_nat (hΓ : GOK P Γ) {p : List Nat} {b : Code} (hc : codeAt root (0 :: p) = some b) (n : Nat) (ok : Nat → Prop) (S : Nat → St) (R : Out) (nn k : Nat) (live : Ex → List Nat) (post : Ex → St → St) (hpost : ∀ e s, Sub P s (post e s))
    (hb : ∀ i, i ≤ n → ok i → ∃ Λ e s', LamOK P root Λ ∧ (ltree P Γ Λ p b nn k live post (S i)).pick = some (e, s', true) ∧ ((e = .normal ∧ i < n ∧ ok (i + 1) ∧ s' = S (i + 1)) ∨ (e ≠ .normal ∧ R.pick = some (e, s')))) (h0 : ok 0) :
    ∀ x, R.pick = some x → SemC P (.loop b) (S 0) x :=
  loop_treeP hΓ hc (fun i => i ≤ n ∧ ok i) S (fun i => n - i) R nn k live (fun _ => []) post hpost (fun i hi => by
    obtain ⟨Λ, e, s', h1, h2, h3⟩ := hb i hi.1 hi.2
    refine ⟨Λ, e, s', h1, h2, h3.imp (fun h => ⟨h.1, i + 1, ⟨h.2.1, h.2.2.1⟩, ?_, h.2.2.2⟩) id⟩
    have := h.2.1
    omega) 0 ⟨Nat.zero_le _, h0⟩

theorem okF {f : Nat} {fn : Func} {sp : List V → T V} (hΓ : GOK P Γ) (hf : P.funcs[f]? = some fn) (hb : fn.body.isSome = true) (hent : entersB P f = true)
    (h : ∀ args r, (∀ y ∈ args, VB y) → (sp args).pick = some r → ∃ Λ, LamOK P (cod fn) Λ ∧ (funV P Γ Λ fn (cod fn) args).pick = some r) : SpecOK P f sp :=
  specOK_of_bodyW hΓ hf (isBody _ hb) hent fun args r hb he => by
    obtain ⟨Λ, h1, h2⟩ := h args r hb he
    exact ⟨args, Λ, fun _ _ _ x => x, h1, h2⟩
end
/-- The round of a list's loop that goes on. -/
theorem c_nlt {i n : Nat} (h : ¬ i < n) : decide ((i : Int) < n) = false := c_ge (by omega)

theorem c_inI {i n : Nat} (h : i < n) : inI i n = true := c_in h

/-- For all below n. -/
def allN (n : Nat) (p : Nat → Bool) : Bool := (List.range n).all p
theorem allN_false {n : Nat} {p : Nat → Bool} {i : Nat} (hi : i < n) (h : p i = false) : allN n p = false := by
  rw [allN, List.all_eq_false]
  exact ⟨i, List.mem_range.2 hi, by rw [h]; simp⟩
theorem allN_true {n : Nat} {p : Nat → Bool} (h : ∀ i, i < n → p i = true) : allN n p = true := by
  rw [allN, List.all_eq_true]
  exact fun i hi => h i (List.mem_range.1 hi)
theorem allN_at {n : Nat} {p : Nat → Bool} (h : allN n p = true) {i : Nat} (hi : i < n) : p i = true := by
  rw [allN, List.all_eq_true] at h
  exact h i (List.mem_range.2 hi)
theorem all_suc {p : Nat → Bool} {i : Nat} (h : ∀ j, j < i → p j = true) (hi : p i = true) : ∀ j, j < i + 1 → p j = true := fun j hj => by
  rcases Nat.lt_or_ge j i with h1 | h1
  · exact h j h1
  · rw [show j = i by omega]; exact hi

/-! ### words, lines -/
abbrev ksWd : List K := [.str, .int .i64, .int .i64, .int .i64]
structure Wd where
  t : ByteArray
  w : Int
  s : Int
  h : Int
abbrev gWd (g : Nat → Nat → Q) (i : Nat) : Wd := ⟨qStr (g i 0), qInt (g i 1), qInt (g i 2), qInt (g i 3)⟩
abbrev wdV (x : Wd) : V := .agg [V.s x.t, V.i x.w, V.i x.s, V.i x.h]
abbrev lWd (n : Nat) (g : Nat → Nat → Q) : V := .q (.lst ksWd n g)
structure Ln where
  a : Int
  z : Int
  w : Int
abbrev ksLn : List K := [.int .i64, .int .i64, .int .i64]
abbrev gLn (g : Nat → Nat → Q) (i : Nat) : Ln := ⟨qInt (g i 0), qInt (g i 1), qInt (g i 2)⟩
abbrev lLn (n : Nat) (g : Nat → Nat → Q) : V := .q (.lst ksLn n g)
abbrev lnV (x : Ln) : V := .agg [V.i x.a, V.i x.z, V.i x.w]
abbrev lInt (n : Nat) (g : Nat → Nat → Q) : V := .q (.lst [.int .i64] n g)
/-- A text's bytes. -/
abbrev bsG (b : ByteArray) : Nat → Nat → Q := fun i _ => .c (.int .u8 ((b.get! i).toNat : Nat))
def sByte (b : ByteArray) (i : Nat) : Int := ((b.get! i).toNat : Nat)
end Go.Proofs.YtgmeglodnhagdaaGreatDoor
