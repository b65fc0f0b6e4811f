/- Lists that a walk builds, as lists. -/
import Derived.Test.YtgmeglodnhagdaaGreatDoorBl
namespace Go.Proofs.YtgmeglodnhagdaaGreatDoor
open Go Go.SX Go.Proofs
set_option maxRecDepth 100000
set_option linter.unusedVariables false
set_option linter.unusedSectionVars false
set_option linter.unusedSimpArgs false
/-! ### lists -/
abbrev wdQ (x : Wd) : List Q := [.c (.string x.t), .c (.int .i64 x.w), .c (.int .i64 x.s), .c (.int .i64 x.h)]
abbrev lnQ (x : Ln) : List Q := [.c (.int .i64 x.a), .c (.int .i64 x.z), .c (.int .i64 x.w)]
abbrev intQ (x : Int) : List Q := [.c (.int .i64 x)]
abbrev gOf {α : Type} (q : α → List Q) (l : List α) : Nat → Nat → Q := rows (l.map q)
abbrev vOf {α : Type} (ks : List K) (q : α → List Q) (l : List α) : V := .q (.lst ks l.length (gOf q l))
abbrev vecOf {α : Type} (t : TypeId) (ks : List K) (q : α → List Q) (l : List α) : Option Ob := some (.vec t ks l.length (gOf q l))
theorem catG_rows {n : Nat} (l : List (List Q)) (x : List Q) (hn : n = l.length) : catG n (rows l) (rows [x]) = rows (l ++ [x]) := by
  subst hn
  funext i j
  unfold catG rows
  by_cases h : i < l.length
  · simp [h, List.getD_eq_getElem?_getD, List.getElem?_append_left h]
  · have h' : l.length ≤ i := by omega
    simp [h, List.getD_eq_getElem?_getD, List.getElem?_append_right h']
theorem catG_of {α : Type} (q : α → List Q) (l : List α) (x : α) : catG l.length (gOf q l) (rows [q x]) = gOf q (l ++ [x]) := by
  unfold gOf
  rw [List.map_append]
  exact catG_rows _ _ (by simp)
theorem gOf_at {α : Type} (q : α → List Q) (l : List α) {i : Nat} (h : i < l.length) : gOf q l i = fun j => (q l[i]).getD j default := by
  funext j
  simp [rows, List.getD_eq_getElem?_getD, h]
theorem gWd_of {l : List Wd} {i : Nat} (h : i < l.length) : gWd (gOf wdQ l) i = l[i] := by
  have e : ∀ j, gOf wdQ l i j = (wdQ l[i]).getD j default := fun j => congrFun (gOf_at wdQ l h) j
  show (⟨qStr (gOf wdQ l i 0), qInt (gOf wdQ l i 1), qInt (gOf wdQ l i 2), qInt (gOf wdQ l i 3)⟩ : Wd) = l[i]
  rw [e, e, e, e]; rfl
theorem gLn_of {l : List Ln} {i : Nat} (h : i < l.length) : gLn (gOf lnQ l) i = l[i] := by
  have e : ∀ j, gOf lnQ l i j = (lnQ l[i]).getD j default := fun j => congrFun (gOf_at lnQ l h) j
  show (⟨qInt (gOf lnQ l i 0), qInt (gOf lnQ l i 1), qInt (gOf lnQ l i 2)⟩ : Ln) = l[i]
  rw [e, e, e]; rfl
/-- Names that are handed on where a round goes on. -/
def poM (l : List (Nat × Nat)) : Ex → St → St
  | .normal, s => mvL l s
  | _, s => s
theorem poM_ok [GW] {P : Program} (l : List (Nat × Nat)) (e : Ex) (s : St) : Sub P s (poM l e s) := by
  unfold poM
  split
  · exact sub_mvL _ _
  · exact Sub.refl s
theorem den_tnil {S L : Nat → Prop} {θ : Th} {w : World} {ks : List K} {g : Nat → Nat → Q} {y : V} {v : Value} (h : Den S L θ w (.tup [.q (.c (.slice none 0 0)), y]) v) : Den S L θ w (.tup [.q (.lst ks 0 g), y]) v := by
  cases h with
  | tup _ vs h => cases h with
    | cons _ u _ us h1 h2 => exact .tup _ _ (.cons _ _ _ _ (.q _ _ (den_nil h1.q_inv)) h2)
section
variable [GW] {P : Program} {Γ : Gam} {root : Code}
/-- A loop that goes through a list, to its end. -/
theorem loopFold (hΓ : GOK P Γ) {p : List Nat} {b : Code} (hc : codeAt root (0 :: p) = some b) {n : Nat} (hn : n ≤ 9223372036854775807) {A : Type} (S : A → Int → St) (f : Nat → A) (e : Ex) (he : e ≠ .normal) (fin : St) (nn k : Nat) (live : Ex → List Nat) (post : Ex → St → St) (hpost : ∀ e s, Sub P s (post e s))
    (h1 : ∀ i, i < n → ∃ Λ, LamOK P root Λ ∧ (ltree P Γ Λ p b nn k live post (S (f i) i)).pick = some (.normal, S (f (i + 1)) (w64 (i + 1)), true))
    (h2 : (ltree P Γ [] p b nn k live post (S (f n) n)).pick = some (e, fin, true)) : ∀ x, (T.leaf (e, fin)).pick = some x → SemC P (.loop b) (S (f 0) (0 : Nat)) x :=
  loop_nat hΓ hc n (fun _ => True) (fun i => S (f i) i) (.leaf (e, fin)) nn k live post hpost (fun i hi _ => by
    rcases Nat.lt_or_ge i n with hlt | hge
    · obtain ⟨Λ, g1, g2⟩ := h1 i hlt
      rw [w64_suc hlt hn] at g2
      exact ⟨Λ, .normal, _, g1, g2, .inl ⟨rfl, hlt, trivial, rfl⟩⟩
    · have h : i = n := by omega
      subst h
      exact ⟨[], e, fin, LamOK.nil _ _, h2, .inr ⟨he, rfl⟩⟩) trivial
/-- A loop that goes through a list as long as all is well. -/
theorem loopAll (hΓ : GOK P Γ) {p : List Nat} {b : Code} (hc : codeAt root (0 :: p) = some b) {n : Nat} (hn : n ≤ 9223372036854775807) (S : Int → St) (q : Nat → Bool) (fin ret : St) (nn k : Nat) (live : Ex → List Nat) (post : Ex → St → St) (hpost : ∀ e s, Sub P s (post e s))
    (h1 : ∀ i, i < n → q i = true → (ltree P Γ [] p b nn k live post (S i)).pick = some (.normal, S (w64 (i + 1)), true))
    (h2 : ∀ i, i < n → q i = false → (ltree P Γ [] p b nn k live post (S i)).pick = some (.ret, ret, true))
    (h3 : (ltree P Γ [] p b nn k live post (S (n : Nat))).pick = some (.exit 0, fin, true)) : ∀ x, (T.ite (allN n q) (.leaf (Ex.exit 0, fin)) (.leaf (.ret, ret))).pick = some x → SemC P (.loop b) (S (0 : Nat)) x :=
  loop_nat hΓ hc n (fun i => ∀ j, j < i → q j = true) (fun i => S i) _ nn k live post hpost (fun i hi hall => by
    rcases Nat.lt_or_ge i n with hlt | hge
    · cases hq : q i with
      | true =>
        have g := h1 i hlt hq
        rw [w64_suc hlt hn] at g
        exact ⟨[], .normal, _, LamOK.nil _ _, g, .inl ⟨rfl, hlt, all_suc hall hq, rfl⟩⟩
      | false => exact ⟨[], .ret, _, LamOK.nil _ _, h2 i hlt hq, .inr ⟨by simp, by rw [allN_false hlt hq]; rfl⟩⟩
    · have h : i = n := by omega
      subst h
      exact ⟨[], .exit 0, _, LamOK.nil _ _, h3, .inr ⟨by simp, by rw [allN_true hall]; rfl⟩⟩) (fun j hj => absurd hj (Nat.not_lt_zero _))
end
end Go.Proofs.YtgmeglodnhagdaaGreatDoor
