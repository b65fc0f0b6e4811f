/- Plain laws of rectangles: no program in sight. -/
import Derived.Test.YtcekbimohggnoaaDoorFlRa
namespace Go.Proofs.YtcekbimohggnoaaDoor
open Go Go.SX Go.Proofs
set_option maxRecDepth 100000
variable [EA]
set_option linter.unusedVariables false
set_option linter.unusedSectionVars false
set_option linter.unusedSimpArgs false

theorem isLen_iff {a : Int} : isLen a = true ↔ -1073741824 ≤ a ∧ a ≤ 1073741824 := by
  unfold isLen
  by_cases h : a ≥ -1073741824 <;> simp [h] <;> omega

theorem isSide_iff {a s : Int} : isSide a s = true ↔ -1073741824 ≤ a ∧ 0 ≤ s ∧ a + s ≤ 1073741824 := by
  unfold isSide
  cases h1 : isLen a with
  | false =>
    have : ¬ (-1073741824 ≤ a ∧ a ≤ 1073741824) := fun h => by rw [isLen_iff.2 h] at h1; cases h1
    simp; omega
  | true =>
    have h1 := isLen_iff.1 h1
    by_cases h2 : s ≥ 0
    · by_cases h3 : s ≤ 2147483648
      · have e : w64 (a + s) = a + s := w64_id (by omega) (by omega)
        simp only [h2, h3, decide_true, cond_true]
        rw [e, isLen_iff]
        exact ⟨fun h => ⟨by omega, trivial, by omega⟩, fun h => ⟨by omega, h.2.2⟩⟩
      · simp [h2, h3]; omega
    · simp [h2]

/-- A rectangle that is right, in plain numbers. -/
def Ok (r : Rc) : Prop := -1073741824 ≤ r.x ∧ 0 ≤ r.w ∧ r.x + r.w ≤ 1073741824 ∧ -1073741824 ≤ r.y ∧ 0 ≤ r.h ∧ r.y + r.h ≤ 1073741824

theorem right_iff {r : Rc} : rightR r = true ↔ Ok r := by
  unfold rightR Ok
  cases h : isSide r.x r.w with
  | false =>
    have : ¬ (-1073741824 ≤ r.x ∧ 0 ≤ r.w ∧ r.x + r.w ≤ 1073741824) := fun hh => by rw [isSide_iff.2 hh] at h; cases h
    simp; omega
  | true =>
    have := isSide_iff.1 h
    simp only [cond_true, isSide_iff]
    omega

theorem allR_iff {n : Nat} {g : Nat → Nat → Q} : allR n g = true ↔ ∀ i, i < n → Ok (gRc g i) := by
  rw [allR, List.all_eq_true]
  exact ⟨fun h i hi => right_iff.1 (h i (List.mem_range.2 hi)), fun h i hi => right_iff.2 (h i (List.mem_range.1 hi))⟩

theorem mn2_eq (a b : Int) : mn2 a b = min a b := by unfold mn2; split <;> omega
theorem mx2_eq (a b : Int) : mx2 a b = max a b := by unfold mx2; split <;> omega

theorem hOK_iff {n : Nat} {g : Nat → Nat → Q} : hOK n g = true ↔ 0 < n ∧ ∀ i, i < n → Ok (gRc g i) := by
  unfold hOK
  cases h : allR n g with
  | false =>
    have : ¬ ∀ i, i < n → Ok (gRc g i) := fun hh => by rw [allR_iff.2 hh] at h; cases h
    simp; intro _; simpa using this
  | true =>
    have := allR_iff.1 h
    simp
    constructor
    · intro h0; exact ⟨by omega, this⟩
    · intro h0; omega

/-- Edges that are within. -/
def Ed (c : Rc) : Prop := -1073741824 ≤ c.x ∧ c.x ≤ c.w ∧ c.w ≤ 1073741824 ∧ -1073741824 ≤ c.y ∧ c.y ≤ c.h ∧ c.h ≤ 1073741824

theorem fst_eq {r : Rc} (h : Ok r) : fstH r = ⟨r.x, r.y, r.x + r.w, r.y + r.h⟩ := by
  obtain ⟨x, y, w, hh⟩ := r
  simp only [Ok] at h
  simp only [fstH]
  rw [w64_id (n := x + w) (by omega) (by omega), w64_id (n := y + hh) (by omega) (by omega)]
theorem st_eq (c : Rc) {r : Rc} (h : Ok r) : stH c r = ⟨min c.x r.x, min c.y r.y, max c.w (r.x + r.w), max c.h (r.y + r.h)⟩ := by
  obtain ⟨x, y, w, hh⟩ := r
  simp only [Ok] at h
  simp only [stH, mn2_eq, mx2_eq]
  rw [w64_id (n := x + w) (by omega) (by omega), w64_id (n := y + hh) (by omega) (by omega)]
theorem hR_eq {c : Rc} (h : Ed c) : hR c = ⟨c.x, c.y, c.w - c.x, c.h - c.y⟩ := by
  obtain ⟨x, y, w, hh⟩ := c
  simp only [Ed] at h
  simp only [hR]
  rw [w64_id (n := w - x) (by omega) (by omega), w64_id (n := hh - y) (by omega) (by omega)]
theorem fst_ed {r : Rc} (h : Ok r) : Ed (fstH r) := by
  rw [fst_eq h]; obtain ⟨x, y, w, hh⟩ := r; simp only [Ok] at h; simp only [Ed]; omega
theorem st_ed {c r : Rc} (hc : Ed c) (h : Ok r) : Ed (stH c r) := by
  rw [st_eq c h]; obtain ⟨x, y, w, hh⟩ := r; obtain ⟨x', y', w', hh'⟩ := c; simp only [Ok] at h; simp only [Ed] at hc ⊢; omega
theorem hR_ok {c : Rc} (h : Ed c) : Ok (hR c) := by
  rw [hR_eq h]; obtain ⟨x, y, w, hh⟩ := c; simp only [Ed] at h; simp only [Ok]; omega

theorem gs_eq (g : Nat → Nat → Q) (i : Nat) : gRc (gs g) i = gRc g (i + 1) := by
  show gRc g ((1 : Int).toNat + i) = _
  rw [show (1 : Int).toNat + i = i + 1 by simp; omega]

/-- The edges so far. -/
theorem hS_ed {g : Nat → Nat → Q} : ∀ (i : Nat), (∀ j, j < i + 1 → Ok (gRc g j)) → Ed (hS g i)
  | 0, h => fst_ed (h 0 (by omega))
  | i + 1, h => by
    show Ed (stH (hS g i) (gRc (gs g) i))
    rw [gs_eq]
    exact st_ed (hS_ed i fun j hj => h j (by omega)) (h (i + 1) (by omega))

theorem bR_congr {b : Bool} {r r' z : Rc} (h : b = true → r = r') : bR b r z = bR b r' z := by
  cases b with
  | false => rfl
  | true => rw [h rfl]

theorem eqR_refl (r : Rc) : eqR r r = true := by simp [eqR]
theorem eqR_iff {a b : Rc} : eqR a b = true ↔ a = b := by
  obtain ⟨x, y, w, h⟩ := a
  obtain ⟨x', y', w', h'⟩ := b
  by_cases h1 : x = x' <;> by_cases h2 : y = y' <;> by_cases h3 : w = w' <;> by_cases h4 : h = h' <;> simp [eqR, h1, h2, h3, h4]

end Go.Proofs.YtcekbimohggnoaaDoor
