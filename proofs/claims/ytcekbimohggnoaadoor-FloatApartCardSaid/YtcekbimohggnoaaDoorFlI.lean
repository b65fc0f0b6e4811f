/- Plain laws of floats: no program in sight. One row, and where one more is placed. -/
import Derived.Test.YtcekbimohggnoaaDoorFlH
import Derived.Test.YtcekbimohggnoaaDoorFlRb
namespace Go.Proofs.YtcekbimohggnoaaDoor
open Go Go.SX Go.Proofs
set_option maxRecDepth 100000
variable [EA]
set_option linter.unusedVariables false
set_option linter.unusedSectionVars false
set_option linter.unusedSimpArgs false

abbrev MS : Int := 1048576
/-- Floats that are right. -/
structure FOK (m : Nat) (f : Nat → Nat → Q) (w : Int) : Prop where
  hm : m ≤ 20
  h0 : 0 ≤ w
  h1 : w ≤ MS
  hf : ∀ i, i < m → 0 ≤ (gFl f i).w ∧ (gFl f i).w ≤ MS ∧ 0 ≤ (gFl f i).h ∧ (gFl f i).h ≤ MS

/-- A row as it is placed: the first n. -/
structure GOKr (n : Nat) (g : Nat → Nat → Q) : Prop where
  hn : n ≤ 20
  hr : ∀ i, i < n → 0 ≤ (gRc g i).x ∧ (gRc g i).x ≤ MS ∧ 0 ≤ (gRc g i).w ∧ (gRc g i).x + (gRc g i).w ≤ MS ∧ 0 ≤ (gRc g i).y ∧ 0 ≤ (gRc g i).h ∧ (gRc g i).h ≤ MS ∧ (gRc g i).y + (gRc g i).h ≤ (i + 1 : Nat) * MS

theorem GOKr.le {n k : Nat} {g : Nat → Nat → Q} (h : GOKr n g) (hk : k ≤ n) : GOKr k g := ⟨Nat.le_trans hk h.hn, fun i hi => h.hr i (by omega)⟩

theorem mul_le' {i : Nat} (hi : i + 1 ≤ 20) : ((i + 1 : Nat) : Int) * MS ≤ 20971520 := by
  simp only [MS]; omega

theorem lowE_eq {r : Rc} (h0 : 0 ≤ r.y) (h1 : 0 ≤ r.h) (h2 : r.y + r.h ≤ 67108864) : lowE r = r.y + r.h := w64_id (by omega) (by omega)

/-- What is needed of a row's one, at once. -/
theorem GOKr.at {n : Nat} {g : Nat → Nat → Q} (h : GOKr n g) {i : Nat} (hi : i < n) : 0 ≤ (gRc g i).x ∧ 0 ≤ (gRc g i).w ∧ (gRc g i).x + (gRc g i).w ≤ MS ∧ 0 ≤ (gRc g i).y ∧ 0 ≤ (gRc g i).h ∧ (gRc g i).h ≤ MS ∧ (gRc g i).y + (gRc g i).h ≤ 20971520 ∧ lowE (gRc g i) = (gRc g i).y + (gRc g i).h := by
  obtain ⟨a, b, c, d, e, f, k, l⟩ := h.hr i hi
  have := mul_le' (show i + 1 ≤ 20 by have := h.hn; omega)
  refine ⟨a, c, d, e, f, k, by omega, lowE_eq e f (by omega)⟩

theorem okR_iff (x : Fl) : okF x = true ↔ 0 ≤ x.w ∧ x.w ≤ MS ∧ 0 ≤ x.h ∧ x.h ≤ MS := by
  have hbox : Ok box := by simp only [Ok, box]; omega
  unfold okF inB
  cases h : hOK 2 (two2 ⟨0, 0, x.w, x.h⟩ box) with
  | false =>
    simp only [cond_false, Bool.false_eq_true, false_iff]
    intro hh
    have : hOK 2 (two2 ⟨0, 0, x.w, x.h⟩ box) = true := hOK_iff.2 ⟨by omega, fun i hi => by
      rcases (show i = 0 ∨ i = 1 by omega) with rfl | rfl
      · show Ok ⟨0, 0, x.w, x.h⟩
        simp only [Ok, MS] at hh ⊢; omega
      · exact hbox⟩
    rw [this] at h; cases h
  | true =>
    simp only [cond_true]
    obtain ⟨_, hall⟩ := hOK_iff.1 h
    have ha : Ok ⟨0, 0, x.w, x.h⟩ := hall 0 (by omega)
    have e : hullR 2 (two2 ⟨0, 0, x.w, x.h⟩ box) = hR (stH (fstH ⟨0, 0, x.w, x.h⟩) box) := rfl
    rw [e, hR_eq (st_ed (fst_ed ha) hbox), st_eq _ hbox, fst_eq ha, eqR_iff]
    simp only [Ok, box, Rc.mk.injEq, MS] at ha ⊢
    omega

theorem sizeB_iff (a : Int) : sizeB a = true ↔ 0 ≤ a ∧ a ≤ MS := by
  unfold sizeB
  by_cases h : a ≥ 0
  · simp [h, MS]
  · simp [h]
theorem okF_eq (x : Fl) : okF x = okS x := by
  have h1 := okR_iff x
  have h2 : okS x = true ↔ 0 ≤ x.w ∧ x.w ≤ MS ∧ 0 ≤ x.h ∧ x.h ≤ MS := by
    unfold okS
    cases h : sizeB x.w with
    | false =>
      have : ¬ (0 ≤ x.w ∧ x.w ≤ MS) := fun hh => by rw [(sizeB_iff _).2 hh] at h; cases h
      simp; omega
    | true =>
      have := (sizeB_iff _).1 h
      simp only [cond_true, sizeB_iff]; omega
  cases h3 : okF x with
  | true => exact (h2.2 (h1.1 h3)).symm
  | false => cases h4 : okS x with
    | false => rfl
    | true => rw [h1.2 (h2.1 h4)] at h3; cases h3
theorem right_eq (m : Nat) (f : Nat → Nat → Q) (w : Int) : rightF m f w = rightS m f w := by
  have : allF m f = allS m f := by
    unfold allF allS
    congr 1
    funext i
    exact okF_eq _
  unfold rightF rightS sizeB
  rw [this]
  cases allS m f <;> cases decide (w ≥ 0) <;> rfl
theorem right_ok {m : Nat} {f : Nat → Nat → Q} {w : Int} : rightF m f w = true ↔ FOK m f w := by
  unfold rightF
  constructor
  · intro h
    cases h1 : allF m f with
    | false => rw [h1] at h; cases h
    | true =>
      rw [h1] at h
      simp only [cond_true] at h
      by_cases h2 : w ≥ 0
      · by_cases h3 : w ≤ 1048576
        · simp only [h2, h3, decide_true, cond_true, decide_eq_true_eq] at h
          refine ⟨by omega, h2, h3, fun i hi => ?_⟩
          rw [allF, List.all_eq_true] at h1
          exact (okR_iff _).1 (h1 i (List.mem_range.2 hi))
        · simp [h2, h3] at h
      · simp [h2] at h
  · intro h
    have h1 : allF m f = true := allF_true fun i hi => (okR_iff _).2 (h.hf i hi)
    have h2 := h.h0
    have h3 := h.h1
    have h4 := h.hm
    simp only [h1, cond_true, ge_iff_le, h2, decide_true]
    have : w ≤ 1048576 := h3
    simp only [this, decide_true, cond_true, decide_eq_true_eq]
    omega

/-! ### low, and ends -/
theorem lowS_ge {g : Nat → Nat → Q} : ∀ (n : Nat), 0 ≤ lowS g n ∧ ∀ i, i < n → lowE (gRc g i) ≤ lowS g n
  | 0 => ⟨Int.le_refl _, fun i hi => by omega⟩
  | n + 1 => by
    obtain ⟨h1, h2⟩ := lowS_ge (g := g) n
    simp only [lowS, mx2_eq]
    refine ⟨by omega, fun i hi => ?_⟩
    rcases Nat.lt_or_ge i n with h | h
    · have := h2 i h; omega
    · rw [show i = n by omega]; omega

/-- The next end, in plain words. -/
structure EI (g : Nat → Nat → Q) (n : Nat) (y : Int) (k : Nat) (e : Int) (eb : Bool) (b : Int) (ok : Bool) : Prop where
  h1 : eb = ok
  h2 : ok = true → b > y ∧ ∃ i, i < k ∧ lowE (gRc g i) = b
  h3 : ok = false → b = 0
  h4 : ∀ i, i < k → lowE (gRc g i) > y → ok = true ∧ b ≤ lowE (gRc g i)
  h5 : e = if ok = true then b else lowS g n
  h6 : ok = true → b ≤ lowS g n

theorem EI.step {g : Nat → Nat → Q} {n : Nat} {y : Int} {k : Nat} {e : Int} {eb : Bool} {b : Int} {ok : Bool} (h : EI g n y k e eb b ok) (hl : lowE (gRc g k) ≤ lowS g n) :
    EI g n y (k + 1) (bif decide (lowE (gRc g k) > y) then mn2 e (lowE (gRc g k)) else e) (bif decide (lowE (gRc g k) > y) then true else eb) (bif takeB (lowE (gRc g k)) y b ok then (lowE (gRc g k), true) else (b, ok)).1 (bif takeB (lowE (gRc g k)) y b ok then (lowE (gRc g k), true) else (b, ok)).2 := by
  obtain ⟨h1, h2, h3, h4, h5, h6⟩ := h
  generalize hv : lowE (gRc g k) = v at *
  by_cases he : v > y
  · have hd : decide (v > y) = true := by simpa using he
    cases ok with
    | false =>
      have ht : takeB v y b false = true := by unfold takeB; rw [hd]; rfl
      rw [hd, ht]
      simp only [cond_true]
      refine ⟨rfl, fun _ => ⟨he, k, by omega, hv⟩, fun hh => (by cases hh), fun i hi hgt => ⟨rfl, ?_⟩, ?_, fun _ => hl⟩
      · rcases Nat.lt_or_ge i k with hik | hik
        · exact absurd (h4 i hik hgt).1 (by simp)
        · rw [show i = k by omega, hv]; exact Int.le_refl _
      · rw [h5, mn2_eq]; simp; omega
    | true =>
      obtain ⟨a1, i0, a2, a3⟩ := h2 rfl
      by_cases hb : v < b
      · have ht : takeB v y b true = true := by unfold takeB; rw [hd]; simpa using hb
        rw [hd, ht]
        simp only [cond_true]
        refine ⟨rfl, fun _ => ⟨he, k, by omega, hv⟩, fun hh => (by cases hh), fun i hi hgt => ⟨rfl, ?_⟩, ?_, fun _ => hl⟩
        · rcases Nat.lt_or_ge i k with hik | hik
          · have := (h4 i hik hgt).2; omega
          · rw [show i = k by omega, hv]; exact Int.le_refl _
        · rw [h5, mn2_eq]; simp; omega
      · have ht : takeB v y b true = false := by unfold takeB; rw [hd]; simpa using hb
        rw [hd, ht]
        simp only [cond_true, cond_false]
        refine ⟨rfl, fun _ => ⟨a1, i0, by omega, a3⟩, fun hh => (by cases hh), fun i hi hgt => ⟨rfl, ?_⟩, ?_, h6⟩
        · rcases Nat.lt_or_ge i k with hik | hik
          · exact (h4 i hik hgt).2
          · rw [show i = k by omega, hv]; omega
        · rw [h5, mn2_eq]; simp; omega
  · have hd : decide (v > y) = false := by simpa using he
    have ht : takeB v y b ok = false := by unfold takeB; rw [hd]; rfl
    rw [hd, ht]
    simp only [cond_false]
    refine ⟨h1, fun hh => ?_, h3, fun i hi hgt => ?_, h5, h6⟩
    · obtain ⟨a1, i0, a2, a3⟩ := h2 hh
      exact ⟨a1, i0, by omega, a3⟩
    · rcases Nat.lt_or_ge i k with hik | hik
      · exact h4 i hik hgt
      · rw [show i = k by omega, hv] at hgt; exact absurd hgt he

theorem ends_eq {g : Nat → Nat → Q} {n : Nat} (y : Int) (hlow : ∀ i, i < n → lowE (gRc g i) ≤ lowS g n) : ∀ k, k ≤ n → EI g n y k (eS n g y k) (eB g y k) (rEb g y k).1 (rEb g y k).2
  | 0, _ => ⟨rfl, fun h => by simp [rEb] at h, fun _ => rfl, fun i hi => by omega, by simp [eS, rEb], fun h => by simp [rEb] at h⟩
  | k + 1, hk => (ends_eq y hlow k (by omega)).step (hlow k (by omega))

theorem nextY_eq {g : Nat → Nat → Q} {n : Nat} (y : Int) : nextY n g y = (rEb g y n).1 ∧ eB g y n = (rEb g y n).2 := by
  obtain ⟨h1, h2, h3, h4, h5, _⟩ := ends_eq y (lowS_ge (g := g) n).2 n (Nat.le_refl _)
  refine ⟨?_, h1⟩
  unfold nextY
  rw [h1, h5]
  cases hb : (rEb g y n).2 with
  | false => simp [h3 hb]
  | true => simp
end Go.Proofs.YtcekbimohggnoaaDoor
