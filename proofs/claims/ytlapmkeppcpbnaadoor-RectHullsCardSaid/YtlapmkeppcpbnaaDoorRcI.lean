/- Plain laws of rectangles: what is within, what meets, what is held, what is apart. -/
import Derived.Test.YtlapmkeppcpbnaaDoorRcG
namespace Go.Proofs.YtlapmkeppcpbnaaDoor
open Go Go.SX Go.Proofs
set_option maxRecDepth 100000
set_option linter.unusedVariables false

theorem bool_eq {a b : Bool} (h : a = true ↔ b = true) : a = b := by cases a <;> cases b <;> simp_all

theorem right_ok {r : Rc} (h : Ok r) : w64 (r.x + r.w) = r.x + r.w ∧ w64 (r.y + r.h) = r.y + r.h := by
  obtain ⟨x, y, w, hh⟩ := r
  simp only [Ok] at h
  exact ⟨w64_id (by simp only; omega) (by simp only; omega), w64_id (by simp only; omega) (by simp only; omega)⟩

def Within (a b : Rc) : Prop := Ok a ∧ Ok b ∧ b.x ≤ a.x ∧ b.y ≤ a.y ∧ a.x + a.w ≤ b.x + b.w ∧ a.y + a.h ≤ b.y + b.h

theorem within_iff {a b : Rc} : withinB a b = true ↔ Within a b := by
  unfold withinB Within
  cases h1 : rightR a with
  | false => simp only [cond_false, Bool.false_eq_true, false_iff]; intro h; rw [right_iff.2 h.1] at h1; cases h1
  | true =>
    cases h2 : rightR b with
    | false => simp only [cond_true, cond_false, Bool.false_eq_true, false_iff]; intro h; rw [right_iff.2 h.2.1] at h2; cases h2
    | true =>
      have ha := right_iff.1 h1
      have hb := right_iff.1 h2
      obtain ⟨e1, e2⟩ := right_ok ha
      obtain ⟨e3, e4⟩ := right_ok hb
      simp only [cond_true, e1, e2, e3, e4, ha, hb, true_and]
      by_cases c1 : b.x ≤ a.x <;> by_cases c2 : b.y ≤ a.y <;> by_cases c3 : a.x + a.w ≤ b.x + b.w <;> simp [c1, c2, c3]

theorem hOK_two {a b : Rc} : hOK 2 (two2 a b) = true ↔ Ok a ∧ Ok b := by
  have e : hOK 2 (two2 a b) = okA a b := by
    unfold hOK okA
    rw [allR_two]
    cases rightR a <;> cases rightR b <;> rfl
  rw [e]
  unfold okA
  cases h1 : rightR a with
  | false => simp only [cond_false, Bool.false_eq_true, false_iff]; intro h; rw [right_iff.2 h.1] at h1; cases h1
  | true => simp only [cond_true, right_iff, right_iff.1 h1, true_and]

theorem hull_two {a b : Rc} (ha : Ok a) (hb : Ok b) : hullR 2 (two2 a b) = ⟨min a.x b.x, min a.y b.y, max (a.x + a.w) (b.x + b.w) - min a.x b.x, max (a.y + a.h) (b.y + b.h) - min a.y b.y⟩ := by
  show hR (stH (fstH a) b) = _
  rw [hR_eq (st_ed (fst_ed ha) hb), st_eq _ hb, fst_eq ha]

theorem in_iff {a b : Rc} : inB a b = true ↔ Within a b := by
  unfold inB Within
  cases h : hOK 2 (two2 a b) with
  | false => simp only [cond_false, Bool.false_eq_true, false_iff]; intro hh; rw [hOK_two.2 ⟨hh.1, hh.2.1⟩] at h; cases h
  | true =>
    obtain ⟨ha, hb⟩ := hOK_two.1 h
    simp only [cond_true, ha, hb, true_and]
    rw [eqR_iff, hull_two ha hb]
    obtain ⟨x, y, w, hh⟩ := a
    obtain ⟨x', y', w', hh'⟩ := b
    simp only [Ok, Rc.mk.injEq] at *
    omega

theorem in_within (a b : Rc) : inB a b = withinB a b := bool_eq (in_iff.trans within_iff.symm)

def Holds (r : Rc) (x y : Int) : Prop := Ok r ∧ r.x ≤ x ∧ x < r.x + r.w ∧ r.y ≤ y ∧ y < r.y + r.h
theorem holds_iff {r : Rc} {x y : Int} : holdsB r x y = true ↔ Holds r x y := by
  unfold holdsB Holds
  cases h1 : rightR r with
  | false => simp only [cond_false, Bool.false_eq_true, false_iff]; intro h; rw [right_iff.2 h.1] at h1; cases h1
  | true =>
    have ha := right_iff.1 h1
    obtain ⟨e1, e2⟩ := right_ok ha
    simp only [cond_true, e1, e2, ha, true_and]
    by_cases c1 : r.x ≤ x <;> by_cases c2 : x < r.x + r.w <;> by_cases c3 : r.y ≤ y <;> simp [c1, c2, c3]

theorem okA_iff {a b : Rc} : okA a b = true ↔ Ok a ∧ Ok b := by
  unfold okA
  cases h1 : rightR a with
  | false => simp only [cond_false, Bool.false_eq_true, false_iff]; intro h; rw [right_iff.2 h.1] at h1; cases h1
  | true => simp only [cond_true, right_iff, right_iff.1 h1, true_and]

/-- Where two that are right meet. -/
def meetS (a b : Rc) : Rc :=
  if 0 < min (a.x + a.w) (b.x + b.w) - max a.x b.x ∧ 0 < min (a.y + a.h) (b.y + b.h) - max a.y b.y then ⟨max a.x b.x, max a.y b.y, min (a.x + a.w) (b.x + b.w) - max a.x b.x, min (a.y + a.h) (b.y + b.h) - max a.y b.y⟩
  else ⟨max a.x b.x, max a.y b.y, 0, 0⟩
theorem meet_eq {a b : Rc} (ha : Ok a) (hb : Ok b) : meetR a b = meetS a b := by
  obtain ⟨e1, e2⟩ := right_ok ha
  obtain ⟨e3, e4⟩ := right_ok hb
  have f1 : mW a b = min (a.x + a.w) (b.x + b.w) - max a.x b.x := by
    simp only [mW, mn2_eq, mx2_eq, e1, e3]
    obtain ⟨x, y, w, hh⟩ := a
    obtain ⟨x', y', w', hh'⟩ := b
    simp only [Ok] at *
    rw [w64_id (by omega) (by omega)]
  have f2 : mH a b = min (a.y + a.h) (b.y + b.h) - max a.y b.y := by
    simp only [mH, mn2_eq, mx2_eq, e2, e4]
    obtain ⟨x, y, w, hh⟩ := a
    obtain ⟨x', y', w', hh'⟩ := b
    simp only [Ok] at *
    rw [w64_id (by omega) (by omega)]
  unfold meetS
  simp only [meetR, mB, f1, f2, mx2_eq]
  generalize min (a.x + a.w) (b.x + b.w) - max a.x b.x = W
  generalize min (a.y + a.h) (b.y + b.h) - max a.y b.y = H
  by_cases c1 : 0 < W <;> by_cases c2 : 0 < H <;> simp [c1, c2]
theorem meetS_ok {a b : Rc} (ha : Ok a) (hb : Ok b) : Ok (meetS a b) := by
  obtain ⟨x, y, w, hh⟩ := a
  obtain ⟨x', y', w', hh'⟩ := b
  unfold meetS
  split <;> simp only [Ok] at * <;> omega

/-! ### are all apart -/
theorem keq_kvR {a b : Rc} (h : keq (kvR a) (kvR b) = true) : a = b := by
  obtain ⟨x, y, w, hh⟩ := a
  obtain ⟨x', y', w', hh'⟩ := b
  simp only [keq, keqL, keq1] at h
  by_cases h1 : x = x' <;> by_cases h2 : y = y' <;> by_cases h3 : w = w' <;> by_cases h4 : hh = hh' <;> simp_all

theorem put_keys {p : Value → Prop} {k : Value} {q : List Q} (hk : p k) : ∀ {es : List (Value × List Q)}, (∀ e ∈ es, p e.1) → ∀ e ∈ putE k q es, p e.1
  | [], _, e, he => by
    simp only [putE, List.mem_singleton] at he
    subst he; exact hk
  | (k', q') :: es, h, e, he => by
    simp only [putE] at he
    cases hb : keq k k' with
    | true =>
      rw [hb] at he
      simp only [cond_true, List.mem_cons] at he
      rcases he with rfl | he
      · exact hk
      · exact h e (List.mem_cons_of_mem _ he)
    | false =>
      rw [hb] at he
      simp only [cond_false, List.mem_cons] at he
      rcases he with rfl | he
      · exact h _ List.mem_cons_self
      · exact put_keys hk (fun e he => h e (List.mem_cons_of_mem _ he)) e he

theorem esA_keys (g : Nat → Nat → Q) : ∀ i, ∀ e ∈ esA g i, ∃ j, j < i ∧ e.1 = kvR (gRc g j)
  | 0, e, he => by cases he
  | i + 1, e, he => put_keys (p := fun k => ∃ j, j < i + 1 ∧ k = kvR (gRc g j)) ⟨i, by omega, rfl⟩ (fun e he => by
      obtain ⟨j, h1, h2⟩ := esA_keys g i e he
      exact ⟨j, by omega, h2⟩) e he

theorem findE_key {key : Value} : ∀ {es : List (Value × List Q)} {r : List Q}, findE key es = some r → ∃ e ∈ es, keq key e.1 = true
  | [], r, h => by cases h
  | (k, q) :: es, r, h => by
    simp only [findE] at h
    cases hk : keq key k with
    | true => exact ⟨(k, q), List.mem_cons_self, hk⟩
    | false =>
      rw [hk] at h
      obtain ⟨e, he, h2⟩ := findE_key (es := es) (r := r) h
      exact ⟨e, List.mem_cons_of_mem _ he, h2⟩

/-- What has been seen stands ahead. -/
theorem seen_eq {g : Nat → Nat → Q} {i : Nat} (h : seenB g i = true) : ∃ j, j < i ∧ gRc g j = gRc g i := by
  unfold seenB at h
  cases hf : findE (kvR (gRc g i)) (esA g i) with
  | none => rw [hf] at h; cases h
  | some q =>
    obtain ⟨e, he, hk⟩ := findE_key hf
    obtain ⟨j, hj, hj2⟩ := esA_keys g i e he
    rw [hj2] at hk
    exact ⟨j, hj, (keq_kvR hk).symm⟩

theorem gz_eq (g : Nat → Nat → Q) (i : Nat) : gRc (gz g) i = gRc g i := by
  show gRc g ((0 : Int).toNat + i) = _
  rw [show (0 : Int).toNat + i = i by simp]

theorem stop_iff {g : Nat → Nat → Q} {i k : Nat} (hi : Ok (gRc g i)) (hk : Ok (gRc g k)) : stopP g i k = stopO g i k := by
  unfold stopP stopO
  rw [gz_eq, okA_iff.2 ⟨hi, hk⟩]
  rfl

theorem any_eq {g : Nat → Nat → Q} {i : Nat} (hall : ∀ j, j ≤ i → Ok (gRc g j)) : anyM g i = anyO g i := by
  unfold anyM anyO
  have : ∀ l : List Nat, (∀ k ∈ l, k < i) → (l.any fun k => stopP g i k) = l.any fun k => stopO g i k := by
    intro l
    induction l with
    | nil => intro _; rfl
    | cons k l ih =>
      intro h
      rw [List.any_cons, List.any_cons, ih fun k hk => h k (List.mem_cons_of_mem _ hk), stop_iff (hall i (Nat.le_refl _)) (hall k (Nat.le_of_lt (h k List.mem_cons_self)))]
  exact this _ fun k hk => List.mem_range.1 hk

/-- What is seen, and is something, meets what was seen. -/
theorem c30_any {g : Nat → Nat → Q} {i : Nat} (hi : Ok (gRc g i)) (h : c30 g i = true) : anyM g i = true := by
  unfold c30 at h
  cases hs : seenB g i with
  | false => rw [hs] at h; cases h
  | true =>
    obtain ⟨j, hj, e⟩ := seen_eq hs
    rw [hs] at h
    rw [anyM, List.any_eq_true]
    refine ⟨j, List.mem_range.2 hj, ?_⟩
    unfold stopP
    rw [gz_eq, e, meet_eq hi hi]
    generalize gRc g i = r at *
    obtain ⟨x, y, w, hh⟩ := r
    by_cases h1 : w > 0
    · by_cases h2 : hh > 0
      · unfold meetS
        simp only [decide_eq_true_eq]
        rw [if_pos (by omega)]
        show min (x + w) (x + w) - max x x > 0
        omega
      · simp [h2] at h
    · simp [h1] at h

theorem apart_eq (n : Nat) (g : Nat → Nat → Q) : apartB n g = apartD n g := by
  unfold apartB
  cases hr : allR n g with
  | false =>
    simp only [cond_false]
    have hex : ∃ i, i < n ∧ rightR (gRc g i) = false := by
      rw [allR, List.all_eq_false] at hr
      obtain ⟨i, hi, h⟩ := hr
      exact ⟨i, List.mem_range.1 hi, by simpa using h⟩
    obtain ⟨i, hi, h⟩ := hex
    symm
    rw [apartD, List.all_eq_false]
    exact ⟨i, List.mem_range.2 hi, by simp [badO, h]⟩
  | true =>
    have hall := allR_iff.1 hr
    simp only [cond_true]
    unfold apartA apartD
    have : ∀ l : List Nat, (∀ i ∈ l, i < n) → (l.all fun i => !badP g i) = l.all fun i => !badO g i := by
      intro l
      induction l with
      | nil => intro _; rfl
      | cons i l ih =>
        intro h
        have hi := h i List.mem_cons_self
        have e1 : badP g i = anyM g i := by
          unfold badP
          cases hc : c30 g i with
          | false => rfl
          | true => rw [c30_any (hall i hi) hc]; rfl
        have e2 : badO g i = anyO g i := by
          unfold badO
          rw [right_iff.2 (hall i hi)]; rfl
        rw [List.all_cons, List.all_cons, ih fun k hk => h k (List.mem_cons_of_mem _ hk), e1, e2, any_eq fun j hj => hall j (by omega)]
    exact this _ fun i hi => List.mem_range.1 hi

end Go.Proofs.YtlapmkeppcpbnaaDoor
