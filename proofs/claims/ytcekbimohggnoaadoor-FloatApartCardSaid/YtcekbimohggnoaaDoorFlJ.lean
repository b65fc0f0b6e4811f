/- Plain laws of floats: what lies beside, in the program's words and in the document's. -/
import Derived.Test.YtcekbimohggnoaaDoorFlI
namespace Go.Proofs.YtcekbimohggnoaaDoor
open Go Go.SX Go.Proofs
set_option maxRecDepth 100000
variable [EA]
set_option linter.unusedVariables false
set_option linter.unusedSectionVars false
set_option linter.unusedSimpArgs false

/-- One lies at some lengths. -/
def Hit (r : Rc) (y h : Int) : Prop := 0 < r.w ∧ 0 < r.h ∧ r.y < y + max h 1 ∧ y < r.y + r.h
/-- What is asked for is in bounds. -/
structure YH (y h : Int) : Prop where
  y0 : 0 ≤ y
  y1 : y ≤ 67108864
  h0 : 0 ≤ h
  h1 : h ≤ MS
/-- A rectangle that is in bounds. -/
structure RB (r : Rc) : Prop where
  x : 0 ≤ r.x
  w : 0 ≤ r.w
  xw : r.x + r.w ≤ MS
  y : 0 ≤ r.y
  h : 0 ≤ r.h
  yh : r.y + r.h ≤ 20971520
theorem GOKr.rb {n : Nat} {g : Nat → Nat → Q} (h : GOKr n g) {i : Nat} (hi : i < n) : RB (gRc g i) := by
  obtain ⟨a, b, c, d, e, _, f, _⟩ := h.at hi
  exact ⟨a, b, c, d, e, f⟩

theorem yh_eq {y h : Int} (k : YH y h) : w64 (y + mx2 h 1) = y + max h 1 := by
  obtain ⟨a, b, c, d⟩ := k
  simp only [MS] at d
  rw [mx2_eq]
  exact w64_id (by omega) (by omega)

theorem cond_and (p q : Prop) [Decidable p] [Decidable q] : (bif decide p then decide q else false) = decide (p ∧ q) := by
  by_cases h : p <;> simp [h]
theorem cond_or (p q : Prop) [Decidable p] [Decidable q] : (bif decide p then true else decide q) = decide (p ∨ q) := by
  by_cases h : p <;> simp [h]

theorem hit_iff {r : Rc} {y h : Int} (k : RB r) (q : YH y h) : hitR r y h = true ↔ Hit r y h := by
  obtain ⟨x, w, ry, rh⟩ := r
  have hq := yh_eq q
  obtain ⟨a1, a2, a3, a4, a5, a6⟩ := k
  obtain ⟨b1, b2, b3, b4⟩ := q
  simp only [MS] at *
  have ho : okA ⟨x, w, ry, rh⟩ (bx ⟨x, w, ry, rh⟩ y h) = true := by
    have h1 : Ok ⟨x, w, ry, rh⟩ := by simp only [Ok]; omega
    have h2 : Ok (bx ⟨x, w, ry, rh⟩ y h) := by simp only [Ok, bx, mx2_eq]; omega
    unfold okA
    rw [right_iff.2 h1, right_iff.2 h2]; rfl
  unfold hitR
  rw [ho]
  simp only [bR, cond_true, meetR, decide_eq_true_eq]
  have e1 : mW ⟨x, w, ry, rh⟩ (bx ⟨x, w, ry, rh⟩ y h) = ry := by
    simp only [mW, bx, mn2_eq, mx2_eq]
    rw [w64_id (n := x + ry) (by omega) (by omega), Int.min_self, Int.max_self, w64_id (by omega) (by omega)]
    omega
  have e2 : mH ⟨x, w, ry, rh⟩ (bx ⟨x, w, ry, rh⟩ y h) = min (w + rh) (y + max h 1) - max w y := by
    simp only [mH, bx, hq]
    simp only [mn2_eq, mx2_eq]
    rw [w64_id (n := w + rh) (by omega) (by omega), w64_id (by omega) (by omega)]
  unfold mB Hit
  rw [e1, e2, cond_and]
  by_cases g : ry > 0 ∧ min (w + rh) (y + max h 1) - max w y > 0
  · rw [decide_eq_true g]
    simp only [cond_true]
    obtain ⟨g1, g2⟩ := g
    simp only [Int.max_def, Int.min_def] at g2 ⊢
    repeat' split at g2
    all_goals (try split) <;> omega
  · rw [decide_eq_false g]
    simp only [cond_false]
    simp only [Int.max_def, Int.min_def] at g ⊢
    repeat' split at g
    all_goals (try split) <;> omega

theorem bes_iff {r : Rc} {y h : Int} (k : RB r) (q : YH y h) : besB r y h = true ↔ Hit r y h := by
  obtain ⟨x, w, ry, rh⟩ := r
  have hq := yh_eq q
  obtain ⟨a1, a2, a3, a4, a5, a6⟩ := k
  simp only at *
  unfold besB Hit
  rw [hq]
  have e : w64 (w + rh) = w + rh := w64_id (by omega) (by omega)
  rw [e]
  rw [cond_and, cond_and, cond_and, decide_eq_true_eq]

theorem skip_iff {r : Rc} {y h : Int} (k : RB r) (q : YH y h) : skipB r y h = false ↔ Hit r y h := by
  obtain ⟨x, w, ry, rh⟩ := r
  have hq := yh_eq q
  obtain ⟨a1, a2, a3, a4, a5, a6⟩ := k
  simp only at *
  unfold skipB Hit
  rw [hq]
  have e : w64 (w + rh) = w + rh := w64_id (by omega) (by omega)
  rw [e]
  have f1 : (ry == 0) = decide (ry = 0) := by by_cases h : ry = 0 <;> simp [h]
  have f2 : (rh == 0) = decide (rh = 0) := by by_cases h : rh = 0 <;> simp [h]
  rw [f1, f2, cond_or, cond_or, cond_or, decide_eq_false_iff_not]
  generalize y + max h 1 = z
  show ¬ (ry = 0 ∨ rh = 0 ∨ w ≥ z ∨ y ≥ w + rh) ↔ (0 < ry ∧ 0 < rh ∧ w < z ∧ y < w + rh)
  omega

theorem hit_bes {r : Rc} {y h : Int} (k : RB r) (q : YH y h) : hitR r y h = besB r y h := by
  have h1 := hit_iff k q
  have h2 := bes_iff k q
  cases hh : hitR r y h with
  | true => exact (h2.2 (h1.1 hh)).symm
  | false => cases hb : besB r y h with
    | false => rfl
    | true => rw [h1.2 (h2.1 hb)] at hh; cases hh
theorem hit_skip {r : Rc} {y h : Int} (k : RB r) (q : YH y h) : skipB r y h = !(hitR r y h) := by
  have h1 := hit_iff k q
  have h2 := skip_iff k q
  cases hh : hitR r y h with
  | true => exact h2.2 (h1.1 hh)
  | false => cases hb : skipB r y h with
    | true => rfl
    | false => rw [h1.2 (h2.1 hb)] at hh; cases hh

/-! ### the map -/
theorem lk_put (es : List (Value × List Q)) (b b' : Bool) (v : Int) : lkM (putE (.bool b) [.c (.int .i64 v)] es) b' = if b = b' then v else lkM es b' := by
  have key : findE (.bool b') (putE (.bool b) [.c (.int .i64 v)] es) = if b = b' then some [.c (.int .i64 v)] else findE (.bool b') es := by
    induction es with
    | nil =>
      simp only [putE, findE]
      by_cases e : b = b'
      · subst e; simp [keq, keq1]
      · have : keq (.bool b') (.bool b) = false := by cases b <;> cases b' <;> simp_all [keq, keq1]
        simp [this, e]
    | cons x es ih =>
      obtain ⟨k, q⟩ := x
      simp only [putE]
      cases hk : keq (.bool b) k with
      | true =>
        simp only [cond_true, findE]
        by_cases e : b = b'
        · subst e; simp [keq, keq1]
        · have h1 : keq (.bool b') (.bool b) = false := by cases b <;> cases b' <;> simp_all [keq, keq1]
          have h2 : keq (.bool b') k = false := by
            cases k <;> simp_all [keq, keq1]
          simp [h1, h2, e]
      | false =>
        simp only [cond_false, findE]
        rw [ih]
        by_cases e : b = b'
        · subst e; simp [hk]
        · simp [e]
  unfold lkM
  rw [key]
  by_cases e : b = b'
  · simp [e, qInt]
  · simp [e]
theorem lk_nil (b : Bool) : lkM [] b = 0 := rfl
theorem put_len (k : Value) (q : List Q) : ∀ es : List (Value × List Q), 0 < (putE k q es).length
  | [] => by simp [putE]
  | (k', q') :: es => by
    simp only [putE]
    cases keq k k' <;> simp

theorem hits_at {g : Nat → Nat → Q} {y h : Int} {i n : Nat} (hi : i < n) (hh : hitR (gRc g i) y h = true) : (hits g y h n).getD (hits g y h i).length 0 = i := by
  obtain ⟨l, hl⟩ := hits_prefix g y h (show i + 1 ≤ n from hi)
  rw [hl, hits_succ, if_pos hh]
  simp [List.getD_eq_getElem?_getD]

theorem ins_lk {g f : Nat → Nat → Q} {w y h : Int} {n : Nat} (hg : GOKr n g) (q : YH y h) (b : Bool) : ∀ i, i ≤ n → lkM (insE g f w (hits g y h n) (hits g y h i).length) b = rI g f w y h b i
  | 0, _ => by simp [hits, insE, lk_nil, rI]
  | i + 1, hi => by
    have ih := ins_lk (f := f) (w := w) hg q b i (by omega)
    have ih' := ins_lk (f := f) (w := w) hg q (gFl f i).r i (by omega)
    have hs := hit_skip (hg.rb (show i < n by omega)) q
    simp only [rI]
    cases hh : hitR (gRc g i) y h with
    | false =>
      have e2 : hits g y h (i + 1) = hits g y h i := by rw [hits_succ, hh]; simp
      rw [e2, hs, hh, ih]; rfl
    | true =>
      have e2 : (hits g y h (i + 1)).length = (hits g y h i).length + 1 := by rw [hits_succ, hh]; simp
      rw [e2, hs, hh]
      simp only [insE, insP, hits_at (show i < n by omega) hh, lk_put, Bool.not_true, cond_false]
      rw [ih']
      by_cases e : (gFl f i).r = b
      · subst e; rw [if_pos rfl, beq_self_eq_true]; rfl
      · rw [if_neg e, ih]
        have : ((gFl f i).r == b) = false := by simpa using e
        rw [this]; rfl

theorem insE_len {g f : Nat → Nat → Q} {w : Int} {l : List Nat} : ∀ k, (0 < (insE g f w l k).length ↔ 0 < k)
  | 0 => by simp [insE]
  | k + 1 => by
    have := put_len (.bool (gFl f (l.getD k 0)).r) [.c (.int .i64 (mx2 (lkM (insE g f w l k) (gFl f (l.getD k 0)).r) (insN w (gRc g (l.getD k 0)) (gFl f (l.getD k 0)).r)))] (insE g f w l k)
    simp only [insE, insP]
    exact ⟨fun _ => by omega, fun _ => this⟩

theorem any_hits {g : Nat → Nat → Q} {y h : Int} {n : Nat} (hg : GOKr n g) (q : YH y h) : decide (((0 : Nat) : Int) < ((hits g y h n).length : Nat)) = anyBes n g y h := by
  cases hb : anyBes n g y h with
  | true =>
    rw [anyBes, List.any_eq_true] at hb
    obtain ⟨i, hi, hh⟩ := hb
    have hi := List.mem_range.1 hi
    rw [← hit_bes (hg.rb hi) q] at hh
    have := hits_lt hi hh
    simp; omega
  | false =>
    rw [anyBes, List.any_eq_false] at hb
    have : hits g y h n = [] := by
      unfold hits
      rw [List.filter_eq_nil_iff]
      intro i hi
      rw [hit_bes (hg.rb (List.mem_range.1 hi)) q]
      exact hb i hi
    rw [this]; rfl

theorem tight_eq {n : Nat} {g f : Nat → Nat → Q} {w : Int} {x : Fl} {y : Int} (hg : GOKr n g) (q : YH y x.h) : tightY n g f w x y = !(fitsB n g f w x y) := by
  unfold tightY tightB fitsB insM
  rw [ins_lk hg q false n (Nat.le_refl _), ins_lk hg q true n (Nat.le_refl _), ← any_hits hg q]
  have e : decide (((insE g f w (hits g y x.h n) (hits g y x.h n).length).length : Int) > 0) = decide (((0 : Nat) : Int) < ((hits g y x.h n).length : Nat)) := by
    have := insE_len (g := g) (f := f) (w := w) (l := hits g y x.h n) (hits g y x.h n).length
    rw [decide_eq_decide]
    omega
  rw [e]
  by_cases hc : w64 (w64 (rI g f w y x.h false n + rI g f w y x.h true n) + x.w) ≤ w
  · have h1 : decide (w64 (w64 (rI g f w y x.h false n + rI g f w y x.h true n) + x.w) ≤ w) = true := by simpa using hc
    have h2 : decide (w64 (w64 (rI g f w y x.h false n + rI g f w y x.h true n) + x.w) > w) = false := by simp; omega
    rw [h1, h2]; rfl
  · have h1 : decide (w64 (w64 (rI g f w y x.h false n + rI g f w y x.h true n) + x.w) ≤ w) = false := by simpa using hc
    have h2 : decide (w64 (w64 (rI g f w y x.h false n + rI g f w y x.h true n) + x.w) > w) = true := by simp; omega
    rw [h1, h2]
    simp

theorem atX_eq {n : Nat} {g f : Nat → Nat → Q} {w : Int} {x : Fl} {y : Int} (hg : GOKr n g) (q : YH y x.h) : atX (insM g f w y x.h n) w x = rAt n g f w x y := by
  unfold atX rAt insM
  rw [ins_lk hg q false n (Nat.le_refl _), ins_lk hg q true n (Nat.le_refl _)]
end Go.Proofs.YtcekbimohggnoaaDoor
