/- Plain laws of floats: where all are placed. -/
import Derived.Test.YtcekbimohggnoaaDoorFlK
namespace Go.Proofs.YtcekbimohggnoaaDoor
open Go Go.SX Go.Proofs
set_option maxRecDepth 100000
variable [EA]
set_option linter.unusedVariables false
set_option linter.unusedSectionVars false
set_option linter.unusedSimpArgs false

theorem gz_id (g : Nat → Nat → Q) : gz g = g := by
  funext i j
  show g ((0 : Int).toNat + i) j = g i j
  rw [show (0 : Int).toNat + i = i by simp]
theorem cat_lt {n : Nat} {g h : Nat → Nat → Q} {k : Nat} (hk : k < n) : gRc (catG n g h) k = gRc g k := by
  simp only [gRc, catG, decide_eq_true hk, cond_true]
theorem cat_at {n : Nat} {g : Nat → Nat → Q} {r : Rc} : gRc (catG n g (one1 r)) n = r := by
  have : decide (n < n) = false := by simp
  simp only [gRc, catG, this, cond_false, Nat.sub_self]
  rfl

/-- Two rows are the same, the first n. -/
def Same (n : Nat) (g g' : Nat → Nat → Q) : Prop := ∀ k, k < n → gRc g k = gRc g' k
theorem low_same {g g' : Nat → Nat → Q} : ∀ n, Same n g g' → lowS g n = lowS g' n
  | 0, _ => rfl
  | n + 1, h => by simp only [lowS, low_same n fun k hk => h k (by omega), h n (by omega)]
theorem yB_same {g g' : Nat → Nat → Q} {n : Nat} (hn : n ≤ 20) (h : Same n g g') : yB n g = yB n g' := by
  rcases Nat.eq_zero_or_pos n with h0 | hpos
  · have g1 : decide ((n : Int) > 0) = false := by simp [h0]
    simp only [yB, g1, cond_false]
  · simp only [yB]
    rw [yL_eq hpos hn, yL_eq hpos hn, h (n - 1) (by omega)]
theorem PR.same {n : Nat} {g g' f : Nat → Nat → Q} {w : Int} {x : Fl} {r : Rc} (hn : n ≤ 20) (h : Same n g g') (p : PR n g f w x r) : PR n g' f w x r := by
  obtain ⟨a, b, c, d, e, e2, e3, e4, e5⟩ := p
  exact ⟨a, b, c, d, e, e2, by rw [← yB_same hn h]; exact e3, by rw [← low_same n h]; exact e4, fun k hk => by rw [← h k hk]; exact e5 k hk⟩

/-- All of a row are placed as they must be. -/
structure All (n : Nat) (g f : Nat → Nat → Q) (w : Int) : Prop where
  ok : GOKr n g
  pr : ∀ k, k < n → PR k g f w (gFl f k) (gRc g k)

theorem All.le {n k : Nat} {g f : Nat → Nat → Q} {w : Int} (h : All n g f w) (hk : k ≤ n) : All k g f w := ⟨h.ok.le hk, fun i hi => h.pr i (by omega)⟩
theorem All.same {n : Nat} {g g' f : Nat → Nat → Q} {w : Int} (h : All n g f w) (hs : Same n g g') : All n g' f w :=
  ⟨⟨h.ok.hn, fun i hi => by rw [← hs i hi]; exact h.ok.hr i hi⟩, fun k hk => by
    rw [← hs k hk]
    exact (h.pr k hk).same (by have := h.ok.hn; omega) fun j hj => hs j (by omega)⟩

theorem all_step {n m : Nat} {g f : Nat → Nat → Q} {w : Int} (h : All n g f w) (hF : FOK m f w) (hn : n < m) : All (n + 1) (catG n g (one1 (rplR n g f w (gFl f n)))) f w := by
  obtain ⟨_, _, p, _⟩ := pl_one (f := f) h.ok (hF.xok hn)
  have kx := hF.xok hn
  have hs : Same n g (catG n g (one1 (rplR n g f w (gFl f n)))) := fun k hk => (cat_lt hk).symm
  have h' := h.same hs
  refine ⟨⟨by have := hF.hm; omega, fun i hi => ?_⟩, fun k hk => ?_⟩
  · rcases Nat.lt_or_ge i n with hlt | hge
    · exact h'.ok.hr i hlt
    · obtain rfl : i = n := by omega
      rw [cat_at]
      obtain ⟨a, b, c, d, e, e2, _⟩ := p
      obtain ⟨x0, x1, h0, h1, w0, w1⟩ := kx
      generalize rplR i g f w (gFl f i) = r at *
      simp only [MS] at *
      refine ⟨c, ?_, by omega, ?_, e, by omega, by omega, by omega⟩
      · rcases d with d | d <;> omega
      · rcases d with d | d <;> omega
  · rcases Nat.lt_or_ge k n with hlt | hge
    · exact h'.pr k hlt
    · obtain rfl : k = n := by omega
      rw [cat_at]
      exact p.same (by have := hF.hm; omega) hs

theorem gR_all {m : Nat} {f : Nat → Nat → Q} {w : Int} (hF : FOK m f w) : ∀ i, i ≤ m → All i (gR f w i) f w
  | 0, _ => ⟨⟨by omega, fun i hi => by omega⟩, fun k hk => by omega⟩
  | i + 1, hi => all_step (gR_all hF i (by omega)) hF hi

theorem gP_eq {m : Nat} {f : Nat → Nat → Q} {w : Int} (hF : FOK m f w) : ∀ i, i ≤ m → gP f w i = gR f w i
  | 0, _ => rfl
  | i + 1, hi => by
    obtain ⟨_, e, _⟩ := pl_one (f := f) (gR_all hF i (by omega)).ok (hF.xok hi)
    simp only [gP, gR, plG, gz_id, gP_eq hF i (by omega), e]

theorem all_pl {m : Nat} {f : Nat → Nat → Q} {w : Int} (hF : FOK m f w) : allPl m f w := fun i hi => by
  obtain ⟨h, _⟩ := pl_one (f := f) (gR_all hF i (by omega)).ok (hF.xok hi)
  rw [gP_eq hF i (by omega)]
  exact h m (by omega)
theorem all_rp {m : Nat} {f : Nat → Nat → Q} {w : Int} (hF : FOK m f w) : allRp m f w := ⟨by have := hF.hm; omega, fun i hi => by
  obtain ⟨_, _, _, h, _⟩ := pl_one (f := f) (gR_all hF i (by omega)).ok (hF.xok hi)
  exact h⟩

/-- What is placed stays. -/
theorem gR_pre (f : Nat → Nat → Q) (w : Int) {i : Nat} : ∀ j, i ≤ j → Same i (gR f w j) (gR f w i)
  | 0, h => fun k hk => by omega
  | j + 1, h => fun k hk => by
    rcases Nat.lt_or_ge i (j + 1) with hlt | hge
    · show gRc (catG j (gR f w j) _) k = _
      rw [cat_lt (by omega)]
      exact gR_pre f w j (by omega) k hk
    · rw [show i = j + 1 by omega]

/-- Floats that are the same, the first i, are placed the same. -/
theorem gR_congr {f f' : Nat → Nat → Q} {w : Int} (h : ∀ k j, f k j = f' k j) (i : Nat) : gR f w i = gR f' w i := by
  have : f = f' := by funext k j; exact h k j
  rw [this]

theorem lastR_is {n : Nat} {g f : Nat → Nat → Q} {w : Int} {x : Fl} {y : Int} {k : Nat} (h : StopR n g f w x y k) (hb : ∀ j, j < k → fitsB n g f w x (ryK n g y j) = false) : lastR n g f w x y = k := by
  have hex : ∃ k, StopR n g f w x y k := ⟨k, h⟩
  rcases Nat.lt_or_ge k (lastR n g f w x y) with h1 | h1
  · have h2 := lastR_before hex h1
    have h3 : fitsB n g f w x (ryK n g y k) = true := h
    rw [h2] at h3; cases h3
  · rcases Nat.lt_or_ge (lastR n g f w x y) k with h2 | h2
    · have h3 := hb _ h2
      have h4 : fitsB n g f w x (ryK n g y _) = true := lastR_spec hex
      rw [h3] at h4; cases h4
    · omega
end Go.Proofs.YtcekbimohggnoaaDoor
