/- Plain laws of floats: where one more is placed. -/
import Derived.Test.YtcekbimohggnoaaDoorFlJ
namespace Go.Proofs.YtcekbimohggnoaaDoor
open Go Go.SX Go.Proofs
set_option maxRecDepth 100000
variable [EA]
set_option linter.unusedVariables false
set_option linter.unusedSectionVars false
set_option linter.unusedSimpArgs false

/-- What one takes of a side. -/
abbrev sideN (w : Int) (r : Rc) (b : Bool) : Int := if b = true then w - r.x else r.x + r.w

theorem rI_all {n : Nat} {g f : Nat → Nat → Q} {w y h : Int} (hg : GOKr n g) (q : YH y h) (hw0 : 0 ≤ w) (hw1 : w ≤ MS) (b : Bool) : ∀ i, i ≤ n →
    0 ≤ rI g f w y h b i ∧ rI g f w y h b i ≤ MS ∧ (b = true → rI g f w y h b i ≤ w) ∧
    (∀ k, k < i → Hit (gRc g k) y h → (gFl f k).r = b → sideN w (gRc g k) b ≤ rI g f w y h b i) ∧
    ((∀ k, k < i → ¬ Hit (gRc g k) y h) → rI g f w y h b i = 0)
  | 0, _ => ⟨by simp [rI], by simp [rI, MS], fun _ => by simp [rI]; exact hw0, fun k hk => by omega, fun _ => rfl⟩
  | i + 1, hi => by
    obtain ⟨a1, a2, a3, a4, a5⟩ := rI_all (f := f) hg q hw0 hw1 b i (by omega)
    have rb := hg.rb (show i < n by omega)
    have hs := skip_iff rb q
    obtain ⟨b1, b2, b3, b4, b5, b6⟩ := rb
    have eN : insN w (gRc g i) b = sideN w (gRc g i) b := by
      simp only [MS] at *
      cases b
      · exact w64_id (by dsimp only; omega) (by dsimp only; omega)
      · exact w64_id (by dsimp only; omega) (by dsimp only; omega)
    have hb1 : sideN w (gRc g i) b ≤ MS := by
      unfold sideN; split <;> omega
    have hb2 : b = true → sideN w (gRc g i) b ≤ w := fun e => by
      unfold sideN; rw [if_pos e]; omega
    simp only [rI]
    cases hk : skipB (gRc g i) y h with
    | true =>
      simp only [cond_true]
      have hno : ¬ Hit (gRc g i) y h := fun hh => by rw [hs.2 hh] at hk; cases hk
      refine ⟨a1, a2, a3, fun k hk hh hr => ?_, fun hall => a5 fun k hk => hall k (by omega)⟩
      rcases Nat.lt_or_ge k i with h' | h'
      · exact a4 k h' hh hr
      · rw [show k = i by omega] at hh; exact absurd hh hno
    | false =>
      have hit := hs.1 hk
      simp only [cond_false]
      cases hr : ((gFl f i).r == b) with
      | false =>
        simp only [cond_false]
        refine ⟨a1, a2, a3, fun k hk hh hr' => ?_, fun hall => absurd hit (hall i (by omega))⟩
        rcases Nat.lt_or_ge k i with h' | h'
        · exact a4 k h' hh hr'
        · rw [show k = i by omega] at hr'
          have hr2 : ((gFl f i).r == b) = true := by rw [show (gFl f i).r = b from hr']; simp
          rw [hr2] at hr
          cases hr
      | true =>
        simp only [cond_true, mx2_eq, eN]
        refine ⟨by omega, by omega, fun e => by have := a3 e; have := hb2 e; omega, fun k hk hh hr' => ?_, fun hall => absurd hit (hall i (by omega))⟩
        rcases Nat.lt_or_ge k i with h' | h'
        · have := a4 k h' hh hr'; omega
        · rw [show k = i by omega]; omega

theorem any_iff {n : Nat} {g : Nat → Nat → Q} {y h : Int} (hg : GOKr n g) (q : YH y h) : anyBes n g y h = true ↔ ∃ k, k < n ∧ Hit (gRc g k) y h := by
  rw [anyBes, List.any_eq_true]
  constructor
  · rintro ⟨k, hk, hh⟩
    have hk := List.mem_range.1 hk
    exact ⟨k, hk, (bes_iff (hg.rb hk) q).1 hh⟩
  · rintro ⟨k, hk, hh⟩
    exact ⟨k, List.mem_range.2 hk, (bes_iff (hg.rb hk) q).2 hh⟩

/-- One more, in bounds. -/
structure XOK (x : Fl) (w : Int) : Prop where
  x0 : 0 ≤ x.w
  x1 : x.w ≤ MS
  h0 : 0 ≤ x.h
  h1 : x.h ≤ MS
  w0 : 0 ≤ w
  w1 : w ≤ MS
theorem FOK.xok {m : Nat} {f : Nat → Nat → Q} {w : Int} (h : FOK m f w) {i : Nat} (hi : i < m) : XOK (gFl f i) w := by
  obtain ⟨a, b, c, d⟩ := h.hf i hi
  exact ⟨a, b, c, d, h.h0, h.h1⟩

theorem fits_iff {n : Nat} {g f : Nat → Nat → Q} {w : Int} {x : Fl} {y : Int} (hg : GOKr n g) (k : XOK x w) (q : YH y x.h) :
    fitsB n g f w x y = true ↔ rI g f w y x.h false n + rI g f w y x.h true n + x.w ≤ w ∨ ∀ k, k < n → ¬ Hit (gRc g k) y x.h := by
  obtain ⟨a1, a2, _⟩ := rI_all (f := f) hg q k.w0 k.w1 false n (Nat.le_refl _)
  obtain ⟨c1, c2, _⟩ := rI_all (f := f) hg q k.w0 k.w1 true n (Nat.le_refl _)
  obtain ⟨x0, x1, h0, h1, w0, w1⟩ := k
  simp only [MS] at *
  unfold fitsB
  have e : w64 (w64 (rI g f w y x.h false n + rI g f w y x.h true n) + x.w) = rI g f w y x.h false n + rI g f w y x.h true n + x.w := by
    rw [w64_id (n := rI g f w y x.h false n + rI g f w y x.h true n) (by omega) (by omega), w64_id (by omega) (by omega)]
  rw [e]
  by_cases hc : rI g f w y x.h false n + rI g f w y x.h true n + x.w ≤ w
  · simp [hc]
  · simp only [hc, decide_false, cond_false, false_or]
    cases ha : anyBes n g y x.h with
    | true =>
      obtain ⟨k, hk, hh⟩ := (any_iff hg q).1 ha
      simp only [Bool.not_true, Bool.false_eq_true, false_iff]
      exact fun hall => hall k hk hh
    | false =>
      simp only [Bool.not_false, true_iff]
      intro k hk hh
      rw [(any_iff hg q).2 ⟨k, hk, hh⟩] at ha
      cases ha

theorem GOKr.ends {n : Nat} {g : Nat → Nat → Q} (h : GOKr n g) {i : Nat} (hi : i < n) : lowE (gRc g i) = (gRc g i).y + (gRc g i).h ∧ lowE (gRc g i) ≤ (n : Int) * MS := by
  obtain ⟨a, b, c, d, e, f, k, l⟩ := h.hr i hi
  have := h.at hi
  have hn := h.hn
  refine ⟨this.2.2.2.2.2.2.2, ?_⟩
  rw [this.2.2.2.2.2.2.2]
  simp only [MS] at *
  omega
theorem GOKr.low {n : Nat} {g : Nat → Nat → Q} (h : GOKr n g) : ∀ k, k ≤ n → lowS g k ≤ (n : Int) * MS
  | 0, _ => by simp only [lowS, MS]; omega
  | k + 1, hk => by
    have := h.low k (by omega)
    have := (h.ends (show k < n by omega)).2
    simp only [lowS, mx2_eq]
    omega
theorem lE_eq {g : Nat → Nat → Q} {y : Int} (hy : 0 ≤ y) : ∀ n, lE g y n = max y (lowS g n)
  | 0 => by simp only [lE, lowS]; omega
  | n + 1 => by
    simp only [lE, lowS, mx2_eq, lE_eq hy n]
    omega

theorem yL_eq {n : Nat} {g : Nat → Nat → Q} (hn : 0 < n) (h20 : n ≤ 20) : yL n g = (gRc g (n - 1)).y := by
  have hw : w64 ((n : Int) - 1) = n - 1 := w64_id (by omega) (by omega)
  show (gRc g (w64 ((n : Int) - 1)).toNat).y = _
  rw [hw, show ((n : Int) - 1).toNat = n - 1 by omega]
theorem yB_bounds {n : Nat} {g : Nat → Nat → Q} (h : GOKr n g) : 0 ≤ yB n g ∧ yB n g ≤ (n : Int) * MS ∧ (0 < n → yB n g = (gRc g (n - 1)).y) := by
  rcases Nat.eq_zero_or_pos n with h0 | hpos
  · have g1 : decide ((n : Int) > 0) = false := by simp [h0]
    simp only [yB, g1, cond_false, MS]
    omega
  · have g1 : decide ((n : Int) > 0) = true := by simp; omega
    simp only [yB, g1, cond_true]
    rw [yL_eq hpos h.hn]
    obtain ⟨a, b, c, d, e, f, k, l⟩ := h.hr (n - 1) (by omega)
    simp only [MS] at *
    refine ⟨e, by omega, fun _ => trivial⟩
theorem y0_eq {n : Nat} {g : Nat → Nat → Q} {x : Fl} (h : GOKr n g) : y0 n g x = leY n g x (yB n g) ∧ 0 ≤ y0 n g x ∧ y0 n g x ≤ (n : Int) * MS ∧ yB n g ≤ y0 n g x ∧ (x.c = true → lowS g n ≤ y0 n g x) := by
  obtain ⟨h1, h2, h3⟩ := yB_bounds h
  have h4 := h.low n (Nat.le_refl _)
  unfold y0 leY
  cases x.c with
  | false => simp only [cond_false]; exact ⟨trivial, h1, h2, by omega, fun h => by cases h⟩
  | true => simp only [cond_true, mx2_eq, lE_eq h1]; exact ⟨trivial, by omega, by omega, by omega, fun _ => by omega⟩

theorem yK_eq {n : Nat} {g : Nat → Nat → Q} {y : Int} : ∀ k, yK n g y k = ryK n g y k
  | 0 => rfl
  | k + 1 => by simp only [yK, ryK, yK_eq k, (nextY_eq _).1]

theorem nMS {n : Nat} (h : n ≤ 20) : (n : Int) * MS ≤ 20971520 ∧ 0 ≤ (n : Int) * MS := by
  simp only [MS]; omega

/-- Where it is asked, as long as it does not fit. -/
theorem ry_at {n : Nat} {g f : Nat → Nat → Q} {w : Int} {x : Fl} {y : Int} (hg : GOKr n g) (kx : XOK x w) (y0 : 0 ≤ y) (y1 : y ≤ (n : Int) * MS) : ∀ k, (∀ j, j < k → fitsB n g f w x (ryK n g y j) = false) → y + k ≤ ryK n g y k ∧ ryK n g y k ≤ (n : Int) * MS
  | 0, _ => ⟨by simp [ryK], y1⟩
  | k + 1, h => by
    obtain ⟨h1, h2⟩ := ry_at hg kx y0 y1 k fun j hj => h j (by omega)
    have hb := nMS hg.hn
    have q : YH (ryK n g y k) x.h := ⟨by omega, by omega, kx.h0, kx.h1⟩
    have hf := h k (by omega)
    have hex : ∃ i, i < n ∧ Hit (gRc g i) (ryK n g y k) x.h := by
      apply Classical.byContradiction
      intro hno
      rw [(fits_iff hg kx q).2 (.inr fun i hi hh => hno ⟨i, hi, hh⟩)] at hf
      cases hf
    obtain ⟨i, hi, hh⟩ := hex
    obtain ⟨e1, e2, e3, e4, e5, e6⟩ := ends_eq (ryK n g y k) (lowS_ge (g := g) n).2 n (Nat.le_refl _)
    have hgt : lowE (gRc g i) > ryK n g y k := by
      rw [(hg.ends hi).1]; exact hh.2.2.2
    obtain ⟨hok, _⟩ := e4 i hi hgt
    obtain ⟨p1, j, hj, p2⟩ := e2 hok
    have := (hg.ends hj).2
    simp only [ryK]
    omega

theorem ex_stop {n : Nat} {g f : Nat → Nat → Q} {w : Int} {x : Fl} {y : Int} (hg : GOKr n g) (kx : XOK x w) (y0 : 0 ≤ y) (y1 : y ≤ (n : Int) * MS) : ∃ k, StopR n g f w x y k := by
  apply Classical.byContradiction
  intro hno
  have hall : ∀ j, fitsB n g f w x (ryK n g y j) = false := fun j => by
    cases hb : fitsB n g f w x (ryK n g y j) with
    | false => rfl
    | true => exact absurd ⟨j, hb⟩ hno
  have h := ry_at hg kx y0 y1 20971521 fun j _ => hall j
  have hb := nMS hg.hn
  omega

theorem fin_eq {n : Nat} {g f : Nat → Nat → Q} {w : Int} {x : Fl} {y : Int} (hg : GOKr n g) (kx : XOK x w) (h0 : 0 ≤ y) (h1 : y ≤ (n : Int) * MS) :
    (∃ k, StopK n g f w x y k) ∧ finY n g f w x y = rfinY n g f w x y ∧ y ≤ rfinY n g f w x y ∧ rfinY n g f w x y ≤ (n : Int) * MS ∧ fitsB n g f w x (rfinY n g f w x y) = true := by
  have hex := ex_stop (f := f) hg kx h0 h1
  have hs := lastR_spec hex
  have hbf : ∀ k, k < lastR n g f w x y → fitsB n g f w x (ryK n g y k) = false := fun k hk => lastR_before hex hk
  have hb := nMS hg.hn
  have hq : ∀ k, k ≤ lastR n g f w x y → YH (ryK n g y k) x.h := fun k hk => by
    have := ry_at hg kx h0 h1 k fun j hj => hbf j (by omega)
    exact ⟨by omega, by omega, kx.h0, kx.h1⟩
  have sk : StopK n g f w x y (lastR n g f w x y) := by
    show tightY n g f w x (yK n g y _) = false
    rw [yK_eq, tight_eq hg (hq _ (Nat.le_refl _)), hs]; rfl
  have hexK : ∃ k, StopK n g f w x y k := ⟨_, sk⟩
  have hle : lastK n g f w x y ≤ lastR n g f w x y := by
    rcases Nat.lt_or_ge (lastR n g f w x y) (lastK n g f w x y) with h | h
    · have h2 : tightY n g f w x (yK n g y _) = true := lastK_before hexK h
      have h3 : tightY n g f w x (yK n g y _) = false := sk
      rw [h2] at h3; cases h3
    · exact h
  have hge : lastR n g f w x y ≤ lastK n g f w x y := by
    rcases Nat.lt_or_ge (lastK n g f w x y) (lastR n g f w x y) with h | h
    · have h1 : tightY n g f w x (yK n g y _) = false := lastK_spec hexK
      rw [yK_eq, tight_eq hg (hq _ hle), hbf _ h] at h1
      cases h1
    · exact h
  have he : lastK n g f w x y = lastR n g f w x y := Nat.le_antisymm hle hge
  have hr := ry_at hg kx h0 h1 _ hbf
  refine ⟨hexK, ?_, ?_, ?_, hs⟩
  · unfold finY rfinY; rw [he, yK_eq]
  · unfold rfinY; omega
  · unfold rfinY; omega

/-- Two rectangles have something in common. -/
def Over (a b : Rc) : Prop := 0 < a.w ∧ 0 < b.w ∧ 0 < a.h ∧ 0 < b.h ∧ a.x < b.x + b.w ∧ b.x < a.x + a.w ∧ a.y < b.y + b.h ∧ b.y < a.y + a.h

/-- What is known of one that is placed behind n. -/
structure PR (n : Nat) (g f : Nat → Nat → Q) (w : Int) (x : Fl) (r : Rc) : Prop where
  ew : r.w = x.w
  eh : r.h = x.h
  x0 : 0 ≤ r.x
  xw : r.x + r.w ≤ w ∨ (w < x.w ∧ r.x = 0)
  y0 : 0 ≤ r.y
  y1 : r.y ≤ (n : Int) * MS
  yb : yB n g ≤ r.y
  yc : x.c = true → lowS g n ≤ r.y
  ap : ∀ k, k < n → ¬ Over (gRc g k) r

theorem rAt_eq {n : Nat} {g f : Nat → Nat → Q} {w : Int} {x : Fl} {y : Int} (hg : GOKr n g) (k : XOK x w) (q : YH y x.h) :
    rAt n g f w x y = if x.r = true then max (w - rI g f w y x.h true n - x.w) 0 else rI g f w y x.h false n := by
  obtain ⟨c1, c2, _⟩ := rI_all (f := f) hg q k.w0 k.w1 true n (Nat.le_refl _)
  obtain ⟨x0, x1, h0, h1, w0, w1⟩ := k
  simp only [MS] at *
  unfold rAt
  rw [mx2_eq, w64_id (n := w - rI g f w y x.h true n) (by omega) (by omega), w64_id (by omega) (by omega)]
  cases x.r <;> simp

theorem pl_one {n : Nat} {g f : Nat → Nat → Q} {w : Int} {x : Fl} (hg : GOKr n g) (kx : XOK x w) :
    (∀ m, n ≤ m → plOK n g m f w x) ∧ plR n g f w x = rplR n g f w x ∧ PR n g f w x (rplR n g f w x) ∧ (∃ k, StopR n g f w x (leY n g x (yB n g)) k) ∧ fitsB n g f w x (rplY n g f w x) = true := by
  obtain ⟨e0, b0, b1, b2, b3⟩ := y0_eq (x := x) hg
  obtain ⟨f1, f2, f3, f4, f5⟩ := fin_eq (f := f) hg kx b0 b1
  have hb := nMS hg.hn
  have hY : rplY n g f w x = rfinY n g f w x (y0 n g x) := by unfold rplY; rw [e0]
  have q : YH (rplY n g f w x) x.h := ⟨by omega, by omega, kx.h0, kx.h1⟩
  have hfit : fitsB n g f w x (rplY n g f w x) = true := by rw [hY]; exact f5
  refine ⟨fun m hm => ⟨hm, by have := hg.hn; omega, f1⟩, ?_, ?_, ?_, hfit⟩
  · unfold plR
    rw [show plY n g f w x = rplY n g f w x from f2.trans hY.symm, atX_eq hg q]
  · have hf := (fits_iff hg kx q).1 hfit
    obtain ⟨l1, l2, l3, l4, l5⟩ := rI_all (f := f) hg q kx.w0 kx.w1 false n (Nat.le_refl _)
    obtain ⟨r1, r2, r3, r4, r5⟩ := rI_all (f := f) hg q kx.w0 kx.w1 true n (Nat.le_refl _)
    have ea := rAt_eq (f := f) hg kx q
    obtain ⟨x0, x1, h0, h1, w0, w1⟩ := kx
    generalize hL : rI g f w (rplY n g f w x) x.h false n = L at *
    generalize hR : rI g f w (rplY n g f w x) x.h true n = R at *
    have key : (L + R + x.w ≤ w) ∨ ((∀ k, k < n → ¬ Hit (gRc g k) (rplY n g f w x) x.h) ∧ L = 0 ∧ R = 0) := by
      rcases hf with h | h
      · exact .inl h
      · exact .inr ⟨h, l5 h, r5 h⟩
    have hx : 0 ≤ rAt n g f w x (rplY n g f w x) := by rw [ea]; split <;> omega
    refine ⟨rfl, rfl, hx, ?_, ?_, ?_, ?_, ?_, ?_⟩
    · show rAt n g f w x (rplY n g f w x) + x.w ≤ w ∨ (w < x.w ∧ rAt n g f w x (rplY n g f w x) = 0)
      rw [ea]
      rcases key with h | ⟨_, h1, h2⟩
      · left; split <;> omega
      · split <;> omega
    · show 0 ≤ rplY n g f w x; omega
    · show rplY n g f w x ≤ _; omega
    · show _ ≤ rplY n g f w x; omega
    · intro hc
      have := b3 hc
      show _ ≤ rplY n g f w x; omega
    · intro k hk ho
      obtain ⟨o1, o2, o3, o4, o5, o6, o7, o8⟩ := ho
      have e : rplR n g f w x = ⟨rAt n g f w x (rplY n g f w x), rplY n g f w x, x.w, x.h⟩ := rfl
      rw [e] at o2 o4 o5 o6 o7 o8
      simp only at o2 o4 o5 o6 o7 o8
      have hit : Hit (gRc g k) (rplY n g f w x) x.h := ⟨o1, o3, by dsimp only; omega, o8⟩
      rcases key with h | ⟨h, _, _⟩
      · cases hr : (gFl f k).r with
        | false =>
          have := l4 k hk hit hr
          simp only [sideN, Bool.false_eq_true, if_false] at this
          rw [ea] at o6
          revert o6; split <;> intro o6 <;> omega
        | true =>
          have := r4 k hk hit hr
          simp only [sideN, if_true] at this
          rw [ea] at o5
          revert o5; split <;> intro o5 <;> omega
      · exact h k hk hit
  · have := ex_stop (f := f) hg kx b0 b1
    rw [e0] at this
    exact this
end Go.Proofs.YtcekbimohggnoaaDoor
