/- The card of WrapApart: no line meets a float, unless it is wider than the whole width; lines are one below the other. -/
import Derived.Test.YthmlbmambcigcaaGreatDoorMe
namespace Go.Proofs.YthmlbmambcigcaaGreatDoor
open Go Go.SX Go.Proofs Go.RowKit
set_option maxRecDepth 100000
variable [EA]
set_option linter.unusedVariables false
set_option linter.unusedSectionVars false
set_option linter.unusedSimpArgs false

/-! ### a text's words -/
def tot (l : List Wd) : Nat := (l.map fun x => x.t.size).sum
theorem tot_app (l : List Wd) (x : Wd) : tot (l ++ [x]) = tot l + x.t.size := by simp [tot]
structure WI (l : List Wd) (i : Nat) : Prop where
  ok : ∀ x ∈ l, badR x = false
  tot : tot l ≤ i
  len : l.length ≤ i
theorem badR_at (b : ByteArray) (hb : b.size ≤ 400) {i e : Nat} (hi : i < e) (he : e ≤ b.size) {sp hd : Int} (hs : sp = 0 ∨ sp = 256) (hh : 0 ≤ hd ∧ hd ≤ 400) : badR (wdAt b i e sp hd) = false ∧ (wdAt b i e sp hd).t.size = e - i := by
  have hz : (subT b i e).size = e - i := by
    show (b.extract (i : Int).toNat (e : Int).toNat).size = _
    rw [ByteArray.size_extract, Int.toNat_natCast, Int.toNat_natCast]; omega
  refine ⟨?_, hz⟩
  unfold badR
  have h1 : ((wdAt b i e sp hd).t.toList == (ByteArray.mk #[]).toList) = false := by
    rw [beq_eq_false_iff_ne]
    intro h
    rw [ByteArray.toList_eq, ByteArray.toList_eq] at h
    have := congrArg List.length h
    have e2 : (subT b i e).data.toList.length = e - i := hz
    replace this : (subT b i e).data.toList.length = 0 := this
    omega
  have h2 : decide (((wdAt b i e sp hd).t.size : Int) > 400) = false := decide_eq_false (by show ¬ ((subT b i e).size : Int) > 400; omega)
  have h3 : ((wdAt b i e sp hd).w != wsum (wdAt b i e sp hd).t (wdAt b i e sp hd).t.size) = false := by simp [wdAt]
  have h4 : (bif decide ((wdAt b i e sp hd).h < 0) then true else decide ((wdAt b i e sp hd).h > 400)) = false := by
    rw [cond_or]; exact decide_eq_false (by show ¬ (hd < 0 ∨ hd > 400); omega)
  rw [h1, h2, h3, h4]
  rcases hs with rfl | rfl <;> rfl
theorem wordsF_inv (b : ByteArray) (hb : b.size ≤ 400) : ∀ (k : Nat) (l : List Wd) (sp hd : Int) (i : Nat), i ≤ b.size → b.size ≤ k + i → WI l i → (sp = 0 ∨ sp = 256) → 0 ≤ hd → hd ≤ i → WI (wordsF b k l sp hd i) b.size
  | 0, l, sp, hd, i, h1, h2, h3, h4, h5, h6 => by
    have : i = b.size := by omega
    subst this; exact h3
  | k + 1, l, sp, hd, i, h1, h2, h3, h4, h5, h6 => by
    rw [wordsF]
    split
    · rename_i hlt
      have up : ∀ e, i ≤ e → WI l e := fun e he => ⟨h3.ok, Nat.le_trans h3.tot he, Nat.le_trans h3.len he⟩
      cases g1 : sByte b i == 10 with
      | true =>
        show WI (wordsF b k l 0 (w64 (hd + 1)) (i + 1)) b.size
        rw [w64_id (by omega) (by omega)]
        exact wordsF_inv b hb k l 0 (hd + 1) (i + 1) hlt (by omega) (up _ (by omega)) (.inl rfl) (by omega) (by omega)
      | false =>
        cases g2 : sByte b i == 32 with
        | true => exact wordsF_inv b hb k l 256 hd (i + 1) hlt (by omega) (up _ (by omega)) (.inr rfl) h5 (by omega)
        | false =>
          have p1 := pn_le b h1
          have p2 := pn_pos b hlt g1 g2
          have hsp : (bif (l.length : Int) == 0 then 0 else sp) = 0 ∨ (bif (l.length : Int) == 0 then 0 else sp) = 256 := by
            cases (l.length : Int) == 0
            · exact h4
            · exact .inl rfl
          obtain ⟨q1, q2⟩ := badR_at b hb (i := i) (e := i + pn b i) (hd := hd) (by omega) p1 hsp ⟨h5, by omega⟩
          refine wordsF_inv b hb k (l ++ [wdAt b i (i + pn b i : Nat) (bif (l.length : Int) == 0 then 0 else sp) hd]) 0 0 (i + pn b i) p1 (by omega) ⟨fun x hx => ?_, ?_, ?_⟩ (.inl rfl) (Int.le_refl _) (by omega)
          · rcases List.mem_append.1 hx with hx | hx
            · exact h3.ok x hx
            · rw [List.mem_singleton.1 hx]; exact q1
          · rw [tot_app, q2]; have := h3.tot; omega
          · rw [List.length_append, List.length_singleton]; have := h3.len; omega
    · have : i = b.size := by omega
      subst this; exact h3
theorem words_inv (b : ByteArray) (hb : b.size ≤ 400) : WI (words b) b.size := wordsF_inv b hb b.size [] 0 0 0 (Nat.zero_le _) (by omega) ⟨fun x hx => absurd hx (List.not_mem_nil), Nat.le_refl _, Nat.le_refl _⟩ (.inl rfl) (Int.le_refl _) (Int.le_refl _)
theorem words_right (b : ByteArray) (hb : b.size ≤ 400) : rightW (words b).length (gOf wdQ (words b)) = true := by
  have h := words_inv b hb
  unfold rightW
  rw [allN_true fun i hi => by
    rw [gWd_of hi, ← badR_eq, h.ok _ (List.getElem_mem hi)]; rfl]
  have := h.len
  exact decide_eq_true (by omega)

/-! ### a line's text is as wide as the line -/
/-- How wide m words from k on are, with what is ahead of each. -/
def qS (g : Nat → Nat → Q) (k : Nat) : Nat → Int
  | 0 => 0
  | m + 1 => qS g k m + (gWd g (k + m)).s + (gWd g (k + m)).w
theorem qS_cons (g : Nat → Nat → Q) (k : Nat) : ∀ m, qS g k (m + 1) = (gWd g k).s + (gWd g k).w + qS g (k + 1) m
  | 0 => by simp [qS]
  | m + 1 => by
    rw [qS, qS_cons g k m, qS, show k + 1 + m = k + (m + 1) by omega]; omega
theorem tkF_sum {n : Nat} {g : Nat → Nat → Q} (hg : GdW n g) {w : Int} (hw2 : w ≤ 1000000000) : ∀ f k v, k + f ≤ n → 0 ≤ v → v ≤ 1000000000000 → (tkF g w f k v).2 = v + qS g k ((tkF g w f k v).1 - k)
  | 0, k, v, _, _, _ => by simp [tkF, qS]
  | f + 1, k, v, hk, h0, h2 => by
    rw [tkF_suc]
    have gd := hg.2 k (by omega)
    cases ht : takeB w v (gWd g k) with
    | true =>
      obtain ⟨a1, a2⟩ := takeB_iff.1 ht
      have b1 := addW_gd h0 h2 gd
      have s0 := gd.s0
      have w0 := gd.w0
      have ih := tkF_sum hg hw2 f (k + 1) (addW v (gWd g k)) (by omega) (by omega) (by omega)
      have hge := tkF_ge g w f (k + 1) (addW v (gWd g k))
      show (tkF g w f (k + 1) (addW v (gWd g k))).2 = v + qS g k ((tkF g w f (k + 1) (addW v (gWd g k))).1 - k)
      rw [ih, show (tkF g w f (k + 1) (addW v (gWd g k))).1 - k = ((tkF g w f (k + 1) (addW v (gWd g k))).1 - (k + 1)) + 1 by omega, qS_cons]
      omega
    | false => show v = v + qS g k (k - k); rw [Nat.sub_self]; simp [qS]
theorem putT_wide (b : ByteArray) (hb : b.size ≤ 500000) (f : Bool) {x : Wd} (hx : Gd x) : wsum (putT b f x) (putT b f x).size = wsum b b.size + (bif f then 0 else x.s) + x.w := by
  have ht := hx.t
  unfold putT
  cases f with
  | true => show wsum (b ++ x.t) (b ++ x.t).size = _; rw [wsum_app b x.t (by omega), ← hx.w]; simp
  | false =>
    rcases hx.s with h | h
    · rw [h]
      show wsum (b ++ x.t) (b ++ x.t).size = _
      rw [wsum_app b x.t (by omega), ← hx.w]; simp
    · rw [h]
      show wsum (b ++ blank ++ x.t) (b ++ blank ++ x.t).size = _
      have h1 : (b ++ blank).size = b.size + 1 := size_app b blank
      rw [wsum_app (b ++ blank) x.t (by omega), wsum_app b blank (by show b.size + 1 ≤ _; omega), wsum_blank, ← hx.w]; rfl
theorem txF_wide {n : Nat} {g : Nat → Nat → Q} (hg : GdW n g) (a : Nat) : ∀ m, a + m < n → wsum (txF g a (m + 1)) (txF g a (m + 1)).size = (gWd g a).w + qS g (a + 1) m
  | 0, h => by
    show wsum (putT noT true (gWd g (a + 0))) _ = _
    have := putT_wide noT (Nat.zero_le _) true (hg.2 (a + 0) h)
    refine this.trans ?_
    show (0 : Int) + 0 + (gWd g a).w = _ + 0
    omega
  | m + 1, h => by
    have ih := txF_wide hg a m (by omega)
    have hn := hg.1
    have hsz := txF_size g a (m + 1) fun j hj => (hg.2 (a + j) (by omega)).t
    show wsum (putT (txF g a (m + 1)) (decide (m + 1 = 0)) (gWd g (a + (m + 1)))) (putT (txF g a (m + 1)) (decide (m + 1 = 0)) (gWd g (a + (m + 1)))).size = _
    rw [decide_eq_false (by omega), putT_wide (txF g a (m + 1)) (by omega) false (hg.2 (a + (m + 1)) h), ih]
    show _ = (gWd g a).w + (qS g (a + 1) m + (gWd g (a + 1 + m)).s + (gWd g (a + 1 + m)).w)
    rw [show a + 1 + m = a + (m + 1) by omega]
    show (gWd g a).w + qS g (a + 1) m + (gWd g (a + (m + 1))).s + _ = _
    omega
theorem line_wide {n : Nat} {g : Nat → Nat → Q} (hg : GdW n g) {w : Int} (hw2 : w ≤ 1000000000) {i : Nat} (hi : i < n) : wsum (txF g i (nextZ n g w i - i)) (txF g i (nextZ n g w i - i)).size = (nextL n g w i).w := by
  have z1 := nextZ_gt n g w i
  have z2 := nextZ_le (g := g) (w := w) hi
  have a := hg.w1 hi
  have h := tkF_sum hg hw2 (n - (i + 1)) (i + 1) (gWd g i).w (by omega) a.1 (by omega)
  rw [show nextZ n g w i - i = (nextZ n g w i - (i + 1)) + 1 by omega, txF_wide hg i _ (by omega)]
  exact h.symm

/-! ### a width that all fit -/
/-- Where the next line end is; how wide all is up to there. -/
def hzF (g : Nat → Nat → Q) : Nat → Nat → Nat
  | 0, k => k
  | f + 1, k => if (gWd g k).h = 0 then hzF g f (k + 1) else k
def sF (g : Nat → Nat → Q) : Nat → Nat → Int
  | 0, _ => 0
  | f + 1, k => if (gWd g k).h = 0 then (gWd g k).s + (gWd g k).w + sF g f (k + 1) else 0
def szS (g : Nat → Nat → Q) : Nat → Nat → Nat
  | 0, _ => 0
  | f + 1, k => (gWd g k).t.size + szS g f (k + 1)
def hS (g : Nat → Nat → Q) : Nat → Nat → Int
  | 0, _ => 0
  | f + 1, k => (gWd g k).h + hS g f (k + 1)
theorem sF_le {n : Nat} {g : Nat → Nat → Q} (hg : GdW n g) : ∀ f k, k + f ≤ n → 0 ≤ sF g f k ∧ sF g f k ≤ 256 * (f : Int) + 1024 * (szS g f k : Int)
  | 0, k, _ => ⟨Int.le_refl _, Int.le_refl _⟩
  | f + 1, k, h => by
    have gd := hg.2 k (by omega)
    have s0 := gd.s0
    have w0 := gd.w0
    have ih := sF_le hg f (k + 1) (by omega)
    rw [sF, szS]
    split
    · omega
    · omega
theorem szS_le {n : Nat} {g : Nat → Nat → Q} (hg : GdW n g) : ∀ f k, k + f ≤ n → szS g f k ≤ 400 * f
  | 0, k, _ => Nat.le_refl _
  | f + 1, k, h => by
    have := (hg.2 k (by omega)).t
    have := szS_le hg f (k + 1) (by omega)
    rw [szS]; omega
theorem hzF_le (g : Nat → Nat → Q) : ∀ f k, k ≤ hzF g f k ∧ hzF g f k ≤ k + f
  | 0, k => ⟨Nat.le_refl _, Nat.le_refl _⟩
  | f + 1, k => by
    have := hzF_le g f (k + 1)
    rw [hzF]
    split <;> omega
theorem hzF_stop (g : Nat → Nat → Q) : ∀ f k, hzF g f k = k + f ∨ ¬ (gWd g (hzF g f k)).h = 0
  | 0, k => .inl rfl
  | f + 1, k => by
    rw [hzF]
    split
    · have := hzF_stop g f (k + 1)
      rwa [show k + 1 + f = k + (f + 1) by omega] at this
    · rename_i h; exact .inr h
theorem hS_hz (g : Nat → Nat → Q) : ∀ f k, hS g f k = hS g (k + f - hzF g f k) (hzF g f k)
  | 0, k => by simp [hS, hzF]
  | f + 1, k => by
    rw [hzF]
    split
    · rename_i h
      rw [hS, h, hS_hz g f (k + 1), show k + 1 + f = k + (f + 1) by omega]; omega
    · rw [show k + (f + 1) - k = f + 1 by omega]
theorem hS_snoc (g : Nat → Nat → Q) : ∀ f k, hS g (f + 1) k = hS g f k + (gWd g (k + f)).h
  | 0, k => by simp [hS]
  | f + 1, k => by
    rw [hS, hS_snoc g f (k + 1), hS, show k + 1 + f = k + (f + 1) by omega]; omega
theorem sF_pass {n : Nat} {g : Nat → Nat → Q} (hg : GdW n g) (i : Nat) : ∀ f k, k + f ≤ n → k ≤ i → i < hzF g f k → (gWd g i).w + sF g (k + f - (i + 1)) (i + 1) ≤ sF g f k
  | 0, k, _, h1, h2 => by have : i < k := h2; omega
  | f + 1, k, hk, h1, h2 => by
    rw [hzF] at h2
    rw [sF]
    have gd := hg.2 k (by omega)
    have s0 := gd.s0
    have w0 := gd.w0
    split at h2
    · rename_i hh
      rw [if_pos hh]
      rcases Nat.lt_or_ge k i with hlt | hge
      · have := sF_pass hg i f (k + 1) (by omega) (by omega) h2
        rw [show k + 1 + f - (i + 1) = k + (f + 1) - (i + 1) by omega] at this
        omega
      · have : i = k := by omega
        subst this
        rw [show i + (f + 1) - (i + 1) = f by omega]; omega
    · omega
theorem tkF_fit {n : Nat} {g : Nat → Nat → Q} (hg : GdW n g) {w : Int} (hw2 : w ≤ 1000000000) : ∀ f k v, k + f ≤ n → 0 ≤ v → v + sF g f k ≤ w → tkF g w f k v = (hzF g f k, v + sF g f k)
  | 0, k, v, _, _, _ => by simp [tkF, hzF, sF]
  | f + 1, k, v, hk, h0, h => by
    have gd := hg.2 k (by omega)
    have s0 := gd.s0
    have w0 := gd.w0
    rw [tkF_suc, hzF, sF]
    rw [sF] at h
    have hs := sF_le hg f (k + 1) (by omega)
    by_cases hh : (gWd g k).h = 0
    · rw [if_pos hh] at h
      rw [if_pos hh, if_pos hh]
      have b1 := addW_gd h0 (by omega) gd
      rw [takeB_iff.2 ⟨hh, by omega⟩]
      show tkF g w f (k + 1) (addW v (gWd g k)) = _
      rw [tkF_fit hg hw2 f (k + 1) (addW v (gWd g k)) (by omega) (by omega) (by omega), b1]
      congr 1; omega
    · rw [if_neg hh] at h
      rw [if_neg hh, if_neg hh]
      cases ht : takeB w v (gWd g k) with
      | true => exact absurd (takeB_iff.1 ht).1 hh
      | false => show (k, v) = _; rw [Int.add_zero]
theorem moI_eq {n : Nat} {g : Nat → Nat → Q} (hg : GdW n g) : ∀ f k b v, k + f ≤ n → 0 ≤ v → v ≤ b → v ≤ 1000000000 + 500000 * (k : Int) → moI g f b v k = max b (v + sF g f k)
  | 0, k, b, v, _, _, h, _ => by simp [moI, sF]; omega
  | f + 1, k, b, v, hk, h0, hb, hv => by
    have gd := hg.2 k (by omega)
    have s0 := gd.s0
    have w0 := gd.w0
    have t0 := gd.t
    have hn := hg.1
    have hs := sF_le hg f (k + 1) (by omega)
    rw [moI, sF]
    by_cases hh : (gWd g k).h = 0
    · rw [if_pos hh, hh]
      have b1 := addW_gd h0 (by omega) gd
      show moI g f (mx2 b (addW v (gWd g k))) (addW v (gWd g k)) (k + 1) = _
      rw [mx2_eq, moI_eq hg f (k + 1) _ _ (by omega) (by omega) (by omega) (by omega), b1]
      omega
    · have h1 : ¬ (gWd g k).h ≤ 0 := by have := gd.h; omega
      rw [if_neg hh, decide_eq_false h1]
      show b = _
      omega
/-- How wide all is from a word to the next line end. -/
def rho (n : Nat) (g : Nat → Nat → Q) (i : Nat) : Int := (gWd g i).w + sF g (n - (i + 1)) (i + 1)
theorem moO_suc {n : Nat} {g : Nat → Nat → Q} (hg : GdW n g) {i : Nat} (hi : i < n) : moO n g (i + 1) = max (moO n g i) (rho n g i) := by
  have a := hg.w1 hi
  have hs := sF_le hg (n - (i + 1)) (i + 1) (by omega)
  rw [moO, mx2_eq, moI_eq hg _ _ _ _ (by omega) a.1 (by omega) (by omega)]
  unfold rho
  omega
theorem moO_le {n : Nat} {g : Nat → Nat → Q} (hg : GdW n g) (X : Int) : ∀ k, k ≤ n → (moO n g k ≤ X ↔ (gWd g 0).w ≤ X ∧ ∀ i, i < k → rho n g i ≤ X)
  | 0, _ => by simp [moO]
  | k + 1, hk => by
    rw [moO_suc hg hk]
    have ih := moO_le hg X k (by omega)
    constructor
    · intro h
      obtain ⟨h1, h2⟩ := ih.1 (by omega)
      refine ⟨h1, fun i hi => ?_⟩
      rcases Nat.lt_or_ge i k with h3 | h3
      · exact h2 i h3
      · rw [show i = k by omega]; omega
    · intro h
      have h1 := ih.2 ⟨h.1, fun i hi => h.2 i (by omega)⟩
      have h2 := h.2 k (by omega)
      omega
theorem szS_tot (l : List Wd) : ∀ f k, k + f = l.length → szS (gOf wdQ l) f k = tot (l.drop k)
  | 0, k, h => by rw [List.drop_of_length_le (by omega)]; rfl
  | f + 1, k, h => by
    have hk : k < l.length := by omega
    rw [szS, szS_tot l f (k + 1) (by omega), List.drop_eq_getElem_cons hk, gWd_of hk]
    rfl
theorem szS_drop (g : Nat → Nat → Q) : ∀ f k, szS g f (k + 1) ≤ szS g (f + 1) k := fun f k => by rw [szS]; omega
theorem szS_mono (g : Nat → Nat → Q) (n : Nat) : ∀ k, k ≤ n → szS g (n - k) k ≤ szS g n 0
  | 0, _ => Nat.le_refl _
  | k + 1, h => by
    have h1 := szS_mono g n k (by omega)
    have h2 := szS_drop g (n - (k + 1)) k
    rw [show n - (k + 1) + 1 = n - k by omega] at h2
    omega
theorem widest_le (L : List Ln) (X : Int) : widestL (gOf lnQ L) L.length ≤ X ↔ 0 ≤ X ∧ ∀ x ∈ L, x.w ≤ X := by
  have key : ∀ n, widestL (gOf lnQ L) n ≤ X ↔ 0 ≤ X ∧ ∀ i, i < n → (gLn (gOf lnQ L) i).w ≤ X := by
    intro n
    induction n with
    | zero => simp [widestL]
    | succ n ih =>
      rw [widestL, mx2_eq]
      constructor
      · intro h
        obtain ⟨h1, h2⟩ := ih.1 (by omega)
        refine ⟨h1, fun i hi => ?_⟩
        rcases Nat.lt_or_ge i n with h3 | h3
        · exact h2 i h3
        · rw [show i = n by omega]; omega
      · intro h
        have h1 := ih.2 ⟨h.1, fun i hi => h.2 i (by omega)⟩
        have h2 := h.2 n (by omega)
        omega
  rw [key]
  refine and_congr_right fun _ => ⟨fun h x hx => ?_, fun h i hi => ?_⟩
  · obtain ⟨i, hi, rfl⟩ := List.mem_iff_getElem.1 hx
    have := h i hi
    rwa [gLn_of hi] at this
  · rw [gLn_of hi]; exact h _ (List.getElem_mem hi)
section
variable {n : Nat} {g : Nat → Nat → Q}
theorem next_fit (hg : GdW n g) (h2 : moO n g n ≤ 1000000000) {i : Nat} (hi : i < n) : tkF g (moO n g n) (n - (i + 1)) (i + 1) (gWd g i).w = (hzF g (n - (i + 1)) (i + 1), rho n g i) := by
  have a := hg.w1 hi
  have := ((moO_le hg (moO n g n) n (Nat.le_refl _)).1 (Int.le_refl _)).2 i hi
  exact tkF_fit hg h2 _ _ _ (by omega) a.1 this
theorem len_fit (hg : GdW n g) (h2 : moO n g n ≤ 1000000000) : ∀ f i, i ≤ n → n ≤ f + i → (i = n ∨ (0 < i ∧ ¬ (gWd g i).h = 0)) → ((linesF n g (moO n g n) f i).length : Int) = hS g (n - i) i
  | 0, i, h1, hf, _ => by
    rw [linesF_end n g _ (by omega), show n - i = 0 by omega]; rfl
  | f + 1, i, h1, hf, hc => by
    rcases Nat.lt_or_ge i n with hi | hge
    · have hz : nextZ n g (moO n g n) i = hzF g (n - (i + 1)) (i + 1) := by show (tkF g _ _ _ _).1 = _; rw [next_fit hg h2 hi]
      have hz2 := hzF_le g (n - (i + 1)) (i + 1)
      have hst := hzF_stop g (n - (i + 1)) (i + 1)
      have hh := (hg.2 i hi).h
      obtain ⟨c1, c2⟩ : 0 < i ∧ ¬ (gWd g i).h = 0 := hc.resolve_left (by omega)
      have hk : kBo i = 1 := by
        have : decide ((i : Int) > 0) = true := decide_eq_true (by omega)
        unfold kBo; rw [this]; rfl
      have he : (emptyN g i : Int) = (gWd g i).h - 1 := by
        show ((((gWd g i).h - kBo i).toNat : Nat) : Int) = _
        rw [hk]; omega
      rw [lines_len n g _ hi, hz]
      have ih := len_fit hg h2 f (hzF g (n - (i + 1)) (i + 1)) (by omega) (by omega) (by
        rcases hst with h | h
        · exact .inl (by omega)
        · exact .inr ⟨by omega, h⟩)
      have hs := hS_hz g (n - (i + 1)) (i + 1)
      rw [show i + 1 + (n - (i + 1)) - hzF g (n - (i + 1)) (i + 1) = n - hzF g (n - (i + 1)) (i + 1) by omega] at hs
      rw [show n - i = (n - (i + 1)) + 1 by omega, hS, hs, ← ih]
      omega
    · rw [linesF_end n g _ hge, show n - i = 0 by omega]; rfl
theorem len_all (hg : GdW n g) (h2 : moO n g n ≤ 1000000000) (h0 : 0 < n) : ((breakL n g (moO n g n)).length : Int) = hS g n 0 + 1 := by
  obtain ⟨f, rfl⟩ : ∃ f, n = f + 1 := ⟨n - 1, by omega⟩
  have hz : nextZ (f + 1) g (moO (f + 1) g (f + 1)) 0 = hzF g (f + 1 - (0 + 1)) (0 + 1) := by show (tkF g _ _ _ _).1 = _; rw [next_fit hg h2 h0]
  have hz2 := hzF_le g (f + 1 - (0 + 1)) (0 + 1)
  have hst := hzF_stop g (f + 1 - (0 + 1)) (0 + 1)
  have hh := (hg.2 0 h0).h
  have he : (emptyN g 0 : Int) = (gWd g 0).h := by
    show ((((gWd g 0).h - kBo 0).toNat : Nat) : Int) = _
    show ((((gWd g 0).h - 0).toNat : Nat) : Int) = _
    omega
  show ((linesF (f + 1) g (moO (f + 1) g (f + 1)) (f + 1) 0).length : Int) = _
  rw [lines_len (f + 1) g _ h0, hz]
  have ih := len_fit hg h2 f (hzF g (f + 1 - (0 + 1)) (0 + 1)) (by omega) (by omega) (by
    rcases hst with h | h
    · exact .inl (by omega)
    · exact .inr ⟨by omega, h⟩)
  have hs := hS_hz g (f + 1 - (0 + 1)) (0 + 1)
  rw [show 0 + 1 + (f + 1 - (0 + 1)) - hzF g (f + 1 - (0 + 1)) (0 + 1) = f + 1 - hzF g (f + 1 - (0 + 1)) (0 + 1) by omega] at hs
  rw [hS, show hS g f (0 + 1) = hS g (f + 1 - (0 + 1)) (0 + 1) by rw [show f + 1 - (0 + 1) = f by omega], hs, ← ih]
  omega
theorem rho_start (hg : GdW n g) (h2 : moO n g n ≤ 1000000000) {s i : Nat} (hs : s ≤ i) (hi : i < nextZ n g (moO n g n) s) (hin : i < n) : rho n g i ≤ rho n g s := by
  have hsn : s < n := by omega
  have hz : nextZ n g (moO n g n) s = hzF g (n - (s + 1)) (s + 1) := by show (tkF g _ _ _ _).1 = _; rw [next_fit hg h2 hsn]
  rw [hz] at hi
  rcases Nat.lt_or_ge s i with hlt | hge
  · have a := hg.w1 hsn
    have := sF_pass hg i (n - (s + 1)) (s + 1) (by omega) hlt hi
    rw [show s + 1 + (n - (s + 1)) - (i + 1) = n - (i + 1) by omega] at this
    unfold rho
    omega
  · rw [show s = i by omega]; exact Int.le_refl _
theorem widest_all (hg : GdW n g) (h2 : moO n g n ≤ 1000000000) (h0 : 0 < n) : widestL (gOf lnQ (breakL n g (moO n g n))) (breakL n g (moO n g n)).length = moO n g n := by
  have hw : ∀ {i}, i < n → (nextL n g (moO n g n) i).w = rho n g i := fun {i} hi => by show (tkF g _ _ _ _).2 = _; rw [next_fit hg h2 hi]
  have hmo := (moO_le hg (moO n g n) n (Nat.le_refl _)).1 (Int.le_refl _)
  have a0 := hg.w1 h0
  have hX := (widest_le (breakL n g (moO n g n)) (widestL (gOf lnQ (breakL n g (moO n g n))) (breakL n g (moO n g n)).length)).1 (Int.le_refl _)
  have hrho : ∀ i, i < n → rho n g i ≤ widestL (gOf lnQ (breakL n g (moO n g n))) (breakL n g (moO n g n)).length := fun i hi => by
    obtain ⟨s, e1, e2, e3⟩ := word_in (g := g) (w := moO n g n) hi n 0 (Nat.zero_le _) (by omega)
    have h3 := rho_start hg h2 e1 e2 hi
    have h4 := hX.2 _ e3
    rw [hw (show s < n by omega)] at h4
    omega
  refine Int.le_antisymm ?_ ?_
  · refine (widest_le _ _).2 ⟨by omega, fun x hx => ?_⟩
    obtain ⟨k, hk, rfl | rfl⟩ := mem_lines _ _ hx
    · show (0 : Int) ≤ _; omega
    · rw [hw hk]; exact hmo.2 k hk
  · refine (moO_le hg _ n (Nat.le_refl _)).2 ⟨?_, hrho⟩
    have h3 := hrho 0 h0
    have h4 := sF_le hg (n - (0 + 1)) (0 + 1) (by omega)
    unfold rho at h3
    omega
end
end Go.Proofs.YthmlbmambcigcaaGreatDoor

/- Lines beside floats, one by one: a text's words; no floats, or floats that are nothing: lines lie one straight below the other. -/
namespace Go.Proofs.YthmlbmambcigcaaGreatDoor
open Go Go.SX Go.Proofs
set_option maxRecDepth 100000
variable [EA]
set_option linter.unusedVariables false
set_option linter.unusedSectionVars false
set_option linter.unusedSimpArgs false

/-! ### a text's words -/
theorem t400_le (b : ByteArray) : (t400 b).size ≤ 400 := by
  rw [ByteArray.size_extract]
  simp only [mn2_eq]; omega
theorem w60_le (b : ByteArray) : w60 b ≤ 60 ∧ w60 b ≤ (words (t400 b)).length := by simp only [w60, mn2_eq]; omega
theorem rightW_pre {n k : Nat} {g : Nat → Nat → Q} (h : rightW n g = true) (hk : k ≤ n) : rightW k g = true := by
  unfold rightW at h ⊢
  cases ha : (allN n fun i => !badW (gWd g i)) with
  | false => rw [ha] at h; cases h
  | true =>
    rw [ha] at h
    have h5 := of_decide_eq_true (show decide ((n : Int) ≤ 500) = true from h)
    rw [allN_true fun i hi => allN_at ha (by omega)]
    exact decide_eq_true (by omega)
theorem w60_right (b : ByteArray) : rightW (w60 b) (wG b) = true := rightW_pre (words_right (t400 b) (t400_le b)) (w60_le b).2
theorem w60_sz (b : ByteArray) : allN (w60 b) (szW (wG b)) = true := allN_true fun i hi => decide_eq_true (by have := ((gdW_of (w60_right b)).2 i hi).t; omega)

/-! ### no floats -/
/-- A list that is none, in the place of the second argument. -/
def nilF : List V → List V
  | [a, .q (.c (.slice none 0 0)), w, h] => [a, .q (.lst ksF 0 fun _ _ => default), w, h]
  | l => l
theorem nilF_weak (l : List V) : WeakG l (nilF l) := fun S L θ w vs hd => by
  unfold nilF
  split
  · cases hd with
    | cons _ v1 _ l1 d1 hd => cases hd with
      | cons _ v2 _ l2 d2 hd => exact .cons _ _ _ _ d1 (.cons _ _ _ _ (den_nil0 rfl d2) hd)
  · exact hd
theorem SpecOK.weak [GW] {P : Program} {f : Nat} {sp : List V → T V} (h : SpecOK P f sp) (φ : List V → List V) (hφ : ∀ l, WeakG l (φ l)) : SpecOK P f (fun args => sp (φ args)) :=
  ⟨h.1, fun S w args vals r a b c d e => h.2 S w (φ args) vals r a b c (hφ args _ _ _ _ _ d) e⟩
noncomputable abbrev wPlace.n : List V → T V := fun args => wPlace.s (nilF args)
noncomputable abbrev wHigh.n : List V → T V := fun args => wHigh.s (nilF args)
theorem wPlace.okn : SpecOK Tryz.prog 14 wPlace.n := SpecOK.weak wPlace.ok nilF nilF_weak
theorem wHigh.okn : SpecOK Tryz.prog 16 wHigh.n := SpecOK.weak wHigh.ok nilF nilF_weak

/-- Floats that are nothing. -/
structure Wr.flat (c : Wr) : Prop where
  b : ∀ y, c.bes y = false
  a : ∀ y, c.ra y = 0
  w : ∀ y, c.rw y = c.w
abbrev c0 (n : Nat) (g : Nat → Nat → Q) (w h : Int) : Wr := ⟨n, g, 0, fun _ _ => default, w, h⟩
theorem w_of {m : Nat} {f : Nat → Nat → Q} {w : Int} (h : rightF m f w = true) : 0 ≤ w ∧ w ≤ 1048576 := by
  have := fl_right_ok.1 h
  have h1 := this.h1
  simp only [MS] at h1
  exact ⟨this.h0, h1⟩
theorem Wr.rw_flat {c : Wr} (hr : rightF c.m c.f c.w = true) {y : Int} (ha : c.ra y = 0) (hb : c.rb y = 0) : c.rw y = c.w := by
  have := w_of hr
  unfold Wr.rw
  rw [ha, hb]
  simp only [Int.sub_zero]
  have e : w64 c.w = c.w := w64_id (by omega) (by omega)
  rw [e, e, mx2_eq]
  omega
theorem c0_flat {n : Nat} {g : Nat → Nat → Q} {w h : Int} (hr : rightF 0 (fun _ _ => default) w = true) : (c0 n g w h).flat := by
  have ha : ∀ y, (c0 n g w h).ra y = 0 := fun y => by
    show (bif okYH 0 _ w y h then rI _ _ w y h false 0 else 0) = 0
    cases okYH 0 (fun _ _ => default) w y h <;> rfl
  have hb : ∀ y, (c0 n g w h).rb y = 0 := fun y => by
    show (bif okYH 0 _ w y h then rI _ _ w y h true 0 else 0) = 0
    cases okYH 0 (fun _ _ => default) w y h <;> rfl
  refine ⟨fun y => ?_, ha, fun y => Wr.rw_flat hr (ha y) (hb y)⟩
  show besA (plN 0 (fun _ _ => default) w) _ y h = false
  rw [show plN 0 (fun _ _ => default) w = 0 by simp only [plN, hr, cond_true]]
  rfl
theorem Wr.flat.go {c : Wr} (h : c.flat) (i : Nat) (y : Int) : c.go i y = false := by
  unfold Wr.go
  rw [h.b]
  cases decide ((gWd c.g i).w > c.rw y) <;> rfl
theorem Wr.flat.fr {c : Wr} (h : c.flat) (i : Nat) (y : Int) : c.fr i y = ⟨(nextR c.n c.g i c.w).1.a, (nextR c.n c.g i c.w).1.z, (nextR c.n c.g i c.w).1.w, 0, y⟩ := by
  unfold Wr.fr
  rw [Wr.yz0 (h.go i y), h.a, h.w]
theorem Wr.flat.z {c : Wr} (h : c.flat) (i : Nat) (y : Int) : c.zN i y = nextZ c.n c.g c.w i := by
  unfold Wr.zN
  rw [Wr.yz0 (h.go i y), h.w]
theorem Wr.flat.nil {c : Wr} (h : c.flat) (i : Nat) (y : Int) : c.nil i y = ⟨i, i, 0, 0, y⟩ := by
  show (⟨i, i, 0, c.ra y, y⟩ : Pl) = _
  rw [h.a]
/-- The lines hang on the words, the width, the height alone. -/
theorem Wr.flat.same {c d : Wr} (hc : c.flat) (hd : d.flat) (hn : c.n = d.n) (hg : c.g = d.g) (hw : c.w = d.w) (hh : c.h = d.h) : c.pls = d.pls := by
  have hy : ∀ y j, c.y1 y j = d.y1 y j := fun y j => by
    induction j with
    | zero => rfl
    | succ j ih => simp only [Wr.y1, ih, hh]
  have hnil : ∀ i k y, c.nils i k y = d.nils i k y := fun i k y => by
    unfold Wr.nils
    congr 1
    funext j
    rw [hy, hc.nil, hd.nil]
  have key : ∀ f i y, c.plF f i y = d.plF f i y := fun f => by
    induction f with
    | zero => intro i y; rfl
    | succ f ih =>
      intro i y
      rw [Wr.plF, Wr.plF, hn, hg]
      split
      · rw [hnil, hy, hc.fr, hd.fr, hc.z, hd.z, hh, hn, hg, hw, ih]
      · rfl
  unfold Wr.pls
  rw [hn, key]
/-- Each is one height below the one before. -/
theorem Wr.flat.ys {c : Wr} (h : c.flat) : ∀ f i k0 k (hk : k < (c.plF f i (c.y1 0 k0)).length), ((c.plF f i (c.y1 0 k0))[k]).y = c.y1 0 (k0 + k) ∧ ((c.plF f i (c.y1 0 k0))[k]).x = 0
  | 0, i, k0, k, hk => by simp [Wr.plF] at hk
  | f + 1, i, k0, k, hk => by
    have hadd : ∀ j, c.y1 (c.y1 0 k0) j = c.y1 0 (k0 + j) := fun j => by
      induction j with
      | zero => rfl
      | succ j ih => rw [← Nat.add_assoc]; simp only [Wr.y1, ih]
    by_cases hi : i < c.n
    · have e : c.plF (f + 1) i (c.y1 0 k0) = c.nils i (emptyN c.g i) (c.y1 0 k0) ++ c.fr i (c.y1 0 (k0 + emptyN c.g i)) :: c.plF f (c.zN i (c.y1 0 (k0 + emptyN c.g i))) (c.y1 0 (k0 + emptyN c.g i + 1)) := by
        rw [Wr.plF, if_pos hi, hadd]
        congr 2
        rw [h.fr]; rfl
      revert hk
      rw [e]
      intro hk
      rcases Nat.lt_or_ge k (emptyN c.g i) with hlt | hge
      · rw [List.getElem_append_left (by rw [Wr.nils_len]; exact hlt)]
        simp only [Wr.nils, List.getElem_map, List.getElem_range, h.nil, hadd]
        exact ⟨trivial, trivial⟩
      · rw [List.getElem_append_right (by rw [Wr.nils_len]; exact hge)]
        simp only [Wr.nils_len]
        rcases Nat.lt_or_ge (emptyN c.g i) k with hlt | hge2
        · obtain ⟨j, hj⟩ : ∃ j, k - emptyN c.g i = j + 1 := ⟨k - emptyN c.g i - 1, by omega⟩
          have hk2 : j < (c.plF f (c.zN i (c.y1 0 (k0 + emptyN c.g i))) (c.y1 0 (k0 + emptyN c.g i + 1))).length := by
            rw [List.length_append, Wr.nils_len, List.length_cons] at hk
            omega
          have := h.ys f (c.zN i (c.y1 0 (k0 + emptyN c.g i))) (k0 + emptyN c.g i + 1) j hk2
          simp only [hj, List.getElem_cons_succ]
          rw [show k0 + k = k0 + emptyN c.g i + 1 + j by omega]
          exact this
        · have hj : k - emptyN c.g i = 0 := by omega
          simp only [hj, List.getElem_cons_zero, h.fr]
          exact ⟨by rw [show k = emptyN c.g i by omega], trivial⟩
    · have e : c.plF (f + 1) i (c.y1 0 k0) = [] := by rw [Wr.plF, if_neg hi]
      rw [e] at hk
      cases hk
end Go.Proofs.YthmlbmambcigcaaGreatDoor

/- Lines beside floats, one by one: no line meets a float: the law's loops. -/
namespace Go.Proofs.YthmlbmambcigcaaGreatDoor
open Go Go.SX Go.Proofs
set_option maxRecDepth 100000
variable [EA]
set_option linter.unusedVariables false
set_option linter.unusedSectionVars false
set_option linter.unusedSimpArgs false

abbrev pAk : List Nat := [0, 1, 1, 1, 0, 0, 1, 0, 0, 1, 0, 1, 1, 1, 1, 1, 1, 1, 1, 1]
noncomputable abbrev bodyAk : Code := loopAt Tryz.f7 pAk
/-- Do they meet? -/
def meets (a b : Rc) : Bool := bif !((bif okA a b then (0 : Int) else 20) == 0) then true else decide ((bR (okA a b) (meetR a b) z0).w > 0)
def SAk (w h : Int) (n : Nat) (g : Nat → Nat → Q) (m : Nat) (G : Nat → Nat → Q) (i k : Int) : St := mkS 116 [(2, V.i w), (3, V.i h), (9, V.b true), (13, lst4 n g), (15, lst4 m G), (16, V.i i), (17, V.i k)] [] [] false [] 0
def SAi (w h : Int) (n : Nat) (g : Nat → Nat → Q) (m : Nat) (G : Nat → Nat → Q) (i : Int) : St := mkS 116 [(2, V.i w), (3, V.i h), (9, V.b true), (13, lst4 n g), (15, lst4 m G), (16, V.i i)] [] [] false [] 0
def liveAk : Ex → List Nat | .normal => [2, 3, 9, 13, 15, 16, 17] | .ret => [8] | _ => [2, 3, 9, 13, 15, 16]
abbrev ΓAk : Gam := [(25, rect_Meet.s)]
theorem ΓAk.ok : GOK Tryz.prog ΓAk := .cons rect_Meet.ok (GOK.nil _)
noncomputable abbrev treeAk (s : St) : T (Ex × St × Bool) := ltree Tryz.prog ΓAk [] pAk bodyAk 116 0 liveAk poN s
theorem stepAk (w h : Int) (n : Nat) (g : Nat → Nat → Q) (m : Nat) (G : Nat → Nat → Q) (i k : Nat) : treeAk (SAk w h n g m G i k) =
    .ite (decide ((k : Int) < n)) (.ite (inI i m) (.ite (inI k n) (.ite (meets (gRc G i) (gRc g k)) (.leaf (.ret, mkS 116 [(8, V.b false)] [] [] false [] 0, true)) (.leaf (.normal, SAk w h n g m G i (w64 (k + 1)), true))) .bad) .bad) (.leaf (.exit 2, SAi w h n g m G i, true)) := by kernel_rfl
theorem loopAk (w h : Int) (n : Nat) (g : Nat → Nat → Q) (m : Nat) (G : Nat → Nat → Q) (i : Nat) (hi : i < m) (hn : n ≤ 9223372036854775807) (hm : ∀ k, k < n → meets (gRc G i) (gRc g k) = false) : ∀ y, (T.leaf (Ex.exit 2, SAi w h n g m G i)).pick = some y → SemC Tryz.prog (.loop bodyAk) (SAk w h n g m G i (0 : Nat)) y := by
  refine loop_nat ΓAk.ok (root := cod Tryz.f7) (p := pAk) (by kernel_rfl) n (fun _ => True) (fun k => SAk w h n g m G i k) _ 116 0 liveAk poN poN_ok (fun k hk _ => ?_) trivial
  have e := stepAk w h n g m G i k
  rcases Nat.lt_or_ge k n with hlt | hge
  · rw [c_lt hlt, c_inI hi, c_inI hlt, hm k hlt, w64_suc hlt hn] at e
    exact ⟨[], .normal, _, LamOK.nil _ _, (congrArg T.pick e).trans rfl, .inl ⟨rfl, hlt, trivial, rfl⟩⟩
  · have h : k = n := by omega
    subst h
    rw [c_ge (Nat.le_refl _)] at e
    exact ⟨[], .exit 2, _, LamOK.nil _ _, (congrArg T.pick e).trans rfl, .inr ⟨by simp, rfl⟩⟩
abbrev pAi : List Nat := [0, 1, 0, 1, 1, 1, 1, 1, 1, 1, 1, 1]
noncomputable abbrev bodyAi : Code := loopAt Tryz.f7 pAi
def liveAi : Ex → List Nat | .normal => [2, 3, 9, 13, 15, 16] | .ret => [8] | _ => [9]
noncomputable abbrev treeAi (Λ : Lam) (s : St) : T (Ex × St × Bool) := ltree Tryz.prog ΓAk Λ pAi bodyAi 116 0 liveAi poN s
def guA (m i : Nat) : Bool := bif decide ((i : Int) > 0) then (bif inI i m then (bif decide (0 ≤ w64 ((i : Int) - 1) ∧ w64 ((i : Int) - 1) < (m : Int)) then true else false) else false) else true
def tooA (G : Nat → Nat → Q) (h : Int) (i : Nat) : Bool := bif decide ((i : Int) > 0) then decide ((gRc G i).y < w64 ((gRc G (w64 ((i : Int) - 1)).toNat).y + h)) else false
noncomputable abbrev orAk (w h : Int) (n : Nat) (g : Nat → Nat → Q) (m : Nat) (G : Nat → Nat → Q) (i : Nat) : Lam := [(pAk, orc false 116 0 [2, 3, 9, 13, 15, 16, 17] (SAk w h n g m G i (0 : Nat)) (.leaf (Ex.exit 2, SAi w h n g m G i)))]
theorem stepAi (w h : Int) (n : Nat) (g : Nat → Nat → Q) (m : Nat) (G : Nat → Nat → Q) (i : Nat) : treeAi (orAk w h n g m G i) (SAi w h n g m G i) =
    .ite (decide ((i : Int) < m)) (.ite (guA m i) (.ite (tooA G h i) (.leaf (.ret, mkS 116 [(8, V.b false)] [] [] false [] 0, true)) (.ite (inI i m) (.ite (decide ((gRc G i).w > w)) (.leaf (.normal, SAi w h n g m G (w64 (i + 1)), true))
      (.ite (@decide (SAk w h n g m G i (0 : Nat) = SAk w h n g m G i (0 : Nat)) (Classical.propDecidable _)) (.leaf (.normal, SAi w h n g m G (w64 (i + 1)), true)) .bad)) .bad)) .bad) (.leaf (.exit 0, mkS 116 [(9, V.b true)] [] [] false [] 0, true)) := by kernel_rfl
theorem wideAi_c (w h : Int) (n : Nat) (g : Nat → Nat → Q) (m : Nat) (G : Nat → Nat → Q) (i : Nat) : (treeAi [] (SAi w h n g m G i)).pathC [true, true, false, true, true] = [decide ((i : Int) < m), guA m i, tooA G h i, inI i m, decide ((gRc G i).w > w)] := by kernel_rfl
theorem wideAi_l (w h : Int) (n : Nat) (g : Nat → Nat → Q) (m : Nat) (G : Nat → Nat → Q) (i : Nat) : (treeAi [] (SAi w h n g m G i)).pathL [true, true, false, true, true] = .leaf (.normal, SAi w h n g m G (w64 (i + 1)), true) := by kernel_rfl
theorem endAi_c (w h : Int) (n : Nat) (g : Nat → Nat → Q) (m : Nat) (G : Nat → Nat → Q) (i : Nat) : (treeAi [] (SAi w h n g m G i)).pathC [false] = [decide ((i : Int) < m)] := by kernel_rfl
theorem endAi_l (w h : Int) (n : Nat) (g : Nat → Nat → Q) (m : Nat) (G : Nat → Nat → Q) (i : Nat) : (treeAi [] (SAi w h n g m G i)).pathL [false] = .leaf (.exit 0, mkS 116 [(9, V.b true)] [] [] false [] 0, true) := by kernel_rfl
theorem guA_true {m i : Nat} (hi : i < m) (hm : m ≤ 9223372036854775807) : guA m i = true := by
  unfold guA
  rw [c_inI hi]
  by_cases h0 : (i : Int) > 0
  · rw [decide_eq_true h0, decide_eq_true (show 0 ≤ w64 ((i : Int) - 1) ∧ w64 ((i : Int) - 1) < (m : Int) by rw [w64_id (by omega) (by omega)]; omega)]; rfl
  · rw [decide_eq_false h0]; rfl
theorem loopAi (w h : Int) (n : Nat) (g : Nat → Nat → Q) (m : Nat) (G : Nat → Nat → Q) (hn : n ≤ 9223372036854775807) (hm : m ≤ 9223372036854775807) (ht : ∀ i, i < m → tooA G h i = false) (hw : ∀ i, i < m → (gRc G i).w > w ∨ ∀ k, k < n → meets (gRc G i) (gRc g k) = false) :
    ∀ y, (T.leaf (Ex.exit 0, mkS 116 [(9, V.b true)] [] [] false [] 0)).pick = some y → SemC Tryz.prog (.loop bodyAi) (SAi w h n g m G (0 : Nat)) y := by
  refine loop_nat ΓAk.ok (root := cod Tryz.f7) (p := pAi) (by kernel_rfl) m (fun _ => True) (fun i => SAi w h n g m G i) _ 116 0 liveAi poN poN_ok (fun i hi _ => ?_) trivial
  rcases Nat.lt_or_ge i m with hlt | hge
  · have hg := guA_true hlt hm
    by_cases hb : (gRc G i).w > w
    · refine ⟨[], .normal, SAi w h n g m G (i + 1 : Nat), LamOK.nil _ _, (T.pick_path [true, true, false, true, true] _ ((wideAi_c w h n g m G i).trans ?_)).trans ?_, .inl ⟨rfl, hlt, trivial, rfl⟩⟩
      · rw [c_lt hlt, hg, ht i hlt, c_inI hlt, decide_eq_true hb]
      · rw [wideAi_l, w64_suc hlt hm]; rfl
    · have hk := (hw i hlt).resolve_left hb
      have e := stepAi w h n g m G i
      rw [c_lt hlt, hg, ht i hlt, c_inI hlt, decide_eq_false hb, w64_suc hlt hm] at e
      refine ⟨_, .normal, SAi w h n g m G (i + 1 : Nat), LamOK.orc (p := pAk) (mk := false) (nn := 116) (k := 0) (live := [2, 3, 9, 13, 15, 16, 17]) (c := .loop bodyAk) (by kernel_rfl) (loopAk w h n g m G i hlt hn hk) (LamOK.nil _ _), (congrArg T.pick e).trans ?_, .inl ⟨rfl, hlt, trivial, rfl⟩⟩
      exact pick_same _ _
  · have h : i = m := by omega
    subst h
    exact ⟨[], .exit 0, _, LamOK.nil _ _, (T.pick_path [false] _ ((endAi_c w _ n g i G i).trans (by rw [c_ge (Nat.le_refl _)]))).trans (congrArg T.pick (endAi_l w _ n g i G i)), .inr ⟨by simp, rfl⟩⟩
end Go.Proofs.YthmlbmambcigcaaGreatDoor

/- Lines beside floats, one by one: no line meets a float, in plain words. -/
namespace Go.Proofs.YthmlbmambcigcaaGreatDoor
open Go Go.SX Go.Proofs
set_option maxRecDepth 100000
variable [EA]
set_option linter.unusedVariables false
set_option linter.unusedSectionVars false
set_option linter.unusedSimpArgs false

/-- Right rectangles that do not lie over one another do not meet. -/
theorem meets_false {a b : Rc} (ha : rightR a = true) (hb : rightR b = true) (h : mB a b = false ∨ mW a b ≤ 0) : meets a b = false := by
  unfold meets okA
  rw [ha, hb]
  have hw : (bR true (meetR a b) z0).w ≤ 0 := by
    show (bif true then (meetR a b).w else z0.w) ≤ 0
    simp only [cond_true]
    show (bif mB a b then mW a b else 0) ≤ 0
    rcases h with h | h
    · rw [h]; exact Int.le_refl _
    · cases mB a b
      · exact Int.le_refl _
      · exact h
  show (bif !((0 : Int) == 0) then true else decide ((bR true (meetR a b) z0).w > 0)) = false
  rw [decide_eq_false (by omega)]
  rfl
/-- The hard ends of some words, together. -/
def hds (l : List Wd) : Int := (l.map fun x => x.h).sum
theorem hds_app (l : List Wd) (x : Wd) : hds (l ++ [x]) = hds l + x.h := by simp [hds]
theorem wordsF_hard (b : ByteArray) (hb : b.size ≤ 400) : ∀ (k : Nat) (l : List Wd) (sp hd : Int) (i : Nat), i ≤ b.size → 0 ≤ hd → hd ≤ i → hds l + hd ≤ i → hds (wordsF b k l sp hd i) ≤ b.size
  | 0, l, sp, hd, i, h1, h2, h3, h4 => by
    show hds l ≤ _
    omega
  | k + 1, l, sp, hd, i, h1, h2, h3, h4 => by
    rw [wordsF]
    split
    · rename_i hlt
      cases g1 : sByte b i == 10 with
      | true =>
        show hds (wordsF b k l 0 (w64 (hd + 1)) (i + 1)) ≤ b.size
        rw [w64_id (by omega) (by omega)]
        exact wordsF_hard b hb k l 0 (hd + 1) (i + 1) hlt (by omega) (by omega) (by omega)
      | false =>
        cases g2 : sByte b i == 32 with
        | true => exact wordsF_hard b hb k l 256 hd (i + 1) hlt h2 (by omega) (by omega)
        | false =>
          have p1 := pn_le b h1
          refine wordsF_hard b hb k (l ++ [wdAt b i (i + pn b i : Nat) (bif (l.length : Int) == 0 then 0 else sp) hd]) 0 0 (i + pn b i) p1 (Int.le_refl _) (by omega) ?_
          rw [hds_app, show (wdAt b i (i + pn b i : Nat) (bif (l.length : Int) == 0 then 0 else sp) hd).h = hd from rfl]
          omega
    · show hds l ≤ _
      omega
theorem words_hard (b : ByteArray) (hb : b.size ≤ 400) : hds (words b) ≤ b.size := wordsF_hard b hb b.size [] 0 0 0 (Nat.zero_le _) (Int.le_refl _) (Int.le_refl _) (by simp [hds])
/-- The hard ends of the words from one on, and one more for each. -/
def hsum (g : Nat → Nat → Q) : Nat → Nat → Int
  | 0, _ => 0
  | k + 1, i => (gWd g i).h + 1 + hsum g k (i + 1)
theorem hsum_mono {n : Nat} {g : Nat → Nat → Q} (h : okH n g) : ∀ (d i : Nat), i + d ≤ n → 0 ≤ hsum g (n - (i + d)) (i + d) → hsum g (n - (i + d)) (i + d) ≤ hsum g (n - i) i
  | 0, i, _, _ => Int.le_refl _
  | d + 1, i, hi, h0 => by
    have h1 := hsum_mono h d (i + 1) (by omega) (by rw [show i + 1 + d = i + (d + 1) by omega]; exact h0)
    rw [show i + 1 + d = i + (d + 1) by omega] at h1
    have e : n - i = (n - (i + 1)) + 1 := by omega
    rw [e, hsum]
    have := (h.2 i (by omega)).2
    omega
theorem hsum_nonneg {n : Nat} {g : Nat → Nat → Q} (h : okH n g) : ∀ (k i : Nat), i + k ≤ n → 0 ≤ hsum g k i
  | 0, i, _ => Int.le_refl _
  | k + 1, i, hi => by
    have h1 := hsum_nonneg h k (i + 1) (by omega)
    have := (h.2 i (by omega)).2
    rw [hsum]; omega
/-- No line lies too low. -/
theorem Wr.plF_top {c : Wr} (h : c.ok) : ∀ f i y Y, i ≤ c.n → 0 ≤ y → y ≤ Y → c.low ≤ Y → Y + hsum c.g (c.n - i) i * c.h ≤ 4000000000000000 → ∀ p ∈ c.plF f i y, 0 ≤ p.y ∧ p.y + c.h ≤ Y + hsum c.g (c.n - i) i * c.h
  | 0, i, y, Y, hi, h0, h1, h2, h3, p, hp => by cases hp
  | f + 1, i, y, Y, hi, h0, h1, h2, h3, p, hp => by
    have hH := right_ok h.rw_
    rw [Wr.plF] at hp
    split at hp
    · rename_i hlt
      have a1 := h.h1
      have a2 := h.h2
      simp only [MS] at a2
      have h4 := hH.2 i hlt
      have hk : 0 ≤ kBo i := by unfold kBo; cases decide ((i : Int) > 0) <;> simp
      have h5 : ((emptyN c.g i : Nat) : Int) ≤ (gWd c.g i).h := by show ((((gWd c.g i).h - kBo i).toNat : Nat) : Int) ≤ _; omega
      have hz1 : i < c.zN i (c.y1 y (emptyN c.g i)) := nextZ_gt c.n c.g _ i
      have hz2 : c.zN i (c.y1 y (emptyN c.g i)) ≤ c.n := nextZ_le hlt
      have e : c.n - i = (c.n - (i + 1)) + 1 := by omega
      have hn0 := hsum_nonneg hH (c.n - (i + 1)) (i + 1) (by omega)
      have hS : hsum c.g (c.n - i) i = (gWd c.g i).h + 1 + hsum c.g (c.n - (i + 1)) (i + 1) := by rw [e]; rfl
      obtain ⟨d, hd⟩ : ∃ d, c.zN i (c.y1 y (emptyN c.g i)) = i + 1 + d := ⟨c.zN i (c.y1 y (emptyN c.g i)) - (i + 1), by omega⟩
      have hm := hsum_mono hH d (i + 1) (by omega) (hsum_nonneg hH _ _ (by omega))
      rw [← hd] at hm
      have hb : (hsum c.g (c.n - i) i) * c.h = (gWd c.g i).h * c.h + c.h + hsum c.g (c.n - (i + 1)) (i + 1) * c.h := by rw [hS, Int.add_mul, Int.add_mul, Int.one_mul]
      have hb2 : hsum c.g (c.n - c.zN i (c.y1 y (emptyN c.g i))) (c.zN i (c.y1 y (emptyN c.g i))) * c.h ≤ hsum c.g (c.n - (i + 1)) (i + 1) * c.h := Int.mul_le_mul_of_nonneg_right hm (by omega)
      have hb3 : ((emptyN c.g i : Nat) : Int) * c.h ≤ (gWd c.g i).h * c.h := Int.mul_le_mul_of_nonneg_right h5 (by omega)
      have hb4 : 0 ≤ hsum c.g (c.n - (i + 1)) (i + 1) * c.h := Int.mul_nonneg hn0 (by omega)
      have hb5 : 0 ≤ (gWd c.g i).h * c.h := Int.mul_nonneg h4.2 (by omega)
      have h5' : emptyN c.g i ≤ 400 := by omega
      have hy1 := fun j hj => Wr.y1_eq h y h0 (by omega) j hj
      obtain ⟨q1, q2⟩ := hy1 (emptyN c.g i) (by omega)
      have hr := Wr.yz_rng c i (c.y1 y (emptyN c.g i))
      have hnn : 0 ≤ ((emptyN c.g i : Nat) : Int) * c.h := Int.mul_nonneg (by omega) (by omega)
      rcases List.mem_append.1 hp with hp | hp
      · obtain ⟨j, hj, rfl⟩ := List.mem_map.1 hp
        have hjl := List.mem_range.1 hj
        obtain ⟨r1, r2⟩ := hy1 j (by omega)
        have r3 : (j : Int) * c.h ≤ ((emptyN c.g i : Nat) : Int) * c.h := Int.mul_le_mul_of_nonneg_right (by omega) (by omega)
        have r4 : 0 ≤ (j : Int) * c.h := Int.mul_nonneg (by omega) (by omega)
        show 0 ≤ c.y1 y j ∧ c.y1 y j + c.h ≤ _
        rw [r1, hb]
        omega
      · have hfy : (c.fr i (c.y1 y (emptyN c.g i))).y = c.yz i (c.y1 y (emptyN c.g i)) := rfl
        rcases List.mem_cons.1 hp with rfl | hp
        · rw [hfy, hb]; omega
        · rw [hfy, w64_id (by omega) (by omega)] at hp
          have := Wr.plF_top h f _ _ (Y + (gWd c.g i).h * c.h + c.h) hz2 (by omega) (by omega) (by omega) (by omega) p hp
          rw [hb]
          omega
    · cases hp
theorem hds_nonneg : ∀ (l : List Wd), (∀ x ∈ l, 0 ≤ x.h) → 0 ≤ hds l
  | [], _ => by simp [hds]
  | x :: l, h => by
    have h1 := hds_nonneg l fun y hy => h y (List.mem_cons_of_mem _ hy)
    have h2 := h x List.mem_cons_self
    have e : hds (x :: l) = x.h + hds l := by simp [hds]
    omega
theorem hsum_le {l : List Wd} (hl : ∀ x ∈ l, 0 ≤ x.h) : ∀ k i, i + k ≤ l.length → hsum (gOf wdQ l) k i ≤ hds (l.drop i) + k
  | 0, i, hi => by
    have := hds_nonneg (l.drop i) fun x hx => hl x (List.mem_of_mem_drop hx)
    simp only [hsum]; omega
  | k + 1, i, hi => by
    have h1 := hsum_le hl k (i + 1) (by omega)
    have hlt : i < l.length := by omega
    rw [hsum, gWd_of hlt, List.drop_eq_getElem_cons hlt]
    have e : ∀ (x : Wd) (r : List Wd), hds (x :: r) = x.h + hds r := fun x r => by simp [hds]
    rw [e]
    omega
theorem w60_hsum (b : ByteArray) : hsum (wG b) (w60 b) 0 ≤ 460 := by
  have hb := t400_le b
  have h1 := w60_le b
  have hh : ∀ x ∈ words (t400 b), 0 ≤ x.h := fun x hx => (good_h ((words_inv (t400 b) hb).ok x hx)).2
  have h2 := hsum_le hh (w60 b) 0 (by omega)
  have h3 := words_hard (t400 b) hb
  rw [List.drop_zero] at h2
  show hsum (gOf wdQ (words (t400 b))) (w60 b) 0 ≤ 460
  omega
end Go.Proofs.YthmlbmambcigcaaGreatDoor

/- Lines beside floats, one by one: no line meets a float; lines are one below the other. -/
namespace Go.Proofs.YthmlbmambcigcaaGreatDoor
open Go Go.SX Go.Proofs
set_option maxRecDepth 100000
variable [EA]
set_option linter.unusedVariables false
set_option linter.unusedSectionVars false
set_option linter.unusedSimpArgs false

theorem plF_each2 (c : Wr) : ∀ f i y p, p ∈ c.plF f i y → (∃ i y, p = c.nil i y) ∨ ∃ i y, i < c.n ∧ p = c.fr i y
  | 0, i, y, p, h => by cases h
  | f + 1, i, y, p, h => by
    rw [Wr.plF] at h
    split at h
    · rename_i hi
      rcases List.mem_append.1 h with h | h
      · obtain ⟨j, _, rfl⟩ := List.mem_map.1 h
        exact .inl ⟨_, _, rfl⟩
      · rcases List.mem_cons.1 h with h | h
        · exact .inr ⟨_, _, hi, h⟩
        · exact plF_each2 c f _ _ p h
    · cases h
theorem rcL_at (g : Nat → Nat → Q) (h : Int) {n i : Nat} (hi : i < n) : gRc (gOf rcQ (rcL g h n)) i = rcOf h (gPl g i) := by
  have hl : i < (rcL g h n).length := by rw [rcL_len]; exact hi
  have e : ∀ j, gOf rcQ (rcL g h n) i j = (rcQ (rcL g h n)[i]).getD j default := fun j => congrFun (gOf_at rcQ (rcL g h n) hl) j
  have e2 : (rcL g h n)[i] = rcOf h (gPl g i) := by simp [rcL]
  show (⟨qInt (gOf rcQ (rcL g h n) i 0), qInt (gOf rcQ (rcL g h n) i 1), qInt (gOf rcQ (rcL g h n) i 2), qInt (gOf rcQ (rcL g h n) i 3)⟩ : Rc) = _
  rw [e, e, e, e, e2]; rfl
theorem tkF_fits (g : Nat → Nat → Q) (w : Int) : ∀ f k v, v ≤ w → (tkF g w f k v).2 ≤ w
  | 0, k, v, h => h
  | f + 1, k, v, h => by
    rw [tkF_suc]
    cases ht : takeB w v (gWd g k) with
    | true => exact tkF_fits g w f (k + 1) _ (takeB_iff.1 ht).2
    | false => exact h
theorem Asc.pair {h : Int} (h0 : 0 ≤ h) : ∀ {L : List Pl} {y : Int} (i : Nat) (hi : i + 1 < L.length), Asc h y L → (L[i]'(by omega)).y + h ≤ (L[i + 1]).y ∧ (L[i]'(by omega)).y ≤ 1000000000000
  | p :: q :: L, y, 0, hi, hA => ⟨hA.2.2.1, hA.2.1⟩
  | p :: L, y, i + 1, hi, hA => Asc.pair h0 (L := L) i (by simpa using hi) hA.2.2
theorem Asc.all {h : Int} (h0 : 0 ≤ h) : ∀ {L : List Pl} {y : Int} (i : Nat) (hi : i < L.length), Asc h y L → y ≤ (L[i]).y
  | p :: L, y, 0, hi, hA => hA.1
  | p :: L, y, i + 1, hi, hA => by
    have := Asc.all h0 (L := L) i (by simpa using hi) hA.2.2
    have := hA.1
    simp only [List.getElem_cons_succ]
    omega
/-- What a line's place and a float's are like, in bounds. -/
theorem mW_eq {a b : Rc} (ha : 0 ≤ a.x ∧ a.x ≤ MS ∧ 0 ≤ a.w ∧ a.w ≤ MS) (hb : RB b) : mW a b = min (a.x + a.w) (b.x + b.w) - max a.x b.x := by
  obtain ⟨x, y, w, k⟩ := a
  obtain ⟨x', y', w', k'⟩ := b
  obtain ⟨b1, b2, b3, b4, b5, b6⟩ := hb
  simp only [MS] at *
  simp only [mW, mn2_eq, mx2_eq]
  rw [w64_id (n := x + w) (by omega) (by omega), w64_id (n := x' + w') (by omega) (by omega), w64_id (by omega) (by omega)]
theorem mH_eq {a b : Rc} (ha : 0 ≤ a.y ∧ 0 ≤ a.h ∧ a.y + a.h ≤ 1000000000) (hb : RB b) : mH a b = min (a.y + a.h) (b.y + b.h) - max a.y b.y := by
  obtain ⟨x, y, w, k⟩ := a
  obtain ⟨x', y', w', k'⟩ := b
  obtain ⟨b1, b2, b3, b4, b5, b6⟩ := hb
  simp only [MS] at *
  simp only [mH, mn2_eq, mx2_eq]
  rw [w64_id (n := y + k) (by omega) (by omega), w64_id (n := y' + k') (by omega) (by omega), w64_id (by omega) (by omega)]
theorem mB_off {a b : Rc} (h : mH a b ≤ 0) : mB a b = false := by
  unfold mB
  rw [decide_eq_false (show ¬ mH a b > 0 by omega)]
  cases decide (mW a b > 0) <;> rfl
theorem ra_rng {c : Wr} (h : c.ok) (y : Int) : (0 ≤ c.ra y ∧ c.ra y ≤ MS) ∧ (0 ≤ c.rb y ∧ c.rb y ≤ MS) := by
  have hF := fl_right_ok.1 h.rf
  have hg := (gR_all hF c.m (Nat.le_refl _)).ok
  have ha : ∀ b, 0 ≤ (bif okYH c.m c.f c.w y c.h then rI (gR c.f c.w c.m) c.f c.w y c.h b c.m else 0) ∧ (bif okYH c.m c.f c.w y c.h then rI (gR c.f c.w c.m) c.f c.w y c.h b c.m else 0) ≤ MS := fun b => by
    cases ho : okYH c.m c.f c.w y c.h with
    | false => exact ⟨Int.le_refl _, by simp only [MS, cond_false]; omega⟩
    | true =>
      simp only [okYH, h.rf, cond_true] at ho
      have hb : bad4 y c.h = false := by simpa using ho
      have := rI_all (f := c.f) hg (yh_of hb) hF.h0 hF.h1 b c.m (Nat.le_refl _)
      exact ⟨this.1, this.2.1⟩
  exact ⟨ha false, ha true⟩
theorem rw_eq {c : Wr} (h : c.ok) (y : Int) : c.rw y = max (c.w - c.ra y - c.rb y) 0 := by
  obtain ⟨⟨a1, a2⟩, ⟨b1, b2⟩⟩ := ra_rng h y
  have hF := fl_right_ok.1 h.rf
  have h3 := hF.h0
  have h4 := hF.h1
  simp only [MS] at *
  unfold Wr.rw
  rw [w64_id (show -9223372036854775808 ≤ c.w - c.ra y by omega) (by omega), w64_id (show -9223372036854775808 ≤ c.w - c.ra y - c.rb y by omega) (by omega), mx2_eq]
/-- A line that begins with a word meets no float. -/
theorem fr_off {c : Wr} (h : c.ok) {i : Nat} {y : Int} (hi : i < c.n) (hy0 : 0 ≤ (c.fr i y).y) (hy1 : (c.fr i y).y + c.h ≤ 1000000000) (hw : (c.fr i y).w ≤ c.w) {k : Nat} (hk : k < c.m) :
    rightR (rcOf c.h (c.fr i y)) = true ∧ (mB (rcOf c.h (c.fr i y)) (gRc (gR c.f c.w c.m) k) = false ∨ mW (rcOf c.h (c.fr i y)) (gRc (gR c.f c.w c.m) k) ≤ 0) := by
  have hF := fl_right_ok.1 h.rf
  have hg := (gR_all hF c.m (Nat.le_refl _)).ok
  have rb := hg.rb hk
  have a1 := h.h1
  have a2 := h.h2
  have h3 := hF.h0
  have h4 := hF.h1
  have ey : (c.fr i y).y = c.yz i y := rfl
  have ex : (c.fr i y).x = c.ra (c.yz i y) := rfl
  have ew : (c.fr i y).w = (tkF c.g (c.rw (c.yz i y)) (c.n - (i + 1)) (i + 1) (gWd c.g i).w).2 := by
    have : (c.fr i y).l.w = (nextL c.n c.g (c.rw (c.yz i y)) i).w := by rw [Wr.fr_l h y hi]
    exact this
  have hG := gdW_of h.rw_
  have hwi := hG.w1 hi
  have hrr := Wr.rw_rng h (c.yz i y)
  simp only [MS] at a2 h4 hrr
  have hv := tkF_vge hG (w := c.rw (c.yz i y)) (by omega) (c.n - (i + 1)) (i + 1) (gWd c.g i).w (by omega) hwi.1 (by omega)
  rw [← ew] at hv
  obtain ⟨⟨x1, x2⟩, ⟨z1, z2⟩⟩ := ra_rng h (c.yz i y)
  simp only [MS] at x2 z2
  have hgo := Wr.kn_stop c i y
  rw [ey] at hy0 hy1
  have eq := rw_eq h (c.yz i y)
  generalize hY : c.yz i y = Y at *
  have hx : (rcOf c.h (c.fr i y)).x = c.ra Y := ex
  have hyy : (rcOf c.h (c.fr i y)).y = Y := ey
  have hww : (rcOf c.h (c.fr i y)).w = (c.fr i y).w := rfl
  have hhh : (rcOf c.h (c.fr i y)).h = c.h := rfl
  refine ⟨right_iff.2 (by unfold Ok; rw [hx, hyy, hww, hhh]; omega), ?_⟩
  have eW := mW_eq (a := rcOf c.h (c.fr i y)) (b := gRc (gR c.f c.w c.m) k) (by rw [hx, hww]; simp only [MS]; omega) rb
  have eH := mH_eq (a := rcOf c.h (c.fr i y)) (b := gRc (gR c.f c.w c.m) k) (by rw [hyy, hhh]; omega) rb
  rw [hx, hww] at eW
  rw [hyy, hhh] at eH
  generalize hR : gRc (gR c.f c.w c.m) k = r at *
  by_cases hit : Hit r Y c.h
  · have q : YH Y c.h := ⟨by omega, by have := hit.2.2.2; have := rb.yh; omega, by omega, by simp only [MS]; omega⟩
    have hbad : bad4 Y c.h = false := by
      have b1 := q.y0
      have b2 := q.y1
      unfold bad4
      rw [decide_eq_false (show ¬ Y < 0 by omega), decide_eq_false (show ¬ Y > 67108864 by omega), decide_eq_false (show ¬ c.h < 0 by omega), decide_eq_false (show ¬ c.h > 1048576 by omega)]; rfl
    have hok : okYH c.m c.f c.w Y c.h = true := by
      simp only [okYH, h.rf, cond_true, hbad]; rfl
    have hbes : c.bes Y = true := by
      unfold Wr.bes besA anyN
      have hp : plN c.m c.f c.w = c.m := by simp only [plN, h.rf, cond_true]
      rw [hp]
      cases hall : (allN c.m fun j => !(besR (gRc (gR c.f c.w c.m) j) Y c.h)) with
      | false => rfl
      | true =>
        have := allN_at hall hk
        rw [hR] at this
        have hb : besR r Y c.h = true := by
          obtain ⟨c1, c2, c3, c4⟩ := hit
          have r1 := rb.y
          have r2 := rb.h
          have r3 := rb.yh
          unfold besR
          rw [w64_id (n := Y + c.h) (by omega) (by omega), w64_id (n := r.y + r.h) (by omega) (by omega), decide_eq_true (show r.w > 0 by omega), decide_eq_true (show r.h > 0 by omega), decide_eq_true (show r.y < Y + c.h by omega), decide_eq_true (show Y < r.y + r.h by omega)]; rfl
        rw [hb] at this; cases this
    have hfit : (gWd c.g i).w ≤ c.rw Y := by
      refine Int.not_lt.1 fun hc => ?_
      unfold Wr.go at hgo
      rw [hbes, decide_eq_true (show (gWd c.g i).w > c.rw Y by omega)] at hgo
      cases hgo
    have hle : (c.fr i y).w ≤ c.rw Y := by rw [ew]; exact tkF_fits c.g _ _ _ _ hfit
    right
    have hside : ∀ b, (gFl c.f k).r = b → sideN c.w r b ≤ (bif b then c.rb Y else c.ra Y) := fun b hb => by
      have := (rI_all (f := c.f) hg q h3 (by simp only [MS]; omega) b c.m (Nat.le_refl _)).2.2.2.1 k hk (by rw [hR]; exact hit) hb
      rw [hR] at this
      cases b
      · show _ ≤ c.ra Y
        unfold Wr.ra
        rw [hok]; exact this
      · show _ ≤ c.rb Y
        unfold Wr.rb
        rw [hok]; exact this
    have r1 := rb.x
    have r2 := rb.w
    cases hr : (gFl c.f k).r with
    | false =>
      have := hside false hr
      simp only [sideN, Bool.false_eq_true, if_false, cond_false] at this
      rw [eW]; omega
    | true =>
      have := hside true hr
      simp only [sideN, if_true, cond_true] at this
      rw [eW]; omega
  · have r1 := rb.x
    have r2 := rb.w
    have r4 := rb.h
    unfold Hit at hit
    by_cases hw0 : r.w ≤ 0
    · right; rw [eW]; omega
    · left
      apply mB_off
      rw [eH]; omega
/-- A line of nothing is nothing. -/
theorem nil_off {c : Wr} (h : c.ok) {i : Nat} {y : Int} (hy0 : 0 ≤ y) (hy1 : y + c.h ≤ 1000000000) {k : Nat} (hk : k < c.m) :
    rightR (rcOf c.h (c.nil i y)) = true ∧ (mB (rcOf c.h (c.nil i y)) (gRc (gR c.f c.w c.m) k) = false ∨ mW (rcOf c.h (c.nil i y)) (gRc (gR c.f c.w c.m) k) ≤ 0) := by
  have hF := fl_right_ok.1 h.rf
  have hg := (gR_all hF c.m (Nat.le_refl _)).ok
  have rb := hg.rb hk
  have a1 := h.h1
  have a2 := h.h2
  obtain ⟨⟨x1, x2⟩, _⟩ := ra_rng h y
  simp only [MS] at a2 x2
  refine ⟨right_iff.2 ?_, .inr ?_⟩
  · show -1073741824 ≤ c.ra y ∧ 0 ≤ (0 : Int) ∧ c.ra y + 0 ≤ 1073741824 ∧ -1073741824 ≤ y ∧ 0 ≤ c.h ∧ y + c.h ≤ 1073741824
    omega
  · have eW := mW_eq (a := rcOf c.h (c.nil i y)) (b := gRc (gR c.f c.w c.m) k) (by show 0 ≤ c.ra y ∧ c.ra y ≤ MS ∧ 0 ≤ (0 : Int) ∧ (0 : Int) ≤ MS; simp only [MS]; omega) rb
    rw [eW]
    show min (c.ra y + 0) _ - max (c.ra y) _ ≤ 0
    omega
/-- No line meets a float. -/
theorem line_off {c : Wr} (h : c.ok) (hs : hsum c.g c.n 0 ≤ 460) {p : Pl} (hp : p ∈ c.pls) (hw : p.w ≤ c.w) {k : Nat} (hk : k < c.m) : meets (rcOf c.h p) (gRc (gR c.f c.w c.m) k) = false := by
  have hF := fl_right_ok.1 h.rf
  have hg := (gR_all hF c.m (Nat.le_refl _)).ok
  have rb := hg.rb hk
  have a1 := h.h1
  have a2 := h.h2
  have hlow := Wr.low_rng h
  have hs0 := hsum_nonneg (right_ok h.rw_) c.n 0 (by omega)
  have hb : hsum c.g c.n 0 * c.h ≤ 460 * 1048576 := by
    have b1 : hsum c.g c.n 0 * c.h ≤ 460 * c.h := Int.mul_le_mul_of_nonneg_right hs (by omega)
    simp only [MS] at a2
    omega
  have htop := Wr.plF_top h c.n 0 0 c.low (Nat.zero_le _) (Int.le_refl _) hlow.1 (Int.le_refl _) (by rw [Nat.sub_zero]; omega) p hp
  rw [Nat.sub_zero] at htop
  have hrb : rightR (gRc (gR c.f c.w c.m) k) = true := right_iff.2 (by
    generalize gRc (gR c.f c.w c.m) k = r at rb
    obtain ⟨b1, b2, b3, b4, b5, b6⟩ := rb
    simp only [MS] at b3
    unfold Ok; omega)
  rcases plF_each2 c c.n 0 0 p hp with ⟨j, y, rfl⟩ | ⟨j, y, hj, rfl⟩
  · have := nil_off h (i := j) (y := y) htop.1 (by have := htop.2; have : (c.nil j y).y = y := rfl; omega) hk
    exact meets_false this.1 hrb this.2
  · have := fr_off h hj htop.1 (by omega) hw hk
    exact meets_false this.1 hrb this.2
/-- None lies above the one before. -/
theorem too_off {c : Wr} (h : c.ok) (i : Nat) (hi : i < c.pls.length) : tooA (gOf rcQ (rcL (gOf plQ c.pls) c.h c.pls.length)) c.h i = false := by
  have hlen := Wr.pls_len c (right_ok h.rw_)
  have a1 := h.h1
  have a2 := h.h2
  simp only [MS] at a2
  unfold tooA
  by_cases h0 : (i : Int) > 0
  · obtain ⟨j, rfl⟩ : ∃ j, i = j + 1 := ⟨i - 1, by omega⟩
    have e : (w64 (((j + 1 : Nat) : Int) - 1)).toNat = j := by rw [w64_id (by omega) (by omega)]; omega
    obtain ⟨p1, p2⟩ := Asc.pair (by omega) j hi (Wr.pls_asc h)
    have p0 := Asc.all (by omega) j (by omega) (Wr.pls_asc h)
    rw [decide_eq_true h0, e, rcL_at _ _ hi, rcL_at _ _ (show j < c.pls.length by omega), gPl_of hi, gPl_of (show j < c.pls.length by omega)]
    show decide ((c.pls[j + 1]).y < w64 ((c.pls[j]).y + c.h)) = false
    rw [w64_id (by omega) (by omega)]
    exact decide_eq_false (by omega)
  · rw [decide_eq_false h0]; rfl
end Go.Proofs.YthmlbmambcigcaaGreatDoor

/- The card of WrapApart: no line meets a float, unless it is wider than the whole width; lines are one below the other. -/
namespace Go.Proofs.YthmlbmambcigcaaGreatDoor
open Go Go.SX Go.Proofs Go.RowKit Go.ChangeShapes
set_option maxRecDepth 100000
set_option linter.unusedVariables false
set_option linter.unusedSectionVars false
set_option linter.unusedSimpArgs false

section
variable [EA]
noncomputable abbrev ΓW8 : Gam := [(11, wshown.s), (19, wwords.s), (13, wfew.s), (14, wPlace.s), (23, fPlace.s), (24, pRects.s), (25, rect_Meet.s)]
theorem ΓW8.ok : GOK Tryz.prog ΓW8 := .cons wshown.ok (.cons wwords.ok (.cons wfew.ok (.cons wPlace.ok (.cons fPlace.ok (.cons wRects.ok (.cons rect_Meet.ok (GOK.nil _)))))))
noncomputable abbrev fW8 (Λ : Lam) (b : ByteArray) (k : Nat) (f : Nat → Nat → Q) (w h : Int) : T V := funV Tryz.prog ΓW8 Λ Tryz.f7 (cod Tryz.f7) [V.s b, lstF k f, V.i w, V.i h]
noncomputable abbrev or8 (S : St) : Lam := [(pAi, orc false 116 0 [2, 3, 9, 13, 15, 16] S (.leaf (Ex.exit 0, mkS 116 [(9, V.b true)] [] [] false [] 0)))]
abbrev c8 (N : Nat) (G : Nat → Nat → Q) (k : Nat) (f : Nat → Nat → Q) (w h : Int) : Wr := ⟨N, G, few8 k, f, w, h⟩
noncomputable abbrev rc8 (c : Wr) : List Rc := rcL (gOf plQ c.pls) c.h c.pls.length
section
variable (b : ByteArray) (k : Nat) (f : Nat → Nat → Q) (w h : Int)
theorem fW8_cA : (fW8 [] b k f w h).pathC [true, true, true] = [allN (w60 b) (szW (wG b)), (c8 (w60 b) (wG b) k f w h).cod != 0, bif (c8 (w60 b) (wG b) k f w h).cod != 0 then true else codF (few8 k) f w != 0] := by kernel_rfl
theorem fW8_lA : (fW8 [] b k f w h).pathL [true, true, true] = .leaf (V.b true) := by kernel_rfl
theorem fW8_cD (S : St) : (fW8 (or8 S) b k f w h).pathC [true, false, false, true, false, true] = [allN (w60 b) (szW (wG b)), (c8 (w60 b) (wG b) k f w h).cod != 0, codF (few8 k) f w != 0, decide ((c8 (w60 b) (wG b) k f w h).pls.length ≤ 1000000),
    ((rc8 (c8 (w60 b) (wG b) k f w h)).length : Int) != ((c8 (w60 b) (wG b) k f w h).pls.length : Int),
    @decide (SAi w h (plN (few8 k) f w) (gR f w (few8 k)) (rc8 (c8 (w60 b) (wG b) k f w h)).length (gOf rcQ (rc8 (c8 (w60 b) (wG b) k f w h))) (0 : Nat) = S) (Classical.propDecidable _)] := by kernel_rfl
theorem fW8_lD (S : St) : (fW8 (or8 S) b k f w h).pathL [true, false, false, true, false, true] = .leaf (V.b true) := by kernel_rfl
theorem g8A (N : Nat) (G : Nat → Nat → Q) (hN : w60 b = N) (hG : wG b = G) (hs : allN N (szW G) = true) (hc : ((c8 N G k f w h).cod != 0) = true) : (fW8 [] b k f w h).pick = some (V.b true) := by
  subst hN hG
  exact (T.pick_path [true, true, true] _ ((fW8_cA b k f w h).trans (by rw [hs, hc]; rfl))).trans (congrArg T.pick (fW8_lA b k f w h))
theorem g8D (N : Nat) (G : Nat → Nat → Q) (hN : w60 b = N) (hG : wG b = G) (hs : allN N (szW G) = true) (S : St) (c : Wr) (hcc : c8 N G k f w h = c) (hc : (c.cod != 0) = false) (hf : rightF c.m c.f c.w = true) (hl : c.pls.length ≤ 1000000)
    (hS : SAi w h (plN c.m c.f c.w) (gR c.f c.w c.m) (rc8 c).length (gOf rcQ (rc8 c)) (0 : Nat) = S) : (fW8 (or8 S) b k f w h).pick = some (V.b true) := by
  subst hN hG hcc
  refine (T.pick_path [true, false, false, true, false, true] _ ((fW8_cD b k f w h S).trans ?_)).trans (congrArg T.pick (fW8_lD b k f w h S))
  have hcf : codF (few8 k) f w = 0 := by
    show (bif rightF (few8 k) f w then (0 : Int) else 110) = 0
    rw [show rightF (few8 k) f w = true from hf]; rfl
  rw [hs, hc, hcf, decide_eq_true hl, rcL_len, @decide_eq_true _ (Classical.propDecidable _) (by rw [rcL_len] at hS; exact hS)]
  simp
end
def apartW.s : List V → T V
  | [.q (.c (.string b)), .q (.lst [.int .i64, .int .i64, .bool, .bool] k f), .q (.c (.int .i64 w)), .q (.c (.int .i64 h))] => .leaf (V.b true)
  | _ => .bad
theorem apartW.ok : SpecOK Tryz.prog 7 apartW.s := by
  refine okF ΓW8.ok Tryz.func7 (by kernel_rfl) (by kernel_rfl) fun args r hb hr => ?_
  unfold apartW.s at hr
  split at hr
  · rename_i b k f w h
    obtain ⟨N, hN⟩ : ∃ N, w60 b = N := ⟨_, rfl⟩
    obtain ⟨G, hG⟩ : ∃ G, wG b = G := ⟨_, rfl⟩
    have hs : allN N (szW G) = true := by rw [← hN, ← hG]; exact w60_sz b
    have hsum : hsum G N 0 ≤ 460 := by rw [← hN, ← hG]; exact w60_hsum b
    rw [← hr]
    obtain ⟨c, hcc⟩ : ∃ c, c8 N G k f w h = c := ⟨_, rfl⟩
    cases hc : c.cod != 0 with
    | true => exact ⟨[], LamOK.nil _ _, g8A b k f w h N G hN hG hs (by rw [hcc]; exact hc)⟩
    | false =>
      have hok : c.ok := Wr.ok_of hc
      have hlen := Wr.pls_len c (right_ok hok.rw_)
      have e1 : c.n = N := by rw [← hcc]
      have e2 : c.g = G := by rw [← hcc]
      have e3 : c.w = w := by rw [← hcc]
      have e4 : c.h = h := by rw [← hcc]
      have hp : plN c.m c.f c.w = c.m := by simp only [plN, hok.rf, cond_true]
      have hm20 := (fl_right_ok.1 hok.rf).hm
      have hL : (rc8 c).length = c.pls.length := rcL_len _ _ _
      have hloop := loopAi w h (plN c.m c.f c.w) (gR c.f c.w c.m) (rc8 c).length (gOf rcQ (rc8 c)) (by rw [hp]; omega) (by rw [hL]; omega)
        (fun i hi => by rw [hL] at hi; have ht : tooA (gOf rcQ (rc8 c)) c.h i = false := too_off hok i hi; rwa [e4] at ht)
        (fun i hi => by
          rw [hL] at hi
          have hi' : gRc (gOf rcQ (rc8 c)) i = rcOf c.h (c.pls[i]) := by rw [rcL_at _ _ hi, gPl_of hi]
          rw [hi']
          by_cases hw : (c.pls[i]).w > w
          · exact .inl hw
          · refine .inr fun k hk => ?_
            rw [hp] at hk
            exact line_off hok (by rw [e1, e2]; exact hsum) (List.getElem_mem hi) (by rw [e3]; omega) hk)
      exact ⟨_, (LamOK.orc (p := pAi) (mk := false) (nn := 116) (k := 0) (live := [2, 3, 9, 13, 15, 16]) (c := .loop bodyAi) (by kernel_rfl) hloop (LamOK.nil _ _)), g8D b k f w h N G hN hG hs _ c hcc hc hok.rf hlen rfl⟩
  · cases hr
end
theorem apartW.all (b : ByteArray) (k : Nat) (f : Nat → Nat → Q) (w h : Int) (_ : b.size ≤ maxLen) (_ : k ≤ 9223372036854775807) (_ : Wf w) (_ : Wf h) : (apartW.s [V.s b, lstF k f, V.i w, V.i h]).pick = some (V.b true) := rfl

theorem apartW_lifted (os : Os) (started : os.Started) (H : Type) (enc : TypeId × Value → H) :
    ReturnsInHanded {} Tryz.checked os 7 .any (fun w args => (Rows.wrapApartSpec.pre enc Tryz.prog Tryz.f7 [] false w args ∧ laidMetH Tryz.prog laidL w) ∧ sizedMet enc Tryz.prog Tryz.f7 (OpenSpec.ofChange Rows.wrapApartSpec) false w args)
      (Rows.wrapApartSpec.post enc Tryz.prog Tryz.f7 false true false false) :=
  row_of (rt := 4) (shs := [(false, [.str]), (false, [.lst ksF]), (false, [.int .i64]), (false, [.int .i64])]) H enc os started (fun e => @apartW.ok e) Tryz.func7 (by kernel_rfl) (by kernel_rfl) rfl
    (fun ds hl => by
      have hl' : ds.length = 4 := hl
      match ds, hl' with
      | [d1, d2, d3, d4], _ => rfl)
    (by kernel_rfl)
    (fun xs h => by
      obtain ⟨x1, l, rfl, p1, h⟩ := pvs_cons h
      obtain ⟨x2, l, rfl, p2, h⟩ := pvs_cons h
      obtain ⟨x3, l, rfl, p3, h⟩ := pvs_cons h
      obtain ⟨x4, l, rfl, p4, h⟩ := pvs_cons h
      obtain rfl := pvs_nil h
      obtain ⟨n1, rfl, hn1⟩ := pv_text p1
      obtain ⟨n2, g2, rfl, hn2⟩ := pv_floats p2
      obtain ⟨n3, rfl, w3⟩ := pv_int p3
      obtain ⟨n4, rfl, w4⟩ := pv_int p4
      exact apartW.all n1 n2 g2 n3 n4 hn1 hn2 w3 w4)
    (by kernel_rfl)
    (ChangeSpec.witness_at (enc := enc) (C := Tryz.checked) (os := os) (X := fun w _ => laidMetH Tryz.prog laidL w) false (laidWorld os) #[.string ⟨#[]⟩, .slice none 0 0, .int .i64 0, .int .i64 0] 8 rfl (by kernel_rfl) (by kernel_rfl) (by kernel_rfl) (by kernel_rfl) (by kernel_rfl) (laidWorld_met os _))

theorem apartW_row : Rows.WrapApartSaid :=
  OpenClaim.holds_of_wide 7 Tryz.f7 rfl rfl rfl rfl rfl rfl rfl ⟨rfl, rfl, rfl, rfl, rfl⟩ rfl rfl rfl rfl rfl (by kernel_rfl) Tryz.func7 (by kernel_rfl)
    (of_decide_eq_true (by kernel_rfl)) (by unfold Func.isWrapper; rw [if_neg (of_decide_eq_false (by kernel_rfl))]; exact ⟨rfl, rfl⟩)
    (fun os started H enc _ => apartW_lifted os started H enc)

theorem apartW_holds : Rows.WrapApartCardSaid :=
  Claim7.holds_tied_plain_at .later [] [.handle, .sentinel, .sentinel] true Rows.wrapApartCard.stood.harness true
    apartW_row (fun _ h => by cases h) (by kernel_rfl) (fun _ h => by cases h) wrapApart_row_tie rfl ⟨rfl, rfl⟩ (by kernel_rfl) rfl
    (fun f fn hf hfn => by
      obtain rfl : f = 7 := Option.some.inj ((show Tryz.prog.funcNamed "gutter/gutterlaw12.WrapApart" = some 7 by kernel_rfl).symm.trans hf) |>.symm
      obtain rfl : fn = Tryz.f7 := (Option.some.inj (Tryz.func7.symm.trans hfn)).symm
      exact ⟨by kernel_rfl, fun j t ht => by
        have e : Tryz.f7.params.all (fun t => !(Tryz.pinned.checked.prog.wantsStandIn t)) = true := by kernel_rfl
        have := Array.all_eq_true_iff_forall_mem.1 e t (Array.mem_of_getElem? ht)
        simpa using this⟩)
    (by kernel_rfl)
#print axioms apartW_holds
end Go.Proofs.YthmlbmambcigcaaGreatDoor
