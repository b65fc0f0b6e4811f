/- The card of WrapBelow: lines that begin below all floats are chapter 8's of the words that are left. -/
import Derived.Test.YthmlbmambcigcaaGreatDoorMe
namespace Go.Proofs.YthmlbmambcigcaaGreatDoor
open Go Go.SX Go.Proofs Go.RowKit
set_option maxRecDepth 100000
variable [EA]
set_option linter.unusedVariables false
set_option linter.unusedSectionVars false
set_option linter.unusedSimpArgs false

/-! ### a text's words -/
def tot (l : List Wd) : Nat := (l.map fun x => x.t.size).sum
theorem tot_app (l : List Wd) (x : Wd) : tot (l ++ [x]) = tot l + x.t.size := by simp [tot]
structure WI (l : List Wd) (i : Nat) : Prop where
  ok : ∀ x ∈ l, badR x = false
  tot : tot l ≤ i
  len : l.length ≤ i
theorem badR_at (b : ByteArray) (hb : b.size ≤ 400) {i e : Nat} (hi : i < e) (he : e ≤ b.size) {sp hd : Int} (hs : sp = 0 ∨ sp = 256) (hh : 0 ≤ hd ∧ hd ≤ 400) : badR (wdAt b i e sp hd) = false ∧ (wdAt b i e sp hd).t.size = e - i := by
  have hz : (subT b i e).size = e - i := by
    show (b.extract (i : Int).toNat (e : Int).toNat).size = _
    rw [ByteArray.size_extract, Int.toNat_natCast, Int.toNat_natCast]; omega
  refine ⟨?_, hz⟩
  unfold badR
  have h1 : ((wdAt b i e sp hd).t.toList == (ByteArray.mk #[]).toList) = false := by
    rw [beq_eq_false_iff_ne]
    intro h
    rw [ByteArray.toList_eq, ByteArray.toList_eq] at h
    have := congrArg List.length h
    have e2 : (subT b i e).data.toList.length = e - i := hz
    replace this : (subT b i e).data.toList.length = 0 := this
    omega
  have h2 : decide (((wdAt b i e sp hd).t.size : Int) > 400) = false := decide_eq_false (by show ¬ ((subT b i e).size : Int) > 400; omega)
  have h3 : ((wdAt b i e sp hd).w != wsum (wdAt b i e sp hd).t (wdAt b i e sp hd).t.size) = false := by simp [wdAt]
  have h4 : (bif decide ((wdAt b i e sp hd).h < 0) then true else decide ((wdAt b i e sp hd).h > 400)) = false := by
    rw [cond_or]; exact decide_eq_false (by show ¬ (hd < 0 ∨ hd > 400); omega)
  rw [h1, h2, h3, h4]
  rcases hs with rfl | rfl <;> rfl
theorem wordsF_inv (b : ByteArray) (hb : b.size ≤ 400) : ∀ (k : Nat) (l : List Wd) (sp hd : Int) (i : Nat), i ≤ b.size → b.size ≤ k + i → WI l i → (sp = 0 ∨ sp = 256) → 0 ≤ hd → hd ≤ i → WI (wordsF b k l sp hd i) b.size
  | 0, l, sp, hd, i, h1, h2, h3, h4, h5, h6 => by
    have : i = b.size := by omega
    subst this; exact h3
  | k + 1, l, sp, hd, i, h1, h2, h3, h4, h5, h6 => by
    rw [wordsF]
    split
    · rename_i hlt
      have up : ∀ e, i ≤ e → WI l e := fun e he => ⟨h3.ok, Nat.le_trans h3.tot he, Nat.le_trans h3.len he⟩
      cases g1 : sByte b i == 10 with
      | true =>
        show WI (wordsF b k l 0 (w64 (hd + 1)) (i + 1)) b.size
        rw [w64_id (by omega) (by omega)]
        exact wordsF_inv b hb k l 0 (hd + 1) (i + 1) hlt (by omega) (up _ (by omega)) (.inl rfl) (by omega) (by omega)
      | false =>
        cases g2 : sByte b i == 32 with
        | true => exact wordsF_inv b hb k l 256 hd (i + 1) hlt (by omega) (up _ (by omega)) (.inr rfl) h5 (by omega)
        | false =>
          have p1 := pn_le b h1
          have p2 := pn_pos b hlt g1 g2
          have hsp : (bif (l.length : Int) == 0 then 0 else sp) = 0 ∨ (bif (l.length : Int) == 0 then 0 else sp) = 256 := by
            cases (l.length : Int) == 0
            · exact h4
            · exact .inl rfl
          obtain ⟨q1, q2⟩ := badR_at b hb (i := i) (e := i + pn b i) (hd := hd) (by omega) p1 hsp ⟨h5, by omega⟩
          refine wordsF_inv b hb k (l ++ [wdAt b i (i + pn b i : Nat) (bif (l.length : Int) == 0 then 0 else sp) hd]) 0 0 (i + pn b i) p1 (by omega) ⟨fun x hx => ?_, ?_, ?_⟩ (.inl rfl) (Int.le_refl _) (by omega)
          · rcases List.mem_append.1 hx with hx | hx
            · exact h3.ok x hx
            · rw [List.mem_singleton.1 hx]; exact q1
          · rw [tot_app, q2]; have := h3.tot; omega
          · rw [List.length_append, List.length_singleton]; have := h3.len; omega
    · have : i = b.size := by omega
      subst this; exact h3
theorem words_inv (b : ByteArray) (hb : b.size ≤ 400) : WI (words b) b.size := wordsF_inv b hb b.size [] 0 0 0 (Nat.zero_le _) (by omega) ⟨fun x hx => absurd hx (List.not_mem_nil), Nat.le_refl _, Nat.le_refl _⟩ (.inl rfl) (Int.le_refl _) (Int.le_refl _)
theorem words_right (b : ByteArray) (hb : b.size ≤ 400) : rightW (words b).length (gOf wdQ (words b)) = true := by
  have h := words_inv b hb
  unfold rightW
  rw [allN_true fun i hi => by
    rw [gWd_of hi, ← badR_eq, h.ok _ (List.getElem_mem hi)]; rfl]
  have := h.len
  exact decide_eq_true (by omega)

/-! ### a line's text is as wide as the line -/
/-- How wide m words from k on are, with what is ahead of each. -/
def qS (g : Nat → Nat → Q) (k : Nat) : Nat → Int
  | 0 => 0
  | m + 1 => qS g k m + (gWd g (k + m)).s + (gWd g (k + m)).w
theorem qS_cons (g : Nat → Nat → Q) (k : Nat) : ∀ m, qS g k (m + 1) = (gWd g k).s + (gWd g k).w + qS g (k + 1) m
  | 0 => by simp [qS]
  | m + 1 => by
    rw [qS, qS_cons g k m, qS, show k + 1 + m = k + (m + 1) by omega]; omega
theorem tkF_sum {n : Nat} {g : Nat → Nat → Q} (hg : GdW n g) {w : Int} (hw2 : w ≤ 1000000000) : ∀ f k v, k + f ≤ n → 0 ≤ v → v ≤ 1000000000000 → (tkF g w f k v).2 = v + qS g k ((tkF g w f k v).1 - k)
  | 0, k, v, _, _, _ => by simp [tkF, qS]
  | f + 1, k, v, hk, h0, h2 => by
    rw [tkF_suc]
    have gd := hg.2 k (by omega)
    cases ht : takeB w v (gWd g k) with
    | true =>
      obtain ⟨a1, a2⟩ := takeB_iff.1 ht
      have b1 := addW_gd h0 h2 gd
      have s0 := gd.s0
      have w0 := gd.w0
      have ih := tkF_sum hg hw2 f (k + 1) (addW v (gWd g k)) (by omega) (by omega) (by omega)
      have hge := tkF_ge g w f (k + 1) (addW v (gWd g k))
      show (tkF g w f (k + 1) (addW v (gWd g k))).2 = v + qS g k ((tkF g w f (k + 1) (addW v (gWd g k))).1 - k)
      rw [ih, show (tkF g w f (k + 1) (addW v (gWd g k))).1 - k = ((tkF g w f (k + 1) (addW v (gWd g k))).1 - (k + 1)) + 1 by omega, qS_cons]
      omega
    | false => show v = v + qS g k (k - k); rw [Nat.sub_self]; simp [qS]
theorem putT_wide (b : ByteArray) (hb : b.size ≤ 500000) (f : Bool) {x : Wd} (hx : Gd x) : wsum (putT b f x) (putT b f x).size = wsum b b.size + (bif f then 0 else x.s) + x.w := by
  have ht := hx.t
  unfold putT
  cases f with
  | true => show wsum (b ++ x.t) (b ++ x.t).size = _; rw [wsum_app b x.t (by omega), ← hx.w]; simp
  | false =>
    rcases hx.s with h | h
    · rw [h]
      show wsum (b ++ x.t) (b ++ x.t).size = _
      rw [wsum_app b x.t (by omega), ← hx.w]; simp
    · rw [h]
      show wsum (b ++ blank ++ x.t) (b ++ blank ++ x.t).size = _
      have h1 : (b ++ blank).size = b.size + 1 := size_app b blank
      rw [wsum_app (b ++ blank) x.t (by omega), wsum_app b blank (by show b.size + 1 ≤ _; omega), wsum_blank, ← hx.w]; rfl
theorem txF_wide {n : Nat} {g : Nat → Nat → Q} (hg : GdW n g) (a : Nat) : ∀ m, a + m < n → wsum (txF g a (m + 1)) (txF g a (m + 1)).size = (gWd g a).w + qS g (a + 1) m
  | 0, h => by
    show wsum (putT noT true (gWd g (a + 0))) _ = _
    have := putT_wide noT (Nat.zero_le _) true (hg.2 (a + 0) h)
    refine this.trans ?_
    show (0 : Int) + 0 + (gWd g a).w = _ + 0
    omega
  | m + 1, h => by
    have ih := txF_wide hg a m (by omega)
    have hn := hg.1
    have hsz := txF_size g a (m + 1) fun j hj => (hg.2 (a + j) (by omega)).t
    show wsum (putT (txF g a (m + 1)) (decide (m + 1 = 0)) (gWd g (a + (m + 1)))) (putT (txF g a (m + 1)) (decide (m + 1 = 0)) (gWd g (a + (m + 1)))).size = _
    rw [decide_eq_false (by omega), putT_wide (txF g a (m + 1)) (by omega) false (hg.2 (a + (m + 1)) h), ih]
    show _ = (gWd g a).w + (qS g (a + 1) m + (gWd g (a + 1 + m)).s + (gWd g (a + 1 + m)).w)
    rw [show a + 1 + m = a + (m + 1) by omega]
    show (gWd g a).w + qS g (a + 1) m + (gWd g (a + (m + 1))).s + _ = _
    omega
theorem line_wide {n : Nat} {g : Nat → Nat → Q} (hg : GdW n g) {w : Int} (hw2 : w ≤ 1000000000) {i : Nat} (hi : i < n) : wsum (txF g i (nextZ n g w i - i)) (txF g i (nextZ n g w i - i)).size = (nextL n g w i).w := by
  have z1 := nextZ_gt n g w i
  have z2 := nextZ_le (g := g) (w := w) hi
  have a := hg.w1 hi
  have h := tkF_sum hg hw2 (n - (i + 1)) (i + 1) (gWd g i).w (by omega) a.1 (by omega)
  rw [show nextZ n g w i - i = (nextZ n g w i - (i + 1)) + 1 by omega, txF_wide hg i _ (by omega)]
  exact h.symm

/-! ### a width that all fit -/
/-- Where the next line end is; how wide all is up to there. -/
def hzF (g : Nat → Nat → Q) : Nat → Nat → Nat
  | 0, k => k
  | f + 1, k => if (gWd g k).h = 0 then hzF g f (k + 1) else k
def sF (g : Nat → Nat → Q) : Nat → Nat → Int
  | 0, _ => 0
  | f + 1, k => if (gWd g k).h = 0 then (gWd g k).s + (gWd g k).w + sF g f (k + 1) else 0
def szS (g : Nat → Nat → Q) : Nat → Nat → Nat
  | 0, _ => 0
  | f + 1, k => (gWd g k).t.size + szS g f (k + 1)
def hS (g : Nat → Nat → Q) : Nat → Nat → Int
  | 0, _ => 0
  | f + 1, k => (gWd g k).h + hS g f (k + 1)
theorem sF_le {n : Nat} {g : Nat → Nat → Q} (hg : GdW n g) : ∀ f k, k + f ≤ n → 0 ≤ sF g f k ∧ sF g f k ≤ 256 * (f : Int) + 1024 * (szS g f k : Int)
  | 0, k, _ => ⟨Int.le_refl _, Int.le_refl _⟩
  | f + 1, k, h => by
    have gd := hg.2 k (by omega)
    have s0 := gd.s0
    have w0 := gd.w0
    have ih := sF_le hg f (k + 1) (by omega)
    rw [sF, szS]
    split
    · omega
    · omega
theorem szS_le {n : Nat} {g : Nat → Nat → Q} (hg : GdW n g) : ∀ f k, k + f ≤ n → szS g f k ≤ 400 * f
  | 0, k, _ => Nat.le_refl _
  | f + 1, k, h => by
    have := (hg.2 k (by omega)).t
    have := szS_le hg f (k + 1) (by omega)
    rw [szS]; omega
theorem hzF_le (g : Nat → Nat → Q) : ∀ f k, k ≤ hzF g f k ∧ hzF g f k ≤ k + f
  | 0, k => ⟨Nat.le_refl _, Nat.le_refl _⟩
  | f + 1, k => by
    have := hzF_le g f (k + 1)
    rw [hzF]
    split <;> omega
theorem hzF_stop (g : Nat → Nat → Q) : ∀ f k, hzF g f k = k + f ∨ ¬ (gWd g (hzF g f k)).h = 0
  | 0, k => .inl rfl
  | f + 1, k => by
    rw [hzF]
    split
    · have := hzF_stop g f (k + 1)
      rwa [show k + 1 + f = k + (f + 1) by omega] at this
    · rename_i h; exact .inr h
theorem hS_hz (g : Nat → Nat → Q) : ∀ f k, hS g f k = hS g (k + f - hzF g f k) (hzF g f k)
  | 0, k => by simp [hS, hzF]
  | f + 1, k => by
    rw [hzF]
    split
    · rename_i h
      rw [hS, h, hS_hz g f (k + 1), show k + 1 + f = k + (f + 1) by omega]; omega
    · rw [show k + (f + 1) - k = f + 1 by omega]
theorem hS_snoc (g : Nat → Nat → Q) : ∀ f k, hS g (f + 1) k = hS g f k + (gWd g (k + f)).h
  | 0, k => by simp [hS]
  | f + 1, k => by
    rw [hS, hS_snoc g f (k + 1), hS, show k + 1 + f = k + (f + 1) by omega]; omega
theorem sF_pass {n : Nat} {g : Nat → Nat → Q} (hg : GdW n g) (i : Nat) : ∀ f k, k + f ≤ n → k ≤ i → i < hzF g f k → (gWd g i).w + sF g (k + f - (i + 1)) (i + 1) ≤ sF g f k
  | 0, k, _, h1, h2 => by have : i < k := h2; omega
  | f + 1, k, hk, h1, h2 => by
    rw [hzF] at h2
    rw [sF]
    have gd := hg.2 k (by omega)
    have s0 := gd.s0
    have w0 := gd.w0
    split at h2
    · rename_i hh
      rw [if_pos hh]
      rcases Nat.lt_or_ge k i with hlt | hge
      · have := sF_pass hg i f (k + 1) (by omega) (by omega) h2
        rw [show k + 1 + f - (i + 1) = k + (f + 1) - (i + 1) by omega] at this
        omega
      · have : i = k := by omega
        subst this
        rw [show i + (f + 1) - (i + 1) = f by omega]; omega
    · omega
theorem tkF_fit {n : Nat} {g : Nat → Nat → Q} (hg : GdW n g) {w : Int} (hw2 : w ≤ 1000000000) : ∀ f k v, k + f ≤ n → 0 ≤ v → v + sF g f k ≤ w → tkF g w f k v = (hzF g f k, v + sF g f k)
  | 0, k, v, _, _, _ => by simp [tkF, hzF, sF]
  | f + 1, k, v, hk, h0, h => by
    have gd := hg.2 k (by omega)
    have s0 := gd.s0
    have w0 := gd.w0
    rw [tkF_suc, hzF, sF]
    rw [sF] at h
    have hs := sF_le hg f (k + 1) (by omega)
    by_cases hh : (gWd g k).h = 0
    · rw [if_pos hh] at h
      rw [if_pos hh, if_pos hh]
      have b1 := addW_gd h0 (by omega) gd
      rw [takeB_iff.2 ⟨hh, by omega⟩]
      show tkF g w f (k + 1) (addW v (gWd g k)) = _
      rw [tkF_fit hg hw2 f (k + 1) (addW v (gWd g k)) (by omega) (by omega) (by omega), b1]
      congr 1; omega
    · rw [if_neg hh] at h
      rw [if_neg hh, if_neg hh]
      cases ht : takeB w v (gWd g k) with
      | true => exact absurd (takeB_iff.1 ht).1 hh
      | false => show (k, v) = _; rw [Int.add_zero]
theorem moI_eq {n : Nat} {g : Nat → Nat → Q} (hg : GdW n g) : ∀ f k b v, k + f ≤ n → 0 ≤ v → v ≤ b → v ≤ 1000000000 + 500000 * (k : Int) → moI g f b v k = max b (v + sF g f k)
  | 0, k, b, v, _, _, h, _ => by simp [moI, sF]; omega
  | f + 1, k, b, v, hk, h0, hb, hv => by
    have gd := hg.2 k (by omega)
    have s0 := gd.s0
    have w0 := gd.w0
    have t0 := gd.t
    have hn := hg.1
    have hs := sF_le hg f (k + 1) (by omega)
    rw [moI, sF]
    by_cases hh : (gWd g k).h = 0
    · rw [if_pos hh, hh]
      have b1 := addW_gd h0 (by omega) gd
      show moI g f (mx2 b (addW v (gWd g k))) (addW v (gWd g k)) (k + 1) = _
      rw [mx2_eq, moI_eq hg f (k + 1) _ _ (by omega) (by omega) (by omega) (by omega), b1]
      omega
    · have h1 : ¬ (gWd g k).h ≤ 0 := by have := gd.h; omega
      rw [if_neg hh, decide_eq_false h1]
      show b = _
      omega
/-- How wide all is from a word to the next line end. -/
def rho (n : Nat) (g : Nat → Nat → Q) (i : Nat) : Int := (gWd g i).w + sF g (n - (i + 1)) (i + 1)
theorem moO_suc {n : Nat} {g : Nat → Nat → Q} (hg : GdW n g) {i : Nat} (hi : i < n) : moO n g (i + 1) = max (moO n g i) (rho n g i) := by
  have a := hg.w1 hi
  have hs := sF_le hg (n - (i + 1)) (i + 1) (by omega)
  rw [moO, mx2_eq, moI_eq hg _ _ _ _ (by omega) a.1 (by omega) (by omega)]
  unfold rho
  omega
theorem moO_le {n : Nat} {g : Nat → Nat → Q} (hg : GdW n g) (X : Int) : ∀ k, k ≤ n → (moO n g k ≤ X ↔ (gWd g 0).w ≤ X ∧ ∀ i, i < k → rho n g i ≤ X)
  | 0, _ => by simp [moO]
  | k + 1, hk => by
    rw [moO_suc hg hk]
    have ih := moO_le hg X k (by omega)
    constructor
    · intro h
      obtain ⟨h1, h2⟩ := ih.1 (by omega)
      refine ⟨h1, fun i hi => ?_⟩
      rcases Nat.lt_or_ge i k with h3 | h3
      · exact h2 i h3
      · rw [show i = k by omega]; omega
    · intro h
      have h1 := ih.2 ⟨h.1, fun i hi => h.2 i (by omega)⟩
      have h2 := h.2 k (by omega)
      omega
theorem szS_tot (l : List Wd) : ∀ f k, k + f = l.length → szS (gOf wdQ l) f k = tot (l.drop k)
  | 0, k, h => by rw [List.drop_of_length_le (by omega)]; rfl
  | f + 1, k, h => by
    have hk : k < l.length := by omega
    rw [szS, szS_tot l f (k + 1) (by omega), List.drop_eq_getElem_cons hk, gWd_of hk]
    rfl
theorem szS_drop (g : Nat → Nat → Q) : ∀ f k, szS g f (k + 1) ≤ szS g (f + 1) k := fun f k => by rw [szS]; omega
theorem szS_mono (g : Nat → Nat → Q) (n : Nat) : ∀ k, k ≤ n → szS g (n - k) k ≤ szS g n 0
  | 0, _ => Nat.le_refl _
  | k + 1, h => by
    have h1 := szS_mono g n k (by omega)
    have h2 := szS_drop g (n - (k + 1)) k
    rw [show n - (k + 1) + 1 = n - k by omega] at h2
    omega
theorem widest_le (L : List Ln) (X : Int) : widestL (gOf lnQ L) L.length ≤ X ↔ 0 ≤ X ∧ ∀ x ∈ L, x.w ≤ X := by
  have key : ∀ n, widestL (gOf lnQ L) n ≤ X ↔ 0 ≤ X ∧ ∀ i, i < n → (gLn (gOf lnQ L) i).w ≤ X := by
    intro n
    induction n with
    | zero => simp [widestL]
    | succ n ih =>
      rw [widestL, mx2_eq]
      constructor
      · intro h
        obtain ⟨h1, h2⟩ := ih.1 (by omega)
        refine ⟨h1, fun i hi => ?_⟩
        rcases Nat.lt_or_ge i n with h3 | h3
        · exact h2 i h3
        · rw [show i = n by omega]; omega
      · intro h
        have h1 := ih.2 ⟨h.1, fun i hi => h.2 i (by omega)⟩
        have h2 := h.2 n (by omega)
        omega
  rw [key]
  refine and_congr_right fun _ => ⟨fun h x hx => ?_, fun h i hi => ?_⟩
  · obtain ⟨i, hi, rfl⟩ := List.mem_iff_getElem.1 hx
    have := h i hi
    rwa [gLn_of hi] at this
  · rw [gLn_of hi]; exact h _ (List.getElem_mem hi)
section
variable {n : Nat} {g : Nat → Nat → Q}
theorem next_fit (hg : GdW n g) (h2 : moO n g n ≤ 1000000000) {i : Nat} (hi : i < n) : tkF g (moO n g n) (n - (i + 1)) (i + 1) (gWd g i).w = (hzF g (n - (i + 1)) (i + 1), rho n g i) := by
  have a := hg.w1 hi
  have := ((moO_le hg (moO n g n) n (Nat.le_refl _)).1 (Int.le_refl _)).2 i hi
  exact tkF_fit hg h2 _ _ _ (by omega) a.1 this
theorem len_fit (hg : GdW n g) (h2 : moO n g n ≤ 1000000000) : ∀ f i, i ≤ n → n ≤ f + i → (i = n ∨ (0 < i ∧ ¬ (gWd g i).h = 0)) → ((linesF n g (moO n g n) f i).length : Int) = hS g (n - i) i
  | 0, i, h1, hf, _ => by
    rw [linesF_end n g _ (by omega), show n - i = 0 by omega]; rfl
  | f + 1, i, h1, hf, hc => by
    rcases Nat.lt_or_ge i n with hi | hge
    · have hz : nextZ n g (moO n g n) i = hzF g (n - (i + 1)) (i + 1) := by show (tkF g _ _ _ _).1 = _; rw [next_fit hg h2 hi]
      have hz2 := hzF_le g (n - (i + 1)) (i + 1)
      have hst := hzF_stop g (n - (i + 1)) (i + 1)
      have hh := (hg.2 i hi).h
      obtain ⟨c1, c2⟩ : 0 < i ∧ ¬ (gWd g i).h = 0 := hc.resolve_left (by omega)
      have hk : kBo i = 1 := by
        have : decide ((i : Int) > 0) = true := decide_eq_true (by omega)
        unfold kBo; rw [this]; rfl
      have he : (emptyN g i : Int) = (gWd g i).h - 1 := by
        show ((((gWd g i).h - kBo i).toNat : Nat) : Int) = _
        rw [hk]; omega
      rw [lines_len n g _ hi, hz]
      have ih := len_fit hg h2 f (hzF g (n - (i + 1)) (i + 1)) (by omega) (by omega) (by
        rcases hst with h | h
        · exact .inl (by omega)
        · exact .inr ⟨by omega, h⟩)
      have hs := hS_hz g (n - (i + 1)) (i + 1)
      rw [show i + 1 + (n - (i + 1)) - hzF g (n - (i + 1)) (i + 1) = n - hzF g (n - (i + 1)) (i + 1) by omega] at hs
      rw [show n - i = (n - (i + 1)) + 1 by omega, hS, hs, ← ih]
      omega
    · rw [linesF_end n g _ hge, show n - i = 0 by omega]; rfl
theorem len_all (hg : GdW n g) (h2 : moO n g n ≤ 1000000000) (h0 : 0 < n) : ((breakL n g (moO n g n)).length : Int) = hS g n 0 + 1 := by
  obtain ⟨f, rfl⟩ : ∃ f, n = f + 1 := ⟨n - 1, by omega⟩
  have hz : nextZ (f + 1) g (moO (f + 1) g (f + 1)) 0 = hzF g (f + 1 - (0 + 1)) (0 + 1) := by show (tkF g _ _ _ _).1 = _; rw [next_fit hg h2 h0]
  have hz2 := hzF_le g (f + 1 - (0 + 1)) (0 + 1)
  have hst := hzF_stop g (f + 1 - (0 + 1)) (0 + 1)
  have hh := (hg.2 0 h0).h
  have he : (emptyN g 0 : Int) = (gWd g 0).h := by
    show ((((gWd g 0).h - kBo 0).toNat : Nat) : Int) = _
    show ((((gWd g 0).h - 0).toNat : Nat) : Int) = _
    omega
  show ((linesF (f + 1) g (moO (f + 1) g (f + 1)) (f + 1) 0).length : Int) = _
  rw [lines_len (f + 1) g _ h0, hz]
  have ih := len_fit hg h2 f (hzF g (f + 1 - (0 + 1)) (0 + 1)) (by omega) (by omega) (by
    rcases hst with h | h
    · exact .inl (by omega)
    · exact .inr ⟨by omega, h⟩)
  have hs := hS_hz g (f + 1 - (0 + 1)) (0 + 1)
  rw [show 0 + 1 + (f + 1 - (0 + 1)) - hzF g (f + 1 - (0 + 1)) (0 + 1) = f + 1 - hzF g (f + 1 - (0 + 1)) (0 + 1) by omega] at hs
  rw [hS, show hS g f (0 + 1) = hS g (f + 1 - (0 + 1)) (0 + 1) by rw [show f + 1 - (0 + 1) = f by omega], hs, ← ih]
  omega
theorem rho_start (hg : GdW n g) (h2 : moO n g n ≤ 1000000000) {s i : Nat} (hs : s ≤ i) (hi : i < nextZ n g (moO n g n) s) (hin : i < n) : rho n g i ≤ rho n g s := by
  have hsn : s < n := by omega
  have hz : nextZ n g (moO n g n) s = hzF g (n - (s + 1)) (s + 1) := by show (tkF g _ _ _ _).1 = _; rw [next_fit hg h2 hsn]
  rw [hz] at hi
  rcases Nat.lt_or_ge s i with hlt | hge
  · have a := hg.w1 hsn
    have := sF_pass hg i (n - (s + 1)) (s + 1) (by omega) hlt hi
    rw [show s + 1 + (n - (s + 1)) - (i + 1) = n - (i + 1) by omega] at this
    unfold rho
    omega
  · rw [show s = i by omega]; exact Int.le_refl _
theorem widest_all (hg : GdW n g) (h2 : moO n g n ≤ 1000000000) (h0 : 0 < n) : widestL (gOf lnQ (breakL n g (moO n g n))) (breakL n g (moO n g n)).length = moO n g n := by
  have hw : ∀ {i}, i < n → (nextL n g (moO n g n) i).w = rho n g i := fun {i} hi => by show (tkF g _ _ _ _).2 = _; rw [next_fit hg h2 hi]
  have hmo := (moO_le hg (moO n g n) n (Nat.le_refl _)).1 (Int.le_refl _)
  have a0 := hg.w1 h0
  have hX := (widest_le (breakL n g (moO n g n)) (widestL (gOf lnQ (breakL n g (moO n g n))) (breakL n g (moO n g n)).length)).1 (Int.le_refl _)
  have hrho : ∀ i, i < n → rho n g i ≤ widestL (gOf lnQ (breakL n g (moO n g n))) (breakL n g (moO n g n)).length := fun i hi => by
    obtain ⟨s, e1, e2, e3⟩ := word_in (g := g) (w := moO n g n) hi n 0 (Nat.zero_le _) (by omega)
    have h3 := rho_start hg h2 e1 e2 hi
    have h4 := hX.2 _ e3
    rw [hw (show s < n by omega)] at h4
    omega
  refine Int.le_antisymm ?_ ?_
  · refine (widest_le _ _).2 ⟨by omega, fun x hx => ?_⟩
    obtain ⟨k, hk, rfl | rfl⟩ := mem_lines _ _ hx
    · show (0 : Int) ≤ _; omega
    · rw [hw hk]; exact hmo.2 k hk
  · refine (moO_le hg _ n (Nat.le_refl _)).2 ⟨?_, hrho⟩
    have h3 := hrho 0 h0
    have h4 := sF_le hg (n - (0 + 1)) (0 + 1) (by omega)
    unfold rho at h3
    omega
end
end Go.Proofs.YthmlbmambcigcaaGreatDoor

/- Lines beside floats, one by one: a text's words; no floats, or floats that are nothing: lines lie one straight below the other. -/
namespace Go.Proofs.YthmlbmambcigcaaGreatDoor
open Go Go.SX Go.Proofs
set_option maxRecDepth 100000
variable [EA]
set_option linter.unusedVariables false
set_option linter.unusedSectionVars false
set_option linter.unusedSimpArgs false

/-! ### a text's words -/
theorem t400_le (b : ByteArray) : (t400 b).size ≤ 400 := by
  rw [ByteArray.size_extract]
  simp only [mn2_eq]; omega
theorem w60_le (b : ByteArray) : w60 b ≤ 60 ∧ w60 b ≤ (words (t400 b)).length := by simp only [w60, mn2_eq]; omega
theorem rightW_pre {n k : Nat} {g : Nat → Nat → Q} (h : rightW n g = true) (hk : k ≤ n) : rightW k g = true := by
  unfold rightW at h ⊢
  cases ha : (allN n fun i => !badW (gWd g i)) with
  | false => rw [ha] at h; cases h
  | true =>
    rw [ha] at h
    have h5 := of_decide_eq_true (show decide ((n : Int) ≤ 500) = true from h)
    rw [allN_true fun i hi => allN_at ha (by omega)]
    exact decide_eq_true (by omega)
theorem w60_right (b : ByteArray) : rightW (w60 b) (wG b) = true := rightW_pre (words_right (t400 b) (t400_le b)) (w60_le b).2
theorem w60_sz (b : ByteArray) : allN (w60 b) (szW (wG b)) = true := allN_true fun i hi => decide_eq_true (by have := ((gdW_of (w60_right b)).2 i hi).t; omega)

/-! ### no floats -/
/-- A list that is none, in the place of the second argument. -/
def nilF : List V → List V
  | [a, .q (.c (.slice none 0 0)), w, h] => [a, .q (.lst ksF 0 fun _ _ => default), w, h]
  | l => l
theorem nilF_weak (l : List V) : WeakG l (nilF l) := fun S L θ w vs hd => by
  unfold nilF
  split
  · cases hd with
    | cons _ v1 _ l1 d1 hd => cases hd with
      | cons _ v2 _ l2 d2 hd => exact .cons _ _ _ _ d1 (.cons _ _ _ _ (den_nil0 rfl d2) hd)
  · exact hd
theorem SpecOK.weak [GW] {P : Program} {f : Nat} {sp : List V → T V} (h : SpecOK P f sp) (φ : List V → List V) (hφ : ∀ l, WeakG l (φ l)) : SpecOK P f (fun args => sp (φ args)) :=
  ⟨h.1, fun S w args vals r a b c d e => h.2 S w (φ args) vals r a b c (hφ args _ _ _ _ _ d) e⟩
noncomputable abbrev wPlace.n : List V → T V := fun args => wPlace.s (nilF args)
noncomputable abbrev wHigh.n : List V → T V := fun args => wHigh.s (nilF args)
theorem wPlace.okn : SpecOK Tryz.prog 14 wPlace.n := SpecOK.weak wPlace.ok nilF nilF_weak
theorem wHigh.okn : SpecOK Tryz.prog 16 wHigh.n := SpecOK.weak wHigh.ok nilF nilF_weak

/-- Floats that are nothing. -/
structure Wr.flat (c : Wr) : Prop where
  b : ∀ y, c.bes y = false
  a : ∀ y, c.ra y = 0
  w : ∀ y, c.rw y = c.w
abbrev c0 (n : Nat) (g : Nat → Nat → Q) (w h : Int) : Wr := ⟨n, g, 0, fun _ _ => default, w, h⟩
theorem w_of {m : Nat} {f : Nat → Nat → Q} {w : Int} (h : rightF m f w = true) : 0 ≤ w ∧ w ≤ 1048576 := by
  have := fl_right_ok.1 h
  have h1 := this.h1
  simp only [MS] at h1
  exact ⟨this.h0, h1⟩
theorem Wr.rw_flat {c : Wr} (hr : rightF c.m c.f c.w = true) {y : Int} (ha : c.ra y = 0) (hb : c.rb y = 0) : c.rw y = c.w := by
  have := w_of hr
  unfold Wr.rw
  rw [ha, hb]
  simp only [Int.sub_zero]
  have e : w64 c.w = c.w := w64_id (by omega) (by omega)
  rw [e, e, mx2_eq]
  omega
theorem c0_flat {n : Nat} {g : Nat → Nat → Q} {w h : Int} (hr : rightF 0 (fun _ _ => default) w = true) : (c0 n g w h).flat := by
  have ha : ∀ y, (c0 n g w h).ra y = 0 := fun y => by
    show (bif okYH 0 _ w y h then rI _ _ w y h false 0 else 0) = 0
    cases okYH 0 (fun _ _ => default) w y h <;> rfl
  have hb : ∀ y, (c0 n g w h).rb y = 0 := fun y => by
    show (bif okYH 0 _ w y h then rI _ _ w y h true 0 else 0) = 0
    cases okYH 0 (fun _ _ => default) w y h <;> rfl
  refine ⟨fun y => ?_, ha, fun y => Wr.rw_flat hr (ha y) (hb y)⟩
  show besA (plN 0 (fun _ _ => default) w) _ y h = false
  rw [show plN 0 (fun _ _ => default) w = 0 by simp only [plN, hr, cond_true]]
  rfl
theorem Wr.flat.go {c : Wr} (h : c.flat) (i : Nat) (y : Int) : c.go i y = false := by
  unfold Wr.go
  rw [h.b]
  cases decide ((gWd c.g i).w > c.rw y) <;> rfl
theorem Wr.flat.fr {c : Wr} (h : c.flat) (i : Nat) (y : Int) : c.fr i y = ⟨(nextR c.n c.g i c.w).1.a, (nextR c.n c.g i c.w).1.z, (nextR c.n c.g i c.w).1.w, 0, y⟩ := by
  unfold Wr.fr
  rw [Wr.yz0 (h.go i y), h.a, h.w]
theorem Wr.flat.z {c : Wr} (h : c.flat) (i : Nat) (y : Int) : c.zN i y = nextZ c.n c.g c.w i := by
  unfold Wr.zN
  rw [Wr.yz0 (h.go i y), h.w]
theorem Wr.flat.nil {c : Wr} (h : c.flat) (i : Nat) (y : Int) : c.nil i y = ⟨i, i, 0, 0, y⟩ := by
  show (⟨i, i, 0, c.ra y, y⟩ : Pl) = _
  rw [h.a]
/-- The lines hang on the words, the width, the height alone. -/
theorem Wr.flat.same {c d : Wr} (hc : c.flat) (hd : d.flat) (hn : c.n = d.n) (hg : c.g = d.g) (hw : c.w = d.w) (hh : c.h = d.h) : c.pls = d.pls := by
  have hy : ∀ y j, c.y1 y j = d.y1 y j := fun y j => by
    induction j with
    | zero => rfl
    | succ j ih => simp only [Wr.y1, ih, hh]
  have hnil : ∀ i k y, c.nils i k y = d.nils i k y := fun i k y => by
    unfold Wr.nils
    congr 1
    funext j
    rw [hy, hc.nil, hd.nil]
  have key : ∀ f i y, c.plF f i y = d.plF f i y := fun f => by
    induction f with
    | zero => intro i y; rfl
    | succ f ih =>
      intro i y
      rw [Wr.plF, Wr.plF, hn, hg]
      split
      · rw [hnil, hy, hc.fr, hd.fr, hc.z, hd.z, hh, hn, hg, hw, ih]
      · rfl
  unfold Wr.pls
  rw [hn, key]
/-- Each is one height below the one before. -/
theorem Wr.flat.ys {c : Wr} (h : c.flat) : ∀ f i k0 k (hk : k < (c.plF f i (c.y1 0 k0)).length), ((c.plF f i (c.y1 0 k0))[k]).y = c.y1 0 (k0 + k) ∧ ((c.plF f i (c.y1 0 k0))[k]).x = 0
  | 0, i, k0, k, hk => by simp [Wr.plF] at hk
  | f + 1, i, k0, k, hk => by
    have hadd : ∀ j, c.y1 (c.y1 0 k0) j = c.y1 0 (k0 + j) := fun j => by
      induction j with
      | zero => rfl
      | succ j ih => rw [← Nat.add_assoc]; simp only [Wr.y1, ih]
    by_cases hi : i < c.n
    · have e : c.plF (f + 1) i (c.y1 0 k0) = c.nils i (emptyN c.g i) (c.y1 0 k0) ++ c.fr i (c.y1 0 (k0 + emptyN c.g i)) :: c.plF f (c.zN i (c.y1 0 (k0 + emptyN c.g i))) (c.y1 0 (k0 + emptyN c.g i + 1)) := by
        rw [Wr.plF, if_pos hi, hadd]
        congr 2
        rw [h.fr]; rfl
      revert hk
      rw [e]
      intro hk
      rcases Nat.lt_or_ge k (emptyN c.g i) with hlt | hge
      · rw [List.getElem_append_left (by rw [Wr.nils_len]; exact hlt)]
        simp only [Wr.nils, List.getElem_map, List.getElem_range, h.nil, hadd]
        exact ⟨trivial, trivial⟩
      · rw [List.getElem_append_right (by rw [Wr.nils_len]; exact hge)]
        simp only [Wr.nils_len]
        rcases Nat.lt_or_ge (emptyN c.g i) k with hlt | hge2
        · obtain ⟨j, hj⟩ : ∃ j, k - emptyN c.g i = j + 1 := ⟨k - emptyN c.g i - 1, by omega⟩
          have hk2 : j < (c.plF f (c.zN i (c.y1 0 (k0 + emptyN c.g i))) (c.y1 0 (k0 + emptyN c.g i + 1))).length := by
            rw [List.length_append, Wr.nils_len, List.length_cons] at hk
            omega
          have := h.ys f (c.zN i (c.y1 0 (k0 + emptyN c.g i))) (k0 + emptyN c.g i + 1) j hk2
          simp only [hj, List.getElem_cons_succ]
          rw [show k0 + k = k0 + emptyN c.g i + 1 + j by omega]
          exact this
        · have hj : k - emptyN c.g i = 0 := by omega
          simp only [hj, List.getElem_cons_zero, h.fr]
          exact ⟨by rw [show k = emptyN c.g i by omega], trivial⟩
    · have e : c.plF (f + 1) i (c.y1 0 k0) = [] := by rw [Wr.plF, if_neg hi]
      rw [e] at hk
      cases hk
end Go.Proofs.YthmlbmambcigcaaGreatDoor

/- The card of WrapBelow: lines that begin below all floats are chapter 8's of the words that are left. -/
namespace Go.Proofs.YthmlbmambcigcaaGreatDoor
open Go Go.SX Go.Proofs Go.RowKit Go.ChangeShapes
set_option maxRecDepth 100000
set_option linter.unusedVariables false
set_option linter.unusedSectionVars false
set_option linter.unusedSimpArgs false

section
variable [EA]
/-! ### what each line is -/
theorem plF_each (c : Wr) : ∀ f i y p, p ∈ c.plF f i y → (∃ i y, p = c.nil i y) ∨ ∃ i y, i < c.n ∧ p = c.fr i y
  | 0, i, y, p, h => by cases h
  | f + 1, i, y, p, h => by
    rw [Wr.plF] at h
    split at h
    · rename_i hi
      rcases List.mem_append.1 h with h | h
      · obtain ⟨j, _, rfl⟩ := List.mem_map.1 h
        exact .inl ⟨_, _, rfl⟩
      · rcases List.mem_cons.1 h with h | h
        · exact .inr ⟨_, _, hi, h⟩
        · exact plF_each c f _ _ p h
    · cases h
theorem low_none {c : Wr} (h : c.ok) {y : Int} (hy : c.low ≤ y) : c.ra y = 0 ∧ c.rw y = c.w := by
  have hF := fl_right_ok.1 h.rf
  have hg := (gR_all hF c.m (Nat.le_refl _)).ok
  have key : ∀ b, (bif okYH c.m c.f c.w y c.h then rI (gR c.f c.w c.m) c.f c.w y c.h b c.m else 0) = 0 := fun b => by
    cases ho : okYH c.m c.f c.w y c.h with
    | false => rfl
    | true =>
      simp only [okYH, h.rf, cond_true] at ho
      have hb : bad4 y c.h = false := by simpa using ho
      have := (rI_all (f := c.f) hg (yh_of hb) hF.h0 hF.h1 b c.m (Nat.le_refl _)).2.2.2.2
      refine this fun k hk hh => ?_
      have h1 : lowE (gRc (gR c.f c.w c.m) k) ≤ c.low := by
        simp only [Wr.low, h.rf, cond_true]
        exact (lowS_ge (g := gR c.f c.w c.m) c.m).2 k hk
      have rb := hg.rb hk
      have h2 : lowE (gRc (gR c.f c.w c.m) k) = (gRc (gR c.f c.w c.m) k).y + (gRc (gR c.f c.w c.m) k).h := lowE_eq rb.y rb.h (by have := rb.yh; omega)
      have h3 := hh.2.2.2
      omega
  have ha : c.ra y = 0 := key false
  exact ⟨ha, Wr.rw_flat h.rf ha (key true)⟩

/-! ### the loop -/
abbrev pWv : List Nat := [0, 1, 0, 1, 1, 1, 1, 1, 1, 1]
noncomputable abbrev bodyWv : Code := loopAt Tryz.f5 pWv
def SWv (w : Int) (n : Nat) (g : Nat → Nat → Q) (m : Nat) (G : Nat → Nat → Q) (lo i : Int) : St := mkS 111 [(2, V.i w), (9, V.b true), (10, lWd n g), (11, lPl m G), (13, V.i lo), (15, V.i i)] [] [] false [] 0
def liveWv : Ex → List Nat | .normal => [2, 9, 10, 11, 13, 15] | .ret => [8] | _ => [9]
abbrev ΓWv : Gam := [(21, lNext.s)]
theorem ΓWv.ok : GOK Tryz.prog ΓWv := .cons lNext.ok (GOK.nil _)
noncomputable abbrev treeWv (s : St) : T (Ex × St × Bool) := ltree Tryz.prog ΓWv [] pWv bodyWv 111 0 liveWv poN s
def neB (p : Pl) (n : Nat) (g : Nat → Nat → Q) (w lo : Int) : Bool :=
  bif decide (p.y ≥ lo) then (bif decide (p.z > p.a) then (bif !((nextR n g p.a w).2 == 0) then true else (bif !(lnEq (nextR n g p.a w).1 p.l) then true else !(p.x == 0))) else false) else false
def okB (p : Pl) (n : Nat) (g : Nat → Nat → Q) (w lo : Int) (v : Bool) : Bool :=
  bif v then (bif decide (p.y ≥ lo) then (bif v then (bif v then (bif decide (p.z > p.a) then (bif !((nextR n g p.a w).2 == 0) then true else (bif v then (bif !(lnEq (nextR n g p.a w).1 p.l) then true else (bif v then true else false)) else false)) else true) else false) else false) else true) else false
theorem okB_true (p : Pl) (n : Nat) (g : Nat → Nat → Q) (w lo : Int) : okB p n g w lo true = true := by
  unfold okB
  cases decide (p.y ≥ lo) <;> cases decide (p.z > p.a) <;> cases ((nextR n g p.a w).2 == 0) <;> cases lnEq (nextR n g p.a w).1 p.l <;> rfl
theorem stepWv (w : Int) (n : Nat) (g : Nat → Nat → Q) (m : Nat) (G : Nat → Nat → Q) (lo : Int) (i : Nat) : treeWv (SWv w n g m G lo i) =
    .ite (decide ((i : Int) < m)) (.ite (inI i m) (.ite (allN n (szW g)) (.ite (okB (gPl G i) n g w lo (inI i m)) (.ite (neB (gPl G i) n g w lo) (.leaf (.ret, mkS 111 [(8, V.b false)] [] [] false [] 0, true)) (.leaf (.normal, SWv w n g m G lo (w64 (i + 1)), true))) .bad) .bad) .bad) (.leaf (.exit 0, mkS 111 [(9, V.b true)] [] [] false [] 0, true)) := by kernel_rfl
theorem loopWv (w : Int) (n : Nat) (g : Nat → Nat → Q) (m : Nat) (G : Nat → Nat → Q) (lo : Int) (hm : m ≤ 9223372036854775807) (hs : allN n (szW g) = true) (hne : ∀ i, i < m → neB (gPl G i) n g w lo = false) : ∀ y, (T.leaf (Ex.exit 0, mkS 111 [(9, V.b true)] [] [] false [] 0)).pick = some y → SemC Tryz.prog (.loop bodyWv) (SWv w n g m G lo (0 : Nat)) y := by
  refine loop_nat ΓWv.ok (root := cod Tryz.f5) (p := pWv) (by kernel_rfl) m (fun _ => True) (fun i => SWv w n g m G lo i) _ 111 0 liveWv poN poN_ok (fun i hi _ => ?_) trivial
  have e := stepWv w n g m G lo i
  rcases Nat.lt_or_ge i m with hlt | hge
  · rw [c_lt hlt, c_inI hlt, hs, okB_true, hne i hlt, w64_suc hlt hm] at e
    exact ⟨[], .normal, _, LamOK.nil _ _, (congrArg T.pick e).trans rfl, .inl ⟨rfl, hlt, trivial, rfl⟩⟩
  · have h : i = m := by omega
    subst h
    rw [c_ge (Nat.le_refl _)] at e
    exact ⟨[], .exit 0, _, LamOK.nil _ _, (congrArg T.pick e).trans rfl, .inr ⟨by simp, rfl⟩⟩
theorem below_ne {c : Wr} (h : c.ok) (i : Nat) (hi : i < c.pls.length) : neB (gPl (gOf plQ c.pls) i) c.n c.g c.w c.low = false := by
  rw [gPl_of hi]
  have hm := List.getElem_mem hi
  generalize c.pls[i] = p at hm
  unfold neB
  rcases plF_each c c.n 0 0 p hm with ⟨j, y, rfl⟩ | ⟨j, y, hj, rfl⟩
  · rw [decide_eq_false (show ¬ (c.nil j y).z > (c.nil j y).a from Int.lt_irrefl _)]
    cases decide ((c.nil j y).y ≥ c.low) <;> rfl
  · by_cases hy : (c.fr j y).y ≥ c.low
    · obtain ⟨ha, hw⟩ := low_none h (y := c.yz j y) hy
      have hl := Wr.fr_l h y hj
      have hfa : (c.fr j y).a = j := by
        have : (c.fr j y).l.a = j := by rw [hl]; rfl
        exact this
      have hx : (c.fr j y).x = 0 := ha
      have hn : nextR c.n c.g j c.w = (nextL c.n c.g c.w j, 0) := by
        have := Wr.next h (c.yz j y) hj
        rw [hw] at this; exact this
      rw [hfa, hn, hl, hw, hx]
      cases decide ((c.fr j y).y ≥ c.low) <;> cases decide ((c.fr j y).z > (j : Int)) <;> simp [lnEq]
    · rw [decide_eq_false hy]; rfl
/-- A list that is none, in the place of the first argument. -/
def nilA : List V → List V
  | [.q (.c (.slice none 0 0)), w] => [.q (.lst ksLn 0 fun _ _ => default), w]
  | l => l
theorem nilA_weak (l : List V) : WeakG l (nilA l) := fun S L θ w vs hd => by
  unfold nilA
  split
  · cases hd with
    | cons _ v1 _ l1 d1 hd => exact .cons _ _ _ _ (den_nil0 rfl d1) hd
  · exact hd
abbrev over.n : List V → T V := fun args => over.s (nilA args)
noncomputable abbrev ΓW7 : Gam := [(11, wshown.s), (19, wwords.s), (13, wfew.s), (14, wPlace.s), (20, fLow.s), (21, lNext.s), (22, over.n)]
theorem ΓW7.ok : GOK Tryz.prog ΓW7 := .cons wshown.ok (.cons wwords.ok (.cons wfew.ok (.cons wPlace.ok (.cons fLow.ok (.cons lNext.ok (.cons (SpecOK.weak rOver.ok nilA nilA_weak) (GOK.nil _)))))))
noncomputable abbrev fW7 (Λ : Lam) (b : ByteArray) (k : Nat) (f : Nat → Nat → Q) (w h : Int) : T V := funV Tryz.prog ΓW7 Λ Tryz.f5 (cod Tryz.f5) [V.s b, lstF k f, V.i w, V.i h]
noncomputable abbrev or7 (S : St) : Lam := [(pWv, orc false 111 0 [2, 9, 10, 11, 13, 15] S (.leaf (Ex.exit 0, mkS 111 [(9, V.b true)] [] [] false [] 0)))]
abbrev c7 (N : Nat) (G : Nat → Nat → Q) (k : Nat) (f : Nat → Nat → Q) (w h : Int) : Wr := ⟨N, G, few8 k, f, w, h⟩
section
variable (b : ByteArray) (k : Nat) (f : Nat → Nat → Q) (w h : Int)
theorem fW7_cA : (fW7 [] b k f w h).pathC [true, true, true] = [allN (w60 b) (szW (wG b)), (c7 (w60 b) (wG b) k f w h).cod != 0, bif (c7 (w60 b) (wG b) k f w h).cod != 0 then true else codF (few8 k) f w != 0] := by kernel_rfl
theorem fW7_lA : (fW7 [] b k f w h).pathL [true, true, true] = .leaf (V.b true) := by kernel_rfl
theorem fW7_cD (S : St) : (fW7 (or7 S) b k f w h).pathC [true, false, false, true, true, true] = [allN (w60 b) (szW (wG b)), (c7 (w60 b) (wG b) k f w h).cod != 0, codF (few8 k) f w != 0, @decide (SWv w (w60 b) (wG b) (c7 (w60 b) (wG b) k f w h).pls.length (gOf plQ (c7 (w60 b) (wG b) k f w h).pls) (c7 (w60 b) (wG b) k f w h).low (0 : Nat) = S) (Classical.propDecidable _), true, true] := by kernel_rfl
theorem fW7_lD (S : St) : (fW7 (or7 S) b k f w h).pathL [true, false, false, true, true, true] = .leaf (V.b true) := by kernel_rfl
theorem g7A (N : Nat) (G : Nat → Nat → Q) (hN : w60 b = N) (hG : wG b = G) (hs : allN N (szW G) = true) (hc : ((c7 N G k f w h).cod != 0) = true) : (fW7 [] b k f w h).pick = some (V.b true) := by
  subst hN hG
  exact (T.pick_path [true, true, true] _ ((fW7_cA b k f w h).trans (by rw [hs, hc]; rfl))).trans (congrArg T.pick (fW7_lA b k f w h))
theorem g7D (N : Nat) (G : Nat → Nat → Q) (hN : w60 b = N) (hG : wG b = G) (hs : allN N (szW G) = true) (S : St) (c : Wr) (hcc : c7 N G k f w h = c) (hc : (c.cod != 0) = false) (hf : rightF c.m c.f c.w = true) (hS : SWv w N G c.pls.length (gOf plQ c.pls) c.low (0 : Nat) = S) : (fW7 (or7 S) b k f w h).pick = some (V.b true) := by
  subst hN hG hcc
  refine (T.pick_path [true, false, false, true, true, true] _ ((fW7_cD b k f w h S).trans ?_)).trans (congrArg T.pick (fW7_lD b k f w h S))
  have hcf : codF (few8 k) f w = 0 := by
    show (bif rightF (few8 k) f w then (0 : Int) else 110) = 0
    rw [show rightF (few8 k) f w = true from hf]; rfl
  rw [hs, hc, hcf, @decide_eq_true _ (Classical.propDecidable _) hS]
  rfl
end
def belowW.s : List V → T V
  | [.q (.c (.string b)), .q (.lst [.int .i64, .int .i64, .bool, .bool] k f), .q (.c (.int .i64 w)), .q (.c (.int .i64 h))] => .leaf (V.b true)
  | _ => .bad
theorem belowW.ok : SpecOK Tryz.prog 5 belowW.s := by
  refine okF ΓW7.ok Tryz.func5 (by kernel_rfl) (by kernel_rfl) fun args r hb hr => ?_
  unfold belowW.s at hr
  split at hr
  · rename_i b k f w h
    obtain ⟨N, hN⟩ : ∃ N, w60 b = N := ⟨_, rfl⟩
    obtain ⟨G, hG⟩ : ∃ G, wG b = G := ⟨_, rfl⟩
    have hs : allN N (szW G) = true := by rw [← hN, ← hG]; exact w60_sz b
    rw [← hr]
    obtain ⟨c, hcc⟩ : ∃ c, c7 N G k f w h = c := ⟨_, rfl⟩
    cases hc : c.cod != 0 with
    | true => exact ⟨[], LamOK.nil _ _, g7A b k f w h N G hN hG hs (by rw [hcc]; exact hc)⟩
    | false =>
      have hok : c.ok := Wr.ok_of hc
      have hlen := Wr.pls_len c (right_ok hok.rw_)
      have e1 : c.n = N := by rw [← hcc]
      have e2 : c.g = G := by rw [← hcc]
      have e3 : c.w = w := by rw [← hcc]
      have hne := fun i hi => below_ne hok i hi
      rw [e1, e2, e3] at hne
      have hloop := loopWv w N G c.pls.length (gOf plQ c.pls) c.low (by omega) hs hne
      exact ⟨_, (LamOK.orc (p := pWv) (mk := false) (nn := 111) (k := 0) (live := [2, 9, 10, 11, 13, 15]) (c := .loop bodyWv) (by kernel_rfl) hloop (LamOK.nil _ _)), g7D b k f w h N G hN hG hs _ c hcc hc hok.rf rfl⟩
  · cases hr
end
theorem belowW.all (b : ByteArray) (k : Nat) (f : Nat → Nat → Q) (w h : Int) (_ : b.size ≤ maxLen) (_ : k ≤ 9223372036854775807) (_ : Wf w) (_ : Wf h) : (belowW.s [V.s b, lstF k f, V.i w, V.i h]).pick = some (V.b true) := rfl

theorem belowW_lifted (os : Os) (started : os.Started) (H : Type) (enc : TypeId × Value → H) :
    ReturnsInHanded {} Tryz.checked os 5 .any (fun w args => (Rows.wrapBelowSpec.pre enc Tryz.prog Tryz.f5 [] false w args ∧ laidMetH Tryz.prog laidL w) ∧ sizedMet enc Tryz.prog Tryz.f5 (OpenSpec.ofChange Rows.wrapBelowSpec) false w args)
      (Rows.wrapBelowSpec.post enc Tryz.prog Tryz.f5 false true false false) :=
  row_of (rt := 4) (shs := [(false, [.str]), (false, [.lst ksF]), (false, [.int .i64]), (false, [.int .i64])]) H enc os started (fun e => @belowW.ok e) Tryz.func5 (by kernel_rfl) (by kernel_rfl) rfl
    (fun ds hl => by
      have hl' : ds.length = 4 := hl
      match ds, hl' with
      | [d1, d2, d3, d4], _ => rfl)
    (by kernel_rfl)
    (fun xs h => by
      obtain ⟨x1, l, rfl, p1, h⟩ := pvs_cons h
      obtain ⟨x2, l, rfl, p2, h⟩ := pvs_cons h
      obtain ⟨x3, l, rfl, p3, h⟩ := pvs_cons h
      obtain ⟨x4, l, rfl, p4, h⟩ := pvs_cons h
      obtain rfl := pvs_nil h
      obtain ⟨n1, rfl, hn1⟩ := pv_text p1
      obtain ⟨n2, g2, rfl, hn2⟩ := pv_floats p2
      obtain ⟨n3, rfl, w3⟩ := pv_int p3
      obtain ⟨n4, rfl, w4⟩ := pv_int p4
      exact belowW.all n1 n2 g2 n3 n4 hn1 hn2 w3 w4)
    (by kernel_rfl)
    (ChangeSpec.witness_at (enc := enc) (C := Tryz.checked) (os := os) (X := fun w _ => laidMetH Tryz.prog laidL w) false (laidWorld os) #[.string ⟨#[]⟩, .slice none 0 0, .int .i64 0, .int .i64 0] 8 rfl (by kernel_rfl) (by kernel_rfl) (by kernel_rfl) (by kernel_rfl) (by kernel_rfl) (laidWorld_met os _))

theorem belowW_row : Rows.WrapBelowSaid :=
  OpenClaim.holds_of_wide 5 Tryz.f5 rfl rfl rfl rfl rfl rfl rfl ⟨rfl, rfl, rfl, rfl, rfl⟩ rfl rfl rfl rfl rfl (by kernel_rfl) Tryz.func5 (by kernel_rfl)
    (of_decide_eq_true (by kernel_rfl)) (by unfold Func.isWrapper; rw [if_neg (of_decide_eq_false (by kernel_rfl))]; exact ⟨rfl, rfl⟩)
    (fun os started H enc _ => belowW_lifted os started H enc)

theorem belowW_holds : Rows.WrapBelowCardSaid :=
  Claim7.holds_tied_plain_at .later [] [.handle, .sentinel, .sentinel] true Rows.wrapBelowCard.stood.harness true
    belowW_row (fun _ h => by cases h) (by kernel_rfl) (fun _ h => by cases h) wrapBelow_row_tie rfl ⟨rfl, rfl⟩ (by kernel_rfl) rfl
    (fun f fn hf hfn => by
      obtain rfl : f = 5 := Option.some.inj ((show Tryz.prog.funcNamed "gutter/gutterlaw12.WrapBelow" = some 5 by kernel_rfl).symm.trans hf) |>.symm
      obtain rfl : fn = Tryz.f5 := (Option.some.inj (Tryz.func5.symm.trans hfn)).symm
      exact ⟨by kernel_rfl, fun j t ht => by
        have e : Tryz.f5.params.all (fun t => !(Tryz.pinned.checked.prog.wantsStandIn t)) = true := by kernel_rfl
        have := Array.all_eq_true_iff_forall_mem.1 e t (Array.mem_of_getElem? ht)
        simpa using this⟩)
    (by kernel_rfl)
#print axioms belowW_holds
end Go.Proofs.YthmlbmambcigcaaGreatDoor
