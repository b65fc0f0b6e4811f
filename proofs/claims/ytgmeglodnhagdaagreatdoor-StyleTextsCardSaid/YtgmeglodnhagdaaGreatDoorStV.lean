/- Style: plain facts: a printed style is read back; what is read of a text would be printed so; a part behind; a part alone; a law's words. -/
import Derived.Test.YtgmeglodnhagdaaGreatDoorStO
import Derived.Test.YtgmeglodnhagdaaGreatDoorStQ

namespace Go.Proofs.YtgmeglodnhagdaaGreatDoor
open Go Go.SX Go.Proofs Go.RowKit
set_option maxRecDepth 100000
variable [EA]
set_option linter.unusedVariables false
set_option linter.unusedSectionVars false
set_option linter.unusedSimpArgs false
/-! ### a style's fields -/
def b2 (b : Bool) : Int := bif b then 1 else 0
theorem b2_inj {a b : Bool} (h : b2 a = b2 b) : a = b := by
  cases a <;> cases b <;> first | rfl | exact absurd h (by decide)
def fvL (s : Sty) : List Int := [s.c, s.w, s.g, s.r, b2 s.a, s.h, s.o, s.wi, b2 s.k, s.b, s.af, b2 s.sp, s.si, b2 s.cl, s.t, s.bo]
def fv (s : Sty) (i : Nat) : Int := (fvL s).getD i 0
theorem fvL_inj {a b : Sty} (h : fvL a = fvL b) : a = b := by
  cases a; cases b
  simp only [fvL, List.cons.injEq, and_true] at h
  obtain ⟨rfl, rfl, rfl, rfl, h5, rfl, rfl, rfl, h9, rfl, rfl, h12, rfl, h14, rfl, rfl⟩ := h
  obtain rfl := b2_inj h5
  obtain rfl := b2_inj h9
  obtain rfl := b2_inj h12
  obtain rfl := b2_inj h14
  rfl
theorem fv_ext {a b : Sty} (h : ∀ i, i < 16 → fv a i = fv b i) : a = b := fvL_inj (List.ext_getElem rfl fun i h1 h2 => by
  have := h i h1
  unfold fv at this
  rwa [List.getD_eq_getElem?_getD, List.getD_eq_getElem?_getD, List.getElem?_eq_getElem h1, List.getElem?_eq_getElem h2] at this)
theorem fv_of_set {a b : Sty} {i : Nat} {x : Int} (hi : i < 16) (h : fvL b = (fvL a).set i x) (j : Nat) : fv b j = if j = i then x else fv a j := by
  unfold fv
  rw [h, List.getD_eq_getElem?_getD, List.getElem?_set, List.getD_eq_getElem?_getD]
  by_cases e : i = j
  · subst e
    rw [if_pos rfl, if_pos rfl, if_pos (show i < (fvL a).length from hi)]; rfl
  · rw [if_neg e, if_neg (fun h => e h.symm)]
theorem fvL_setF (a b : Sty) : ∀ i, i < 16 → fvL (setF a b i) = (fvL a).set i (fv b i)
  | 0, _ => rfl
  | 1, _ => rfl
  | 2, _ => rfl
  | 3, _ => rfl
  | 4, _ => rfl
  | 5, _ => rfl
  | 6, _ => rfl
  | 7, _ => rfl
  | 8, _ => rfl
  | 9, _ => rfl
  | 10, _ => rfl
  | 11, _ => rfl
  | 12, _ => rfl
  | 13, _ => rfl
  | 14, _ => rfl
  | 15, _ => rfl
  | n + 16, h => by omega
theorem fv_setF {a b : Sty} {i : Nat} (hi : i < 16) (j : Nat) : fv (setF a b i) j = if j = i then fv b i else fv a j := fv_of_set hi (fvL_setF a b i hi) j
theorem difB_iff {a b : Sty} {i : Nat} (hi : i < 16) : difB a b i = true ↔ fv a i ≠ fv b i := by
  unfold difB
  rw [Bool.not_eq_true', Bool.eq_false_iff, Ne, styEq_iff]
  refine not_congr ⟨fun h => ?_, fun h => fv_ext fun j _ => ?_⟩
  · have := fv_setF (a := a) (b := b) hi i
    rw [h, if_pos rfl] at this
    exact this
  · rw [fv_setF hi j]
    split
    · rename_i e; rw [e, h]
    · rfl
theorem difB_no {a b : Sty} {i : Nat} (hi : i < 16) : difB a b i = false ↔ fv a i = fv b i := by
  rw [Bool.eq_false_iff, Ne, difB_iff hi]
  exact Decidable.not_not
/-! ### texts by values -/
def txI (i : Nat) (n : Int) : ByteArray := match i with
  | 0 => bT (Lib.itoa n)
  | 1 => printT n
  | 2 => printT n
  | 3 => printT n
  | 4 => bT []
  | 5 => printT n
  | 6 => bT (Lib.itoa n)
  | 7 => bT (Lib.itoa n)
  | 8 => bT []
  | 9 => qStr (avoidG (wdI n).toNat 0)
  | 10 => qStr (avoidG (wdI n).toNat 0)
  | 11 => bT []
  | 12 => qStr (leftG (wdI n).toNat 0)
  | 13 => bT []
  | 14 => printT n
  | 15 => printT n
  | _ => bT []
theorem txB_eq (s : Sty) : ∀ i, i < 16 → txB s i = txI i (fv s i)
  | 0, _ => ((show txB s 0 = bT (Lib.itoa (getN s 0)) from rfl).trans (show bT (Lib.itoa (getN s 0)) = bT (Lib.itoa (fv s 0)) from rfl)).trans (show bT (Lib.itoa (fv s 0)) = txI 0 (fv s 0) from rfl)
  | 1, _ => ((show txB s 1 = printT (getN s 1) from rfl).trans (show printT (getN s 1) = printT (fv s 1) from rfl)).trans (show printT (fv s 1) = txI 1 (fv s 1) from rfl)
  | 2, _ => ((show txB s 2 = printT (getN s 2) from rfl).trans (show printT (getN s 2) = printT (fv s 2) from rfl)).trans (show printT (fv s 2) = txI 2 (fv s 2) from rfl)
  | 3, _ => ((show txB s 3 = printT (getN s 3) from rfl).trans (show printT (getN s 3) = printT (fv s 3) from rfl)).trans (show printT (fv s 3) = txI 3 (fv s 3) from rfl)
  | 4, _ => ((show txB s 4 = bT [] from rfl).trans (show bT [] = bT [] from rfl)).trans (show bT [] = txI 4 (fv s 4) from rfl)
  | 5, _ => ((show txB s 5 = printT (getN s 5) from rfl).trans (show printT (getN s 5) = printT (fv s 5) from rfl)).trans (show printT (fv s 5) = txI 5 (fv s 5) from rfl)
  | 6, _ => ((show txB s 6 = bT (Lib.itoa (getN s 6)) from rfl).trans (show bT (Lib.itoa (getN s 6)) = bT (Lib.itoa (fv s 6)) from rfl)).trans (show bT (Lib.itoa (fv s 6)) = txI 6 (fv s 6) from rfl)
  | 7, _ => ((show txB s 7 = bT (Lib.itoa (getN s 7)) from rfl).trans (show bT (Lib.itoa (getN s 7)) = bT (Lib.itoa (fv s 7)) from rfl)).trans (show bT (Lib.itoa (fv s 7)) = txI 7 (fv s 7) from rfl)
  | 8, _ => ((show txB s 8 = bT [] from rfl).trans (show bT [] = bT [] from rfl)).trans (show bT [] = txI 8 (fv s 8) from rfl)
  | 9, _ => ((show txB s 9 = qStr (avoidG (wdI (getN s 9)).toNat 0) from rfl).trans (show qStr (avoidG (wdI (getN s 9)).toNat 0) = qStr (avoidG (wdI (fv s 9)).toNat 0) from rfl)).trans (show qStr (avoidG (wdI (fv s 9)).toNat 0) = txI 9 (fv s 9) from rfl)
  | 10, _ => ((show txB s 10 = qStr (avoidG (wdI (getN s 10)).toNat 0) from rfl).trans (show qStr (avoidG (wdI (getN s 10)).toNat 0) = qStr (avoidG (wdI (fv s 10)).toNat 0) from rfl)).trans (show qStr (avoidG (wdI (fv s 10)).toNat 0) = txI 10 (fv s 10) from rfl)
  | 11, _ => ((show txB s 11 = bT [] from rfl).trans (show bT [] = bT [] from rfl)).trans (show bT [] = txI 11 (fv s 11) from rfl)
  | 12, _ => ((show txB s 12 = qStr (leftG (wdI (getN s 12)).toNat 0) from rfl).trans (show qStr (leftG (wdI (getN s 12)).toNat 0) = qStr (leftG (wdI (fv s 12)).toNat 0) from rfl)).trans (show qStr (leftG (wdI (fv s 12)).toNat 0) = txI 12 (fv s 12) from rfl)
  | 13, _ => ((show txB s 13 = bT [] from rfl).trans (show bT [] = bT [] from rfl)).trans (show bT [] = txI 13 (fv s 13) from rfl)
  | 14, _ => ((show txB s 14 = printT (getN s 14) from rfl).trans (show printT (getN s 14) = printT (fv s 14) from rfl)).trans (show printT (fv s 14) = txI 14 (fv s 14) from rfl)
  | 15, _ => ((show txB s 15 = printT (getN s 15) from rfl).trans (show printT (getN s 15) = printT (fv s 15) from rfl)).trans (show printT (fv s 15) = txI 15 (fv s 15) from rfl)
  | n + 16, h => by omega
def elI (i : Nat) (n : Int) : ByteArray := bif hasF i then nmB i ++ (bT [32] ++ txI i n) else nmB i
theorem elB_eq (s : Sty) {i : Nat} (hi : i < 16) : elB s i = elI i (fv s i) := by
  unfold elB elI
  rw [txB_eq s i hi]
theorem RightS_plain : RightS plainS := rightS_of (by kernel_rfl)
theorem RightS_set {a b : Sty} (ha : RightS a) (hb : RightS b) : ∀ i, i < 16 → RightS (setF a b i)
  | 0, _ => ⟨hb.c, ha.w, ha.g, ha.r, ha.h, ha.t, ha.bo, ha.o, ha.wi, ha.b, ha.af, ha.si⟩
  | 1, _ => ⟨ha.c, hb.w, ha.g, ha.r, ha.h, ha.t, ha.bo, ha.o, ha.wi, ha.b, ha.af, ha.si⟩
  | 2, _ => ⟨ha.c, ha.w, hb.g, ha.r, ha.h, ha.t, ha.bo, ha.o, ha.wi, ha.b, ha.af, ha.si⟩
  | 3, _ => ⟨ha.c, ha.w, ha.g, hb.r, ha.h, ha.t, ha.bo, ha.o, ha.wi, ha.b, ha.af, ha.si⟩
  | 4, _ => ⟨ha.c, ha.w, ha.g, ha.r, ha.h, ha.t, ha.bo, ha.o, ha.wi, ha.b, ha.af, ha.si⟩
  | 5, _ => ⟨ha.c, ha.w, ha.g, ha.r, hb.h, ha.t, ha.bo, ha.o, ha.wi, ha.b, ha.af, ha.si⟩
  | 6, _ => ⟨ha.c, ha.w, ha.g, ha.r, ha.h, ha.t, ha.bo, hb.o, ha.wi, ha.b, ha.af, ha.si⟩
  | 7, _ => ⟨ha.c, ha.w, ha.g, ha.r, ha.h, ha.t, ha.bo, ha.o, hb.wi, ha.b, ha.af, ha.si⟩
  | 8, _ => ⟨ha.c, ha.w, ha.g, ha.r, ha.h, ha.t, ha.bo, ha.o, ha.wi, ha.b, ha.af, ha.si⟩
  | 9, _ => ⟨ha.c, ha.w, ha.g, ha.r, ha.h, ha.t, ha.bo, ha.o, ha.wi, hb.b, ha.af, ha.si⟩
  | 10, _ => ⟨ha.c, ha.w, ha.g, ha.r, ha.h, ha.t, ha.bo, ha.o, ha.wi, ha.b, hb.af, ha.si⟩
  | 11, _ => ⟨ha.c, ha.w, ha.g, ha.r, ha.h, ha.t, ha.bo, ha.o, ha.wi, ha.b, ha.af, ha.si⟩
  | 12, _ => ⟨ha.c, ha.w, ha.g, ha.r, ha.h, ha.t, ha.bo, ha.o, ha.wi, ha.b, ha.af, hb.si⟩
  | 13, _ => ⟨ha.c, ha.w, ha.g, ha.r, ha.h, ha.t, ha.bo, ha.o, ha.wi, ha.b, ha.af, ha.si⟩
  | 14, _ => ⟨ha.c, ha.w, ha.g, ha.r, ha.h, hb.t, ha.bo, ha.o, ha.wi, ha.b, ha.af, ha.si⟩
  | 15, _ => ⟨ha.c, ha.w, ha.g, ha.r, ha.h, ha.t, hb.bo, ha.o, ha.wi, ha.b, ha.af, ha.si⟩
  | n + 16, h => by omega
/-! ### a value that is printed is read -/
theorem par_print {a : Int} (h : -1048576 ≤ a ∧ a ≤ 1048576) : parO (printT a) = some a := by
  have hr : rightU a = true := rightU_iff.2 (by omega)
  rw [show printT a = bT (printL a) by show (bif rightU a then _ else _) = _; rw [hr]; rfl]
  exact parO_print hr
theorem wd_av {n : Int} (h : n = 1 ∨ n = 2) : wdN (qStr (avoidG (wdI n).toNat 0)) avoidG = n := by
  rcases h with rfl | rfl <;> kernel_rfl
theorem wd_lf {n : Int} (h : n = 1 ∨ n = 2) : wdN (qStr (leftG (wdI n).toNat 0)) leftG = n := by
  rcases h with rfl | rfl <;> kernel_rfl
theorem rd_print {s : Sty} (s0 : Sty) (h : RightS s) : ∀ i, i < 16 → fv s i ≠ fv plainS i → rdR s0 (txB s i) i = (setF s0 s i, true)
  | 0, _, _ => by
    have hh := h.c
    have hn := num_print (n := s.c) (by omega) (by omega)
    show (putN s0 (atoiN (bT (Lib.itoa s.c))) 0, numOk (bT (Lib.itoa s.c))) = _
    rw [hn.1, hn.2]; rfl
  | 1, _, _ => by
    have hh := h.w
    show (putN s0 ((parO (printT s.w)).getD 0) 1, (bif (parO (printT s.w)).isSome then (0 : Int) else 12) == 0) = _
    rw [par_print (a := s.w) (by omega)]; rfl
  | 2, _, _ => by
    have hh := h.g
    show (putN s0 ((parO (printT s.g)).getD 0) 2, (bif (parO (printT s.g)).isSome then (0 : Int) else 12) == 0) = _
    rw [par_print (a := s.g) (by omega)]; rfl
  | 3, _, _ => by
    have hh := h.r
    show (putN s0 ((parO (printT s.r)).getD 0) 3, (bif (parO (printT s.r)).isSome then (0 : Int) else 12) == 0) = _
    rw [par_print (a := s.r) (by omega)]; rfl
  | 4, _, hd => by
    have hb : s.a = true := by
      cases hb : s.a with
      | true => rfl
      | false => exact absurd (show b2 s.a = 0 by rw [hb]; rfl) hd
    show (putB s0 4, true) = ({ s0 with a := s.a }, true)
    rw [hb]; rfl
  | 5, _, _ => by
    have hh := h.h
    show (putN s0 ((parO (printT s.h)).getD 0) 5, (bif (parO (printT s.h)).isSome then (0 : Int) else 12) == 0) = _
    rw [par_print (a := s.h) (by omega)]; rfl
  | 6, _, _ => by
    have hh := h.o
    have hn := num_print (n := s.o) (by omega) (by omega)
    show (putN s0 (atoiN (bT (Lib.itoa s.o))) 6, numOk (bT (Lib.itoa s.o))) = _
    rw [hn.1, hn.2]; rfl
  | 7, _, _ => by
    have hh := h.wi
    have hn := num_print (n := s.wi) (by omega) (by omega)
    show (putN s0 (atoiN (bT (Lib.itoa s.wi))) 7, numOk (bT (Lib.itoa s.wi))) = _
    rw [hn.1, hn.2]; rfl
  | 8, _, hd => by
    have hb : s.k = true := by
      cases hb : s.k with
      | true => rfl
      | false => exact absurd (show b2 s.k = 0 by rw [hb]; rfl) hd
    show (putB s0 8, true) = ({ s0 with k := s.k }, true)
    rw [hb]; rfl
  | 9, _, hd => by
    have hh := h.b
    have h0 : s.b ≠ 0 := hd
    show (putN s0 (wdN (qStr (avoidG (wdI s.b).toNat 0)) avoidG) 9, decide (wdN (qStr (avoidG (wdI s.b).toNat 0)) avoidG > 0)) = _
    rw [wd_av (n := s.b) (by omega), decide_eq_true (by omega)]; rfl
  | 10, _, hd => by
    have hh := h.af
    have h0 : s.af ≠ 0 := hd
    show (putN s0 (wdN (qStr (avoidG (wdI s.af).toNat 0)) avoidG) 10, decide (wdN (qStr (avoidG (wdI s.af).toNat 0)) avoidG > 0)) = _
    rw [wd_av (n := s.af) (by omega), decide_eq_true (by omega)]; rfl
  | 11, _, hd => by
    have hb : s.sp = true := by
      cases hb : s.sp with
      | true => rfl
      | false => exact absurd (show b2 s.sp = 0 by rw [hb]; rfl) hd
    show (putB s0 11, true) = ({ s0 with sp := s.sp }, true)
    rw [hb]; rfl
  | 12, _, hd => by
    have hh := h.si
    have h0 : s.si ≠ 0 := hd
    show (putN s0 (wdN (qStr (leftG (wdI s.si).toNat 0)) leftG) 12, decide (wdN (qStr (leftG (wdI s.si).toNat 0)) leftG > 0)) = _
    rw [wd_lf (n := s.si) (by omega), decide_eq_true (by omega)]; rfl
  | 13, _, hd => by
    have hb : s.cl = true := by
      cases hb : s.cl with
      | true => rfl
      | false => exact absurd (show b2 s.cl = 0 by rw [hb]; rfl) hd
    show (putB s0 13, true) = ({ s0 with cl := s.cl }, true)
    rw [hb]; rfl
  | 14, _, _ => by
    have hh := h.t
    show (putN s0 ((parO (printT s.t)).getD 0) 14, (bif (parO (printT s.t)).isSome then (0 : Int) else 12) == 0) = _
    rw [par_print (a := s.t) (by omega)]; rfl
  | 15, _, _ => by
    have hh := h.bo
    show (putN s0 ((parO (printT s.bo)).getD 0) 15, (bif (parO (printT s.bo)).isSome then (0 : Int) else 12) == 0) = _
    rw [par_print (a := s.bo) (by omega)]; rfl
  | n + 16, h, _ => by omega
theorem rdR_flag (s : Sty) (v v2 : ByteArray) : ∀ i, i < 16 → hasF i = false → rdR s v i = rdR s v2 i
  | 0, _, h => by cases h
  | 1, _, h => by cases h
  | 2, _, h => by cases h
  | 3, _, h => by cases h
  | 4, _, h => (show rdR s v 4 = (putB s 4, true) from rfl).trans (show (putB s 4, true) = rdR s v2 4 from rfl)
  | 5, _, h => by cases h
  | 6, _, h => by cases h
  | 7, _, h => by cases h
  | 8, _, h => (show rdR s v 8 = (putB s 8, true) from rfl).trans (show (putB s 8, true) = rdR s v2 8 from rfl)
  | 9, _, h => by cases h
  | 10, _, h => by cases h
  | 11, _, h => (show rdR s v 11 = (putB s 11, true) from rfl).trans (show (putB s 11, true) = rdR s v2 11 from rfl)
  | 12, _, h => by cases h
  | 13, _, h => (show rdR s v 13 = (putB s 13, true) from rfl).trans (show (putB s 13, true) = rdR s v2 13 from rfl)
  | 14, _, h => by cases h
  | 15, _, h => by cases h
  | n + 16, h, _ => by omega
/-! ### a value that is read would be printed -/
theorem fvL_rd (s0 : Sty) (v : ByteArray) : ∀ i, i < 16 → fvL (rdR s0 v i).1 = (fvL s0).set i (fv (rdR s0 v i).1 i)
  | 0, _ => rfl
  | 1, _ => rfl
  | 2, _ => rfl
  | 3, _ => rfl
  | 4, _ => rfl
  | 5, _ => rfl
  | 6, _ => rfl
  | 7, _ => rfl
  | 8, _ => rfl
  | 9, _ => rfl
  | 10, _ => rfl
  | 11, _ => rfl
  | 12, _ => rfl
  | 13, _ => rfl
  | 14, _ => rfl
  | 15, _ => rfl
  | n + 16, h => by omega
theorem len_back {v : ByteArray} (h : ((bif (parO v).isSome then (0 : Int) else 12) == 0) = true) : v = printT ((parO v).getD 0) := by
  cases hp : parO v with
  | none => rw [hp] at h; exact absurd h (by decide)
  | some a =>
    obtain ⟨h1, h2⟩ := parO_sound hp
    show v = bif rightU a then bT (printL a) else bT []
    rw [h1]; exact h2
theorem wd_back {v a b : ByteArray} (h : decide (wdN v (wrdG a b) > 0) = true) : v = qStr (wrdG a b (wdI (wdN v (wrdG a b))).toNat 0) := by
  have h := of_decide_eq_true h
  cases hf : fstN 2 (qIx v (wrdG a b)) with
  | none =>
    have e : wdN v (wrdG a b) = 0 := by
      show w64 (idxI (fstN 2 (qIx v (wrdG a b))) + 1) = 0
      rw [hf]; rfl
    rw [e] at h; omega
  | some k =>
    have hk : k < 2 := fstN_lt hf
    have hq := List.find?_some hf
    have e : wdN v (wrdG a b) = w64 ((k : Nat) + 1) := by
      show w64 (idxI (fstN 2 (qIx v (wrdG a b))) + 1) = _
      rw [hf]; rfl
    rw [e]
    match k, hk, hq with
    | 0, _, hq => exact seqB_iff.1 hq
    | 1, _, hq => exact seqB_iff.1 hq
theorem rd_back {s0 : Sty} {v : ByteArray} : ∀ i, i < 16 → (rdR s0 v i).2 = true → hasF i = true → v = txB (rdR s0 v i).1 i
  | 0, _, h, _ => numOk_sound h
  | 1, _, h, _ => len_back h
  | 2, _, h, _ => len_back h
  | 3, _, h, _ => len_back h
  | 4, _, _, h => by cases h
  | 5, _, h, _ => len_back h
  | 6, _, h, _ => numOk_sound h
  | 7, _, h, _ => numOk_sound h
  | 8, _, _, h => by cases h
  | 9, _, h, _ => wd_back h
  | 10, _, h, _ => wd_back h
  | 11, _, _, h => by cases h
  | 12, _, h, _ => wd_back h
  | 13, _, _, h => by cases h
  | 14, _, h, _ => len_back h
  | 15, _, h, _ => len_back h
  | n + 16, h, _, _ => by omega
/-! ### names -/
theorem bL_app (a b : ByteArray) : bL (a ++ b) = bL a ++ bL b := by
  show (a ++ b).data.toList = _
  rw [ByteArray.data_append, Array.toList_append]
theorem nm_all : (List.range 16).all (fun i => decide ((32 : UInt8) ∉ bL (nmB i) ∧ (59 : UInt8) ∉ bL (nmB i) ∧ bL (nmB i) ≠ [])) = true := by decide +kernel
theorem nm_no {i : Nat} (hi : i < 16) : (32 : UInt8) ∉ bL (nmB i) ∧ (59 : UInt8) ∉ bL (nmB i) ∧ bL (nmB i) ≠ [] := of_decide_eq_true (List.all_eq_true.1 nm_all i (List.mem_range.2 hi))
theorem nm_inj_all : (List.range 16).all (fun i => (List.range 16).all fun j => decide (bL (nmB i) = bL (nmB j) → i = j)) = true := by decide +kernel
theorem nm_inj {i j : Nat} (hi : i < 16) (hj : j < 16) (h : nmB i = nmB j) : i = j :=
  of_decide_eq_true (List.all_eq_true.1 (List.all_eq_true.1 nm_inj_all i (List.mem_range.2 hi)) j (List.mem_range.2 hj)) (congrArg bL h)
theorem gFd_nm : ∀ i, i < 16 → qStr (gFd i 0) = nmB i
  | 0, _ => rfl
  | 1, _ => rfl
  | 2, _ => rfl
  | 3, _ => rfl
  | 4, _ => rfl
  | 5, _ => rfl
  | 6, _ => rfl
  | 7, _ => rfl
  | 8, _ => rfl
  | 9, _ => rfl
  | 10, _ => rfl
  | 11, _ => rfl
  | 12, _ => rfl
  | 13, _ => rfl
  | 14, _ => rfl
  | 15, _ => rfl
  | n + 16, h => by omega
theorem cut_el (s : Sty) {i : Nat} (hi : i < 16) : cutS (elB s i) (bT [32]) = (bL (nmB i), (bif hasF i then bL (txB s i) else []), hasF i) := by
  have hn := (nm_no hi).1
  unfold elB
  cases h : hasF i with
  | true =>
    show Lib.cut (bL (nmB i ++ (bT [32] ++ txB s i))) [32] = _
    rw [bL_app, bL_app]
    exact cut_at hn
  | false => exact cut_no hn
theorem nmX_el (s : Sty) {i : Nat} (hi : i < 16) : nmX (elB s i) = nmB i := by
  show bT (cutS (elB s i) (bT [32])).1 = _
  rw [cut_el s hi]
theorem hsX_el (s : Sty) {i : Nat} (hi : i < 16) : hsX (elB s i) = hasF i := by
  show (cutS (elB s i) (bT [32])).2.2 = _
  rw [cut_el s hi]
theorem vlX_el (s : Sty) {i : Nat} (hi : i < 16) (h : hasF i = true) : vlX (elB s i) = txB s i := by
  show bT (cutS (elB s i) (bT [32])).2.1 = _
  rw [cut_el s hi, h]; rfl
theorem el_back {x : ByteArray} {i : Nat} {s : Sty} (hn : nmX x = nmB i) (hh : hsX x = hasF i) (hv : hasF i = true → vlX x = txB s i) : x = elB s i := by
  have hn' : (cutS x (bT [32])).1 = bL (nmB i) := by rw [← hn]
  unfold elB
  cases h : hasF i with
  | true =>
    have h1 : (cutS x (bT [32])).2.2 = true := hh.trans h
    have h2 := cut_eq h1
    have h3 : (cutS x (bT [32])).2.1 = bL (txB s i) := by rw [← hv h]
    rw [hn', h3] at h2
    apply bL_inj
    rw [h2, cond_true, bL_app, bL_app]
  | false =>
    have h1 : (cutS x (bT [32])).2.2 = false := hh.trans h
    have h2 := cut_eq0 h1
    rw [hn'] at h2
    exact (bL_inj h2).symm
theorem pF_at {m i : Nat} {x : ByteArray} (hm : m ≤ 16) (h1 : 16 - m ≤ i) (h2 : i < 16) (hx : nmX x = nmB i) : pF m x = some (i - (16 - m)) := by
  refine fstN_some (by omega) ?_ fun j hj => ?_
  · show seqB (qStr (gFd (i - (16 - m) + (16 - m)) 0)) (nmX x) = true
    rw [show i - (16 - m) + (16 - m) = i by omega, gFd_nm i h2, hx]
    exact seqB_iff.2 rfl
  · show seqB (qStr (gFd (j + (16 - m)) 0)) (nmX x) = false
    rw [gFd_nm _ (by omega), hx, Bool.eq_false_iff, Ne, seqB_iff]
    intro h
    have := nm_inj (by omega) h2 h
    omega
theorem pF_inv {m k : Nat} {x : ByteArray} (hm : m ≤ 16) (h : pF m x = some k) : k < m ∧ nmX x = nmB (16 - m + k) := by
  have hk := fstN_lt h
  have hq := List.find?_some h
  have hq : seqB (qStr (gFd (k + (16 - m)) 0)) (nmX x) = true := hq
  rw [gFd_nm _ (by omega), seqB_iff] at hq
  exact ⟨hk, by rw [show 16 - m + k = k + (16 - m) by omega]; exact hq.symm⟩
/-! ### a part that is read -/
theorem step_el {s st : Sty} {m i : Nat} (hs : RightS s) (hst : RightS st) (hm : m ≤ 16) (h1 : 16 - m ≤ i) (h2 : i < 16) (hd : fv s i ≠ fv plainS i) (hd2 : fv st i ≠ fv s i) :
    pE m st (elB s i) = 0 ∧ pS m st (elB s i) = setF st s i ∧ pM m st (elB s i) = 16 - (i + 1) := by
  have hf := pF_at hm h1 h2 (nmX_el s h2)
  have hi : 16 - m + (i - (16 - m)) = i := by omega
  have hh : qBool (gsh (16 - m) (i - (16 - m)) 1) = hasF i := by
    show qBool (gFd (i - (16 - m) + (16 - m)) 1) = _
    rw [show i - (16 - m) + (16 - m) = i by omega]; rfl
  have hb : (!(qBool (gsh (16 - m) (i - (16 - m)) 1) == hsX (elB s i))) = false := by rw [hh, hsX_el s h2]; simp
  have hr : rdR st (vlX (elB s i)) (16 - m + (i - (16 - m))) = (setF st s i, true) := by
    rw [hi]
    cases h : hasF i with
    | true => rw [vlX_el s h2 h]; exact rd_print st hs i h2 hd
    | false => rw [rdR_flag st _ (txB s i) i h2 h]; exact rd_print st hs i h2 hd
  have hR : rightS (setF st s i) = true := rightS_iff.2 (RightS_set hst hs i h2)
  have hN : styEq (setF st s i) st = false := by
    rw [Bool.eq_false_iff, Ne, styEq_iff]
    intro h
    have := fv_setF (a := st) (b := s) h2 i
    rw [h, if_pos rfl] at this
    exact hd2 this
  have e0 : pE m st (elB s i) = 0 := by
    unfold pE
    rw [hf]
    simp only
    rw [hb, hr, hR, hN]; rfl
  refine ⟨e0, ?_, ?_⟩
  · unfold pS
    rw [hf]
    simp only
    rw [hb, hr]; rfl
  · unfold pM
    rw [hf]
    simp only
    rw [e0, show ((0 : Nat) == 0) = true from rfl, cond_true]; omega
/-! ### all parts -/
/-- The plain style, with the first n fields of another one. -/
def mixS (s : Sty) : Nat → Sty
  | 0 => plainS
  | n + 1 => setF (mixS s n) s n
theorem fv_mix (s : Sty) : ∀ n, n ≤ 16 → ∀ j, fv (mixS s n) j = if j < n then fv s j else fv plainS j
  | 0, _, j => by rw [if_neg (Nat.not_lt_zero _)]; rfl
  | n + 1, hn, j => by
    rw [mixS, fv_setF (by omega), fv_mix s n (by omega)]
    by_cases h : j = n
    · rw [if_pos h, if_pos (by omega), h]
    · rw [if_neg h]
      by_cases h2 : j < n
      · rw [if_pos h2, if_pos (by omega)]
      · rw [if_neg h2, if_neg (by omega)]
theorem mix_all (s : Sty) : mixS s 16 = s := fv_ext fun i hi => by rw [fv_mix s 16 (Nat.le_refl _), if_pos hi]
theorem mix_right {s : Sty} (h : RightS s) : ∀ n, n ≤ 16 → RightS (mixS s n)
  | 0, _ => RightS_plain
  | n + 1, hn => RightS_set (mix_right h n (by omega)) h n (by omega)
theorem dfs_at {a b : Sty} {n : Nat} (hi : n < 16) (h : difB a b n = true) : (dfs a b n).length < (dfs a b 16).length ∧ (dfs a b 16).getD (dfs a b n).length 0 = n := by
  obtain ⟨l, hl⟩ := dfs_prefix a b (show n + 1 ≤ 16 from hi)
  rw [hl, dfs_succ, if_pos h]
  simp [List.getD_eq_getElem?_getD]
theorem read_run {s : Sty} (hs : RightS s) {g : Nat → Nat → Q} (hg : ∀ k, k < (dfs s plainS 16).length → xAt g k = elB s ((dfs s plainS 16).getD k 0)) :
    ∀ n, n ≤ 16 → (stPs g (dfs s plainS n).length).1 = mixS s n ∧ 16 ≤ n + (stPs g (dfs s plainS n).length).2 ∧ ∀ j, j < (dfs s plainS n).length → ePs g j = 0
  | 0, _ => ⟨rfl, Nat.le_refl _, fun j hj => absurd hj (Nat.not_lt_zero _)⟩
  | n + 1, hn => by
    obtain ⟨h1, h2, h3⟩ := read_run hs hg n (by omega)
    cases hd : difB s plainS n with
    | false =>
      have e : dfs s plainS (n + 1) = dfs s plainS n := by rw [dfs_succ, hd]; simp
      rw [e]
      refine ⟨h1.trans (fv_ext fun j hj => ?_), by omega, h3⟩
      rw [fv_mix s n (by omega), fv_mix s (n + 1) hn]
      by_cases h : j < n
      · rw [if_pos h, if_pos (by omega)]
      · rw [if_neg h]
        split
        · obtain rfl : j = n := by omega
          exact ((difB_no (by omega)).1 hd).symm
        · rfl
    | true =>
      have e : (dfs s plainS (n + 1)).length = (dfs s plainS n).length + 1 := by rw [dfs_succ, if_pos hd]; simp
      obtain ⟨h4, h5⟩ := dfs_at (by omega) hd
      have hx : xAt g (dfs s plainS n).length = elB s n := by rw [hg _ h4, h5]
      have hdn := (difB_iff (by omega)).1 hd
      have hst := stPs_le g (dfs s plainS n).length
      obtain ⟨p1, p2, p3⟩ := step_el (st := (stPs g (dfs s plainS n).length).1) (m := (stPs g (dfs s plainS n).length).2) (i := n) hs (by rw [h1]; exact mix_right hs n (by omega)) hst (by omega) (by omega) hdn (by
        rw [h1, fv_mix s n (by omega), if_neg (Nat.lt_irrefl _)]; exact fun h => hdn h.symm)
      rw [e]
      refine ⟨?_, ?_, fun j hj => ?_⟩
      · show pS _ _ (xAt g _) = _
        rw [hx, p2, h1]; rfl
      · show 16 ≤ n + 1 + pM _ _ (xAt g _)
        rw [hx, p3]; omega
      · rcases Nat.lt_or_ge j (dfs s plainS n).length with h | h
        · exact h3 j h
        · obtain rfl : j = (dfs s plainS n).length := by omega
          show pE _ _ (xAt g _) = 0
          rw [hx, p1]
/-! ### semicolons -/
theorem no59_all : (List.range 64).all (fun p => decide ((59 : UInt8) ∉ resT p)) = true := by decide +kernel
theorem no59_wd : (59 : UInt8) ∉ bL (qStr (avoidG 0 0)) ∧ (59 : UInt8) ∉ bL (qStr (avoidG 1 0)) ∧ (59 : UInt8) ∉ bL (qStr (leftG 0 0)) ∧ (59 : UInt8) ∉ bL (qStr (leftG 1 0)) := by decide +kernel
theorem no59_len {a : Int} (h : -1048576 ≤ a ∧ a ≤ 1048576) : (59 : UInt8) ∉ bL (printT a) := by
  have hr : rightU a = true := rightU_iff.2 (by omega)
  rw [show printT a = bT (printL a) by show (bif rightU a then _ else _) = _; rw [hr]; rfl, bL_bT, printL_eq]
  intro hm
  rcases List.mem_append.1 hm with h1 | h1
  · cases hb : decide (a < 0) with
    | true => rw [hb] at h1; exact absurd (mem_one h1) (by decide)
    | false => rw [hb] at h1; cases h1
  · rcases List.mem_append.1 h1 with h2 | h2
    · exact dig_no (digL_dig (q := a.natAbs / 64) (by omega)) (by decide) h2
    · exact (of_decide_eq_true (List.all_eq_true.1 no59_all (a.natAbs % 64) (List.mem_range.2 (Nat.mod_lt _ (by omega))))) h2
theorem no59_num {n : Int} (h : 0 ≤ n ∧ n < 100) : (59 : UInt8) ∉ bL (bT (Lib.itoa n)) := by
  obtain ⟨k, rfl⟩ := Int.eq_ofNat_of_zero_le h.1
  rw [bL_bT, itoa_small (by omega)]
  exact dig_no (digF_dig 1 k (by omega)) (by decide)
theorem wdI_cases {n : Int} (h : 0 ≤ n ∧ n ≤ 2) : (wdI n).toNat = 0 ∨ (wdI n).toNat = 1 := by
  rw [wdI_eq h]; split <;> omega
theorem no59_tx {s : Sty} (h : RightS s) : ∀ i, i < 16 → (59 : UInt8) ∉ bL (txB s i)
  | 0, _ => no59_num (n := s.c) (by have := h.c; omega)
  | 1, _ => no59_len (a := s.w) (by have := h.w; omega)
  | 2, _ => no59_len (a := s.g) (by have := h.g; omega)
  | 3, _ => no59_len (a := s.r) (by have := h.r; omega)
  | 4, _ => by show (59 : UInt8) ∉ bL (bT []); decide
  | 5, _ => no59_len (a := s.h) (by have := h.h; omega)
  | 6, _ => no59_num (n := s.o) (by have := h.o; omega)
  | 7, _ => no59_num (n := s.wi) (by have := h.wi; omega)
  | 8, _ => by show (59 : UInt8) ∉ bL (bT []); decide
  | 9, _ => by
    show (59 : UInt8) ∉ bL (qStr (avoidG (wdI s.b).toNat 0))
    rcases wdI_cases h.b with e | e <;> rw [e]
    · exact no59_wd.1
    · exact no59_wd.2.1
  | 10, _ => by
    show (59 : UInt8) ∉ bL (qStr (avoidG (wdI s.af).toNat 0))
    rcases wdI_cases h.af with e | e <;> rw [e]
    · exact no59_wd.1
    · exact no59_wd.2.1
  | 11, _ => by show (59 : UInt8) ∉ bL (bT []); decide
  | 12, _ => by
    show (59 : UInt8) ∉ bL (qStr (leftG (wdI s.si).toNat 0))
    rcases wdI_cases h.si with e | e <;> rw [e]
    · exact no59_wd.2.2.1
    · exact no59_wd.2.2.2
  | 13, _ => by show (59 : UInt8) ∉ bL (bT []); decide
  | 14, _ => no59_len (a := s.t) (by have := h.t; omega)
  | 15, _ => no59_len (a := s.bo) (by have := h.bo; omega)
  | n + 16, h => by omega
theorem no59_el {s : Sty} (h : RightS s) {i : Nat} (hi : i < 16) : (59 : UInt8) ∉ bL (elB s i) := by
  have h1 := (nm_no hi).2.1
  have h2 := no59_tx h i hi
  unfold elB
  cases hasF i with
  | true =>
    rw [cond_true, bL_app, bL_app]
    intro hm
    rcases List.mem_append.1 hm with h3 | h3
    · exact h1 h3
    · rcases List.mem_append.1 h3 with h4 | h4
      · exact absurd (mem_one (show (59 : UInt8) ∈ [32] from h4)) (by decide)
      · exact h2 h4
  | false => exact h1
theorem no59_prt {s : Sty} (h : RightS s) : ∀ y ∈ prtP s, (59 : UInt8) ∉ bL y := fun y hy => by
  obtain ⟨i, hi, rfl⟩ := List.mem_map.1 hy
  exact no59_el h (List.mem_range.1 (List.mem_filter.1 hi).1)
theorem prtL_join {l : List ByteArray} (h : l ≠ []) (hn : ∀ y ∈ l, (59 : UInt8) ∉ bL y) : prtL (joinB l semiB) = l := by
  cases l with
  | nil => exact absurd rfl h
  | cons x l =>
    have hs := split_join (t := [32]) (l.map bL) (bL x) (hn x (List.mem_cons_self ..)) (fun z hz => by
      obtain ⟨y, hy, rfl⟩ := List.mem_map.1 hz
      exact hn y (List.mem_cons_of_mem _ hy))
    have e := Lib.splitB_data semiB 0 (Lib.countB (joinB (x :: l) semiB) semiB) (joinB (x :: l) semiB)
    have e2 : bL (joinB (x :: l) semiB) = Lib.join (bL x :: l.map bL) [59, 32] := bL_bT _
    have e3 : Lib.countB (joinB (x :: l) semiB) semiB = (l.map bL).length := by
      show Lib.count (bL (joinB (x :: l) semiB)) [59, 32] = _
      rw [e2]; exact hs.1
    have e4 : (prtL (joinB (x :: l) semiB)).map bL = (x :: l).map bL := by
      refine e.trans ?_
      rw [e3]
      show Lib.splitK [59, 32] 0 _ (bL (joinB (x :: l) semiB)) = _
      rw [e2, hs.2]; rfl
    have e5 := congrArg (List.map bT) e4
    rw [List.map_map, List.map_map] at e5
    have e6 : ∀ l : List ByteArray, l.map (bT ∘ bL) = l := fun l => by
      rw [show (bT ∘ bL) = id from rfl, List.map_id]
    rwa [e6, e6] at e5
theorem join_ne {x : ByteArray} {l : List ByteArray} (h : bL x ≠ []) : seqB (joinB (x :: l) semiB) (bT []) = false := by
  rw [Bool.eq_false_iff, Ne, seqB_iff]
  intro e
  have := congrArg bL e
  rw [bL_bT, bL_bT, List.map_cons, Lib.join_cons] at this
  exact h (List.append_eq_nil_iff.1 this).1
theorem el_ne (s : Sty) {i : Nat} (hi : i < 16) : bL (elB s i) ≠ [] := by
  have h := (nm_no hi).2.2
  unfold elB
  cases hasF i with
  | true => rw [cond_true, bL_app]; intro e; exact h (List.append_eq_nil_iff.1 e).1
  | false => exact h
theorem prtP_nil {s : Sty} (h : prtP s = []) : s = plainS := fv_ext fun i hi => by
  have h2 : dfs s plainS 16 = [] := List.map_eq_nil_iff.1 h
  cases hd : difB s plainS i with
  | false => exact (difB_no hi).1 hd
  | true =>
    have := (dfs_at hi hd).1
    rw [h2] at this
    exact absurd this (Nat.not_lt_zero _)
theorem sTxt_ne {s : Sty} (h : prtP s ≠ []) (l : List ByteArray) : seqB (joinB (prtP s ++ l) semiB) (bT []) = false := by
  cases hp : prtP s with
  | nil => exact absurd hp h
  | cons x r =>
    rw [List.cons_append]
    refine join_ne ?_
    have : x ∈ prtP s := by rw [hp]; exact List.mem_cons_self ..
    obtain ⟨i, hi, rfl⟩ := List.mem_map.1 this
    exact el_ne s (List.mem_range.1 (List.mem_filter.1 hi).1)
theorem hg_of {s : Sty} (l : List ByteArray) : ∀ k, k < (dfs s plainS 16).length → xAt (gOf strQ (prtP s ++ l)) k = elB s ((dfs s plainS 16).getD k 0) := fun k hk => by
  have h1 : k < (prtP s ++ l).length := by rw [List.length_append, prtP_len]; omega
  show qStr (gOf strQ (prtP s ++ l) k 0) = _
  rw [gOf_at strQ _ h1]
  show (prtP s ++ l)[k] = _
  rw [List.getElem_append_left (by rw [prtP_len]; exact hk)]
  simp [prtP, List.getD_eq_getElem?_getD, hk]
/-- A STYLE'S TEXT IS THAT STYLE'S. -/
theorem parse_print {s : Sty} (hs : RightS s) : psR (sTxt s) = s ∧ psN (sTxt s) = 0 ∧ psE (sTxt s) = 0 := by
  by_cases h : prtP s = []
  · obtain rfl := prtP_nil h
    refine ⟨?_, ?_, ?_⟩ <;> kernel_rfl
  · have hl := prtL_join h (no59_prt hs)
    have hne : seqB (sTxt s) (bT []) = false := by have := sTxt_ne h []; rwa [List.append_nil] at this
    have hg : ∀ k, k < (dfs s plainS 16).length → xAt (prtG (sTxt s)) k = elB s ((dfs s plainS 16).getD k 0) := by
      show ∀ k, k < _ → xAt (gOf strQ (prtL (sTxt s))) k = _
      rw [hl]
      have := hg_of (s := s) []
      rwa [List.append_nil] at this
    obtain ⟨h1, _, h3⟩ := read_run hs hg 16 (Nat.le_refl _)
    have hn : (prtL (sTxt s)).length = (dfs s plainS 16).length := by rw [hl, prtP_len]
    have ho : psO (sTxt s) = none := by
      show fstN _ (qPs _) = none
      rw [hn]
      refine fstN_none fun j hj => ?_
      unfold qPs
      rw [h3 j hj]; rfl
    refine ⟨?_, ?_, ?_⟩
    · unfold psR
      rw [hne, ho, hn]
      exact h1.trans (mix_all s)
    · unfold psN
      rw [hne, ho]; rfl
    · unfold psE
      rw [hne, ho]; rfl
end Go.Proofs.YtgmeglodnhagdaaGreatDoor

/-! ## StX -/
namespace Go.Proofs.YtgmeglodnhagdaaGreatDoor
open Go Go.SX Go.Proofs Go.RowKit
set_option maxRecDepth 100000
variable [EA]
set_option linter.unusedVariables false
set_option linter.unusedSectionVars false
set_option linter.unusedSimpArgs false
theorem step_back {st : Sty} {m : Nat} {x : ByteArray} (hm : m ≤ 16) (he : pE m st x = 0) : ∃ i, 16 - m ≤ i ∧ i < 16 ∧ x = elB (pS m st x) i ∧ (∀ j, j ≠ i → fv (pS m st x) j = fv st j) ∧ fv (pS m st x) i ≠ fv st i ∧ RightS (pS m st x) ∧ pM m st x = 16 - (i + 1) := by
  have he0 := he
  cases hf : pF m x with
  | none => unfold pE at he; rw [hf] at he; cases he
  | some k =>
    obtain ⟨hk, hn⟩ := pF_inv hm hf
    have hi : 16 - m + k < 16 := by omega
    unfold pE at he
    rw [hf] at he
    simp only at he
    cases c1 : !(qBool (gsh (16 - m) k 1) == hsX x) with
    | true => rw [c1] at he; cases he
    | false =>
      rw [c1, cond_false] at he
      cases c2 : !(rdR st (vlX x) (16 - m + k)).2 with
      | true => rw [c2] at he; cases he
      | false =>
        rw [c2, cond_false] at he
        cases c3 : !(rightS (rdR st (vlX x) (16 - m + k)).1) with
        | true => rw [c3] at he; cases he
        | false =>
          rw [c3, cond_false] at he
          cases c4 : styEq (rdR st (vlX x) (16 - m + k)).1 st with
          | true => rw [c4] at he; cases he
          | false =>
            have hS : pS m st x = (rdR st (vlX x) (16 - m + k)).1 := by
              unfold pS
              rw [hf]
              simp only
              rw [c1]; rfl
            have hset := fv_of_set hi (fvL_rd st (vlX x) (16 - m + k) hi)
            have hh : hsX x = hasF (16 - m + k) := by
              have h1 : (qBool (gFd (k + (16 - m)) 1) == hsX x) = true := by simpa using c1
              rw [show 16 - m + k = k + (16 - m) by omega]
              exact (beq_iff_eq.1 h1).symm
            refine ⟨16 - m + k, by omega, hi, ?_, fun j hj => ?_, ?_, ?_, ?_⟩
            · rw [hS]
              exact el_back hn hh fun h => rd_back _ hi (by simpa using c2) h
            · rw [hS, hset, if_neg hj]
            · rw [hS]
              intro h
              have : (rdR st (vlX x) (16 - m + k)).1 = st := fv_ext fun j _ => by
                rw [hset]
                split
                · rename_i e; rw [e, h]
                · rfl
              rw [Bool.eq_false_iff, Ne, styEq_iff] at c4
              exact c4 this
            · rw [hS]
              exact rightS_of (by simpa using c3)
            · unfold pM
              rw [hf]
              simp only
              rw [he0, show ((0 : Nat) == 0) = true from rfl, cond_true]; omega
theorem dfs_congr {a a' b : Sty} : ∀ n, n ≤ 16 → (∀ j, j < n → fv a j = fv a' j) → dfs a b n = dfs a' b n
  | 0, _, _ => rfl
  | n + 1, hn, h => by
    have e : difB a b n = difB a' b n := by
      rw [Bool.eq_iff_iff, difB_iff (by omega), difB_iff (by omega), h n (by omega)]
    rw [dfs_succ, dfs_succ, dfs_congr n (by omega) fun j hj => h j (by omega), e]
theorem dfs_tail {a b : Sty} {n : Nat} : ∀ k, n + k ≤ 16 → (∀ j, n ≤ j → j < n + k → fv a j = fv b j) → dfs a b (n + k) = dfs a b n
  | 0, _, _ => rfl
  | k + 1, hn, h => by
    rw [← Nat.add_assoc, dfs_succ, (difB_no (by omega)).2 (h (n + k) (by omega) (by omega)), dfs_tail k (by omega) fun j h1 h2 => h j h1 (by omega)]
    simp
theorem dfs_mem_lt {a b : Sty} {n j : Nat} (h : j ∈ dfs a b n) : j < n := List.mem_range.1 (List.mem_filter.1 h).1
theorem back_run {g : Nat → Nat → Q} {n : Nat} (he : ∀ j, j < n → ePs g j = 0) : ∀ k, k ≤ n → RightS (stPs g k).1 ∧ (∀ j, 16 - (stPs g k).2 ≤ j → j < 16 → fv (stPs g k).1 j = fv plainS j) ∧
    (dfs (stPs g k).1 plainS (16 - (stPs g k).2)).map (elB (stPs g k).1) = (List.range k).map (xAt g)
  | 0, _ => ⟨RightS_plain, fun _ _ _ => rfl, rfl⟩
  | k + 1, hk => by
    obtain ⟨h1, h2, h3⟩ := back_run he k (by omega)
    have hm := stPs_le g k
    obtain ⟨i, a1, a2, a3, a4, a5, a6, a7⟩ := step_back hm (he k (by omega))
    have e1 : (stPs g (k + 1)).1 = pS (stPs g k).2 (stPs g k).1 (xAt g k) := rfl
    have e2 : (stPs g (k + 1)).2 = 16 - (i + 1) := a7
    rw [← e1] at a3 a4 a5 a6
    have e3 : 16 - (stPs g (k + 1)).2 = i + 1 := by omega
    refine ⟨a6, fun j hj1 hj2 => ?_, ?_⟩
    · rw [a4 j (by omega)]
      exact h2 j (by omega) hj2
    · rw [e3, dfs_succ, if_pos ((difB_iff a2).2 (by rw [← h2 i a1 a2]; exact a5)), List.map_append, List.range_succ, List.map_append]
      congr 1
      · rw [← h3, dfs_congr i (by omega) fun j hj => a4 j (by omega)]
        have e4 : dfs (stPs g k).1 plainS i = dfs (stPs g k).1 plainS (16 - (stPs g k).2) := by
          have := dfs_tail (a := (stPs g k).1) (b := plainS) (n := 16 - (stPs g k).2) (i - (16 - (stPs g k).2)) (by omega) fun j h1 h3 => h2 j h1 (by omega)
          rwa [show 16 - (stPs g k).2 + (i - (16 - (stPs g k).2)) = i by omega] at this
        rw [e4]
        refine List.map_congr_left fun j hj => ?_
        have hj2 := dfs_mem_lt hj
        rw [elB_eq _ (by omega), elB_eq _ (by omega), a4 j (by omega)]
      · rw [List.map_singleton, List.map_singleton, ← a3]
theorem join_prtL (x : ByteArray) : joinB (prtL x) semiB = x := by
  have e : (prtL x).map bL = Lib.splitK [59, 32] 0 (Lib.countB x semiB) (bL x) := Lib.splitB_data semiB 0 _ x
  show bT (Lib.join ((prtL x).map bL) (bL semiB)) = x
  rw [e, show bL semiB = [59, 32] from rfl, join_split]
/-- WHAT IS READ OF A TEXT IS RIGHT, AND HAS THAT TEXT. -/
theorem parse_back {x : ByteArray} (h : psE x = 0) : psN x = 0 ∧ RightS (psR x) ∧ sTxt (psR x) = x := by
  unfold psE at h
  unfold psN psR
  cases hx : seqB x (bT []) with
  | true =>
    obtain rfl := seqB_iff.1 hx
    exact ⟨rfl, RightS_plain, by kernel_rfl⟩
  | false =>
    rw [hx, cond_false] at h
    cases ho : psO x with
    | some k => rw [ho] at h; simp only [Option.isSome_some, cond_true] at h; omega
    | none =>
      have he : ∀ j, j < (prtL x).length → ePs (prtG x) j = 0 := fun j hj => by
        have := List.find?_eq_none.1 ho j (List.mem_range.2 hj)
        unfold qPs at this
        simpa using this
      obtain ⟨h1, h2, h3⟩ := back_run he _ (Nat.le_refl _)
      refine ⟨rfl, h1, ?_⟩
      show sTxt (stPs (prtG x) (prtL x).length).1 = x
      have hm := stPs_le (prtG x) (prtL x).length
      have e := dfs_tail (a := (stPs (prtG x) (prtL x).length).1) (b := plainS) (n := 16 - (stPs (prtG x) (prtL x).length).2) (stPs (prtG x) (prtL x).length).2 (by omega) fun j j1 j2 => h2 j j1 (by omega)
      rw [show 16 - (stPs (prtG x) (prtL x).length).2 + (stPs (prtG x) (prtL x).length).2 = 16 by omega] at e
      have e2 : prtP (stPs (prtG x) (prtL x).length).1 = prtL x := by
        unfold prtP
        rw [e, h3]
        exact strsL_of (prtL x)
      show joinB (prtP _) semiB = x
      rw [e2, join_prtL]
/-- A PART BEHIND THAT IS NONE. -/
theorem parse_places {s : Sty} (hs : RightS s) (h : prtP s ≠ []) {x : ByteArray} (h59 : (59 : UInt8) ∉ bL x) (hnm : ∀ i, i < 16 → nmX x ≠ nmB i) :
    psR (joinB (prtP s ++ [x]) semiB) = zeroS ∧ psN (joinB (prtP s ++ [x]) semiB) = ((prtP s).length : Nat) ∧ psE (joinB (prtP s ++ [x]) semiB) = 40 := by
  have hl := prtL_join (l := prtP s ++ [x]) (by simp) fun y hy => by
    rcases List.mem_append.1 hy with hy | hy
    · exact no59_prt hs y hy
    · obtain rfl : y = x := by simpa using hy
      exact h59
  have hne := sTxt_ne h [x]
  have hg : ∀ k, k < (dfs s plainS 16).length → xAt (prtG (joinB (prtP s ++ [x]) semiB)) k = elB s ((dfs s plainS 16).getD k 0) := by
    show ∀ k, k < _ → xAt (gOf strQ (prtL (joinB (prtP s ++ [x]) semiB))) k = _
    rw [hl]
    exact hg_of [x]
  obtain ⟨_, _, h3⟩ := read_run hs hg 16 (Nat.le_refl _)
  have hlen := prtP_len s
  have hn : (prtL (joinB (prtP s ++ [x]) semiB)).length = (prtP s).length + 1 := by rw [hl]; simp
  have hx : xAt (prtG (joinB (prtP s ++ [x]) semiB)) (prtP s).length = x := by
    rw [prtG_at (by omega)]
    simp only [hl]
    simp
  have hE : ePs (prtG (joinB (prtP s ++ [x]) semiB)) (prtP s).length = 1 := by
    unfold ePs
    rw [hx]
    have hm := stPs_le (prtG (joinB (prtP s ++ [x]) semiB)) (prtP s).length
    have hF : pF (stPs (prtG (joinB (prtP s ++ [x]) semiB)) (prtP s).length).2 x = none := fstN_none fun j hj => by
      show seqB (qStr (gFd (j + (16 - _)) 0)) (nmX x) = false
      rw [gFd_nm _ (by omega), Bool.eq_false_iff, Ne, seqB_iff]
      exact fun e => hnm _ (by omega) e.symm
    unfold pE
    rw [hF]
  have ho : psO (joinB (prtP s ++ [x]) semiB) = some (prtP s).length := by
    refine fstN_some (by omega) ?_ fun j hj => ?_
    · unfold qPs; rw [hE]; rfl
    · unfold qPs; rw [h3 j (by omega)]; rfl
  refine ⟨?_, ?_, ?_⟩
  · unfold psR; rw [hne, ho]; rfl
  · unfold psN; rw [hne, ho]; rfl
  · unfold psE; rw [hne, ho]
    simp only [Option.isSome_some, cond_true, cond_false, Option.getD_some]
    rw [hE]; rfl
/-- ONE PART ALONE. -/
theorem parse_part {s : Sty} (hs : RightS s) {i : Nat} (hi : i < 16) (hd : fv s i ≠ fv plainS i) : psE (elB s i) = 0 ∧ psN (elB s i) = 0 ∧ dfs (psR (elB s i)) plainS 16 = [i] := by
  have hy := RightS_set RightS_plain hs i hi
  have hf := fun j => fv_setF (a := plainS) (b := s) hi j
  have e1 : dfs (setF plainS s i) plainS i = [] := by
    have h0 := dfs_tail (a := setF plainS s i) (b := plainS) (n := 0) i (by omega) fun j _ h2 => by rw [hf, if_neg (by omega)]
    rw [Nat.zero_add] at h0
    exact h0
  have e2 : dfs (setF plainS s i) plainS (i + 1) = [i] := by
    rw [dfs_succ, e1, if_pos ((difB_iff hi).2 (by rw [hf, if_pos rfl]; exact hd))]; rfl
  have e3 : dfs (setF plainS s i) plainS 16 = [i] := by
    have h0 := dfs_tail (a := setF plainS s i) (b := plainS) (n := i + 1) (16 - (i + 1)) (by omega) fun j h1 h2 => by rw [hf, if_neg (by omega)]
    rw [show i + 1 + (16 - (i + 1)) = 16 by omega] at h0
    rw [h0, e2]
  have e4 : sTxt (setF plainS s i) = elB s i := by
    show joinB (prtP _) semiB = _
    unfold prtP
    rw [e3]
    show bT (Lib.join [bL (elB (setF plainS s i) i)] _) = _
    rw [Lib.join_one, bT_bL, elB_eq _ hi, elB_eq _ hi, hf, if_pos rfl]
  have hp := parse_print hy
  rw [e4] at hp
  exact ⟨hp.2.2, hp.2.1, by rw [hp.1, e3]⟩
end Go.Proofs.YtgmeglodnhagdaaGreatDoor

/-! ## StW -/
namespace Go.Proofs.YtgmeglodnhagdaaGreatDoor
open Go Go.SX Go.Proofs Go.RowKit
set_option maxRecDepth 100000
variable [EA]
set_option linter.unusedVariables false
set_option linter.unusedSectionVars false
set_option linter.unusedSimpArgs false
/-- A style's text; its number. -/
def pTx (s : Sty) : ByteArray := bif rightS s then sTxt s else bT []
def pEr (s : Sty) : Int := bif rightS s then 0 else 40
abbrev print3.s := sty1 fun s => .leaf (.tup [V.s (pTx s), V.i (pEr s)])
theorem print3.ok : SpecOK Tryz.prog 10 print3.s := print.ok.imp fun args r hv h => by
  obtain ⟨s, rfl, h2⟩ := sty1_inv h
  show (T.ite (rightS s) (.leaf (prTup (sTxt s))) (.leaf noPt)).pick = _
  rw [← h2, pick_ite, pick_leaf, pick_leaf, pick_leaf, pTx, pEr]
  cases rightS s <;> rfl
theorem pTx_size (s : Sty) : (pTx s).size < 999000 := by
  unfold pTx
  cases h : rightS s with
  | false => show (bT []).size < 999000; decide
  | true =>
    have h := rightS_of h
    have h1 := join_len (sep := bL semiB) (l := (prtP s).map bL) fun x hx => by
      obtain ⟨y, hy, rfl⟩ := List.mem_map.1 hx
      obtain ⟨i, hi, rfl⟩ := List.mem_map.1 hy
      rw [bL_len]
      exact el_size h (List.mem_range.1 (List.mem_filter.1 hi).1)
    have h2 := dfs_len s plainS
    have h3 : ((prtP s).map bL).length ≤ 16 := by rw [List.length_map, prtP_len]; exact h2
    have h4 : (bL semiB).length = 2 := rfl
    rw [h4] at h1
    have h5 : (2001 + 2) * ((prtP s).map bL).length ≤ (2001 + 2) * 16 := Nat.mul_le_mul_left _ h3
    show (joinB (prtP s) semiB).size < _
    rw [← bL_len, bL_bT]
    omega
/-! ### cut -/
def lcut (b : ByteArray) : ByteArray := b.extract 0 (if 200 < (b.size : Int) then 200 else (b.size : Int)).toNat
theorem lcut_size (b : ByteArray) : (lcut b).size ≤ 200 := by
  unfold lcut
  rw [ByteArray.size_extract]
  split <;> omega
def lawcut.s : List V → T V
  | [.q (.c (.string b))] => .leaf (V.s (lcut b))
  | _ => .bad
theorem lawcut.ok : SpecOK Tryz.prog 13 lawcut.s := by
  refine okF (GOK.nil _) Tryz.func13 (by kernel_rfl) (by kernel_rfl) fun args r hb hr => ?_
  unfold lawcut.s at hr
  split at hr
  · rename_i b
    have e : funV Tryz.prog [] [] Tryz.f13 (cod Tryz.f13) [V.s b] = .ite (decide ((0 : Int) ≤ 0 ∧ 0 ≤ (if 200 < (b.size : Int) then 200 else (b.size : Int)) ∧ (if 200 < (b.size : Int) then 200 else (b.size : Int)) ≤ (b.size : Int))) (.leaf (V.s (lcut b))) .bad := by kernel_rfl
    refine ⟨[], LamOK.nil _ _, (congrArg T.pick e).trans ?_⟩
    rw [decide_eq_true (show (0 : Int) ≤ 0 ∧ 0 ≤ (if 200 < (b.size : Int) then 200 else (b.size : Int)) ∧ (if 200 < (b.size : Int) then 200 else (b.size : Int)) ≤ (b.size : Int) by split <;> omega)]
    exact hr
  · cases hr
/-! ### laws -/
/-- What a law's functions come to, with any functions in the place of theirs: so the kernel has nothing to unfold. -/
structure Lw where
  R : ByteArray → Sty
  N : ByteArray → Int
  E : ByteArray → Int
  T : Sty → ByteArray
  P : Sty → Int
  G : Sty → Bool
  D : Sty → Sty → List ByteArray
  C : ByteArray → ByteArray
def parseG (F : Lw) : List V → T V
  | [.q (.c (.string x))] => .ite (decide (x.size < 1000000)) (.leaf (psV (F.R x) (F.N x) (F.E x))) .bad
  | _ => .bad
def cutG (F : Lw) : List V → T V
  | [.q (.c (.string b))] => .leaf (V.s (F.C b))
  | _ => .bad
noncomputable abbrev ΓLw (F : Lw) : Gam := [(9, shown.s), (10, sty1 fun s => .leaf (.tup [V.s (F.T s), V.i (F.P s)])), (12, parseG F), (15, sty1 fun s => .leaf (V.b (F.G s))), (16, plain.s), (22, sty2 fun a b => .leaf (vStr (F.D a b))), (13, cutG F)]
abbrev lw : Lw := ⟨psR, psN, psE, pTx, pEr, rightS, nmD, lcut⟩
theorem parseG.ok : SpecOK Tryz.prog 12 (parseG lw) := parse.ok.imp fun args r hv h => by
  unfold parseG at h
  split at h
  · exact h
  · cases h
theorem cutG.ok : SpecOK Tryz.prog 13 (cutG lw) := lawcut.ok.imp fun args r hv h => by
  unfold cutG at h
  split at h
  · exact h
  · cases h
theorem ΓLw.ok : GOK Tryz.prog (ΓLw lw) := .cons shown.ok (.cons print3.ok (.cons parseG.ok (.cons right.ok (.cons plain.ok (.cons differs.ok (.cons cutG.ok (GOK.nil _)))))))
end Go.Proofs.YtgmeglodnhagdaaGreatDoor
