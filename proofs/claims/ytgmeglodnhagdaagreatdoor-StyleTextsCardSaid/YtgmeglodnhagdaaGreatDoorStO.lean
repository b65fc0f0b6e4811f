/- Style: a part's contract; Parse; shown, texts; StyleDiffers. -/
import Derived.Test.YtgmeglodnhagdaaGreatDoorStK0
import Derived.Test.YtgmeglodnhagdaaGreatDoorStK1
import Derived.Test.YtgmeglodnhagdaaGreatDoorStK2
import Derived.Test.YtgmeglodnhagdaaGreatDoorStK3

/-! ## StL -/
namespace Go.Proofs.YtgmeglodnhagdaaGreatDoor
open Go Go.SX Go.Proofs Go.RowKit
set_option maxRecDepth 100000
variable [EA]
set_option linter.unusedVariables false
set_option linter.unusedSectionVars false
set_option linter.unusedSimpArgs false

theorem prD0 (t : TypeId) (s : Sty) (n : Int) (x : ByteArray) (hx : x.size ≤ 1000000) : ∀ k, k < 16 → cX1 0 k x = true → (trRp 0 k t s n x).pick = some (partO 0 k (0 + k) t s n x)
  | 0, _, hf => pr0_0 t s n x hx hf
  | 1, _, hf => pr0_1 t s n x hx hf
  | 2, _, hf => pr0_2 t s n x hx hf
  | 3, _, hf => pr0_3 t s n x hx hf
  | 4, _, hf => pr0_4 t s n x hx hf
  | 5, _, hf => pr0_5 t s n x hx hf
  | 6, _, hf => pr0_6 t s n x hx hf
  | 7, _, hf => pr0_7 t s n x hx hf
  | 8, _, hf => pr0_8 t s n x hx hf
  | 9, _, hf => pr0_9 t s n x hx hf
  | 10, _, hf => pr0_10 t s n x hx hf
  | 11, _, hf => pr0_11 t s n x hx hf
  | 12, _, hf => pr0_12 t s n x hx hf
  | 13, _, hf => pr0_13 t s n x hx hf
  | 14, _, hf => pr0_14 t s n x hx hf
  | 15, _, hf => pr0_15 t s n x hx hf
  | n + 16, hn, _ => by omega
theorem prD1 (t : TypeId) (s : Sty) (n : Int) (x : ByteArray) (hx : x.size ≤ 1000000) : ∀ k, k < 15 → cX1 1 k x = true → (trRp 1 k t s n x).pick = some (partO 1 k (1 + k) t s n x)
  | 0, _, hf => pr1_0 t s n x hx hf
  | 1, _, hf => pr1_1 t s n x hx hf
  | 2, _, hf => pr1_2 t s n x hx hf
  | 3, _, hf => pr1_3 t s n x hx hf
  | 4, _, hf => pr1_4 t s n x hx hf
  | 5, _, hf => pr1_5 t s n x hx hf
  | 6, _, hf => pr1_6 t s n x hx hf
  | 7, _, hf => pr1_7 t s n x hx hf
  | 8, _, hf => pr1_8 t s n x hx hf
  | 9, _, hf => pr1_9 t s n x hx hf
  | 10, _, hf => pr1_10 t s n x hx hf
  | 11, _, hf => pr1_11 t s n x hx hf
  | 12, _, hf => pr1_12 t s n x hx hf
  | 13, _, hf => pr1_13 t s n x hx hf
  | 14, _, hf => pr1_14 t s n x hx hf
  | n + 15, hn, _ => by omega
theorem prD2 (t : TypeId) (s : Sty) (n : Int) (x : ByteArray) (hx : x.size ≤ 1000000) : ∀ k, k < 14 → cX1 2 k x = true → (trRp 2 k t s n x).pick = some (partO 2 k (2 + k) t s n x)
  | 0, _, hf => pr2_0 t s n x hx hf
  | 1, _, hf => pr2_1 t s n x hx hf
  | 2, _, hf => pr2_2 t s n x hx hf
  | 3, _, hf => pr2_3 t s n x hx hf
  | 4, _, hf => pr2_4 t s n x hx hf
  | 5, _, hf => pr2_5 t s n x hx hf
  | 6, _, hf => pr2_6 t s n x hx hf
  | 7, _, hf => pr2_7 t s n x hx hf
  | 8, _, hf => pr2_8 t s n x hx hf
  | 9, _, hf => pr2_9 t s n x hx hf
  | 10, _, hf => pr2_10 t s n x hx hf
  | 11, _, hf => pr2_11 t s n x hx hf
  | 12, _, hf => pr2_12 t s n x hx hf
  | 13, _, hf => pr2_13 t s n x hx hf
  | n + 14, hn, _ => by omega
theorem prD3 (t : TypeId) (s : Sty) (n : Int) (x : ByteArray) (hx : x.size ≤ 1000000) : ∀ k, k < 13 → cX1 3 k x = true → (trRp 3 k t s n x).pick = some (partO 3 k (3 + k) t s n x)
  | 0, _, hf => pr3_0 t s n x hx hf
  | 1, _, hf => pr3_1 t s n x hx hf
  | 2, _, hf => pr3_2 t s n x hx hf
  | 3, _, hf => pr3_3 t s n x hx hf
  | 4, _, hf => pr3_4 t s n x hx hf
  | 5, _, hf => pr3_5 t s n x hx hf
  | 6, _, hf => pr3_6 t s n x hx hf
  | 7, _, hf => pr3_7 t s n x hx hf
  | 8, _, hf => pr3_8 t s n x hx hf
  | 9, _, hf => pr3_9 t s n x hx hf
  | 10, _, hf => pr3_10 t s n x hx hf
  | 11, _, hf => pr3_11 t s n x hx hf
  | 12, _, hf => pr3_12 t s n x hx hf
  | n + 13, hn, _ => by omega
theorem prD4 (t : TypeId) (s : Sty) (n : Int) (x : ByteArray) (hx : x.size ≤ 1000000) : ∀ k, k < 12 → cX1 4 k x = true → (trRp 4 k t s n x).pick = some (partO 4 k (4 + k) t s n x)
  | 0, _, hf => pr4_0 t s n x hx hf
  | 1, _, hf => pr4_1 t s n x hx hf
  | 2, _, hf => pr4_2 t s n x hx hf
  | 3, _, hf => pr4_3 t s n x hx hf
  | 4, _, hf => pr4_4 t s n x hx hf
  | 5, _, hf => pr4_5 t s n x hx hf
  | 6, _, hf => pr4_6 t s n x hx hf
  | 7, _, hf => pr4_7 t s n x hx hf
  | 8, _, hf => pr4_8 t s n x hx hf
  | 9, _, hf => pr4_9 t s n x hx hf
  | 10, _, hf => pr4_10 t s n x hx hf
  | 11, _, hf => pr4_11 t s n x hx hf
  | n + 12, hn, _ => by omega
theorem prD5 (t : TypeId) (s : Sty) (n : Int) (x : ByteArray) (hx : x.size ≤ 1000000) : ∀ k, k < 11 → cX1 5 k x = true → (trRp 5 k t s n x).pick = some (partO 5 k (5 + k) t s n x)
  | 0, _, hf => pr5_0 t s n x hx hf
  | 1, _, hf => pr5_1 t s n x hx hf
  | 2, _, hf => pr5_2 t s n x hx hf
  | 3, _, hf => pr5_3 t s n x hx hf
  | 4, _, hf => pr5_4 t s n x hx hf
  | 5, _, hf => pr5_5 t s n x hx hf
  | 6, _, hf => pr5_6 t s n x hx hf
  | 7, _, hf => pr5_7 t s n x hx hf
  | 8, _, hf => pr5_8 t s n x hx hf
  | 9, _, hf => pr5_9 t s n x hx hf
  | 10, _, hf => pr5_10 t s n x hx hf
  | n + 11, hn, _ => by omega
theorem prD6 (t : TypeId) (s : Sty) (n : Int) (x : ByteArray) (hx : x.size ≤ 1000000) : ∀ k, k < 10 → cX1 6 k x = true → (trRp 6 k t s n x).pick = some (partO 6 k (6 + k) t s n x)
  | 0, _, hf => pr6_0 t s n x hx hf
  | 1, _, hf => pr6_1 t s n x hx hf
  | 2, _, hf => pr6_2 t s n x hx hf
  | 3, _, hf => pr6_3 t s n x hx hf
  | 4, _, hf => pr6_4 t s n x hx hf
  | 5, _, hf => pr6_5 t s n x hx hf
  | 6, _, hf => pr6_6 t s n x hx hf
  | 7, _, hf => pr6_7 t s n x hx hf
  | 8, _, hf => pr6_8 t s n x hx hf
  | 9, _, hf => pr6_9 t s n x hx hf
  | n + 10, hn, _ => by omega
theorem prD7 (t : TypeId) (s : Sty) (n : Int) (x : ByteArray) (hx : x.size ≤ 1000000) : ∀ k, k < 9 → cX1 7 k x = true → (trRp 7 k t s n x).pick = some (partO 7 k (7 + k) t s n x)
  | 0, _, hf => pr7_0 t s n x hx hf
  | 1, _, hf => pr7_1 t s n x hx hf
  | 2, _, hf => pr7_2 t s n x hx hf
  | 3, _, hf => pr7_3 t s n x hx hf
  | 4, _, hf => pr7_4 t s n x hx hf
  | 5, _, hf => pr7_5 t s n x hx hf
  | 6, _, hf => pr7_6 t s n x hx hf
  | 7, _, hf => pr7_7 t s n x hx hf
  | 8, _, hf => pr7_8 t s n x hx hf
  | n + 9, hn, _ => by omega
theorem prD8 (t : TypeId) (s : Sty) (n : Int) (x : ByteArray) (hx : x.size ≤ 1000000) : ∀ k, k < 8 → cX1 8 k x = true → (trRp 8 k t s n x).pick = some (partO 8 k (8 + k) t s n x)
  | 0, _, hf => pr8_0 t s n x hx hf
  | 1, _, hf => pr8_1 t s n x hx hf
  | 2, _, hf => pr8_2 t s n x hx hf
  | 3, _, hf => pr8_3 t s n x hx hf
  | 4, _, hf => pr8_4 t s n x hx hf
  | 5, _, hf => pr8_5 t s n x hx hf
  | 6, _, hf => pr8_6 t s n x hx hf
  | 7, _, hf => pr8_7 t s n x hx hf
  | n + 8, hn, _ => by omega
theorem prD9 (t : TypeId) (s : Sty) (n : Int) (x : ByteArray) (hx : x.size ≤ 1000000) : ∀ k, k < 7 → cX1 9 k x = true → (trRp 9 k t s n x).pick = some (partO 9 k (9 + k) t s n x)
  | 0, _, hf => pr9_0 t s n x hx hf
  | 1, _, hf => pr9_1 t s n x hx hf
  | 2, _, hf => pr9_2 t s n x hx hf
  | 3, _, hf => pr9_3 t s n x hx hf
  | 4, _, hf => pr9_4 t s n x hx hf
  | 5, _, hf => pr9_5 t s n x hx hf
  | 6, _, hf => pr9_6 t s n x hx hf
  | n + 7, hn, _ => by omega
theorem prD10 (t : TypeId) (s : Sty) (n : Int) (x : ByteArray) (hx : x.size ≤ 1000000) : ∀ k, k < 6 → cX1 10 k x = true → (trRp 10 k t s n x).pick = some (partO 10 k (10 + k) t s n x)
  | 0, _, hf => pr10_0 t s n x hx hf
  | 1, _, hf => pr10_1 t s n x hx hf
  | 2, _, hf => pr10_2 t s n x hx hf
  | 3, _, hf => pr10_3 t s n x hx hf
  | 4, _, hf => pr10_4 t s n x hx hf
  | 5, _, hf => pr10_5 t s n x hx hf
  | n + 6, hn, _ => by omega
theorem prD11 (t : TypeId) (s : Sty) (n : Int) (x : ByteArray) (hx : x.size ≤ 1000000) : ∀ k, k < 5 → cX1 11 k x = true → (trRp 11 k t s n x).pick = some (partO 11 k (11 + k) t s n x)
  | 0, _, hf => pr11_0 t s n x hx hf
  | 1, _, hf => pr11_1 t s n x hx hf
  | 2, _, hf => pr11_2 t s n x hx hf
  | 3, _, hf => pr11_3 t s n x hx hf
  | 4, _, hf => pr11_4 t s n x hx hf
  | n + 5, hn, _ => by omega
theorem prD12 (t : TypeId) (s : Sty) (n : Int) (x : ByteArray) (hx : x.size ≤ 1000000) : ∀ k, k < 4 → cX1 12 k x = true → (trRp 12 k t s n x).pick = some (partO 12 k (12 + k) t s n x)
  | 0, _, hf => pr12_0 t s n x hx hf
  | 1, _, hf => pr12_1 t s n x hx hf
  | 2, _, hf => pr12_2 t s n x hx hf
  | 3, _, hf => pr12_3 t s n x hx hf
  | n + 4, hn, _ => by omega
theorem prD13 (t : TypeId) (s : Sty) (n : Int) (x : ByteArray) (hx : x.size ≤ 1000000) : ∀ k, k < 3 → cX1 13 k x = true → (trRp 13 k t s n x).pick = some (partO 13 k (13 + k) t s n x)
  | 0, _, hf => pr13_0 t s n x hx hf
  | 1, _, hf => pr13_1 t s n x hx hf
  | 2, _, hf => pr13_2 t s n x hx hf
  | n + 3, hn, _ => by omega
theorem prD14 (t : TypeId) (s : Sty) (n : Int) (x : ByteArray) (hx : x.size ≤ 1000000) : ∀ k, k < 2 → cX1 14 k x = true → (trRp 14 k t s n x).pick = some (partO 14 k (14 + k) t s n x)
  | 0, _, hf => pr14_0 t s n x hx hf
  | 1, _, hf => pr14_1 t s n x hx hf
  | n + 2, hn, _ => by omega
theorem prD15 (t : TypeId) (s : Sty) (n : Int) (x : ByteArray) (hx : x.size ≤ 1000000) : ∀ k, k < 1 → cX1 15 k x = true → (trRp 15 k t s n x).pick = some (partO 15 k (15 + k) t s n x)
  | 0, _, hf => pr15_0 t s n x hx hf
  | n + 1, hn, _ => by omega
theorem prK (t : TypeId) (s : Sty) (n : Int) (x : ByteArray) (hx : x.size ≤ 1000000) : ∀ d k, d + k < 16 → cX1 d k x = true → (trRp d k t s n x).pick = some (partO d k (d + k) t s n x)
  | 0, k, h, hf => prD0 t s n x hx k (by omega) hf
  | 1, k, h, hf => prD1 t s n x hx k (by omega) hf
  | 2, k, h, hf => prD2 t s n x hx k (by omega) hf
  | 3, k, h, hf => prD3 t s n x hx k (by omega) hf
  | 4, k, h, hf => prD4 t s n x hx k (by omega) hf
  | 5, k, h, hf => prD5 t s n x hx k (by omega) hf
  | 6, k, h, hf => prD6 t s n x hx k (by omega) hf
  | 7, k, h, hf => prD7 t s n x hx k (by omega) hf
  | 8, k, h, hf => prD8 t s n x hx k (by omega) hf
  | 9, k, h, hf => prD9 t s n x hx k (by omega) hf
  | 10, k, h, hf => prD10 t s n x hx k (by omega) hf
  | 11, k, h, hf => prD11 t s n x hx k (by omega) hf
  | 12, k, h, hf => prD12 t s n x hx k (by omega) hf
  | 13, k, h, hf => prD13 t s n x hx k (by omega) hf
  | 14, k, h, hf => prD14 t s n x hx k (by omega) hf
  | 15, k, h, hf => prD15 t s n x hx k (by omega) hf
  | n + 16, k, h, hf => by omega
/-- The fields that are left, if there are m. -/
abbrev lfM (m : Nat) : Q := .lst ksF m (gsh (16 - m))
/-- Which field a part names, of the last m. -/
def pF (m : Nat) (x : ByteArray) : Option Nat := fstN m (qIf (nmX x) (gsh (16 - m)))
/-- What is wrong with a part: 1: its name; 2: its value. -/
def pE (m : Nat) (s : Sty) (x : ByteArray) : Nat := match pF m x with
  | none => 1
  | some k => bif !(qBool (gsh (16 - m) k 1) == hsX x) then 1 else bif !(rdR s (vlX x) (16 - m + k)).2 then 2 else bif !(rightS (rdR s (vlX x) (16 - m + k)).1) then 2 else bif styEq (rdR s (vlX x) (16 - m + k)).1 s then 2 else 0
/-- The style behind a part. -/
def pS (m : Nat) (s : Sty) (x : ByteArray) : Sty := match pF m x with
  | none => s
  | some k => bif !(qBool (gsh (16 - m) k 1) == hsX x) then s else (rdR s (vlX x) (16 - m + k)).1
/-- How many fields are left behind a part. -/
def pM (m : Nat) (s : Sty) (x : ByteArray) : Nat := match pF m x with
  | none => m
  | some k => bif pE m s x == 0 then m - (k + 1) else m
theorem pM_le (m : Nat) (s : Sty) (x : ByteArray) : pM m s x ≤ m := by
  unfold pM
  split
  · omega
  · cases pE m s x == 0 <;> simp
theorem fstN_lt {n k : Nat} {q : Nat → Bool} (h : fstN n q = some k) : k < n := by
  rw [fstN, List.find?_range_eq_some] at h
  exact List.mem_range.1 h.2.1
abbrev outP (m : Nat) (t : TypeId) (s : Sty) (n : Int) (x : ByteArray) : T XOut :=
  .ite (pE m s x == 1) (.leaf (xP t (pS m s x) (lfM (pM m s x)) (errN n))) (.ite (pE m s x == 2) (.leaf (xP t (pS m s x) (lfM (pM m s x)) (errW n))) (.leaf (xP t (pS m s x) (lfM (pM m s x)) nilE)))
noncomputable def part.s : Option Ob → List V → T XOut
  | some (.cells t cs), [.ptr 0 0, .q (.c (.int .i64 n)), .q (.c (.string x))] => onCell cs fun s o => match o with
    | some (.lst [.str, .bool, .any, .any] m g) => .ite (@decide (x.size ≤ 1000000 ∧ m ≤ 16 ∧ g = gsh (16 - m)) (Classical.propDecidable _)) (outP m t s n x) .bad
    | _ => .bad
  | _, _ => .bad
theorem lf_lfM {m : Nat} (h : m ≤ 16) : lfQ (16 - m) = lfM m := by
  show Q.lst ksF (16 - (16 - m)) _ = Q.lst ksF m _
  rw [show 16 - (16 - m) = m by omega]
theorem part_some (t : TypeId) (s : Sty) (n : Int) (x : ByteArray) (hx : x.size ≤ 1000000) {m k : Nat} (hm : m ≤ 16) (hk : pF m x = some k) : (trRp (16 - m) k t s n x).pick = (outP m t s n x).pick := by
  have hkm := fstN_lt hk
  have h1 : cX1 (16 - m) k x = true := decide_eq_true (by
    rw [show 16 - (16 - m) = m by omega]; exact hk)
  refine (prK t s n x hx (16 - m) k (by omega) h1).trans ?_
  have hl : lfR (16 - m) k = lfM (m - (k + 1)) := by
    rw [lfR_eq (by omega), ← lf_lfM (m := m - (k + 1)) (by omega), show 16 - m + k + 1 = 16 - (m - (k + 1)) by omega]
  unfold partO outP
  have hE : pE m s x = bif !(qBool (gsh (16 - m) k 1) == hsX x) then 1 else bif !(rdR s (vlX x) (16 - m + k)).2 then 2 else bif !(rightS (rdR s (vlX x) (16 - m + k)).1) then 2 else bif styEq (rdR s (vlX x) (16 - m + k)).1 s then 2 else 0 := by unfold pE; rw [hk]
  have hS : pS m s x = bif !(qBool (gsh (16 - m) k 1) == hsX x) then s else (rdR s (vlX x) (16 - m + k)).1 := by unfold pS; rw [hk]
  have hM : pM m s x = bif pE m s x == 0 then m - (k + 1) else m := by unfold pM; rw [hk]
  rw [hM, hS, hE, hl, lf_lfM hm]
  simp only [pick_ite, pick_leaf]
  cases !(qBool (gsh (16 - m) k 1) == hsX x) with
  | true => rfl
  | false => cases !(rdR s (vlX x) (16 - m + k)).2 with
    | true => rfl
    | false => cases !(rightS (rdR s (vlX x) (16 - m + k)).1) with
      | true => rfl
      | false => cases styEq (rdR s (vlX x) (16 - m + k)).1 s <;> rfl
noncomputable abbrev trRn (t : TypeId) (s : Sty) (n : Int) (x : ByteArray) (m : Nat) (g : Nat → Nat → Q) : T XOut := funX Tryz.prog ΓRn [] Tryz.f30 (cod Tryz.f30) false (some (.cells t (celL s (some (.lst ksF m g))))) [.ptr 0 0, V.i n, V.s x]
theorem trRn_c (t : TypeId) (s : Sty) (n : Int) (x : ByteArray) (m : Nat) (g : Nat → Nat → Q) : (trRn t s n x m g).pathC [true, true, true] = [cX0 x, decide (fstN m (qIf (nmX x) g) = none), true] := by kernel_rfl
theorem trRn_l (t : TypeId) (s : Sty) (n : Int) (x : ByteArray) (m : Nat) (g : Nat → Nat → Q) : (trRn t s n x m g).pathL [true, true, true] = .leaf (xP t s (.lst ksF m g) (errN n)) := by kernel_rfl
/-- A part, where what IndexFunc comes to is known. -/
noncomputable def partK (m : Nat) (k : Option Nat) : Option Ob → List V → T XOut
  | some (.cells t cs), [.ptr 0 0, .q (.c (.int .i64 n)), .q (.c (.string x))] => onCell cs fun s o => .ite (@decide (x.size ≤ 1000000 ∧ m ≤ 16 ∧ o = some (lfM m) ∧ pF m x = k) (Classical.propDecidable _)) (outP m t s n x) .bad
  | _, _ => .bad
theorem partK.okS (m k : Nat) : SpecX Tryz.prog 30 true (partK m (some k)) := by
  refine specX_of_bodyW (ho := false) (ΓRp.ok k) Tryz.func30 (isBody _ (by kernel_rfl)) (by kernel_rfl) fun ls args x hl hb he => ?_
  unfold partK at he
  split at he
  · rename_i t cs n x
    obtain ⟨s, o, rfl, he2⟩ := onCell_pick he
    rw [pick_ite] at he2
    by_cases hc : x.size ≤ 1000000 ∧ m ≤ 16 ∧ o = some (lfM m) ∧ pF m x = some k
    · rw [@decide_eq_true _ (Classical.propDecidable _) hc, cond_true] at he2
      obtain ⟨hx, hm, rfl, hk⟩ := hc
      refine ⟨_, [], .rfl, LamOK.nil _ _, ?_⟩
      rw [← lf_lfM hm]
      exact (part_some t s n x hx hm hk).trans he2
    · rw [@decide_eq_false _ (Classical.propDecidable _) hc] at he2; cases he2
  · cases he
theorem partK.okN (m : Nat) : SpecX Tryz.prog 30 true (partK m none) := by
  refine specX_of_bodyW (ho := false) ΓRn.ok Tryz.func30 (isBody _ (by kernel_rfl)) (by kernel_rfl) fun ls args x hl hb he => ?_
  unfold partK at he
  split at he
  · rename_i t cs n x
    obtain ⟨s, o, rfl, he2⟩ := onCell_pick he
    rw [pick_ite] at he2
    by_cases hc : x.size ≤ 1000000 ∧ m ≤ 16 ∧ o = some (lfM m) ∧ pF m x = none
    · rw [@decide_eq_true _ (Classical.propDecidable _) hc, cond_true] at he2
      obtain ⟨hx, hm, rfl, hk⟩ := hc
      refine ⟨_, [], .rfl, LamOK.nil _ _, ?_⟩
      have h1 : (trRn t s n x m (gsh (16 - m))).pathC [true, true, true] = [true, true, true] := (trRn_c t s n x m (gsh (16 - m))).trans (by rw [cX0_of hx, decide_eq_true (show fstN m (qIf (nmX x) (gsh (16 - m))) = none from hk)])
      refine ((T.pick_path _ _ h1).trans (congrArg T.pick (trRn_l t s n x m (gsh (16 - m))))).trans ?_
      rw [← he2]
      have hE : pE m s x = 1 := by unfold pE; rw [hk]
      have hS : pS m s x = s := by unfold pS; rw [hk]
      have hM : pM m s x = m := by unfold pM; rw [hk]
      rw [outP, hM, hS, hE]; rfl
    · rw [@decide_eq_false _ (Classical.propDecidable _) hc] at he2; cases he2
  · cases he
theorem partK_at (t : TypeId) (s : Sty) (n : Int) (x : ByteArray) {m : Nat} {k : Option Nat} (hx : x.size ≤ 1000000) (hm : m ≤ 16) (hk : pF m x = k) : (partK m k (some (.cells t (celL s (some (lfM m))))) [.ptr 0 0, V.i n, V.s x]).pick = (outP m t s n x).pick := by
  show (T.ite (@decide (x.size ≤ 1000000 ∧ m ≤ 16 ∧ some (lfM m) = some (lfM m) ∧ pF m x = k) (Classical.propDecidable _)) (outP m t s n x) .bad).pick = _
  rw [@decide_eq_true _ (Classical.propDecidable _) ⟨hx, hm, rfl, hk⟩]; rfl
theorem part.ok : SpecX Tryz.prog 30 true part.s := by
  refine ⟨(partK.okN 0).1, fun S w θ ls args vals x hS hg hgl hlend hls hd he => ?_⟩
  unfold part.s at he
  split at he
  · rename_i t cs n b
    obtain ⟨s, o, rfl, he2⟩ := onCell_pick he
    split at he2
    · rename_i m g
      rw [pick_ite] at he2
      by_cases hc : b.size ≤ 1000000 ∧ m ≤ 16 ∧ g = gsh (16 - m)
      · rw [@decide_eq_true _ (Classical.propDecidable _) hc, cond_true] at he2
        obtain ⟨hx, hm, rfl⟩ := hc
        cases hk : pF m b with
        | none => exact (partK.okN m).2 S w θ _ _ vals x hS hg hgl hlend hls hd ((partK_at t s n b hx hm hk).trans he2)
        | some k => exact (partK.okS m k).2 S w θ _ _ vals x hS hg hgl hlend hls hd ((partK_at t s n b hx hm hk).trans he2)
      · rw [@decide_eq_false _ (Classical.propDecidable _) hc] at he2; cases he2
    · cases he2
  · cases he
end Go.Proofs.YtgmeglodnhagdaaGreatDoor

/-! ## StM -/
namespace Go.Proofs.YtgmeglodnhagdaaGreatDoor
open Go Go.SX Go.Proofs Go.RowKit
set_option maxRecDepth 100000
variable [EA]
set_option linter.unusedVariables false
set_option linter.unusedSectionVars false
set_option linter.unusedSimpArgs false

abbrev pPs : List Nat := [0, 1, 0, 1, 1, 1, 1]
noncomputable abbrev bodyPs : Code := loopAt Tryz.f12 pPs
def zeroS : Sty := ⟨0, 0, 0, 0, false, 0, 0, 0, false, 0, 0, false, 0, false, 0, 0⟩
abbrev celR (s : Sty) (m : Nat) : Option Ob := some (.cells 53 (celL s (some (lfM m))))
def SPs (n : Nat) (g : Nat → Nat → Q) (s : Sty) (m : Nat) (i : Int) : St := mkS 55 [(2, .ptr 0 0), (5, .ptr 1 0), (29, lS n g), (30, V.i n), (31, V.i i)] [celS zeroS, celR s m] [] false [] 0
def livePs : Ex → List Nat | .normal => [2, 5, 29, 30, 31] | .ret => [2, 3, 4] | _ => [2, 5]
noncomputable abbrev ΓPs : Gam := [(30, .x true part.s), (31, AsStyle.told.s), (28, fields.s), (29, split.s)]
theorem ΓPs.ok : GOK Tryz.prog ΓPs := .consX part.ok (.cons AsStyle.told.ok (.cons fields.ok (.cons split.ok (GOK.nil _))))
noncomputable abbrev treePs (s : St) : T (Ex × St × Bool) := ltree Tryz.prog ΓPs [] pPs bodyPs 55 2 livePs poN s
abbrev xAt (g : Nat → Nat → Q) (i : Nat) : ByteArray := qStr (g i 0)
noncomputable abbrev cPs (g : Nat → Nat → Q) (m i : Nat) : Bool := @decide ((xAt g i).size ≤ 1000000 ∧ m ≤ 16 ∧ gsh (16 - m) = gsh (16 - m)) (Classical.propDecidable _)
theorem cPs_of {g : Nat → Nat → Q} {m i : Nat} (h : (xAt g i).size ≤ 1000000) (hm : m ≤ 16) : cPs g m i = true := @decide_eq_true _ (Classical.propDecidable _) ⟨h, hm, rfl⟩
abbrev retPs (s : Sty) (m : Nat) (x : ByteArray) (n e : Int) : St := mkS 55 [(2, .ptr 0 0), (3, V.i n), (4, V.i e)] [celS zeroS, celR (pS m s x) (pM m s x)] [] false [] 0
theorem psN_c (n : Nat) (g : Nat → Nat → Q) (s : Sty) (m i : Nat) : (treePs (SPs n g s m i)).pathC [true, true, true, true, true] = [decide ((i : Int) < n), inI i n, cPs g m i, pE m s (xAt g i) == 1, true] := by kernel_rfl
theorem psN_l (n : Nat) (g : Nat → Nat → Q) (s : Sty) (m i : Nat) : (treePs (SPs n g s m i)).pathL [true, true, true, true, true] = .leaf (.ret, retPs s m (xAt g i) i 40, true) := by kernel_rfl
theorem psW_c (n : Nat) (g : Nat → Nat → Q) (s : Sty) (m i : Nat) : (treePs (SPs n g s m i)).pathC [true, true, true, false, true, true, true] = [decide ((i : Int) < n), inI i n, cPs g m i, pE m s (xAt g i) == 1, pE m s (xAt g i) == 2, true, @decide (EA.ea 0 = EA.ea 0) (Classical.propDecidable _)] := by kernel_rfl
theorem psW_l (n : Nat) (g : Nat → Nat → Q) (s : Sty) (m i : Nat) : (treePs (SPs n g s m i)).pathL [true, true, true, false, true, true, true] = .leaf (.ret, retPs s m (xAt g i) i 41, true) := by kernel_rfl
theorem psO_c (n : Nat) (g : Nat → Nat → Q) (s : Sty) (m i : Nat) : (treePs (SPs n g s m i)).pathC [true, true, true, false, false, false] = [decide ((i : Int) < n), inI i n, cPs g m i, pE m s (xAt g i) == 1, pE m s (xAt g i) == 2, false] := by kernel_rfl
theorem psO_l (n : Nat) (g : Nat → Nat → Q) (s : Sty) (m i : Nat) : (treePs (SPs n g s m i)).pathL [true, true, true, false, false, false] = .leaf (.normal, SPs n g (pS m s (xAt g i)) (pM m s (xAt g i)) (w64 (i + 1)), true) := by kernel_rfl
abbrev finPs (s : Sty) (m : Nat) : St := mkS 55 [(2, .ptr 0 0), (5, .ptr 1 0)] [celS zeroS, celR s m] [] false [] 0
theorem psE_c (n : Nat) (g : Nat → Nat → Q) (s : Sty) (m i : Nat) : (treePs (SPs n g s m i)).pathC [false] = [decide ((i : Int) < n)] := by kernel_rfl
theorem psE_l (n : Nat) (g : Nat → Nat → Q) (s : Sty) (m i : Nat) : (treePs (SPs n g s m i)).pathL [false] = .leaf (.exit 0, finPs s m, true) := by kernel_rfl
/-- The style behind i parts; how many fields are left. -/
def stPs (g : Nat → Nat → Q) : Nat → Sty × Nat
  | 0 => (plainS, 16)
  | i + 1 => (pS (stPs g i).2 (stPs g i).1 (xAt g i), pM (stPs g i).2 (stPs g i).1 (xAt g i))
theorem stPs_le (g : Nat → Nat → Q) : ∀ i, (stPs g i).2 ≤ 16
  | 0 => Nat.le_refl _
  | i + 1 => Nat.le_trans (pM_le _ _ _) (stPs_le g i)
/-- What is wrong with the i-th part. -/
def ePs (g : Nat → Nat → Q) (i : Nat) : Nat := pE (stPs g i).2 (stPs g i).1 (xAt g i)
theorem pE_le (m : Nat) (s : Sty) (x : ByteArray) : pE m s x = 0 ∨ pE m s x = 1 ∨ pE m s x = 2 := by
  unfold pE
  split
  · exact .inr (.inl rfl)
  · rename_i k hk
    cases !(qBool (gsh (16 - m) k 1) == hsX x) with
    | true => exact .inr (.inl rfl)
    | false => cases !(rdR s (vlX x) (16 - m + k)).2 with
      | true => exact .inr (.inr rfl)
      | false => cases !(rightS (rdR s (vlX x) (16 - m + k)).1) with
        | true => exact .inr (.inr rfl)
        | false => cases styEq (rdR s (vlX x) (16 - m + k)).1 s <;> simp
def qPs (g : Nat → Nat → Q) (i : Nat) : Bool := !(ePs g i == 0)
/-- Which part is wrong. -/
def fPs (n : Nat) (g : Nat → Nat → Q) : Option Nat := fstN n (qPs g)
abbrev retK (g : Nat → Nat → Q) (k : Nat) : St := retPs (stPs g k).1 (stPs g k).2 (xAt g k) (k : Nat) (39 + (ePs g k : Nat))
theorem loopPs (n : Nat) (g : Nat → Nat → Q) (hn : n ≤ 9223372036854775807) (hx : ∀ i, i < n → (xAt g i).size ≤ 1000000) : ∀ x, (T.ite (fPs n g).isSome (.leaf (Ex.ret, retK g ((fPs n g).getD 0))) (.leaf (.exit 0, finPs (stPs g n).1 (stPs g n).2))).pick = some x → SemC Tryz.prog (.loop bodyPs) (SPs n g plainS 16 (0 : Nat)) x := by
  refine loopFnd (b := bodyPs) ΓPs.ok (root := cod Tryz.f12) (p := pPs) (by kernel_rfl) hn (fun i => SPs n g (stPs g i.toNat).1 (stPs g i.toNat).2 i) (qPs g) (retK g) (finPs (stPs g n).1 (stPs g n).2) 55 2 livePs poN poN_ok (fun i hlt hq => ?_) (fun i hlt hq => ?_) ?_
  · have hc := cPs_of (m := (stPs g i).2) (hx i hlt) (stPs_le g i)
    have hq2 : ePs g i ≠ 0 := by unfold qPs at hq; simpa using hq
    simp only [Int.toNat_natCast]
    rcases pE_le (stPs g i).2 (stPs g i).1 (xAt g i) with h | h | h
    · exact absurd h hq2
    · have e := psN_c n g (stPs g i).1 (stPs g i).2 i
      rw [c_lt hlt, c_inI hlt, hc, h] at e
      refine ((T.pick_path _ _ e).trans (congrArg T.pick (psN_l n g (stPs g i).1 (stPs g i).2 i))).trans ?_
      show some _ = some (Ex.ret, retPs _ _ _ _ (39 + (ePs g i : Nat)), true)
      rw [show ePs g i = 1 from h]; rfl
    · have e := psW_c n g (stPs g i).1 (stPs g i).2 i
      rw [c_lt hlt, c_inI hlt, hc, h, @decide_eq_true _ (Classical.propDecidable _) (rfl : EA.ea 0 = EA.ea 0)] at e
      refine ((T.pick_path _ _ e).trans (congrArg T.pick (psW_l n g (stPs g i).1 (stPs g i).2 i))).trans ?_
      show some _ = some (Ex.ret, retPs _ _ _ _ (39 + (ePs g i : Nat)), true)
      rw [show ePs g i = 2 from h]; rfl
  · have hc := cPs_of (m := (stPs g i).2) (hx i hlt) (stPs_le g i)
    have hq2 : ePs g i = 0 := by unfold qPs at hq; simpa using hq
    simp only [Int.toNat_natCast]
    have e := psO_c n g (stPs g i).1 (stPs g i).2 i
    rw [c_lt hlt, c_inI hlt, hc, show pE (stPs g i).2 (stPs g i).1 (xAt g i) = 0 from hq2] at e
    refine ((T.pick_path _ _ e).trans (congrArg T.pick (psO_l n g (stPs g i).1 (stPs g i).2 i))).trans ?_
    rw [w64_suc hlt hn, Int.toNat_natCast]; rfl
  · simp only [Int.toNat_natCast]
    have e := psE_c n g (stPs g n).1 (stPs g n).2 n
    rw [c_ge (Nat.le_refl _)] at e
    exact (T.pick_path _ _ e).trans (congrArg T.pick (psE_l n g (stPs g n).1 (stPs g n).2 n))
end Go.Proofs.YtgmeglodnhagdaaGreatDoor

/-! ## StN -/
namespace Go.Proofs.YtgmeglodnhagdaaGreatDoor
open Go Go.SX Go.Proofs Go.RowKit
set_option maxRecDepth 100000
variable [EA]
set_option linter.unusedVariables false
set_option linter.unusedSectionVars false
set_option linter.unusedSimpArgs false

theorem splitB_size (sep : ByteArray) : ∀ (k : Nat) (s : ByteArray), ∀ y ∈ Lib.splitB sep 0 k s, y.size ≤ s.size
  | 0, s, y, h => by
    rw [Lib.splitB] at h
    obtain rfl : y = s := by simpa using h
    exact Nat.le_refl _
  | k + 1, s, y, h => by
    rw [Lib.splitB] at h
    split at h
    · obtain rfl : y = s := by simpa using h
      exact Nat.le_refl _
    · rcases List.mem_cons.1 h with rfl | h
      · rw [ByteArray.size_extract]; omega
      · have := splitB_size sep k _ y h
        rw [ByteArray.size_extract] at this
        omega
/-- A text's parts. -/
abbrev prtL (x : ByteArray) : List ByteArray := Lib.splitB semiB 0 (Lib.countB x semiB) x
abbrev prtG (x : ByteArray) : Nat → Nat → Q := gOf strQ (prtL x)
theorem prtL_len (x : ByteArray) : (prtL x).length ≤ x.size + 1 := by
  have h1 := Lib.splitB_length_le semiB 0 (Lib.countB x semiB) x
  have h2 := Lib.countB_le semiB (by decide) x.size x (Nat.le_refl _)
  exact Nat.le_trans h1 (by omega)
theorem prtG_at {x : ByteArray} {i : Nat} (h : i < (prtL x).length) : xAt (prtG x) i = (prtL x)[i] := by
  show qStr (gOf strQ (prtL x) i 0) = _
  rw [gOf_at strQ (prtL x) h]; rfl
/-- What a text comes to. -/
def psO (x : ByteArray) : Option Nat := fPs (prtL x).length (prtG x)
def psR (x : ByteArray) : Sty := bif seqB x (bT []) then plainS else bif (psO x).isSome then zeroS else (stPs (prtG x) (prtL x).length).1
def psN (x : ByteArray) : Int := bif seqB x (bT []) then 0 else bif (psO x).isSome then (((psO x).getD 0 : Nat) : Int) else 0
def psE (x : ByteArray) : Int := bif seqB x (bT []) then 0 else bif (psO x).isSome then 39 + ((ePs (prtG x) ((psO x).getD 0) : Nat) : Int) else 0
abbrev psV (s : Sty) (n e : Int) : V := .tup [styV s, V.i n, V.i e]
noncomputable abbrev orPs (n : Nat) (g : Nat → Nat → Q) (q : Bool) (a : St) (s : Sty) (m : Nat) : Lam := [(pPs, orc false 55 2 [2, 5, 29, 30, 31] (SPs n g plainS 16 (0 : Nat)) (.ite q (.leaf (.ret, a)) (.leaf (.exit 0, finPs s m))))]
abbrev retA (s : Sty) (m : Nat) (k e : Int) : St := mkS 55 [(2, .ptr 0 0), (3, V.i k), (4, V.i e)] [celS zeroS, celR s m] [] false [] 0
theorem eqPs (x : ByteArray) (q : Bool) (k e : Int) (s s2 : Sty) (m m2 : Nat) : funV Tryz.prog ΓPs (orPs (prtL x).length (prtG x) q (retA s2 m2 k e) s m) Tryz.f12 (cod Tryz.f12) [V.s x] =
    .ite (seqB x (bT [])) (.leaf (psV plainS 0 0)) (.ite (decide (x.size < 1000000 ∧ 1 ≤ semiB.size)) (.ite (@decide (SPs (prtL x).length (prtG x) plainS 16 (0 : Nat) = SPs (prtL x).length (prtG x) plainS 16 (0 : Nat)) (Classical.propDecidable _))
      (.ite q (.leaf (psV zeroS k e)) (.leaf (psV s 0 0))) .bad) .bad) := by kernel_rfl
def parse.s : List V → T V
  | [.q (.c (.string x))] => .ite (decide (x.size < 1000000)) (.leaf (psV (psR x) (psN x) (psE x))) .bad
  | _ => .bad
theorem parse.ok : SpecOK Tryz.prog 12 parse.s := by
  refine okF ΓPs.ok Tryz.func12 (by kernel_rfl) (by kernel_rfl) fun args r hb hr => ?_
  unfold parse.s at hr
  split at hr
  · rename_i x
    rw [pick_ite] at hr
    by_cases h : x.size < 1000000
    · rw [decide_eq_true h, cond_true] at hr
      have hl := prtL_len x
      have hx : ∀ i, i < (prtL x).length → (xAt (prtG x) i).size ≤ 1000000 := fun i hi => by
        rw [prtG_at hi]
        have := splitB_size semiB _ x _ (List.getElem_mem hi)
        omega
      refine ⟨orPs (prtL x).length (prtG x) (psO x).isSome (retK (prtG x) ((psO x).getD 0)) (stPs (prtG x) (prtL x).length).1 (stPs (prtG x) (prtL x).length).2, LamOK.orc (c := .loop bodyPs) (by kernel_rfl) (loopPs (prtL x).length (prtG x) (by omega) hx) (LamOK.nil _ _), ?_⟩
      refine (congrArg T.pick (eqPs x (psO x).isSome (((psO x).getD 0 : Nat) : Int) (39 + ((ePs (prtG x) ((psO x).getD 0) : Nat) : Int)) _ _ _ _)).trans ?_
      rw [← hr, decide_eq_true (show x.size < 1000000 ∧ 1 ≤ semiB.size from ⟨h, by decide⟩), pick_ite, pick_ite, cond_true, pick_same, psR, psN, psE]
      cases seqB x (bT []) with
      | true => rfl
      | false => cases (psO x).isSome <;> rfl
    · rw [decide_eq_false h] at hr; cases hr
  · cases hr
end Go.Proofs.YtgmeglodnhagdaaGreatDoor

/-! ## StO -/
namespace Go.Proofs.YtgmeglodnhagdaaGreatDoor
open Go Go.SX Go.Proofs Go.RowKit
set_option maxRecDepth 100000
variable [EA]
set_option linter.unusedVariables false
set_option linter.unusedSectionVars false
set_option linter.unusedSimpArgs false

/-! ### shown -/
abbrev ΓSh : Gam := [(10, print.s), (12, parse.s), (19, multi.s)]
theorem ΓSh.ok : GOK Tryz.prog ΓSh := .cons print.ok (.cons parse.ok (.cons multi.ok (GOK.nil _)))
def shown.s : List V → T V
  | [] => .leaf (V.b true)
  | _ => .bad
theorem shown.ok : SpecOK Tryz.prog 9 shown.s := by
  refine okF ΓSh.ok Tryz.func9 (by kernel_rfl) (by kernel_rfl) fun args r hb hr => ?_
  unfold shown.s at hr
  split at hr
  · exact ⟨[], LamOK.nil _ _, (show (funV Tryz.prog ΓSh [] Tryz.f9 (cod Tryz.f9) []).pick = some (V.b true) by kernel_rfl).trans hr⟩
  · cases hr

/-! ### texts -/
noncomputable abbrev bodyTx : Code := loopAt Tryz.f21 [0, 1, 0, 1, 1]
def STx (n : Nat) (g : Nat → Nat → Q) (m : Nat) (h : Nat → Nat → Q) (i : Int) : St := mkS 26 [(0, lS n g), (1, lS m h), (5, V.i i)] [] [] false [] 0
def liveTx : Ex → List Nat | .normal => [0, 1, 5] | .ret => [4] | _ => []
noncomputable abbrev treeTx (s : St) : T (Ex × St × Bool) := ltree Tryz.prog [] [] [0, 1, 0, 1, 1] bodyTx 26 0 liveTx poN s
abbrev eqI (g h : Nat → Nat → Q) (i : Nat) : Bool := seqB (qStr (g i 0)) (qStr (h i 0))
theorem stepTx (n : Nat) (g : Nat → Nat → Q) (m : Nat) (h : Nat → Nat → Q) (i : Nat) : treeTx (STx n g m h i) =
    .ite (decide ((i : Int) < n)) (.ite (inI i n) (.ite (inI i m) (.ite (!(eqI g h i)) (.leaf (.ret, mkS 26 [(4, V.b false)] [] [] false [] 0, true)) (.leaf (.normal, STx n g m h (w64 (i + 1)), true))) .bad) .bad) (.leaf (.exit 0, mkS 26 [] [] [] false [] 0, true)) := by kernel_rfl
theorem loopTx (n : Nat) (g : Nat → Nat → Q) (h : Nat → Nat → Q) (hn : n ≤ 9223372036854775807) : ∀ x, (T.ite (allN n (eqI g h)) (.leaf (Ex.exit 0, mkS 26 [] [] [] false [] 0)) (.leaf (.ret, mkS 26 [(4, V.b false)] [] [] false [] 0))).pick = some x → SemC Tryz.prog (.loop bodyTx) (STx n g n h (0 : Nat)) x := by
  refine loopAll (GOK.nil _) (root := cod Tryz.f21) (p := [0, 1, 0, 1, 1]) (by kernel_rfl) hn (fun i => STx n g n h i) (eqI g h) _ _ 26 0 liveTx poN poN_ok (fun i hlt hq => ?_) (fun i hlt hq => ?_) ?_
  · exact (congrArg T.pick (stepTx n g n h i)).trans (by rw [c_lt hlt, c_inI hlt, hq]; rfl)
  · exact (congrArg T.pick (stepTx n g n h i)).trans (by rw [c_lt hlt, c_inI hlt, hq]; rfl)
  · exact (congrArg T.pick (stepTx n g n h n)).trans (by rw [c_ge (Nat.le_refl _)]; rfl)
/-- Are two lists of texts the same? -/
def eqT (n : Nat) (g : Nat → Nat → Q) (m : Nat) (h : Nat → Nat → Q) : Bool := bif (n : Int) != m then false else allN n (eqI g h)
def texts.s : List V → T V
  | [.q (.lst [.str] n g), .q (.lst [.str] m h)] => .leaf (V.b (eqT n g m h))
  | _ => .bad
theorem texts.ok : SpecOK Tryz.prog 21 texts.s := by
  refine okF (GOK.nil _) Tryz.func21 (by kernel_rfl) (by kernel_rfl) fun args r hb hr => ?_
  unfold texts.s at hr
  split at hr
  · rename_i n g m h
    have hn : n ≤ 9223372036854775807 := (hb (lS n g) (by simp)).1
    cases hr
    by_cases hnm : n = m
    · subst hnm
      refine ⟨_, LamOK.orc (p := [0, 1, 0, 1, 1]) (mk := false) (nn := 26) (k := 0) (live := liveTx .normal) (c := .loop bodyTx) (by kernel_rfl) (loopTx n g h hn) (LamOK.nil _ _), ?_⟩
      have e : ∀ q, funV Tryz.prog [] [([0, 1, 0, 1, 1], orc false 26 0 (liveTx .normal) (STx n g n h (0 : Nat)) (.ite q (.leaf (Ex.exit 0, mkS 26 [] [] [] false [] 0)) (.leaf (.ret, mkS 26 [(4, V.b false)] [] [] false [] 0))))] Tryz.f21 (cod Tryz.f21) [lS n g, lS n h] =
          .ite ((n : Int) != n) (.leaf (V.b false)) (.ite (@decide (STx n g n h (0 : Nat) = STx n g n h (0 : Nat)) (Classical.propDecidable _)) (.ite q (.leaf (V.b true)) (.leaf (V.b false))) .bad) := fun q => by kernel_rfl
      rw [e, eqT, show ((n : Int) != n) = false by simp]
      refine (pick_same _ _).trans ?_
      cases allN n (eqI g h) <;> rfl
    · have hne : ((n : Int) != m) = true := by simp; omega
      refine ⟨[], LamOK.nil _ _, ?_⟩
      have e1 : (funV Tryz.prog [] [] Tryz.f21 (cod Tryz.f21) [lS n g, lS m h]).pathC [true] = [(n : Int) != m] := by kernel_rfl
      have e2 : (funV Tryz.prog [] [] Tryz.f21 (cod Tryz.f21) [lS n g, lS m h]).pathL [true] = .leaf (V.b false) := by kernel_rfl
      rw [eqT, hne, cond_true]
      exact (T.pick_path _ _ (e1.trans (by rw [hne]))).trans (congrArg T.pick e2)
  · cases hr
theorem eqT_self (l : List ByteArray) : eqT l.length (gOf strQ l) l.length (gOf strQ l) = true := by
  rw [eqT, show (((l.length : Nat) : Int) != ((l.length : Nat) : Int)) = false by simp, cond_false]
  exact allN_true fun i hi => by simp [eqI, seqB]

/-! ### StyleDiffers -/
theorem styEq_iff {x y : Sty} : styEq x y = true ↔ x = y := by
  cases x; cases y
  simp only [styEq, Sty.mk.injEq]
  constructor
  · intro h
    simp only [Bool.cond_eq_ite] at h
    simp at h
    simp [h]
  · rintro ⟨rfl, rfl, rfl, rfl, rfl, rfl, rfl, rfl, rfl, rfl, rfl, rfl, rfl, rfl, rfl, rfl⟩
    simp
theorem setF_sym (a b : Sty) : ∀ i, setF a b i = a ↔ setF b a i = b
  | 0 => by cases a; cases b; simp [setF, eq_comm]
  | 1 => by cases a; cases b; simp [setF, eq_comm]
  | 2 => by cases a; cases b; simp [setF, eq_comm]
  | 3 => by cases a; cases b; simp [setF, eq_comm]
  | 4 => by cases a; cases b; simp [setF, eq_comm]
  | 5 => by cases a; cases b; simp [setF, eq_comm]
  | 6 => by cases a; cases b; simp [setF, eq_comm]
  | 7 => by cases a; cases b; simp [setF, eq_comm]
  | 8 => by cases a; cases b; simp [setF, eq_comm]
  | 9 => by cases a; cases b; simp [setF, eq_comm]
  | 10 => by cases a; cases b; simp [setF, eq_comm]
  | 11 => by cases a; cases b; simp [setF, eq_comm]
  | 12 => by cases a; cases b; simp [setF, eq_comm]
  | 13 => by cases a; cases b; simp [setF, eq_comm]
  | 14 => by cases a; cases b; simp [setF, eq_comm]
  | 15 => by cases a; cases b; simp [setF, eq_comm]
  | n + 16 => by simp [setF]
theorem difB_sym (a b : Sty) (i : Nat) : difB a b i = difB b a i := by
  have h : styEq (setF a b i) a = styEq (setF b a i) b := by
    rw [Bool.eq_iff_iff, styEq_iff, styEq_iff]
    exact setF_sym a b i
  unfold difB
  rw [h]
theorem dfs_sym (a b : Sty) (n : Nat) : dfs a b n = dfs b a n := by
  unfold dfs
  exact List.filter_congr fun i _ => difB_sym a b i
theorem difB_eq {a b : Sty} (h : ∀ i, i < 16 → difB a b i = false) : a = b := by
  have k : ∀ i, i < 16 → setF a b i = a := fun i hi => by
    have := h i hi
    unfold difB at this
    exact styEq_iff.1 (by simpa using this)
  have k0 := k 0 (by omega); have k1 := k 1 (by omega); have k2 := k 2 (by omega); have k3 := k 3 (by omega)
  have k4 := k 4 (by omega); have k5 := k 5 (by omega); have k6 := k 6 (by omega); have k7 := k 7 (by omega)
  have k8 := k 8 (by omega); have k9 := k 9 (by omega); have k10 := k 10 (by omega); have k11 := k 11 (by omega)
  have k12 := k 12 (by omega); have k13 := k 13 (by omega); have k14 := k 14 (by omega); have k15 := k 15 (by omega)
  cases a; cases b
  simp [setF] at k0 k1 k2 k3 k4 k5 k6 k7 k8 k9 k10 k11 k12 k13 k14 k15
  simp [k0, k1, k2, k3, k4, k5, k6, k7, k8, k9, k10, k11, k12, k13, k14, k15]
theorem setF_self (a : Sty) : ∀ i, setF a a i = a
  | 0 | 1 | 2 | 3 | 4 | 5 | 6 | 7 | 8 | 9 | 10 | 11 | 12 | 13 | 14 | 15 => rfl
  | n + 16 => by simp [setF]
theorem nmD_zero (a b : Sty) : (((nmD a b).length : Int) == 0) = styEq a b := by
  rw [Bool.eq_iff_iff, styEq_iff, nmD_len]
  constructor
  · intro h
    have h0 : (dfs a b 16).length = 0 := by simp at h; simp [h]
    refine difB_eq fun i hi => ?_
    cases hd : difB a b i with
    | false => rfl
    | true =>
      have := dfs_lt hi hd
      omega
  · rintro rfl
    have : dfs a a 16 = [] := by
      unfold dfs
      rw [List.filter_eq_nil_iff]
      intro i hi
      unfold difB
      rw [setF_self, styEq_iff.2 rfl]; simp
    rw [this]; rfl
abbrev ΓDl : Gam := [(9, shown.s), (22, differs.s), (21, texts.s)]
theorem ΓDl.ok : GOK Tryz.prog ΓDl := .cons shown.ok (.cons differs.ok (.cons texts.ok (GOK.nil _)))
abbrev diffL (a b : Sty) : Bool := bif (((nmD a b).length : Int) == 0) == styEq a b then (bif eqT (nmD a b).length (gOf strQ (nmD a b)) (nmD b a).length (gOf strQ (nmD b a)) then decide (((nmD a b).length : Int) ≤ 16) else false) else false
theorem diffL_true (a b : Sty) : diffL a b = true := by
  have h1 := nmD_zero a b
  have h2 : nmD b a = nmD a b := by unfold nmD; rw [dfs_sym]
  have h3 := dfs_len a b
  have h4 := nmD_len a b
  unfold diffL
  rw [h1, h2, eqT_self, decide_eq_true (show ((nmD a b).length : Int) ≤ 16 by omega)]
  simp
abbrev differsL.s := sty2 fun _ _ => .leaf (V.b true)
theorem differsL.ok : SpecOK Tryz.prog 6 differsL.s := ok2 ΓDl.ok Tryz.func6 (by kernel_rfl) (by kernel_rfl) fun a b r hr =>
  ⟨[], LamOK.nil _ _, (congrArg T.pick (show funV Tryz.prog ΓDl [] Tryz.f6 (cod Tryz.f6) [styV a, styV b] = .leaf (V.b (diffL a b)) by kernel_rfl)).trans (by rw [diffL_true]; exact hr)⟩
end Go.Proofs.YtgmeglodnhagdaaGreatDoor
