/- Style: a reader's part. -/
import Derived.Test.YtgmeglodnhagdaaGreatDoorStJ
namespace Go.Proofs.YtgmeglodnhagdaaGreatDoor
open Go Go.SX Go.Proofs Go.RowKit
set_option maxRecDepth 100000
variable [EA]
set_option linter.unusedVariables false
set_option linter.unusedSectionVars false
set_option linter.unusedSimpArgs false

/-- The fields from the d-th on. -/
abbrev gsh (d : Nat) : Nat → Nat → Q := fun i j => gFd (i + d) j
abbrev lfQ (d : Nat) : Q := .lst ksF (16 - d) (gsh d)
/-- IndexFunc, where what it comes to is known. -/
def indexK (k : Nat) : List V → T V
  | [.q (.lst [.str, .bool, .any, .any] n g), .clo f [.q (.sp 1 get)]] => (match get 0 with
    | .c (.string nm) => if f = 68 then .ite (decide (fstN n (qIf nm g) = some k)) (.leaf (V.i (k : Nat))) .bad else .bad
    | _ => .bad)
  | _ => .bad
theorem indexK.ok (k : Nat) : SpecOK Tryz.prog 67 (indexK k) := indexF.ok.imp fun args r hv h => by
  unfold indexK at h
  unfold indexF.s
  split at h
  · rename_i n g f get
    split at h
    · rename_i nm hnm
      simp only [hnm]
      split at h
      · rename_i hf
        rw [if_pos hf]
        rw [pick_ite] at h
        by_cases hk : fstN n (qIf nm g) = some k
        · rw [decide_eq_true hk] at h
          cases h
          rw [hk]; rfl
        · rw [decide_eq_false hk] at h; cases h
      · cases h
    · cases h
  · cases h
def indexN : List V → T V
  | [.q (.lst [.str, .bool, .any, .any] n g), .clo f [.q (.sp 1 get)]] => (match get 0 with
    | .c (.string nm) => if f = 68 then .ite (decide (fstN n (qIf nm g) = none)) (.leaf (V.i (-1))) .bad else .bad
    | _ => .bad)
  | _ => .bad
theorem indexN.ok : SpecOK Tryz.prog 67 indexN := indexF.ok.imp fun args r hv h => by
  unfold indexN at h
  unfold indexF.s
  split at h
  · rename_i n g f get
    split at h
    · rename_i nm hnm
      simp only [hnm]
      split at h
      · rename_i hf
        rw [if_pos hf]
        rw [pick_ite] at h
        by_cases hk : fstN n (qIf nm g) = none
        · rw [decide_eq_true hk] at h
          cases h
          rw [hk]; rfl
        · rw [decide_eq_false hk] at h; cases h
      · cases h
    · cases h
  · cases h
noncomputable abbrev ΓRp (k : Nat) : Gam := [(66, cut.s), (67, indexK k), (15, right.s), (0 + 1048576, .g (errP 0)), (95, .x true count2.s), (99, .x true length2.s), (102, .x true flag2.s), (104, .x true word2.s)]
theorem ΓRp.ok (k : Nat) : GOK Tryz.prog (ΓRp k) := .cons cut.ok (.cons (indexK.ok k) (.cons right.ok (.consG gl_style (.consX count2.ok (.consX length2.ok (.consX flag2.ok (.consX word2.ok (GOK.nil _))))))))
noncomputable abbrev ΓRn : Gam := [(66, cut.s), (67, indexN)]
theorem ΓRn.ok : GOK Tryz.prog ΓRn := .cons cut.ok (.cons indexN.ok (GOK.nil _))
noncomputable abbrev trRp (d k : Nat) (t : TypeId) (s : Sty) (n : Int) (x : ByteArray) : T XOut := funX Tryz.prog (ΓRp k) [] Tryz.f30 (cod Tryz.f30) false (some (.cells t (celL s (some (lfQ d))))) [.ptr 0 0, V.i n, V.s x]
/-! ### a part -/
abbrev nmX (x : ByteArray) : ByteArray := bT (cutS x (bT [32])).1
abbrev vlX (x : ByteArray) : ByteArray := bT (cutS x (bT [32])).2.1
abbrev hsX (x : ByteArray) : Bool := (cutS x (bT [32])).2.2
/-- A field's value, read: the style then; is it one? -/
def rdR (s : Sty) (v : ByteArray) : Nat → Sty × Bool
  | 0 => (putN s (atoiN v) 0, numOk v)
  | 1 => (putN s ((parO v).getD 0) 1, (bif (parO v).isSome then (0 : Int) else 12) == 0)
  | 2 => (putN s ((parO v).getD 0) 2, (bif (parO v).isSome then (0 : Int) else 12) == 0)
  | 3 => (putN s ((parO v).getD 0) 3, (bif (parO v).isSome then (0 : Int) else 12) == 0)
  | 4 => (putB s 4, true)
  | 5 => (putN s ((parO v).getD 0) 5, (bif (parO v).isSome then (0 : Int) else 12) == 0)
  | 6 => (putN s (atoiN v) 6, numOk v)
  | 7 => (putN s (atoiN v) 7, numOk v)
  | 8 => (putB s 8, true)
  | 9 => (putN s (wdN v avoidG) 9, decide (wdN v avoidG > 0))
  | 10 => (putN s (wdN v avoidG) 10, decide (wdN v avoidG > 0))
  | 11 => (putB s 11, true)
  | 12 => (putN s (wdN v leftG) 12, decide (wdN v leftG > 0))
  | 13 => (putB s 13, true)
  | 14 => (putN s ((parO v).getD 0) 14, (bif (parO v).isSome then (0 : Int) else 12) == 0)
  | 15 => (putN s ((parO v).getD 0) 15, (bif (parO v).isSome then (0 : Int) else 12) == 0)
  | _ => (s, false)
abbrev errN (n : Int) : V := .q (.c (.iface AsStyle.E (.agg #[.int .i64 n, .nilIface])))
abbrev errW (n : Int) : V := .q (.c (.iface AsStyle.E (.agg #[.int .i64 n, errP 0])))
abbrev xP (t : TypeId) (s : Sty) (l : Q) (r : V) : XOut := ⟨some (.cells t (celL s (some l))), none, r⟩
theorem T.pathC_cut {α : Type} : ∀ (l1 : List Bool) (b b2 : Bool) (l2 : List Bool) (t : T α) (c1 : List Bool) (x : Bool) (c2 : List Bool), c1.length = l1.length → t.pathC (l1 ++ b :: l2) = c1 ++ x :: c2 → t.pathC (l1 ++ [b2]) = c1 ++ [x]
  | [], b, b2, l2, t, c1, x, c2, hl, h => by
    obtain rfl : c1 = [] := List.eq_nil_of_length_eq_zero hl
    cases t with
    | ite c t e =>
      simp only [List.nil_append, T.pathC, List.cons.injEq] at h ⊢
      obtain ⟨rfl, h⟩ := h
      cases b2 <;> simp [T.pathC]
    | leaf y => simp [T.pathC] at h
    | bad => simp [T.pathC] at h
  | a :: l1, b, b2, l2, t, c1, x, c2, hl, h => by
    cases c1 with
    | nil => cases hl
    | cons y c1 =>
      cases t with
      | ite c t e =>
        simp only [List.cons_append, T.pathC, List.cons.injEq] at h ⊢
        obtain ⟨rfl, h⟩ := h
        refine ⟨rfl, ?_⟩
        cases a with
        | true => exact T.pathC_cut l1 b b2 l2 t c1 x c2 (by simpa using hl) h
        | false => exact T.pathC_cut l1 b b2 l2 e c1 x c2 (by simpa using hl) h
      | leaf y => simp [T.pathC] at h
      | bad => simp [T.pathC] at h
theorem T.pick_side {α : Type} {t : T α} (l1 : List Bool) {b : Bool} {l2 c1 : List Bool} {x : Bool} {c2 : List Bool} {y : α} (h : t.pathC (l1 ++ b :: l2) = c1 ++ x :: c2) (h1 : c1 = l1) (hl : t.pathL (l1 ++ [x]) = .leaf y) : t.pick = some y := by
  have e := T.pathC_cut l1 b x l2 t c1 x c2 (by rw [h1]) h
  rw [h1] at e
  exact (T.pick_path _ t e).trans (by rw [hl]; rfl)
theorem line6 {α : Type} {t : T α} {c0 c1 c4 c6 c7 c8 c9 : Bool} {x4 x7 x8 x9 x10 : α} (e : t.pathC [true, true, false, true, false, true, true, false, false, false, true] = [c0, c1, false, true, c4, true, c6, c7, c8, c9, true])
    (l : [t.pathL [true, true, false, true, true], t.pathL [true, true, false, true, false, true, true, true], t.pathL [true, true, false, true, false, true, true, false, true], t.pathL [true, true, false, true, false, true, true, false, false, true], t.pathL [true, true, false, true, false, true, true, false, false, false, true]] = [.leaf x4, .leaf x7, .leaf x8, .leaf x9, .leaf x10])
    (h0 : c0 = true) (h1 : c1 = true) (h6 : c6 = true) : t.pick = some (bif c4 then x4 else bif c7 then x7 else bif c8 then x8 else bif c9 then x9 else x10) := by
  subst h0 h1 h6
  simp only [List.cons.injEq, and_true] at l
  obtain ⟨l4, l7, l8, l9, l10⟩ := l
  cases c4 with
  | true => exact T.pick_side [true, true, false, true] (b := false) (c1 := [true, true, false, true]) e rfl l4
  | false => cases c7 with
    | true => exact T.pick_side [true, true, false, true, false, true, true] (b := false) (c1 := [true, true, false, true, false, true, true]) e rfl l7
    | false => cases c8 with
      | true => exact T.pick_side [true, true, false, true, false, true, true, false] (b := false) (c1 := [true, true, false, true, false, true, true, false]) e rfl l8
      | false => cases c9 with
        | true => exact T.pick_side [true, true, false, true, false, true, true, false, false] (b := false) (c1 := [true, true, false, true, false, true, true, false, false]) e rfl l9
        | false => exact T.pick_side [true, true, false, true, false, true, true, false, false, false] (b := true) (l2 := []) (c1 := [true, true, false, true, false, true, true, false, false, false]) (c2 := []) e rfl l10
theorem line5 {α : Type} {t : T α} {c0 c1 c4 c7 c8 c9 : Bool} {x4 x7 x8 x9 x10 : α} (e : t.pathC [true, true, false, true, false, true, false, false, false, true] = [c0, c1, false, true, c4, true, c7, c8, c9, true])
    (l : [t.pathL [true, true, false, true, true], t.pathL [true, true, false, true, false, true, true], t.pathL [true, true, false, true, false, true, false, true], t.pathL [true, true, false, true, false, true, false, false, true], t.pathL [true, true, false, true, false, true, false, false, false, true]] = [.leaf x4, .leaf x7, .leaf x8, .leaf x9, .leaf x10])
    (h0 : c0 = true) (h1 : c1 = true) : t.pick = some (bif c4 then x4 else bif c7 then x7 else bif c8 then x8 else bif c9 then x9 else x10) := by
  subst h0 h1
  simp only [List.cons.injEq, and_true] at l
  obtain ⟨l4, l7, l8, l9, l10⟩ := l
  cases c4 with
  | true => exact T.pick_side [true, true, false, true] (b := false) (c1 := [true, true, false, true]) e rfl l4
  | false => cases c7 with
    | true => exact T.pick_side [true, true, false, true, false, true] (b := false) (c1 := [true, true, false, true, false, true]) e rfl l7
    | false => cases c8 with
      | true => exact T.pick_side [true, true, false, true, false, true, false] (b := false) (c1 := [true, true, false, true, false, true, false]) e rfl l8
      | false => cases c9 with
        | true => exact T.pick_side [true, true, false, true, false, true, false, false] (b := false) (c1 := [true, true, false, true, false, true, false, false]) e rfl l9
        | false => exact T.pick_side [true, true, false, true, false, true, false, false, false] (b := true) (l2 := []) (c1 := [true, true, false, true, false, true, false, false, false]) (c2 := []) e rfl l10
abbrev lfR (d k : Nat) : Q := .lst ksF (16 - d - (k + 1)) (fun i => gsh d ((k + 1) + i))
theorem lfR_eq {d k : Nat} (h : d + k < 16) : lfR d k = lfQ (d + k + 1) := by
  have e : (fun i => gsh d ((k + 1) + i)) = gsh (d + k + 1) := by
    funext i j
    show gFd (k + 1 + i + d) j = gFd (i + (d + k + 1)) j
    rw [show k + 1 + i + d = i + (d + k + 1) by omega]
  show Q.lst ksF (16 - d - (k + 1)) (fun i => gsh d ((k + 1) + i)) = Q.lst ksF (16 - (d + k + 1)) (gsh (d + k + 1))
  rw [e, show 16 - d - (k + 1) = 16 - (d + k + 1) by omega]
/-- What a part comes to, the field found. -/
def partO (d k f : Nat) (t : TypeId) (s : Sty) (n : Int) (x : ByteArray) : XOut :=
  bif !(qBool (gsh d k 1) == hsX x) then xP t s (lfQ d) (errN n) else bif !(rdR s (vlX x) f).2 then xP t (rdR s (vlX x) f).1 (lfQ d) (errW n) else bif !(rightS (rdR s (vlX x) f).1) then xP t (rdR s (vlX x) f).1 (lfQ d) (errW n) else bif styEq (rdR s (vlX x) f).1 s then xP t (rdR s (vlX x) f).1 (lfQ d) (errW n) else xP t (rdR s (vlX x) f).1 (lfR d k) nilE
abbrev cX0 (x : ByteArray) : Bool := decide (x.size < 4294967281)
abbrev cX1 (d k : Nat) (x : ByteArray) : Bool := decide (fstN (16 - d) (qIf (nmX x) (gsh d)) = some k)
abbrev cX6 (x : ByteArray) : Bool := decide ((vlX x).size ≤ 1000000)
abbrev cX4 (d k : Nat) (x : ByteArray) : Bool := !(qBool (gsh d k 1) == hsX x)
abbrev lX (d k f : Nat) (t : TypeId) (s : Sty) (n : Int) (x : ByteArray) : List (T XOut) := [.leaf (xP t s (lfQ d) (errN n)), .leaf (xP t (rdR s (vlX x) f).1 (lfQ d) (errW n)), .leaf (xP t (rdR s (vlX x) f).1 (lfQ d) (errW n)), .leaf (xP t (rdR s (vlX x) f).1 (lfQ d) (errW n)), .leaf (xP t (rdR s (vlX x) f).1 (lfR d k) nilE)]
theorem vlX_size (x : ByteArray) : (vlX x).size ≤ x.size := by
  rw [← bL_len, bL_bT]
  exact (cut_le (bL x) (bL (bT [32]))).2
theorem cX0_of {x : ByteArray} (h : x.size ≤ 1000000) : cX0 x = true := decide_eq_true (by omega)
theorem cX6_of {x : ByteArray} (h : x.size ≤ 1000000) : cX6 x = true := decide_eq_true (by have := vlX_size x; omega)
end Go.Proofs.YtgmeglodnhagdaaGreatDoor
