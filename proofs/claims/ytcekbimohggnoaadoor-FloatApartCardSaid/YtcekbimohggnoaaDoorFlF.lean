/- The document's answer for floats, one by one: what is asked at one place. -/
import Derived.Test.YtcekbimohggnoaaDoorFlE
namespace Go.Proofs.YtcekbimohggnoaaDoor
open Go Go.SX Go.Proofs
set_option maxRecDepth 100000
variable [EA]
set_option linter.unusedVariables false
set_option linter.unusedSectionVars false
set_option linter.unusedSimpArgs false

def sizeB (a : Int) : Bool := bif decide (a ≥ 0) then decide (a ≤ 1048576) else false
def rsize.s : List V → T V
  | [.q (.c (.int .i64 a))] => .leaf (V.b (sizeB a))
  | _ => .bad
theorem rsize.ok : SpecOK Tryd.prog 27 rsize.s := by
  refine specOK_of_body (GOK.nil _) (LamOK.nil _ _) Tryd.func27 (isBody _ (by kernel_rfl)) (by kernel_rfl) fun args r h => ?_
  unfold rsize.s at h
  split at h
  · rename_i a
    have e : funV Tryd.prog [] [] Tryd.f27 (cod Tryd.f27) [V.i a] = .leaf (V.b (sizeB a)) := by kernel_rfl
    rw [e]; exact h
  · cases h

/-! ### Right -/
def okS (x : Fl) : Bool := bif sizeB x.w then sizeB x.h else false
def allS (m : Nat) (f : Nat → Nat → Q) : Bool := (List.range m).all fun i => okS (gFl f i)
theorem allS_false {n : Nat} {g : Nat → Nat → Q} {i : Nat} (hi : i < n) (h : okS (gFl g i) = false) : allS n g = false := by
  rw [allS, List.all_eq_false]
  exact ⟨i, List.mem_range.2 hi, by rw [h]; simp⟩
theorem allS_true {n : Nat} {g : Nat → Nat → Q} (h : ∀ i, i < n → okS (gFl g i) = true) : allS n g = true := by
  rw [allS, List.all_eq_true]
  exact fun i hi => h i (List.mem_range.1 hi)
def SRr (m : Nat) (f : Nat → Nat → Q) (w : Int) (i : Int) : St := mkS 35 [(0, lstF m f), (1, V.i w), (5, V.i i)] [] [] false [] 0
def RRr (m : Nat) (f : Nat → Nat → Q) (w : Int) : Out := .ite (allS m f) (.leaf (.exit 0, mkS 35 [(0, lstF m f), (1, V.i w)] [] [] false [] 0)) (.leaf (.ret, mkS 35 [(4, V.b false)] [] [] false [] 0))
def liveRr : Ex → List Nat | .normal => [0, 1, 5] | .ret => [4] | _ => [0, 1]
noncomputable abbrev bodyRr : Code := loopAt Tryd.f22 [0, 1, 0, 1]
abbrev ΓS : Gam := [(27, rsize.s)]
theorem ΓS.ok : GOK Tryd.prog ΓS := .cons rsize.ok (GOK.nil _)
abbrev retRr : T (Ex × St × Bool) := .leaf (.ret, mkS 35 [(4, V.b false)] [] [] false [] 0, true)
theorem stepRr (m : Nat) (f : Nat → Nat → Q) (w : Int) (i : Nat) :
    (sx Tryd.prog ΓS [] [0, 0, 1, 0, 1] bodyRr (SRr m f w i)).bind (fun x => T.leaf (x.1, deadS [] (canS 35 0 (liveRr x.1) x.2), chkM 35 0 x.2))
     = .ite (decide ((i : Int) < m)) (.ite (decide (0 ≤ (i : Int) ∧ (i : Int) < m)) (.ite (!(sizeB (gFl f i).w)) retRr (.ite (decide (0 ≤ (i : Int) ∧ (i : Int) < m)) (.ite (!(sizeB (gFl f i).h)) retRr (.leaf (.normal, SRr m f w (w64 (i + 1)), true))) .bad)) .bad)
        (.leaf (.exit 0, mkS 35 [(0, lstF m f), (1, V.i w)] [] [] false [] 0, true)) := by kernel_rfl
theorem loopRr (m : Nat) (f : Nat → Nat → Q) (w : Int) (hn : m ≤ 9223372036854775807) : ∀ x, (RRr m f w).pick = some x → SemC Tryd.prog (.loop bodyRr) (SRr m f w 0) x := by
  refine loop_tree ΓS.ok (root := cod Tryd.f22) (p := [0, 1, 0, 1]) (by kernel_rfl) (fun i => i ≤ m ∧ ∀ j, j < i → okS (gFl f j) = true) (fun i => SRr m f w i) (fun i => m - i) (RRr m f w) 35 0 liveRr (fun _ => []) (fun i hi => ?_) 0 ⟨Nat.zero_le _, fun j hj => absurd hj (Nat.not_lt_zero _)⟩
  obtain ⟨hi, hall⟩ := hi
  have e := stepRr m f w i
  rcases Nat.lt_or_ge i m with hlt | hge
  · rw [c_lt hlt, c_in hlt] at e
    cases h1 : sizeB (gFl f i).w with
    | false => exact ⟨[], .ret, _, LamOK.nil _ _, by rw [e, h1]; rfl, .inr ⟨by simp, by rw [RRr, allS_false hlt (by unfold okS; rw [h1]; rfl)]; rfl⟩⟩
    | true =>
      cases h2 : sizeB (gFl f i).h with
      | false => exact ⟨[], .ret, _, LamOK.nil _ _, by rw [e, h1, h2]; rfl, .inr ⟨by simp, by rw [RRr, allS_false hlt (by unfold okS; rw [h1, h2]; rfl)]; rfl⟩⟩
      | true =>
        refine ⟨[], .normal, _, LamOK.nil _ _, by rw [e, h1, h2]; rfl, .inl ⟨rfl, i + 1, ⟨hlt, fun j hj => ?_⟩, by omega, by rw [w64_suc hlt hn]⟩⟩
        rcases Nat.lt_or_ge j i with h | h
        · exact hall j h
        · rw [show j = i by omega]; unfold okS; rw [h1, h2]; rfl
  · refine ⟨[], .exit 0, _, LamOK.nil _ _, by rw [e, c_ge hge]; rfl, .inr ⟨by simp, by rw [RRr, allS_true fun j hj => hall j (by omega)]; rfl⟩⟩
def rightS (m : Nat) (f : Nat → Nat → Q) (w : Int) : Bool := bif allS m f then (bif sizeB w then decide ((m : Int) ≤ 20) else false) else false
abbrev rRight.s := spFW fun m f w => .leaf (V.b (rightS m f w))
theorem rRight.ok : SpecOK Tryd.prog 22 rRight.s := by
  refine okFW ΓS.ok Tryd.func22 (by kernel_rfl) (by kernel_rfl) fun m f w v hb hv => ?_
  refine ⟨[([0, 1, 0, 1], orc false 35 0 [0, 1, 5] (SRr m f w 0) (RRr m f w))], LamOK.orc (c := .loop bodyRr) (by kernel_rfl) (loopRr m f w hb) (LamOK.nil _ _), ?_⟩
  have e : funV Tryd.prog ΓS [([0, 1, 0, 1], orc false 35 0 [0, 1, 5] (SRr m f w 0) (RRr m f w))] Tryd.f22 (cod Tryd.f22) [lstF m f, V.i w] =
      .ite (@decide (SRr m f w 0 = SRr m f w 0) (Classical.propDecidable _)) (.ite (allS m f) (.leaf (V.b (bif sizeB w then decide ((m : Int) ≤ 20) else false))) (.leaf (V.b false))) .bad := by kernel_rfl
  rw [e, pick_same, ← hv]
  unfold rightS
  cases allS m f <;> rfl

/-! ### insets -/
def skipB (r : Rc) (y h : Int) : Bool := bif r.w == 0 then true else (bif r.h == 0 then true else (bif decide (r.y ≥ w64 (y + mx2 h 1)) then true else decide (y ≥ w64 (r.y + r.h))))
def rI (g f : Nat → Nat → Q) (w y h : Int) (b : Bool) : Nat → Int
  | 0 => 0
  | i + 1 => bif skipB (gRc g i) y h then rI g f w y h b i else (bif (gFl f i).r == b then mx2 (rI g f w y h b i) (insN w (gRc g i) b) else rI g f w y h b i)
def SIr (n : Nat) (g : Nat → Nat → Q) (m : Nat) (f : Nat → Nat → Q) (w y h l r : Int) (i : Int) : St := mkS 72 [(0, lstF m f), (1, lst4 n g), (2, V.i w), (3, V.i y), (4, V.i h), (12, V.i l), (13, V.i r), (14, V.i i)] [] [] false [] 0
def FIr (l r : Int) : Ex × St := (.exit 0, mkS 72 [(12, V.i l), (13, V.i r)] [] [] false [] 0)
def liveIr : Ex → List Nat | .normal => [0, 1, 2, 3, 4, 12, 13, 14] | _ => [12, 13]
noncomputable abbrev bodyIr : Code := loopAt Tryd.f28 [0, 1, 0, 1, 1, 1]
theorem stepIr (n : Nat) (g : Nat → Nat → Q) (m : Nat) (f : Nat → Nat → Q) (w y h l r : Int) (i : Nat) :
    (sx Tryd.prog [] [] [0, 0, 1, 0, 1, 1, 1] bodyIr (SIr n g m f w y h l r i)).bind (fun x => T.leaf (x.1, deadS [] (canS 72 0 (liveIr x.1) x.2), chkM 72 0 x.2))
     = .ite (decide ((i : Int) < n)) (.ite (decide (0 ≤ (i : Int) ∧ (i : Int) < n)) (.ite (skipB (gRc g i) y h) (.leaf (.normal, SIr n g m f w y h l r (w64 (i + 1)), true))
          (.ite (decide (0 ≤ (i : Int) ∧ (i : Int) < m)) (.ite (gFl f i).r (.leaf (.normal, SIr n g m f w y h l (mx2 r (w64 (w - (gRc g i).x))) (w64 (i + 1)), true)) (.leaf (.normal, SIr n g m f w y h (mx2 l (w64 ((gRc g i).x + (gRc g i).w))) r (w64 (i + 1)), true))) .bad)) .bad)
        (.leaf ((FIr l r).1, (FIr l r).2, true)) := by kernel_rfl
theorem loopIr (n : Nat) (g : Nat → Nat → Q) (m : Nat) (f : Nat → Nat → Q) (w y h : Int) (hn : n ≤ 9223372036854775807) (hnm : n ≤ m) : ∀ x, (T.leaf (FIr (rI g f w y h false n) (rI g f w y h true n))).pick = some x → SemC Tryd.prog (.loop bodyIr) (SIr n g m f w y h 0 0 0) x := by
  refine loop_tree (GOK.nil _) (root := cod Tryd.f28) (p := [0, 1, 0, 1, 1, 1]) (by kernel_rfl) (fun i => i ≤ n) (fun i => SIr n g m f w y h (rI g f w y h false i) (rI g f w y h true i) i) (fun i => n - i) (.leaf (FIr (rI g f w y h false n) (rI g f w y h true n))) 72 0 liveIr (fun _ => []) (fun i hi => ?_) 0 (Nat.zero_le _)
  have e := stepIr n g m f w y h (rI g f w y h false i) (rI g f w y h true i) i
  rcases Nat.lt_or_ge i n with hlt | hge
  · refine ⟨[], .normal, SIr n g m f w y h (rI g f w y h false (i + 1)) (rI g f w y h true (i + 1)) (i + 1 : Nat), LamOK.nil _ _, ?_, .inl ⟨rfl, i + 1, hlt, by omega, rfl⟩⟩
    rw [e, c_lt hlt, c_in hlt, c_in (show i < m by omega), w64_suc hlt hn]
    simp only [rI]
    cases skipB (gRc g i) y h with
    | true => rfl
    | false => cases hr : qBool (f i 2) <;> rfl
  · exact ⟨[], .exit 0, _, LamOK.nil _ _, by rw [e, c_ge hge]; rfl, .inr ⟨by simp, by rw [show n = i by omega]; rfl⟩⟩
def rinsets.s : List V → T V
  | [.q (.lst [.int .i64, .int .i64, .bool, .bool] m f), .q (.lst [.int .i64, .int .i64, .int .i64, .int .i64] n g), .q (.c (.int .i64 w)), .q (.c (.int .i64 y)), .q (.c (.int .i64 h))] =>
      .ite (decide (n ≤ m)) (.leaf (.tup [V.i (rI g f w y h false n), V.i (rI g f w y h true n)])) .bad
  | _ => .bad
theorem rinsets.ok : SpecOK Tryd.prog 28 rinsets.s := by
  refine specOK_of_bodyW (GOK.nil _) Tryd.func28 (isBody _ (by kernel_rfl)) (by kernel_rfl) fun args r hb he => ?_
  unfold rinsets.s at he
  split at he
  · rename_i m f n g w y h
    simp only [T.pick] at he
    cases hnm : decide (n ≤ m) with
    | false => rw [hnm] at he; cases he
    | true =>
      rw [hnm] at he
      have hn : n ≤ 9223372036854775807 := (hb (lst4 n g) (by simp)).1
      refine ⟨_, [([0, 1, 0, 1, 1, 1], orc false 72 0 [0, 1, 2, 3, 4, 12, 13, 14] (SIr n g m f w y h 0 0 0) (.leaf (FIr (rI g f w y h false n) (rI g f w y h true n))))], fun _ _ _ x => x, LamOK.orc (c := .loop bodyIr) (by kernel_rfl) (loopIr n g m f w y h hn (by simpa using hnm)) (LamOK.nil _ _), ?_⟩
      have e : funV Tryd.prog [] [([0, 1, 0, 1, 1, 1], orc false 72 0 [0, 1, 2, 3, 4, 12, 13, 14] (SIr n g m f w y h 0 0 0) (.leaf (FIr (rI g f w y h false n) (rI g f w y h true n))))] Tryd.f28 (cod Tryd.f28) [lstF m f, lst4 n g, V.i w, V.i y, V.i h] =
          .ite (@decide (SIr n g m f w y h 0 0 0 = SIr n g m f w y h 0 0 0) (Classical.propDecidable _)) (.leaf (.tup [V.i (rI g f w y h false n), V.i (rI g f w y h true n)])) .bad := by kernel_rfl
      rw [e, pick_same]; exact he
  · cases he

/-! ### ends -/
def takeB (e y b : Int) (ok : Bool) : Bool := bif decide (e > y) then (bif !ok then true else decide (e < b)) else false
def rEb (g : Nat → Nat → Q) (y : Int) : Nat → Int × Bool
  | 0 => (0, false)
  | i + 1 => bif takeB (lowE (gRc g i)) y (rEb g y i).1 (rEb g y i).2 then (lowE (gRc g i), true) else rEb g y i
def SEr (n : Nat) (g : Nat → Nat → Q) (y b : Int) (ok : Bool) (i : Int) : St := mkS 42 [(0, lst4 n g), (1, V.i y), (6, V.i b), (7, V.b ok), (8, V.i i)] [] [] false [] 0
def FEr (b : Int) (ok : Bool) : Ex × St := (.exit 0, mkS 42 [(6, V.i b), (7, V.b ok)] [] [] false [] 0)
def liveEr : Ex → List Nat | .normal => [0, 1, 6, 7, 8] | _ => [6, 7]
noncomputable abbrev bodyEr : Code := loopAt Tryd.f31 [0, 1, 0, 1, 1, 1]
theorem stepEr (n : Nat) (g : Nat → Nat → Q) (y b : Int) (ok : Bool) (i : Nat) :
    (sx Tryd.prog [] [] [0, 0, 1, 0, 1, 1, 1] bodyEr (SEr n g y b ok i)).bind (fun x => T.leaf (x.1, deadS [] (canS 42 0 (liveEr x.1) x.2), chkM 42 0 x.2))
     = .ite (decide ((i : Int) < n)) (.ite (decide (0 ≤ (i : Int) ∧ (i : Int) < n)) (.ite (decide (0 ≤ (i : Int) ∧ (i : Int) < n)) (.ite (takeB (lowE (gRc g i)) y b ok) (.leaf (.normal, SEr n g y (lowE (gRc g i)) true (w64 (i + 1)), true)) (.leaf (.normal, SEr n g y b ok (w64 (i + 1)), true))) .bad) .bad)
        (.leaf ((FEr b ok).1, (FEr b ok).2, true)) := by kernel_rfl
theorem loopEr (n : Nat) (g : Nat → Nat → Q) (y : Int) (hn : n ≤ 9223372036854775807) : ∀ x, (T.leaf (FEr (rEb g y n).1 (rEb g y n).2)).pick = some x → SemC Tryd.prog (.loop bodyEr) (SEr n g y 0 false 0) x := by
  refine loop_tree (GOK.nil _) (root := cod Tryd.f31) (p := [0, 1, 0, 1, 1, 1]) (by kernel_rfl) (fun i => i ≤ n) (fun i => SEr n g y (rEb g y i).1 (rEb g y i).2 i) (fun i => n - i) (.leaf (FEr (rEb g y n).1 (rEb g y n).2)) 42 0 liveEr (fun _ => []) (fun i hi => ?_) 0 (Nat.zero_le _)
  have e := stepEr n g y (rEb g y i).1 (rEb g y i).2 i
  rcases Nat.lt_or_ge i n with hlt | hge
  · refine ⟨[], .normal, SEr n g y (rEb g y (i + 1)).1 (rEb g y (i + 1)).2 (i + 1 : Nat), LamOK.nil _ _, ?_, .inl ⟨rfl, i + 1, hlt, by omega, rfl⟩⟩
    rw [e, c_lt hlt, c_in hlt, w64_suc hlt hn]
    simp only [rEb]
    cases takeB (lowE (gRc g i)) y (rEb g y i).1 (rEb g y i).2 <;> rfl
  · exact ⟨[], .exit 0, _, LamOK.nil _ _, by rw [e, c_ge hge]; rfl, .inr ⟨by simp, by rw [show n = i by omega]; rfl⟩⟩
def rends.s : List V → T V
  | [.q (.lst [.int .i64, .int .i64, .int .i64, .int .i64] n g), .q (.c (.int .i64 y))] => .leaf (.tup [V.i (rEb g y n).1, V.b (rEb g y n).2])
  | _ => .bad
theorem rends.ok : SpecOK Tryd.prog 31 rends.s := by
  refine specOK_of_bodyW (GOK.nil _) Tryd.func31 (isBody _ (by kernel_rfl)) (by kernel_rfl) fun args r hb he => ?_
  unfold rends.s at he
  split at he
  · rename_i n g y
    have hn : n ≤ 9223372036854775807 := (hb (lst4 n g) (by simp)).1
    refine ⟨_, [([0, 1, 0, 1, 1, 1], orc false 42 0 [0, 1, 6, 7, 8] (SEr n g y 0 false 0) (.leaf (FEr (rEb g y n).1 (rEb g y n).2)))], fun _ _ _ x => x, LamOK.orc (c := .loop bodyEr) (by kernel_rfl) (loopEr n g y hn) (LamOK.nil _ _), ?_⟩
    have e : ∀ (b : Int) (ok : Bool), funV Tryd.prog [] [([0, 1, 0, 1, 1, 1], orc false 42 0 [0, 1, 6, 7, 8] (SEr n g y 0 false 0) (.leaf (FEr b ok)))] Tryd.f31 (cod Tryd.f31) [lst4 n g, V.i y] =
        .ite (@decide (SEr n g y 0 false 0 = SEr n g y 0 false 0) (Classical.propDecidable _)) (.leaf (.tup [V.i b, V.b ok])) .bad := fun b ok => by kernel_rfl
    rw [e, pick_same]; exact he
  · cases he
end Go.Proofs.YtcekbimohggnoaaDoor
