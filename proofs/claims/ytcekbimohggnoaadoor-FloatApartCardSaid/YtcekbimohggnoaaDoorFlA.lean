/- The functions of float, one by one: how low, which are floats, where the next one ends. -/
import Derived.Test.YtcekbimohggnoaaDoorFlRa
import Derived.Test.YtcekbimohggnoaaDoorAsFloat
import Derived.Test.YtcekbimohggnoaaDoorSxV
namespace Go.Proofs.YtcekbimohggnoaaDoor
open Go Go.SX Go.Proofs
set_option maxRecDepth 100000
variable [EA]
set_option linter.unusedVariables false
set_option linter.unusedSectionVars false
set_option linter.unusedSimpArgs false

/-- A float. -/
structure Fl where
  w : Int
  h : Int
  r : Bool
  c : Bool
abbrev ksF : List K := [.int .i64, .int .i64, .bool, .bool]
abbrev gFl (f : Nat → Nat → Q) (i : Nat) : Fl := ⟨qInt (f i 0), qInt (f i 1), qBool (f i 2), qBool (f i 3)⟩
abbrev lstF (m : Nat) (f : Nat → Nat → Q) : V := .q (.lst ksF m f)
abbrev fv (x : Fl) : V := .agg [V.i x.w, V.i x.h, V.b x.r, V.b x.c]

/-! ### low -/
abbrev lowE (r : Rc) : Int := w64 (r.y + r.h)
def lowS (g : Nat → Nat → Q) : Nat → Int
  | 0 => 0
  | i + 1 => mx2 (lowS g i) (lowE (gRc g i))
def SLo (n : Nat) (g : Nat → Nat → Q) (a i : Int) : St := mkS 21 [(3, V.i a), (6, lst4 n g), (7, V.i n), (8, V.i i)] [] [] false [] 0
def FLo (a : Int) : Ex × St := (.exit 0, mkS 21 [(3, V.i a)] [] [] false [] 0)
def liveLo : Ex → List Nat | .normal => [3, 6, 7, 8] | _ => [3]
noncomputable abbrev bodyLo : Code := loopAt Tryd.f32 [0, 1, 0, 1, 1]
theorem stepLo (n : Nat) (g : Nat → Nat → Q) (a : Int) (i : Nat) :
    (sx Tryd.prog [] [] [0, 0, 1, 0, 1, 1] bodyLo (SLo n g a i)).bind (fun x => T.leaf (x.1, deadS [] (canS 21 0 (liveLo x.1) x.2), chkM 21 0 x.2))
     = .ite (decide ((i : Int) < n)) (.ite (decide (0 ≤ (i : Int) ∧ (i : Int) < n)) (.leaf (.normal, SLo n g (mx2 a (lowE (gRc g i))) (w64 (i + 1)), true)) .bad) (.leaf ((FLo a).1, (FLo a).2, true)) := by kernel_rfl
theorem loopLo (n : Nat) (g : Nat → Nat → Q) (hn : n ≤ 9223372036854775807) : ∀ x, (T.leaf (FLo (lowS g n))).pick = some x → SemC Tryd.prog (.loop bodyLo) (SLo n g 0 0) x := by
  refine loop_tree (GOK.nil _) (root := cod Tryd.f32) (p := [0, 1, 0, 1, 1]) (by kernel_rfl) (fun i => i ≤ n) (fun i => SLo n g (lowS g i) i) (fun i => n - i) (.leaf (FLo (lowS g n))) 21 0 liveLo (fun _ => []) (fun i hi => ?_) 0 (Nat.zero_le _)
  have e := stepLo n g (lowS g i) i
  rcases Nat.lt_or_ge i n with hlt | hge
  · exact ⟨[], .normal, SLo n g (lowS g (i + 1)) (i + 1 : Nat), LamOK.nil _ _, by rw [e, c_lt hlt, c_in hlt, w64_suc hlt hn]; rfl, .inl ⟨rfl, i + 1, hlt, by omega, rfl⟩⟩
  · exact ⟨[], .exit 0, _, LamOK.nil _ _, by rw [e, c_ge hge]; rfl, .inr ⟨by simp, by rw [show n = i by omega]; rfl⟩⟩
abbrev low.s := spL fun n g => .leaf (V.i (lowS g n))
theorem low.ok : SpecOK Tryd.prog 32 low.s := by
  refine okL (GOK.nil _) Tryd.func32 (by kernel_rfl) (by kernel_rfl) fun n g v hb hv => ?_
  refine ⟨[([0, 1, 0, 1, 1], orc false 21 0 [3, 6, 7, 8] (SLo n g 0 0) (.leaf (FLo (lowS g n))))], LamOK.orc (c := .loop bodyLo) (by kernel_rfl) (loopLo n g hb.1) (LamOK.nil _ _), ?_⟩
  have e : funV Tryd.prog [] [([0, 1, 0, 1, 1], orc false 21 0 [3, 6, 7, 8] (SLo n g 0 0) (.leaf (FLo (lowS g n))))] Tryd.f32 (cod Tryd.f32) [lst4 n g] =
      .ite (@decide (SLo n g 0 0 = SLo n g 0 0) (Classical.propDecidable _)) (.leaf (V.i (lowS g n))) .bad := by kernel_rfl
  rw [e, pick_same]; exact hv

/-! ### Right -/
abbrev box : Rc := ⟨0, 0, 1048576, 1048576⟩
def okF (x : Fl) : Bool := inB ⟨0, 0, x.w, x.h⟩ box
def allF (m : Nat) (f : Nat → Nat → Q) : Bool := (List.range m).all fun i => okF (gFl f i)
theorem allF_false {n : Nat} {g : Nat → Nat → Q} {i : Nat} (hi : i < n) (h : okF (gFl g i) = false) : allF n g = false := by
  rw [allF, List.all_eq_false]
  exact ⟨i, List.mem_range.2 hi, by rw [h]; simp⟩
theorem allF_true {n : Nat} {g : Nat → Nat → Q} (h : ∀ i, i < n → okF (gFl g i) = true) : allF n g = true := by
  rw [allF, List.all_eq_true]
  exact fun i hi => h i (List.mem_range.1 hi)
abbrev cbox : List (Option Ob) := [some (.cells 39 [V.i 0, V.i 0, V.i 1048576, V.i 1048576])]
def SR (m : Nat) (f : Nat → Nat → Q) (w : Int) (i : Int) : St := mkS 35 [(0, lstF m f), (1, V.i w), (5, .ptr 0 0), (9, lstF m f), (10, V.i m), (11, V.i i)] cbox [] false [] 0
def RR (m : Nat) (f : Nat → Nat → Q) (w : Int) : Out := .ite (allF m f) (.leaf (.exit 0, mkS 35 [(0, lstF m f), (1, V.i w)] cbox [] false [] 0)) (.leaf (.ret, mkS 35 [(4, V.b false)] cbox [] false [] 0))
def liveR : Ex → List Nat | .normal => [0, 1, 5, 9, 10, 11] | .ret => [4] | _ => [0, 1]
noncomputable abbrev bodyR : Code := loopAt Tryd.f21 [0, 1, 0, 1, 1]
abbrev ΓR : Gam := [(33, rect_Within.s)]
theorem ΓR.ok : GOK Tryd.prog ΓR := .cons rect_Within.ok (GOK.nil _)
theorem stepR (m : Nat) (f : Nat → Nat → Q) (w : Int) (i : Nat) :
    (sx Tryd.prog ΓR [] [0, 0, 1, 0, 1, 1] bodyR (SR m f w i)).bind (fun x => T.leaf (x.1, deadS [] (canS 35 1 (liveR x.1) x.2), chkM 35 1 x.2))
     = .ite (decide ((i : Int) < m)) (.ite (decide (0 ≤ (i : Int) ∧ (i : Int) < m)) (.ite (!(okF (gFl f i))) (.leaf (.ret, mkS 35 [(4, V.b false)] cbox [] false [] 0, true)) (.leaf (.normal, SR m f w (w64 (i + 1)), true))) .bad)
        (.leaf (.exit 0, mkS 35 [(0, lstF m f), (1, V.i w)] cbox [] false [] 0, true)) := by kernel_rfl
theorem loopR (m : Nat) (f : Nat → Nat → Q) (w : Int) (hn : m ≤ 9223372036854775807) : ∀ x, (RR m f w).pick = some x → SemC Tryd.prog (.loop bodyR) (SR m f w 0) x := by
  refine loop_tree ΓR.ok (root := cod Tryd.f21) (p := [0, 1, 0, 1, 1]) (by kernel_rfl) (fun i => i ≤ m ∧ ∀ j, j < i → okF (gFl f j) = true) (fun i => SR m f w i) (fun i => m - i) (RR m f w) 35 1 liveR (fun _ => []) (fun i hi => ?_) 0 ⟨Nat.zero_le _, fun j hj => absurd hj (Nat.not_lt_zero _)⟩
  obtain ⟨hi, hall⟩ := hi
  have e := stepR m f w i
  rcases Nat.lt_or_ge i m with hlt | hge
  · cases hr : okF (gFl f i) with
    | false => exact ⟨[], .ret, _, LamOK.nil _ _, by rw [e, c_lt hlt, c_in hlt, hr]; rfl, .inr ⟨by simp, by rw [RR, allF_false hlt hr]; rfl⟩⟩
    | true =>
      refine ⟨[], .normal, _, LamOK.nil _ _, by rw [e, c_lt hlt, c_in hlt, hr]; rfl, .inl ⟨rfl, i + 1, ⟨hlt, fun j hj => ?_⟩, by omega, by rw [w64_suc hlt hn]⟩⟩
      rcases Nat.lt_or_ge j i with h | h
      · exact hall j h
      · rw [show j = i by omega]; exact hr
  · refine ⟨[], .exit 0, _, LamOK.nil _ _, by rw [e, c_ge hge]; rfl, .inr ⟨by simp, by rw [RR, allF_true fun j hj => hall j (by omega)]; rfl⟩⟩
/-- A function of floats, and a width. -/
def spFW (F : Nat → (Nat → Nat → Q) → Int → T V) : List V → T V
  | [.q (.lst [.int .i64, .int .i64, .bool, .bool] m f), .q (.c (.int .i64 w))] => F m f w
  | _ => .bad
theorem okFW {P : Program} [GW] {Γ : Gam} {f : Nat} {fn : Func} {F : Nat → (Nat → Nat → Q) → Int → T V} (hΓ : GOK P Γ) (hf : P.funcs[f]? = some fn) (hb : fn.body.isSome = true) (hent : entersB P f = true)
    (h : ∀ m g w v, m ≤ 9223372036854775807 → (F m g w).pick = some v → ∃ Λ, LamOK P (cod fn) Λ ∧ (funV P Γ Λ fn (cod fn) [lstF m g, V.i w]).pick = some v) : SpecOK P f (spFW F) := by
  refine specOK_of_bodyW hΓ hf (isBody _ hb) hent fun args r hb he => ?_
  unfold spFW at he
  split at he
  · rename_i m g w
    obtain ⟨Λ, h1, h2⟩ := h m g w r (hb (lstF m g) (by simp)).1 he
    exact ⟨_, Λ, fun _ _ _ x => x, h1, h2⟩
  · cases he
def rightF (m : Nat) (f : Nat → Nat → Q) (w : Int) : Bool := bif allF m f then (bif decide (w ≥ 0) then (bif decide (w ≤ 1048576) then decide ((m : Int) ≤ 20) else false) else false) else false
abbrev fRight.s := spFW fun m f w => .leaf (V.b (rightF m f w))
theorem fRight.ok : SpecOK Tryd.prog 21 fRight.s := by
  refine okFW ΓR.ok Tryd.func21 (by kernel_rfl) (by kernel_rfl) fun m f w v hb hv => ?_
  refine ⟨[([0, 1, 0, 1, 1], orc false 35 1 [0, 1, 5, 9, 10, 11] (SR m f w 0) (RR m f w))], LamOK.orc (c := .loop bodyR) (by kernel_rfl) (loopR m f w hb) (LamOK.nil _ _), ?_⟩
  have e : funV Tryd.prog ΓR [([0, 1, 0, 1, 1], orc false 35 1 [0, 1, 5, 9, 10, 11] (SR m f w 0) (RR m f w))] Tryd.f21 (cod Tryd.f21) [lstF m f, V.i w] =
      .ite (@decide (SR m f w 0 = SR m f w 0) (Classical.propDecidable _)) (.ite (allF m f) (.leaf (V.b (bif decide (w ≥ 0) then (bif decide (w ≤ 1048576) then decide ((m : Int) ≤ 20) else false) else false))) (.leaf (V.b false))) .bad := by kernel_rfl
  rw [e, pick_same, ← hv]
  unfold rightF
  cases allF m f <;> rfl

/-! ### end -/
abbrev row3 (n : Nat) (g : Nat → Nat → Q) (m : Nat) (f : Nat → Nat → Q) (w : Int) : Q := .sp 3 fun j => [Q.lst ks4 n g, .lst ksF m f, .c (.int .i64 w)].getD j default
def eS (n : Nat) (g : Nat → Nat → Q) (y : Int) : Nat → Int
  | 0 => lowS g n
  | i + 1 => bif decide (lowE (gRc g i) > y) then mn2 (eS n g y i) (lowE (gRc g i)) else eS n g y i
def eB (g : Nat → Nat → Q) (y : Int) : Nat → Bool
  | 0 => false
  | i + 1 => bif decide (lowE (gRc g i) > y) then true else eB g y i
def SE (n : Nat) (g : Nat → Nat → Q) (y o : Int) (b : Bool) (i : Int) : St := mkS 40 [(1, V.i y), (6, V.i o), (7, V.b b), (19, lst4 n g), (20, V.i n), (21, V.i i)] [] [] false [] 0
def FE (o : Int) (b : Bool) : Ex × St := (.exit 0, mkS 40 [(6, V.i o), (7, V.b b)] [] [] false [] 0)
def liveE : Ex → List Nat | .normal => [1, 6, 7, 19, 20, 21] | _ => [6, 7]
noncomputable abbrev bodyE : Code := loopAt Tryd.f30 [0, 1, 0, 1, 1]
theorem stepE (n : Nat) (g : Nat → Nat → Q) (y o : Int) (b : Bool) (i : Nat) :
    (sx Tryd.prog [] [] [0, 0, 1, 0, 1, 1] bodyE (SE n g y o b i)).bind (fun x => T.leaf (x.1, deadS [] (canS 40 0 (liveE x.1) x.2), chkM 40 0 x.2))
     = .ite (decide ((i : Int) < n)) (.ite (decide (0 ≤ (i : Int) ∧ (i : Int) < n)) (.ite (decide (lowE (gRc g i) > y)) (.leaf (.normal, SE n g y (mn2 o (lowE (gRc g i))) true (w64 (i + 1)), true)) (.leaf (.normal, SE n g y o b (w64 (i + 1)), true))) .bad)
        (.leaf ((FE o b).1, (FE o b).2, true)) := by kernel_rfl
theorem loopE (n : Nat) (g : Nat → Nat → Q) (y : Int) (hn : n ≤ 9223372036854775807) : ∀ x, (T.leaf (FE (eS n g y n) (eB g y n))).pick = some x → SemC Tryd.prog (.loop bodyE) (SE n g y (lowS g n) false 0) x := by
  refine loop_tree (GOK.nil _) (root := cod Tryd.f30) (p := [0, 1, 0, 1, 1]) (by kernel_rfl) (fun i => i ≤ n) (fun i => SE n g y (eS n g y i) (eB g y i) i) (fun i => n - i) (.leaf (FE (eS n g y n) (eB g y n))) 40 0 liveE (fun _ => []) (fun i hi => ?_) 0 (Nat.zero_le _)
  have e := stepE n g y (eS n g y i) (eB g y i) i
  rcases Nat.lt_or_ge i n with hlt | hge
  · refine ⟨[], .normal, SE n g y (eS n g y (i + 1)) (eB g y (i + 1)) (i + 1 : Nat), LamOK.nil _ _, ?_, .inl ⟨rfl, i + 1, hlt, by omega, rfl⟩⟩
    rw [e, c_lt hlt, c_in hlt, w64_suc hlt hn]
    simp only [eS, eB]
    cases decide (lowE (gRc g i) > y) <;> rfl
  · exact ⟨[], .exit 0, _, LamOK.nil _ _, by rw [e, c_ge hge]; rfl, .inr ⟨by simp, by rw [show n = i by omega]; rfl⟩⟩
/-- Where those of a row that is placed end next. -/
def end.s : List V → T V
  | [.q (.sp 3 get), .q (.c (.int .i64 y))] => match get 0, get 1, get 2 with
    | .lst [.int .i64, .int .i64, .int .i64, .int .i64] n g, .lst [.int .i64, .int .i64, .bool, .bool] m f, .c (.int .i64 w) => .leaf (.tup [V.i (bif eB g y n then eS n g y n else 0), V.b (eB g y n)])
    | _, _, _ => .bad
  | _ => .bad
theorem row3_weak {get : Nat → Q} {n m : Nat} {g f : Nat → Nat → Q} {w : Int} {l : List V} (h0 : get 0 = .lst ks4 n g) (h1 : get 1 = .lst ksF m f) (h2 : get 2 = .c (.int .i64 w)) : Weak (.q (.sp 3 get) :: l) (.q (row3 n g m f w) :: l) :=
  .sp (fun j hj => by
    rcases (show j = 0 ∨ j = 1 ∨ j = 2 by omega) with rfl | rfl | rfl
    · exact h0
    · exact h1
    · exact h2) (fun _ _ _ x => x)
abbrev ΓE : Gam := [(32, low.s)]
theorem end.ok : SpecOK Tryd.prog 30 end.s := by
  refine specOK_of_bodyW (Γ := ΓE) (.cons low.ok (GOK.nil _)) Tryd.func30 (isBody _ (by kernel_rfl)) (by kernel_rfl) fun args r hb he => ?_
  unfold end.s at he
  split at he
  · rename_i get y
    split at he
    · rename_i n g m f w h0 h1 h2
      have hn : n ≤ 9223372036854775807 := by
        have : QB (get 0) := hb (.q (.sp 3 get)) (by simp) 0 (by omega)
        rw [h0] at this
        exact this.1
      refine ⟨_, [([0, 1, 0, 1, 1], orc false 40 0 [1, 6, 7, 19, 20, 21] (SE n g y (lowS g n) false 0) (.leaf (FE (eS n g y n) (eB g y n))))], row3_weak h0 h1 h2, LamOK.orc (c := .loop bodyE) (by kernel_rfl) (loopE n g y hn) (LamOK.nil _ _), ?_⟩
      have e : funV Tryd.prog ΓE [([0, 1, 0, 1, 1], orc false 40 0 [1, 6, 7, 19, 20, 21] (SE n g y (lowS g n) false 0) (.leaf (FE (eS n g y n) (eB g y n))))] Tryd.f30 (cod Tryd.f30) [.q (row3 n g m f w), V.i y] =
          .ite (@decide (SE n g y (lowS g n) false 0 = SE n g y (lowS g n) false 0) (Classical.propDecidable _)) (.ite (!(eB g y n)) (.leaf (.tup [V.i 0, V.b false])) (.leaf (.tup [V.i (eS n g y n), V.b true]))) .bad := by kernel_rfl
      rw [e, pick_same, ← he]
      cases eB g y n <;> rfl
    · cases he
  · cases he

/-! ### beside -/
abbrev sp1 (q : Q) : V := .q (.sp 1 fun j => [q].getD j default)
def beside.s : List V → T V
  | [.q (.sp 3 get), .q (.c (.int .i64 y)), .q (.c (.int .i64 h))] => .leaf (.clo 48 [sp1 (.sp 3 get), sp1 (.c (.int .i64 y)), sp1 (.c (.int .i64 h))])
  | _ => .bad
theorem beside.ok : SpecOK Tryd.prog 38 beside.s := by
  refine specOK_of_body (GOK.nil _) (LamOK.nil _ _) Tryd.func38 (isBody _ (by kernel_rfl)) (by kernel_rfl) fun args r he => ?_
  unfold beside.s at he
  split at he
  · rename_i get y h
    have e : funV Tryd.prog [] [] Tryd.f38 (cod Tryd.f38) [.q (.sp 3 get), V.i y, V.i h] = .leaf (.clo 48 [sp1 (.sp 3 get), sp1 (.c (.int .i64 y)), sp1 (.c (.int .i64 h))]) := by kernel_rfl
    rw [e]; exact he
  · cases he
end Go.Proofs.YtcekbimohggnoaaDoor
