/- The functions of float, one by one: insets. -/
import Derived.Test.YtcekbimohggnoaaDoorFlB
import Derived.Test.YtcekbimohggnoaaDoorSxV
namespace Go.Proofs.YtcekbimohggnoaaDoor
open Go Go.SX Go.Proofs
set_option maxRecDepth 100000
variable [EA]
set_option linter.unusedVariables false
set_option linter.unusedSectionVars false
set_option linter.unusedSimpArgs false

/-- What a side's number is, so far. -/
def lkM (es : List (Value × List Q)) (b : Bool) : Int := qInt (((findE (.bool b) es).getD [.c (.int .i64 0)]).headD default)
abbrev insN (w : Int) (r : Rc) (b : Bool) : Int := bif b then w64 (w - r.x) else w64 (r.x + r.w)
abbrev insP (w : Int) (r : Rc) (b : Bool) (es : List (Value × List Q)) : List (Value × List Q) := putE (.bool b) [.c (.int .i64 (mx2 (lkM es b) (insN w r b)))] es
/-- The map behind the first k of a list. -/
def insE (g f : Nat → Nat → Q) (w : Int) (l : List Nat) : Nat → List (Value × List Q)
  | 0 => []
  | k + 1 => insP w (gRc g (l.getD k 0)) (gFl f (l.getD k 0)).r (insE g f w l k)

abbrev mapI (es : List (Value × List Q)) : Ob := .map (.one .bool) false [.int .i64] es
abbrev loI (n : Nat) (g : Nat → Nat → Q) (m : Nat) (f : Nat → Nat → Q) (w : Int) (es : List (Value × List Q)) : List (Option Ob) :=
  [some (.cells 45 [.q (row3 n g m f w)]), some (mapI es), some (.cells 51 [.mp 1])]
def SI (n : Nat) (g : Nat → Nat → Q) (m : Nat) (f : Nat → Nat → Q) (w y h : Int) : St :=
  mkS 39 [(3, .ptr 0 0), (7, .ptr 2 0), (15, .clo 48 [sp1 (row3 n g m f w), sp1 (.c (.int .i64 y)), sp1 (.c (.int .i64 h))])] (loI n g m f w []) [] false [] 0
noncomputable abbrev rfI : Code × Code := rfAt Tryd.f26 [0, 1, 0, 1, 1]
abbrev ΓI : Gam := [(38, beside.s)]
theorem ΓI.ok : GOK Tryd.prog ΓI := .cons beside.ok (GOK.nil _)

theorem roundI (n : Nat) (g : Nat → Nat → Q) (m : Nat) (f : Nat → Nat → Q) (w y h : Int) (es : List (Value × List Q)) (k : Nat) (rec rec' : Loop) :
    roundT Tryd.prog ΓI [] [0, 1, 0, 1, 1] rfI.1 rfI.2 [16, 17] (SI n g m f w y h) (some .dfr) (loI n g m f w es) [] (xb g f k) rec rec' =
      .ite (@decide ((some (some (Ob.raw (.loop rec))) : Option (Option Ob)) = some (some (.raw (.loop rec)))) (Classical.propDecidable _))
        (.ite (gFl f k).r
          (.leaf (.normal, midS (SI n g m f w y h) (loI n g m f w (putE (.bool (gFl f k).r) [.c (.int .i64 (mx2 (lkM es (gFl f k).r) (w64 (w - (gRc g k).x))))] es)) [] (some .dfr) rec' ((SI n g m f w y h).tm.map fun _ => .any), true))
          (.leaf (.normal, midS (SI n g m f w y h) (loI n g m f w (putE (.bool (gFl f k).r) [.c (.int .i64 (mx2 (lkM es (gFl f k).r) (w64 ((gRc g k).x + (gRc g k).w))))] es)) [] (some .dfr) rec' ((SI n g m f w y h).tm.map fun _ => .any), true))) .bad := by kernel_rfl

abbrev besC (n : Nat) (g : Nat → Nat → Q) (m : Nat) (f : Nat → Nat → Q) (w y h : Int) : List V := [sp1 (row3 n g m f w), sp1 (.c (.int .i64 y)), sp1 (.c (.int .i64 h))]
/-- The map of those that lie at some lengths. -/
def insM (g f : Nat → Nat → Q) (w y h : Int) (n : Nat) : List (Value × List Q) := insE g f w (hits g y h n) (hits g y h n).length
def RI (n : Nat) (g : Nat → Nat → Q) (m : Nat) (f : Nat → Nat → Q) (w y h : Int) : Out := .leaf (.normal, outS (SI n g m f w y h) (loI n g m f w (insM g f w y h n)) [])

theorem rangeI (n : Nat) (g : Nat → Nat → Q) (m : Nat) (f : Nat → Nat → Q) (w y h : Int) (hnm : n ≤ m) : ∀ x, (RI n g m f w y h).pick = some x → SemC Tryd.prog (.rangeFunc (.tmp 15) #[16, 17] rfI.1 rfI.2) (SI n g m f w y h) x := by
  intro x hx
  have H : Rounds Tryd.prog ΓI [] [0, 1, 0, 1, 1] rfI.1 rfI.2 (#[16, 17] : Array Nat).toList (SI n g m f w y h) (if (SI n g m f w y h).inr then none else some .dfr) ((SI n g m f w y h).tm.map fun _ => .any)
      (fun k => loI n g m f w (insE g f w (hits g y h n) k)) (fun _ => []) (xB g f y h n) (hits g y h n).length (fun _ => .normal) := by
    refine rounds_of (fun k => rfl) (fun k _ => rfl) fun k hk hn rec rec' => ?_
    refine (congrArg T.pick (roundI n g m f w y h (insE g f w (hits g y h n) k) ((hits g y h n).getD k 0) rec rec')).trans ?_
    rw [pick_same]
    simp only [insE, insP, insN]
    cases qBool (f ((hits g y h n).getD k 0) 2) <;> rfl
  have hc : codeAt (cod Tryd.f26) [0, 1, 0, 1, 1] = some (.rangeFunc (.tmp 15) #[16, 17] rfI.1 rfI.2) := by kernel_rfl
  have hsp : (besideI.s (besC n g m f w y h)).pick = some ((hits g y h n).length, xB g f y h n) := by
    show (T.ite (decide (n ≤ m)) (T.leaf ((hits g y h n).length, xB g f y h n)) .bad).pick = _
    rw [decide_eq_true hnm]; rfl
  cases hx
  exact sem_range ΓI.ok (LamOK.nil _ _) hc (f := 48) (caps := besC n g m f w y h) rfl rfl besideI.ok hsp H rfl rfl ⟨Nat.le_refl _, .inl ⟨rfl, rfl, fun j _ => rfl⟩⟩ trivial (fun d hd => by simp [SI, mkS] at hd)

/-- What a row's insets are: a map that is handed over. -/
def insets.s : Option Ob → List V → T XOut
  | none, [.q (.sp 3 get), .q (.c (.int .i64 y)), .q (.c (.int .i64 h))] => match get 0, get 1, get 2 with
    | .lst [.int .i64, .int .i64, .int .i64, .int .i64] n g, .lst [.int .i64, .int .i64, .bool, .bool] m f, .c (.int .i64 w) => .ite (decide (n ≤ m)) (.leaf ⟨none, some (mapI (insM g f w y h n)), .mp 1⟩) .bad
    | _, _, _ => .bad
  | _, _ => .bad
theorem insets.ok : SpecX Tryd.prog 26 false insets.s := by
  refine specX_of_bodyW (ho := false) ΓI.ok Tryd.func26 (isBody _ (by kernel_rfl)) (by kernel_rfl) fun ls args x hl hb he => ?_
  unfold insets.s at he
  split at he
  · rename_i get y h
    split at he
    · rename_i n g m f w h0 h1 h2
      simp only [T.pick] at he
      cases hnm : decide (n ≤ m) with
      | false => rw [hnm] at he; cases he
      | true =>
        rw [hnm] at he
        cases he
        have hnm' : n ≤ m := by simpa using hnm
        refine ⟨[.q (row3 n g m f w), V.i y, V.i h], [([0, 1, 0, 1, 1], orc false 39 3 [3, 7, 15] (SI n g m f w y h) (RI n g m f w y h))], .sp (fun j hj => by
          rcases (show j = 0 ∨ j = 1 ∨ j = 2 by omega) with rfl | rfl | rfl
          · exact h0
          · exact h1
          · exact h2) .rfl, LamOK.orc (c := .rangeFunc (.tmp 15) #[16, 17] rfI.1 rfI.2) (by kernel_rfl) (rangeI n g m f w y h hnm') (LamOK.nil _ _), ?_⟩
        have e : funX Tryd.prog ΓI [([0, 1, 0, 1, 1], orc false 39 3 [3, 7, 15] (SI n g m f w y h) (RI n g m f w y h))] Tryd.f26 (cod Tryd.f26) false none [.q (row3 n g m f w), V.i y, V.i h] =
            .ite (@decide (SI n g m f w y h = SI n g m f w y h) (Classical.propDecidable _)) (.leaf ⟨none, some (mapI (insM g f w y h n)), .mp 1⟩) .bad := by kernel_rfl
        rw [e, pick_same]; rfl
    · cases he
  · cases he
end Go.Proofs.YtcekbimohggnoaaDoor
