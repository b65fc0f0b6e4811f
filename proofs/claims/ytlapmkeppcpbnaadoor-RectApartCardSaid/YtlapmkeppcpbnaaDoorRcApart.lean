/- The card of RectApart: rectangles that are apart are so two by two, and no point is in two of them. -/
import Derived.Test.YtlapmkeppcpbnaaDoorRcH
import Derived.Test.YtlapmkeppcpbnaaDoorRcI
namespace Go.Proofs.YtlapmkeppcpbnaaDoor
open Go Go.SX Go.Proofs Go.RowKit Go.ChangeShapes
set_option maxRecDepth 100000
set_option linter.unusedVariables false

/-! ### the loops -/
/-- Are all apart so far, the i-th and k others compared. -/
def alK (g : Nat → Nat → Q) (i : Nat) (al : Bool) : Nat → Bool
  | 0 => al
  | k + 1 => bif alK g i al k then apartB 2 (two2 (gRc g k) (gRc g i)) else false
def SV (n : Nat) (g : Nat → Nat → Q) (x y : Int) (i : Nat) (c : Int) (al : Bool) (k : Nat) : St :=
  mkS 71 [(0, lst4 n g), (1, V.i x), (2, V.i y), (7, V.b true), (8, V.i c), (9, V.b al), (10, V.i i), (11, V.i k)] [] [] false [] 0
def SU (n : Nat) (g : Nat → Nat → Q) (x y : Int) (i : Nat) (c : Int) (al : Bool) : St :=
  mkS 71 [(0, lst4 n g), (1, V.i x), (2, V.i y), (7, V.b true), (8, V.i c), (9, V.b al), (10, V.i i)] [] [] false [] 0
def XV (n : Nat) (g : Nat → Nat → Q) (x y : Int) (i : Nat) (c : Int) (al : Bool) : Ex × St := (.exit 2, SU n g x y i c al)
def XU (n : Nat) (g : Nat → Nat → Q) (c : Int) (al : Bool) : Ex × St := (.exit 0, mkS 71 [(0, lst4 n g), (7, V.b true), (8, V.i c), (9, V.b al)] [] [] false [] 0)
abbrev pV : List Nat := [0, 1, 1, 1, 0, 0, 1, 0, 0, 1, 0, 1, 1, 1, 1, 1]
noncomputable abbrev bodyV : Code := loopAt Tryd.f6 pV
noncomputable abbrev bodyU : Code := loopAt Tryd.f6 [0, 1, 0, 1, 1, 1, 1, 1]
def liveV : Ex → List Nat | .normal => [0, 1, 2, 7, 8, 9, 10, 11] | _ => [0, 1, 2, 7, 8, 9, 10]
def liveU : Ex → List Nat | .normal => [0, 1, 2, 7, 8, 9, 10] | _ => [0, 7, 8, 9]

theorem stepV (n : Nat) (g : Nat → Nat → Q) (x y : Int) (i : Nat) (c : Int) (al : Bool) (k : Nat) :
    (sx Tryd.prog ΓL [] (0 :: pV) bodyV (SV n g x y i c al k)).bind (fun x => T.leaf (x.1, deadS [] (canS 71 0 (liveV x.1) x.2), chkM 71 0 x.2))
     = .ite (decide ((k : Int) < i))
        (.ite (bif al then (bif decide (0 ≤ (k : Int) ∧ (k : Int) < n) then (bif decide (0 ≤ (i : Int) ∧ (i : Int) < n) then true else false) else false) else true)
          (.leaf (.normal, mkS 71 [(0, lst4 n g), (1, V.i x), (2, V.i y), (7, V.b true), (8, V.i c), (9, V.b (bif al then apartB 2 (two2 (gRc g k) (gRc g i)) else false)), (10, V.i i), (11, V.i (w64 (k + 1)))] [] [] false [] 0, true)) .bad)
        (.leaf ((XV n g x y i c al).1, (XV n g x y i c al).2, true)) := by kernel_rfl

theorem loopV (n : Nat) (g : Nat → Nat → Q) (x y : Int) (i : Nat) (c : Int) (al : Bool) (hi : i < n) (hn : n ≤ 9223372036854775807) : ∀ z, (T.leaf (XV n g x y i c (alK g i al i))).pick = some z → SemC Tryd.prog (.loop bodyV) (SV n g x y i c al 0) z := by
  refine loop_tree ΓL.ok (root := cod Tryd.f6) (p := pV) (by kernel_rfl) (fun k => k ≤ i) (fun k => SV n g x y i c (alK g i al k) k) (fun k => i - k) (.leaf (XV n g x y i c (alK g i al i))) 71 0 liveV (fun _ => []) (fun k hk => ?_) 0 (Nat.zero_le _)
  have e := stepV n g x y i c (alK g i al k) k
  rcases Nat.lt_or_ge k i with hlt | hge
  · have hkn : k < n := by omega
    refine ⟨[], .normal, SV n g x y i c (alK g i al (k + 1)) (k + 1), LamOK.nil _ _, ?_, .inl ⟨rfl, k + 1, hlt, by omega, rfl⟩⟩
    rw [e, c_lt hlt, c_in hi, c_in hkn, w64_suc hkn hn]
    simp only [pick_ite, cond_true, pick_leaf]
    show _ = some (Ex.normal, SV n g x y i c (bif alK g i al k then apartB 2 (two2 (gRc g k) (gRc g i)) else false) (k + 1), true)
    cases alK g i al k <;> rfl
  · exact ⟨[], .exit 2, _, LamOK.nil _ _, by rw [e, c_ge hge]; rfl, .inr ⟨by simp, by rw [show k = i by omega]; rfl⟩⟩

/-- The inner loop's summary, whatever is counted so far. -/
noncomputable def orcV (n : Nat) (g : Nat → Nat → Q) (x y : Int) (i : Nat) : St → Out := fun s => match s.tm.getD 8 .any, (s.tm.getD 9 .any).bool? with
  | .q (.c (.int .i64 c)), some al => orc false 71 0 [0, 1, 2, 7, 8, 9, 10, 11] (SV n g x y i c al 0) (.leaf (XV n g x y i c (alK g i al i))) s
  | _, _ => .bad
theorem orcV_ok (n : Nat) (g : Nat → Nat → Q) (x y : Int) (i : Nat) (hi : i < n) (hn : n ≤ 9223372036854775807) : ∀ s z, (orcV n g x y i s).pick = some z → SemC Tryd.prog (.loop bodyV) s z := by
  intro s z h
  unfold orcV at h
  split at h
  · rename_i c al _ _
    exact orc_ok (loopV n g x y i c al hi hn) s z h
  · cases h

noncomputable abbrev outU (n : Nat) (g : Nat → Nat → Q) (x y : Int) (i : Nat) (c : Int) (al : Bool) : T (Ex × St × Bool) :=
  .ite (@decide (SV n g x y i c al 0 = SV n g x y i c al 0) (Classical.propDecidable _)) (.leaf (.normal, mkS 71 [(0, lst4 n g), (1, V.i x), (2, V.i y), (7, V.b true), (8, V.i c), (9, V.b (alK g i al i)), (10, V.i (w64 (i + 1)))] [] [] false [] 0, true)) .bad

theorem stepU (n : Nat) (g : Nat → Nat → Q) (x y : Int) (i : Nat) (c : Int) (al : Bool) :
    (sx Tryd.prog ΓL [(pV, orcV n g x y i)] [0, 0, 1, 0, 1, 1, 1, 1, 1] bodyU (SU n g x y i c al)).bind (fun x => T.leaf (x.1, deadS [] (canS 71 0 (liveU x.1) x.2), chkM 71 0 x.2))
     = .ite (decide ((i : Int) < n))
        (.ite al
          (.ite (decide (0 ≤ (i : Int) ∧ (i : Int) < n)) (.ite (decide (0 ≤ (i : Int) ∧ (i : Int) < n)) (.ite (holdsB (gRc g i) x y) (outU n g x y i (w64 (c + 1)) (rightR (gRc g i))) (outU n g x y i c (rightR (gRc g i)))) .bad) .bad)
          (.ite (decide (0 ≤ (i : Int) ∧ (i : Int) < n)) (.ite (holdsB (gRc g i) x y) (outU n g x y i (w64 (c + 1)) false) (outU n g x y i c false)) .bad))
        (.leaf ((XU n g c al).1, (XU n g c al).2, true)) := by kernel_rfl

def thT {α : Type} : T α → T α
  | .ite _ t _ => t
  | t => t
theorem stepUx (n : Nat) (g : Nat → Nat → Q) (x y : Int) (i : Nat) (c : Int) (al : Bool) :
    (sx Tryd.prog ΓL [] [0, 0, 1, 0, 1, 1, 1, 1, 1] bodyU (SU n g x y i c al)).bind (fun x => T.leaf (x.1, deadS [] (canS 71 0 (liveU x.1) x.2), chkM 71 0 x.2))
     = .ite (decide ((i : Int) < n)) (thT ((sx Tryd.prog ΓL [] [0, 0, 1, 0, 1, 1, 1, 1, 1] bodyU (SU n g x y i c al)).bind (fun x => T.leaf (x.1, deadS [] (canS 71 0 (liveU x.1) x.2), chkM 71 0 x.2)))) (.leaf ((XU n g c al).1, (XU n g c al).2, true)) := by kernel_rfl

def alS (g : Nat → Nat → Q) : Nat → Bool
  | 0 => true
  | i + 1 => alK g i (bif alS g i then rightR (gRc g i) else false) i
def cS (g : Nat → Nat → Q) (x y : Int) : Nat → Int
  | 0 => 0
  | i + 1 => bif holdsB (gRc g i) x y then w64 (cS g x y i + 1) else cS g x y i

theorem loopU (n : Nat) (g : Nat → Nat → Q) (x y : Int) (hn : n ≤ 9223372036854775807) : ∀ z, (T.leaf (XU n g (cS g x y n) (alS g n))).pick = some z → SemC Tryd.prog (.loop bodyU) (SU n g x y 0 0 true) z := by
  refine loop_tree ΓL.ok (root := cod Tryd.f6) (p := [0, 1, 0, 1, 1, 1, 1, 1]) (by kernel_rfl) (fun i => i ≤ n) (fun i => SU n g x y i (cS g x y i) (alS g i)) (fun i => n - i) (.leaf (XU n g (cS g x y n) (alS g n))) 71 0 liveU (fun _ => []) (fun i hi => ?_) 0 (Nat.zero_le _)
  rcases Nat.lt_or_ge i n with hlt | hge
  · have e := stepU n g x y i (cS g x y i) (alS g i)
    refine ⟨[(pV, orcV n g x y i)], .normal, SU n g x y (i + 1) (cS g x y (i + 1)) (alS g (i + 1)), LamOK.cons (.loop bodyV) (by kernel_rfl) (orcV_ok n g x y i hlt hn) (LamOK.nil _ _), ?_, .inl ⟨rfl, i + 1, hlt, by omega, rfl⟩⟩
    rw [e, c_lt hlt, c_in hlt]
    unfold outU
    rw [w64_suc hlt hn]
    show _ = some (Ex.normal, SU n g x y (i + 1) (bif holdsB (gRc g i) x y then w64 (cS g x y i + 1) else cS g x y i) (alK g i (bif alS g i then rightR (gRc g i) else false) i), true)
    simp only [pick_ite, cond_true, pick_leaf, decide_true]
    cases alS g i <;> cases holdsB (gRc g i) x y <;> rfl
  · exact ⟨[], .exit 0, _, LamOK.nil _ _, by rw [stepUx n g x y i (cS g x y i) (alS g i), c_ge hge]; rfl, .inr ⟨by simp, by rw [show i = n by omega]; rfl⟩⟩

def aptB (n : Nat) (g : Nat → Nat → Q) (x y : Int) : Bool := andN [true, apartB n g == alS g n, bif !(alS g n) then true else decide (cS g x y n ≤ 1)]
theorem apt.eq (n : Nat) (g : Nat → Nat → Q) (x y : Int) :
    funV Tryd.prog ΓL [([0, 1, 0, 1, 1, 1, 1, 1], orc false 71 0 [0, 1, 2, 7, 8, 9, 10] (SU (fewN n) (gz g) x y 0 0 true) (.leaf (XU (fewN n) (gz g) (cS (gz g) x y (fewN n)) (alS (gz g) (fewN n)))))] Tryd.f6 (cod Tryd.f6) [lst4 n g, V.i x, V.i y] =
      .ite (@decide (SU (fewN n) (gz g) x y 0 0 true = SU (fewN n) (gz g) x y 0 0 true) (Classical.propDecidable _)) (.leaf (V.b (aptB (fewN n) (gz g) x y))) .bad := by kernel_rfl

/-! ### in plain numbers -/
theorem ap2_iff {g : Nat → Nat → Q} {k i : Nat} : apartB 2 (two2 (gRc g k) (gRc g i)) = true ↔ Ok (gRc g k) ∧ Ok (gRc g i) ∧ stopO g i k = false := by
  rw [apart_eq]
  have e : apartD 2 (two2 (gRc g k) (gRc g i)) = (!(badO (two2 (gRc g k) (gRc g i)) 0) && (!(badO (two2 (gRc g k) (gRc g i)) 1) && true)) := rfl
  have e0 : badO (two2 (gRc g k) (gRc g i)) 0 = !(rightR (gRc g k)) := by
    show (bif !(rightR (gRc g k)) then true else false) = _
    cases rightR (gRc g k) <;> rfl
  have e1 : badO (two2 (gRc g k) (gRc g i)) 1 = (bif !(rightR (gRc g i)) then true else (stopO g i k || false)) := rfl
  rw [e, e0, e1]
  cases h1 : rightR (gRc g k) with
  | false => simp; intro h; rw [right_iff.2 h] at h1; cases h1
  | true =>
    cases h2 : rightR (gRc g i) with
    | false => simp; intro _ h; rw [right_iff.2 h] at h2; cases h2
    | true => simp [right_iff.1 h1, right_iff.1 h2]

theorem alK_iff {g : Nat → Nat → Q} {i : Nat} {al : Bool} : ∀ k, alK g i al k = true ↔ al = true ∧ ∀ j, j < k → apartB 2 (two2 (gRc g j) (gRc g i)) = true
  | 0 => ⟨fun h => ⟨h, fun j hj => absurd hj (Nat.not_lt_zero _)⟩, fun h => h.1⟩
  | k + 1 => by
    have ih := alK_iff (g := g) (i := i) (al := al) k
    show (bif alK g i al k then apartB 2 (two2 (gRc g k) (gRc g i)) else false) = true ↔ _
    cases h : alK g i al k with
    | false =>
      simp only [cond_false, Bool.false_eq_true, false_iff]
      intro hh
      rw [ih.2 ⟨hh.1, fun j hj => hh.2 j (by omega)⟩] at h
      cases h
    | true =>
      have := ih.1 h
      simp only [cond_true]
      refine ⟨fun h1 => ⟨this.1, fun j hj => ?_⟩, fun h1 => h1.2 k (by omega)⟩
      rcases Nat.lt_or_ge j k with hlt | hge
      · exact this.2 j hlt
      · rw [show j = k by omega]; exact h1

theorem alS_iff {g : Nat → Nat → Q} : ∀ n, alS g n = true ↔ ∀ i, i < n → Ok (gRc g i) ∧ ∀ k, k < i → stopO g i k = false
  | 0 => ⟨fun _ i hi => absurd hi (Nat.not_lt_zero _), fun _ => rfl⟩
  | n + 1 => by
    have ih := alS_iff (g := g) n
    show alK g n (bif alS g n then rightR (gRc g n) else false) n = true ↔ _
    rw [alK_iff]
    constructor
    · rintro ⟨h1, h2⟩ i hi
      cases h : alS g n with
      | false => rw [h] at h1; cases h1
      | true =>
        rw [h] at h1
        rcases Nat.lt_or_ge i n with hlt | hge
        · exact ih.1 h i hlt
        · obtain rfl : i = n := by omega
          exact ⟨right_iff.1 h1, fun k hk => (ap2_iff.1 (h2 k hk)).2.2⟩
    · intro h
      have hn := h n (by omega)
      rw [ih.2 fun i hi => h i (by omega)]
      exact ⟨right_iff.2 hn.1, fun j hj => ap2_iff.2 ⟨(h j (by omega)).1, hn.1, hn.2 j hj⟩⟩

theorem apartD_iff {n : Nat} {g : Nat → Nat → Q} : apartD n g = true ↔ ∀ i, i < n → Ok (gRc g i) ∧ ∀ k, k < i → stopO g i k = false := by
  rw [apartD, List.all_eq_true]
  have key : ∀ i, (!badO g i) = true ↔ Ok (gRc g i) ∧ ∀ k, k < i → stopO g i k = false := fun i => by
    unfold badO
    cases h : rightR (gRc g i) with
    | false => simp; intro hh; rw [right_iff.2 hh] at h; cases h
    | true =>
      simp only [Bool.not_true, cond_false, right_iff.1 h, true_and, Bool.not_eq_true']
      rw [anyO, List.any_eq_false]
      exact ⟨fun hh k hk => by simpa using hh k (List.mem_range.2 hk), fun hh k hk => by rw [hh k (List.mem_range.1 hk)]; simp⟩
  exact ⟨fun h i hi => (key i).1 (h i (List.mem_range.2 hi)), fun h i hi => (key i).2 (h i (List.mem_range.1 hi))⟩

theorem al_apart (n : Nat) (g : Nat → Nat → Q) : apartB n g = alS g n := by
  rw [apart_eq]
  exact bool_eq (apartD_iff.trans (alS_iff n).symm)

/-- Two that hold the same point meet. -/
theorem hold_meet {g : Nat → Nat → Q} {i k : Nat} {x y : Int} (hi : Holds (gRc g i) x y) (hk : Holds (gRc g k) x y) : stopO g i k = true := by
  unfold stopO
  rw [okA_iff.2 ⟨hi.1, hk.1⟩]
  show decide ((meetR (gRc g i) (gRc g k)).w > 0) = true
  rw [meet_eq hi.1 hk.1]
  generalize gRc g i = a at hi
  generalize gRc g k = b at hk
  obtain ⟨px, py, pw, ph⟩ := a
  obtain ⟨qx, qy, qw, qh⟩ := b
  simp only [Holds] at hi hk
  unfold meetS
  rw [if_pos (by simp only; omega)]
  simp only [decide_eq_true_eq]
  omega

theorem cS_one {g : Nat → Nat → Q} {x y : Int} : ∀ n, (∀ i, i < n → Ok (gRc g i) ∧ ∀ k, k < i → stopO g i k = false) → (cS g x y n = 0 ∧ ∀ i, i < n → holdsB (gRc g i) x y = false) ∨ (cS g x y n = 1 ∧ ∃ i, i < n ∧ holdsB (gRc g i) x y = true)
  | 0, _ => .inl ⟨rfl, fun i hi => absurd hi (Nat.not_lt_zero _)⟩
  | n + 1, h => by
    have ih := cS_one (g := g) (x := x) (y := y) n fun i hi => h i (by omega)
    show ((bif holdsB (gRc g n) x y then w64 (cS g x y n + 1) else cS g x y n) = 0 ∧ _) ∨ ((bif holdsB (gRc g n) x y then w64 (cS g x y n + 1) else cS g x y n) = 1 ∧ _)
    cases hh : holdsB (gRc g n) x y with
    | false =>
      simp only [cond_false]
      rcases ih with ⟨h1, h2⟩ | ⟨h1, i, hi, h2⟩
      · refine .inl ⟨h1, fun i hi => ?_⟩
        rcases Nat.lt_or_ge i n with hlt | hge
        · exact h2 i hlt
        · rw [show i = n by omega]; exact hh
      · exact .inr ⟨h1, i, by omega, h2⟩
    | true =>
      simp only [cond_true]
      rcases ih with ⟨h1, h2⟩ | ⟨h1, i, hi, h2⟩
      · rw [h1]
        exact .inr ⟨rfl, n, by omega, hh⟩
      · have := hold_meet (holds_iff.1 hh) (holds_iff.1 h2)
        rw [(h n (by omega)).2 i hi] at this
        cases this

theorem apt_true (n : Nat) (g : Nat → Nat → Q) (x y : Int) : aptB n g x y = true := by
  unfold aptB
  rw [al_apart]
  cases h : alS g n with
  | false => rfl
  | true =>
    have hc : decide (cS g x y n ≤ 1) = true := by
      rcases cS_one (x := x) (y := y) n ((alS_iff n).1 h) with ⟨h1, _⟩ | ⟨h1, _⟩ <;> rw [h1] <;> rfl
    rw [hc]; rfl

def apt.s : List V → T V
  | [.q (.lst [.int .i64, .int .i64, .int .i64, .int .i64] n g), .q (.c (.int .i64 x)), .q (.c (.int .i64 y))] => .leaf (V.b true)
  | _ => .bad
theorem apt.ok : SpecOK Tryd.prog 6 apt.s := by
  refine specOK_of_bodyW ΓL.ok Tryd.func6 (isBody _ (by kernel_rfl)) (by kernel_rfl) fun args r hb h => ?_
  unfold apt.s at h
  split at h
  · rename_i n g x y
    have hn : n ≤ 9223372036854775807 := (hb (lst4 n g) (by simp)).1
    have hn' : fewN n ≤ 9223372036854775807 := by simp only [fewN, mn2]; split <;> omega
    refine ⟨_, _, fun _ _ _ x => x, LamOK.orc (p := [0, 1, 0, 1, 1, 1, 1, 1]) (mk := false) (nn := 71) (k := 0) (live := [0, 1, 2, 7, 8, 9, 10]) (c := .loop bodyU) (by kernel_rfl) (loopU (fewN n) (gz g) x y hn') (LamOK.nil _ _), ?_⟩
    rw [apt.eq n g x y, pick_same, apt_true, ← h]
  · cases h
theorem apt.all (n : Nat) (g : Nat → Nat → Q) (x y : Int) (_ : n ≤ 9223372036854775807) (_ : ∀ i, i < n → WfR (gRc g i)) (_ : Wf x) (_ : Wf y) : (apt.s [lst4 n g, V.i x, V.i y]).pick = some (V.b true) := rfl

theorem apt_lifted (os : Os) (started : os.Started) (H : Type) (enc : TypeId × Value → H) :
    ReturnsInHanded {} Tryd.checked os 6 .any (fun w args => (Rows.rectApartSpec.pre enc Tryd.prog Tryd.f6 [] false w args ∧ laidMetH Tryd.prog laidL w) ∧ sizedMet enc Tryd.prog Tryd.f6 (OpenSpec.ofChange Rows.rectApartSpec) false w args)
      (Rows.rectApartSpec.post enc Tryd.prog Tryd.f6 false true false false) :=
  row_of (rt := 4) (shs := [(false, [.lst ks4]), (false, [.int .i64]), (false, [.int .i64])]) H enc os started apt.ok Tryd.func6 (by kernel_rfl) (by kernel_rfl) rfl
    (fun ds hl => by
      have hl' : ds.length = 3 := hl
      match ds, hl' with
      | [d1, d2, d3], _ => rfl)
    (by kernel_rfl)
    (fun xs h => by
      obtain ⟨x1, l, rfl, p1, h⟩ := pvs_cons h
      obtain ⟨x2, l, rfl, p2, h⟩ := pvs_cons h
      obtain ⟨x3, l, rfl, p3, h⟩ := pvs_cons h
      obtain rfl := pvs_nil h
      obtain ⟨n1, g1, rfl, hn1, w1⟩ := pv_rects p1
      obtain ⟨n2, rfl, w2⟩ := pv_int p2
      obtain ⟨n3, rfl, w3⟩ := pv_int p3
      exact apt.all n1 g1 n2 n3 hn1 w1 w2 w3)
    (by kernel_rfl)
    (ChangeSpec.witness_at (enc := enc) (C := Tryd.checked) (os := os) (X := fun w _ => laidMetH Tryd.prog laidL w) false (laidWorld os) #[.slice none 0 0, .int .i64 0, .int .i64 0] 8 rfl (by kernel_rfl) (by kernel_rfl) (by kernel_rfl) (by kernel_rfl) (by kernel_rfl) (laidWorld_met os _))

theorem apt_row : Rows.RectApartSaid :=
  OpenClaim.holds_of_wide 6 Tryd.f6 rfl rfl rfl rfl rfl rfl rfl ⟨rfl, rfl, rfl, rfl, rfl⟩ rfl rfl rfl rfl rfl (by kernel_rfl) Tryd.func6 (by kernel_rfl)
    (of_decide_eq_true (by kernel_rfl)) (by unfold Func.isWrapper; rw [if_neg (of_decide_eq_false (by kernel_rfl))]; exact ⟨rfl, rfl⟩)
    (fun os started H enc _ => apt_lifted os started H enc)

theorem apt_holds : Rows.RectApartCardSaid :=
  Claim7.holds_tied_plain_at .later [] [.handle] true Rows.rectApartCard.stood.harness true
    apt_row (fun _ h => by cases h) (by kernel_rfl) (fun _ h => by cases h) rectApart_row_tie rfl ⟨rfl, rfl⟩ (by kernel_rfl) rfl
    (fun f fn hf hfn => by
      obtain rfl : f = 6 := Option.some.inj ((show Tryd.prog.funcNamed "gutter/gutterlaw02.RectApart" = some 6 by kernel_rfl).symm.trans hf) |>.symm
      obtain rfl : fn = Tryd.f6 := (Option.some.inj (Tryd.func6.symm.trans hfn)).symm
      exact ⟨by kernel_rfl, fun j t ht => by
        have e : Tryd.f6.params.all (fun t => !(Tryd.pinned.checked.prog.wantsStandIn t)) = true := by kernel_rfl
        have := Array.all_eq_true_iff_forall_mem.1 e t (Array.mem_of_getElem? ht)
        simpa using this⟩)
    (by kernel_rfl)
#print axioms apt_holds
end Go.Proofs.YtlapmkeppcpbnaaDoor
