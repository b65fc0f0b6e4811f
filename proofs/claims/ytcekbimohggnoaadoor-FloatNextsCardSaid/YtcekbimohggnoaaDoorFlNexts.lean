/- The card of FloatNexts: where the next one ends is an end of one, above the place, and none lies between. -/
import Derived.Test.YtcekbimohggnoaaDoorFlO
namespace Go.Proofs.YtcekbimohggnoaaDoor
open Go Go.SX Go.Proofs Go.RowKit Go.ChangeShapes
set_option maxRecDepth 100000
set_option linter.unusedVariables false
set_option linter.unusedSectionVars false
set_option linter.unusedSimpArgs false

section
variable [EA]
noncomputable abbrev ΓL4 : Gam := [(10, shown.s), (11, few.s), (16, fPlace.s), (14, fNext.s)]
theorem ΓL4.ok : GOK Tryd.prog ΓL4 := .cons shown.ok (.cons few.ok (.cons fPlace.ok (.cons fNext.ok (GOK.nil _))))
/-- Has the end been met so far? -/
def inS (g : Nat → Nat → Q) (b : Int) (ok : Bool) : Nat → Bool
  | 0 => false
  | i + 1 => bif inS g b ok i then true else (bif ok then lowE (gRc g i) == b else false)
def SN (n : Nat) (g : Nat → Nat → Q) (y b : Int) (ok : Bool) (c : Int) (inn : Bool) (i : Int) : St := mkS 102 [(2, V.i y), (7, V.b true), (8, lst4 n g), (10, V.i b), (11, V.b ok), (12, V.i c), (13, V.b inn), (14, V.i i)] [] [] false [] 0
def FN (n : Nat) (g : Nat → Nat → Q) (y b : Int) (ok : Bool) (c : Int) (inn : Bool) : Ex × St := (.exit 0, mkS 102 [(2, V.i y), (7, V.b true), (10, V.i b), (11, V.b ok), (12, V.i c), (13, V.b inn)] [] [] false [] 0)
def liveN : Ex → List Nat | .normal => [2, 7, 8, 10, 11, 12, 13, 14] | .ret => [6] | _ => [2, 7, 10, 11, 12, 13]
abbrev pN : List Nat := [0, 1, 0, 1, 1, 1, 1, 1, 1, 1]
noncomputable abbrev bodyN : Code := loopAt Tryd.f6 pN
theorem stepN (n : Nat) (g : Nat → Nat → Q) (y b : Int) (ok : Bool) (c : Int) (inn : Bool) (i : Nat) :
    (sx Tryd.prog ΓL4 [] (0 :: pN) bodyN (SN n g y b ok c inn i)).bind (fun x => T.leaf (x.1, deadS [] (canS 102 0 (liveN x.1) x.2), chkM 102 0 x.2))
     = .ite (decide ((i : Int) < n)) (.ite (inI i n) (.ite (inI i n)
         (.ite (takeB (lowE (gRc g i)) y b ok) (.leaf (.ret, mkS 102 [(6, V.b false)] [] [] false [] 0, true)) (.leaf (.normal, SN n g y b ok c (bif inn then true else (bif ok then lowE (gRc g i) == b else false)) (w64 (i + 1)), true))) .bad) .bad)
        (.leaf ((FN n g y b ok c inn).1, (FN n g y b ok c inn).2, true)) := by kernel_rfl
theorem loopN (n : Nat) (g : Nat → Nat → Q) (y b : Int) (ok : Bool) (c : Int) (hn : n ≤ 9223372036854775807) (hno : ∀ i, i < n → takeB (lowE (gRc g i)) y b ok = false) : ∀ x, (T.leaf (FN n g y b ok c (inS g b ok n))).pick = some x → SemC Tryd.prog (.loop bodyN) (SN n g y b ok c false 0) x := by
  refine loop_tree ΓL4.ok (root := cod Tryd.f6) (p := pN) (by kernel_rfl) (fun i => i ≤ n) (fun i => SN n g y b ok c (inS g b ok i) i) (fun i => n - i) (.leaf (FN n g y b ok c (inS g b ok n))) 102 0 liveN (fun _ => []) (fun i hi => ?_) 0 (Nat.zero_le _)
  have e := stepN n g y b ok c (inS g b ok i) i
  rcases Nat.lt_or_ge i n with hlt | hge
  · exact ⟨[], .normal, SN n g y b ok c (inS g b ok (i + 1)) (i + 1 : Nat), LamOK.nil _ _, by rw [e, c_lt hlt, inI, c_in hlt, hno i hlt, w64_suc hlt hn]; rfl, .inl ⟨rfl, i + 1, hlt, by omega, rfl⟩⟩
  · exact ⟨[], .exit 0, _, LamOK.nil _ _, by rw [e, c_ge hge]; rfl, .inr ⟨by simp, by rw [show n = i by omega]; rfl⟩⟩

noncomputable abbrev nxB (m : Nat) (f : Nat → Nat → Q) (w y : Int) : Int := bif rightF m f w then (rEb (gR f w m) y m).1 else 0
noncomputable abbrev nxO (m : Nat) (f : Nat → Nat → Q) (w y : Int) : Bool := bif rightF m f w then (rEb (gR f w m) y m).2 else false
noncomputable abbrev SN0 (m : Nat) (f : Nat → Nat → Q) (w y : Int) : St := SN (plN m f w) (gR f w m) y (nxB m f w y) (nxO m f w y) (codF m f w) false 0
noncomputable def nextsB (m : Nat) (f : Nat → Nat → Q) (w y : Int) (inn : Bool) : Bool := andN [true, codF m f w == 0, inn == nxO m f w y, bif !(nxO m f w y) then true else decide (nxB m f w y > y)]
theorem nexts.eq (m : Nat) (f : Nat → Nat → Q) (w y : Int) (inn : Bool) :
    funV Tryd.prog ΓL4 [(pN, orc false 102 0 [2, 7, 8, 10, 11, 12, 13, 14] (SN0 (fewN m) (gz f) w y) (.leaf (FN (plN (fewN m) (gz f) w) (gR (gz f) w (fewN m)) y (nxB (fewN m) (gz f) w y) (nxO (fewN m) (gz f) w y) (codF (fewN m) (gz f) w) inn)))] Tryd.f6 (cod Tryd.f6) [lstF m f, V.i w, V.i y] =
      .ite (!(codF (fewN m) (gz f) w == 0)) (.leaf (V.b (andN [true, codF (fewN m) (gz f) w == codF (fewN m) (gz f) w, !(nxO (fewN m) (gz f) w y)])))
        (.ite (@decide (SN0 (fewN m) (gz f) w y = SN0 (fewN m) (gz f) w y) (Classical.propDecidable _)) (.leaf (V.b (nextsB (fewN m) (gz f) w y inn))) .bad) := by kernel_rfl

theorem inS_iff {g : Nat → Nat → Q} {b : Int} {ok : Bool} : ∀ n, inS g b ok n = true ↔ ok = true ∧ ∃ i, i < n ∧ lowE (gRc g i) = b
  | 0 => by simp [inS]
  | n + 1 => by
    have ih := inS_iff (g := g) (b := b) (ok := ok) n
    simp only [inS]
    cases h : inS g b ok n with
    | true =>
      obtain ⟨h1, i, h2, h3⟩ := ih.1 h
      simp only [cond_true, true_iff]
      exact ⟨h1, i, by omega, h3⟩
    | false =>
      simp only [cond_false]
      cases ok with
      | false => simp
      | true =>
        simp only [cond_true, true_and, beq_iff_eq]
        constructor
        · intro he; exact ⟨n, by omega, he⟩
        · rintro ⟨i, hi, he⟩
          rcases Nat.lt_or_ge i n with hlt | hge
          · rw [ih.2 ⟨rfl, i, hlt, he⟩] at h; cases h
          · rw [show n = i by omega]; exact he

theorem nexts_right {m : Nat} {f : Nat → Nat → Q} {w y : Int} (hr : rightF m f w = true) :
    (∀ i, i < plN m f w → takeB (lowE (gRc (gR f w m) i)) y (nxB m f w y) (nxO m f w y) = false) ∧ inS (gR f w m) (nxB m f w y) (nxO m f w y) (plN m f w) = nxO m f w y ∧ nextsB m f w y (nxO m f w y) = true := by
  obtain ⟨h1, h2, h3, h4, h5, h6⟩ := ends_eq (g := gR f w m) (n := m) y (lowS_ge (g := gR f w m) m).2 m (Nat.le_refl _)
  simp only [nextsB, nxB, nxO, plN, codF, hr, cond_true]
  generalize (rEb (gR f w m) y m).1 = b at *
  generalize (rEb (gR f w m) y m).2 = ok at *
  refine ⟨fun i hi => ?_, ?_, ?_⟩
  · unfold takeB
    by_cases hgt : lowE (gRc (gR f w m) i) > y
    · obtain ⟨hok, hle⟩ := h4 i hi hgt
      subst hok
      simp only [decide_eq_true hgt, cond_true, Bool.not_true, cond_false, decide_eq_false_iff_not]
      omega
    · simp [hgt]
  · cases ok with
    | true => exact (inS_iff m).2 ⟨rfl, (h2 rfl).2⟩
    | false =>
      cases hh : inS (gR f w m) b false m with
      | false => rfl
      | true => exact absurd ((inS_iff m).1 hh).1 (by simp)
  · cases ok with
    | false => rfl
    | true =>
      have := (h2 rfl).1
      simp [andN]; omega

def nexts.s : List V → T V
  | [.q (.lst [.int .i64, .int .i64, .bool, .bool] m f), .q (.c (.int .i64 w)), .q (.c (.int .i64 y))] => .leaf (V.b true)
  | _ => .bad
theorem nexts.ok : SpecOK Tryd.prog 6 nexts.s := by
  refine specOK_of_bodyW ΓL4.ok Tryd.func6 (isBody _ (by kernel_rfl)) (by kernel_rfl) fun args r hb h => ?_
  unfold nexts.s at h
  split at h
  · rename_i m f w y
    cases hr : rightF (fewN m) (gz f) w with
    | false =>
      refine ⟨_, _, fun _ _ _ x => x, LamOK.orc (p := pN) (mk := false) (nn := 102) (k := 0) (live := [2, 7, 8, 10, 11, 12, 13, 14]) (c := .loop bodyN) (by kernel_rfl) (loopN (plN (fewN m) (gz f) w) (gR (gz f) w (fewN m)) y (nxB (fewN m) (gz f) w y) (nxO (fewN m) (gz f) w y) (codF (fewN m) (gz f) w) (by simp [plN, hr]) (by simp [plN, hr])) (LamOK.nil _ _), (congrArg T.pick (nexts.eq m f w y _)).trans ?_⟩
      rw [← h, pick_ite]
      simp only [codF, nxO, hr, cond_false]
      rfl
    | true =>
      obtain ⟨k1, k2, k3⟩ := nexts_right (y := y) hr
      have hm : plN (fewN m) (gz f) w ≤ 9223372036854775807 := by
        have := (fewN_le m).1
        simp only [plN, hr, cond_true]; omega
      refine ⟨_, _, fun _ _ _ x => x, LamOK.orc (p := pN) (mk := false) (nn := 102) (k := 0) (live := [2, 7, 8, 10, 11, 12, 13, 14]) (c := .loop bodyN) (by kernel_rfl) (loopN (plN (fewN m) (gz f) w) (gR (gz f) w (fewN m)) y (nxB (fewN m) (gz f) w y) (nxO (fewN m) (gz f) w y) (codF (fewN m) (gz f) w) hm k1) (LamOK.nil _ _), (congrArg T.pick (nexts.eq m f w y _)).trans ?_⟩
      rw [← h, pick_ite, k2, k3]
      have : (!(codF (fewN m) (gz f) w == 0)) = false := by simp only [codF, hr, cond_true]; rfl
      rw [this, cond_false, pick_same]
  · cases h
end
theorem nexts.all (n : Nat) (g : Nat → Nat → Q) (w k : Int) (_ : n ≤ 9223372036854775807) (_ : Wf w) (_ : Wf k) : (nexts.s [lstF n g, V.i w, V.i k]).pick = some (V.b true) := rfl

theorem nexts_lifted (os : Os) (started : os.Started) (H : Type) (enc : TypeId × Value → H) :
    ReturnsInHanded {} Tryd.checked os 6 .any (fun w args => (Rows.floatNextsSpec.pre enc Tryd.prog Tryd.f6 [] false w args ∧ laidMetH Tryd.prog laidL w) ∧ sizedMet enc Tryd.prog Tryd.f6 (OpenSpec.ofChange Rows.floatNextsSpec) false w args)
      (Rows.floatNextsSpec.post enc Tryd.prog Tryd.f6 false true false false) :=
  row_of (rt := 4) (shs := [(false, [.lst ksF]), (false, [.int .i64]), (false, [.int .i64])]) H enc os started (fun e => @nexts.ok e) Tryd.func6 (by kernel_rfl) (by kernel_rfl) rfl
    (fun ds hl => by
      have hl' : ds.length = 3 := hl
      match ds, hl' with
      | [d1, d2, d3], _ => rfl)
    (by kernel_rfl)
    (fun xs h => by
      obtain ⟨x1, l, rfl, p1, h⟩ := pvs_cons h
      obtain ⟨x2, l, rfl, p2, h⟩ := pvs_cons h
      obtain ⟨x3, l, rfl, p3, h⟩ := pvs_cons h
      obtain rfl := pvs_nil h
      obtain ⟨n1, g1, rfl, hn1⟩ := pv_floats p1
      obtain ⟨n2, rfl, w2⟩ := pv_int p2
      obtain ⟨n3, rfl, w3⟩ := pv_int p3
      exact nexts.all n1 g1 n2 n3 hn1 w2 w3)
    (by kernel_rfl)
    (ChangeSpec.witness_at (enc := enc) (C := Tryd.checked) (os := os) (X := fun w _ => laidMetH Tryd.prog laidL w) false (laidWorld os) #[.slice none 0 0, .int .i64 0, .int .i64 0] 8 rfl (by kernel_rfl) (by kernel_rfl) (by kernel_rfl) (by kernel_rfl) (by kernel_rfl) (laidWorld_met os _))

theorem nexts_row : Rows.FloatNextsSaid :=
  OpenClaim.holds_of_wide 6 Tryd.f6 rfl rfl rfl rfl rfl rfl rfl ⟨rfl, rfl, rfl, rfl, rfl⟩ rfl rfl rfl rfl rfl (by kernel_rfl) Tryd.func6 (by kernel_rfl)
    (of_decide_eq_true (by kernel_rfl)) (by unfold Func.isWrapper; rw [if_neg (of_decide_eq_false (by kernel_rfl))]; exact ⟨rfl, rfl⟩)
    (fun os started H enc _ => nexts_lifted os started H enc)

theorem nexts_holds : Rows.FloatNextsCardSaid :=
  Claim7.holds_tied_plain_at .later [] [.handle, .sentinel] true Rows.floatNextsCard.stood.harness true
    nexts_row (fun _ h => by cases h) (by kernel_rfl) (fun _ h => by cases h) floatNexts_row_tie rfl ⟨rfl, rfl⟩ (by kernel_rfl) rfl
    (fun f fn hf hfn => by
      obtain rfl : f = 6 := Option.some.inj ((show Tryd.prog.funcNamed "gutter/gutterlaw11.FloatNexts" = some 6 by kernel_rfl).symm.trans hf) |>.symm
      obtain rfl : fn = Tryd.f6 := (Option.some.inj (Tryd.func6.symm.trans hfn)).symm
      exact ⟨by kernel_rfl, fun j t ht => by
        have e : Tryd.f6.params.all (fun t => !(Tryd.pinned.checked.prog.wantsStandIn t)) = true := by kernel_rfl
        have := Array.all_eq_true_iff_forall_mem.1 e t (Array.mem_of_getElem? ht)
        simpa using this⟩)
    (by kernel_rfl)
#print axioms nexts_holds
end Go.Proofs.YtcekbimohggnoaaDoor
