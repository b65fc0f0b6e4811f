/- The card of FloatClear: what is clear begins below all ahead of it; below all nothing is inset. -/
import Derived.Test.YtcekbimohggnoaaDoorFlO
namespace Go.Proofs.YtcekbimohggnoaaDoor
open Go Go.SX Go.Proofs Go.RowKit Go.ChangeShapes
set_option maxRecDepth 100000
set_option linter.unusedVariables false
set_option linter.unusedSectionVars false
set_option linter.unusedSimpArgs false

section
variable [EA]
noncomputable abbrev ΓL5 : Gam := [(10, shown.s), (11, few.s), (16, fPlace.s), (19, fLow.s), (12, fInsets.s)]
theorem ΓL5.ok : GOK Tryd.prog ΓL5 := .cons shown.ok (.cons few.ok (.cons fPlace.ok (.cons fLow.ok (.cons fInsets.ok (GOK.nil _)))))
def SC (n : Nat) (g : Nat → Nat → Q) (m : Nat) (f : Nat → Nat → Q) (w a i : Int) : St := mkS 107 [(0, lstF m f), (1, V.i w), (5, V.b true), (6, lst4 n g), (8, V.i a), (9, V.i i)] [] [] false [] 0
def FC (m : Nat) (f : Nat → Nat → Q) (w a : Int) : Ex × St := (.exit 0, mkS 107 [(0, lstF m f), (1, V.i w), (5, V.b true), (8, V.i a)] [] [] false [] 0)
def liveC : Ex → List Nat | .normal => [0, 1, 5, 6, 8, 9] | .ret => [4] | _ => [0, 1, 5, 8]
abbrev pC : List Nat := [0, 1, 0, 1, 1, 1, 1, 1, 1]
noncomputable abbrev bodyC : Code := loopAt Tryd.f8 pC
noncomputable abbrev contC (n : Nat) (g : Nat → Nat → Q) (m : Nat) (f : Nat → Nat → Q) (w a : Int) (i : Nat) : T (Ex × St × Bool) :=
  .ite (inI i n) (.ite (inI i n) (.leaf (.normal, SC n g m f w (mx2 a (lowE (gRc g i))) (w64 (i + 1)), true)) .bad) .bad
theorem stepC (n : Nat) (g : Nat → Nat → Q) (m : Nat) (f : Nat → Nat → Q) (w a : Int) (i : Nat) :
    (sx Tryd.prog ΓL5 [] (0 :: pC) bodyC (SC n g m f w a i)).bind (fun x => T.leaf (x.1, deadS [] (canS 107 0 (liveC x.1) x.2), chkM 107 0 x.2))
     = .ite (decide ((i : Int) < n)) (.ite (inI i m)
         (.ite (gFl f i).c (.ite (inI i n) (.ite (decide ((gRc g i).y < a)) (.leaf (.ret, mkS 107 [(4, V.b false)] [] [] false [] 0, true)) (contC n g m f w a i)) .bad) (contC n g m f w a i)) .bad)
        (.leaf ((FC m f w a).1, (FC m f w a).2, true)) := by kernel_rfl
theorem loopC (n : Nat) (g : Nat → Nat → Q) (m : Nat) (f : Nat → Nat → Q) (w : Int) (hn : n ≤ 9223372036854775807) (hnm : n ≤ m) (hcl : ∀ i, i < n → (gFl f i).c = true → lowS g i ≤ (gRc g i).y) : ∀ x, (T.leaf (FC m f w (lowS g n))).pick = some x → SemC Tryd.prog (.loop bodyC) (SC n g m f w 0 0) x := by
  refine loop_tree ΓL5.ok (root := cod Tryd.f8) (p := pC) (by kernel_rfl) (fun i => i ≤ n) (fun i => SC n g m f w (lowS g i) i) (fun i => n - i) (.leaf (FC m f w (lowS g n))) 107 0 liveC (fun _ => []) (fun i hi => ?_) 0 (Nat.zero_le _)
  have e := stepC n g m f w (lowS g i) i
  rcases Nat.lt_or_ge i n with hlt | hge
  · refine ⟨[], .normal, SC n g m f w (lowS g (i + 1)) (i + 1 : Nat), LamOK.nil _ _, ?_, .inl ⟨rfl, i + 1, hlt, by omega, rfl⟩⟩
    have hc : (contC n g m f w (lowS g i) i).pick = some (.normal, SC n g m f w (lowS g (i + 1)) (i + 1 : Nat), true) := by
      unfold contC
      rw [inI, c_in hlt, w64_suc hlt hn]; rfl
    rw [e, c_lt hlt, inI, c_in (show i < m by omega), pick_ite, cond_true, pick_ite, cond_true, pick_ite]
    cases hcl' : (gFl f i).c with
    | false => exact hc
    | true =>
      have : decide ((gRc g i).y < lowS g i) = false := by
        have := hcl i hlt hcl'
        rw [decide_eq_false_iff_not]; omega
      rw [cond_true, pick_ite, inI, c_in hlt, cond_true, pick_ite, this, cond_false]
      exact hc
  · exact ⟨[], .exit 0, _, LamOK.nil _ _, by rw [e, c_ge hge]; rfl, .inr ⟨by simp, by rw [show n = i by omega]; rfl⟩⟩

noncomputable def clearB (m : Nat) (f : Nat → Nat → Q) (w a : Int) : Bool :=
  andN [true, codF m f w == 0, (bif rightF m f w then lowS (gR f w m) m else 0) == a, (bif okYH m f w a 64 then (0 : Int) else 110) == 0, (bif okYH m f w a 64 then rI (gR f w m) f w a 64 false m else 0) == 0, (bif okYH m f w a 64 then rI (gR f w m) f w a 64 true m else 0) == 0]
noncomputable abbrev SC0 (m : Nat) (f : Nat → Nat → Q) (w : Int) : St := SC (plN m f w) (gR f w m) m f w 0 0
theorem clear.eq (m : Nat) (f : Nat → Nat → Q) (w a : Int) :
    funV Tryd.prog ΓL5 [(pC, orc false 107 0 [0, 1, 5, 6, 8, 9] (SC0 (fewN m) (gz f) w) (.leaf (FC (fewN m) (gz f) w a)))] Tryd.f8 (cod Tryd.f8) [lstF m f, V.i w] =
      .ite (bif !(codF (fewN m) (gz f) w == 0) then true else !((plN (fewN m) (gz f) w : Int) == (fewN m : Int))) (.leaf (V.b (andN [true, !(codF (fewN m) (gz f) w == 0)])))
        (.ite (@decide (SC0 (fewN m) (gz f) w = SC0 (fewN m) (gz f) w) (Classical.propDecidable _)) (.leaf (V.b (clearB (fewN m) (gz f) w a))) .bad) := by kernel_rfl

/-- Below all, nothing lies. -/
theorem below_none {n : Nat} {g f : Nat → Nat → Q} {w : Int} (hg : GOKr n g) (hw0 : 0 ≤ w) (hw1 : w ≤ MS) (b : Bool) : bad4 (lowS g n) 64 = false ∧ rI g f w (lowS g n) 64 b n = 0 := by
  obtain ⟨l0, l1⟩ := lowS_ge (g := g) n
  have l2 := hg.low n (Nat.le_refl _)
  have hb := nMS hg.hn
  have q : YH (lowS g n) 64 := ⟨l0, by omega, by omega, by simp only [MS]; omega⟩
  refine ⟨?_, ?_⟩
  · unfold bad4
    have h1 : decide (lowS g n < 0) = false := by rw [decide_eq_false_iff_not]; omega
    have h2 : decide (lowS g n > 67108864) = false := by rw [decide_eq_false_iff_not]; omega
    rw [h1, h2]; rfl
  · obtain ⟨_, _, _, _, h5⟩ := rI_all (f := f) hg q hw0 hw1 b n (Nat.le_refl _)
    refine h5 fun k hk hh => ?_
    have := l1 k hk
    rw [(hg.ends hk).1] at this
    obtain ⟨_, _, _, h4⟩ := hh
    omega

theorem clear_right {m : Nat} {f : Nat → Nat → Q} {w : Int} (hr : rightF m f w = true) : clearB m f w (lowS (gR f w m) m) = true := by
  have hF := right_ok.1 hr
  have hg := (gR_all hF m (Nat.le_refl _)).ok
  obtain ⟨h1, h2⟩ := below_none (f := f) hg hF.h0 hF.h1 false
  obtain ⟨_, h3⟩ := below_none (f := f) hg hF.h0 hF.h1 true
  simp only [clearB, okYH, codF, hr, h1, h2, h3, cond_true, Bool.not_false, andN, beq_self_eq_true]

def clear.s : List V → T V
  | [.q (.lst [.int .i64, .int .i64, .bool, .bool] m f), .q (.c (.int .i64 w))] => .leaf (V.b true)
  | _ => .bad
theorem clear.ok : SpecOK Tryd.prog 8 clear.s := by
  refine specOK_of_bodyW ΓL5.ok Tryd.func8 (isBody _ (by kernel_rfl)) (by kernel_rfl) fun args r hb h => ?_
  unfold clear.s at h
  split at h
  · rename_i m f w
    cases hr : rightF (fewN m) (gz f) w with
    | false =>
      refine ⟨_, _, fun _ _ _ x => x, LamOK.orc (p := pC) (mk := false) (nn := 107) (k := 0) (live := [0, 1, 5, 6, 8, 9]) (c := .loop bodyC) (by kernel_rfl) (loopC (plN (fewN m) (gz f) w) (gR (gz f) w (fewN m)) (fewN m) (gz f) w (by simp [plN, hr]) (by simp [plN, hr]) (by simp [plN, hr])) (LamOK.nil _ _), (congrArg T.pick (clear.eq m f w _)).trans ?_⟩
      rw [← h, pick_ite]
      simp only [codF, hr, cond_false]
      rfl
    | true =>
      have hF := right_ok.1 hr
      have hA := gR_all hF (fewN m) (Nat.le_refl _)
      have hm : plN (fewN m) (gz f) w ≤ 9223372036854775807 := by
        have := (fewN_le m).1
        simp only [plN, hr, cond_true]; omega
      have hpl : plN (fewN m) (gz f) w = fewN m := by simp only [plN, hr, cond_true]
      refine ⟨_, _, fun _ _ _ x => x, LamOK.orc (p := pC) (mk := false) (nn := 107) (k := 0) (live := [0, 1, 5, 6, 8, 9]) (c := .loop bodyC) (by kernel_rfl) (loopC (plN (fewN m) (gz f) w) (gR (gz f) w (fewN m)) (fewN m) (gz f) w hm (by rw [hpl]; exact Nat.le_refl _) (fun i hi hc => (hA.pr i (by omega)).yc hc)) (LamOK.nil _ _), (congrArg T.pick (clear.eq m f w _)).trans ?_⟩
      have hc : (bif !(codF (fewN m) (gz f) w == 0) then true else !((plN (fewN m) (gz f) w : Int) == (fewN m : Int))) = false := by
        rw [hpl]; simp only [codF, hr, cond_true, beq_self_eq_true]; rfl
      rw [← h, pick_ite, hc, cond_false, pick_same, hpl, clear_right hr]
  · cases h
end
theorem clear.all (n : Nat) (g : Nat → Nat → Q) (w : Int) (_ : n ≤ 9223372036854775807) (_ : Wf w) : (clear.s [lstF n g, V.i w]).pick = some (V.b true) := rfl

theorem clear_lifted (os : Os) (started : os.Started) (H : Type) (enc : TypeId × Value → H) :
    ReturnsInHanded {} Tryd.checked os 8 .any (fun w args => (Rows.floatClearSpec.pre enc Tryd.prog Tryd.f8 [] false w args ∧ laidMetH Tryd.prog laidL w) ∧ sizedMet enc Tryd.prog Tryd.f8 (OpenSpec.ofChange Rows.floatClearSpec) false w args)
      (Rows.floatClearSpec.post enc Tryd.prog Tryd.f8 false true false false) :=
  row_of (rt := 4) (shs := [(false, [.lst ksF]), (false, [.int .i64])]) H enc os started (fun e => @clear.ok e) Tryd.func8 (by kernel_rfl) (by kernel_rfl) rfl
    (fun ds hl => by
      have hl' : ds.length = 2 := hl
      match ds, hl' with
      | [d1, d2], _ => rfl)
    (by kernel_rfl)
    (fun xs h => by
      obtain ⟨x1, l, rfl, p1, h⟩ := pvs_cons h
      obtain ⟨x2, l, rfl, p2, h⟩ := pvs_cons h
      obtain rfl := pvs_nil h
      obtain ⟨n1, g1, rfl, hn1⟩ := pv_floats p1
      obtain ⟨n2, rfl, w2⟩ := pv_int p2
      exact clear.all n1 g1 n2 hn1 w2)
    (by kernel_rfl)
    (ChangeSpec.witness_at (enc := enc) (C := Tryd.checked) (os := os) (X := fun w _ => laidMetH Tryd.prog laidL w) false (laidWorld os) #[.slice none 0 0, .int .i64 0] 8 rfl (by kernel_rfl) (by kernel_rfl) (by kernel_rfl) (by kernel_rfl) (by kernel_rfl) (laidWorld_met os _))

theorem clear_row : Rows.FloatClearSaid :=
  OpenClaim.holds_of_wide 8 Tryd.f8 rfl rfl rfl rfl rfl rfl rfl ⟨rfl, rfl, rfl, rfl, rfl⟩ rfl rfl rfl rfl rfl (by kernel_rfl) Tryd.func8 (by kernel_rfl)
    (of_decide_eq_true (by kernel_rfl)) (by unfold Func.isWrapper; rw [if_neg (of_decide_eq_false (by kernel_rfl))]; exact ⟨rfl, rfl⟩)
    (fun os started H enc _ => clear_lifted os started H enc)

theorem clear_holds : Rows.FloatClearCardSaid :=
  Claim7.holds_tied_plain_at .later [] [.handle, .sentinel] true Rows.floatClearCard.stood.harness true
    clear_row (fun _ h => by cases h) (by kernel_rfl) (fun _ h => by cases h) floatClear_row_tie rfl ⟨rfl, rfl⟩ (by kernel_rfl) rfl
    (fun f fn hf hfn => by
      obtain rfl : f = 8 := Option.some.inj ((show Tryd.prog.funcNamed "gutter/gutterlaw11.FloatClear" = some 8 by kernel_rfl).symm.trans hf) |>.symm
      obtain rfl : fn = Tryd.f8 := (Option.some.inj (Tryd.func8.symm.trans hfn)).symm
      exact ⟨by kernel_rfl, fun j t ht => by
        have e : Tryd.f8.params.all (fun t => !(Tryd.pinned.checked.prog.wantsStandIn t)) = true := by kernel_rfl
        have := Array.all_eq_true_iff_forall_mem.1 e t (Array.mem_of_getElem? ht)
        simpa using this⟩)
    (by kernel_rfl)
#print axioms clear_holds
end Go.Proofs.YtcekbimohggnoaaDoor
