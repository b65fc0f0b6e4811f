/- The card of FloatAhead: where floats are placed hangs on those ahead alone. -/
import Derived.Test.YtcekbimohggnoaaDoorFlO
namespace Go.Proofs.YtcekbimohggnoaaDoor
open Go Go.SX Go.Proofs Go.RowKit Go.ChangeShapes
set_option maxRecDepth 100000
set_option linter.unusedVariables false
set_option linter.unusedSectionVars false
set_option linter.unusedSimpArgs false

section
variable [EA]
noncomputable abbrev ΓL3 : Gam := [(10, shown.s), (11, few.s), (16, fPlace.s), (17, rects.s)]
theorem ΓL3.ok : GOK Tryd.prog ΓL3 := .cons shown.ok (.cons few.ok (.cons fPlace.ok (.cons rects.ok (GOK.nil _))))
abbrev headN (n : Int) (m : Nat) : Int := mn2 (mx2 n 0) m
abbrev cutK (k : Int) : Nat := k.toNat - (0 : Int).toNat
noncomputable abbrev aheadT (m : Nat) (f : Nat → Nat → Q) (w k : Int) : T V :=
  .ite (decide ((0 : Int) ≤ 0 ∧ (0 : Int) ≤ k ∧ k ≤ (m : Int)))
    (.ite (!(codF m f w == 0)) (.leaf (V.b true))
      (.ite true (.ite (codF (cutK k) (gz f) w == 0) (.ite ((plN m f w : Int) == (m : Int)) (.ite (decide ((0 : Int) ≤ 0 ∧ (0 : Int) ≤ k ∧ k ≤ (plN m f w : Int))) (.leaf (V.b (rectsB (cutK k) (gz (gR f w m)) (plN (cutK k) (gz f) w) (gR (gz f) w (cutK k))))) .bad) (.leaf (V.b false))) (.leaf (V.b false))) (.leaf (V.b false)))) .bad
theorem ahead.eq (m : Nat) (f : Nat → Nat → Q) (w n : Int) :
    funV Tryd.prog ΓL3 [] Tryd.f4 (cod Tryd.f4) [lstF m f, V.i w, V.i n] = aheadT (fewN m) (gz f) w (headN n (fewN m)) := by kernel_rfl
theorem FOK.le {m n : Nat} {f : Nat → Nat → Q} {w : Int} (h : FOK m f w) (hn : n ≤ m) : FOK n f w := ⟨by have := h.hm; omega, h.h0, h.h1, fun i hi => h.hf i (by omega)⟩
theorem ahead_true (m : Nat) (f : Nat → Nat → Q) (w k : Int) (h0 : 0 ≤ k) (h1 : k ≤ m) : (aheadT m f w k).pick = some (V.b true) := by
  have c1 : decide ((0 : Int) ≤ 0 ∧ (0 : Int) ≤ k ∧ k ≤ (m : Int)) = true := by simp; omega
  unfold aheadT
  rw [pick_ite, c1, cond_true, pick_ite]
  cases hr : rightF m f w with
  | false => simp only [codF, hr, cond_false]; rfl
  | true =>
    have hF := right_ok.1 hr
    have hN : cutK k ≤ m := by simp only [cutK]; omega
    have hr' : rightF (cutK k) f w = true := right_ok.2 (hF.le hN)
    have hcN : ((cutK k : Nat) : Int) = k := by simp only [cutK]; omega
    simp only [codF, plN, gz_id, hr, hr', cond_true]
    rw [show (!((0 : Int) == 0)) = false from rfl, cond_false, pick_ite, cond_true, pick_ite, show ((0 : Int) == 0) = true from rfl, cond_true, pick_ite, beq_self_eq_true, cond_true, pick_ite, c1, cond_true]
    have : rectsB (cutK k) (gR f w m) (cutK k) (gR f w (cutK k)) = true := by
      unfold rectsB
      rw [beq_self_eq_true, sameB_of (gR_pre f w m hN)]; rfl
    rw [this]; rfl
def ahead.s : List V → T V
  | [.q (.lst [.int .i64, .int .i64, .bool, .bool] m f), .q (.c (.int .i64 w)), .q (.c (.int .i64 n))] => .leaf (V.b true)
  | _ => .bad
theorem ahead.ok : SpecOK Tryd.prog 4 ahead.s := by
  refine specOK_of_body ΓL3.ok (LamOK.nil _ _) Tryd.func4 (isBody _ (by kernel_rfl)) (by kernel_rfl) fun args r h => ?_
  unfold ahead.s at h
  split at h
  · rename_i m f w n
    rw [ahead.eq, ahead_true _ _ _ _ (by simp only [headN, mn2_eq, mx2_eq]; omega) (by simp only [headN, mn2_eq, mx2_eq]; omega)]; exact h
  · cases h
end
theorem ahead.all (n : Nat) (g : Nat → Nat → Q) (w k : Int) (_ : n ≤ 9223372036854775807) (_ : Wf w) (_ : Wf k) : (ahead.s [lstF n g, V.i w, V.i k]).pick = some (V.b true) := rfl

theorem ahead_lifted (os : Os) (started : os.Started) (H : Type) (enc : TypeId × Value → H) :
    ReturnsInHanded {} Tryd.checked os 4 .any (fun w args => (Rows.floatAheadSpec.pre enc Tryd.prog Tryd.f4 [] false w args ∧ laidMetH Tryd.prog laidL w) ∧ sizedMet enc Tryd.prog Tryd.f4 (OpenSpec.ofChange Rows.floatAheadSpec) false w args)
      (Rows.floatAheadSpec.post enc Tryd.prog Tryd.f4 false true false false) :=
  row_of (rt := 4) (shs := [(false, [.lst ksF]), (false, [.int .i64]), (false, [.int .i64])]) H enc os started (fun e => @ahead.ok e) Tryd.func4 (by kernel_rfl) (by kernel_rfl) rfl
    (fun ds hl => by
      have hl' : ds.length = 3 := hl
      match ds, hl' with
      | [d1, d2, d3], _ => rfl)
    (by kernel_rfl)
    (fun xs h => by
      obtain ⟨x1, l, rfl, p1, h⟩ := pvs_cons h
      obtain ⟨x2, l, rfl, p2, h⟩ := pvs_cons h
      obtain ⟨x3, l, rfl, p3, h⟩ := pvs_cons h
      obtain rfl := pvs_nil h
      obtain ⟨n1, g1, rfl, hn1⟩ := pv_floats p1
      obtain ⟨n2, rfl, w2⟩ := pv_int p2
      obtain ⟨n3, rfl, w3⟩ := pv_int p3
      exact ahead.all n1 g1 n2 n3 hn1 w2 w3)
    (by kernel_rfl)
    (ChangeSpec.witness_at (enc := enc) (C := Tryd.checked) (os := os) (X := fun w _ => laidMetH Tryd.prog laidL w) false (laidWorld os) #[.slice none 0 0, .int .i64 0, .int .i64 0] 8 rfl (by kernel_rfl) (by kernel_rfl) (by kernel_rfl) (by kernel_rfl) (by kernel_rfl) (laidWorld_met os _))

theorem ahead_row : Rows.FloatAheadSaid :=
  OpenClaim.holds_of_wide 4 Tryd.f4 rfl rfl rfl rfl rfl rfl rfl ⟨rfl, rfl, rfl, rfl, rfl⟩ rfl rfl rfl rfl rfl (by kernel_rfl) Tryd.func4 (by kernel_rfl)
    (of_decide_eq_true (by kernel_rfl)) (by unfold Func.isWrapper; rw [if_neg (of_decide_eq_false (by kernel_rfl))]; exact ⟨rfl, rfl⟩)
    (fun os started H enc _ => ahead_lifted os started H enc)

theorem ahead_holds : Rows.FloatAheadCardSaid :=
  Claim7.holds_tied_plain_at .later [] [.handle, .sentinel] true Rows.floatAheadCard.stood.harness true
    ahead_row (fun _ h => by cases h) (by kernel_rfl) (fun _ h => by cases h) floatAhead_row_tie rfl ⟨rfl, rfl⟩ (by kernel_rfl) rfl
    (fun f fn hf hfn => by
      obtain rfl : f = 4 := Option.some.inj ((show Tryd.prog.funcNamed "gutter/gutterlaw11.FloatAhead" = some 4 by kernel_rfl).symm.trans hf) |>.symm
      obtain rfl : fn = Tryd.f4 := (Option.some.inj (Tryd.func4.symm.trans hfn)).symm
      exact ⟨by kernel_rfl, fun j t ht => by
        have e : Tryd.f4.params.all (fun t => !(Tryd.pinned.checked.prog.wantsStandIn t)) = true := by kernel_rfl
        have := Array.all_eq_true_iff_forall_mem.1 e t (Array.mem_of_getElem? ht)
        simpa using this⟩)
    (by kernel_rfl)
#print axioms ahead_holds
end Go.Proofs.YtcekbimohggnoaaDoor
