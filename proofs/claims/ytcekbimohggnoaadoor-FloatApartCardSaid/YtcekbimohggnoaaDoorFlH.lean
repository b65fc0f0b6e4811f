/- The document's answer for floats, one by one: where all are placed. -/
import Derived.Test.YtcekbimohggnoaaDoorFlG
namespace Go.Proofs.YtcekbimohggnoaaDoor
open Go Go.SX Go.Proofs
set_option maxRecDepth 100000
variable [EA]
set_option linter.unusedVariables false
set_option linter.unusedSectionVars false
set_option linter.unusedSimpArgs false

abbrev ΓRp : Gam := [(39, rleast.s), (40, rfits.s), (31, rends.s), (28, rinsets.s)]
theorem ΓRp.ok : GOK Tryd.prog ΓRp := .cons rleast.ok (.cons rfits.ok (.cons rends.ok (.cons rinsets.ok (GOK.nil _))))
abbrev vecOb (n : Nat) (g : Nat → Nat → Q) : Option Ob := some (.vec 39 ks4 n g)
abbrev celX (x : Fl) : Option Ob := some (.cells 37 [V.i x.w, V.i x.h, V.b x.r, V.b x.c])

/-! ### the inner loop -/
abbrev pIn : List Nat := [0, 0, 1, 1, 0, 0, 1, 0, 0, 1, 0, 1, 1]
noncomputable abbrev bodyIn : Code := loopAt Tryd.f29 pIn
def SIn (n : Nat) (g : Nat → Nat → Q) (m : Nat) (f : Nat → Nat → Q) (w : Int) (x : Fl) (i y : Int) : St := mkS 69 [(0, lstF m f), (1, V.i w), (5, .own 0), (6, V.i i), (7, .ptr 1 0), (8, V.i y)] [vecOb n g, celX x] [] false [] 0
def FIn (n : Nat) (g : Nat → Nat → Q) (m : Nat) (f : Nat → Nat → Q) (w : Int) (x : Fl) (i y : Int) : Ex × St := (.exit 2, SIn n g m f w x i y)
def liveIn : Ex → List Nat := fun _ => [0, 1, 5, 6, 7, 8]
theorem stepIn (n : Nat) (g : Nat → Nat → Q) (m : Nat) (f : Nat → Nat → Q) (w : Int) (x : Fl) (i y : Int) :
    (sx Tryd.prog ΓRp [] (0 :: pIn) bodyIn (SIn n g m f w x i y)).bind (fun x => T.leaf (x.1, deadS [] (canS 69 2 (liveIn x.1) x.2), chkM 69 2 x.2))
     = .ite (decide (n ≤ m)) (.ite (!(fitsB n g f w x y)) (.leaf (.normal, SIn n g m f w x i (rEb g y n).1, true)) (.leaf ((FIn n g m f w x i y).1, (FIn n g m f w x i y).2, true))) .bad := by kernel_rfl
/-- Where it is asked, one time behind the other. -/
def ryK (n : Nat) (g : Nat → Nat → Q) (y : Int) : Nat → Int
  | 0 => y
  | k + 1 => (rEb g (ryK n g y k) n).1
abbrev StopR (n : Nat) (g f : Nat → Nat → Q) (w : Int) (x : Fl) (y : Int) (k : Nat) : Prop := fitsB n g f w x (ryK n g y k) = true
noncomputable def lastR (n : Nat) (g f : Nat → Nat → Q) (w : Int) (x : Fl) (y : Int) : Nat := @dite _ (∃ k, StopR n g f w x y k) (Classical.propDecidable _) (fun h => leastOf _ h) (fun _ => 0)
theorem lastR_spec {n : Nat} {g f : Nat → Nat → Q} {w : Int} {x : Fl} {y : Int} (h : ∃ k, StopR n g f w x y k) : StopR n g f w x y (lastR n g f w x y) := by
  unfold lastR
  rw [dif_pos h]
  exact leastOf_spec _ h
theorem lastR_before {n : Nat} {g f : Nat → Nat → Q} {w : Int} {x : Fl} {y : Int} (h : ∃ k, StopR n g f w x y k) {k : Nat} (hk : k < lastR n g f w x y) : fitsB n g f w x (ryK n g y k) = false := by
  cases ht : fitsB n g f w x (ryK n g y k) with
  | false => rfl
  | true =>
    unfold lastR at hk
    rw [dif_pos h] at hk
    have := leastOf_le _ h k ht
    omega
noncomputable def rfinY (n : Nat) (g f : Nat → Nat → Q) (w : Int) (x : Fl) (y : Int) : Int := ryK n g y (lastR n g f w x y)
theorem loopIn (n : Nat) (g : Nat → Nat → Q) (m : Nat) (f : Nat → Nat → Q) (w : Int) (x : Fl) (i y : Int) (hnm : n ≤ m) (hst : ∃ k, StopR n g f w x y k) :
    ∀ z, (T.leaf (FIn n g m f w x i (rfinY n g f w x y))).pick = some z → SemC Tryd.prog (.loop bodyIn) (SIn n g m f w x i y) z := by
  refine loop_tree ΓRp.ok (root := cod Tryd.f29) (p := pIn) (by kernel_rfl) (fun k => k ≤ lastR n g f w x y) (fun k => SIn n g m f w x i (ryK n g y k)) (fun k => lastR n g f w x y - k) (.leaf (FIn n g m f w x i (rfinY n g f w x y))) 69 2 liveIn (fun _ => []) (fun k hk => ?_) 0 (Nat.zero_le _)
  have e := stepIn n g m f w x i (ryK n g y k)
  rw [decide_eq_true hnm] at e
  rcases Nat.lt_or_ge k (lastR n g f w x y) with hlt | hge
  · exact ⟨[], .normal, SIn n g m f w x i (ryK n g y (k + 1)), LamOK.nil _ _, by rw [e, lastR_before hst hlt]; rfl, .inl ⟨rfl, k + 1, hlt, by omega, rfl⟩⟩
  · have hk' : k = lastR n g f w x y := by omega
    subst hk'
    exact ⟨[], .exit 2, _, LamOK.nil _ _, by rw [e, lastR_spec hst]; rfl, .inr ⟨by simp, rfl⟩⟩

/-! ### the outer loop -/
abbrev rAt (n : Nat) (g f : Nat → Nat → Q) (w : Int) (x : Fl) (y : Int) : Int := bif x.r then mx2 (w64 (w64 (w - rI g f w y x.h true n) - x.w)) 0 else rI g f w y x.h false n
noncomputable abbrev rplY (n : Nat) (g f : Nat → Nat → Q) (w : Int) (x : Fl) : Int := rfinY n g f w x (leY n g x (yB n g))
noncomputable abbrev rplR (n : Nat) (g f : Nat → Nat → Q) (w : Int) (x : Fl) : Rc := ⟨rAt n g f w x (rplY n g f w x), rplY n g f w x, x.w, x.h⟩
noncomputable def gR (f : Nat → Nat → Q) (w : Int) : Nat → Nat → Nat → Q
  | 0 => fun _ _ => default
  | i + 1 => catG i (gR f w i) (one1 (rplR i (gR f w i) f w (gFl f i)))
def SOu (n : Nat) (g : Nat → Nat → Q) (m : Nat) (f : Nat → Nat → Q) (w : Int) (i : Int) : St := mkS 69 [(0, lstF m f), (1, V.i w), (5, .own 0), (6, V.i i)] [vecOb n g] [] false [] 0
def FOu (n : Nat) (g : Nat → Nat → Q) : Ex × St := (.exit 0, mkS 69 [(5, .own 0)] [vecOb n g] [] false [] 0)
def liveOu : Ex → List Nat | .normal => [0, 1, 5, 6] | _ => [5]
def mvOu : Ex → List (Nat × Nat) | .normal => [(2, 0)] | _ => []
noncomputable abbrev bodyOu : Code := loopAt Tryd.f29 [0, 1, 0, 1, 1]
noncomputable abbrev orcIn (n : Nat) (g : Nat → Nat → Q) (m : Nat) (f : Nat → Nat → Q) (w : Int) (x : Fl) (i y Y : Int) : Lam := [(pIn, orc false 69 2 [0, 1, 5, 6, 7, 8] (SIn n g m f w x i y) (.leaf (FIn n g m f w x i Y)))]
noncomputable abbrev appT (n : Nat) (g : Nat → Nat → Q) (m : Nat) (f : Nat → Nat → Q) (w : Int) (x : Fl) (i Y a : Int) : T (Ex × St × Bool) :=
  .ite (roomB n 1 32) (.leaf (.normal, SOu (n + 1) (catG n g (one1 ⟨a, Y, x.w, x.h⟩)) m f w (w64 (i + 1)), true)) .bad
theorem stepOu (n : Nat) (g : Nat → Nat → Q) (m : Nat) (f : Nat → Nat → Q) (w : Int) (i : Nat) (Y : Int) :
    (sx Tryd.prog ΓRp (orcIn n g m f w (gFl f i) i (leY n g (gFl f i) (yB n g)) Y) [0, 0, 1, 0, 1, 1] bodyOu (SOu n g m f w i)).bind (fun x => T.leaf (x.1, deadS [] (canS 69 1 (liveOu x.1) (mvL (mvOu x.1) x.2)), chkM 69 1 (mvL (mvOu x.1) x.2)))
     = .ite (decide ((i : Int) < m)) (.ite (inI i m) (.ite (@decide (SIn n g m f w (gFl f i) i (leY n g (gFl f i) (yB n g)) = SIn n g m f w (gFl f i) i (leY n g (gFl f i) (yB n g))) (Classical.propDecidable _))
        (.ite (decide (n ≤ m)) (.ite (gFl f i).r (appT n g m f w (gFl f i) i Y (mx2 (w64 (w64 (w - rI g f w Y (gFl f i).h true n) - (gFl f i).w)) 0)) (appT n g m f w (gFl f i) i Y (rI g f w Y (gFl f i).h false n))) .bad) .bad) .bad)
        (.leaf ((FOu n g).1, (FOu n g).2, true)) := by kernel_rfl
theorem stepOx (n : Nat) (g : Nat → Nat → Q) (m : Nat) (f : Nat → Nat → Q) (w : Int) (i : Nat) :
    (sx Tryd.prog ΓRp [] [0, 0, 1, 0, 1, 1] bodyOu (SOu n g m f w i)).bind (fun x => T.leaf (x.1, deadS [] (canS 69 1 (liveOu x.1) (mvL (mvOu x.1) x.2)), chkM 69 1 (mvL (mvOu x.1) x.2)))
     = .ite (decide ((i : Int) < m)) (.ite (inI i m) .bad .bad) (.leaf ((FOu n g).1, (FOu n g).2, true)) := by kernel_rfl

abbrev allRp (m : Nat) (f : Nat → Nat → Q) (w : Int) : Prop := m ≤ 1000000 ∧ ∀ i, i < m → ∃ k, StopR i (gR f w i) f w (gFl f i) (leY i (gR f w i) (gFl f i) (yB i (gR f w i))) k
theorem loopOu (m : Nat) (f : Nat → Nat → Q) (w : Int) (hall : allRp m f w) : ∀ x, (T.leaf (FOu m (gR f w m))).pick = some x → SemC Tryd.prog (.loop bodyOu) (SOu 0 (gR f w 0) m f w 0) x := by
  refine loop_treeM ΓRp.ok (root := cod Tryd.f29) (p := [0, 1, 0, 1, 1]) (by kernel_rfl) (fun i => i ≤ m) (fun i => SOu i (gR f w i) m f w i) (fun i => m - i) (.leaf (FOu m (gR f w m))) 69 1 liveOu (fun _ => []) mvOu (fun i hi => ?_) 0 (Nat.zero_le _)
  have hm : m ≤ 9223372036854775807 := by have := hall.1; omega
  rcases Nat.lt_or_ge i m with hlt | hge
  · have e := stepOu i (gR f w i) m f w i (rplY i (gR f w i) f w (gFl f i))
    have hst := hall.2 i hlt
    have hr : roomB i 1 32 = true := by have := hall.1; simp [roomB]; omega
    refine ⟨orcIn i (gR f w i) m f w (gFl f i) i (leY i (gR f w i) (gFl f i) (yB i (gR f w i))) (rplY i (gR f w i) f w (gFl f i)), .normal, SOu (i + 1) (gR f w (i + 1)) m f w (i + 1 : Nat), LamOK.orc (c := .loop bodyIn) (by kernel_rfl) (loopIn i (gR f w i) m f w (gFl f i) i _ (Nat.le_of_lt hlt) hst) (LamOK.nil _ _), ?_, .inl ⟨rfl, i + 1, hlt, by omega, rfl⟩⟩
    rw [e, c_lt hlt, inI, c_in hlt, pick_ite, cond_true, pick_ite, cond_true, pick_same, decide_eq_true (Nat.le_of_lt hlt), pick_ite, cond_true, pick_ite, appT, appT, hr, w64_suc hlt hm, pick_ite, pick_ite]
    simp only [gR, rplR, rAt]
    cases qBool (f i 2) <;> rfl
  · have e := stepOx i (gR f w i) m f w i
    exact ⟨[], .exit 0, _, LamOK.nil _ _, by rw [e, c_ge hge]; rfl, .inr ⟨by simp, by rw [show m = i by omega]; rfl⟩⟩

noncomputable abbrev rplace.s := spFW fun m f w => .ite (@decide (allRp m f w) (Classical.propDecidable _)) (.leaf (lst4 m (gR f w m))) .bad
theorem rplace.ok : SpecOK Tryd.prog 29 rplace.s := by
  refine okFW ΓRp.ok Tryd.func29 (by kernel_rfl) (by kernel_rfl) fun m f w v hb hv => ?_
  by_cases hall : allRp m f w
  · refine ⟨[([0, 1, 0, 1, 1], orcP (nilV 5 0 39 ks4) false 69 1 [0, 1, 5, 6] (SOu 0 (gR f w 0) m f w 0) (.leaf (FOu m (gR f w m))))], LamOK.orcP (fun s => sub_nilV _ _ _ _ s) (c := .loop bodyOu) (by kernel_rfl) (loopOu m f w hall) (LamOK.nil _ _), ?_⟩
    have e : ∀ g : Nat → Nat → Q, funV Tryd.prog ΓRp [([0, 1, 0, 1, 1], orcP (nilV 5 0 39 ks4) false 69 1 [0, 1, 5, 6] (SOu 0 (gR f w 0) m f w 0) (.leaf (FOu m g)))] Tryd.f29 (cod Tryd.f29) [lstF m f, V.i w] =
        .ite (@decide (SOu 0 (gR f w 0) m f w 0 = SOu 0 (gR f w 0) m f w 0) (Classical.propDecidable _)) (.leaf (lst4 m g)) .bad := fun g => by kernel_rfl
    rw [e, ← hv, pick_same, pick_ite, @decide_eq_true _ (Classical.propDecidable _) hall]; rfl
  · rw [pick_ite, @decide_eq_false _ (Classical.propDecidable _) hall] at hv
    cases hv
end Go.Proofs.YtcekbimohggnoaaDoor
