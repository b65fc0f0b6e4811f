/- The functions of float, one by one: all are placed. -/
import Derived.Test.YtcekbimohggnoaaDoorFlD
import Derived.Test.YtcekbimohggnoaaDoorSxZn
namespace Go.Proofs.YtcekbimohggnoaaDoor
open Go Go.SX Go.Proofs
set_option maxRecDepth 100000
variable [EA]
set_option linter.unusedVariables false
set_option linter.unusedSectionVars false
set_option linter.unusedSimpArgs false

/-- The first i, placed. -/
noncomputable def gP (f : Nat → Nat → Q) (w : Int) : Nat → Nat → Nat → Q
  | 0 => fun _ _ => default
  | i + 1 => plG i (gP f w i) f w (gFl f i)
abbrev errFV : V := .q (.c AsRect.errF)
noncomputable abbrev ΓQ : Gam := [(21, fRight.s), (36, .x true place.s), (0 + 1048576, .g AsRect.errF)]
theorem ΓQ.ok : GOK Tryd.prog ΓQ := .cons fRight.ok (.consX place.ok (.consG (List.mem_cons_of_mem _ List.mem_cons_self) (GOK.nil _)))

def SQ (n : Nat) (g : Nat → Nat → Q) (m : Nat) (f : Nat → Nat → Q) (w : Int) (i : Int) : St := mkS 29 [(6, .ptr 0 0), (18, lstF m f), (19, V.i m), (20, V.i i)] [some (rowOb n g m f w)] [] false [] 0
def FQ (n : Nat) (g : Nat → Nat → Q) (m : Nat) (f : Nat → Nat → Q) (w : Int) : Ex × St := (.exit 0, mkS 29 [(6, .ptr 0 0)] [some (rowOb n g m f w)] [] false [] 0)
def liveQ : Ex → List Nat | .normal => [6, 18, 19, 20] | _ => [6]
noncomputable abbrev bodyQ : Code := loopAt Tryd.f24 [0, 1, 0, 1, 1, 1]
theorem stepQ (n : Nat) (g : Nat → Nat → Q) (m : Nat) (f : Nat → Nat → Q) (w : Int) (i : Nat) :
    (sx Tryd.prog ΓQ [] [0, 0, 1, 0, 1, 1, 1] bodyQ (SQ n g m f w i)).bind (fun x => T.leaf (x.1, deadS [] (canS 29 1 (liveQ x.1) x.2), chkM 29 1 x.2))
     = .ite (decide ((i : Int) < m)) (.ite (decide (0 ≤ (i : Int) ∧ (i : Int) < m)) (.ite (@decide (plOK n g m f w (gFl f i)) (Classical.propDecidable _)) (.leaf (.normal, SQ (n + 1) (plG n g f w (gFl f i)) m f w (w64 (i + 1)), true)) .bad) .bad)
        (.leaf ((FQ n g m f w).1, (FQ n g m f w).2, true)) := by kernel_rfl
abbrev allPl (m : Nat) (f : Nat → Nat → Q) (w : Int) : Prop := ∀ i, i < m → plOK i (gP f w i) m f w (gFl f i)
theorem loopQ (m : Nat) (f : Nat → Nat → Q) (w : Int) (hn : m ≤ 9223372036854775807) (hall : allPl m f w) : ∀ x, (T.leaf (FQ m (gP f w m) m f w)).pick = some x → SemC Tryd.prog (.loop bodyQ) (SQ 0 (gP f w 0) m f w 0) x := by
  refine loop_tree ΓQ.ok (root := cod Tryd.f24) (p := [0, 1, 0, 1, 1, 1]) (by kernel_rfl) (fun i => i ≤ m) (fun i => SQ i (gP f w i) m f w i) (fun i => m - i) (.leaf (FQ m (gP f w m) m f w)) 29 1 liveQ (fun _ => []) (fun i hi => ?_) 0 (Nat.zero_le _)
  have e := stepQ i (gP f w i) m f w i
  rcases Nat.lt_or_ge i m with hlt | hge
  · exact ⟨[], .normal, SQ (i + 1) (gP f w (i + 1)) m f w (i + 1 : Nat), LamOK.nil _ _, by rw [e, c_lt hlt, c_in hlt, w64_suc hlt hn, pick_ite, cond_true, pick_ite, cond_true, pick_ite, @decide_eq_true _ (Classical.propDecidable _) (hall i hlt)]; rfl, .inl ⟨rfl, i + 1, hlt, by omega, rfl⟩⟩
  · exact ⟨[], .exit 0, _, LamOK.nil _ _, by rw [e, c_ge hge]; rfl, .inr ⟨by simp, by rw [show m = i by omega]; rfl⟩⟩

noncomputable abbrev placed.s := spFW fun m f w => .ite (rightF m f w) (.ite (@decide (allPl m f w) (Classical.propDecidable _)) (.leaf (.tup [.q (row3 m (gP f w m) m f w), nilE])) .bad) (.leaf (.tup [.q (.c (.pointer none)), errFV]))
theorem placed.ok : SpecOK Tryd.prog 24 placed.s := by
  refine okFW ΓQ.ok Tryd.func24 (by kernel_rfl) (by kernel_rfl) fun m f w v hb hv => ?_
  by_cases hall : allPl m f w
  · refine ⟨[([0, 1, 0, 1, 1, 1], orcP (nilC 0 0 ks4) false 29 1 [6, 18, 19, 20] (SQ 0 (gP f w 0) m f w 0) (.leaf (FQ m (gP f w m) m f w)))], LamOK.orcP (fun s => sub_nilC _ _ _ s) (c := .loop bodyQ) (by kernel_rfl) (loopQ m f w hb hall) (LamOK.nil _ _), ?_⟩
    have e : ∀ g : Nat → Nat → Q, funV Tryd.prog ΓQ [([0, 1, 0, 1, 1, 1], orcP (nilC 0 0 ks4) false 29 1 [6, 18, 19, 20] (SQ 0 (gP f w 0) m f w 0) (.leaf (FQ m g m f w)))] Tryd.f24 (cod Tryd.f24) [lstF m f, V.i w] =
        .ite (!(rightF m f w)) (.leaf (.tup [.q (.c (.pointer none)), errFV])) (.ite (@decide (SQ 0 (gP f w 0) m f w 0 = SQ 0 (gP f w 0) m f w 0) (Classical.propDecidable _)) (.leaf (.tup [.q (row3 m g m f w), nilE])) .bad) := fun g => by kernel_rfl
    rw [e, ← hv, pick_ite, pick_same, pick_ite, pick_ite, @decide_eq_true _ (Classical.propDecidable _) hall]
    cases rightF m f w <;> rfl
  · refine ⟨[], LamOK.nil _ _, ?_⟩
    have e : funV Tryd.prog ΓQ [] Tryd.f24 (cod Tryd.f24) [lstF m f, V.i w] = .ite (!(rightF m f w)) (.leaf (.tup [.q (.c (.pointer none)), errFV])) .bad := by kernel_rfl
    rw [e, ← hv, pick_ite, pick_ite, pick_ite, @decide_eq_false _ (Classical.propDecidable _) hall]
    cases rightF m f w <;> rfl
end Go.Proofs.YtcekbimohggnoaaDoor
