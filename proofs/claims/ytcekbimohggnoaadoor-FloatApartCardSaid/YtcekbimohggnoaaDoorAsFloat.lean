/- errors.Is at float's own error: what its told says of it. -/
import Derived.Test.YtcekbimohggnoaaDoorToldRect
namespace Go.Proofs.YtcekbimohggnoaaDoor.AsFloat
open Go Go.SX Go.RowKit Go.Extern.Stop Go.Stop Go.Extern Go.Proofs.YtcekbimohggnoaaDoor.AsRect
set_option linter.unusedVariables false
set_option linter.unusedSimpArgs false

abbrev ES : Nat := 127

theorem isTypeOf (v : Value) (w : World) : (Extern.ReflectliteType.typeOf #[.iface ES v]).run Tryd.prog w = .ok (.iface R (.agg #[hd ES])) w := by kernel_rfl
abbrev compX : Array Value → Sem Value := Extern.ReflectliteType.method fun t => do Extern.Rtype.noPackHeld "Comparable" t; pure (.bool (← typeInfo t).comparable)
theorem isComparable (w : World) : (compX #[.agg #[hd ES]]).run Tryd.prog w = .ok (.bool true) w := by kernel_rfl
theorem isMethodComparable (d : Nat) (v : Value) (w : World) : (Go.method (d + 60) R v "Comparable").run Tryd.prog w = .ok (82, v) w := by kernel_rfl
theorem isComp : (Tryd.prog.info? ES).map (·.comparable) = some true := by kernel_rfl
theorem isSize : (Tryd.prog.info? 149).map (·.size) = some 1 := by kernel_rfl
/-- errors.Is(x, x), x a pointer to an errors.errorString. -/
theorem is_same (a : Addr) (w : World) :
    Calls Tryd.prog 37 #[.iface ES (.pointer (some a)), .iface ES (.pointer (some a))] w fun e w' => e = .returned (.bool true) ∧ w' = w := by
  obtain ⟨i, hi, hcmp⟩ := Option.map_eq_some_iff.1 isComp
  obtain ⟨j, hj, hjs⟩ := Option.map_eq_some_iff.1 isSize
  have h8 := @run_callFunc_extern Tryd.prog 46 _ Extern.ReflectliteType.typeOf Tryd.func46 (by kernel_rfl) (by kernel_rfl) (by kernel_rfl) (by kernel_rfl)
  have h32 := @run_callFunc_extern Tryd.prog 82 _ compX Tryd.func82 (by kernel_rfl) (by kernel_rfl) (by kernel_rfl) (by kernel_rfl)
  have tT := isTypeOf
  have cT := isComparable
  have mR := isMethodComparable
  have heq := run_eql_iface_ptr_same (P := Tryd.prog) w a Tryd.underlying47 Tryd.underlying127 hi hcmp hj
  go_enter Tryd.func37, Tryd.ntmps37
  go_wp2
  refine wp_loop_rounds 1 ?_
  rw [rounds_succ]
  go_wp2
  go_ret
  exact ⟨rfl, rfl⟩

theorem told_run (a : Addr) (w : World) (hg : w.cell? ⟨0, 0, none⟩ = some (.iface ES (.pointer (some a)))) :
    Calls Tryd.prog 25 #[.iface ES (.pointer (some a))] w fun e w' => e = .returned (.int .i64 110) ∧ w' = w := by
  go_enter Tryd.func25, Tryd.ntmps25
  go_wp2_with (first | (go_at_call 37; refine (is_same a _).mono ?_; rintro e w' ⟨rfl, rfl⟩))
  go_ret
  exact ⟨rfl, rfl⟩

variable [EA]
noncomputable def ftold.s : List V → T V := fun args => .ite (@decide (args = [.q (.c errF)]) (Classical.propDecidable _)) (.leaf (V.i 110)) .bad

theorem ftold.ok : SpecOK Tryd.prog 25 ftold.s := by
  refine ⟨by kernel_rfl, fun S w args vals r hS hg _ hd hr => ?_⟩
  unfold ftold.s at hr
  simp only [T.pick] at hr
  cases hb : @decide (args = [.q (.c errF)]) (Classical.propDecidable _) with
  | false => rw [hb] at hr; cases hr
  | true =>
    have e := @of_decide_eq_true _ (Classical.propDecidable _) hb
    subst e
    rw [hb] at hr
    cases hr
    cases hd with
    | cons x v l us hx hl =>
      cases hl
      have := hx.q_inv
      cases this
      refine (told_run (EA.ea 0) w (hg _ (List.mem_cons_of_mem _ List.mem_cons_self))).mono fun ev w' ⟨h1, h2⟩ => ?_
      subst h2
      exact ⟨_, h1, Below.refl _ _, .q _ _ (.c _)⟩
end Go.Proofs.YtcekbimohggnoaaDoor.AsFloat
