/- The package variables that are laid. -/
import Derived.Test.YtgmeglodnhagdaaGreatDoorSxA
import Derived.Test.YtgmeglodnhagdaaGreatDoorProg
import Derived.Lib.ItoaNum
namespace Go.Proofs.YtgmeglodnhagdaaGreatDoor
open Go Go.SX
set_option linter.unusedVariables false
set_option linter.unusedSectionVars false

/-- A type's handle, as errors.errorType holds it. -/
abbrev etV : Value := .iface 141 (.agg #[.pointer (some ⟨13, 56, none⟩)])
/-- An error that errors.New made, wherever it lies. -/
abbrev errP [EA] (i : Nat) : Value := .iface 188 (.pointer (some (EA.ea i)))
abbrev gl0 [EA] : List (Nat × Nat × Value) := [(1, 0, etV)]
  ++ [(0, 0, errP 0)]
  ++ [(2, 0, errP 1), ((EA.ea 1).block, (EA.ea 1).off, .string ⟨#[116, 111, 111, 32, 103, 114, 101, 97, 116]⟩), ((EA.ea 1).block, 0, .agg #[])]
  ++ [(5, 0, errP 2), ((EA.ea 2).block, (EA.ea 2).off, .string ⟨#[98, 121, 32, 110, 111, 116, 104, 105, 110, 103]⟩), ((EA.ea 2).block, 0, .agg #[])]
  ++ [(3, 0, errP 3), ((EA.ea 3).block, (EA.ea 3).off, .string ⟨#[110, 111, 32, 108, 101, 110, 103, 116, 104]⟩), ((EA.ea 3).block, 0, .agg #[])]
  ++ [(6, 0, errP 4), (7, 0, errP 5), (4, 0, .int .i64 EA.ml), (10, 0, .tuple (Lib.pow10Tab.map fun z => Value.int .u64 z).toArray)]
instance gw [EA] : GW := ⟨gl0⟩
theorem gl_et [EA] : (1, 0, etV) ∈ GW.gl := by simp [GW.gl, gl0]
theorem gl_style [EA] : (0, 0, errP 0) ∈ GW.gl := by simp [GW.gl, gl0]
theorem gl_over [EA] : (2, 0, errP 1) ∈ GW.gl := by simp [GW.gl, gl0]
theorem gl_zero [EA] : (5, 0, errP 2) ∈ GW.gl := by simp [GW.gl, gl0]
theorem gl_text [EA] : (3, 0, errP 3) ∈ GW.gl := by simp [GW.gl, gl0]
theorem gl_over1 [EA] : ((EA.ea 1).block, (EA.ea 1).off, .string ⟨#[116, 111, 111, 32, 103, 114, 101, 97, 116]⟩) ∈ GW.gl := by simp [GW.gl, gl0]
theorem gl_zero1 [EA] : ((EA.ea 2).block, (EA.ea 2).off, .string ⟨#[98, 121, 32, 110, 111, 116, 104, 105, 110, 103]⟩) ∈ GW.gl := by simp [GW.gl, gl0]
theorem gl_text1 [EA] : ((EA.ea 3).block, (EA.ea 3).off, .string ⟨#[110, 111, 32, 108, 101, 110, 103, 116, 104]⟩) ∈ GW.gl := by simp [GW.gl, gl0]
theorem gl_over2 [EA] : ((EA.ea 1).block, 0, .agg #[]) ∈ GW.gl := by simp [GW.gl, gl0]
theorem gl_zero2 [EA] : ((EA.ea 2).block, 0, .agg #[]) ∈ GW.gl := by simp [GW.gl, gl0]
theorem gl_text2 [EA] : ((EA.ea 3).block, 0, .agg #[]) ∈ GW.gl := by simp [GW.gl, gl0]
theorem gl_syn [EA] : (6, 0, errP 4) ∈ GW.gl := by simp [GW.gl, gl0]
theorem gl_rng [EA] : (7, 0, errP 5) ∈ GW.gl := by simp [GW.gl, gl0]
theorem gl_ml [EA] : (4, 0, .int .i64 EA.ml) ∈ GW.gl := by simp [GW.gl, gl0]
theorem gl_p10 [EA] : (10, 0, .tuple (Lib.pow10Tab.map fun z => Value.int .u64 z).toArray) ∈ GW.gl := by simp [GW.gl, gl0]
end Go.Proofs.YtgmeglodnhagdaaGreatDoor
