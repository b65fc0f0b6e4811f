/- What rect's told says of an error, as a contract. -/
import Derived.Test.YtcekbimohggnoaaDoorAsRect
import Derived.Test.YtcekbimohggnoaaDoorSxN
namespace Go.Proofs.YtcekbimohggnoaaDoor.AsRect
open Go Go.SX Go.RowKit Go.Extern.Stop Go.Stop Go.Extern
variable [EA]
set_option linter.unusedVariables false
set_option linter.unusedSectionVars false
set_option linter.unusedSimpArgs false

/-- told at a refusal: its reason. -/
theorem told_hit (e : Int) (w : World) (hg : w.cell? ⟨1, 0, none⟩ = some (.iface R (.agg #[hd ER]))) :
    Calls Tryd.prog 53 #[.iface E (.agg #[.int .i64 e])] w fun ev w' => ev = .returned (.int .i64 e) ∧ Below w.heap.size w w' := by
  have hlt : 1 < w.heap.size := by
    rcases Nat.lt_or_ge 1 w.heap.size with h | h
    · exact h
    · simp [World.cell?, Array.getElem?_eq_none h] at hg
  have hgA : (w.alloc (.cells #[.int .i64 0] E)).cell? ⟨1, 0, none⟩ = some (.iface R (.agg #[hd ER])) := by
    rw [World.cell?_alloc_lt _ _ ⟨1, 0, none⟩ hlt]; exact hg
  have htA : (w.alloc (.cells #[.int .i64 0] E)).cell? ⟨w.heap.size, 0, none⟩ = some (.int .i64 0) := by simp
  have hfA : (w.alloc (.cells #[.int .i64 0] E)).frozen? ⟨w.heap.size, 0, none⟩ = false := by simp
  have hB : Below w.heap.size w (((((w.alloc (.cells #[.int .i64 e] E)).alloc (.cells #[.pointer (some ⟨w.heap.size, 0, none⟩)] PE)).alloc (.cells #[hd PE, .pointer (some ⟨w.heap.size + 1, 0, none⟩), .int .u64 150] VT)).alloc (.cells #[hd PE, .pointer (some ⟨w.heap.size + 1, 0, none⟩), .int .u64 150] VT)).alloc (.cells #[.int .i64 e] E)) :=
    (((((Below.refl _ _).alloc (by simp) _).alloc (by simp) _).alloc (by simp only [World.size_alloc]; omega) _).alloc (by simp only [World.size_alloc]; omega) _).alloc (by simp only [World.size_alloc]; omega) _
  go_enter Tryd.func53, Tryd.ntmps53
  go_wp2_with (first | (go_at_call 55; refine (as_hit e _ (.int .i64 0) _ hgA htA hfA).mono ?_; rintro e w' ⟨rfl, rfl⟩))
  go_ret
  exact ⟨rfl, hB⟩

theorem told_nil (w : World) : Calls Tryd.prog 53 #[.nilIface] w fun ev w' => ev = .returned (.int .i64 0) ∧ Below w.heap.size w w' := by
  have hB : Below w.heap.size w (w.alloc (.cells #[.int .i64 0] E)) := (Below.refl _ _).alloc (Nat.le_refl _) _
  go_enter Tryd.func53, Tryd.ntmps53
  go_wp2_with (first | (go_at_call 55; refine (as_nil _ _).mono ?_; rintro e w' ⟨rfl, rfl⟩))
  go_ret
  exact ⟨rfl, hB⟩

/-- The reason that an error tells. -/
def errOf : Value → Option Int
  | .nilIface => some 0
  | .iface t v => if t = E then match v with
    | .agg a => match a.toList with
      | [.int .i64 e] => some e
      | _ => none
    | _ => none
    else none
  | _ => none

def told.s : List V → T V
  | [.q (.c v)] => match errOf v with
    | some e => .leaf (V.i e)
    | none => .bad
  | _ => .bad

/-- errFloat, wherever it lies. -/
abbrev errF [EA] : Value := .iface 127 (.pointer (some (EA.ea 0)))
instance gw [EA] : GW := ⟨[(1, 0, .iface R (.agg #[hd ER])), (0, 0, errF)]⟩

theorem told.ok : SpecOK Tryd.prog 53 told.s := by
  refine ⟨by kernel_rfl, fun S w args vals r hS hg _ hd hr => ?_⟩
  unfold told.s at hr
  split at hr
  · rename_i v0
    cases hd with
    | cons x v l us hx hl =>
      cases hl
      cases hx with
      | q _ _ hq =>
        cases hq
        unfold errOf at hr
        split at hr
        · rename_i e he
          cases hr
          split at he
          · cases he
            exact (told_nil w).mono fun ev w' ⟨h1, h2⟩ => ⟨_, h1, h2, .q _ _ (.c _)⟩
          · split at he
            · rename_i ht
              subst ht
              split at he
              · rename_i arr
                split at he
                · rename_i arr2 e' ha
                  have : arr = #[.int .i64 e'] := Array.ext' ha
                  subst this
                  cases he
                  refine (told_hit _ w ?_).mono fun ev w' ⟨h1, h2⟩ => ⟨_, h1, h2, .q _ _ (.c _)⟩
                  exact hg _ List.mem_cons_self
                · cases he
              · cases he
            · cases he
          · cases he
        · cases hr
  · cases hr
end Go.Proofs.YtcekbimohggnoaaDoor.AsRect
