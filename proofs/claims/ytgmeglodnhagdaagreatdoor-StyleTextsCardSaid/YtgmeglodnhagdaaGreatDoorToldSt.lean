/- What style's told, and unit's told, say of an error, as contracts. -/
import Derived.Test.YtgmeglodnhagdaaGreatDoorIsStyle
import Derived.Test.YtgmeglodnhagdaaGreatDoorSxN
import Derived.Test.YtgmeglodnhagdaaGreatDoorGw
namespace Go.Proofs.YtgmeglodnhagdaaGreatDoor.AsStyle
open Go Go.SX Go.RowKit Go.Extern.Stop Go.Stop Go.Extern
variable [EA]
set_option maxRecDepth 100000
set_option linter.unusedVariables false
set_option linter.unusedSectionVars false
set_option linter.unusedSimpArgs false

abbrev codeP : Option Addr → Int
  | some _ => 41
  | none => 40
theorem told_hit (e : Int) (p : Option Addr) (q : Addr) (hp : p = none ∨ p = some q) (w : World) (hg : w.cell? ⟨1, 0, none⟩ = some (.iface R (.agg #[hd ER]))) (hv : w.cell? ⟨0, 0, none⟩ = some (.iface ES (.pointer (some q)))) :
    Calls Tryz.prog 31 #[.iface E (.agg #[.int .i64 e, und p])] w fun ev w' => ev = .returned (.tuple #[.int .i64 e, .int .i64 (codeP p)]) ∧ Below w.heap.size w w' := by
  have hlt : 1 < w.heap.size := by
    rcases Nat.lt_or_ge 1 w.heap.size with h | h
    · exact h
    · simp [World.cell?, Array.getElem?_eq_none h] at hg
  have hlt2 : 0 < w.heap.size := by
    rcases Nat.lt_or_ge 0 w.heap.size with h | h
    · exact h
    · simp [World.cell?, Array.getElem?_eq_none h] at hv
  have hgA : (w.alloc (.cells #[.int .i64 0, .nilIface] E)).cell? ⟨1, 0, none⟩ = some (.iface R (.agg #[hd ER])) := by
    rw [World.cell?_alloc_lt _ _ ⟨1, 0, none⟩ hlt]; exact hg
  have htA : (w.alloc (.cells #[.int .i64 0, .nilIface] E)).cell? ⟨w.heap.size, 0, none⟩ = some (.int .i64 0) := by simp
  have htB : (w.alloc (.cells #[.int .i64 0, .nilIface] E)).cell? ⟨w.heap.size, 1, none⟩ = some .nilIface := by simp
  have hfB : (w.alloc (.cells #[.int .i64 0, .nilIface] E)).frozen? ⟨w.heap.size, 1, none⟩ = false := by simp
  have hfA : (w.alloc (.cells #[.int .i64 0, .nilIface] E)).frozen? ⟨w.heap.size, 0, none⟩ = false := by simp
  obtain ⟨W, hW⟩ : ∃ W : World, W = (((((w.alloc (.cells #[.int .i64 e, und p] E)).alloc (.cells #[.pointer (some ⟨w.heap.size, 0, none⟩)] PE)).alloc (.cells #[hd PE, .pointer (some ⟨w.heap.size + 1, 0, none⟩), .int .u64 150] VT)).alloc (.cells #[hd PE, .pointer (some ⟨w.heap.size + 1, 0, none⟩), .int .u64 150] VT)).alloc (.cells #[.int .i64 e, und p] E)) := ⟨_, rfl⟩
  have hB : Below w.heap.size w W := by
    rw [hW]
    exact (((((Below.refl _ _).alloc (by simp) _).alloc (by simp) _).alloc (by simp only [World.size_alloc]; omega) _).alloc (by simp only [World.size_alloc]; omega) _).alloc (by simp only [World.size_alloc]; omega) _
  have hWv : W.cell? ⟨0, 0, none⟩ = some (.iface ES (.pointer (some q))) := by
    rw [(hB.cell (p := ⟨0, 0, none⟩) hlt2)]; exact hv
  have hW0 : W.cell? ⟨w.heap.size, 0, none⟩ = some (.int .i64 e) := by
    rw [hW, World.cell?_alloc_lt _ _ ⟨w.heap.size, 0, none⟩ (by simp only [World.size_alloc]; omega), World.cell?_alloc_lt _ _ ⟨w.heap.size, 0, none⟩ (by simp only [World.size_alloc]; omega), World.cell?_alloc_lt _ _ ⟨w.heap.size, 0, none⟩ (by simp only [World.size_alloc]; omega), World.cell?_alloc_lt _ _ ⟨w.heap.size, 0, none⟩ (by simp only [World.size_alloc]; omega)]
    simp
  subst hW
  go_enter Tryz.func31, Tryz.ntmps31
  rcases hp with rfl | rfl
  · go_wp2_with (first
      | (go_at_call 69; refine (as_hit e none _ (.int .i64 0) .nilIface _ hgA htA htB hfA hfB).mono ?_; rintro e' w' ⟨rfl, rfl⟩)
      | (go_at_call 70; refine (is_wrap_nil e q _).mono ?_; rintro e' w' ⟨rfl, hb⟩; have g1 := (hb.cell (p := ⟨w.heap.size, 0, none⟩) (by simp only [World.size_alloc]; omega)).trans hW0; have hB2 := hB.trans (hb.mono (by simp only [World.size_alloc]; omega))))
    go_ret2
    exact ⟨rfl, hB2⟩
  · go_wp2_with (first
      | (go_at_call 69; refine (as_hit e (some q) _ (.int .i64 0) .nilIface _ hgA htA htB hfA hfB).mono ?_; rintro e' w' ⟨rfl, rfl⟩)
      | (go_at_call 70; refine (is_wrap_same e q _).mono ?_; rintro e' w' ⟨rfl, hb⟩; have g1 := (hb.cell (p := ⟨w.heap.size, 0, none⟩) (by simp only [World.size_alloc]; omega)).trans hW0; have hB2 := hB.trans (hb.mono (by simp only [World.size_alloc]; omega))))
    go_ret2
    exact ⟨rfl, hB2⟩
theorem told_nil (w : World) : Calls Tryz.prog 31 #[.nilIface] w fun ev w' => ev = .returned (.tuple #[.int .i64 0, .int .i64 0]) ∧ Below w.heap.size w w' := by
  have hB : Below w.heap.size w (w.alloc (.cells #[.int .i64 0, .nilIface] E)) := (Below.refl _ _).alloc (Nat.le_refl _) _
  go_enter Tryz.func31, Tryz.ntmps31
  go_wp2
  go_ret2
  exact ⟨rfl, hB⟩

/-- Style's own kind of error. -/
abbrev wrV (n : Int) (x : Value) : Value := .iface E (.agg #[.int .i64 n, x])
noncomputable def told.s : List V → T V
  | [.q (.c .nilIface)] => .leaf (.tup [V.i 0, V.i 0])
  | [.q (.c (.iface t (.agg a)))] => if t = E then match a.toList with
      | [.int .i64 n, .nilIface] => .leaf (.tup [V.i n, V.i 40])
      | [.int .i64 n, .iface t2 (.pointer (some p))] => if t2 = ES then .ite (@decide (p = EA.ea 0) (Classical.propDecidable _)) (.leaf (.tup [V.i n, V.i 41])) .bad else .bad
      | _ => .bad
    else .bad
  | _ => .bad
theorem told.ok : SpecOK Tryz.prog 31 told.s := by
  refine ⟨by kernel_rfl, fun S w args vals r hS hg _ hd hr => ?_⟩
  have fin : ∀ {a b : Int} {ev : Ending} {w' : World}, ev = .returned (.tuple #[.int .i64 a, .int .i64 b]) ∧ Below w.heap.size w w' → ∃ v, ev = .returned v ∧ Below w.heap.size w w' ∧ Den (fun b => S b ∨ (w.heap.size ≤ b ∧ b < w'.heap.size)) NoL th0 w' (.tup [V.i a, V.i b]) v := fun h => ⟨_, h.1, h.2, .tup _ [_, _] (.cons _ _ _ _ (.q _ _ (.c _)) (.cons _ _ _ _ (.q _ _ (.c _)) .nil))⟩
  have hgE := laidAt_cell (hg _ gl_et) rfl
  have hgV := laidAt_cell (hg _ gl_style) rfl
  unfold told.s at hr
  split at hr
  · cases hr
    cases hd with
    | cons _ v _ us hx hl =>
      cases hl
      cases hx with
      | q _ _ hq => cases hq; exact (told_nil w).mono fun ev w' h => fin h
  · rename_i t a
    split at hr
    · rename_i ht
      subst ht
      cases hd with
      | cons _ v _ us hx hl =>
        cases hl
        cases hx with
        | q _ _ hq =>
          cases hq
          split at hr
          · rename_i n ha
            cases hr
            have : a = #[.int .i64 n, .nilIface] := Array.ext' ha
            subst this
            exact (told_hit n none _ (.inl rfl) w hgE hgV).mono fun ev w' h => fin h
          · rename_i n t2 p ha
            split at hr
            · rename_i ht2
              subst ht2
              have : a = #[.int .i64 n, .iface ES (.pointer (some p))] := Array.ext' ha
              subst this
              by_cases hp : p = EA.ea 0
              · simp only [T.pick, @decide_eq_true _ (Classical.propDecidable _) hp, cond_true, Option.some.injEq] at hr
                subst hp hr
                exact (told_hit n (some (EA.ea 0)) _ (.inr rfl) w hgE hgV).mono fun ev w' h => fin h
              · simp [T.pick, @decide_eq_false _ (Classical.propDecidable _) hp] at hr
            · cases hr
          · cases hr
    · cases hr
  · cases hr

/-! ### unit's told -/
theorem ea_ne {w : World} {i j : Nat} {s t : ByteArray} (hi : laidAt w (EA.ea i).block (EA.ea i).off (.string s)) (hj : laidAt w (EA.ea j).block (EA.ea j).off (.string t)) (hne : s ≠ t) : EA.ea i ≠ EA.ea j := fun e => by
  rw [e] at hi
  have h1 := laidAt_cell hi rfl
  have h2 := laidAt_cell hj rfl
  rw [h1] at h2
  cases h2
  exact hne rfl
theorem utold_over (p q r : Addr) (w : World) (h0 : w.cell? ⟨2, 0, none⟩ = some (.iface ES (.pointer (some p)))) :
    Calls Tryz.prog 123 #[.iface ES (.pointer (some p))] w fun ev w' => ev = .returned (.int .i64 10) ∧ w' = w := by
  go_enter Tryz.func123, Tryz.ntmps123
  go_wp2_with (go_at_call 70; refine (is_same _ _).mono ?_; rintro e' w' ⟨rfl, rfl⟩)
  go_ret
  exact ⟨rfl, rfl⟩
theorem is_dec (r b : Addr) (w : World) (hr : ∃ (c : Array Value) (t : TypeId), w.heap[r.block]? = some (.cells c t (0, 0))) (hb : ∃ (c : Array Value) (t : TypeId), w.heap[b.block]? = some (.cells c t (0, 0))) :
    Calls Tryz.prog 70 #[.iface ES (.pointer (some r)), .iface ES (.pointer (some b))] w fun e w' => e = .returned (.bool (decide (r = b))) ∧ w' = w := by
  obtain ⟨c, t, hr⟩ := hr
  obtain ⟨c', t', hb⟩ := hb
  by_cases h : r = b
  · subst h
    rw [decide_eq_true rfl]
    exact is_same r w
  · rw [decide_eq_false h]
    exact is_other r b c c' t t' w h hr hb
theorem utold_text (p q r : Addr) (w : World) (h0 : w.cell? ⟨2, 0, none⟩ = some (.iface ES (.pointer (some p)))) (h1 : w.cell? ⟨5, 0, none⟩ = some (.iface ES (.pointer (some q)))) (h2 : w.cell? ⟨3, 0, none⟩ = some (.iface ES (.pointer (some r))))
    (hne1 : r ≠ p) (hne2 : r ≠ q) (ha : ∃ (c : Array Value) (t : TypeId), w.heap[p.block]? = some (.cells c t (0, 0))) (hb : ∃ (c : Array Value) (t : TypeId), w.heap[q.block]? = some (.cells c t (0, 0))) (hc : ∃ (c : Array Value) (t : TypeId), w.heap[r.block]? = some (.cells c t (0, 0))) :
    Calls Tryz.prog 123 #[.iface ES (.pointer (some r))] w fun ev w' => ev = .returned (.int .i64 12) ∧ w' = w := by
  have d1 : decide (r = p) = false := decide_eq_false hne1
  have d2 : decide (r = q) = false := decide_eq_false hne2
  have d3 : decide (r = r) = true := decide_eq_true rfl
  go_enter Tryz.func123, Tryz.ntmps123
  go_wp2_with (go_at_call 70; refine (is_dec r _ _ hc ?_).mono ?_; (first | exact ha | exact hb | exact hc); rintro e' w' ⟨rfl, rfl⟩)
  go_ret
  exact ⟨rfl, rfl⟩
noncomputable def utold.s : List V → T V
  | [.q (.c (.iface t (.pointer (some p))))] => if t = ES then .ite (@decide (p = EA.ea 1) (Classical.propDecidable _)) (.leaf (V.i 10)) (.ite (@decide (p = EA.ea 3) (Classical.propDecidable _)) (.leaf (V.i 12)) .bad) else .bad
  | _ => .bad
theorem utold.ok : SpecOK Tryz.prog 123 utold.s := by
  refine ⟨by kernel_rfl, fun S w args vals r hS hg _ hd hr => ?_⟩
  have fin : ∀ {a : Int} {ev : Ending} {w' : World}, ev = .returned (.int .i64 a) ∧ w' = w → ∃ v, ev = .returned v ∧ Below w.heap.size w w' ∧ Den (fun b => S b ∨ (w.heap.size ≤ b ∧ b < w'.heap.size)) NoL th0 w' (V.i a) v := fun h => ⟨_, h.1, h.2 ▸ Below.refl _ _, .q _ _ (.c _)⟩
  unfold utold.s at hr
  split at hr
  · rename_i t p
    split at hr
    · rename_i ht
      subst ht
      cases hd with
      | cons _ v _ us hx hl =>
        cases hl
        cases hx with
        | q _ _ hq =>
          cases hq
          by_cases hp : p = EA.ea 1
          · simp only [T.pick, @decide_eq_true _ (Classical.propDecidable _) hp, cond_true, Option.some.injEq] at hr
            subst hp hr
            exact (utold_over _ ⟨0, 0, none⟩ ⟨0, 0, none⟩ w (laidAt_cell (hg _ gl_over) rfl)).mono fun ev w' h => fin h
          · by_cases hp3 : p = EA.ea 3
            · simp only [T.pick, @decide_eq_false _ (Classical.propDecidable _) hp, @decide_eq_true _ (Classical.propDecidable _) hp3, cond_true, cond_false, Option.some.injEq] at hr
              subst hp3 hr
              exact (utold_text _ _ _ w (laidAt_cell (hg _ gl_over) rfl) (laidAt_cell (hg _ gl_zero) rfl) (laidAt_cell (hg _ gl_text) rfl) (ea_ne (hg _ gl_text1) (hg _ gl_over1) (by decide)) (ea_ne (hg _ gl_text1) (hg _ gl_zero1) (by decide)) (hg _ gl_over2) (hg _ gl_zero2) (hg _ gl_text2)).mono fun ev w' h => fin h
            · simp [T.pick, @decide_eq_false _ (Classical.propDecidable _) hp, @decide_eq_false _ (Classical.propDecidable _) hp3] at hr
    · cases hr
  · cases hr
end Go.Proofs.YtgmeglodnhagdaaGreatDoor.AsStyle
