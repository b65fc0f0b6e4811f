/- The functions of rect, one by one: are they right; what is met. -/
import Derived.Test.YtcekbimohggnoaaDoorRcA
namespace Go.Proofs.YtcekbimohggnoaaDoor
open Go Go.SX Go.Proofs
set_option maxRecDepth 100000
variable [EA]
set_option linter.unusedVariables false
set_option linter.unusedSectionVars false
set_option linter.unusedSimpArgs false

abbrev gRc (g : Nat → Nat → Q) (i : Nat) : Rc := ⟨qInt (g i 0), qInt (g i 1), qInt (g i 2), qInt (g i 3)⟩
def allR (n : Nat) (g : Nat → Nat → Q) : Bool := (List.range n).all fun i => rightR (gRc g i)
abbrev lst4 (n : Nat) (g : Nat → Nat → Q) : V := .q (.lst ks4 n g)
abbrev nilE : V := .q (.c .nilIface)
abbrev errV (n : Int) : V := .q (.c (.iface 85 (.agg #[.int .i64 n])))

theorem allR_false {n : Nat} {g : Nat → Nat → Q} {i : Nat} (hi : i < n) (h : rightR (gRc g i) = false) : allR n g = false := by
  rw [allR, List.all_eq_false]
  exact ⟨i, List.mem_range.2 hi, by rw [h]; simp⟩
theorem allR_true {n : Nat} {g : Nat → Nat → Q} (h : ∀ i, i < n → rightR (gRc g i) = true) : allR n g = true := by
  rw [allR, List.all_eq_true]
  exact fun i hi => h i (List.mem_range.1 hi)

/-! ### areRight -/
def SA (n : Nat) (g : Nat → Nat → Q) (i : Nat) : St := mkS 17 [(5, lst4 n g), (6, V.i n), (7, V.i i)] [] [] false [] 0
def RA (n : Nat) (g : Nat → Nat → Q) : Out := .ite (allR n g) (.leaf (.exit 0, mkS 17 [] [] [] false [] 0)) (.leaf (.ret, mkS 17 [(2, errV 20)] [] [] false [] 0))
def liveA : Ex → List Nat | .normal => [5, 6, 7] | .ret => [2] | _ => []
noncomputable abbrev loopAt (fn : Func) (p : List Nat) : Code := (match codeAt (cod fn) p with
  | some (.loop b) => b
  | _ => .skip)
noncomputable abbrev bodyA : Code := loopAt Tryd.f34 [0, 1, 0, 1]

theorem stepA (n : Nat) (g : Nat → Nat → Q) (i : Nat) :
    (sx Tryd.prog [(42, rect_Right.s)] [] [0, 0, 1, 0, 1] bodyA (SA n g i)).bind (fun x => T.leaf (x.1, deadS [] (canS 17 0 (liveA x.1) x.2), chkM 17 0 x.2))
     = .ite (decide ((i : Int) < n))
        (.ite (decide (0 ≤ (i : Int) ∧ (i : Int) < n)) (.ite (!(rightR (gRc g i))) (.leaf (.ret, mkS 17 [(2, errV 20)] [] [] false [] 0, true)) (.leaf (.normal, mkS 17 [(5, lst4 n g), (6, V.i n), (7, V.i (w64 (i + 1)))] [] [] false [] 0, true))) .bad)
        (.leaf (.exit 0, mkS 17 [] [] [] false [] 0, true)) := by kernel_rfl

theorem w64_id {n : Int} (h1 : -9223372036854775808 ≤ n) (h2 : n ≤ 9223372036854775807) : w64 n = n := by
  simp only [w64, IntKind.wrap, IntKind.bits, IntKind.signed]
  simp
  split <;> omega

theorem w64_suc {i n : Nat} (h : i < n) (hn : n ≤ 9223372036854775807) : w64 ((i : Int) + 1) = ((i + 1 : Nat) : Int) := by
  rw [w64_id (by omega) (by omega)]; omega

theorem c_lt {i n : Nat} (h : i < n) : decide ((i : Int) < n) = true := by simp; omega
theorem c_ge {i n : Nat} (h : n ≤ i) : decide ((i : Int) < n) = false := by simp; omega
theorem c_in {i n : Nat} (h : i < n) : decide (0 ≤ (i : Int) ∧ (i : Int) < n) = true := by simp; omega

theorem loopA (n : Nat) (g : Nat → Nat → Q) (hn : n ≤ 9223372036854775807) : ∀ x, (RA n g).pick = some x → SemC Tryd.prog (.loop bodyA) (SA n g 0) x := by
  refine loop_tree (Γ := [(42, rect_Right.s)]) (.cons rect_Right.ok (GOK.nil _)) (root := cod Tryd.f34) (p := [0, 1, 0, 1]) (by kernel_rfl) (fun i => i ≤ n ∧ ∀ j, j < i → rightR (gRc g j) = true) (SA n g) (fun i => n - i) (RA n g) 17 0 liveA (fun _ => []) (fun i hi => ?_) 0 ⟨Nat.zero_le _, fun j hj => absurd hj (Nat.not_lt_zero _)⟩
  obtain ⟨hi, hall⟩ := hi
  have e := stepA n g i
  rcases Nat.lt_or_ge i n with hlt | hge
  · cases hr : rightR (gRc g i) with
    | false => exact ⟨[], .ret, _, LamOK.nil _ _, by rw [e, c_lt hlt, c_in hlt, hr]; rfl, .inr ⟨by simp, by rw [RA, allR_false hlt hr]; rfl⟩⟩
    | true =>
      refine ⟨[], .normal, _, LamOK.nil _ _, by rw [e, c_lt hlt, c_in hlt, hr]; rfl, .inl ⟨rfl, i + 1, ⟨hlt, fun j hj => ?_⟩, by omega, by rw [SA, w64_suc hlt hn]⟩⟩
      rcases Nat.lt_or_ge j i with h | h
      · exact hall j h
      · rw [show j = i by omega]; exact hr
  · refine ⟨[], .exit 0, _, LamOK.nil _ _, by rw [e, c_ge hge]; rfl, .inr ⟨by simp, by rw [RA, allR_true fun j hj => hall j (by omega)]; rfl⟩⟩

abbrev rect_areRight.s := spL fun n g => .ite (allR n g) (.leaf nilE) (.leaf (errV 20))
theorem rect_areRight.ok : SpecOK Tryd.prog 34 rect_areRight.s := by
  refine okL (Γ := [(42, rect_Right.s)]) (.cons rect_Right.ok (GOK.nil _)) Tryd.func34 (by kernel_rfl) (by kernel_rfl) fun n g v hb hv => ?_
  refine ⟨[([0, 1, 0, 1], orc false 17 0 [5, 6, 7] (SA n g 0) (RA n g))], LamOK.orc (c := .loop bodyA) (by kernel_rfl) (loopA n g hb.1) (LamOK.nil _ _), ?_⟩
  have e : funV Tryd.prog [(42, rect_Right.s)] [([0, 1, 0, 1], orc false 17 0 [5, 6, 7] (SA n g 0) (RA n g))] Tryd.f34 (cod Tryd.f34) [lst4 n g] =
      .ite (@decide (SA n g 0 = SA n g 0) (Classical.propDecidable _)) (.ite (allR n g) (.leaf nilE) (.leaf (errV 20))) .bad := by kernel_rfl
  rw [e, pick_same]; exact hv

/-! ### what is met -/
def meets1.s : List V → T (Nat × (Nat → List V))
  | [.q (.sp 5 get)] => match get 0, get 1, get 2, get 3, get 4 with
    | .c (.int .i64 x), .c (.int .i64 y), .c (.int .i64 w), .c (.int .i64 h), .lst [.int .i64, .int .i64, .int .i64, .int .i64] n g => .leaf (n, fun k => [rv (meetR ⟨x, y, w, h⟩ (gRc g k))])
    | _, _, _, _, _ => .bad
  | _ => .bad

abbrev spR5 (r : Rc) (n : Nat) (g : Nat → Nat → Q) : V := .q (.sp 5 fun j => [Q.c (.int .i64 r.x), .c (.int .i64 r.y), .c (.int .i64 r.w), .c (.int .i64 r.h), .lst ks4 n g].getD j default)
abbrev mx (r : Rc) (g : Nat → Nat → Q) (k : Nat) : List V := [rv (meetR r (gRc g k))]
def SM (go : List (List V) → Bool) (adm : List (List V) → List V → Bool) (r : Rc) (n : Nat) (g : Nat → Nat → Q) (ys : List (List V)) (i : Int) : St :=
  mkS 19 [(0, .yld 0), (1, spR5 r n g), (6, lst4 n g), (7, V.i n), (8, V.i i)] [some (.yl go adm)] [] false ys 0
def FM (go : List (List V) → Bool) (adm : List (List V) → List V → Bool) (ys : List (List V)) : Ex × St := (.exit 0, mkS 19 [] [some (.yl go adm)] [] false ys 0)
noncomputable abbrev bodyM : Code := loopAt Tryd.f43 [0, 1, 1, 0]
def liveM : Ex → List Nat | .normal => [0, 1, 6, 7, 8] | _ => []

theorem stepM (go : List (List V) → Bool) (adm : List (List V) → List V → Bool) (r : Rc) (n : Nat) (g : Nat → Nat → Q) (ys : List (List V)) (i : Nat) :
    (sx Tryd.prog [(44, rect_meet.s)] [] [0, 0, 1, 1, 0] bodyM (SM go adm r n g ys i)).bind (fun x => T.leaf (x.1, deadS [] (canS 19 1 (liveM x.1) x.2), chkM 19 1 x.2))
     = .ite (decide ((i : Int) < n))
        (.ite (decide (0 ≤ (i : Int) ∧ (i : Int) < n))
          (.ite (adm ys (mx r g i)) (.ite (!(go (ys ++ [mx r g i]))) (.leaf (.exit 0, mkS 19 [] [some (.yl go adm)] [] false (ys ++ [mx r g i]) 0, true)) (.leaf (.normal, SM go adm r n g (ys ++ [mx r g i]) (w64 (i + 1)), true))) .bad) .bad)
        (.leaf (.exit 0, mkS 19 [] [some (.yl go adm)] [] false ys 0, true)) := by kernel_rfl

theorem loopM (go : List (List V) → Bool) (adm : List (List V) → List V → Bool) (r : Rc) (n : Nat) (g : Nat → Nat → Q) (hn : n ≤ 9223372036854775807) (hadm : Admits go adm n (mx r g)) (K : Nat) (hK : Stops go (mx r g) n K) :
    ∀ x, (T.leaf (FM go adm (hist (mx r g) K))).pick = some x → SemC Tryd.prog (.loop bodyM) (SM go adm r n g [] 0) x := by
  refine loop_tree (Γ := [(44, rect_meet.s)]) (.cons rect_meet.ok (GOK.nil _)) (root := cod Tryd.f43) (p := [0, 1, 1, 0]) (by kernel_rfl) (fun i => i ≤ n ∧ ∀ j, j < i → go (hist (mx r g) (j + 1)) = true) (fun i => SM go adm r n g (hist (mx r g) i) i) (fun i => n - i) (.leaf (FM go adm (hist (mx r g) K))) 19 1 liveM (fun _ => []) (fun i hi => ?_) 0 ⟨Nat.zero_le _, fun j hj => absurd hj (Nat.not_lt_zero _)⟩
  obtain ⟨hi, hall⟩ := hi
  have e := stepM go adm r n g (hist (mx r g) i) i
  rw [← hist_succ] at e
  rcases Nat.lt_or_ge i n with hlt | hge
  · have ha := hadm i hlt hall
    cases hr : go (hist (mx r g) (i + 1)) with
    | false => exact ⟨[], .exit 0, _, LamOK.nil _ _, by rw [e, c_lt hlt, c_in hlt, ha, hr]; rfl, .inr ⟨by simp, by rw [stops_at hK hlt hall hr]; rfl⟩⟩
    | true =>
      refine ⟨[], .normal, _, LamOK.nil _ _, by rw [e, c_lt hlt, c_in hlt, ha, hr]; rfl, .inl ⟨rfl, i + 1, ⟨hlt, fun j hj => ?_⟩, by omega, by rw [w64_suc hlt hn]⟩⟩
      rcases Nat.lt_or_ge j i with h | h
      · exact hall j h
      · rw [show j = i by omega]; exact hr
  · refine ⟨[], .exit 0, _, LamOK.nil _ _, by rw [e, c_ge hge]; rfl, .inr ⟨by simp, by rw [stops_end hK fun j hj => hall j (by omega), show n = i by omega]; rfl⟩⟩

theorem meets1.ok : IterOK Tryd.prog 43 meets1.s := by
  refine iterOK_of_body (Γ := [(44, rect_meet.s)]) (.cons rect_meet.ok (GOK.nil _)) Tryd.func43 (isBody _ (by kernel_rfl)) (by kernel_rfl) fun caps n x go adm hb he hadm => ?_
  unfold meets1.s at he
  split at he
  · rename_i get
    split at he
    · rename_i x y w hh n g g0 g1 g2 g3 g4
      cases he
      obtain ⟨K, hK⟩ := exists_stops go (mx ⟨x, y, w, hh⟩ g) n
      have hq : QB (get 4) := hb _ (List.mem_singleton.2 rfl) 4 (by omega)
      rw [g4] at hq
      refine ⟨[spR5 ⟨x, y, w, hh⟩ n g], [([0, 1, 1, 0], orc false 19 1 [0, 1, 6, 7, 8] (SM go adm ⟨x, y, w, hh⟩ n g [] 0) (.leaf (FM go adm (hist (mx ⟨x, y, w, hh⟩ g) K))))], K, .sp (fun j hj => ?_) .nil,
        LamOK.orc (c := .loop bodyM) (by kernel_rfl) (loopM go adm _ n g hq.1 hadm K hK) (LamOK.nil _ _), hK, ?_⟩
      · rcases (show j = 0 ∨ j = 1 ∨ j = 2 ∨ j = 3 ∨ j = 4 by omega) with rfl | rfl | rfl | rfl | rfl
        · exact g0
        · exact g1
        · exact g2
        · exact g3
        · exact g4
      · have e : ∀ r : Rc, itV Tryd.prog [(44, rect_meet.s)] [([0, 1, 1, 0], orc false 19 1 [0, 1, 6, 7, 8] (SM go adm r n g [] 0) (.leaf (FM go adm (hist (mx r g) K))))] Tryd.f43 (cod Tryd.f43) [spR5 r n g] go adm =
            .ite (@decide (SM go adm r n g [] 0 = SM go adm r n g [] 0) (Classical.propDecidable _)) (.leaf (hist (mx r g) K)) .bad := fun r => by kernel_rfl
        rw [e, pick_same]; rfl
    · cases he
  · cases he
end Go.Proofs.YtcekbimohggnoaaDoor
