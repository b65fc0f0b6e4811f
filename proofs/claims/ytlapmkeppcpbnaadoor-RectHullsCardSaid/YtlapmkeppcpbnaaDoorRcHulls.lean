/- The card of RectHulls: all are within their hull, and a hull of hulls is that of all. -/
import Derived.Test.YtlapmkeppcpbnaaDoorRcH
import Derived.Test.YtlapmkeppcpbnaaDoorRcI
namespace Go.Proofs.YtlapmkeppcpbnaaDoor
open Go Go.SX Go.Proofs Go.RowKit Go.ChangeShapes
set_option maxRecDepth 100000
set_option linter.unusedVariables false

abbrev lE (n : Nat) (g : Nat → Nat → Q) : Int := bif hOK n g then 0 else 20
abbrev lH (n : Nat) (g : Nat → Nat → Q) : Rc := bR (hOK n g) (hullR n g) z0
/-- All within? -/
def allIn (n : Nat) (g : Nat → Nat → Q) (H : Rc) : Bool := (List.range n).all fun i => inB (gRc g i) H
def SU (n : Nat) (g : Nat → Nat → Q) (m : Int) (H : Rc) (i : Nat) : St := mkS 92 [(0, lst4 n g), (1, V.i m), (5, V.b true), (6, .ptr 0 0), (8, V.i i)] [celR H] [] false [] 0
def XU (n : Nat) (g : Nat → Nat → Q) (m : Int) (H : Rc) : Ex × St := (.exit 0, mkS 92 [(0, lst4 n g), (1, V.i m), (5, V.b true), (6, .ptr 0 0)] [celR H] [] false [] 0)
def EU (H : Rc) : Ex × St := (.ret, mkS 92 [(4, V.b false)] [celR H] [] false [] 0)
def RU (n : Nat) (g : Nat → Nat → Q) (m : Int) (H : Rc) : Out := .ite (allIn n g H) (.leaf (XU n g m H)) (.leaf (EU H))
noncomputable abbrev bodyU : Code := loopAt Tryd.f4 [0, 1, 0, 1, 1, 1, 1, 1]
def liveU : Ex → List Nat | .normal => [0, 1, 5, 6, 8] | .ret => [4] | _ => [0, 1, 5, 6]

theorem stepU (n : Nat) (g : Nat → Nat → Q) (m : Int) (H : Rc) (i : Nat) :
    (sx Tryd.prog ΓL [] [0, 0, 1, 0, 1, 1, 1, 1, 1] bodyU (SU n g m H i)).bind (fun x => T.leaf (x.1, deadS [] (canS 92 1 (liveU x.1) x.2), chkM 92 1 x.2))
     = .ite (decide ((i : Int) < n)) (.ite (decide (0 ≤ (i : Int) ∧ (i : Int) < n)) (.ite (!(inB (gRc g i) H)) (.leaf ((EU H).1, (EU H).2, true))
          (.leaf (.normal, mkS 92 [(0, lst4 n g), (1, V.i m), (5, V.b true), (6, .ptr 0 0), (8, V.i (w64 (i + 1)))] [celR H] [] false [] 0, true))) .bad)
        (.leaf ((XU n g m H).1, (XU n g m H).2, true)) := by kernel_rfl

theorem loopU (n : Nat) (g : Nat → Nat → Q) (m : Int) (H : Rc) (hn : n ≤ 9223372036854775807) : ∀ x, (RU n g m H).pick = some x → SemC Tryd.prog (.loop bodyU) (SU n g m H 0) x := by
  refine loop_tree ΓL.ok (root := cod Tryd.f4) (p := [0, 1, 0, 1, 1, 1, 1, 1]) (by kernel_rfl) (fun i => i ≤ n ∧ ∀ j, j < i → inB (gRc g j) H = true) (SU n g m H) (fun i => n - i) (RU n g m H) 92 1 liveU (fun _ => []) (fun i hi => ?_) 0 ⟨Nat.zero_le _, fun j hj => absurd hj (Nat.not_lt_zero _)⟩
  obtain ⟨hi, hall⟩ := hi
  have e := stepU n g m H i
  rcases Nat.lt_or_ge i n with hlt | hge
  · cases hr : inB (gRc g i) H with
    | false =>
      have ha : allIn n g H = false := by rw [allIn, List.all_eq_false]; exact ⟨i, List.mem_range.2 hlt, by rw [hr]; simp⟩
      exact ⟨[], .ret, _, LamOK.nil _ _, by rw [e, c_lt hlt, c_in hlt, hr]; rfl, .inr ⟨by simp, by rw [RU, ha]; rfl⟩⟩
    | true =>
      refine ⟨[], .normal, SU n g m H (i + 1), LamOK.nil _ _, by rw [e, c_lt hlt, c_in hlt, hr, w64_suc hlt hn]; rfl, .inl ⟨rfl, i + 1, ⟨hlt, fun j hj => ?_⟩, by omega, rfl⟩⟩
      rcases Nat.lt_or_ge j i with h | h
      · exact hall j h
      · rw [show j = i by omega]; exact hr
  · have ha : allIn n g H = true := by rw [allIn, List.all_eq_true]; exact fun j hj => hall j (by have := List.mem_range.1 hj; omega)
    exact ⟨[], .exit 0, _, LamOK.nil _ _, by rw [e, c_ge hge]; rfl, .inr ⟨by simp, by rw [RU, ha]; rfl⟩⟩

abbrev n1 (m : Int) : Nat := m.toNat - (0 : Int).toNat
abbrev n2 (n : Nat) (m : Int) : Nat := (n : Int).toNat - m.toNat
abbrev g2 (g : Nat → Nat → Q) (m : Int) : Nat → Nat → Q := fun i => g (m.toNat + i)
def hullsC (n : Nat) (g : Nat → Nat → Q) (m : Int) : Bool :=
  andN [true, lE (n1 m) (gz g) == 0, lE (n2 n m) (g2 g m) == 0, lE 2 (two2 (lH (n1 m) (gz g)) (lH (n2 n m) (g2 g m))) == 0,
    eqR (lH 2 (two2 (lH (n1 m) (gz g)) (lH (n2 n m) (g2 g m)))) (lH n g)]

def hulls.s : List V → T V
  | [.q (.lst [.int .i64, .int .i64, .int .i64, .int .i64] n g), .q (.c (.int .i64 m))] => .leaf (V.b true)
  | _ => .bad

theorem hulls.eq (n : Nat) (g : Nat → Nat → Q) (m : Int) :
    funV Tryd.prog ΓL [([0, 1, 0, 1, 1, 1, 1, 1], orc false 92 1 [0, 1, 5, 6, 8] (SU (fewN n) (gz g) m (lH (fewN n) (gz g)) 0) (RU (fewN n) (gz g) m (lH (fewN n) (gz g))))] Tryd.f4 (cod Tryd.f4) [lst4 n g, V.i m] =
      .ite (!(lE (fewN n) (gz g) == 0)) (.leaf (V.b (andN [true, eqR (lH (fewN n) (gz g)) z0])))
        (.ite (@decide (SU (fewN n) (gz g) m (lH (fewN n) (gz g)) 0 = SU (fewN n) (gz g) m (lH (fewN n) (gz g)) 0) (Classical.propDecidable _))
          (.ite (allIn (fewN n) (gz g) (lH (fewN n) (gz g)))
            (.ite (bif decide (m < 1) then true else decide (m ≥ (fewN n : Nat))) (.leaf (V.b true))
              (.ite (decide ((0 : Int) ≤ 0 ∧ (0 : Int) ≤ m ∧ m ≤ (fewN n : Nat))) (.ite (decide ((0 : Int) ≤ m ∧ m ≤ (fewN n : Nat) ∧ ((fewN n : Nat) : Int) ≤ (fewN n : Nat)))
                (.leaf (V.b (hullsC (fewN n) (gz g) m))) .bad) .bad))
            (.leaf (V.b false))) .bad) := by kernel_rfl

/-! ### hulls of hulls, in plain numbers -/
def comb (c d : Rc) : Rc := ⟨min c.x d.x, min c.y d.y, max c.w d.w, max c.h d.h⟩

theorem hS_congr {g g' : Nat → Nat → Q} : ∀ (i : Nat), (∀ j, j ≤ i → gRc g j = gRc g' j) → hS g i = hS g' i
  | 0, h => by show fstH _ = fstH _; rw [h 0 (Nat.le_refl _)]
  | i + 1, h => by
    show stH (hS g i) (gRc (gs g) i) = stH (hS g' i) (gRc (gs g') i)
    rw [gs_eq, gs_eq, h (i + 1) (Nat.le_refl _), hS_congr i fun j hj => h j (by omega)]

theorem hS_comb {g : Nat → Nat → Q} (p : Nat) : ∀ (k : Nat), (∀ j, j < p + 1 + k + 1 → Ok (gRc g j)) → hS g (p + 1 + k) = comb (hS g p) (hS (fun i => g (p + 1 + i)) k)
  | 0, h => by
    show stH (hS g p) (gRc (gs g) p) = comb (hS g p) (fstH (gRc g (p + 1)))
    rw [gs_eq, st_eq _ (h (p + 1) (by omega)), fst_eq (h (p + 1) (by omega))]
    rfl
  | k + 1, h => by
    have ih := hS_comb p k fun j hj => h j (by omega)
    have h0 := h (p + 1 + k + 1) (by omega)
    have e : gRc (fun i => g (p + 1 + i)) (k + 1) = gRc g (p + 1 + k + 1) := rfl
    show stH (hS g (p + 1 + k)) (gRc (gs g) (p + 1 + k)) = comb (hS g p) (stH (hS (fun i => g (p + 1 + i)) k) (gRc (gs fun i => g (p + 1 + i)) k))
    rw [gs_eq, gs_eq, e, ih, st_eq _ h0, st_eq _ h0]
    simp only [comb, Int.min_assoc, Int.max_assoc]

theorem comb_ed {c d : Rc} (hc : Ed c) (hd : Ed d) : Ed (comb c d) := by
  obtain ⟨x, y, w, hh⟩ := c; obtain ⟨x', y', w', hh'⟩ := d; simp only [Ed, comb] at *; omega
theorem hull_hulls {c d : Rc} (hc : Ed c) (hd : Ed d) : hullR 2 (two2 (hR c) (hR d)) = hR (comb c d) := by
  rw [hull_two (hR_ok hc) (hR_ok hd), hR_eq (comb_ed hc hd), hR_eq hc, hR_eq hd]
  simp only [comb, Rc.mk.injEq, true_and]
  exact ⟨by congr 2 <;> omega, by congr 2 <;> omega⟩

theorem hS_le {g : Nat → Nat → Q} : ∀ (i : Nat), (∀ j, j < i + 1 → Ok (gRc g j)) → ∀ j, j ≤ i → (hS g i).x ≤ (gRc g j).x ∧ (hS g i).y ≤ (gRc g j).y ∧ (gRc g j).x + (gRc g j).w ≤ (hS g i).w ∧ (gRc g j).y + (gRc g j).h ≤ (hS g i).h
  | 0, h, j, hj => by
    obtain rfl : j = 0 := by omega
    show (fstH (gRc g 0)).x ≤ _ ∧ _
    rw [show hS g 0 = fstH (gRc g 0) from rfl, fst_eq (h 0 (by omega))]
    exact ⟨Int.le_refl _, Int.le_refl _, Int.le_refl _, Int.le_refl _⟩
  | i + 1, h, j, hj => by
    have e : hS g (i + 1) = stH (hS g i) (gRc g (i + 1)) := by show stH (hS g i) (gRc (gs g) i) = _; rw [gs_eq]
    rw [e, st_eq _ (h (i + 1) (by omega))]
    rcases Nat.lt_or_ge i j with h1 | h1
    · obtain rfl : j = i + 1 := by omega
      generalize gRc g (i + 1) = r
      generalize hS g i = c
      simp only
      omega
    · have ih := hS_le i (fun j hj => h j (by omega)) j h1
      generalize gRc g (i + 1) = r
      generalize gRc g j = q at ih ⊢
      generalize hS g i = c at ih ⊢
      simp only
      omega

theorem lE_zero {n : Nat} {g : Nat → Nat → Q} (h : hOK n g = true) : lE n g = 0 := by simp [lE, h]
theorem lH_eq {n : Nat} {g : Nat → Nat → Q} (h : hOK n g = true) : lH n g = hR (hS g (m1 n)) := by
  show bR (hOK n g) (hullR n g) z0 = _
  rw [h]; rfl

theorem hulls_pick (n : Nat) (g : Nat → Nat → Q) (m : Int) :
    (T.ite (!(lE n g == 0)) (T.leaf (V.b (andN [true, eqR (lH n g) z0])))
          (.ite (allIn n g (lH n g))
            (.ite (bif decide (m < 1) then true else decide (m ≥ (n : Nat))) (.leaf (V.b true))
              (.ite (decide ((0 : Int) ≤ 0 ∧ (0 : Int) ≤ m ∧ m ≤ (n : Nat))) (.ite (decide ((0 : Int) ≤ m ∧ m ≤ (n : Nat) ∧ ((n : Nat) : Int) ≤ (n : Nat)))
                (.leaf (V.b (hullsC n g m))) .bad) .bad))
            (.leaf (V.b false)))).pick = some (V.b true) := by
  cases h : hOK n g with
  | false =>
    have e1 : lE n g = 20 := by simp [lE, h]
    have e2 : lH n g = z0 := by show bR (hOK n g) (hullR n g) z0 = _; rw [h]; rfl
    rw [e1, e2]
    rfl
  | true =>
    obtain ⟨h0, hall⟩ := hOK_iff.1 h
    have hlt : m1 n + 1 = n := by simp only [m1]; omega
    have hall' : ∀ j, j < m1 n + 1 → Ok (gRc g j) := fun j hj => hall j (by omega)
    have hed := hS_ed (m1 n) hall'
    rw [lE_zero h, lH_eq h]
    have ha : allIn n g (hR (hS g (m1 n))) = true := by
      rw [allIn, List.all_eq_true]
      intro j hj
      have hj := List.mem_range.1 hj
      have hle := hS_le (m1 n) hall' j (by omega)
      refine in_iff.2 ⟨hall j hj, hR_ok hed, ?_⟩
      rw [hR_eq hed]
      generalize gRc g j = q at hle ⊢
      generalize hS g (m1 n) = c at hle ⊢
      simp only
      omega
    rw [ha]
    simp only [pick_ite, pick_leaf, beq_self_eq_true, Bool.not_true, cond_false, cond_true]
    by_cases c1 : m < 1
    · simp [c1]
    · by_cases c2 : m ≥ (n : Nat)
      · simp [c2]
      · obtain ⟨p, rfl⟩ : ∃ p : Nat, m = ((p + 1 : Nat) : Int) := ⟨(m - 1).toNat, by omega⟩
        have hp : p + 1 < n := by omega
        have d1 : decide (((p + 1 : Nat) : Int) < 1) = false := by simp; omega
        have d2 : decide (((p + 1 : Nat) : Int) ≥ (n : Nat)) = false := by simp; omega
        have d3 : decide ((0 : Int) ≤ 0 ∧ (0 : Int) ≤ ((p + 1 : Nat) : Int) ∧ ((p + 1 : Nat) : Int) ≤ (n : Nat)) = true := by simp; omega
        have d4 : decide ((0 : Int) ≤ ((p + 1 : Nat) : Int) ∧ ((p + 1 : Nat) : Int) ≤ (n : Nat) ∧ ((n : Nat) : Int) ≤ (n : Nat)) = true := by simp; omega
        rw [d1, d2, d3, d4]
        simp only [cond_false, cond_true]
        have e1 : n1 ((p + 1 : Nat) : Int) = p + 1 := by simp [n1]
        have e2 : n2 n ((p + 1 : Nat) : Int) = n - (p + 1) := by simp only [n2]; omega
        have eg : g2 g ((p + 1 : Nat) : Int) = fun i => g (p + 1 + i) := by funext i; show g (Int.toNat ((p + 1 : Nat) : Int) + i) = _; rw [Int.toNat_natCast]
        have k1 : hOK (p + 1) (gz g) = true := hOK_iff.2 ⟨by omega, fun i hi => by rw [gz_eq]; exact hall i (by omega)⟩
        have k2 : hOK (n - (p + 1)) (fun i => g (p + 1 + i)) = true := hOK_iff.2 ⟨by omega, fun i hi => hall (p + 1 + i) (by omega)⟩
        have a1 : lH (p + 1) (gz g) = hR (hS g p) := by
          rw [lH_eq k1, show m1 (p + 1) = p by simp [m1], hS_congr (g' := g) p fun j _ => gz_eq g j]
        have a2 : lH (n - (p + 1)) (fun i => g (p + 1 + i)) = hR (hS (fun i => g (p + 1 + i)) (n - 1 - (p + 1))) := by
          rw [lH_eq k2, show m1 (n - (p + 1)) = n - 1 - (p + 1) by simp only [m1]; omega]
        have ed1 := hS_ed (g := g) p fun j hj => hall j (by omega)
        have ed2 := hS_ed (g := fun i => g (p + 1 + i)) (n - 1 - (p + 1)) fun j hj => hall (p + 1 + j) (by omega)
        have k3 : hOK 2 (two2 (hR (hS g p)) (hR (hS (fun i => g (p + 1 + i)) (n - 1 - (p + 1))))) = true := hOK_two.2 ⟨hR_ok ed1, hR_ok ed2⟩
        have a3 : lH 2 (two2 (hR (hS g p)) (hR (hS (fun i => g (p + 1 + i)) (n - 1 - (p + 1))))) = hR (hS g (m1 n)) := by
          show bR (hOK 2 _) (hullR 2 _) z0 = _
          rw [k3, hull_hulls ed1 ed2, ← hS_comb p (n - 1 - (p + 1)) fun j hj => hall j (by omega), show p + 1 + (n - 1 - (p + 1)) = m1 n by omega]
          rfl
        unfold hullsC
        rw [e1, e2, eg, a1, a2, lE_zero k1, lE_zero k2, lE_zero k3, a3, lH_eq h, eqR_refl]
        rfl

theorem hulls.ok : SpecOK Tryd.prog 4 hulls.s := by
  refine specOK_of_bodyW ΓL.ok Tryd.func4 (isBody _ (by kernel_rfl)) (by kernel_rfl) fun args r hb h => ?_
  unfold hulls.s at h
  split at h
  · rename_i n g m
    have hn : n ≤ 9223372036854775807 := (hb (lst4 n g) (by simp)).1
    have hn' : fewN n ≤ 9223372036854775807 := by simp only [fewN, mn2]; split <;> omega
    refine ⟨_, _, fun _ _ _ x => x, LamOK.orc (p := [0, 1, 0, 1, 1, 1, 1, 1]) (mk := false) (nn := 92) (k := 1) (live := [0, 1, 5, 6, 8]) (c := .loop bodyU) (by kernel_rfl) (loopU (fewN n) (gz g) m (lH (fewN n) (gz g)) hn') (LamOK.nil _ _), ?_⟩
    have hp := hulls_pick (fewN n) (gz g) m
    rw [hulls.eq n g m, ← h]
    simp only [pick_ite, pick_leaf, decide_true, cond_true] at hp ⊢
    exact hp
  · cases h
theorem hulls.all (n : Nat) (g : Nat → Nat → Q) (m : Int) (_ : n ≤ 9223372036854775807) (_ : ∀ i, i < n → WfR (gRc g i)) (_ : Wf m) : (hulls.s [lst4 n g, V.i m]).pick = some (V.b true) := rfl

theorem hulls_lifted (os : Os) (started : os.Started) (H : Type) (enc : TypeId × Value → H) :
    ReturnsInHanded {} Tryd.checked os 4 .any (fun w args => (Rows.rectHullsSpec.pre enc Tryd.prog Tryd.f4 [] false w args ∧ laidMetH Tryd.prog laidL w) ∧ sizedMet enc Tryd.prog Tryd.f4 (OpenSpec.ofChange Rows.rectHullsSpec) false w args)
      (Rows.rectHullsSpec.post enc Tryd.prog Tryd.f4 false true false false) :=
  row_of (rt := 4) (shs := [(false, [.lst ks4]), (false, [.int .i64])]) H enc os started hulls.ok Tryd.func4 (by kernel_rfl) (by kernel_rfl) rfl
    (fun ds hl => by
      have hl' : ds.length = 2 := hl
      match ds, hl' with
      | [d1, d2], _ => rfl)
    (by kernel_rfl)
    (fun xs h => by
      obtain ⟨x1, l, rfl, p1, h⟩ := pvs_cons h
      obtain ⟨x2, l, rfl, p2, h⟩ := pvs_cons h
      obtain rfl := pvs_nil h
      obtain ⟨n1, g1, rfl, hn1, w1⟩ := pv_rects p1
      obtain ⟨n2, rfl, w2⟩ := pv_int p2
      exact hulls.all n1 g1 n2 hn1 w1 w2)
    (by kernel_rfl)
    (ChangeSpec.witness_at (enc := enc) (C := Tryd.checked) (os := os) (X := fun w _ => laidMetH Tryd.prog laidL w) false (laidWorld os) #[.slice none 0 0, .int .i64 0] 8 rfl (by kernel_rfl) (by kernel_rfl) (by kernel_rfl) (by kernel_rfl) (by kernel_rfl) (laidWorld_met os _))

theorem hulls_row : Rows.RectHullsSaid :=
  OpenClaim.holds_of_wide 4 Tryd.f4 rfl rfl rfl rfl rfl rfl rfl ⟨rfl, rfl, rfl, rfl, rfl⟩ rfl rfl rfl rfl rfl (by kernel_rfl) Tryd.func4 (by kernel_rfl)
    (of_decide_eq_true (by kernel_rfl)) (by unfold Func.isWrapper; rw [if_neg (of_decide_eq_false (by kernel_rfl))]; exact ⟨rfl, rfl⟩)
    (fun os started H enc _ => hulls_lifted os started H enc)

theorem hulls_holds : Rows.RectHullsCardSaid :=
  Claim7.holds_tied_plain_at .later [] [.handle] true Rows.rectHullsCard.stood.harness true
    hulls_row (fun _ h => by cases h) (by kernel_rfl) (fun _ h => by cases h) rectHulls_row_tie rfl ⟨rfl, rfl⟩ (by kernel_rfl) rfl
    (fun f fn hf hfn => by
      obtain rfl : f = 4 := Option.some.inj ((show Tryd.prog.funcNamed "gutter/gutterlaw02.RectHulls" = some 4 by kernel_rfl).symm.trans hf) |>.symm
      obtain rfl : fn = Tryd.f4 := (Option.some.inj (Tryd.func4.symm.trans hfn)).symm
      exact ⟨by kernel_rfl, fun j t ht => by
        have e : Tryd.f4.params.all (fun t => !(Tryd.pinned.checked.prog.wantsStandIn t)) = true := by kernel_rfl
        have := Array.all_eq_true_iff_forall_mem.1 e t (Array.mem_of_getElem? ht)
        simpa using this⟩)
    (by kernel_rfl)
#print axioms hulls_holds
end Go.Proofs.YtlapmkeppcpbnaaDoor
