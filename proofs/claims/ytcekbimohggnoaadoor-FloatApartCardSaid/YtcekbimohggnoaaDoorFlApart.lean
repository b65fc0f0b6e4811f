/- The card of FloatApart: floats do not meet; each lies within the width, if it is no wider; none lies above one ahead of it. -/
import Derived.Test.YtcekbimohggnoaaDoorFlO
namespace Go.Proofs.YtcekbimohggnoaaDoor
open Go Go.SX Go.Proofs Go.RowKit Go.ChangeShapes
set_option maxRecDepth 100000
set_option linter.unusedVariables false
set_option linter.unusedSectionVars false
set_option linter.unusedSimpArgs false

section
variable [EA]
/-! ### in plain numbers -/
theorem RB.rok {r : Rc} (h : RB r) : Ok r := by
  obtain ⟨a, b, c, d, e, f⟩ := h
  simp only [MS] at c
  unfold Ok
  omega
theorem meet_over {a b : Rc} (ha : RB a) (hb : RB b) (h : (meetR a b).w > 0) : Over b a := by
  obtain ⟨x, y, w, k⟩ := a
  obtain ⟨x', y', w', k'⟩ := b
  obtain ⟨a1, a2, a3, a4, a5, a6⟩ := ha
  obtain ⟨b1, b2, b3, b4, b5, b6⟩ := hb
  simp only [MS] at *
  have e1 : mW ⟨x, y, w, k⟩ ⟨x', y', w', k'⟩ = min (x + w) (x' + w') - max x x' := by
    simp only [mW, mn2_eq, mx2_eq]
    rw [w64_id (n := x + w) (by omega) (by omega), w64_id (n := x' + w') (by omega) (by omega), w64_id (by omega) (by omega)]
  have e2 : mH ⟨x, y, w, k⟩ ⟨x', y', w', k'⟩ = min (y + k) (y' + k') - max y y' := by
    simp only [mH, mn2_eq, mx2_eq]
    rw [w64_id (n := y + k) (by omega) (by omega), w64_id (n := y' + k') (by omega) (by omega), w64_id (by omega) (by omega)]
  simp only [meetR, mB, e1, e2, cond_and] at h
  by_cases g : min (x + w) (x' + w') - max x x' > 0 ∧ min (y + k) (y' + k') - max y y' > 0
  · obtain ⟨g1, g2⟩ := g
    unfold Over
    simp only
    omega
  · rw [decide_eq_false g] at h
    simp at h

theorem keq_kvR {a b : Rc} (h : keq (kvR a) (kvR b) = true) : a = b := by
  obtain ⟨x, y, w, hh⟩ := a
  obtain ⟨x', y', w', hh'⟩ := b
  simp only [keq, keqL, keq1] at h
  by_cases h1 : x = x' <;> by_cases h2 : y = y' <;> by_cases h3 : w = w' <;> by_cases h4 : hh = hh' <;> simp_all
theorem put_keys {p : Value → Prop} {k : Value} {q : List Q} (hk : p k) : ∀ {es : List (Value × List Q)}, (∀ e ∈ es, p e.1) → ∀ e ∈ putE k q es, p e.1
  | [], _, e, he => by
    simp only [putE, List.mem_singleton] at he
    subst he; exact hk
  | (k', q') :: es, h, e, he => by
    simp only [putE] at he
    cases hb : keq k k' with
    | true =>
      rw [hb] at he
      simp only [cond_true, List.mem_cons] at he
      rcases he with rfl | he
      · exact hk
      · exact h e (List.mem_cons_of_mem _ he)
    | false =>
      rw [hb] at he
      simp only [cond_false, List.mem_cons] at he
      rcases he with rfl | he
      · exact h _ List.mem_cons_self
      · exact put_keys hk (fun e he => h e (List.mem_cons_of_mem _ he)) e he
theorem esA_keys (g : Nat → Nat → Q) : ∀ i, ∀ e ∈ esA g i, ∃ j, j < i ∧ e.1 = kvR (gRc g j)
  | 0, e, he => by cases he
  | i + 1, e, he => put_keys (p := fun k => ∃ j, j < i + 1 ∧ k = kvR (gRc g j)) ⟨i, by omega, rfl⟩ (fun e he => by
      obtain ⟨j, h1, h2⟩ := esA_keys g i e he
      exact ⟨j, by omega, h2⟩) e he
theorem findE_key {key : Value} : ∀ {es : List (Value × List Q)} {r : List Q}, findE key es = some r → ∃ e ∈ es, keq key e.1 = true
  | [], r, h => by cases h
  | (k, q) :: es, r, h => by
    simp only [findE] at h
    cases hk : keq key k with
    | true => exact ⟨(k, q), List.mem_cons_self, hk⟩
    | false =>
      rw [hk] at h
      obtain ⟨e, he, h2⟩ := findE_key (es := es) (r := r) h
      exact ⟨e, List.mem_cons_of_mem _ he, h2⟩
theorem seen_eq {g : Nat → Nat → Q} {i : Nat} (h : seenB g i = true) : ∃ j, j < i ∧ gRc g j = gRc g i := by
  unfold seenB at h
  cases hf : findE (kvR (gRc g i)) (esA g i) with
  | none => rw [hf] at h; cases h
  | some q =>
    obtain ⟨e, he, hk⟩ := findE_key hf
    obtain ⟨j, hj, hj2⟩ := esA_keys g i e he
    rw [hj2] at hk
    exact ⟨j, hj, (keq_kvR hk).symm⟩

theorem over_self {r : Rc} (h1 : r.w > 0) (h2 : r.h > 0) : Over r r := by
  obtain ⟨x, y, w, h⟩ := r
  unfold Over
  simp only at h1 h2 ⊢
  omega
theorem sum_id {r : Rc} (h1 : 0 ≤ r.x) (h2 : 0 ≤ r.w) (h3 : r.x + r.w ≤ MS) : w64 (r.x + r.w) = r.x + r.w := by
  obtain ⟨x, y, w, h⟩ := r
  simp only [MS] at h1 h2 h3
  exact w64_id (by simp only; omega) (by simp only; omega)
/-- Those that do not meet, two by two, are apart. -/
theorem apart_true {n : Nat} {g : Nat → Nat → Q} (hg : GOKr n g) (hno : ∀ i k, i < n → k < i → ¬ Over (gRc g k) (gRc g i)) : apartB n g = true := by
  unfold apartB
  rw [allR_true fun i hi => right_iff.2 (hg.rb hi).rok, cond_true, apartA, List.all_eq_true]
  intro i hi
  have hi := List.mem_range.1 hi
  have h1 : c30 g i = false := by
    cases hc : c30 g i with
    | false => rfl
    | true =>
      unfold c30 at hc
      cases hs : seenB g i with
      | false => rw [hs] at hc; cases hc
      | true =>
        rw [hs] at hc
        obtain ⟨j, hj, he⟩ := seen_eq hs
        simp only [cond_true, cond_and, decide_eq_true_eq] at hc
        have := hno i j hi hj
        rw [he] at this
        exact absurd (over_self hc.1 hc.2) this
  have h2 : anyM g i = false := by
    rw [anyM, List.any_eq_false]
    intro k hk hs
    have hk := List.mem_range.1 hk
    unfold stopP at hs
    rw [gz_id, decide_eq_true_eq] at hs
    exact hno i k hi hk (meet_over (hg.rb hi) (hg.rb (by omega)) hs)
  unfold badP
  rw [h1, h2]; rfl

/-! ### the loop -/
noncomputable abbrev ΓL7 : Gam := [(10, shown.s), (11, few.s), (16, fPlace.s), (23, rect_Apart.s)]
theorem ΓL7.ok : GOK Tryd.prog ΓL7 := .cons shown.ok (.cons few.ok (.cons fPlace.ok (.cons rect_Apart.ok (GOK.nil _))))
def SAp (n : Nat) (g : Nat → Nat → Q) (m : Nat) (f : Nat → Nat → Q) (w i : Int) : St := mkS 128 [(0, lstF m f), (1, V.i w), (5, V.b true), (6, lst4 n g), (8, V.i i)] [] [] false [] 0
def FAp : Ex × St := (.exit 0, mkS 128 [(5, V.b true)] [] [] false [] 0)
def liveAp : Ex → List Nat | .normal => [0, 1, 5, 6, 8] | .ret => [4] | _ => [5]
abbrev pAp : List Nat := [0, 1, 0, 1, 1, 1, 1, 1, 1]
noncomputable abbrev bodyAp : Code := loopAt Tryd.f9 pAp
abbrev geX (g : Nat → Nat → Q) (i : Nat) : Bool := decide ((gRc g i).x ≥ 0)
abbrev leX (g : Nat → Nat → Q) (w : Int) (i : Nat) : Bool := decide (w64 ((gRc g i).x + (gRc g i).w) ≤ w)
abbrev gtX (f : Nat → Nat → Q) (w : Int) (i : Nat) : Bool := decide ((gFl f i).w > w)
def okA1 (n : Nat) (g : Nat → Nat → Q) (m : Nat) (f : Nat → Nat → Q) (w : Int) (i : Nat) : Bool :=
  bif inI i n then (bif geX g i then (bif inI i n then (bif inI i n then (bif leX g w i then true else (bif inI i m then (bif gtX f w i then (bif inI i n then true else false) else true) else false)) else false) else false) else true) else false
def vaA1 (g f : Nat → Nat → Q) (w : Int) (i : Nat) : Bool := bif geX g i then (bif leX g w i then true else (bif gtX f w i then (gRc g i).x == 0 else false)) else false
abbrev prevI (i : Nat) : Int := w64 ((i : Int) - 1)
abbrev inP (n : Nat) (i : Nat) : Bool := decide (0 ≤ prevI i ∧ prevI i < (n : Int))
abbrev neW (g f : Nat → Nat → Q) (i : Nat) : Bool := !((gRc g i).w == (gFl f i).w)
abbrev neH (g f : Nat → Nat → Q) (i : Nat) : Bool := !((gRc g i).h == (gFl f i).h)
abbrev ltY (g : Nat → Nat → Q) (i : Nat) : Bool := decide ((gRc g i).y < (gRc g (prevI i).toNat).y)
def okA2 (n : Nat) (g : Nat → Nat → Q) (m : Nat) (f : Nat → Nat → Q) (w : Int) (i : Nat) : Bool :=
  bif !(vaA1 g f w i) then true else (bif inI i n then (bif inI i m then (bif neW g f i then true else (bif inI i n then (bif inI i m then (bif neH g f i then true else (bif decide ((i : Int) > 0) then (bif inI i n then (bif inP n i then true else false) else false) else true)) else false) else false)) else false) else false)
def vaA2 (g f : Nat → Nat → Q) (w : Int) (i : Nat) : Bool :=
  bif !(vaA1 g f w i) then true else (bif neW g f i then true else (bif neH g f i then true else (bif decide ((i : Int) > 0) then ltY g i else false)))
noncomputable abbrev treeAp (n : Nat) (g : Nat → Nat → Q) (m : Nat) (f : Nat → Nat → Q) (w : Int) (i : Nat) : T (Ex × St × Bool) :=
  (sx Tryd.prog ΓL7 [] (0 :: pAp) bodyAp (SAp n g m f w i)).bind (fun x => T.leaf (x.1, deadS [] (canS 128 0 (liveAp x.1) x.2), chkM 128 0 x.2))
theorem stepAp1 (n : Nat) (g : Nat → Nat → Q) (m : Nat) (f : Nat → Nat → Q) (w : Int) (i : Nat) : (treeAp n g m f w i).pathC [true, true] = [decide ((i : Int) < n), okA1 n g m f w i] := by kernel_rfl
theorem stepAp (n : Nat) (g : Nat → Nat → Q) (m : Nat) (f : Nat → Nat → Q) (w : Int) (i : Nat) : (treeAp n g m f w i).pathC [true, true, true, false] = [decide ((i : Int) < n), okA1 n g m f w i, okA2 n g m f w i, vaA2 g f w i] := by kernel_rfl
theorem stepAp' (n : Nat) (g : Nat → Nat → Q) (m : Nat) (f : Nat → Nat → Q) (w : Int) (i : Nat) : (treeAp n g m f w i).pathL [true, true, true, false] = .leaf (.normal, SAp n g m f w (w64 (i + 1)), true) := by kernel_rfl
theorem stepApx (n : Nat) (g : Nat → Nat → Q) (m : Nat) (f : Nat → Nat → Q) (w : Int) (i : Nat) : (treeAp n g m f w i).pathC [false] = [decide ((i : Int) < n)] := by kernel_rfl
theorem stepApx' (n : Nat) (g : Nat → Nat → Q) (m : Nat) (f : Nat → Nat → Q) (w : Int) (i : Nat) : (treeAp n g m f w i).pathL [false] = .leaf (FAp.1, FAp.2, true) := by kernel_rfl

/-- What the loop asks of each. -/
structure Asks (n : Nat) (g f : Nat → Nat → Q) (w : Int) (i : Nat) : Prop where
  a : vaA1 g f w i = true
  b : neW g f i = false
  c : neH g f i = false
  d : 0 < i → ltY g i = false
theorem loopAp (n : Nat) (g : Nat → Nat → Q) (m : Nat) (f : Nat → Nat → Q) (w : Int) (hn : n ≤ 9223372036854775807) (hnm : n ≤ m) (hall : ∀ i, i < n → Asks n g f w i) : ∀ x, (T.leaf FAp).pick = some x → SemC Tryd.prog (.loop bodyAp) (SAp n g m f w 0) x := by
  refine loop_tree ΓL7.ok (root := cod Tryd.f9) (p := pAp) (by kernel_rfl) (fun i => i ≤ n) (fun i => SAp n g m f w i) (fun i => n - i) (.leaf FAp) 128 0 liveAp (fun _ => []) (fun i hi => ?_) 0 (Nat.zero_le _)
  rcases Nat.lt_or_ge i n with hlt | hge
  · refine ⟨[], .normal, SAp n g m f w (i + 1 : Nat), LamOK.nil _ _, T.pick_at [true, true, true, false] _ (stepAp n g m f w i) ?_ ((stepAp' n g m f w i).trans (by rw [w64_suc hlt hn])), .inl ⟨rfl, i + 1, hlt, by omega, rfl⟩⟩
    obtain ⟨a, b, c, d⟩ := hall i hlt
    have i1 : inI i n = true := c_in hlt
    have i2 : inI i m = true := c_in (show i < m by omega)
    have k1 : okA1 n g m f w i = true := by
      unfold okA1
      rw [i1, i2]
      cases geX g i <;> cases leX g w i <;> cases gtX f w i <;> rfl
    have k2 : okA2 n g m f w i = true ∧ vaA2 g f w i = false := by
      unfold okA2 vaA2
      rw [i1, i2, a, b, c]
      rcases Nat.eq_zero_or_pos i with h0 | hpos
      · have : decide ((i : Int) > 0) = false := by simp [h0]
        rw [this]; exact ⟨rfl, rfl⟩
      · have e1 : decide ((i : Int) > 0) = true := by simp; omega
        have hw : prevI i = i - 1 := w64_id (by omega) (by omega)
        have e2 : inP n i = true := by unfold inP; rw [hw]; simp; omega
        rw [e1, e2, d hpos]; exact ⟨rfl, rfl⟩
    rw [c_lt hlt, k1, k2.1, k2.2]
  · exact ⟨[], .exit 0, _, LamOK.nil _ _, T.pick_at [false] _ (stepApx n g m f w i) (by rw [c_ge hge]) (stepApx' n g m f w i), .inr ⟨by simp, rfl⟩⟩

/-! ### the law -/
theorem all_asks {n : Nat} {g f : Nat → Nat → Q} {w : Int} (h : All n g f w) (w1 : w ≤ MS) : ∀ i, i < n → Asks n g f w i := fun i hi => by
  obtain ⟨ew, eh, x0, xw, y0, y1, yb, yc, ap⟩ := h.pr i hi
  obtain ⟨b1, b2, b3, _⟩ := h.ok.at hi
  refine ⟨?_, ?_, ?_, fun hpos => ?_⟩
  · unfold vaA1
    have e1 : geX g i = true := decide_eq_true b1
    rw [e1, cond_true]
    have e2 : w64 ((gRc g i).x + (gRc g i).w) = (gRc g i).x + (gRc g i).w := sum_id b1 b2 b3
    unfold leX
    rw [e2]
    rcases xw with hx | ⟨hx, h0⟩
    · rw [decide_eq_true hx]; rfl
    · have : gtX f w i = true := decide_eq_true hx
      rw [this, h0]
      cases decide ((0 : Int) + (gRc g i).w ≤ w) <;> rfl
  · unfold neW; rw [ew, beq_self_eq_true]; rfl
  · unfold neH; rw [eh, beq_self_eq_true]; rfl
  · unfold ltY
    have hn := h.ok.hn
    have hw : prevI i = i - 1 := w64_id (by omega) (by omega)
    have e : (prevI i).toNat = i - 1 := by rw [hw]; omega
    have := (yB_bounds (h.ok.le (Nat.le_of_lt hi))).2.2 hpos
    rw [e, decide_eq_false_iff_not]
    rw [this] at yb
    omega
noncomputable abbrev SAp0 (m : Nat) (f : Nat → Nat → Q) (w : Int) : St := SAp (plN m f w) (gR f w m) m f w 0
noncomputable abbrev apT1 (m : Nat) (f : Nat → Nat → Q) (w : Int) : T V := funV Tryd.prog ΓL7 [] Tryd.f9 (cod Tryd.f9) [lstF m f, V.i w]
noncomputable abbrev apT2 (m : Nat) (f : Nat → Nat → Q) (w : Int) : T V := funV Tryd.prog ΓL7 [(pAp, orc false 128 0 [0, 1, 5, 6, 8] (SAp0 (fewN m) (gz f) w) (.leaf FAp))] Tryd.f9 (cod Tryd.f9) [lstF m f, V.i w]
noncomputable abbrev dAp (m : Nat) (f : Nat → Nat → Q) (w : Int) : Bool := @decide (SAp0 m f w = SAp0 m f w) (Classical.propDecidable _)
theorem dAp_true (m : Nat) (f : Nat → Nat → Q) (w : Int) : dAp m f w = true := @decide_eq_true _ (Classical.propDecidable _) rfl
theorem ap.e (m : Nat) (f : Nat → Nat → Q) (w : Int) : (apT1 m f w).pathC [true] = [!(codF (fewN m) (gz f) w == 0)] := by kernel_rfl
theorem ap.e' (m : Nat) (f : Nat → Nat → Q) (w : Int) : (apT1 m f w).pathL [true] = .leaf (V.b (andN [true, (plN (fewN m) (gz f) w : Int) == 0])) := by kernel_rfl
noncomputable abbrev neAp (m : Nat) (f : Nat → Nat → Q) (w : Int) : Bool := bif !((plN m f w : Int) == (m : Int)) then true else !(apartB (plN m f w) (gR f w m))
theorem ap.r (m : Nat) (f : Nat → Nat → Q) (w : Int) : (apT2 m f w).pathC [false, false, true] = [!(codF (fewN m) (gz f) w == 0), neAp (fewN m) (gz f) w, dAp (fewN m) (gz f) w] := by kernel_rfl
theorem ap.r' (m : Nat) (f : Nat → Nat → Q) (w : Int) : (apT2 m f w).pathL [false, false, true] = .leaf (V.b true) := by kernel_rfl

def apt.s : List V → T V
  | [.q (.lst [.int .i64, .int .i64, .bool, .bool] m f), .q (.c (.int .i64 w))] => .leaf (V.b true)
  | _ => .bad
theorem apt.ok : SpecOK Tryd.prog 9 apt.s := by
  refine specOK_of_bodyW ΓL7.ok Tryd.func9 (isBody _ (by kernel_rfl)) (by kernel_rfl) fun args r hb h => ?_
  unfold apt.s at h
  split at h
  · rename_i m f w
    cases h
    have hm22 := (fewN_le m).1
    cases hr : rightF (fewN m) (gz f) w with
    | false =>
      refine ⟨_, _, fun _ _ _ x => x, LamOK.nil _ _, T.pick_at [true] _ (ap.e m f w) (by simp only [codF, hr, cond_false]; rfl) ((ap.e' m f w).trans ?_)⟩
      simp only [plN, hr, cond_false]; rfl
    | true =>
      have hF := right_ok.1 hr
      have hA := gR_all hF (fewN m) (Nat.le_refl _)
      have hpl : plN (fewN m) (gz f) w = fewN m := by simp only [plN, hr, cond_true]
      refine ⟨_, _, fun _ _ _ x => x, LamOK.orc (p := pAp) (mk := false) (nn := 128) (k := 0) (live := [0, 1, 5, 6, 8]) (c := .loop bodyAp) (by kernel_rfl) (loopAp (plN (fewN m) (gz f) w) (gR (gz f) w (fewN m)) (fewN m) (gz f) w (by omega) (by omega) (fun i hi => by rw [hpl] at hi ⊢; exact all_asks hA hF.h1 i hi)) (LamOK.nil _ _),
        T.pick_at [false, false, true] _ (ap.r m f w) ?_ (ap.r' m f w)⟩
      have ha : apartB (fewN m) (gR (gz f) w (fewN m)) = true := apart_true hA.ok fun i k hi hk => (hA.pr i hi).ap k hk
      rw [dAp_true]
      unfold neAp
      rw [hpl, ha]
      simp only [codF, hr, cond_true, beq_self_eq_true]; rfl
  · cases h
end
theorem apt.all (n : Nat) (g : Nat → Nat → Q) (w : Int) (_ : n ≤ 9223372036854775807) (_ : Wf w) : (apt.s [lstF n g, V.i w]).pick = some (V.b true) := rfl

theorem apt_lifted (os : Os) (started : os.Started) (H : Type) (enc : TypeId × Value → H) :
    ReturnsInHanded {} Tryd.checked os 9 .any (fun w args => (Rows.floatApartSpec.pre enc Tryd.prog Tryd.f9 [] false w args ∧ laidMetH Tryd.prog laidL w) ∧ sizedMet enc Tryd.prog Tryd.f9 (OpenSpec.ofChange Rows.floatApartSpec) false w args)
      (Rows.floatApartSpec.post enc Tryd.prog Tryd.f9 false true false false) :=
  row_of (rt := 4) (shs := [(false, [.lst ksF]), (false, [.int .i64])]) H enc os started (fun e => @apt.ok e) Tryd.func9 (by kernel_rfl) (by kernel_rfl) rfl
    (fun ds hl => by
      have hl' : ds.length = 2 := hl
      match ds, hl' with
      | [d1, d2], _ => rfl)
    (by kernel_rfl)
    (fun xs h => by
      obtain ⟨x1, l, rfl, p1, h⟩ := pvs_cons h
      obtain ⟨x2, l, rfl, p2, h⟩ := pvs_cons h
      obtain rfl := pvs_nil h
      obtain ⟨n1, g1, rfl, hn1⟩ := pv_floats p1
      obtain ⟨n2, rfl, w2⟩ := pv_int p2
      exact apt.all n1 g1 n2 hn1 w2)
    (by kernel_rfl)
    (ChangeSpec.witness_at (enc := enc) (C := Tryd.checked) (os := os) (X := fun w _ => laidMetH Tryd.prog laidL w) false (laidWorld os) #[.slice none 0 0, .int .i64 0] 8 rfl (by kernel_rfl) (by kernel_rfl) (by kernel_rfl) (by kernel_rfl) (by kernel_rfl) (laidWorld_met os _))

theorem apt_row : Rows.FloatApartSaid :=
  OpenClaim.holds_of_wide 9 Tryd.f9 rfl rfl rfl rfl rfl rfl rfl ⟨rfl, rfl, rfl, rfl, rfl⟩ rfl rfl rfl rfl rfl (by kernel_rfl) Tryd.func9 (by kernel_rfl)
    (of_decide_eq_true (by kernel_rfl)) (by unfold Func.isWrapper; rw [if_neg (of_decide_eq_false (by kernel_rfl))]; exact ⟨rfl, rfl⟩)
    (fun os started H enc _ => apt_lifted os started H enc)

theorem apt_holds : Rows.FloatApartCardSaid :=
  Claim7.holds_tied_plain_at .later [] [.handle, .sentinel] true Rows.floatApartCard.stood.harness true
    apt_row (fun _ h => by cases h) (by kernel_rfl) (fun _ h => by cases h) floatApart_row_tie rfl ⟨rfl, rfl⟩ (by kernel_rfl) rfl
    (fun f fn hf hfn => by
      obtain rfl : f = 9 := Option.some.inj ((show Tryd.prog.funcNamed "gutter/gutterlaw11.FloatApart" = some 9 by kernel_rfl).symm.trans hf) |>.symm
      obtain rfl : fn = Tryd.f9 := (Option.some.inj (Tryd.func9.symm.trans hfn)).symm
      exact ⟨by kernel_rfl, fun j t ht => by
        have e : Tryd.f9.params.all (fun t => !(Tryd.pinned.checked.prog.wantsStandIn t)) = true := by kernel_rfl
        have := Array.all_eq_true_iff_forall_mem.1 e t (Array.mem_of_getElem? ht)
        simpa using this⟩)
    (by kernel_rfl)
#print axioms apt_holds
end Go.Proofs.YtcekbimohggnoaaDoor
