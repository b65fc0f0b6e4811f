/- StylePlaces. -/
import Derived.Test.YtgmeglodnhagdaaGreatDoorStP
import Derived.Test.YtgmeglodnhagdaaGreatDoorStV
namespace Go.Proofs.YtgmeglodnhagdaaGreatDoor
open Go Go.SX Go.Proofs Go.RowKit Go.ChangeShapes
set_option maxRecDepth 100000
set_option linter.unusedVariables false
section
variable [EA]
set_option linter.unusedSectionVars false
abbrev pPl : List Nat := [0, 1, 0, 1, 1, 1, 1]
noncomputable abbrev bodyPl : Code := loopAt Tryz.f7 pPl
def SPl (a : Sty) (x t : ByteArray) (e : Int) (i : Int) : St := mkS 74 [(1, V.s x), (2, .ptr 0 0), (5, V.b true), (6, V.s t), (7, V.i e), (8, V.i i)] [celS a] [] false [] 0
def livePl : Ex → List Nat | .normal => [1, 2, 5, 6, 7, 8] | .ret => [4] | _ => [1, 2, 5, 6, 7]
noncomputable abbrev treePl (s : St) : T (Ex × St × Bool) := ltree Tryz.prog [] [] pPl bodyPl 74 1 livePl poN s
abbrev retPl (a : Sty) : St := mkS 74 [(4, V.b true)] [celS a] [] false [] 0
abbrev finPl (a : Sty) (x t : ByteArray) (e : Int) : St := mkS 74 [(1, V.s x), (2, .ptr 0 0), (5, V.b true), (6, V.s t), (7, V.i e)] [celS a] [] false [] 0
abbrev nPl (a : Sty) (x t : ByteArray) (e : Int) (i : Nat) : T (Ex × St × Bool) := .leaf (.normal, SPl a x t e (w64 (i + 1)), true)
theorem stepPl (a : Sty) (x t : ByteArray) (e : Int) (i : Nat) : treePl (SPl a x t e i) =
    .ite (decide ((i : Int) < x.size)) (.ite (inI i x.size) (.ite (sByte x i == 32) (.leaf (.ret, retPl a, true)) (.ite (inI i x.size) (.ite (sByte x i == 59) (.leaf (.ret, retPl a, true)) (nPl a x t e i)) .bad)) .bad) (.leaf (.exit 0, finPl a x t e, true)) := by kernel_rfl
/-- Neither a blank nor a semicolon. -/
def qPl (x : ByteArray) (i : Nat) : Bool := bif sByte x i == 32 then false else !(sByte x i == 59)
theorem loopPl (a : Sty) (x t : ByteArray) (e : Int) (hn : x.size ≤ 9223372036854775807) : ∀ y, (T.ite (allN x.size (qPl x)) (.leaf (Ex.exit 0, finPl a x t e)) (.leaf (.ret, retPl a))).pick = some y → SemC Tryz.prog (.loop bodyPl) (SPl a x t e (0 : Nat)) y := by
  refine loopAll (GOK.nil _) (root := cod Tryz.f7) (p := pPl) (by kernel_rfl) hn (fun i => SPl a x t e i) (qPl x) _ _ 74 1 livePl poN poN_ok (fun i hlt hq => ?_) (fun i hlt hq => ?_) ?_
  · have h1 : (sByte x i == 32) = false := by cases h : sByte x i == 32 with
      | false => rfl
      | true => unfold qPl at hq; rw [h] at hq; cases hq
    have h2 : (sByte x i == 59) = false := by unfold qPl at hq; rw [h1] at hq; simpa using hq
    exact (congrArg T.pick (stepPl a x t e i)).trans (by rw [c_lt hlt, c_inI hlt, h1, h2]; rfl)
  · refine (congrArg T.pick (stepPl a x t e i)).trans ?_
    rw [c_lt hlt, c_inI hlt]
    cases h1 : sByte x i == 32 with
    | true => rfl
    | false =>
      have h2 : (sByte x i == 59) = true := by unfold qPl at hq; rw [h1] at hq; simpa using hq
      rw [h2]; rfl
  · exact (congrArg T.pick (stepPl a x t e x.size)).trans (by rw [c_ge (Nat.le_refl _)]; rfl)
abbrev cut10 (x : ByteArray) : ByteArray := x.extract 0 (if 10 < (x.size : Int) then 10 else (x.size : Int)).toNat
noncomputable abbrev orPl (a : Sty) (x t : ByteArray) (e : Int) (q : Bool) : Lam := [(pPl, orc false 74 1 (livePl .normal) (SPl a x t e (0 : Nat)) (.ite q (.leaf (Ex.exit 0, finPl a x t e)) (.leaf (.ret, retPl a))))]
noncomputable abbrev trPl (F : Lw) (a : Sty) (x : ByteArray) (q : Bool) : T V := funV Tryz.prog (ΓLw F) (orPl a (cut10 x) (F.T a) (F.P a) q) Tryz.f7 (cod Tryz.f7) [styV a, V.s x]
abbrev noB : ByteArray := ⟨#[59, 32, 110, 111]⟩
abbrev yPl (F : Lw) (a : Sty) (x : ByteArray) : ByteArray := F.T a ++ noB ++ cut10 x
abbrev cPl (F : Lw) (a : Sty) : Bool := bif F.P a != 0 then true else seqB (F.T a) (bT [])
noncomputable abbrev sameC (a : Sty) (t : ByteArray) (e : Int) (x : ByteArray) : Bool := @decide (SPl a x t e (0 : Nat) = SPl a x t e (0 : Nat)) (Classical.propDecidable _)
abbrev s0Pl (x : ByteArray) : Bool := decide ((0 : Int) ≤ 0 ∧ 0 ≤ (if 10 < (x.size : Int) then 10 else (x.size : Int)) ∧ (if 10 < (x.size : Int) then 10 else (x.size : Int)) ≤ (x.size : Int))
theorem pl_cR (F : Lw) (a : Sty) (x : ByteArray) (q : Bool) : (trPl F a x q).pathC [true, true, false] = [s0Pl x, sameC a (F.T a) (F.P a) (cut10 x), q] := by kernel_rfl
theorem pl_lR (F : Lw) (a : Sty) (x : ByteArray) (q : Bool) : (trPl F a x q).pathL [true, true, false] = .leaf (V.b true) := by kernel_rfl
theorem pl_cE (F : Lw) (a : Sty) (x : ByteArray) (q : Bool) : (trPl F a x q).pathC [true, true, true, true] = [s0Pl x, sameC a (F.T a) (F.P a) (cut10 x), q, cPl F a] := by kernel_rfl
theorem pl_lE (F : Lw) (a : Sty) (x : ByteArray) (q : Bool) : (trPl F a x q).pathL [true, true, true, true] = .leaf (V.b true) := by kernel_rfl
theorem pl_cL (F : Lw) (a : Sty) (x : ByteArray) (q : Bool) : (trPl F a x q).pathC [true, true, true, false, true, true, true] = [s0Pl x, sameC a (F.T a) (F.P a) (cut10 x), q, cPl F a, decide ((F.T a).size + 4 ≤ 9223372036854775807), decide ((F.T a ++ noB).size + (cut10 x).size ≤ 9223372036854775807), decide ((yPl F a x).size < 1000000)] := by kernel_rfl
theorem pl_lL (F : Lw) (a : Sty) (x : ByteArray) (q : Bool) : (trPl F a x q).pathL [true, true, true, false, true, true, true] = .leaf (V.b (bif styEq (F.R (yPl F a x)) zeroS then (bif F.N (yPl F a x) == ((F.D a plainS).length : Int) then F.E (yPl F a x) == 40 else false) else false)) := by kernel_rfl
/-! ### the plain law -/
theorem join_snoc {sep : List UInt8} (x : List UInt8) (l : List (List UInt8)) (z : List UInt8) : Lib.join (x :: l ++ [z]) sep = Lib.join (x :: l) sep ++ (sep ++ z) := by
  rw [List.cons_append, Lib.join_cons, Lib.join_cons]
  simp [Lib.joinTail]
theorem joinB_snoc {l : List ByteArray} (h : l ≠ []) (z : ByteArray) : joinB (l ++ [z]) semiB = joinB l semiB ++ (semiB ++ z) := by
  cases l with
  | nil => exact absurd rfl h
  | cons x l =>
    apply bL_inj
    rw [bL_app, bL_app, bL_bT, bL_bT, List.map_append, List.map_cons, List.map_singleton]
    exact join_snoc _ _ _
theorem nm_not_all : (List.range 16).all (fun i => decide ((bL (nmB i)).take 2 ≠ [110, 111])) = true := by decide +kernel
theorem qPl_no {x : ByteArray} (h : allN x.size (qPl x) = true) : (32 : UInt8) ∉ bL x ∧ (59 : UInt8) ∉ bL x := by
  have key : ∀ c, c ∈ bL x → c.toNat ≠ 32 ∧ c.toNat ≠ 59 := fun c hc => by
    obtain ⟨i, hi, rfl⟩ := List.mem_iff_getElem.1 hc
    have hq := allN_at h (i := i) hi
    have hb : bAt x i = ((bL x)[i]).toNat := bAt_bT (l := bL x) hi
    unfold qPl at hq
    have e : sByte x i = ((bAt x i : Nat) : Int) := rfl
    rw [e, hb] at hq
    constructor
    · intro h2
      rw [h2] at hq
      exact absurd hq (by decide)
    · intro h2
      rw [h2] at hq
      exact absurd hq (by decide)
  exact ⟨fun hm => (key _ hm).1 rfl, fun hm => (key _ hm).2 rfl⟩
theorem cut10_size (x : ByteArray) : (cut10 x).size ≤ 10 := by
  rw [ByteArray.size_extract]
  split <;> omega
def placesL.s : List V → T V
  | [x, .q (.c (.string b))] => onSt x fun _ => .leaf (V.b true)
  | _ => .bad
theorem placesL.ok : SpecOK Tryz.prog 7 placesL.s := by
  refine okF (ΓLw.ok) Tryz.func7 (by kernel_rfl) (by kernel_rfl) fun args r hb hr => ?_
  unfold placesL.s at hr
  split at hr
  · rename_i b
    obtain ⟨a, rfl, hr2⟩ := onSt_pick hr
    have hsz := cut10_size b
    refine ⟨orPl a (cut10 b) (pTx a) (pEr a) (allN (cut10 b).size (qPl (cut10 b))), LamOK.orc (c := .loop bodyPl) (by kernel_rfl) (loopPl a (cut10 b) (pTx a) (pEr a) (by omega)) (LamOK.nil _ _), ?_⟩
    show (trPl lw a b (allN (cut10 b).size (qPl (cut10 b)))).pick = _
    have h0 : s0Pl b = true := decide_eq_true (by split <;> omega)
    have h1 : sameC a (pTx a) (pEr a) (cut10 b) = true := @decide_eq_true _ (Classical.propDecidable _) rfl
    cases hq : allN (cut10 b).size (qPl (cut10 b)) with
    | false =>
      have e : (trPl lw a b false).pathC [true, true, false] = [true, true, false] := (pl_cR lw a b false).trans (by rw [h0, show sameC a (lw.T a) (lw.P a) (cut10 b) = true from h1])
      exact ((T.pick_path _ _ e).trans (congrArg T.pick (pl_lR lw a b false))).trans hr2
    | true =>
      cases hc : cPl lw a with
      | true =>
        have e : (trPl lw a b true).pathC [true, true, true, true] = [true, true, true, true] := (pl_cE lw a b true).trans (by rw [h0, show sameC a (lw.T a) (lw.P a) (cut10 b) = true from h1, hc])
        exact ((T.pick_path _ _ e).trans (congrArg T.pick (pl_lE lw a b true))).trans hr2
      | false =>
        have hT := pTx_size a
        have hs1 : (pTx a ++ noB).size < 999100 := by rw [ByteArray.size_append, show noB.size = 4 from rfl]; omega
        have hs2 : (yPl lw a b).size < 1000000 := by
          show (pTx a ++ noB ++ cut10 b).size < _
          rw [ByteArray.size_append]; omega
        have e : (trPl lw a b true).pathC [true, true, true, false, true, true, true] = [true, true, true, false, true, true, true] := (pl_cL lw a b true).trans (by
          rw [h0, show sameC a (lw.T a) (lw.P a) (cut10 b) = true from h1, hc, decide_eq_true hs2, decide_eq_true (show (lw.T a).size + 4 ≤ 9223372036854775807 from Nat.le_trans (Nat.add_le_add_right (Nat.le_of_lt hT) 4) (by omega)),
            decide_eq_true (show (lw.T a ++ noB).size + (cut10 b).size ≤ 9223372036854775807 from Nat.le_trans (Nat.add_le_add (Nat.le_of_lt hs1) hsz) (by omega))])
        refine ((T.pick_path _ _ e).trans (congrArg T.pick (pl_lL lw a b true))).trans (Eq.trans ?_ hr2)
        have hc2 : (bif pEr a != 0 then true else seqB (pTx a) (bT [])) = false := hc
        have hR : rightS a = true := by
          cases h : rightS a with
          | true => rfl
          | false => rw [show pEr a = 40 by unfold pEr; rw [h]; rfl] at hc2; cases hc2
        rw [show pEr a = 0 by unfold pEr; rw [hR]; rfl, show pTx a = sTxt a by unfold pTx; rw [hR]; rfl] at hc2
        have hne : prtP a ≠ [] := fun h => by
          rw [show sTxt a = bT [] by show joinB (prtP a) semiB = _; rw [h]; rfl, seqB_iff.2 rfl] at hc2
          exact absurd hc2 (by decide)
        obtain ⟨q1, q2⟩ := qPl_no hq
        have hz : bL (bT [110, 111] ++ cut10 b) = 110 :: 111 :: bL (cut10 b) := bL_app _ _
        have z1 : (59 : UInt8) ∉ bL (bT [110, 111] ++ cut10 b) := by
          rw [hz]
          intro hm
          rcases List.mem_cons.1 hm with h | hm
          · exact absurd h (by decide)
          · rcases List.mem_cons.1 hm with h | hm
            · exact absurd h (by decide)
            · exact q2 hm
        have z2 : (32 : UInt8) ∉ bL (bT [110, 111] ++ cut10 b) := by
          rw [hz]
          intro hm
          rcases List.mem_cons.1 hm with h | hm
          · exact absurd h (by decide)
          · rcases List.mem_cons.1 hm with h | hm
            · exact absurd h (by decide)
            · exact q1 hm
        have z3 : ∀ i, i < 16 → nmX (bT [110, 111] ++ cut10 b) ≠ nmB i := fun i hi h => by
          have h2 : bL (nmX (bT [110, 111] ++ cut10 b)) = 110 :: 111 :: bL (cut10 b) := by
            show bL (bT (Lib.cut (bL (bT [110, 111] ++ cut10 b)) [32]).1) = _
            rw [bL_bT, cut_no z2, hz]
          rw [h] at h2
          have h3 := of_decide_eq_true (List.all_eq_true.1 nm_not_all i (List.mem_range.2 hi))
          rw [h2] at h3
          exact h3 rfl
        obtain ⟨p1, p2, p3⟩ := parse_places (rightS_of hR) hne z1 z3
        have hy : yPl lw a b = joinB (prtP a ++ [bT [110, 111] ++ cut10 b]) semiB := by
          rw [joinB_snoc hne]
          show pTx a ++ noB ++ cut10 b = _
          rw [show pTx a = sTxt a by unfold pTx; rw [hR]; rfl]
          apply bL_inj
          rw [bL_app, bL_app, bL_app, bL_app, bL_app, List.append_assoc]; rfl
        show (T.leaf (V.b (bif styEq (psR (yPl lw a b)) zeroS then (bif psN (yPl lw a b) == ((nmD a plainS).length : Int) then psE (yPl lw a b) == 40 else false) else false))).pick = some (V.b true)
        rw [hy, p1, p2, p3, styEq_iff.2 rfl, nmD_len, ← prtP_len, beq_self_eq_true]; rfl
  · cases hr
end
theorem placesL.all (a : Sty) (x : ByteArray) (_ : True) {p : Prop} (_ : p) : (placesL.s [styV a, V.s x]).pick = some (V.b true) := rfl

theorem placesL_lifted (os : Os) (started : os.Started) (H : Type) (enc : TypeId × Value → H) :
    ReturnsInHanded {} Tryz.checked os 7 .any (fun w args => (Rows.stylePlacesSpec.pre enc Tryz.prog Tryz.f7 [] false w args ∧ laidMetH Tryz.prog laidL w) ∧ sizedMet enc Tryz.prog Tryz.f7 (OpenSpec.ofChange Rows.stylePlacesSpec) false w args)
      (Rows.stylePlacesSpec.post enc Tryz.prog Tryz.f7 false true false false) :=
  row_of (rt := 4) (shs := [(true, ksSt), (false, [.str])]) H enc os started (fun e => @placesL.ok e) Tryz.func7 (by kernel_rfl) (by kernel_rfl) rfl
    (fun ds hl => by
      have hl' : ds.length = 2 := hl
      match ds, hl' with
      | [d1, d2], _ => rfl)
    (by kernel_rfl)
    (fun xs h => by
      obtain ⟨x1, l, rfl, p1, h⟩ := pvs_cons h
      obtain ⟨x2, l, rfl, p2, h⟩ := pvs_cons h
      obtain rfl := pvs_nil h
      obtain ⟨r1, rfl, w1⟩ := pv_style p1
      obtain ⟨n2, rfl, hn2⟩ := pv_text p2
      exact placesL.all r1 n2 w1 hn2)
    (by kernel_rfl)
    (ChangeSpec.witness_at (enc := enc) (C := Tryz.checked) (os := os) (X := fun w _ => laidMetH Tryz.prog laidL w) false (laidWorld os) #[.agg #[.int .i64 0, .int .i64 0, .int .i64 0, .int .i64 0, .bool false, .int .i64 0, .int .i64 0, .int .i64 0, .bool false, .int .i64 0, .int .i64 0, .bool false, .int .i64 0, .bool false, .int .i64 0, .int .i64 0], .string ⟨#[]⟩] 8 rfl (by kernel_rfl) (by kernel_rfl) (by kernel_rfl) (by kernel_rfl) (by kernel_rfl) (laidWorld_met os _))

theorem placesL_row : Rows.StylePlacesSaid :=
  OpenClaim.holds_of_wide 7 Tryz.f7 rfl rfl rfl rfl rfl rfl rfl ⟨rfl, rfl, rfl, rfl, rfl⟩ rfl rfl rfl rfl rfl (by kernel_rfl) Tryz.func7 (by kernel_rfl)
    (of_decide_eq_true (by kernel_rfl)) (by unfold Func.isWrapper; rw [if_neg (of_decide_eq_false (by kernel_rfl))]; exact ⟨rfl, rfl⟩)
    (fun os started H enc _ => placesL_lifted os started H enc)

theorem placesL_holds : Rows.StylePlacesCardSaid :=
  Claim7.holds_tied_plain_at .later [] [.data, .data, .data, .data, .handle, .sentinel, .sentinel, .sentinel, .sentinel, .sentinel, .sentinel, .pinned] true Rows.stylePlacesCard.stood.harness true
    placesL_row (fun _ h => by cases h) (by kernel_rfl) (fun _ h => by cases h) stylePlaces_row_tie rfl ⟨rfl, rfl⟩ (by kernel_rfl) rfl
    (fun f fn hf hfn => by
      obtain rfl : f = 7 := Option.some.inj ((show Tryz.prog.funcNamed "gutter/gutterlaw04.StylePlaces" = some 7 by kernel_rfl).symm.trans hf) |>.symm
      obtain rfl : fn = Tryz.f7 := (Option.some.inj (Tryz.func7.symm.trans hfn)).symm
      exact ⟨by kernel_rfl, fun j t ht => by
        have e : Tryz.f7.params.all (fun t => !(Tryz.pinned.checked.prog.wantsStandIn t)) = true := by kernel_rfl
        have := Array.all_eq_true_iff_forall_mem.1 e t (Array.mem_of_getElem? ht)
        simpa using this⟩)
    (by kernel_rfl)
#print axioms placesL_holds
end Go.Proofs.YtgmeglodnhagdaaGreatDoor
