/- StyleTells. -/
import Derived.Test.YtgmeglodnhagdaaGreatDoorStP
import Derived.Test.YtgmeglodnhagdaaGreatDoorStV
namespace Go.Proofs.YtgmeglodnhagdaaGreatDoor
open Go Go.SX Go.Proofs Go.RowKit Go.ChangeShapes
set_option maxRecDepth 100000
set_option linter.unusedVariables false
section
variable [EA]
set_option linter.unusedSectionVars false
/-! ### the document's Differs -/
abbrev pRd : List Nat := [0, 1, 0, 1, 1, 1, 1]
noncomputable abbrev bodyRd : Code := loopAt Tryz.f23 pRd
abbrev boolQ (b : Bool) : List Q := [.c (.bool b)]
abbrev lBo (l : List Bool) : V := vOf [.bool] boolQ l
def SRd (a b : Sty) (bs : List Bool) (n m : Nat) (g h : Nat → Nat → Q) (i : Int) : St := mkS 109 [(5, lBo bs), (6, .own 2), (7, .q (.lst [.str] n g)), (8, V.i i)] [celS a, celS b, some (.vec 9 [.str] m h)] [] false [] 0
def FRd (a b : Sty) (m : Nat) (h : Nat → Nat → Q) : St := mkS 109 [(6, .own 2)] [celS a, celS b, some (.vec 9 [.str] m h)] [] false [] 0
def liveRd : Ex → List Nat | .normal => [5, 6, 7, 8] | _ => [6]
noncomputable abbrev treeRd (s : St) : T (Ex × St × Bool) := ltree Tryz.prog [] [] pRd bodyRd 109 3 liveRd (poM [(3, 2)]) s
theorem stepRd (a b : Sty) (bs : List Bool) (n m : Nat) (g h : Nat → Nat → Q) (i : Nat) : treeRd (SRd a b bs n m g h i) =
    .ite (decide ((i : Int) < n)) (.ite (inI i bs.length) (.ite (qBool (gOf boolQ bs i 0)) (.ite (inI i n) (.ite (roomB m 1 16) (.leaf (.normal, SRd a b bs n (m + 1) g (catG m h (rows [strQ (qStr (g i 0))])) (w64 (i + 1)), true)) .bad) .bad)
      (.leaf (.normal, SRd a b bs n m g h (w64 (i + 1)), true))) .bad) (.leaf (.exit 0, FRd a b m h, true)) := by kernel_rfl
/-- The names where it is so. -/
def outRd (bs : List Bool) (i : Nat) : List ByteArray := ((List.range i).filter fun i => bs.getD i false).map nmB
theorem outRd_suc (bs : List Bool) (i : Nat) : outRd bs (i + 1) = outRd bs i ++ (if bs.getD i false then [nmB i] else []) := by
  unfold outRd
  rw [List.range_succ, List.filter_append, List.map_append]
  congr 1
  simp only [List.filter_cons, List.filter_nil]
  cases h : bs.getD i false <;> rfl
theorem outRd_len (bs : List Bool) (i : Nat) : (outRd bs i).length ≤ i := by
  unfold outRd
  rw [List.length_map]
  exact Nat.le_trans (List.length_filter_le _ _) (by simp)
theorem nmF_at {i : Nat} (h : i < 16) : qStr (gOf strQ nmF i 0) = nmB i := by
  rw [gOf_at strQ nmF (show i < nmF.length from h)]
  simp [nmB, List.getD_eq_getElem?_getD, show i < nmF.length from h]
  rfl
theorem loopRd (a b : Sty) {bs : List Bool} (hb : bs.length = 16) : ∀ x, (T.leaf (Ex.exit 0, FRd a b (outRd bs 16).length (gOf strQ (outRd bs 16)))).pick = some x → SemC Tryz.prog (.loop bodyRd) (SRd a b bs 16 0 (gOf strQ nmF) (gOf strQ (outRd bs 0)) (0 : Nat)) x := by
  refine loopFold (GOK.nil _) (root := cod Tryz.f23) (p := pRd) (by kernel_rfl) (n := 16) (by omega) (fun (l : List ByteArray) i => SRd a b bs 16 l.length (gOf strQ nmF) (gOf strQ l) i) (outRd bs) (.exit 0) (by simp) _ 109 3 liveRd (poM [(3, 2)]) (poM_ok _) (fun i hlt => ?_) ?_
  · have hlen := outRd_len bs i
    have hbi : qBool (gOf boolQ bs i 0) = bs.getD i false := by
      rw [gOf_at boolQ bs (by omega)]
      simp [List.getD_eq_getElem?_getD, show i < bs.length by omega]
      rfl
    refine ⟨[], LamOK.nil _ _, (congrArg T.pick (stepRd a b bs 16 _ (gOf strQ nmF) (gOf strQ (outRd bs i)) i)).trans ?_⟩
    rw [c_lt hlt, hb, c_inI hlt, hbi, outRd_suc]
    cases h : bs.getD i false with
    | true =>
      have hr : roomB (outRd bs i).length 1 16 = true := by simp [roomB]; omega
      rw [hr, nmF_at hlt, catG_of strQ, if_pos rfl, List.length_append]; rfl
    | false => rw [if_neg (by simp), List.append_nil]; rfl
  · exact (congrArg T.pick (stepRd a b bs 16 _ (gOf strQ nmF) (gOf strQ (outRd bs 16)) 16)).trans (by rw [c_ge (Nat.le_refl _)]; rfl)
abbrev bsD (a b : Sty) : List Bool := [a.c != b.c, a.w != b.w, a.g != b.g, a.r != b.r, a.a != b.a, a.h != b.h, a.o != b.o, a.wi != b.wi, a.k != b.k, a.b != b.b, a.af != b.af, a.sp != b.sp, a.si != b.si, a.cl != b.cl, a.t != b.t, a.bo != b.bo]
abbrev ΓRd : Gam := [(26, rNames.s)]
theorem ΓRd.ok : GOK Tryz.prog ΓRd := .cons rNames.ok (GOK.nil _)
noncomputable abbrev orRd (a b : Sty) (m : Nat) (h : Nat → Nat → Q) : Lam := [(pRd, orcP (nilV 6 2 9 [.str]) false 109 3 [5, 6, 7, 8] (SRd a b (bsD a b) 16 0 (gOf strQ nmF) (gOf strQ (outRd (bsD a b) 0)) (0 : Nat)) (.leaf (Ex.exit 0, FRd a b m h)))]
noncomputable abbrev trRd (a b : Sty) (m : Nat) (h : Nat → Nat → Q) : T V := funV Tryz.prog ΓRd (orRd a b m h) Tryz.f23 (cod Tryz.f23) [styV a, styV b]
theorem rd_c (a b : Sty) (m : Nat) (h : Nat → Nat → Q) : (trRd a b m h).pathC [true] = [@decide (SRd a b (bsD a b) 16 0 (gOf strQ nmF) (gOf strQ (outRd (bsD a b) 0)) (0 : Nat) = SRd a b (bsD a b) 16 0 (gOf strQ nmF) (gOf strQ (outRd (bsD a b) 0)) (0 : Nat)) (Classical.propDecidable _)] := by kernel_rfl
theorem rd_l (a b : Sty) (m : Nat) (h : Nat → Nat → Q) : (trRd a b m h).pathL [true] = .leaf (.q (.lst [.str] m h)) := by kernel_rfl
theorem b2_ne {a b : Bool} : (a != b) = true ↔ b2 a ≠ b2 b := by cases a <;> cases b <;> simp [b2]
theorem bsD_at (a b : Sty) : ∀ i, i < 16 → ((bsD a b).getD i false = true ↔ fv a i ≠ fv b i)
  | 0, _ => bne_iff_ne
  | 1, _ => bne_iff_ne
  | 2, _ => bne_iff_ne
  | 3, _ => bne_iff_ne
  | 4, _ => b2_ne
  | 5, _ => bne_iff_ne
  | 6, _ => bne_iff_ne
  | 7, _ => bne_iff_ne
  | 8, _ => b2_ne
  | 9, _ => bne_iff_ne
  | 10, _ => bne_iff_ne
  | 11, _ => b2_ne
  | 12, _ => bne_iff_ne
  | 13, _ => b2_ne
  | 14, _ => bne_iff_ne
  | 15, _ => bne_iff_ne
  | n + 16, h => by omega
theorem outRd_eq (a b : Sty) : outRd (bsD a b) 16 = nmD a b := by
  unfold outRd nmD dfs
  congr 1
  refine List.filter_congr fun i hi => ?_
  have hi := List.mem_range.1 hi
  rw [Bool.eq_iff_iff, bsD_at a b i hi, difB_iff hi]
abbrev rDiffers.s := sty2 fun a b => .leaf (vStr (nmD a b))
theorem rDiffers.ok : SpecOK Tryz.prog 23 rDiffers.s := by
  refine okF ΓRd.ok Tryz.func23 (by kernel_rfl) (by kernel_rfl) fun args r hb hr => ?_
  obtain ⟨a, b, rfl, hr2⟩ := sty2_inv hr
  refine ⟨orRd a b (outRd (bsD a b) 16).length (gOf strQ (outRd (bsD a b) 16)), LamOK.orcP (pre := nilV 6 2 9 [.str]) (fun s => sub_nilV _ _ _ _ s) (p := pRd) (mk := false) (nn := 109) (k := 3) (live := [5, 6, 7, 8]) (c := .loop bodyRd) (by kernel_rfl) (loopRd a b rfl) (LamOK.nil _ _), ?_⟩
  have e := rd_c a b (outRd (bsD a b) 16).length (gOf strQ (outRd (bsD a b) 16))
  rw [@decide_eq_true _ (Classical.propDecidable _) rfl] at e
  refine ((T.pick_path _ _ e).trans (congrArg T.pick (rd_l a b _ _))).trans ?_
  rw [outRd_eq]
  exact hr2
/-! ### the law -/
noncomputable abbrev ΓTl (F : Lw) : Gam := [(9, shown.s), (16, plain.s), (17, plain.s), (15, sty1 fun s => .leaf (V.b (F.G s))), (18, sty1 fun s => .leaf (V.b (F.G s))), (19, multi.s), (20, multi.s),
  (22, sty2 fun a b => .leaf (vStr (F.D a b))), (23, sty2 fun a b => .leaf (vStr (F.D a b))), (21, texts.s)]
theorem ΓTl.ok : GOK Tryz.prog (ΓTl lw) := .cons shown.ok (.cons plain.ok (.cons rPlain.ok (.cons right.ok (.cons rRight.ok (.cons multi.ok (.cons rMulti.ok (.cons differs.ok (.cons rDiffers.ok (.cons texts.ok (GOK.nil _))))))))))
noncomputable abbrev trTl (F : Lw) (a b : Sty) : T V := funV Tryz.prog (ΓTl F) [] Tryz.f5 (cod Tryz.f5) [styV a, styV b]
theorem tl_eq (F : Lw) (a b : Sty) : trTl F a b = .leaf (V.b (bif F.G a == F.G a then (bif multiS a == multiS a then eqT (F.D a b).length (gOf strQ (F.D a b)) (F.D a b).length (gOf strQ (F.D a b)) else false) else false)) := by kernel_rfl
abbrev tellsL.s := sty2 fun _ _ => .leaf (V.b true)
theorem tellsL.ok : SpecOK Tryz.prog 5 tellsL.s := by
  refine okF ΓTl.ok Tryz.func5 (by kernel_rfl) (by kernel_rfl) fun args r hb hr => ?_
  obtain ⟨a, b, rfl, hr2⟩ := sty2_inv hr
  refine ⟨[], LamOK.nil _ _, (congrArg T.pick (tl_eq lw a b)).trans ?_⟩
  rw [beq_self_eq_true, beq_self_eq_true, eqT_self]
  exact hr2
end
theorem tellsL.all (a b : Sty) (_ : True) (_ : True) : (tellsL.s [styV a, styV b]).pick = some (V.b true) := rfl

theorem tellsL_lifted (os : Os) (started : os.Started) (H : Type) (enc : TypeId × Value → H) :
    ReturnsInHanded {} Tryz.checked os 5 .any (fun w args => (Rows.styleTellsSpec.pre enc Tryz.prog Tryz.f5 [] false w args ∧ laidMetH Tryz.prog laidL w) ∧ sizedMet enc Tryz.prog Tryz.f5 (OpenSpec.ofChange Rows.styleTellsSpec) false w args)
      (Rows.styleTellsSpec.post enc Tryz.prog Tryz.f5 false true false false) :=
  row_of (rt := 4) (shs := [(true, ksSt), (true, ksSt)]) H enc os started (fun e => @tellsL.ok e) Tryz.func5 (by kernel_rfl) (by kernel_rfl) rfl
    (fun ds hl => by
      have hl' : ds.length = 2 := hl
      match ds, hl' with
      | [d1, d2], _ => rfl)
    (by kernel_rfl)
    (fun xs h => by
      obtain ⟨x1, l, rfl, p1, h⟩ := pvs_cons h
      obtain ⟨x2, l, rfl, p2, h⟩ := pvs_cons h
      obtain rfl := pvs_nil h
      obtain ⟨r1, rfl, w1⟩ := pv_style p1
      obtain ⟨r2, rfl, w2⟩ := pv_style p2
      exact tellsL.all r1 r2 w1 w2)
    (by kernel_rfl)
    (ChangeSpec.witness_at (enc := enc) (C := Tryz.checked) (os := os) (X := fun w _ => laidMetH Tryz.prog laidL w) false (laidWorld os) #[.agg #[.int .i64 0, .int .i64 0, .int .i64 0, .int .i64 0, .bool false, .int .i64 0, .int .i64 0, .int .i64 0, .bool false, .int .i64 0, .int .i64 0, .bool false, .int .i64 0, .bool false, .int .i64 0, .int .i64 0], .agg #[.int .i64 0, .int .i64 0, .int .i64 0, .int .i64 0, .bool false, .int .i64 0, .int .i64 0, .int .i64 0, .bool false, .int .i64 0, .int .i64 0, .bool false, .int .i64 0, .bool false, .int .i64 0, .int .i64 0]] 8 rfl (by kernel_rfl) (by kernel_rfl) (by kernel_rfl) (by kernel_rfl) (by kernel_rfl) (laidWorld_met os _))

theorem tellsL_row : Rows.StyleTellsSaid :=
  OpenClaim.holds_of_wide 5 Tryz.f5 rfl rfl rfl rfl rfl rfl rfl ⟨rfl, rfl, rfl, rfl, rfl⟩ rfl rfl rfl rfl rfl (by kernel_rfl) Tryz.func5 (by kernel_rfl)
    (of_decide_eq_true (by kernel_rfl)) (by unfold Func.isWrapper; rw [if_neg (of_decide_eq_false (by kernel_rfl))]; exact ⟨rfl, rfl⟩)
    (fun os started H enc _ => tellsL_lifted os started H enc)

theorem tellsL_holds : Rows.StyleTellsCardSaid :=
  Claim7.holds_tied_plain_at .later [] [.data, .data, .data, .data, .handle, .sentinel, .sentinel, .sentinel, .sentinel, .sentinel, .sentinel, .pinned] true Rows.styleTellsCard.stood.harness true
    tellsL_row (fun _ h => by cases h) (by kernel_rfl) (fun _ h => by cases h) styleTells_row_tie rfl ⟨rfl, rfl⟩ (by kernel_rfl) rfl
    (fun f fn hf hfn => by
      obtain rfl : f = 5 := Option.some.inj ((show Tryz.prog.funcNamed "gutter/gutterlaw04.StyleTells" = some 5 by kernel_rfl).symm.trans hf) |>.symm
      obtain rfl : fn = Tryz.f5 := (Option.some.inj (Tryz.func5.symm.trans hfn)).symm
      exact ⟨by kernel_rfl, fun j t ht => by
        have e : Tryz.f5.params.all (fun t => !(Tryz.pinned.checked.prog.wantsStandIn t)) = true := by kernel_rfl
        have := Array.all_eq_true_iff_forall_mem.1 e t (Array.mem_of_getElem? ht)
        simpa using this⟩)
    (by kernel_rfl)
#print axioms tellsL_holds
end Go.Proofs.YtgmeglodnhagdaaGreatDoor
