/- StyleTexts. -/
import Derived.Test.YtgmeglodnhagdaaGreatDoorStP
import Derived.Test.YtgmeglodnhagdaaGreatDoorStN
namespace Go.Proofs.YtgmeglodnhagdaaGreatDoor
open Go Go.SX Go.Proofs Go.RowKit Go.ChangeShapes
set_option maxRecDepth 100000
set_option linter.unusedVariables false
section
variable [EA]
set_option linter.unusedSectionVars false
noncomputable abbrev ΓTx (F : Lw) : Gam := [(9, shown.s), (10, sty1 fun s => .leaf (.tup [V.s (F.T s), V.i (F.P s)])), (11, sty1 fun s => .leaf (.tup [V.s (F.T s), V.i (F.P s)])), (12, parseG F), (14, parseG F), (13, cutG F)]
theorem rParseG.ok : SpecOK Tryz.prog 14 (parseG lw) := rParse.ok.imp fun args r hv h => by
  unfold parseG at h
  split at h
  · exact h
  · cases h
theorem ΓTx.ok : GOK Tryz.prog (ΓTx lw) := .cons shown.ok (.cons print3.ok (.cons rPrint.ok (.cons parseG.ok (.cons rParseG.ok (.cons cutG.ok (GOK.nil _))))))
noncomputable abbrev trTx (F : Lw) (a : Sty) (x : ByteArray) : T V := funV Tryz.prog (ΓTx F) [] Tryz.f3 (cod Tryz.f3) [styV a, V.s x]
theorem tx_eq (F : Lw) (a : Sty) (x : ByteArray) : trTx F a x = .ite (decide ((F.C x).size < 1000000)) (.ite (decide ((F.C x).size < 1000000)) (.leaf (V.b (bif seqB (F.T a) (F.T a) then (bif F.P a == F.P a then (bif styEq (F.R (F.C x)) (F.R (F.C x)) then (bif F.N (F.C x) == F.N (F.C x) then F.E (F.C x) == F.E (F.C x) else false) else false) else false) else false))) .bad) .bad := by kernel_rfl
def textsL.s : List V → T V
  | [x, .q (.c (.string b))] => onSt x fun _ => .leaf (V.b true)
  | _ => .bad
theorem textsL.ok : SpecOK Tryz.prog 3 textsL.s := by
  refine okF ΓTx.ok Tryz.func3 (by kernel_rfl) (by kernel_rfl) fun args r hb hr => ?_
  unfold textsL.s at hr
  split at hr
  · rename_i b
    obtain ⟨a, rfl, hr2⟩ := onSt_pick hr
    have h2 := lcut_size b
    refine ⟨[], LamOK.nil _ _, (congrArg T.pick (tx_eq lw a b)).trans ?_⟩
    rw [pick_ite, pick_ite, decide_eq_true (show (lw.C b).size < 1000000 from Nat.lt_of_le_of_lt h2 (by omega)), cond_true, cond_true, seqB_iff.2 rfl, styEq_iff.2 rfl, beq_self_eq_true, beq_self_eq_true, beq_self_eq_true]
    exact hr2
  · cases hr
end
theorem textsL.all (a : Sty) (x : ByteArray) (_ : True) {p : Prop} (_ : p) : (textsL.s [styV a, V.s x]).pick = some (V.b true) := rfl

theorem textsL_lifted (os : Os) (started : os.Started) (H : Type) (enc : TypeId × Value → H) :
    ReturnsInHanded {} Tryz.checked os 3 .any (fun w args => (Rows.styleTextsSpec.pre enc Tryz.prog Tryz.f3 [] false w args ∧ laidMetH Tryz.prog laidL w) ∧ sizedMet enc Tryz.prog Tryz.f3 (OpenSpec.ofChange Rows.styleTextsSpec) false w args)
      (Rows.styleTextsSpec.post enc Tryz.prog Tryz.f3 false true false false) :=
  row_of (rt := 4) (shs := [(true, ksSt), (false, [.str])]) H enc os started (fun e => @textsL.ok e) Tryz.func3 (by kernel_rfl) (by kernel_rfl) rfl
    (fun ds hl => by
      have hl' : ds.length = 2 := hl
      match ds, hl' with
      | [d1, d2], _ => rfl)
    (by kernel_rfl)
    (fun xs h => by
      obtain ⟨x1, l, rfl, p1, h⟩ := pvs_cons h
      obtain ⟨x2, l, rfl, p2, h⟩ := pvs_cons h
      obtain rfl := pvs_nil h
      obtain ⟨r1, rfl, w1⟩ := pv_style p1
      obtain ⟨n2, rfl, hn2⟩ := pv_text p2
      exact textsL.all r1 n2 w1 hn2)
    (by kernel_rfl)
    (ChangeSpec.witness_at (enc := enc) (C := Tryz.checked) (os := os) (X := fun w _ => laidMetH Tryz.prog laidL w) false (laidWorld os) #[.agg #[.int .i64 0, .int .i64 0, .int .i64 0, .int .i64 0, .bool false, .int .i64 0, .int .i64 0, .int .i64 0, .bool false, .int .i64 0, .int .i64 0, .bool false, .int .i64 0, .bool false, .int .i64 0, .int .i64 0], .string ⟨#[]⟩] 8 rfl (by kernel_rfl) (by kernel_rfl) (by kernel_rfl) (by kernel_rfl) (by kernel_rfl) (laidWorld_met os _))

theorem textsL_row : Rows.StyleTextsSaid :=
  OpenClaim.holds_of_wide 3 Tryz.f3 rfl rfl rfl rfl rfl rfl rfl ⟨rfl, rfl, rfl, rfl, rfl⟩ rfl rfl rfl rfl rfl (by kernel_rfl) Tryz.func3 (by kernel_rfl)
    (of_decide_eq_true (by kernel_rfl)) (by unfold Func.isWrapper; rw [if_neg (of_decide_eq_false (by kernel_rfl))]; exact ⟨rfl, rfl⟩)
    (fun os started H enc _ => textsL_lifted os started H enc)

theorem textsL_holds : Rows.StyleTextsCardSaid :=
  Claim7.holds_tied_plain_at .later [] [.data, .data, .data, .data, .handle, .sentinel, .sentinel, .sentinel, .sentinel, .sentinel, .sentinel, .pinned] true Rows.styleTextsCard.stood.harness true
    textsL_row (fun _ h => by cases h) (by kernel_rfl) (fun _ h => by cases h) styleTexts_row_tie rfl ⟨rfl, rfl⟩ (by kernel_rfl) rfl
    (fun f fn hf hfn => by
      obtain rfl : f = 3 := Option.some.inj ((show Tryz.prog.funcNamed "gutter/gutterlaw04.StyleTexts" = some 3 by kernel_rfl).symm.trans hf) |>.symm
      obtain rfl : fn = Tryz.f3 := (Option.some.inj (Tryz.func3.symm.trans hfn)).symm
      exact ⟨by kernel_rfl, fun j t ht => by
        have e : Tryz.f3.params.all (fun t => !(Tryz.pinned.checked.prog.wantsStandIn t)) = true := by kernel_rfl
        have := Array.all_eq_true_iff_forall_mem.1 e t (Array.mem_of_getElem? ht)
        simpa using this⟩)
    (by kernel_rfl)
#print axioms textsL_holds
end Go.Proofs.YtgmeglodnhagdaaGreatDoor
