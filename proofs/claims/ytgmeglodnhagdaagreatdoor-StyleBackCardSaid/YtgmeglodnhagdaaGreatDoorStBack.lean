/- StyleBack. -/
import Derived.Test.YtgmeglodnhagdaaGreatDoorStP
import Derived.Test.YtgmeglodnhagdaaGreatDoorStV
namespace Go.Proofs.YtgmeglodnhagdaaGreatDoor
open Go Go.SX Go.Proofs Go.RowKit Go.ChangeShapes
set_option maxRecDepth 100000
set_option linter.unusedVariables false
section
variable [EA]
set_option linter.unusedSectionVars false
abbrev bkA (F : Lw) (a : Sty) : Bool := bif F.P a == 0 then (bif F.E (F.T a) != 0 then true else bif !(styEq (F.R (F.T a)) a) then true else F.N (F.T a) != 0) else false
abbrev bkR (F : Lw) (x : ByteArray) : Bool := bif F.E x != 0 then true else bif F.P (F.R x) == 0 then (bif seqB (F.T (F.R x)) x then F.G (F.R x) else false) else false
abbrev bkB (F : Lw) (a : Sty) (x : ByteArray) : Bool := bif (F.P a == 0) == F.G a then (bif F.P a == 0 then bkR F x else bif seqB (F.T a) (bT []) then bkR F x else false) else false
noncomputable abbrev trBk (F : Lw) (a : Sty) (x : ByteArray) : T V := funV Tryz.prog (ΓLw F) [] Tryz.f4 (cod Tryz.f4) [styV a, V.s x]
theorem bk_c (F : Lw) (a : Sty) (x : ByteArray) : (trBk F a x).pathC [true, false, true] = [decide ((F.T a).size < 1000000), bkA F a, decide ((F.C x).size < 1000000)] := by kernel_rfl
theorem bk_l (F : Lw) (a : Sty) (x : ByteArray) : (trBk F a x).pathL [true, false, true] = .leaf (V.b (bkB F a (F.C x))) := by kernel_rfl
theorem bkA_no (a : Sty) : bkA lw a = false := by
  show (bif pEr a == 0 then (bif psE (pTx a) != 0 then true else bif !(styEq (psR (pTx a)) a) then true else psN (pTx a) != 0) else false) = false
  cases h : rightS a with
  | false => rw [show pEr a = 40 by unfold pEr; rw [h]; rfl]; rfl
  | true =>
    obtain ⟨h1, h2, h3⟩ := parse_print (rightS_of h)
    rw [show pEr a = 0 by unfold pEr; rw [h]; rfl, show pTx a = sTxt a by unfold pTx; rw [h]; rfl, h1, h2, h3, styEq_iff.2 rfl]; rfl
theorem bkR_yes (x : ByteArray) : bkR lw x = true := by
  show (bif psE x != 0 then true else bif pEr (psR x) == 0 then (bif seqB (pTx (psR x)) x then rightS (psR x) else false) else false) = true
  by_cases h : psE x = 0
  · obtain ⟨_, h2, h3⟩ := parse_back h
    have hr := rightS_iff.2 h2
    rw [h, show pEr (psR x) = 0 by unfold pEr; rw [hr]; rfl, show pTx (psR x) = x by unfold pTx; rw [hr]; exact h3, hr, seqB_iff.2 rfl]; rfl
  · rw [show (psE x != 0) = true by simpa using h]; rfl
theorem bkB_yes (a : Sty) (x : ByteArray) : bkB lw a x = true := by
  unfold bkB
  rw [bkR_yes]
  show (bif (pEr a == 0) == rightS a then (bif pEr a == 0 then true else bif seqB (pTx a) (bT []) then true else false) else false) = true
  cases h : rightS a with
  | false => rw [show pEr a = 40 by unfold pEr; rw [h]; rfl, show pTx a = bT [] by unfold pTx; rw [h]; rfl, seqB_iff.2 rfl]; rfl
  | true => rw [show pEr a = 0 by unfold pEr; rw [h]; rfl]; rfl
def backL.s : List V → T V
  | [x, .q (.c (.string b))] => onSt x fun _ => .leaf (V.b true)
  | _ => .bad
theorem backL.ok : SpecOK Tryz.prog 4 backL.s := by
  refine okF ΓLw.ok Tryz.func4 (by kernel_rfl) (by kernel_rfl) fun args r hb hr => ?_
  unfold backL.s at hr
  split at hr
  · rename_i b
    obtain ⟨a, rfl, hr2⟩ := onSt_pick hr
    have h1 := pTx_size a
    have h2 := lcut_size b
    have e : (trBk lw a b).pathC [true, false, true] = [true, false, true] := (bk_c lw a b).trans (by
      rw [bkA_no, decide_eq_true (show (lw.T a).size < 1000000 from Nat.lt_trans h1 (by omega)), decide_eq_true (show (lw.C b).size < 1000000 from Nat.lt_of_le_of_lt h2 (by omega))])
    refine ⟨[], LamOK.nil _ _, ((T.pick_path _ _ e).trans (congrArg T.pick (bk_l lw a b))).trans ?_⟩
    rw [bkB_yes]
    exact hr2
  · cases hr
end
theorem backL.all (a : Sty) (x : ByteArray) (_ : True) {p : Prop} (_ : p) : (backL.s [styV a, V.s x]).pick = some (V.b true) := rfl

theorem backL_lifted (os : Os) (started : os.Started) (H : Type) (enc : TypeId × Value → H) :
    ReturnsInHanded {} Tryz.checked os 4 .any (fun w args => (Rows.styleBackSpec.pre enc Tryz.prog Tryz.f4 [] false w args ∧ laidMetH Tryz.prog laidL w) ∧ sizedMet enc Tryz.prog Tryz.f4 (OpenSpec.ofChange Rows.styleBackSpec) false w args)
      (Rows.styleBackSpec.post enc Tryz.prog Tryz.f4 false true false false) :=
  row_of (rt := 4) (shs := [(true, ksSt), (false, [.str])]) H enc os started (fun e => @backL.ok e) Tryz.func4 (by kernel_rfl) (by kernel_rfl) rfl
    (fun ds hl => by
      have hl' : ds.length = 2 := hl
      match ds, hl' with
      | [d1, d2], _ => rfl)
    (by kernel_rfl)
    (fun xs h => by
      obtain ⟨x1, l, rfl, p1, h⟩ := pvs_cons h
      obtain ⟨x2, l, rfl, p2, h⟩ := pvs_cons h
      obtain rfl := pvs_nil h
      obtain ⟨r1, rfl, w1⟩ := pv_style p1
      obtain ⟨n2, rfl, hn2⟩ := pv_text p2
      exact backL.all r1 n2 w1 hn2)
    (by kernel_rfl)
    (ChangeSpec.witness_at (enc := enc) (C := Tryz.checked) (os := os) (X := fun w _ => laidMetH Tryz.prog laidL w) false (laidWorld os) #[.agg #[.int .i64 0, .int .i64 0, .int .i64 0, .int .i64 0, .bool false, .int .i64 0, .int .i64 0, .int .i64 0, .bool false, .int .i64 0, .int .i64 0, .bool false, .int .i64 0, .bool false, .int .i64 0, .int .i64 0], .string ⟨#[]⟩] 8 rfl (by kernel_rfl) (by kernel_rfl) (by kernel_rfl) (by kernel_rfl) (by kernel_rfl) (laidWorld_met os _))

theorem backL_row : Rows.StyleBackSaid :=
  OpenClaim.holds_of_wide 4 Tryz.f4 rfl rfl rfl rfl rfl rfl rfl ⟨rfl, rfl, rfl, rfl, rfl⟩ rfl rfl rfl rfl rfl (by kernel_rfl) Tryz.func4 (by kernel_rfl)
    (of_decide_eq_true (by kernel_rfl)) (by unfold Func.isWrapper; rw [if_neg (of_decide_eq_false (by kernel_rfl))]; exact ⟨rfl, rfl⟩)
    (fun os started H enc _ => backL_lifted os started H enc)

theorem backL_holds : Rows.StyleBackCardSaid :=
  Claim7.holds_tied_plain_at .later [] [.data, .data, .data, .data, .handle, .sentinel, .sentinel, .sentinel, .sentinel, .sentinel, .sentinel, .pinned] true Rows.styleBackCard.stood.harness true
    backL_row (fun _ h => by cases h) (by kernel_rfl) (fun _ h => by cases h) styleBack_row_tie rfl ⟨rfl, rfl⟩ (by kernel_rfl) rfl
    (fun f fn hf hfn => by
      obtain rfl : f = 4 := Option.some.inj ((show Tryz.prog.funcNamed "gutter/gutterlaw04.StyleBack" = some 4 by kernel_rfl).symm.trans hf) |>.symm
      obtain rfl : fn = Tryz.f4 := (Option.some.inj (Tryz.func4.symm.trans hfn)).symm
      exact ⟨by kernel_rfl, fun j t ht => by
        have e : Tryz.f4.params.all (fun t => !(Tryz.pinned.checked.prog.wantsStandIn t)) = true := by kernel_rfl
        have := Array.all_eq_true_iff_forall_mem.1 e t (Array.mem_of_getElem? ht)
        simpa using this⟩)
    (by kernel_rfl)
#print axioms backL_holds
end Go.Proofs.YtgmeglodnhagdaaGreatDoor
