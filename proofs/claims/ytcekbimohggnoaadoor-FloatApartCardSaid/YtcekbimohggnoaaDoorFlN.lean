/- The document's answer for floats, one by one: what the laws call; and the head of all laws. -/
import Derived.Test.YtcekbimohggnoaaDoorFlM
namespace Go.Proofs.YtcekbimohggnoaaDoor
open Go Go.SX Go.Proofs
set_option maxRecDepth 100000
variable [EA]
set_option linter.unusedVariables false
set_option linter.unusedSectionVars false
set_option linter.unusedSimpArgs false

def SLr (n : Nat) (g : Nat → Nat → Q) (a i : Int) : St := mkS 36 [(6, V.i a), (7, lst4 n g), (8, V.i i)] [] [] false [] 0
def FLr (a : Int) : Ex × St := (.exit 0, mkS 36 [(6, V.i a)] [] [] false [] 0)
def liveLr : Ex → List Nat | .normal => [6, 7, 8] | _ => [6]
noncomputable abbrev bodyLr : Code := loopAt Tryd.f20 [0, 1, 0, 1, 1, 1, 1]
theorem stepLr (n : Nat) (g : Nat → Nat → Q) (a : Int) (i : Nat) :
    (sx Tryd.prog [] [] [0, 0, 1, 0, 1, 1, 1, 1] bodyLr (SLr n g a i)).bind (fun x => T.leaf (x.1, deadS [] (canS 36 0 (liveLr x.1) x.2), chkM 36 0 x.2))
     = .ite (decide ((i : Int) < n)) (.ite (inI i n) (.ite (inI i n) (.leaf (.normal, SLr n g (mx2 a (lowE (gRc g i))) (w64 (i + 1)), true)) .bad) .bad) (.leaf ((FLr a).1, (FLr a).2, true)) := by kernel_rfl
theorem loopLr (n : Nat) (g : Nat → Nat → Q) (hn : n ≤ 9223372036854775807) : ∀ x, (T.leaf (FLr (lowS g n))).pick = some x → SemC Tryd.prog (.loop bodyLr) (SLr n g 0 0) x := by
  refine loop_tree (GOK.nil _) (root := cod Tryd.f20) (p := [0, 1, 0, 1, 1, 1, 1]) (by kernel_rfl) (fun i => i ≤ n) (fun i => SLr n g (lowS g i) i) (fun i => n - i) (.leaf (FLr (lowS g n))) 36 0 liveLr (fun _ => []) (fun i hi => ?_) 0 (Nat.zero_le _)
  have e := stepLr n g (lowS g i) i
  rcases Nat.lt_or_ge i n with hlt | hge
  · exact ⟨[], .normal, SLr n g (lowS g (i + 1)) (i + 1 : Nat), LamOK.nil _ _, by rw [e, c_lt hlt, inI, c_in hlt, w64_suc hlt hn]; rfl, .inl ⟨rfl, i + 1, hlt, by omega, rfl⟩⟩
  · exact ⟨[], .exit 0, _, LamOK.nil _ _, by rw [e, c_ge hge]; rfl, .inr ⟨by simp, by rw [show n = i by omega]; rfl⟩⟩

theorem rLow.eq (m : Nat) (f : Nat → Nat → Q) (w : Int) (a : Int) :
    funV Tryd.prog ΓRt [([0, 1, 0, 1, 1, 1, 1], orc false 36 0 [6, 7, 8] (SLr m (gR f w m) 0 0) (.leaf (FLr a)))] Tryd.f20 (cod Tryd.f20) [lstF m f, V.i w] =
      .ite (!(rightS m f w)) (.leaf (.tup [V.i 0, V.i 110])) (.ite (dRp m f w) (.ite (@decide (SLr m (gR f w m) 0 0 = SLr m (gR f w m) 0 0) (Classical.propDecidable _)) (.leaf (.tup [V.i a, V.i 0])) .bad) .bad) := by kernel_rfl
theorem rLow.ok : SpecOK Tryd.prog 20 fLow.s := by
  refine okFW ΓRt.ok Tryd.func20 (by kernel_rfl) (by kernel_rfl) fun m f w v hb hv => ?_
  refine ⟨[([0, 1, 0, 1, 1, 1, 1], orc false 36 0 [6, 7, 8] (SLr m (gR f w m) 0 0) (.leaf (FLr (lowS (gR f w m) m))))], LamOK.orc (c := .loop bodyLr) (by kernel_rfl) (loopLr m (gR f w m) hb) (LamOK.nil _ _), ?_⟩
  rw [rLow.eq, ← hv, pick_ite, ← right_eq]
  cases h : rightF m f w with
  | false => simp only [Bool.not_false, cond_true, codF, h, cond_false]
  | true => rw [Bool.not_true, cond_false, pick_ite, dRp_true h, cond_true, pick_same]; simp only [codF, h, cond_true]

def badR (y h : Int) : Bool := bif decide (y < 0) then true else (bif decide (y > 67108864) then true else !(sizeB h))
theorem badR_eq (y h : Int) : badR y h = bad4 y h := by
  unfold badR bad4 sizeB
  by_cases h1 : h < 0
  · have : ¬ h ≥ 0 := by omega
    simp [h1, this]
  · have : h ≥ 0 := by omega
    by_cases h2 : h > 1048576
    · have h3 : ¬ h ≤ 1048576 := by omega
      simp [h1, this, h2, h3]
    · have h3 : h ≤ 1048576 := by omega
      simp [h1, this, h2, h3]
theorem rInsets.eq (m : Nat) (f : Nat → Nat → Q) (w y h : Int) :
    funV Tryd.prog ΓRt [] Tryd.f13 (cod Tryd.f13) [lstF m f, V.i w, V.i y, V.i h] =
      .ite (bif !(rightS m f w) then true else badR y h) (.leaf (tup3 0 0 110)) (.ite (dRp m f w) (.ite (decide (m ≤ m)) (.leaf (tup3 (rI (gR f w m) f w y h false m) (rI (gR f w m) f w y h true m) 0)) .bad) .bad) := by kernel_rfl
theorem rInsets.ok : SpecOK Tryd.prog 13 fInsets.s := by
  refine specOK_of_body ΓRt.ok (LamOK.nil _ _) Tryd.func13 (isBody _ (by kernel_rfl)) (by kernel_rfl) fun args r he => ?_
  unfold fInsets.s spFWyh at he
  split at he
  · rename_i m f w y h
    refine (congrArg T.pick (rInsets.eq m f w y h)).trans ?_
    rw [← he, pick_ite, ← right_eq, badR_eq]
    unfold fIn3 okYH
    cases hr : rightF m f w with
    | false => simp only [cond_false, Bool.not_false, cond_true, hr]
    | true =>
      simp only [cond_true, Bool.not_true, cond_false, hr]
      cases hb : bad4 y h with
      | true => simp only [cond_true, Bool.not_true, cond_false]
      | false =>
        simp only [cond_false, Bool.not_false, cond_true]
        rw [pick_ite, dRp_true hr, cond_true, pick_ite, decide_eq_true (Nat.le_refl m), cond_true]
  · cases he

theorem rNext.eq (m : Nat) (f : Nat → Nat → Q) (w y : Int) :
    funV Tryd.prog ΓRt [] Tryd.f15 (cod Tryd.f15) [lstF m f, V.i w, V.i y] =
      .ite (!(rightS m f w)) (.leaf (tupN 0 false 110)) (.ite (dRp m f w) (.leaf (tupN (rEb (gR f w m) y m).1 (rEb (gR f w m) y m).2 0)) .bad) := by kernel_rfl
theorem rNext.ok : SpecOK Tryd.prog 15 fNext.s := by
  refine specOK_of_body ΓRt.ok (LamOK.nil _ _) Tryd.func15 (isBody _ (by kernel_rfl)) (by kernel_rfl) fun args r he => ?_
  unfold fNext.s spFWy at he
  split at he
  · rename_i m f w y
    refine (congrArg T.pick (rNext.eq m f w y)).trans ?_
    rw [← he, pick_ite, ← right_eq]
    unfold codF
    cases hr : rightF m f w with
    | false => simp only [cond_false, Bool.not_false, cond_true, hr]
    | true =>
      simp only [cond_true, Bool.not_true, cond_false, hr]
      rw [pick_ite, dRp_true hr, cond_true]
  · cases he

/-! ### Rects -/
def sameB (n : Nat) (g g' : Nat → Nat → Q) : Bool := (List.range n).all fun i => eqR (gRc g i) (gRc g' i)
theorem sameB_false {n : Nat} {g g' : Nat → Nat → Q} {i : Nat} (hi : i < n) (h : eqR (gRc g i) (gRc g' i) = false) : sameB n g g' = false := by
  rw [sameB, List.all_eq_false]
  exact ⟨i, List.mem_range.2 hi, by rw [h]; simp⟩
theorem sameB_true {n : Nat} {g g' : Nat → Nat → Q} (h : ∀ i, i < n → eqR (gRc g i) (gRc g' i) = true) : sameB n g g' = true := by
  rw [sameB, List.all_eq_true]
  exact fun i hi => h i (List.mem_range.1 hi)
theorem sameB_of {n : Nat} {g g' : Nat → Nat → Q} (h : Same n g g') : sameB n g g' = true := sameB_true fun i hi => eqR_iff.2 (h i hi)
def SRs (n : Nat) (g : Nat → Nat → Q) (n' : Nat) (g' : Nat → Nat → Q) (i : Int) : St := mkS 26 [(0, lst4 n g), (1, lst4 n' g'), (5, V.i i)] [] [] false [] 0
def RRs (n : Nat) (g g' : Nat → Nat → Q) : Out := .ite (sameB n g g') (.leaf (.exit 0, mkS 26 [] [] [] false [] 0)) (.leaf (.ret, mkS 26 [(4, V.b false)] [] [] false [] 0))
def liveRs : Ex → List Nat | .normal => [0, 1, 5] | .ret => [4] | _ => []
noncomputable abbrev bodyRs : Code := loopAt Tryd.f17 [0, 1, 0, 1, 1]
theorem stepRs (n : Nat) (g : Nat → Nat → Q) (n' : Nat) (g' : Nat → Nat → Q) (i : Nat) :
    (sx Tryd.prog [] [] [0, 0, 1, 0, 1, 1] bodyRs (SRs n g n' g' i)).bind (fun x => T.leaf (x.1, deadS [] (canS 26 0 (liveRs x.1) x.2), chkM 26 0 x.2))
     = .ite (decide ((i : Int) < n)) (.ite (inI i n) (.ite (inI i n') (.ite (!(eqR (gRc g i) (gRc g' i))) (.leaf (.ret, mkS 26 [(4, V.b false)] [] [] false [] 0, true)) (.leaf (.normal, SRs n g n' g' (w64 (i + 1)), true))) .bad) .bad)
        (.leaf (.exit 0, mkS 26 [] [] [] false [] 0, true)) := by kernel_rfl
theorem loopRs (n : Nat) (g : Nat → Nat → Q) (n' : Nat) (g' : Nat → Nat → Q) (hnn : n = n') (hn : n ≤ 9223372036854775807) : ∀ x, (RRs n g g').pick = some x → SemC Tryd.prog (.loop bodyRs) (SRs n g n' g' 0) x := by
  refine loop_tree (GOK.nil _) (root := cod Tryd.f17) (p := [0, 1, 0, 1, 1]) (by kernel_rfl) (fun i => i ≤ n ∧ ∀ j, j < i → eqR (gRc g j) (gRc g' j) = true) (fun i => SRs n g n' g' i) (fun i => n - i) (RRs n g g') 26 0 liveRs (fun _ => []) (fun i hi => ?_) 0 ⟨Nat.zero_le _, fun j hj => absurd hj (Nat.not_lt_zero _)⟩
  obtain ⟨hi, hall⟩ := hi
  have e := stepRs n g n' g' i
  rcases Nat.lt_or_ge i n with hlt | hge
  · rw [c_lt hlt, inI, inI, c_in hlt, c_in (show i < n' by omega)] at e
    cases hr : eqR (gRc g i) (gRc g' i) with
    | false => exact ⟨[], .ret, _, LamOK.nil _ _, by rw [e, hr]; rfl, .inr ⟨by simp, by rw [RRs, sameB_false hlt hr]; rfl⟩⟩
    | true =>
      refine ⟨[], .normal, _, LamOK.nil _ _, by rw [e, hr]; rfl, .inl ⟨rfl, i + 1, ⟨hlt, fun j hj => ?_⟩, by omega, by rw [w64_suc hlt hn]⟩⟩
      rcases Nat.lt_or_ge j i with h | h
      · exact hall j h
      · rw [show j = i by omega]; exact hr
  · refine ⟨[], .exit 0, _, LamOK.nil _ _, by rw [e, c_ge hge]; rfl, .inr ⟨by simp, by rw [RRs, sameB_true fun j hj => hall j (by omega)]; rfl⟩⟩
abbrev rectsB (n : Nat) (g : Nat → Nat → Q) (n' : Nat) (g' : Nat → Nat → Q) : Bool := bif !((n : Int) == (n' : Int)) then false else sameB n g g'
def rects.s : List V → T V
  | [.q (.lst [.int .i64, .int .i64, .int .i64, .int .i64] n g), .q (.lst [.int .i64, .int .i64, .int .i64, .int .i64] n' g')] => .leaf (V.b (rectsB n g n' g'))
  | _ => .bad
theorem rects.eq (n : Nat) (g : Nat → Nat → Q) (n' : Nat) (g' : Nat → Nat → Q) :
    funV Tryd.prog [] [([0, 1, 0, 1, 1], orc false 26 0 [0, 1, 5] (SRs n g n' g' 0) (RRs n g g'))] Tryd.f17 (cod Tryd.f17) [lst4 n g, lst4 n' g'] =
      .ite (!((n : Int) == (n' : Int))) (.leaf (V.b false)) (.ite (@decide (SRs n g n' g' 0 = SRs n g n' g' 0) (Classical.propDecidable _)) (.ite (sameB n g g') (.leaf (V.b true)) (.leaf (V.b false))) .bad) := by kernel_rfl
theorem rects.eq0 (n : Nat) (g : Nat → Nat → Q) (n' : Nat) (g' : Nat → Nat → Q) :
    funV Tryd.prog [] [] Tryd.f17 (cod Tryd.f17) [lst4 n g, lst4 n' g'] =
      .ite (!((n : Int) == (n' : Int))) (.leaf (V.b false)) .bad := by kernel_rfl
theorem rects.ok : SpecOK Tryd.prog 17 rects.s := by
  refine specOK_of_bodyW (GOK.nil _) Tryd.func17 (isBody _ (by kernel_rfl)) (by kernel_rfl) fun args r hb he => ?_
  unfold rects.s at he
  split at he
  · rename_i n g n' g'
    have hn : n ≤ 9223372036854775807 := (hb (lst4 n g) (by simp)).1
    cases hh : ((n : Int) == (n' : Int)) with
    | false =>
      refine ⟨_, [], fun _ _ _ x => x, LamOK.nil _ _, (congrArg T.pick (rects.eq0 n g n' g')).trans ?_⟩
      rw [← he, rectsB, hh]; rfl
    | true =>
      have hnn : n = n' := by have := eq_of_beq hh; omega
      refine ⟨_, _, fun _ _ _ x => x, LamOK.orc (p := [0, 1, 0, 1, 1]) (mk := false) (nn := 26) (k := 0) (live := [0, 1, 5]) (c := .loop bodyRs) (by kernel_rfl) (loopRs n g n' g' hnn hn) (LamOK.nil _ _), (congrArg T.pick (rects.eq n g n' g')).trans ?_⟩
      rw [← he, rectsB, hh, pick_ite, Bool.not_true, cond_false, pick_same, pick_ite, cond_false]
      cases sameB n g g' <;> rfl
  · cases he

/-! ### Few, and the head of all laws -/
abbrev fewN (n : Nat) : Nat := (mn2 (n : Int) 22).toNat - (0 : Int).toNat
theorem fewN_le (n : Nat) : fewN n ≤ 22 ∧ fewN n ≤ n := by simp only [fewN, mn2_eq]; omega
def few.s : List V → T V
  | [.q (.lst [.int .i64, .int .i64, .bool, .bool] m f)] => .leaf (lstF (fewN m) (gz f))
  | _ => .bad
theorem few.eq (m : Nat) (f : Nat → Nat → Q) : funV Tryd.prog [] [] Tryd.f11 (cod Tryd.f11) [lstF m f] =
      .ite (decide ((0 : Int) ≤ 0 ∧ (0 : Int) ≤ mn2 (m : Int) 22 ∧ mn2 (m : Int) 22 ≤ (m : Int))) (.leaf (lstF (fewN m) (gz f))) .bad := by kernel_rfl
theorem few.ok : SpecOK Tryd.prog 11 few.s := by
  refine specOK_of_body (GOK.nil _) (LamOK.nil _ _) Tryd.func11 (isBody _ (by kernel_rfl)) (by kernel_rfl) fun args r he => ?_
  unfold few.s at he
  split at he
  · rename_i m f
    refine (congrArg T.pick (few.eq m f)).trans ?_
    have : decide ((0 : Int) ≤ 0 ∧ (0 : Int) ≤ mn2 (m : Int) 22 ∧ mn2 (m : Int) 22 ≤ (m : Int)) = true := by rw [mn2_eq]; simp; omega
    rw [pick_ite, this, cond_true]; exact he
  · cases he

/-- One truth behind the other. -/
def andN : List Bool → Bool
  | [] => true
  | [b] => b
  | b :: l => bif b then andN l else false
noncomputable abbrev ΓSh : Gam := [(16, fPlace.s), (12, fInsets.s), (14, fNext.s), (17, rects.s)]
theorem ΓSh.ok : GOK Tryd.prog ΓSh := .cons fPlace.ok (.cons fInsets.ok (.cons fNext.ok (.cons rects.ok (GOK.nil _))))
abbrev fEx : Nat → Nat → Q := rows [[.c (.int .i64 6), .c (.int .i64 4), .c (.bool false), .c (.bool false)], [.c (.int .i64 6), .c (.int .i64 4), .c (.bool true), .c (.bool false)]]
abbrev gEx : Nat → Nat → Q := rows [qs4 ⟨0, 0, 6, 4⟩, qs4 ⟨4, 4, 6, 4⟩]
def shB (g : Nat → Nat → Q) : Bool := andN [rectsB (plN 2 fEx 10) g 2 gEx, codF 2 fEx 10 == 0, (bif okYH 2 fEx 10 3 2 then rI g fEx 10 3 2 false 2 else 0) == 6, (bif okYH 2 fEx 10 3 2 then rI g fEx 10 3 2 true 2 else 0) == 6, (bif okYH 2 fEx 10 3 2 then (0 : Int) else 110) == 0,
  (bif rightF 2 fEx 10 then (rEb g 4 2).1 else 0) == 8, bif rightF 2 fEx 10 then (rEb g 4 2).2 else false, codF 2 fEx 10 == 0, codF 2 fEx (-1) == 110]
theorem shown.eq : funV Tryd.prog ΓSh [] Tryd.f10 (cod Tryd.f10) [] = .leaf (V.b (shB (gR fEx 10 2))) := by kernel_rfl

theorem ex0 : rplR 0 (gR fEx 10 0) fEx 10 (gFl fEx 0) = ⟨0, 0, 6, 4⟩ := by
  have hs : fitsB 0 (gR fEx 10 0) fEx 10 (gFl fEx 0) (ryK 0 (gR fEx 10 0) 0 0) = true := by kernel_rfl
  have hk : lastR 0 (gR fEx 10 0) fEx 10 (gFl fEx 0) 0 = 0 := lastR_is hs fun j hj => by omega
  have hY : rplY 0 (gR fEx 10 0) fEx 10 (gFl fEx 0) = 0 := by
    show ryK 0 (gR fEx 10 0) 0 (lastR 0 (gR fEx 10 0) fEx 10 (gFl fEx 0) 0) = 0
    rw [hk]; rfl
  have e : (⟨rAt 0 (gR fEx 10 0) fEx 10 (gFl fEx 0) 0, 0, (gFl fEx 0).w, (gFl fEx 0).h⟩ : Rc) = ⟨0, 0, 6, 4⟩ := by kernel_rfl
  rw [← e]
  show (⟨rAt 0 (gR fEx 10 0) fEx 10 (gFl fEx 0) (rplY 0 (gR fEx 10 0) fEx 10 (gFl fEx 0)), rplY 0 (gR fEx 10 0) fEx 10 (gFl fEx 0), (gFl fEx 0).w, (gFl fEx 0).h⟩ : Rc) = _
  rw [hY]
abbrev gE1 : Nat → Nat → Q := catG 0 (fun _ _ => default) (one1 ⟨0, 0, 6, 4⟩)
theorem ex_one : gR fEx 10 1 = gE1 := by
  show catG 0 (gR fEx 10 0) (one1 (rplR 0 (gR fEx 10 0) fEx 10 (gFl fEx 0))) = _
  rw [ex0]; rfl
theorem ex1 : rplR 1 gE1 fEx 10 (gFl fEx 1) = ⟨4, 4, 6, 4⟩ := by
  have hs : fitsB 1 gE1 fEx 10 (gFl fEx 1) (ryK 1 gE1 0 1) = true := by kernel_rfl
  have h0 : fitsB 1 gE1 fEx 10 (gFl fEx 1) (ryK 1 gE1 0 0) = false := by kernel_rfl
  have h4 : ryK 1 gE1 0 1 = 4 := by kernel_rfl
  have hk : lastR 1 gE1 fEx 10 (gFl fEx 1) 0 = 1 := lastR_is hs fun j hj => by
    obtain rfl : j = 0 := by omega
    exact h0
  have hY : rplY 1 gE1 fEx 10 (gFl fEx 1) = 4 := by
    show ryK 1 gE1 0 (lastR 1 gE1 fEx 10 (gFl fEx 1) 0) = 4
    rw [hk, h4]
  have e : (⟨rAt 1 gE1 fEx 10 (gFl fEx 1) 4, 4, (gFl fEx 1).w, (gFl fEx 1).h⟩ : Rc) = ⟨4, 4, 6, 4⟩ := by kernel_rfl
  rw [← e]
  show (⟨rAt 1 gE1 fEx 10 (gFl fEx 1) (rplY 1 gE1 fEx 10 (gFl fEx 1)), rplY 1 gE1 fEx 10 (gFl fEx 1), (gFl fEx 1).w, (gFl fEx 1).h⟩ : Rc) = _
  rw [hY]
theorem ex_two : gR fEx 10 2 = catG 1 gE1 (one1 ⟨4, 4, 6, 4⟩) := by
  show catG 1 (gR fEx 10 1) (one1 (rplR 1 (gR fEx 10 1) fEx 10 (gFl fEx 1))) = _
  rw [ex_one, ex1]
theorem sh_true : shB (gR fEx 10 2) = true := by
  rw [ex_two]; kernel_rfl
def shown.s : List V → T V
  | [] => .leaf (V.b true)
  | _ => .bad
theorem shown.ok : SpecOK Tryd.prog 10 shown.s := by
  refine specOK_of_body ΓSh.ok (LamOK.nil _ _) Tryd.func10 (isBody _ (by kernel_rfl)) (by kernel_rfl) fun args r h => ?_
  unfold shown.s at h
  split at h
  · rw [shown.eq, sh_true]; exact h
  · cases h
end Go.Proofs.YtcekbimohggnoaaDoor
