/- What the laws' proofs lean on, put together: part 4. -/
import Derived.Test.YthmlbmambcigcaaGreatDoorMc
import Derived.Laws.Strings
import Derived.Below
import Derived.OrdersIn
import Derived.TacticsIn
import Derived.Test.YthmlbmambcigcaaGreatDoorProg
import Derived.WalkKit
import Derived.LaidEql
import Derived.Stop.Asserts
import Derived.RowKitTokens
import Derived.KernelRfl

/- Lines, one by one: those that lines goes through. -/
namespace Go.Proofs.YthmlbmambcigcaaGreatDoor
open Go Go.SX Go.Proofs
set_option maxRecDepth 100000
variable [EA]
set_option linter.unusedVariables false
set_option linter.unusedSectionVars false
set_option linter.unusedSimpArgs false

abbrev Go := List (List V) → Bool
abbrev Ad := List (List V) → List V → Bool
abbrev sp1B (n : Nat) (g : Nat → Nat → Q) (w : Int) : V := .q (.sp 1 fun j => [brG n g w].getD j default)
abbrev ylO (go : Go) (adm : Ad) : List (Option Ob) := [some (.yl go adm)]
abbrev pLi : List Nat := [0, 1, 0, 0, 1, 0, 0, 1, 1, 0]
abbrev pLo : List Nat := [0, 1, 1, 0]
def SLi (go : Go) (adm : Ad) (n : Nat) (g : Nat → Nat → Q) (w : Int) (ys : List (List V)) (i c j : Int) : St := mkS 32 [(0, .yld 0), (1, sp1B n g w), (3, V.i i), (13, V.i c), (14, V.i j)] (ylO go adm) [] false ys 0
def SLo (go : Go) (adm : Ad) (n : Nat) (g : Nat → Nat → Q) (w : Int) (ys : List (List V)) (i : Int) : St := mkS 32 [(0, .yld 0), (1, sp1B n g w), (3, V.i i)] (ylO go adm) [] false ys 0
def FLi (go : Go) (adm : Ad) (ys : List (List V)) : St := mkS 32 [] (ylO go adm) [] false ys 0
def liveLi : Ex → List Nat | .normal => [0, 1, 3, 13, 14] | .exit 2 => [0, 1, 3] | _ => []
def liveLo : Ex → List Nat | .normal => [0, 1, 3] | _ => []
noncomputable abbrev bodyLi : Code := loopAt Tryz.f69 pLi
noncomputable abbrev bodyLo : Code := loopAt Tryz.f69 pLo
noncomputable abbrev treeLi (s : St) : T (Ex × St × Bool) := ltree Tryz.prog [] [] pLi bodyLi 32 1 liveLi poN s
abbrev ΓLs : Gam := [(43, has.s), (70, empty.s), (44, next.s)]
theorem ΓLs.ok : GOK Tryz.prog ΓLs := .cons has.ok (.cons empty.ok (.cons next.ok (GOK.nil _)))
noncomputable abbrev orLi (go : Go) (adm : Ad) (n : Nat) (g : Nat → Nat → Q) (w : Int) (ys : List (List V)) (i c : Int) (b : Bool) (ys' ysK : List (List V)) : Lam :=
  [(pLi, orc false 32 1 [0, 1, 3, 13, 14] (SLi go adm n g w ys i c (0 : Nat)) (.ite b (.leaf (.exit 2, SLo go adm n g w ys' i)) (.leaf (.exit 0, FLi go adm ysK))))]
noncomputable abbrev treeLo (Λ : Lam) (s : St) : T (Ex × St × Bool) := ltree Tryz.prog ΓLs Λ pLo bodyLo 32 1 liveLo poN s
abbrev xl (x : Ln) : List V := [lnV x]
theorem stepLi (go : Go) (adm : Ad) (n : Nat) (g : Nat → Nat → Q) (w : Int) (ys : List (List V)) (i c : Int) (j : Nat) : treeLi (SLi go adm n g w ys i c j) =
    .ite (decide ((j : Int) < c)) (.ite (adm ys (xl ⟨i, i, 0⟩)) (.ite (!(go (ys ++ [xl ⟨i, i, 0⟩]))) (.leaf (.exit 0, FLi go adm (ys ++ [xl ⟨i, i, 0⟩]), true)) (.leaf (.normal, SLi go adm n g w (ys ++ [xl ⟨i, i, 0⟩]) i c (w64 (j + 1)), true))) .bad) (.leaf (.exit 2, SLo go adm n g w ys i, true)) := by kernel_rfl
theorem stepLo (go : Go) (adm : Ad) (n : Nat) (g : Nat → Nat → Q) (w : Int) (ys : List (List V)) (i : Nat) (b : Bool) (ys' ysK : List (List V)) : treeLo (orLi go adm n g w ys i (emptyI g i) b ys' ysK) (SLo go adm n g w ys i) =
    .ite (decide ((i : Int) < n)) (.ite (inI i n) (.ite (@decide (SLi go adm n g w ys i (emptyI g i) (0 : Nat) = SLi go adm n g w ys i (emptyI g i) (0 : Nat)) (Classical.propDecidable _)) (.ite b
      (.ite (inI i n) (.ite (adm ys' (xl (nextL n g w i))) (.ite (!(go (ys' ++ [xl (nextL n g w i)]))) (.leaf (.exit 0, FLi go adm (ys' ++ [xl (nextL n g w i)]), true)) (.leaf (.normal, SLo go adm n g w (ys' ++ [xl (nextL n g w i)]) (nextL n g w i).z, true))) .bad) .bad)
      (.leaf (.exit 0, FLi go adm ysK, true))) .bad) .bad) (.leaf (.exit 0, FLi go adm ys, true)) := by kernel_rfl
theorem endLo (go : Go) (adm : Ad) (n : Nat) (g : Nat → Nat → Q) (w : Int) (ys : List (List V)) (i : Nat) (hi : n ≤ i) : (treeLo [] (SLo go adm n g w ys i)).pick = some (.exit 0, FLi go adm ys, true) :=
  T.pick_at [false] [decide ((i : Int) < n)] (by kernel_rfl) (by rw [c_ge hi]) (by kernel_rfl)
/-- What is yielded. -/
abbrev xLn (L : List Ln) (k : Nat) : List V := xl (L.getD k ⟨0, 0, 0⟩)
theorem xLn_at {L pre suf : List Ln} {x : Ln} (h : L = pre ++ x :: suf) : xLn L pre.length = xl x := by
  subst h
  simp [xLn, List.getD_eq_getElem?_getD]
theorem xLn_lt {L pre suf : List Ln} {x : Ln} (h : L = pre ++ x :: suf) : pre.length < L.length := by
  subst h
  simp
/-- None of the first m has told it to stop. -/
abbrev okM (go : Go) (x : Nat → List V) (m : Nat) : Prop := ∀ j, j < m → go (hist x (j + 1)) = true
theorem okM_suc {go : Go} {x : Nat → List V} {m : Nat} (h : okM go x m) (h1 : go (hist x (m + 1)) = true) : okM go x (m + 1) := fun j hj => by
  rcases Nat.lt_or_ge j m with h2 | h2
  · exact h j h2
  · rw [show j = m by omega]; exact h1
theorem loopLi (go : Go) (adm : Ad) (n : Nat) (g : Nat → Nat → Q) (w : Int) (L pre suf : List Ln) (i : Nat) (c : Int) (hL : L = pre ++ (nils i c.toNat ++ suf)) (hc : c ≤ 1000000) (hadm : Admits go adm L.length (xLn L)) (K : Nat) (hK : Stops go (xLn L) L.length K)
    (hm : okM go (xLn L) pre.length) (b : Bool) (hb : b = true ↔ okM go (xLn L) (pre.length + c.toNat)) :
    ∀ x, (T.ite b (.leaf (Ex.exit 2, SLo go adm n g w (hist (xLn L) (pre.length + c.toNat)) i)) (.leaf (.exit 0, FLi go adm (hist (xLn L) K)))).pick = some x → SemC Tryz.prog (.loop bodyLi) (SLi go adm n g w (hist (xLn L) pre.length) i c (0 : Nat)) x := by
  refine loop_nat (GOK.nil _) (root := cod Tryz.f69) (p := pLi) (by kernel_rfl) c.toNat (fun j => okM go (xLn L) (pre.length + j)) (fun j => SLi go adm n g w (hist (xLn L) (pre.length + j)) i c j) _ 32 1 liveLi poN poN_ok (fun j hj hok => ?_) hm
  have e := stepLi go adm n g w (hist (xLn L) (pre.length + j)) i c j
  rcases Nat.lt_or_ge j c.toNat with hlt | hge
  · have hL' : L = (pre ++ nils i j) ++ (⟨i, i, 0⟩ : Ln) :: (nils i (c.toNat - j - 1) ++ suf) := by
      have hr : nils i c.toNat = nils i j ++ (⟨i, i, 0⟩ : Ln) :: nils i (c.toNat - j - 1) := by
        rw [← List.replicate_succ, List.replicate_append_replicate]
        congr 1
        omega
      rw [hL, hr]
      simp
    have hlen : (pre ++ nils i j).length = pre.length + j := by simp
    have hx := xLn_at hL'
    have hl := xLn_lt hL'
    rw [hlen] at hx hl
    have hc1 : decide ((j : Int) < c) = true := decide_eq_true (by omega)
    have ha : adm (hist (xLn L) (pre.length + j)) (xl ⟨i, i, 0⟩) = true := by rw [← hx]; exact hadm _ hl hok
    have hs : hist (xLn L) (pre.length + j) ++ [xl ⟨i, i, 0⟩] = hist (xLn L) (pre.length + (j + 1)) := by rw [← hx, ← hist_succ]; rfl
    have hw : w64 ((j : Int) + 1) = ((j + 1 : Nat) : Int) := w64_suc (show j < 1000001 by omega) (by omega)
    rw [hc1, ha, hs, hw] at e
    cases hg : go (hist (xLn L) (pre.length + (j + 1))) with
    | true => exact ⟨[], .normal, _, LamOK.nil _ _, (congrArg T.pick e).trans (by rw [hg]; rfl), .inl ⟨rfl, hlt, okM_suc hok hg, rfl⟩⟩
    | false =>
      have hk := stops_at hK hl hok hg
      have hbf : b = false := by
        cases hbb : b with
        | false => rfl
        | true =>
          have := (hb.1 hbb) (pre.length + j) (by omega)
          rw [show pre.length + j + 1 = pre.length + (j + 1) by omega, hg] at this
          cases this
      refine ⟨[], .exit 0, _, LamOK.nil _ _, (congrArg T.pick e).trans (by rw [hg]; rfl), .inr ⟨by simp, ?_⟩⟩
      rw [hbf, hk]; rfl
  · have h : j = c.toNat := by omega
    subst h
    have hc1 : decide (((c.toNat : Nat) : Int) < c) = false := decide_eq_false (by omega)
    rw [hc1] at e
    exact ⟨[], .exit 2, _, LamOK.nil _ _, (congrArg T.pick e).trans rfl, .inr ⟨by simp, by rw [hb.2 hok]; rfl⟩⟩
def okH (n : Nat) (g : Nat → Nat → Q) : Prop := n ≤ 500 ∧ ∀ i, i < n → (gWd g i).h ≤ 400 ∧ 0 ≤ (gWd g i).h
theorem emptyI_eq {n : Nat} {g : Nat → Nat → Q} (h : okH n g) {i : Nat} (hi : i < n) : (emptyI g i).toNat = emptyN g i ∧ emptyI g i ≤ 400 := by
  have := h.2 i hi
  unfold emptyI emptyN kBo
  have hw : w64 ((gWd g i).h - 1) = (gWd g i).h - 1 := w64_id (by omega) (by omega)
  cases decide ((i : Int) > 0)
  · exact ⟨by show ((gWd g i).h).toNat = ((gWd g i).h - 0).toNat; rw [Int.sub_zero], this.1⟩
  · exact ⟨by show (w64 ((gWd g i).h - 1)).toNat = ((gWd g i).h - 1).toNat; rw [hw], by show w64 ((gWd g i).h - 1) ≤ 400; rw [hw]; omega⟩
theorem loopLo (go : Go) (adm : Ad) (n : Nat) (g : Nat → Nat → Q) (w : Int) (hH : okH n g) (hadm : Admits go adm (breakL n g w).length (xLn (breakL n g w))) (K : Nat) (hK : Stops go (xLn (breakL n g w)) (breakL n g w).length K) :
    ∀ x, (T.leaf (Ex.exit 0, FLi go adm (hist (xLn (breakL n g w)) K))).pick = some x → SemC Tryz.prog (.loop bodyLo) (SLo go adm n g w [] (0 : Nat)) x := by
  refine loop_treeP ΓLs.ok (root := cod Tryz.f69) (p := pLo) (by kernel_rfl) (ι := List Ln × Nat × Nat) (fun y => y.2.1 ≤ n ∧ n ≤ y.2.2 + y.2.1 ∧ breakL n g w = y.1 ++ linesF n g w y.2.2 y.2.1 ∧ okM go (xLn (breakL n g w)) y.1.length)
    (fun y => SLo go adm n g w (hist (xLn (breakL n g w)) y.1.length) y.2.1) (fun y => n - y.2.1) _ 32 1 liveLo (fun _ => []) poN poN_ok (fun y hy => ?_) ([], 0, n) ⟨Nat.zero_le _, by simp, rfl, fun j hj => absurd hj (by simp)⟩
  obtain ⟨pre, i, f⟩ := y
  obtain ⟨h1, h2, h3, h4⟩ := hy
  replace h1 : i ≤ n := h1
  replace h2 : n ≤ f + i := h2
  replace h3 : breakL n g w = pre ++ linesF n g w f i := h3
  replace h4 : okM go (xLn (breakL n g w)) pre.length := h4
  rcases Nat.lt_or_ge i n with hlt | hge
  · obtain ⟨f, rfl⟩ : ∃ f', f = f' + 1 := ⟨f - 1, by omega⟩
    rw [linesF, if_pos hlt] at h3
    obtain ⟨he1, he2⟩ := emptyI_eq hH hlt
    have hz1 := nextZ_gt n g w i
    have hz2 := nextZ_le (g := g) (w := w) hlt
    rw [← he1] at h3
    have hin := loopLi go adm n g w (breakL n g w) pre (nextL n g w i :: linesF n g w f (nextZ n g w i)) i (emptyI g i) h3 (by omega) hadm K hK h4 (@decide (okM go (xLn (breakL n g w)) (pre.length + (emptyI g i).toNat)) (Classical.propDecidable _)) (by simp)
    have e := stepLo go adm n g w (hist (xLn (breakL n g w)) pre.length) i (@decide (okM go (xLn (breakL n g w)) (pre.length + (emptyI g i).toNat)) (Classical.propDecidable _)) (hist (xLn (breakL n g w)) (pre.length + (emptyI g i).toNat)) (hist (xLn (breakL n g w)) K)
    rw [c_lt hlt, c_inI hlt] at e
    have hΛ := LamOK.orc (P := Tryz.prog) (root := cod Tryz.f69) (p := pLi) (mk := false) (nn := 32) (k := 1) (live := [0, 1, 3, 13, 14]) (c := .loop bodyLi) (by kernel_rfl) hin (LamOK.nil _ _)
    by_cases hok : okM go (xLn (breakL n g w)) (pre.length + (emptyI g i).toNat)
    · have hL' : breakL n g w = (pre ++ nils i (emptyI g i).toNat) ++ nextL n g w i :: linesF n g w f (nextZ n g w i) := by rw [h3, List.append_assoc]
      have hlen : (pre ++ nils i (emptyI g i).toNat).length = pre.length + (emptyI g i).toNat := by simp
      have hx := xLn_at hL'
      have hl := xLn_lt hL'
      rw [hlen] at hx hl
      have ha : adm (hist (xLn (breakL n g w)) (pre.length + (emptyI g i).toNat)) (xl (nextL n g w i)) = true := by rw [← hx]; exact hadm _ hl hok
      have hs : hist (xLn (breakL n g w)) (pre.length + (emptyI g i).toNat) ++ [xl (nextL n g w i)] = hist (xLn (breakL n g w)) (pre.length + (emptyI g i).toNat + 1) := by rw [← hx, ← hist_succ]
      rw [@decide_eq_true _ (Classical.propDecidable _) hok, ha, hs] at e
      rw [@decide_eq_true _ (Classical.propDecidable _) hok] at hΛ
      cases hg : go (hist (xLn (breakL n g w)) (pre.length + (emptyI g i).toNat + 1)) with
      | true =>
        refine ⟨_, .normal, _, hΛ, (congrArg T.pick e).trans (by rw [hg]; simp only [pick_ite, cond_true, decide_true, Bool.not_true, cond_false, pick_leaf]; rfl), .inl ⟨rfl, (pre ++ nils i (emptyI g i).toNat ++ [nextL n g w i], nextZ n g w i, f), ⟨hz2, show n ≤ f + nextZ n g w i by omega, ?_, ?_⟩, show n - nextZ n g w i < n - i by omega, ?_⟩⟩
        · show breakL n g w = _
          rw [hL']; simp
        · show okM go _ (pre ++ nils i (emptyI g i).toNat ++ [nextL n g w i]).length
          rw [List.length_append, hlen]
          exact okM_suc hok hg
        · show _ = SLo go adm n g w (hist _ (pre ++ nils i (emptyI g i).toNat ++ [nextL n g w i]).length) (nextZ n g w i : Nat)
          rw [List.length_append, hlen]; rfl
      | false =>
        have hk := stops_at hK hl hok hg
        exact ⟨_, .exit 0, _, hΛ, (congrArg T.pick e).trans (by rw [hg]; simp only [pick_ite, cond_true, decide_true, Bool.not_false, pick_leaf]; rfl), .inr ⟨by simp, by rw [hk]; rfl⟩⟩
    · rw [@decide_eq_false _ (Classical.propDecidable _) hok] at e hΛ
      exact ⟨_, .exit 0, _, hΛ, (congrArg T.pick e).trans (by simp only [pick_ite, cond_true, decide_true, cond_false, pick_leaf]), .inr ⟨by simp, rfl⟩⟩
  · rw [linesF_end n g w hge, List.append_nil] at h3
    have hk : K = (breakL n g w).length := stops_end hK (by rw [h3] at h4 ⊢; exact h4)
    refine ⟨[], .exit 0, _, LamOK.nil _ _, endLo go adm n g w _ i hge, .inr ⟨by simp, ?_⟩⟩
    rw [hk]
    show some (Ex.exit 0, FLi go adm (hist _ (breakL n g w).length)) = some (Ex.exit 0, FLi go adm (hist _ pre.length))
    rw [show (breakL n g w).length = pre.length from congrArg List.length h3]
/-- What lines goes through. -/
noncomputable def linesI.s : List V → T (Nat × (Nat → List V))
  | [.q (.sp 1 a)] => match a 0 with
    | .sp 2 get => match get 0, get 1 with
      | .lst [.str, .int .i64, .int .i64, .int .i64] n g, .c (.int .i64 w) => .ite (@decide (okH n g) (Classical.propDecidable _)) (.leaf ((breakL n g w).length, xLn (breakL n g w))) .bad
      | _, _ => .bad
    | _ => .bad
  | _ => .bad
theorem linesI.ok : IterOK Tryz.prog 69 linesI.s := by
  refine iterOK_of_body (Γ := ΓLs) ΓLs.ok Tryz.func69 (isBody _ (by kernel_rfl)) (by kernel_rfl) fun caps N x go adm hb he hadm => ?_
  unfold linesI.s at he
  split at he
  · rename_i a
    split at he
    · rename_i get ha
      split at he
      · rename_i n g w g0 g1
        by_cases hH : okH n g
        · rw [pick_ite, @decide_eq_true _ (Classical.propDecidable _) hH] at he
          cases he
          obtain ⟨K, hK⟩ := exists_stops go (xLn (breakL n g w)) (breakL n g w).length
          refine ⟨[sp1B n g w], _, K, ?_, LamOK.orc (p := pLo) (mk := false) (nn := 32) (k := 1) (live := [0, 1, 3]) (c := .loop bodyLo) (by kernel_rfl) (loopLo go adm n g w hH hadm K hK) (LamOK.nil _ _), hK, ?_⟩
          · intro S w' vs hd
            cases hd with
            | cons _ v1 _ l1 d1 hd =>
              refine .cons _ _ _ _ (.q _ _ ?_) hd
              obtain ⟨b, off, u, rfl, h1, h2, h3⟩ := d1.q_inv.sp_inv
              refine .sp _ _ b off u h1 h2 fun j hj => ?_
              have : j = 0 := by omega
              subst this
              have h4 := h3 0 hj
              rw [ha] at h4
              exact den_sp (fun j hj => by
                rcases (show j = 0 ∨ j = 1 by omega) with rfl | rfl
                · exact g0
                · exact g1) h4
          · have e : ∀ Y, itV Tryz.prog ΓLs [(pLo, orc false 32 1 [0, 1, 3] (SLo go adm n g w [] (0 : Nat)) (.leaf (Ex.exit 0, FLi go adm Y)))] Tryz.f69 (cod Tryz.f69) [sp1B n g w] go adm =
                .ite (@decide (SLo go adm n g w [] (0 : Nat) = SLo go adm n g w [] (0 : Nat)) (Classical.propDecidable _)) (.leaf Y) .bad := fun Y => by kernel_rfl
            rw [e]; exact pick_same _ _
        · rw [pick_ite, @decide_eq_false _ (Classical.propDecidable _) hH] at he; cases he
      · cases he
    · cases he
  · cases he
def lines.s : List V → T V
  | [.q (.sp 2 get)] => .leaf (.clo 69 [.q (.sp 1 fun j => [Q.sp 2 get].getD j default)])
  | _ => .bad
theorem lines.ok : SpecOK Tryz.prog 49 lines.s := by
  refine okF (GOK.nil _) Tryz.func49 (by kernel_rfl) (by kernel_rfl) fun args r hb hr => ?_
  unfold lines.s at hr
  split at hr
  · rename_i get
    exact ⟨[], LamOK.nil _ _, (congrArg T.pick (show funV Tryz.prog [] [] Tryz.f49 (cod Tryz.f49) [.q (.sp 2 get)] = .leaf (.clo 69 [.q (.sp 1 fun j => [Q.sp 2 get].getD j default)]) by kernel_rfl)).trans hr⟩
  · cases hr
end Go.Proofs.YthmlbmambcigcaaGreatDoor

/- Lines, one by one: Break. -/
namespace Go.Proofs.YthmlbmambcigcaaGreatDoor
open Go Go.SX Go.Proofs
set_option maxRecDepth 100000
variable [EA]
set_option linter.unusedVariables false
set_option linter.unusedSectionVars false
set_option linter.unusedSimpArgs false

abbrev pBk : List Nat := [0, 1, 0, 1, 1, 1, 1]
noncomputable abbrev rfBk : Code × Code := rfAt Tryz.f29 pBk
/-- The cell of the list, and the list: none before the first round. -/
abbrev cOut (x : V) : Option Ob := some (.cells 60 [x])
abbrev loBk (l : List Ln) : Nat → List (Option Ob)
  | 0 => [cOut (.q (.c (.slice none 0 0)))]
  | _ + 1 => [cOut (.own 4), some (.vec 37 ksLn l.length (gOf lnQ l))]
def SBk (n : Nat) (g : Nat → Nat → Q) (w : Int) : St := mkS 28 [(8, .ptr 0 0), (21, .clo 69 [sp1B n g w])] (loBk [] 0) [] false [] 0
abbrev anyBk : List V := List.replicate 28 .any
def postBk : Nat → St → St
  | 0, s => mvL [(5, 4)] s
  | _ + 1, s => mvL [(6, 4)] s
theorem postBk_ok (k : Nat) (s : St) : Sub Tryz.prog s (postBk k s) := by
  cases k with
  | zero => exact sub_mvL _ _
  | succ k => exact sub_mvL _ _
noncomputable abbrev roundBk (n : Nat) (g : Nat → Nat → Q) (w : Int) (k : Nat) (L : List (Option Ob)) (x : Ln) (rec rec' : Loop) : T (Ex × St × Bool) :=
  roundP (postBk k) Tryz.prog [] [] pBk rfBk.1 rfBk.2 [22] (SBk n g w) (some .dfr) 5 L [] (xl x) rec rec'
theorem round0 (n : Nat) (g : Nat → Nat → Q) (w : Int) (x : Ln) (rec rec' : Loop) : roundBk n g w 0 (loBk [] 0) x rec rec' =
    .ite (@decide ((some (some (Ob.raw (.loop rec))) : Option (Option Ob)) = some (some (.raw (.loop rec)))) (Classical.propDecidable _))
      (.ite (roomB 0 1 24) (.leaf (.normal, midS (SBk n g w) (loBk [x] 1) [] (some .dfr) rec' anyBk, true)) .bad) .bad := by kernel_rfl
theorem round1 (n : Nat) (g : Nat → Nat → Q) (w : Int) (k : Nat) (l : List Ln) (x : Ln) (rec rec' : Loop) : roundBk n g w (k + 1) (loBk l (k + 1)) x rec rec' =
    .ite (@decide ((some (some (Ob.raw (.loop rec))) : Option (Option Ob)) = some (some (.raw (.loop rec)))) (Classical.propDecidable _))
      (.ite (roomB l.length 1 24) (.leaf (.normal, midS (SBk n g w) [cOut (.own 4), some (.vec 37 ksLn (l.length + 1) (catG l.length (gOf lnQ l) (rows [lnQ x])))] [] (some .dfr) rec' anyBk, true)) .bad) .bad := by kernel_rfl
theorem take_suc {L : List Ln} {k : Nat} (hk : k < L.length) : L.take (k + 1) = L.take k ++ [L.getD k ⟨0, 0, 0⟩] := by
  rw [List.take_add_one, List.getElem?_eq_getElem hk]
  simp [List.getD_eq_getElem?_getD, hk]
theorem linesF_len (n : Nat) (g : Nat → Nat → Q) (w : Int) (hH : okH n g) : ∀ f i, i ≤ n → (linesF n g w f i).length ≤ 401 * (n - i)
  | 0, i, _ => Nat.zero_le _
  | f + 1, i, hi => by
    rw [linesF]
    split
    · rename_i hlt
      have h1 := nextZ_gt n g w i
      have h2 := nextZ_le (g := g) (w := w) hlt
      have h3 := linesF_len n g w hH f (nextZ n g w i) h2
      have h4 := hH.2 i hlt
      have hk : 0 ≤ kBo i := by unfold kBo; cases decide ((i : Int) > 0) <;> simp
      have h5 : emptyN g i ≤ 400 := by show ((gWd g i).h - kBo i).toNat ≤ 400; omega
      rw [List.length_append, List.length_cons, List.length_replicate]
      have h6 : 401 * (n - nextZ n g w i) + 401 ≤ 401 * (n - i) := by omega
      omega
    · exact Nat.zero_le _
theorem breakL_len {n : Nat} {g : Nat → Nat → Q} (w : Int) (hH : okH n g) : (breakL n g w).length ≤ 1000000 := by
  have h1 := linesF_len n g w hH n 0 (Nat.zero_le _)
  have h2 := hH.1
  show (linesF n g w n 0).length ≤ _
  omega
theorem rangeBk (n : Nat) (g : Nat → Nat → Q) (w : Int) (hH : okH n g) : ∀ x, (T.leaf (Ex.normal, outS (SBk n g w) (loBk (breakL n g w) (breakL n g w).length) [])).pick = some x → SemC Tryz.prog (.rangeFunc (.tmp 21) #[22] rfBk.1 rfBk.2) (SBk n g w) x := by
  intro x hx
  have hlen := breakL_len w hH
  have H : Rounds Tryz.prog [] [] pBk rfBk.1 rfBk.2 (#[22] : Array Nat).toList (SBk n g w) (if (SBk n g w).inr then none else some .dfr) ((SBk n g w).tm.map fun _ => .any)
      (fun k => loBk ((breakL n g w).take k) k) (fun _ => []) (xLn (breakL n g w)) (breakL n g w).length (fun _ => .normal) := by
    refine rounds_ofP postBk postBk_ok (fun _ => 5) (fun k => ?_) (fun k _ => rfl) fun k hk hn rec rec' => ?_
    · cases k <;> simp [SBk, mkS]
    · cases k with
      | zero =>
        refine (congrArg T.pick (round0 n g w ((breakL n g w).getD 0 ⟨0, 0, 0⟩) rec rec')).trans ?_
        rw [pick_same]
        show some _ = some _
        rw [take_suc hk]; rfl
      | succ k =>
        have hl : ((breakL n g w).take (k + 1)).length = k + 1 := by rw [List.length_take]; omega
        refine (congrArg T.pick (round1 n g w k ((breakL n g w).take (k + 1)) ((breakL n g w).getD (k + 1) ⟨0, 0, 0⟩) rec rec')).trans ?_
        have hr : roomB ((breakL n g w).take (k + 1)).length 1 24 = true := by rw [hl]; simp [roomB]; omega
        rw [pick_same, hr, catG_of lnQ, ← take_suc hk]
        show some _ = some _
        have : ((breakL n g w).take (k + 1)).length + 1 = ((breakL n g w).take (k + 1 + 1)).length := by rw [hl, List.length_take]; omega
        rw [this]; rfl
  have hc : codeAt (cod Tryz.f29) pBk = some (.rangeFunc (.tmp 21) #[22] rfBk.1 rfBk.2) := by kernel_rfl
  have hsp : (linesI.s [sp1B n g w]).pick = some ((breakL n g w).length, xLn (breakL n g w)) := by
    show (T.ite (@decide (okH n g) (Classical.propDecidable _)) (T.leaf ((breakL n g w).length, xLn (breakL n g w))) .bad).pick = _
    rw [pick_ite, @decide_eq_true _ (Classical.propDecidable _) hH]; rfl
  cases hx
  have := sem_range (GOK.nil _) (LamOK.nil _ _) hc (f := 69) (caps := [sp1B n g w]) rfl rfl linesI.ok hsp H rfl rfl (m := (breakL n g w).length) (e := .normal) ⟨Nat.le_refl _, .inl ⟨rfl, rfl, fun j _ => rfl⟩⟩ (by cases (breakL n g w).length <;> trivial) (fun d hd => by simp [SBk, mkS] at hd)
  rw [List.take_length] at this
  exact this
abbrev ΓLb : Gam := [(41, open_.s), (42, AsLine.told.s), (49, lines.s)]
theorem ΓLb.ok : GOK Tryz.prog ΓLb := .cons open_.ok (.cons AsLine.told.ok (.cons lines.ok (GOK.nil _)))
theorem right_ok {n : Nat} {g : Nat → Nat → Q} (h : rightW n g = true) : okH n g := by
  unfold rightW at h
  cases ha : (allN n fun i => !badW (gWd g i)) with
  | false => rw [ha] at h; cases h
  | true =>
    rw [ha] at h
    refine ⟨by have := of_decide_eq_true (show decide ((n : Int) ≤ 500) = true from h); omega, fun i hi => ?_⟩
    have := allN_at ha hi
    exact good_h (x := gWd g i) (by rw [badR_eq]; simpa using this)
def lBreak.s : List V → T V
  | [.q (.lst [.str, .int .i64, .int .i64, .int .i64] n g), .q (.c (.int .i64 w))] => .ite (allN n (szW g)) (.ite (chkW n g w != 0) (.leaf (.tup [emptyL ksLn, V.i (chkW n g w)])) (.leaf (.tup [vOf ksLn lnQ (breakL n g w), V.i 0]))) .bad
  | _ => .bad
abbrev nilT0 (k : Int) : V := .tup [.q (.c (.slice none 0 0)), V.i k]
def lBreak.t : List V → T V
  | [.q (.lst [.str, .int .i64, .int .i64, .int .i64] n g), .q (.c (.int .i64 w))] => .ite (allN n (szW g)) (.ite (chkW n g w != 0) (.leaf (nilT0 (chkW n g w))) (.ite (decide ((breakL n g w).length = 0)) (.leaf (nilT0 0)) (.leaf (.tup [vOf ksLn lnQ (breakL n g w), V.i 0])))) .bad
  | _ => .bad
theorem den_tnil' {S L : Nat → Prop} {θ : Th} {w : World} {ks : List K} {m : Nat} {g : Nat → Nat → Q} {y : V} {v : Value} (hm : m = 0) (h : Den S L θ w (.tup [.q (.c (.slice none 0 0)), y]) v) : Den S L θ w (.tup [.q (.lst ks m g), y]) v := by
  subst hm; exact den_tnil h
noncomputable abbrev orBk (n : Nat) (g : Nat → Nat → Q) (w : Int) (lo : List (Option Ob)) : Lam := [(pBk, orc false 28 1 [8, 21] (SBk n g w) (.leaf (Ex.normal, outS (SBk n g w) lo [])))]
theorem eqBk1 (n : Nat) (g : Nat → Nat → Q) (w : Int) (m : Nat) (h : Nat → Nat → Q) : funV Tryz.prog ΓLb (orBk n g w [cOut (.own 4), some (.vec 37 ksLn m h)]) Tryz.f29 (cod Tryz.f29) [lWd n g, V.i w] =
    .ite (allN n (szW g)) (.ite (!rightW n g) (.ite true (.leaf (nilT0 70)) .bad) (.ite (badI w) (.ite true (.leaf (nilT0 60)) .bad) (.ite false (.leaf (nilT0 0))
      (.ite (@decide (SBk n g w = SBk n g w) (Classical.propDecidable _)) (.leaf (.tup [lLn m h, V.i 0])) .bad)))) .bad := by kernel_rfl
theorem eqBk0 (n : Nat) (g : Nat → Nat → Q) (w : Int) : funV Tryz.prog ΓLb (orBk n g w [cOut (.q (.c (.slice none 0 0)))]) Tryz.f29 (cod Tryz.f29) [lWd n g, V.i w] =
    .ite (allN n (szW g)) (.ite (!rightW n g) (.ite true (.leaf (nilT0 70)) .bad) (.ite (badI w) (.ite true (.leaf (nilT0 60)) .bad) (.ite false (.leaf (nilT0 0))
      (.ite (@decide (SBk n g w = SBk n g w) (Classical.propDecidable _)) (.leaf (nilT0 0)) .bad)))) .bad := by kernel_rfl
theorem lBreak.ok : SpecOK Tryz.prog 29 lBreak.s := by
  refine SpecOK.res (sp' := lBreak.t) ?_ fun args r hb hr => ?_
  · refine okF ΓLb.ok Tryz.func29 (by kernel_rfl) (by kernel_rfl) fun args r hb hr => ?_
    unfold lBreak.t at hr
    split at hr
    · rename_i n g w
      cases ha : allN n (szW g) with
      | false => rw [ha] at hr; cases hr
      | true =>
        rw [ha] at hr
        cases hc : chkW n g w != 0 with
        | true =>
          rw [hc] at hr
          refine ⟨[], LamOK.nil _ _, ?_⟩
          have e : T.pathL (funV Tryz.prog ΓLb [] Tryz.f29 (cod Tryz.f29) [lWd n g, V.i w]) [true] = .ite (!rightW n g) (.ite true (.leaf (nilT0 70)) .bad) (.ite (badI w) (.ite true (.leaf (nilT0 60)) .bad) (.ite false (.leaf (nilT0 0)) .bad)) := by kernel_rfl
          have e0 : T.pathC (funV Tryz.prog ΓLb [] Tryz.f29 (cod Tryz.f29) [lWd n g, V.i w]) [true] = [allN n (szW g)] := by kernel_rfl
          rw [T.pick_path [true] _ (e0.trans (by rw [ha])), e, ← hr]
          unfold chkW at hc ⊢
          cases hrr : rightW n g with
          | false => rfl
          | true =>
            rw [hrr] at hc
            cases hw : badI w with
            | true => rfl
            | false => rw [hw] at hc; cases hc
        | false =>
          obtain ⟨h1, h2⟩ := chk_right hc
          rw [hc] at hr
          have hrg := rangeBk n g w (right_ok h1)
          cases hN : (breakL n g w).length with
          | zero =>
            rw [hN] at hrg hr
            refine ⟨_, LamOK.orc (p := pBk) (mk := false) (nn := 28) (k := 1) (live := [8, 21]) (c := .rangeFunc (.tmp 21) #[22] rfBk.1 rfBk.2) (by kernel_rfl) hrg (LamOK.nil _ _), ?_⟩
            refine (congrArg T.pick (eqBk0 n g w)).trans ?_
            rw [ha, h1, h2, ← hr]
            exact pick_same _ _
          | succ N =>
            rw [hN] at hrg
            rw [decide_eq_false (by omega)] at hr
            refine ⟨_, LamOK.orc (p := pBk) (mk := false) (nn := 28) (k := 1) (live := [8, 21]) (c := .rangeFunc (.tmp 21) #[22] rfBk.1 rfBk.2) (by kernel_rfl) hrg (LamOK.nil _ _), ?_⟩
            refine (congrArg T.pick (eqBk1 n g w (breakL n g w).length (gOf lnQ (breakL n g w)))).trans ?_
            rw [ha, h1, h2, ← hr]
            exact pick_same _ _
    · cases hr
  · unfold lBreak.s at hr
    unfold lBreak.t
    split at hr
    · rename_i n g w
      cases ha : allN n (szW g) with
      | false => rw [ha] at hr; cases hr
      | true =>
        rw [ha] at hr
        cases hc : chkW n g w != 0 with
        | true => rw [hc] at hr; cases hr; exact ⟨_, rfl, fun S w v h => den_tnil h⟩
        | false =>
          rw [hc] at hr
          cases hr
          by_cases h0 : (breakL n g w).length = 0
          · rw [decide_eq_true h0]; exact ⟨_, rfl, fun S w v h => den_tnil' h0 h⟩
          · rw [decide_eq_false h0]; exact ⟨_, rfl, fun S w v h => h⟩
    · cases hr
end Go.Proofs.YthmlbmambcigcaaGreatDoor

/- Lines, one by one: a line's text, as the document tells it. -/
namespace Go.Proofs.YthmlbmambcigcaaGreatDoor
open Go Go.SX Go.Proofs
set_option maxRecDepth 100000
variable [EA]
set_option linter.unusedVariables false
set_option linter.unusedSectionVars false
set_option linter.unusedSimpArgs false

abbrev pTx : List Nat := [0, 1, 0, 1, 1, 1, 1]
def STx (n : Nat) (g : Nat → Nat → Q) (x : Ln) (b : ByteArray) (i : Int) : St := mkS 58 [(0, lWd n g), (3, .ptr 0 0), (6, V.s b), (7, V.i i)] [cLn x] [] false [] 0
def FTx (x : Ln) (b : ByteArray) : Ex × St := (.exit 0, mkS 58 [(6, V.s b)] [cLn x] [] false [] 0)
def liveTx : Ex → List Nat | .normal => [0, 3, 6, 7] | _ => [6]
abbrev noT : ByteArray := ⟨#[]⟩
abbrev blank : ByteArray := ⟨#[32]⟩
abbrev szOK (b c : ByteArray) : Bool := decide (b.size + c.size ≤ 9223372036854775807)
def goTx (n : Nat) (g : Nat → Nat → Q) (x : Ln) (b : ByteArray) (i : Nat) : T (Ex × St × Bool) :=
  .ite (inI i n) (.ite (szOK b (gWd g i).t) (.leaf (.normal, STx n g x (b ++ (gWd g i).t) (w64 (i + 1)), true)) .bad) .bad
/-- A word's text behind a text: a blank ahead, if there is one. -/
def putT (b : ByteArray) (fst : Bool) (x : Wd) : ByteArray := (bif fst then b else bif x.s != 0 then b ++ blank else b) ++ x.t
/-- The text of k words from a on. -/
def txF (g : Nat → Nat → Q) (a : Nat) : Nat → ByteArray
  | 0 => noT
  | k + 1 => putT (txF g a k) (decide (k = 0)) (gWd g (a + k))
theorem size_app (a b : ByteArray) : (a ++ b).size = a.size + b.size := ByteArray.size_append
theorem putT_size (b : ByteArray) (f : Bool) (x : Wd) : (putT b f x).size ≤ b.size + 1 + x.t.size := by
  unfold putT
  rw [size_app]
  cases f with
  | true => show b.size + _ ≤ _; omega
  | false =>
    cases x.s != 0 with
    | true => show (b ++ blank).size + _ ≤ _; rw [size_app]; exact Nat.le_refl _
    | false => show b.size + _ ≤ _; omega
theorem txF_size (g : Nat → Nat → Q) (a : Nat) : ∀ k, (∀ j, j < k → (gWd g (a + j)).t.size ≤ 400) → (txF g a k).size ≤ 401 * k
  | 0, _ => Nat.le_refl _
  | k + 1, h => by
    have h1 := txF_size g a k fun j hj => h j (by omega)
    have h2 := h k (by omega)
    have h3 := putT_size (txF g a k) (decide (k = 0)) (gWd g (a + k))
    show (putT _ _ _).size ≤ _
    omega
theorem good_t {x : Wd} (h : badW x = false) : x.t.size ≤ 400 := by
  rw [← badR_eq] at h
  unfold badR at h
  cases h1 : x.t.toList == (ByteArray.mk #[]).toList with
  | true => rw [h1] at h; cases h
  | false =>
    rw [h1] at h
    by_cases h2 : (x.t.size : Int) > 400
    · rw [decide_eq_true h2] at h; cases h
    · omega
theorem right_t {n : Nat} {g : Nat → Nat → Q} (h : rightW n g = true) : n ≤ 500 ∧ ∀ i, i < n → (gWd g i).t.size ≤ 400 := by
  unfold rightW at h
  cases ha : (allN n fun i => !badW (gWd g i)) with
  | false => rw [ha] at h; cases h
  | true =>
    rw [ha] at h
    refine ⟨by have := of_decide_eq_true (show decide ((n : Int) ≤ 500) = true from h); omega, fun i hi => ?_⟩
    have := allN_at ha hi
    exact good_t (by simpa using this)
/-- Is a line none of n words'? -/
abbrev outL (n : Nat) (a z : Int) : Bool := bif decide (a < 0) then true else bif decide (a > z) then true else decide (z > n)
/-- A line's text, and what is wrong. -/
def textR (n : Nat) (g : Nat → Nat → Q) (a z : Int) : ByteArray × Int := bif !rightW n g then (noT, 70) else bif outL n a z then (noT, 80) else (txF g a.toNat (z - a).toNat, 0)
def rText.s : List V → T V
  | [.q (.lst [.str, .int .i64, .int .i64, .int .i64] n g), .agg [.q (.c (.int .i64 a)), .q (.c (.int .i64 z)), .q (.c (.int .i64 w))]] => .leaf (.tup [V.s (textR n g a z).1, V.i (textR n g a z).2])
  | _ => .bad
abbrev ΓRtx : Gam := [(58, rRight.s)]
theorem ΓRtx.ok : GOK Tryz.prog ΓRtx := .cons rRight.ok (GOK.nil _)
theorem outL_false {n : Nat} {a z : Int} (h : outL n a z = false) : 0 ≤ a ∧ a ≤ z ∧ z ≤ n := by
  unfold outL at h
  rw [cond_or, cond_or] at h
  have := of_decide_eq_false h
  omega
end Go.Proofs.YthmlbmambcigcaaGreatDoor

/- Lines: the lines that words come to, one behind the other; a loop that goes through them. -/
namespace Go.Proofs.YthmlbmambcigcaaGreatDoor
open Go Go.SX Go.Proofs Go.RowKit
set_option maxRecDepth 100000
variable [EA]
set_option linter.unusedVariables false
set_option linter.unusedSectionVars false
set_option linter.unusedSimpArgs false

/-- What is left of the lines, where the word i is the next one to stand in one. -/
def RestL (n : Nat) (g : Nat → Nat → Q) (w : Int) (i : Nat) (rest : List Ln) : Prop :=
  (i = n ∧ rest = []) ∨ (i < n ∧ ∃ c f, c ≤ emptyN g i ∧ n ≤ f + nextZ n g w i ∧ rest = nils i c ++ nextL n g w i :: linesF n g w f (nextZ n g w i))
theorem restL_lines (n : Nat) (g : Nat → Nat → Q) (w : Int) {f i : Nat} (hi : i ≤ n) (hf : n ≤ f + i) : RestL n g w i (linesF n g w f i) := by
  rcases Nat.lt_or_ge i n with h | h
  · obtain ⟨f, rfl⟩ : ∃ f', f = f' + 1 := ⟨f - 1, by omega⟩
    have hz := nextZ_gt n g w i
    exact .inr ⟨h, emptyN g i, f, Nat.le_refl _, by omega, by rw [linesF, if_pos h]⟩
  · exact .inl ⟨by omega, linesF_end n g w h⟩
theorem restL_break (n : Nat) (g : Nat → Nat → Q) (w : Int) : RestL n g w 0 (breakL n g w) := restL_lines n g w (Nat.zero_le _) (by simp)
theorem restL_nil {n : Nat} {g : Nat → Nat → Q} {w : Int} {i : Nat} (h : RestL n g w i []) : i = n := by
  rcases h with h | ⟨_, c, f, _, _, h⟩
  · exact h.1
  · cases c <;> simp [nils, List.replicate_succ] at h
theorem restL_cons {n : Nat} {g : Nat → Nat → Q} {w : Int} {i : Nat} {x : Ln} {rest : List Ln} (h : RestL n g w i (x :: rest)) :
    i < n ∧ ((x = ⟨i, i, 0⟩ ∧ 0 < emptyN g i ∧ RestL n g w i rest) ∨ (x = nextL n g w i ∧ RestL n g w (nextZ n g w i) rest)) := by
  rcases h with h | ⟨hi, c, f, hc, hf, h⟩
  · cases h.2
  · refine ⟨hi, ?_⟩
    cases c with
    | zero =>
      simp only [nils, List.replicate_zero, List.nil_append, List.cons.injEq] at h
      exact .inr ⟨h.1, by rw [h.2]; exact restL_lines n g w (nextZ_le hi) hf⟩
    | succ c =>
      simp only [nils, List.replicate_succ, List.cons_append, List.cons.injEq] at h
      exact .inl ⟨h.1, by omega, .inr ⟨hi, c, f, by omega, hf, h.2⟩⟩
theorem gLn_mid {L pre rest : List Ln} {x : Ln} (h : L = pre ++ x :: rest) : pre.length < L.length ∧ gLn (gOf lnQ L) pre.length = x := by
  subst h
  have hl : pre.length < (pre ++ x :: rest).length := by simp
  exact ⟨hl, by rw [gLn_of hl]; simp⟩

section
variable {Γ : Gam} {root : Code}
/-- A loop that goes through lines. -/
theorem loopLines (hΓ : GOK Tryz.prog Γ) {p : List Nat} {b : Code} (hc : codeAt root (0 :: p) = some b) (L : List Ln) (hL : L.length ≤ 9223372036854775807) {A : Type} (I : A → List Ln → Prop) (S : A → Int → St) (R : Out) (nn k : Nat) (live : Ex → List Nat) (post : Ex → St → St) (hpost : ∀ e s, Sub Tryz.prog s (post e s))
    (hs : ∀ (a : A) (x : Ln) (rest : List Ln) (i : Nat), i < L.length → gLn (gOf lnQ L) i = x → x ∈ L → I a (x :: rest) → ∃ Λ a', LamOK Tryz.prog root Λ ∧ I a' rest ∧ (ltree Tryz.prog Γ Λ p b nn k live post (S a i)).pick = some (.normal, S a' (w64 (i + 1)), true))
    (hf : ∀ (a : A), I a [] → ∃ e s, e ≠ Ex.normal ∧ (ltree Tryz.prog Γ [] p b nn k live post (S a L.length)).pick = some (e, s, true) ∧ R.pick = some (e, s)) :
    ∀ a, I a L → ∀ x, R.pick = some x → SemC Tryz.prog (.loop b) (S a (0 : Nat)) x := fun a ha =>
  loop_treeP hΓ hc (ι := A × List Ln × List Ln) (fun y => L = y.2.1 ++ y.2.2 ∧ I y.1 y.2.2) (fun y => S y.1 (y.2.1.length : Nat)) (fun y => y.2.2.length) R nn k live (fun _ => []) post hpost (fun y hy => by
    obtain ⟨a, pre, rest⟩ := y
    obtain ⟨h1, h2⟩ := hy
    replace h1 : L = pre ++ rest := h1
    replace h2 : I a rest := h2
    cases rest with
    | nil =>
      obtain ⟨e, s, he, g1, g2⟩ := hf a h2
      have : L.length = pre.length := by rw [h1]; simp
      rw [this] at g1
      exact ⟨[], e, s, LamOK.nil _ _, g1, .inr ⟨he, g2⟩⟩
    | cons x rest =>
      obtain ⟨k1, k2⟩ := gLn_mid h1
      obtain ⟨Λ, a', g1, g2, g3⟩ := hs a x rest pre.length k1 k2 (by rw [h1]; simp) h2
      rw [w64_suc k1 hL] at g3
      exact ⟨Λ, .normal, _, g1, g3, .inl ⟨rfl, (a', pre ++ [x], rest), ⟨by show L = (pre ++ [x]) ++ rest; rw [h1]; simp, g2⟩, by show rest.length < (x :: rest).length; simp, by show S a' _ = S a' ((pre ++ [x]).length : Nat); rw [List.length_append]; rfl⟩⟩) (a, [], L) ⟨rfl, ha⟩
end

/-- Where a line ends, it could not take the next word. -/
theorem tkF_end (g : Nat → Nat → Q) (w : Int) : ∀ f k v, (tkF g w f k v).1 < k + f → takeB w (tkF g w f k v).2 (gWd g (tkF g w f k v).1) = false
  | 0, k, v, h => by simp [tkF] at h
  | f + 1, k, v, h => by
    rw [tkF] at h ⊢
    cases ht : takeB w v (gWd g k) with
    | true => rw [ht] at h; exact tkF_end g w f (k + 1) _ (by simp only [cond_true] at h; omega)
    | false => exact ht
/-- A line that is wider has one word. -/
theorem tkF_wide (g : Nat → Nat → Q) (w : Int) : ∀ f k v, (tkF g w f k v).2 > w → tkF g w f k v = (k, v)
  | 0, k, v, h => rfl
  | f + 1, k, v, h => by
    rw [tkF] at h ⊢
    cases ht : takeB w v (gWd g k) with
    | true =>
      rw [ht] at h
      have h' : (tkF g w f (k + 1) (addW v (gWd g k))).2 > w := h
      have e := tkF_wide g w f (k + 1) _ h'
      rw [e] at h'
      unfold takeB at ht
      cases hh : (gWd g k).h == 0 with
      | false => rw [hh] at ht; cases ht
      | true => rw [hh] at ht; have := of_decide_eq_true (show decide (addW v (gWd g k) ≤ w) = true from ht); replace h' : addW v (gWd g k) > w := h'; omega
    | false => rfl
theorem empty_h {g : Nat → Nat → Q} {i : Nat} (h : 0 < emptyN g i) : ¬ (gWd g i).h = 0 := fun h0 => by
  have hk : 0 ≤ kBo i := by unfold kBo; cases decide ((i : Int) > 0) <;> simp
  have h' : 0 < ((gWd g i).h - kBo i).toNat := h
  omega
end Go.Proofs.YthmlbmambcigcaaGreatDoor

/- Lines: what is so of right words, and of the lines that they come to; in plain words. -/
namespace Go.Proofs.YthmlbmambcigcaaGreatDoor
open Go Go.SX Go.Proofs Go.RowKit
set_option maxRecDepth 100000
variable [EA]
set_option linter.unusedVariables false
set_option linter.unusedSectionVars false
set_option linter.unusedSimpArgs false

/-! ### widths -/
theorem widB_all : (List.range 256).all (fun k => decide (0 ≤ widB (k : Nat) ∧ widB (k : Nat) ≤ 1024)) = true := by kernel_rfl
theorem widB_le (b : ByteArray) (i : Nat) : 0 ≤ widB (sByte b i) ∧ widB (sByte b i) ≤ 1024 := by
  have h := (b.get! i).toNat_lt
  exact of_decide_eq_true (List.all_eq_true.1 widB_all (b.get! i).toNat (List.mem_range.2 (by omega)))
theorem wsum_le (b : ByteArray) : ∀ i, i ≤ 1000000 → 0 ≤ wsum b i ∧ wsum b i ≤ 1024 * (i : Int)
  | 0, _ => ⟨Int.le_refl _, Int.le_refl _⟩
  | i + 1, h => by
    have h1 := wsum_le b i (by omega)
    have h2 := widB_le b i
    rw [wsum, w64_id (by omega) (by omega)]
    omega
theorem wsum_suc (b : ByteArray) {i : Nat} (h : i < 1000000) : wsum b (i + 1) = wsum b i + widB (sByte b i) := by
  have h1 := wsum_le b i (by omega)
  have h2 := widB_le b i
  rw [wsum, w64_id (by omega) (by omega)]
theorem wsum_ext {a b : ByteArray} : ∀ i, (∀ j, j < i → sByte a j = sByte b j) → wsum a i = wsum b i
  | 0, _ => rfl
  | i + 1, h => by rw [wsum, wsum, wsum_ext i fun j hj => h j (by omega), h i (by omega)]
theorem sByte_app1 (a b : ByteArray) {i : Nat} (h : i < a.size) : sByte (a ++ b) i = sByte a i := by
  unfold sByte
  have h2 : i < (a ++ b).size := by rw [ByteArray.size_append]; omega
  rw [show (a ++ b).get! i = (a ++ b)[i] from getElem!_pos (a ++ b).data i h2, show a.get! i = a[i] from getElem!_pos a.data i h, ByteArray.getElem_append_left h]
theorem sByte_app2 (a b : ByteArray) {i : Nat} (h : i < b.size) : sByte (a ++ b) (a.size + i) = sByte b i := by
  unfold sByte
  have h2 : a.size + i < (a ++ b).size := by rw [ByteArray.size_append]; omega
  rw [show (a ++ b).get! (a.size + i) = (a ++ b)[a.size + i] from getElem!_pos (a ++ b).data _ h2, show b.get! i = b[i] from getElem!_pos b.data i h, ByteArray.getElem_append_right (by omega)]
  simp
theorem wsum_app (a b : ByteArray) (hs : a.size + b.size ≤ 1000000) : wsum (a ++ b) (a ++ b).size = wsum a a.size + wsum b b.size := by
  have key : ∀ k, k ≤ b.size → wsum (a ++ b) (a.size + k) = wsum a a.size + wsum b k := by
    intro k
    induction k with
    | zero => intro _; rw [Nat.add_zero, wsum_ext a.size fun j hj => sByte_app1 a b hj, wsum, Int.add_zero]
    | succ k ih =>
      intro hk
      rw [show a.size + (k + 1) = (a.size + k) + 1 by omega, wsum_suc _ (by omega), ih (by omega), sByte_app2 a b (by omega), wsum_suc b (by omega)]
      omega
  rw [ByteArray.size_append]
  exact key b.size (Nat.le_refl _)
theorem wsum_blank : wsum blank blank.size = 256 := by kernel_rfl

/-! ### right words -/
structure Gd (x : Wd) : Prop where
  t : x.t.size ≤ 400
  w : x.w = wsum x.t x.t.size
  s : x.s = 0 ∨ x.s = 256
  h : 0 ≤ x.h ∧ x.h ≤ 400
theorem Gd.w0 {x : Wd} (h : Gd x) : 0 ≤ x.w ∧ x.w ≤ 1024 * (x.t.size : Int) := by rw [h.w]; exact wsum_le _ _ (by have := h.t; omega)
theorem Gd.s0 {x : Wd} (h : Gd x) : 0 ≤ x.s ∧ x.s ≤ 256 := by rcases h.s with h | h <;> omega
theorem gd_of {x : Wd} (h : badW x = false) : Gd x := by
  have ht := good_t h
  rw [← badR_eq] at h
  have hh := good_h h
  refine ⟨ht, ?_, ?_, hh.2, hh.1⟩
  · unfold badR at h
    cases h1 : x.t.toList == (ByteArray.mk #[]).toList <;> rw [h1] at h <;> simp only [cond_true, cond_false] at h
    · cases h2 : decide ((x.t.size : Int) > 400) <;> rw [h2] at h <;> simp only [cond_true, cond_false] at h
      · cases h3 : x.w != wsum x.t x.t.size <;> rw [h3] at h <;> simp only [cond_true, cond_false] at h
        · simpa using h3
        · cases h
      · cases h
    · cases h
  · unfold badR at h
    cases h1 : x.t.toList == (ByteArray.mk #[]).toList <;> rw [h1] at h <;> simp only [cond_true, cond_false] at h
    · cases h2 : decide ((x.t.size : Int) > 400) <;> rw [h2] at h <;> simp only [cond_true, cond_false] at h
      · cases h3 : x.w != wsum x.t x.t.size <;> rw [h3] at h <;> simp only [cond_true, cond_false] at h
        · cases h4 : x.s != 0 <;> rw [h4] at h <;> simp only [cond_true, cond_false] at h
          · exact .inl (by simpa using h4)
          · cases h5 : x.s != 256 <;> rw [h5] at h <;> simp only [cond_true, cond_false] at h
            · exact .inr (by simpa using h5)
            · cases h
        · cases h
      · cases h
    · cases h
def GdW (n : Nat) (g : Nat → Nat → Q) : Prop := n ≤ 500 ∧ ∀ i, i < n → Gd (gWd g i)
theorem gdW_of {n : Nat} {g : Nat → Nat → Q} (h : rightW n g = true) : GdW n g := by
  unfold rightW at h
  cases ha : (allN n fun i => !badW (gWd g i)) with
  | false => rw [ha] at h; cases h
  | true =>
    rw [ha] at h
    refine ⟨by have := of_decide_eq_true (show decide ((n : Int) ≤ 500) = true from h); omega, fun i hi => ?_⟩
    have := allN_at ha hi
    exact gd_of (by simpa using this)
theorem addW_gd {v : Int} {x : Wd} (h0 : 0 ≤ v) (h1 : v ≤ 1000000000000) (h : Gd x) : addW v x = v + x.s + x.w := by
  have a := h.w0
  have b := h.s0
  have c := h.t
  show w64 (w64 (v + x.s) + x.w) = _
  rw [w64_id (n := v + x.s) (by omega) (by omega), w64_id (by omega) (by omega)]
theorem takeB_iff {w v : Int} {x : Wd} : takeB w v x = true ↔ x.h = 0 ∧ addW v x ≤ w := by
  show (bif x.h == 0 then decide (addW v x ≤ w) else false) = true ↔ _
  cases hh : x.h == 0 with
  | true => simp only [cond_true, decide_eq_true_eq]; exact ⟨fun h => ⟨by simpa using hh, h⟩, fun h => h.2⟩
  | false =>
    simp only [cond_false, Bool.false_eq_true, false_iff]
    have hn : ¬ x.h = 0 := by simpa using hh
    exact fun h => hn h.1

/-! ### lines -/
theorem tkF_suc (g : Nat → Nat → Q) (w : Int) (f k : Nat) (v : Int) : tkF g w (f + 1) k v = bif takeB w v (gWd g k) then tkF g w f (k + 1) (addW v (gWd g k)) else (k, v) := rfl
theorem tkF_mono {n : Nat} {g : Nat → Nat → Q} (hg : GdW n g) {w m : Int} (hw : w ≤ m) (hw2 : w ≤ 1000000000) : ∀ f k v v', k + f ≤ n → 0 ≤ v' → v' ≤ v → v ≤ 1000000000000 → (tkF g w f k v).1 ≤ (tkF g m f k v').1
  | 0, k, v, v', _, _, _, _ => Nat.le_refl _
  | f + 1, k, v, v', hk, h0, h1, h2 => by
    rw [tkF_suc, tkF_suc]
    have gd := hg.2 k (by omega)
    cases ht : takeB w v (gWd g k) with
    | true =>
      obtain ⟨a1, a2⟩ := takeB_iff.1 ht
      have b1 := addW_gd (by omega) h2 gd
      have b2 := addW_gd h0 (by omega) gd
      have s0 := gd.s0
      have w0 := gd.w0
      have ht' : takeB m v' (gWd g k) = true := takeB_iff.2 ⟨a1, by omega⟩
      rw [ht']
      exact tkF_mono hg hw hw2 f (k + 1) _ _ (by omega) (by omega) (by omega) (by omega)
    | false =>
      have := tkF_ge g m (f + 1) k v'
      rw [tkF_suc] at this
      exact this
/-- A line that takes the word j has come by it. -/
theorem tkF_pass {n : Nat} {g : Nat → Nat → Q} (hg : GdW n g) {w : Int} (hw2 : w ≤ 1000000000) (j : Nat) : ∀ f k v, k + f ≤ n → 0 ≤ v → v ≤ 1000000000000 → k ≤ j → j < (tkF g w f k v).1 →
    ∃ V, tkF g w f k v = tkF g w (k + f - (j + 1)) (j + 1) V ∧ (gWd g j).w ≤ V ∧ V ≤ w ∧ (gWd g j).h = 0
  | 0, k, v, _, _, _, hj, h => by have : j < k := h; omega
  | f + 1, k, v, hk, h0, h2, hj, h => by
    rw [tkF_suc] at h ⊢
    have gd := hg.2 k (by omega)
    cases ht : takeB w v (gWd g k) with
    | true =>
      rw [ht] at h
      replace h : j < (tkF g w f (k + 1) (addW v (gWd g k))).1 := h
      obtain ⟨a1, a2⟩ := takeB_iff.1 ht
      have b1 := addW_gd h0 h2 gd
      have s0 := gd.s0
      have w0 := gd.w0
      rcases Nat.lt_or_ge k j with hlt | hge
      · obtain ⟨V, e1, e2⟩ := tkF_pass hg hw2 j f (k + 1) (addW v (gWd g k)) (by omega) (by omega) (by omega) (by omega) h
        refine ⟨V, ?_, e2⟩
        show tkF g w f (k + 1) (addW v (gWd g k)) = _
        rw [e1, show k + 1 + f - (j + 1) = k + (f + 1) - (j + 1) by omega]
      · have : j = k := by omega
        subst this
        exact ⟨_, by rw [show j + (f + 1) - (j + 1) = f by omega]; rfl, by omega, a2, a1⟩
    | false => rw [ht] at h; have : j < k := h; omega
theorem tkF_vge {n : Nat} {g : Nat → Nat → Q} (hg : GdW n g) {w : Int} (hw2 : w ≤ 1000000000) : ∀ f k v, k + f ≤ n → 0 ≤ v → v ≤ 1000000000000 → v ≤ (tkF g w f k v).2
  | 0, k, v, _, _, _ => Int.le_refl _
  | f + 1, k, v, hk, h0, h2 => by
    rw [tkF_suc]
    have gd := hg.2 k (by omega)
    cases ht : takeB w v (gWd g k) with
    | true =>
      obtain ⟨a1, a2⟩ := takeB_iff.1 ht
      have b1 := addW_gd h0 h2 gd
      have s0 := gd.s0
      have w0 := gd.w0
      have := tkF_vge hg hw2 f (k + 1) (addW v (gWd g k)) (by omega) (by omega) (by omega)
      show v ≤ (tkF g w f (k + 1) (addW v (gWd g k))).2
      omega
    | false => exact Int.le_refl _
theorem GdW.w1 {n : Nat} {g : Nat → Nat → Q} (hg : GdW n g) {i : Nat} (hi : i < n) : 0 ≤ (gWd g i).w ∧ (gWd g i).w ≤ 409600 := by
  have a := (hg.2 i hi).w0
  have b := (hg.2 i hi).t
  omega
/-- The line that begins with s, at its word i. -/
theorem next_pass {n : Nat} {g : Nat → Nat → Q} (hg : GdW n g) {w : Int} (hw2 : w ≤ 1000000000) {s i : Nat} (hs : s ≤ i) (hi : i < nextZ n g w s) (hn : s < n) :
    ∃ V, tkF g w (n - (s + 1)) (s + 1) (gWd g s).w = tkF g w (n - (i + 1)) (i + 1) V ∧ (gWd g i).w ≤ V ∧ V ≤ 1000000000 ∧ (s < i → (gWd g i).h = 0) := by
  have a := hg.w1 hn
  rcases Nat.lt_or_ge s i with hlt | hge
  · obtain ⟨V, e1, e2, e3, e4⟩ := tkF_pass hg hw2 i (n - (s + 1)) (s + 1) (gWd g s).w (by omega) a.1 (by omega) hlt hi
    exact ⟨V, by rw [e1, show s + 1 + (n - (s + 1)) - (i + 1) = n - (i + 1) by omega], e2, by omega, fun _ => e4⟩
  · have : i = s := by omega
    subst this
    exact ⟨_, rfl, Int.le_refl _, by omega, fun h => by omega⟩
theorem nextZ_mono {n : Nat} {g : Nat → Nat → Q} (hg : GdW n g) {w m : Int} (hw : w ≤ m) (hw2 : w ≤ 1000000000) {i j : Nat} (hij : i ≤ j) (hj : j < nextZ n g w i) (hi : i < n) (hjn : j < n) : nextZ n g w i ≤ nextZ n g m j := by
  obtain ⟨V, e1, e2, e3, _⟩ := next_pass hg hw2 hij hj hi
  have a := hg.w1 hjn
  show (tkF g w (n - (i + 1)) (i + 1) (gWd g i).w).1 ≤ (tkF g m (n - (j + 1)) (j + 1) (gWd g j).w).1
  rw [e1]
  exact tkF_mono hg hw hw2 _ _ _ _ (by omega) a.1 e2 (by omega)
theorem empty_le {n : Nat} {g : Nat → Nat → Q} {i j : Nat} (hij : i ≤ j) (h : i < j → (gWd g j).h = 0) : emptyN g j ≤ emptyN g i := by
  rcases Nat.lt_or_ge i j with hlt | hge
  · have hk : kBo j = 1 := by
      have : decide ((j : Int) > 0) = true := decide_eq_true (by omega)
      unfold kBo; rw [this]; rfl
    show ((gWd g j).h - kBo j).toNat ≤ _
    rw [hk, h hlt]; exact Nat.zero_le _
  · have : i = j := by omega
    subst this; exact Nat.le_refl _
theorem lines_len (n : Nat) (g : Nat → Nat → Q) (w : Int) {f i : Nat} (hi : i < n) : (linesF n g w (f + 1) i).length = emptyN g i + 1 + (linesF n g w f (nextZ n g w i)).length := by
  rw [linesF, if_pos hi, List.length_append, List.length_cons, List.length_replicate]; omega
/-- With more width there are no more lines. -/
theorem lines_mono {n : Nat} {g : Nat → Nat → Q} (hg : GdW n g) {w m : Int} (hw : w ≤ m) (hw2 : w ≤ 1000000000) : ∀ f i f' j, i ≤ j → j ≤ n → n ≤ f + i → n ≤ f' + j → (linesF n g m f' j).length ≤ (linesF n g w f i).length
  | 0, i, f', j, hij, hj, hf, hf' => by rw [linesF_end n g m (by omega)]; exact Nat.zero_le _
  | f + 1, i, f', j, hij, hj, hf, hf' => by
    rcases Nat.lt_or_ge j n with hjn | hge
    · have hi : i < n := by omega
      rw [lines_len n g w hi]
      have z1 := nextZ_gt n g w i
      have z2 := nextZ_le (g := g) (w := w) hi
      rcases Nat.lt_or_ge j (nextZ n g w i) with h1 | h1
      · obtain ⟨f', rfl⟩ : ∃ k, f' = k + 1 := ⟨f' - 1, by omega⟩
        rw [lines_len n g m hjn]
        have y1 := nextZ_gt n g m j
        have y2 := nextZ_le (g := g) (w := m) hjn
        have hm := nextZ_mono hg hw hw2 hij h1 hi hjn
        obtain ⟨V, _, _, _, e4⟩ := next_pass hg hw2 hij h1 hi
        have he : emptyN g j ≤ emptyN g i := empty_le (n := n) hij e4
        have := lines_mono hg hw hw2 f (nextZ n g w i) f' (nextZ n g m j) hm y2 (by omega) (by omega)
        omega
      · have := lines_mono hg hw hw2 f (nextZ n g w i) f' j h1 hj (by omega) hf'
        omega
    · rw [linesF_end n g m hge]; exact Nat.zero_le _
theorem mem_lines {n : Nat} {g : Nat → Nat → Q} {w : Int} {x : Ln} : ∀ f i, x ∈ linesF n g w f i → ∃ k, k < n ∧ (x = ⟨k, k, 0⟩ ∨ x = nextL n g w k)
  | 0, i, h => by cases h
  | f + 1, i, h => by
    rw [linesF] at h
    split at h
    · rename_i hi
      rcases List.mem_append.1 h with h | h
      · exact ⟨i, hi, .inl (List.eq_of_mem_replicate h)⟩
      · rcases List.mem_cons.1 h with h | h
        · exact ⟨i, hi, .inr h⟩
        · exact mem_lines f _ h
    · cases h
/-- Each word lies in a line. -/
theorem word_in {n : Nat} {g : Nat → Nat → Q} {w : Int} {i : Nat} (hi : i < n) : ∀ f a, a ≤ i → n ≤ f + a → ∃ s, s ≤ i ∧ i < nextZ n g w s ∧ nextL n g w s ∈ linesF n g w f a
  | 0, a, h1, h2 => by omega
  | f + 1, a, h1, h2 => by
    have z1 := nextZ_gt n g w a
    rw [linesF, if_pos (show a < n by omega)]
    rcases Nat.lt_or_ge i (nextZ n g w a) with h | h
    · exact ⟨a, h1, h, List.mem_append_right _ List.mem_cons_self⟩
    · obtain ⟨s, e1, e2, e3⟩ := word_in hi f (nextZ n g w a) h (by omega)
      exact ⟨s, e1, e2, List.mem_append_right _ (List.mem_cons_of_mem _ e3)⟩
/-- All lines fit just if all words do. -/
theorem fits_iff {n : Nat} {g : Nat → Nat → Q} (hg : GdW n g) {w : Int} (hw0 : 0 ≤ w) (hw2 : w ≤ 1000000000) : (∀ i, i < n → (gWd g i).w ≤ w) ↔ ∀ x ∈ breakL n g w, x.w ≤ w := by
  constructor
  · intro h x hx
    obtain ⟨k, hk, rfl | rfl⟩ := mem_lines _ _ hx
    · exact hw0
    · refine Int.not_lt.1 fun hlt => ?_
      have := tkF_wide g w (n - (k + 1)) (k + 1) (gWd g k).w hlt
      have e : (nextL n g w k).w = (gWd g k).w := by show (tkF g w (n - (k + 1)) (k + 1) (gWd g k).w).2 = _; rw [this]
      have := h k hk
      omega
  · intro h i hi
    obtain ⟨s, e1, e2, e3⟩ := word_in (g := g) (w := w) hi n 0 (Nat.zero_le _) (by omega)
    have hs : s < n := by omega
    obtain ⟨V, f1, f2, f3, _⟩ := next_pass hg hw2 e1 e2 hs
    have a := hg.w1 hi
    have := tkF_vge hg hw2 (n - (i + 1)) (i + 1) V (by omega) (by omega) (by omega)
    rw [← f1] at this
    have h2 : (tkF g w (n - (s + 1)) (s + 1) (gWd g s).w).2 ≤ w := h _ e3
    omega
theorem overL_nil (g : Nat → Nat → Q) (w : Int) : ∀ n, (overL g w n).length = 0 ↔ ∀ i, i < n → (gLn g i).w ≤ w
  | 0 => by simp [overL]
  | n + 1 => by
    rw [overL]
    by_cases h : (gLn g n).w > w
    · rw [decide_eq_true h]
      simp only [cond_true, List.length_append, List.length_singleton]
      refine ⟨fun h' => by omega, fun h' => absurd (h' n (by omega)) (Int.not_le.2 h)⟩
    · rw [decide_eq_false h]
      simp only [cond_false]
      rw [overL_nil g w n]
      refine ⟨fun h' i hi => ?_, fun h' i hi => h' i (by omega)⟩
      rcases Nat.lt_or_ge i n with h1 | h1
      · exact h' i h1
      · rw [show i = n by omega]; exact Int.not_lt.1 h
theorem over_mem (L : List Ln) (w : Int) : (overL (gOf lnQ L) w L.length).length = 0 ↔ ∀ x ∈ L, x.w ≤ w := by
  rw [overL_nil]
  constructor
  · intro h x hx
    obtain ⟨i, hi, rfl⟩ := List.mem_iff_getElem.1 hx
    have := h i hi
    rwa [gLn_of hi] at this
  · intro h i hi
    rw [gLn_of hi]
    exact h _ (List.getElem_mem hi)
theorem maxW_le (g : Nat → Nat → Q) (a w : Int) : ∀ n, maxW g a n ≤ w ↔ a ≤ w ∧ ∀ i, i < n → (gWd g i).w ≤ w
  | 0 => by simp [maxW]
  | n + 1 => by
    rw [maxW, mx2_eq]
    have := maxW_le g a w n
    constructor
    · intro h
      obtain ⟨h1, h2⟩ := this.1 (by omega)
      refine ⟨h1, fun i hi => ?_⟩
      rcases Nat.lt_or_ge i n with h3 | h3
      · exact h2 i h3
      · rw [show i = n by omega]; omega
    · intro h
      have h1 := this.2 ⟨h.1, fun i hi => h.2 i (by omega)⟩
      have h2 := h.2 n (by omega)
      omega
theorem least_iff {n : Nat} {g : Nat → Nat → Q} {w : Int} (hw0 : 0 ≤ w) : leastW n g ≤ w ↔ ∀ i, i < n → (gWd g i).w ≤ w := by
  unfold leastW
  cases n with
  | zero => exact ⟨fun _ i hi => by omega, fun _ => hw0⟩
  | succ n =>
    rw [show ((((n + 1 : Nat) : Int)) == 0) = false by simp; omega]
    show maxW g (gWd g 0).w (n + 1) ≤ w ↔ _
    rw [maxW_le]
    exact ⟨fun h => h.2, fun h => ⟨h 0 (by omega), h⟩⟩
end Go.Proofs.YthmlbmambcigcaaGreatDoor

/- errors.As at rect's own kind of error: what told says of it. -/
namespace Go.Proofs.YthmlbmambcigcaaGreatDoor.AsRect
open Go Go.RowKit Go.Extern.Stop Go.Stop Go.Extern
set_option linter.unusedVariables false
set_option linter.unusedSimpArgs false

abbrev R : Nat := 193
abbrev E : Nat := 134
abbrev PE : Nat := 135
abbrev VT : Nat := 147
abbrev ER : Nat := 70
abbrev hd (t : Nat) : Value := .pointer (some ⟨3, t, none⟩)

theorem valueOfP (t : Addr) (w : World) : (ReflectliteValue.unpack (.iface PE (.pointer (some t)))).run Tryz.prog w
    = .ok (.agg #[hd PE, .pointer (some ⟨w.heap.size, 0, none⟩), .int .u64 150]) (w.alloc (.cells #[.pointer (some t)] PE)) := by kernel_rfl
theorem typeP (a : Addr) (w : World) : (ReflectliteValue.methodAny (ReflectliteValue.valueError "reflectlite.Value.Type" 0) (fun t _ _ _ => ReflectliteType.toType t) #[.agg #[hd PE, .pointer (some a), .int .u64 150]]).run Tryz.prog w
    = .ok (.iface R (.agg #[hd PE])) w := by kernel_rfl
theorem methodKind (d : Nat) (h : Value) (w : World) : (Go.method (d + 60) R (.agg #[h]) "Kind").run Tryz.prog w = .ok (149, h) w := by kernel_rfl
theorem kindP (w : World) : ((ReflectliteType.abiMethod fun t => (fun a : Nat => Value.int IntKind.u8 (a : Int)) <$> Rtype.kind t) #[hd PE]).run Tryz.prog w = .ok (.int .u8 22) w := by kernel_rfl
theorem kindE (w : World) : ((ReflectliteType.abiMethod fun t => (fun a : Nat => Value.int IntKind.u8 (a : Int)) <$> Rtype.kind t) #[hd E]).run Tryz.prog w = .ok (.int .u8 25) w := by kernel_rfl
theorem rlm (z : Sem Value) (f : TypeId → Addr → Nat → Nat → Sem Value) (v : Value) :
    ReflectliteValue.method z f #[v] = (do match ← ReflectliteValue.parts v with | none => z | some (t, a, fl) => f t a fl (fl % 32)) := rfl
theorem partsP (a : Addr) (w : World) : (ReflectliteValue.parts (.agg #[hd PE, .pointer (some a), .int .u64 150])).run Tryz.prog w = .ok (some (PE, a, 150)) w := by kernel_rfl
theorem undP : Tryz.prog.underlying PE = some (.pointer E) := by kernel_rfl
theorem isNilP (a p : Addr) (W : World) (ha : W.cell? a = some (.pointer (some p))) :
    (ReflectliteValue.method (ReflectliteValue.valueError "reflectlite.Value.IsNil" 0) ReflectliteValue.isNil #[.agg #[hd PE, .pointer (some a), .int .u64 150]]).run Tryz.prog W = .ok (.bool false) W := by
  rw [rlm]
  simp only [Sem.run_bind, partsP, Result.andThen]
  simp [ReflectliteValue.isNil, loadVar, isAgg, underlying, undP, ha, Result.andThen]
theorem methodElem (d : Nat) (h : Value) (w : World) : (Go.method (d + 60) R (.agg #[h]) "Elem").run Tryz.prog w = .ok (163, .agg #[h]) w := by kernel_rfl
theorem methodImplements (d : Nat) (h : Value) (w : World) : (Go.method (d + 60) R (.agg #[h]) "Implements").run Tryz.prog w = .ok (164, .agg #[h]) w := by kernel_rfl
theorem methodAssignableTo (d : Nat) (h : Value) (w : World) : (Go.method (d + 60) R (.agg #[h]) "AssignableTo").run Tryz.prog w = .ok (161, .agg #[h]) w := by kernel_rfl
theorem elemT (w : World) : (ReflectliteType.method ReflectliteType.elem #[.agg #[hd PE]]).run Tryz.prog w = .ok (.iface R (.agg #[hd E])) w := by kernel_rfl
theorem implE (w : World) : (ReflectliteType.relation "Implements" ReflectliteType.implements_ #[.agg #[hd E], .iface R (.agg #[hd ER])]).run Tryz.prog w = .ok (.bool true) w := by kernel_rfl
theorem typeOfE (v : Value) (w : World) : (ReflectliteType.typeOf #[.iface E v]).run Tryz.prog w = .ok (.iface R (.agg #[hd E])) w := by kernel_rfl
theorem assignE (w : World) : (ReflectliteType.relation "AssignableTo" ReflectliteType.assignableTo #[.agg #[hd E], .iface R (.agg #[hd E])]).run Tryz.prog w = .ok (.bool true) w := by kernel_rfl
theorem valueOfE (e : Int) (w : World) : (ReflectliteValue.unpack (.iface E (.agg #[.int .i64 e]))).run Tryz.prog w
    = .ok (.agg #[hd E, .pointer (some ⟨w.heap.size, 0, none⟩), .int .u64 153]) (w.alloc (.cells #[.int .i64 e] E)) := by kernel_rfl
theorem elemOfP (w : World) : (Rtype.elem? PE).run Tryz.prog w = .ok (some E) w := by kernel_rfl
theorem mkE (p : Addr) (w : World) : (ReflectliteValue.mk E p ReflectliteValue.flagAddr).run Tryz.prog w = .ok (.agg #[hd E, .pointer (some p), .int .u64 409]) w := by kernel_rfl
theorem elemV (a p : Addr) (W : World) (ha : W.cell? a = some (.pointer (some p))) :
    (ReflectliteValue.method (ReflectliteValue.valueError "reflectlite.Value.Elem" 0) ReflectliteValue.elem #[.agg #[hd PE, .pointer (some a), .int .u64 150]]).run Tryz.prog W
      = .ok (.agg #[hd E, .pointer (some p), .int .u64 409]) W := by
  rw [rlm]
  simp only [Sem.run_bind, partsP, Result.andThen]
  simp [ReflectliteValue.elem, loadVar, isAgg, underlying, undP, ha, Result.andThen, elemOfP, mkE]
theorem rls (v x : Value) : ReflectliteValue.set #[v, x] = (do
    let (some (dst, a, fl), some (src, b, _)) := (← ReflectliteValue.parts v, ← ReflectliteValue.parts x)
      | unsupported (.noEntry "extern/(internal/reflectlite.Value).Set.zeroValue")
    if fl / ReflectliteValue.flagAddr % 2 == 0 then unsupported (.noEntry "extern/(internal/reflectlite.Value).Set.unaddressable")
    let val ← loadVar src b
    if ← Rtype.directlyAssignable dst src then storeVar dst a val
    else if ← Rtype.implements dst src then
      if (← Rtype.kind src) == 20 then
        match val with
        | .nilIface => unsupported (.noEntry "extern/reflectlite: a nil value of one interface type handed on as a value of another")
        | _ => storeVar dst a val
      else storeVar dst a (.iface src val)
    else panicString ("reflectlite.Set: value of type " ++ (← Rtype.spelt src) ++ " is not assignable to type " ++ (← Rtype.spelt dst))
    pure (.tuple #[])) := rfl
theorem partsEa (a : Addr) (w : World) : (ReflectliteValue.parts (.agg #[hd E, .pointer (some a), .int .u64 409])).run Tryz.prog w = .ok (some (E, a, 409)) w := by kernel_rfl
theorem partsE (a : Addr) (w : World) : (ReflectliteValue.parts (.agg #[hd E, .pointer (some a), .int .u64 153])).run Tryz.prog w = .ok (some (E, a, 153)) w := by kernel_rfl
theorem directE (w : World) : (Rtype.directlyAssignable E E).run Tryz.prog w = .ok true w := by kernel_rfl
theorem sizeE (w : World) : (sizeOf E).run Tryz.prog w = .ok 1 w := by kernel_rfl
theorem undE : (Tryz.prog.underlying E).map (fun d => match d with | .struct _ => true | _ => false) = some true := by kernel_rfl
theorem isAggE (w : World) : (isAgg E).run Tryz.prog w = .ok true w := by kernel_rfl
theorem loadE (b : Nat) (e : Int) (W : World) (hb : W.cell? ⟨b, 0, none⟩ = some (.int .i64 e)) : (loadVar E ⟨b, 0, none⟩).run Tryz.prog W = .ok (.agg #[.int .i64 e]) W := by
  simp [loadVar, isAggE, sizeE, Result.andThen, loadCells, loadCellsFrom, Addr.add, hb]
/-- (Value).Set: the variable at 'ta' gets what the Value's own variable 'b' holds. -/
theorem setE (ta b : Nat) (e : Int) (old : Value) (W : World) (hb : W.cell? ⟨b, 0, none⟩ = some (.int .i64 e)) (ht : W.cell? ⟨ta, 0, none⟩ = some old) (hf : W.frozen? ⟨ta, 0, none⟩ = false) :
    (ReflectliteValue.set #[.agg #[hd E, .pointer (some ⟨ta, 0, none⟩), .int .u64 409], .agg #[hd E, .pointer (some ⟨b, 0, none⟩), .int .u64 153]]).run Tryz.prog W
      = .ok (.tuple #[]) (W.setCell ⟨ta, 0, none⟩ (.int .i64 e)) := by
  rw [rls]
  simp only [Sem.run_bind, partsEa, partsE, Result.andThen]
  simp [ReflectliteValue.flagAddr, loadE _ _ _ hb, Result.andThen, directE, storeVar, Value.cells, storeCells, Addr.add, sizeE]
  rw [run_store Tryz.prog W ⟨ta, 0, none⟩ _ _ (by rfl)]
  simp [ht, hf]

theorem as_nil (t : Value) (w : World) :
    Calls Tryz.prog 54 #[.nilIface, t] w fun e w' => e = .returned (.bool false) ∧ w' = w := by
  go_enter Tryz.func54, Tryz.ntmps54
  go_wp2
  go_ret
  exact ⟨rfl, rfl⟩

set_option maxHeartbeats 4000000 in
theorem as_hit (e : Int) (tb : Nat) (old : Value) (w : World) (hg : w.cell? ⟨2, 0, none⟩ = some (.iface R (.agg #[hd ER]))) (ht0 : w.cell? ⟨tb, 0, none⟩ = some old) (hf0 : w.frozen? ⟨tb, 0, none⟩ = false) :
    Calls Tryz.prog 54 #[.iface E (.agg #[.int .i64 e]), .iface PE (.pointer (some ⟨tb, 0, none⟩))] w fun ev w' => ev = .returned (.bool true) ∧ w' = ((((w.alloc (.cells #[.pointer (some ⟨tb, 0, none⟩)] PE)).alloc (.cells #[hd PE, .pointer (some ⟨w.heap.size, 0, none⟩), .int .u64 150] VT)).alloc (.cells #[hd PE, .pointer (some ⟨w.heap.size, 0, none⟩), .int .u64 150] VT)).alloc (.cells #[.int .i64 e] E)).setCell ⟨tb, 0, none⟩ (.int .i64 e) := by
  have h6 := @run_callFunc_extern Tryz.prog 75 _ (fun args => ReflectliteValue.unpack (args.getD 0 (.tuple #[]))) Tryz.func75 (by kernel_rfl) (by kernel_rfl) (by kernel_rfl) (by kernel_rfl)
  have h7 := @run_callFunc_extern Tryz.prog 76 _ (ReflectliteValue.methodAny (ReflectliteValue.valueError "reflectlite.Value.Type" 0) (fun t _ _ _ => ReflectliteType.toType t)) Tryz.func76 (by kernel_rfl) (by kernel_rfl) (by kernel_rfl) (by kernel_rfl)
  have h8 := @run_callFunc_extern Tryz.prog 77 _ (ReflectliteValue.method (ReflectliteValue.valueError "reflectlite.Value.IsNil" 0) ReflectliteValue.isNil) Tryz.func77 (by kernel_rfl) (by kernel_rfl) (by kernel_rfl) (by kernel_rfl)
  have h27 := @run_callFunc_extern Tryz.prog 149 _ (ReflectliteType.abiMethod fun t => do pure (.int .u8 (← Rtype.kind t))) Tryz.func149 (by kernel_rfl) (by kernel_rfl) (by kernel_rfl) (by kernel_rfl)
  have h37 := @run_callFunc_extern Tryz.prog 163 _ (ReflectliteType.method ReflectliteType.elem) Tryz.func163 (by kernel_rfl) (by kernel_rfl) (by kernel_rfl) (by kernel_rfl)
  have h38 := @run_callFunc_extern Tryz.prog 164 _ (ReflectliteType.relation "Implements" ReflectliteType.implements_) Tryz.func164 (by kernel_rfl) (by kernel_rfl) (by kernel_rfl) (by kernel_rfl)
  have h10 := @run_callFunc_extern Tryz.prog 93 _ ReflectliteType.typeOf Tryz.func93 (by kernel_rfl) (by kernel_rfl) (by kernel_rfl) (by kernel_rfl)
  have h35 := @run_callFunc_extern Tryz.prog 161 _ (ReflectliteType.relation "AssignableTo" ReflectliteType.assignableTo) Tryz.func161 (by kernel_rfl) (by kernel_rfl) (by kernel_rfl) (by kernel_rfl)
  have h11 := @run_callFunc_extern Tryz.prog 98 _ (ReflectliteValue.method (ReflectliteValue.valueError "reflectlite.Value.Elem" 0) ReflectliteValue.elem) Tryz.func98 (by kernel_rfl) (by kernel_rfl) (by kernel_rfl) (by kernel_rfl)
  have h12 := @run_callFunc_extern Tryz.prog 99 _ ReflectliteValue.set Tryz.func99 (by kernel_rfl) (by kernel_rfl) (by kernel_rfl) (by kernel_rfl)
  have tO := typeOfE
  have mA := methodAssignableTo
  have a25 := assignE
  have v25 := valueOfE
  have f6 := valueOfP
  have f7 := typeP
  have mK := methodKind
  have mE := methodElem
  have mI := methodImplements
  have k27 := kindP
  have k25 := kindE
  have e27 := elemT
  have i25 := implE
  simp only [E, PE, R, VT, ER, hd] at *
  have n8 := isNilP ⟨w.heap.size, 0, none⟩ ⟨tb, 0, none⟩ ((w.alloc (.cells #[.pointer (some ⟨tb, 0, none⟩)] PE)).alloc (.cells #[hd PE, .pointer (some ⟨w.heap.size, 0, none⟩), .int .u64 150] VT)) (by simp)
  have hlt : 2 < w.heap.size := by
    rcases Nat.lt_or_ge 2 w.heap.size with h | h
    · exact h
    · simp [World.cell?, Array.getElem?_eq_none h] at hg
  have hg2 : ((w.alloc (.cells #[.pointer (some ⟨tb, 0, none⟩)] PE)).alloc (.cells #[hd PE, .pointer (some ⟨w.heap.size, 0, none⟩), .int .u64 150] VT)).cell? ⟨2, 0, none⟩ = some (.iface R (.agg #[hd ER])) := by
    rw [World.cell?_alloc_lt _ _ ⟨2, 0, none⟩ (by simp only [World.size_alloc]; omega), World.cell?_alloc_lt _ _ ⟨2, 0, none⟩ hlt]; exact hg
  have htl : tb < w.heap.size := by
    rcases Nat.lt_or_ge tb w.heap.size with h | h
    · exact h
    · simp [World.cell?, Array.getElem?_eq_none h] at ht0
  have el := elemV ⟨w.heap.size, 0, none⟩ ⟨tb, 0, none⟩ (((w.alloc (.cells #[.pointer (some ⟨tb, 0, none⟩)] PE)).alloc (.cells #[hd PE, .pointer (some ⟨w.heap.size, 0, none⟩), .int .u64 150] VT)).alloc (.cells #[hd PE, .pointer (some ⟨w.heap.size, 0, none⟩), .int .u64 150] VT)) (by rw [World.cell?_alloc_lt _ _ ⟨w.heap.size, 0, none⟩ (by simp only [World.size_alloc]; omega)]; simp)
  have st := setE tb (w.heap.size + 1 + 1 + 1) e old ((((w.alloc (.cells #[.pointer (some ⟨tb, 0, none⟩)] PE)).alloc (.cells #[hd PE, .pointer (some ⟨w.heap.size, 0, none⟩), .int .u64 150] VT)).alloc (.cells #[hd PE, .pointer (some ⟨w.heap.size, 0, none⟩), .int .u64 150] VT)).alloc (.cells #[.int .i64 e] E))
    (by have := World.cell?_alloc_new (((w.alloc (.cells #[.pointer (some ⟨tb, 0, none⟩)] PE)).alloc (.cells #[hd PE, .pointer (some ⟨w.heap.size, 0, none⟩), .int .u64 150] VT)).alloc (.cells #[hd PE, .pointer (some ⟨w.heap.size, 0, none⟩), .int .u64 150] VT)) #[.int .i64 e] E 0; simpa using this)
    (by rw [World.cell?_alloc_lt _ _ ⟨tb, 0, none⟩ (by simp only [World.size_alloc]; omega), World.cell?_alloc_lt _ _ ⟨tb, 0, none⟩ (by simp only [World.size_alloc]; omega), World.cell?_alloc_lt _ _ ⟨tb, 0, none⟩ (by simp only [World.size_alloc]; omega), World.cell?_alloc_lt _ _ ⟨tb, 0, none⟩ htl]; exact ht0)
    (by rw [World.frozen?_alloc_old _ _ ⟨tb, 0, none⟩ (by simp only [World.size_alloc]; omega), World.frozen?_alloc_old _ _ ⟨tb, 0, none⟩ (by simp only [World.size_alloc]; omega), World.frozen?_alloc_old _ _ ⟨tb, 0, none⟩ (by simp only [World.size_alloc]; omega), World.frozen?_alloc_old _ _ ⟨tb, 0, none⟩ (Nat.ne_of_lt htl)]; exact hf0)
  simp only [E, PE, R, VT, ER, hd] at *
  go_enter Tryz.func54, Tryz.ntmps54
  go_wp2
  refine wp_loop_rounds 1 ?_
  rw [rounds_succ]
  go_wp2
  go_ret
  exact ⟨rfl, rfl⟩

end Go.Proofs.YthmlbmambcigcaaGreatDoor.AsRect

/- What rect's told says of an error, as a contract. -/
namespace Go.Proofs.YthmlbmambcigcaaGreatDoor.AsRect
open Go Go.SX Go.RowKit Go.Extern.Stop Go.Stop Go.Extern
variable [EA]
set_option linter.unusedVariables false
set_option linter.unusedSectionVars false
set_option linter.unusedSimpArgs false

/-- told at a refusal: its reason. -/
theorem told_hit (e : Int) (w : World) (hg : w.cell? ⟨2, 0, none⟩ = some (.iface R (.agg #[hd ER]))) :
    Calls Tryz.prog 47 #[.iface E (.agg #[.int .i64 e])] w fun ev w' => ev = .returned (.int .i64 e) ∧ Below w.heap.size w w' := by
  have hlt : 2 < w.heap.size := by
    rcases Nat.lt_or_ge 2 w.heap.size with h | h
    · exact h
    · simp [World.cell?, Array.getElem?_eq_none h] at hg
  have hgA : (w.alloc (.cells #[.int .i64 0] E)).cell? ⟨2, 0, none⟩ = some (.iface R (.agg #[hd ER])) := by
    rw [World.cell?_alloc_lt _ _ ⟨2, 0, none⟩ hlt]; exact hg
  have htA : (w.alloc (.cells #[.int .i64 0] E)).cell? ⟨w.heap.size, 0, none⟩ = some (.int .i64 0) := by simp
  have hfA : (w.alloc (.cells #[.int .i64 0] E)).frozen? ⟨w.heap.size, 0, none⟩ = false := by simp
  have hB : Below w.heap.size w (((((w.alloc (.cells #[.int .i64 e] E)).alloc (.cells #[.pointer (some ⟨w.heap.size, 0, none⟩)] PE)).alloc (.cells #[hd PE, .pointer (some ⟨w.heap.size + 1, 0, none⟩), .int .u64 150] VT)).alloc (.cells #[hd PE, .pointer (some ⟨w.heap.size + 1, 0, none⟩), .int .u64 150] VT)).alloc (.cells #[.int .i64 e] E)) :=
    (((((Below.refl _ _).alloc (by simp) _).alloc (by simp) _).alloc (by simp only [World.size_alloc]; omega) _).alloc (by simp only [World.size_alloc]; omega) _).alloc (by simp only [World.size_alloc]; omega) _
  go_enter Tryz.func47, Tryz.ntmps47
  go_wp2_with (first | (go_at_call 54; refine (as_hit e _ (.int .i64 0) _ hgA htA hfA).mono ?_; rintro e w' ⟨rfl, rfl⟩))
  go_ret
  exact ⟨rfl, hB⟩

theorem told_nil (w : World) : Calls Tryz.prog 47 #[.nilIface] w fun ev w' => ev = .returned (.int .i64 0) ∧ Below w.heap.size w w' := by
  have hB : Below w.heap.size w (w.alloc (.cells #[.int .i64 0] E)) := (Below.refl _ _).alloc (Nat.le_refl _) _
  go_enter Tryz.func47, Tryz.ntmps47
  go_wp2_with (first | (go_at_call 54; refine (as_nil _ _).mono ?_; rintro e w' ⟨rfl, rfl⟩))
  go_ret
  exact ⟨rfl, hB⟩

/-- The reason that an error tells. -/
def errOf : Value → Option Int
  | .nilIface => some 0
  | .iface t v => if t = E then match v with
    | .agg a => match a.toList with
      | [.int .i64 e] => some e
      | _ => none
    | _ => none
    else none
  | _ => none

def told.s : List V → T V
  | [.q (.c v)] => match errOf v with
    | some e => .leaf (V.i e)
    | none => .bad
  | _ => .bad

theorem told.ok : SpecOK Tryz.prog 47 told.s := by
  refine ⟨by kernel_rfl, fun S w args vals r hS hg _ hd hr => ?_⟩
  unfold told.s at hr
  split at hr
  · rename_i v0
    cases hd with
    | cons x v l us hx hl =>
      cases hl
      cases hx with
      | q _ _ hq =>
        cases hq
        unfold errOf at hr
        split at hr
        · rename_i e he
          cases hr
          split at he
          · cases he
            exact (told_nil w).mono fun ev w' ⟨h1, h2⟩ => ⟨_, h1, h2, .q _ _ (.c _)⟩
          · split at he
            · rename_i ht
              subst ht
              split at he
              · rename_i arr
                split at he
                · rename_i arr2 e' ha
                  have : arr = #[.int .i64 e'] := Array.ext' ha
                  subst this
                  cases he
                  refine (told_hit _ w ?_).mono fun ev w' ⟨h1, h2⟩ => ⟨_, h1, h2, .q _ _ (.c _)⟩
                  exact hg _ gl_et
                · cases he
              · cases he
            · cases he
          · cases he
        · cases hr
  · cases hr
end Go.Proofs.YthmlbmambcigcaaGreatDoor.AsRect

/- The functions of rect, one by one: those without loops ahead. -/
namespace Go.Proofs.YthmlbmambcigcaaGreatDoor
open Go Go.SX Go.Proofs
set_option maxRecDepth 100000
variable [EA]
set_option linter.unusedVariables false
set_option linter.unusedSectionVars false
set_option linter.unusedSimpArgs false

/-- A rectangle. -/
structure Rc where
  x : Int
  y : Int
  w : Int
  h : Int

abbrev rv (r : Rc) : V := .agg [V.i r.x, V.i r.y, V.i r.w, V.i r.h]
def isLen (a : Int) : Bool := bif decide (a ≥ -1073741824) then decide (a ≤ 1073741824) else false

def unit_Right.s : List V → T V
  | [.q (.c (.int .i64 a))] => .leaf (V.b (isLen a))
  | _ => .bad
theorem unit_Right.ok : SpecOK Tryz.prog 104 unit_Right.s := by
  refine specOK_of_body (GOK.nil _) (LamOK.nil _ _) Tryz.func104 (isBody _ (by kernel_rfl)) (by kernel_rfl) fun args r h => ?_
  unfold unit_Right.s at h
  split at h
  · rename_i a
    have e : funV Tryz.prog [] [] Tryz.f104 (cod Tryz.f104) [V.i a] = .leaf (V.b (isLen a)) := by kernel_rfl
    rw [e]; exact h
  · cases h

def isSide (a s : Int) : Bool := bif isLen a then (bif decide (s ≥ 0) then (bif decide (s ≤ 2147483648) then isLen (w64 (a + s)) else false) else false) else false
def rect_isSide.s : List V → T V
  | [.q (.c (.int .i64 a)), .q (.c (.int .i64 s))] => .leaf (V.b (isSide a s))
  | _ => .bad
theorem rect_isSide.ok : SpecOK Tryz.prog 95 rect_isSide.s := by
  refine specOK_of_body (.cons unit_Right.ok (GOK.nil _)) (LamOK.nil _ _) Tryz.func95 (isBody _ (by kernel_rfl)) (by kernel_rfl) fun args r h => ?_
  unfold rect_isSide.s at h
  split at h
  · rename_i a s
    have e : funV Tryz.prog [(104, unit_Right.s)] [] Tryz.f95 (cod Tryz.f95) [V.i a, V.i s] = .leaf (V.b (isSide a s)) := by kernel_rfl
    rw [e]; exact h
  · cases h

/-- A function of one rectangle. -/
def spR (F : Rc → T V) : List V → T V
  | [.agg [.q (.c (.int .i64 x)), .q (.c (.int .i64 y)), .q (.c (.int .i64 w)), .q (.c (.int .i64 h))]] => F ⟨x, y, w, h⟩
  | _ => .bad
def spRR (F : Rc → Rc → T V) : List V → T V
  | [.agg [.q (.c (.int .i64 x)), .q (.c (.int .i64 y)), .q (.c (.int .i64 w)), .q (.c (.int .i64 h))], .agg [.q (.c (.int .i64 x')), .q (.c (.int .i64 y')), .q (.c (.int .i64 w')), .q (.c (.int .i64 h'))]] => F ⟨x, y, w, h⟩ ⟨x', y', w', h'⟩
  | _ => .bad
def spRII (F : Rc → Int → Int → T V) : List V → T V
  | [.agg [.q (.c (.int .i64 x)), .q (.c (.int .i64 y)), .q (.c (.int .i64 w)), .q (.c (.int .i64 h))], .q (.c (.int .i64 a)), .q (.c (.int .i64 b))] => F ⟨x, y, w, h⟩ a b
  | _ => .bad
abbrev ks4 : List K := [.int .i64, .int .i64, .int .i64, .int .i64]
/-- A function of a list of rectangles. -/
def spL (F : Nat → (Nat → Nat → Q) → T V) : List V → T V
  | [.q (.lst [.int .i64, .int .i64, .int .i64, .int .i64] n g)] => F n g
  | [.q (.c (.slice none 0 0))] => F 0 (fun _ _ => default)
  | _ => .bad

section
variable {P : Program} [GW] {Γ : Gam} {f : Nat} {fn : Func}

theorem okR {F : Rc → T V} {G : Rc → T V} (hΓ : GOK P Γ) (hf : P.funcs[f]? = some fn) (hb : fn.body.isSome = true) (hent : entersB P f = true)
    (h : ∀ r, funV P Γ [] fn (cod fn) [rv r] = G r) (hG : ∀ r v, (F r).pick = some v → (G r).pick = some v) : SpecOK P f (spR F) := by
  refine specOK_of_body hΓ (LamOK.nil _ _) hf (isBody _ hb) hent fun args r he => ?_
  unfold spR at he
  split at he
  · rename_i x y w hh
    have := h ⟨x, y, w, hh⟩
    rw [this]; exact hG _ _ he
  · cases he

theorem okRR {F : Rc → Rc → T V} {G : Rc → Rc → T V} (hΓ : GOK P Γ) (hf : P.funcs[f]? = some fn) (hb : fn.body.isSome = true) (hent : entersB P f = true)
    (h : ∀ r r', funV P Γ [] fn (cod fn) [rv r, rv r'] = G r r') (hG : ∀ r r' v, (F r r').pick = some v → (G r r').pick = some v) : SpecOK P f (spRR F) := by
  refine specOK_of_body hΓ (LamOK.nil _ _) hf (isBody _ hb) hent fun args r he => ?_
  unfold spRR at he
  split at he
  · rename_i x y w hh x' y' w' hh'
    have := h ⟨x, y, w, hh⟩ ⟨x', y', w', hh'⟩
    rw [this]; exact hG _ _ _ he
  · cases he

theorem okRII {F : Rc → Int → Int → T V} {G : Rc → Int → Int → T V} (hΓ : GOK P Γ) (hf : P.funcs[f]? = some fn) (hb : fn.body.isSome = true) (hent : entersB P f = true)
    (h : ∀ r a b, funV P Γ [] fn (cod fn) [rv r, V.i a, V.i b] = G r a b) (hG : ∀ r a b v, (F r a b).pick = some v → (G r a b).pick = some v) : SpecOK P f (spRII F) := by
  refine specOK_of_body hΓ (LamOK.nil _ _) hf (isBody _ hb) hent fun args r he => ?_
  unfold spRII at he
  split at he
  · rename_i x y w hh a b
    have := h ⟨x, y, w, hh⟩ a b
    rw [this]; exact hG _ _ _ _ he
  · cases he

theorem okL {F : Nat → (Nat → Nat → Q) → T V} (hΓ : GOK P Γ) (hf : P.funcs[f]? = some fn) (hb : fn.body.isSome = true) (hent : entersB P f = true)
    (h : ∀ n g v, QB (.lst ks4 n g) → (F n g).pick = some v → ∃ Λ, LamOK P (cod fn) Λ ∧ (funV P Γ Λ fn (cod fn) [.q (.lst ks4 n g)]).pick = some v) : SpecOK P f (spL F) := by
  refine specOK_of_bodyW hΓ hf (isBody _ hb) hent fun args r hb he => ?_
  unfold spL at he
  split at he
  · rename_i n g
    obtain ⟨Λ, h1, h2⟩ := h n g r (hb (.q (.lst ks4 n g)) (by simp)) he
    exact ⟨_, Λ, fun _ _ _ x => x, h1, h2⟩
  · obtain ⟨Λ, h1, h2⟩ := h 0 _ r ⟨Nat.zero_le _, fun i j hi => absurd hi (Nat.not_lt_zero _)⟩ he
    exact ⟨_, Λ, .nilL .nil, h1, h2⟩
  · cases he
end

def rightR (r : Rc) : Bool := bif isSide r.x r.w then isSide r.y r.h else false
abbrev rect_Right.s := spR fun r => .leaf (V.b (rightR r))
theorem rect_Right.ok : SpecOK Tryz.prog 67 rect_Right.s :=
  okR (.cons rect_isSide.ok (GOK.nil _)) Tryz.func67 (by kernel_rfl) (by kernel_rfl) (fun r => by kernel_rfl) (fun _ _ h => h)

abbrev rect_ends.s := spR fun r => .leaf (.agg [V.i (w64 (r.x + r.w)), V.i (w64 (r.y + r.h))])
theorem rect_ends.ok : SpecOK Tryz.prog 68 rect_ends.s :=
  okR (GOK.nil _) Tryz.func68 (by kernel_rfl) (by kernel_rfl) (fun r => by kernel_rfl) (fun _ _ h => h)

abbrev mW (a b : Rc) : Int := w64 (mn2 (w64 (a.x + a.w)) (w64 (b.x + b.w)) - mx2 a.x b.x)
abbrev mH (a b : Rc) : Int := w64 (mn2 (w64 (a.y + a.h)) (w64 (b.y + b.h)) - mx2 a.y b.y)
/-- Where two meet. -/
def mB (a b : Rc) : Bool := bif decide (mW a b > 0) then decide (mH a b > 0) else false
abbrev meetR (a b : Rc) : Rc := ⟨mx2 a.x b.x, mx2 a.y b.y, bif mB a b then mW a b else 0, bif mB a b then mH a b else 0⟩

def spSR (F : Rc → Rc → T V) : List V → T V
  | [.agg [.q (.c (.int .i64 x)), .q (.c (.int .i64 y)), .q (.c (.int .i64 w)), .q (.c (.int .i64 h)), .q l], .agg [.q (.c (.int .i64 x')), .q (.c (.int .i64 y')), .q (.c (.int .i64 w')), .q (.c (.int .i64 h'))]] => F ⟨x, y, w, h⟩ ⟨x', y', w', h'⟩
  | _ => .bad
abbrev rect_meet.s := spSR fun a b => .leaf (rv (meetR a b))
theorem rect_meet.ok : SpecOK Tryz.prog 48 rect_meet.s := by
  refine specOK_of_body (.cons rect_ends.ok (GOK.nil _)) (LamOK.nil _ _) Tryz.func48 (isBody _ (by kernel_rfl)) (by kernel_rfl) fun args r h => ?_
  unfold rect_meet.s spSR at h
  split at h
  · rename_i x y w hh l x' y' w' hh'
    have e : ∀ a b : Rc, funV Tryz.prog [(68, rect_ends.s)] [] Tryz.f48 (cod Tryz.f48) [.agg [V.i a.x, V.i a.y, V.i a.w, V.i a.h, .q l], rv b] =
        .ite (mB a b) (.leaf (rv ⟨mx2 a.x b.x, mx2 a.y b.y, mW a b, mH a b⟩)) (.leaf (rv ⟨mx2 a.x b.x, mx2 a.y b.y, 0, 0⟩)) := fun a b => by kernel_rfl
    have := e ⟨x, y, w, hh⟩ ⟨x', y', w', hh'⟩
    rw [this, ← h]
    simp only [T.pick, meetR]
    cases mB ⟨x, y, w, hh⟩ ⟨x', y', w', hh'⟩ <;> rfl
  · cases h

end Go.Proofs.YthmlbmambcigcaaGreatDoor

/- The functions of rect, one by one: are they right; what is met. -/
namespace Go.Proofs.YthmlbmambcigcaaGreatDoor
open Go Go.SX Go.Proofs
set_option maxRecDepth 100000
variable [EA]
set_option linter.unusedVariables false
set_option linter.unusedSectionVars false
set_option linter.unusedSimpArgs false

abbrev gRc (g : Nat → Nat → Q) (i : Nat) : Rc := ⟨qInt (g i 0), qInt (g i 1), qInt (g i 2), qInt (g i 3)⟩
def allR (n : Nat) (g : Nat → Nat → Q) : Bool := (List.range n).all fun i => rightR (gRc g i)
abbrev lst4 (n : Nat) (g : Nat → Nat → Q) : V := .q (.lst ks4 n g)
abbrev errV (n : Int) : V := .q (.c (.iface 134 (.agg #[.int .i64 n])))

theorem allR_false {n : Nat} {g : Nat → Nat → Q} {i : Nat} (hi : i < n) (h : rightR (gRc g i) = false) : allR n g = false := by
  rw [allR, List.all_eq_false]
  exact ⟨i, List.mem_range.2 hi, by rw [h]; simp⟩
theorem allR_true {n : Nat} {g : Nat → Nat → Q} (h : ∀ i, i < n → rightR (gRc g i) = true) : allR n g = true := by
  rw [allR, List.all_eq_true]
  exact fun i hi => h i (List.mem_range.1 hi)

/-! ### areRight -/
def SA (n : Nat) (g : Nat → Nat → Q) (i : Nat) : St := mkS 17 [(5, lst4 n g), (6, V.i n), (7, V.i i)] [] [] false [] 0
def RA (n : Nat) (g : Nat → Nat → Q) : Out := .ite (allR n g) (.leaf (.exit 0, mkS 17 [] [] [] false [] 0)) (.leaf (.ret, mkS 17 [(2, errV 20)] [] [] false [] 0))
def liveA : Ex → List Nat | .normal => [5, 6, 7] | .ret => [2] | _ => []
noncomputable abbrev bodyA : Code := loopAt Tryz.f46 [0, 1, 0, 1]

theorem stepA (n : Nat) (g : Nat → Nat → Q) (i : Nat) :
    (sx Tryz.prog [(67, rect_Right.s)] [] [0, 0, 1, 0, 1] bodyA (SA n g i)).bind (fun x => T.leaf (x.1, deadS [] (canS 17 0 (liveA x.1) x.2), chkM 17 0 x.2))
     = .ite (decide ((i : Int) < n))
        (.ite (decide (0 ≤ (i : Int) ∧ (i : Int) < n)) (.ite (!(rightR (gRc g i))) (.leaf (.ret, mkS 17 [(2, errV 20)] [] [] false [] 0, true)) (.leaf (.normal, mkS 17 [(5, lst4 n g), (6, V.i n), (7, V.i (w64 (i + 1)))] [] [] false [] 0, true))) .bad)
        (.leaf (.exit 0, mkS 17 [] [] [] false [] 0, true)) := by kernel_rfl

theorem loopA (n : Nat) (g : Nat → Nat → Q) (hn : n ≤ 9223372036854775807) : ∀ x, (RA n g).pick = some x → SemC Tryz.prog (.loop bodyA) (SA n g 0) x := by
  refine loop_tree (Γ := [(67, rect_Right.s)]) (.cons rect_Right.ok (GOK.nil _)) (root := cod Tryz.f46) (p := [0, 1, 0, 1]) (by kernel_rfl) (fun i => i ≤ n ∧ ∀ j, j < i → rightR (gRc g j) = true) (SA n g) (fun i => n - i) (RA n g) 17 0 liveA (fun _ => []) (fun i hi => ?_) 0 ⟨Nat.zero_le _, fun j hj => absurd hj (Nat.not_lt_zero _)⟩
  obtain ⟨hi, hall⟩ := hi
  have e := stepA n g i
  rcases Nat.lt_or_ge i n with hlt | hge
  · cases hr : rightR (gRc g i) with
    | false => exact ⟨[], .ret, _, LamOK.nil _ _, by rw [e, c_lt hlt, c_in hlt, hr]; rfl, .inr ⟨by simp, by rw [RA, allR_false hlt hr]; rfl⟩⟩
    | true =>
      refine ⟨[], .normal, _, LamOK.nil _ _, by rw [e, c_lt hlt, c_in hlt, hr]; rfl, .inl ⟨rfl, i + 1, ⟨hlt, fun j hj => ?_⟩, by omega, by rw [SA, w64_suc hlt hn]⟩⟩
      rcases Nat.lt_or_ge j i with h | h
      · exact hall j h
      · rw [show j = i by omega]; exact hr
  · refine ⟨[], .exit 0, _, LamOK.nil _ _, by rw [e, c_ge hge]; rfl, .inr ⟨by simp, by rw [RA, allR_true fun j hj => hall j (by omega)]; rfl⟩⟩

abbrev rect_areRight.s := spL fun n g => .ite (allR n g) (.leaf nilE) (.leaf (errV 20))
theorem rect_areRight.ok : SpecOK Tryz.prog 46 rect_areRight.s := by
  refine okL (Γ := [(67, rect_Right.s)]) (.cons rect_Right.ok (GOK.nil _)) Tryz.func46 (by kernel_rfl) (by kernel_rfl) fun n g v hb hv => ?_
  refine ⟨[([0, 1, 0, 1], orc false 17 0 [5, 6, 7] (SA n g 0) (RA n g))], LamOK.orc (c := .loop bodyA) (by kernel_rfl) (loopA n g hb.1) (LamOK.nil _ _), ?_⟩
  have e : funV Tryz.prog [(67, rect_Right.s)] [([0, 1, 0, 1], orc false 17 0 [5, 6, 7] (SA n g 0) (RA n g))] Tryz.f46 (cod Tryz.f46) [lst4 n g] =
      .ite (@decide (SA n g 0 = SA n g 0) (Classical.propDecidable _)) (.ite (allR n g) (.leaf nilE) (.leaf (errV 20))) .bad := by kernel_rfl
  rw [e, pick_same]; exact hv

/-! ### what is met -/
def meets1.s : List V → T (Nat × (Nat → List V))
  | [.q (.sp 5 get)] => match get 0, get 1, get 2, get 3, get 4 with
    | .c (.int .i64 x), .c (.int .i64 y), .c (.int .i64 w), .c (.int .i64 h), .lst [.int .i64, .int .i64, .int .i64, .int .i64] n g => .leaf (n, fun k => [rv (meetR ⟨x, y, w, h⟩ (gRc g k))])
    | _, _, _, _, _ => .bad
  | _ => .bad

abbrev spR5 (r : Rc) (n : Nat) (g : Nat → Nat → Q) : V := .q (.sp 5 fun j => [Q.c (.int .i64 r.x), .c (.int .i64 r.y), .c (.int .i64 r.w), .c (.int .i64 r.h), .lst ks4 n g].getD j default)
abbrev mx (r : Rc) (g : Nat → Nat → Q) (k : Nat) : List V := [rv (meetR r (gRc g k))]
def SM (go : List (List V) → Bool) (adm : List (List V) → List V → Bool) (r : Rc) (n : Nat) (g : Nat → Nat → Q) (ys : List (List V)) (i : Int) : St :=
  mkS 19 [(0, .yld 0), (1, spR5 r n g), (6, lst4 n g), (7, V.i n), (8, V.i i)] [some (.yl go adm)] [] false ys 0
def FM (go : List (List V) → Bool) (adm : List (List V) → List V → Bool) (ys : List (List V)) : Ex × St := (.exit 0, mkS 19 [] [some (.yl go adm)] [] false ys 0)
def liveM : Ex → List Nat | .normal => [0, 1, 6, 7, 8] | _ => []

end Go.Proofs.YthmlbmambcigcaaGreatDoor

/- The functions of rect, one by one: are all apart. -/
namespace Go.Proofs.YthmlbmambcigcaaGreatDoor
open Go Go.SX Go.Proofs
set_option maxRecDepth 100000
variable [EA]
set_option linter.unusedVariables false
set_option linter.unusedSectionVars false
set_option linter.unusedSimpArgs false

abbrev kvR (r : Rc) : Value := .agg #[.int .i64 r.x, .int .i64 r.y, .int .i64 r.w, .int .i64 r.h]
/-- What has been seen. -/
def esA (g : Nat → Nat → Q) : Nat → List (Value × List Q)
  | 0 => []
  | i + 1 => putE (kvR (gRc g i)) [.c (.bool true)] (esA g i)
def seenB (g : Nat → Nat → Q) (i : Nat) : Bool := qBool (((findE (kvR (gRc g i)) (esA g i)).getD [.c (.bool false)]).headD default)
def c30 (g : Nat → Nat → Q) (i : Nat) : Bool := bif seenB g i then (bif decide ((gRc g i).w > 0) then decide ((gRc g i).h > 0) else false) else false
abbrev cutN (i : Nat) : Nat := (i : Int).toNat - (0 : Int).toNat
def stopP (g : Nat → Nat → Q) (i k : Nat) : Bool := decide ((meetR (gRc g i) (gRc (gz g) k)).w > 0)
def anyM (g : Nat → Nat → Q) (i : Nat) : Bool := (List.range i).any fun k => stopP g i k

abbrev mapO' (es : List (Value × List Q)) : Option Ob := some (.map (.many ks4) false [.bool] es)
abbrev celB (v : V) : Option Ob := some (.cells 4 [v])
def SP (n : Nat) (g : Nat → Nat → Q) (i : Nat) : St :=
  mkS 45 [(0, lst4 n g), (2, .ptr 0 0), (3, .mp 1), (11, lst4 n g), (12, V.i n), (13, V.i i)] [celB (V.b false), mapO' (esA g i), some .dfr] [.mark 2] false [] 0
abbrev loF (g : Nat → Nat → Q) (i : Nat) (v : V) : List (Option Ob) := [celB v, mapO' (esA g (i + 1)), some .dfr]
abbrev pR : List Nat := [0, 1, 1, 1, 1, 0, 0, 1, 1, 0, 0, 1, 0, 1, 1, 1]
def ddP : Ex → List Nat | .normal => [] | _ => [1]
def liveP : Ex → List Nat | .normal => [0, 2, 3, 11, 12, 13] | _ => [2]
def FP (e : Ex) (v : V) : Ex × St := (e, mkS 45 [(2, .ptr 0 0)] [celB v, some .dead, some .dfr] [.mark 2] false [] 0)

/-! ### the range within -/
def eP (g : Nat → Nat → Q) (i k : Nat) : Ex := bif stopP g i k then .ret else .normal
def llP (g : Nat → Nat → Q) (i : Nat) : Nat → List (Option Ob)
  | 0 => loF g i (V.b false)
  | k + 1 => bif stopP g i k then loF g i (.kb false) else loF g i (V.b false)

theorem eP_norm {g : Nat → Nat → Q} {i k : Nat} : isNormal (eP g i k) = true ↔ stopP g i k = false := by
  unfold eP; cases stopP g i k <;> simp [isNormal]

theorem llP_norm {g : Nat → Nat → Q} {i k : Nat} (h : ∀ j, j < k → isNormal (eP g i j) = true) : llP g i k = loF g i (V.b false) := by
  cases k with
  | zero => rfl
  | succ k => simp only [llP, eP_norm.1 (h k (by omega)), cond_false]

theorem least_stop (p : Nat → Bool) (n : Nat) : (∀ j, j < n → p j = false) ∨ ∃ k, k < n ∧ p k = true ∧ ∀ j, j < k → p j = false := by
  by_cases h : ∃ k, k < n ∧ p k = true
  · obtain ⟨m, ⟨h1, h2⟩, h3⟩ := exists_least (fun k => k < n ∧ p k = true) h.choose h.choose_spec
    refine .inr ⟨m, h1, h2, fun j hj => ?_⟩
    cases hp : p j with
    | false => rfl
    | true => have := h3 j ⟨by omega, hp⟩; omega
  · refine .inl fun j hj => ?_
    cases hp : p j with
    | false => rfl
    | true => exact absurd ⟨j, hj, hp⟩ h

theorem cutN_eq (i : Nat) : cutN i = i := by simp [cutN]

/-! ### the loop -/
def badP (g : Nat → Nat → Q) (i : Nat) : Bool := bif c30 g i then true else anyM g i
def apartA (n : Nat) (g : Nat → Nat → Q) : Bool := (List.range n).all fun i => !badP g i
def RP (n : Nat) (g : Nat → Nat → Q) : Out := .ite (apartA n g) (.leaf (FP (.exit 0) (V.b false))) (.leaf (FP .ret (.kb false)))

theorem apartA_false {n : Nat} {g : Nat → Nat → Q} {i : Nat} (hi : i < n) (h : badP g i = true) : apartA n g = false := by
  rw [apartA, List.all_eq_false]
  exact ⟨i, List.mem_range.2 hi, by rw [h]; simp⟩
theorem apartA_true {n : Nat} {g : Nat → Nat → Q} (h : ∀ i, i < n → badP g i = false) : apartA n g = true := by
  rw [apartA, List.all_eq_true]
  exact fun i hi => by rw [h i (List.mem_range.1 hi)]; rfl

/-- Are all apart? -/
def apartB (n : Nat) (g : Nat → Nat → Q) : Bool := bif allR n g then apartA n g else false
abbrev rect_Apart.s := spL fun n g => .leaf (V.b (apartB n g))
end Go.Proofs.YthmlbmambcigcaaGreatDoor

/- The functions of rect and of the document's answer, one by one: Meet, hulls, Within. -/
namespace Go.Proofs.YthmlbmambcigcaaGreatDoor
open Go Go.SX Go.Proofs
set_option maxRecDepth 100000
variable [EA]
set_option linter.unusedVariables false
set_option linter.unusedSectionVars false
set_option linter.unusedSimpArgs false

abbrev told.s := AsRect.told.s
abbrev qs4 (r : Rc) : List Q := [.c (.int .i64 r.x), .c (.int .i64 r.y), .c (.int .i64 r.w), .c (.int .i64 r.h)]
abbrev one1 (a : Rc) : Nat → Nat → Q := rows [qs4 a]
abbrev two2 (a b : Rc) : Nat → Nat → Q := rows [qs4 a, qs4 b]
abbrev z0 : Rc := ⟨0, 0, 0, 0⟩
/-- The one or the other. -/
abbrev bR (b : Bool) (r r' : Rc) : Rc := ⟨bif b then r.x else r'.x, bif b then r.y else r'.y, bif b then r.w else r'.w, bif b then r.h else r'.h⟩
abbrev eqR (a b : Rc) : Bool := bif a.x == b.x then (bif a.y == b.y then (bif a.w == b.w then (bif a.h == b.h then true else false) else false) else false) else false
abbrev rx (r : Rc) (e : Int) : V := .tup [rv r, V.i e]

theorem allR_one (a : Rc) : allR 1 (one1 a) = rightR a := by
  show (rightR a && true) = rightR a
  simp
theorem allR_two (a b : Rc) : allR 2 (two2 a b) = bif rightR a then rightR b else false := by
  show (rightR a && (rightR b && true)) = _
  cases rightR a <;> simp

def okA (a b : Rc) : Bool := bif rightR a then rightR b else false
abbrev ΓD : Gam := [(46, rect_areRight.s), (47, told.s), (48, rect_meet.s), (67, rect_Right.s), (68, rect_ends.s)]
theorem ΓD.ok : GOK Tryz.prog ΓD := .cons rect_areRight.ok (.cons AsRect.told.ok (.cons rect_meet.ok (.cons rect_Right.ok (.cons rect_ends.ok (GOK.nil _)))))

abbrev rect_Meet.s := spRR fun a b => .leaf (rx (bR (okA a b) (meetR a b) z0) (bif okA a b then 0 else 20))
theorem rect_Meet.ok : SpecOK Tryz.prog 25 rect_Meet.s := by
  refine okRR (G := fun a b => .ite (allR 2 (two2 a b)) (.ite false (.leaf (rx z0 0)) (.leaf (rx (meetR a b) 0))) (.ite true (.leaf (rx z0 20)) (.leaf (rx (meetR a b) 0)))) (Γ := ΓD) ΓD.ok Tryz.func25 (by kernel_rfl) (by kernel_rfl) (fun a b => by kernel_rfl) fun a b v h => ?_
  rw [allR_two, ← h]
  unfold okA bR
  cases rightR a <;> cases rightR b <;> rfl

abbrev m1 (n : Nat) : Nat := (n : Int).toNat - (1 : Int).toNat
abbrev gs (g : Nat → Nat → Q) : Nat → Nat → Q := fun j => g ((1 : Int).toNat + j)
/-- The least left and upper edges, the greatest right and lower ones, of the first and of i more. -/
def stH (c r : Rc) : Rc := ⟨mn2 c.x r.x, mn2 c.y r.y, mx2 c.w (w64 (r.x + r.w)), mx2 c.h (w64 (r.y + r.h))⟩
def fstH (r : Rc) : Rc := ⟨r.x, r.y, w64 (r.x + r.w), w64 (r.y + r.h)⟩
def fl_hS (g : Nat → Nat → Q) : Nat → Rc
  | 0 => fstH (gRc g 0)
  | i + 1 => stH (fl_hS g i) (gRc (gs g) i)
abbrev hR (c : Rc) : Rc := ⟨c.x, c.y, w64 (c.w - c.x), w64 (c.h - c.y)⟩

abbrev celR (r : Rc) : Option Ob := some (.cells 52 [V.i r.x, V.i r.y, V.i r.w, V.i r.h])
abbrev loH (g : Nat → Nat → Q) (c : Rc) : List (Option Ob) := [celR z0, none, none, none, none, none, none, none, celR ⟨c.x, c.y, (gRc g 0).w, (gRc g 0).h⟩, some (.cells 137 [V.i c.w, V.i c.h])]
def SH (n : Nat) (g : Nat → Nat → Q) (c : Rc) (i : Nat) : St :=
  mkS 75 [(2, .ptr 0 0), (5, .ptr 8 0), (6, .ptr 9 0), (30, lst4 (m1 n) (gs g)), (31, V.i (m1 n)), (32, V.i i)] (loH g c) [] false [] 0
def FH (g : Nat → Nat → Q) (c : Rc) : Ex × St := (.exit 0, mkS 75 [(2, .ptr 0 0), (5, .ptr 8 0), (6, .ptr 9 0)] (loH g c) [] false [] 0)
noncomputable abbrev bodyH : Code := loopAt Tryz.f97 [0, 1, 0, 1, 1, 1]
def liveH : Ex → List Nat | .normal => [2, 5, 6, 30, 31, 32] | _ => [2, 5, 6]

theorem stepH (n : Nat) (g : Nat → Nat → Q) (c : Rc) (i : Nat) :
    (sx Tryz.prog ΓD [] [0, 0, 1, 0, 1, 1, 1] bodyH (SH n g c i)).bind (fun x => T.leaf (x.1, deadS [] (canS 75 10 (liveH x.1) x.2), chkM 75 10 x.2))
     = .ite (decide ((i : Int) < (m1 n : Nat)))
        (.ite (decide (0 ≤ (i : Int) ∧ (i : Int) < (m1 n : Nat)))
          (.leaf (.normal, mkS 75 [(2, .ptr 0 0), (5, .ptr 8 0), (6, .ptr 9 0), (30, lst4 (m1 n) (gs g)), (31, V.i (m1 n)), (32, V.i (w64 (i + 1)))] (loH g (stH c (gRc (gs g) i))) [] false [] 0, true)) .bad)
        (.leaf ((FH g c).1, (FH g c).2, true)) := by kernel_rfl

theorem loopH (n : Nat) (g : Nat → Nat → Q) (hn : n ≤ 9223372036854775807) : ∀ x, (T.leaf (FH g (fl_hS g (m1 n)))).pick = some x → SemC Tryz.prog (.loop bodyH) (SH n g (fstH (gRc g 0)) 0) x := by
  refine loop_tree ΓD.ok (root := cod Tryz.f97) (p := [0, 1, 0, 1, 1, 1]) (by kernel_rfl) (fun i => i ≤ m1 n) (fun i => SH n g (fl_hS g i) i) (fun i => m1 n - i) (.leaf (FH g (fl_hS g (m1 n)))) 75 10 liveH (fun _ => []) (fun i hi => ?_) 0 (Nat.zero_le _)
  have e := stepH n g (fl_hS g i) i
  rcases Nat.lt_or_ge i (m1 n) with hlt | hge
  · exact ⟨[], .normal, SH n g (fl_hS g (i + 1)) (i + 1), LamOK.nil _ _, by rw [e, c_lt hlt, c_in hlt, w64_suc hlt (by simp only [m1]; omega)]; rfl, .inl ⟨rfl, i + 1, hlt, by omega, rfl⟩⟩
  · exact ⟨[], .exit 0, _, LamOK.nil _ _, by rw [e, c_ge hge]; rfl, .inr ⟨by simp, by rw [show m1 n = i by omega]; rfl⟩⟩

abbrev hullR (n : Nat) (g : Nat → Nat → Q) : Rc := hR (fl_hS g (m1 n))
def hOK (n : Nat) (g : Nat → Nat → Q) : Bool := bif allR n g then !((n : Int) == 0) else false
abbrev rect_hull.s := spL fun n g => .ite (hOK n g) (.leaf (.tup [rv (hullR n g), nilE])) (.leaf (.tup [rv z0, errV 20]))
noncomputable abbrev inH (n : Nat) (g : Nat → Nat → Q) : T V :=
  .ite (decide ((0 : Int) ≤ 0 ∧ (0 : Int) < (n : Int))) (.ite (decide ((0 : Int) ≤ 0 ∧ (0 : Int) < (n : Int))) (.ite (decide ((0 : Int) ≤ 1 ∧ (1 : Int) ≤ (n : Int) ∧ (n : Int) ≤ (n : Int)))
    (.ite (@decide (SH n g (fstH (gRc g 0)) 0 = SH n g (fstH (gRc g 0)) 0) (Classical.propDecidable _)) (.leaf (.tup [rv (hullR n g), nilE])) .bad) .bad) .bad) .bad
theorem rect_hull.ok : SpecOK Tryz.prog 97 rect_hull.s := by
  refine okL (Γ := ΓD) ΓD.ok Tryz.func97 (by kernel_rfl) (by kernel_rfl) fun n g v hb hv => ?_
  refine ⟨[([0, 1, 0, 1, 1, 1], orc false 75 10 [2, 5, 6, 30, 31, 32] (SH n g (fstH (gRc g 0)) 0) (.leaf (FH g (fl_hS g (m1 n)))))], LamOK.orc (c := .loop bodyH) (by kernel_rfl) (loopH n g hb.1) (LamOK.nil _ _), ?_⟩
  have e : funV Tryz.prog ΓD [([0, 1, 0, 1, 1, 1], orc false 75 10 [2, 5, 6, 30, 31, 32] (SH n g (fstH (gRc g 0)) 0) (.leaf (FH g (fl_hS g (m1 n)))))] Tryz.f97 (cod Tryz.f97) [lst4 n g] =
      .ite (allR n g) (.ite (bif false then true else ((n : Int) == 0)) (.leaf (.tup [rv z0, errV 20])) (inH n g))
        (.ite (bif true then true else ((n : Int) == 0)) (.leaf (.tup [rv z0, errV 20])) (inH n g)) := by kernel_rfl
  rw [e, ← hv]
  unfold hOK
  cases h1 : allR n g with
  | false => rfl
  | true =>
    cases h2 : ((n : Int) == 0) with
    | true => rfl
    | false =>
      have h3 : n ≠ 0 := fun h => by subst h; simp at h2
      have c1 : decide ((0 : Int) ≤ 0 ∧ (0 : Int) < (n : Int)) = true := by simp; omega
      have c2 : decide ((0 : Int) ≤ 1 ∧ (1 : Int) ≤ (n : Int) ∧ (n : Int) ≤ (n : Int)) = true := by simp; omega
      simp only [pick_ite, pick_leaf, cond_true, cond_false, decide_true, inH, c1, c2, Bool.not_false]

abbrev ΓF : Gam := (97, rect_hull.s) :: ΓD
theorem ΓF.ok : GOK Tryz.prog ΓF := .cons rect_hull.ok ΓD.ok
def inB (a b : Rc) : Bool := bif hOK 2 (two2 a b) then eqR (hullR 2 (two2 a b)) b else false
abbrev rect_Within.s := spRR fun a b => .leaf (V.b (inB a b))
theorem rect_Within.ok : SpecOK Tryz.prog 74 rect_Within.s := by
  refine okRR (G := fun a b => .ite (hOK 2 (two2 a b)) (.leaf (V.b (bif true then eqR (hullR 2 (two2 a b)) b else false))) (.leaf (V.b (bif false then eqR z0 b else false)))) (Γ := ΓF) ΓF.ok Tryz.func74 (by kernel_rfl) (by kernel_rfl) (fun a b => by kernel_rfl) fun a b v h => ?_
  rw [← h]
  unfold inB
  cases hOK 2 (two2 a b) <;> rfl
end Go.Proofs.YthmlbmambcigcaaGreatDoor

/- errors.Is at float's own error: what its told says of it. -/
namespace Go.Proofs.YthmlbmambcigcaaGreatDoor.AsFloat
open Go Go.SX Go.RowKit Go.Extern.Stop Go.Stop Go.Extern Go.Proofs.YthmlbmambcigcaaGreatDoor.AsRect
set_option linter.unusedVariables false
set_option linter.unusedSimpArgs false

abbrev ES : Nat := 236

theorem isTypeOf (v : Value) (w : World) : (Extern.ReflectliteType.typeOf #[.iface ES v]).run Tryz.prog w = .ok (.iface R (.agg #[hd ES])) w := by kernel_rfl
abbrev compX : Array Value → Sem Value := Extern.ReflectliteType.method fun t => do Extern.Rtype.noPackHeld "Comparable" t; pure (.bool (← typeInfo t).comparable)
theorem isComparable (w : World) : (compX #[.agg #[hd ES]]).run Tryz.prog w = .ok (.bool true) w := by kernel_rfl
theorem isMethodComparable (d : Nat) (v : Value) (w : World) : (Go.method (d + 60) R v "Comparable").run Tryz.prog w = .ok (162, v) w := by kernel_rfl
theorem isComp : (Tryz.prog.info? ES).map (·.comparable) = some true := by kernel_rfl
theorem isSize : (Tryz.prog.info? 258).map (·.size) = some 1 := by kernel_rfl
/-- errors.Is(x, x), x a pointer to an errors.errorString. -/
theorem is_same (a : Addr) (w : World) :
    Calls Tryz.prog 65 #[.iface ES (.pointer (some a)), .iface ES (.pointer (some a))] w fun e w' => e = .returned (.bool true) ∧ w' = w := by
  obtain ⟨i, hi, hcmp⟩ := Option.map_eq_some_iff.1 isComp
  obtain ⟨j, hj, hjs⟩ := Option.map_eq_some_iff.1 isSize
  have h8 := @run_callFunc_extern Tryz.prog 93 _ Extern.ReflectliteType.typeOf Tryz.func93 (by kernel_rfl) (by kernel_rfl) (by kernel_rfl) (by kernel_rfl)
  have h32 := @run_callFunc_extern Tryz.prog 162 _ compX Tryz.func162 (by kernel_rfl) (by kernel_rfl) (by kernel_rfl) (by kernel_rfl)
  have tT := isTypeOf
  have cT := isComparable
  have mR := isMethodComparable
  have heq := run_eql_iface_ptr_same (P := Tryz.prog) w a Tryz.underlying70 Tryz.underlying236 hi hcmp hj
  go_enter Tryz.func65, Tryz.ntmps65
  go_wp2
  refine wp_loop_rounds 1 ?_
  rw [rounds_succ]
  go_wp2
  go_ret
  exact ⟨rfl, rfl⟩

theorem told_run (a : Addr) (w : World) (hg : w.cell? ⟨1, 0, none⟩ = some (.iface ES (.pointer (some a)))) :
    Calls Tryz.prog 39 #[.iface ES (.pointer (some a))] w fun e w' => e = .returned (.int .i64 110) ∧ w' = w := by
  go_enter Tryz.func39, Tryz.ntmps39
  go_wp2_with (first | (go_at_call 65; refine (is_same a _).mono ?_; rintro e w' ⟨rfl, rfl⟩))
  go_ret
  exact ⟨rfl, rfl⟩

variable [EA]
noncomputable def ftold.s : List V → T V := fun args => .ite (@decide (args = [.q (.c (errP 0))]) (Classical.propDecidable _)) (.leaf (V.i 110)) .bad

theorem ftold.ok : SpecOK Tryz.prog 39 ftold.s := by
  refine ⟨by kernel_rfl, fun S w args vals r hS hg _ hd hr => ?_⟩
  unfold ftold.s at hr
  simp only [T.pick] at hr
  cases hb : @decide (args = [.q (.c (errP 0))]) (Classical.propDecidable _) with
  | false => rw [hb] at hr; cases hr
  | true =>
    have e := @of_decide_eq_true _ (Classical.propDecidable _) hb
    subst e
    rw [hb] at hr
    cases hr
    cases hd with
    | cons x v l us hx hl =>
      cases hl
      have := hx.q_inv
      cases this
      refine (told_run (EA.ea 0) w (hg _ gl_float)).mono fun ev w' ⟨h1, h2⟩ => ?_
      subst h2
      exact ⟨_, h1, Below.refl _ _, .q _ _ (.c _)⟩
end Go.Proofs.YthmlbmambcigcaaGreatDoor.AsFloat

/- The functions of float, one by one: how low, which are floats, where the next one ends. -/
namespace Go.Proofs.YthmlbmambcigcaaGreatDoor
open Go Go.SX Go.Proofs
set_option maxRecDepth 100000
variable [EA]
set_option linter.unusedVariables false
set_option linter.unusedSectionVars false
set_option linter.unusedSimpArgs false

/-- A float. -/
structure Fl where
  w : Int
  h : Int
  r : Bool
  c : Bool
abbrev ksF : List K := [.int .i64, .int .i64, .bool, .bool]
abbrev gFl (f : Nat → Nat → Q) (i : Nat) : Fl := ⟨qInt (f i 0), qInt (f i 1), qBool (f i 2), qBool (f i 3)⟩
abbrev lstF (m : Nat) (f : Nat → Nat → Q) : V := .q (.lst ksF m f)
abbrev fv (x : Fl) : V := .agg [V.i x.w, V.i x.h, V.b x.r, V.b x.c]

/-! ### low -/
abbrev lowE (r : Rc) : Int := w64 (r.y + r.h)
def lowS (g : Nat → Nat → Q) : Nat → Int
  | 0 => 0
  | i + 1 => mx2 (lowS g i) (lowE (gRc g i))
def fl_SLo (n : Nat) (g : Nat → Nat → Q) (a i : Int) : St := mkS 21 [(3, V.i a), (6, lst4 n g), (7, V.i n), (8, V.i i)] [] [] false [] 0
def FLo (a : Int) : Ex × St := (.exit 0, mkS 21 [(3, V.i a)] [] [] false [] 0)
def fl_liveLo : Ex → List Nat | .normal => [3, 6, 7, 8] | _ => [3]
noncomputable abbrev fl_bodyLo : Code := loopAt Tryz.f40 [0, 1, 0, 1, 1]
theorem fl_stepLo (n : Nat) (g : Nat → Nat → Q) (a : Int) (i : Nat) :
    (sx Tryz.prog [] [] [0, 0, 1, 0, 1, 1] fl_bodyLo (fl_SLo n g a i)).bind (fun x => T.leaf (x.1, deadS [] (canS 21 0 (fl_liveLo x.1) x.2), chkM 21 0 x.2))
     = .ite (decide ((i : Int) < n)) (.ite (decide (0 ≤ (i : Int) ∧ (i : Int) < n)) (.leaf (.normal, fl_SLo n g (mx2 a (lowE (gRc g i))) (w64 (i + 1)), true)) .bad) (.leaf ((FLo a).1, (FLo a).2, true)) := by kernel_rfl
theorem fl_loopLo (n : Nat) (g : Nat → Nat → Q) (hn : n ≤ 9223372036854775807) : ∀ x, (T.leaf (FLo (lowS g n))).pick = some x → SemC Tryz.prog (.loop fl_bodyLo) (fl_SLo n g 0 0) x := by
  refine loop_tree (GOK.nil _) (root := cod Tryz.f40) (p := [0, 1, 0, 1, 1]) (by kernel_rfl) (fun i => i ≤ n) (fun i => fl_SLo n g (lowS g i) i) (fun i => n - i) (.leaf (FLo (lowS g n))) 21 0 fl_liveLo (fun _ => []) (fun i hi => ?_) 0 (Nat.zero_le _)
  have e := fl_stepLo n g (lowS g i) i
  rcases Nat.lt_or_ge i n with hlt | hge
  · exact ⟨[], .normal, fl_SLo n g (lowS g (i + 1)) (i + 1 : Nat), LamOK.nil _ _, by rw [e, c_lt hlt, c_in hlt, w64_suc hlt hn]; rfl, .inl ⟨rfl, i + 1, hlt, by omega, rfl⟩⟩
  · exact ⟨[], .exit 0, _, LamOK.nil _ _, by rw [e, c_ge hge]; rfl, .inr ⟨by simp, by rw [show n = i by omega]; rfl⟩⟩
abbrev low.s := spL fun n g => .leaf (V.i (lowS g n))
theorem low.ok : SpecOK Tryz.prog 40 low.s := by
  refine okL (GOK.nil _) Tryz.func40 (by kernel_rfl) (by kernel_rfl) fun n g v hb hv => ?_
  refine ⟨[([0, 1, 0, 1, 1], orc false 21 0 [3, 6, 7, 8] (fl_SLo n g 0 0) (.leaf (FLo (lowS g n))))], LamOK.orc (c := .loop fl_bodyLo) (by kernel_rfl) (fl_loopLo n g hb.1) (LamOK.nil _ _), ?_⟩
  have e : funV Tryz.prog [] [([0, 1, 0, 1, 1], orc false 21 0 [3, 6, 7, 8] (fl_SLo n g 0 0) (.leaf (FLo (lowS g n))))] Tryz.f40 (cod Tryz.f40) [lst4 n g] =
      .ite (@decide (fl_SLo n g 0 0 = fl_SLo n g 0 0) (Classical.propDecidable _)) (.leaf (V.i (lowS g n))) .bad := by kernel_rfl
  rw [e, pick_same]; exact hv

/-! ### Right -/
abbrev box : Rc := ⟨0, 0, 1048576, 1048576⟩
def fl_okF (x : Fl) : Bool := inB ⟨0, 0, x.w, x.h⟩ box
def allF (m : Nat) (f : Nat → Nat → Q) : Bool := (List.range m).all fun i => fl_okF (gFl f i)
theorem allF_false {n : Nat} {g : Nat → Nat → Q} {i : Nat} (hi : i < n) (h : fl_okF (gFl g i) = false) : allF n g = false := by
  rw [allF, List.all_eq_false]
  exact ⟨i, List.mem_range.2 hi, by rw [h]; simp⟩
theorem allF_true {n : Nat} {g : Nat → Nat → Q} (h : ∀ i, i < n → fl_okF (gFl g i) = true) : allF n g = true := by
  rw [allF, List.all_eq_true]
  exact fun i hi => h i (List.mem_range.1 hi)
abbrev cbox : List (Option Ob) := [some (.cells 52 [V.i 0, V.i 0, V.i 1048576, V.i 1048576])]
def SR (m : Nat) (f : Nat → Nat → Q) (w : Int) (i : Int) : St := mkS 35 [(0, lstF m f), (1, V.i w), (5, .ptr 0 0), (9, lstF m f), (10, V.i m), (11, V.i i)] cbox [] false [] 0
def RR (m : Nat) (f : Nat → Nat → Q) (w : Int) : Out := .ite (allF m f) (.leaf (.exit 0, mkS 35 [(0, lstF m f), (1, V.i w)] cbox [] false [] 0)) (.leaf (.ret, mkS 35 [(4, V.b false)] cbox [] false [] 0))
def liveR : Ex → List Nat | .normal => [0, 1, 5, 9, 10, 11] | .ret => [4] | _ => [0, 1]
noncomputable abbrev bodyR : Code := loopAt Tryz.f53 [0, 1, 0, 1, 1]
abbrev ΓR : Gam := [(74, rect_Within.s)]
theorem ΓR.ok : GOK Tryz.prog ΓR := .cons rect_Within.ok (GOK.nil _)
theorem stepR (m : Nat) (f : Nat → Nat → Q) (w : Int) (i : Nat) :
    (sx Tryz.prog ΓR [] [0, 0, 1, 0, 1, 1] bodyR (SR m f w i)).bind (fun x => T.leaf (x.1, deadS [] (canS 35 1 (liveR x.1) x.2), chkM 35 1 x.2))
     = .ite (decide ((i : Int) < m)) (.ite (decide (0 ≤ (i : Int) ∧ (i : Int) < m)) (.ite (!(fl_okF (gFl f i))) (.leaf (.ret, mkS 35 [(4, V.b false)] cbox [] false [] 0, true)) (.leaf (.normal, SR m f w (w64 (i + 1)), true))) .bad)
        (.leaf (.exit 0, mkS 35 [(0, lstF m f), (1, V.i w)] cbox [] false [] 0, true)) := by kernel_rfl
theorem loopR (m : Nat) (f : Nat → Nat → Q) (w : Int) (hn : m ≤ 9223372036854775807) : ∀ x, (RR m f w).pick = some x → SemC Tryz.prog (.loop bodyR) (SR m f w 0) x := by
  refine loop_tree ΓR.ok (root := cod Tryz.f53) (p := [0, 1, 0, 1, 1]) (by kernel_rfl) (fun i => i ≤ m ∧ ∀ j, j < i → fl_okF (gFl f j) = true) (fun i => SR m f w i) (fun i => m - i) (RR m f w) 35 1 liveR (fun _ => []) (fun i hi => ?_) 0 ⟨Nat.zero_le _, fun j hj => absurd hj (Nat.not_lt_zero _)⟩
  obtain ⟨hi, hall⟩ := hi
  have e := stepR m f w i
  rcases Nat.lt_or_ge i m with hlt | hge
  · cases hr : fl_okF (gFl f i) with
    | false => exact ⟨[], .ret, _, LamOK.nil _ _, by rw [e, c_lt hlt, c_in hlt, hr]; rfl, .inr ⟨by simp, by rw [RR, allF_false hlt hr]; rfl⟩⟩
    | true =>
      refine ⟨[], .normal, _, LamOK.nil _ _, by rw [e, c_lt hlt, c_in hlt, hr]; rfl, .inl ⟨rfl, i + 1, ⟨hlt, fun j hj => ?_⟩, by omega, by rw [w64_suc hlt hn]⟩⟩
      rcases Nat.lt_or_ge j i with h | h
      · exact hall j h
      · rw [show j = i by omega]; exact hr
  · refine ⟨[], .exit 0, _, LamOK.nil _ _, by rw [e, c_ge hge]; rfl, .inr ⟨by simp, by rw [RR, allF_true fun j hj => hall j (by omega)]; rfl⟩⟩
/-- A function of floats, and a width. -/
def spFW (F : Nat → (Nat → Nat → Q) → Int → T V) : List V → T V
  | [.q (.lst [.int .i64, .int .i64, .bool, .bool] m f), .q (.c (.int .i64 w))] => F m f w
  | _ => .bad
theorem okFW {P : Program} [GW] {Γ : Gam} {f : Nat} {fn : Func} {F : Nat → (Nat → Nat → Q) → Int → T V} (hΓ : GOK P Γ) (hf : P.funcs[f]? = some fn) (hb : fn.body.isSome = true) (hent : entersB P f = true)
    (h : ∀ m g w v, m ≤ 9223372036854775807 → (F m g w).pick = some v → ∃ Λ, LamOK P (cod fn) Λ ∧ (funV P Γ Λ fn (cod fn) [lstF m g, V.i w]).pick = some v) : SpecOK P f (spFW F) := by
  refine specOK_of_bodyW hΓ hf (isBody _ hb) hent fun args r hb he => ?_
  unfold spFW at he
  split at he
  · rename_i m g w
    obtain ⟨Λ, h1, h2⟩ := h m g w r (hb (lstF m g) (by simp)).1 he
    exact ⟨_, Λ, fun _ _ _ x => x, h1, h2⟩
  · cases he
def rightF (m : Nat) (f : Nat → Nat → Q) (w : Int) : Bool := bif allF m f then (bif decide (w ≥ 0) then (bif decide (w ≤ 1048576) then decide ((m : Int) ≤ 20) else false) else false) else false
abbrev fRight.s := spFW fun m f w => .leaf (V.b (rightF m f w))
theorem fRight.ok : SpecOK Tryz.prog 53 fRight.s := by
  refine okFW ΓR.ok Tryz.func53 (by kernel_rfl) (by kernel_rfl) fun m f w v hb hv => ?_
  refine ⟨[([0, 1, 0, 1, 1], orc false 35 1 [0, 1, 5, 9, 10, 11] (SR m f w 0) (RR m f w))], LamOK.orc (c := .loop bodyR) (by kernel_rfl) (loopR m f w hb) (LamOK.nil _ _), ?_⟩
  have e : funV Tryz.prog ΓR [([0, 1, 0, 1, 1], orc false 35 1 [0, 1, 5, 9, 10, 11] (SR m f w 0) (RR m f w))] Tryz.f53 (cod Tryz.f53) [lstF m f, V.i w] =
      .ite (@decide (SR m f w 0 = SR m f w 0) (Classical.propDecidable _)) (.ite (allF m f) (.leaf (V.b (bif decide (w ≥ 0) then (bif decide (w ≤ 1048576) then decide ((m : Int) ≤ 20) else false) else false))) (.leaf (V.b false))) .bad := by kernel_rfl
  rw [e, pick_same, ← hv]
  unfold rightF
  cases allF m f <;> rfl

/-! ### end -/
abbrev row3 (n : Nat) (g : Nat → Nat → Q) (m : Nat) (f : Nat → Nat → Q) (w : Int) : Q := .sp 3 fun j => [Q.lst ks4 n g, .lst ksF m f, .c (.int .i64 w)].getD j default
def eS (n : Nat) (g : Nat → Nat → Q) (y : Int) : Nat → Int
  | 0 => lowS g n
  | i + 1 => bif decide (lowE (gRc g i) > y) then mn2 (eS n g y i) (lowE (gRc g i)) else eS n g y i
def eB (g : Nat → Nat → Q) (y : Int) : Nat → Bool
  | 0 => false
  | i + 1 => bif decide (lowE (gRc g i) > y) then true else eB g y i
def SE (n : Nat) (g : Nat → Nat → Q) (y o : Int) (b : Bool) (i : Int) : St := mkS 40 [(1, V.i y), (6, V.i o), (7, V.b b), (19, lst4 n g), (20, V.i n), (21, V.i i)] [] [] false [] 0
def FE (o : Int) (b : Bool) : Ex × St := (.exit 0, mkS 40 [(6, V.i o), (7, V.b b)] [] [] false [] 0)
def liveE : Ex → List Nat | .normal => [1, 6, 7, 19, 20, 21] | _ => [6, 7]
noncomputable abbrev bodyE : Code := loopAt Tryz.f92 [0, 1, 0, 1, 1]
theorem stepE (n : Nat) (g : Nat → Nat → Q) (y o : Int) (b : Bool) (i : Nat) :
    (sx Tryz.prog [] [] [0, 0, 1, 0, 1, 1] bodyE (SE n g y o b i)).bind (fun x => T.leaf (x.1, deadS [] (canS 40 0 (liveE x.1) x.2), chkM 40 0 x.2))
     = .ite (decide ((i : Int) < n)) (.ite (decide (0 ≤ (i : Int) ∧ (i : Int) < n)) (.ite (decide (lowE (gRc g i) > y)) (.leaf (.normal, SE n g y (mn2 o (lowE (gRc g i))) true (w64 (i + 1)), true)) (.leaf (.normal, SE n g y o b (w64 (i + 1)), true))) .bad)
        (.leaf ((FE o b).1, (FE o b).2, true)) := by kernel_rfl
theorem loopE (n : Nat) (g : Nat → Nat → Q) (y : Int) (hn : n ≤ 9223372036854775807) : ∀ x, (T.leaf (FE (eS n g y n) (eB g y n))).pick = some x → SemC Tryz.prog (.loop bodyE) (SE n g y (lowS g n) false 0) x := by
  refine loop_tree (GOK.nil _) (root := cod Tryz.f92) (p := [0, 1, 0, 1, 1]) (by kernel_rfl) (fun i => i ≤ n) (fun i => SE n g y (eS n g y i) (eB g y i) i) (fun i => n - i) (.leaf (FE (eS n g y n) (eB g y n))) 40 0 liveE (fun _ => []) (fun i hi => ?_) 0 (Nat.zero_le _)
  have e := stepE n g y (eS n g y i) (eB g y i) i
  rcases Nat.lt_or_ge i n with hlt | hge
  · refine ⟨[], .normal, SE n g y (eS n g y (i + 1)) (eB g y (i + 1)) (i + 1 : Nat), LamOK.nil _ _, ?_, .inl ⟨rfl, i + 1, hlt, by omega, rfl⟩⟩
    rw [e, c_lt hlt, c_in hlt, w64_suc hlt hn]
    simp only [eS, eB]
    cases decide (lowE (gRc g i) > y) <;> rfl
  · exact ⟨[], .exit 0, _, LamOK.nil _ _, by rw [e, c_ge hge]; rfl, .inr ⟨by simp, by rw [show n = i by omega]; rfl⟩⟩
/-- Where those of a row that is placed end next. -/
def end.s : List V → T V
  | [.q (.sp 3 get), .q (.c (.int .i64 y))] => match get 0, get 1, get 2 with
    | .lst [.int .i64, .int .i64, .int .i64, .int .i64] n g, .lst [.int .i64, .int .i64, .bool, .bool] m f, .c (.int .i64 w) => .leaf (.tup [V.i (bif eB g y n then eS n g y n else 0), V.b (eB g y n)])
    | _, _, _ => .bad
  | _ => .bad
theorem row3_weak {get : Nat → Q} {n m : Nat} {g f : Nat → Nat → Q} {w : Int} {l : List V} (h0 : get 0 = .lst ks4 n g) (h1 : get 1 = .lst ksF m f) (h2 : get 2 = .c (.int .i64 w)) : Weak (.q (.sp 3 get) :: l) (.q (row3 n g m f w) :: l) :=
  .sp (fun j hj => by
    rcases (show j = 0 ∨ j = 1 ∨ j = 2 by omega) with rfl | rfl | rfl
    · exact h0
    · exact h1
    · exact h2) (fun _ _ _ x => x)
abbrev ΓE : Gam := [(40, low.s)]
theorem end.ok : SpecOK Tryz.prog 92 end.s := by
  refine specOK_of_bodyW (Γ := ΓE) (.cons low.ok (GOK.nil _)) Tryz.func92 (isBody _ (by kernel_rfl)) (by kernel_rfl) fun args r hb he => ?_
  unfold end.s at he
  split at he
  · rename_i get y
    split at he
    · rename_i n g m f w h0 h1 h2
      have hn : n ≤ 9223372036854775807 := by
        have : QB (get 0) := hb (.q (.sp 3 get)) (by simp) 0 (by omega)
        rw [h0] at this
        exact this.1
      refine ⟨_, [([0, 1, 0, 1, 1], orc false 40 0 [1, 6, 7, 19, 20, 21] (SE n g y (lowS g n) false 0) (.leaf (FE (eS n g y n) (eB g y n))))], row3_weak h0 h1 h2, LamOK.orc (c := .loop bodyE) (by kernel_rfl) (loopE n g y hn) (LamOK.nil _ _), ?_⟩
      have e : funV Tryz.prog ΓE [([0, 1, 0, 1, 1], orc false 40 0 [1, 6, 7, 19, 20, 21] (SE n g y (lowS g n) false 0) (.leaf (FE (eS n g y n) (eB g y n))))] Tryz.f92 (cod Tryz.f92) [.q (row3 n g m f w), V.i y] =
          .ite (@decide (SE n g y (lowS g n) false 0 = SE n g y (lowS g n) false 0) (Classical.propDecidable _)) (.ite (!(eB g y n)) (.leaf (.tup [V.i 0, V.b false])) (.leaf (.tup [V.i (eS n g y n), V.b true]))) .bad := by kernel_rfl
      rw [e, pick_same, ← he]
      cases eB g y n <;> rfl
    · cases he
  · cases he

/-! ### beside -/
abbrev sp1 (q : Q) : V := .q (.sp 1 fun j => [q].getD j default)
def beside.s : List V → T V
  | [.q (.sp 3 get), .q (.c (.int .i64 y)), .q (.c (.int .i64 h))] => .leaf (.clo 106 [sp1 (.sp 3 get), sp1 (.c (.int .i64 y)), sp1 (.c (.int .i64 h))])
  | _ => .bad
theorem beside.ok : SpecOK Tryz.prog 103 beside.s := by
  refine specOK_of_body (GOK.nil _) (LamOK.nil _ _) Tryz.func103 (isBody _ (by kernel_rfl)) (by kernel_rfl) fun args r he => ?_
  unfold beside.s at he
  split at he
  · rename_i get y h
    have e : funV Tryz.prog [] [] Tryz.f103 (cod Tryz.f103) [.q (.sp 3 get), V.i y, V.i h] = .leaf (.clo 106 [sp1 (.sp 3 get), sp1 (.c (.int .i64 y)), sp1 (.c (.int .i64 h))]) := by kernel_rfl
    rw [e]; exact he
  · cases he
end Go.Proofs.YthmlbmambcigcaaGreatDoor

/- The functions of float, one by one: those beside some lengths. -/
namespace Go.Proofs.YthmlbmambcigcaaGreatDoor
open Go Go.SX Go.Proofs
set_option maxRecDepth 100000
variable [EA]
set_option linter.unusedVariables false
set_option linter.unusedSectionVars false
set_option linter.unusedSimpArgs false

abbrev bx (r : Rc) (y h : Int) : Rc := ⟨r.x, y, r.w, mx2 h 1⟩
/-- Does one lie at some lengths? -/
def hitR (r : Rc) (y h : Int) : Bool := decide ((bR (okA r (bx r y h)) (meetR r (bx r y h)) z0).w > 0)
/-- Those of the first i that do. -/
def hits (g : Nat → Nat → Q) (y h : Int) (i : Nat) : List Nat := (List.range i).filter fun k => hitR (gRc g k) y h
abbrev xb (g f : Nat → Nat → Q) (k : Nat) : List V := [V.b (gFl f k).r, rv (gRc g k)]
def xB (g f : Nat → Nat → Q) (y h : Int) (n k : Nat) : List V := xb g f ((hits g y h n).getD k 0)

theorem hits_succ (g : Nat → Nat → Q) (y h : Int) (i : Nat) : hits g y h (i + 1) = hits g y h i ++ (if hitR (gRc g i) y h then [i] else []) := by
  unfold hits
  rw [List.range_succ, List.filter_append]
  congr 1
  by_cases hh : hitR (gRc g i) y h = true
  · rw [if_pos hh]; simp [hh]
  · rw [if_neg hh]; simp [hh]

theorem hits_prefix (g : Nat → Nat → Q) (y h : Int) {i n : Nat} (hi : i ≤ n) : ∃ l, hits g y h n = hits g y h i ++ l := by
  induction n with
  | zero => exact ⟨[], by rw [show i = 0 by omega]; simp⟩
  | succ n ih =>
    by_cases e : i = n + 1
    · exact ⟨[], by rw [e]; simp⟩
    · obtain ⟨l, hl⟩ := ih (by omega)
      exact ⟨l ++ (if hitR (gRc g n) y h then [n] else []), by rw [hits_succ, hl, List.append_assoc]⟩

theorem xB_at {g f : Nat → Nat → Q} {y h : Int} {i n : Nat} (hi : i < n) (hh : hitR (gRc g i) y h = true) : xB g f y h n (hits g y h i).length = xb g f i := by
  obtain ⟨l, hl⟩ := hits_prefix g y h (show i + 1 ≤ n from hi)
  unfold xB
  rw [hl, hits_succ, if_pos hh]
  simp [List.getD_eq_getElem?_getD]

theorem hits_lt {g : Nat → Nat → Q} {y h : Int} {i n : Nat} (hi : i < n) (hh : hitR (gRc g i) y h = true) : (hits g y h i).length < (hits g y h n).length := by
  obtain ⟨l, hl⟩ := hits_prefix g y h (show i + 1 ≤ n from hi)
  rw [hl, hits_succ, if_pos hh]
  simp

def SB (go : List (List V) → Bool) (adm : List (List V) → List V → Bool) (n : Nat) (g : Nat → Nat → Q) (m : Nat) (f : Nat → Nat → Q) (w y h : Int) (ys : List (List V)) (i : Int) : St :=
  mkS 51 [(0, .yld 0), (1, sp1 (row3 n g m f w)), (2, sp1 (.c (.int .i64 y))), (3, sp1 (.c (.int .i64 h))), (13, lst4 n g), (14, V.i n), (15, V.i i)] [some (.yl go adm)] [] false ys 0
def FB (go : List (List V) → Bool) (adm : List (List V) → List V → Bool) (ys : List (List V)) : Ex × St := (.exit 0, mkS 51 [] [some (.yl go adm)] [] false ys 0)
noncomputable abbrev bodyB : Code := loopAt Tryz.f106 [0, 1, 1, 0]
def liveB : Ex → List Nat | .normal => [0, 1, 2, 3, 13, 14, 15] | _ => []
abbrev ΓB : Gam := [(25, rect_Meet.s)]
theorem ΓB.ok : GOK Tryz.prog ΓB := .cons rect_Meet.ok (GOK.nil _)

theorem stepB (go : List (List V) → Bool) (adm : List (List V) → List V → Bool) (n : Nat) (g : Nat → Nat → Q) (m : Nat) (f : Nat → Nat → Q) (w y h : Int) (ys : List (List V)) (i : Nat) :
    (sx Tryz.prog ΓB [] [0, 0, 1, 1, 0] bodyB (SB go adm n g m f w y h ys i)).bind (fun x => T.leaf (x.1, deadS [] (canS 51 1 (liveB x.1) x.2), chkM 51 1 x.2))
     = .ite (decide ((i : Int) < n))
        (.ite (decide (0 ≤ (i : Int) ∧ (i : Int) < n))
          (.ite (hitR (gRc g i) y h)
            (.ite (decide (0 ≤ (i : Int) ∧ (i : Int) < m))
              (.ite (adm ys (xb g f i)) (.ite (!(go (ys ++ [xb g f i]))) (.leaf (.exit 0, mkS 51 [] [some (.yl go adm)] [] false (ys ++ [xb g f i]) 0, true)) (.leaf (.normal, SB go adm n g m f w y h (ys ++ [xb g f i]) (w64 (i + 1)), true))) .bad) .bad)
            (.leaf (.normal, SB go adm n g m f w y h ys (w64 (i + 1)), true))) .bad)
        (.leaf (.exit 0, mkS 51 [] [some (.yl go adm)] [] false ys 0, true)) := by kernel_rfl

theorem loopB (go : List (List V) → Bool) (adm : List (List V) → List V → Bool) (n : Nat) (g : Nat → Nat → Q) (m : Nat) (f : Nat → Nat → Q) (w y h : Int) (hn : n ≤ 9223372036854775807) (hnm : n ≤ m) (hadm : Admits go adm (hits g y h n).length (xB g f y h n)) (K : Nat)
    (hK : Stops go (xB g f y h n) (hits g y h n).length K) :
    ∀ x, (T.leaf (FB go adm (hist (xB g f y h n) K))).pick = some x → SemC Tryz.prog (.loop bodyB) (SB go adm n g m f w y h [] 0) x := by
  refine loop_tree (Γ := ΓB) ΓB.ok (root := cod Tryz.f106) (p := [0, 1, 1, 0]) (by kernel_rfl) (fun i => i ≤ n ∧ ∀ j, j < (hits g y h i).length → go (hist (xB g f y h n) (j + 1)) = true)
    (fun i => SB go adm n g m f w y h (hist (xB g f y h n) (hits g y h i).length) i) (fun i => n - i) (.leaf (FB go adm (hist (xB g f y h n) K))) 51 1 liveB (fun _ => []) (fun i hi => ?_) 0 ⟨Nat.zero_le _, fun j hj => absurd hj (by simp [hits])⟩
  obtain ⟨hi, hall⟩ := hi
  have e := stepB go adm n g m f w y h (hist (xB g f y h n) (hits g y h i).length) i
  rcases Nat.lt_or_ge i n with hlt | hge
  · cases hh : hitR (gRc g i) y h with
    | false =>
      have e2 : hits g y h (i + 1) = hits g y h i := by rw [hits_succ, hh]; simp
      exact ⟨[], .normal, SB go adm n g m f w y h (hist (xB g f y h n) (hits g y h (i + 1)).length) (i + 1 : Nat), LamOK.nil _ _, by rw [e, c_lt hlt, c_in hlt, hh, e2, w64_suc hlt hn]; rfl, .inl ⟨rfl, i + 1, ⟨hlt, by rw [e2]; exact hall⟩, by omega, rfl⟩⟩
    | true =>
      have e2 : (hits g y h (i + 1)).length = (hits g y h i).length + 1 := by rw [hits_succ, hh]; simp
      have e3 := xB_at (f := f) hlt hh
      have hl := hits_lt hlt hh
      have ha := hadm _ hl hall
      rw [← e3, ← hist_succ] at e
      cases hr : go (hist (xB g f y h n) ((hits g y h i).length + 1)) with
      | false => exact ⟨[], .exit 0, _, LamOK.nil _ _, by rw [e, c_lt hlt, c_in hlt, c_in (show i < m by omega), hh, ha, hr]; rfl, .inr ⟨by simp, by rw [stops_at hK hl hall hr]; rfl⟩⟩
      | true =>
        refine ⟨[], .normal, SB go adm n g m f w y h (hist (xB g f y h n) (hits g y h (i + 1)).length) (i + 1 : Nat), LamOK.nil _ _, by rw [e, c_lt hlt, c_in hlt, c_in (show i < m by omega), hh, ha, hr, e2, w64_suc hlt hn]; rfl, .inl ⟨rfl, i + 1, ⟨hlt, fun j hj => ?_⟩, by omega, rfl⟩⟩
        rw [e2] at hj
        rcases Nat.lt_or_ge j (hits g y h i).length with hj' | hj'
        · exact hall j hj'
        · rw [show j = (hits g y h i).length by omega]; exact hr
  · have hin : i = n := by omega
    subst hin
    exact ⟨[], .exit 0, _, LamOK.nil _ _, by rw [e, c_ge hge]; rfl, .inr ⟨by simp, by rw [stops_end hK hall]; rfl⟩⟩

/-- What beside goes through. -/
def besideI.s : List V → T (Nat × (Nat → List V))
  | [.q (.sp 1 a), .q (.sp 1 b), .q (.sp 1 c)] => match a 0, b 0, c 0 with
    | .sp 3 get, .c (.int .i64 y), .c (.int .i64 h) => match get 0, get 1, get 2 with
      | .lst [.int .i64, .int .i64, .int .i64, .int .i64] n g, .lst [.int .i64, .int .i64, .bool, .bool] m f, .c (.int .i64 w) => .ite (decide (n ≤ m)) (.leaf ((hits g y h n).length, xB g f y h n)) .bad
      | _, _, _ => .bad
    | _, _, _ => .bad
  | _ => .bad

theorem den_sp1 {S : Nat → Prop} {w : World} {q q' : Q} (hq : ∀ v, DenQ S w q v → DenQ S w q' v) {get : Nat → Q} (h0 : get 0 = q) {v : Value} (hd : DenQ S w (.sp 1 get) v) : DenQ S w (.sp 1 fun j => [q'].getD j default) v := by
  obtain ⟨b, off, u, rfl, h1, h2, h3⟩ := hd.sp_inv
  refine .sp _ _ b off u h1 h2 fun j hj => ?_
  have : j = 0 := by omega
  subst this
  have := h3 0 hj
  rw [h0] at this
  exact hq _ this

theorem besideI.ok : IterOK Tryz.prog 106 besideI.s := by
  refine iterOK_of_body (Γ := ΓB) ΓB.ok Tryz.func106 (isBody _ (by kernel_rfl)) (by kernel_rfl) fun caps N x go adm hb he hadm => ?_
  unfold besideI.s at he
  split at he
  · rename_i a b c
    split at he
    · rename_i get y h ha hbb hc
      split at he
      · rename_i n g m f w g0 g1 g2
        simp only [T.pick] at he
        cases hnm : decide (n ≤ m) with
        | false => rw [hnm] at he; cases he
        | true =>
          rw [hnm] at he
          cases he
          have hnm' : n ≤ m := by simpa using hnm
          obtain ⟨K, hK⟩ := exists_stops go (xB g f y h n) (hits g y h n).length
          have hq : QB (a 0) := hb (.q (.sp 1 a)) (by simp) 0 (by omega)
          rw [ha] at hq
          have hq : QB (get 0) := hq 0 (by omega)
          rw [g0] at hq
          refine ⟨[sp1 (row3 n g m f w), sp1 (.c (.int .i64 y)), sp1 (.c (.int .i64 h))], [([0, 1, 1, 0], orc false 51 1 [0, 1, 2, 3, 13, 14, 15] (SB go adm n g m f w y h [] 0) (.leaf (FB go adm (hist (xB g f y h n) K))))], K, ?_,
            LamOK.orc (c := .loop bodyB) (by kernel_rfl) (loopB go adm n g m f w y h hq.1 hnm' hadm K hK) (LamOK.nil _ _), hK, ?_⟩
          · intro S w' vs hd
            cases hd with
            | cons _ v1 _ l1 d1 hd =>
              cases hd with
              | cons _ v2 _ l2 d2 hd =>
                cases hd with
                | cons _ v3 _ l3 d3 hd =>
                  refine .cons _ _ _ _ (.q _ _ (den_sp1 (fun v hv => ?_) ha d1.q_inv)) (.cons _ _ _ _ (.q _ _ (den_sp1 (fun v hv => hv) hbb d2.q_inv)) (.cons _ _ _ _ (.q _ _ (den_sp1 (fun v hv => hv) hc d3.q_inv)) hd))
                  exact den_sp (fun j hj => by
                    rcases (show j = 0 ∨ j = 1 ∨ j = 2 by omega) with rfl | rfl | rfl
                    · exact g0
                    · exact g1
                    · exact g2) hv
          · have e : itV Tryz.prog ΓB [([0, 1, 1, 0], orc false 51 1 [0, 1, 2, 3, 13, 14, 15] (SB go adm n g m f w y h [] 0) (.leaf (FB go adm (hist (xB g f y h n) K))))] Tryz.f106 (cod Tryz.f106) [sp1 (row3 n g m f w), sp1 (.c (.int .i64 y)), sp1 (.c (.int .i64 h))] go adm =
                .ite (@decide (SB go adm n g m f w y h [] 0 = SB go adm n g m f w y h [] 0) (Classical.propDecidable _)) (.leaf (hist (xB g f y h n) K)) .bad := by kernel_rfl
            rw [e, pick_same]; rfl
      · cases he
    · cases he
  · cases he
end Go.Proofs.YthmlbmambcigcaaGreatDoor

/- The functions of float, one by one: insets. -/
namespace Go.Proofs.YthmlbmambcigcaaGreatDoor
open Go Go.SX Go.Proofs
set_option maxRecDepth 100000
variable [EA]
set_option linter.unusedVariables false
set_option linter.unusedSectionVars false
set_option linter.unusedSimpArgs false

/-- What a side's number is, so far. -/
def lkM (es : List (Value × List Q)) (b : Bool) : Int := qInt (((findE (.bool b) es).getD [.c (.int .i64 0)]).headD default)
abbrev insN (w : Int) (r : Rc) (b : Bool) : Int := bif b then w64 (w - r.x) else w64 (r.x + r.w)
abbrev insP (w : Int) (r : Rc) (b : Bool) (es : List (Value × List Q)) : List (Value × List Q) := putE (.bool b) [.c (.int .i64 (mx2 (lkM es b) (insN w r b)))] es
/-- The map behind the first k of a list. -/
def insE (g f : Nat → Nat → Q) (w : Int) (l : List Nat) : Nat → List (Value × List Q)
  | 0 => []
  | k + 1 => insP w (gRc g (l.getD k 0)) (gFl f (l.getD k 0)).r (insE g f w l k)

abbrev mapI (es : List (Value × List Q)) : Ob := .map (.one .bool) false [.int .i64] es
abbrev loI (n : Nat) (g : Nat → Nat → Q) (m : Nat) (f : Nat → Nat → Q) (w : Int) (es : List (Value × List Q)) : List (Option Ob) :=
  [some (.cells 79 [.q (row3 n g m f w)]), some (mapI es), some (.cells 167 [.mp 1])]
def SI (n : Nat) (g : Nat → Nat → Q) (m : Nat) (f : Nat → Nat → Q) (w y h : Int) : St :=
  mkS 39 [(3, .ptr 0 0), (7, .ptr 2 0), (15, .clo 106 [sp1 (row3 n g m f w), sp1 (.c (.int .i64 y)), sp1 (.c (.int .i64 h))])] (loI n g m f w []) [] false [] 0
noncomputable abbrev rfI : Code × Code := rfAt Tryz.f90 [0, 1, 0, 1, 1]
abbrev ΓI : Gam := [(103, beside.s)]
theorem ΓI.ok : GOK Tryz.prog ΓI := .cons beside.ok (GOK.nil _)

theorem roundI (n : Nat) (g : Nat → Nat → Q) (m : Nat) (f : Nat → Nat → Q) (w y h : Int) (es : List (Value × List Q)) (k : Nat) (rec rec' : Loop) :
    roundT Tryz.prog ΓI [] [0, 1, 0, 1, 1] rfI.1 rfI.2 [16, 17] (SI n g m f w y h) (some .dfr) (loI n g m f w es) [] (xb g f k) rec rec' =
      .ite (@decide ((some (some (Ob.raw (.loop rec))) : Option (Option Ob)) = some (some (.raw (.loop rec)))) (Classical.propDecidable _))
        (.ite (gFl f k).r
          (.leaf (.normal, midS (SI n g m f w y h) (loI n g m f w (putE (.bool (gFl f k).r) [.c (.int .i64 (mx2 (lkM es (gFl f k).r) (w64 (w - (gRc g k).x))))] es)) [] (some .dfr) rec' ((SI n g m f w y h).tm.map fun _ => .any), true))
          (.leaf (.normal, midS (SI n g m f w y h) (loI n g m f w (putE (.bool (gFl f k).r) [.c (.int .i64 (mx2 (lkM es (gFl f k).r) (w64 ((gRc g k).x + (gRc g k).w))))] es)) [] (some .dfr) rec' ((SI n g m f w y h).tm.map fun _ => .any), true))) .bad := by kernel_rfl

abbrev besC (n : Nat) (g : Nat → Nat → Q) (m : Nat) (f : Nat → Nat → Q) (w y h : Int) : List V := [sp1 (row3 n g m f w), sp1 (.c (.int .i64 y)), sp1 (.c (.int .i64 h))]
/-- The map of those that lie at some lengths. -/
def insM (g f : Nat → Nat → Q) (w y h : Int) (n : Nat) : List (Value × List Q) := insE g f w (hits g y h n) (hits g y h n).length
def RI (n : Nat) (g : Nat → Nat → Q) (m : Nat) (f : Nat → Nat → Q) (w y h : Int) : Out := .leaf (.normal, outS (SI n g m f w y h) (loI n g m f w (insM g f w y h n)) [])

theorem rangeI (n : Nat) (g : Nat → Nat → Q) (m : Nat) (f : Nat → Nat → Q) (w y h : Int) (hnm : n ≤ m) : ∀ x, (RI n g m f w y h).pick = some x → SemC Tryz.prog (.rangeFunc (.tmp 15) #[16, 17] rfI.1 rfI.2) (SI n g m f w y h) x := by
  intro x hx
  have H : Rounds Tryz.prog ΓI [] [0, 1, 0, 1, 1] rfI.1 rfI.2 (#[16, 17] : Array Nat).toList (SI n g m f w y h) (if (SI n g m f w y h).inr then none else some .dfr) ((SI n g m f w y h).tm.map fun _ => .any)
      (fun k => loI n g m f w (insE g f w (hits g y h n) k)) (fun _ => []) (xB g f y h n) (hits g y h n).length (fun _ => .normal) := by
    refine rounds_of (fun k => Nat.le_refl _) (fun k _ => rfl) fun k hk hn rec rec' => ?_
    refine (congrArg T.pick (roundI n g m f w y h (insE g f w (hits g y h n) k) ((hits g y h n).getD k 0) rec rec')).trans ?_
    rw [pick_same]
    simp only [insE, insP, insN]
    cases qBool (f ((hits g y h n).getD k 0) 2) <;> rfl
  have hc : codeAt (cod Tryz.f90) [0, 1, 0, 1, 1] = some (.rangeFunc (.tmp 15) #[16, 17] rfI.1 rfI.2) := by kernel_rfl
  have hsp : (besideI.s (besC n g m f w y h)).pick = some ((hits g y h n).length, xB g f y h n) := by
    show (T.ite (decide (n ≤ m)) (T.leaf ((hits g y h n).length, xB g f y h n)) .bad).pick = _
    rw [decide_eq_true hnm]; rfl
  cases hx
  exact sem_range ΓI.ok (LamOK.nil _ _) hc (f := 106) (caps := besC n g m f w y h) rfl rfl besideI.ok hsp H rfl rfl ⟨Nat.le_refl _, .inl ⟨rfl, rfl, fun j _ => rfl⟩⟩ trivial (fun d hd => by simp [SI, mkS] at hd)

/-- What a row's insets are: a map that is handed over. -/
def insets.s : Option Ob → List V → T XOut
  | none, [.q (.sp 3 get), .q (.c (.int .i64 y)), .q (.c (.int .i64 h))] => match get 0, get 1, get 2 with
    | .lst [.int .i64, .int .i64, .int .i64, .int .i64] n g, .lst [.int .i64, .int .i64, .bool, .bool] m f, .c (.int .i64 w) => .ite (decide (n ≤ m)) (.leaf ⟨none, some (mapI (insM g f w y h n)), .mp 1⟩) .bad
    | _, _, _ => .bad
  | _, _ => .bad
theorem insets.ok : SpecX Tryz.prog 90 false insets.s := by
  refine specX_of_bodyW (ho := false) ΓI.ok Tryz.func90 (isBody _ (by kernel_rfl)) (by kernel_rfl) fun ls args x hl hb he => ?_
  unfold insets.s at he
  split at he
  · rename_i get y h
    split at he
    · rename_i n g m f w h0 h1 h2
      simp only [T.pick] at he
      cases hnm : decide (n ≤ m) with
      | false => rw [hnm] at he; cases he
      | true =>
        rw [hnm] at he
        cases he
        have hnm' : n ≤ m := by simpa using hnm
        refine ⟨[.q (row3 n g m f w), V.i y, V.i h], [([0, 1, 0, 1, 1], orc false 39 3 [3, 7, 15] (SI n g m f w y h) (RI n g m f w y h))], .sp (fun j hj => by
          rcases (show j = 0 ∨ j = 1 ∨ j = 2 by omega) with rfl | rfl | rfl
          · exact h0
          · exact h1
          · exact h2) .rfl, LamOK.orc (c := .rangeFunc (.tmp 15) #[16, 17] rfI.1 rfI.2) (by kernel_rfl) (rangeI n g m f w y h hnm') (LamOK.nil _ _), ?_⟩
        have e : funX Tryz.prog ΓI [([0, 1, 0, 1, 1], orc false 39 3 [3, 7, 15] (SI n g m f w y h) (RI n g m f w y h))] Tryz.f90 (cod Tryz.f90) false none [.q (row3 n g m f w), V.i y, V.i h] =
            .ite (@decide (SI n g m f w y h = SI n g m f w y h) (Classical.propDecidable _)) (.leaf ⟨none, some (mapI (insM g f w y h n)), .mp 1⟩) .bad := by kernel_rfl
        rw [e, pick_same]; rfl
    · cases he
  · cases he
end Go.Proofs.YthmlbmambcigcaaGreatDoor

/- The functions of float, one by one: a float is placed. -/
namespace Go.Proofs.YthmlbmambcigcaaGreatDoor
open Go Go.SX Go.Proofs
set_option maxRecDepth 100000
variable [EA]
set_option linter.unusedVariables false
set_option linter.unusedSectionVars false
set_option linter.unusedSimpArgs false

/-! ### isTight -/
def tightB (es : List (Value × List Q)) (xw w : Int) : Bool := bif decide (w64 (w64 (lkM es false + lkM es true) + xw) > w) then decide ((es.length : Int) > 0) else false
def tight.s : List V → T V
  | [.q (.sp 1 a), .q (.sp 4 b), .q (.sp 1 c)] => match a 0, b 0, c 0 with
    | .mp (.one .bool) false [.int .i64] es, .c (.int .i64 xw), .sp 3 get => match get 2 with
      | .c (.int .i64 w) => .leaf (V.b (tightB es xw w))
      | _ => .bad
    | _, _, _ => .bad
  | _ => .bad
theorem tight.ok : SpecOK Tryz.prog 91 tight.s := by
  refine specOK_of_bodyW (GOK.nil _) Tryz.func91 (isBody _ (by kernel_rfl)) (by kernel_rfl) fun args r hb he => ?_
  unfold tight.s at he
  split at he
  · rename_i a b c
    split at he
    · rename_i es xw get ha hbb hc
      split at he
      · rename_i w hw
        refine ⟨[sp1 (.mp (.one .bool) false [.int .i64] es), .q (.sp 4 fun j => [Q.c (.int .i64 xw), b 1, b 2, b 3].getD j default), sp1 (.sp 3 fun j => [get 0, get 1, .c (.int .i64 w)].getD j default)], [], ?_, LamOK.nil _ _, ?_⟩
        · intro S w' vs hd
          cases hd with
          | cons _ v1 _ l1 d1 hd =>
            cases hd with
            | cons _ v2 _ l2 d2 hd =>
              cases hd with
              | cons _ v3 _ l3 d3 hd =>
                refine .cons _ _ _ _ (.q _ _ (den_sp1 (fun v hv => hv) ha d1.q_inv)) (.cons _ _ _ _ (.q _ _ (den_sp (fun j hj => ?_) d2.q_inv)) (.cons _ _ _ _ (.q _ _ (den_sp1 (fun v hv => ?_) hc d3.q_inv)) hd))
                · rcases (show j = 0 ∨ j = 1 ∨ j = 2 ∨ j = 3 by omega) with rfl | rfl | rfl | rfl
                  · exact hbb
                  · rfl
                  · rfl
                  · rfl
                · exact den_sp (fun j hj => by
                    rcases (show j = 0 ∨ j = 1 ∨ j = 2 by omega) with rfl | rfl | rfl
                    · rfl
                    · rfl
                    · exact hw) hv
        · have e : ∀ (b1 b2 b3 g0 g1 : Q), funV Tryz.prog [] [] Tryz.f91 (cod Tryz.f91) [sp1 (.mp (.one .bool) false [.int .i64] es), .q (.sp 4 fun j => [Q.c (.int .i64 xw), b1, b2, b3].getD j default), sp1 (.sp 3 fun j => [g0, g1, .c (.int .i64 w)].getD j default)] =
              .leaf (V.b (tightB es xw w)) := fun b1 b2 b3 g0 g1 => by kernel_rfl
          rw [e]; exact he
      · cases he
    · cases he
  · cases he

/-! ### place -/
abbrev ΓPl : Gam := [(40, low.s), (90, .x false insets.s), (91, tight.s), (92, end.s)]
theorem ΓPl.ok : GOK Tryz.prog ΓPl := .cons low.ok (.consX insets.ok (.cons tight.ok (.cons end.ok (GOK.nil _))))
abbrev rowOb (n : Nat) (g : Nat → Nat → Q) (m : Nat) (f : Nat → Nat → Q) (w : Int) : Ob := .cells 86 [.q (.lst ks4 n g), .q (.lst ksF m f), V.i w]
abbrev loPl (n : Nat) (g : Nat → Nat → Q) (m : Nat) (f : Nat → Nat → Q) (w : Int) (x : Fl) (es : List (Value × List Q)) : List (Option Ob) :=
  [some (rowOb n g m f w), some (.cells 79 [.ptr 0 0]), some (.cells 56 [V.i x.w, V.i x.h, V.b x.r, V.b x.c]), some (.cells 56 [V.i x.w, V.i x.h, V.b x.r, V.b false]), some (mapI es), some (.cells 167 [.mp 4])]
def SPl (n : Nat) (g : Nat → Nat → Q) (m : Nat) (f : Nat → Nat → Q) (w : Int) (x : Fl) (y : Int) : St :=
  mkS 113 [(2, .ptr 1 0), (3, .ptr 2 0), (4, V.i y), (7, .ptr 5 0), (8, .clo 91 [.ptr 5 0, .ptr 2 0, .ptr 1 0])] (loPl n g m f w x (insM g f w y x.h n)) [] false [] 1
def FPl (n : Nat) (g : Nat → Nat → Q) (m : Nat) (f : Nat → Nat → Q) (w : Int) (x : Fl) (y : Int) : Ex × St :=
  (.exit 0, mkS 113 [(2, .ptr 1 0), (3, .ptr 2 0), (4, V.i y), (7, .ptr 5 0)] (loPl n g m f w x (insM g f w y x.h n)) [] false [] 1)
def livePl : Ex → List Nat | .normal => [2, 3, 4, 7, 8] | _ => [2, 3, 4, 7]
def mvPl : Ex → List (Nat × Nat) | .normal => [(6, 4)] | _ => []
noncomputable abbrev bodyPl : Code := loopAt Tryz.f64 [0, 0, 1, 1, 1, 1, 1, 1]
/-- Where the next end is. -/
def nextY (n : Nat) (g : Nat → Nat → Q) (y : Int) : Int := bif eB g y n then eS n g y n else 0
def tightY (n : Nat) (g f : Nat → Nat → Q) (w : Int) (x : Fl) (y : Int) : Bool := tightB (insM g f w y x.h n) x.w w

theorem stepPl (n : Nat) (g : Nat → Nat → Q) (m : Nat) (f : Nat → Nat → Q) (w : Int) (x : Fl) (y : Int) :
    (sx Tryz.prog ΓPl [] [0, 0, 0, 1, 1, 1, 1, 1, 1] bodyPl (SPl n g m f w x y)).bind (fun x => T.leaf (x.1, deadS [] (canS 113 6 (livePl x.1) (mvL (mvPl x.1) x.2)), chkM 113 6 (mvL (mvPl x.1) x.2)))
     = .ite (tightY n g f w x y)
        (.ite (decide (n ≤ m)) (.leaf (.normal, SPl n g m f w x (nextY n g y), true)) .bad)
        (.leaf ((FPl n g m f w x y).1, (FPl n g m f w x y).2, true)) := by kernel_rfl

/-- Where it is asked, one time behind the other. -/
def yK (n : Nat) (g : Nat → Nat → Q) (y : Int) : Nat → Int
  | 0 => y
  | k + 1 => nextY n g (yK n g y k)
abbrev StopK (n : Nat) (g f : Nat → Nat → Q) (w : Int) (x : Fl) (y : Int) (k : Nat) : Prop := tightY n g f w x (yK n g y k) = false
noncomputable def lastK (n : Nat) (g f : Nat → Nat → Q) (w : Int) (x : Fl) (y : Int) : Nat := @dite _ (∃ k, StopK n g f w x y k) (Classical.propDecidable _) (fun h => leastOf _ h) (fun _ => 0)
theorem lastK_spec {n : Nat} {g f : Nat → Nat → Q} {w : Int} {x : Fl} {y : Int} (h : ∃ k, StopK n g f w x y k) : StopK n g f w x y (lastK n g f w x y) := by
  unfold lastK
  rw [dif_pos h]
  exact leastOf_spec _ h
theorem lastK_before {n : Nat} {g f : Nat → Nat → Q} {w : Int} {x : Fl} {y : Int} (h : ∃ k, StopK n g f w x y k) {k : Nat} (hk : k < lastK n g f w x y) : tightY n g f w x (yK n g y k) = true := by
  cases ht : tightY n g f w x (yK n g y k) with
  | true => rfl
  | false =>
    unfold lastK at hk
    rw [dif_pos h] at hk
    have := leastOf_le _ h k ht
    omega
/-- Where one is placed that is asked for from y on. -/
noncomputable def finY (n : Nat) (g f : Nat → Nat → Q) (w : Int) (x : Fl) (y : Int) : Int := yK n g y (lastK n g f w x y)

theorem loopPl (n : Nat) (g : Nat → Nat → Q) (m : Nat) (f : Nat → Nat → Q) (w : Int) (x : Fl) (y : Int) (hnm : n ≤ m) (hst : ∃ k, StopK n g f w x y k) :
    ∀ z, (T.leaf (FPl n g m f w x (finY n g f w x y))).pick = some z → SemC Tryz.prog (.loop bodyPl) (SPl n g m f w x y) z := by
  refine loop_treeM ΓPl.ok (root := cod Tryz.f64) (p := [0, 0, 1, 1, 1, 1, 1, 1]) (by kernel_rfl) (fun k => k ≤ lastK n g f w x y) (fun k => SPl n g m f w x (yK n g y k)) (fun k => lastK n g f w x y - k) (.leaf (FPl n g m f w x (finY n g f w x y))) 113 6 livePl (fun _ => []) mvPl (fun k hk => ?_) 0 (Nat.zero_le _)
  have e := stepPl n g m f w x (yK n g y k)
  rcases Nat.lt_or_ge k (lastK n g f w x y) with hlt | hge
  · exact ⟨[], .normal, SPl n g m f w x (yK n g y (k + 1)), LamOK.nil _ _, by rw [e, lastK_before hst hlt, decide_eq_true hnm]; rfl, .inl ⟨rfl, k + 1, hlt, by omega, rfl⟩⟩
  · have hk' : k = lastK n g f w x y := by omega
    subst hk'
    exact ⟨[], .exit 0, _, LamOK.nil _ _, by rw [e, lastK_spec hst]; rfl, .inr ⟨by simp, rfl⟩⟩

def neU (x : Fl) : Bool := !(bif x.w == x.w then (bif x.h == x.h then (bif x.r == x.r then (bif x.c == false then true else false) else false) else false) else false)
theorem neU_eq (x : Fl) : neU x = x.c := by
  unfold neU
  cases x.c <;> simp
abbrev atX (es : List (Value × List Q)) (w : Int) (x : Fl) : Int := bif x.r then mx2 (w64 (w64 (w - lkM es true) - x.w)) 0 else lkM es false
/-- Where the search begins. -/
abbrev yL (n : Nat) (g : Nat → Nat → Q) : Int := (gRc g (w64 ((n : Int) - 1)).toNat).y
noncomputable abbrev finT (n : Nat) (g : Nat → Nat → Q) (m : Nat) (f : Nat → Nat → Q) (w : Int) (x : Fl) (Y a : Int) : T XOut :=
  .ite (decide ((0 : Int) ≤ 0 ∧ (0 : Int) ≤ (n : Int) ∧ (n : Int) ≤ (n : Int) ∧ (n : Int) ≤ (n : Int))) (.ite (decide (n < n + 1) && roomB n 1 32) (.leaf ⟨some (rowOb (n + 1) (catG n (gz g) (one1 ⟨a, Y, x.w, x.h⟩)) m f w), none, .tup []⟩) .bad) .bad
noncomputable abbrev askT (n : Nat) (g : Nat → Nat → Q) (m : Nat) (f : Nat → Nat → Q) (w : Int) (x : Fl) (y Y yb : Int) : T XOut :=
  .ite (decide (n ≤ m)) (.ite (@decide (SPl n g m f w x yb = SPl n g m f w x y) (Classical.propDecidable _))
    (.ite x.r (finT n g m f w x Y (mx2 (w64 (w64 (w - lkM (insM g f w Y x.h n) true) - x.w)) 0)) (finT n g m f w x Y (lkM (insM g f w Y x.h n) false))) .bad) .bad

theorem placeE (n : Nat) (g : Nat → Nat → Q) (m : Nat) (f : Nat → Nat → Q) (w : Int) (x : Fl) (y Y : Int) :
    funX Tryz.prog ΓPl [([0, 0, 1, 1, 1, 1, 1, 1], orc false 113 6 [2, 3, 4, 7, 8] (SPl n g m f w x y) (.leaf (FPl n g m f w x Y)))] Tryz.f64 (cod Tryz.f64) false (some (rowOb n g m f w)) [.ptr 0 0, fv x] =
      .ite (decide ((n : Int) > 0)) (.ite (decide (0 ≤ w64 ((n : Int) - 1) ∧ w64 ((n : Int) - 1) < (n : Int))) (.ite (neU x) (askT n g m f w x y Y (mx2 (yL n g) (lowS g n))) (askT n g m f w x y Y (yL n g))) .bad)
        (.ite (neU x) (askT n g m f w x y Y (mx2 0 (lowS g n))) (askT n g m f w x y Y 0)) := by kernel_rfl

abbrev yB (n : Nat) (g : Nat → Nat → Q) : Int := bif decide ((n : Int) > 0) then yL n g else 0
/-- The least place of one more. -/
def y0 (n : Nat) (g : Nat → Nat → Q) (x : Fl) : Int := bif x.c then mx2 (yB n g) (lowS g n) else yB n g
noncomputable abbrev plY (n : Nat) (g f : Nat → Nat → Q) (w : Int) (x : Fl) : Int := finY n g f w x (y0 n g x)
noncomputable abbrev plR (n : Nat) (g f : Nat → Nat → Q) (w : Int) (x : Fl) : Rc := ⟨atX (insM g f w (plY n g f w x) x.h n) w x, plY n g f w x, x.w, x.h⟩
noncomputable abbrev plG (n : Nat) (g f : Nat → Nat → Q) (w : Int) (x : Fl) : Nat → Nat → Q := catG n (gz g) (one1 (plR n g f w x))
abbrev plOK (n : Nat) (g : Nat → Nat → Q) (m : Nat) (f : Nat → Nat → Q) (w : Int) (x : Fl) : Prop := n ≤ m ∧ n ≤ 1000000 ∧ ∃ k, StopK n g f w x (y0 n g x) k

noncomputable def place.s : Option Ob → List V → T XOut
  | some (.cells t [.q (.lst [.int .i64, .int .i64, .int .i64, .int .i64] n g), .q (.lst [.int .i64, .int .i64, .bool, .bool] m f), .q (.c (.int .i64 w))]), [.ptr 0 0, .agg [.q (.c (.int .i64 xw)), .q (.c (.int .i64 xh)), .q (.c (.bool xr)), .q (.c (.bool xc))]] =>
      if t = 86 then .ite (@decide (plOK n g m f w ⟨xw, xh, xr, xc⟩) (Classical.propDecidable _)) (.leaf ⟨some (rowOb (n + 1) (plG n g f w ⟨xw, xh, xr, xc⟩) m f w), none, .tup []⟩) .bad else .bad
  | _, _ => .bad

theorem place.ok : SpecX Tryz.prog 64 true place.s := by
  refine specX_of_bodyW (ho := false) ΓPl.ok Tryz.func64 (isBody _ (by kernel_rfl)) (by kernel_rfl) fun ls args z hl hb he => ?_
  unfold place.s at he
  split at he
  · rename_i t n g m f w xw xh xr xc
    split at he
    · rename_i ht
      subst ht
      simp only [T.pick] at he
      cases hd : @decide (plOK n g m f w ⟨xw, xh, xr, xc⟩) (Classical.propDecidable _) with
      | false => rw [hd] at he; cases he
      | true =>
        rw [hd] at he
        cases he
        obtain ⟨hnm, hn, hst⟩ := @of_decide_eq_true _ (Classical.propDecidable _) hd
        clear hd
        generalize hx : (⟨xw, xh, xr, xc⟩ : Fl) = x at hst
        have hx' : ([.q (.c (.int .i64 xw)), .q (.c (.int .i64 xh)), .q (.c (.bool xr)), .q (.c (.bool xc))] : List V) = [V.i x.w, V.i x.h, V.b x.r, V.b x.c] := by rw [← hx]
        rw [hx']
        refine ⟨_, [([0, 0, 1, 1, 1, 1, 1, 1], orc false 113 6 [2, 3, 4, 7, 8] (SPl n g m f w x (y0 n g x)) (.leaf (FPl n g m f w x (plY n g f w x))))], .rfl, LamOK.orc (c := .loop bodyPl) (by kernel_rfl) (loopPl n g m f w x (y0 n g x) hnm hst) (LamOK.nil _ _), ?_⟩
        have e := placeE n g m f w x (y0 n g x) (plY n g f w x)
        refine (congrArg T.pick e).trans ?_
        have c1 : decide ((0 : Int) ≤ 0 ∧ (0 : Int) ≤ (n : Int) ∧ (n : Int) ≤ (n : Int) ∧ (n : Int) ≤ (n : Int)) = true := by simp
        have c2 : (decide (n < n + 1) && roomB n 1 32) = true := by simp [roomB]; omega
        have key : ∀ yb, yb = y0 n g x → (askT n g m f w x (y0 n g x) (plY n g f w x) yb).pick = some ⟨some (rowOb (n + 1) (plG n g f w x) m f w), none, .tup []⟩ := fun yb hy => by
          subst hy
          unfold askT finT
          rw [pick_ite, decide_eq_true hnm, cond_true, pick_same, pick_ite, pick_ite, pick_ite, c1, c2]
          simp only [cond_true, pick_leaf, pick_ite, c1, c2, plG, plR, atX]
          cases x.r <;> rfl
        rcases Nat.eq_zero_or_pos n with h0 | hpos
        · have g1 : decide ((n : Int) > 0) = false := by simp [h0]
          have hy : y0 n g x = bif x.c then mx2 0 (lowS g n) else 0 := by simp only [y0, yB, g1, cond_false]
          rw [pick_ite, g1, cond_false, pick_ite, neU_eq]
          cases hc : x.c with
          | true => exact key _ (by rw [hy, hc]; rfl)
          | false => exact key _ (by rw [hy, hc]; rfl)
        · have g1 : decide ((n : Int) > 0) = true := by simp; omega
          have hw : w64 ((n : Int) - 1) = n - 1 := w64_id (by omega) (by omega)
          have g2 : decide (0 ≤ w64 ((n : Int) - 1) ∧ w64 ((n : Int) - 1) < (n : Int)) = true := by rw [hw]; simp; omega
          have hy : y0 n g x = bif x.c then mx2 (yL n g) (lowS g n) else yL n g := by simp only [y0, yB, g1, cond_true]
          rw [pick_ite, g1, cond_true, pick_ite, g2, cond_true, pick_ite, neU_eq]
          cases hc : x.c with
          | true => exact key _ (by rw [hy, hc]; rfl)
          | false => exact key _ (by rw [hy, hc]; rfl)
    · cases he
  · cases he
end Go.Proofs.YthmlbmambcigcaaGreatDoor

/- The functions of float, one by one: all are placed. -/
namespace Go.Proofs.YthmlbmambcigcaaGreatDoor
open Go Go.SX Go.Proofs
set_option maxRecDepth 100000
variable [EA]
set_option linter.unusedVariables false
set_option linter.unusedSectionVars false
set_option linter.unusedSimpArgs false

/-- The first i, placed. -/
noncomputable def gP (f : Nat → Nat → Q) (w : Int) : Nat → Nat → Nat → Q
  | 0 => fun _ _ => default
  | i + 1 => plG i (gP f w i) f w (gFl f i)
abbrev errFV : V := .q (.c (errP 0))
noncomputable abbrev ΓQ : Gam := [(53, fRight.s), (64, .x true place.s), (1 + 1048576, .g (errP 0))]
theorem ΓQ.ok : GOK Tryz.prog ΓQ := .cons fRight.ok (.consX place.ok (.consG gl_float (GOK.nil _)))

def SQ (n : Nat) (g : Nat → Nat → Q) (m : Nat) (f : Nat → Nat → Q) (w : Int) (i : Int) : St := mkS 29 [(6, .ptr 0 0), (18, lstF m f), (19, V.i m), (20, V.i i)] [some (rowOb n g m f w)] [] false [] 0
def FQ (n : Nat) (g : Nat → Nat → Q) (m : Nat) (f : Nat → Nat → Q) (w : Int) : Ex × St := (.exit 0, mkS 29 [(6, .ptr 0 0)] [some (rowOb n g m f w)] [] false [] 0)
def liveQ : Ex → List Nat | .normal => [6, 18, 19, 20] | _ => [6]
noncomputable abbrev bodyQ : Code := loopAt Tryz.f38 [0, 1, 0, 1, 1, 1]
theorem stepQ (n : Nat) (g : Nat → Nat → Q) (m : Nat) (f : Nat → Nat → Q) (w : Int) (i : Nat) :
    (sx Tryz.prog ΓQ [] [0, 0, 1, 0, 1, 1, 1] bodyQ (SQ n g m f w i)).bind (fun x => T.leaf (x.1, deadS [] (canS 29 1 (liveQ x.1) x.2), chkM 29 1 x.2))
     = .ite (decide ((i : Int) < m)) (.ite (decide (0 ≤ (i : Int) ∧ (i : Int) < m)) (.ite (@decide (plOK n g m f w (gFl f i)) (Classical.propDecidable _)) (.leaf (.normal, SQ (n + 1) (plG n g f w (gFl f i)) m f w (w64 (i + 1)), true)) .bad) .bad)
        (.leaf ((FQ n g m f w).1, (FQ n g m f w).2, true)) := by kernel_rfl
abbrev allPl (m : Nat) (f : Nat → Nat → Q) (w : Int) : Prop := ∀ i, i < m → plOK i (gP f w i) m f w (gFl f i)
theorem loopQ (m : Nat) (f : Nat → Nat → Q) (w : Int) (hn : m ≤ 9223372036854775807) (hall : allPl m f w) : ∀ x, (T.leaf (FQ m (gP f w m) m f w)).pick = some x → SemC Tryz.prog (.loop bodyQ) (SQ 0 (gP f w 0) m f w 0) x := by
  refine loop_tree ΓQ.ok (root := cod Tryz.f38) (p := [0, 1, 0, 1, 1, 1]) (by kernel_rfl) (fun i => i ≤ m) (fun i => SQ i (gP f w i) m f w i) (fun i => m - i) (.leaf (FQ m (gP f w m) m f w)) 29 1 liveQ (fun _ => []) (fun i hi => ?_) 0 (Nat.zero_le _)
  have e := stepQ i (gP f w i) m f w i
  rcases Nat.lt_or_ge i m with hlt | hge
  · exact ⟨[], .normal, SQ (i + 1) (gP f w (i + 1)) m f w (i + 1 : Nat), LamOK.nil _ _, by rw [e, c_lt hlt, c_in hlt, w64_suc hlt hn, pick_ite, cond_true, pick_ite, cond_true, pick_ite, @decide_eq_true _ (Classical.propDecidable _) (hall i hlt)]; rfl, .inl ⟨rfl, i + 1, hlt, by omega, rfl⟩⟩
  · exact ⟨[], .exit 0, _, LamOK.nil _ _, by rw [e, c_ge hge]; rfl, .inr ⟨by simp, by rw [show m = i by omega]; rfl⟩⟩

noncomputable abbrev placed.s := spFW fun m f w => .ite (rightF m f w) (.ite (@decide (allPl m f w) (Classical.propDecidable _)) (.leaf (.tup [.q (row3 m (gP f w m) m f w), nilE])) .bad) (.leaf (.tup [.q (.c (.pointer none)), errFV]))
theorem placed.ok : SpecOK Tryz.prog 38 placed.s := by
  refine okFW ΓQ.ok Tryz.func38 (by kernel_rfl) (by kernel_rfl) fun m f w v hb hv => ?_
  by_cases hall : allPl m f w
  · refine ⟨[([0, 1, 0, 1, 1, 1], orcP (nilC 0 0 ks4) false 29 1 [6, 18, 19, 20] (SQ 0 (gP f w 0) m f w 0) (.leaf (FQ m (gP f w m) m f w)))], LamOK.orcP (fun s => sub_nilC _ _ _ s) (c := .loop bodyQ) (by kernel_rfl) (loopQ m f w hb hall) (LamOK.nil _ _), ?_⟩
    have e : ∀ g : Nat → Nat → Q, funV Tryz.prog ΓQ [([0, 1, 0, 1, 1, 1], orcP (nilC 0 0 ks4) false 29 1 [6, 18, 19, 20] (SQ 0 (gP f w 0) m f w 0) (.leaf (FQ m g m f w)))] Tryz.f38 (cod Tryz.f38) [lstF m f, V.i w] =
        .ite (!(rightF m f w)) (.leaf (.tup [.q (.c (.pointer none)), errFV])) (.ite (@decide (SQ 0 (gP f w 0) m f w 0 = SQ 0 (gP f w 0) m f w 0) (Classical.propDecidable _)) (.leaf (.tup [.q (row3 m g m f w), nilE])) .bad) := fun g => by kernel_rfl
    rw [e, ← hv, pick_ite, pick_same, pick_ite, pick_ite, @decide_eq_true _ (Classical.propDecidable _) hall]
    cases rightF m f w <;> rfl
  · refine ⟨[], LamOK.nil _ _, ?_⟩
    have e : funV Tryz.prog ΓQ [] Tryz.f38 (cod Tryz.f38) [lstF m f, V.i w] = .ite (!(rightF m f w)) (.leaf (.tup [.q (.c (.pointer none)), errFV])) .bad := by kernel_rfl
    rw [e, ← hv, pick_ite, pick_ite, pick_ite, @decide_eq_false _ (Classical.propDecidable _) hall]
    cases rightF m f w <;> rfl
end Go.Proofs.YthmlbmambcigcaaGreatDoor

/- The document's answer for floats, one by one: what is asked at one place. -/
namespace Go.Proofs.YthmlbmambcigcaaGreatDoor
open Go Go.SX Go.Proofs
set_option maxRecDepth 100000
variable [EA]
set_option linter.unusedVariables false
set_option linter.unusedSectionVars false
set_option linter.unusedSimpArgs false

def sizeB (a : Int) : Bool := bif decide (a ≥ 0) then decide (a ≤ 1048576) else false
def rsize.s : List V → T V
  | [.q (.c (.int .i64 a))] => .leaf (V.b (sizeB a))
  | _ => .bad
theorem rsize.ok : SpecOK Tryz.prog 82 rsize.s := by
  refine specOK_of_body (GOK.nil _) (LamOK.nil _ _) Tryz.func82 (isBody _ (by kernel_rfl)) (by kernel_rfl) fun args r h => ?_
  unfold rsize.s at h
  split at h
  · rename_i a
    have e : funV Tryz.prog [] [] Tryz.f82 (cod Tryz.f82) [V.i a] = .leaf (V.b (sizeB a)) := by kernel_rfl
    rw [e]; exact h
  · cases h

/-! ### Right -/
def okS (x : Fl) : Bool := bif sizeB x.w then sizeB x.h else false
def allS (m : Nat) (f : Nat → Nat → Q) : Bool := (List.range m).all fun i => okS (gFl f i)
theorem allS_false {n : Nat} {g : Nat → Nat → Q} {i : Nat} (hi : i < n) (h : okS (gFl g i) = false) : allS n g = false := by
  rw [allS, List.all_eq_false]
  exact ⟨i, List.mem_range.2 hi, by rw [h]; simp⟩
theorem allS_true {n : Nat} {g : Nat → Nat → Q} (h : ∀ i, i < n → okS (gFl g i) = true) : allS n g = true := by
  rw [allS, List.all_eq_true]
  exact fun i hi => h i (List.mem_range.1 hi)
def fl_SRr (m : Nat) (f : Nat → Nat → Q) (w : Int) (i : Int) : St := mkS 35 [(0, lstF m f), (1, V.i w), (5, V.i i)] [] [] false [] 0
def fl_RRr (m : Nat) (f : Nat → Nat → Q) (w : Int) : Out := .ite (allS m f) (.leaf (.exit 0, mkS 35 [(0, lstF m f), (1, V.i w)] [] [] false [] 0)) (.leaf (.ret, mkS 35 [(4, V.b false)] [] [] false [] 0))
def fl_liveRr : Ex → List Nat | .normal => [0, 1, 5] | .ret => [4] | _ => [0, 1]
noncomputable abbrev fl_bodyRr : Code := loopAt Tryz.f59 [0, 1, 0, 1]
abbrev ΓS : Gam := [(82, rsize.s)]
theorem ΓS.ok : GOK Tryz.prog ΓS := .cons rsize.ok (GOK.nil _)
abbrev retRr : T (Ex × St × Bool) := .leaf (.ret, mkS 35 [(4, V.b false)] [] [] false [] 0, true)
theorem fl_stepRr (m : Nat) (f : Nat → Nat → Q) (w : Int) (i : Nat) :
    (sx Tryz.prog ΓS [] [0, 0, 1, 0, 1] fl_bodyRr (fl_SRr m f w i)).bind (fun x => T.leaf (x.1, deadS [] (canS 35 0 (fl_liveRr x.1) x.2), chkM 35 0 x.2))
     = .ite (decide ((i : Int) < m)) (.ite (decide (0 ≤ (i : Int) ∧ (i : Int) < m)) (.ite (!(sizeB (gFl f i).w)) retRr (.ite (decide (0 ≤ (i : Int) ∧ (i : Int) < m)) (.ite (!(sizeB (gFl f i).h)) retRr (.leaf (.normal, fl_SRr m f w (w64 (i + 1)), true))) .bad)) .bad)
        (.leaf (.exit 0, mkS 35 [(0, lstF m f), (1, V.i w)] [] [] false [] 0, true)) := by kernel_rfl
theorem fl_loopRr (m : Nat) (f : Nat → Nat → Q) (w : Int) (hn : m ≤ 9223372036854775807) : ∀ x, (fl_RRr m f w).pick = some x → SemC Tryz.prog (.loop fl_bodyRr) (fl_SRr m f w 0) x := by
  refine loop_tree ΓS.ok (root := cod Tryz.f59) (p := [0, 1, 0, 1]) (by kernel_rfl) (fun i => i ≤ m ∧ ∀ j, j < i → okS (gFl f j) = true) (fun i => fl_SRr m f w i) (fun i => m - i) (fl_RRr m f w) 35 0 fl_liveRr (fun _ => []) (fun i hi => ?_) 0 ⟨Nat.zero_le _, fun j hj => absurd hj (Nat.not_lt_zero _)⟩
  obtain ⟨hi, hall⟩ := hi
  have e := fl_stepRr m f w i
  rcases Nat.lt_or_ge i m with hlt | hge
  · rw [c_lt hlt, c_in hlt] at e
    cases h1 : sizeB (gFl f i).w with
    | false => exact ⟨[], .ret, _, LamOK.nil _ _, by rw [e, h1]; rfl, .inr ⟨by simp, by rw [fl_RRr, allS_false hlt (by unfold okS; rw [h1]; rfl)]; rfl⟩⟩
    | true =>
      cases h2 : sizeB (gFl f i).h with
      | false => exact ⟨[], .ret, _, LamOK.nil _ _, by rw [e, h1, h2]; rfl, .inr ⟨by simp, by rw [fl_RRr, allS_false hlt (by unfold okS; rw [h1, h2]; rfl)]; rfl⟩⟩
      | true =>
        refine ⟨[], .normal, _, LamOK.nil _ _, by rw [e, h1, h2]; rfl, .inl ⟨rfl, i + 1, ⟨hlt, fun j hj => ?_⟩, by omega, by rw [w64_suc hlt hn]⟩⟩
        rcases Nat.lt_or_ge j i with h | h
        · exact hall j h
        · rw [show j = i by omega]; unfold okS; rw [h1, h2]; rfl
  · refine ⟨[], .exit 0, _, LamOK.nil _ _, by rw [e, c_ge hge]; rfl, .inr ⟨by simp, by rw [fl_RRr, allS_true fun j hj => hall j (by omega)]; rfl⟩⟩
def rightS (m : Nat) (f : Nat → Nat → Q) (w : Int) : Bool := bif allS m f then (bif sizeB w then decide ((m : Int) ≤ 20) else false) else false
abbrev fl_rRight.s := spFW fun m f w => .leaf (V.b (rightS m f w))
theorem fl_rRight.ok : SpecOK Tryz.prog 59 fl_rRight.s := by
  refine okFW ΓS.ok Tryz.func59 (by kernel_rfl) (by kernel_rfl) fun m f w v hb hv => ?_
  refine ⟨[([0, 1, 0, 1], orc false 35 0 [0, 1, 5] (fl_SRr m f w 0) (fl_RRr m f w))], LamOK.orc (c := .loop fl_bodyRr) (by kernel_rfl) (fl_loopRr m f w hb) (LamOK.nil _ _), ?_⟩
  have e : funV Tryz.prog ΓS [([0, 1, 0, 1], orc false 35 0 [0, 1, 5] (fl_SRr m f w 0) (fl_RRr m f w))] Tryz.f59 (cod Tryz.f59) [lstF m f, V.i w] =
      .ite (@decide (fl_SRr m f w 0 = fl_SRr m f w 0) (Classical.propDecidable _)) (.ite (allS m f) (.leaf (V.b (bif sizeB w then decide ((m : Int) ≤ 20) else false))) (.leaf (V.b false))) .bad := by kernel_rfl
  rw [e, pick_same, ← hv]
  unfold rightS
  cases allS m f <;> rfl

/-! ### insets -/
def skipB (r : Rc) (y h : Int) : Bool := bif r.w == 0 then true else (bif r.h == 0 then true else (bif decide (r.y ≥ w64 (y + mx2 h 1)) then true else decide (y ≥ w64 (r.y + r.h))))
def rI (g f : Nat → Nat → Q) (w y h : Int) (b : Bool) : Nat → Int
  | 0 => 0
  | i + 1 => bif skipB (gRc g i) y h then rI g f w y h b i else (bif (gFl f i).r == b then mx2 (rI g f w y h b i) (insN w (gRc g i) b) else rI g f w y h b i)
def SIr (n : Nat) (g : Nat → Nat → Q) (m : Nat) (f : Nat → Nat → Q) (w y h l r : Int) (i : Int) : St := mkS 72 [(0, lstF m f), (1, lst4 n g), (2, V.i w), (3, V.i y), (4, V.i h), (12, V.i l), (13, V.i r), (14, V.i i)] [] [] false [] 0
def FIr (l r : Int) : Ex × St := (.exit 0, mkS 72 [(12, V.i l), (13, V.i r)] [] [] false [] 0)
def liveIr : Ex → List Nat | .normal => [0, 1, 2, 3, 4, 12, 13, 14] | _ => [12, 13]
noncomputable abbrev bodyIr : Code := loopAt Tryz.f83 [0, 1, 0, 1, 1, 1]
theorem stepIr (n : Nat) (g : Nat → Nat → Q) (m : Nat) (f : Nat → Nat → Q) (w y h l r : Int) (i : Nat) :
    (sx Tryz.prog [] [] [0, 0, 1, 0, 1, 1, 1] bodyIr (SIr n g m f w y h l r i)).bind (fun x => T.leaf (x.1, deadS [] (canS 72 0 (liveIr x.1) x.2), chkM 72 0 x.2))
     = .ite (decide ((i : Int) < n)) (.ite (decide (0 ≤ (i : Int) ∧ (i : Int) < n)) (.ite (skipB (gRc g i) y h) (.leaf (.normal, SIr n g m f w y h l r (w64 (i + 1)), true))
          (.ite (decide (0 ≤ (i : Int) ∧ (i : Int) < m)) (.ite (gFl f i).r (.leaf (.normal, SIr n g m f w y h l (mx2 r (w64 (w - (gRc g i).x))) (w64 (i + 1)), true)) (.leaf (.normal, SIr n g m f w y h (mx2 l (w64 ((gRc g i).x + (gRc g i).w))) r (w64 (i + 1)), true))) .bad)) .bad)
        (.leaf ((FIr l r).1, (FIr l r).2, true)) := by kernel_rfl
theorem loopIr (n : Nat) (g : Nat → Nat → Q) (m : Nat) (f : Nat → Nat → Q) (w y h : Int) (hn : n ≤ 9223372036854775807) (hnm : n ≤ m) : ∀ x, (T.leaf (FIr (rI g f w y h false n) (rI g f w y h true n))).pick = some x → SemC Tryz.prog (.loop bodyIr) (SIr n g m f w y h 0 0 0) x := by
  refine loop_tree (GOK.nil _) (root := cod Tryz.f83) (p := [0, 1, 0, 1, 1, 1]) (by kernel_rfl) (fun i => i ≤ n) (fun i => SIr n g m f w y h (rI g f w y h false i) (rI g f w y h true i) i) (fun i => n - i) (.leaf (FIr (rI g f w y h false n) (rI g f w y h true n))) 72 0 liveIr (fun _ => []) (fun i hi => ?_) 0 (Nat.zero_le _)
  have e := stepIr n g m f w y h (rI g f w y h false i) (rI g f w y h true i) i
  rcases Nat.lt_or_ge i n with hlt | hge
  · refine ⟨[], .normal, SIr n g m f w y h (rI g f w y h false (i + 1)) (rI g f w y h true (i + 1)) (i + 1 : Nat), LamOK.nil _ _, ?_, .inl ⟨rfl, i + 1, hlt, by omega, rfl⟩⟩
    rw [e, c_lt hlt, c_in hlt, c_in (show i < m by omega), w64_suc hlt hn]
    simp only [rI]
    cases skipB (gRc g i) y h with
    | true => rfl
    | false => cases hr : qBool (f i 2) <;> rfl
  · exact ⟨[], .exit 0, _, LamOK.nil _ _, by rw [e, c_ge hge]; rfl, .inr ⟨by simp, by rw [show n = i by omega]; rfl⟩⟩
def rinsets.s : List V → T V
  | [.q (.lst [.int .i64, .int .i64, .bool, .bool] m f), .q (.lst [.int .i64, .int .i64, .int .i64, .int .i64] n g), .q (.c (.int .i64 w)), .q (.c (.int .i64 y)), .q (.c (.int .i64 h))] =>
      .ite (decide (n ≤ m)) (.leaf (.tup [V.i (rI g f w y h false n), V.i (rI g f w y h true n)])) .bad
  | _ => .bad
theorem rinsets.ok : SpecOK Tryz.prog 83 rinsets.s := by
  refine specOK_of_bodyW (GOK.nil _) Tryz.func83 (isBody _ (by kernel_rfl)) (by kernel_rfl) fun args r hb he => ?_
  unfold rinsets.s at he
  split at he
  · rename_i m f n g w y h
    simp only [T.pick] at he
    cases hnm : decide (n ≤ m) with
    | false => rw [hnm] at he; cases he
    | true =>
      rw [hnm] at he
      have hn : n ≤ 9223372036854775807 := (hb (lst4 n g) (by simp)).1
      refine ⟨_, [([0, 1, 0, 1, 1, 1], orc false 72 0 [0, 1, 2, 3, 4, 12, 13, 14] (SIr n g m f w y h 0 0 0) (.leaf (FIr (rI g f w y h false n) (rI g f w y h true n))))], fun _ _ _ x => x, LamOK.orc (c := .loop bodyIr) (by kernel_rfl) (loopIr n g m f w y h hn (by simpa using hnm)) (LamOK.nil _ _), ?_⟩
      have e : funV Tryz.prog [] [([0, 1, 0, 1, 1, 1], orc false 72 0 [0, 1, 2, 3, 4, 12, 13, 14] (SIr n g m f w y h 0 0 0) (.leaf (FIr (rI g f w y h false n) (rI g f w y h true n))))] Tryz.f83 (cod Tryz.f83) [lstF m f, lst4 n g, V.i w, V.i y, V.i h] =
          .ite (@decide (SIr n g m f w y h 0 0 0 = SIr n g m f w y h 0 0 0) (Classical.propDecidable _)) (.leaf (.tup [V.i (rI g f w y h false n), V.i (rI g f w y h true n)])) .bad := by kernel_rfl
      rw [e, pick_same]; exact he
  · cases he

/-! ### ends -/
def fl_takeB (e y b : Int) (ok : Bool) : Bool := bif decide (e > y) then (bif !ok then true else decide (e < b)) else false
def rEb (g : Nat → Nat → Q) (y : Int) : Nat → Int × Bool
  | 0 => (0, false)
  | i + 1 => bif fl_takeB (lowE (gRc g i)) y (rEb g y i).1 (rEb g y i).2 then (lowE (gRc g i), true) else rEb g y i
def SEr (n : Nat) (g : Nat → Nat → Q) (y b : Int) (ok : Bool) (i : Int) : St := mkS 42 [(0, lst4 n g), (1, V.i y), (6, V.i b), (7, V.b ok), (8, V.i i)] [] [] false [] 0
def FEr (b : Int) (ok : Bool) : Ex × St := (.exit 0, mkS 42 [(6, V.i b), (7, V.b ok)] [] [] false [] 0)
def liveEr : Ex → List Nat | .normal => [0, 1, 6, 7, 8] | _ => [6, 7]
noncomputable abbrev bodyEr : Code := loopAt Tryz.f89 [0, 1, 0, 1, 1, 1]
theorem stepEr (n : Nat) (g : Nat → Nat → Q) (y b : Int) (ok : Bool) (i : Nat) :
    (sx Tryz.prog [] [] [0, 0, 1, 0, 1, 1, 1] bodyEr (SEr n g y b ok i)).bind (fun x => T.leaf (x.1, deadS [] (canS 42 0 (liveEr x.1) x.2), chkM 42 0 x.2))
     = .ite (decide ((i : Int) < n)) (.ite (decide (0 ≤ (i : Int) ∧ (i : Int) < n)) (.ite (decide (0 ≤ (i : Int) ∧ (i : Int) < n)) (.ite (fl_takeB (lowE (gRc g i)) y b ok) (.leaf (.normal, SEr n g y (lowE (gRc g i)) true (w64 (i + 1)), true)) (.leaf (.normal, SEr n g y b ok (w64 (i + 1)), true))) .bad) .bad)
        (.leaf ((FEr b ok).1, (FEr b ok).2, true)) := by kernel_rfl
theorem loopEr (n : Nat) (g : Nat → Nat → Q) (y : Int) (hn : n ≤ 9223372036854775807) : ∀ x, (T.leaf (FEr (rEb g y n).1 (rEb g y n).2)).pick = some x → SemC Tryz.prog (.loop bodyEr) (SEr n g y 0 false 0) x := by
  refine loop_tree (GOK.nil _) (root := cod Tryz.f89) (p := [0, 1, 0, 1, 1, 1]) (by kernel_rfl) (fun i => i ≤ n) (fun i => SEr n g y (rEb g y i).1 (rEb g y i).2 i) (fun i => n - i) (.leaf (FEr (rEb g y n).1 (rEb g y n).2)) 42 0 liveEr (fun _ => []) (fun i hi => ?_) 0 (Nat.zero_le _)
  have e := stepEr n g y (rEb g y i).1 (rEb g y i).2 i
  rcases Nat.lt_or_ge i n with hlt | hge
  · refine ⟨[], .normal, SEr n g y (rEb g y (i + 1)).1 (rEb g y (i + 1)).2 (i + 1 : Nat), LamOK.nil _ _, ?_, .inl ⟨rfl, i + 1, hlt, by omega, rfl⟩⟩
    rw [e, c_lt hlt, c_in hlt, w64_suc hlt hn]
    simp only [rEb]
    cases fl_takeB (lowE (gRc g i)) y (rEb g y i).1 (rEb g y i).2 <;> rfl
  · exact ⟨[], .exit 0, _, LamOK.nil _ _, by rw [e, c_ge hge]; rfl, .inr ⟨by simp, by rw [show n = i by omega]; rfl⟩⟩
def rends.s : List V → T V
  | [.q (.lst [.int .i64, .int .i64, .int .i64, .int .i64] n g), .q (.c (.int .i64 y))] => .leaf (.tup [V.i (rEb g y n).1, V.b (rEb g y n).2])
  | _ => .bad
theorem rends.ok : SpecOK Tryz.prog 89 rends.s := by
  refine specOK_of_bodyW (GOK.nil _) Tryz.func89 (isBody _ (by kernel_rfl)) (by kernel_rfl) fun args r hb he => ?_
  unfold rends.s at he
  split at he
  · rename_i n g y
    have hn : n ≤ 9223372036854775807 := (hb (lst4 n g) (by simp)).1
    refine ⟨_, [([0, 1, 0, 1, 1, 1], orc false 42 0 [0, 1, 6, 7, 8] (SEr n g y 0 false 0) (.leaf (FEr (rEb g y n).1 (rEb g y n).2)))], fun _ _ _ x => x, LamOK.orc (c := .loop bodyEr) (by kernel_rfl) (loopEr n g y hn) (LamOK.nil _ _), ?_⟩
    have e : ∀ (b : Int) (ok : Bool), funV Tryz.prog [] [([0, 1, 0, 1, 1, 1], orc false 42 0 [0, 1, 6, 7, 8] (SEr n g y 0 false 0) (.leaf (FEr b ok)))] Tryz.f89 (cod Tryz.f89) [lst4 n g, V.i y] =
        .ite (@decide (SEr n g y 0 false 0 = SEr n g y 0 false 0) (Classical.propDecidable _)) (.leaf (.tup [V.i b, V.b ok])) .bad := fun b ok => by kernel_rfl
    rw [e, pick_same]; exact he
  · cases he
end Go.Proofs.YthmlbmambcigcaaGreatDoor

/- The document's answer for floats, one by one: where one may be placed. -/
namespace Go.Proofs.YthmlbmambcigcaaGreatDoor
open Go Go.SX Go.Proofs
set_option maxRecDepth 100000
variable [EA]
set_option linter.unusedVariables false
set_option linter.unusedSectionVars false
set_option linter.unusedSimpArgs false

/-! ### beside -/
def besB (r : Rc) (y h : Int) : Bool := bif decide (r.w > 0) then (bif decide (r.h > 0) then (bif decide (r.y < w64 (y + mx2 h 1)) then decide (y < w64 (r.y + r.h)) else false) else false) else false
def anyBes (n : Nat) (g : Nat → Nat → Q) (y h : Int) : Bool := (List.range n).any fun i => besB (gRc g i) y h
theorem anyBes_true {n : Nat} {g : Nat → Nat → Q} {y h : Int} {i : Nat} (hi : i < n) (hh : besB (gRc g i) y h = true) : anyBes n g y h = true := by
  rw [anyBes, List.any_eq_true]
  exact ⟨i, List.mem_range.2 hi, hh⟩
theorem anyBes_false {n : Nat} {g : Nat → Nat → Q} {y h : Int} (hh : ∀ i, i < n → besB (gRc g i) y h = false) : anyBes n g y h = false := by
  rw [anyBes, List.any_eq_false]
  exact fun i hi => by rw [hh i (List.mem_range.1 hi)]; simp
def SBr (n : Nat) (g : Nat → Nat → Q) (y h : Int) (i : Int) : St := mkS 55 [(0, lst4 n g), (1, V.i y), (2, V.i h), (7, V.i i)] [] [] false [] 0
def RBr (n : Nat) (g : Nat → Nat → Q) (y h : Int) : Out := .ite (anyBes n g y h) (.leaf (.ret, mkS 55 [(6, V.b true)] [] [] false [] 0)) (.leaf (.exit 0, mkS 55 [] [] [] false [] 0))
def liveBr : Ex → List Nat | .normal => [0, 1, 2, 7] | .ret => [6] | _ => []
noncomputable abbrev bodyBr : Code := loopAt Tryz.f102 [0, 1, 0, 1]
def okBr (n : Nat) (g : Nat → Nat → Q) (y h : Int) (i : Nat) : Bool :=
  bif inI i n then (bif decide ((gRc g i).w > 0) then (bif inI i n then (bif decide ((gRc g i).h > 0) then (bif inI i n then (bif decide ((gRc g i).y < w64 (y + mx2 h 1)) then (bif inI i n then (bif inI i n then true else false) else false) else true) else false) else true) else false) else true) else false
theorem stepBr (n : Nat) (g : Nat → Nat → Q) (y h : Int) (i : Nat) :
    (sx Tryz.prog [] [] [0, 0, 1, 0, 1] bodyBr (SBr n g y h i)).bind (fun x => T.leaf (x.1, deadS [] (canS 55 0 (liveBr x.1) x.2), chkM 55 0 x.2))
     = .ite (decide ((i : Int) < n)) (.ite (okBr n g y h i) (.ite (besB (gRc g i) y h) (.leaf (.ret, mkS 55 [(6, V.b true)] [] [] false [] 0, true)) (.leaf (.normal, SBr n g y h (w64 (i + 1)), true))) .bad)
        (.leaf (.exit 0, mkS 55 [] [] [] false [] 0, true)) := by kernel_rfl
theorem loopBr (n : Nat) (g : Nat → Nat → Q) (y h : Int) (hn : n ≤ 9223372036854775807) : ∀ x, (RBr n g y h).pick = some x → SemC Tryz.prog (.loop bodyBr) (SBr n g y h 0) x := by
  refine loop_tree (GOK.nil _) (root := cod Tryz.f102) (p := [0, 1, 0, 1]) (by kernel_rfl) (fun i => i ≤ n ∧ ∀ j, j < i → besB (gRc g j) y h = false) (fun i => SBr n g y h i) (fun i => n - i) (RBr n g y h) 55 0 liveBr (fun _ => []) (fun i hi => ?_) 0 ⟨Nat.zero_le _, fun j hj => absurd hj (Nat.not_lt_zero _)⟩
  obtain ⟨hi, hall⟩ := hi
  have e := stepBr n g y h i
  rcases Nat.lt_or_ge i n with hlt | hge
  · have ho : okBr n g y h i = true := by
      unfold okBr inI
      rw [c_in hlt]
      cases decide ((gRc g i).w > 0) <;> cases decide ((gRc g i).h > 0) <;> cases decide ((gRc g i).y < w64 (y + mx2 h 1)) <;> rfl
    cases hr : besB (gRc g i) y h with
    | true => exact ⟨[], .ret, _, LamOK.nil _ _, by rw [e, c_lt hlt, ho, hr]; rfl, .inr ⟨by simp, by rw [RBr, anyBes_true hlt hr]; rfl⟩⟩
    | false =>
      refine ⟨[], .normal, _, LamOK.nil _ _, by rw [e, c_lt hlt, ho, hr]; rfl, .inl ⟨rfl, i + 1, ⟨hlt, fun j hj => ?_⟩, by omega, by rw [w64_suc hlt hn]⟩⟩
      rcases Nat.lt_or_ge j i with h' | h'
      · exact hall j h'
      · rw [show j = i by omega]; exact hr
  · refine ⟨[], .exit 0, _, LamOK.nil _ _, by rw [e, c_ge hge]; rfl, .inr ⟨by simp, by rw [RBr, anyBes_false fun j hj => hall j (by omega)]; rfl⟩⟩
def rbeside.s : List V → T V
  | [.q (.lst [.int .i64, .int .i64, .int .i64, .int .i64] n g), .q (.c (.int .i64 y)), .q (.c (.int .i64 h))] => .leaf (V.b (anyBes n g y h))
  | _ => .bad
theorem rbeside.ok : SpecOK Tryz.prog 102 rbeside.s := by
  refine specOK_of_bodyW (GOK.nil _) Tryz.func102 (isBody _ (by kernel_rfl)) (by kernel_rfl) fun args r hb he => ?_
  unfold rbeside.s at he
  split at he
  · rename_i n g y h
    have hn : n ≤ 9223372036854775807 := (hb (lst4 n g) (by simp)).1
    refine ⟨_, [([0, 1, 0, 1], orc false 55 0 [0, 1, 2, 7] (SBr n g y h 0) (RBr n g y h))], fun _ _ _ x => x, LamOK.orc (c := .loop bodyBr) (by kernel_rfl) (loopBr n g y h hn) (LamOK.nil _ _), ?_⟩
    have e : funV Tryz.prog [] [([0, 1, 0, 1], orc false 55 0 [0, 1, 2, 7] (SBr n g y h 0) (RBr n g y h))] Tryz.f102 (cod Tryz.f102) [lst4 n g, V.i y, V.i h] =
        .ite (@decide (SBr n g y h 0 = SBr n g y h 0) (Classical.propDecidable _)) (.ite (anyBes n g y h) (.leaf (V.b true)) (.leaf (V.b false))) .bad := by kernel_rfl
    rw [e, pick_same, ← he]
    cases anyBes n g y h <;> rfl
  · cases he

/-! ### least -/
def lE (g : Nat → Nat → Q) (y : Int) : Nat → Int
  | 0 => y
  | i + 1 => mx2 (lE g y i) (lowE (gRc g i))
def SLe (n : Nat) (g : Nat → Nat → Q) (x : Fl) (y : Int) (i : Int) : St := mkS 41 [(1, lst4 n g), (2, .ptr 0 0), (5, V.i y), (6, V.i i)] [some (.cells 56 [V.i x.w, V.i x.h, V.b x.r, V.b x.c])] [] false [] 0
def FLe (x : Fl) (y : Int) : Ex × St := (.exit 0, mkS 41 [(5, V.i y)] [some (.cells 56 [V.i x.w, V.i x.h, V.b x.r, V.b x.c])] [] false [] 0)
def liveLe : Ex → List Nat | .normal => [1, 2, 5, 6] | _ => [5]
noncomputable abbrev bodyLe : Code := loopAt Tryz.f87 [0, 1, 0, 1, 1, 1]
theorem stepLe (n : Nat) (g : Nat → Nat → Q) (x : Fl) (y : Int) (i : Nat) :
    (sx Tryz.prog [] [] [0, 0, 1, 0, 1, 1, 1] bodyLe (SLe n g x y i)).bind (fun x => T.leaf (x.1, deadS [] (canS 41 1 (liveLe x.1) x.2), chkM 41 1 x.2))
     = .ite (bif decide ((i : Int) < n) then x.c else false) (.ite (inI i n) (.ite (inI i n) (.leaf (.normal, SLe n g x (mx2 y (lowE (gRc g i))) (w64 (i + 1)), true)) .bad) .bad)
        (.leaf ((FLe x y).1, (FLe x y).2, true)) := by kernel_rfl
def leY (n : Nat) (g : Nat → Nat → Q) (x : Fl) (y : Int) : Int := bif x.c then lE g y n else y
theorem loopLe (n : Nat) (g : Nat → Nat → Q) (x : Fl) (y : Int) (hn : n ≤ 9223372036854775807) : ∀ z, (T.leaf (FLe x (leY n g x y))).pick = some z → SemC Tryz.prog (.loop bodyLe) (SLe n g x y 0) z := by
  refine loop_tree (GOK.nil _) (root := cod Tryz.f87) (p := [0, 1, 0, 1, 1, 1]) (by kernel_rfl) (fun i => i ≤ n ∧ (x.c = false → i = 0)) (fun i => SLe n g x (lE g y i) i) (fun i => n - i) (.leaf (FLe x (leY n g x y))) 41 1 liveLe (fun _ => []) (fun i hi => ?_) 0 ⟨Nat.zero_le _, fun _ => rfl⟩
  have e := stepLe n g x (lE g y i) i
  cases hc : x.c with
  | false =>
    have h0 := hi.2 hc
    subst h0
    refine ⟨[], .exit 0, _, LamOK.nil _ _, by rw [e, hc, show (bif decide (((0 : Nat) : Int) < n) then false else false) = false by cases decide (((0 : Nat) : Int) < n) <;> rfl]; rfl, .inr ⟨by simp, by rw [leY, hc]; rfl⟩⟩
  | true =>
    rcases Nat.lt_or_ge i n with hlt | hge
    · exact ⟨[], .normal, SLe n g x (lE g y (i + 1)) (i + 1 : Nat), LamOK.nil _ _, by rw [e, c_lt hlt, hc, inI, c_in hlt, w64_suc hlt hn]; rfl, .inl ⟨rfl, i + 1, ⟨hlt, fun h => by cases h⟩, by omega, rfl⟩⟩
    · exact ⟨[], .exit 0, _, LamOK.nil _ _, by rw [e, c_ge hge]; rfl, .inr ⟨by simp, by rw [leY, hc, show n = i by omega]; rfl⟩⟩
def rleast.s : List V → T V
  | [.agg [.q (.c (.int .i64 xw)), .q (.c (.int .i64 xh)), .q (.c (.bool xr)), .q (.c (.bool xc))], .q (.lst [.int .i64, .int .i64, .int .i64, .int .i64] n g)] => .leaf (V.i (leY n g ⟨xw, xh, xr, xc⟩ (yB n g)))
  | _ => .bad
theorem rleast.ok : SpecOK Tryz.prog 87 rleast.s := by
  refine specOK_of_bodyW (GOK.nil _) Tryz.func87 (isBody _ (by kernel_rfl)) (by kernel_rfl) fun args r hb he => ?_
  unfold rleast.s at he
  split at he
  · rename_i xw xh xr xc n g
    have hn : n ≤ 9223372036854775807 := (hb (lst4 n g) (by simp)).1
    generalize hx : (⟨xw, xh, xr, xc⟩ : Fl) = x at he
    have hx' : ([.q (.c (.int .i64 xw)), .q (.c (.int .i64 xh)), .q (.c (.bool xr)), .q (.c (.bool xc))] : List V) = [V.i x.w, V.i x.h, V.b x.r, V.b x.c] := by rw [← hx]
    rw [hx']
    refine ⟨_, [([0, 1, 0, 1, 1, 1], orc false 41 1 [1, 2, 5, 6] (SLe n g x (yB n g) 0) (.leaf (FLe x (leY n g x (yB n g)))))], fun _ _ _ x => x, LamOK.orc (c := .loop bodyLe) (by kernel_rfl) (loopLe n g x (yB n g) hn) (LamOK.nil _ _), ?_⟩
    have e : ∀ y Y : Int, funV Tryz.prog [] [([0, 1, 0, 1, 1, 1], orc false 41 1 [1, 2, 5, 6] (SLe n g x y 0) (.leaf (FLe x Y)))] Tryz.f87 (cod Tryz.f87) [fv x, lst4 n g] =
        .ite (decide ((n : Int) > 0)) (.ite (decide (0 ≤ w64 ((n : Int) - 1) ∧ w64 ((n : Int) - 1) < (n : Int))) (.ite (@decide (SLe n g x (yL n g) 0 = SLe n g x y 0) (Classical.propDecidable _)) (.leaf (V.i Y)) .bad) .bad)
          (.ite (@decide (SLe n g x 0 0 = SLe n g x y 0) (Classical.propDecidable _)) (.leaf (V.i Y)) .bad) := fun y Y => by kernel_rfl
    have e' := e (yB n g) (leY n g x (yB n g))
    refine (congrArg T.pick e').trans ?_
    rw [← he, pick_ite]
    rcases Nat.eq_zero_or_pos n with h0 | hpos
    · have g1 : decide ((n : Int) > 0) = false := by simp [h0]
      rw [g1, cond_false]
      have : yB n g = 0 := by simp only [yB, g1, cond_false]
      rw [this, pick_same]
    · have g1 : decide ((n : Int) > 0) = true := by simp; omega
      have hw : w64 ((n : Int) - 1) = n - 1 := w64_id (by omega) (by omega)
      have g2 : decide (0 ≤ w64 ((n : Int) - 1) ∧ w64 ((n : Int) - 1) < (n : Int)) = true := by rw [hw]; simp; omega
      rw [g1, cond_true, pick_ite, g2, cond_true]
      have : yB n g = yL n g := by simp only [yB, g1, cond_true]
      rw [this, pick_same]
  · cases he

/-! ### fits -/
def fitsB (n : Nat) (g f : Nat → Nat → Q) (w : Int) (x : Fl) (y : Int) : Bool := bif decide (w64 (w64 (rI g f w y x.h false n + rI g f w y x.h true n) + x.w) ≤ w) then true else !(anyBes n g y x.h)
abbrev ΓFi : Gam := [(83, rinsets.s), (102, rbeside.s)]
theorem ΓFi.ok : GOK Tryz.prog ΓFi := .cons rinsets.ok (.cons rbeside.ok (GOK.nil _))
def rfits.s : List V → T V
  | [.q (.lst [.int .i64, .int .i64, .bool, .bool] m f), .q (.lst [.int .i64, .int .i64, .int .i64, .int .i64] n g), .q (.c (.int .i64 w)), .agg [.q (.c (.int .i64 xw)), .q (.c (.int .i64 xh)), .q (.c (.bool xr)), .q (.c (.bool xc))], .q (.c (.int .i64 y))] =>
      .ite (decide (n ≤ m)) (.leaf (V.b (fitsB n g f w ⟨xw, xh, xr, xc⟩ y))) .bad
  | _ => .bad
theorem rfits.ok : SpecOK Tryz.prog 88 rfits.s := by
  refine specOK_of_body ΓFi.ok (LamOK.nil _ _) Tryz.func88 (isBody _ (by kernel_rfl)) (by kernel_rfl) fun args r he => ?_
  unfold rfits.s at he
  split at he
  · rename_i m f n g w xw xh xr xc y
    have e : ∀ x : Fl, funV Tryz.prog ΓFi [] Tryz.f88 (cod Tryz.f88) [lstF m f, lst4 n g, V.i w, fv x, V.i y] = .ite (decide (n ≤ m)) (.leaf (V.b (fitsB n g f w x y))) .bad := fun x => by kernel_rfl
    have := e ⟨xw, xh, xr, xc⟩
    rw [this]; exact he
  · cases he
end Go.Proofs.YthmlbmambcigcaaGreatDoor

/- The document's answer for floats, one by one: where all are placed. -/
namespace Go.Proofs.YthmlbmambcigcaaGreatDoor
open Go Go.SX Go.Proofs
set_option maxRecDepth 100000
variable [EA]
set_option linter.unusedVariables false
set_option linter.unusedSectionVars false
set_option linter.unusedSimpArgs false

abbrev ΓRp : Gam := [(87, rleast.s), (88, rfits.s), (89, rends.s), (83, rinsets.s)]
theorem ΓRp.ok : GOK Tryz.prog ΓRp := .cons rleast.ok (.cons rfits.ok (.cons rends.ok (.cons rinsets.ok (GOK.nil _))))
abbrev vecOb (n : Nat) (g : Nat → Nat → Q) : Option Ob := some (.vec 52 ks4 n g)
abbrev celX (x : Fl) : Option Ob := some (.cells 56 [V.i x.w, V.i x.h, V.b x.r, V.b x.c])

/-! ### the inner loop -/
abbrev pIn : List Nat := [0, 0, 1, 1, 0, 0, 1, 0, 0, 1, 0, 1, 1]
noncomputable abbrev bodyIn : Code := loopAt Tryz.f63 pIn
def SIn (n : Nat) (g : Nat → Nat → Q) (m : Nat) (f : Nat → Nat → Q) (w : Int) (x : Fl) (i y : Int) : St := mkS 69 [(0, lstF m f), (1, V.i w), (5, .own 0), (6, V.i i), (7, .ptr 1 0), (8, V.i y)] [vecOb n g, celX x] [] false [] 0
def FIn (n : Nat) (g : Nat → Nat → Q) (m : Nat) (f : Nat → Nat → Q) (w : Int) (x : Fl) (i y : Int) : Ex × St := (.exit 2, SIn n g m f w x i y)
def liveIn : Ex → List Nat := fun _ => [0, 1, 5, 6, 7, 8]
theorem stepIn (n : Nat) (g : Nat → Nat → Q) (m : Nat) (f : Nat → Nat → Q) (w : Int) (x : Fl) (i y : Int) :
    (sx Tryz.prog ΓRp [] (0 :: pIn) bodyIn (SIn n g m f w x i y)).bind (fun x => T.leaf (x.1, deadS [] (canS 69 2 (liveIn x.1) x.2), chkM 69 2 x.2))
     = .ite (decide (n ≤ m)) (.ite (!(fitsB n g f w x y)) (.leaf (.normal, SIn n g m f w x i (rEb g y n).1, true)) (.leaf ((FIn n g m f w x i y).1, (FIn n g m f w x i y).2, true))) .bad := by kernel_rfl
/-- Where it is asked, one time behind the other. -/
def ryK (n : Nat) (g : Nat → Nat → Q) (y : Int) : Nat → Int
  | 0 => y
  | k + 1 => (rEb g (ryK n g y k) n).1
abbrev StopR (n : Nat) (g f : Nat → Nat → Q) (w : Int) (x : Fl) (y : Int) (k : Nat) : Prop := fitsB n g f w x (ryK n g y k) = true
noncomputable def lastR (n : Nat) (g f : Nat → Nat → Q) (w : Int) (x : Fl) (y : Int) : Nat := @dite _ (∃ k, StopR n g f w x y k) (Classical.propDecidable _) (fun h => leastOf _ h) (fun _ => 0)
theorem lastR_spec {n : Nat} {g f : Nat → Nat → Q} {w : Int} {x : Fl} {y : Int} (h : ∃ k, StopR n g f w x y k) : StopR n g f w x y (lastR n g f w x y) := by
  unfold lastR
  rw [dif_pos h]
  exact leastOf_spec _ h
theorem lastR_before {n : Nat} {g f : Nat → Nat → Q} {w : Int} {x : Fl} {y : Int} (h : ∃ k, StopR n g f w x y k) {k : Nat} (hk : k < lastR n g f w x y) : fitsB n g f w x (ryK n g y k) = false := by
  cases ht : fitsB n g f w x (ryK n g y k) with
  | false => rfl
  | true =>
    unfold lastR at hk
    rw [dif_pos h] at hk
    have := leastOf_le _ h k ht
    omega
noncomputable def rfinY (n : Nat) (g f : Nat → Nat → Q) (w : Int) (x : Fl) (y : Int) : Int := ryK n g y (lastR n g f w x y)
theorem loopIn (n : Nat) (g : Nat → Nat → Q) (m : Nat) (f : Nat → Nat → Q) (w : Int) (x : Fl) (i y : Int) (hnm : n ≤ m) (hst : ∃ k, StopR n g f w x y k) :
    ∀ z, (T.leaf (FIn n g m f w x i (rfinY n g f w x y))).pick = some z → SemC Tryz.prog (.loop bodyIn) (SIn n g m f w x i y) z := by
  refine loop_tree ΓRp.ok (root := cod Tryz.f63) (p := pIn) (by kernel_rfl) (fun k => k ≤ lastR n g f w x y) (fun k => SIn n g m f w x i (ryK n g y k)) (fun k => lastR n g f w x y - k) (.leaf (FIn n g m f w x i (rfinY n g f w x y))) 69 2 liveIn (fun _ => []) (fun k hk => ?_) 0 (Nat.zero_le _)
  have e := stepIn n g m f w x i (ryK n g y k)
  rw [decide_eq_true hnm] at e
  rcases Nat.lt_or_ge k (lastR n g f w x y) with hlt | hge
  · exact ⟨[], .normal, SIn n g m f w x i (ryK n g y (k + 1)), LamOK.nil _ _, by rw [e, lastR_before hst hlt]; rfl, .inl ⟨rfl, k + 1, hlt, by omega, rfl⟩⟩
  · have hk' : k = lastR n g f w x y := by omega
    subst hk'
    exact ⟨[], .exit 2, _, LamOK.nil _ _, by rw [e, lastR_spec hst]; rfl, .inr ⟨by simp, rfl⟩⟩

/-! ### the outer loop -/
abbrev rAt (n : Nat) (g f : Nat → Nat → Q) (w : Int) (x : Fl) (y : Int) : Int := bif x.r then mx2 (w64 (w64 (w - rI g f w y x.h true n) - x.w)) 0 else rI g f w y x.h false n
noncomputable abbrev rplY (n : Nat) (g f : Nat → Nat → Q) (w : Int) (x : Fl) : Int := rfinY n g f w x (leY n g x (yB n g))
noncomputable abbrev rplR (n : Nat) (g f : Nat → Nat → Q) (w : Int) (x : Fl) : Rc := ⟨rAt n g f w x (rplY n g f w x), rplY n g f w x, x.w, x.h⟩
noncomputable def gR (f : Nat → Nat → Q) (w : Int) : Nat → Nat → Nat → Q
  | 0 => fun _ _ => default
  | i + 1 => catG i (gR f w i) (one1 (rplR i (gR f w i) f w (gFl f i)))
def SOu (n : Nat) (g : Nat → Nat → Q) (m : Nat) (f : Nat → Nat → Q) (w : Int) (i : Int) : St := mkS 69 [(0, lstF m f), (1, V.i w), (5, .own 0), (6, V.i i)] [vecOb n g] [] false [] 0
def FOu (n : Nat) (g : Nat → Nat → Q) : Ex × St := (.exit 0, mkS 69 [(5, .own 0)] [vecOb n g] [] false [] 0)
def liveOu : Ex → List Nat | .normal => [0, 1, 5, 6] | _ => [5]
def mvOu : Ex → List (Nat × Nat) | .normal => [(2, 0)] | _ => []
noncomputable abbrev bodyOu : Code := loopAt Tryz.f63 [0, 1, 0, 1, 1]
noncomputable abbrev orcIn (n : Nat) (g : Nat → Nat → Q) (m : Nat) (f : Nat → Nat → Q) (w : Int) (x : Fl) (i y Y : Int) : Lam := [(pIn, orc false 69 2 [0, 1, 5, 6, 7, 8] (SIn n g m f w x i y) (.leaf (FIn n g m f w x i Y)))]
noncomputable abbrev appT (n : Nat) (g : Nat → Nat → Q) (m : Nat) (f : Nat → Nat → Q) (w : Int) (x : Fl) (i Y a : Int) : T (Ex × St × Bool) :=
  .ite (roomB n 1 32) (.leaf (.normal, SOu (n + 1) (catG n g (one1 ⟨a, Y, x.w, x.h⟩)) m f w (w64 (i + 1)), true)) .bad
theorem stepOu (n : Nat) (g : Nat → Nat → Q) (m : Nat) (f : Nat → Nat → Q) (w : Int) (i : Nat) (Y : Int) :
    (sx Tryz.prog ΓRp (orcIn n g m f w (gFl f i) i (leY n g (gFl f i) (yB n g)) Y) [0, 0, 1, 0, 1, 1] bodyOu (SOu n g m f w i)).bind (fun x => T.leaf (x.1, deadS [] (canS 69 1 (liveOu x.1) (mvL (mvOu x.1) x.2)), chkM 69 1 (mvL (mvOu x.1) x.2)))
     = .ite (decide ((i : Int) < m)) (.ite (inI i m) (.ite (@decide (SIn n g m f w (gFl f i) i (leY n g (gFl f i) (yB n g)) = SIn n g m f w (gFl f i) i (leY n g (gFl f i) (yB n g))) (Classical.propDecidable _))
        (.ite (decide (n ≤ m)) (.ite (gFl f i).r (appT n g m f w (gFl f i) i Y (mx2 (w64 (w64 (w - rI g f w Y (gFl f i).h true n) - (gFl f i).w)) 0)) (appT n g m f w (gFl f i) i Y (rI g f w Y (gFl f i).h false n))) .bad) .bad) .bad)
        (.leaf ((FOu n g).1, (FOu n g).2, true)) := by kernel_rfl
theorem stepOx (n : Nat) (g : Nat → Nat → Q) (m : Nat) (f : Nat → Nat → Q) (w : Int) (i : Nat) :
    (sx Tryz.prog ΓRp [] [0, 0, 1, 0, 1, 1] bodyOu (SOu n g m f w i)).bind (fun x => T.leaf (x.1, deadS [] (canS 69 1 (liveOu x.1) (mvL (mvOu x.1) x.2)), chkM 69 1 (mvL (mvOu x.1) x.2)))
     = .ite (decide ((i : Int) < m)) (.ite (inI i m) .bad .bad) (.leaf ((FOu n g).1, (FOu n g).2, true)) := by kernel_rfl

abbrev allRp (m : Nat) (f : Nat → Nat → Q) (w : Int) : Prop := m ≤ 1000000 ∧ ∀ i, i < m → ∃ k, StopR i (gR f w i) f w (gFl f i) (leY i (gR f w i) (gFl f i) (yB i (gR f w i))) k
theorem loopOu (m : Nat) (f : Nat → Nat → Q) (w : Int) (hall : allRp m f w) : ∀ x, (T.leaf (FOu m (gR f w m))).pick = some x → SemC Tryz.prog (.loop bodyOu) (SOu 0 (gR f w 0) m f w 0) x := by
  refine loop_treeM ΓRp.ok (root := cod Tryz.f63) (p := [0, 1, 0, 1, 1]) (by kernel_rfl) (fun i => i ≤ m) (fun i => SOu i (gR f w i) m f w i) (fun i => m - i) (.leaf (FOu m (gR f w m))) 69 1 liveOu (fun _ => []) mvOu (fun i hi => ?_) 0 (Nat.zero_le _)
  have hm : m ≤ 9223372036854775807 := by have := hall.1; omega
  rcases Nat.lt_or_ge i m with hlt | hge
  · have e := stepOu i (gR f w i) m f w i (rplY i (gR f w i) f w (gFl f i))
    have hst := hall.2 i hlt
    have hr : roomB i 1 32 = true := by have := hall.1; simp [roomB]; omega
    refine ⟨orcIn i (gR f w i) m f w (gFl f i) i (leY i (gR f w i) (gFl f i) (yB i (gR f w i))) (rplY i (gR f w i) f w (gFl f i)), .normal, SOu (i + 1) (gR f w (i + 1)) m f w (i + 1 : Nat), LamOK.orc (c := .loop bodyIn) (by kernel_rfl) (loopIn i (gR f w i) m f w (gFl f i) i _ (Nat.le_of_lt hlt) hst) (LamOK.nil _ _), ?_, .inl ⟨rfl, i + 1, hlt, by omega, rfl⟩⟩
    rw [e, c_lt hlt, inI, c_in hlt, pick_ite, cond_true, pick_ite, cond_true, pick_same, decide_eq_true (Nat.le_of_lt hlt), pick_ite, cond_true, pick_ite, appT, appT, hr, w64_suc hlt hm, pick_ite, pick_ite]
    simp only [gR, rplR, rAt]
    cases qBool (f i 2) <;> rfl
  · have e := stepOx i (gR f w i) m f w i
    exact ⟨[], .exit 0, _, LamOK.nil _ _, by rw [e, c_ge hge]; rfl, .inr ⟨by simp, by rw [show m = i by omega]; rfl⟩⟩

noncomputable abbrev rplace.s := spFW fun m f w => .ite (@decide (allRp m f w) (Classical.propDecidable _)) (.leaf (lst4 m (gR f w m))) .bad
theorem rplace.ok : SpecOK Tryz.prog 63 rplace.s := by
  refine okFW ΓRp.ok Tryz.func63 (by kernel_rfl) (by kernel_rfl) fun m f w v hb hv => ?_
  by_cases hall : allRp m f w
  · refine ⟨[([0, 1, 0, 1, 1], orcP (nilV 5 0 52 ks4) false 69 1 [0, 1, 5, 6] (SOu 0 (gR f w 0) m f w 0) (.leaf (FOu m (gR f w m))))], LamOK.orcP (fun s => sub_nilV _ _ _ _ s) (c := .loop bodyOu) (by kernel_rfl) (loopOu m f w hall) (LamOK.nil _ _), ?_⟩
    have e : ∀ g : Nat → Nat → Q, funV Tryz.prog ΓRp [([0, 1, 0, 1, 1], orcP (nilV 5 0 52 ks4) false 69 1 [0, 1, 5, 6] (SOu 0 (gR f w 0) m f w 0) (.leaf (FOu m g)))] Tryz.f63 (cod Tryz.f63) [lstF m f, V.i w] =
        .ite (@decide (SOu 0 (gR f w 0) m f w 0 = SOu 0 (gR f w 0) m f w 0) (Classical.propDecidable _)) (.leaf (lst4 m g)) .bad := fun g => by kernel_rfl
    rw [e, ← hv, pick_same, pick_ite, @decide_eq_true _ (Classical.propDecidable _) hall]; rfl
  · rw [pick_ite, @decide_eq_false _ (Classical.propDecidable _) hall] at hv
    cases hv
end Go.Proofs.YthmlbmambcigcaaGreatDoor

/- Plain laws of rectangles: no program in sight. -/
namespace Go.Proofs.YthmlbmambcigcaaGreatDoor
open Go Go.SX Go.Proofs
set_option maxRecDepth 100000
variable [EA]
set_option linter.unusedVariables false
set_option linter.unusedSectionVars false
set_option linter.unusedSimpArgs false

theorem isLen_iff {a : Int} : isLen a = true ↔ -1073741824 ≤ a ∧ a ≤ 1073741824 := by
  unfold isLen
  by_cases h : a ≥ -1073741824 <;> simp [h] <;> omega

theorem isSide_iff {a s : Int} : isSide a s = true ↔ -1073741824 ≤ a ∧ 0 ≤ s ∧ a + s ≤ 1073741824 := by
  unfold isSide
  cases h1 : isLen a with
  | false =>
    have : ¬ (-1073741824 ≤ a ∧ a ≤ 1073741824) := fun h => by rw [isLen_iff.2 h] at h1; cases h1
    simp; omega
  | true =>
    have h1 := isLen_iff.1 h1
    by_cases h2 : s ≥ 0
    · by_cases h3 : s ≤ 2147483648
      · have e : w64 (a + s) = a + s := w64_id (by omega) (by omega)
        simp only [h2, h3, decide_true, cond_true]
        rw [e, isLen_iff]
        exact ⟨fun h => ⟨by omega, trivial, by omega⟩, fun h => ⟨by omega, h.2.2⟩⟩
      · simp [h2, h3]; omega
    · simp [h2]

/-- A rectangle that is right, in plain numbers. -/
def Ok (r : Rc) : Prop := -1073741824 ≤ r.x ∧ 0 ≤ r.w ∧ r.x + r.w ≤ 1073741824 ∧ -1073741824 ≤ r.y ∧ 0 ≤ r.h ∧ r.y + r.h ≤ 1073741824

theorem right_iff {r : Rc} : rightR r = true ↔ Ok r := by
  unfold rightR Ok
  cases h : isSide r.x r.w with
  | false =>
    have : ¬ (-1073741824 ≤ r.x ∧ 0 ≤ r.w ∧ r.x + r.w ≤ 1073741824) := fun hh => by rw [isSide_iff.2 hh] at h; cases h
    simp; omega
  | true =>
    have := isSide_iff.1 h
    simp only [cond_true, isSide_iff]
    omega

theorem allR_iff {n : Nat} {g : Nat → Nat → Q} : allR n g = true ↔ ∀ i, i < n → Ok (gRc g i) := by
  rw [allR, List.all_eq_true]
  exact ⟨fun h i hi => right_iff.1 (h i (List.mem_range.2 hi)), fun h i hi => right_iff.2 (h i (List.mem_range.1 hi))⟩

theorem hOK_iff {n : Nat} {g : Nat → Nat → Q} : hOK n g = true ↔ 0 < n ∧ ∀ i, i < n → Ok (gRc g i) := by
  unfold hOK
  cases h : allR n g with
  | false =>
    have : ¬ ∀ i, i < n → Ok (gRc g i) := fun hh => by rw [allR_iff.2 hh] at h; cases h
    simp; intro _; simpa using this
  | true =>
    have := allR_iff.1 h
    simp
    constructor
    · intro h0; exact ⟨by omega, this⟩
    · intro h0; omega

/-- Edges that are within. -/
def Ed (c : Rc) : Prop := -1073741824 ≤ c.x ∧ c.x ≤ c.w ∧ c.w ≤ 1073741824 ∧ -1073741824 ≤ c.y ∧ c.y ≤ c.h ∧ c.h ≤ 1073741824

theorem fst_eq {r : Rc} (h : Ok r) : fstH r = ⟨r.x, r.y, r.x + r.w, r.y + r.h⟩ := by
  obtain ⟨x, y, w, hh⟩ := r
  simp only [Ok] at h
  simp only [fstH]
  rw [w64_id (n := x + w) (by omega) (by omega), w64_id (n := y + hh) (by omega) (by omega)]
theorem st_eq (c : Rc) {r : Rc} (h : Ok r) : stH c r = ⟨min c.x r.x, min c.y r.y, max c.w (r.x + r.w), max c.h (r.y + r.h)⟩ := by
  obtain ⟨x, y, w, hh⟩ := r
  simp only [Ok] at h
  simp only [stH, mn2_eq, mx2_eq]
  rw [w64_id (n := x + w) (by omega) (by omega), w64_id (n := y + hh) (by omega) (by omega)]
theorem hR_eq {c : Rc} (h : Ed c) : hR c = ⟨c.x, c.y, c.w - c.x, c.h - c.y⟩ := by
  obtain ⟨x, y, w, hh⟩ := c
  simp only [Ed] at h
  simp only [hR]
  rw [w64_id (n := w - x) (by omega) (by omega), w64_id (n := hh - y) (by omega) (by omega)]
theorem fst_ed {r : Rc} (h : Ok r) : Ed (fstH r) := by
  rw [fst_eq h]; obtain ⟨x, y, w, hh⟩ := r; simp only [Ok] at h; simp only [Ed]; omega
theorem st_ed {c r : Rc} (hc : Ed c) (h : Ok r) : Ed (stH c r) := by
  rw [st_eq c h]; obtain ⟨x, y, w, hh⟩ := r; obtain ⟨x', y', w', hh'⟩ := c; simp only [Ok] at h; simp only [Ed] at hc ⊢; omega
theorem hR_ok {c : Rc} (h : Ed c) : Ok (hR c) := by
  rw [hR_eq h]; obtain ⟨x, y, w, hh⟩ := c; simp only [Ed] at h; simp only [Ok]; omega

theorem gs_eq (g : Nat → Nat → Q) (i : Nat) : gRc (gs g) i = gRc g (i + 1) := by
  show gRc g ((1 : Int).toNat + i) = _
  rw [show (1 : Int).toNat + i = i + 1 by simp; omega]

/-- The edges so far. -/
theorem hS_ed {g : Nat → Nat → Q} : ∀ (i : Nat), (∀ j, j < i + 1 → Ok (gRc g j)) → Ed (fl_hS g i)
  | 0, h => fst_ed (h 0 (by omega))
  | i + 1, h => by
    show Ed (stH (fl_hS g i) (gRc (gs g) i))
    rw [gs_eq]
    exact st_ed (hS_ed i fun j hj => h j (by omega)) (h (i + 1) (by omega))

theorem bR_congr {b : Bool} {r r' z : Rc} (h : b = true → r = r') : bR b r z = bR b r' z := by
  cases b with
  | false => rfl
  | true => rw [h rfl]

theorem eqR_refl (r : Rc) : eqR r r = true := by simp [eqR]
theorem eqR_iff {a b : Rc} : eqR a b = true ↔ a = b := by
  obtain ⟨x, y, w, h⟩ := a
  obtain ⟨x', y', w', h'⟩ := b
  by_cases h1 : x = x' <;> by_cases h2 : y = y' <;> by_cases h3 : w = w' <;> by_cases h4 : h = h' <;> simp [eqR, h1, h2, h3, h4]

end Go.Proofs.YthmlbmambcigcaaGreatDoor

/- Plain laws of floats: no program in sight. One row, and where one more is placed. -/
namespace Go.Proofs.YthmlbmambcigcaaGreatDoor
open Go Go.SX Go.Proofs
set_option maxRecDepth 100000
variable [EA]
set_option linter.unusedVariables false
set_option linter.unusedSectionVars false
set_option linter.unusedSimpArgs false

abbrev MS : Int := 1048576
/-- Floats that are right. -/
structure FOK (m : Nat) (f : Nat → Nat → Q) (w : Int) : Prop where
  hm : m ≤ 20
  h0 : 0 ≤ w
  h1 : w ≤ MS
  hf : ∀ i, i < m → 0 ≤ (gFl f i).w ∧ (gFl f i).w ≤ MS ∧ 0 ≤ (gFl f i).h ∧ (gFl f i).h ≤ MS

/-- A row as it is placed: the first n. -/
structure GOKr (n : Nat) (g : Nat → Nat → Q) : Prop where
  hn : n ≤ 20
  hr : ∀ i, i < n → 0 ≤ (gRc g i).x ∧ (gRc g i).x ≤ MS ∧ 0 ≤ (gRc g i).w ∧ (gRc g i).x + (gRc g i).w ≤ MS ∧ 0 ≤ (gRc g i).y ∧ 0 ≤ (gRc g i).h ∧ (gRc g i).h ≤ MS ∧ (gRc g i).y + (gRc g i).h ≤ (i + 1 : Nat) * MS

theorem GOKr.le {n k : Nat} {g : Nat → Nat → Q} (h : GOKr n g) (hk : k ≤ n) : GOKr k g := ⟨Nat.le_trans hk h.hn, fun i hi => h.hr i (by omega)⟩

theorem mul_le' {i : Nat} (hi : i + 1 ≤ 20) : ((i + 1 : Nat) : Int) * MS ≤ 20971520 := by
  simp only [MS]; omega

theorem lowE_eq {r : Rc} (h0 : 0 ≤ r.y) (h1 : 0 ≤ r.h) (h2 : r.y + r.h ≤ 67108864) : lowE r = r.y + r.h := w64_id (by omega) (by omega)

/-- What is needed of a row's one, at once. -/
theorem GOKr.at {n : Nat} {g : Nat → Nat → Q} (h : GOKr n g) {i : Nat} (hi : i < n) : 0 ≤ (gRc g i).x ∧ 0 ≤ (gRc g i).w ∧ (gRc g i).x + (gRc g i).w ≤ MS ∧ 0 ≤ (gRc g i).y ∧ 0 ≤ (gRc g i).h ∧ (gRc g i).h ≤ MS ∧ (gRc g i).y + (gRc g i).h ≤ 20971520 ∧ lowE (gRc g i) = (gRc g i).y + (gRc g i).h := by
  obtain ⟨a, b, c, d, e, f, k, l⟩ := h.hr i hi
  have := mul_le' (show i + 1 ≤ 20 by have := h.hn; omega)
  refine ⟨a, c, d, e, f, k, by omega, lowE_eq e f (by omega)⟩

theorem okR_iff (x : Fl) : fl_okF x = true ↔ 0 ≤ x.w ∧ x.w ≤ MS ∧ 0 ≤ x.h ∧ x.h ≤ MS := by
  have hbox : Ok box := by simp only [Ok, box]; omega
  unfold fl_okF inB
  cases h : hOK 2 (two2 ⟨0, 0, x.w, x.h⟩ box) with
  | false =>
    simp only [cond_false, Bool.false_eq_true, false_iff]
    intro hh
    have : hOK 2 (two2 ⟨0, 0, x.w, x.h⟩ box) = true := hOK_iff.2 ⟨by omega, fun i hi => by
      rcases (show i = 0 ∨ i = 1 by omega) with rfl | rfl
      · show Ok ⟨0, 0, x.w, x.h⟩
        simp only [Ok, MS] at hh ⊢; omega
      · exact hbox⟩
    rw [this] at h; cases h
  | true =>
    simp only [cond_true]
    obtain ⟨_, hall⟩ := hOK_iff.1 h
    have ha : Ok ⟨0, 0, x.w, x.h⟩ := hall 0 (by omega)
    have e : hullR 2 (two2 ⟨0, 0, x.w, x.h⟩ box) = hR (stH (fstH ⟨0, 0, x.w, x.h⟩) box) := rfl
    rw [e, hR_eq (st_ed (fst_ed ha) hbox), st_eq _ hbox, fst_eq ha, eqR_iff]
    simp only [Ok, box, Rc.mk.injEq, MS] at ha ⊢
    omega

theorem sizeB_iff (a : Int) : sizeB a = true ↔ 0 ≤ a ∧ a ≤ MS := by
  unfold sizeB
  by_cases h : a ≥ 0
  · simp [h, MS]
  · simp [h]
theorem okF_eq (x : Fl) : fl_okF x = okS x := by
  have h1 := okR_iff x
  have h2 : okS x = true ↔ 0 ≤ x.w ∧ x.w ≤ MS ∧ 0 ≤ x.h ∧ x.h ≤ MS := by
    unfold okS
    cases h : sizeB x.w with
    | false =>
      have : ¬ (0 ≤ x.w ∧ x.w ≤ MS) := fun hh => by rw [(sizeB_iff _).2 hh] at h; cases h
      simp; omega
    | true =>
      have := (sizeB_iff _).1 h
      simp only [cond_true, sizeB_iff]; omega
  cases h3 : fl_okF x with
  | true => exact (h2.2 (h1.1 h3)).symm
  | false => cases h4 : okS x with
    | false => rfl
    | true => rw [h1.2 (h2.1 h4)] at h3; cases h3
theorem right_eq (m : Nat) (f : Nat → Nat → Q) (w : Int) : rightF m f w = rightS m f w := by
  have : allF m f = allS m f := by
    unfold allF allS
    congr 1
    funext i
    exact okF_eq _
  unfold rightF rightS sizeB
  rw [this]
  cases allS m f <;> cases decide (w ≥ 0) <;> rfl
theorem fl_right_ok {m : Nat} {f : Nat → Nat → Q} {w : Int} : rightF m f w = true ↔ FOK m f w := by
  unfold rightF
  constructor
  · intro h
    cases h1 : allF m f with
    | false => rw [h1] at h; cases h
    | true =>
      rw [h1] at h
      simp only [cond_true] at h
      by_cases h2 : w ≥ 0
      · by_cases h3 : w ≤ 1048576
        · simp only [h2, h3, decide_true, cond_true, decide_eq_true_eq] at h
          refine ⟨by omega, h2, h3, fun i hi => ?_⟩
          rw [allF, List.all_eq_true] at h1
          exact (okR_iff _).1 (h1 i (List.mem_range.2 hi))
        · simp [h2, h3] at h
      · simp [h2] at h
  · intro h
    have h1 : allF m f = true := allF_true fun i hi => (okR_iff _).2 (h.hf i hi)
    have h2 := h.h0
    have h3 := h.h1
    have h4 := h.hm
    simp only [h1, cond_true, ge_iff_le, h2, decide_true]
    have : w ≤ 1048576 := h3
    simp only [this, decide_true, cond_true, decide_eq_true_eq]
    omega

/-! ### low, and ends -/
theorem lowS_ge {g : Nat → Nat → Q} : ∀ (n : Nat), 0 ≤ lowS g n ∧ ∀ i, i < n → lowE (gRc g i) ≤ lowS g n
  | 0 => ⟨Int.le_refl _, fun i hi => by omega⟩
  | n + 1 => by
    obtain ⟨h1, h2⟩ := lowS_ge (g := g) n
    simp only [lowS, mx2_eq]
    refine ⟨by omega, fun i hi => ?_⟩
    rcases Nat.lt_or_ge i n with h | h
    · have := h2 i h; omega
    · rw [show i = n by omega]; omega

/-- The next end, in plain words. -/
structure EI (g : Nat → Nat → Q) (n : Nat) (y : Int) (k : Nat) (e : Int) (eb : Bool) (b : Int) (ok : Bool) : Prop where
  h1 : eb = ok
  h2 : ok = true → b > y ∧ ∃ i, i < k ∧ lowE (gRc g i) = b
  h3 : ok = false → b = 0
  h4 : ∀ i, i < k → lowE (gRc g i) > y → ok = true ∧ b ≤ lowE (gRc g i)
  h5 : e = if ok = true then b else lowS g n
  h6 : ok = true → b ≤ lowS g n

theorem EI.step {g : Nat → Nat → Q} {n : Nat} {y : Int} {k : Nat} {e : Int} {eb : Bool} {b : Int} {ok : Bool} (h : EI g n y k e eb b ok) (hl : lowE (gRc g k) ≤ lowS g n) :
    EI g n y (k + 1) (bif decide (lowE (gRc g k) > y) then mn2 e (lowE (gRc g k)) else e) (bif decide (lowE (gRc g k) > y) then true else eb) (bif fl_takeB (lowE (gRc g k)) y b ok then (lowE (gRc g k), true) else (b, ok)).1 (bif fl_takeB (lowE (gRc g k)) y b ok then (lowE (gRc g k), true) else (b, ok)).2 := by
  obtain ⟨h1, h2, h3, h4, h5, h6⟩ := h
  generalize hv : lowE (gRc g k) = v at *
  by_cases he : v > y
  · have hd : decide (v > y) = true := by simpa using he
    cases ok with
    | false =>
      have ht : fl_takeB v y b false = true := by unfold fl_takeB; rw [hd]; rfl
      rw [hd, ht]
      simp only [cond_true]
      refine ⟨rfl, fun _ => ⟨he, k, by omega, hv⟩, fun hh => (by cases hh), fun i hi hgt => ⟨rfl, ?_⟩, ?_, fun _ => hl⟩
      · rcases Nat.lt_or_ge i k with hik | hik
        · exact absurd (h4 i hik hgt).1 (by simp)
        · rw [show i = k by omega, hv]; exact Int.le_refl _
      · rw [h5, mn2_eq]; simp; omega
    | true =>
      obtain ⟨a1, i0, a2, a3⟩ := h2 rfl
      by_cases hb : v < b
      · have ht : fl_takeB v y b true = true := by unfold fl_takeB; rw [hd]; simpa using hb
        rw [hd, ht]
        simp only [cond_true]
        refine ⟨rfl, fun _ => ⟨he, k, by omega, hv⟩, fun hh => (by cases hh), fun i hi hgt => ⟨rfl, ?_⟩, ?_, fun _ => hl⟩
        · rcases Nat.lt_or_ge i k with hik | hik
          · have := (h4 i hik hgt).2; omega
          · rw [show i = k by omega, hv]; exact Int.le_refl _
        · rw [h5, mn2_eq]; simp; omega
      · have ht : fl_takeB v y b true = false := by unfold fl_takeB; rw [hd]; simpa using hb
        rw [hd, ht]
        simp only [cond_true, cond_false]
        refine ⟨rfl, fun _ => ⟨a1, i0, by omega, a3⟩, fun hh => (by cases hh), fun i hi hgt => ⟨rfl, ?_⟩, ?_, h6⟩
        · rcases Nat.lt_or_ge i k with hik | hik
          · exact (h4 i hik hgt).2
          · rw [show i = k by omega, hv]; omega
        · rw [h5, mn2_eq]; simp; omega
  · have hd : decide (v > y) = false := by simpa using he
    have ht : fl_takeB v y b ok = false := by unfold fl_takeB; rw [hd]; rfl
    rw [hd, ht]
    simp only [cond_false]
    refine ⟨h1, fun hh => ?_, h3, fun i hi hgt => ?_, h5, h6⟩
    · obtain ⟨a1, i0, a2, a3⟩ := h2 hh
      exact ⟨a1, i0, by omega, a3⟩
    · rcases Nat.lt_or_ge i k with hik | hik
      · exact h4 i hik hgt
      · rw [show i = k by omega, hv] at hgt; exact absurd hgt he

theorem ends_eq {g : Nat → Nat → Q} {n : Nat} (y : Int) (hlow : ∀ i, i < n → lowE (gRc g i) ≤ lowS g n) : ∀ k, k ≤ n → EI g n y k (eS n g y k) (eB g y k) (rEb g y k).1 (rEb g y k).2
  | 0, _ => ⟨rfl, fun h => by simp [rEb] at h, fun _ => rfl, fun i hi => by omega, by simp [eS, rEb], fun h => by simp [rEb] at h⟩
  | k + 1, hk => (ends_eq y hlow k (by omega)).step (hlow k (by omega))

theorem nextY_eq {g : Nat → Nat → Q} {n : Nat} (y : Int) : nextY n g y = (rEb g y n).1 ∧ eB g y n = (rEb g y n).2 := by
  obtain ⟨h1, h2, h3, h4, h5, _⟩ := ends_eq y (lowS_ge (g := g) n).2 n (Nat.le_refl _)
  refine ⟨?_, h1⟩
  unfold nextY
  rw [h1, h5]
  cases hb : (rEb g y n).2 with
  | false => simp [h3 hb]
  | true => simp
end Go.Proofs.YthmlbmambcigcaaGreatDoor

/- Plain laws of floats: what lies beside, in the program's words and in the document's. -/
namespace Go.Proofs.YthmlbmambcigcaaGreatDoor
open Go Go.SX Go.Proofs
set_option maxRecDepth 100000
variable [EA]
set_option linter.unusedVariables false
set_option linter.unusedSectionVars false
set_option linter.unusedSimpArgs false

/-- One lies at some lengths. -/
def Hit (r : Rc) (y h : Int) : Prop := 0 < r.w ∧ 0 < r.h ∧ r.y < y + max h 1 ∧ y < r.y + r.h
/-- What is asked for is in bounds. -/
structure YH (y h : Int) : Prop where
  y0 : 0 ≤ y
  y1 : y ≤ 67108864
  h0 : 0 ≤ h
  h1 : h ≤ MS
/-- A rectangle that is in bounds. -/
structure RB (r : Rc) : Prop where
  x : 0 ≤ r.x
  w : 0 ≤ r.w
  xw : r.x + r.w ≤ MS
  y : 0 ≤ r.y
  h : 0 ≤ r.h
  yh : r.y + r.h ≤ 20971520
theorem GOKr.rb {n : Nat} {g : Nat → Nat → Q} (h : GOKr n g) {i : Nat} (hi : i < n) : RB (gRc g i) := by
  obtain ⟨a, b, c, d, e, _, f, _⟩ := h.at hi
  exact ⟨a, b, c, d, e, f⟩

theorem yh_eq {y h : Int} (k : YH y h) : w64 (y + mx2 h 1) = y + max h 1 := by
  obtain ⟨a, b, c, d⟩ := k
  simp only [MS] at d
  rw [mx2_eq]
  exact w64_id (by omega) (by omega)

theorem hit_iff {r : Rc} {y h : Int} (k : RB r) (q : YH y h) : hitR r y h = true ↔ Hit r y h := by
  obtain ⟨x, w, ry, rh⟩ := r
  have hq := yh_eq q
  obtain ⟨a1, a2, a3, a4, a5, a6⟩ := k
  obtain ⟨b1, b2, b3, b4⟩ := q
  simp only [MS] at *
  have ho : okA ⟨x, w, ry, rh⟩ (bx ⟨x, w, ry, rh⟩ y h) = true := by
    have h1 : Ok ⟨x, w, ry, rh⟩ := by simp only [Ok]; omega
    have h2 : Ok (bx ⟨x, w, ry, rh⟩ y h) := by simp only [Ok, bx, mx2_eq]; omega
    unfold okA
    rw [right_iff.2 h1, right_iff.2 h2]; rfl
  unfold hitR
  rw [ho]
  simp only [bR, cond_true, meetR, decide_eq_true_eq]
  have e1 : mW ⟨x, w, ry, rh⟩ (bx ⟨x, w, ry, rh⟩ y h) = ry := by
    simp only [mW, bx, mn2_eq, mx2_eq]
    rw [w64_id (n := x + ry) (by omega) (by omega), Int.min_self, Int.max_self, w64_id (by omega) (by omega)]
    omega
  have e2 : mH ⟨x, w, ry, rh⟩ (bx ⟨x, w, ry, rh⟩ y h) = min (w + rh) (y + max h 1) - max w y := by
    simp only [mH, bx, hq]
    simp only [mn2_eq, mx2_eq]
    rw [w64_id (n := w + rh) (by omega) (by omega), w64_id (by omega) (by omega)]
  unfold mB Hit
  rw [e1, e2, cond_and]
  by_cases g : ry > 0 ∧ min (w + rh) (y + max h 1) - max w y > 0
  · rw [decide_eq_true g]
    simp only [cond_true]
    obtain ⟨g1, g2⟩ := g
    simp only [Int.max_def, Int.min_def] at g2 ⊢
    repeat' split at g2
    all_goals (try split) <;> omega
  · rw [decide_eq_false g]
    simp only [cond_false]
    simp only [Int.max_def, Int.min_def] at g ⊢
    repeat' split at g
    all_goals (try split) <;> omega

theorem bes_iff {r : Rc} {y h : Int} (k : RB r) (q : YH y h) : besB r y h = true ↔ Hit r y h := by
  obtain ⟨x, w, ry, rh⟩ := r
  have hq := yh_eq q
  obtain ⟨a1, a2, a3, a4, a5, a6⟩ := k
  simp only at *
  unfold besB Hit
  rw [hq]
  have e : w64 (w + rh) = w + rh := w64_id (by omega) (by omega)
  rw [e]
  rw [cond_and, cond_and, cond_and, decide_eq_true_eq]

theorem skip_iff {r : Rc} {y h : Int} (k : RB r) (q : YH y h) : skipB r y h = false ↔ Hit r y h := by
  obtain ⟨x, w, ry, rh⟩ := r
  have hq := yh_eq q
  obtain ⟨a1, a2, a3, a4, a5, a6⟩ := k
  simp only at *
  unfold skipB Hit
  rw [hq]
  have e : w64 (w + rh) = w + rh := w64_id (by omega) (by omega)
  rw [e]
  have f1 : (ry == 0) = decide (ry = 0) := by by_cases h : ry = 0 <;> simp [h]
  have f2 : (rh == 0) = decide (rh = 0) := by by_cases h : rh = 0 <;> simp [h]
  rw [f1, f2, cond_or, cond_or, cond_or, decide_eq_false_iff_not]
  generalize y + max h 1 = z
  show ¬ (ry = 0 ∨ rh = 0 ∨ w ≥ z ∨ y ≥ w + rh) ↔ (0 < ry ∧ 0 < rh ∧ w < z ∧ y < w + rh)
  omega

theorem hit_bes {r : Rc} {y h : Int} (k : RB r) (q : YH y h) : hitR r y h = besB r y h := by
  have h1 := hit_iff k q
  have h2 := bes_iff k q
  cases hh : hitR r y h with
  | true => exact (h2.2 (h1.1 hh)).symm
  | false => cases hb : besB r y h with
    | false => rfl
    | true => rw [h1.2 (h2.1 hb)] at hh; cases hh
theorem hit_skip {r : Rc} {y h : Int} (k : RB r) (q : YH y h) : skipB r y h = !(hitR r y h) := by
  have h1 := hit_iff k q
  have h2 := skip_iff k q
  cases hh : hitR r y h with
  | true => exact h2.2 (h1.1 hh)
  | false => cases hb : skipB r y h with
    | true => rfl
    | false => rw [h1.2 (h2.1 hb)] at hh; cases hh

/-! ### the map -/
theorem lk_put (es : List (Value × List Q)) (b b' : Bool) (v : Int) : lkM (putE (.bool b) [.c (.int .i64 v)] es) b' = if b = b' then v else lkM es b' := by
  have key : findE (.bool b') (putE (.bool b) [.c (.int .i64 v)] es) = if b = b' then some [.c (.int .i64 v)] else findE (.bool b') es := by
    induction es with
    | nil =>
      simp only [putE, findE]
      by_cases e : b = b'
      · subst e; simp [keq, keq1]
      · have : keq (.bool b') (.bool b) = false := by cases b <;> cases b' <;> simp_all [keq, keq1]
        simp [this, e]
    | cons x es ih =>
      obtain ⟨k, q⟩ := x
      simp only [putE]
      cases hk : keq (.bool b) k with
      | true =>
        simp only [cond_true, findE]
        by_cases e : b = b'
        · subst e; simp [keq, keq1]
        · have h1 : keq (.bool b') (.bool b) = false := by cases b <;> cases b' <;> simp_all [keq, keq1]
          have h2 : keq (.bool b') k = false := by
            cases k <;> simp_all [keq, keq1]
          simp [h1, h2, e]
      | false =>
        simp only [cond_false, findE]
        rw [ih]
        by_cases e : b = b'
        · subst e; simp [hk]
        · simp [e]
  unfold lkM
  rw [key]
  by_cases e : b = b'
  · simp [e, qInt]
  · simp [e]
theorem lk_nil (b : Bool) : lkM [] b = 0 := rfl
theorem put_len (k : Value) (q : List Q) : ∀ es : List (Value × List Q), 0 < (putE k q es).length
  | [] => by simp [putE]
  | (k', q') :: es => by
    simp only [putE]
    cases keq k k' <;> simp

theorem hits_at {g : Nat → Nat → Q} {y h : Int} {i n : Nat} (hi : i < n) (hh : hitR (gRc g i) y h = true) : (hits g y h n).getD (hits g y h i).length 0 = i := by
  obtain ⟨l, hl⟩ := hits_prefix g y h (show i + 1 ≤ n from hi)
  rw [hl, hits_succ, if_pos hh]
  simp [List.getD_eq_getElem?_getD]

theorem ins_lk {g f : Nat → Nat → Q} {w y h : Int} {n : Nat} (hg : GOKr n g) (q : YH y h) (b : Bool) : ∀ i, i ≤ n → lkM (insE g f w (hits g y h n) (hits g y h i).length) b = rI g f w y h b i
  | 0, _ => by simp [hits, insE, lk_nil, rI]
  | i + 1, hi => by
    have ih := ins_lk (f := f) (w := w) hg q b i (by omega)
    have ih' := ins_lk (f := f) (w := w) hg q (gFl f i).r i (by omega)
    have hs := hit_skip (hg.rb (show i < n by omega)) q
    simp only [rI]
    cases hh : hitR (gRc g i) y h with
    | false =>
      have e2 : hits g y h (i + 1) = hits g y h i := by rw [hits_succ, hh]; simp
      rw [e2, hs, hh, ih]; rfl
    | true =>
      have e2 : (hits g y h (i + 1)).length = (hits g y h i).length + 1 := by rw [hits_succ, hh]; simp
      rw [e2, hs, hh]
      simp only [insE, insP, hits_at (show i < n by omega) hh, lk_put, Bool.not_true, cond_false]
      rw [ih']
      by_cases e : (gFl f i).r = b
      · subst e; rw [if_pos rfl, beq_self_eq_true]; rfl
      · rw [if_neg e, ih]
        have : ((gFl f i).r == b) = false := by simpa using e
        rw [this]; rfl

theorem insE_len {g f : Nat → Nat → Q} {w : Int} {l : List Nat} : ∀ k, (0 < (insE g f w l k).length ↔ 0 < k)
  | 0 => by simp [insE]
  | k + 1 => by
    have := put_len (.bool (gFl f (l.getD k 0)).r) [.c (.int .i64 (mx2 (lkM (insE g f w l k) (gFl f (l.getD k 0)).r) (insN w (gRc g (l.getD k 0)) (gFl f (l.getD k 0)).r)))] (insE g f w l k)
    simp only [insE, insP]
    exact ⟨fun _ => by omega, fun _ => this⟩

theorem any_hits {g : Nat → Nat → Q} {y h : Int} {n : Nat} (hg : GOKr n g) (q : YH y h) : decide (((0 : Nat) : Int) < ((hits g y h n).length : Nat)) = anyBes n g y h := by
  cases hb : anyBes n g y h with
  | true =>
    rw [anyBes, List.any_eq_true] at hb
    obtain ⟨i, hi, hh⟩ := hb
    have hi := List.mem_range.1 hi
    rw [← hit_bes (hg.rb hi) q] at hh
    have := hits_lt hi hh
    simp; omega
  | false =>
    rw [anyBes, List.any_eq_false] at hb
    have : hits g y h n = [] := by
      unfold hits
      rw [List.filter_eq_nil_iff]
      intro i hi
      rw [hit_bes (hg.rb (List.mem_range.1 hi)) q]
      exact hb i hi
    rw [this]; rfl

theorem tight_eq {n : Nat} {g f : Nat → Nat → Q} {w : Int} {x : Fl} {y : Int} (hg : GOKr n g) (q : YH y x.h) : tightY n g f w x y = !(fitsB n g f w x y) := by
  unfold tightY tightB fitsB insM
  rw [ins_lk hg q false n (Nat.le_refl _), ins_lk hg q true n (Nat.le_refl _), ← any_hits hg q]
  have e : decide (((insE g f w (hits g y x.h n) (hits g y x.h n).length).length : Int) > 0) = decide (((0 : Nat) : Int) < ((hits g y x.h n).length : Nat)) := by
    have := insE_len (g := g) (f := f) (w := w) (l := hits g y x.h n) (hits g y x.h n).length
    rw [decide_eq_decide]
    omega
  rw [e]
  by_cases hc : w64 (w64 (rI g f w y x.h false n + rI g f w y x.h true n) + x.w) ≤ w
  · have h1 : decide (w64 (w64 (rI g f w y x.h false n + rI g f w y x.h true n) + x.w) ≤ w) = true := by simpa using hc
    have h2 : decide (w64 (w64 (rI g f w y x.h false n + rI g f w y x.h true n) + x.w) > w) = false := by simp; omega
    rw [h1, h2]; rfl
  · have h1 : decide (w64 (w64 (rI g f w y x.h false n + rI g f w y x.h true n) + x.w) ≤ w) = false := by simpa using hc
    have h2 : decide (w64 (w64 (rI g f w y x.h false n + rI g f w y x.h true n) + x.w) > w) = true := by simp; omega
    rw [h1, h2]
    simp

theorem atX_eq {n : Nat} {g f : Nat → Nat → Q} {w : Int} {x : Fl} {y : Int} (hg : GOKr n g) (q : YH y x.h) : atX (insM g f w y x.h n) w x = rAt n g f w x y := by
  unfold atX rAt insM
  rw [ins_lk hg q false n (Nat.le_refl _), ins_lk hg q true n (Nat.le_refl _)]
end Go.Proofs.YthmlbmambcigcaaGreatDoor

/- Plain laws of floats: where one more is placed. -/
namespace Go.Proofs.YthmlbmambcigcaaGreatDoor
open Go Go.SX Go.Proofs
set_option maxRecDepth 100000
variable [EA]
set_option linter.unusedVariables false
set_option linter.unusedSectionVars false
set_option linter.unusedSimpArgs false

/-- What one takes of a side. -/
abbrev sideN (w : Int) (r : Rc) (b : Bool) : Int := if b = true then w - r.x else r.x + r.w

theorem rI_all {n : Nat} {g f : Nat → Nat → Q} {w y h : Int} (hg : GOKr n g) (q : YH y h) (hw0 : 0 ≤ w) (hw1 : w ≤ MS) (b : Bool) : ∀ i, i ≤ n →
    0 ≤ rI g f w y h b i ∧ rI g f w y h b i ≤ MS ∧ (b = true → rI g f w y h b i ≤ w) ∧
    (∀ k, k < i → Hit (gRc g k) y h → (gFl f k).r = b → sideN w (gRc g k) b ≤ rI g f w y h b i) ∧
    ((∀ k, k < i → ¬ Hit (gRc g k) y h) → rI g f w y h b i = 0)
  | 0, _ => ⟨by simp [rI], by simp [rI, MS], fun _ => by simp [rI]; exact hw0, fun k hk => by omega, fun _ => rfl⟩
  | i + 1, hi => by
    obtain ⟨a1, a2, a3, a4, a5⟩ := rI_all (f := f) hg q hw0 hw1 b i (by omega)
    have rb := hg.rb (show i < n by omega)
    have hs := skip_iff rb q
    obtain ⟨b1, b2, b3, b4, b5, b6⟩ := rb
    have eN : insN w (gRc g i) b = sideN w (gRc g i) b := by
      simp only [MS] at *
      cases b
      · exact w64_id (by dsimp only; omega) (by dsimp only; omega)
      · exact w64_id (by dsimp only; omega) (by dsimp only; omega)
    have hb1 : sideN w (gRc g i) b ≤ MS := by
      unfold sideN; split <;> omega
    have hb2 : b = true → sideN w (gRc g i) b ≤ w := fun e => by
      unfold sideN; rw [if_pos e]; omega
    simp only [rI]
    cases hk : skipB (gRc g i) y h with
    | true =>
      simp only [cond_true]
      have hno : ¬ Hit (gRc g i) y h := fun hh => by rw [hs.2 hh] at hk; cases hk
      refine ⟨a1, a2, a3, fun k hk hh hr => ?_, fun hall => a5 fun k hk => hall k (by omega)⟩
      rcases Nat.lt_or_ge k i with h' | h'
      · exact a4 k h' hh hr
      · rw [show k = i by omega] at hh; exact absurd hh hno
    | false =>
      have hit := hs.1 hk
      simp only [cond_false]
      cases hr : ((gFl f i).r == b) with
      | false =>
        simp only [cond_false]
        refine ⟨a1, a2, a3, fun k hk hh hr' => ?_, fun hall => absurd hit (hall i (by omega))⟩
        rcases Nat.lt_or_ge k i with h' | h'
        · exact a4 k h' hh hr'
        · rw [show k = i by omega] at hr'
          have hr2 : ((gFl f i).r == b) = true := by rw [show (gFl f i).r = b from hr']; simp
          rw [hr2] at hr
          cases hr
      | true =>
        simp only [cond_true, mx2_eq, eN]
        refine ⟨by omega, by omega, fun e => by have := a3 e; have := hb2 e; omega, fun k hk hh hr' => ?_, fun hall => absurd hit (hall i (by omega))⟩
        rcases Nat.lt_or_ge k i with h' | h'
        · have := a4 k h' hh hr'; omega
        · rw [show k = i by omega]; omega

theorem any_iff {n : Nat} {g : Nat → Nat → Q} {y h : Int} (hg : GOKr n g) (q : YH y h) : anyBes n g y h = true ↔ ∃ k, k < n ∧ Hit (gRc g k) y h := by
  rw [anyBes, List.any_eq_true]
  constructor
  · rintro ⟨k, hk, hh⟩
    have hk := List.mem_range.1 hk
    exact ⟨k, hk, (bes_iff (hg.rb hk) q).1 hh⟩
  · rintro ⟨k, hk, hh⟩
    exact ⟨k, List.mem_range.2 hk, (bes_iff (hg.rb hk) q).2 hh⟩

/-- One more, in bounds. -/
structure XOK (x : Fl) (w : Int) : Prop where
  x0 : 0 ≤ x.w
  x1 : x.w ≤ MS
  h0 : 0 ≤ x.h
  h1 : x.h ≤ MS
  w0 : 0 ≤ w
  w1 : w ≤ MS
theorem FOK.xok {m : Nat} {f : Nat → Nat → Q} {w : Int} (h : FOK m f w) {i : Nat} (hi : i < m) : XOK (gFl f i) w := by
  obtain ⟨a, b, c, d⟩ := h.hf i hi
  exact ⟨a, b, c, d, h.h0, h.h1⟩

theorem fl_fits_iff {n : Nat} {g f : Nat → Nat → Q} {w : Int} {x : Fl} {y : Int} (hg : GOKr n g) (k : XOK x w) (q : YH y x.h) :
    fitsB n g f w x y = true ↔ rI g f w y x.h false n + rI g f w y x.h true n + x.w ≤ w ∨ ∀ k, k < n → ¬ Hit (gRc g k) y x.h := by
  obtain ⟨a1, a2, _⟩ := rI_all (f := f) hg q k.w0 k.w1 false n (Nat.le_refl _)
  obtain ⟨c1, c2, _⟩ := rI_all (f := f) hg q k.w0 k.w1 true n (Nat.le_refl _)
  obtain ⟨x0, x1, h0, h1, w0, w1⟩ := k
  simp only [MS] at *
  unfold fitsB
  have e : w64 (w64 (rI g f w y x.h false n + rI g f w y x.h true n) + x.w) = rI g f w y x.h false n + rI g f w y x.h true n + x.w := by
    rw [w64_id (n := rI g f w y x.h false n + rI g f w y x.h true n) (by omega) (by omega), w64_id (by omega) (by omega)]
  rw [e]
  by_cases hc : rI g f w y x.h false n + rI g f w y x.h true n + x.w ≤ w
  · simp [hc]
  · simp only [hc, decide_false, cond_false, false_or]
    cases ha : anyBes n g y x.h with
    | true =>
      obtain ⟨k, hk, hh⟩ := (any_iff hg q).1 ha
      simp only [Bool.not_true, Bool.false_eq_true, false_iff]
      exact fun hall => hall k hk hh
    | false =>
      simp only [Bool.not_false, true_iff]
      intro k hk hh
      rw [(any_iff hg q).2 ⟨k, hk, hh⟩] at ha
      cases ha

theorem GOKr.ends {n : Nat} {g : Nat → Nat → Q} (h : GOKr n g) {i : Nat} (hi : i < n) : lowE (gRc g i) = (gRc g i).y + (gRc g i).h ∧ lowE (gRc g i) ≤ (n : Int) * MS := by
  obtain ⟨a, b, c, d, e, f, k, l⟩ := h.hr i hi
  have := h.at hi
  have hn := h.hn
  refine ⟨this.2.2.2.2.2.2.2, ?_⟩
  rw [this.2.2.2.2.2.2.2]
  simp only [MS] at *
  omega
theorem GOKr.low {n : Nat} {g : Nat → Nat → Q} (h : GOKr n g) : ∀ k, k ≤ n → lowS g k ≤ (n : Int) * MS
  | 0, _ => by simp only [lowS, MS]; omega
  | k + 1, hk => by
    have := h.low k (by omega)
    have := (h.ends (show k < n by omega)).2
    simp only [lowS, mx2_eq]
    omega
theorem lE_eq {g : Nat → Nat → Q} {y : Int} (hy : 0 ≤ y) : ∀ n, lE g y n = max y (lowS g n)
  | 0 => by simp only [lE, lowS]; omega
  | n + 1 => by
    simp only [lE, lowS, mx2_eq, lE_eq hy n]
    omega

theorem yL_eq {n : Nat} {g : Nat → Nat → Q} (hn : 0 < n) (h20 : n ≤ 20) : yL n g = (gRc g (n - 1)).y := by
  have hw : w64 ((n : Int) - 1) = n - 1 := w64_id (by omega) (by omega)
  show (gRc g (w64 ((n : Int) - 1)).toNat).y = _
  rw [hw, show ((n : Int) - 1).toNat = n - 1 by omega]
theorem yB_bounds {n : Nat} {g : Nat → Nat → Q} (h : GOKr n g) : 0 ≤ yB n g ∧ yB n g ≤ (n : Int) * MS ∧ (0 < n → yB n g = (gRc g (n - 1)).y) := by
  rcases Nat.eq_zero_or_pos n with h0 | hpos
  · have g1 : decide ((n : Int) > 0) = false := by simp [h0]
    simp only [yB, g1, cond_false, MS]
    omega
  · have g1 : decide ((n : Int) > 0) = true := by simp; omega
    simp only [yB, g1, cond_true]
    rw [yL_eq hpos h.hn]
    obtain ⟨a, b, c, d, e, f, k, l⟩ := h.hr (n - 1) (by omega)
    simp only [MS] at *
    refine ⟨e, by omega, fun _ => trivial⟩
theorem y0_eq {n : Nat} {g : Nat → Nat → Q} {x : Fl} (h : GOKr n g) : y0 n g x = leY n g x (yB n g) ∧ 0 ≤ y0 n g x ∧ y0 n g x ≤ (n : Int) * MS ∧ yB n g ≤ y0 n g x ∧ (x.c = true → lowS g n ≤ y0 n g x) := by
  obtain ⟨h1, h2, h3⟩ := yB_bounds h
  have h4 := h.low n (Nat.le_refl _)
  unfold y0 leY
  cases x.c with
  | false => simp only [cond_false]; exact ⟨trivial, h1, h2, by omega, fun h => by cases h⟩
  | true => simp only [cond_true, mx2_eq, lE_eq h1]; exact ⟨trivial, by omega, by omega, by omega, fun _ => by omega⟩

theorem yK_eq {n : Nat} {g : Nat → Nat → Q} {y : Int} : ∀ k, yK n g y k = ryK n g y k
  | 0 => rfl
  | k + 1 => by simp only [yK, ryK, yK_eq k, (nextY_eq _).1]

theorem nMS {n : Nat} (h : n ≤ 20) : (n : Int) * MS ≤ 20971520 ∧ 0 ≤ (n : Int) * MS := by
  simp only [MS]; omega

/-- Where it is asked, as long as it does not fit. -/
theorem ry_at {n : Nat} {g f : Nat → Nat → Q} {w : Int} {x : Fl} {y : Int} (hg : GOKr n g) (kx : XOK x w) (y0 : 0 ≤ y) (y1 : y ≤ (n : Int) * MS) : ∀ k, (∀ j, j < k → fitsB n g f w x (ryK n g y j) = false) → y + k ≤ ryK n g y k ∧ ryK n g y k ≤ (n : Int) * MS
  | 0, _ => ⟨by simp [ryK], y1⟩
  | k + 1, h => by
    obtain ⟨h1, h2⟩ := ry_at hg kx y0 y1 k fun j hj => h j (by omega)
    have hb := nMS hg.hn
    have q : YH (ryK n g y k) x.h := ⟨by omega, by omega, kx.h0, kx.h1⟩
    have hf := h k (by omega)
    have hex : ∃ i, i < n ∧ Hit (gRc g i) (ryK n g y k) x.h := by
      apply Classical.byContradiction
      intro hno
      rw [(fl_fits_iff hg kx q).2 (.inr fun i hi hh => hno ⟨i, hi, hh⟩)] at hf
      cases hf
    obtain ⟨i, hi, hh⟩ := hex
    obtain ⟨e1, e2, e3, e4, e5, e6⟩ := ends_eq (ryK n g y k) (lowS_ge (g := g) n).2 n (Nat.le_refl _)
    have hgt : lowE (gRc g i) > ryK n g y k := by
      rw [(hg.ends hi).1]; exact hh.2.2.2
    obtain ⟨hok, _⟩ := e4 i hi hgt
    obtain ⟨p1, j, hj, p2⟩ := e2 hok
    have := (hg.ends hj).2
    simp only [ryK]
    omega

theorem ex_stop {n : Nat} {g f : Nat → Nat → Q} {w : Int} {x : Fl} {y : Int} (hg : GOKr n g) (kx : XOK x w) (y0 : 0 ≤ y) (y1 : y ≤ (n : Int) * MS) : ∃ k, StopR n g f w x y k := by
  apply Classical.byContradiction
  intro hno
  have hall : ∀ j, fitsB n g f w x (ryK n g y j) = false := fun j => by
    cases hb : fitsB n g f w x (ryK n g y j) with
    | false => rfl
    | true => exact absurd ⟨j, hb⟩ hno
  have h := ry_at hg kx y0 y1 20971521 fun j _ => hall j
  have hb := nMS hg.hn
  omega

theorem fin_eq {n : Nat} {g f : Nat → Nat → Q} {w : Int} {x : Fl} {y : Int} (hg : GOKr n g) (kx : XOK x w) (h0 : 0 ≤ y) (h1 : y ≤ (n : Int) * MS) :
    (∃ k, StopK n g f w x y k) ∧ finY n g f w x y = rfinY n g f w x y ∧ y ≤ rfinY n g f w x y ∧ rfinY n g f w x y ≤ (n : Int) * MS ∧ fitsB n g f w x (rfinY n g f w x y) = true := by
  have hex := ex_stop (f := f) hg kx h0 h1
  have hs := lastR_spec hex
  have hbf : ∀ k, k < lastR n g f w x y → fitsB n g f w x (ryK n g y k) = false := fun k hk => lastR_before hex hk
  have hb := nMS hg.hn
  have hq : ∀ k, k ≤ lastR n g f w x y → YH (ryK n g y k) x.h := fun k hk => by
    have := ry_at hg kx h0 h1 k fun j hj => hbf j (by omega)
    exact ⟨by omega, by omega, kx.h0, kx.h1⟩
  have sk : StopK n g f w x y (lastR n g f w x y) := by
    show tightY n g f w x (yK n g y _) = false
    rw [yK_eq, tight_eq hg (hq _ (Nat.le_refl _)), hs]; rfl
  have hexK : ∃ k, StopK n g f w x y k := ⟨_, sk⟩
  have hle : lastK n g f w x y ≤ lastR n g f w x y := by
    rcases Nat.lt_or_ge (lastR n g f w x y) (lastK n g f w x y) with h | h
    · have h2 : tightY n g f w x (yK n g y _) = true := lastK_before hexK h
      have h3 : tightY n g f w x (yK n g y _) = false := sk
      rw [h2] at h3; cases h3
    · exact h
  have hge : lastR n g f w x y ≤ lastK n g f w x y := by
    rcases Nat.lt_or_ge (lastK n g f w x y) (lastR n g f w x y) with h | h
    · have h1 : tightY n g f w x (yK n g y _) = false := lastK_spec hexK
      rw [yK_eq, tight_eq hg (hq _ hle), hbf _ h] at h1
      cases h1
    · exact h
  have he : lastK n g f w x y = lastR n g f w x y := Nat.le_antisymm hle hge
  have hr := ry_at hg kx h0 h1 _ hbf
  refine ⟨hexK, ?_, ?_, ?_, hs⟩
  · unfold finY rfinY; rw [he, yK_eq]
  · unfold rfinY; omega
  · unfold rfinY; omega

/-- Two rectangles have something in common. -/
def Over (a b : Rc) : Prop := 0 < a.w ∧ 0 < b.w ∧ 0 < a.h ∧ 0 < b.h ∧ a.x < b.x + b.w ∧ b.x < a.x + a.w ∧ a.y < b.y + b.h ∧ b.y < a.y + a.h

/-- What is known of one that is placed behind n. -/
structure PR (n : Nat) (g f : Nat → Nat → Q) (w : Int) (x : Fl) (r : Rc) : Prop where
  ew : r.w = x.w
  eh : r.h = x.h
  x0 : 0 ≤ r.x
  xw : r.x + r.w ≤ w ∨ (w < x.w ∧ r.x = 0)
  y0 : 0 ≤ r.y
  y1 : r.y ≤ (n : Int) * MS
  yb : yB n g ≤ r.y
  yc : x.c = true → lowS g n ≤ r.y
  ap : ∀ k, k < n → ¬ Over (gRc g k) r

theorem rAt_eq {n : Nat} {g f : Nat → Nat → Q} {w : Int} {x : Fl} {y : Int} (hg : GOKr n g) (k : XOK x w) (q : YH y x.h) :
    rAt n g f w x y = if x.r = true then max (w - rI g f w y x.h true n - x.w) 0 else rI g f w y x.h false n := by
  obtain ⟨c1, c2, _⟩ := rI_all (f := f) hg q k.w0 k.w1 true n (Nat.le_refl _)
  obtain ⟨x0, x1, h0, h1, w0, w1⟩ := k
  simp only [MS] at *
  unfold rAt
  rw [mx2_eq, w64_id (n := w - rI g f w y x.h true n) (by omega) (by omega), w64_id (by omega) (by omega)]
  cases x.r <;> simp

theorem pl_one {n : Nat} {g f : Nat → Nat → Q} {w : Int} {x : Fl} (hg : GOKr n g) (kx : XOK x w) :
    (∀ m, n ≤ m → plOK n g m f w x) ∧ plR n g f w x = rplR n g f w x ∧ PR n g f w x (rplR n g f w x) ∧ (∃ k, StopR n g f w x (leY n g x (yB n g)) k) ∧ fitsB n g f w x (rplY n g f w x) = true := by
  obtain ⟨e0, b0, b1, b2, b3⟩ := y0_eq (x := x) hg
  obtain ⟨f1, f2, f3, f4, f5⟩ := fin_eq (f := f) hg kx b0 b1
  have hb := nMS hg.hn
  have hY : rplY n g f w x = rfinY n g f w x (y0 n g x) := by unfold rplY; rw [e0]
  have q : YH (rplY n g f w x) x.h := ⟨by omega, by omega, kx.h0, kx.h1⟩
  have hfit : fitsB n g f w x (rplY n g f w x) = true := by rw [hY]; exact f5
  refine ⟨fun m hm => ⟨hm, by have := hg.hn; omega, f1⟩, ?_, ?_, ?_, hfit⟩
  · unfold plR
    rw [show plY n g f w x = rplY n g f w x from f2.trans hY.symm, atX_eq hg q]
  · have hf := (fl_fits_iff hg kx q).1 hfit
    obtain ⟨l1, l2, l3, l4, l5⟩ := rI_all (f := f) hg q kx.w0 kx.w1 false n (Nat.le_refl _)
    obtain ⟨r1, r2, r3, r4, r5⟩ := rI_all (f := f) hg q kx.w0 kx.w1 true n (Nat.le_refl _)
    have ea := rAt_eq (f := f) hg kx q
    obtain ⟨x0, x1, h0, h1, w0, w1⟩ := kx
    generalize hL : rI g f w (rplY n g f w x) x.h false n = L at *
    generalize hR : rI g f w (rplY n g f w x) x.h true n = R at *
    have key : (L + R + x.w ≤ w) ∨ ((∀ k, k < n → ¬ Hit (gRc g k) (rplY n g f w x) x.h) ∧ L = 0 ∧ R = 0) := by
      rcases hf with h | h
      · exact .inl h
      · exact .inr ⟨h, l5 h, r5 h⟩
    have hx : 0 ≤ rAt n g f w x (rplY n g f w x) := by rw [ea]; split <;> omega
    refine ⟨rfl, rfl, hx, ?_, ?_, ?_, ?_, ?_, ?_⟩
    · show rAt n g f w x (rplY n g f w x) + x.w ≤ w ∨ (w < x.w ∧ rAt n g f w x (rplY n g f w x) = 0)
      rw [ea]
      rcases key with h | ⟨_, h1, h2⟩
      · left; split <;> omega
      · split <;> omega
    · show 0 ≤ rplY n g f w x; omega
    · show rplY n g f w x ≤ _; omega
    · show _ ≤ rplY n g f w x; omega
    · intro hc
      have := b3 hc
      show _ ≤ rplY n g f w x; omega
    · intro k hk ho
      obtain ⟨o1, o2, o3, o4, o5, o6, o7, o8⟩ := ho
      have e : rplR n g f w x = ⟨rAt n g f w x (rplY n g f w x), rplY n g f w x, x.w, x.h⟩ := rfl
      rw [e] at o2 o4 o5 o6 o7 o8
      simp only at o2 o4 o5 o6 o7 o8
      have hit : Hit (gRc g k) (rplY n g f w x) x.h := ⟨o1, o3, by dsimp only; omega, o8⟩
      rcases key with h | ⟨h, _, _⟩
      · cases hr : (gFl f k).r with
        | false =>
          have := l4 k hk hit hr
          simp only [sideN, Bool.false_eq_true, if_false] at this
          rw [ea] at o6
          revert o6; split <;> intro o6 <;> omega
        | true =>
          have := r4 k hk hit hr
          simp only [sideN, if_true] at this
          rw [ea] at o5
          revert o5; split <;> intro o5 <;> omega
      · exact h k hk hit
  · have := ex_stop (f := f) hg kx b0 b1
    rw [e0] at this
    exact this
end Go.Proofs.YthmlbmambcigcaaGreatDoor

/- Plain laws of floats: where all are placed. -/
namespace Go.Proofs.YthmlbmambcigcaaGreatDoor
open Go Go.SX Go.Proofs
set_option maxRecDepth 100000
variable [EA]
set_option linter.unusedVariables false
set_option linter.unusedSectionVars false
set_option linter.unusedSimpArgs false

theorem cat_lt {n : Nat} {g h : Nat → Nat → Q} {k : Nat} (hk : k < n) : gRc (catG n g h) k = gRc g k := by
  simp only [gRc, catG, decide_eq_true hk, cond_true]
theorem cat_at {n : Nat} {g : Nat → Nat → Q} {r : Rc} : gRc (catG n g (one1 r)) n = r := by
  have : decide (n < n) = false := by simp
  simp only [gRc, catG, this, cond_false, Nat.sub_self]
  rfl

/-- Two rows are the same, the first n. -/
def Same (n : Nat) (g g' : Nat → Nat → Q) : Prop := ∀ k, k < n → gRc g k = gRc g' k
theorem low_same {g g' : Nat → Nat → Q} : ∀ n, Same n g g' → lowS g n = lowS g' n
  | 0, _ => rfl
  | n + 1, h => by simp only [lowS, low_same n fun k hk => h k (by omega), h n (by omega)]
theorem yB_same {g g' : Nat → Nat → Q} {n : Nat} (hn : n ≤ 20) (h : Same n g g') : yB n g = yB n g' := by
  rcases Nat.eq_zero_or_pos n with h0 | hpos
  · have g1 : decide ((n : Int) > 0) = false := by simp [h0]
    simp only [yB, g1, cond_false]
  · simp only [yB]
    rw [yL_eq hpos hn, yL_eq hpos hn, h (n - 1) (by omega)]
theorem PR.same {n : Nat} {g g' f : Nat → Nat → Q} {w : Int} {x : Fl} {r : Rc} (hn : n ≤ 20) (h : Same n g g') (p : PR n g f w x r) : PR n g' f w x r := by
  obtain ⟨a, b, c, d, e, e2, e3, e4, e5⟩ := p
  exact ⟨a, b, c, d, e, e2, by rw [← yB_same hn h]; exact e3, by rw [← low_same n h]; exact e4, fun k hk => by rw [← h k hk]; exact e5 k hk⟩

/-- All of a row are placed as they must be. -/
structure All (n : Nat) (g f : Nat → Nat → Q) (w : Int) : Prop where
  ok : GOKr n g
  pr : ∀ k, k < n → PR k g f w (gFl f k) (gRc g k)

theorem All.le {n k : Nat} {g f : Nat → Nat → Q} {w : Int} (h : All n g f w) (hk : k ≤ n) : All k g f w := ⟨h.ok.le hk, fun i hi => h.pr i (by omega)⟩
theorem All.same {n : Nat} {g g' f : Nat → Nat → Q} {w : Int} (h : All n g f w) (hs : Same n g g') : All n g' f w :=
  ⟨⟨h.ok.hn, fun i hi => by rw [← hs i hi]; exact h.ok.hr i hi⟩, fun k hk => by
    rw [← hs k hk]
    exact (h.pr k hk).same (by have := h.ok.hn; omega) fun j hj => hs j (by omega)⟩

theorem all_step {n m : Nat} {g f : Nat → Nat → Q} {w : Int} (h : All n g f w) (hF : FOK m f w) (hn : n < m) : All (n + 1) (catG n g (one1 (rplR n g f w (gFl f n)))) f w := by
  obtain ⟨_, _, p, _⟩ := pl_one (f := f) h.ok (hF.xok hn)
  have kx := hF.xok hn
  have hs : Same n g (catG n g (one1 (rplR n g f w (gFl f n)))) := fun k hk => (cat_lt hk).symm
  have h' := h.same hs
  refine ⟨⟨by have := hF.hm; omega, fun i hi => ?_⟩, fun k hk => ?_⟩
  · rcases Nat.lt_or_ge i n with hlt | hge
    · exact h'.ok.hr i hlt
    · obtain rfl : i = n := by omega
      rw [cat_at]
      obtain ⟨a, b, c, d, e, e2, _⟩ := p
      obtain ⟨x0, x1, h0, h1, w0, w1⟩ := kx
      generalize rplR i g f w (gFl f i) = r at *
      simp only [MS] at *
      refine ⟨c, ?_, by omega, ?_, e, by omega, by omega, by omega⟩
      · rcases d with d | d <;> omega
      · rcases d with d | d <;> omega
  · rcases Nat.lt_or_ge k n with hlt | hge
    · exact h'.pr k hlt
    · obtain rfl : k = n := by omega
      rw [cat_at]
      exact p.same (by have := hF.hm; omega) hs

theorem gR_all {m : Nat} {f : Nat → Nat → Q} {w : Int} (hF : FOK m f w) : ∀ i, i ≤ m → All i (gR f w i) f w
  | 0, _ => ⟨⟨by omega, fun i hi => by omega⟩, fun k hk => by omega⟩
  | i + 1, hi => all_step (gR_all hF i (by omega)) hF hi

theorem gP_eq {m : Nat} {f : Nat → Nat → Q} {w : Int} (hF : FOK m f w) : ∀ i, i ≤ m → gP f w i = gR f w i
  | 0, _ => rfl
  | i + 1, hi => by
    obtain ⟨_, e, _⟩ := pl_one (f := f) (gR_all hF i (by omega)).ok (hF.xok hi)
    simp only [gP, gR, plG, gz_id, gP_eq hF i (by omega), e]

theorem all_pl {m : Nat} {f : Nat → Nat → Q} {w : Int} (hF : FOK m f w) : allPl m f w := fun i hi => by
  obtain ⟨h, _⟩ := pl_one (f := f) (gR_all hF i (by omega)).ok (hF.xok hi)
  rw [gP_eq hF i (by omega)]
  exact h m (by omega)
theorem all_rp {m : Nat} {f : Nat → Nat → Q} {w : Int} (hF : FOK m f w) : allRp m f w := ⟨by have := hF.hm; omega, fun i hi => by
  obtain ⟨_, _, _, h, _⟩ := pl_one (f := f) (gR_all hF i (by omega)).ok (hF.xok hi)
  exact h⟩

/-- What is placed stays. -/
theorem gR_pre (f : Nat → Nat → Q) (w : Int) {i : Nat} : ∀ j, i ≤ j → Same i (gR f w j) (gR f w i)
  | 0, h => fun k hk => by omega
  | j + 1, h => fun k hk => by
    rcases Nat.lt_or_ge i (j + 1) with hlt | hge
    · show gRc (catG j (gR f w j) _) k = _
      rw [cat_lt (by omega)]
      exact gR_pre f w j (by omega) k hk
    · rw [show i = j + 1 by omega]

/-- Floats that are the same, the first i, are placed the same. -/
theorem gR_congr {f f' : Nat → Nat → Q} {w : Int} (h : ∀ k j, f k j = f' k j) (i : Nat) : gR f w i = gR f' w i := by
  have : f = f' := by funext k j; exact h k j
  rw [this]

theorem lastR_is {n : Nat} {g f : Nat → Nat → Q} {w : Int} {x : Fl} {y : Int} {k : Nat} (h : StopR n g f w x y k) (hb : ∀ j, j < k → fitsB n g f w x (ryK n g y j) = false) : lastR n g f w x y = k := by
  have hex : ∃ k, StopR n g f w x y k := ⟨k, h⟩
  rcases Nat.lt_or_ge k (lastR n g f w x y) with h1 | h1
  · have h2 := lastR_before hex h1
    have h3 : fitsB n g f w x (ryK n g y k) = true := h
    rw [h2] at h3; cases h3
  · rcases Nat.lt_or_ge (lastR n g f w x y) k with h2 | h2
    · have h3 := hb _ h2
      have h4 : fitsB n g f w x (ryK n g y _) = true := lastR_spec hex
      rw [h3] at h4; cases h4
    · omega
end Go.Proofs.YthmlbmambcigcaaGreatDoor

/- The functions of float, one by one: those that others call. -/
namespace Go.Proofs.YthmlbmambcigcaaGreatDoor
open Go Go.SX Go.Proofs
set_option maxRecDepth 100000
variable [EA]
set_option linter.unusedVariables false
set_option linter.unusedSectionVars false
set_option linter.unusedSimpArgs false

noncomputable abbrev ΓT : Gam := [(38, placed.s), (39, AsFloat.ftold.s), (40, low.s), (90, .x false insets.s), (92, end.s), (1 + 1048576, .g (errP 0))]
theorem ΓT.ok : GOK Tryz.prog ΓT := .cons placed.ok (.cons AsFloat.ftold.ok (.cons low.ok (.consX insets.ok (.cons end.ok (.consG gl_float (GOK.nil _))))))

abbrev codF (m : Nat) (f : Nat → Nat → Q) (w : Int) : Int := bif rightF m f w then 0 else 110
abbrev plN (m : Nat) (f : Nat → Nat → Q) (w : Int) : Nat := bif rightF m f w then m else 0
/-- What told says of an error; else nothing. -/
noncomputable abbrev tT (x : V) (r : V) : T V := .ite (@decide ([x] = [errFV]) (Classical.propDecidable _)) (.leaf r) .bad
theorem tT_pick (r : V) : (tT errFV r).pick = some r := by
  show (T.ite (@decide ([errFV] = [errFV]) (Classical.propDecidable _)) (T.leaf r) .bad).pick = _
  rw [pick_same]; rfl
noncomputable abbrev dPl (m : Nat) (f : Nat → Nat → Q) (w : Int) : Bool := @decide (allPl m f w) (Classical.propDecidable _)
theorem dPl_true {m : Nat} {f : Nat → Nat → Q} {w : Int} (h : rightF m f w = true) : dPl m f w = true := @decide_eq_true _ (Classical.propDecidable _) (all_pl (fl_right_ok.1 h))
theorem gP_R {m : Nat} {f : Nat → Nat → Q} {w : Int} (h : rightF m f w = true) : gP f w m = gR f w m := gP_eq (fl_right_ok.1 h) m (Nat.le_refl _)

/-! ### Place -/
noncomputable abbrev fPlace.s := spFW fun m f w => .leaf (.tup [lst4 (plN m f w) (gR f w m), V.i (codF m f w)])
theorem fPlace.eq (m : Nat) (f : Nat → Nat → Q) (w : Int) :
    funV Tryz.prog ΓT [] Tryz.f23 (cod Tryz.f23) [lstF m f, V.i w] =
      .ite (rightF m f w) (.ite (dPl m f w) (.ite false (tT nilE (.tup [.q (.c (.slice none 0 0)), V.i 110])) (.leaf (.tup [lst4 m (gP f w m), V.i 0]))) .bad) (.ite true (tT errFV (.tup [.q (.c (.slice none 0 0)), V.i 110])) .bad) := by kernel_rfl
theorem fPlace.ok : SpecOK Tryz.prog 23 fPlace.s := by
  have h0 : SpecOK Tryz.prog 23 (spFW fun m f w => .ite (rightF m f w) (.leaf (.tup [lst4 m (gR f w m), V.i 0])) (.leaf (.tup [.q (.c (.slice none 0 0)), V.i 110]))) := by
    refine okFW ΓT.ok Tryz.func23 (by kernel_rfl) (by kernel_rfl) fun m f w v hb hv => ?_
    refine ⟨[], LamOK.nil _ _, ?_⟩
    rw [fPlace.eq, ← hv, pick_ite, pick_ite]
    cases h : rightF m f w with
    | false => simp only [cond_false]; rw [pick_ite, cond_true, tT_pick]; rfl
    | true => simp only [cond_true]; rw [pick_ite, dPl_true h, cond_true, pick_ite, cond_false, gP_R h]; rfl
  refine h0.res fun args r hb he => ?_
  unfold fPlace.s spFW at he
  split at he
  · rename_i m f w
    simp only [T.pick, Option.some.injEq] at he
    subst he
    cases h : rightF m f w with
    | true =>
      refine ⟨.tup [lst4 m (gR f w m), V.i 0], by simp only [spFW, pick_ite, h, cond_true]; rfl, fun S w' v hd => ?_⟩
      simp only [plN, codF, h, cond_true]; exact hd
    | false =>
      refine ⟨.tup [.q (.c (.slice none 0 0)), V.i 110], by simp only [spFW, pick_ite, h, cond_false]; rfl, fun S w' v hd => ?_⟩
      simp only [plN, codF, h, cond_false]
      cases hd with
      | tup _ vs hl =>
        cases hl with
        | cons _ _ _ _ h1 hl => exact .tup _ _ (.cons _ _ _ _ (den_nil0 rfl h1) hl)
  · cases he

/-! ### Low -/
noncomputable abbrev fLow.s := spFW fun m f w => .leaf (.tup [V.i (bif rightF m f w then lowS (gR f w m) m else 0), V.i (codF m f w)])
theorem fLow.eq (m : Nat) (f : Nat → Nat → Q) (w : Int) :
    funV Tryz.prog ΓT [] Tryz.f20 (cod Tryz.f20) [lstF m f, V.i w] =
      .ite (rightF m f w) (.ite (dPl m f w) (.ite false (tT nilE (.tup [V.i 0, V.i 110])) (.leaf (.tup [V.i (lowS (gP f w m) m), V.i 0]))) .bad) (.ite true (tT errFV (.tup [V.i 0, V.i 110])) .bad) := by kernel_rfl
theorem fLow.ok : SpecOK Tryz.prog 20 fLow.s := by
  refine okFW ΓT.ok Tryz.func20 (by kernel_rfl) (by kernel_rfl) fun m f w v hb hv => ?_
  refine ⟨[], LamOK.nil _ _, ?_⟩
  rw [fLow.eq, ← hv, pick_ite]
  cases h : rightF m f w with
  | false => simp only [cond_false]; rw [pick_ite, cond_true, tT_pick]; simp only [codF, h, cond_false]; rfl
  | true => simp only [cond_true]; rw [pick_ite, dPl_true h, cond_true, pick_ite, cond_false, gP_R h]; simp only [codF, h, cond_true]

/-! ### Insets -/
def bad4 (y h : Int) : Bool := bif decide (y < 0) then true else (bif decide (y > 67108864) then true else (bif decide (h < 0) then true else decide (h > 1048576)))
abbrev okYH (m : Nat) (f : Nat → Nat → Q) (w y h : Int) : Bool := bif rightF m f w then !(bad4 y h) else false
noncomputable def fIn3 (m : Nat) (f : Nat → Nat → Q) (w y h : Int) : V := .tup [V.i (bif okYH m f w y h then rI (gR f w m) f w y h false m else 0), V.i (bif okYH m f w y h then rI (gR f w m) f w y h true m else 0), V.i (bif okYH m f w y h then 0 else 110)]

theorem yh_of {y h : Int} (hb : bad4 y h = false) : YH y h := by
  unfold bad4 at hb
  by_cases h1 : y < 0
  · simp [h1] at hb
  · by_cases h2 : y > 67108864
    · simp [h1, h2] at hb
    · by_cases h3 : h < 0
      · simp [h1, h2, h3] at hb
      · by_cases h4 : h > 1048576
        · simp [h1, h2, h3, h4] at hb
        · exact ⟨by omega, by omega, by omega, by simp only [MS]; omega⟩
abbrev tup3 (a b c : Int) : V := .tup [V.i a, V.i b, V.i c]
noncomputable abbrev inT (m : Nat) (f : Nat → Nat → Q) (w y h : Int) : T V := .ite (decide (m ≤ m)) (.leaf (tup3 (lkM (insM (gP f w m) f w y h m) false) (lkM (insM (gP f w m) f w y h m) true) 0)) .bad
theorem fInsets.eq (m : Nat) (f : Nat → Nat → Q) (w y h : Int) :
    funV Tryz.prog ΓT [] Tryz.f79 (cod Tryz.f79) [lstF m f, V.i w, V.i y, V.i h] =
      .ite (rightF m f w) (.ite (dPl m f w) (.ite (bif true then bad4 y h else false) (.ite true (tT errFV (tup3 0 0 110)) (inT m f w y h)) (.ite false (tT nilE (tup3 0 0 110)) (inT m f w y h))) .bad)
        (.ite (bif false then bad4 y h else false) (.ite true (tT errFV (tup3 0 0 110)) .bad) (.ite true (tT errFV (tup3 0 0 110)) .bad)) := by kernel_rfl
def spFWyh (F : Nat → (Nat → Nat → Q) → Int → Int → Int → T V) : List V → T V
  | [.q (.lst [.int .i64, .int .i64, .bool, .bool] m f), .q (.c (.int .i64 w)), .q (.c (.int .i64 y)), .q (.c (.int .i64 h))] => F m f w y h
  | _ => .bad
noncomputable abbrev fInsets.s := spFWyh fun m f w y h => .leaf (fIn3 m f w y h)
theorem fInsets.ok : SpecOK Tryz.prog 79 fInsets.s := by
  refine specOK_of_body ΓT.ok (LamOK.nil _ _) Tryz.func79 (isBody _ (by kernel_rfl)) (by kernel_rfl) fun args r he => ?_
  unfold fInsets.s spFWyh at he
  split at he
  · rename_i m f w y h
    refine (congrArg T.pick (fInsets.eq m f w y h)).trans ?_
    rw [← he, pick_ite]
    unfold fIn3 okYH
    cases hr : rightF m f w with
    | false => simp only [cond_false, hr]; rw [pick_ite, cond_false, pick_ite, cond_true, tT_pick]; rfl
    | true =>
      simp only [cond_true, hr]
      rw [pick_ite, dPl_true hr, cond_true, pick_ite]
      cases hb : bad4 y h with
      | true => simp only [cond_true, Bool.not_true, cond_false]; rw [pick_ite, cond_true, tT_pick]; rfl
      | false =>
        have q := yh_of hb
        have hg := (gR_all (fl_right_ok.1 hr) m (Nat.le_refl _)).ok
        simp only [cond_false, Bool.not_false, cond_true]
        rw [pick_ite, cond_false]
        unfold inT insM
        rw [gP_R hr, ins_lk hg q false m (Nat.le_refl _), ins_lk hg q true m (Nat.le_refl _), pick_ite, decide_eq_true (Nat.le_refl m), cond_true]
  · cases he

/-! ### Next -/
def spFWy (F : Nat → (Nat → Nat → Q) → Int → Int → T V) : List V → T V
  | [.q (.lst [.int .i64, .int .i64, .bool, .bool] m f), .q (.c (.int .i64 w)), .q (.c (.int .i64 y))] => F m f w y
  | _ => .bad
abbrev tupN (a : Int) (b : Bool) (c : Int) : V := .tup [V.i a, V.b b, V.i c]
noncomputable abbrev fNext.s := spFWy fun m f w y => .leaf (tupN (bif rightF m f w then (rEb (gR f w m) y m).1 else 0) (bif rightF m f w then (rEb (gR f w m) y m).2 else false) (codF m f w))
theorem fNext.eq (m : Nat) (f : Nat → Nat → Q) (w y : Int) :
    funV Tryz.prog ΓT [] Tryz.f81 (cod Tryz.f81) [lstF m f, V.i w, V.i y] =
      .ite (rightF m f w) (.ite (dPl m f w) (.ite false (tT nilE (tupN 0 false 110)) (.leaf (tupN (bif eB (gP f w m) y m then eS m (gP f w m) y m else 0) (eB (gP f w m) y m) 0))) .bad)
        (.ite true (tT errFV (tupN 0 false 110)) .bad) := by kernel_rfl
theorem fNext.ok : SpecOK Tryz.prog 81 fNext.s := by
  refine specOK_of_body ΓT.ok (LamOK.nil _ _) Tryz.func81 (isBody _ (by kernel_rfl)) (by kernel_rfl) fun args r he => ?_
  unfold fNext.s spFWy at he
  split at he
  · rename_i m f w y
    refine (congrArg T.pick (fNext.eq m f w y)).trans ?_
    rw [← he, pick_ite]
    unfold codF
    cases hr : rightF m f w with
    | false => simp only [cond_false, hr]; rw [pick_ite, cond_true, tT_pick]; rfl
    | true =>
      simp only [cond_true, hr]
      rw [pick_ite, dPl_true hr, cond_true, pick_ite, cond_false, gP_R hr]
      obtain ⟨e1, e2⟩ := nextY_eq (g := gR f w m) (n := m) y
      unfold nextY at e1
      rw [e1, e2]
  · cases he

/-! ### the document's -/
noncomputable abbrev ΓRt : Gam := [(59, fl_rRight.s), (63, rplace.s), (82, rsize.s), (83, rinsets.s), (89, rends.s)]
theorem ΓRt.ok : GOK Tryz.prog ΓRt := .cons fl_rRight.ok (.cons rplace.ok (.cons rsize.ok (.cons rinsets.ok (.cons rends.ok (GOK.nil _)))))
noncomputable abbrev dRp (m : Nat) (f : Nat → Nat → Q) (w : Int) : Bool := @decide (allRp m f w) (Classical.propDecidable _)
theorem dRp_true {m : Nat} {f : Nat → Nat → Q} {w : Int} (h : rightF m f w = true) : dRp m f w = true := @decide_eq_true _ (Classical.propDecidable _) (all_rp (fl_right_ok.1 h))

theorem rPlace.eq (m : Nat) (f : Nat → Nat → Q) (w : Int) :
    funV Tryz.prog ΓRt [] Tryz.f60 (cod Tryz.f60) [lstF m f, V.i w] =
      .ite (!(rightS m f w)) (.leaf (.tup [.q (.c (.slice none 0 0)), V.i 110])) (.ite (dRp m f w) (.leaf (.tup [lst4 m (gR f w m), V.i 0])) .bad) := by kernel_rfl
theorem rPlace.ok : SpecOK Tryz.prog 60 fPlace.s := by
  have h0 : SpecOK Tryz.prog 60 (spFW fun m f w => .ite (rightF m f w) (.leaf (.tup [lst4 m (gR f w m), V.i 0])) (.leaf (.tup [.q (.c (.slice none 0 0)), V.i 110]))) := by
    refine okFW ΓRt.ok Tryz.func60 (by kernel_rfl) (by kernel_rfl) fun m f w v hb hv => ?_
    refine ⟨[], LamOK.nil _ _, ?_⟩
    rw [rPlace.eq, ← hv, pick_ite, pick_ite, ← right_eq]
    cases h : rightF m f w with
    | false => rfl
    | true => simp only [Bool.not_true, cond_false, cond_true]; rw [pick_ite, dRp_true h, cond_true]; rfl
  refine h0.res fun args r hb he => ?_
  unfold fPlace.s spFW at he
  split at he
  · rename_i m f w
    simp only [T.pick, Option.some.injEq] at he
    subst he
    cases h : rightF m f w with
    | true =>
      refine ⟨.tup [lst4 m (gR f w m), V.i 0], by simp only [spFW, pick_ite, h, cond_true]; rfl, fun S w' v hd => ?_⟩
      simp only [plN, codF, h, cond_true]; exact hd
    | false =>
      refine ⟨.tup [.q (.c (.slice none 0 0)), V.i 110], by simp only [spFW, pick_ite, h, cond_false]; rfl, fun S w' v hd => ?_⟩
      simp only [plN, codF, h, cond_false]
      cases hd with
      | tup _ vs hl =>
        cases hl with
        | cons _ _ _ _ h1 hl => exact .tup _ _ (.cons _ _ _ _ (den_nil0 rfl h1) hl)
  · cases he

end Go.Proofs.YthmlbmambcigcaaGreatDoor

/- The document's answer for floats, one by one: what the laws call; and the head of all laws. -/
namespace Go.Proofs.YthmlbmambcigcaaGreatDoor
open Go Go.SX Go.Proofs
set_option maxRecDepth 100000
variable [EA]
set_option linter.unusedVariables false
set_option linter.unusedSectionVars false
set_option linter.unusedSimpArgs false

def SLr (n : Nat) (g : Nat → Nat → Q) (a i : Int) : St := mkS 36 [(6, V.i a), (7, lst4 n g), (8, V.i i)] [] [] false [] 0
def FLr (a : Int) : Ex × St := (.exit 0, mkS 36 [(6, V.i a)] [] [] false [] 0)
def liveLr : Ex → List Nat | .normal => [6, 7, 8] | _ => [6]
noncomputable abbrev bodyLr : Code := loopAt Tryz.f37 [0, 1, 0, 1, 1, 1, 1]
theorem stepLr (n : Nat) (g : Nat → Nat → Q) (a : Int) (i : Nat) :
    (sx Tryz.prog [] [] [0, 0, 1, 0, 1, 1, 1, 1] bodyLr (SLr n g a i)).bind (fun x => T.leaf (x.1, deadS [] (canS 36 0 (liveLr x.1) x.2), chkM 36 0 x.2))
     = .ite (decide ((i : Int) < n)) (.ite (inI i n) (.ite (inI i n) (.leaf (.normal, SLr n g (mx2 a (lowE (gRc g i))) (w64 (i + 1)), true)) .bad) .bad) (.leaf ((FLr a).1, (FLr a).2, true)) := by kernel_rfl
theorem loopLr (n : Nat) (g : Nat → Nat → Q) (hn : n ≤ 9223372036854775807) : ∀ x, (T.leaf (FLr (lowS g n))).pick = some x → SemC Tryz.prog (.loop bodyLr) (SLr n g 0 0) x := by
  refine loop_tree (GOK.nil _) (root := cod Tryz.f37) (p := [0, 1, 0, 1, 1, 1, 1]) (by kernel_rfl) (fun i => i ≤ n) (fun i => SLr n g (lowS g i) i) (fun i => n - i) (.leaf (FLr (lowS g n))) 36 0 liveLr (fun _ => []) (fun i hi => ?_) 0 (Nat.zero_le _)
  have e := stepLr n g (lowS g i) i
  rcases Nat.lt_or_ge i n with hlt | hge
  · exact ⟨[], .normal, SLr n g (lowS g (i + 1)) (i + 1 : Nat), LamOK.nil _ _, by rw [e, c_lt hlt, inI, c_in hlt, w64_suc hlt hn]; rfl, .inl ⟨rfl, i + 1, hlt, by omega, rfl⟩⟩
  · exact ⟨[], .exit 0, _, LamOK.nil _ _, by rw [e, c_ge hge]; rfl, .inr ⟨by simp, by rw [show n = i by omega]; rfl⟩⟩

theorem rLow.eq (m : Nat) (f : Nat → Nat → Q) (w : Int) (a : Int) :
    funV Tryz.prog ΓRt [([0, 1, 0, 1, 1, 1, 1], orc false 36 0 [6, 7, 8] (SLr m (gR f w m) 0 0) (.leaf (FLr a)))] Tryz.f37 (cod Tryz.f37) [lstF m f, V.i w] =
      .ite (!(rightS m f w)) (.leaf (.tup [V.i 0, V.i 110])) (.ite (dRp m f w) (.ite (@decide (SLr m (gR f w m) 0 0 = SLr m (gR f w m) 0 0) (Classical.propDecidable _)) (.leaf (.tup [V.i a, V.i 0])) .bad) .bad) := by kernel_rfl
theorem rLow.ok : SpecOK Tryz.prog 37 fLow.s := by
  refine okFW ΓRt.ok Tryz.func37 (by kernel_rfl) (by kernel_rfl) fun m f w v hb hv => ?_
  refine ⟨[([0, 1, 0, 1, 1, 1, 1], orc false 36 0 [6, 7, 8] (SLr m (gR f w m) 0 0) (.leaf (FLr (lowS (gR f w m) m))))], LamOK.orc (c := .loop bodyLr) (by kernel_rfl) (loopLr m (gR f w m) hb) (LamOK.nil _ _), ?_⟩
  rw [rLow.eq, ← hv, pick_ite, ← right_eq]
  cases h : rightF m f w with
  | false => simp only [Bool.not_false, cond_true, codF, h, cond_false]
  | true => rw [Bool.not_true, cond_false, pick_ite, dRp_true h, cond_true, pick_same]; simp only [codF, h, cond_true]

def fl_badR (y h : Int) : Bool := bif decide (y < 0) then true else (bif decide (y > 67108864) then true else !(sizeB h))
theorem fl_badR_eq (y h : Int) : fl_badR y h = bad4 y h := by
  unfold fl_badR bad4 sizeB
  by_cases h1 : h < 0
  · have : ¬ h ≥ 0 := by omega
    simp [h1, this]
  · have : h ≥ 0 := by omega
    by_cases h2 : h > 1048576
    · have h3 : ¬ h ≤ 1048576 := by omega
      simp [h1, this, h2, h3]
    · have h3 : h ≤ 1048576 := by omega
      simp [h1, this, h2, h3]
theorem rInsets.eq (m : Nat) (f : Nat → Nat → Q) (w y h : Int) :
    funV Tryz.prog ΓRt [] Tryz.f61 (cod Tryz.f61) [lstF m f, V.i w, V.i y, V.i h] =
      .ite (bif !(rightS m f w) then true else fl_badR y h) (.leaf (tup3 0 0 110)) (.ite (dRp m f w) (.ite (decide (m ≤ m)) (.leaf (tup3 (rI (gR f w m) f w y h false m) (rI (gR f w m) f w y h true m) 0)) .bad) .bad) := by kernel_rfl
theorem rInsets.ok : SpecOK Tryz.prog 61 fInsets.s := by
  refine specOK_of_body ΓRt.ok (LamOK.nil _ _) Tryz.func61 (isBody _ (by kernel_rfl)) (by kernel_rfl) fun args r he => ?_
  unfold fInsets.s spFWyh at he
  split at he
  · rename_i m f w y h
    refine (congrArg T.pick (rInsets.eq m f w y h)).trans ?_
    rw [← he, pick_ite, ← right_eq, fl_badR_eq]
    unfold fIn3 okYH
    cases hr : rightF m f w with
    | false => simp only [cond_false, Bool.not_false, cond_true, hr]
    | true =>
      simp only [cond_true, Bool.not_true, cond_false, hr]
      cases hb : bad4 y h with
      | true => simp only [cond_true, Bool.not_true, cond_false]
      | false =>
        simp only [cond_false, Bool.not_false, cond_true]
        rw [pick_ite, dRp_true hr, cond_true, pick_ite, decide_eq_true (Nat.le_refl m), cond_true]
  · cases he

theorem fl_rNext.eq (m : Nat) (f : Nat → Nat → Q) (w y : Int) :
    funV Tryz.prog ΓRt [] Tryz.f86 (cod Tryz.f86) [lstF m f, V.i w, V.i y] =
      .ite (!(rightS m f w)) (.leaf (tupN 0 false 110)) (.ite (dRp m f w) (.leaf (tupN (rEb (gR f w m) y m).1 (rEb (gR f w m) y m).2 0)) .bad) := by kernel_rfl
theorem fl_rNext.ok : SpecOK Tryz.prog 86 fNext.s := by
  refine specOK_of_body ΓRt.ok (LamOK.nil _ _) Tryz.func86 (isBody _ (by kernel_rfl)) (by kernel_rfl) fun args r he => ?_
  unfold fNext.s spFWy at he
  split at he
  · rename_i m f w y
    refine (congrArg T.pick (fl_rNext.eq m f w y)).trans ?_
    rw [← he, pick_ite, ← right_eq]
    unfold codF
    cases hr : rightF m f w with
    | false => simp only [cond_false, Bool.not_false, cond_true, hr]
    | true =>
      simp only [cond_true, Bool.not_true, cond_false, hr]
      rw [pick_ite, dRp_true hr, cond_true]
  · cases he

/-! ### Rects -/
def sameB (n : Nat) (g g' : Nat → Nat → Q) : Bool := (List.range n).all fun i => eqR (gRc g i) (gRc g' i)
theorem sameB_false {n : Nat} {g g' : Nat → Nat → Q} {i : Nat} (hi : i < n) (h : eqR (gRc g i) (gRc g' i) = false) : sameB n g g' = false := by
  rw [sameB, List.all_eq_false]
  exact ⟨i, List.mem_range.2 hi, by rw [h]; simp⟩
theorem sameB_true {n : Nat} {g g' : Nat → Nat → Q} (h : ∀ i, i < n → eqR (gRc g i) (gRc g' i) = true) : sameB n g g' = true := by
  rw [sameB, List.all_eq_true]
  exact fun i hi => h i (List.mem_range.1 hi)
theorem sameB_of {n : Nat} {g g' : Nat → Nat → Q} (h : Same n g g') : sameB n g g' = true := sameB_true fun i hi => eqR_iff.2 (h i hi)
def SRs (n : Nat) (g : Nat → Nat → Q) (n' : Nat) (g' : Nat → Nat → Q) (i : Int) : St := mkS 26 [(0, lst4 n g), (1, lst4 n' g'), (5, V.i i)] [] [] false [] 0
def RRs (n : Nat) (g g' : Nat → Nat → Q) : Out := .ite (sameB n g g') (.leaf (.exit 0, mkS 26 [] [] [] false [] 0)) (.leaf (.ret, mkS 26 [(4, V.b false)] [] [] false [] 0))
def liveRs : Ex → List Nat | .normal => [0, 1, 5] | .ret => [4] | _ => []
noncomputable abbrev bodyRs : Code := loopAt Tryz.f27 [0, 1, 0, 1, 1]
theorem stepRs (n : Nat) (g : Nat → Nat → Q) (n' : Nat) (g' : Nat → Nat → Q) (i : Nat) :
    (sx Tryz.prog [] [] [0, 0, 1, 0, 1, 1] bodyRs (SRs n g n' g' i)).bind (fun x => T.leaf (x.1, deadS [] (canS 26 0 (liveRs x.1) x.2), chkM 26 0 x.2))
     = .ite (decide ((i : Int) < n)) (.ite (inI i n) (.ite (inI i n') (.ite (!(eqR (gRc g i) (gRc g' i))) (.leaf (.ret, mkS 26 [(4, V.b false)] [] [] false [] 0, true)) (.leaf (.normal, SRs n g n' g' (w64 (i + 1)), true))) .bad) .bad)
        (.leaf (.exit 0, mkS 26 [] [] [] false [] 0, true)) := by kernel_rfl
theorem loopRs (n : Nat) (g : Nat → Nat → Q) (n' : Nat) (g' : Nat → Nat → Q) (hnn : n = n') (hn : n ≤ 9223372036854775807) : ∀ x, (RRs n g g').pick = some x → SemC Tryz.prog (.loop bodyRs) (SRs n g n' g' 0) x := by
  refine loop_tree (GOK.nil _) (root := cod Tryz.f27) (p := [0, 1, 0, 1, 1]) (by kernel_rfl) (fun i => i ≤ n ∧ ∀ j, j < i → eqR (gRc g j) (gRc g' j) = true) (fun i => SRs n g n' g' i) (fun i => n - i) (RRs n g g') 26 0 liveRs (fun _ => []) (fun i hi => ?_) 0 ⟨Nat.zero_le _, fun j hj => absurd hj (Nat.not_lt_zero _)⟩
  obtain ⟨hi, hall⟩ := hi
  have e := stepRs n g n' g' i
  rcases Nat.lt_or_ge i n with hlt | hge
  · rw [c_lt hlt, inI, inI, c_in hlt, c_in (show i < n' by omega)] at e
    cases hr : eqR (gRc g i) (gRc g' i) with
    | false => exact ⟨[], .ret, _, LamOK.nil _ _, by rw [e, hr]; rfl, .inr ⟨by simp, by rw [RRs, sameB_false hlt hr]; rfl⟩⟩
    | true =>
      refine ⟨[], .normal, _, LamOK.nil _ _, by rw [e, hr]; rfl, .inl ⟨rfl, i + 1, ⟨hlt, fun j hj => ?_⟩, by omega, by rw [w64_suc hlt hn]⟩⟩
      rcases Nat.lt_or_ge j i with h | h
      · exact hall j h
      · rw [show j = i by omega]; exact hr
  · refine ⟨[], .exit 0, _, LamOK.nil _ _, by rw [e, c_ge hge]; rfl, .inr ⟨by simp, by rw [RRs, sameB_true fun j hj => hall j (by omega)]; rfl⟩⟩
abbrev rectsB (n : Nat) (g : Nat → Nat → Q) (n' : Nat) (g' : Nat → Nat → Q) : Bool := bif !((n : Int) == (n' : Int)) then false else sameB n g g'
def rects.s : List V → T V
  | [.q (.lst [.int .i64, .int .i64, .int .i64, .int .i64] n g), .q (.lst [.int .i64, .int .i64, .int .i64, .int .i64] n' g')] => .leaf (V.b (rectsB n g n' g'))
  | _ => .bad
theorem rects.eq (n : Nat) (g : Nat → Nat → Q) (n' : Nat) (g' : Nat → Nat → Q) :
    funV Tryz.prog [] [([0, 1, 0, 1, 1], orc false 26 0 [0, 1, 5] (SRs n g n' g' 0) (RRs n g g'))] Tryz.f27 (cod Tryz.f27) [lst4 n g, lst4 n' g'] =
      .ite (!((n : Int) == (n' : Int))) (.leaf (V.b false)) (.ite (@decide (SRs n g n' g' 0 = SRs n g n' g' 0) (Classical.propDecidable _)) (.ite (sameB n g g') (.leaf (V.b true)) (.leaf (V.b false))) .bad) := by kernel_rfl
theorem rects.eq0 (n : Nat) (g : Nat → Nat → Q) (n' : Nat) (g' : Nat → Nat → Q) :
    funV Tryz.prog [] [] Tryz.f27 (cod Tryz.f27) [lst4 n g, lst4 n' g'] =
      .ite (!((n : Int) == (n' : Int))) (.leaf (V.b false)) .bad := by kernel_rfl
theorem rects.ok : SpecOK Tryz.prog 27 rects.s := by
  refine specOK_of_bodyW (GOK.nil _) Tryz.func27 (isBody _ (by kernel_rfl)) (by kernel_rfl) fun args r hb he => ?_
  unfold rects.s at he
  split at he
  · rename_i n g n' g'
    have hn : n ≤ 9223372036854775807 := (hb (lst4 n g) (by simp)).1
    cases hh : ((n : Int) == (n' : Int)) with
    | false =>
      refine ⟨_, [], fun _ _ _ x => x, LamOK.nil _ _, (congrArg T.pick (rects.eq0 n g n' g')).trans ?_⟩
      rw [← he, rectsB, hh]; rfl
    | true =>
      have hnn : n = n' := by have := eq_of_beq hh; omega
      refine ⟨_, _, fun _ _ _ x => x, LamOK.orc (p := [0, 1, 0, 1, 1]) (mk := false) (nn := 26) (k := 0) (live := [0, 1, 5]) (c := .loop bodyRs) (by kernel_rfl) (loopRs n g n' g' hnn hn) (LamOK.nil _ _), (congrArg T.pick (rects.eq n g n' g')).trans ?_⟩
      rw [← he, rectsB, hh, pick_ite, Bool.not_true, cond_false, pick_same, pick_ite, cond_false]
      cases sameB n g g' <;> rfl
  · cases he

/-! ### Few, and the head of all laws -/
abbrev fewN (n : Nat) : Nat := (mn2 (n : Int) 22).toNat - (0 : Int).toNat
theorem fewN_le (n : Nat) : fewN n ≤ 22 ∧ fewN n ≤ n := by simp only [fewN, mn2_eq]; omega
def fl_few.s : List V → T V
  | [.q (.lst [.int .i64, .int .i64, .bool, .bool] m f)] => .leaf (lstF (fewN m) (gz f))
  | _ => .bad
noncomputable abbrev ΓSh : Gam := [(23, fPlace.s), (79, fInsets.s), (81, fNext.s), (27, rects.s)]
theorem ΓSh.ok : GOK Tryz.prog ΓSh := .cons fPlace.ok (.cons fInsets.ok (.cons fNext.ok (.cons rects.ok (GOK.nil _))))
abbrev fEx : Nat → Nat → Q := rows [[.c (.int .i64 6), .c (.int .i64 4), .c (.bool false), .c (.bool false)], [.c (.int .i64 6), .c (.int .i64 4), .c (.bool true), .c (.bool false)]]
abbrev gEx : Nat → Nat → Q := rows [qs4 ⟨0, 0, 6, 4⟩, qs4 ⟨4, 4, 6, 4⟩]
def shB (g : Nat → Nat → Q) : Bool := andN [rectsB (plN 2 fEx 10) g 2 gEx, codF 2 fEx 10 == 0, (bif okYH 2 fEx 10 3 2 then rI g fEx 10 3 2 false 2 else 0) == 6, (bif okYH 2 fEx 10 3 2 then rI g fEx 10 3 2 true 2 else 0) == 6, (bif okYH 2 fEx 10 3 2 then (0 : Int) else 110) == 0,
  (bif rightF 2 fEx 10 then (rEb g 4 2).1 else 0) == 8, bif rightF 2 fEx 10 then (rEb g 4 2).2 else false, codF 2 fEx 10 == 0, codF 2 fEx (-1) == 110]
theorem ex0 : rplR 0 (gR fEx 10 0) fEx 10 (gFl fEx 0) = ⟨0, 0, 6, 4⟩ := by
  have hs : fitsB 0 (gR fEx 10 0) fEx 10 (gFl fEx 0) (ryK 0 (gR fEx 10 0) 0 0) = true := by kernel_rfl
  have hk : lastR 0 (gR fEx 10 0) fEx 10 (gFl fEx 0) 0 = 0 := lastR_is hs fun j hj => by omega
  have hY : rplY 0 (gR fEx 10 0) fEx 10 (gFl fEx 0) = 0 := by
    show ryK 0 (gR fEx 10 0) 0 (lastR 0 (gR fEx 10 0) fEx 10 (gFl fEx 0) 0) = 0
    rw [hk]; rfl
  have e : (⟨rAt 0 (gR fEx 10 0) fEx 10 (gFl fEx 0) 0, 0, (gFl fEx 0).w, (gFl fEx 0).h⟩ : Rc) = ⟨0, 0, 6, 4⟩ := by kernel_rfl
  rw [← e]
  show (⟨rAt 0 (gR fEx 10 0) fEx 10 (gFl fEx 0) (rplY 0 (gR fEx 10 0) fEx 10 (gFl fEx 0)), rplY 0 (gR fEx 10 0) fEx 10 (gFl fEx 0), (gFl fEx 0).w, (gFl fEx 0).h⟩ : Rc) = _
  rw [hY]
abbrev gE1 : Nat → Nat → Q := catG 0 (fun _ _ => default) (one1 ⟨0, 0, 6, 4⟩)
theorem ex_one : gR fEx 10 1 = gE1 := by
  show catG 0 (gR fEx 10 0) (one1 (rplR 0 (gR fEx 10 0) fEx 10 (gFl fEx 0))) = _
  rw [ex0]; rfl
theorem ex1 : rplR 1 gE1 fEx 10 (gFl fEx 1) = ⟨4, 4, 6, 4⟩ := by
  have hs : fitsB 1 gE1 fEx 10 (gFl fEx 1) (ryK 1 gE1 0 1) = true := by kernel_rfl
  have h0 : fitsB 1 gE1 fEx 10 (gFl fEx 1) (ryK 1 gE1 0 0) = false := by kernel_rfl
  have h4 : ryK 1 gE1 0 1 = 4 := by kernel_rfl
  have hk : lastR 1 gE1 fEx 10 (gFl fEx 1) 0 = 1 := lastR_is hs fun j hj => by
    obtain rfl : j = 0 := by omega
    exact h0
  have hY : rplY 1 gE1 fEx 10 (gFl fEx 1) = 4 := by
    show ryK 1 gE1 0 (lastR 1 gE1 fEx 10 (gFl fEx 1) 0) = 4
    rw [hk, h4]
  have e : (⟨rAt 1 gE1 fEx 10 (gFl fEx 1) 4, 4, (gFl fEx 1).w, (gFl fEx 1).h⟩ : Rc) = ⟨4, 4, 6, 4⟩ := by kernel_rfl
  rw [← e]
  show (⟨rAt 1 gE1 fEx 10 (gFl fEx 1) (rplY 1 gE1 fEx 10 (gFl fEx 1)), rplY 1 gE1 fEx 10 (gFl fEx 1), (gFl fEx 1).w, (gFl fEx 1).h⟩ : Rc) = _
  rw [hY]
theorem ex_two : gR fEx 10 2 = catG 1 gE1 (one1 ⟨4, 4, 6, 4⟩) := by
  show catG 1 (gR fEx 10 1) (one1 (rplR 1 (gR fEx 10 1) fEx 10 (gFl fEx 1))) = _
  rw [ex_one, ex1]
theorem sh_true : shB (gR fEx 10 2) = true := by
  rw [ex_two]; kernel_rfl
def shown.s : List V → T V
  | [] => .leaf (V.b true)
  | _ => .bad
end Go.Proofs.YthmlbmambcigcaaGreatDoor
