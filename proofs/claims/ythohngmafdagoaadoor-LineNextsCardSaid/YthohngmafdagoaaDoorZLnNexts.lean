/- The card of LineNexts: lines begin with the word that Next begins with, and are those that it tells. -/
import Derived.Test.YthohngmafdagoaaDoorMd
namespace Go.Proofs.YthohngmafdagoaaDoor
open Go Go.SX Go.Proofs Go.RowKit
set_option maxRecDepth 100000

set_option linter.unusedVariables false
set_option linter.unusedSectionVars false
set_option linter.unusedSimpArgs false

/-- What is left of the lines, where the word i is the next one to stand in one. -/
def RestL (n : Nat) (g : Nat → Nat → Q) (w : Int) (i : Nat) (rest : List Ln) : Prop :=
  (i = n ∧ rest = []) ∨ (i < n ∧ ∃ c f, c ≤ emptyN g i ∧ n ≤ f + nextZ n g w i ∧ rest = nils i c ++ nextL n g w i :: linesF n g w f (nextZ n g w i))
theorem restL_lines (n : Nat) (g : Nat → Nat → Q) (w : Int) {f i : Nat} (hi : i ≤ n) (hf : n ≤ f + i) : RestL n g w i (linesF n g w f i) := by
  rcases Nat.lt_or_ge i n with h | h
  · obtain ⟨f, rfl⟩ : ∃ f', f = f' + 1 := ⟨f - 1, by omega⟩
    have hz := nextZ_gt n g w i
    exact .inr ⟨h, emptyN g i, f, Nat.le_refl _, by omega, by rw [linesF, if_pos h]⟩
  · exact .inl ⟨by omega, linesF_end n g w h⟩
theorem restL_break (n : Nat) (g : Nat → Nat → Q) (w : Int) : RestL n g w 0 (breakL n g w) := restL_lines n g w (Nat.zero_le _) (by simp)
theorem restL_nil {n : Nat} {g : Nat → Nat → Q} {w : Int} {i : Nat} (h : RestL n g w i []) : i = n := by
  rcases h with h | ⟨_, c, f, _, _, h⟩
  · exact h.1
  · cases c <;> simp [nils, List.replicate_succ] at h
theorem restL_cons {n : Nat} {g : Nat → Nat → Q} {w : Int} {i : Nat} {x : Ln} {rest : List Ln} (h : RestL n g w i (x :: rest)) :
    i < n ∧ ((x = ⟨i, i, 0⟩ ∧ 0 < emptyN g i ∧ RestL n g w i rest) ∨ (x = nextL n g w i ∧ RestL n g w (nextZ n g w i) rest)) := by
  rcases h with h | ⟨hi, c, f, hc, hf, h⟩
  · cases h.2
  · refine ⟨hi, ?_⟩
    cases c with
    | zero =>
      simp only [nils, List.replicate_zero, List.nil_append, List.cons.injEq] at h
      exact .inr ⟨h.1, by rw [h.2]; exact restL_lines n g w (nextZ_le hi) hf⟩
    | succ c =>
      simp only [nils, List.replicate_succ, List.cons_append, List.cons.injEq] at h
      exact .inl ⟨h.1, by omega, .inr ⟨hi, c, f, by omega, hf, h.2⟩⟩
theorem gLn_mid {L pre rest : List Ln} {x : Ln} (h : L = pre ++ x :: rest) : pre.length < L.length ∧ gLn (gOf lnQ L) pre.length = x := by
  subst h
  have hl : pre.length < (pre ++ x :: rest).length := by simp
  exact ⟨hl, by rw [gLn_of hl]; simp⟩

section
variable {Γ : Gam} {root : Code}
/-- A loop that goes through lines. -/
theorem loopLines (hΓ : GOK Tryd.prog Γ) {p : List Nat} {b : Code} (hc : codeAt root (0 :: p) = some b) (L : List Ln) (hL : L.length ≤ 9223372036854775807) {A : Type} (I : A → List Ln → Prop) (S : A → Int → St) (R : Out) (nn k : Nat) (live : Ex → List Nat) (post : Ex → St → St) (hpost : ∀ e s, Sub Tryd.prog s (post e s))
    (hs : ∀ (a : A) (x : Ln) (rest : List Ln) (i : Nat), i < L.length → gLn (gOf lnQ L) i = x → x ∈ L → I a (x :: rest) → ∃ Λ a', LamOK Tryd.prog root Λ ∧ I a' rest ∧ (ltree Tryd.prog Γ Λ p b nn k live post (S a i)).pick = some (.normal, S a' (w64 (i + 1)), true))
    (hf : ∀ (a : A), I a [] → ∃ e s, e ≠ Ex.normal ∧ (ltree Tryd.prog Γ [] p b nn k live post (S a L.length)).pick = some (e, s, true) ∧ R.pick = some (e, s)) :
    ∀ a, I a L → ∀ x, R.pick = some x → SemC Tryd.prog (.loop b) (S a (0 : Nat)) x := fun a ha =>
  loop_treeP hΓ hc (ι := A × List Ln × List Ln) (fun y => L = y.2.1 ++ y.2.2 ∧ I y.1 y.2.2) (fun y => S y.1 (y.2.1.length : Nat)) (fun y => y.2.2.length) R nn k live (fun _ => []) post hpost (fun y hy => by
    obtain ⟨a, pre, rest⟩ := y
    obtain ⟨h1, h2⟩ := hy
    replace h1 : L = pre ++ rest := h1
    replace h2 : I a rest := h2
    cases rest with
    | nil =>
      obtain ⟨e, s, he, g1, g2⟩ := hf a h2
      have : L.length = pre.length := by rw [h1]; simp
      rw [this] at g1
      exact ⟨[], e, s, LamOK.nil _ _, g1, .inr ⟨he, g2⟩⟩
    | cons x rest =>
      obtain ⟨k1, k2⟩ := gLn_mid h1
      obtain ⟨Λ, a', g1, g2, g3⟩ := hs a x rest pre.length k1 k2 (by rw [h1]; simp) h2
      rw [w64_suc k1 hL] at g3
      exact ⟨Λ, .normal, _, g1, g3, .inl ⟨rfl, (a', pre ++ [x], rest), ⟨by show L = (pre ++ [x]) ++ rest; rw [h1]; simp, g2⟩, by show rest.length < (x :: rest).length; simp, by show S a' _ = S a' ((pre ++ [x]).length : Nat); rw [List.length_append]; rfl⟩⟩) (a, [], L) ⟨rfl, ha⟩
end

/-! ### LineAll -/
abbrev pA : List Nat := [0, 1, 0, 1, 1, 1, 1, 1, 1]
def SA (n : Nat) (g : Nat → Nat → Q) (w : Int) (m : Nat) (h : Nat → Nat → Q) (at_ i : Int) : St := mkS 135 [(0, lWd n g), (1, V.i w), (5, V.b true), (6, lLn m h), (8, V.i at_), (9, V.i i)] [] [] false [] 0
def FA (n : Nat) (g : Nat → Nat → Q) (at_ : Int) : Ex × St := (.exit 0, mkS 135 [(0, lWd n g), (5, V.b true), (8, V.i at_)] [] [] false [] 0)
def liveA : Ex → List Nat | .normal => [0, 1, 5, 6, 8, 9] | .ret => [4] | _ => [0, 5, 8]
noncomputable abbrev bodyA : Code := loopAt Tryd.f3 pA
noncomputable abbrev treeA (s : St) : T (Ex × St × Bool) := ltree Tryd.prog [] [] pA bodyA 135 0 liveA poN s
def c1A (n : Nat) (at_ : Int) (x : Ln) : Bool := bif x.a != at_ then true else bif decide (x.z < x.a) then true else decide (x.z > n)
def okT (n : Nat) (g : Nat → Nat → Q) (x : Ln) : Bool := bif decide (x.z < n) then (bif inJ x.z n then (bif (gWd g x.z.toNat).h == 0 then (bif inJ x.z n then (bif inJ x.z n then true else false) else false) else true) else false) else true
def okA2 (n : Nat) (g : Nat → Nat → Q) (w : Int) (x : Ln) : Bool := bif decide (x.w > w) then (bif x.z != w64 (x.a + 1) then true else okT n g x) else okT n g x
def moreT (n : Nat) (g : Nat → Nat → Q) (w : Int) (x : Ln) : Bool := bif decide (x.z < n) then takeB w x.w (gWd g x.z.toNat) else false
def bdA2 (n : Nat) (g : Nat → Nat → Q) (w : Int) (x : Ln) : Bool := bif decide (x.w > w) then (bif x.z != w64 (x.a + 1) then true else moreT n g w x) else moreT n g w x
theorem tA_nilC (n : Nat) (g : Nat → Nat → Q) (w : Int) (m : Nat) (h : Nat → Nat → Q) (at_ : Int) (i : Nat) : (treeA (SA n g w m h at_ i)).pathC [true, true, false, true, false, false, true, false] =
    [decide ((i : Int) < m), inI i m, c1A n at_ (gLn h i), (gLn h i).z == (gLn h i).a, (gLn h i).w != 0, decide (at_ ≥ n), inJ at_ n, (gWd g at_.toNat).h == 0] := by kernel_rfl
theorem tA_nilL (n : Nat) (g : Nat → Nat → Q) (w : Int) (m : Nat) (h : Nat → Nat → Q) (at_ : Int) (i : Nat) : (treeA (SA n g w m h at_ i)).pathL [true, true, false, true, false, false, true, false] = .leaf (.normal, SA n g w m h at_ (w64 (i + 1)), true) := by kernel_rfl
theorem tA_nxtC (n : Nat) (g : Nat → Nat → Q) (w : Int) (m : Nat) (h : Nat → Nat → Q) (at_ : Int) (i : Nat) : (treeA (SA n g w m h at_ i)).pathC [true, true, false, false, true, false] =
    [decide ((i : Int) < m), inI i m, c1A n at_ (gLn h i), (gLn h i).z == (gLn h i).a, okA2 n g w (gLn h i), bdA2 n g w (gLn h i)] := by kernel_rfl
theorem tA_nxtL (n : Nat) (g : Nat → Nat → Q) (w : Int) (m : Nat) (h : Nat → Nat → Q) (at_ : Int) (i : Nat) : (treeA (SA n g w m h at_ i)).pathL [true, true, false, false, true, false] = .leaf (.normal, SA n g w m h (gLn h i).z (w64 (i + 1)), true) := by kernel_rfl
theorem tA_end (n : Nat) (g : Nat → Nat → Q) (w : Int) (m : Nat) (h : Nat → Nat → Q) (at_ : Int) (i : Nat) : (treeA (SA n g w m h at_ i)).pathC [false] = [decide ((i : Int) < m)] := by kernel_rfl
theorem tA_endL (n : Nat) (g : Nat → Nat → Q) (w : Int) (m : Nat) (h : Nat → Nat → Q) (at_ : Int) (i : Nat) : (treeA (SA n g w m h at_ i)).pathL [false] = .leaf ((FA n g at_).1, (FA n g at_).2, true) := by kernel_rfl
/-- Where a line ends, it could not take the next word. -/
theorem tkF_end (g : Nat → Nat → Q) (w : Int) : ∀ f k v, (tkF g w f k v).1 < k + f → takeB w (tkF g w f k v).2 (gWd g (tkF g w f k v).1) = false
  | 0, k, v, h => by simp [tkF] at h
  | f + 1, k, v, h => by
    rw [tkF] at h ⊢
    cases ht : takeB w v (gWd g k) with
    | true => rw [ht] at h; exact tkF_end g w f (k + 1) _ (by simp only [cond_true] at h; omega)
    | false => exact ht
/-- A line that is wider has one word. -/
theorem tkF_wide (g : Nat → Nat → Q) (w : Int) : ∀ f k v, (tkF g w f k v).2 > w → tkF g w f k v = (k, v)
  | 0, k, v, h => rfl
  | f + 1, k, v, h => by
    rw [tkF] at h ⊢
    cases ht : takeB w v (gWd g k) with
    | true =>
      rw [ht] at h
      have h' : (tkF g w f (k + 1) (addW v (gWd g k))).2 > w := h
      have e := tkF_wide g w f (k + 1) _ h'
      rw [e] at h'
      unfold takeB at ht
      cases hh : (gWd g k).h == 0 with
      | false => rw [hh] at ht; cases ht
      | true => rw [hh] at ht; have := of_decide_eq_true (show decide (addW v (gWd g k) ≤ w) = true from ht); replace h' : addW v (gWd g k) > w := h'; omega
    | false => rfl
theorem next_more (n : Nat) (g : Nat → Nat → Q) (w : Int) {i : Nat} (hi : i < n) : moreT n g w (nextL n g w i) = false := by
  unfold moreT
  by_cases h : nextZ n g w i < n
  · have := tkF_end g w (n - (i + 1)) (i + 1) (gWd g i).w (by have : (tkF g w (n - (i + 1)) (i + 1) (gWd g i).w).1 < n := h; omega)
    have e : (nextL n g w i).z.toNat = nextZ n g w i := Int.toNat_natCast _
    rw [e, show decide ((nextL n g w i).z < (n : Int)) = true from decide_eq_true (by show ((nextZ n g w i : Nat) : Int) < n; omega)]
    exact this
  · rw [show decide ((nextL n g w i).z < (n : Int)) = false from decide_eq_false (by show ¬ ((nextZ n g w i : Nat) : Int) < n; omega)]; rfl
theorem okT_true (n : Nat) (g : Nat → Nat → Q) (x : Ln) (h : 0 ≤ x.z) : okT n g x = true := by
  unfold okT
  by_cases hz : x.z < n
  · rw [decide_eq_true hz, show inJ x.z n = true from decide_eq_true ⟨h, hz⟩]
    cases (gWd g x.z.toNat).h == 0 <;> rfl
  · rw [decide_eq_false hz]; rfl
theorem empty_h {g : Nat → Nat → Q} {i : Nat} (h : 0 < emptyN g i) : ¬ (gWd g i).h = 0 := fun h0 => by
  have hk : 0 ≤ kBo i := by unfold kBo; cases decide ((i : Int) > 0) <;> simp
  have h' : 0 < ((gWd g i).h - kBo i).toNat := h
  omega
theorem loopA (n : Nat) (g : Nat → Nat → Q) (w : Int) (hn : n ≤ 500) (hH : okH n g) : ∀ x, (T.leaf (FA n g n)).pick = some x → SemC Tryd.prog (.loop bodyA) (SA n g w (breakL n g w).length (gOf lnQ (breakL n g w)) 0 (0 : Nat)) x := by
  have hlen := breakL_len w hH
  refine loopLines (GOK.nil _) (root := cod Tryd.f3) (p := pA) (by kernel_rfl) (breakL n g w) (by omega) (A := Nat) (fun i rest => RestL n g w i rest) (fun i k => SA n g w (breakL n g w).length (gOf lnQ (breakL n g w)) i k) (.leaf (FA n g n)) 135 0 liveA poN poN_ok
    (fun i x rest k hk hx _ hI => ?_) (fun i hI => ?_) 0 (restL_break n g w)
  · obtain ⟨hi, h | h⟩ := restL_cons hI
    · obtain ⟨h1, h2, h3⟩ := h
      refine ⟨[], i, LamOK.nil _ _, h3, (T.pick_path [true, true, false, true, false, false, true, false] (treeA (SA n g w (breakL n g w).length (gOf lnQ (breakL n g w)) i k)) ?_).trans (congrArg T.pick (tA_nilL n g w _ _ i k))⟩
      rw [tA_nilC, hx, h1, c_lt hk, c_inI hk]
      have e1 : c1A n i ⟨i, i, 0⟩ = false := by
        unfold c1A
        rw [show ((i : Int) != i) = false by simp, show decide ((i : Int) < i) = false from decide_eq_false (by omega), show decide ((i : Int) > n) = false from decide_eq_false (by omega)]; rfl
      have e2 : ((gWd g (i : Int).toNat).h == 0) = false := by
        rw [Int.toNat_natCast]
        have := empty_h h2
        simpa using this
      rw [e1, e2]
      simp only [beq_self_eq_true, bne_self_eq_false, decide_eq_false (show ¬ (i : Int) ≥ n by omega), show inJ (i : Int) n = true from c_in hi]
    · obtain ⟨h1, h3⟩ := h
      have hz := nextZ_gt n g w i
      have hz2 := nextZ_le (g := g) (w := w) hi
      have a1 : (nextL n g w i).a = (i : Int) := rfl
      have a2 : (nextL n g w i).z = (nextZ n g w i : Int) := rfl
      have hL := tA_nxtL n g w (breakL n g w).length (gOf lnQ (breakL n g w)) i k
      rw [hx, h1, a2] at hL
      refine ⟨[], nextZ n g w i, LamOK.nil _ _, h3, (T.pick_path [true, true, false, false, true, false] (treeA (SA n g w (breakL n g w).length (gOf lnQ (breakL n g w)) i k)) ?_).trans (congrArg T.pick hL)⟩
      rw [tA_nxtC, hx, h1, c_lt hk, c_inI hk]
      have e1 : c1A n i (nextL n g w i) = false := by
        unfold c1A
        rw [a1, a2, show ((i : Int) != i) = false by simp, show decide (((nextZ n g w i : Nat) : Int) < i) = false from decide_eq_false (by omega), show decide (((nextZ n g w i : Nat) : Int) > n) = false from decide_eq_false (by omega)]; rfl
      have e2 : ((nextL n g w i).z == (nextL n g w i).a) = false := by
        rw [a1, a2]; simp; omega
      have e3 := okT_true n g (nextL n g w i) (by rw [a2]; omega)
      have e4 := next_more n g w hi
      have e5 : (nextL n g w i).w > w → ((nextL n g w i).z != w64 ((nextL n g w i).a + 1)) = false := fun hw => by
        have := tkF_wide g w (n - (i + 1)) (i + 1) (gWd g i).w hw
        have hz3 : nextZ n g w i = i + 1 := by show (tkF g w (n - (i + 1)) (i + 1) (gWd g i).w).1 = _; rw [this]
        rw [a1, a2, hz3, w64_id (by omega) (by omega)]; simp
      have e6 : okA2 n g w (nextL n g w i) = true := by
        unfold okA2
        rw [e3]
        by_cases hw : (nextL n g w i).w > w
        · rw [decide_eq_true hw, e5 hw]; rfl
        · rw [decide_eq_false hw]; rfl
      have e7 : bdA2 n g w (nextL n g w i) = false := by
        unfold bdA2
        rw [e4]
        by_cases hw : (nextL n g w i).w > w
        · rw [decide_eq_true hw, e5 hw]; rfl
        · rw [decide_eq_false hw]; rfl
      rw [e1, e2, e6, e7]
  · have := restL_nil hI
    subst this
    refine ⟨_, _, by simp [FA], (T.pick_path [false] (treeA (SA i g w (breakL i g w).length (gOf lnQ (breakL i g w)) i (breakL i g w).length)) (by rw [tA_end, c_ge (Nat.le_refl _)])).trans (congrArg T.pick (tA_endL _ _ _ _ _ _ _)), rfl⟩
end Go.Proofs.YthohngmafdagoaaDoor

/- The card of LineNexts: lines begin with the word that Next begins with, and are those that it tells. -/
namespace Go.Proofs.YthohngmafdagoaaDoor
open Go Go.SX Go.Proofs Go.RowKit Go.ChangeShapes
set_option maxRecDepth 100000

set_option linter.unusedVariables false
set_option linter.unusedSectionVars false
set_option linter.unusedSimpArgs false

abbrev ΓNxs : Gam := [(10, shown.s), (11, few.s), (12, lBreak.s), (21, lNext.s)]
theorem ΓNxs.ok : GOK Tryd.prog ΓNxs := .cons shown.ok (.cons few.ok (.cons lBreak.ok (.cons lNext.ok (GOK.nil _))))
abbrev pN : List Nat := [0, 1, 0, 1, 1, 1, 1]
def SN (n : Nat) (g : Nat → Nat → Q) (w : Int) (m : Nat) (h : Nat → Nat → Q) (e i : Int) : St := mkS 86 [(0, lWd n g), (1, V.i w), (5, V.b true), (6, lLn m h), (7, V.i e), (8, V.i i)] [] [] false [] 0
def FN (n : Nat) (g : Nat → Nat → Q) (w e : Int) : Ex × St := (.exit 0, mkS 86 [(0, lWd n g), (1, V.i w), (5, V.b true), (7, V.i e)] [] [] false [] 0)
def liveN : Ex → List Nat | .normal => [0, 1, 5, 6, 7, 8] | .ret => [4] | _ => [0, 1, 5, 7]
noncomputable abbrev bodyN : Code := loopAt Tryd.f8 pN
noncomputable abbrev treeN (s : St) : T (Ex × St × Bool) := ltree Tryd.prog ΓNxs [] pN bodyN 86 0 liveN poN s
abbrev xN (n : Nat) (g : Nat → Nat → Q) (w : Int) (x : Ln) : Ln × Int := nextR n g x.a w
def okN (n : Nat) (g : Nat → Nat → Q) (w : Int) (x : Ln) (b : Bool) : Bool := bif (xN n g w x).2 != 0 then true else bif b then true else false
def bdN (n : Nat) (g : Nat → Nat → Q) (w : Int) (x : Ln) : Bool := bif (xN n g w x).2 != 0 then true else !(lnEq (xN n g w x).1 x)
theorem tN_nilC (n : Nat) (g : Nat → Nat → Q) (w : Int) (m : Nat) (h : Nat → Nat → Q) (e : Int) (i : Nat) : (treeN (SN n g w m h e i)).pathC [true, true, true, true] = [decide ((i : Int) < m), inI i m, inI i m, (gLn h i).a == (gLn h i).z] := by kernel_rfl
theorem tN_nilL (n : Nat) (g : Nat → Nat → Q) (w : Int) (m : Nat) (h : Nat → Nat → Q) (e : Int) (i : Nat) : (treeN (SN n g w m h e i)).pathL [true, true, true, true] = .leaf (.normal, SN n g w m h e (w64 (i + 1)), true) := by kernel_rfl
theorem tN_nxtC (n : Nat) (g : Nat → Nat → Q) (w : Int) (m : Nat) (h : Nat → Nat → Q) (e : Int) (i : Nat) : (treeN (SN n g w m h e i)).pathC [true, true, true, false, true, true, true, false] =
    [decide ((i : Int) < m), inI i m, inI i m, (gLn h i).a == (gLn h i).z, inI i m, allN n (szW g), okN n g w (gLn h i) (inI i m), bdN n g w (gLn h i)] := by kernel_rfl
theorem tN_nxtL (n : Nat) (g : Nat → Nat → Q) (w : Int) (m : Nat) (h : Nat → Nat → Q) (e : Int) (i : Nat) : (treeN (SN n g w m h e i)).pathL [true, true, true, false, true, true, true, false] = .leaf (.normal, SN n g w m h e (w64 (i + 1)), true) := by kernel_rfl
theorem tN_end (n : Nat) (g : Nat → Nat → Q) (w : Int) (m : Nat) (h : Nat → Nat → Q) (e : Int) (i : Nat) : (treeN (SN n g w m h e i)).pathC [false] = [decide ((i : Int) < m)] := by kernel_rfl
theorem tN_endL (n : Nat) (g : Nat → Nat → Q) (w : Int) (m : Nat) (h : Nat → Nat → Q) (e : Int) (i : Nat) : (treeN (SN n g w m h e i)).pathL [false] = .leaf ((FN n g w e).1, (FN n g w e).2, true) := by kernel_rfl
theorem nextR_ok {n : Nat} {g : Nat → Nat → Q} {w : Int} (hc : (chkW n g w != 0) = false) {i : Nat} (hi : i < n) : nextR n g i w = (nextL n g w i, 0) := by
  unfold nextR
  rw [hc, decide_eq_true (show 0 ≤ (i : Int) ∧ (i : Int) < n by omega), Int.toNat_natCast]; rfl
theorem loopN (n : Nat) (g : Nat → Nat → Q) (w : Int) (hs : allN n (szW g) = true) (hc : (chkW n g w != 0) = false) : ∀ x, (T.leaf (FN n g w 0)).pick = some x → SemC Tryd.prog (.loop bodyN) (SN n g w (breakL n g w).length (gOf lnQ (breakL n g w)) 0 (0 : Nat)) x := by
  have hlen := breakL_len w (right_ok (chk_right hc).1)
  refine loopLines ΓNxs.ok (root := cod Tryd.f8) (p := pN) (by kernel_rfl) (breakL n g w) (by omega) (A := Nat) (fun i rest => RestL n g w i rest) (fun i k => SN n g w (breakL n g w).length (gOf lnQ (breakL n g w)) 0 k) (.leaf (FN n g w 0)) 86 0 liveN poN poN_ok
    (fun i x rest k hk hx _ hI => ?_) (fun i hI => ?_) 0 (restL_break n g w)
  · obtain ⟨hi, h | h⟩ := restL_cons hI
    · obtain ⟨h1, h2, h3⟩ := h
      refine ⟨[], i, LamOK.nil _ _, h3, (T.pick_path [true, true, true, true] (treeN (SN n g w (breakL n g w).length (gOf lnQ (breakL n g w)) 0 k)) ?_).trans (congrArg T.pick (tN_nilL n g w _ _ 0 k))⟩
      rw [tN_nilC, hx, h1, c_lt hk, c_inI hk, beq_self_eq_true]
    · obtain ⟨h1, h3⟩ := h
      have hz := nextZ_gt n g w i
      refine ⟨[], nextZ n g w i, LamOK.nil _ _, h3, (T.pick_path [true, true, true, false, true, true, true, false] (treeN (SN n g w (breakL n g w).length (gOf lnQ (breakL n g w)) 0 k)) ?_).trans (congrArg T.pick (tN_nxtL n g w _ _ 0 k))⟩
      have hr : xN n g w (nextL n g w i) = (nextL n g w i, 0) := nextR_ok hc hi
      have e1 : ((nextL n g w i).a == (nextL n g w i).z) = false := by
        show (((i : Nat) : Int) == ((nextZ n g w i : Nat) : Int)) = false
        simp; omega
      have e2 : okN n g w (nextL n g w i) true = true := by unfold okN; rw [hr]; rfl
      have e3 : bdN n g w (nextL n g w i) = false := by unfold bdN; rw [hr]; simp [lnEq]
      rw [tN_nxtC, hx, h1, c_lt hk, c_inI hk, hs, e1, e2, e3]
  · refine ⟨_, _, by simp [FN], (T.pick_path [false] (treeN (SN n g w (breakL n g w).length (gOf lnQ (breakL n g w)) 0 (breakL n g w).length)) (by rw [tN_end, c_ge (Nat.le_refl _)])).trans (congrArg T.pick (tN_endL _ _ _ _ _ _ _)), rfl⟩
theorem loopN0 (n : Nat) (g : Nat → Nat → Q) (w e : Int) : ∀ x, (T.leaf (FN n g w e)).pick = some x → SemC Tryd.prog (.loop bodyN) (SN n g w 0 (fun _ _ => default) e (0 : Nat)) x :=
  loop_nat ΓNxs.ok (root := cod Tryd.f8) (p := pN) (by kernel_rfl) 0 (fun _ => True) (fun i => SN n g w 0 (fun _ _ => default) e i) (.leaf (FN n g w e)) 86 0 liveN poN poN_ok (fun i hi _ => by
    have hi0 : i = 0 := by omega
    subst hi0
    exact ⟨[], .exit 0, _, LamOK.nil _ _, (T.pick_path [false] (treeN (SN n g w 0 (fun _ _ => default) e (0 : Nat))) (by rw [tN_end]; rfl)).trans (congrArg T.pick (tN_endL _ _ _ _ _ _ _)), .inr ⟨by simp, rfl⟩⟩) trivial
noncomputable abbrev fNx (Λ : Lam) (n : Nat) (g : Nat → Nat → Q) (w : Int) : T V := funV Tryd.prog ΓNxs Λ Tryd.f8 (cod Tryd.f8) [lWd n g, V.i w]
noncomputable abbrev orN (n : Nat) (g : Nat → Nat → Q) (w : Int) (m : Nat) (h : Nat → Nat → Q) (e : Int) : Lam := [(pN, orc false 86 0 [0, 1, 5, 6, 7, 8] (SN n g w m h e (0 : Nat)) (.leaf (FN n g w e)))]
abbrev gN (n : Nat) (g : Nat → Nat → Q) (w : Int) : Int := (nextR n g n w).2
theorem fNx_1 (n : Nat) (g : Nat → Nat → Q) (w : Int) : (fNx (orN (fN g n) (fG g n) w 0 (fun _ _ => default) (chkW (fN g n) (fG g n) w)) n g w).pathL [true, true] =
    .ite (@decide (SN (fN g n) (fG g n) w 0 (fun _ _ => default) (chkW (fN g n) (fG g n) w) (0 : Nat) = SN (fN g n) (fG g n) w 0 (fun _ _ => default) (chkW (fN g n) (fG g n) w) (0 : Nat)) (Classical.propDecidable _)) (.ite (allN (fN g n) (szW (fG g n)))
      (.leaf (V.b (bif chkW (fN g n) (fG g n) w != 0 then (bif gN (fN g n) (fG g n) w == chkW (fN g n) (fG g n) w then true else bif chkW (fN g n) (fG g n) w == 0 then gN (fN g n) (fG g n) w == 80 else false) else bif chkW (fN g n) (fG g n) w == 0 then gN (fN g n) (fG g n) w == 80 else false))) .bad) .bad := by kernel_rfl
theorem fNx_1c (n : Nat) (g : Nat → Nat → Q) (w : Int) : (fNx (orN (fN g n) (fG g n) w 0 (fun _ _ => default) (chkW (fN g n) (fG g n) w)) n g w).pathC [true, true] = [allN (fN g n) (szW (fG g n)), chkW (fN g n) (fG g n) w != 0] := by kernel_rfl
theorem fNx_0c (n : Nat) (g : Nat → Nat → Q) (w : Int) : (fNx (orN (fN g n) (fG g n) w (breakL (fN g n) (fG g n) w).length (gOf lnQ (breakL (fN g n) (fG g n) w)) 0) n g w).pathC [true, false] = [allN (fN g n) (szW (fG g n)), chkW (fN g n) (fG g n) w != 0] := by kernel_rfl
theorem fNx_0 (n : Nat) (g : Nat → Nat → Q) (w : Int) : (fNx (orN (fN g n) (fG g n) w (breakL (fN g n) (fG g n) w).length (gOf lnQ (breakL (fN g n) (fG g n) w)) 0) n g w).pathL [true, false] =
    .ite (@decide (SN (fN g n) (fG g n) w (breakL (fN g n) (fG g n) w).length (gOf lnQ (breakL (fN g n) (fG g n) w)) 0 (0 : Nat) = SN (fN g n) (fG g n) w (breakL (fN g n) (fG g n) w).length (gOf lnQ (breakL (fN g n) (fG g n) w)) 0 (0 : Nat)) (Classical.propDecidable _)) (.ite (allN (fN g n) (szW (fG g n)))
      (.leaf (V.b (gN (fN g n) (fG g n) w == 80))) .bad) .bad := by kernel_rfl
def nextsL.s : List V → T V
  | [.q (.lst [.str, .int .i64, .int .i64, .int .i64] n g), .q (.c (.int .i64 w))] => .leaf (V.b true)
  | _ => .bad
theorem nextsL.ok : SpecOK Tryd.prog 8 nextsL.s := by
  refine okF ΓNxs.ok Tryd.func8 (by kernel_rfl) (by kernel_rfl) fun args r hb hr => ?_
  unfold nextsL.s at hr
  split at hr
  · rename_i n g w
    have hs := fSz g n
    rw [← hr]
    cases hc : chkW (fN g n) (fG g n) w != 0 with
    | true =>
      refine ⟨_, LamOK.orc (p := pN) (mk := false) (nn := 86) (k := 0) (live := [0, 1, 5, 6, 7, 8]) (c := .loop bodyN) (by kernel_rfl) (loopN0 (fN g n) (fG g n) w (chkW (fN g n) (fG g n) w)) (LamOK.nil _ _), (T.pick_path [true, true] (fNx (orN (fN g n) (fG g n) w 0 (fun _ _ => default) (chkW (fN g n) (fG g n) w)) n g w) (by rw [fNx_1c, hs, hc])).trans ?_⟩
      have hg : gN (fN g n) (fG g n) w = chkW (fN g n) (fG g n) w := by
        show (nextR _ _ _ _).2 = _
        unfold nextR; rw [hc]; rfl
      rw [fNx_1, pick_same, hs, hc, hg, beq_self_eq_true]; rfl
    | false =>
      refine ⟨_, LamOK.orc (p := pN) (mk := false) (nn := 86) (k := 0) (live := [0, 1, 5, 6, 7, 8]) (c := .loop bodyN) (by kernel_rfl) (loopN (fN g n) (fG g n) w hs hc) (LamOK.nil _ _), (T.pick_path [true, false] (fNx (orN (fN g n) (fG g n) w (breakL (fN g n) (fG g n) w).length (gOf lnQ (breakL (fN g n) (fG g n) w)) 0) n g w) (by rw [fNx_0c, hs, hc])).trans ?_⟩
      have hg : gN (fN g n) (fG g n) w = 80 := by
        show (nextR _ _ _ _).2 = _
        unfold nextR; rw [hc, decide_eq_false (show ¬ (0 ≤ ((fN g n : Nat) : Int) ∧ ((fN g n : Nat) : Int) < (fN g n : Nat)) by omega)]; rfl
      rw [fNx_0, pick_same, hs, hg]; rfl
  · cases hr
theorem nextsL.all (n : Nat) (g : Nat → Nat → Q) (w : Int) (_ : n ≤ 9223372036854775807) (_ : Wf w) : (nextsL.s [lWd n g, V.i w]).pick = some (V.b true) := rfl

theorem nextsL_lifted (os : Os) (started : os.Started) (H : Type) (enc : TypeId × Value → H) :
    ReturnsInHanded {} Tryd.checked os 8 .any (fun w args => (Rows.lineNextsSpec.pre enc Tryd.prog Tryd.f8 [] false w args ∧ laidMetH Tryd.prog laidL w) ∧ sizedMet enc Tryd.prog Tryd.f8 (OpenSpec.ofChange Rows.lineNextsSpec) false w args)
      (Rows.lineNextsSpec.post enc Tryd.prog Tryd.f8 false true false false) :=
  row_of (rt := 4) (shs := [(false, [.lst ksWd]), (false, [.int .i64])]) H enc os started nextsL.ok Tryd.func8 (by kernel_rfl) (by kernel_rfl) rfl
    (fun ds hl => by
      have hl' : ds.length = 2 := hl
      match ds, hl' with
      | [d1, d2], _ => rfl)
    (by kernel_rfl)
    (fun xs h => by
      obtain ⟨x1, l, rfl, p1, h⟩ := pvs_cons h
      obtain ⟨x2, l, rfl, p2, h⟩ := pvs_cons h
      obtain rfl := pvs_nil h
      obtain ⟨n1, g1, rfl, hn1⟩ := pv_words p1
      obtain ⟨n2, rfl, w2⟩ := pv_int p2
      exact nextsL.all n1 g1 n2 hn1 w2)
    (by kernel_rfl)
    (ChangeSpec.witness_at (enc := enc) (C := Tryd.checked) (os := os) (X := fun w _ => laidMetH Tryd.prog laidL w) false (laidWorld os) #[.slice none 0 0, .int .i64 0] 8 rfl (by kernel_rfl) (by kernel_rfl) (by kernel_rfl) (by kernel_rfl) (by kernel_rfl) (laidWorld_met os _))

theorem nextsL_row : Rows.LineNextsSaid :=
  OpenClaim.holds_of_wide 8 Tryd.f8 rfl rfl rfl rfl rfl rfl rfl ⟨rfl, rfl, rfl, rfl, rfl⟩ rfl rfl rfl rfl rfl (by kernel_rfl) Tryd.func8 (by kernel_rfl)
    (of_decide_eq_true (by kernel_rfl)) (by unfold Func.isWrapper; rw [if_neg (of_decide_eq_false (by kernel_rfl))]; exact ⟨rfl, rfl⟩)
    (fun os started H enc _ => nextsL_lifted os started H enc)

theorem nextsL_holds : Rows.LineNextsCardSaid :=
  Claim7.holds_tied_plain_at .later [] [.handle] true Rows.lineNextsCard.stood.harness true
    nextsL_row (fun _ h => by cases h) (by kernel_rfl) (fun _ h => by cases h) lineNexts_row_tie rfl ⟨rfl, rfl⟩ (by kernel_rfl) rfl
    (fun f fn hf hfn => by
      obtain rfl : f = 8 := Option.some.inj ((show Tryd.prog.funcNamed "gutter/gutterlaw08.LineNexts" = some 8 by kernel_rfl).symm.trans hf) |>.symm
      obtain rfl : fn = Tryd.f8 := (Option.some.inj (Tryd.func8.symm.trans hfn)).symm
      exact ⟨by kernel_rfl, fun j t ht => by
        have e : Tryd.f8.params.all (fun t => !(Tryd.pinned.checked.prog.wantsStandIn t)) = true := by kernel_rfl
        have := Array.all_eq_true_iff_forall_mem.1 e t (Array.mem_of_getElem? ht)
        simpa using this⟩)
    (by kernel_rfl)
#print axioms nextsL_holds
end Go.Proofs.YthohngmafdagoaaDoor
