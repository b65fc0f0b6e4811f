/- The card of LineWider: with more width there are no more lines, and none at all is wider, if the widest word fits. -/
import Derived.Test.YthohngmafdagoaaDoorMd
namespace Go.Proofs.YthohngmafdagoaaDoor
open Go Go.SX Go.Proofs Go.RowKit
set_option maxRecDepth 100000

set_option linter.unusedVariables false
set_option linter.unusedSectionVars false
set_option linter.unusedSimpArgs false

/-- What is left of the lines, where the word i is the next one to stand in one. -/
def RestL (n : Nat) (g : Nat → Nat → Q) (w : Int) (i : Nat) (rest : List Ln) : Prop :=
  (i = n ∧ rest = []) ∨ (i < n ∧ ∃ c f, c ≤ emptyN g i ∧ n ≤ f + nextZ n g w i ∧ rest = nils i c ++ nextL n g w i :: linesF n g w f (nextZ n g w i))
theorem restL_lines (n : Nat) (g : Nat → Nat → Q) (w : Int) {f i : Nat} (hi : i ≤ n) (hf : n ≤ f + i) : RestL n g w i (linesF n g w f i) := by
  rcases Nat.lt_or_ge i n with h | h
  · obtain ⟨f, rfl⟩ : ∃ f', f = f' + 1 := ⟨f - 1, by omega⟩
    have hz := nextZ_gt n g w i
    exact .inr ⟨h, emptyN g i, f, Nat.le_refl _, by omega, by rw [linesF, if_pos h]⟩
  · exact .inl ⟨by omega, linesF_end n g w h⟩
theorem restL_break (n : Nat) (g : Nat → Nat → Q) (w : Int) : RestL n g w 0 (breakL n g w) := restL_lines n g w (Nat.zero_le _) (by simp)
theorem restL_nil {n : Nat} {g : Nat → Nat → Q} {w : Int} {i : Nat} (h : RestL n g w i []) : i = n := by
  rcases h with h | ⟨_, c, f, _, _, h⟩
  · exact h.1
  · cases c <;> simp [nils, List.replicate_succ] at h
theorem restL_cons {n : Nat} {g : Nat → Nat → Q} {w : Int} {i : Nat} {x : Ln} {rest : List Ln} (h : RestL n g w i (x :: rest)) :
    i < n ∧ ((x = ⟨i, i, 0⟩ ∧ 0 < emptyN g i ∧ RestL n g w i rest) ∨ (x = nextL n g w i ∧ RestL n g w (nextZ n g w i) rest)) := by
  rcases h with h | ⟨hi, c, f, hc, hf, h⟩
  · cases h.2
  · refine ⟨hi, ?_⟩
    cases c with
    | zero =>
      simp only [nils, List.replicate_zero, List.nil_append, List.cons.injEq] at h
      exact .inr ⟨h.1, by rw [h.2]; exact restL_lines n g w (nextZ_le hi) hf⟩
    | succ c =>
      simp only [nils, List.replicate_succ, List.cons_append, List.cons.injEq] at h
      exact .inl ⟨h.1, by omega, .inr ⟨hi, c, f, by omega, hf, h.2⟩⟩
theorem gLn_mid {L pre rest : List Ln} {x : Ln} (h : L = pre ++ x :: rest) : pre.length < L.length ∧ gLn (gOf lnQ L) pre.length = x := by
  subst h
  have hl : pre.length < (pre ++ x :: rest).length := by simp
  exact ⟨hl, by rw [gLn_of hl]; simp⟩

section
variable {Γ : Gam} {root : Code}
/-- A loop that goes through lines. -/
theorem loopLines (hΓ : GOK Tryd.prog Γ) {p : List Nat} {b : Code} (hc : codeAt root (0 :: p) = some b) (L : List Ln) (hL : L.length ≤ 9223372036854775807) {A : Type} (I : A → List Ln → Prop) (S : A → Int → St) (R : Out) (nn k : Nat) (live : Ex → List Nat) (post : Ex → St → St) (hpost : ∀ e s, Sub Tryd.prog s (post e s))
    (hs : ∀ (a : A) (x : Ln) (rest : List Ln) (i : Nat), i < L.length → gLn (gOf lnQ L) i = x → x ∈ L → I a (x :: rest) → ∃ Λ a', LamOK Tryd.prog root Λ ∧ I a' rest ∧ (ltree Tryd.prog Γ Λ p b nn k live post (S a i)).pick = some (.normal, S a' (w64 (i + 1)), true))
    (hf : ∀ (a : A), I a [] → ∃ e s, e ≠ Ex.normal ∧ (ltree Tryd.prog Γ [] p b nn k live post (S a L.length)).pick = some (e, s, true) ∧ R.pick = some (e, s)) :
    ∀ a, I a L → ∀ x, R.pick = some x → SemC Tryd.prog (.loop b) (S a (0 : Nat)) x := fun a ha =>
  loop_treeP hΓ hc (ι := A × List Ln × List Ln) (fun y => L = y.2.1 ++ y.2.2 ∧ I y.1 y.2.2) (fun y => S y.1 (y.2.1.length : Nat)) (fun y => y.2.2.length) R nn k live (fun _ => []) post hpost (fun y hy => by
    obtain ⟨a, pre, rest⟩ := y
    obtain ⟨h1, h2⟩ := hy
    replace h1 : L = pre ++ rest := h1
    replace h2 : I a rest := h2
    cases rest with
    | nil =>
      obtain ⟨e, s, he, g1, g2⟩ := hf a h2
      have : L.length = pre.length := by rw [h1]; simp
      rw [this] at g1
      exact ⟨[], e, s, LamOK.nil _ _, g1, .inr ⟨he, g2⟩⟩
    | cons x rest =>
      obtain ⟨k1, k2⟩ := gLn_mid h1
      obtain ⟨Λ, a', g1, g2, g3⟩ := hs a x rest pre.length k1 k2 (by rw [h1]; simp) h2
      rw [w64_suc k1 hL] at g3
      exact ⟨Λ, .normal, _, g1, g3, .inl ⟨rfl, (a', pre ++ [x], rest), ⟨by show L = (pre ++ [x]) ++ rest; rw [h1]; simp, g2⟩, by show rest.length < (x :: rest).length; simp, by show S a' _ = S a' ((pre ++ [x]).length : Nat); rw [List.length_append]; rfl⟩⟩) (a, [], L) ⟨rfl, ha⟩
end

/-! ### LineAll -/
abbrev pA : List Nat := [0, 1, 0, 1, 1, 1, 1, 1, 1]
def SA (n : Nat) (g : Nat → Nat → Q) (w : Int) (m : Nat) (h : Nat → Nat → Q) (at_ i : Int) : St := mkS 135 [(0, lWd n g), (1, V.i w), (5, V.b true), (6, lLn m h), (8, V.i at_), (9, V.i i)] [] [] false [] 0
def FA (n : Nat) (g : Nat → Nat → Q) (at_ : Int) : Ex × St := (.exit 0, mkS 135 [(0, lWd n g), (5, V.b true), (8, V.i at_)] [] [] false [] 0)
def liveA : Ex → List Nat | .normal => [0, 1, 5, 6, 8, 9] | .ret => [4] | _ => [0, 5, 8]
noncomputable abbrev bodyA : Code := loopAt Tryd.f3 pA
noncomputable abbrev treeA (s : St) : T (Ex × St × Bool) := ltree Tryd.prog [] [] pA bodyA 135 0 liveA poN s
def c1A (n : Nat) (at_ : Int) (x : Ln) : Bool := bif x.a != at_ then true else bif decide (x.z < x.a) then true else decide (x.z > n)
def okT (n : Nat) (g : Nat → Nat → Q) (x : Ln) : Bool := bif decide (x.z < n) then (bif inJ x.z n then (bif (gWd g x.z.toNat).h == 0 then (bif inJ x.z n then (bif inJ x.z n then true else false) else false) else true) else false) else true
def okA2 (n : Nat) (g : Nat → Nat → Q) (w : Int) (x : Ln) : Bool := bif decide (x.w > w) then (bif x.z != w64 (x.a + 1) then true else okT n g x) else okT n g x
def moreT (n : Nat) (g : Nat → Nat → Q) (w : Int) (x : Ln) : Bool := bif decide (x.z < n) then takeB w x.w (gWd g x.z.toNat) else false
def bdA2 (n : Nat) (g : Nat → Nat → Q) (w : Int) (x : Ln) : Bool := bif decide (x.w > w) then (bif x.z != w64 (x.a + 1) then true else moreT n g w x) else moreT n g w x
theorem tA_nilC (n : Nat) (g : Nat → Nat → Q) (w : Int) (m : Nat) (h : Nat → Nat → Q) (at_ : Int) (i : Nat) : (treeA (SA n g w m h at_ i)).pathC [true, true, false, true, false, false, true, false] =
    [decide ((i : Int) < m), inI i m, c1A n at_ (gLn h i), (gLn h i).z == (gLn h i).a, (gLn h i).w != 0, decide (at_ ≥ n), inJ at_ n, (gWd g at_.toNat).h == 0] := by kernel_rfl
theorem tA_nilL (n : Nat) (g : Nat → Nat → Q) (w : Int) (m : Nat) (h : Nat → Nat → Q) (at_ : Int) (i : Nat) : (treeA (SA n g w m h at_ i)).pathL [true, true, false, true, false, false, true, false] = .leaf (.normal, SA n g w m h at_ (w64 (i + 1)), true) := by kernel_rfl
theorem tA_nxtC (n : Nat) (g : Nat → Nat → Q) (w : Int) (m : Nat) (h : Nat → Nat → Q) (at_ : Int) (i : Nat) : (treeA (SA n g w m h at_ i)).pathC [true, true, false, false, true, false] =
    [decide ((i : Int) < m), inI i m, c1A n at_ (gLn h i), (gLn h i).z == (gLn h i).a, okA2 n g w (gLn h i), bdA2 n g w (gLn h i)] := by kernel_rfl
theorem tA_nxtL (n : Nat) (g : Nat → Nat → Q) (w : Int) (m : Nat) (h : Nat → Nat → Q) (at_ : Int) (i : Nat) : (treeA (SA n g w m h at_ i)).pathL [true, true, false, false, true, false] = .leaf (.normal, SA n g w m h (gLn h i).z (w64 (i + 1)), true) := by kernel_rfl
theorem tA_end (n : Nat) (g : Nat → Nat → Q) (w : Int) (m : Nat) (h : Nat → Nat → Q) (at_ : Int) (i : Nat) : (treeA (SA n g w m h at_ i)).pathC [false] = [decide ((i : Int) < m)] := by kernel_rfl
theorem tA_endL (n : Nat) (g : Nat → Nat → Q) (w : Int) (m : Nat) (h : Nat → Nat → Q) (at_ : Int) (i : Nat) : (treeA (SA n g w m h at_ i)).pathL [false] = .leaf ((FA n g at_).1, (FA n g at_).2, true) := by kernel_rfl
/-- Where a line ends, it could not take the next word. -/
theorem tkF_end (g : Nat → Nat → Q) (w : Int) : ∀ f k v, (tkF g w f k v).1 < k + f → takeB w (tkF g w f k v).2 (gWd g (tkF g w f k v).1) = false
  | 0, k, v, h => by simp [tkF] at h
  | f + 1, k, v, h => by
    rw [tkF] at h ⊢
    cases ht : takeB w v (gWd g k) with
    | true => rw [ht] at h; exact tkF_end g w f (k + 1) _ (by simp only [cond_true] at h; omega)
    | false => exact ht
/-- A line that is wider has one word. -/
theorem tkF_wide (g : Nat → Nat → Q) (w : Int) : ∀ f k v, (tkF g w f k v).2 > w → tkF g w f k v = (k, v)
  | 0, k, v, h => rfl
  | f + 1, k, v, h => by
    rw [tkF] at h ⊢
    cases ht : takeB w v (gWd g k) with
    | true =>
      rw [ht] at h
      have h' : (tkF g w f (k + 1) (addW v (gWd g k))).2 > w := h
      have e := tkF_wide g w f (k + 1) _ h'
      rw [e] at h'
      unfold takeB at ht
      cases hh : (gWd g k).h == 0 with
      | false => rw [hh] at ht; cases ht
      | true => rw [hh] at ht; have := of_decide_eq_true (show decide (addW v (gWd g k) ≤ w) = true from ht); replace h' : addW v (gWd g k) > w := h'; omega
    | false => rfl
theorem next_more (n : Nat) (g : Nat → Nat → Q) (w : Int) {i : Nat} (hi : i < n) : moreT n g w (nextL n g w i) = false := by
  unfold moreT
  by_cases h : nextZ n g w i < n
  · have := tkF_end g w (n - (i + 1)) (i + 1) (gWd g i).w (by have : (tkF g w (n - (i + 1)) (i + 1) (gWd g i).w).1 < n := h; omega)
    have e : (nextL n g w i).z.toNat = nextZ n g w i := Int.toNat_natCast _
    rw [e, show decide ((nextL n g w i).z < (n : Int)) = true from decide_eq_true (by show ((nextZ n g w i : Nat) : Int) < n; omega)]
    exact this
  · rw [show decide ((nextL n g w i).z < (n : Int)) = false from decide_eq_false (by show ¬ ((nextZ n g w i : Nat) : Int) < n; omega)]; rfl
theorem okT_true (n : Nat) (g : Nat → Nat → Q) (x : Ln) (h : 0 ≤ x.z) : okT n g x = true := by
  unfold okT
  by_cases hz : x.z < n
  · rw [decide_eq_true hz, show inJ x.z n = true from decide_eq_true ⟨h, hz⟩]
    cases (gWd g x.z.toNat).h == 0 <;> rfl
  · rw [decide_eq_false hz]; rfl
theorem empty_h {g : Nat → Nat → Q} {i : Nat} (h : 0 < emptyN g i) : ¬ (gWd g i).h = 0 := fun h0 => by
  have hk : 0 ≤ kBo i := by unfold kBo; cases decide ((i : Int) > 0) <;> simp
  have h' : 0 < ((gWd g i).h - kBo i).toNat := h
  omega
theorem loopA (n : Nat) (g : Nat → Nat → Q) (w : Int) (hn : n ≤ 500) (hH : okH n g) : ∀ x, (T.leaf (FA n g n)).pick = some x → SemC Tryd.prog (.loop bodyA) (SA n g w (breakL n g w).length (gOf lnQ (breakL n g w)) 0 (0 : Nat)) x := by
  have hlen := breakL_len w hH
  refine loopLines (GOK.nil _) (root := cod Tryd.f3) (p := pA) (by kernel_rfl) (breakL n g w) (by omega) (A := Nat) (fun i rest => RestL n g w i rest) (fun i k => SA n g w (breakL n g w).length (gOf lnQ (breakL n g w)) i k) (.leaf (FA n g n)) 135 0 liveA poN poN_ok
    (fun i x rest k hk hx _ hI => ?_) (fun i hI => ?_) 0 (restL_break n g w)
  · obtain ⟨hi, h | h⟩ := restL_cons hI
    · obtain ⟨h1, h2, h3⟩ := h
      refine ⟨[], i, LamOK.nil _ _, h3, (T.pick_path [true, true, false, true, false, false, true, false] (treeA (SA n g w (breakL n g w).length (gOf lnQ (breakL n g w)) i k)) ?_).trans (congrArg T.pick (tA_nilL n g w _ _ i k))⟩
      rw [tA_nilC, hx, h1, c_lt hk, c_inI hk]
      have e1 : c1A n i ⟨i, i, 0⟩ = false := by
        unfold c1A
        rw [show ((i : Int) != i) = false by simp, show decide ((i : Int) < i) = false from decide_eq_false (by omega), show decide ((i : Int) > n) = false from decide_eq_false (by omega)]; rfl
      have e2 : ((gWd g (i : Int).toNat).h == 0) = false := by
        rw [Int.toNat_natCast]
        have := empty_h h2
        simpa using this
      rw [e1, e2]
      simp only [beq_self_eq_true, bne_self_eq_false, decide_eq_false (show ¬ (i : Int) ≥ n by omega), show inJ (i : Int) n = true from c_in hi]
    · obtain ⟨h1, h3⟩ := h
      have hz := nextZ_gt n g w i
      have hz2 := nextZ_le (g := g) (w := w) hi
      have a1 : (nextL n g w i).a = (i : Int) := rfl
      have a2 : (nextL n g w i).z = (nextZ n g w i : Int) := rfl
      have hL := tA_nxtL n g w (breakL n g w).length (gOf lnQ (breakL n g w)) i k
      rw [hx, h1, a2] at hL
      refine ⟨[], nextZ n g w i, LamOK.nil _ _, h3, (T.pick_path [true, true, false, false, true, false] (treeA (SA n g w (breakL n g w).length (gOf lnQ (breakL n g w)) i k)) ?_).trans (congrArg T.pick hL)⟩
      rw [tA_nxtC, hx, h1, c_lt hk, c_inI hk]
      have e1 : c1A n i (nextL n g w i) = false := by
        unfold c1A
        rw [a1, a2, show ((i : Int) != i) = false by simp, show decide (((nextZ n g w i : Nat) : Int) < i) = false from decide_eq_false (by omega), show decide (((nextZ n g w i : Nat) : Int) > n) = false from decide_eq_false (by omega)]; rfl
      have e2 : ((nextL n g w i).z == (nextL n g w i).a) = false := by
        rw [a1, a2]; simp; omega
      have e3 := okT_true n g (nextL n g w i) (by rw [a2]; omega)
      have e4 := next_more n g w hi
      have e5 : (nextL n g w i).w > w → ((nextL n g w i).z != w64 ((nextL n g w i).a + 1)) = false := fun hw => by
        have := tkF_wide g w (n - (i + 1)) (i + 1) (gWd g i).w hw
        have hz3 : nextZ n g w i = i + 1 := by show (tkF g w (n - (i + 1)) (i + 1) (gWd g i).w).1 = _; rw [this]
        rw [a1, a2, hz3, w64_id (by omega) (by omega)]; simp
      have e6 : okA2 n g w (nextL n g w i) = true := by
        unfold okA2
        rw [e3]
        by_cases hw : (nextL n g w i).w > w
        · rw [decide_eq_true hw, e5 hw]; rfl
        · rw [decide_eq_false hw]; rfl
      have e7 : bdA2 n g w (nextL n g w i) = false := by
        unfold bdA2
        rw [e4]
        by_cases hw : (nextL n g w i).w > w
        · rw [decide_eq_true hw, e5 hw]; rfl
        · rw [decide_eq_false hw]; rfl
      rw [e1, e2, e6, e7]
  · have := restL_nil hI
    subst this
    refine ⟨_, _, by simp [FA], (T.pick_path [false] (treeA (SA i g w (breakL i g w).length (gOf lnQ (breakL i g w)) i (breakL i g w).length)) (by rw [tA_end, c_ge (Nat.le_refl _)])).trans (congrArg T.pick (tA_endL _ _ _ _ _ _ _)), rfl⟩
end Go.Proofs.YthohngmafdagoaaDoor

/- Lines: what is so of right words, and of the lines that they come to; in plain words. -/
namespace Go.Proofs.YthohngmafdagoaaDoor
open Go Go.SX Go.Proofs Go.RowKit
set_option maxRecDepth 100000

set_option linter.unusedVariables false
set_option linter.unusedSectionVars false
set_option linter.unusedSimpArgs false

/-! ### widths -/
theorem widB_all : (List.range 256).all (fun k => decide (0 ≤ widB (k : Nat) ∧ widB (k : Nat) ≤ 1024)) = true := by kernel_rfl
theorem widB_le (b : ByteArray) (i : Nat) : 0 ≤ widB (sByte b i) ∧ widB (sByte b i) ≤ 1024 := by
  have h := (b.get! i).toNat_lt
  exact of_decide_eq_true (List.all_eq_true.1 widB_all (b.get! i).toNat (List.mem_range.2 (by omega)))
theorem wsum_le (b : ByteArray) : ∀ i, i ≤ 1000000 → 0 ≤ wsum b i ∧ wsum b i ≤ 1024 * (i : Int)
  | 0, _ => ⟨Int.le_refl _, Int.le_refl _⟩
  | i + 1, h => by
    have h1 := wsum_le b i (by omega)
    have h2 := widB_le b i
    rw [wsum, w64_id (by omega) (by omega)]
    omega
theorem wsum_suc (b : ByteArray) {i : Nat} (h : i < 1000000) : wsum b (i + 1) = wsum b i + widB (sByte b i) := by
  have h1 := wsum_le b i (by omega)
  have h2 := widB_le b i
  rw [wsum, w64_id (by omega) (by omega)]
theorem wsum_ext {a b : ByteArray} : ∀ i, (∀ j, j < i → sByte a j = sByte b j) → wsum a i = wsum b i
  | 0, _ => rfl
  | i + 1, h => by rw [wsum, wsum, wsum_ext i fun j hj => h j (by omega), h i (by omega)]
theorem sByte_app1 (a b : ByteArray) {i : Nat} (h : i < a.size) : sByte (a ++ b) i = sByte a i := by
  unfold sByte
  have h2 : i < (a ++ b).size := by rw [ByteArray.size_append]; omega
  rw [show (a ++ b).get! i = (a ++ b)[i] from getElem!_pos (a ++ b).data i h2, show a.get! i = a[i] from getElem!_pos a.data i h, ByteArray.getElem_append_left h]
theorem sByte_app2 (a b : ByteArray) {i : Nat} (h : i < b.size) : sByte (a ++ b) (a.size + i) = sByte b i := by
  unfold sByte
  have h2 : a.size + i < (a ++ b).size := by rw [ByteArray.size_append]; omega
  rw [show (a ++ b).get! (a.size + i) = (a ++ b)[a.size + i] from getElem!_pos (a ++ b).data _ h2, show b.get! i = b[i] from getElem!_pos b.data i h, ByteArray.getElem_append_right (by omega)]
  simp
theorem wsum_app (a b : ByteArray) (hs : a.size + b.size ≤ 1000000) : wsum (a ++ b) (a ++ b).size = wsum a a.size + wsum b b.size := by
  have key : ∀ k, k ≤ b.size → wsum (a ++ b) (a.size + k) = wsum a a.size + wsum b k := by
    intro k
    induction k with
    | zero => intro _; rw [Nat.add_zero, wsum_ext a.size fun j hj => sByte_app1 a b hj, wsum, Int.add_zero]
    | succ k ih =>
      intro hk
      rw [show a.size + (k + 1) = (a.size + k) + 1 by omega, wsum_suc _ (by omega), ih (by omega), sByte_app2 a b (by omega), wsum_suc b (by omega)]
      omega
  rw [ByteArray.size_append]
  exact key b.size (Nat.le_refl _)
theorem wsum_blank : wsum blank blank.size = 256 := by kernel_rfl

/-! ### right words -/
structure Gd (x : Wd) : Prop where
  t : x.t.size ≤ 400
  w : x.w = wsum x.t x.t.size
  s : x.s = 0 ∨ x.s = 256
  h : 0 ≤ x.h ∧ x.h ≤ 400
theorem Gd.w0 {x : Wd} (h : Gd x) : 0 ≤ x.w ∧ x.w ≤ 1024 * (x.t.size : Int) := by rw [h.w]; exact wsum_le _ _ (by have := h.t; omega)
theorem Gd.s0 {x : Wd} (h : Gd x) : 0 ≤ x.s ∧ x.s ≤ 256 := by rcases h.s with h | h <;> omega
theorem gd_of {x : Wd} (h : badW x = false) : Gd x := by
  have ht := good_t h
  rw [← badR_eq] at h
  have hh := good_h h
  refine ⟨ht, ?_, ?_, hh.2, hh.1⟩
  · unfold badR at h
    cases h1 : x.t.toList == (ByteArray.mk #[]).toList <;> rw [h1] at h <;> simp only [cond_true, cond_false] at h
    · cases h2 : decide ((x.t.size : Int) > 400) <;> rw [h2] at h <;> simp only [cond_true, cond_false] at h
      · cases h3 : x.w != wsum x.t x.t.size <;> rw [h3] at h <;> simp only [cond_true, cond_false] at h
        · simpa using h3
        · cases h
      · cases h
    · cases h
  · unfold badR at h
    cases h1 : x.t.toList == (ByteArray.mk #[]).toList <;> rw [h1] at h <;> simp only [cond_true, cond_false] at h
    · cases h2 : decide ((x.t.size : Int) > 400) <;> rw [h2] at h <;> simp only [cond_true, cond_false] at h
      · cases h3 : x.w != wsum x.t x.t.size <;> rw [h3] at h <;> simp only [cond_true, cond_false] at h
        · cases h4 : x.s != 0 <;> rw [h4] at h <;> simp only [cond_true, cond_false] at h
          · exact .inl (by simpa using h4)
          · cases h5 : x.s != 256 <;> rw [h5] at h <;> simp only [cond_true, cond_false] at h
            · exact .inr (by simpa using h5)
            · cases h
        · cases h
      · cases h
    · cases h
def GdW (n : Nat) (g : Nat → Nat → Q) : Prop := n ≤ 500 ∧ ∀ i, i < n → Gd (gWd g i)
theorem gdW_of {n : Nat} {g : Nat → Nat → Q} (h : rightW n g = true) : GdW n g := by
  unfold rightW at h
  cases ha : (allN n fun i => !badW (gWd g i)) with
  | false => rw [ha] at h; cases h
  | true =>
    rw [ha] at h
    refine ⟨by have := of_decide_eq_true (show decide ((n : Int) ≤ 500) = true from h); omega, fun i hi => ?_⟩
    have := allN_at ha hi
    exact gd_of (by simpa using this)
theorem addW_gd {v : Int} {x : Wd} (h0 : 0 ≤ v) (h1 : v ≤ 1000000000000) (h : Gd x) : addW v x = v + x.s + x.w := by
  have a := h.w0
  have b := h.s0
  have c := h.t
  show w64 (w64 (v + x.s) + x.w) = _
  rw [w64_id (n := v + x.s) (by omega) (by omega), w64_id (by omega) (by omega)]
theorem takeB_iff {w v : Int} {x : Wd} : takeB w v x = true ↔ x.h = 0 ∧ addW v x ≤ w := by
  show (bif x.h == 0 then decide (addW v x ≤ w) else false) = true ↔ _
  cases hh : x.h == 0 with
  | true => simp only [cond_true, decide_eq_true_eq]; exact ⟨fun h => ⟨by simpa using hh, h⟩, fun h => h.2⟩
  | false =>
    simp only [cond_false, Bool.false_eq_true, false_iff]
    have hn : ¬ x.h = 0 := by simpa using hh
    exact fun h => hn h.1

/-! ### lines -/
theorem tkF_suc (g : Nat → Nat → Q) (w : Int) (f k : Nat) (v : Int) : tkF g w (f + 1) k v = bif takeB w v (gWd g k) then tkF g w f (k + 1) (addW v (gWd g k)) else (k, v) := rfl
theorem tkF_mono {n : Nat} {g : Nat → Nat → Q} (hg : GdW n g) {w m : Int} (hw : w ≤ m) (hw2 : w ≤ 1000000000) : ∀ f k v v', k + f ≤ n → 0 ≤ v' → v' ≤ v → v ≤ 1000000000000 → (tkF g w f k v).1 ≤ (tkF g m f k v').1
  | 0, k, v, v', _, _, _, _ => Nat.le_refl _
  | f + 1, k, v, v', hk, h0, h1, h2 => by
    rw [tkF_suc, tkF_suc]
    have gd := hg.2 k (by omega)
    cases ht : takeB w v (gWd g k) with
    | true =>
      obtain ⟨a1, a2⟩ := takeB_iff.1 ht
      have b1 := addW_gd (by omega) h2 gd
      have b2 := addW_gd h0 (by omega) gd
      have s0 := gd.s0
      have w0 := gd.w0
      have ht' : takeB m v' (gWd g k) = true := takeB_iff.2 ⟨a1, by omega⟩
      rw [ht']
      exact tkF_mono hg hw hw2 f (k + 1) _ _ (by omega) (by omega) (by omega) (by omega)
    | false =>
      have := tkF_ge g m (f + 1) k v'
      rw [tkF_suc] at this
      exact this
/-- A line that takes the word j has come by it. -/
theorem tkF_pass {n : Nat} {g : Nat → Nat → Q} (hg : GdW n g) {w : Int} (hw2 : w ≤ 1000000000) (j : Nat) : ∀ f k v, k + f ≤ n → 0 ≤ v → v ≤ 1000000000000 → k ≤ j → j < (tkF g w f k v).1 →
    ∃ V, tkF g w f k v = tkF g w (k + f - (j + 1)) (j + 1) V ∧ (gWd g j).w ≤ V ∧ V ≤ w ∧ (gWd g j).h = 0
  | 0, k, v, _, _, _, hj, h => by have : j < k := h; omega
  | f + 1, k, v, hk, h0, h2, hj, h => by
    rw [tkF_suc] at h ⊢
    have gd := hg.2 k (by omega)
    cases ht : takeB w v (gWd g k) with
    | true =>
      rw [ht] at h
      replace h : j < (tkF g w f (k + 1) (addW v (gWd g k))).1 := h
      obtain ⟨a1, a2⟩ := takeB_iff.1 ht
      have b1 := addW_gd h0 h2 gd
      have s0 := gd.s0
      have w0 := gd.w0
      rcases Nat.lt_or_ge k j with hlt | hge
      · obtain ⟨V, e1, e2⟩ := tkF_pass hg hw2 j f (k + 1) (addW v (gWd g k)) (by omega) (by omega) (by omega) (by omega) h
        refine ⟨V, ?_, e2⟩
        show tkF g w f (k + 1) (addW v (gWd g k)) = _
        rw [e1, show k + 1 + f - (j + 1) = k + (f + 1) - (j + 1) by omega]
      · have : j = k := by omega
        subst this
        exact ⟨_, by rw [show j + (f + 1) - (j + 1) = f by omega]; rfl, by omega, a2, a1⟩
    | false => rw [ht] at h; have : j < k := h; omega
theorem tkF_vge {n : Nat} {g : Nat → Nat → Q} (hg : GdW n g) {w : Int} (hw2 : w ≤ 1000000000) : ∀ f k v, k + f ≤ n → 0 ≤ v → v ≤ 1000000000000 → v ≤ (tkF g w f k v).2
  | 0, k, v, _, _, _ => Int.le_refl _
  | f + 1, k, v, hk, h0, h2 => by
    rw [tkF_suc]
    have gd := hg.2 k (by omega)
    cases ht : takeB w v (gWd g k) with
    | true =>
      obtain ⟨a1, a2⟩ := takeB_iff.1 ht
      have b1 := addW_gd h0 h2 gd
      have s0 := gd.s0
      have w0 := gd.w0
      have := tkF_vge hg hw2 f (k + 1) (addW v (gWd g k)) (by omega) (by omega) (by omega)
      show v ≤ (tkF g w f (k + 1) (addW v (gWd g k))).2
      omega
    | false => exact Int.le_refl _
theorem GdW.w1 {n : Nat} {g : Nat → Nat → Q} (hg : GdW n g) {i : Nat} (hi : i < n) : 0 ≤ (gWd g i).w ∧ (gWd g i).w ≤ 409600 := by
  have a := (hg.2 i hi).w0
  have b := (hg.2 i hi).t
  omega
/-- The line that begins with s, at its word i. -/
theorem next_pass {n : Nat} {g : Nat → Nat → Q} (hg : GdW n g) {w : Int} (hw2 : w ≤ 1000000000) {s i : Nat} (hs : s ≤ i) (hi : i < nextZ n g w s) (hn : s < n) :
    ∃ V, tkF g w (n - (s + 1)) (s + 1) (gWd g s).w = tkF g w (n - (i + 1)) (i + 1) V ∧ (gWd g i).w ≤ V ∧ V ≤ 1000000000 ∧ (s < i → (gWd g i).h = 0) := by
  have a := hg.w1 hn
  rcases Nat.lt_or_ge s i with hlt | hge
  · obtain ⟨V, e1, e2, e3, e4⟩ := tkF_pass hg hw2 i (n - (s + 1)) (s + 1) (gWd g s).w (by omega) a.1 (by omega) hlt hi
    exact ⟨V, by rw [e1, show s + 1 + (n - (s + 1)) - (i + 1) = n - (i + 1) by omega], e2, by omega, fun _ => e4⟩
  · have : i = s := by omega
    subst this
    exact ⟨_, rfl, Int.le_refl _, by omega, fun h => by omega⟩
theorem nextZ_mono {n : Nat} {g : Nat → Nat → Q} (hg : GdW n g) {w m : Int} (hw : w ≤ m) (hw2 : w ≤ 1000000000) {i j : Nat} (hij : i ≤ j) (hj : j < nextZ n g w i) (hi : i < n) (hjn : j < n) : nextZ n g w i ≤ nextZ n g m j := by
  obtain ⟨V, e1, e2, e3, _⟩ := next_pass hg hw2 hij hj hi
  have a := hg.w1 hjn
  show (tkF g w (n - (i + 1)) (i + 1) (gWd g i).w).1 ≤ (tkF g m (n - (j + 1)) (j + 1) (gWd g j).w).1
  rw [e1]
  exact tkF_mono hg hw hw2 _ _ _ _ (by omega) a.1 e2 (by omega)
theorem empty_le {n : Nat} {g : Nat → Nat → Q} {i j : Nat} (hij : i ≤ j) (h : i < j → (gWd g j).h = 0) : emptyN g j ≤ emptyN g i := by
  rcases Nat.lt_or_ge i j with hlt | hge
  · have hk : kBo j = 1 := by
      have : decide ((j : Int) > 0) = true := decide_eq_true (by omega)
      unfold kBo; rw [this]; rfl
    show ((gWd g j).h - kBo j).toNat ≤ _
    rw [hk, h hlt]; exact Nat.zero_le _
  · have : i = j := by omega
    subst this; exact Nat.le_refl _
theorem lines_len (n : Nat) (g : Nat → Nat → Q) (w : Int) {f i : Nat} (hi : i < n) : (linesF n g w (f + 1) i).length = emptyN g i + 1 + (linesF n g w f (nextZ n g w i)).length := by
  rw [linesF, if_pos hi, List.length_append, List.length_cons, List.length_replicate]; omega
/-- With more width there are no more lines. -/
theorem lines_mono {n : Nat} {g : Nat → Nat → Q} (hg : GdW n g) {w m : Int} (hw : w ≤ m) (hw2 : w ≤ 1000000000) : ∀ f i f' j, i ≤ j → j ≤ n → n ≤ f + i → n ≤ f' + j → (linesF n g m f' j).length ≤ (linesF n g w f i).length
  | 0, i, f', j, hij, hj, hf, hf' => by rw [linesF_end n g m (by omega)]; exact Nat.zero_le _
  | f + 1, i, f', j, hij, hj, hf, hf' => by
    rcases Nat.lt_or_ge j n with hjn | hge
    · have hi : i < n := by omega
      rw [lines_len n g w hi]
      have z1 := nextZ_gt n g w i
      have z2 := nextZ_le (g := g) (w := w) hi
      rcases Nat.lt_or_ge j (nextZ n g w i) with h1 | h1
      · obtain ⟨f', rfl⟩ : ∃ k, f' = k + 1 := ⟨f' - 1, by omega⟩
        rw [lines_len n g m hjn]
        have y1 := nextZ_gt n g m j
        have y2 := nextZ_le (g := g) (w := m) hjn
        have hm := nextZ_mono hg hw hw2 hij h1 hi hjn
        obtain ⟨V, _, _, _, e4⟩ := next_pass hg hw2 hij h1 hi
        have he : emptyN g j ≤ emptyN g i := empty_le (n := n) hij e4
        have := lines_mono hg hw hw2 f (nextZ n g w i) f' (nextZ n g m j) hm y2 (by omega) (by omega)
        omega
      · have := lines_mono hg hw hw2 f (nextZ n g w i) f' j h1 hj (by omega) hf'
        omega
    · rw [linesF_end n g m hge]; exact Nat.zero_le _
theorem mem_lines {n : Nat} {g : Nat → Nat → Q} {w : Int} {x : Ln} : ∀ f i, x ∈ linesF n g w f i → ∃ k, k < n ∧ (x = ⟨k, k, 0⟩ ∨ x = nextL n g w k)
  | 0, i, h => by cases h
  | f + 1, i, h => by
    rw [linesF] at h
    split at h
    · rename_i hi
      rcases List.mem_append.1 h with h | h
      · exact ⟨i, hi, .inl (List.eq_of_mem_replicate h)⟩
      · rcases List.mem_cons.1 h with h | h
        · exact ⟨i, hi, .inr h⟩
        · exact mem_lines f _ h
    · cases h
/-- Each word lies in a line. -/
theorem word_in {n : Nat} {g : Nat → Nat → Q} {w : Int} {i : Nat} (hi : i < n) : ∀ f a, a ≤ i → n ≤ f + a → ∃ s, s ≤ i ∧ i < nextZ n g w s ∧ nextL n g w s ∈ linesF n g w f a
  | 0, a, h1, h2 => by omega
  | f + 1, a, h1, h2 => by
    have z1 := nextZ_gt n g w a
    rw [linesF, if_pos (show a < n by omega)]
    rcases Nat.lt_or_ge i (nextZ n g w a) with h | h
    · exact ⟨a, h1, h, List.mem_append_right _ List.mem_cons_self⟩
    · obtain ⟨s, e1, e2, e3⟩ := word_in hi f (nextZ n g w a) h (by omega)
      exact ⟨s, e1, e2, List.mem_append_right _ (List.mem_cons_of_mem _ e3)⟩
/-- All lines fit just if all words do. -/
theorem fits_iff {n : Nat} {g : Nat → Nat → Q} (hg : GdW n g) {w : Int} (hw0 : 0 ≤ w) (hw2 : w ≤ 1000000000) : (∀ i, i < n → (gWd g i).w ≤ w) ↔ ∀ x ∈ breakL n g w, x.w ≤ w := by
  constructor
  · intro h x hx
    obtain ⟨k, hk, rfl | rfl⟩ := mem_lines _ _ hx
    · exact hw0
    · refine Int.not_lt.1 fun hlt => ?_
      have := tkF_wide g w (n - (k + 1)) (k + 1) (gWd g k).w hlt
      have e : (nextL n g w k).w = (gWd g k).w := by show (tkF g w (n - (k + 1)) (k + 1) (gWd g k).w).2 = _; rw [this]
      have := h k hk
      omega
  · intro h i hi
    obtain ⟨s, e1, e2, e3⟩ := word_in (g := g) (w := w) hi n 0 (Nat.zero_le _) (by omega)
    have hs : s < n := by omega
    obtain ⟨V, f1, f2, f3, _⟩ := next_pass hg hw2 e1 e2 hs
    have a := hg.w1 hi
    have := tkF_vge hg hw2 (n - (i + 1)) (i + 1) V (by omega) (by omega) (by omega)
    rw [← f1] at this
    have h2 : (tkF g w (n - (s + 1)) (s + 1) (gWd g s).w).2 ≤ w := h _ e3
    omega
theorem overL_nil (g : Nat → Nat → Q) (w : Int) : ∀ n, (overL g w n).length = 0 ↔ ∀ i, i < n → (gLn g i).w ≤ w
  | 0 => by simp [overL]
  | n + 1 => by
    rw [overL]
    by_cases h : (gLn g n).w > w
    · rw [decide_eq_true h]
      simp only [cond_true, List.length_append, List.length_singleton]
      refine ⟨fun h' => by omega, fun h' => absurd (h' n (by omega)) (Int.not_le.2 h)⟩
    · rw [decide_eq_false h]
      simp only [cond_false]
      rw [overL_nil g w n]
      refine ⟨fun h' i hi => ?_, fun h' i hi => h' i (by omega)⟩
      rcases Nat.lt_or_ge i n with h1 | h1
      · exact h' i h1
      · rw [show i = n by omega]; exact Int.not_lt.1 h
theorem over_mem (L : List Ln) (w : Int) : (overL (gOf lnQ L) w L.length).length = 0 ↔ ∀ x ∈ L, x.w ≤ w := by
  rw [overL_nil]
  constructor
  · intro h x hx
    obtain ⟨i, hi, rfl⟩ := List.mem_iff_getElem.1 hx
    have := h i hi
    rwa [gLn_of hi] at this
  · intro h i hi
    rw [gLn_of hi]
    exact h _ (List.getElem_mem hi)
theorem maxW_le (g : Nat → Nat → Q) (a w : Int) : ∀ n, maxW g a n ≤ w ↔ a ≤ w ∧ ∀ i, i < n → (gWd g i).w ≤ w
  | 0 => by simp [maxW]
  | n + 1 => by
    rw [maxW, mx2_eq]
    have := maxW_le g a w n
    constructor
    · intro h
      obtain ⟨h1, h2⟩ := this.1 (by omega)
      refine ⟨h1, fun i hi => ?_⟩
      rcases Nat.lt_or_ge i n with h3 | h3
      · exact h2 i h3
      · rw [show i = n by omega]; omega
    · intro h
      have h1 := this.2 ⟨h.1, fun i hi => h.2 i (by omega)⟩
      have h2 := h.2 n (by omega)
      omega
theorem least_iff {n : Nat} {g : Nat → Nat → Q} {w : Int} (hw0 : 0 ≤ w) : leastW n g ≤ w ↔ ∀ i, i < n → (gWd g i).w ≤ w := by
  unfold leastW
  cases n with
  | zero => exact ⟨fun _ i hi => by omega, fun _ => hw0⟩
  | succ n =>
    rw [show ((((n + 1 : Nat) : Int)) == 0) = false by simp; omega]
    show maxW g (gWd g 0).w (n + 1) ≤ w ↔ _
    rw [maxW_le]
    exact ⟨fun h => h.2, fun h => ⟨h 0 (by omega), h⟩⟩
end Go.Proofs.YthohngmafdagoaaDoor

/- The card of LineWider: with more width there are no more lines, and none at all is wider, if the widest word fits. -/
namespace Go.Proofs.YthohngmafdagoaaDoor
open Go Go.SX Go.Proofs Go.RowKit Go.ChangeShapes
set_option maxRecDepth 100000

set_option linter.unusedVariables false
set_option linter.unusedSectionVars false
set_option linter.unusedSimpArgs false

abbrev ΓWd : Gam := [(10, shown.s), (11, few.s), (12, lBreak.s), (19, rLeast.s), (18, over.s)]
theorem ΓWd.ok : GOK Tryd.prog ΓWd := .cons shown.ok (.cons few.ok (.cons lBreak.ok (.cons rLeast.ok (.cons lOver.ok (GOK.nil _)))))
noncomputable abbrev fWd (n : Nat) (g : Nat → Nat → Q) (w m : Int) : T V := funV Tryd.prog ΓWd [] Tryd.f6 (cod Tryd.f6) [lWd n g, V.i w, V.i m]
abbrev sz8 (n : Nat) (g : Nat → Nat → Q) : Bool := allN (fN g n) (szW (fG g n))
abbrev ck8 (n : Nat) (g : Nat → Nat → Q) (w : Int) : Bool := chkW (fN g n) (fG g n) w != 0
abbrev br8 (n : Nat) (g : Nat → Nat → Q) (w : Int) : List Ln := breakL (fN g n) (fG g n) w
theorem w11c (n : Nat) (g : Nat → Nat → Q) (w m : Int) : (fWd n g w m).pathC [true, true, true, true, true] = [sz8 n g, ck8 n g w, sz8 n g, ck8 n g m, bif ck8 n g w then true else bif ck8 n g m then true else decide (m < w)] := by kernel_rfl
theorem w11 (n : Nat) (g : Nat → Nat → Q) (w m : Int) : (fWd n g w m).pathL [true, true, true, true, true] = .leaf (V.b true) := by kernel_rfl
theorem w10c (n : Nat) (g : Nat → Nat → Q) (w m : Int) : (fWd n g w m).pathC [true, true, true, false, true] = [sz8 n g, ck8 n g w, sz8 n g, ck8 n g m, bif ck8 n g w then true else decide (m < w)] := by kernel_rfl
theorem w10 (n : Nat) (g : Nat → Nat → Q) (w m : Int) : (fWd n g w m).pathL [true, true, true, false, true] = .leaf (V.b true) := by kernel_rfl
theorem w01c (n : Nat) (g : Nat → Nat → Q) (w m : Int) : (fWd n g w m).pathC [true, false, true, true, true] = [sz8 n g, ck8 n g w, sz8 n g, ck8 n g m, bif ck8 n g m then true else decide (m < w)] := by kernel_rfl
theorem w01 (n : Nat) (g : Nat → Nat → Q) (w m : Int) : (fWd n g w m).pathL [true, false, true, true, true] = .leaf (V.b true) := by kernel_rfl
theorem w00c (n : Nat) (g : Nat → Nat → Q) (w m : Int) : (fWd n g w m).pathC [true, false, true, false, true] = [sz8 n g, ck8 n g w, sz8 n g, ck8 n g m, decide (m < w)] := by kernel_rfl
theorem w00 (n : Nat) (g : Nat → Nat → Q) (w m : Int) : (fWd n g w m).pathL [true, false, true, false, true] = .leaf (V.b true) := by kernel_rfl
theorem wFc (n : Nat) (g : Nat → Nat → Q) (w m : Int) : (fWd n g w m).pathC [true, false, true, false, false, true, true, true] = [sz8 n g, ck8 n g w, sz8 n g, ck8 n g m, decide (m < w), true, decide (((br8 n g m).length : Int) ≤ (br8 n g w).length), decide ((br8 n g w).length ≤ 1000000)] := by kernel_rfl
theorem wF (n : Nat) (g : Nat → Nat → Q) (w m : Int) : (fWd n g w m).pathL [true, false, true, false, false, true, true, true] = .leaf (V.b (decide (leastW (fN g n) (fG g n) ≤ w) == (((overL (gOf lnQ (br8 n g w)) w (br8 n g w).length).length : Int) == 0))) := by kernel_rfl
theorem badI_le {w : Int} (h : badI w = false) : 0 ≤ w ∧ w ≤ 1048576 := by
  unfold badI at h
  rw [cond_or] at h
  have := of_decide_eq_false h
  omega
def widerL.s : List V → T V
  | [.q (.lst [.str, .int .i64, .int .i64, .int .i64] n g), .q (.c (.int .i64 w)), .q (.c (.int .i64 m))] => .leaf (V.b true)
  | _ => .bad
theorem widerL.ok : SpecOK Tryd.prog 6 widerL.s := by
  refine okF ΓWd.ok Tryd.func6 (by kernel_rfl) (by kernel_rfl) fun args r hb hr => ?_
  unfold widerL.s at hr
  split at hr
  · rename_i n g w m
    have hs : sz8 n g = true := fSz g n
    refine ⟨[], LamOK.nil _ _, ?_⟩
    rw [← hr]
    cases h1 : ck8 n g w with
    | true =>
      cases h2 : ck8 n g m with
      | true => exact (T.pick_path [true, true, true, true, true] (fWd n g w m) (by rw [w11c, hs, h1, h2]; rfl)).trans (by rw [w11])
      | false => exact (T.pick_path [true, true, true, false, true] (fWd n g w m) (by rw [w10c, hs, h1, h2]; rfl)).trans (by rw [w10])
    | false =>
      cases h2 : ck8 n g m with
      | true => exact (T.pick_path [true, false, true, true, true] (fWd n g w m) (by rw [w01c, hs, h1, h2]; rfl)).trans (by rw [w01])
      | false =>
        by_cases h3 : m < w
        · exact (T.pick_path [true, false, true, false, true] (fWd n g w m) (by rw [w00c, hs, h1, h2, decide_eq_true h3])).trans (by rw [w00])
        · obtain ⟨r1, i1⟩ := chk_right h1
          have hg := gdW_of r1
          obtain ⟨b0, b1⟩ := badI_le i1
          have hlen := breakL_len w (right_ok r1)
          have hle : (br8 n g m).length ≤ (br8 n g w).length := lines_mono hg (by omega) (by omega) _ _ _ _ (Nat.le_refl _) (Nat.zero_le _) (by omega) (by omega)
          refine (T.pick_path [true, false, true, false, false, true, true, true] (fWd n g w m) ?_).trans ?_
          · rw [wFc, hs, h1, h2, decide_eq_false h3, decide_eq_true (show (br8 n g w).length ≤ 1000000 from hlen), decide_eq_true (show ((br8 n g m).length : Int) ≤ (br8 n g w).length by omega)]
          · rw [wF]
            have hiff : leastW (fN g n) (fG g n) ≤ w ↔ (overL (gOf lnQ (br8 n g w)) w (br8 n g w).length).length = 0 := by
              rw [least_iff b0, fits_iff hg b0 (by omega), over_mem]
            have : (decide (leastW (fN g n) (fG g n) ≤ w) == (((overL (gOf lnQ (br8 n g w)) w (br8 n g w).length).length : Int) == 0)) = true := by
              by_cases hl : leastW (fN g n) (fG g n) ≤ w
              · have h0 := hiff.1 hl
                rw [decide_eq_true hl, h0]; rfl
              · have h0 : ¬ (overL (gOf lnQ (br8 n g w)) w (br8 n g w).length).length = 0 := fun h => hl (hiff.2 h)
                rw [decide_eq_false hl]
                have : (((overL (gOf lnQ (br8 n g w)) w (br8 n g w).length).length : Int) == 0) = false := by simpa using h0
                rw [this]; rfl
            rw [this]
  · cases hr
theorem widerL.all (n : Nat) (g : Nat → Nat → Q) (w m : Int) (_ : n ≤ 9223372036854775807) (_ : Wf w) (_ : Wf m) : (widerL.s [lWd n g, V.i w, V.i m]).pick = some (V.b true) := rfl

theorem widerL_lifted (os : Os) (started : os.Started) (H : Type) (enc : TypeId × Value → H) :
    ReturnsInHanded {} Tryd.checked os 6 .any (fun w args => (Rows.lineWiderSpec.pre enc Tryd.prog Tryd.f6 [] false w args ∧ laidMetH Tryd.prog laidL w) ∧ sizedMet enc Tryd.prog Tryd.f6 (OpenSpec.ofChange Rows.lineWiderSpec) false w args)
      (Rows.lineWiderSpec.post enc Tryd.prog Tryd.f6 false true false false) :=
  row_of (rt := 4) (shs := [(false, [.lst ksWd]), (false, [.int .i64]), (false, [.int .i64])]) H enc os started widerL.ok Tryd.func6 (by kernel_rfl) (by kernel_rfl) rfl
    (fun ds hl => by
      have hl' : ds.length = 3 := hl
      match ds, hl' with
      | [d1, d2, d3], _ => rfl)
    (by kernel_rfl)
    (fun xs h => by
      obtain ⟨x1, l, rfl, p1, h⟩ := pvs_cons h
      obtain ⟨x2, l, rfl, p2, h⟩ := pvs_cons h
      obtain ⟨x3, l, rfl, p3, h⟩ := pvs_cons h
      obtain rfl := pvs_nil h
      obtain ⟨n1, g1, rfl, hn1⟩ := pv_words p1
      obtain ⟨n2, rfl, w2⟩ := pv_int p2
      obtain ⟨n3, rfl, w3⟩ := pv_int p3
      exact widerL.all n1 g1 n2 n3 hn1 w2 w3)
    (by kernel_rfl)
    (ChangeSpec.witness_at (enc := enc) (C := Tryd.checked) (os := os) (X := fun w _ => laidMetH Tryd.prog laidL w) false (laidWorld os) #[.slice none 0 0, .int .i64 0, .int .i64 0] 8 rfl (by kernel_rfl) (by kernel_rfl) (by kernel_rfl) (by kernel_rfl) (by kernel_rfl) (laidWorld_met os _))

theorem widerL_row : Rows.LineWiderSaid :=
  OpenClaim.holds_of_wide 6 Tryd.f6 rfl rfl rfl rfl rfl rfl rfl ⟨rfl, rfl, rfl, rfl, rfl⟩ rfl rfl rfl rfl rfl (by kernel_rfl) Tryd.func6 (by kernel_rfl)
    (of_decide_eq_true (by kernel_rfl)) (by unfold Func.isWrapper; rw [if_neg (of_decide_eq_false (by kernel_rfl))]; exact ⟨rfl, rfl⟩)
    (fun os started H enc _ => widerL_lifted os started H enc)

theorem widerL_holds : Rows.LineWiderCardSaid :=
  Claim7.holds_tied_plain_at .later [] [.handle] true Rows.lineWiderCard.stood.harness true
    widerL_row (fun _ h => by cases h) (by kernel_rfl) (fun _ h => by cases h) lineWider_row_tie rfl ⟨rfl, rfl⟩ (by kernel_rfl) rfl
    (fun f fn hf hfn => by
      obtain rfl : f = 6 := Option.some.inj ((show Tryd.prog.funcNamed "gutter/gutterlaw08.LineWider" = some 6 by kernel_rfl).symm.trans hf) |>.symm
      obtain rfl : fn = Tryd.f6 := (Option.some.inj (Tryd.func6.symm.trans hfn)).symm
      exact ⟨by kernel_rfl, fun j t ht => by
        have e : Tryd.f6.params.all (fun t => !(Tryd.pinned.checked.prog.wantsStandIn t)) = true := by kernel_rfl
        have := Array.all_eq_true_iff_forall_mem.1 e t (Array.mem_of_getElem? ht)
        simpa using this⟩)
    (by kernel_rfl)
#print axioms widerL_holds
end Go.Proofs.YthohngmafdagoaaDoor
