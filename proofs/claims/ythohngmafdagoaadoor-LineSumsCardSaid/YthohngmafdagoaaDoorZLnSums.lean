/- The card of LineSums: a line is as wide as its text, but for blanks that words do not have. -/
import Derived.Test.YthohngmafdagoaaDoorMd
namespace Go.Proofs.YthohngmafdagoaaDoor
open Go Go.SX Go.Proofs Go.RowKit
set_option maxRecDepth 100000

set_option linter.unusedVariables false
set_option linter.unusedSectionVars false
set_option linter.unusedSimpArgs false

/-- What is left of the lines, where the word i is the next one to stand in one. -/
def RestL (n : Nat) (g : Nat → Nat → Q) (w : Int) (i : Nat) (rest : List Ln) : Prop :=
  (i = n ∧ rest = []) ∨ (i < n ∧ ∃ c f, c ≤ emptyN g i ∧ n ≤ f + nextZ n g w i ∧ rest = nils i c ++ nextL n g w i :: linesF n g w f (nextZ n g w i))
theorem restL_lines (n : Nat) (g : Nat → Nat → Q) (w : Int) {f i : Nat} (hi : i ≤ n) (hf : n ≤ f + i) : RestL n g w i (linesF n g w f i) := by
  rcases Nat.lt_or_ge i n with h | h
  · obtain ⟨f, rfl⟩ : ∃ f', f = f' + 1 := ⟨f - 1, by omega⟩
    have hz := nextZ_gt n g w i
    exact .inr ⟨h, emptyN g i, f, Nat.le_refl _, by omega, by rw [linesF, if_pos h]⟩
  · exact .inl ⟨by omega, linesF_end n g w h⟩
theorem restL_break (n : Nat) (g : Nat → Nat → Q) (w : Int) : RestL n g w 0 (breakL n g w) := restL_lines n g w (Nat.zero_le _) (by simp)
theorem restL_nil {n : Nat} {g : Nat → Nat → Q} {w : Int} {i : Nat} (h : RestL n g w i []) : i = n := by
  rcases h with h | ⟨_, c, f, _, _, h⟩
  · exact h.1
  · cases c <;> simp [nils, List.replicate_succ] at h
theorem restL_cons {n : Nat} {g : Nat → Nat → Q} {w : Int} {i : Nat} {x : Ln} {rest : List Ln} (h : RestL n g w i (x :: rest)) :
    i < n ∧ ((x = ⟨i, i, 0⟩ ∧ 0 < emptyN g i ∧ RestL n g w i rest) ∨ (x = nextL n g w i ∧ RestL n g w (nextZ n g w i) rest)) := by
  rcases h with h | ⟨hi, c, f, hc, hf, h⟩
  · cases h.2
  · refine ⟨hi, ?_⟩
    cases c with
    | zero =>
      simp only [nils, List.replicate_zero, List.nil_append, List.cons.injEq] at h
      exact .inr ⟨h.1, by rw [h.2]; exact restL_lines n g w (nextZ_le hi) hf⟩
    | succ c =>
      simp only [nils, List.replicate_succ, List.cons_append, List.cons.injEq] at h
      exact .inl ⟨h.1, by omega, .inr ⟨hi, c, f, by omega, hf, h.2⟩⟩
theorem gLn_mid {L pre rest : List Ln} {x : Ln} (h : L = pre ++ x :: rest) : pre.length < L.length ∧ gLn (gOf lnQ L) pre.length = x := by
  subst h
  have hl : pre.length < (pre ++ x :: rest).length := by simp
  exact ⟨hl, by rw [gLn_of hl]; simp⟩

section
variable {Γ : Gam} {root : Code}
/-- A loop that goes through lines. -/
theorem loopLines (hΓ : GOK Tryd.prog Γ) {p : List Nat} {b : Code} (hc : codeAt root (0 :: p) = some b) (L : List Ln) (hL : L.length ≤ 9223372036854775807) {A : Type} (I : A → List Ln → Prop) (S : A → Int → St) (R : Out) (nn k : Nat) (live : Ex → List Nat) (post : Ex → St → St) (hpost : ∀ e s, Sub Tryd.prog s (post e s))
    (hs : ∀ (a : A) (x : Ln) (rest : List Ln) (i : Nat), i < L.length → gLn (gOf lnQ L) i = x → x ∈ L → I a (x :: rest) → ∃ Λ a', LamOK Tryd.prog root Λ ∧ I a' rest ∧ (ltree Tryd.prog Γ Λ p b nn k live post (S a i)).pick = some (.normal, S a' (w64 (i + 1)), true))
    (hf : ∀ (a : A), I a [] → ∃ e s, e ≠ Ex.normal ∧ (ltree Tryd.prog Γ [] p b nn k live post (S a L.length)).pick = some (e, s, true) ∧ R.pick = some (e, s)) :
    ∀ a, I a L → ∀ x, R.pick = some x → SemC Tryd.prog (.loop b) (S a (0 : Nat)) x := fun a ha =>
  loop_treeP hΓ hc (ι := A × List Ln × List Ln) (fun y => L = y.2.1 ++ y.2.2 ∧ I y.1 y.2.2) (fun y => S y.1 (y.2.1.length : Nat)) (fun y => y.2.2.length) R nn k live (fun _ => []) post hpost (fun y hy => by
    obtain ⟨a, pre, rest⟩ := y
    obtain ⟨h1, h2⟩ := hy
    replace h1 : L = pre ++ rest := h1
    replace h2 : I a rest := h2
    cases rest with
    | nil =>
      obtain ⟨e, s, he, g1, g2⟩ := hf a h2
      have : L.length = pre.length := by rw [h1]; simp
      rw [this] at g1
      exact ⟨[], e, s, LamOK.nil _ _, g1, .inr ⟨he, g2⟩⟩
    | cons x rest =>
      obtain ⟨k1, k2⟩ := gLn_mid h1
      obtain ⟨Λ, a', g1, g2, g3⟩ := hs a x rest pre.length k1 k2 (by rw [h1]; simp) h2
      rw [w64_suc k1 hL] at g3
      exact ⟨Λ, .normal, _, g1, g3, .inl ⟨rfl, (a', pre ++ [x], rest), ⟨by show L = (pre ++ [x]) ++ rest; rw [h1]; simp, g2⟩, by show rest.length < (x :: rest).length; simp, by show S a' _ = S a' ((pre ++ [x]).length : Nat); rw [List.length_append]; rfl⟩⟩) (a, [], L) ⟨rfl, ha⟩
end

/-! ### LineAll -/
abbrev pA : List Nat := [0, 1, 0, 1, 1, 1, 1, 1, 1]
def SA (n : Nat) (g : Nat → Nat → Q) (w : Int) (m : Nat) (h : Nat → Nat → Q) (at_ i : Int) : St := mkS 135 [(0, lWd n g), (1, V.i w), (5, V.b true), (6, lLn m h), (8, V.i at_), (9, V.i i)] [] [] false [] 0
def FA (n : Nat) (g : Nat → Nat → Q) (at_ : Int) : Ex × St := (.exit 0, mkS 135 [(0, lWd n g), (5, V.b true), (8, V.i at_)] [] [] false [] 0)
def liveA : Ex → List Nat | .normal => [0, 1, 5, 6, 8, 9] | .ret => [4] | _ => [0, 5, 8]
noncomputable abbrev bodyA : Code := loopAt Tryd.f3 pA
noncomputable abbrev treeA (s : St) : T (Ex × St × Bool) := ltree Tryd.prog [] [] pA bodyA 135 0 liveA poN s
def c1A (n : Nat) (at_ : Int) (x : Ln) : Bool := bif x.a != at_ then true else bif decide (x.z < x.a) then true else decide (x.z > n)
def okT (n : Nat) (g : Nat → Nat → Q) (x : Ln) : Bool := bif decide (x.z < n) then (bif inJ x.z n then (bif (gWd g x.z.toNat).h == 0 then (bif inJ x.z n then (bif inJ x.z n then true else false) else false) else true) else false) else true
def okA2 (n : Nat) (g : Nat → Nat → Q) (w : Int) (x : Ln) : Bool := bif decide (x.w > w) then (bif x.z != w64 (x.a + 1) then true else okT n g x) else okT n g x
def moreT (n : Nat) (g : Nat → Nat → Q) (w : Int) (x : Ln) : Bool := bif decide (x.z < n) then takeB w x.w (gWd g x.z.toNat) else false
def bdA2 (n : Nat) (g : Nat → Nat → Q) (w : Int) (x : Ln) : Bool := bif decide (x.w > w) then (bif x.z != w64 (x.a + 1) then true else moreT n g w x) else moreT n g w x
theorem tA_nilC (n : Nat) (g : Nat → Nat → Q) (w : Int) (m : Nat) (h : Nat → Nat → Q) (at_ : Int) (i : Nat) : (treeA (SA n g w m h at_ i)).pathC [true, true, false, true, false, false, true, false] =
    [decide ((i : Int) < m), inI i m, c1A n at_ (gLn h i), (gLn h i).z == (gLn h i).a, (gLn h i).w != 0, decide (at_ ≥ n), inJ at_ n, (gWd g at_.toNat).h == 0] := by kernel_rfl
theorem tA_nilL (n : Nat) (g : Nat → Nat → Q) (w : Int) (m : Nat) (h : Nat → Nat → Q) (at_ : Int) (i : Nat) : (treeA (SA n g w m h at_ i)).pathL [true, true, false, true, false, false, true, false] = .leaf (.normal, SA n g w m h at_ (w64 (i + 1)), true) := by kernel_rfl
theorem tA_nxtC (n : Nat) (g : Nat → Nat → Q) (w : Int) (m : Nat) (h : Nat → Nat → Q) (at_ : Int) (i : Nat) : (treeA (SA n g w m h at_ i)).pathC [true, true, false, false, true, false] =
    [decide ((i : Int) < m), inI i m, c1A n at_ (gLn h i), (gLn h i).z == (gLn h i).a, okA2 n g w (gLn h i), bdA2 n g w (gLn h i)] := by kernel_rfl
theorem tA_nxtL (n : Nat) (g : Nat → Nat → Q) (w : Int) (m : Nat) (h : Nat → Nat → Q) (at_ : Int) (i : Nat) : (treeA (SA n g w m h at_ i)).pathL [true, true, false, false, true, false] = .leaf (.normal, SA n g w m h (gLn h i).z (w64 (i + 1)), true) := by kernel_rfl
theorem tA_end (n : Nat) (g : Nat → Nat → Q) (w : Int) (m : Nat) (h : Nat → Nat → Q) (at_ : Int) (i : Nat) : (treeA (SA n g w m h at_ i)).pathC [false] = [decide ((i : Int) < m)] := by kernel_rfl
theorem tA_endL (n : Nat) (g : Nat → Nat → Q) (w : Int) (m : Nat) (h : Nat → Nat → Q) (at_ : Int) (i : Nat) : (treeA (SA n g w m h at_ i)).pathL [false] = .leaf ((FA n g at_).1, (FA n g at_).2, true) := by kernel_rfl
/-- Where a line ends, it could not take the next word. -/
theorem tkF_end (g : Nat → Nat → Q) (w : Int) : ∀ f k v, (tkF g w f k v).1 < k + f → takeB w (tkF g w f k v).2 (gWd g (tkF g w f k v).1) = false
  | 0, k, v, h => by simp [tkF] at h
  | f + 1, k, v, h => by
    rw [tkF] at h ⊢
    cases ht : takeB w v (gWd g k) with
    | true => rw [ht] at h; exact tkF_end g w f (k + 1) _ (by simp only [cond_true] at h; omega)
    | false => exact ht
/-- A line that is wider has one word. -/
theorem tkF_wide (g : Nat → Nat → Q) (w : Int) : ∀ f k v, (tkF g w f k v).2 > w → tkF g w f k v = (k, v)
  | 0, k, v, h => rfl
  | f + 1, k, v, h => by
    rw [tkF] at h ⊢
    cases ht : takeB w v (gWd g k) with
    | true =>
      rw [ht] at h
      have h' : (tkF g w f (k + 1) (addW v (gWd g k))).2 > w := h
      have e := tkF_wide g w f (k + 1) _ h'
      rw [e] at h'
      unfold takeB at ht
      cases hh : (gWd g k).h == 0 with
      | false => rw [hh] at ht; cases ht
      | true => rw [hh] at ht; have := of_decide_eq_true (show decide (addW v (gWd g k) ≤ w) = true from ht); replace h' : addW v (gWd g k) > w := h'; omega
    | false => rfl
theorem next_more (n : Nat) (g : Nat → Nat → Q) (w : Int) {i : Nat} (hi : i < n) : moreT n g w (nextL n g w i) = false := by
  unfold moreT
  by_cases h : nextZ n g w i < n
  · have := tkF_end g w (n - (i + 1)) (i + 1) (gWd g i).w (by have : (tkF g w (n - (i + 1)) (i + 1) (gWd g i).w).1 < n := h; omega)
    have e : (nextL n g w i).z.toNat = nextZ n g w i := Int.toNat_natCast _
    rw [e, show decide ((nextL n g w i).z < (n : Int)) = true from decide_eq_true (by show ((nextZ n g w i : Nat) : Int) < n; omega)]
    exact this
  · rw [show decide ((nextL n g w i).z < (n : Int)) = false from decide_eq_false (by show ¬ ((nextZ n g w i : Nat) : Int) < n; omega)]; rfl
theorem okT_true (n : Nat) (g : Nat → Nat → Q) (x : Ln) (h : 0 ≤ x.z) : okT n g x = true := by
  unfold okT
  by_cases hz : x.z < n
  · rw [decide_eq_true hz, show inJ x.z n = true from decide_eq_true ⟨h, hz⟩]
    cases (gWd g x.z.toNat).h == 0 <;> rfl
  · rw [decide_eq_false hz]; rfl
theorem empty_h {g : Nat → Nat → Q} {i : Nat} (h : 0 < emptyN g i) : ¬ (gWd g i).h = 0 := fun h0 => by
  have hk : 0 ≤ kBo i := by unfold kBo; cases decide ((i : Int) > 0) <;> simp
  have h' : 0 < ((gWd g i).h - kBo i).toNat := h
  omega
theorem loopA (n : Nat) (g : Nat → Nat → Q) (w : Int) (hn : n ≤ 500) (hH : okH n g) : ∀ x, (T.leaf (FA n g n)).pick = some x → SemC Tryd.prog (.loop bodyA) (SA n g w (breakL n g w).length (gOf lnQ (breakL n g w)) 0 (0 : Nat)) x := by
  have hlen := breakL_len w hH
  refine loopLines (GOK.nil _) (root := cod Tryd.f3) (p := pA) (by kernel_rfl) (breakL n g w) (by omega) (A := Nat) (fun i rest => RestL n g w i rest) (fun i k => SA n g w (breakL n g w).length (gOf lnQ (breakL n g w)) i k) (.leaf (FA n g n)) 135 0 liveA poN poN_ok
    (fun i x rest k hk hx _ hI => ?_) (fun i hI => ?_) 0 (restL_break n g w)
  · obtain ⟨hi, h | h⟩ := restL_cons hI
    · obtain ⟨h1, h2, h3⟩ := h
      refine ⟨[], i, LamOK.nil _ _, h3, (T.pick_path [true, true, false, true, false, false, true, false] (treeA (SA n g w (breakL n g w).length (gOf lnQ (breakL n g w)) i k)) ?_).trans (congrArg T.pick (tA_nilL n g w _ _ i k))⟩
      rw [tA_nilC, hx, h1, c_lt hk, c_inI hk]
      have e1 : c1A n i ⟨i, i, 0⟩ = false := by
        unfold c1A
        rw [show ((i : Int) != i) = false by simp, show decide ((i : Int) < i) = false from decide_eq_false (by omega), show decide ((i : Int) > n) = false from decide_eq_false (by omega)]; rfl
      have e2 : ((gWd g (i : Int).toNat).h == 0) = false := by
        rw [Int.toNat_natCast]
        have := empty_h h2
        simpa using this
      rw [e1, e2]
      simp only [beq_self_eq_true, bne_self_eq_false, decide_eq_false (show ¬ (i : Int) ≥ n by omega), show inJ (i : Int) n = true from c_in hi]
    · obtain ⟨h1, h3⟩ := h
      have hz := nextZ_gt n g w i
      have hz2 := nextZ_le (g := g) (w := w) hi
      have a1 : (nextL n g w i).a = (i : Int) := rfl
      have a2 : (nextL n g w i).z = (nextZ n g w i : Int) := rfl
      have hL := tA_nxtL n g w (breakL n g w).length (gOf lnQ (breakL n g w)) i k
      rw [hx, h1, a2] at hL
      refine ⟨[], nextZ n g w i, LamOK.nil _ _, h3, (T.pick_path [true, true, false, false, true, false] (treeA (SA n g w (breakL n g w).length (gOf lnQ (breakL n g w)) i k)) ?_).trans (congrArg T.pick hL)⟩
      rw [tA_nxtC, hx, h1, c_lt hk, c_inI hk]
      have e1 : c1A n i (nextL n g w i) = false := by
        unfold c1A
        rw [a1, a2, show ((i : Int) != i) = false by simp, show decide (((nextZ n g w i : Nat) : Int) < i) = false from decide_eq_false (by omega), show decide (((nextZ n g w i : Nat) : Int) > n) = false from decide_eq_false (by omega)]; rfl
      have e2 : ((nextL n g w i).z == (nextL n g w i).a) = false := by
        rw [a1, a2]; simp; omega
      have e3 := okT_true n g (nextL n g w i) (by rw [a2]; omega)
      have e4 := next_more n g w hi
      have e5 : (nextL n g w i).w > w → ((nextL n g w i).z != w64 ((nextL n g w i).a + 1)) = false := fun hw => by
        have := tkF_wide g w (n - (i + 1)) (i + 1) (gWd g i).w hw
        have hz3 : nextZ n g w i = i + 1 := by show (tkF g w (n - (i + 1)) (i + 1) (gWd g i).w).1 = _; rw [this]
        rw [a1, a2, hz3, w64_id (by omega) (by omega)]; simp
      have e6 : okA2 n g w (nextL n g w i) = true := by
        unfold okA2
        rw [e3]
        by_cases hw : (nextL n g w i).w > w
        · rw [decide_eq_true hw, e5 hw]; rfl
        · rw [decide_eq_false hw]; rfl
      have e7 : bdA2 n g w (nextL n g w i) = false := by
        unfold bdA2
        rw [e4]
        by_cases hw : (nextL n g w i).w > w
        · rw [decide_eq_true hw, e5 hw]; rfl
        · rw [decide_eq_false hw]; rfl
      rw [e1, e2, e6, e7]
  · have := restL_nil hI
    subst this
    refine ⟨_, _, by simp [FA], (T.pick_path [false] (treeA (SA i g w (breakL i g w).length (gOf lnQ (breakL i g w)) i (breakL i g w).length)) (by rw [tA_end, c_ge (Nat.le_refl _)])).trans (congrArg T.pick (tA_endL _ _ _ _ _ _ _)), rfl⟩
end Go.Proofs.YthohngmafdagoaaDoor

/- Lines: what is so of right words, and of the lines that they come to; in plain words. -/
namespace Go.Proofs.YthohngmafdagoaaDoor
open Go Go.SX Go.Proofs Go.RowKit
set_option maxRecDepth 100000

set_option linter.unusedVariables false
set_option linter.unusedSectionVars false
set_option linter.unusedSimpArgs false

/-! ### widths -/
theorem widB_all : (List.range 256).all (fun k => decide (0 ≤ widB (k : Nat) ∧ widB (k : Nat) ≤ 1024)) = true := by kernel_rfl
theorem widB_le (b : ByteArray) (i : Nat) : 0 ≤ widB (sByte b i) ∧ widB (sByte b i) ≤ 1024 := by
  have h := (b.get! i).toNat_lt
  exact of_decide_eq_true (List.all_eq_true.1 widB_all (b.get! i).toNat (List.mem_range.2 (by omega)))
theorem wsum_le (b : ByteArray) : ∀ i, i ≤ 1000000 → 0 ≤ wsum b i ∧ wsum b i ≤ 1024 * (i : Int)
  | 0, _ => ⟨Int.le_refl _, Int.le_refl _⟩
  | i + 1, h => by
    have h1 := wsum_le b i (by omega)
    have h2 := widB_le b i
    rw [wsum, w64_id (by omega) (by omega)]
    omega
theorem wsum_suc (b : ByteArray) {i : Nat} (h : i < 1000000) : wsum b (i + 1) = wsum b i + widB (sByte b i) := by
  have h1 := wsum_le b i (by omega)
  have h2 := widB_le b i
  rw [wsum, w64_id (by omega) (by omega)]
theorem wsum_ext {a b : ByteArray} : ∀ i, (∀ j, j < i → sByte a j = sByte b j) → wsum a i = wsum b i
  | 0, _ => rfl
  | i + 1, h => by rw [wsum, wsum, wsum_ext i fun j hj => h j (by omega), h i (by omega)]
theorem sByte_app1 (a b : ByteArray) {i : Nat} (h : i < a.size) : sByte (a ++ b) i = sByte a i := by
  unfold sByte
  have h2 : i < (a ++ b).size := by rw [ByteArray.size_append]; omega
  rw [show (a ++ b).get! i = (a ++ b)[i] from getElem!_pos (a ++ b).data i h2, show a.get! i = a[i] from getElem!_pos a.data i h, ByteArray.getElem_append_left h]
theorem sByte_app2 (a b : ByteArray) {i : Nat} (h : i < b.size) : sByte (a ++ b) (a.size + i) = sByte b i := by
  unfold sByte
  have h2 : a.size + i < (a ++ b).size := by rw [ByteArray.size_append]; omega
  rw [show (a ++ b).get! (a.size + i) = (a ++ b)[a.size + i] from getElem!_pos (a ++ b).data _ h2, show b.get! i = b[i] from getElem!_pos b.data i h, ByteArray.getElem_append_right (by omega)]
  simp
theorem wsum_app (a b : ByteArray) (hs : a.size + b.size ≤ 1000000) : wsum (a ++ b) (a ++ b).size = wsum a a.size + wsum b b.size := by
  have key : ∀ k, k ≤ b.size → wsum (a ++ b) (a.size + k) = wsum a a.size + wsum b k := by
    intro k
    induction k with
    | zero => intro _; rw [Nat.add_zero, wsum_ext a.size fun j hj => sByte_app1 a b hj, wsum, Int.add_zero]
    | succ k ih =>
      intro hk
      rw [show a.size + (k + 1) = (a.size + k) + 1 by omega, wsum_suc _ (by omega), ih (by omega), sByte_app2 a b (by omega), wsum_suc b (by omega)]
      omega
  rw [ByteArray.size_append]
  exact key b.size (Nat.le_refl _)
theorem wsum_blank : wsum blank blank.size = 256 := by kernel_rfl

/-! ### right words -/
structure Gd (x : Wd) : Prop where
  t : x.t.size ≤ 400
  w : x.w = wsum x.t x.t.size
  s : x.s = 0 ∨ x.s = 256
  h : 0 ≤ x.h ∧ x.h ≤ 400
theorem Gd.w0 {x : Wd} (h : Gd x) : 0 ≤ x.w ∧ x.w ≤ 1024 * (x.t.size : Int) := by rw [h.w]; exact wsum_le _ _ (by have := h.t; omega)
theorem Gd.s0 {x : Wd} (h : Gd x) : 0 ≤ x.s ∧ x.s ≤ 256 := by rcases h.s with h | h <;> omega
theorem gd_of {x : Wd} (h : badW x = false) : Gd x := by
  have ht := good_t h
  rw [← badR_eq] at h
  have hh := good_h h
  refine ⟨ht, ?_, ?_, hh.2, hh.1⟩
  · unfold badR at h
    cases h1 : x.t.toList == (ByteArray.mk #[]).toList <;> rw [h1] at h <;> simp only [cond_true, cond_false] at h
    · cases h2 : decide ((x.t.size : Int) > 400) <;> rw [h2] at h <;> simp only [cond_true, cond_false] at h
      · cases h3 : x.w != wsum x.t x.t.size <;> rw [h3] at h <;> simp only [cond_true, cond_false] at h
        · simpa using h3
        · cases h
      · cases h
    · cases h
  · unfold badR at h
    cases h1 : x.t.toList == (ByteArray.mk #[]).toList <;> rw [h1] at h <;> simp only [cond_true, cond_false] at h
    · cases h2 : decide ((x.t.size : Int) > 400) <;> rw [h2] at h <;> simp only [cond_true, cond_false] at h
      · cases h3 : x.w != wsum x.t x.t.size <;> rw [h3] at h <;> simp only [cond_true, cond_false] at h
        · cases h4 : x.s != 0 <;> rw [h4] at h <;> simp only [cond_true, cond_false] at h
          · exact .inl (by simpa using h4)
          · cases h5 : x.s != 256 <;> rw [h5] at h <;> simp only [cond_true, cond_false] at h
            · exact .inr (by simpa using h5)
            · cases h
        · cases h
      · cases h
    · cases h
def GdW (n : Nat) (g : Nat → Nat → Q) : Prop := n ≤ 500 ∧ ∀ i, i < n → Gd (gWd g i)
theorem gdW_of {n : Nat} {g : Nat → Nat → Q} (h : rightW n g = true) : GdW n g := by
  unfold rightW at h
  cases ha : (allN n fun i => !badW (gWd g i)) with
  | false => rw [ha] at h; cases h
  | true =>
    rw [ha] at h
    refine ⟨by have := of_decide_eq_true (show decide ((n : Int) ≤ 500) = true from h); omega, fun i hi => ?_⟩
    have := allN_at ha hi
    exact gd_of (by simpa using this)
theorem addW_gd {v : Int} {x : Wd} (h0 : 0 ≤ v) (h1 : v ≤ 1000000000000) (h : Gd x) : addW v x = v + x.s + x.w := by
  have a := h.w0
  have b := h.s0
  have c := h.t
  show w64 (w64 (v + x.s) + x.w) = _
  rw [w64_id (n := v + x.s) (by omega) (by omega), w64_id (by omega) (by omega)]
theorem takeB_iff {w v : Int} {x : Wd} : takeB w v x = true ↔ x.h = 0 ∧ addW v x ≤ w := by
  show (bif x.h == 0 then decide (addW v x ≤ w) else false) = true ↔ _
  cases hh : x.h == 0 with
  | true => simp only [cond_true, decide_eq_true_eq]; exact ⟨fun h => ⟨by simpa using hh, h⟩, fun h => h.2⟩
  | false =>
    simp only [cond_false, Bool.false_eq_true, false_iff]
    have hn : ¬ x.h = 0 := by simpa using hh
    exact fun h => hn h.1

/-! ### lines -/
theorem tkF_suc (g : Nat → Nat → Q) (w : Int) (f k : Nat) (v : Int) : tkF g w (f + 1) k v = bif takeB w v (gWd g k) then tkF g w f (k + 1) (addW v (gWd g k)) else (k, v) := rfl
theorem tkF_mono {n : Nat} {g : Nat → Nat → Q} (hg : GdW n g) {w m : Int} (hw : w ≤ m) (hw2 : w ≤ 1000000000) : ∀ f k v v', k + f ≤ n → 0 ≤ v' → v' ≤ v → v ≤ 1000000000000 → (tkF g w f k v).1 ≤ (tkF g m f k v').1
  | 0, k, v, v', _, _, _, _ => Nat.le_refl _
  | f + 1, k, v, v', hk, h0, h1, h2 => by
    rw [tkF_suc, tkF_suc]
    have gd := hg.2 k (by omega)
    cases ht : takeB w v (gWd g k) with
    | true =>
      obtain ⟨a1, a2⟩ := takeB_iff.1 ht
      have b1 := addW_gd (by omega) h2 gd
      have b2 := addW_gd h0 (by omega) gd
      have s0 := gd.s0
      have w0 := gd.w0
      have ht' : takeB m v' (gWd g k) = true := takeB_iff.2 ⟨a1, by omega⟩
      rw [ht']
      exact tkF_mono hg hw hw2 f (k + 1) _ _ (by omega) (by omega) (by omega) (by omega)
    | false =>
      have := tkF_ge g m (f + 1) k v'
      rw [tkF_suc] at this
      exact this
/-- A line that takes the word j has come by it. -/
theorem tkF_pass {n : Nat} {g : Nat → Nat → Q} (hg : GdW n g) {w : Int} (hw2 : w ≤ 1000000000) (j : Nat) : ∀ f k v, k + f ≤ n → 0 ≤ v → v ≤ 1000000000000 → k ≤ j → j < (tkF g w f k v).1 →
    ∃ V, tkF g w f k v = tkF g w (k + f - (j + 1)) (j + 1) V ∧ (gWd g j).w ≤ V ∧ V ≤ w ∧ (gWd g j).h = 0
  | 0, k, v, _, _, _, hj, h => by have : j < k := h; omega
  | f + 1, k, v, hk, h0, h2, hj, h => by
    rw [tkF_suc] at h ⊢
    have gd := hg.2 k (by omega)
    cases ht : takeB w v (gWd g k) with
    | true =>
      rw [ht] at h
      replace h : j < (tkF g w f (k + 1) (addW v (gWd g k))).1 := h
      obtain ⟨a1, a2⟩ := takeB_iff.1 ht
      have b1 := addW_gd h0 h2 gd
      have s0 := gd.s0
      have w0 := gd.w0
      rcases Nat.lt_or_ge k j with hlt | hge
      · obtain ⟨V, e1, e2⟩ := tkF_pass hg hw2 j f (k + 1) (addW v (gWd g k)) (by omega) (by omega) (by omega) (by omega) h
        refine ⟨V, ?_, e2⟩
        show tkF g w f (k + 1) (addW v (gWd g k)) = _
        rw [e1, show k + 1 + f - (j + 1) = k + (f + 1) - (j + 1) by omega]
      · have : j = k := by omega
        subst this
        exact ⟨_, by rw [show j + (f + 1) - (j + 1) = f by omega]; rfl, by omega, a2, a1⟩
    | false => rw [ht] at h; have : j < k := h; omega
theorem tkF_vge {n : Nat} {g : Nat → Nat → Q} (hg : GdW n g) {w : Int} (hw2 : w ≤ 1000000000) : ∀ f k v, k + f ≤ n → 0 ≤ v → v ≤ 1000000000000 → v ≤ (tkF g w f k v).2
  | 0, k, v, _, _, _ => Int.le_refl _
  | f + 1, k, v, hk, h0, h2 => by
    rw [tkF_suc]
    have gd := hg.2 k (by omega)
    cases ht : takeB w v (gWd g k) with
    | true =>
      obtain ⟨a1, a2⟩ := takeB_iff.1 ht
      have b1 := addW_gd h0 h2 gd
      have s0 := gd.s0
      have w0 := gd.w0
      have := tkF_vge hg hw2 f (k + 1) (addW v (gWd g k)) (by omega) (by omega) (by omega)
      show v ≤ (tkF g w f (k + 1) (addW v (gWd g k))).2
      omega
    | false => exact Int.le_refl _
theorem GdW.w1 {n : Nat} {g : Nat → Nat → Q} (hg : GdW n g) {i : Nat} (hi : i < n) : 0 ≤ (gWd g i).w ∧ (gWd g i).w ≤ 409600 := by
  have a := (hg.2 i hi).w0
  have b := (hg.2 i hi).t
  omega
/-- The line that begins with s, at its word i. -/
theorem next_pass {n : Nat} {g : Nat → Nat → Q} (hg : GdW n g) {w : Int} (hw2 : w ≤ 1000000000) {s i : Nat} (hs : s ≤ i) (hi : i < nextZ n g w s) (hn : s < n) :
    ∃ V, tkF g w (n - (s + 1)) (s + 1) (gWd g s).w = tkF g w (n - (i + 1)) (i + 1) V ∧ (gWd g i).w ≤ V ∧ V ≤ 1000000000 ∧ (s < i → (gWd g i).h = 0) := by
  have a := hg.w1 hn
  rcases Nat.lt_or_ge s i with hlt | hge
  · obtain ⟨V, e1, e2, e3, e4⟩ := tkF_pass hg hw2 i (n - (s + 1)) (s + 1) (gWd g s).w (by omega) a.1 (by omega) hlt hi
    exact ⟨V, by rw [e1, show s + 1 + (n - (s + 1)) - (i + 1) = n - (i + 1) by omega], e2, by omega, fun _ => e4⟩
  · have : i = s := by omega
    subst this
    exact ⟨_, rfl, Int.le_refl _, by omega, fun h => by omega⟩
theorem nextZ_mono {n : Nat} {g : Nat → Nat → Q} (hg : GdW n g) {w m : Int} (hw : w ≤ m) (hw2 : w ≤ 1000000000) {i j : Nat} (hij : i ≤ j) (hj : j < nextZ n g w i) (hi : i < n) (hjn : j < n) : nextZ n g w i ≤ nextZ n g m j := by
  obtain ⟨V, e1, e2, e3, _⟩ := next_pass hg hw2 hij hj hi
  have a := hg.w1 hjn
  show (tkF g w (n - (i + 1)) (i + 1) (gWd g i).w).1 ≤ (tkF g m (n - (j + 1)) (j + 1) (gWd g j).w).1
  rw [e1]
  exact tkF_mono hg hw hw2 _ _ _ _ (by omega) a.1 e2 (by omega)
theorem empty_le {n : Nat} {g : Nat → Nat → Q} {i j : Nat} (hij : i ≤ j) (h : i < j → (gWd g j).h = 0) : emptyN g j ≤ emptyN g i := by
  rcases Nat.lt_or_ge i j with hlt | hge
  · have hk : kBo j = 1 := by
      have : decide ((j : Int) > 0) = true := decide_eq_true (by omega)
      unfold kBo; rw [this]; rfl
    show ((gWd g j).h - kBo j).toNat ≤ _
    rw [hk, h hlt]; exact Nat.zero_le _
  · have : i = j := by omega
    subst this; exact Nat.le_refl _
theorem lines_len (n : Nat) (g : Nat → Nat → Q) (w : Int) {f i : Nat} (hi : i < n) : (linesF n g w (f + 1) i).length = emptyN g i + 1 + (linesF n g w f (nextZ n g w i)).length := by
  rw [linesF, if_pos hi, List.length_append, List.length_cons, List.length_replicate]; omega
/-- With more width there are no more lines. -/
theorem lines_mono {n : Nat} {g : Nat → Nat → Q} (hg : GdW n g) {w m : Int} (hw : w ≤ m) (hw2 : w ≤ 1000000000) : ∀ f i f' j, i ≤ j → j ≤ n → n ≤ f + i → n ≤ f' + j → (linesF n g m f' j).length ≤ (linesF n g w f i).length
  | 0, i, f', j, hij, hj, hf, hf' => by rw [linesF_end n g m (by omega)]; exact Nat.zero_le _
  | f + 1, i, f', j, hij, hj, hf, hf' => by
    rcases Nat.lt_or_ge j n with hjn | hge
    · have hi : i < n := by omega
      rw [lines_len n g w hi]
      have z1 := nextZ_gt n g w i
      have z2 := nextZ_le (g := g) (w := w) hi
      rcases Nat.lt_or_ge j (nextZ n g w i) with h1 | h1
      · obtain ⟨f', rfl⟩ : ∃ k, f' = k + 1 := ⟨f' - 1, by omega⟩
        rw [lines_len n g m hjn]
        have y1 := nextZ_gt n g m j
        have y2 := nextZ_le (g := g) (w := m) hjn
        have hm := nextZ_mono hg hw hw2 hij h1 hi hjn
        obtain ⟨V, _, _, _, e4⟩ := next_pass hg hw2 hij h1 hi
        have he : emptyN g j ≤ emptyN g i := empty_le (n := n) hij e4
        have := lines_mono hg hw hw2 f (nextZ n g w i) f' (nextZ n g m j) hm y2 (by omega) (by omega)
        omega
      · have := lines_mono hg hw hw2 f (nextZ n g w i) f' j h1 hj (by omega) hf'
        omega
    · rw [linesF_end n g m hge]; exact Nat.zero_le _
theorem mem_lines {n : Nat} {g : Nat → Nat → Q} {w : Int} {x : Ln} : ∀ f i, x ∈ linesF n g w f i → ∃ k, k < n ∧ (x = ⟨k, k, 0⟩ ∨ x = nextL n g w k)
  | 0, i, h => by cases h
  | f + 1, i, h => by
    rw [linesF] at h
    split at h
    · rename_i hi
      rcases List.mem_append.1 h with h | h
      · exact ⟨i, hi, .inl (List.eq_of_mem_replicate h)⟩
      · rcases List.mem_cons.1 h with h | h
        · exact ⟨i, hi, .inr h⟩
        · exact mem_lines f _ h
    · cases h
/-- Each word lies in a line. -/
theorem word_in {n : Nat} {g : Nat → Nat → Q} {w : Int} {i : Nat} (hi : i < n) : ∀ f a, a ≤ i → n ≤ f + a → ∃ s, s ≤ i ∧ i < nextZ n g w s ∧ nextL n g w s ∈ linesF n g w f a
  | 0, a, h1, h2 => by omega
  | f + 1, a, h1, h2 => by
    have z1 := nextZ_gt n g w a
    rw [linesF, if_pos (show a < n by omega)]
    rcases Nat.lt_or_ge i (nextZ n g w a) with h | h
    · exact ⟨a, h1, h, List.mem_append_right _ List.mem_cons_self⟩
    · obtain ⟨s, e1, e2, e3⟩ := word_in hi f (nextZ n g w a) h (by omega)
      exact ⟨s, e1, e2, List.mem_append_right _ (List.mem_cons_of_mem _ e3)⟩
/-- All lines fit just if all words do. -/
theorem fits_iff {n : Nat} {g : Nat → Nat → Q} (hg : GdW n g) {w : Int} (hw0 : 0 ≤ w) (hw2 : w ≤ 1000000000) : (∀ i, i < n → (gWd g i).w ≤ w) ↔ ∀ x ∈ breakL n g w, x.w ≤ w := by
  constructor
  · intro h x hx
    obtain ⟨k, hk, rfl | rfl⟩ := mem_lines _ _ hx
    · exact hw0
    · refine Int.not_lt.1 fun hlt => ?_
      have := tkF_wide g w (n - (k + 1)) (k + 1) (gWd g k).w hlt
      have e : (nextL n g w k).w = (gWd g k).w := by show (tkF g w (n - (k + 1)) (k + 1) (gWd g k).w).2 = _; rw [this]
      have := h k hk
      omega
  · intro h i hi
    obtain ⟨s, e1, e2, e3⟩ := word_in (g := g) (w := w) hi n 0 (Nat.zero_le _) (by omega)
    have hs : s < n := by omega
    obtain ⟨V, f1, f2, f3, _⟩ := next_pass hg hw2 e1 e2 hs
    have a := hg.w1 hi
    have := tkF_vge hg hw2 (n - (i + 1)) (i + 1) V (by omega) (by omega) (by omega)
    rw [← f1] at this
    have h2 : (tkF g w (n - (s + 1)) (s + 1) (gWd g s).w).2 ≤ w := h _ e3
    omega
theorem overL_nil (g : Nat → Nat → Q) (w : Int) : ∀ n, (overL g w n).length = 0 ↔ ∀ i, i < n → (gLn g i).w ≤ w
  | 0 => by simp [overL]
  | n + 1 => by
    rw [overL]
    by_cases h : (gLn g n).w > w
    · rw [decide_eq_true h]
      simp only [cond_true, List.length_append, List.length_singleton]
      refine ⟨fun h' => by omega, fun h' => absurd (h' n (by omega)) (Int.not_le.2 h)⟩
    · rw [decide_eq_false h]
      simp only [cond_false]
      rw [overL_nil g w n]
      refine ⟨fun h' i hi => ?_, fun h' i hi => h' i (by omega)⟩
      rcases Nat.lt_or_ge i n with h1 | h1
      · exact h' i h1
      · rw [show i = n by omega]; exact Int.not_lt.1 h
theorem over_mem (L : List Ln) (w : Int) : (overL (gOf lnQ L) w L.length).length = 0 ↔ ∀ x ∈ L, x.w ≤ w := by
  rw [overL_nil]
  constructor
  · intro h x hx
    obtain ⟨i, hi, rfl⟩ := List.mem_iff_getElem.1 hx
    have := h i hi
    rwa [gLn_of hi] at this
  · intro h i hi
    rw [gLn_of hi]
    exact h _ (List.getElem_mem hi)
theorem maxW_le (g : Nat → Nat → Q) (a w : Int) : ∀ n, maxW g a n ≤ w ↔ a ≤ w ∧ ∀ i, i < n → (gWd g i).w ≤ w
  | 0 => by simp [maxW]
  | n + 1 => by
    rw [maxW, mx2_eq]
    have := maxW_le g a w n
    constructor
    · intro h
      obtain ⟨h1, h2⟩ := this.1 (by omega)
      refine ⟨h1, fun i hi => ?_⟩
      rcases Nat.lt_or_ge i n with h3 | h3
      · exact h2 i h3
      · rw [show i = n by omega]; omega
    · intro h
      have h1 := this.2 ⟨h.1, fun i hi => h.2 i (by omega)⟩
      have h2 := h.2 n (by omega)
      omega
theorem least_iff {n : Nat} {g : Nat → Nat → Q} {w : Int} (hw0 : 0 ≤ w) : leastW n g ≤ w ↔ ∀ i, i < n → (gWd g i).w ≤ w := by
  unfold leastW
  cases n with
  | zero => exact ⟨fun _ i hi => by omega, fun _ => hw0⟩
  | succ n =>
    rw [show ((((n + 1 : Nat) : Int)) == 0) = false by simp; omega]
    show maxW g (gWd g 0).w (n + 1) ≤ w ↔ _
    rw [maxW_le]
    exact ⟨fun h => h.2, fun h => ⟨h 0 (by omega), h⟩⟩
end Go.Proofs.YthohngmafdagoaaDoor

/- Lines: a text's words are right; lines in a width that all fit; how wide lines' texts are; in plain words. -/
namespace Go.Proofs.YthohngmafdagoaaDoor
open Go Go.SX Go.Proofs Go.RowKit
set_option maxRecDepth 100000

set_option linter.unusedVariables false
set_option linter.unusedSectionVars false
set_option linter.unusedSimpArgs false

/-! ### a text's words -/
def tot (l : List Wd) : Nat := (l.map fun x => x.t.size).sum
theorem tot_app (l : List Wd) (x : Wd) : tot (l ++ [x]) = tot l + x.t.size := by simp [tot]
structure WI (l : List Wd) (i : Nat) : Prop where
  ok : ∀ x ∈ l, badR x = false
  tot : tot l ≤ i
  len : l.length ≤ i
theorem badR_at (b : ByteArray) (hb : b.size ≤ 400) {i e : Nat} (hi : i < e) (he : e ≤ b.size) {sp hd : Int} (hs : sp = 0 ∨ sp = 256) (hh : 0 ≤ hd ∧ hd ≤ 400) : badR (wdAt b i e sp hd) = false ∧ (wdAt b i e sp hd).t.size = e - i := by
  have hz : (subT b i e).size = e - i := by
    show (b.extract (i : Int).toNat (e : Int).toNat).size = _
    rw [ByteArray.size_extract, Int.toNat_natCast, Int.toNat_natCast]; omega
  refine ⟨?_, hz⟩
  unfold badR
  have h1 : ((wdAt b i e sp hd).t.toList == (ByteArray.mk #[]).toList) = false := by
    rw [beq_eq_false_iff_ne]
    intro h
    rw [ByteArray.toList_eq, ByteArray.toList_eq] at h
    have := congrArg List.length h
    have e2 : (subT b i e).data.toList.length = e - i := hz
    replace this : (subT b i e).data.toList.length = 0 := this
    omega
  have h2 : decide (((wdAt b i e sp hd).t.size : Int) > 400) = false := decide_eq_false (by show ¬ ((subT b i e).size : Int) > 400; omega)
  have h3 : ((wdAt b i e sp hd).w != wsum (wdAt b i e sp hd).t (wdAt b i e sp hd).t.size) = false := by simp [wdAt]
  have h4 : (bif decide ((wdAt b i e sp hd).h < 0) then true else decide ((wdAt b i e sp hd).h > 400)) = false := by
    rw [cond_or]; exact decide_eq_false (by show ¬ (hd < 0 ∨ hd > 400); omega)
  rw [h1, h2, h3, h4]
  rcases hs with rfl | rfl <;> rfl
theorem wordsF_inv (b : ByteArray) (hb : b.size ≤ 400) : ∀ (k : Nat) (l : List Wd) (sp hd : Int) (i : Nat), i ≤ b.size → b.size ≤ k + i → WI l i → (sp = 0 ∨ sp = 256) → 0 ≤ hd → hd ≤ i → WI (wordsF b k l sp hd i) b.size
  | 0, l, sp, hd, i, h1, h2, h3, h4, h5, h6 => by
    have : i = b.size := by omega
    subst this; exact h3
  | k + 1, l, sp, hd, i, h1, h2, h3, h4, h5, h6 => by
    rw [wordsF]
    split
    · rename_i hlt
      have up : ∀ e, i ≤ e → WI l e := fun e he => ⟨h3.ok, Nat.le_trans h3.tot he, Nat.le_trans h3.len he⟩
      cases g1 : sByte b i == 10 with
      | true =>
        show WI (wordsF b k l 0 (w64 (hd + 1)) (i + 1)) b.size
        rw [w64_id (by omega) (by omega)]
        exact wordsF_inv b hb k l 0 (hd + 1) (i + 1) hlt (by omega) (up _ (by omega)) (.inl rfl) (by omega) (by omega)
      | false =>
        cases g2 : sByte b i == 32 with
        | true => exact wordsF_inv b hb k l 256 hd (i + 1) hlt (by omega) (up _ (by omega)) (.inr rfl) h5 (by omega)
        | false =>
          have p1 := pn_le b h1
          have p2 := pn_pos b hlt g1 g2
          have hsp : (bif (l.length : Int) == 0 then 0 else sp) = 0 ∨ (bif (l.length : Int) == 0 then 0 else sp) = 256 := by
            cases (l.length : Int) == 0
            · exact h4
            · exact .inl rfl
          obtain ⟨q1, q2⟩ := badR_at b hb (i := i) (e := i + pn b i) (hd := hd) (by omega) p1 hsp ⟨h5, by omega⟩
          refine wordsF_inv b hb k (l ++ [wdAt b i (i + pn b i : Nat) (bif (l.length : Int) == 0 then 0 else sp) hd]) 0 0 (i + pn b i) p1 (by omega) ⟨fun x hx => ?_, ?_, ?_⟩ (.inl rfl) (Int.le_refl _) (by omega)
          · rcases List.mem_append.1 hx with hx | hx
            · exact h3.ok x hx
            · rw [List.mem_singleton.1 hx]; exact q1
          · rw [tot_app, q2]; have := h3.tot; omega
          · rw [List.length_append, List.length_singleton]; have := h3.len; omega
    · have : i = b.size := by omega
      subst this; exact h3
theorem words_inv (b : ByteArray) (hb : b.size ≤ 400) : WI (words b) b.size := wordsF_inv b hb b.size [] 0 0 0 (Nat.zero_le _) (by omega) ⟨fun x hx => absurd hx (List.not_mem_nil), Nat.le_refl _, Nat.le_refl _⟩ (.inl rfl) (Int.le_refl _) (Int.le_refl _)
theorem words_right (b : ByteArray) (hb : b.size ≤ 400) : rightW (words b).length (gOf wdQ (words b)) = true := by
  have h := words_inv b hb
  unfold rightW
  rw [allN_true fun i hi => by
    rw [gWd_of hi, ← badR_eq, h.ok _ (List.getElem_mem hi)]; rfl]
  have := h.len
  exact decide_eq_true (by omega)

/-! ### a line's text is as wide as the line -/
/-- How wide m words from k on are, with what is ahead of each. -/
def qS (g : Nat → Nat → Q) (k : Nat) : Nat → Int
  | 0 => 0
  | m + 1 => qS g k m + (gWd g (k + m)).s + (gWd g (k + m)).w
theorem qS_cons (g : Nat → Nat → Q) (k : Nat) : ∀ m, qS g k (m + 1) = (gWd g k).s + (gWd g k).w + qS g (k + 1) m
  | 0 => by simp [qS]
  | m + 1 => by
    rw [qS, qS_cons g k m, qS, show k + 1 + m = k + (m + 1) by omega]; omega
theorem tkF_sum {n : Nat} {g : Nat → Nat → Q} (hg : GdW n g) {w : Int} (hw2 : w ≤ 1000000000) : ∀ f k v, k + f ≤ n → 0 ≤ v → v ≤ 1000000000000 → (tkF g w f k v).2 = v + qS g k ((tkF g w f k v).1 - k)
  | 0, k, v, _, _, _ => by simp [tkF, qS]
  | f + 1, k, v, hk, h0, h2 => by
    rw [tkF_suc]
    have gd := hg.2 k (by omega)
    cases ht : takeB w v (gWd g k) with
    | true =>
      obtain ⟨a1, a2⟩ := takeB_iff.1 ht
      have b1 := addW_gd h0 h2 gd
      have s0 := gd.s0
      have w0 := gd.w0
      have ih := tkF_sum hg hw2 f (k + 1) (addW v (gWd g k)) (by omega) (by omega) (by omega)
      have hge := tkF_ge g w f (k + 1) (addW v (gWd g k))
      show (tkF g w f (k + 1) (addW v (gWd g k))).2 = v + qS g k ((tkF g w f (k + 1) (addW v (gWd g k))).1 - k)
      rw [ih, show (tkF g w f (k + 1) (addW v (gWd g k))).1 - k = ((tkF g w f (k + 1) (addW v (gWd g k))).1 - (k + 1)) + 1 by omega, qS_cons]
      omega
    | false => show v = v + qS g k (k - k); rw [Nat.sub_self]; simp [qS]
theorem putT_wide (b : ByteArray) (hb : b.size ≤ 500000) (f : Bool) {x : Wd} (hx : Gd x) : wsum (putT b f x) (putT b f x).size = wsum b b.size + (bif f then 0 else x.s) + x.w := by
  have ht := hx.t
  unfold putT
  cases f with
  | true => show wsum (b ++ x.t) (b ++ x.t).size = _; rw [wsum_app b x.t (by omega), ← hx.w]; simp
  | false =>
    rcases hx.s with h | h
    · rw [h]
      show wsum (b ++ x.t) (b ++ x.t).size = _
      rw [wsum_app b x.t (by omega), ← hx.w]; simp
    · rw [h]
      show wsum (b ++ blank ++ x.t) (b ++ blank ++ x.t).size = _
      have h1 : (b ++ blank).size = b.size + 1 := size_app b blank
      rw [wsum_app (b ++ blank) x.t (by omega), wsum_app b blank (by show b.size + 1 ≤ _; omega), wsum_blank, ← hx.w]; rfl
theorem txF_wide {n : Nat} {g : Nat → Nat → Q} (hg : GdW n g) (a : Nat) : ∀ m, a + m < n → wsum (txF g a (m + 1)) (txF g a (m + 1)).size = (gWd g a).w + qS g (a + 1) m
  | 0, h => by
    show wsum (putT noT true (gWd g (a + 0))) _ = _
    have := putT_wide noT (Nat.zero_le _) true (hg.2 (a + 0) h)
    refine this.trans ?_
    show (0 : Int) + 0 + (gWd g a).w = _ + 0
    omega
  | m + 1, h => by
    have ih := txF_wide hg a m (by omega)
    have hn := hg.1
    have hsz := txF_size g a (m + 1) fun j hj => (hg.2 (a + j) (by omega)).t
    show wsum (putT (txF g a (m + 1)) (decide (m + 1 = 0)) (gWd g (a + (m + 1)))) (putT (txF g a (m + 1)) (decide (m + 1 = 0)) (gWd g (a + (m + 1)))).size = _
    rw [decide_eq_false (by omega), putT_wide (txF g a (m + 1)) (by omega) false (hg.2 (a + (m + 1)) h), ih]
    show _ = (gWd g a).w + (qS g (a + 1) m + (gWd g (a + 1 + m)).s + (gWd g (a + 1 + m)).w)
    rw [show a + 1 + m = a + (m + 1) by omega]
    show (gWd g a).w + qS g (a + 1) m + (gWd g (a + (m + 1))).s + _ = _
    omega
theorem line_wide {n : Nat} {g : Nat → Nat → Q} (hg : GdW n g) {w : Int} (hw2 : w ≤ 1000000000) {i : Nat} (hi : i < n) : wsum (txF g i (nextZ n g w i - i)) (txF g i (nextZ n g w i - i)).size = (nextL n g w i).w := by
  have z1 := nextZ_gt n g w i
  have z2 := nextZ_le (g := g) (w := w) hi
  have a := hg.w1 hi
  have h := tkF_sum hg hw2 (n - (i + 1)) (i + 1) (gWd g i).w (by omega) a.1 (by omega)
  rw [show nextZ n g w i - i = (nextZ n g w i - (i + 1)) + 1 by omega, txF_wide hg i _ (by omega)]
  exact h.symm

/-! ### a width that all fit -/
/-- Where the next line end is; how wide all is up to there. -/
def hzF (g : Nat → Nat → Q) : Nat → Nat → Nat
  | 0, k => k
  | f + 1, k => if (gWd g k).h = 0 then hzF g f (k + 1) else k
def sF (g : Nat → Nat → Q) : Nat → Nat → Int
  | 0, _ => 0
  | f + 1, k => if (gWd g k).h = 0 then (gWd g k).s + (gWd g k).w + sF g f (k + 1) else 0
def szS (g : Nat → Nat → Q) : Nat → Nat → Nat
  | 0, _ => 0
  | f + 1, k => (gWd g k).t.size + szS g f (k + 1)
def hS (g : Nat → Nat → Q) : Nat → Nat → Int
  | 0, _ => 0
  | f + 1, k => (gWd g k).h + hS g f (k + 1)
theorem sF_le {n : Nat} {g : Nat → Nat → Q} (hg : GdW n g) : ∀ f k, k + f ≤ n → 0 ≤ sF g f k ∧ sF g f k ≤ 256 * (f : Int) + 1024 * (szS g f k : Int)
  | 0, k, _ => ⟨Int.le_refl _, Int.le_refl _⟩
  | f + 1, k, h => by
    have gd := hg.2 k (by omega)
    have s0 := gd.s0
    have w0 := gd.w0
    have ih := sF_le hg f (k + 1) (by omega)
    rw [sF, szS]
    split
    · omega
    · omega
theorem szS_le {n : Nat} {g : Nat → Nat → Q} (hg : GdW n g) : ∀ f k, k + f ≤ n → szS g f k ≤ 400 * f
  | 0, k, _ => Nat.le_refl _
  | f + 1, k, h => by
    have := (hg.2 k (by omega)).t
    have := szS_le hg f (k + 1) (by omega)
    rw [szS]; omega
theorem hzF_le (g : Nat → Nat → Q) : ∀ f k, k ≤ hzF g f k ∧ hzF g f k ≤ k + f
  | 0, k => ⟨Nat.le_refl _, Nat.le_refl _⟩
  | f + 1, k => by
    have := hzF_le g f (k + 1)
    rw [hzF]
    split <;> omega
theorem hzF_stop (g : Nat → Nat → Q) : ∀ f k, hzF g f k = k + f ∨ ¬ (gWd g (hzF g f k)).h = 0
  | 0, k => .inl rfl
  | f + 1, k => by
    rw [hzF]
    split
    · have := hzF_stop g f (k + 1)
      rwa [show k + 1 + f = k + (f + 1) by omega] at this
    · rename_i h; exact .inr h
theorem hS_hz (g : Nat → Nat → Q) : ∀ f k, hS g f k = hS g (k + f - hzF g f k) (hzF g f k)
  | 0, k => by simp [hS, hzF]
  | f + 1, k => by
    rw [hzF]
    split
    · rename_i h
      rw [hS, h, hS_hz g f (k + 1), show k + 1 + f = k + (f + 1) by omega]; omega
    · rw [show k + (f + 1) - k = f + 1 by omega]
theorem hS_snoc (g : Nat → Nat → Q) : ∀ f k, hS g (f + 1) k = hS g f k + (gWd g (k + f)).h
  | 0, k => by simp [hS]
  | f + 1, k => by
    rw [hS, hS_snoc g f (k + 1), hS, show k + 1 + f = k + (f + 1) by omega]; omega
theorem sF_pass {n : Nat} {g : Nat → Nat → Q} (hg : GdW n g) (i : Nat) : ∀ f k, k + f ≤ n → k ≤ i → i < hzF g f k → (gWd g i).w + sF g (k + f - (i + 1)) (i + 1) ≤ sF g f k
  | 0, k, _, h1, h2 => by have : i < k := h2; omega
  | f + 1, k, hk, h1, h2 => by
    rw [hzF] at h2
    rw [sF]
    have gd := hg.2 k (by omega)
    have s0 := gd.s0
    have w0 := gd.w0
    split at h2
    · rename_i hh
      rw [if_pos hh]
      rcases Nat.lt_or_ge k i with hlt | hge
      · have := sF_pass hg i f (k + 1) (by omega) (by omega) h2
        rw [show k + 1 + f - (i + 1) = k + (f + 1) - (i + 1) by omega] at this
        omega
      · have : i = k := by omega
        subst this
        rw [show i + (f + 1) - (i + 1) = f by omega]; omega
    · omega
theorem tkF_fit {n : Nat} {g : Nat → Nat → Q} (hg : GdW n g) {w : Int} (hw2 : w ≤ 1000000000) : ∀ f k v, k + f ≤ n → 0 ≤ v → v + sF g f k ≤ w → tkF g w f k v = (hzF g f k, v + sF g f k)
  | 0, k, v, _, _, _ => by simp [tkF, hzF, sF]
  | f + 1, k, v, hk, h0, h => by
    have gd := hg.2 k (by omega)
    have s0 := gd.s0
    have w0 := gd.w0
    rw [tkF_suc, hzF, sF]
    rw [sF] at h
    have hs := sF_le hg f (k + 1) (by omega)
    by_cases hh : (gWd g k).h = 0
    · rw [if_pos hh] at h
      rw [if_pos hh, if_pos hh]
      have b1 := addW_gd h0 (by omega) gd
      rw [takeB_iff.2 ⟨hh, by omega⟩]
      show tkF g w f (k + 1) (addW v (gWd g k)) = _
      rw [tkF_fit hg hw2 f (k + 1) (addW v (gWd g k)) (by omega) (by omega) (by omega), b1]
      congr 1; omega
    · rw [if_neg hh] at h
      rw [if_neg hh, if_neg hh]
      cases ht : takeB w v (gWd g k) with
      | true => exact absurd (takeB_iff.1 ht).1 hh
      | false => show (k, v) = _; rw [Int.add_zero]
theorem moI_eq {n : Nat} {g : Nat → Nat → Q} (hg : GdW n g) : ∀ f k b v, k + f ≤ n → 0 ≤ v → v ≤ b → v ≤ 1000000000 + 500000 * (k : Int) → moI g f b v k = max b (v + sF g f k)
  | 0, k, b, v, _, _, h, _ => by simp [moI, sF]; omega
  | f + 1, k, b, v, hk, h0, hb, hv => by
    have gd := hg.2 k (by omega)
    have s0 := gd.s0
    have w0 := gd.w0
    have t0 := gd.t
    have hn := hg.1
    have hs := sF_le hg f (k + 1) (by omega)
    rw [moI, sF]
    by_cases hh : (gWd g k).h = 0
    · rw [if_pos hh, hh]
      have b1 := addW_gd h0 (by omega) gd
      show moI g f (mx2 b (addW v (gWd g k))) (addW v (gWd g k)) (k + 1) = _
      rw [mx2_eq, moI_eq hg f (k + 1) _ _ (by omega) (by omega) (by omega) (by omega), b1]
      omega
    · have h1 : ¬ (gWd g k).h ≤ 0 := by have := gd.h; omega
      rw [if_neg hh, decide_eq_false h1]
      show b = _
      omega
/-- How wide all is from a word to the next line end. -/
def rho (n : Nat) (g : Nat → Nat → Q) (i : Nat) : Int := (gWd g i).w + sF g (n - (i + 1)) (i + 1)
theorem moO_suc {n : Nat} {g : Nat → Nat → Q} (hg : GdW n g) {i : Nat} (hi : i < n) : moO n g (i + 1) = max (moO n g i) (rho n g i) := by
  have a := hg.w1 hi
  have hs := sF_le hg (n - (i + 1)) (i + 1) (by omega)
  rw [moO, mx2_eq, moI_eq hg _ _ _ _ (by omega) a.1 (by omega) (by omega)]
  unfold rho
  omega
theorem moO_le {n : Nat} {g : Nat → Nat → Q} (hg : GdW n g) (X : Int) : ∀ k, k ≤ n → (moO n g k ≤ X ↔ (gWd g 0).w ≤ X ∧ ∀ i, i < k → rho n g i ≤ X)
  | 0, _ => by simp [moO]
  | k + 1, hk => by
    rw [moO_suc hg hk]
    have ih := moO_le hg X k (by omega)
    constructor
    · intro h
      obtain ⟨h1, h2⟩ := ih.1 (by omega)
      refine ⟨h1, fun i hi => ?_⟩
      rcases Nat.lt_or_ge i k with h3 | h3
      · exact h2 i h3
      · rw [show i = k by omega]; omega
    · intro h
      have h1 := ih.2 ⟨h.1, fun i hi => h.2 i (by omega)⟩
      have h2 := h.2 k (by omega)
      omega
theorem szS_tot (l : List Wd) : ∀ f k, k + f = l.length → szS (gOf wdQ l) f k = tot (l.drop k)
  | 0, k, h => by rw [List.drop_of_length_le (by omega)]; rfl
  | f + 1, k, h => by
    have hk : k < l.length := by omega
    rw [szS, szS_tot l f (k + 1) (by omega), List.drop_eq_getElem_cons hk, gWd_of hk]
    rfl
theorem szS_drop (g : Nat → Nat → Q) : ∀ f k, szS g f (k + 1) ≤ szS g (f + 1) k := fun f k => by rw [szS]; omega
theorem szS_mono (g : Nat → Nat → Q) (n : Nat) : ∀ k, k ≤ n → szS g (n - k) k ≤ szS g n 0
  | 0, _ => Nat.le_refl _
  | k + 1, h => by
    have h1 := szS_mono g n k (by omega)
    have h2 := szS_drop g (n - (k + 1)) k
    rw [show n - (k + 1) + 1 = n - k by omega] at h2
    omega
theorem widest_le (L : List Ln) (X : Int) : widestL (gOf lnQ L) L.length ≤ X ↔ 0 ≤ X ∧ ∀ x ∈ L, x.w ≤ X := by
  have key : ∀ n, widestL (gOf lnQ L) n ≤ X ↔ 0 ≤ X ∧ ∀ i, i < n → (gLn (gOf lnQ L) i).w ≤ X := by
    intro n
    induction n with
    | zero => simp [widestL]
    | succ n ih =>
      rw [widestL, mx2_eq]
      constructor
      · intro h
        obtain ⟨h1, h2⟩ := ih.1 (by omega)
        refine ⟨h1, fun i hi => ?_⟩
        rcases Nat.lt_or_ge i n with h3 | h3
        · exact h2 i h3
        · rw [show i = n by omega]; omega
      · intro h
        have h1 := ih.2 ⟨h.1, fun i hi => h.2 i (by omega)⟩
        have h2 := h.2 n (by omega)
        omega
  rw [key]
  refine and_congr_right fun _ => ⟨fun h x hx => ?_, fun h i hi => ?_⟩
  · obtain ⟨i, hi, rfl⟩ := List.mem_iff_getElem.1 hx
    have := h i hi
    rwa [gLn_of hi] at this
  · rw [gLn_of hi]; exact h _ (List.getElem_mem hi)
section
variable {n : Nat} {g : Nat → Nat → Q}
theorem next_fit (hg : GdW n g) (h2 : moO n g n ≤ 1000000000) {i : Nat} (hi : i < n) : tkF g (moO n g n) (n - (i + 1)) (i + 1) (gWd g i).w = (hzF g (n - (i + 1)) (i + 1), rho n g i) := by
  have a := hg.w1 hi
  have := ((moO_le hg (moO n g n) n (Nat.le_refl _)).1 (Int.le_refl _)).2 i hi
  exact tkF_fit hg h2 _ _ _ (by omega) a.1 this
theorem len_fit (hg : GdW n g) (h2 : moO n g n ≤ 1000000000) : ∀ f i, i ≤ n → n ≤ f + i → (i = n ∨ (0 < i ∧ ¬ (gWd g i).h = 0)) → ((linesF n g (moO n g n) f i).length : Int) = hS g (n - i) i
  | 0, i, h1, hf, _ => by
    rw [linesF_end n g _ (by omega), show n - i = 0 by omega]; rfl
  | f + 1, i, h1, hf, hc => by
    rcases Nat.lt_or_ge i n with hi | hge
    · have hz : nextZ n g (moO n g n) i = hzF g (n - (i + 1)) (i + 1) := by show (tkF g _ _ _ _).1 = _; rw [next_fit hg h2 hi]
      have hz2 := hzF_le g (n - (i + 1)) (i + 1)
      have hst := hzF_stop g (n - (i + 1)) (i + 1)
      have hh := (hg.2 i hi).h
      obtain ⟨c1, c2⟩ : 0 < i ∧ ¬ (gWd g i).h = 0 := hc.resolve_left (by omega)
      have hk : kBo i = 1 := by
        have : decide ((i : Int) > 0) = true := decide_eq_true (by omega)
        unfold kBo; rw [this]; rfl
      have he : (emptyN g i : Int) = (gWd g i).h - 1 := by
        show ((((gWd g i).h - kBo i).toNat : Nat) : Int) = _
        rw [hk]; omega
      rw [lines_len n g _ hi, hz]
      have ih := len_fit hg h2 f (hzF g (n - (i + 1)) (i + 1)) (by omega) (by omega) (by
        rcases hst with h | h
        · exact .inl (by omega)
        · exact .inr ⟨by omega, h⟩)
      have hs := hS_hz g (n - (i + 1)) (i + 1)
      rw [show i + 1 + (n - (i + 1)) - hzF g (n - (i + 1)) (i + 1) = n - hzF g (n - (i + 1)) (i + 1) by omega] at hs
      rw [show n - i = (n - (i + 1)) + 1 by omega, hS, hs, ← ih]
      omega
    · rw [linesF_end n g _ hge, show n - i = 0 by omega]; rfl
theorem len_all (hg : GdW n g) (h2 : moO n g n ≤ 1000000000) (h0 : 0 < n) : ((breakL n g (moO n g n)).length : Int) = hS g n 0 + 1 := by
  obtain ⟨f, rfl⟩ : ∃ f, n = f + 1 := ⟨n - 1, by omega⟩
  have hz : nextZ (f + 1) g (moO (f + 1) g (f + 1)) 0 = hzF g (f + 1 - (0 + 1)) (0 + 1) := by show (tkF g _ _ _ _).1 = _; rw [next_fit hg h2 h0]
  have hz2 := hzF_le g (f + 1 - (0 + 1)) (0 + 1)
  have hst := hzF_stop g (f + 1 - (0 + 1)) (0 + 1)
  have hh := (hg.2 0 h0).h
  have he : (emptyN g 0 : Int) = (gWd g 0).h := by
    show ((((gWd g 0).h - kBo 0).toNat : Nat) : Int) = _
    show ((((gWd g 0).h - 0).toNat : Nat) : Int) = _
    omega
  show ((linesF (f + 1) g (moO (f + 1) g (f + 1)) (f + 1) 0).length : Int) = _
  rw [lines_len (f + 1) g _ h0, hz]
  have ih := len_fit hg h2 f (hzF g (f + 1 - (0 + 1)) (0 + 1)) (by omega) (by omega) (by
    rcases hst with h | h
    · exact .inl (by omega)
    · exact .inr ⟨by omega, h⟩)
  have hs := hS_hz g (f + 1 - (0 + 1)) (0 + 1)
  rw [show 0 + 1 + (f + 1 - (0 + 1)) - hzF g (f + 1 - (0 + 1)) (0 + 1) = f + 1 - hzF g (f + 1 - (0 + 1)) (0 + 1) by omega] at hs
  rw [hS, show hS g f (0 + 1) = hS g (f + 1 - (0 + 1)) (0 + 1) by rw [show f + 1 - (0 + 1) = f by omega], hs, ← ih]
  omega
theorem rho_start (hg : GdW n g) (h2 : moO n g n ≤ 1000000000) {s i : Nat} (hs : s ≤ i) (hi : i < nextZ n g (moO n g n) s) (hin : i < n) : rho n g i ≤ rho n g s := by
  have hsn : s < n := by omega
  have hz : nextZ n g (moO n g n) s = hzF g (n - (s + 1)) (s + 1) := by show (tkF g _ _ _ _).1 = _; rw [next_fit hg h2 hsn]
  rw [hz] at hi
  rcases Nat.lt_or_ge s i with hlt | hge
  · have a := hg.w1 hsn
    have := sF_pass hg i (n - (s + 1)) (s + 1) (by omega) hlt hi
    rw [show s + 1 + (n - (s + 1)) - (i + 1) = n - (i + 1) by omega] at this
    unfold rho
    omega
  · rw [show s = i by omega]; exact Int.le_refl _
theorem widest_all (hg : GdW n g) (h2 : moO n g n ≤ 1000000000) (h0 : 0 < n) : widestL (gOf lnQ (breakL n g (moO n g n))) (breakL n g (moO n g n)).length = moO n g n := by
  have hw : ∀ {i}, i < n → (nextL n g (moO n g n) i).w = rho n g i := fun {i} hi => by show (tkF g _ _ _ _).2 = _; rw [next_fit hg h2 hi]
  have hmo := (moO_le hg (moO n g n) n (Nat.le_refl _)).1 (Int.le_refl _)
  have a0 := hg.w1 h0
  have hX := (widest_le (breakL n g (moO n g n)) (widestL (gOf lnQ (breakL n g (moO n g n))) (breakL n g (moO n g n)).length)).1 (Int.le_refl _)
  have hrho : ∀ i, i < n → rho n g i ≤ widestL (gOf lnQ (breakL n g (moO n g n))) (breakL n g (moO n g n)).length := fun i hi => by
    obtain ⟨s, e1, e2, e3⟩ := word_in (g := g) (w := moO n g n) hi n 0 (Nat.zero_le _) (by omega)
    have h3 := rho_start hg h2 e1 e2 hi
    have h4 := hX.2 _ e3
    rw [hw (show s < n by omega)] at h4
    omega
  refine Int.le_antisymm ?_ ?_
  · refine (widest_le _ _).2 ⟨by omega, fun x hx => ?_⟩
    obtain ⟨k, hk, rfl | rfl⟩ := mem_lines _ _ hx
    · show (0 : Int) ≤ _; omega
    · rw [hw hk]; exact hmo.2 k hk
  · refine (moO_le hg _ n (Nat.le_refl _)).2 ⟨?_, hrho⟩
    have h3 := hrho 0 h0
    have h4 := sF_le hg (n - (0 + 1)) (0 + 1) (by omega)
    unfold rho at h3
    omega
end
end Go.Proofs.YthohngmafdagoaaDoor

/- The card of LineSums: a line is as wide as its text, but for blanks that words do not have. -/
namespace Go.Proofs.YthohngmafdagoaaDoor
open Go Go.SX Go.Proofs Go.RowKit Go.ChangeShapes
set_option maxRecDepth 100000

set_option linter.unusedVariables false
set_option linter.unusedSectionVars false
set_option linter.unusedSimpArgs false

abbrev ΓSm : Gam := [(10, shown.s), (13, rWords.s), (12, lBreak.s), (16, lText.s), (17, wWidth.s), (18, over.s)]
theorem ΓSm.ok : GOK Tryd.prog ΓSm := .cons shown.ok (.cons rWords.ok (.cons lBreak.ok (.cons lText.ok (.cons rWidth.ok (.cons lOver.ok (GOK.nil _))))))
abbrev pS8 : List Nat := [0, 1, 0, 1, 1, 1, 1, 1]
def SS8 (n : Nat) (g : Nat → Nat → Q) (m : Nat) (h : Nat → Nat → Q) (i : Int) : St := mkS 78 [(5, V.b true), (6, lWd n g), (8, lLn m h), (10, V.i i)] [] [] false [] 0
def FS8 (m : Nat) (h : Nat → Nat → Q) : Ex × St := (.exit 0, mkS 78 [(5, V.b true), (8, lLn m h)] [] [] false [] 0)
def liveS8 : Ex → List Nat | .normal => [5, 6, 8, 10] | .ret => [4] | _ => [5, 8]
noncomputable abbrev bodyS8 : Code := loopAt Tryd.f5 pS8
noncomputable abbrev treeS8 (s : St) : T (Ex × St × Bool) := ltree Tryd.prog ΓSm [] pS8 bodyS8 78 0 liveS8 poN s
abbrev xT (n : Nat) (g : Nat → Nat → Q) (x : Ln) : ByteArray × Int := textR n g x.a x.z
def okS (n : Nat) (g : Nat → Nat → Q) (x : Ln) (b : Bool) : Bool := bif (xT n g x).2 != 0 then true else bif decide ((xT n g x).1.size ≤ 9223372036854775807) then (bif b then true else false) else false
def bdS (n : Nat) (g : Nat → Nat → Q) (x : Ln) : Bool := bif (xT n g x).2 != 0 then true else wsum (xT n g x).1 (xT n g x).1.size != x.w
theorem tS_c (n : Nat) (g : Nat → Nat → Q) (m : Nat) (h : Nat → Nat → Q) (i : Nat) : (treeS8 (SS8 n g m h i)).pathC [true, true, true, true, false] = [decide ((i : Int) < m), inI i m, allN n (szW g), okS n g (gLn h i) (inI i m), bdS n g (gLn h i)] := by kernel_rfl
theorem tS_l (n : Nat) (g : Nat → Nat → Q) (m : Nat) (h : Nat → Nat → Q) (i : Nat) : (treeS8 (SS8 n g m h i)).pathL [true, true, true, true, false] = .leaf (.normal, SS8 n g m h (w64 (i + 1)), true) := by kernel_rfl
theorem tS_end (n : Nat) (g : Nat → Nat → Q) (m : Nat) (h : Nat → Nat → Q) (i : Nat) : (treeS8 (SS8 n g m h i)).pathC [false] = [decide ((i : Int) < m)] := by kernel_rfl
theorem tS_endL (n : Nat) (g : Nat → Nat → Q) (m : Nat) (h : Nat → Nat → Q) (i : Nat) : (treeS8 (SS8 n g m h i)).pathL [false] = .leaf ((FS8 m h).1, (FS8 m h).2, true) := by kernel_rfl
theorem gd_sz {n : Nat} {g : Nat → Nat → Q} (hg : GdW n g) : allN n (szW g) = true := allN_true fun i hi => decide_eq_true (by have := (hg.2 i hi).t; omega)
theorem outL_ok {n : Nat} {a z : Nat} (h1 : a ≤ z) (h2 : z ≤ n) : outL n (a : Nat) (z : Nat) = false := by
  unfold outL
  rw [cond_or, cond_or]
  exact decide_eq_false (by omega)
theorem loopS8 (n : Nat) (g : Nat → Nat → Q) (w : Int) (hr : rightW n g = true) (hw2 : w ≤ 1048576) : ∀ x, (T.leaf (FS8 (breakL n g w).length (gOf lnQ (breakL n g w)))).pick = some x → SemC Tryd.prog (.loop bodyS8) (SS8 n g (breakL n g w).length (gOf lnQ (breakL n g w)) (0 : Nat)) x := by
  have hg := gdW_of hr
  have hlen := breakL_len w (right_ok hr)
  have hs := gd_sz hg
  refine loopLines ΓSm.ok (root := cod Tryd.f5) (p := pS8) (by kernel_rfl) (breakL n g w) (by omega) (A := Unit) (fun _ rest => True) (fun _ k => SS8 n g (breakL n g w).length (gOf lnQ (breakL n g w)) k) (.leaf (FS8 (breakL n g w).length (gOf lnQ (breakL n g w)))) 78 0 liveS8 poN poN_ok
    (fun a x rest k hk hx hm _ => ?_) (fun a _ => ?_) () trivial
  · refine ⟨[], (), LamOK.nil _ _, trivial, (T.pick_path [true, true, true, true, false] (treeS8 (SS8 n g (breakL n g w).length (gOf lnQ (breakL n g w)) k)) ?_).trans (congrArg T.pick (tS_l n g _ _ k))⟩
    obtain ⟨i, hi, hxx⟩ := mem_lines _ _ hm
    have key : (xT n g x).2 = 0 ∧ (xT n g x).1.size ≤ 1000000 ∧ wsum (xT n g x).1 (xT n g x).1.size = x.w := by
      rcases hxx with rfl | rfl
      · have e : xT n g ⟨(i : Nat), (i : Nat), 0⟩ = (noT, 0) := by
          show textR n g (i : Nat) (i : Nat) = _
          unfold textR
          rw [hr, outL_ok (Nat.le_refl i) (Nat.le_of_lt hi), Int.sub_self]; rfl
        rw [e]
        exact ⟨rfl, Nat.zero_le _, rfl⟩
      · have z1 := nextZ_gt n g w i
        have z2 := nextZ_le (g := g) (w := w) hi
        have e : xT n g (nextL n g w i) = (txF g i (nextZ n g w i - i), 0) := by
          show textR n g (i : Nat) (nextZ n g w i : Nat) = _
          unfold textR
          rw [hr, outL_ok (Nat.le_of_lt z1) z2, Int.toNat_natCast, show (((nextZ n g w i : Nat) : Int) - (i : Nat)).toNat = nextZ n g w i - i by omega]; rfl
        rw [e]
        have hn := hg.1
        have := txF_size g i (nextZ n g w i - i) fun j hj => (hg.2 (i + j) (by omega)).t
        exact ⟨rfl, by show (txF g i (nextZ n g w i - i)).size ≤ _; omega, line_wide hg (by omega) hi⟩
    obtain ⟨k1, k2, k3⟩ := key
    have e1 : okS n g x true = true := by unfold okS; rw [k1, decide_eq_true (show (xT n g x).1.size ≤ 9223372036854775807 by omega)]; rfl
    have e2 : bdS n g x = false := by unfold bdS; rw [k1, k3]; simp
    rw [tS_c, hx, c_lt hk, c_inI hk, hs, e1, e2]
  · refine ⟨_, _, by simp [FS8], (T.pick_path [false] (treeS8 (SS8 n g (breakL n g w).length (gOf lnQ (breakL n g w)) (breakL n g w).length)) (by rw [tS_end, c_ge (Nat.le_refl _)])).trans (congrArg T.pick (tS_endL _ _ _ _ _)), rfl⟩
noncomputable abbrev fSm (Λ : Lam) (b : ByteArray) (w : Int) : T V := funV Tryd.prog ΓSm Λ Tryd.f5 (cod Tryd.f5) [V.s b, V.i w]
abbrev n400 (b : ByteArray) : Int := if (400 : Int) < b.size then 400 else b.size
abbrev c400 (b : ByteArray) : ByteArray := b.extract (0 : Int).toNat (n400 b).toNat
abbrev wN (b : ByteArray) : Nat := (words (c400 b)).length
abbrev wG (b : ByteArray) : Nat → Nat → Q := gOf wdQ (words (c400 b))
abbrev cutOK (b : ByteArray) : Bool := decide (0 ≤ (0 : Int) ∧ 0 ≤ n400 b ∧ n400 b ≤ b.size)
abbrev big400 (b : ByteArray) : Bool := decide (((c400 b).size : Int) > 400)
theorem cut_true (b : ByteArray) : cutOK b = true ∧ big400 b = false ∧ (c400 b).size ≤ 400 := by
  have h : (c400 b).size ≤ 400 := by
    show (b.extract (0 : Int).toNat (n400 b).toNat).size ≤ 400
    rw [ByteArray.size_extract]
    unfold n400
    split <;> omega
  refine ⟨decide_eq_true ?_, decide_eq_false (by omega), h⟩
  unfold n400
  split <;> omega
noncomputable abbrev orS8 (b : ByteArray) (w : Int) : Lam := [(pS8, orc false 78 0 [5, 6, 8, 10] (SS8 (wN b) (wG b) (breakL (wN b) (wG b) w).length (gOf lnQ (breakL (wN b) (wG b) w)) (0 : Nat)) (.leaf (FS8 (breakL (wN b) (wG b) w).length (gOf lnQ (breakL (wN b) (wG b) w)))))]
theorem fSm_1c (b : ByteArray) (w : Int) : (fSm [] b w).pathC [true, false, true, true, true] = [cutOK b, big400 b, allN (wN b) (szW (wG b)), chkW (wN b) (wG b) w != 0, chkW (wN b) (wG b) w != 0] := by kernel_rfl
theorem fSm_1 (b : ByteArray) (w : Int) : (fSm [] b w).pathL [true, false, true, true, true] = .leaf (V.b (bif chkW (wN b) (wG b) w == 60 then badI w else false)) := by kernel_rfl
theorem fSm_0c (b : ByteArray) (w : Int) : (fSm (orS8 b w) b w).pathC [true, false, true, false, false] = [cutOK b, big400 b, allN (wN b) (szW (wG b)), chkW (wN b) (wG b) w != 0, false] := by kernel_rfl
theorem fSm_0 (b : ByteArray) (w : Int) : (fSm (orS8 b w) b w).pathL [true, false, true, false, false] =
    .ite (@decide (SS8 (wN b) (wG b) (breakL (wN b) (wG b) w).length (gOf lnQ (breakL (wN b) (wG b) w)) (0 : Nat) = SS8 (wN b) (wG b) (breakL (wN b) (wG b) w).length (gOf lnQ (breakL (wN b) (wG b) w)) (0 : Nat)) (Classical.propDecidable _))
      (.ite true (.ite (decide ((breakL (wN b) (wG b) w).length ≤ 1000000)) (.leaf (V.b (((overL (gOf lnQ (breakL (wN b) (wG b) w)) 1048576 (breakL (wN b) (wG b) w).length).length : Int) == 0))) .bad) (.leaf (V.b false))) .bad := by kernel_rfl
def sumsL.s : List V → T V
  | [.q (.c (.string b)), .q (.c (.int .i64 w))] => .leaf (V.b true)
  | _ => .bad
theorem sumsL.ok : SpecOK Tryd.prog 5 sumsL.s := by
  refine okF ΓSm.ok Tryd.func5 (by kernel_rfl) (by kernel_rfl) fun args r hb hr => ?_
  unfold sumsL.s at hr
  split at hr
  · rename_i b w
    obtain ⟨c1, c2, c3⟩ := cut_true b
    have hrt : rightW (wN b) (wG b) = true := words_right (c400 b) c3
    have hg := gdW_of hrt
    have hs := gd_sz hg
    rw [← hr]
    cases hc : chkW (wN b) (wG b) w != 0 with
    | true =>
      refine ⟨[], LamOK.nil _ _, (T.pick_path [true, false, true, true, true] (fSm [] b w) (by rw [fSm_1c, c1, c2, hs, hc])).trans ?_⟩
      rw [fSm_1]
      unfold chkW at hc ⊢
      rw [hrt] at hc ⊢
      cases hw : badI w with
      | true => rfl
      | false => rw [hw] at hc; cases hc
    | false =>
      obtain ⟨h1, h2⟩ := chk_right hc
      obtain ⟨b0, b1⟩ : 0 ≤ w ∧ w ≤ 1048576 := by
        unfold badI at h2
        rw [cond_or] at h2
        have := of_decide_eq_false h2
        omega
      refine ⟨_, LamOK.orc (p := pS8) (mk := false) (nn := 78) (k := 0) (live := [5, 6, 8, 10]) (c := .loop bodyS8) (by kernel_rfl) (loopS8 (wN b) (wG b) w hrt b1) (LamOK.nil _ _), (T.pick_path [true, false, true, false, false] (fSm (orS8 b w) b w) (by rw [fSm_0c, c1, c2, hs, hc])).trans ?_⟩
      have hlen := breakL_len w (right_ok hrt)
      have hov : (overL (gOf lnQ (breakL (wN b) (wG b) w)) 1048576 (breakL (wN b) (wG b) w).length).length = 0 := by
        rw [over_mem]
        intro x hx
        obtain ⟨i, hi, rfl | rfl⟩ := mem_lines _ _ hx
        · show (0 : Int) ≤ _; omega
        · refine Int.not_lt.1 fun hlt => ?_
          have h3 : (nextL (wN b) (wG b) w i).w > w := by omega
          have := tkF_wide (wG b) w (wN b - (i + 1)) (i + 1) (gWd (wG b) i).w h3
          have e : (nextL (wN b) (wG b) w i).w = (gWd (wG b) i).w := by show (tkF (wG b) w (wN b - (i + 1)) (i + 1) (gWd (wG b) i).w).2 = _; rw [this]
          have := (hg.w1 hi).2
          omega
      rw [fSm_0, pick_same, hov, decide_eq_true (show (breakL (wN b) (wG b) w).length ≤ 1000000 from hlen)]; rfl
  · cases hr
theorem sumsL.all (b : ByteArray) (w : Int) (_ : b.size ≤ maxLen) (_ : Wf w) : (sumsL.s [V.s b, V.i w]).pick = some (V.b true) := rfl

theorem sumsL_lifted (os : Os) (started : os.Started) (H : Type) (enc : TypeId × Value → H) :
    ReturnsInHanded {} Tryd.checked os 5 .any (fun w args => (Rows.lineSumsSpec.pre enc Tryd.prog Tryd.f5 [] false w args ∧ laidMetH Tryd.prog laidL w) ∧ sizedMet enc Tryd.prog Tryd.f5 (OpenSpec.ofChange Rows.lineSumsSpec) false w args)
      (Rows.lineSumsSpec.post enc Tryd.prog Tryd.f5 false true false false) :=
  row_of (rt := 4) (shs := [(false, [.str]), (false, [.int .i64])]) H enc os started sumsL.ok Tryd.func5 (by kernel_rfl) (by kernel_rfl) rfl
    (fun ds hl => by
      have hl' : ds.length = 2 := hl
      match ds, hl' with
      | [d1, d2], _ => rfl)
    (by kernel_rfl)
    (fun xs h => by
      obtain ⟨x1, l, rfl, p1, h⟩ := pvs_cons h
      obtain ⟨x2, l, rfl, p2, h⟩ := pvs_cons h
      obtain rfl := pvs_nil h
      obtain ⟨n1, rfl, hn1⟩ := pv_text p1
      obtain ⟨n2, rfl, w2⟩ := pv_int p2
      exact sumsL.all n1 n2 hn1 w2)
    (by kernel_rfl)
    (ChangeSpec.witness_at (enc := enc) (C := Tryd.checked) (os := os) (X := fun w _ => laidMetH Tryd.prog laidL w) false (laidWorld os) #[.string ⟨#[]⟩, .int .i64 0] 8 rfl (by kernel_rfl) (by kernel_rfl) (by kernel_rfl) (by kernel_rfl) (by kernel_rfl) (laidWorld_met os _))

theorem sumsL_row : Rows.LineSumsSaid :=
  OpenClaim.holds_of_wide 5 Tryd.f5 rfl rfl rfl rfl rfl rfl rfl ⟨rfl, rfl, rfl, rfl, rfl⟩ rfl rfl rfl rfl rfl (by kernel_rfl) Tryd.func5 (by kernel_rfl)
    (of_decide_eq_true (by kernel_rfl)) (by unfold Func.isWrapper; rw [if_neg (of_decide_eq_false (by kernel_rfl))]; exact ⟨rfl, rfl⟩)
    (fun os started H enc _ => sumsL_lifted os started H enc)

theorem sumsL_holds : Rows.LineSumsCardSaid :=
  Claim7.holds_tied_plain_at .later [] [.handle] true Rows.lineSumsCard.stood.harness true
    sumsL_row (fun _ h => by cases h) (by kernel_rfl) (fun _ h => by cases h) lineSums_row_tie rfl ⟨rfl, rfl⟩ (by kernel_rfl) rfl
    (fun f fn hf hfn => by
      obtain rfl : f = 5 := Option.some.inj ((show Tryd.prog.funcNamed "gutter/gutterlaw08.LineSums" = some 5 by kernel_rfl).symm.trans hf) |>.symm
      obtain rfl : fn = Tryd.f5 := (Option.some.inj (Tryd.func5.symm.trans hfn)).symm
      exact ⟨by kernel_rfl, fun j t ht => by
        have e : Tryd.f5.params.all (fun t => !(Tryd.pinned.checked.prog.wantsStandIn t)) = true := by kernel_rfl
        have := Array.all_eq_true_iff_forall_mem.1 e t (Array.mem_of_getElem? ht)
        simpa using this⟩)
    (by kernel_rfl)
#print axioms sumsL_holds
end Go.Proofs.YthohngmafdagoaaDoor
