/- Style: the document's Right and names; plain facts: texts that are cut, split, joined; lengths and numbers, printed and read. -/
import Derived.Test.YtgmeglodnhagdaaGreatDoorStJ
import Derived.Lib.SplitLaws
import Derived.Lib.AtoiAllCases

namespace Go.Proofs.YtgmeglodnhagdaaGreatDoor
open Go Go.SX Go.Proofs Go.RowKit
set_option maxRecDepth 100000
variable [EA]
set_option linter.unusedVariables false
set_option linter.unusedSectionVars false
set_option linter.unusedSimpArgs false

def sizeB (a : Int) : Bool := bif decide (a ≥ 0) then decide (a ≤ 1048576) else false
def rSize.s : List V → T V
  | [.q (.c (.int .i64 a))] => .leaf (V.b (sizeB a))
  | _ => .bad
theorem rSize.ok : SpecOK Tryz.prog 37 rSize.s := by
  refine okF (GOK.nil _) Tryz.func37 (by kernel_rfl) (by kernel_rfl) fun args r hb hr => ?_
  unfold rSize.s at hr
  split at hr
  · rename_i a
    exact ⟨[], LamOK.nil _ _, (congrArg T.pick (show funV Tryz.prog [] [] Tryz.f37 (cod Tryz.f37) [V.i a] = .leaf (V.b (sizeB a)) by kernel_rfl)).trans hr⟩
  · cases hr
def rrB (s : Sty) : Bool :=
  bif (bif sizeB s.w then (bif sizeB s.g then (bif sizeB s.r then (bif sizeB s.h then (bif decide (s.t ≥ -1048576) then (bif decide (s.t ≤ 1048576) then (bif decide (s.bo ≥ -1048576) then decide (s.bo ≤ 1048576) else false) else false) else false) else false) else false) else false) else false)
  then (bif (bif decide (s.c ≥ 0) then (bif decide (s.c ≤ 50) then (bif decide (s.o ≥ 1) then (bif decide (s.o ≤ 20) then (bif decide (s.wi ≥ 1) then decide (s.wi ≤ 20) else false) else false) else false) else false) else false)
    then (bif decide (s.b ≥ 0) then (bif decide (s.b ≤ 2) then (bif decide (s.af ≥ 0) then (bif decide (s.af ≤ 2) then (bif decide (s.si ≥ 0) then decide (s.si ≤ 2) else false) else false) else false) else false) else false) else false) else false
theorem rrB_iff {s : Sty} : rrB s = true ↔ RightS s := by
  unfold rrB sizeB
  simp only [cond_and, decide_eq_true_iff, Bool.cond_eq_ite]
  constructor
  · intro h
    simp at h
    constructor <;> omega
  · rintro ⟨h1, h2, h3, h4, h5, h6, h7, h8, h9, h10, h11, h12⟩
    simp
    omega
theorem allIn_of {a b : Int} {n : Nat} {l : List Int} (h : ∀ i, i < n → a ≤ qInt (iL l i 0) ∧ qInt (iL l i 0) ≤ b) : allIn a b n (iL l) = true := allN_true fun i hi => by
  obtain ⟨h1, h2⟩ := h i hi
  unfold outB
  rw [decide_eq_false (show ¬ qInt (iL l i 0) < a by omega), decide_eq_false (show ¬ qInt (iL l i 0) > b by omega)]; rfl
theorem rightS_iff {s : Sty} : rightS s = true ↔ RightS s := by
  refine ⟨rightS_of, fun h => ?_⟩
  unfold rightS
  rw [allIn_of (a := 0) (b := 50) (n := 1) (l := [s.c]) (fun | 0, _ => h.c), allIn_of (a := 0) (b := 1048576) (n := 4) (l := [s.w, s.g, s.r, s.h]) (fun | 0, _ => h.w | 1, _ => h.g | 2, _ => h.r | 3, _ => h.h),
    allIn_of (a := -1048576) (b := 1048576) (n := 2) (l := [s.t, s.bo]) (fun | 0, _ => h.t | 1, _ => h.bo), allIn_of (a := 1) (b := 20) (n := 2) (l := [s.o, s.wi]) (fun | 0, _ => h.o | 1, _ => h.wi),
    allIn_of (a := 0) (b := 2) (n := 2) (l := [s.b, s.af]) (fun | 0, _ => h.b | 1, _ => h.af), allIn_of (a := 0) (b := 2) (n := 1) (l := [s.si]) (fun | 0, _ => h.si)]
  rfl
theorem rrB_eq (s : Sty) : rrB s = rightS s := by rw [Bool.eq_iff_iff, rrB_iff, rightS_iff]
abbrev ΓRr : Gam := [(37, rSize.s)]
theorem rRight.ok : SpecOK Tryz.prog 18 right.s := by
  have h : SpecOK Tryz.prog 18 (sty1 fun s => .leaf (V.b (rrB s))) := ok1 (.cons rSize.ok (GOK.nil _)) Tryz.func18 (by kernel_rfl) (by kernel_rfl) fun s => by kernel_rfl
  refine h.imp fun args r hv hr => ?_
  obtain ⟨s, rfl, hr2⟩ := sty1_inv hr
  rw [← rrB_eq] at hr2
  exact hr2
/-! ### names -/
def rNames.s : List V → T V
  | [] => .leaf (vStr nmF)
  | _ => .bad
theorem rNames.ok : SpecOK Tryz.prog 26 rNames.s := by
  refine okF (GOK.nil _) Tryz.func26 (by kernel_rfl) (by kernel_rfl) fun args r hb hr => ?_
  unfold rNames.s at hr
  split at hr
  · exact ⟨[], LamOK.nil _ _, (congrArg T.pick (show funV Tryz.prog [] [] Tryz.f26 (cod Tryz.f26) [] = .leaf (vStr nmF) by kernel_rfl)).trans hr⟩
  · cases hr
end Go.Proofs.YtgmeglodnhagdaaGreatDoor

/-! ## StR -/
namespace Go.Proofs.YtgmeglodnhagdaaGreatDoor
open Go Go.SX Go.Proofs Go.RowKit
set_option maxRecDepth 100000
variable [EA]
set_option linter.unusedVariables false
set_option linter.unusedSectionVars false
set_option linter.unusedSimpArgs false
/-! ### index, cut -/
theorem occ_not {c : UInt8} {t s : List UInt8} {j : Nat} (h : s[j]? ≠ some c) : Lib.occAt s (c :: t) j = false := by
  unfold Lib.occAt
  rw [Bool.eq_false_iff]
  intro h2
  cases hd : s.drop j with
  | nil => rw [hd] at h2; simp [List.isPrefixOf] at h2
  | cons a l =>
    rw [hd] at h2
    simp only [List.isPrefixOf, Bool.and_eq_true, beq_iff_eq] at h2
    have : (s.drop j)[0]? = some a := by rw [hd]; rfl
    rw [List.getElem?_drop] at this
    exact h (by rw [h2.1]; simpa using this)
/-- The first place of a text that begins with a byte that does not stand ahead. -/
theorem idx_at {c : UInt8} {t a b : List UInt8} (ha : c ∉ a) : Lib.index (a ++ (c :: t) ++ b) (c :: t) = (a.length : Nat) := by
  refine Lib.index_first (by simp) ?_ fun j hj => occ_not ?_
  · unfold Lib.occAt
    rw [List.append_assoc, List.drop_left]
    simp
  · rw [List.append_assoc, List.getElem?_append_left hj]
    intro h
    exact ha (List.mem_of_getElem? h)
theorem idx_none {c : UInt8} {t a : List UInt8} (ha : c ∉ a) : Lib.index a (c :: t) = -1 :=
  Lib.index_none fun j _ => occ_not fun h => ha (List.mem_of_getElem? h)
theorem cut_at {c : UInt8} {a b : List UInt8} (ha : c ∉ a) : Lib.cut (a ++ c :: b) [c] = (a, b, true) := by
  have h := idx_at (t := []) (b := b) ha
  rw [show a ++ [c] ++ b = a ++ c :: b by simp] at h
  unfold Lib.cut
  rw [h, if_pos (by omega)]
  simp
theorem cut_no {c : UInt8} {t a : List UInt8} (ha : c ∉ a) : Lib.cut a (c :: t) = (a, [], false) := by
  unfold Lib.cut
  rw [idx_none ha, if_neg (by omega)]
theorem occ_eq {s sub : List UInt8} {i : Nat} (h : Lib.occAt s sub i = true) (hi : i ≤ s.length) : s = s.take i ++ (sub ++ s.drop (i + sub.length)) := by
  unfold Lib.occAt at h
  obtain ⟨r, hr⟩ := List.isPrefixOf_iff_prefix.1 h
  have : s.drop (i + sub.length) = r := by
    rw [← List.drop_drop, ← hr, List.drop_left]
  rw [this, hr, List.take_append_drop]
theorem cut_eq {s sep : List UInt8} (h : (Lib.cut s sep).2.2 = true) : s = (Lib.cut s sep).1 ++ (sep ++ (Lib.cut s sep).2.1) := by
  unfold Lib.cut at h ⊢
  rcases Lib.index_spec s sep with ⟨h1, _⟩ | ⟨i, h1, h2, h3, _⟩
  · rw [h1, if_neg (by omega)] at h; cases h
  · rw [h1, if_pos (by omega)]
    exact occ_eq h3 h2
theorem cut_eq0 {s sep : List UInt8} (h : (Lib.cut s sep).2.2 = false) : (Lib.cut s sep).1 = s := by
  unfold Lib.cut at h ⊢
  split at h
  · cases h
  · rename_i h2; rw [if_neg h2]
/-! ### split, join -/
theorem join_split {sep : List UInt8} : ∀ (k : Nat) (s : List UInt8), Lib.join (Lib.splitK sep 0 k s) sep = s
  | 0, s => Lib.join_one s sep
  | k + 1, s => by
    unfold Lib.splitK
    rcases Lib.index_spec s sep with ⟨h1, _⟩ | ⟨i, h1, h2, h3, _⟩
    · rw [h1, if_pos (by rfl)]; exact Lib.join_one s sep
    · rw [h1, if_neg (by simp)]
      rw [Int.toNat_natCast, Nat.add_zero]
      have ih := join_split (sep := sep) k (s.drop (i + sep.length))
      have hne : ∃ y r, Lib.splitK sep 0 k (s.drop (i + sep.length)) = y :: r := by
        cases k with
        | zero => exact ⟨_, _, rfl⟩
        | succ k => unfold Lib.splitK; split <;> exact ⟨_, _, rfl⟩
      obtain ⟨y, r, hy⟩ := hne
      rw [hy] at ih ⊢
      rw [Lib.join_cons] at ih ⊢
      have : Lib.joinTail sep (y :: r) = sep ++ (y ++ Lib.joinTail sep r) := by simp [Lib.joinTail]
      rw [this, ih]
      exact (occ_eq h3 h2).symm
theorem split_join {c : UInt8} {t : List UInt8} : ∀ (l : List (List UInt8)) (x : List UInt8), c ∉ x → (∀ y ∈ l, c ∉ y) → Lib.count (Lib.join (x :: l) (c :: t)) (c :: t) = l.length ∧ Lib.splitK (c :: t) 0 l.length (Lib.join (x :: l) (c :: t)) = x :: l
  | [], x, hx, _ => by
    rw [Lib.join_one]
    exact ⟨Lib.count_miss (idx_none hx), rfl⟩
  | y :: l, x, hx, hl => by
    have ih := split_join l y (hl y (List.mem_cons_self ..)) (fun z hz => hl z (List.mem_cons_of_mem _ hz)) (t := t)
    have e : Lib.join (x :: y :: l) (c :: t) = x ++ (c :: t) ++ Lib.join (y :: l) (c :: t) := by
      rw [Lib.join_cons, Lib.join_cons]
      simp [Lib.joinTail]
    have hi := idx_at (t := t) (b := Lib.join (y :: l) (c :: t)) hx
    have hd : (x ++ (c :: t) ++ Lib.join (y :: l) (c :: t)).drop (x.length + (c :: t).length) = Lib.join (y :: l) (c :: t) := by
      rw [← List.length_append, List.drop_left]
    rw [e]
    constructor
    · rw [Lib.count_hit (by simp) hi, hd, ih.1, List.length_cons]; omega
    · rw [List.length_cons, Lib.splitK, hi, if_neg (by simp), Int.toNat_natCast, hd, ih.2]
      congr 1
      rw [List.append_assoc, Nat.add_zero, List.take_left]
theorem seqB_iff {a b : ByteArray} : seqB a b = true ↔ a = b := by
  unfold seqB
  rw [beq_iff_eq, Lib.toList_data, Lib.toList_data]
  exact ⟨fun h => bL_inj h, fun h => by rw [h]⟩
theorem bT_inj {a b : List UInt8} (h : bT a = bT b) : a = b := by rw [← bL_bT a, ← bL_bT b, h]
/-! ### digits -/
theorem dig_nat {u : Nat} (h : u < 10) : (UInt8.ofNat (48 + u)).toNat = 48 + u := by
  show (48 + u) % 256 = 48 + u
  omega
theorem mem_one {a c : UInt8} (h : c ∈ [a]) : c = a := by cases h with
  | head => rfl
  | tail _ h => cases h
theorem cnd_and {p q : Bool} (h : (bif p then q else false) = true) : p = true ∧ q = true := by
  cases p <;> simp_all
theorem digF_dig : ∀ f u, u < 10 ^ (f + 1) → ∀ c ∈ digF f u, 48 ≤ c.toNat ∧ c.toNat ≤ 57
  | 0, u, hu, c, hc => by
    obtain rfl := mem_one (show c ∈ [UInt8.ofNat (48 + u)] from hc)
    rw [dig_nat (by simpa using hu)]; have : u < 10 := by simpa using hu
    omega
  | f + 1, u, hu, c, hc => by
    rw [digF] at hc
    by_cases h : u < 10
    · rw [decide_eq_true h] at hc
      obtain rfl := mem_one (show c ∈ [UInt8.ofNat (48 + u)] from hc)
      rw [dig_nat h]; omega
    · rw [decide_eq_false h, cond_false] at hc
      rcases List.mem_append.1 hc with hc | hc
      · exact digF_dig f (u / 10) (by rw [Nat.div_lt_iff_lt_mul (by omega)]; rwa [Nat.pow_succ] at hu) c hc
      · obtain rfl := mem_one hc
        rw [dig_nat (u := u % 10) (by omega)]; omega
/-- The number of digits. -/
def vN (l : List UInt8) : Nat := l.foldl (fun n c => n * 10 + (c.toNat - 48)) 0
theorem vN_snoc (l : List UInt8) (c : UInt8) : vN (l ++ [c]) = vN l * 10 + (c.toNat - 48) := by simp [vN]
theorem vN_digF : ∀ f u, u < 10 ^ (f + 1) → vN (digF f u) = u
  | 0, u, hu => by
    have : u < 10 := by simpa using hu
    show vN ([] ++ [UInt8.ofNat (48 + u)]) = u
    rw [vN_snoc, dig_nat this]; simp [vN]
  | f + 1, u, hu => by
    rw [digF]
    by_cases h : u < 10
    · rw [decide_eq_true h]
      show vN ([] ++ [UInt8.ofNat (48 + u)]) = u
      rw [vN_snoc, dig_nat h]; simp [vN]
    · rw [decide_eq_false h, cond_false, vN_snoc, vN_digF f (u / 10) (by rw [Nat.div_lt_iff_lt_mul (by omega)]; rwa [Nat.pow_succ] at hu), dig_nat (by omega)]
      omega
theorem vN_append : ∀ (b a : List UInt8), vN a ≤ vN (a ++ b)
  | [], a => by simp
  | c :: b, a => by
    have h1 := vN_append b (a ++ [c])
    rw [vN_snoc] at h1
    rw [show a ++ c :: b = a ++ [c] ++ b by simp]
    omega
theorem bAt_bT {l : List UInt8} {i : Nat} (h : i < l.length) : bAt (bT l) i = (l[i]).toNat := by
  show (ByteArray.get! _ _).toNat = _
  unfold ByteArray.get!
  simp [h]
theorem whN_bT {l : List UInt8} (hd : ∀ c ∈ l, 48 ≤ c.toNat ∧ c.toNat ≤ 57) : ∀ k, k ≤ l.length → whN (bT l) k = (vN (l.take k) : Nat)
  | 0, _ => by simp [whN, vN]
  | k + 1, h => by
    rw [whN, whN_bT hd k (by omega), bAt_bT (show k < l.length by omega), List.take_succ_eq_append_getElem (by omega), vN_snoc]
    have := hd _ (List.getElem_mem (show k < l.length by omega))
    omega
theorem whA_bT {l : List UInt8} (hd : ∀ c ∈ l, 48 ≤ c.toNat ∧ c.toNat ≤ 57) (hv : vN l ≤ 1073741824) : whA (bT l) = true := allN_true fun i hi => by
  have hi : i < l.length := by rw [← bL_len, bL_bT] at hi; exact hi
  have h1 := vN_append (l.drop i) (l.take i)
  rw [List.take_append_drop] at h1
  have h2 := hd _ (List.getElem_mem hi)
  unfold whOk isDig
  rw [bAt_bT hi, decide_eq_true h2, cond_true, whN_bT hd i (by omega)]
  exact decide_eq_true (by omega)
/-! ### lengths -/
def resT (p : Nat) : List UInt8 := bif p == 0 then [] else restL p
theorem resT_all : (List.range 64).all (fun p => (List.range 64).all fun q => decide (resT p = resT q → p = q)) = true := by decide +kernel
theorem resT_inj {p q : Nat} (hp : p < 64) (hq : q < 64) (h : resT p = resT q) : p = q :=
  of_decide_eq_true (List.all_eq_true.1 (List.all_eq_true.1 resT_all p (List.mem_range.2 hp)) q (List.mem_range.2 hq)) h
theorem hitP_iff {s : ByteArray} {a : Int} : hitP s a = true ↔ rightU a = true ∧ s = bT (printL a) := by
  unfold hitP
  cases h : rightU a with
  | false => simp
  | true =>
    simp only [cond_true, BEq.rfl, true_and]
    rw [seqB_iff, show printT a = bT (printL a) by unfold printT; rw [h]; rfl]
    exact eq_comm
theorem parO_sound {s : ByteArray} {a : Int} (h : parO s = some a) : rightU a = true ∧ s = bT (printL a) := by
  unfold parO at h
  cases hw : whA (upH s) with
  | false => rw [hw] at h; cases h
  | true =>
    rw [hw, cond_true] at h
    obtain ⟨p, hp, rfl⟩ := Option.map_eq_some_iff.1 h
    have := List.find?_some hp
    unfold hitU at this
    exact hitP_iff.1 (cnd_and this).2
theorem printL_eq (a : Int) : printL a = (bif decide (a < 0) then [45] else []) ++ (digL (a.natAbs / 64) ++ resT (a.natAbs % 64)) := rfl
theorem digL_dig {q : Nat} (h : q ≤ 1073741824) : ∀ c ∈ digL q, 48 ≤ c.toNat ∧ c.toNat ≤ 57 := digF_dig 19 q (by omega)
theorem digL_vN {q : Nat} (h : q ≤ 1073741824) : vN (digL q) = q := vN_digF 19 q (by omega)
theorem dig_no {l : List UInt8} (hd : ∀ c ∈ l, 48 ≤ c.toNat ∧ c.toNat ≤ 57) {c : UInt8} (hc : c.toNat < 48 ∨ 57 < c.toNat) : c ∉ l := fun h => by have := hd c h; omega
theorem digL_ne (q : Nat) : digL q ≠ [] := by
  show digF 19 q ≠ []
  rw [digF]
  cases decide (q < 10) <;> simp
/-- What is read of a text: is it below none; its whole; what is behind the point. -/
theorem up_print {neg : Bool} {q p : Nat} (hq : q ≤ 1073741824) (hp : p < 64) :
    upN (bT ((bif neg then [45] else []) ++ (digL q ++ resT p))) = neg ∧ upT (bT ((bif neg then [45] else []) ++ (digL q ++ resT p))) = bT (digL q ++ resT p) := by
  have hd := digL_dig hq
  have h45 : ([45] : List UInt8).isPrefixOf (digL q ++ resT p) = false := by
    cases h : digL q with
    | nil => exact absurd h (digL_ne q)
    | cons c l =>
      have hc := hd c (by rw [h]; exact List.mem_cons_self ..)
      simp only [List.cons_append, List.isPrefixOf, Bool.and_true]
      rw [beq_eq_false_iff_ne]
      rintro rfl
      revert hc; decide
  cases neg with
  | false =>
    simp only [upN, upT, bL_bT, cond_false, List.nil_append, Lib.hasPrefix, Lib.trimPrefix, h45]
    simp
  | true =>
    simp only [upN, upT, bL_bT, cond_true, Lib.hasPrefix, Lib.trimPrefix]
    constructor <;> simp [List.isPrefixOf]
theorem cut_print {q p : Nat} (hq : q ≤ 1073741824) (hp : p < 64) : Lib.cut (digL q ++ resT p) [46] = (digL q, bif p == 0 then [] else restF 6 p, bif p == 0 then false else true) := by
  have hd := digL_dig hq
  have hn : (46 : UInt8) ∉ digL q := dig_no hd (by decide)
  unfold resT
  cases h : p == 0 with
  | true => simp only [cond_true, List.append_nil]; exact cut_no hn
  | false => simp only [cond_false]; exact cut_at hn
theorem parO_print {a : Int} (h : rightU a = true) : parO (bT (printL a)) = some a := by
  have hr := rightU_iff.1 h
  have hq : a.natAbs / 64 ≤ 1073741824 := by omega
  have hp : a.natAbs % 64 < 64 := Nat.mod_lt _ (by omega)
  obtain ⟨e1, e2⟩ := up_print (neg := decide (a < 0)) hq hp
  rw [← printL_eq] at e1 e2
  have e3 := cut_print hq hp
  have e4 : upH (bT (printL a)) = bT (digL (a.natAbs / 64)) := by
    show bT (Lib.cut (bL (upT _)) _).1 = _
    rw [e2, bL_bT, bL_bT, e3]
  have e5 : upR (bT (printL a)) = bT (bif a.natAbs % 64 == 0 then [] else restF 6 (a.natAbs % 64)) := by
    show bT (Lib.cut (bL (upT _)) _).2.1 = _
    rw [e2, bL_bT, bL_bT, e3]
  have hw : whA (bT (digL (a.natAbs / 64))) = true := whA_bT (digL_dig hq) (by rw [digL_vN hq]; exact hq)
  have e6 : upV (bT (printL a)) = ((a.natAbs / 64 : Nat) : Int) := by
    show whV (upH _) = _
    rw [e4]
    unfold whV
    rw [hw, cond_true, whN_bT (digL_dig hq) _ (by rw [← bL_len, bL_bT]; exact Nat.le_refl _), ← bL_len, bL_bT, List.take_length, digL_vN hq]
  have ha : aP ((a.natAbs / 64 : Nat) : Int) (decide (a < 0)) (a.natAbs % 64) = a := by
    unfold aP
    by_cases h0 : a < 0
    · rw [decide_eq_true h0, cond_true]; omega
    · rw [decide_eq_false h0, cond_false]; omega
  have hhit : hitU (bT (printL a)) (decide (a < 0)) (upR (bT (printL a))) ((a.natAbs / 64 : Nat) : Int) (a.natAbs % 64) = true := by
    unfold hitU
    rw [ha, hitP_iff.2 ⟨h, rfl⟩, e5]
    cases h0 : a.natAbs % 64 == 0 with
    | true => rfl
    | false =>
      rw [cond_false, cond_false, seqB_iff.2 (by apply bL_inj; simp [restL])]
      rfl
  have huniq : ∀ p, p < 64 → hitU (bT (printL a)) (decide (a < 0)) (upR (bT (printL a))) ((a.natAbs / 64 : Nat) : Int) p = true → p = a.natAbs % 64 := by
    intro p hp2 hh
    unfold hitU at hh
    · obtain ⟨h1, h2⟩ := hitP_iff.1 (cnd_and hh).2
      have h3 := bT_inj h2
      refine (resT_inj hp hp2 ?_).symm
      rw [printL_eq, printL_eq (aP _ _ _)] at h3
      have n1 : (aP ((a.natAbs / 64 : Nat) : Int) (decide (a < 0)) p).natAbs = a.natAbs / 64 * 64 + p := by
        unfold aP
        by_cases h0 : a < 0
        · rw [decide_eq_true h0, cond_true]; omega
        · rw [decide_eq_false h0, cond_false]; omega
      rw [n1, show (a.natAbs / 64 * 64 + p) / 64 = a.natAbs / 64 by omega, show (a.natAbs / 64 * 64 + p) % 64 = p by omega] at h3
      by_cases h0 : a < 0
      · rw [decide_eq_true h0] at h3
        by_cases h5 : aP ((a.natAbs / 64 : Nat) : Int) true p < 0
        · rw [decide_eq_true h5] at h3
          exact List.append_cancel_left (List.append_cancel_left h3)
        · rw [decide_eq_false h5, cond_true, cond_false] at h3
          exfalso
          have := up_print (neg := false) hq hp2
          have h6 := up_print (neg := true) hq hp
          rw [show (bif true then [45] else [] : List UInt8) = [45] from rfl, h3] at h6
          have := this.1.symm.trans h6.1
          cases this
      · rw [decide_eq_false h0] at h3
        have h5 : ¬ aP ((a.natAbs / 64 : Nat) : Int) false p < 0 := by unfold aP; rw [cond_false]; omega
        rw [decide_eq_false h5] at h3
        exact List.append_cancel_left (List.append_cancel_left h3)
  unfold parO
  rw [e4, hw, cond_true, upF, e1, e6]
  have hf : fndU (bT (printL a)) (decide (a < 0)) (upR (bT (printL a))) ((a.natAbs / 64 : Nat) : Int) = some (a.natAbs % 64) := by
    rw [fndU, List.find?_range_eq_some]
    refine ⟨hhit, List.mem_range.2 hp, fun j hj => ?_⟩
    cases hh : hitU (bT (printL a)) (decide (a < 0)) (upR (bT (printL a))) ((a.natAbs / 64 : Nat) : Int) j with
    | false => rfl
    | true => have := huniq j (by omega) hh; omega
  rw [hf, Option.map_some, ha]
/-! ### numbers -/
theorem numOk_sound {v : ByteArray} (h : numOk v = true) : v = bT (Lib.itoa (atoiN v)) := by
  unfold numOk at h
  exact (seqB_iff.1 (cnd_and (cnd_and h).2).2).symm
theorem decD_digF (u : Nat) (h : u < 10) : Lib.decDigits u = digF 0 u := by rw [Lib.decDigits, dif_pos h]; rfl
theorem itoa_small {n : Nat} (h : n < 100) : Lib.itoa (n : Nat) = digF 1 n := by
  unfold Lib.itoa
  rw [if_neg (by omega), Int.toNat_natCast, digF]
  by_cases h0 : n < 10
  · rw [decide_eq_true h0, decD_digF n h0]; rfl
  · rw [decide_eq_false h0, Lib.decDigits, dif_neg h0, decD_digF _ (by omega)]; rfl
theorem num_all : (List.range 100).all (fun n => decide (Lib.atoiAll (digF 1 n) = .ok ((n : Nat) : Int) ∧ (digF 1 n).length < 9)) = true := by decide +kernel
theorem num_print {n : Int} (h0 : 0 ≤ n) (h : n < 100) : numOk (bT (Lib.itoa n)) = true ∧ atoiN (bT (Lib.itoa n)) = n := by
  obtain ⟨k, rfl⟩ := Int.eq_ofNat_of_zero_le h0
  have hk : k < 100 := by omega
  obtain ⟨h1, h2⟩ := of_decide_eq_true (List.all_eq_true.1 num_all k (List.mem_range.2 hk))
  have e : atoiN (bT (Lib.itoa (k : Nat))) = (k : Nat) := by unfold atoiN; rw [bL_bT, itoa_small hk, h1]
  refine ⟨?_, e⟩
  unfold numOk
  rw [e, show atoiE (bT (Lib.itoa (k : Nat))) = true by unfold atoiE; rw [bL_bT, itoa_small hk, h1], cond_true]
  rw [decide_eq_true (show ((bT (Lib.itoa (k : Nat))).size : Int) < 9 by rw [← bL_len, bL_bT, itoa_small hk]; omega), cond_true]
  exact seqB_iff.2 rfl
end Go.Proofs.YtgmeglodnhagdaaGreatDoor
