/- Style: the document's functions of chapter 4, one by one. -/
import Derived.Test.YtgmeglodnhagdaaGreatDoorStT

namespace Go.Proofs.YtgmeglodnhagdaaGreatDoor
open Go Go.SX Go.Proofs Go.RowKit
set_option maxRecDepth 100000
variable [EA]
set_option linter.unusedVariables false
set_option linter.unusedSectionVars false
set_option linter.unusedSimpArgs false
/-! ### length, bare -/
abbrev ΓLg : Gam := [(92, uPrint2.s)]
theorem ΓLg.ok : GOK Tryz.prog ΓLg := .cons r1Print.ok (GOK.nil _)
def rLen.s : List V → T V
  | [.q (.c (.int .i64 a))] => .leaf (V.s (printT a))
  | _ => .bad
theorem rLen.ok : SpecOK Tryz.prog 44 rLen.s := by
  refine okF ΓLg.ok Tryz.func44 (by kernel_rfl) (by kernel_rfl) fun args r hb hr => ?_
  unfold rLen.s at hr
  split at hr
  · rename_i a
    exact ⟨[], LamOK.nil _ _, (congrArg T.pick (show funV Tryz.prog ΓLg [] Tryz.f44 (cod Tryz.f44) [V.i a] = .leaf (V.s (printT a)) by kernel_rfl)).trans hr⟩
  · cases hr
/-! ### loops -/
noncomputable abbrev bodyPc : Code := loopAt Tryz.f33 [0, 1, 0, 1, 1]
def SPc (s : ByteArray) (n : Nat) (g : Nat → Nat → Q) (i : Int) : St := mkS 19 [(0, V.s s), (3, lS n g), (4, V.i i)] [] [] false [] 0
def livePc : Ex → List Nat | .normal => [0, 3, 4] | .ret => [2] | _ => []
noncomputable abbrev treePc (s : St) : T (Ex × St × Bool) := ltree Tryz.prog [] [] [0, 1, 0, 1, 1] bodyPc 19 0 livePc poN s
noncomputable abbrev bodyWo : Code := loopAt Tryz.f73 [0, 1, 0, 1]
def SWo (s : ByteArray) (n : Nat) (g : Nat → Nat → Q) (i : Int) : St := mkS 19 [(0, lS n g), (1, V.s s), (5, V.i i)] [] [] false [] 0
def liveWo : Ex → List Nat | .normal => [0, 1, 5] | .ret => [4] | _ => []
noncomputable abbrev treeWo (s : St) : T (Ex × St × Bool) := ltree Tryz.prog [] [] [0, 1, 0, 1] bodyWo 19 0 liveWo poN s
noncomputable abbrev bodyNb : Code := loopAt Tryz.f72 [0, 1, 0, 1, 1]
def SNb (s : ByteArray) (n i : Int) : St := mkS 38 [(0, V.s s), (3, V.i n), (4, V.i i)] [] [] false [] 0
def liveNb : Ex → List Nat | .normal => [0, 3, 4] | .ret => [2] | _ => [0, 3]
noncomputable abbrev treeNb (s : St) : T (Ex × St × Bool) := ltree Tryz.prog [] [] [0, 1, 0, 1, 1] bodyNb 38 0 liveNb poN s
noncomputable abbrev bodySl : Code := loopAt Tryz.f32 [0, 1, 0, 1]
def SSl (s b : ByteArray) (i : Int) : St := mkS 36 [(0, V.s s), (1, V.s b), (7, V.i i)] [] [] false [] 0
def liveSl : Ex → List Nat | .normal => [0, 1, 7] | .ret => [4, 5, 6] | _ => [0]
noncomputable abbrev treeSl (s : St) : T (Ex × St × Bool) := ltree Tryz.prog [] [] [0, 1, 0, 1] bodySl 36 0 liveSl poN s
theorem rBare.ok : SpecOK Tryz.prog 34 (fun | [.q (.c (.string x))] => .leaf (V.b (bareB x)) | _ => .bad) := by
  refine okF (GOK.nil _) Tryz.func34 (by kernel_rfl) (by kernel_rfl) fun args r hb hr => ?_
  split at hr
  · rename_i x
    exact ⟨[], LamOK.nil _ _, (congrArg T.pick (show funV Tryz.prog [] [] Tryz.f34 (cod Tryz.f34) [V.s x] = .leaf (V.b (bareB x)) by kernel_rfl)).trans hr⟩
  · cases hr
/-! ### place -/
theorem nmG_at {i : Nat} (h : i < 16) : qStr (gOf strQ nmF i 0) = nmB i := by
  rw [gOf_at strQ nmF (show i < nmF.length from h)]
  simp [nmB, List.getD_eq_getElem?_getD, show i < nmF.length from h]
  rfl
theorem fstN_congr {n : Nat} {q r : Nat → Bool} (h : ∀ i, i < n → q i = r i) : fstN n q = fstN n r := by
  cases hr : fstN n r with
  | none =>
    refine fstN_none fun j hj => ?_
    rw [h j hj]
    have := List.find?_eq_none.1 hr j (List.mem_range.2 hj)
    simpa using this
  | some k =>
    have hk := fstN_lt hr
    rw [fstN, List.find?_range_eq_some] at hr
    refine fstN_some hk (by rw [h k hk]; exact hr.1) fun j hj => ?_
    rw [h j (by omega)]
    have := hr.2.2 j hj
    simpa using this
abbrev qPc (s : ByteArray) (g : Nat → Nat → Q) (i : Nat) : Bool := seqB (qStr (g i 0)) s
theorem stepPc (s : ByteArray) (n : Nat) (g : Nat → Nat → Q) (i : Nat) : treePc (SPc s n g i) = .ite (decide ((i : Int) < n)) (.ite (inI i n) (.ite (qPc s g i) (.leaf (.ret, mkS 19 [(2, V.i i)] [] [] false [] 0, true)) (.leaf (.normal, SPc s n g (w64 (i + 1)), true))) .bad) (.leaf (.exit 0, mkS 19 [] [] [] false [] 0, true)) := by kernel_rfl
theorem loopPc (s : ByteArray) (n : Nat) (g : Nat → Nat → Q) (hn : n ≤ 9223372036854775807) : ∀ x, (T.ite (fstN n (qPc s g)).isSome (.leaf (Ex.ret, mkS 19 [(2, V.i ((fstN n (qPc s g)).getD 0 : Nat))] [] [] false [] 0)) (.leaf (.exit 0, mkS 19 [] [] [] false [] 0))).pick = some x → SemC Tryz.prog (.loop bodyPc) (SPc s n g (0 : Nat)) x := by
  refine loopFnd (GOK.nil _) (root := cod Tryz.f33) (p := [0, 1, 0, 1, 1]) (by kernel_rfl) hn (fun i => SPc s n g i) (qPc s g) (fun k => mkS 19 [(2, V.i (k : Nat))] [] [] false [] 0) _ 19 0 livePc poN poN_ok (fun i hlt hq => ?_) (fun i hlt hq => ?_) ?_
  · exact (congrArg T.pick (stepPc s n g i)).trans (by rw [c_lt hlt, c_inI hlt, hq]; rfl)
  · exact (congrArg T.pick (stepPc s n g i)).trans (by rw [c_lt hlt, c_inI hlt, hq]; rfl)
  · exact (congrArg T.pick (stepPc s n g n)).trans (by rw [c_ge (Nat.le_refl _)]; rfl)
abbrev ΓPc : Gam := [(26, rNames.s)]
theorem ΓPc.ok : GOK Tryz.prog ΓPc := .cons rNames.ok (GOK.nil _)
abbrev rPlace.s : List V → T V := fun | [.q (.c (.string x))] => .leaf (V.i (plN x)) | _ => .bad
theorem rPlace.ok : SpecOK Tryz.prog 33 rPlace.s := by
  refine okF ΓPc.ok Tryz.func33 (by kernel_rfl) (by kernel_rfl) fun args r hb hr => ?_
  unfold rPlace.s at hr
  split at hr
  · rename_i x
    refine ⟨_, LamOK.orc (p := [0, 1, 0, 1, 1]) (mk := false) (nn := 19) (k := 0) (live := [0, 3, 4]) (c := .loop bodyPc) (by kernel_rfl) (loopPc x 16 (gOf strQ nmF) (by omega)) (LamOK.nil _ _), ?_⟩
    have e : ∀ q k, funV Tryz.prog ΓPc [([0, 1, 0, 1, 1], orc false 19 0 [0, 3, 4] (SPc x 16 (gOf strQ nmF) (0 : Nat)) (.ite q (.leaf (Ex.ret, mkS 19 [(2, V.i k)] [] [] false [] 0)) (.leaf (.exit 0, mkS 19 [] [] [] false [] 0))))] Tryz.f33 (cod Tryz.f33) [V.s x] =
        .ite (@decide (SPc x 16 (gOf strQ nmF) (0 : Nat) = SPc x 16 (gOf strQ nmF) (0 : Nat)) (Classical.propDecidable _)) (.ite q (.leaf (V.i k)) (.leaf (V.i (-1)))) .bad := fun q k => by kernel_rfl
    rw [e, ← hr]
    refine (pick_same _ _).trans ?_
    have hf : fstN 16 (qPc x (gOf strQ nmF)) = fstN 16 fun i => seqB (nmB i) x := fstN_congr fun i hi => by
      show seqB (qStr (gOf strQ nmF i 0)) x = _
      rw [nmG_at hi]
    rw [hf, plN]
    cases fstN 16 fun i => seqB (nmB i) x <;> rfl
  · cases hr
/-! ### word -/
theorem stepWo (s : ByteArray) (n : Nat) (g : Nat → Nat → Q) (i : Nat) : treeWo (SWo s n g i) = .ite (decide ((i : Int) < n)) (.ite (inI i n) (.ite (qWr s g i) (.leaf (.ret, mkS 19 [(4, V.i i)] [] [] false [] 0, true)) (.leaf (.normal, SWo s n g (w64 (i + 1)), true))) .bad) (.leaf (.exit 0, mkS 19 [] [] [] false [] 0, true)) := by kernel_rfl
theorem loopWo (s : ByteArray) (n : Nat) (g : Nat → Nat → Q) (hn : n ≤ 9223372036854775807) : ∀ x, (T.ite (fstN n (qWr s g)).isSome (.leaf (Ex.ret, mkS 19 [(4, V.i ((fstN n (qWr s g)).getD 0 : Nat))] [] [] false [] 0)) (.leaf (.exit 0, mkS 19 [] [] [] false [] 0))).pick = some x → SemC Tryz.prog (.loop bodyWo) (SWo s n g (0 : Nat)) x := by
  refine loopFnd (GOK.nil _) (root := cod Tryz.f73) (p := [0, 1, 0, 1]) (by kernel_rfl) hn (fun i => SWo s n g i) (qWr s g) (fun k => mkS 19 [(4, V.i (k : Nat))] [] [] false [] 0) _ 19 0 liveWo poN poN_ok (fun i hlt hq => ?_) (fun i hlt hq => ?_) ?_
  · exact (congrArg T.pick (stepWo s n g i)).trans (by rw [c_lt hlt, c_inI hlt, hq]; rfl)
  · exact (congrArg T.pick (stepWo s n g i)).trans (by rw [c_lt hlt, c_inI hlt, hq]; rfl)
  · exact (congrArg T.pick (stepWo s n g n)).trans (by rw [c_ge (Nat.le_refl _)]; rfl)
def rWord.s : List V → T V
  | [.q (.lst [.str] n g), .q (.c (.string s))] => .leaf (V.i (wdR s g n))
  | _ => .bad
theorem rWord.ok : SpecOK Tryz.prog 73 rWord.s := by
  refine okF (GOK.nil _) Tryz.func73 (by kernel_rfl) (by kernel_rfl) fun args r hb hr => ?_
  unfold rWord.s at hr
  split at hr
  · rename_i n g s
    have hn : n ≤ 9223372036854775807 := (hb (lS n g) (by simp)).1
    refine ⟨_, LamOK.orc (p := [0, 1, 0, 1]) (mk := false) (nn := 19) (k := 0) (live := [0, 1, 5]) (c := .loop bodyWo) (by kernel_rfl) (loopWo s n g hn) (LamOK.nil _ _), ?_⟩
    have e : ∀ q k, funV Tryz.prog [] [([0, 1, 0, 1], orc false 19 0 [0, 1, 5] (SWo s n g (0 : Nat)) (.ite q (.leaf (Ex.ret, mkS 19 [(4, V.i k)] [] [] false [] 0)) (.leaf (.exit 0, mkS 19 [] [] [] false [] 0))))] Tryz.f73 (cod Tryz.f73) [lS n g, V.s s] =
        .ite (@decide (SWo s n g (0 : Nat) = SWo s n g (0 : Nat)) (Classical.propDecidable _)) (.ite q (.leaf (V.i k)) (.leaf (V.i (-1)))) .bad := fun q k => by kernel_rfl
    rw [e, ← hr]
    refine (pick_same _ _).trans ?_
    show _ = some (V.i (idxI (fstN n (qWr s g))))
    cases fstN n (qWr s g) <;> rfl
  · cases hr
/-! ### number -/
abbrev rtNb : Ex × St × Bool := (.ret, mkS 38 [(2, V.i (-1))] [] [] false [] 0, true)
abbrev fNb (s : ByteArray) (n : Int) : St := mkS 38 [(0, V.s s), (3, V.i n)] [] [] false [] 0
theorem stepNb (s : ByteArray) (n : Int) (i : Nat) : treeNb (SNb s n i) = .ite (decide ((i : Int) < s.size)) (.ite (inI i s.size) (.ite (decide (sByte s i < 48)) (.leaf rtNb) (.ite (inI i s.size) (.ite (decide (sByte s i > 57)) (.leaf rtNb) (.ite (decide (n > 1000)) (.leaf rtNb) (.ite (inI i s.size)
    (.leaf (.normal, SNb s (w64 (w64 (10 * n) + d8 s i)) (w64 (i + 1)), true)) .bad))) .bad)) .bad) (.leaf (.exit 0, fNb s n, true)) := by kernel_rfl
abbrev RNb (s : ByteArray) (o : Option Int) : Out := .ite o.isSome (.leaf (.exit 0, fNb s (o.getD 0))) (.leaf (.ret, mkS 38 [(2, V.i (-1))] [] [] false [] 0))
theorem loopNb (s : ByteArray) (hs : s.size ≤ 1000000) : ∀ x, (RNb s (nb1 0 (bL s))).pick = some x → SemC Tryz.prog (.loop bodyNb) (SNb s 0 (0 : Nat)) x := by
  refine loop_treeP (GOK.nil _) (root := cod Tryz.f72) (p := [0, 1, 0, 1, 1]) (by kernel_rfl) (fun y : Int × Nat => y.2 ≤ s.size ∧ (0 ≤ y.1 ∧ y.1 ≤ 10009) ∧ nb1 y.1 ((bL s).drop y.2) = nb1 0 (bL s))
    (fun y => SNb s y.1 (y.2 : Nat)) (fun y => s.size - y.2) (RNb s (nb1 0 (bL s))) 38 0 liveNb (fun _ => []) poN poN_ok (fun y hy => ?_) (0, 0) ⟨Nat.zero_le _, ⟨by show (0 : Int) ≤ 0; omega, by show (0 : Int) ≤ 10009; omega⟩, rfl⟩
  obtain ⟨n, i⟩ := y
  obtain ⟨h1, h2, h3⟩ := hy
  simp only at h1 h2 h3
  have e := stepNb s n i
  rcases Nat.lt_or_ge i s.size with hlt | hge
  · obtain ⟨c, hc, hb⟩ := drop_at hlt
    rw [c_lt hlt, c_inI hlt, hb] at e
    by_cases hd : (48 ≤ c.toNat ∧ c.toNat ≤ 57) ∧ ¬ n > 1000
    · have hd8 := d8_eq hb hd.1
      rw [decide_eq_false (show ¬ ((c.toNat : Nat) : Int) < 48 by omega), decide_eq_false (show ¬ ((c.toNat : Nat) : Int) > 57 by omega), decide_eq_false hd.2, hd8, w64_id (n := 10 * n) (by omega) (by omega), w64_id (n := 10 * n + _) (by omega) (by omega), w64_suc hlt (by omega)] at e
      refine ⟨[], .normal, _, LamOK.nil _ _, (congrArg T.pick e).trans rfl, .inl ⟨rfl, (10 * n + ((c.toNat : Int) - 48), i + 1), ⟨hlt, ⟨by show 0 ≤ 10 * n + ((c.toNat : Int) - 48); omega, by show 10 * n + ((c.toNat : Int) - 48) ≤ _; omega⟩, ?_⟩, by show s.size - (i + 1) < s.size - i; omega, rfl⟩⟩
      rw [← h3, hc, nb1, show isDig c.toNat = true from decide_eq_true hd.1, cond_true, decide_eq_false hd.2]; rfl
    · have hl : nb1 n ((bL s).drop i) = none := by
        rw [hc, nb1]
        by_cases g1 : 48 ≤ c.toNat ∧ c.toNat ≤ 57
        · rw [show isDig c.toNat = true from decide_eq_true g1, cond_true, decide_eq_true (show n > 1000 by omega)]; rfl
        · rw [show isDig c.toNat = false from decide_eq_false g1]; rfl
      rw [hl] at h3
      refine ⟨[], .ret, _, LamOK.nil _ _, (congrArg T.pick e).trans ?_, .inr ⟨by simp, by rw [← h3]; rfl⟩⟩
      by_cases g1 : c.toNat < 48
      · rw [decide_eq_true (show ((c.toNat : Nat) : Int) < 48 by omega)]; rfl
      · rw [decide_eq_false (show ¬ ((c.toNat : Nat) : Int) < 48 by omega)]
        by_cases g2 : c.toNat > 57
        · rw [decide_eq_true (show ((c.toNat : Nat) : Int) > 57 by omega)]; rfl
        · rw [decide_eq_false (show ¬ ((c.toNat : Nat) : Int) > 57 by omega), decide_eq_true (show n > 1000 by omega)]; rfl
  · rw [c_ge hge] at e
    have hl : nb1 n ((bL s).drop i) = some n := by
      rw [List.drop_eq_nil_of_le (show (bL s).length ≤ i from hge)]; rfl
    rw [hl] at h3
    exact ⟨[], .exit 0, _, LamOK.nil _ _, (congrArg T.pick e).trans rfl, .inr ⟨by simp, by rw [← h3]; rfl⟩⟩
theorem nb1_rng : ∀ (l : List UInt8) (n m : Int), 0 ≤ n ∧ n ≤ 10009 → nb1 n l = some m → 0 ≤ m ∧ m ≤ 10009
  | [], n, m, h, e => by cases e; exact h
  | c :: l, n, m, h, e => by
    rw [nb1] at e
    cases hc : (bif isDig c.toNat then decide (n > 1000) else true) with
    | true => rw [hc] at e; cases e
    | false =>
      rw [hc, cond_false] at e
      cases hd : isDig c.toNat with
      | false => rw [hd] at hc; cases hc
      | true =>
        rw [hd, cond_true] at hc
        have h1 := of_decide_eq_false hc
        have h2 := of_decide_eq_true (show decide (48 ≤ c.toNat ∧ c.toNat ≤ 57) = true from hd)
        exact nb1_rng l _ m (by omega) e
abbrev ΓNb : Gam := [(43, rDig.s)]
theorem ΓNb.ok : GOK Tryz.prog ΓNb := .cons rDig.ok (GOK.nil _)
def rNum.s : List V → T V
  | [.q (.c (.string s))] => .ite (decide (s.size ≤ 1000000)) (.leaf (V.i (nbN s))) .bad
  | _ => .bad
theorem rNum.ok : SpecOK Tryz.prog 72 rNum.s := by
  refine okF ΓNb.ok Tryz.func72 (by kernel_rfl) (by kernel_rfl) fun args r hb hr => ?_
  unfold rNum.s at hr
  split at hr
  · rename_i s
    rw [pick_ite] at hr
    by_cases hs : s.size ≤ 1000000
    · rw [decide_eq_true hs, cond_true, pick_leaf] at hr
      refine ⟨_, LamOK.orc (p := [0, 1, 0, 1, 1]) (mk := false) (nn := 38) (k := 0) (live := [0, 3, 4]) (c := .loop bodyNb) (by kernel_rfl) (loopNb s hs) (LamOK.nil _ _), ?_⟩
      have e : ∀ b n, funV Tryz.prog ΓNb [([0, 1, 0, 1, 1], orc false 38 0 [0, 3, 4] (SNb s 0 (0 : Nat)) (.ite b (.leaf (.exit 0, fNb s n)) (.leaf (.ret, mkS 38 [(2, V.i (-1))] [] [] false [] 0))))] Tryz.f72 (cod Tryz.f72) [V.s s] =
          .ite (@decide (SNb s 0 (0 : Nat) = SNb s 0 (0 : Nat)) (Classical.propDecidable _)) (.ite b (.ite (okD n) (.ite (!(seqB (digT n) s)) (.leaf (V.i (-1))) (.leaf (V.i n))) .bad) (.leaf (V.i (-1)))) .bad := fun b n => by kernel_rfl
      rw [e, ← hr]
      refine (pick_same _ _).trans ?_
      rw [nbN]
      cases hn : nb1 0 (bL s) with
      | none => rfl
      | some n =>
        have hr := nb1_rng _ 0 n (by omega) hn
        simp only [Option.isSome_some, Option.getD_some, pick_ite, cond_true]
        rw [show okD n = true from decide_eq_true ⟨hr.1, by omega, Nat.le_refl _⟩]
        cases seqB (digT n) s <;> rfl
    · rw [decide_eq_false hs] at hr; cases hr
  · cases hr
/-! ### split -/
abbrev qSl (s b : ByteArray) (i : Nat) : Bool := seqB (s.extract i (i + b.size)) b
abbrev rtSl (s b : ByteArray) (i : Nat) : St := mkS 36 [(4, V.s (s.extract 0 i)), (5, V.s (s.extract (i + b.size) s.size)), (6, V.b true)] [] [] false [] 0
abbrev fSl (s : ByteArray) : St := mkS 36 [(0, V.s s)] [] [] false [] 0
abbrev sB3 (a b c : Int) : Bool := decide (a ≤ b ∧ b ≤ c)
theorem stepSl (s b : ByteArray) (i : Int) : treeSl (SSl s b i) = .ite (decide (w64 (i + (b.size : Int)) ≤ (s.size : Int))) (.ite (decide (0 ≤ i ∧ i ≤ w64 (i + (b.size : Int)) ∧ w64 (i + (b.size : Int)) ≤ (s.size : Int))) (.ite (seqB (s.extract i.toNat (w64 (i + (b.size : Int))).toNat) b)
    (.ite (decide ((0 : Int) ≤ 0 ∧ 0 ≤ i ∧ i ≤ (s.size : Int))) (.ite (decide (0 ≤ w64 (i + (b.size : Int)) ∧ w64 (i + (b.size : Int)) ≤ (s.size : Int) ∧ (s.size : Int) ≤ (s.size : Int))) (.leaf (.ret, mkS 36 [(4, V.s (s.extract 0 i.toNat)), (5, V.s (s.extract (w64 (i + (b.size : Int))).toNat (s.size : Int).toNat)), (6, V.b true)] [] [] false [] 0, true)) .bad) .bad)
    (.leaf (.normal, SSl s b (w64 (i + 1)), true))) .bad) (.leaf (.exit 0, fSl s, true)) := by kernel_rfl
theorem loopSl (s b : ByteArray) (hs : s.size ≤ 1000000) (hb : b.size ≤ 1000000) : ∀ x, (T.ite (fstN (s.size + 1 - b.size) (qSl s b)).isSome (.leaf (Ex.ret, rtSl s b ((fstN (s.size + 1 - b.size) (qSl s b)).getD 0))) (.leaf (.exit 0, fSl s))).pick = some x → SemC Tryz.prog (.loop bodySl) (SSl s b (0 : Nat)) x := by
  have hw : ∀ i : Nat, i ≤ s.size + 1 → w64 ((i : Int) + (b.size : Int)) = ((i + b.size : Nat) : Int) := fun i hi => by rw [w64_id (by omega) (by omega)]; omega
  refine loopFnd (GOK.nil _) (root := cod Tryz.f32) (p := [0, 1, 0, 1]) (by kernel_rfl) (n := s.size + 1 - b.size) (by omega) (fun i => SSl s b i) (qSl s b) (rtSl s b) _ 36 0 liveSl poN poN_ok (fun i hlt hq => ?_) (fun i hlt hq => ?_) ?_
  · have e := stepSl s b i
    rw [hw i (by omega), decide_eq_true (show ((i + b.size : Nat) : Int) ≤ (s.size : Int) by omega), decide_eq_true (show 0 ≤ ((i : Nat) : Int) ∧ ((i : Nat) : Int) ≤ ((i + b.size : Nat) : Int) ∧ ((i + b.size : Nat) : Int) ≤ (s.size : Int) by omega),
      decide_eq_true (show (0 : Int) ≤ 0 ∧ 0 ≤ ((i : Nat) : Int) ∧ ((i : Nat) : Int) ≤ (s.size : Int) by omega), decide_eq_true (show 0 ≤ ((i + b.size : Nat) : Int) ∧ ((i + b.size : Nat) : Int) ≤ (s.size : Int) ∧ (s.size : Int) ≤ (s.size : Int) by omega)] at e
    simp only [Int.toNat_natCast] at e
    rw [show seqB (s.extract i (i + b.size)) b = true from hq] at e
    exact (congrArg T.pick e).trans rfl
  · have e := stepSl s b i
    rw [hw i (by omega), decide_eq_true (show ((i + b.size : Nat) : Int) ≤ (s.size : Int) by omega), decide_eq_true (show 0 ≤ ((i : Nat) : Int) ∧ ((i : Nat) : Int) ≤ ((i + b.size : Nat) : Int) ∧ ((i + b.size : Nat) : Int) ≤ (s.size : Int) by omega)] at e
    simp only [Int.toNat_natCast] at e
    rw [show seqB (s.extract i (i + b.size)) b = false from hq] at e
    exact (congrArg T.pick e).trans rfl
  · have e := stepSl s b ((s.size + 1 - b.size : Nat) : Int)
    rw [hw _ (by omega), decide_eq_false (show ¬ ((s.size + 1 - b.size + b.size : Nat) : Int) ≤ (s.size : Int) by omega)] at e
    exact (congrArg T.pick e).trans rfl
theorem qSl_occ {s b : ByteArray} {i : Nat} (h : i + b.size ≤ s.size) : qSl s b i = Lib.occAt (bL s) (bL b) i := by
  have h1 : bL (s.extract i (i + b.size)) = ((bL s).drop i).take (bL b).length := by
    rw [show (bL b).length = b.size from rfl]
    have := Lib.extract_data s i (i + b.size)
    rw [show i + b.size - i = b.size by omega] at this
    exact this
  rw [Bool.eq_iff_iff, seqB_iff]
  unfold Lib.occAt
  have h2 := Lib.hasPrefix_of_take ((bL s).drop i) (bL b)
  unfold Lib.hasPrefix at h2
  rw [← h2, Bool.and_eq_true, decide_eq_true_iff, beq_iff_eq, ← h1]
  constructor
  · intro h3
    refine ⟨?_, by rw [h3]⟩
    rw [List.length_drop]
    show b.size ≤ s.size - i
    omega
  · intro h3; exact bL_inj h3.2
theorem split_cut (s b : ByteArray) (hb : 1 ≤ b.size) : (match fstN (s.size + 1 - b.size) (qSl s b) with | some k => V.tup [V.s (s.extract 0 k), V.s (s.extract (k + b.size) s.size), V.b true] | none => V.tup [V.s s, V.s (bT []), V.b false]) = cutR s b := by
  cases hf : fstN (s.size + 1 - b.size) (qSl s b) with
  | some k =>
    have hk := fstN_lt hf
    rw [fstN, List.find?_range_eq_some] at hf
    have hi : Lib.index (bL s) (bL b) = (k : Nat) := Lib.index_first (by show k ≤ s.size; omega) (by rw [← qSl_occ (by omega)]; exact hf.1) fun j hj => by
      rw [← qSl_occ (by omega)]
      have := hf.2.2 j hj
      simpa using this
    obtain ⟨c1, c2, c3⟩ := Lib.cutB_hit s b k hi
    have d1 : bT (cutS s b).1 = s.extract 0 k := c1
    have d2 : bT (cutS s b).2.1 = s.extract (k + b.size) s.size := c2
    have d3 : (cutS s b).2.2 = true := c3
    show V.tup _ = V.tup [V.s (bT (cutS s b).1), V.s (bT (cutS s b).2.1), V.b (cutS s b).2.2]
    rw [d1, d2, d3]
  | none =>
    have hi : Lib.index (bL s) (bL b) = -1 := Lib.index_none fun j hj => by
      have hj : j ≤ s.size := hj
      rcases Nat.lt_or_ge (s.size) (j + b.size) with h | h
      · rw [Bool.eq_false_iff]
        intro ho
        rcases Lib.occAt_room ho with h1 | h1
        · have h2 : (bL b).length = b.size := rfl
          have h3 : (bL s).length = s.size := rfl
          omega
        · have h2 : (bL b).length = b.size := rfl
          rw [h1] at h2
          simp at h2
          omega
      · rw [← qSl_occ h]
        have := List.find?_eq_none.1 hf j (List.mem_range.2 (by omega))
        simpa using this
    obtain ⟨c1, c2, c3⟩ := Lib.cutB_miss s b hi
    have d1 : bT (cutS s b).1 = s := c1
    have d2 : bT (cutS s b).2.1 = bT [] := c2
    have d3 : (cutS s b).2.2 = false := c3
    show V.tup _ = V.tup [V.s (bT (cutS s b).1), V.s (bT (cutS s b).2.1), V.b (cutS s b).2.2]
    rw [d1, d2, d3]
def rSplit.s : List V → T V
  | [.q (.c (.string s)), .q (.c (.string b))] => .ite (decide (s.size ≤ 1000000 ∧ 1 ≤ b.size ∧ b.size ≤ 1000)) (.leaf (cutR s b)) .bad
  | _ => .bad
theorem rSplit.ok : SpecOK Tryz.prog 32 rSplit.s := by
  refine okF (GOK.nil _) Tryz.func32 (by kernel_rfl) (by kernel_rfl) fun args r hb hr => ?_
  unfold rSplit.s at hr
  split at hr
  · rename_i s b
    rw [pick_ite] at hr
    by_cases hs : s.size ≤ 1000000 ∧ 1 ≤ b.size ∧ b.size ≤ 1000
    · rw [decide_eq_true hs, cond_true, pick_leaf] at hr
      refine ⟨_, LamOK.orc (p := [0, 1, 0, 1]) (mk := false) (nn := 36) (k := 0) (live := [0, 1, 7]) (c := .loop bodySl) (by kernel_rfl) (loopSl s b hs.1 (by omega)) (LamOK.nil _ _), ?_⟩
      have e : ∀ q k, funV Tryz.prog [] [([0, 1, 0, 1], orc false 36 0 [0, 1, 7] (SSl s b (0 : Nat)) (.ite q (.leaf (Ex.ret, rtSl s b k)) (.leaf (.exit 0, fSl s))))] Tryz.f32 (cod Tryz.f32) [V.s s, V.s b] =
          .ite (@decide (SSl s b (0 : Nat) = SSl s b (0 : Nat)) (Classical.propDecidable _)) (.ite q (.leaf (.tup [V.s (s.extract 0 k), V.s (s.extract (k + b.size) s.size), V.b true])) (.leaf (.tup [V.s s, V.s (bT []), V.b false]))) .bad := fun q k => by kernel_rfl
      rw [e, ← hr, ← split_cut s b hs.2.1]
      refine (pick_same _ _).trans ?_
      cases fstN (s.size + 1 - b.size) (qSl s b) <;> rfl
    · rw [decide_eq_false hs] at hr; cases hr
  · cases hr
/-! ### field -/
/-- A field's text, and whether it is said. -/
def fdT (s : Sty) : Nat → ByteArray
  | 0 => digT s.c
  | 1 => printT s.w
  | 2 => printT s.g
  | 3 => printT s.r
  | 4 => bT []
  | 5 => printT s.h
  | 6 => digT s.o
  | 7 => digT s.wi
  | 8 => bT []
  | 9 => qStr (avoid3 s.b.toNat 0)
  | 10 => qStr (avoid3 s.af.toNat 0)
  | 11 => bT []
  | 12 => qStr (left3 s.si.toNat 0)
  | 13 => bT []
  | 14 => printT s.t
  | 15 => printT s.bo
  | _ => bT []
def fdB (s : Sty) : Nat → Bool
  | 0 => s.c != 0
  | 1 => s.w != 0
  | 2 => s.g != 0
  | 3 => s.r != 0
  | 4 => s.a
  | 5 => s.h != 0
  | 6 => s.o != 1
  | 7 => s.wi != 1
  | 8 => s.k
  | 9 => s.b != 0
  | 10 => s.af != 0
  | 11 => s.sp
  | 12 => s.si != 0
  | 13 => s.cl
  | 14 => s.t != 0
  | 15 => s.bo != 0
  | _ => false
def fdC (s : Sty) : Nat → Bool
  | 0 => okD s.c
  | 6 => okD s.o
  | 7 => okD s.wi
  | 9 => decide (0 ≤ s.b ∧ s.b < ((3 : Nat) : Int))
  | 10 => decide (0 ≤ s.af ∧ s.af < ((3 : Nat) : Int))
  | 12 => decide (0 ≤ s.si ∧ s.si < ((3 : Nat) : Int))
  | _ => true
abbrev ΓFl : Gam := [(17, plain.s), (43, rDig.s), (44, rLen.s)]
theorem ΓFl.ok : GOK Tryz.prog ΓFl := .cons rPlain.ok (.cons rDig.ok (.cons rLen.ok (GOK.nil _)))
noncomputable abbrev trFl (s : Sty) (i : Nat) : T V := funV Tryz.prog ΓFl [] Tryz.f27 (cod Tryz.f27) [styV s, V.s (nmB i)]
abbrev oFl (s : Sty) (i : Nat) : T V := .ite (fdC s i) (.leaf (.tup [V.s (fdT s i), V.b (fdB s i)])) .bad
theorem fl_0 (s : Sty) : (trFl s 0).pick = (oFl s 0).pick := by kernel_rfl
theorem fl_1 (s : Sty) : (trFl s 1).pick = (oFl s 1).pick := by kernel_rfl
theorem fl_2 (s : Sty) : (trFl s 2).pick = (oFl s 2).pick := by kernel_rfl
theorem fl_3 (s : Sty) : (trFl s 3).pick = (oFl s 3).pick := by kernel_rfl
theorem fl_4 (s : Sty) : (trFl s 4).pick = (oFl s 4).pick := by kernel_rfl
theorem fl_5 (s : Sty) : (trFl s 5).pick = (oFl s 5).pick := by kernel_rfl
theorem fl_6 (s : Sty) : (trFl s 6).pick = (oFl s 6).pick := by kernel_rfl
theorem fl_7 (s : Sty) : (trFl s 7).pick = (oFl s 7).pick := by kernel_rfl
theorem fl_8 (s : Sty) : (trFl s 8).pick = (oFl s 8).pick := by kernel_rfl
theorem fl_9 (s : Sty) : (trFl s 9).pick = (oFl s 9).pick := by kernel_rfl
theorem fl_10 (s : Sty) : (trFl s 10).pick = (oFl s 10).pick := by kernel_rfl
theorem fl_11 (s : Sty) : (trFl s 11).pick = (oFl s 11).pick := by kernel_rfl
theorem fl_12 (s : Sty) : (trFl s 12).pick = (oFl s 12).pick := by kernel_rfl
theorem fl_13 (s : Sty) : (trFl s 13).pick = (oFl s 13).pick := by kernel_rfl
theorem fl_14 (s : Sty) : (trFl s 14).pick = (oFl s 14).pick := by kernel_rfl
theorem fl_15 (s : Sty) : (trFl s 15).pick = (oFl s 15).pick := by kernel_rfl
theorem fl_at (s : Sty) : ∀ i, i < 16 → (trFl s i).pick = (oFl s i).pick
  | 0, _ => fl_0 s
  | 1, _ => fl_1 s
  | 2, _ => fl_2 s
  | 3, _ => fl_3 s
  | 4, _ => fl_4 s
  | 5, _ => fl_5 s
  | 6, _ => fl_6 s
  | 7, _ => fl_7 s
  | 8, _ => fl_8 s
  | 9, _ => fl_9 s
  | 10, _ => fl_10 s
  | 11, _ => fl_11 s
  | 12, _ => fl_12 s
  | 13, _ => fl_13 s
  | 14, _ => fl_14 s
  | 15, _ => fl_15 s
  | n + 16, h => by omega
theorem fdC_of {s : Sty} (h : RightS s) : ∀ i, i < 16 → fdC s i = true
  | 0, _ => decide_eq_true (by have := h.c; exact ⟨by omega, by omega, Nat.le_refl _⟩)
  | 1, _ => rfl
  | 2, _ => rfl
  | 3, _ => rfl
  | 4, _ => rfl
  | 5, _ => rfl
  | 6, _ => decide_eq_true (by have := h.o; exact ⟨by omega, by omega, Nat.le_refl _⟩)
  | 7, _ => decide_eq_true (by have := h.wi; exact ⟨by omega, by omega, Nat.le_refl _⟩)
  | 8, _ => rfl
  | 9, _ => decide_eq_true (by have := h.b; omega)
  | 10, _ => decide_eq_true (by have := h.af; omega)
  | 11, _ => rfl
  | 12, _ => decide_eq_true (by have := h.si; omega)
  | 13, _ => rfl
  | 14, _ => rfl
  | 15, _ => rfl
  | n + 16, h => by omega
theorem fdB_iff (s : Sty) : ∀ i, i < 16 → (fdB s i = true ↔ fv s i ≠ fv plainS i)
  | 0, _ => bne_iff_ne
  | 1, _ => bne_iff_ne
  | 2, _ => bne_iff_ne
  | 3, _ => bne_iff_ne
  | 4, _ => by show s.a = true ↔ b2 s.a ≠ 0; cases s.a <;> simp [b2]
  | 5, _ => bne_iff_ne
  | 6, _ => bne_iff_ne
  | 7, _ => bne_iff_ne
  | 8, _ => by show s.k = true ↔ b2 s.k ≠ 0; cases s.k <;> simp [b2]
  | 9, _ => bne_iff_ne
  | 10, _ => bne_iff_ne
  | 11, _ => by show s.sp = true ↔ b2 s.sp ≠ 0; cases s.sp <;> simp [b2]
  | 12, _ => bne_iff_ne
  | 13, _ => by show s.cl = true ↔ b2 s.cl ≠ 0; cases s.cl <;> simp [b2]
  | 14, _ => bne_iff_ne
  | 15, _ => bne_iff_ne
  | n + 16, h => by omega
theorem dig_num {n : Int} (h : 0 ≤ n ∧ n < 100) : digT n = bT (Lib.itoa n) := by
  obtain ⟨k, rfl⟩ := Int.eq_ofNat_of_zero_le h.1
  rw [digT, Int.toNat_natCast, digL_100 (by omega), itoa_small (by omega)]
theorem w3_av {n : Int} (h : n = 1 ∨ n = 2) : qStr (avoid3 n.toNat 0) = qStr (avoidG (wdI n).toNat 0) := by
  rcases h with rfl | rfl <;> kernel_rfl
theorem w3_lf {n : Int} (h : n = 1 ∨ n = 2) : qStr (left3 n.toNat 0) = qStr (leftG (wdI n).toNat 0) := by
  rcases h with rfl | rfl <;> kernel_rfl
theorem fdT_eq {s : Sty} (h : RightS s) : ∀ i, i < 16 → fv s i ≠ fv plainS i → fdT s i = txB s i
  | 0, _, _ => dig_num (n := s.c) (by have := h.c; omega)
  | 1, _, _ => rfl
  | 2, _, _ => rfl
  | 3, _, _ => rfl
  | 4, _, _ => rfl
  | 5, _, _ => rfl
  | 6, _, _ => dig_num (n := s.o) (by have := h.o; omega)
  | 7, _, _ => dig_num (n := s.wi) (by have := h.wi; omega)
  | 8, _, _ => rfl
  | 9, _, hd => w3_av (n := s.b) (by have := h.b; have h0 : s.b ≠ 0 := hd; omega)
  | 10, _, hd => w3_av (n := s.af) (by have := h.af; have h0 : s.af ≠ 0 := hd; omega)
  | 11, _, _ => rfl
  | 12, _, hd => w3_lf (n := s.si) (by have := h.si; have h0 : s.si ≠ 0 := hd; omega)
  | 13, _, _ => rfl
  | 14, _, _ => rfl
  | 15, _, _ => rfl
  | n + 16, h, _ => by omega
theorem plN_inv {x : ByteArray} (h : 0 ≤ plN x ∧ plN x < 16) : x = nmB (plN x).toNat ∧ (plN x).toNat < 16 := by
  refine ⟨?_, by omega⟩
  by_cases hn : ∃ i, i < 16 ∧ x = nmB i
  · obtain ⟨i, hi, rfl⟩ := hn
    rw [plN_at hi, Int.toNat_natCast]
  · have := plN_no fun i hi e => hn ⟨i, hi, e⟩
    omega
def rField.s : List V → T V
  | [x, .q (.c (.string nm))] => onSt x fun s => .ite (bif rightS s then decide (0 ≤ plN nm ∧ plN nm < 16) else false) (.leaf (.tup [V.s (fdT s (plN nm).toNat), V.b (fdB s (plN nm).toNat)])) .bad
  | _ => .bad
theorem rField.ok : SpecOK Tryz.prog 27 rField.s := by
  refine okF ΓFl.ok Tryz.func27 (by kernel_rfl) (by kernel_rfl) fun args r hb hr => ?_
  unfold rField.s at hr
  split at hr
  · rename_i nm
    obtain ⟨s, rfl, hr2⟩ := onSt_pick hr
    rw [pick_ite] at hr2
    cases hR : rightS s with
    | false => rw [hR] at hr2; cases hr2
    | true =>
      rw [hR, cond_true] at hr2
      by_cases h : 0 ≤ plN nm ∧ plN nm < 16
      · rw [decide_eq_true h, cond_true, pick_leaf] at hr2
        obtain ⟨h1, h2⟩ := plN_inv h
        refine ⟨[], LamOK.nil _ _, ?_⟩
        rw [← hr2]
        have e := fl_at s (plN nm).toNat h2
        rw [pick_ite, fdC_of (rightS_of hR) _ h2, cond_true, pick_leaf] at e
        rw [← e]
        conv => lhs; rw [h1]
      · rw [decide_eq_false h] at hr2; cases hr2
  · cases hr
/-! ### set -/
abbrev ΓSt : Gam := [(71, uParse.s), (72, rNum.s), (73, rWord.s)]
theorem ΓSt.ok : GOK Tryz.prog ΓSt := .cons r1Parse.ok (.cons rNum.ok (.cons rWord.ok (GOK.nil _)))
noncomputable abbrev trSt (s : Sty) (v : ByteArray) (i : Nat) : T V := funV Tryz.prog ΓSt [] Tryz.f35 (cod Tryz.f35) [styV s, V.s (nmB i), V.s v]
abbrev oSt (s : Sty) (v : ByteArray) (i : Nat) : T V := .ite (decide (v.size ≤ 1000000)) (.ite (decide (v.size ≤ 1000000)) (.leaf (.tup [styV (rsR s v i).1, V.b (rsR s v i).2])) .bad) .bad
theorem st_0 (s : Sty) (v : ByteArray) : (trSt s v 0).pick = (oSt s v 0).pick := by kernel_rfl
theorem st_1 (s : Sty) (v : ByteArray) : (trSt s v 1).pick = (oSt s v 1).pick := by kernel_rfl
theorem st_2 (s : Sty) (v : ByteArray) : (trSt s v 2).pick = (oSt s v 2).pick := by kernel_rfl
theorem st_3 (s : Sty) (v : ByteArray) : (trSt s v 3).pick = (oSt s v 3).pick := by kernel_rfl
theorem st_4 (s : Sty) (v : ByteArray) : (trSt s v 4).pick = (oSt s v 4).pick := by kernel_rfl
theorem st_5 (s : Sty) (v : ByteArray) : (trSt s v 5).pick = (oSt s v 5).pick := by kernel_rfl
theorem st_6 (s : Sty) (v : ByteArray) : (trSt s v 6).pick = (oSt s v 6).pick := by kernel_rfl
theorem st_7 (s : Sty) (v : ByteArray) : (trSt s v 7).pick = (oSt s v 7).pick := by kernel_rfl
theorem st_8 (s : Sty) (v : ByteArray) : (trSt s v 8).pick = (oSt s v 8).pick := by kernel_rfl
theorem st_9 (s : Sty) (v : ByteArray) : (trSt s v 9).pick = (oSt s v 9).pick := by kernel_rfl
theorem st_10 (s : Sty) (v : ByteArray) : (trSt s v 10).pick = (oSt s v 10).pick := by kernel_rfl
theorem st_11 (s : Sty) (v : ByteArray) : (trSt s v 11).pick = (oSt s v 11).pick := by kernel_rfl
theorem st_12 (s : Sty) (v : ByteArray) : (trSt s v 12).pick = (oSt s v 12).pick := by kernel_rfl
theorem st_13 (s : Sty) (v : ByteArray) : (trSt s v 13).pick = (oSt s v 13).pick := by kernel_rfl
theorem st_14 (s : Sty) (v : ByteArray) : (trSt s v 14).pick = (oSt s v 14).pick := by kernel_rfl
theorem st_15 (s : Sty) (v : ByteArray) : (trSt s v 15).pick = (oSt s v 15).pick := by kernel_rfl
theorem st_at (s : Sty) (v : ByteArray) : ∀ i, i < 16 → (trSt s v i).pick = (oSt s v i).pick
  | 0, _ => st_0 s v
  | 1, _ => st_1 s v
  | 2, _ => st_2 s v
  | 3, _ => st_3 s v
  | 4, _ => st_4 s v
  | 5, _ => st_5 s v
  | 6, _ => st_6 s v
  | 7, _ => st_7 s v
  | 8, _ => st_8 s v
  | 9, _ => st_9 s v
  | 10, _ => st_10 s v
  | 11, _ => st_11 s v
  | 12, _ => st_12 s v
  | 13, _ => st_13 s v
  | 14, _ => st_14 s v
  | 15, _ => st_15 s v
  | n + 16, h => by omega
def rSet.s : List V → T V
  | [x, .q (.c (.string nm)), .q (.c (.string v))] => onSt x fun s => .ite (decide (v.size ≤ 1000000 ∧ 0 ≤ plN nm ∧ plN nm < 16)) (.leaf (.tup [styV (rsR s v (plN nm).toNat).1, V.b (rsR s v (plN nm).toNat).2])) .bad
  | _ => .bad
theorem rSet.ok : SpecOK Tryz.prog 35 rSet.s := by
  refine okF ΓSt.ok Tryz.func35 (by kernel_rfl) (by kernel_rfl) fun args r hb hr => ?_
  unfold rSet.s at hr
  split at hr
  · rename_i nm v
    obtain ⟨s, rfl, hr2⟩ := onSt_pick hr
    rw [pick_ite] at hr2
    by_cases h : v.size ≤ 1000000 ∧ 0 ≤ plN nm ∧ plN nm < 16
    · rw [decide_eq_true h, cond_true, pick_leaf] at hr2
      obtain ⟨h1, h2⟩ := plN_inv h.2
      refine ⟨[], LamOK.nil _ _, ?_⟩
      rw [← hr2]
      have e := st_at s v (plN nm).toNat h2
      rw [pick_ite, pick_ite, decide_eq_true h.1, cond_true, cond_true, pick_leaf] at e
      rw [← e]
      conv => lhs; rw [h1]
    · rw [decide_eq_false h] at hr2; cases hr2
  · cases hr
end Go.Proofs.YtgmeglodnhagdaaGreatDoor

/-! ## StN -/
namespace Go.Proofs.YtgmeglodnhagdaaGreatDoor
open Go Go.SX Go.Proofs Go.RowKit
set_option maxRecDepth 100000
variable [EA]
set_option linter.unusedVariables false
set_option linter.unusedSectionVars false
set_option linter.unusedSimpArgs false
/-! ### Print -/
def fldG (c : Sty → ByteArray → Bool) (T1 : Sty → ByteArray → ByteArray) (B1 : Sty → ByteArray → Bool) : List V → T V
  | [x, .q (.c (.string nm))] => onSt x fun s => .ite (c s nm) (.leaf (.tup [V.s (T1 s nm), V.b (B1 s nm)])) .bad
  | _ => .bad
abbrev ΓPn2 (c : Sty → ByteArray → Bool) (T1 : Sty → ByteArray → ByteArray) (B1 : Sty → ByteArray → Bool) (G : Sty → Bool) : Gam := [(27, fldG c T1 B1), (18, sty1 fun s => .leaf (V.b (G s))), (26, rNames.s)]
abbrev pPn : List Nat := [0, 1, 0, 1, 1, 1, 1]
noncomputable abbrev bodyPn : Code := loopAt Tryz.f11 pPn
def SPn (s : Sty) (out : ByteArray) (n : Nat) (g : Nat → Nat → Q) (i : Int) : St := mkS 47 [(1, .ptr 0 0), (4, V.s out), (5, lS n g), (6, V.i i)] [celS s] [] false [] 0
def livePn : Ex → List Nat | .normal => [1, 4, 5, 6] | _ => [4]
noncomputable abbrev treePn (c : Sty → ByteArray → Bool) (T1 : Sty → ByteArray → ByteArray) (B1 : Sty → ByteArray → Bool) (G : Sty → Bool) (s : St) : T (Ex × St × Bool) := ltree Tryz.prog (ΓPn2 c T1 B1 G) [] pPn bodyPn 47 1 livePn poN s
abbrev szq (a b : Nat) : Bool := decide (a + b ≤ 9223372036854775807)
abbrev nPn (s : Sty) (o : ByteArray) (n : Nat) (g : Nat → Nat → Q) (i : Nat) : T (Ex × St × Bool) := .leaf (.normal, SPn s o n g (w64 (i + 1)), true)
abbrev addPn (s : Sty) (o nm v : ByteArray) (n : Nat) (g : Nat → Nat → Q) (i : Nat) : T (Ex × St × Bool) := .ite (inI i n) (.ite (szq o.size nm.size) (.ite (!(seqB v (bT []))) (.ite (szq (o ++ nm).size 1) (.ite (szq (o ++ nm ++ bT [32]).size v.size) (nPn s (o ++ nm ++ bT [32] ++ v) n g i) .bad) .bad) (nPn s (o ++ nm) n g i)) .bad) .bad
abbrev fPn (s : Sty) (o : ByteArray) : St := mkS 47 [(4, V.s o)] [celS s] [] false [] 0
theorem stepPn (c : Sty → ByteArray → Bool) (T1 : Sty → ByteArray → ByteArray) (B1 : Sty → ByteArray → Bool) (G : Sty → Bool) (s : Sty) (o : ByteArray) (n : Nat) (g : Nat → Nat → Q) (i : Nat) : treePn c T1 B1 G (SPn s o n g i) =
    .ite (decide ((i : Int) < n)) (.ite (inI i n) (.ite (c s (qStr (g i 0))) (.ite (!(B1 s (qStr (g i 0)))) (nPn s o n g i) (.ite (!(seqB o (bT []))) (.ite (szq o.size 2) (addPn s (o ++ bT [59, 32]) (qStr (g i 0)) (T1 s (qStr (g i 0))) n g i) .bad) (addPn s o (qStr (g i 0)) (T1 s (qStr (g i 0))) n g i))) .bad) .bad) (.leaf (.exit 0, fPn s o, true)) := by kernel_rfl
theorem join_snoc2 {sep : List UInt8} (x : List UInt8) (l : List (List UInt8)) (z : List UInt8) : Lib.join (x :: l ++ [z]) sep = Lib.join (x :: l) sep ++ (sep ++ z) := by
  rw [List.cons_append, Lib.join_cons, Lib.join_cons]
  simp [Lib.joinTail]
theorem joinB_snoc2 {l : List ByteArray} (h : l ≠ []) (z : ByteArray) : joinB (l ++ [z]) semiB = joinB l semiB ++ (semiB ++ z) := by
  cases l with
  | nil => exact absurd rfl h
  | cons x l =>
    apply bL_inj
    rw [bL_app, bL_app, bL_bT, bL_bT, List.map_append, List.map_cons, List.map_singleton]
    exact join_snoc2 _ _ _
theorem joinB_one (z : ByteArray) : joinB [z] semiB = z := by
  show bT (Lib.join [bL z] _) = z
  rw [Lib.join_one, bT_bL]
theorem tx_ne {s : Sty} (h : RightS s) : ∀ i, i < 16 → fv s i ≠ fv plainS i → seqB (txB s i) (bT []) = !(hasF i)
  | 0, _, _ => seqB_ne fun e => by
    have h1 := h.c
    obtain ⟨k, hk⟩ := Int.eq_ofNat_of_zero_le (show 0 ≤ s.c by omega)
    have h2 : bL (bT (Lib.itoa s.c)) = [] := congrArg bL e
    rw [bL_bT, hk, itoa_small (by omega), ← digL_100 (by omega)] at h2
    exact digL_ne _ h2
  | 1, _, _ => seqB_ne fun e => by
    have h1 := h.w
    have hr : rightU s.w = true := rightU_iff.2 (by omega)
    have h2 : bL (printT s.w) = [] := congrArg bL e
    rw [show printT s.w = bT (printL s.w) by show (bif rightU s.w then _ else _) = _; rw [hr]; rfl, bL_bT, printL_eq] at h2
    exact digL_ne _ (List.append_eq_nil_iff.1 (List.append_eq_nil_iff.1 h2).2).1
  | 2, _, _ => seqB_ne fun e => by
    have h1 := h.g
    have hr : rightU s.g = true := rightU_iff.2 (by omega)
    have h2 : bL (printT s.g) = [] := congrArg bL e
    rw [show printT s.g = bT (printL s.g) by show (bif rightU s.g then _ else _) = _; rw [hr]; rfl, bL_bT, printL_eq] at h2
    exact digL_ne _ (List.append_eq_nil_iff.1 (List.append_eq_nil_iff.1 h2).2).1
  | 3, _, _ => seqB_ne fun e => by
    have h1 := h.r
    have hr : rightU s.r = true := rightU_iff.2 (by omega)
    have h2 : bL (printT s.r) = [] := congrArg bL e
    rw [show printT s.r = bT (printL s.r) by show (bif rightU s.r then _ else _) = _; rw [hr]; rfl, bL_bT, printL_eq] at h2
    exact digL_ne _ (List.append_eq_nil_iff.1 (List.append_eq_nil_iff.1 h2).2).1
  | 4, _, _ => seqB_iff.2 rfl
  | 5, _, _ => seqB_ne fun e => by
    have h1 := h.h
    have hr : rightU s.h = true := rightU_iff.2 (by omega)
    have h2 : bL (printT s.h) = [] := congrArg bL e
    rw [show printT s.h = bT (printL s.h) by show (bif rightU s.h then _ else _) = _; rw [hr]; rfl, bL_bT, printL_eq] at h2
    exact digL_ne _ (List.append_eq_nil_iff.1 (List.append_eq_nil_iff.1 h2).2).1
  | 6, _, _ => seqB_ne fun e => by
    have h1 := h.o
    obtain ⟨k, hk⟩ := Int.eq_ofNat_of_zero_le (show 0 ≤ s.o by omega)
    have h2 : bL (bT (Lib.itoa s.o)) = [] := congrArg bL e
    rw [bL_bT, hk, itoa_small (by omega), ← digL_100 (by omega)] at h2
    exact digL_ne _ h2
  | 7, _, _ => seqB_ne fun e => by
    have h1 := h.wi
    obtain ⟨k, hk⟩ := Int.eq_ofNat_of_zero_le (show 0 ≤ s.wi by omega)
    have h2 : bL (bT (Lib.itoa s.wi)) = [] := congrArg bL e
    rw [bL_bT, hk, itoa_small (by omega), ← digL_100 (by omega)] at h2
    exact digL_ne _ h2
  | 8, _, _ => seqB_iff.2 rfl
  | 9, _, hd => by
    have h1 := h.b
    have h0 : s.b ≠ 0 := hd
    have : s.b = 1 ∨ s.b = 2 := by omega
    show seqB (qStr (avoidG (wdI s.b).toNat 0)) (bT []) = false
    rcases this with e | e <;> rw [e] <;> exact seqB_ne (by decide)
  | 10, _, hd => by
    have h1 := h.af
    have h0 : s.af ≠ 0 := hd
    have : s.af = 1 ∨ s.af = 2 := by omega
    show seqB (qStr (avoidG (wdI s.af).toNat 0)) (bT []) = false
    rcases this with e | e <;> rw [e] <;> exact seqB_ne (by decide)
  | 11, _, _ => seqB_iff.2 rfl
  | 12, _, hd => by
    have h1 := h.si
    have h0 : s.si ≠ 0 := hd
    have : s.si = 1 ∨ s.si = 2 := by omega
    show seqB (qStr (leftG (wdI s.si).toNat 0)) (bT []) = false
    rcases this with e | e <;> rw [e] <;> exact seqB_ne (by decide)
  | 13, _, _ => seqB_iff.2 rfl
  | 14, _, _ => seqB_ne fun e => by
    have h1 := h.t
    have hr : rightU s.t = true := rightU_iff.2 (by omega)
    have h2 : bL (printT s.t) = [] := congrArg bL e
    rw [show printT s.t = bT (printL s.t) by show (bif rightU s.t then _ else _) = _; rw [hr]; rfl, bL_bT, printL_eq] at h2
    exact digL_ne _ (List.append_eq_nil_iff.1 (List.append_eq_nil_iff.1 h2).2).1
  | 15, _, _ => seqB_ne fun e => by
    have h1 := h.bo
    have hr : rightU s.bo = true := rightU_iff.2 (by omega)
    have h2 : bL (printT s.bo) = [] := congrArg bL e
    rw [show printT s.bo = bT (printL s.bo) by show (bif rightU s.bo then _ else _) = _; rw [hr]; rfl, bL_bT, printL_eq] at h2
    exact digL_ne _ (List.append_eq_nil_iff.1 (List.append_eq_nil_iff.1 h2).2).1
  | n + 16, h, _ => by omega
abbrev oPn (s : Sty) (i : Nat) : ByteArray := joinB ((dfs s plainS i).map (elB s)) semiB
theorem oPn_size {s : Sty} (h : RightS s) {i : Nat} (hi : i ≤ 16) : (oPn s i).size ≤ 40000 := by
  have h1 := join_len (sep := bL semiB) (l := ((dfs s plainS i).map (elB s)).map bL) fun x hx => by
    obtain ⟨y, hy, rfl⟩ := List.mem_map.1 hx
    obtain ⟨j, hj, rfl⟩ := List.mem_map.1 hy
    rw [bL_len]
    exact el_size h (Nat.lt_of_lt_of_le (dfs_mem_lt hj) hi)
  have h3 : (((dfs s plainS i).map (elB s)).map bL).length ≤ 16 := by
    rw [List.length_map, List.length_map]
    refine Nat.le_trans (List.length_filter_le _ _) ?_
    rw [List.length_range]; exact hi
  have h4 : (bL semiB).length = 2 := rfl
  rw [h4] at h1
  have h5 : (2001 + 2) * (((dfs s plainS i).map (elB s)).map bL).length ≤ (2001 + 2) * 16 := Nat.mul_le_mul_left _ h3
  rw [← bL_len, bL_bT]
  omega
abbrev cFl (s : Sty) (nm : ByteArray) : Bool := bif rightS s then decide (0 ≤ plN nm ∧ plN nm < 16) else false
abbrev tFl (s : Sty) (nm : ByteArray) : ByteArray := fdT s (plN nm).toNat
abbrev bFl (s : Sty) (nm : ByteArray) : Bool := fdB s (plN nm).toNat
theorem fldG.ok : SpecOK Tryz.prog 27 (fldG cFl tFl bFl) := rField.ok.imp fun args r hv h => by
  unfold fldG at h
  split at h
  · exact h
  · cases h
theorem ΓPn2.ok : GOK Tryz.prog (ΓPn2 cFl tFl bFl rightS) := .cons fldG.ok (.cons rRight.ok (.cons rNames.ok (GOK.nil _)))
theorem loopPn {s : Sty} (h : RightS s) : ∀ x, (T.leaf (Ex.exit 0, fPn s (oPn s 16))).pick = some x → SemC Tryz.prog (.loop bodyPn) (SPn s (oPn s 0) 16 (gOf strQ nmF) (0 : Nat)) x := by
  refine loopFold ΓPn2.ok (root := cod Tryz.f11) (p := pPn) (by kernel_rfl) (n := 16) (by omega) (fun (o : ByteArray) i => SPn s o 16 (gOf strQ nmF) i) (oPn s) (.exit 0) (by simp) _ 47 1 livePn poN poN_ok (fun i hlt => ?_) ?_
  · refine ⟨[], LamOK.nil _ _, (congrArg T.pick (stepPn cFl tFl bFl rightS s (oPn s i) 16 (gOf strQ nmF) i)).trans ?_⟩
    have hpl : plN (nmB i) = (i : Nat) := plN_at hlt
    have hc : cFl s (nmB i) = true := by
      show (bif rightS s then _ else false) = true
      rw [rightS_iff.2 h, cond_true, hpl]
      exact decide_eq_true (by omega)
    have hT : tFl s (nmB i) = fdT s i := by show fdT s (plN (nmB i)).toNat = _; rw [hpl, Int.toNat_natCast]
    have hB : bFl s (nmB i) = fdB s i := by show fdB s (plN (nmB i)).toNat = _; rw [hpl, Int.toNat_natCast]
    rw [nmG_at hlt, c_lt hlt, c_inI hlt, hc, hT, hB]
    have hsz := oPn_size h (show i ≤ 16 by omega)
    have hn := nm_size i hlt
    cases hd : difB s plainS i with
    | false =>
      have hb : fdB s i = false := by
        rw [Bool.eq_false_iff, Ne, fdB_iff s i hlt, ← difB_iff hlt, hd]; simp
      rw [hb]
      have e : oPn s (i + 1) = oPn s i := by
        show joinB ((dfs s plainS (i + 1)).map (elB s)) semiB = _
        rw [dfs_succ, hd]; simp
      rw [e]; rfl
    | true =>
      have hdv := (difB_iff hlt).1 hd
      have hb : fdB s i = true := (fdB_iff s i hlt).2 hdv
      have hv := tx_ne h i hlt hdv
      have hvs := tx_size h i hlt
      rw [hb, fdT_eq h i hlt hdv]
      have e1 : dfs s plainS (i + 1) = dfs s plainS i ++ [i] := by rw [dfs_succ, if_pos hd]
      have h2 : (bT [59, 32]).size = 2 := rfl
      have h1 : (bT [32]).size = 1 := rfl
      have hadd : ∀ o : ByteArray, o.size ≤ 50000 → (addPn s o (nmB i) (txB s i) 16 (gOf strQ nmF) i).pick = some (.normal, SPn s (o ++ elB s i) 16 (gOf strQ nmF) (w64 (i + 1)), true) := fun o ho => by
        show (T.ite (inI i 16) (T.ite (szq o.size (nmB i).size) (.ite (!(seqB (txB s i) (bT []))) _ _) .bad) .bad).pick = _
        rw [c_inI hlt, hv, show szq o.size (nmB i).size = true from decide_eq_true (by omega), show szq (o ++ nmB i).size 1 = true from decide_eq_true (by rw [ByteArray.size_append]; omega),
          show szq (o ++ nmB i ++ bT [32]).size (txB s i).size = true from decide_eq_true (by rw [ByteArray.size_append, ByteArray.size_append]; omega)]
        unfold elB
        cases hasF i with
        | true =>
          rw [show o ++ nmB i ++ bT [32] ++ txB s i = o ++ (nmB i ++ (bT [32] ++ txB s i)) by apply bL_inj; simp only [bL_app, List.append_assoc]]
          rfl
        | false => rfl
      by_cases he : dfs s plainS i = []
      · have ho : oPn s i = bT [] := by show joinB ((dfs s plainS i).map (elB s)) semiB = _; rw [he]; rfl
        have hn : oPn s (i + 1) = bT [] ++ elB s i := by
          show joinB ((dfs s plainS (i + 1)).map (elB s)) semiB = _
          rw [e1, he, List.nil_append, List.map_singleton, joinB_one]
          apply bL_inj; rw [bL_app, bL_bT]; rfl
        rw [ho, hn, seqB_iff.2 rfl]
        exact hadd (bT []) (by show 0 ≤ 50000; omega)
      · have hne : seqB (oPn s i) (bT []) = false := by
          show seqB (joinB ((dfs s plainS i).map (elB s)) semiB) (bT []) = false
          cases hdl : dfs s plainS i with
          | nil => exact absurd hdl he
          | cons a l => exact join_ne (el_ne s (by have := dfs_mem_lt (show a ∈ dfs s plainS i by rw [hdl]; exact List.mem_cons_self ..); omega))
        have hn : oPn s (i + 1) = oPn s i ++ bT [59, 32] ++ elB s i := by
          show joinB ((dfs s plainS (i + 1)).map (elB s)) semiB = _
          rw [e1, List.map_append, List.map_singleton, joinB_snoc2 (by simpa using he)]
          apply bL_inj; simp only [bL_app, List.append_assoc]
        rw [hn, hne, show szq (oPn s i).size 2 = true from decide_eq_true (by omega)]
        exact hadd (oPn s i ++ bT [59, 32]) (by rw [ByteArray.size_append]; omega)
  · exact (congrArg T.pick (stepPn cFl tFl bFl rightS s (oPn s 16) 16 (gOf strQ nmF) 16)).trans (by rw [c_ge (Nat.le_refl _)]; rfl)
noncomputable abbrev trPn (c : Sty → ByteArray → Bool) (T1 : Sty → ByteArray → ByteArray) (B1 : Sty → ByteArray → Bool) (G : Sty → Bool) (s : Sty) (o : ByteArray) : T V := funV Tryz.prog (ΓPn2 c T1 B1 G) [(pPn, orc false 47 1 [1, 4, 5, 6] (SPn s (bT []) 16 (gOf strQ nmF) (0 : Nat)) (.leaf (Ex.exit 0, fPn s o)))] Tryz.f11 (cod Tryz.f11) [styV s]
theorem pn_c (c : Sty → ByteArray → Bool) (T1 : Sty → ByteArray → ByteArray) (B1 : Sty → ByteArray → Bool) (G : Sty → Bool) (s : Sty) (o : ByteArray) : (trPn c T1 B1 G s o).pathC [false, true] = [!(G s), @decide (SPn s (bT []) 16 (gOf strQ nmF) (0 : Nat) = SPn s (bT []) 16 (gOf strQ nmF) (0 : Nat)) (Classical.propDecidable _)] := by kernel_rfl
theorem pn_l (c : Sty → ByteArray → Bool) (T1 : Sty → ByteArray → ByteArray) (B1 : Sty → ByteArray → Bool) (G : Sty → Bool) (s : Sty) (o : ByteArray) : (trPn c T1 B1 G s o).pathL [false, true] = .leaf (.tup [V.s o, V.i 0]) := by kernel_rfl
noncomputable abbrev trPn0 (c : Sty → ByteArray → Bool) (T1 : Sty → ByteArray → ByteArray) (B1 : Sty → ByteArray → Bool) (G : Sty → Bool) (s : Sty) : T V := funV Tryz.prog (ΓPn2 c T1 B1 G) [] Tryz.f11 (cod Tryz.f11) [styV s]
theorem pn_c0 (c : Sty → ByteArray → Bool) (T1 : Sty → ByteArray → ByteArray) (B1 : Sty → ByteArray → Bool) (G : Sty → Bool) (s : Sty) : (trPn0 c T1 B1 G s).pathC [true] = [!(G s)] := by kernel_rfl
theorem pn_l0 (c : Sty → ByteArray → Bool) (T1 : Sty → ByteArray → ByteArray) (B1 : Sty → ByteArray → Bool) (G : Sty → Bool) (s : Sty) : (trPn0 c T1 B1 G s).pathL [true] = .leaf (.tup [V.s (bT []), V.i 40]) := by kernel_rfl
theorem rPrint.ok : SpecOK Tryz.prog 11 print3.s := by
  refine okF ΓPn2.ok Tryz.func11 (by kernel_rfl) (by kernel_rfl) fun args r hb hr => ?_
  obtain ⟨s, rfl, hr2⟩ := sty1_inv hr
  rw [← hr2, pick_leaf]
  unfold pTx pEr
  cases hR : rightS s with
  | false =>
    have e := pn_c0 cFl tFl bFl rightS s
    rw [hR] at e
    exact ⟨[], LamOK.nil _ _, (T.pick_path _ _ e).trans (congrArg T.pick (pn_l0 cFl tFl bFl rightS s))⟩
  | true =>
    have e := pn_c cFl tFl bFl rightS s (oPn s 16)
    rw [hR, @decide_eq_true _ (Classical.propDecidable _) rfl] at e
    exact ⟨_, LamOK.orc (p := pPn) (mk := false) (nn := 47) (k := 1) (live := [1, 4, 5, 6]) (c := .loop bodyPn) (by kernel_rfl) (loopPn (rightS_of hR)) (LamOK.nil _ _), (T.pick_path _ _ e).trans (congrArg T.pick (pn_l cFl tFl bFl rightS s (oPn s 16)))⟩
/-! ### Parse -/
/-- What Parse's functions come to. -/
structure Pw where
  A : ByteArray → ByteArray → ByteArray
  B : ByteArray → ByteArray → ByteArray
  H : ByteArray → ByteArray → Bool
  P : ByteArray → Int
  Ba : ByteArray → Bool
  S : Sty → ByteArray → ByteArray → Sty
  O : Sty → ByteArray → ByteArray → Bool
  G : Sty → Bool
abbrev spC (s b : ByteArray) : Bool := decide (s.size ≤ 1000000 ∧ 1 ≤ b.size ∧ b.size ≤ 1000)
abbrev stC (F : Pw) (nm v : ByteArray) : Bool := decide (v.size ≤ 1000000 ∧ 0 ≤ F.P nm ∧ F.P nm < 16)
def splG (F : Pw) : List V → T V
  | [.q (.c (.string s)), .q (.c (.string b))] => .ite (spC s b) (.leaf (.tup [V.s (F.A s b), V.s (F.B s b), V.b (F.H s b)])) .bad
  | _ => .bad
def plcG (F : Pw) : List V → T V
  | [.q (.c (.string x))] => .leaf (V.i (F.P x))
  | _ => .bad
def barG (F : Pw) : List V → T V
  | [.q (.c (.string x))] => .leaf (V.b (F.Ba x))
  | _ => .bad
def setG (F : Pw) : List V → T V
  | [x, .q (.c (.string nm)), .q (.c (.string v))] => onSt x fun s => .ite (stC F nm v) (.leaf (.tup [styV (F.S s nm v), V.b (F.O s nm v)])) .bad
  | _ => .bad
abbrev ΓPp (F : Pw) : Gam := [(32, splG F), (33, plcG F), (34, barG F), (35, setG F), (18, sty1 fun s => .leaf (V.b (F.G s))), (17, plain.s)]
abbrev pw : Pw := ⟨fun s b => bT (cutS s b).1, fun s b => bT (cutS s b).2.1, fun s b => (cutS s b).2.2, plN, bareB, fun s nm v => (rsR s v (plN nm).toNat).1, fun s nm v => (rsR s v (plN nm).toNat).2, rightS⟩
theorem splG.ok : SpecOK Tryz.prog 32 (splG pw) := rSplit.ok.imp fun args r hv h => by
  unfold splG at h
  split at h
  · exact h
  · cases h
theorem plcG.ok : SpecOK Tryz.prog 33 (plcG pw) := rPlace.ok.imp fun args r hv h => by
  unfold plcG at h
  split at h
  · exact h
  · cases h
theorem barG.ok : SpecOK Tryz.prog 34 (barG pw) := rBare.ok.imp fun args r hv h => by
  unfold barG at h
  split at h
  · exact h
  · cases h
theorem setG.ok : SpecOK Tryz.prog 35 (setG pw) := rSet.ok.imp fun args r hv h => by
  unfold setG at h
  split at h
  · exact h
  · cases h
theorem ΓPp.ok : GOK Tryz.prog (ΓPp pw) := .cons splG.ok (.cons plcG.ok (.cons barG.ok (.cons setG.ok (.cons rRight.ok (.cons rPlain.ok (GOK.nil _))))))
abbrev pPp : List Nat := [0, 0, 1, 1, 1, 1, 1]
noncomputable abbrev bodyPp : Code := loopAt Tryz.f14 pPp
def SPp (x : ByteArray) (st : Sty) (last n : Int) (more : Bool) : St := mkS 75 [(0, V.s x), (2, .ptr 0 0), (5, .ptr 1 0), (6, V.i last), (7, V.i n), (8, V.b more)] [celS zeroS, celS st] [] false [] 0
def livePp : Ex → List Nat | .normal => [0, 2, 5, 6, 7, 8] | .ret => [2, 3, 4] | _ => [2, 5]
noncomputable abbrev treePp (F : Pw) (s : St) : T (Ex × St × Bool) := ltree Tryz.prog (ΓPp F) [] pPp bodyPp 75 2 livePp poN s
abbrev xPp (F : Pw) (x : ByteArray) : ByteArray := F.A x (bT [59, 32])
abbrev nPp (F : Pw) (x : ByteArray) : ByteArray := F.A (xPp F x) (bT [32])
abbrev vPp (F : Pw) (x : ByteArray) : ByteArray := F.B (xPp F x) (bT [32])
abbrev c40P (F : Pw) (x : ByteArray) (last : Int) : Bool := bif decide (F.P (nPp F x) ≤ last) then true else F.H (xPp F x) (bT [32]) == F.Ba (nPp F x)
abbrev c41P (F : Pw) (x : ByteArray) (st : Sty) : Bool := bif !(F.O st (nPp F x) (vPp F x)) then true else bif !(F.G (F.S st (nPp F x) (vPp F x))) then true else styEq (F.S st (nPp F x) (vPp F x)) st
abbrev rtPp (st : Sty) (n e : Int) : St := mkS 75 [(2, .ptr 0 0), (3, V.i n), (4, V.i e)] [celS zeroS, celS st] [] false [] 0
abbrev fnPp (st : Sty) : St := mkS 75 [(2, .ptr 0 0), (5, .ptr 1 0)] [celS zeroS, celS st] [] false [] 0
theorem ppX_c (F : Pw) (x : ByteArray) (st : Sty) (last n : Int) (more : Bool) : (treePp F (SPp x st last n more)).pathC [false] = [more] := by kernel_rfl
theorem ppX_l (F : Pw) (x : ByteArray) (st : Sty) (last n : Int) (more : Bool) : (treePp F (SPp x st last n more)).pathL [false] = .leaf (.exit 0, fnPp st, true) := by kernel_rfl
theorem pp0_c (F : Pw) (x : ByteArray) (st : Sty) (last n : Int) (more : Bool) : (treePp F (SPp x st last n more)).pathC [true, true, true, true] = [more, spC x (bT [59, 32]), spC (xPp F x) (bT [32]), c40P F x last] := by kernel_rfl
theorem pp0_l (F : Pw) (x : ByteArray) (st : Sty) (last n : Int) (more : Bool) : (treePp F (SPp x st last n more)).pathL [true, true, true, true] = .leaf (.ret, rtPp st n 40, true) := by kernel_rfl
theorem pp1_c (F : Pw) (x : ByteArray) (st : Sty) (last n : Int) (more : Bool) : (treePp F (SPp x st last n more)).pathC [true, true, true, false, true, true] = [more, spC x (bT [59, 32]), spC (xPp F x) (bT [32]), c40P F x last, stC F (nPp F x) (vPp F x), c41P F x st] := by kernel_rfl
theorem pp1_l (F : Pw) (x : ByteArray) (st : Sty) (last n : Int) (more : Bool) : (treePp F (SPp x st last n more)).pathL [true, true, true, false, true, true] = .leaf (.ret, rtPp st n 41, true) := by kernel_rfl
theorem pp2_c (F : Pw) (x : ByteArray) (st : Sty) (last n : Int) (more : Bool) : (treePp F (SPp x st last n more)).pathC [true, true, true, false, true, false] = [more, spC x (bT [59, 32]), spC (xPp F x) (bT [32]), c40P F x last, stC F (nPp F x) (vPp F x), c41P F x st] := by kernel_rfl
theorem pp2_l (F : Pw) (x : ByteArray) (st : Sty) (last n : Int) (more : Bool) : (treePp F (SPp x st last n more)).pathL [true, true, true, false, true, false] = .leaf (.normal, SPp (F.B x (bT [59, 32])) (F.S st (nPp F x) (vPp F x)) (F.P (nPp F x)) (w64 (n + 1)) (F.H x (bT [59, 32])), true) := by kernel_rfl
theorem cde_41 (x : Sty) (b : Bool) (st : Sty) : cde (x, b) st = bif (bif !b then true else bif !(rightS x) then true else styEq x st) then 2 else 0 := by
  unfold cde
  cases b <;> cases rightS x <;> cases styEq x st <;> rfl
abbrev lastP (x : ByteArray) (k : Nat) : Int := 15 - (((stPs (prtG x) k).2 : Nat) : Int)
abbrev SQp (x : ByteArray) (k : Nat) : St := SPp (remX x k) (stPs (prtG x) k).1 (lastP x k) (k : Nat) (decide (k < (prtL x).length))
abbrev RPp (x : ByteArray) : Out := .ite (psO x).isSome (.leaf (.ret, rtPp (stPs (prtG x) ((psO x).getD 0)).1 (((psO x).getD 0 : Nat) : Int) (39 + ((ePs (prtG x) ((psO x).getD 0) : Nat) : Int)))) (.leaf (.exit 0, fnPp (stPs (prtG x) (prtL x).length).1))
theorem loopPp (x : ByteArray) (hx : x.size < 1000000) : ∀ y, (RPp x).pick = some y → SemC Tryz.prog (.loop bodyPp) (SQp x 0) y := by
  have hlen := prtL_len x
  refine loop_nat ΓPp.ok (root := cod Tryz.f14) (p := pPp) (by kernel_rfl) (prtL x).length (fun k => ∀ j, j < k → qPs (prtG x) j = false) (SQp x) (RPp x) 75 2 livePp poN poN_ok (fun k hk hok => ?_) (fun j hj => absurd hj (Nat.not_lt_zero _))
  have he0 : ∀ j, j < k → ePs (prtG x) j = 0 := fun j hj => by
    have := hok j hj
    unfold qPs at this
    simpa using this
  show ∃ Λ e s', _ ∧ (treePp pw (SPp (remX x k) (stPs (prtG x) k).1 (lastP x k) (k : Nat) (decide (k < (prtL x).length)))).pick = _ ∧ _
  rcases Nat.lt_or_ge k (prtL x).length with hlt | hge
  · obtain ⟨r1, r2⟩ := part_rem hlt
    have hm := stPs_le (prtG x) k
    have hxp : xPp pw (remX x k) = xAt (prtG x) k := r1.symm
    obtain ⟨s1, s2, s3⟩ := part_sim (m := (stPs (prtG x) k).2) (st := (stPs (prtG x) k).1) (x := xAt (prtG x) k) hm (left_plain he0)
    have hz1 := remX_size x k
    have hz2 : (xAt (prtG x) k).size ≤ x.size := by
      rw [r1]
      have := (cut_le (bL (remX x k)) (bL semiB)).1
      rw [← bL_len, bL_bT]
      exact Nat.le_trans this hz1
    have hz3 : (vlX (xAt (prtG x) k)).size ≤ x.size := by
      have := (cut_le (bL (xAt (prtG x) k)) (bL (bT [32]))).2
      rw [← bL_len, bL_bT]
      exact Nat.le_trans this hz2
    have hd : decide (k < (prtL x).length) = true := decide_eq_true hlt
    have hsp1 : spC (remX x k) (bT [59, 32]) = true := decide_eq_true ⟨by omega, by decide, by decide⟩
    have hsp2 : spC (xPp pw (remX x k)) (bT [32]) = true := by rw [hxp]; exact decide_eq_true ⟨by omega, by decide, by decide⟩
    have hn : nPp pw (remX x k) = nmX (xAt (prtG x) k) := by show bT (cutS (xPp pw (remX x k)) (bT [32])).1 = _; rw [hxp]
    have hv : vPp pw (remX x k) = vlX (xAt (prtG x) k) := by show bT (cutS (xPp pw (remX x k)) (bT [32])).2.1 = _; rw [hxp]
    have hc40 : c40P pw (remX x k) (lastP x k) = c40 (stPs (prtG x) k).2 (xAt (prtG x) k) := by
      show (bif decide (plN (nPp pw (remX x k)) ≤ lastP x k) then true else (cutS (xPp pw (remX x k)) (bT [32])).2.2 == bareB (nPp pw (remX x k))) = _
      rw [hn, hxp]
    have hE : ePs (prtG x) k = rcE (stPs (prtG x) k).2 (stPs (prtG x) k).1 (xAt (prtG x) k) := s1
    have hfnd : ∀ e, ePs (prtG x) k = e + 1 → psO x = some k := fun e he => fstN_some hlt (by unfold qPs; rw [he]; rfl) hok
    cases h40 : c40 (stPs (prtG x) k).2 (xAt (prtG x) k) with
    | true =>
      have hE1 : ePs (prtG x) k = 1 := by rw [hE]; unfold rcE; rw [h40]; rfl
      have e := pp0_c pw (remX x k) (stPs (prtG x) k).1 (lastP x k) (k : Nat) (decide (k < (prtL x).length))
      rw [hsp1, hsp2, hc40, h40] at e
      rw [hd] at e
      refine ⟨[], .ret, _, LamOK.nil _ _, (by rw [hd]; exact (T.pick_path _ _ e).trans (congrArg T.pick (pp0_l pw _ _ _ _ _))), .inr ⟨by simp, ?_⟩⟩
      show (RPp x).pick = _
      have ho := hfnd 0 hE1
      show (T.ite (psO x).isSome _ _).pick = _
      rw [ho]
      simp only [Option.isSome_some, Option.getD_some, pick_ite, cond_true, pick_leaf]
      rw [hE1]; rfl
    | false =>
      have hE1 : ePs (prtG x) k = cde (rsR (stPs (prtG x) k).1 (vlX (xAt (prtG x) k)) (plN (nmX (xAt (prtG x) k))).toNat) (stPs (prtG x) k).1 := by rw [hE]; unfold rcE; rw [h40]; rfl
      have hst : stC pw (nPp pw (remX x k)) (vPp pw (remX x k)) = true := by
        rw [hn, hv]
        have := s3 h40
        exact decide_eq_true ⟨by omega, this.1, this.2⟩
      have hc41 : c41P pw (remX x k) (stPs (prtG x) k).1 = (bif !(rsR (stPs (prtG x) k).1 (vlX (xAt (prtG x) k)) (plN (nmX (xAt (prtG x) k))).toNat).2 then true else bif !(rightS (rsR (stPs (prtG x) k).1 (vlX (xAt (prtG x) k)) (plN (nmX (xAt (prtG x) k))).toNat).1) then true else styEq (rsR (stPs (prtG x) k).1 (vlX (xAt (prtG x) k)) (plN (nmX (xAt (prtG x) k))).toNat).1 (stPs (prtG x) k).1) := by
        show (bif !(rsR (stPs (prtG x) k).1 (vPp pw (remX x k)) (plN (nPp pw (remX x k))).toNat).2 then true else bif !(rightS (rsR (stPs (prtG x) k).1 (vPp pw (remX x k)) (plN (nPp pw (remX x k))).toNat).1) then true else styEq (rsR (stPs (prtG x) k).1 (vPp pw (remX x k)) (plN (nPp pw (remX x k))).toNat).1 (stPs (prtG x) k).1) = _
        rw [hn, hv]
      have hcd := cde_41 (rsR (stPs (prtG x) k).1 (vlX (xAt (prtG x) k)) (plN (nmX (xAt (prtG x) k))).toNat).1 (rsR (stPs (prtG x) k).1 (vlX (xAt (prtG x) k)) (plN (nmX (xAt (prtG x) k))).toNat).2 (stPs (prtG x) k).1
      rw [← hc41] at hcd
      cases h41 : c41P pw (remX x k) (stPs (prtG x) k).1 with
      | true =>
        have hE2 : ePs (prtG x) k = 2 := by rw [hE1]; refine hcd.trans ?_; rw [h41]; rfl
        have e := pp1_c pw (remX x k) (stPs (prtG x) k).1 (lastP x k) (k : Nat) true
        rw [hsp1, hsp2, hc40, h40, hst, h41] at e
        refine ⟨[], .ret, _, LamOK.nil _ _, (by rw [hd]; exact (T.pick_path _ _ e).trans (congrArg T.pick (pp1_l pw _ _ _ _ _))), .inr ⟨by simp, ?_⟩⟩
        have ho := hfnd 1 hE2
        show (T.ite (psO x).isSome _ _).pick = _
        rw [ho]
        simp only [Option.isSome_some, Option.getD_some, pick_ite, cond_true, pick_leaf]
        rw [hE2]; rfl
      | false =>
        have hE2 : ePs (prtG x) k = 0 := by rw [hE1]; refine hcd.trans ?_; rw [h41]; rfl
        obtain ⟨t1, t2⟩ := s2 hE2
        have e := pp2_c pw (remX x k) (stPs (prtG x) k).1 (lastP x k) (k : Nat) true
        rw [hsp1, hsp2, hc40, h40, hst, h41] at e
        refine ⟨[], .normal, _, LamOK.nil _ _, (by rw [hd]; exact (T.pick_path _ _ e).trans (congrArg T.pick (pp2_l pw _ _ _ _ _))), .inl ⟨rfl, hlt, fun j hj => ?_, ?_⟩⟩
        · rcases Nat.lt_or_ge j k with h | h
          · exact hok j h
          · obtain rfl : j = k := by omega
            unfold qPs; rw [hE2]; rfl
        · show SPp (bT (cutS (remX x k) semiB).2.1) (rsR (stPs (prtG x) k).1 (vPp pw (remX x k)) (plN (nPp pw (remX x k))).toNat).1 (plN (nPp pw (remX x k))) (w64 (((k : Nat) : Int) + 1)) (cutS (remX x k) semiB).2.2 = SPp (remX x (k + 1)) (pS _ _ (xAt (prtG x) k)) (15 - ((pM _ _ (xAt (prtG x) k) : Nat) : Int)) ((k + 1 : Nat) : Int) (decide (k + 1 < (prtL x).length))
          rw [hn, hv, ← t1, t2, r2, w64_suc hlt (by omega)]; rfl
  · obtain rfl : k = (prtL x).length := by omega
    have e := ppX_c pw (remX x (prtL x).length) (stPs (prtG x) (prtL x).length).1 (lastP x (prtL x).length) ((prtL x).length : Nat) (decide ((prtL x).length < (prtL x).length))
    rw [decide_eq_false (Nat.lt_irrefl _)] at e
    refine ⟨[], .exit 0, _, LamOK.nil _ _, (by rw [decide_eq_false (Nat.lt_irrefl _)]; exact (T.pick_path _ _ e).trans (congrArg T.pick (ppX_l pw _ _ _ _ _))), .inr ⟨by simp, ?_⟩⟩
    have ho : psO x = none := fstN_none hok
    show (T.ite (psO x).isSome _ _).pick = _
    rw [ho]; rfl
theorem loopPp0 (x : ByteArray) : ∀ y, (T.ite false (.leaf (Ex.ret, rtPp plainS 0 0)) (.leaf (Ex.exit 0, fnPp plainS))).pick = some y → SemC Tryz.prog (.loop bodyPp) (SPp x plainS (-1) 0 false) y :=
  loop_nat ΓPp.ok (root := cod Tryz.f14) (p := pPp) (by kernel_rfl) 0 (fun _ => True) (fun _ => SPp x plainS (-1) 0 false) _ 75 2 livePp poN poN_ok (fun k hk _ =>
    ⟨[], .exit 0, _, LamOK.nil _ _, (T.pick_path _ _ (ppX_c pw x plainS (-1) 0 false)).trans (congrArg T.pick (ppX_l pw x plainS (-1) 0 false)), .inr ⟨by simp, rfl⟩⟩) trivial
noncomputable abbrev trPp (F : Pw) (x : ByteArray) (more : Bool) (q : Bool) (s1 : Sty) (k e : Int) (s2 : Sty) : T V := funV Tryz.prog (ΓPp F) [(pPp, orc false 75 2 [0, 2, 5, 6, 7, 8] (SPp x plainS (-1) 0 more) (.ite q (.leaf (.ret, rtPp s1 k e)) (.leaf (.exit 0, fnPp s2))))] Tryz.f14 (cod Tryz.f14) [V.s x]
theorem pp_eq (F : Pw) (x : ByteArray) (q : Bool) (s1 : Sty) (k e : Int) (s2 : Sty) : trPp F x (!(seqB x (bT []))) q s1 k e s2 = .ite (@decide (SPp x plainS (-1) 0 (!(seqB x (bT []))) = SPp x plainS (-1) 0 (!(seqB x (bT [])))) (Classical.propDecidable _)) (.ite q (.leaf (psV zeroS k e)) (.leaf (psV s2 0 0))) .bad := by kernel_rfl
theorem rParse.ok : SpecOK Tryz.prog 14 parse.s := by
  refine okF ΓPp.ok Tryz.func14 (by kernel_rfl) (by kernel_rfl) fun args r hb hr => ?_
  unfold parse.s at hr
  split at hr
  · rename_i x
    rw [pick_ite] at hr
    by_cases h : x.size < 1000000
    · rw [decide_eq_true h, cond_true, pick_leaf] at hr
      rw [← hr]
      unfold psR psN psE
      cases hx : seqB x (bT []) with
      | true =>
        refine ⟨_, LamOK.orc (p := pPp) (mk := false) (nn := 75) (k := 2) (live := [0, 2, 5, 6, 7, 8]) (c := .loop bodyPp) (by kernel_rfl) (loopPp0 x) (LamOK.nil _ _), ?_⟩
        have e := pp_eq pw x false plainS 0 0 plainS
        rw [hx] at e
        exact (congrArg T.pick e).trans ((pick_same _ _).trans rfl)
      | false =>
        have h0 : SQp x 0 = SPp x plainS (-1) 0 true := by
          show SPp x plainS (15 - ((16 : Nat) : Int)) ((0 : Nat) : Int) (decide (0 < (prtL x).length)) = _
          rw [decide_eq_true (prtL_pos x)]; rfl
        refine ⟨_, LamOK.orc (p := pPp) (mk := false) (nn := 75) (k := 2) (live := [0, 2, 5, 6, 7, 8]) (c := .loop bodyPp) (by kernel_rfl) (h0 ▸ loopPp x h) (LamOK.nil _ _), ?_⟩
        have e := pp_eq pw x (psO x).isSome (stPs (prtG x) ((psO x).getD 0)).1 (((psO x).getD 0 : Nat) : Int) (39 + ((ePs (prtG x) ((psO x).getD 0) : Nat) : Int)) (stPs (prtG x) (prtL x).length).1
        rw [hx] at e
        refine (congrArg T.pick e).trans ((pick_same _ _).trans ?_)
        cases (psO x).isSome <;> rfl
    · rw [decide_eq_false h] at hr; cases hr
  · cases hr
end Go.Proofs.YtgmeglodnhagdaaGreatDoor
