/- Style: the document's lengths: Digits, Print, Parse; plain facts: the document's Parse goes as the program's. -/
import Derived.Test.YtgmeglodnhagdaaGreatDoorStV

namespace Go.Proofs.YtgmeglodnhagdaaGreatDoor
open Go Go.SX Go.Proofs Go.RowKit
set_option maxRecDepth 100000
variable [EA]
set_option linter.unusedVariables false
set_option linter.unusedSectionVars false
set_option linter.unusedSimpArgs false
/-! ### what the document reads of a text -/
def l1 (n : Int) : List UInt8 → Int × List UInt8
  | [] => (n, [])
  | c :: r => bif (bif isDig c.toNat then decide (n ≤ 1073741824) else false) then l1 (10 * n + ((c.toNat : Int) - 48)) r else (n, c :: r)
def l2 (part u : Int) : List UInt8 → Int
  | [] => part
  | c :: r => bif (bif isDig c.toNat then decide (u > 1) else false) then l2 (part + u / 10 * ((c.toNat : Int) - 48)) (u / 10) r else part
def dotL : List UInt8 → List UInt8
  | [] => []
  | c :: r => bif decide (c.toNat = 46) then r else c :: r
def rpT (s : List UInt8) : Int := 64 * (l1 0 s).1 + l2 0 1000000 (dotL (l1 0 s).2) * 64 / 1000000
/-- The length that is tried. -/
def rpA (s : ByteArray) : Int := bif upN s then -(rpT (bL (upT s))) else rpT (bL (upT s))
theorem l1_dig : ∀ (d pre r : List UInt8), (∀ c ∈ d, 48 ≤ c.toNat ∧ c.toNat ≤ 57) → vN (pre ++ d) ≤ 1073741824 → (∀ c r', r = c :: r' → isDig c.toNat = false) → l1 ((vN pre : Nat) : Int) (d ++ r) = (((vN (pre ++ d) : Nat) : Int), r)
  | [], pre, r, _, _, hr => by
    rw [List.append_nil, List.nil_append]
    cases r with
    | nil => rfl
    | cons c r => rw [l1, hr c r rfl]; rfl
  | c :: d, pre, r, hd, hv, hr => by
    have h1 := hd c (List.mem_cons_self ..)
    have h2 := vN_append (c :: d) pre
    have e : pre ++ c :: d = pre ++ [c] ++ d := by simp
    rw [List.cons_append, l1, show isDig c.toNat = true from decide_eq_true h1, cond_true, decide_eq_true (show ((vN pre : Nat) : Int) ≤ 1073741824 by omega), cond_true,
      show 10 * ((vN pre : Nat) : Int) + ((c.toNat : Int) - 48) = ((vN (pre ++ [c]) : Nat) : Int) by rw [vN_snoc]; omega, e]
    exact l1_dig d (pre ++ [c]) r (fun x hx => hd x (List.mem_cons_of_mem _ hx)) (by rw [← e]; exact hv) hr
theorem l2_all : (List.range 64).all (fun p => decide (l2 0 1000000 (dotL (resT p)) * 64 / 1000000 = ((p : Nat) : Int))) = true := by decide +kernel
theorem rpT_print {q p : Nat} (hq : q ≤ 1073741824) (hp : p < 64) : rpT (digL q ++ resT p) = 64 * q + p := by
  have h := l1_dig (digL q) [] (resT p) (digL_dig hq) (by rw [List.nil_append, digL_vN hq]; exact hq) (fun c r' h => by
    unfold resT at h
    cases h0 : p == 0 with
    | true => rw [h0] at h; cases h
    | false => rw [h0] at h; cases h; rfl)
  rw [List.nil_append, digL_vN hq] at h
  unfold rpT
  rw [show l1 0 (digL q ++ resT p) = l1 ((vN [] : Nat) : Int) (digL q ++ resT p) from rfl, h]
  have := of_decide_eq_true (List.all_eq_true.1 l2_all p (List.mem_range.2 hp))
  rw [this]
theorem rpA_print {a : Int} (h : rightU a = true) : rpA (bT (printL a)) = a := by
  have hr := rightU_iff.1 h
  have hq : a.natAbs / 64 ≤ 1073741824 := by omega
  have hp : a.natAbs % 64 < 64 := Nat.mod_lt _ (by omega)
  obtain ⟨e1, e2⟩ := up_print (neg := decide (a < 0)) hq hp
  rw [← printL_eq] at e1 e2
  unfold rpA
  rw [e1, e2, bL_bT, rpT_print hq hp]
  by_cases h0 : a < 0
  · rw [decide_eq_true h0, cond_true]; omega
  · rw [decide_eq_false h0, cond_false]; omega
theorem printL_size {a : Int} (h : rightU a = true) : (printL a).length ≤ 20 := by
  have hr := rightU_iff.1 h
  have e : digL (a.natAbs / 64) = digF 7 (a.natAbs / 64) := digF_more 19 7 _ (by omega) (by omega)
  have h1 := digF_len 7 (a.natAbs / 64)
  have h2 : (resT (a.natAbs % 64)).length ≤ 7 := by
    have : ∀ p, p < 64 → (resT p).length ≤ 7 := by decide +kernel
    exact this _ (Nat.mod_lt _ (by omega))
  rw [printL_eq, e]
  cases decide (a < 0) <;> simp only [cond_true, cond_false, List.length_append, List.length_nil, List.length_cons] <;> omega
/-- What the document's Parse comes to. -/
def rpO (s : ByteArray) : Option Int := bif decide ((s.size : Int) > 20) then none else bif (bif rightU (rpA s) then seqB (bT (printL (rpA s))) s else false) then some (rpA s) else none
theorem rpO_eq (s : ByteArray) : rpO s = parO s := by
  cases hp : parO s with
  | some a =>
    obtain ⟨h1, h2⟩ := parO_sound hp
    subst h2
    have h3 := printL_size h1
    unfold rpO
    rw [rpA_print h1, h1, decide_eq_false (show ¬ ((bT (printL a)).size : Int) > 20 by rw [← bL_len, bL_bT]; omega), seqB_iff.2 rfl]; rfl
  | none =>
    unfold rpO
    cases h0 : decide ((s.size : Int) > 20) with
    | true => rfl
    | false =>
      cases h1 : rightU (rpA s) with
      | false => rfl
      | true =>
        cases h2 : seqB (bT (printL (rpA s))) s with
        | false => rfl
        | true =>
          have h3 := parO_print h1
          rw [seqB_iff.1 h2, hp] at h3
          cases h3
/-! ### Digits -/
def rDig.d (d : Nat) : List V → T V
  | [.q (.c (.int .i64 n))] => .ite (decide (0 ≤ n ∧ n.toNat < 10 ^ d ∧ d ≤ 18)) (.leaf (V.s (digT n))) .bad
  | _ => .bad
theorem rDig.eq (d : Nat) (n : Int) : funV Tryz.prog [(43, rDig.d d)] [] Tryz.f43 (cod Tryz.f43) [V.i n] =
    .ite (decide (n < 10)) (.ite true (.leaf (V.s (bT [UInt8.ofNat (IntKind.u8.wrap (w64 (48 + n))).toNat]))) .bad)
      (.ite (decide (0 ≤ w64 (n.tdiv 10) ∧ (w64 (n.tdiv 10)).toNat < 10 ^ d ∧ d ≤ 18)) (.ite (decide (0 ≤ n.tmod 10 ∧ (n.tmod 10).toNat < 10 ^ d ∧ d ≤ 18)) (.ite (decide ((digT (w64 (n.tdiv 10))).size + (digT (n.tmod 10)).size ≤ 9223372036854775807)) (.leaf (V.s (digT (w64 (n.tdiv 10)) ++ digT (n.tmod 10)))) .bad) .bad) .bad) := by kernel_rfl
theorem rDig.eq0 (n : Int) : (funV Tryz.prog [] [] Tryz.f43 (cod Tryz.f43) [V.i n]).pathC [true, true] = [decide (n < 10), true] := by kernel_rfl
theorem rDig.eq1 (n : Int) : (funV Tryz.prog [] [] Tryz.f43 (cod Tryz.f43) [V.i n]).pathL [true, true] = .leaf (V.s (bT [UInt8.ofNat (IntKind.u8.wrap (w64 (48 + n))).toNat])) := by kernel_rfl
theorem byte_dig {k : Nat} (h : k < 10) : UInt8.ofNat (IntKind.u8.wrap (w64 (48 + ((k : Nat) : Int)))).toNat = UInt8.ofNat (48 + k) := by
  have e : IntKind.u8.wrap (48 + ((k : Nat) : Int)) = 48 + ((k : Nat) : Int) := by
    simp only [IntKind.wrap, IntKind.signed, IntKind.bits]
    simp
    omega
  rw [w64_id (by omega) (by omega), e, show (48 + ((k : Nat) : Int)).toNat = 48 + k by omega]
theorem rDig.okd : ∀ d, SpecOK Tryz.prog 43 (rDig.d d)
  | 0 => by
    refine okF (GOK.nil _) Tryz.func43 (by kernel_rfl) (by kernel_rfl) fun args r hb hr => ?_
    unfold rDig.d at hr
    split at hr
    · rename_i n
      rw [pick_ite] at hr
      by_cases h : 0 ≤ n ∧ n.toNat < 10 ^ 0 ∧ 0 ≤ 18
      · rw [decide_eq_true h] at hr
        obtain rfl : n = ((0 : Nat) : Int) := by simp at h; omega
        have e := rDig.eq0 ((0 : Nat) : Int)
        rw [decide_eq_true (show ((0 : Nat) : Int) < 10 by omega)] at e
        refine ⟨[], LamOK.nil _ _, ((T.pick_path _ _ e).trans (congrArg T.pick (rDig.eq1 _))).trans ?_⟩
        rw [byte_dig (show 0 < 10 by omega), ← hr]
        rfl
      · rw [decide_eq_false h] at hr; cases hr
    · cases hr
  | d + 1 => by
    refine okF (.cons (rDig.okd d) (GOK.nil _)) Tryz.func43 (by kernel_rfl) (by kernel_rfl) fun args r hb hr => ?_
    unfold rDig.d at hr
    split at hr
    · rename_i n
      rw [pick_ite] at hr
      by_cases h : 0 ≤ n ∧ n.toNat < 10 ^ (d + 1) ∧ d + 1 ≤ 18
      · rw [decide_eq_true h] at hr
        obtain ⟨h0, h1, h2⟩ := h
        refine ⟨[], LamOK.nil _ _, (congrArg T.pick (rDig.eq d n)).trans ?_⟩
        obtain ⟨k, rfl⟩ := Int.eq_ofNat_of_zero_le h0
        rw [← hr]
        by_cases hk : k < 10
        · rw [decide_eq_true (show (k : Int) < 10 by omega)]
          simp only [pick_ite, cond_true, pick_leaf, byte_dig hk]
          rw [digT, show ((k : Nat) : Int).toNat = k by omega, digL_small hk]
        · have hp : 10 ^ (d + 1) ≤ 1000000000000000000 := Nat.le_trans (Nat.pow_le_pow_right (by omega) h2) (by decide)
          simp only [Int.toNat_natCast] at h1
          have e1 : ((k : Int)).tdiv 10 = ((k / 10 : Nat) : Int) := by rw [Int.tdiv_eq_ediv_of_nonneg (by omega)]; omega
          have e2 : ((k : Int)).tmod 10 = ((k % 10 : Nat) : Int) := by rw [Int.tmod_eq_emod_of_nonneg (by omega)]; omega
          have e3 : w64 ((k / 10 : Nat) : Int) = ((k / 10 : Nat) : Int) := w64_id (by omega) (by omega)
          have hd : k / 10 < 10 ^ d := by rw [Nat.div_lt_iff_lt_mul (by omega)]; rwa [Nat.pow_succ] at h1
          have hd1 : 1 ≤ d := by
            rcases Nat.eq_zero_or_pos d with rfl | hh
            · simp at hd; omega
            · exact hh
          have hm : k % 10 < 10 ^ d := Nat.lt_of_lt_of_le (Nat.mod_lt _ (by omega)) (by have := Nat.pow_le_pow_right (n := 10) (by omega) hd1; simpa using this)
          have s1 := digT_size ((k / 10 : Nat) : Int)
          have s2 := digT_size ((k % 10 : Nat) : Int)
          rw [e1, e2, e3, decide_eq_false (show ¬ (k : Int) < 10 by omega), decide_eq_true (show 0 ≤ ((k / 10 : Nat) : Int) ∧ (((k / 10 : Nat) : Int)).toNat < 10 ^ d ∧ d ≤ 18 from ⟨by omega, by rw [Int.toNat_natCast]; exact hd, by omega⟩),
            decide_eq_true (show 0 ≤ ((k % 10 : Nat) : Int) ∧ (((k % 10 : Nat) : Int)).toNat < 10 ^ d ∧ d ≤ 18 from ⟨by omega, by rw [Int.toNat_natCast]; exact hm, by omega⟩), decide_eq_true (show (digT ((k / 10 : Nat) : Int)).size + (digT ((k % 10 : Nat) : Int)).size ≤ 9223372036854775807 by omega)]
          simp only [pick_ite, cond_true, cond_false, pick_leaf]
          rw [bT_app]
          simp only [digT, Int.toNat_natCast]
          rw [digL_small (Nat.mod_lt k (by omega)), ← digL_big hk (by omega)]
      · rw [decide_eq_false h] at hr; cases hr
    · cases hr
abbrev rDig.s : List V → T V := rDig.d 18
theorem rDig.ok : SpecOK Tryz.prog 43 rDig.s := rDig.okd 18
/-! ### Right, Print -/
theorem r1Right.ok : SpecOK Tryz.prog 118 uRight.s := by
  refine okF (GOK.nil _) Tryz.func118 (by kernel_rfl) (by kernel_rfl) fun args r hb hr => ?_
  unfold uRight.s at hr
  split at hr
  · rename_i a
    exact ⟨[], LamOK.nil _ _, (congrArg T.pick (show funV Tryz.prog [] [] Tryz.f118 (cod Tryz.f118) [V.i a] = .leaf (V.b (rightU a)) by kernel_rfl)).trans hr⟩
  · cases hr
noncomputable abbrev bodyRp : Code := loopAt Tryz.f92 [0, 0, 1, 1, 1, 1, 1, 1]
def SRp (s : ByteArray) (r : Int) : St := mkS 42 [(6, V.s s), (7, V.i r)] [] [] false [] 0
def liveRp : Ex → List Nat | .normal => [6, 7] | _ => [6]
abbrev ΓRp2 : Gam := [(43, rDig.s)]
theorem ΓRp2.ok : GOK Tryz.prog ΓRp2 := .cons rDig.ok (GOK.nil _)
noncomputable abbrev treeRp (s : St) : T (Ex × St × Bool) := ltree Tryz.prog ΓRp2 [] [0, 0, 1, 1, 1, 1, 1, 1] bodyRp 42 0 liveRp poN s
abbrev q64 (r : Int) : Int := w64 ((w64 (r * 10)).tdiv 64)
abbrev okD (n : Int) : Bool := decide (0 ≤ n ∧ n.toNat < 10 ^ 18 ∧ 18 ≤ 18)
abbrev fRp (s : ByteArray) : St := mkS 42 [(6, V.s s)] [] [] false [] 0
theorem stepRp (s : ByteArray) (r : Int) : treeRp (SRp s r) = .ite (r != 0) (.ite (okD (q64 r)) (.ite (decide (s.size + (digT (q64 r)).size ≤ 9223372036854775807)) (.leaf (.normal, SRp (s ++ digT (q64 r)) ((w64 (r * 10)).tmod 64), true)) .bad) .bad) (.leaf (.exit 0, fRp s, true)) := by kernel_rfl
theorem loopRp {m : Nat} (h : m < 64) {pre : List UInt8} (hpre : pre.length ≤ 100) : ∀ x, (T.leaf (Ex.exit 0, fRp (bT (pre ++ restL m)))).pick = some x → SemC Tryz.prog (.loop bodyRp) (SRp (bT (pre ++ [46])) (m : Nat)) x := by
  obtain ⟨a1, _, a3, a4, a5⟩ := rsK_spec h 6 0 rfl
  refine loop_nat ΓRp2.ok (root := cod Tryz.f92) (p := [0, 0, 1, 1, 1, 1, 1, 1]) (by kernel_rfl) (rsK m 6 0) (fun _ => True) (fun k => SRp (bT (pre ++ rsB m k)) ((rsN m k : Nat) : Int)) _ 42 0 liveRp poN poN_ok (fun k hk _ => ?_) trivial
  have e := stepRp (bT (pre ++ rsB m k)) ((rsN m k : Nat) : Int)
  have hl := rsN_lt h k
  rcases Nat.lt_or_ge k (rsK m 6 0) with hlt | hge
  · have h0 := a4 k (Nat.zero_le _) hlt
    have e1 : w64 (((rsN m k : Nat) : Int) * 10) = ((rsN m k * 10 : Nat) : Int) := by rw [w64_id (by omega) (by omega)]; omega
    have e2 : q64 ((rsN m k : Nat) : Int) = ((rsN m k * 10 / 64 : Nat) : Int) := by
      unfold q64
      rw [e1, Int.tdiv_eq_ediv_of_nonneg (by omega), w64_id (by omega) (by omega)]
      omega
    have e3 : (w64 (((rsN m k : Nat) : Int) * 10)).tmod 64 = ((rsN m k * 10 % 64 : Nat) : Int) := by
      rw [e1, Int.tmod_eq_emod_of_nonneg (by omega)]
      omega
    have s1 := digT_size ((rsN m k * 10 / 64 : Nat) : Int)
    have s2 := rsB_size (m := m) k
    have s3 : (bT (pre ++ rsB m k)).size ≤ 101 + 20 * k := by rw [← bL_len, bL_bT, List.length_append]; omega
    rw [e2, e3, show (((rsN m k : Nat) : Int) != 0) = true by simp; omega, show okD ((rsN m k * 10 / 64 : Nat) : Int) = true from decide_eq_true ⟨by omega, by rw [Int.toNat_natCast]; omega, Nat.le_refl _⟩,
      decide_eq_true (show (bT (pre ++ rsB m k)).size + (digT ((rsN m k * 10 / 64 : Nat) : Int)).size ≤ 9223372036854775807 by omega), bT_app] at e
    exact ⟨[], .normal, _, LamOK.nil _ _, (congrArg T.pick e).trans rfl, .inl ⟨rfl, hlt, trivial, by simp only [rsN, rsB, Int.toNat_natCast, List.append_assoc]⟩⟩
  · obtain rfl : k = rsK m 6 0 := by omega
    rw [a1] at e
    refine ⟨[], .exit 0, _, LamOK.nil _ _, (by rw [a1]; exact (congrArg T.pick e).trans rfl), .inr ⟨by simp, ?_⟩⟩
    rw [a5]
    rfl
theorem loopRp0 (s : ByteArray) : ∀ x, (T.leaf (Ex.exit 0, fRp s)).pick = some x → SemC Tryz.prog (.loop bodyRp) (SRp s 0) x :=
  loop_nat ΓRp2.ok (root := cod Tryz.f92) (p := [0, 0, 1, 1, 1, 1, 1, 1]) (by kernel_rfl) 0 (fun _ => True) (fun _ => SRp s 0) _ 42 0 liveRp poN poN_ok (fun k hk _ => ⟨[], .exit 0, _, LamOK.nil _ _, (congrArg T.pick (stepRp s 0)).trans rfl, .inr ⟨by simp, rfl⟩⟩) trivial
abbrev ΓPn : Gam := [(118, uRight.s), (43, rDig.s)]
theorem ΓPn.ok : GOK Tryz.prog ΓPn := .cons r1Right.ok (.cons rDig.ok (GOK.nil _))
noncomputable abbrev orRp (s : ByteArray) (m : Int) (t : ByteArray) : Lam := [([0, 0, 1, 1, 1, 1, 1, 1], orc false 42 0 [6, 7] (SRp s m) (.leaf (Ex.exit 0, fRp t)))]
abbrev dRp (a : Int) : ByteArray := digT (w64 (a.tdiv 64))
noncomputable abbrev smRp (s : ByteArray) (m : Int) : Bool := @decide (SRp s m = SRp s m) (Classical.propDecidable _)
noncomputable abbrev trRp1 (a : Int) (t : ByteArray) : T V := funV Tryz.prog ΓPn (orRp (dRp a ++ bT [46]) (a.tmod 64) t) Tryz.f92 (cod Tryz.f92) [V.i a]
noncomputable abbrev trRp0 (a : Int) (t : ByteArray) : T V := funV Tryz.prog ΓPn (orRp (dRp a) (a.tmod 64) t) Tryz.f92 (cod Tryz.f92) [V.i a]
theorem rp1_c (a : Int) (t : ByteArray) : (trRp1 a t).pathC [false, false, true, true, true, true] = [!(rightU a), decide (a < 0), okD (w64 (a.tdiv 64)), a.tmod 64 != 0, decide ((dRp a).size + 1 ≤ 9223372036854775807), smRp (dRp a ++ bT [46]) (a.tmod 64)] := by kernel_rfl
theorem rp1_l (a : Int) (t : ByteArray) : (trRp1 a t).pathL [false, false, true, true, true, true] = .leaf (.tup [V.s t, V.i 0]) := by kernel_rfl
theorem rp0_c (a : Int) (t : ByteArray) : (trRp0 a t).pathC [false, false, true, false, true] = [!(rightU a), decide (a < 0), okD (w64 (a.tdiv 64)), a.tmod 64 != 0, smRp (dRp a) (a.tmod 64)] := by kernel_rfl
theorem rp0_l (a : Int) (t : ByteArray) : (trRp0 a t).pathL [false, false, true, false, true] = .leaf (.tup [V.s t, V.i 0]) := by kernel_rfl
theorem rpN_c (a : Int) (t : ByteArray) : (trRp0 a t).pathC [true] = [!(rightU a)] := by kernel_rfl
theorem rpN_l (a : Int) (t : ByteArray) : (trRp0 a t).pathL [true] = .leaf (.tup [V.s (bT []), V.i 10]) := by kernel_rfl
/-- Print, of what is not below none. -/
def r1Pos.s : List V → T V
  | [.q (.c (.int .i64 a))] => .ite (decide (0 ≤ a)) (.ite (rightU a) (.leaf (.tup [V.s (bT (printL a)), V.i 0])) (.leaf (.tup [V.s (bT []), V.i 10]))) .bad
  | _ => .bad
theorem r1Pos.ok : SpecOK Tryz.prog 92 r1Pos.s := by
  refine okF ΓPn.ok Tryz.func92 (by kernel_rfl) (by kernel_rfl) fun args r hb hr => ?_
  unfold r1Pos.s at hr
  split at hr
  · rename_i a
    rw [pick_ite] at hr
    by_cases h0 : 0 ≤ a
    · rw [decide_eq_true h0, cond_true, pick_ite] at hr
      obtain ⟨k, rfl⟩ := Int.eq_ofNat_of_zero_le h0
      have eR : ∀ (s0 : ByteArray) (m0 : Int) (t : ByteArray), (funV Tryz.prog ΓPn (orRp s0 m0 t) Tryz.f92 (cod Tryz.f92) [V.i (k : Nat)]).pathC [true] = [!(rightU (k : Nat))] := fun s0 m0 t => by kernel_rfl
      cases hR : rightU ((k : Nat) : Int) with
      | false =>
        rw [hR, cond_false] at hr
        have e := rpN_c ((k : Nat) : Int) (bT [])
        have e0 : (funV Tryz.prog ΓPn [] Tryz.f92 (cod Tryz.f92) [V.i (k : Nat)]).pathC [true] = [!(rightU (k : Nat))] := by kernel_rfl
        have e1 : (funV Tryz.prog ΓPn [] Tryz.f92 (cod Tryz.f92) [V.i (k : Nat)]).pathL [true] = .leaf (.tup [V.s (bT []), V.i 10]) := by kernel_rfl
        rw [hR] at e0
        exact ⟨[], LamOK.nil _ _, ((T.pick_path _ _ e0).trans (congrArg T.pick e1)).trans hr⟩
      | true =>
        rw [hR, cond_true] at hr
        have hb := rightU_iff.1 hR
        have e1 : w64 (((k : Nat) : Int).tdiv 64) = ((k / 64 : Nat) : Int) := by rw [Int.tdiv_eq_ediv_of_nonneg (by omega), w64_id (by omega) (by omega)]; omega
        have e2 : ((k : Nat) : Int).tmod 64 = ((k % 64 : Nat) : Int) := by rw [Int.tmod_eq_emod_of_nonneg (by omega)]; omega
        have e3 : dRp ((k : Nat) : Int) = bT (digL (k / 64)) := by
          show digT (w64 _) = _
          rw [e1, digT, Int.toNat_natCast]
        have hd : okD (w64 (((k : Nat) : Int).tdiv 64)) = true := by rw [e1]; exact decide_eq_true ⟨by omega, by rw [Int.toNat_natCast]; omega, Nat.le_refl _⟩
        have hlen := digL_len (k / 64)
        have hp : printL ((k : Nat) : Int) = digL (k / 64) ++ resT (k % 64) := by
          rw [printL_eq, decide_eq_false (show ¬ ((k : Nat) : Int) < 0 by omega), cond_false, Int.natAbs_natCast, List.nil_append]
        rw [hp] at hr
        by_cases hm : k % 64 = 0
        · have hc := rp0_c ((k : Nat) : Int) (bT (digL (k / 64)))
          rw [hR, decide_eq_false (show ¬ ((k : Nat) : Int) < 0 by omega), hd, show (((k : Nat) : Int).tmod 64 != 0) = false by rw [e2, hm]; rfl, show smRp (dRp ((k : Nat) : Int)) (((k : Nat) : Int).tmod 64) = true from @decide_eq_true _ (Classical.propDecidable _) rfl] at hc
          refine ⟨orRp (dRp ((k : Nat) : Int)) (((k : Nat) : Int).tmod 64) (bT (digL (k / 64))), LamOK.orc (c := .loop bodyRp) (by kernel_rfl) ?_ (LamOK.nil _ _), ((T.pick_path _ _ hc).trans (congrArg T.pick (rp0_l _ _))).trans ?_⟩
          · rw [e2, e3, hm]
            exact loopRp0 _
          · rw [← hr, hm, show resT 0 = [] from rfl, List.append_nil]
        · have hc := rp1_c ((k : Nat) : Int) (bT (digL (k / 64) ++ restL (k % 64)))
          have hsz : (dRp ((k : Nat) : Int)).size ≤ 20 := by rw [e3, ← bL_len, bL_bT]; exact hlen
          rw [hR, decide_eq_false (show ¬ ((k : Nat) : Int) < 0 by omega), hd, show (((k : Nat) : Int).tmod 64 != 0) = true by rw [e2]; simp; omega, decide_eq_true (show (dRp ((k : Nat) : Int)).size + 1 ≤ 9223372036854775807 by omega),
            show smRp (dRp ((k : Nat) : Int) ++ bT [46]) (((k : Nat) : Int).tmod 64) = true from @decide_eq_true _ (Classical.propDecidable _) rfl] at hc
          refine ⟨orRp (dRp ((k : Nat) : Int) ++ bT [46]) (((k : Nat) : Int).tmod 64) (bT (digL (k / 64) ++ restL (k % 64))), LamOK.orc (c := .loop bodyRp) (by kernel_rfl) ?_ (LamOK.nil _ _), ((T.pick_path _ _ hc).trans (congrArg T.pick (rp1_l _ _))).trans ?_⟩
          · rw [e2, e3, bT_app]
            exact loopRp (Nat.mod_lt _ (by omega)) (Nat.le_trans hlen (by omega))
          · rw [← hr, show resT (k % 64) = restL (k % 64) by unfold resT; rw [show (k % 64 == 0) = false by simp; omega]; rfl]
    · rw [decide_eq_false h0] at hr; cases hr
  · cases hr
abbrev ΓPq : Gam := [(118, uRight.s), (92, r1Pos.s)]
theorem ΓPq.ok : GOK Tryz.prog ΓPq := .cons r1Right.ok (.cons r1Pos.ok (GOK.nil _))
noncomputable abbrev trRq (a : Int) : T V := funV Tryz.prog ΓPq [] Tryz.f92 (cod Tryz.f92) [V.i a]
theorem rq_c (a : Int) : (trRq a).pathC [false, true, true, true, true] = [!(rightU a), decide (a < 0), decide (0 ≤ w64 (0 - a)), rightU (w64 (0 - a)), decide (1 + (bT (printL (w64 (0 - a)))).size ≤ 9223372036854775807)] := by kernel_rfl
theorem rq_l (a : Int) : (trRq a).pathL [false, true, true, true, true] = .leaf (.tup [V.s (bT [45] ++ bT (printL (w64 (0 - a)))), V.i 0]) := by kernel_rfl
theorem rq_c0 (a : Int) : (trRq a).pathC [true] = [!(rightU a)] := by kernel_rfl
theorem rq_l0 (a : Int) : (trRq a).pathL [true] = .leaf (.tup [V.s (bT []), V.i 10]) := by kernel_rfl
theorem r1Print.ok : SpecOK Tryz.prog 92 uPrint2.s := by
  refine ⟨r1Pos.ok.1, fun S w args vals r hS hg h3 hd hr => ?_⟩
  unfold uPrint2.s at hr
  split at hr
  · rename_i a
    by_cases h0 : 0 ≤ a
    · refine r1Pos.ok.2 S w _ vals r hS hg h3 hd ?_
      show (T.ite (decide (0 ≤ a)) (.ite (rightU a) (.leaf (V.tup [V.s (bT (printL a)), V.i 0])) (.leaf (V.tup [V.s (bT []), V.i 10]))) .bad).pick = _
      rw [pick_ite, decide_eq_true h0, cond_true, ← hr, pick_ite]
      show _ = some (V.tup [V.s (bif rightU a then bT (printL a) else bT []), V.i (bif rightU a then 0 else 10)])
      cases rightU a <;> rfl
    · have hneg : SpecOK Tryz.prog 92 (fun l => .ite (@decide (l = [V.i a]) (Classical.propDecidable _)) (.leaf (.tup [V.s (printT a), V.i (bif rightU a then 0 else 10)])) .bad) := by
        refine okF ΓPq.ok Tryz.func92 (by kernel_rfl) (by kernel_rfl) fun args r hb hr => ?_
        rw [pick_ite] at hr
        by_cases hl : args = [V.i a]
        · subst hl
          rw [@decide_eq_true _ (Classical.propDecidable _) rfl, cond_true, pick_leaf] at hr
          cases hR : rightU a with
          | false =>
            have e := rq_c0 a
            rw [hR] at e
            refine ⟨[], LamOK.nil _ _, ((T.pick_path _ _ e).trans (congrArg T.pick (rq_l0 a))).trans ?_⟩
            rw [← hr, show printT a = bT [] by show (bif rightU a then _ else _) = _; rw [hR]; rfl, hR]; rfl
          | true =>
            have hb := rightU_iff.1 hR
            have e1 : w64 (0 - a) = -a := by rw [w64_id (by omega) (by omega)]; omega
            have hR2 : rightU (-a) = true := rightU_iff.2 (by omega)
            have hsz : (bT (printL (-a))).size ≤ 20 := by rw [← bL_len, bL_bT]; exact printL_size hR2
            have e := rq_c a
            rw [hR, e1, hR2, decide_eq_true (show a < 0 by omega), decide_eq_true (show 0 ≤ -a by omega), decide_eq_true (show 1 + (bT (printL (-a))).size ≤ 9223372036854775807 by omega)] at e
            refine ⟨[], LamOK.nil _ _, ((T.pick_path _ _ e).trans (congrArg T.pick (rq_l a))).trans ?_⟩
            rw [← hr, e1, bT_app, show printT a = bT (printL a) by show (bif rightU a then _ else _) = _; rw [hR]; rfl, hR]
            have : [45] ++ printL (-a) = printL a := by
              rw [printL_eq a, printL_eq (-a), decide_eq_true (show a < 0 by omega), decide_eq_false (show ¬ -a < 0 by omega), cond_true, cond_false, Int.natAbs_neg, List.nil_append]
            rw [this]; rfl
        · rw [@decide_eq_false _ (Classical.propDecidable _) hl] at hr; cases hr
      refine hneg.2 S w _ vals r hS hg h3 hd ?_
      show (T.ite (@decide ([V.i a] = [V.i a]) (Classical.propDecidable _)) _ _).pick = _
      rw [pick_ite, @decide_eq_true _ (Classical.propDecidable _) rfl]
      exact hr
  · cases hr
/-! ### Parse -/
abbrev pQ1 : List Nat := [0, 0, 1, 1, 1, 1, 1, 1, 1]
abbrev pQ2 : List Nat := [0, 0, 1, 1, 1, 1, 1, 1, 1, 1, 1, 1, 1]
noncomputable abbrev bodyQ1 : Code := loopAt Tryz.f71 pQ1
noncomputable abbrev bodyQ2 : Code := loopAt Tryz.f71 pQ2
def SQ1 (s t : ByteArray) (sg n i : Int) : St := mkS 122 [(0, V.s s), (4, V.i sg), (5, V.s t), (6, V.i n), (7, V.i i)] [] [] false [] 0
def SQ2 (s t : ByteArray) (sg n i pt u : Int) : St := mkS 122 [(0, V.s s), (4, V.i sg), (5, V.s t), (6, V.i n), (7, V.i i), (8, V.i pt), (9, V.i u)] [] [] false [] 0
def liveQ1 : Ex → List Nat | _ => [0, 4, 5, 6, 7]
def liveQ2 : Ex → List Nat | .normal => [0, 4, 5, 6, 7, 8, 9] | _ => [0, 4, 6, 8]
noncomputable abbrev treeQ1 (s : St) : T (Ex × St × Bool) := ltree Tryz.prog [] [] pQ1 bodyQ1 122 0 liveQ1 poN s
noncomputable abbrev treeQ2 (s : St) : T (Ex × St × Bool) := ltree Tryz.prog [] [] pQ2 bodyQ2 122 0 liveQ2 poN s
abbrev d8 (t : ByteArray) (i : Nat) : Int := w64 (IntKind.u8.wrap (sByte t i - 48))
abbrev exQ1 (s t : ByteArray) (sg n : Int) (i : Nat) : T (Ex × St × Bool) := .leaf (.exit 0, SQ1 s t sg n i, true)
abbrev fQ2 (s : ByteArray) (sg n pt : Int) : St := mkS 122 [(0, V.s s), (4, V.i sg), (6, V.i n), (8, V.i pt)] [] [] false [] 0
abbrev exQ2 (s : ByteArray) (sg n pt : Int) : T (Ex × St × Bool) := .leaf (.exit 2, fQ2 s sg n pt, true)
theorem stepQ1 (s t : ByteArray) (sg n : Int) (i : Nat) : treeQ1 (SQ1 s t sg n i) = .ite (decide ((i : Int) < t.size)) (.ite (inI i t.size) (.ite (decide (sByte t i ≥ 48)) (.ite (inI i t.size) (.ite (decide (sByte t i ≤ 57)) (.ite (decide (n ≤ 1073741824)) (.ite (inI i t.size)
    (.leaf (.normal, SQ1 s t sg (w64 (w64 (10 * n) + d8 t i)) (w64 (i + 1)), true)) .bad) (exQ1 s t sg n i)) (exQ1 s t sg n i)) .bad) (exQ1 s t sg n i)) .bad) (exQ1 s t sg n i) := by kernel_rfl
theorem stepQ2 (s t : ByteArray) (sg n pt u : Int) (i : Nat) : treeQ2 (SQ2 s t sg n i pt u) = .ite (decide ((i : Int) < t.size)) (.ite (inI i t.size) (.ite (decide (sByte t i ≥ 48)) (.ite (inI i t.size) (.ite (decide (sByte t i ≤ 57)) (.ite (decide (u > 1)) (.ite (inI i t.size)
    (.leaf (.normal, SQ2 s t sg n (w64 (i + 1)) (w64 (pt + w64 (w64 (u.tdiv 10) * d8 t i))) (w64 (u.tdiv 10)), true)) .bad) (exQ2 s sg n pt)) (exQ2 s sg n pt)) .bad) (exQ2 s sg n pt)) .bad) (exQ2 s sg n pt) := by kernel_rfl
theorem drop_at {t : ByteArray} {i : Nat} (h : i < t.size) : ∃ c : UInt8, (bL t).drop i = c :: (bL t).drop (i + 1) ∧ sByte t i = (c.toNat : Nat) := by
  have hi : i < (bL t).length := h
  refine ⟨(bL t)[i], List.drop_eq_getElem_cons hi, ?_⟩
  have hb : bAt t i = ((bL t)[i]).toNat := bAt_bT (l := bL t) hi
  show ((bAt t i : Nat) : Int) = _
  rw [hb]
theorem d8_eq {t : ByteArray} {i : Nat} {c : UInt8} (h : sByte t i = (c.toNat : Nat)) (h1 : 48 ≤ c.toNat ∧ c.toNat ≤ 57) : d8 t i = (c.toNat : Int) - 48 := by
  unfold d8
  rw [h]
  have e : IntKind.u8.wrap (((c.toNat : Nat) : Int) - 48) = ((c.toNat : Nat) : Int) - 48 := by
    simp only [IntKind.wrap, IntKind.signed, IntKind.bits]
    simp
    omega
  rw [e, w64_id (by omega) (by omega)]
abbrev n1Q (t : ByteArray) : Int := (l1 0 (bL t)).1
abbrev i1Q (t : ByteArray) : Nat := t.size - (l1 0 (bL t)).2.length
theorem loopQ1 (s t : ByteArray) (sg : Int) (ht : t.size ≤ 1000) : ∀ x, (T.leaf (Ex.exit 0, SQ1 s t sg (n1Q t) (i1Q t : Nat))).pick = some x → SemC Tryz.prog (.loop bodyQ1) (SQ1 s t sg 0 (0 : Nat)) x := by
  refine loop_treeP (GOK.nil _) (root := cod Tryz.f71) (p := pQ1) (by kernel_rfl) (fun y : Int × Nat => y.2 ≤ t.size ∧ (0 ≤ y.1 ∧ y.1 ≤ 10737418249) ∧ l1 y.1 ((bL t).drop y.2) = l1 0 (bL t))
    (fun y => SQ1 s t sg y.1 (y.2 : Nat)) (fun y => t.size - y.2) (.leaf (Ex.exit 0, SQ1 s t sg (n1Q t) (i1Q t : Nat))) 122 0 liveQ1 (fun _ => []) poN poN_ok (fun y hy => ?_) (0, 0) ⟨Nat.zero_le _, ⟨by omega, by omega⟩, rfl⟩
  obtain ⟨n, i⟩ := y
  obtain ⟨h1, h2, h3⟩ := hy
  simp only at h1 h2 h3
  have e := stepQ1 s t sg n i
  have fin : l1 n ((bL t).drop i) = (n, (bL t).drop i) → n1Q t = n ∧ i1Q t = i := fun h => by
    rw [h] at h3
    constructor
    · show (l1 0 (bL t)).1 = n
      rw [← h3]
    · show t.size - (l1 0 (bL t)).2.length = i
      rw [← h3]
      simp only [List.length_drop]
      have : (bL t).length = t.size := rfl
      omega
  rcases Nat.lt_or_ge i t.size with hlt | hge
  · obtain ⟨c, hc, hb⟩ := drop_at hlt
    rw [c_lt hlt, c_inI hlt, hb] at e
    by_cases hd : (48 ≤ c.toNat ∧ c.toNat ≤ 57) ∧ n ≤ 1073741824
    · have hd8 := d8_eq hb hd.1
      rw [decide_eq_true (show ((c.toNat : Nat) : Int) ≥ 48 by omega), decide_eq_true (show ((c.toNat : Nat) : Int) ≤ 57 by omega), decide_eq_true hd.2, hd8, w64_id (n := 10 * n) (by omega) (by omega), w64_id (n := 10 * n + _) (by omega) (by omega), w64_suc hlt (by omega)] at e
      refine ⟨[], .normal, _, LamOK.nil _ _, (congrArg T.pick e).trans rfl, .inl ⟨rfl, (10 * n + ((c.toNat : Int) - 48), i + 1), ⟨hlt, ⟨by show 0 ≤ 10 * n + ((c.toNat : Int) - 48); omega, by show 10 * n + ((c.toNat : Int) - 48) ≤ _; omega⟩, ?_⟩, by show t.size - (i + 1) < t.size - i; omega, rfl⟩⟩
      rw [← h3, hc, l1, show isDig c.toNat = true from decide_eq_true hd.1, cond_true, decide_eq_true hd.2]; rfl
    · have hl : l1 n ((bL t).drop i) = (n, (bL t).drop i) := by
        rw [hc, l1]
        have : (bif isDig c.toNat then decide (n ≤ 1073741824) else false) = false := by
          unfold isDig
          rw [cond_and]
          exact decide_eq_false hd
        rw [this]; rfl
      obtain ⟨f1, f2⟩ := fin hl
      refine ⟨[], .exit 0, _, LamOK.nil _ _, (congrArg T.pick e).trans ?_, .inr ⟨by simp, rfl⟩⟩
      rw [f1, f2]
      by_cases g1 : 48 ≤ c.toNat
      · rw [decide_eq_true (show ((c.toNat : Nat) : Int) ≥ 48 by omega)]
        by_cases g2 : c.toNat ≤ 57
        · rw [decide_eq_true (show ((c.toNat : Nat) : Int) ≤ 57 by omega), decide_eq_false (show ¬ n ≤ 1073741824 by omega)]; rfl
        · rw [decide_eq_false (show ¬ ((c.toNat : Nat) : Int) ≤ 57 by omega)]; rfl
      · rw [decide_eq_false (show ¬ ((c.toNat : Nat) : Int) ≥ 48 by omega)]; rfl
  · rw [c_ge hge] at e
    have hl : l1 n ((bL t).drop i) = (n, (bL t).drop i) := by
      rw [List.drop_eq_nil_of_le (show (bL t).length ≤ i from hge)]; rfl
    obtain ⟨f1, f2⟩ := fin hl
    refine ⟨[], .exit 0, _, LamOK.nil _ _, (congrArg T.pick e).trans ?_, .inr ⟨by simp, rfl⟩⟩
    rw [f1, f2]; rfl
theorem loopQ2 (s t : ByteArray) (sg n : Int) (i0 : Nat) (ht : t.size ≤ 1000) (hi : i0 ≤ t.size) : ∀ x, (T.leaf (Ex.exit 2, fQ2 s sg n (l2 0 1000000 ((bL t).drop i0)))).pick = some x → SemC Tryz.prog (.loop bodyQ2) (SQ2 s t sg n (i0 : Nat) 0 1000000) x := by
  refine loop_treeP (GOK.nil _) (root := cod Tryz.f71) (p := pQ2) (by kernel_rfl) (fun y : Nat × Int × Int => y.1 ≤ t.size ∧ (0 ≤ y.2.2 ∧ y.2.2 ≤ 1000000) ∧ (0 ≤ y.2.1 ∧ y.2.1 ≤ 1000000 - y.2.2) ∧ l2 y.2.1 y.2.2 ((bL t).drop y.1) = l2 0 1000000 ((bL t).drop i0))
    (fun y => SQ2 s t sg n (y.1 : Nat) y.2.1 y.2.2) (fun y => t.size - y.1) (.leaf (Ex.exit 2, fQ2 s sg n (l2 0 1000000 ((bL t).drop i0)))) 122 0 liveQ2 (fun _ => []) poN poN_ok (fun y hy => ?_) (i0, 0, 1000000) ⟨hi, ⟨by show (0 : Int) ≤ 1000000; omega, by show (1000000 : Int) ≤ 1000000; omega⟩, ⟨by show (0 : Int) ≤ 0; omega, by show (0 : Int) ≤ 1000000 - 1000000; omega⟩, rfl⟩
  obtain ⟨i, pt, u⟩ := y
  obtain ⟨h1, h2, h4, h3⟩ := hy
  simp only at h1 h2 h3 h4
  have e := stepQ2 s t sg n pt u i
  rcases Nat.lt_or_ge i t.size with hlt | hge
  · obtain ⟨c, hc, hb⟩ := drop_at hlt
    rw [c_lt hlt, c_inI hlt, hb] at e
    by_cases hd : (48 ≤ c.toNat ∧ c.toNat ≤ 57) ∧ u > 1
    · have hd8 := d8_eq hb hd.1
      have hu : u.tdiv 10 = u / 10 := Int.tdiv_eq_ediv_of_nonneg (by omega)
      have hm : u / 10 * ((c.toNat : Int) - 48) ≤ u / 10 * 9 := Int.mul_le_mul_of_nonneg_left (by omega) (by omega)
      have hm0 : 0 ≤ u / 10 * ((c.toNat : Int) - 48) := Int.mul_nonneg (by omega) (by omega)
      rw [decide_eq_true (show ((c.toNat : Nat) : Int) ≥ 48 by omega), decide_eq_true (show ((c.toNat : Nat) : Int) ≤ 57 by omega), decide_eq_true hd.2, hd8, hu, w64_id (n := u / 10) (by omega) (by omega), w64_id (n := u / 10 * _) (by omega) (by omega), w64_id (n := pt + _) (by omega) (by omega), w64_suc hlt (by omega)] at e
      refine ⟨[], .normal, _, LamOK.nil _ _, (congrArg T.pick e).trans rfl, .inl ⟨rfl, (i + 1, pt + u / 10 * ((c.toNat : Int) - 48), u / 10), ⟨hlt, ⟨by show 0 ≤ u / 10; omega, by show u / 10 ≤ _; omega⟩, ⟨by show 0 ≤ pt + _; omega, by show pt + u / 10 * ((c.toNat : Int) - 48) ≤ 1000000 - u / 10; omega⟩, ?_⟩, by show t.size - (i + 1) < t.size - i; omega, rfl⟩⟩
      rw [← h3, hc, l2, show isDig c.toNat = true from decide_eq_true hd.1, cond_true, decide_eq_true hd.2]; rfl
    · have hl : l2 pt u ((bL t).drop i) = pt := by
        rw [hc, l2]
        have : (bif isDig c.toNat then decide (u > 1) else false) = false := by
          unfold isDig
          rw [cond_and]
          exact decide_eq_false hd
        rw [this]; rfl
      rw [hl] at h3
      refine ⟨[], .exit 2, _, LamOK.nil _ _, (congrArg T.pick e).trans ?_, .inr ⟨by simp, rfl⟩⟩
      rw [← h3]
      by_cases g1 : 48 ≤ c.toNat
      · rw [decide_eq_true (show ((c.toNat : Nat) : Int) ≥ 48 by omega)]
        by_cases g2 : c.toNat ≤ 57
        · rw [decide_eq_true (show ((c.toNat : Nat) : Int) ≤ 57 by omega), decide_eq_false (show ¬ u > 1 by omega)]; rfl
        · rw [decide_eq_false (show ¬ ((c.toNat : Nat) : Int) ≤ 57 by omega)]; rfl
      · rw [decide_eq_false (show ¬ ((c.toNat : Nat) : Int) ≥ 48 by omega)]; rfl
  · rw [c_ge hge] at e
    have hl : l2 pt u ((bL t).drop i) = pt := by
      rw [List.drop_eq_nil_of_le (show (bL t).length ≤ i from hge)]; rfl
    rw [hl] at h3
    refine ⟨[], .exit 2, _, LamOK.nil _ _, (congrArg T.pick e).trans ?_, .inr ⟨by simp, rfl⟩⟩
    rw [← h3]; rfl
abbrev prG (T1 : Int → ByteArray) (E1 : Int → Int) : List V → T V
  | [.q (.c (.int .i64 a))] => .leaf (.tup [V.s (T1 a), V.i (E1 a)])
  | _ => .bad
abbrev ΓQ (T1 : Int → ByteArray) (E1 : Int → Int) : Gam := [(92, prG T1 E1)]
noncomputable abbrev orQ (s t : ByteArray) (sg n1 i1 i2 P : Int) : Lam := [(pQ1, orc false 122 0 [0, 4, 5, 6, 7] (SQ1 s t sg 0 0) (.leaf (Ex.exit 0, SQ1 s t sg n1 i1))), (pQ2, orc false 122 0 [0, 4, 5, 6, 7, 8, 9] (SQ2 s t sg n1 i2 0 1000000) (.leaf (Ex.exit 2, fQ2 s sg n1 P)))]
abbrev tlQ (s : ByteArray) : ByteArray := s.extract 1 s.size
noncomputable abbrev trQ (T1 : Int → ByteArray) (E1 : Int → Int) (s t : ByteArray) (sg n1 i1 i2 P : Int) : T V := funV Tryz.prog (ΓQ T1 E1) (orQ s t sg n1 i1 i2 P) Tryz.f71 (cod Tryz.f71) [V.s s]
abbrev aQ (sg n1 pt : Int) : Int := w64 (sg * w64 (w64 (64 * n1) + w64 ((w64 (pt * 64)).tdiv 1000000)))
abbrev endQ (T1 : Int → ByteArray) (E1 : Int → Int) (s : ByteArray) (a : Int) : T V := .ite (bif E1 a != 0 then true else !(seqB (T1 a) s)) (.leaf (.tup [V.i 0, V.i 12])) (.leaf (.tup [V.i a, V.i 0]))
noncomputable abbrev sm1Q (s t : ByteArray) (sg : Int) : Bool := @decide (SQ1 s t sg 0 0 = SQ1 s t sg 0 0) (Classical.propDecidable _)
noncomputable abbrev sm2Q (s t : ByteArray) (sg n1 i2 : Int) : Bool := @decide (SQ2 s t sg n1 i2 0 1000000 = SQ2 s t sg n1 i2 0 1000000) (Classical.propDecidable _)
abbrev nnQ (s : ByteArray) : Bool := !(seqB s (bT []))
abbrev inQ (t : ByteArray) (i : Int) : Bool := decide (0 ≤ i ∧ i < (t.size : Int))
abbrev byQ (t : ByteArray) (i : Int) : Int := ((t.get! i.toNat).toNat : Nat)
abbrev slQ (s : ByteArray) : Bool := decide ((0 : Int) ≤ 1 ∧ (1 : Int) ≤ (s.size : Int) ∧ (s.size : Int) ≤ (s.size : Int))
theorem q_cX (T1 : Int → ByteArray) (E1 : Int → Int) (s : ByteArray) : (funV Tryz.prog (ΓQ T1 E1) [] Tryz.f71 (cod Tryz.f71) [V.s s]).pathC [true] = [decide ((s.size : Int) > 20)] := by kernel_rfl
theorem q_lX (T1 : Int → ByteArray) (E1 : Int → Int) (s : ByteArray) : (funV Tryz.prog (ΓQ T1 E1) [] Tryz.f71 (cod Tryz.f71) [V.s s]).pathL [true] = .leaf (.tup [V.i 0, V.i 12]) := by kernel_rfl
theorem q_c11 (T1 : Int → ByteArray) (E1 : Int → Int) (s : ByteArray) (n1 i1 pt : Int) : (trQ T1 E1 s s 1 n1 i1 (w64 (i1 + 1)) pt).pathC [false, false, true, true, true, true, true] = [decide ((s.size : Int) > 20), nnQ s, sm1Q s s 1, decide (i1 < (s.size : Int)), inQ s i1, byQ s i1 == 46, sm2Q s s 1 n1 (w64 (i1 + 1))] := by kernel_rfl
theorem q_l11 (T1 : Int → ByteArray) (E1 : Int → Int) (s : ByteArray) (n1 i1 pt : Int) : (trQ T1 E1 s s 1 n1 i1 (w64 (i1 + 1)) pt).pathL [false, false, true, true, true, true, true] = endQ T1 E1 s (aQ 1 n1 pt) := by kernel_rfl
theorem q_c12 (T1 : Int → ByteArray) (E1 : Int → Int) (s : ByteArray) (n1 i1 pt : Int) : (trQ T1 E1 s s 1 n1 i1 i1 pt).pathC [false, false, true, true, true, false, true] = [decide ((s.size : Int) > 20), nnQ s, sm1Q s s 1, decide (i1 < (s.size : Int)), inQ s i1, byQ s i1 == 46, sm2Q s s 1 n1 i1] := by kernel_rfl
theorem q_l12 (T1 : Int → ByteArray) (E1 : Int → Int) (s : ByteArray) (n1 i1 pt : Int) : (trQ T1 E1 s s 1 n1 i1 i1 pt).pathL [false, false, true, true, true, false, true] = endQ T1 E1 s (aQ 1 n1 pt) := by kernel_rfl
theorem q_c13 (T1 : Int → ByteArray) (E1 : Int → Int) (s : ByteArray) (n1 i1 pt : Int) : (trQ T1 E1 s s 1 n1 i1 i1 pt).pathC [false, false, true, false, true] = [decide ((s.size : Int) > 20), nnQ s, sm1Q s s 1, decide (i1 < (s.size : Int)), sm2Q s s 1 n1 i1] := by kernel_rfl
theorem q_l13 (T1 : Int → ByteArray) (E1 : Int → Int) (s : ByteArray) (n1 i1 pt : Int) : (trQ T1 E1 s s 1 n1 i1 i1 pt).pathL [false, false, true, false, true] = endQ T1 E1 s (aQ 1 n1 pt) := by kernel_rfl
theorem q_c21 (T1 : Int → ByteArray) (E1 : Int → Int) (s : ByteArray) (n1 i1 pt : Int) : (trQ T1 E1 s s 1 n1 i1 (w64 (i1 + 1)) pt).pathC [false, true, true, false, true, true, true, true, true] = [decide ((s.size : Int) > 20), nnQ s, inQ s 0, byQ s 0 == 45, sm1Q s s 1, decide (i1 < (s.size : Int)), inQ s i1, byQ s i1 == 46, sm2Q s s 1 n1 (w64 (i1 + 1))] := by kernel_rfl
theorem q_l21 (T1 : Int → ByteArray) (E1 : Int → Int) (s : ByteArray) (n1 i1 pt : Int) : (trQ T1 E1 s s 1 n1 i1 (w64 (i1 + 1)) pt).pathL [false, true, true, false, true, true, true, true, true] = endQ T1 E1 s (aQ 1 n1 pt) := by kernel_rfl
theorem q_c22 (T1 : Int → ByteArray) (E1 : Int → Int) (s : ByteArray) (n1 i1 pt : Int) : (trQ T1 E1 s s 1 n1 i1 i1 pt).pathC [false, true, true, false, true, true, true, false, true] = [decide ((s.size : Int) > 20), nnQ s, inQ s 0, byQ s 0 == 45, sm1Q s s 1, decide (i1 < (s.size : Int)), inQ s i1, byQ s i1 == 46, sm2Q s s 1 n1 i1] := by kernel_rfl
theorem q_l22 (T1 : Int → ByteArray) (E1 : Int → Int) (s : ByteArray) (n1 i1 pt : Int) : (trQ T1 E1 s s 1 n1 i1 i1 pt).pathL [false, true, true, false, true, true, true, false, true] = endQ T1 E1 s (aQ 1 n1 pt) := by kernel_rfl
theorem q_c23 (T1 : Int → ByteArray) (E1 : Int → Int) (s : ByteArray) (n1 i1 pt : Int) : (trQ T1 E1 s s 1 n1 i1 i1 pt).pathC [false, true, true, false, true, false, true] = [decide ((s.size : Int) > 20), nnQ s, inQ s 0, byQ s 0 == 45, sm1Q s s 1, decide (i1 < (s.size : Int)), sm2Q s s 1 n1 i1] := by kernel_rfl
theorem q_l23 (T1 : Int → ByteArray) (E1 : Int → Int) (s : ByteArray) (n1 i1 pt : Int) : (trQ T1 E1 s s 1 n1 i1 i1 pt).pathL [false, true, true, false, true, false, true] = endQ T1 E1 s (aQ 1 n1 pt) := by kernel_rfl
theorem q_c31 (T1 : Int → ByteArray) (E1 : Int → Int) (s : ByteArray) (n1 i1 pt : Int) : (trQ T1 E1 s (tlQ s) (-1) n1 i1 (w64 (i1 + 1)) pt).pathC [false, true, true, true, true, true, true, true, true, true] = [decide ((s.size : Int) > 20), nnQ s, inQ s 0, byQ s 0 == 45, slQ s, sm1Q s (tlQ s) (-1), decide (i1 < ((tlQ s).size : Int)), inQ (tlQ s) i1, byQ (tlQ s) i1 == 46, sm2Q s (tlQ s) (-1) n1 (w64 (i1 + 1))] := by kernel_rfl
theorem q_l31 (T1 : Int → ByteArray) (E1 : Int → Int) (s : ByteArray) (n1 i1 pt : Int) : (trQ T1 E1 s (tlQ s) (-1) n1 i1 (w64 (i1 + 1)) pt).pathL [false, true, true, true, true, true, true, true, true, true] = endQ T1 E1 s (aQ (-1) n1 pt) := by kernel_rfl
theorem q_c32 (T1 : Int → ByteArray) (E1 : Int → Int) (s : ByteArray) (n1 i1 pt : Int) : (trQ T1 E1 s (tlQ s) (-1) n1 i1 i1 pt).pathC [false, true, true, true, true, true, true, true, false, true] = [decide ((s.size : Int) > 20), nnQ s, inQ s 0, byQ s 0 == 45, slQ s, sm1Q s (tlQ s) (-1), decide (i1 < ((tlQ s).size : Int)), inQ (tlQ s) i1, byQ (tlQ s) i1 == 46, sm2Q s (tlQ s) (-1) n1 i1] := by kernel_rfl
theorem q_l32 (T1 : Int → ByteArray) (E1 : Int → Int) (s : ByteArray) (n1 i1 pt : Int) : (trQ T1 E1 s (tlQ s) (-1) n1 i1 i1 pt).pathL [false, true, true, true, true, true, true, true, false, true] = endQ T1 E1 s (aQ (-1) n1 pt) := by kernel_rfl
theorem q_c33 (T1 : Int → ByteArray) (E1 : Int → Int) (s : ByteArray) (n1 i1 pt : Int) : (trQ T1 E1 s (tlQ s) (-1) n1 i1 i1 pt).pathC [false, true, true, true, true, true, false, true] = [decide ((s.size : Int) > 20), nnQ s, inQ s 0, byQ s 0 == 45, slQ s, sm1Q s (tlQ s) (-1), decide (i1 < ((tlQ s).size : Int)), sm2Q s (tlQ s) (-1) n1 i1] := by kernel_rfl
theorem q_l33 (T1 : Int → ByteArray) (E1 : Int → Int) (s : ByteArray) (n1 i1 pt : Int) : (trQ T1 E1 s (tlQ s) (-1) n1 i1 i1 pt).pathL [false, true, true, true, true, true, false, true] = endQ T1 E1 s (aQ (-1) n1 pt) := by kernel_rfl
theorem l1_suf : ∀ (l : List UInt8) (n : Int), ∃ pre, l = pre ++ (l1 n l).2
  | [], n => ⟨[], rfl⟩
  | c :: l, n => by
    rw [l1]
    cases (bif isDig c.toNat then decide (n ≤ 1073741824) else false) with
    | true =>
      obtain ⟨pre, h⟩ := l1_suf l (10 * n + ((c.toNat : Int) - 48))
      exact ⟨c :: pre, by rw [cond_true, List.cons_append, ← h]⟩
    | false => exact ⟨[], rfl⟩
theorem l1_rng : ∀ (l : List UInt8) (n : Int), 0 ≤ n ∧ n ≤ 10737418249 → 0 ≤ (l1 n l).1 ∧ (l1 n l).1 ≤ 10737418249
  | [], n, h => h
  | c :: l, n, h => by
    rw [l1]
    cases hc : (bif isDig c.toNat then decide (n ≤ 1073741824) else false) with
    | true =>
      have hc2 := hc
      unfold isDig at hc2
      rw [cond_and, decide_eq_true_iff] at hc2
      exact l1_rng l _ (by omega)
    | false => exact h
theorem l2_rng : ∀ (l : List UInt8) (pt u : Int), 0 ≤ u ∧ u ≤ 1000000 → 0 ≤ pt ∧ pt ≤ 1000000 - u → 0 ≤ l2 pt u l ∧ l2 pt u l ≤ 1000000
  | [], pt, u, h1, h2 => by rw [l2]; omega
  | c :: l, pt, u, h1, h2 => by
    rw [l2]
    cases hc : (bif isDig c.toNat then decide (u > 1) else false) with
    | true =>
      have hc2 := hc
      unfold isDig at hc2
      rw [cond_and, decide_eq_true_iff] at hc2
      have hm : u / 10 * ((c.toNat : Int) - 48) ≤ u / 10 * 9 := Int.mul_le_mul_of_nonneg_left (by omega) (by omega)
      have hm0 : 0 ≤ u / 10 * ((c.toNat : Int) - 48) := Int.mul_nonneg (by omega) (by omega)
      exact l2_rng l _ _ (by omega) (by omega)
    | false => rw [cond_false]; omega
abbrev ptQ (t : ByteArray) : Int := l2 0 1000000 (dotL (l1 0 (bL t)).2)
theorem rest_q (t : ByteArray) : (bL t).drop (i1Q t) = (l1 0 (bL t)).2 ∧ i1Q t ≤ t.size := by
  obtain ⟨pre, h⟩ := l1_suf (bL t) 0
  have hl := congrArg List.length h
  rw [List.length_append] at hl
  have hs : (bL t).length = t.size := rfl
  have hi : i1Q t = pre.length := by show t.size - (l1 0 (bL t)).2.length = _; omega
  refine ⟨?_, by omega⟩
  rw [hi]
  conv => lhs; rw [h]
  rw [List.drop_left]
theorem aQ_eq (t : ByteArray) {sg : Int} (hs : sg = 1 ∨ sg = -1) : aQ sg (n1Q t) (ptQ t) = sg * rpT (bL t) := by
  have h1 := l1_rng (bL t) 0 (by omega)
  have h2 := l2_rng (dotL (l1 0 (bL t)).2) 0 1000000 (by omega) (by omega)
  unfold aQ rpT
  show w64 (sg * w64 (w64 (64 * (l1 0 (bL t)).1) + w64 ((w64 (l2 0 1000000 (dotL (l1 0 (bL t)).2) * 64)).tdiv 1000000))) = _
  generalize (l1 0 (bL t)).1 = n at h1
  generalize l2 0 1000000 (dotL (l1 0 (bL t)).2) = p at h2
  rw [w64_id (n := p * 64) (by omega) (by omega), Int.tdiv_eq_ediv_of_nonneg (by omega), w64_id (n := 64 * n) (by omega) (by omega), w64_id (n := p * 64 / 1000000) (by omega) (by omega), w64_id (n := 64 * n + p * 64 / 1000000) (by omega) (by omega)]
  rcases hs with rfl | rfl <;> rw [w64_id (by omega) (by omega)]
theorem sm1Q_t (s t : ByteArray) (sg : Int) : sm1Q s t sg = true := @decide_eq_true _ (Classical.propDecidable _) rfl
theorem sm2Q_t (s t : ByteArray) (sg n i : Int) : sm2Q s t sg n i = true := @decide_eq_true _ (Classical.propDecidable _) rfl
theorem orQ.ok {s t : ByteArray} {sg : Int} (ht : t.size ≤ 1000) {i2 : Nat} (hi : i2 ≤ t.size) : LamOK Tryz.prog (cod Tryz.f71) (orQ s t sg (n1Q t) (i1Q t : Nat) (i2 : Nat) (l2 0 1000000 ((bL t).drop i2))) :=
  LamOK.orc (c := .loop bodyQ1) (by kernel_rfl) (loopQ1 s t sg ht) (LamOK.orc (c := .loop bodyQ2) (by kernel_rfl) (loopQ2 s t sg (n1Q t) i2 ht hi) (LamOK.nil _ _))
theorem way1 (T1 : Int → ByteArray) (E1 : Int → Int) (s : ByteArray) (ht : s.size ≤ 1000) (h20 : decide ((s.size : Int) > 20) = false) (h1 : nnQ s = false) : ∃ Λ, LamOK Tryz.prog (cod Tryz.f71) Λ ∧
    (funV Tryz.prog (ΓQ T1 E1) Λ Tryz.f71 (cod Tryz.f71) [V.s s]).pick = (endQ T1 E1 s (aQ 1 (n1Q s) (ptQ s))).pick := by
  obtain ⟨r1, r2⟩ := rest_q s
  rcases Nat.lt_or_ge (i1Q s) s.size with hlt | hge
  · obtain ⟨c, hc, hb⟩ := drop_at hlt
    have hin : inQ s (i1Q s : Nat) = true := decide_eq_true (by omega)
    have hl : decide (((i1Q s : Nat) : Int) < (s.size : Int)) = true := decide_eq_true (by omega)
    have hby : byQ s (i1Q s : Nat) = (c.toNat : Nat) := hb
    have hw : w64 (((i1Q s : Nat) : Int) + 1) = ((i1Q s + 1 : Nat) : Int) := w64_suc hlt (by omega)
    by_cases h46 : c.toNat = 46
    · have hp : ptQ s = l2 0 1000000 ((bL s).drop (i1Q s + 1)) := by
        show l2 0 1000000 (dotL (l1 0 (bL s)).2) = _
        rw [← r1, hc, dotL, decide_eq_true h46]; rfl
      have e := q_c11 T1 E1 s (n1Q s) (i1Q s : Nat) (ptQ s)
      rw [h20, h1, sm1Q_t, hl, hin, hby, show (((c.toNat : Nat) : Int) == 46) = true by rw [h46]; rfl, sm2Q_t] at e
      refine ⟨_, orQ.ok (s := s) (sg := 1) ht (i2 := i1Q s + 1) hlt, ?_⟩
      rw [← hw, ← hp]
      exact (T.pick_path _ _ e).trans (congrArg T.pick (q_l11 T1 E1 s (n1Q s) (i1Q s : Nat) (ptQ s)))
    · have hp : ptQ s = l2 0 1000000 ((bL s).drop (i1Q s)) := by
        show l2 0 1000000 (dotL (l1 0 (bL s)).2) = _
        rw [← r1, hc, dotL, decide_eq_false h46]; rfl
      have e := q_c12 T1 E1 s (n1Q s) (i1Q s : Nat) (ptQ s)
      rw [h20, h1, sm1Q_t, hl, hin, hby, show (((c.toNat : Nat) : Int) == 46) = false by simp; omega, sm2Q_t] at e
      refine ⟨_, orQ.ok (s := s) (sg := 1) ht (i2 := i1Q s) r2, ?_⟩
      rw [← hp]
      exact (T.pick_path _ _ e).trans (congrArg T.pick (q_l12 T1 E1 s (n1Q s) (i1Q s : Nat) (ptQ s)))
  · have hl : decide (((i1Q s : Nat) : Int) < (s.size : Int)) = false := decide_eq_false (by omega)
    have hp : ptQ s = l2 0 1000000 ((bL s).drop (i1Q s)) := by
      show l2 0 1000000 (dotL (l1 0 (bL s)).2) = _
      rw [← r1, List.drop_eq_nil_of_le (show (bL s).length ≤ i1Q s from hge)]; rfl
    have e := q_c13 T1 E1 s (n1Q s) (i1Q s : Nat) (ptQ s)
    rw [h20, h1, sm1Q_t, hl, sm2Q_t] at e
    refine ⟨_, orQ.ok (s := s) (sg := 1) ht (i2 := i1Q s) r2, ?_⟩
    rw [← hp]
    exact (T.pick_path _ _ e).trans (congrArg T.pick (q_l13 T1 E1 s (n1Q s) (i1Q s : Nat) (ptQ s)))
theorem way2 (T1 : Int → ByteArray) (E1 : Int → Int) (s : ByteArray) (ht : s.size ≤ 1000) (h20 : decide ((s.size : Int) > 20) = false) (h1 : nnQ s = true) (h2 : inQ s 0 = true) (h3 : (byQ s 0 == 45) = false) : ∃ Λ, LamOK Tryz.prog (cod Tryz.f71) Λ ∧
    (funV Tryz.prog (ΓQ T1 E1) Λ Tryz.f71 (cod Tryz.f71) [V.s s]).pick = (endQ T1 E1 s (aQ 1 (n1Q s) (ptQ s))).pick := by
  obtain ⟨r1, r2⟩ := rest_q s
  rcases Nat.lt_or_ge (i1Q s) s.size with hlt | hge
  · obtain ⟨c, hc, hb⟩ := drop_at hlt
    have hin : inQ s (i1Q s : Nat) = true := decide_eq_true (by omega)
    have hl : decide (((i1Q s : Nat) : Int) < (s.size : Int)) = true := decide_eq_true (by omega)
    have hby : byQ s (i1Q s : Nat) = (c.toNat : Nat) := hb
    have hw : w64 (((i1Q s : Nat) : Int) + 1) = ((i1Q s + 1 : Nat) : Int) := w64_suc hlt (by omega)
    by_cases h46 : c.toNat = 46
    · have hp : ptQ s = l2 0 1000000 ((bL s).drop (i1Q s + 1)) := by
        show l2 0 1000000 (dotL (l1 0 (bL s)).2) = _
        rw [← r1, hc, dotL, decide_eq_true h46]; rfl
      have e := q_c21 T1 E1 s (n1Q s) (i1Q s : Nat) (ptQ s)
      rw [h20, h1, h2, h3, sm1Q_t, hl, hin, hby, show (((c.toNat : Nat) : Int) == 46) = true by rw [h46]; rfl, sm2Q_t] at e
      refine ⟨_, orQ.ok (s := s) (sg := 1) ht (i2 := i1Q s + 1) hlt, ?_⟩
      rw [← hw, ← hp]
      exact (T.pick_path _ _ e).trans (congrArg T.pick (q_l21 T1 E1 s (n1Q s) (i1Q s : Nat) (ptQ s)))
    · have hp : ptQ s = l2 0 1000000 ((bL s).drop (i1Q s)) := by
        show l2 0 1000000 (dotL (l1 0 (bL s)).2) = _
        rw [← r1, hc, dotL, decide_eq_false h46]; rfl
      have e := q_c22 T1 E1 s (n1Q s) (i1Q s : Nat) (ptQ s)
      rw [h20, h1, h2, h3, sm1Q_t, hl, hin, hby, show (((c.toNat : Nat) : Int) == 46) = false by simp; omega, sm2Q_t] at e
      refine ⟨_, orQ.ok (s := s) (sg := 1) ht (i2 := i1Q s) r2, ?_⟩
      rw [← hp]
      exact (T.pick_path _ _ e).trans (congrArg T.pick (q_l22 T1 E1 s (n1Q s) (i1Q s : Nat) (ptQ s)))
  · have hl : decide (((i1Q s : Nat) : Int) < (s.size : Int)) = false := decide_eq_false (by omega)
    have hp : ptQ s = l2 0 1000000 ((bL s).drop (i1Q s)) := by
      show l2 0 1000000 (dotL (l1 0 (bL s)).2) = _
      rw [← r1, List.drop_eq_nil_of_le (show (bL s).length ≤ i1Q s from hge)]; rfl
    have e := q_c23 T1 E1 s (n1Q s) (i1Q s : Nat) (ptQ s)
    rw [h20, h1, h2, h3, sm1Q_t, hl, sm2Q_t] at e
    refine ⟨_, orQ.ok (s := s) (sg := 1) ht (i2 := i1Q s) r2, ?_⟩
    rw [← hp]
    exact (T.pick_path _ _ e).trans (congrArg T.pick (q_l23 T1 E1 s (n1Q s) (i1Q s : Nat) (ptQ s)))
theorem way3 (T1 : Int → ByteArray) (E1 : Int → Int) (s : ByteArray) (ht : (tlQ s).size ≤ 1000) (h20 : decide ((s.size : Int) > 20) = false) (h1 : nnQ s = true) (h2 : inQ s 0 = true) (h3 : (byQ s 0 == 45) = true) (h4 : slQ s = true) : ∃ Λ, LamOK Tryz.prog (cod Tryz.f71) Λ ∧
    (funV Tryz.prog (ΓQ T1 E1) Λ Tryz.f71 (cod Tryz.f71) [V.s s]).pick = (endQ T1 E1 s (aQ (-1) (n1Q (tlQ s)) (ptQ (tlQ s)))).pick := by
  obtain ⟨r1, r2⟩ := rest_q (tlQ s)
  rcases Nat.lt_or_ge (i1Q (tlQ s)) (tlQ s).size with hlt | hge
  · obtain ⟨c, hc, hb⟩ := drop_at hlt
    have hin : inQ (tlQ s) (i1Q (tlQ s) : Nat) = true := decide_eq_true (by omega)
    have hl : decide (((i1Q (tlQ s) : Nat) : Int) < ((tlQ s).size : Int)) = true := decide_eq_true (by omega)
    have hby : byQ (tlQ s) (i1Q (tlQ s) : Nat) = (c.toNat : Nat) := hb
    have hw : w64 (((i1Q (tlQ s) : Nat) : Int) + 1) = ((i1Q (tlQ s) + 1 : Nat) : Int) := w64_suc hlt (by omega)
    by_cases h46 : c.toNat = 46
    · have hp : ptQ (tlQ s) = l2 0 1000000 ((bL (tlQ s)).drop (i1Q (tlQ s) + 1)) := by
        show l2 0 1000000 (dotL (l1 0 (bL (tlQ s))).2) = _
        rw [← r1, hc, dotL, decide_eq_true h46]; rfl
      have e := q_c31 T1 E1 s (n1Q (tlQ s)) (i1Q (tlQ s) : Nat) (ptQ (tlQ s))
      rw [h20, h1, h2, h3, h4, sm1Q_t, hl, hin, hby, show (((c.toNat : Nat) : Int) == 46) = true by rw [h46]; rfl, sm2Q_t] at e
      refine ⟨_, orQ.ok (s := s) (sg := (-1)) ht (i2 := i1Q (tlQ s) + 1) hlt, ?_⟩
      rw [← hw, ← hp]
      exact (T.pick_path _ _ e).trans (congrArg T.pick (q_l31 T1 E1 s (n1Q (tlQ s)) (i1Q (tlQ s) : Nat) (ptQ (tlQ s))))
    · have hp : ptQ (tlQ s) = l2 0 1000000 ((bL (tlQ s)).drop (i1Q (tlQ s))) := by
        show l2 0 1000000 (dotL (l1 0 (bL (tlQ s))).2) = _
        rw [← r1, hc, dotL, decide_eq_false h46]; rfl
      have e := q_c32 T1 E1 s (n1Q (tlQ s)) (i1Q (tlQ s) : Nat) (ptQ (tlQ s))
      rw [h20, h1, h2, h3, h4, sm1Q_t, hl, hin, hby, show (((c.toNat : Nat) : Int) == 46) = false by simp; omega, sm2Q_t] at e
      refine ⟨_, orQ.ok (s := s) (sg := (-1)) ht (i2 := i1Q (tlQ s)) r2, ?_⟩
      rw [← hp]
      exact (T.pick_path _ _ e).trans (congrArg T.pick (q_l32 T1 E1 s (n1Q (tlQ s)) (i1Q (tlQ s) : Nat) (ptQ (tlQ s))))
  · have hl : decide (((i1Q (tlQ s) : Nat) : Int) < ((tlQ s).size : Int)) = false := decide_eq_false (by omega)
    have hp : ptQ (tlQ s) = l2 0 1000000 ((bL (tlQ s)).drop (i1Q (tlQ s))) := by
      show l2 0 1000000 (dotL (l1 0 (bL (tlQ s))).2) = _
      rw [← r1, List.drop_eq_nil_of_le (show (bL (tlQ s)).length ≤ i1Q (tlQ s) from hge)]; rfl
    have e := q_c33 T1 E1 s (n1Q (tlQ s)) (i1Q (tlQ s) : Nat) (ptQ (tlQ s))
    rw [h20, h1, h2, h3, h4, sm1Q_t, hl, sm2Q_t] at e
    refine ⟨_, orQ.ok (s := s) (sg := (-1)) ht (i2 := i1Q (tlQ s)) r2, ?_⟩
    rw [← hp]
    exact (T.pick_path _ _ e).trans (congrArg T.pick (q_l33 T1 E1 s (n1Q (tlQ s)) (i1Q (tlQ s) : Nat) (ptQ (tlQ s))))
abbrev erU (a : Int) : Int := bif rightU a then 0 else 10
theorem prG.ok : SpecOK Tryz.prog 92 (prG printT erU) := r1Print.ok.imp fun args r hv h => by
  unfold prG at h
  split at h
  · exact h
  · cases h
theorem endQ_pick (s : ByteArray) (h20 : decide ((s.size : Int) > 20) = false) {a : Int} (ha : a = rpA s) : (endQ printT erU s a).pick = some (rUp (rpO s)) := by
  subst ha
  rw [pick_ite, pick_leaf, pick_leaf, rUp, rpO, h20, cond_false]
  cases hR : rightU (rpA s) with
  | false => rw [show erU (rpA s) = 10 by show (bif rightU (rpA s) then _ else _) = _; rw [hR]; rfl]; rfl
  | true =>
    rw [show erU (rpA s) = 0 by show (bif rightU (rpA s) then _ else _) = _; rw [hR]; rfl, show printT (rpA s) = bT (printL (rpA s)) by show (bif rightU _ then _ else _) = _; rw [hR]; rfl]
    cases seqB (bT (printL (rpA s))) s <;> rfl
theorem r1Parse.ok : SpecOK Tryz.prog 71 uParse.s := by
  refine okF (.cons prG.ok (GOK.nil _)) Tryz.func71 (by kernel_rfl) (by kernel_rfl) fun args r hb hr => ?_
  unfold uParse.s at hr
  split at hr
  · rename_i s
    rw [pick_ite] at hr
    by_cases h : s.size ≤ 1000000
    · rw [decide_eq_true h, cond_true, pick_leaf, ← rpO_eq] at hr
      rw [← hr]
      cases h20 : decide ((s.size : Int) > 20) with
      | true =>
        have e := q_cX printT erU s
        rw [h20] at e
        refine ⟨[], LamOK.nil _ _, ((T.pick_path _ _ e).trans (congrArg T.pick (q_lX printT erU s))).trans ?_⟩
        unfold rpO
        rw [h20]; rfl
      | false =>
        have hsz : s.size ≤ 20 := by have := of_decide_eq_false h20; omega
        cases hn : nnQ s with
        | false =>
          have hs : s = bT [] := seqB_iff.1 (by simpa [nnQ] using hn)
          obtain ⟨Λ, g1, g2⟩ := way1 printT erU s (by omega) h20 hn
          refine ⟨Λ, g1, g2.trans (endQ_pick s h20 ?_)⟩
          rw [aQ_eq s (.inl rfl), hs]; rfl
        | true =>
          have hne : 0 < s.size := by
            rcases Nat.eq_zero_or_pos s.size with h0 | h0
            · have : s = bT [] := bL_inj (List.eq_nil_of_length_eq_zero h0)
              rw [nnQ, this, seqB_iff.2 rfl] at hn
              cases hn
            · exact h0
          have hin : inQ s 0 = true := decide_eq_true (by omega)
          obtain ⟨c, hc, hbt⟩ := drop_at hne
          rw [List.drop_zero] at hc
          have hby : byQ s 0 = (c.toNat : Nat) := hbt
          have hpre : ([45] : List UInt8).isPrefixOf (bL s) = decide (c.toNat = 45) := by
            rw [hc]
            simp only [List.isPrefixOf, Bool.and_true]
            rw [Bool.eq_iff_iff, beq_iff_eq, decide_eq_true_iff]
            exact ⟨fun h => by rw [← h]; rfl, fun h => (UInt8.toNat_inj.1 (show (45 : UInt8).toNat = c.toNat from h.symm))⟩
          by_cases h45 : c.toNat = 45
          · rw [decide_eq_true h45] at hpre
            have hsl : slQ s = true := decide_eq_true (by omega)
            have hts : (tlQ s).size ≤ 1000 := by rw [ByteArray.size_extract]; omega
            obtain ⟨Λ, g1, g2⟩ := way3 printT erU s hts h20 hn hin (by rw [hby, h45]; rfl) hsl
            refine ⟨Λ, g1, g2.trans (endQ_pick s h20 ?_)⟩
            have hup : bL (upT s) = bL (tlQ s) := by
              show bL (bT (Lib.trimPrefix (bL s) (bL (bT [45])))) = _
              rw [bL_bT, bL_bT, Lib.trimPrefix, Lib.hasPrefix, hpre, if_pos rfl]
              have h1 : bL (tlQ s) = ((bL s).drop 1).take (s.size - 1) := Lib.extract_data s 1 s.size
              rw [h1, List.take_of_length_le (by rw [List.length_drop]; exact Nat.le_refl _)]; rfl
            rw [aQ_eq (tlQ s) (.inr rfl), rpA, show upN s = true by show Lib.hasPrefix (bL s) (bL (bT [45])) = true; rw [bL_bT]; exact hpre, hup, cond_true]
            omega
          · rw [decide_eq_false h45] at hpre
            obtain ⟨Λ, g1, g2⟩ := way2 printT erU s (by omega) h20 hn hin (by rw [hby]; simp; omega)
            refine ⟨Λ, g1, g2.trans (endQ_pick s h20 ?_)⟩
            have hup : bL (upT s) = bL s := by
              show bL (bT (Lib.trimPrefix (bL s) (bL (bT [45])))) = _
              rw [bL_bT, bL_bT, Lib.trimPrefix, Lib.hasPrefix, hpre, if_neg (by simp)]
            rw [aQ_eq s (.inl rfl), rpA, show upN s = false by show Lib.hasPrefix (bL s) (bL (bT [45])) = false; rw [bL_bT]; exact hpre, hup, cond_false]
            omega
    · rw [decide_eq_false h] at hr; cases hr
  · cases hr
end Go.Proofs.YtgmeglodnhagdaaGreatDoor

/-! ## StU -/
namespace Go.Proofs.YtgmeglodnhagdaaGreatDoor
open Go Go.SX Go.Proofs Go.RowKit
set_option maxRecDepth 100000
variable [EA]
set_option linter.unusedVariables false
set_option linter.unusedSectionVars false
set_option linter.unusedSimpArgs false
/-! ### numbers -/
def nb1 (n : Int) : List UInt8 → Option Int
  | [] => some n
  | c :: r => bif (bif isDig c.toNat then decide (n > 1000) else true) then none else nb1 (10 * n + ((c.toNat : Int) - 48)) r
def nbN (v : ByteArray) : Int := match nb1 0 (bL v) with
  | none => -1
  | some n => bif seqB (digT n) v then n else -1
theorem nb_all : (List.range 100).all (fun n => decide (nb1 0 (digF 1 n) = some ((n : Nat) : Int))) = true := by decide +kernel
theorem digL_100 {n : Nat} (h : n < 100) : digL n = digF 1 n := digF_more 19 1 n (by omega) (by omega)
theorem nb_print {n : Int} (h0 : 0 ≤ n) (h : n < 100) : nbN (bT (Lib.itoa n)) = n := by
  obtain ⟨k, rfl⟩ := Int.eq_ofNat_of_zero_le h0
  have hk : k < 100 := by omega
  have h1 := of_decide_eq_true (List.all_eq_true.1 nb_all k (List.mem_range.2 hk))
  unfold nbN
  rw [bL_bT, itoa_small hk, h1]
  simp only
  rw [show digT ((k : Nat) : Int) = bT (digF 1 k) by rw [digT, Int.toNat_natCast, digL_100 hk], seqB_iff.2 rfl]; rfl
theorem nb_back {v : ByteArray} (h0 : 0 ≤ nbN v) (h : nbN v < 100) : v = bT (Lib.itoa (nbN v)) := by
  have hv : v = digT (nbN v) := by
    unfold nbN at h0 ⊢
    cases hn : nb1 0 (bL v) with
    | none => rw [hn] at h0; simp only at h0; omega
    | some n =>
      rw [hn] at h0
      simp only at h0 ⊢
      cases hs : seqB (digT n) v with
      | true => exact (seqB_iff.1 hs).symm
      | false => rw [hs] at h0; simp only [cond_false] at h0; omega
  obtain ⟨k, hk⟩ := Int.eq_ofNat_of_zero_le h0
  rw [hk] at hv h ⊢
  rw [hv, digT, Int.toNat_natCast, digL_100 (by omega), itoa_small (by omega)]
/-! ### words -/
abbrev wrd3 (a b : ByteArray) : Nat → Nat → Q := gL [[txQ (bT [])], [txQ a], [txQ b]]
abbrev qWr (v : ByteArray) (g : Nat → Nat → Q) (i : Nat) : Bool := seqB (qStr (g i 0)) v
abbrev wdR (v : ByteArray) (g : Nat → Nat → Q) (n : Nat) : Int := idxI (fstN n (qWr v g))
abbrev avoid3 : Nat → Nat → Q := wrd3 ⟨#[97, 118, 111, 105, 100]⟩ ⟨#[99, 111, 108, 117, 109, 110]⟩
abbrev left3 : Nat → Nat → Q := wrd3 ⟨#[108, 101, 102, 116]⟩ ⟨#[114, 105, 103, 104, 116]⟩
theorem seqB_ne {a b : ByteArray} (h : a ≠ b) : seqB a b = false := by rw [Bool.eq_false_iff, Ne, seqB_iff]; exact h
theorem wd_both (v a b : ByteArray) (ha : a ≠ bT []) (hb : b ≠ bT []) (hab : a ≠ b) : (v = bT [] ∧ wdN v (wrdG a b) = 0 ∧ wdR v (wrd3 a b) 3 = 0) ∨ (wdN v (wrdG a b) = 1 ∧ wdR v (wrd3 a b) 3 = 1) ∨ (wdN v (wrdG a b) = 2 ∧ wdR v (wrd3 a b) 3 = 2) ∨ (wdN v (wrdG a b) = 0 ∧ wdR v (wrd3 a b) 3 = -1) := by
  have q0 : qIx v (wrdG a b) 0 = seqB v a := rfl
  have q1 : qIx v (wrdG a b) 1 = seqB v b := rfl
  have r0 : qWr v (wrd3 a b) 0 = seqB (bT []) v := rfl
  have r1 : qWr v (wrd3 a b) 1 = seqB a v := rfl
  have r2 : qWr v (wrd3 a b) 2 = seqB b v := rfl
  by_cases h0 : v = bT []
  · refine .inl ⟨h0, ?_, ?_⟩
    · have : fstN 2 (qIx v (wrdG a b)) = none := fstN_none fun j hj => by
        match j, hj with
        | 0, _ => rw [q0]; exact seqB_ne fun h => ha (h.symm.trans h0)
        | 1, _ => rw [q1]; exact seqB_ne fun h => hb (h.symm.trans h0)
      show w64 (idxI (fstN 2 (qIx v (wrdG a b))) + 1) = 0
      rw [this]; rfl
    · have : fstN 3 (qWr v (wrd3 a b)) = some 0 := fstN_some (by omega) (by rw [r0]; exact seqB_iff.2 h0.symm) fun j hj => by omega
      show idxI (fstN 3 (qWr v (wrd3 a b))) = 0
      rw [this]; rfl
  · by_cases h1 : v = a
    · refine .inr (.inl ⟨?_, ?_⟩)
      · have : fstN 2 (qIx v (wrdG a b)) = some 0 := fstN_some (by omega) (by rw [q0]; exact seqB_iff.2 h1) fun j hj => by omega
        show w64 (idxI (fstN 2 (qIx v (wrdG a b))) + 1) = 1
        rw [this]; rfl
      · have : fstN 3 (qWr v (wrd3 a b)) = some 1 := fstN_some (by omega) (by rw [r1]; exact seqB_iff.2 h1.symm) fun j hj => by
          obtain rfl : j = 0 := by omega
          rw [r0]; exact seqB_ne fun h => h0 h.symm
        show idxI (fstN 3 (qWr v (wrd3 a b))) = 1
        rw [this]; rfl
    · by_cases h2 : v = b
      · refine .inr (.inr (.inl ⟨?_, ?_⟩))
        · have : fstN 2 (qIx v (wrdG a b)) = some 1 := fstN_some (by omega) (by rw [q1]; exact seqB_iff.2 h2) fun j hj => by
            obtain rfl : j = 0 := by omega
            rw [q0]; exact seqB_ne h1
          show w64 (idxI (fstN 2 (qIx v (wrdG a b))) + 1) = 2
          rw [this]; rfl
        · have : fstN 3 (qWr v (wrd3 a b)) = some 2 := fstN_some (by omega) (by rw [r2]; exact seqB_iff.2 h2.symm) fun j hj => by
            match j, hj with
            | 0, _ => rw [r0]; exact seqB_ne fun h => h0 h.symm
            | 1, _ => rw [r1]; exact seqB_ne fun h => h1 h.symm
          show idxI (fstN 3 (qWr v (wrd3 a b))) = 2
          rw [this]; rfl
      · refine .inr (.inr (.inr ⟨?_, ?_⟩))
        · have : fstN 2 (qIx v (wrdG a b)) = none := fstN_none fun j hj => by
            match j, hj with
            | 0, _ => rw [q0]; exact seqB_ne h1
            | 1, _ => rw [q1]; exact seqB_ne h2
          show w64 (idxI (fstN 2 (qIx v (wrdG a b))) + 1) = 0
          rw [this]; rfl
        · have : fstN 3 (qWr v (wrd3 a b)) = none := fstN_none fun j hj => by
            match j, hj with
            | 0, _ => rw [r0]; exact seqB_ne fun h => h0 h.symm
            | 1, _ => rw [r1]; exact seqB_ne fun h => h1 h.symm
            | 2, _ => rw [r2]; exact seqB_ne fun h => h2 h.symm
          show idxI (fstN 3 (qWr v (wrd3 a b))) = -1
          rw [this]; rfl
/-! ### a value that is set -/
def rsR (s : Sty) (v : ByteArray) : Nat → Sty × Bool
  | 0 => (putN s (nbN v) 0, decide (nbN v ≥ 0))
  | 1 => (putN s ((parO v).getD 0) 1, (bif (parO v).isSome then (0 : Int) else 12) == 0)
  | 2 => (putN s ((parO v).getD 0) 2, (bif (parO v).isSome then (0 : Int) else 12) == 0)
  | 3 => (putN s ((parO v).getD 0) 3, (bif (parO v).isSome then (0 : Int) else 12) == 0)
  | 4 => (putB s 4, true)
  | 5 => (putN s ((parO v).getD 0) 5, (bif (parO v).isSome then (0 : Int) else 12) == 0)
  | 6 => (putN s (nbN v) 6, decide (nbN v ≥ 0))
  | 7 => (putN s (nbN v) 7, decide (nbN v ≥ 0))
  | 8 => (putB s 8, true)
  | 9 => (putN s (wdR v avoid3 3) 9, decide (wdR v avoid3 3 ≥ 0))
  | 10 => (putN s (wdR v avoid3 3) 10, decide (wdR v avoid3 3 ≥ 0))
  | 11 => (putB s 11, true)
  | 12 => (putN s (wdR v left3 3) 12, decide (wdR v left3 3 ≥ 0))
  | 13 => (putB s 13, true)
  | 14 => (putN s ((parO v).getD 0) 14, (bif (parO v).isSome then (0 : Int) else 12) == 0)
  | 15 => (putN s ((parO v).getD 0) 15, (bif (parO v).isSome then (0 : Int) else 12) == 0)
  | _ => (s, false)
/-- What is wrong with a value: 2: something. -/
def cde (x : Sty × Bool) (st : Sty) : Nat := bif !x.2 then 2 else bif !(rightS x.1) then 2 else bif styEq x.1 st then 2 else 0
theorem cde_no {x : Sty} {st : Sty} : cde (x, false) st = 2 := rfl
theorem cde_bad {x : Sty} {st : Sty} {b : Bool} (h : ¬ RightS x) : cde (x, b) st = 2 := by
  unfold cde
  rw [show rightS x = false by rw [Bool.eq_false_iff, Ne, rightS_iff]; exact h]
  cases b <;> rfl
theorem cde_same {st : Sty} {b : Bool} : cde (st, b) st = 2 := by
  unfold cde
  rw [styEq_iff.2 rfl]
  cases b <;> cases rightS st <;> rfl
abbrev Sim (x y : Sty × Bool) (st : Sty) : Prop := cde x st = cde y st ∧ (cde x st = 0 → x.1 = y.1)
theorem Sim.of {x y : Sty × Bool} {st : Sty} (h : x = y) : Sim x y st := ⟨by rw [h], fun _ => by rw [h]⟩
theorem Sim.two {x y : Sty × Bool} {st : Sty} (h : cde x st = 2) (h2 : cde y st = 2) : Sim x y st := ⟨by rw [h, h2], fun h3 => by omega⟩
theorem num_sim (st : Sty) (v : ByteArray) (put : Int → Sty) (hput : ∀ n, RightS (put n) → 0 ≤ n ∧ n < 100) : Sim (put (atoiN v), numOk v) (put (nbN v), decide (nbN v ≥ 0)) st := by
  by_cases hA : numOk v = true ∧ 0 ≤ atoiN v ∧ atoiN v < 100
  · obtain ⟨h1, h2, h3⟩ := hA
    have hv := numOk_sound h1
    have hn := nb_print h2 h3
    rw [← hv] at hn
    exact .of (by rw [hn, h1, decide_eq_true h2])
  · have hB : ¬ (0 ≤ nbN v ∧ nbN v < 100) := fun ⟨h1, h2⟩ => hA (by
      have hv := nb_back h1 h2
      have hp := num_print h1 h2
      rw [← hv] at hp
      exact ⟨hp.1, by omega, by omega⟩)
    refine .two ?_ ?_
    · cases h1 : numOk v with
      | false => rfl
      | true => exact cde_bad fun h => hA ⟨h1, hput _ h⟩
    · by_cases h1 : 0 ≤ nbN v
      · exact cde_bad fun h => hB (hput _ h)
      · rw [decide_eq_false (show ¬ nbN v ≥ 0 from h1)]; rfl
theorem wd_sim (st : Sty) (v a b : ByteArray) (ha : a ≠ bT []) (hb : b ≠ bT []) (hab : a ≠ b) (put : Int → Sty) (hput : put 0 = st) : Sim (put (wdN v (wrdG a b)), decide (wdN v (wrdG a b) > 0)) (put (wdR v (wrd3 a b) 3), decide (wdR v (wrd3 a b) 3 ≥ 0)) st := by
  rcases wd_both v a b ha hb hab with ⟨_, h1, h2⟩ | ⟨h1, h2⟩ | ⟨h1, h2⟩ | ⟨h1, h2⟩
  · rw [h1, h2]
    refine .two rfl ?_
    rw [hput]; exact cde_same
  · rw [h1, h2]; exact .of rfl
  · rw [h1, h2]; exact .of rfl
  · rw [h1, h2]; exact .two rfl rfl
theorem set_sim {st : Sty} {v : ByteArray} : ∀ i, i < 16 → fv st i = fv plainS i → Sim (rdR st v i) (rsR st v i) st
  | 0, _, _ => num_sim st v (fun n => putN st n 0) fun n h => by have h1 := h.c; have h2 : ({ st with c := n } : Sty).c = n := rfl; have h3 : 0 ≤ n ∧ n ≤ 50 := (show 0 ≤ n ∧ n ≤ 50 from by have h4 := h1; simp only [putN] at h4; omega); omega
  | 1, _, _ => .of rfl
  | 2, _, _ => .of rfl
  | 3, _, _ => .of rfl
  | 4, _, _ => .of rfl
  | 5, _, _ => .of rfl
  | 6, _, _ => num_sim st v (fun n => putN st n 6) fun n h => by have h1 := h.o; have h2 : ({ st with o := n } : Sty).o = n := rfl; have h3 : 0 ≤ n ∧ n ≤ 50 := (show 0 ≤ n ∧ n ≤ 50 from by have h4 := h1; simp only [putN] at h4; omega); omega
  | 7, _, _ => num_sim st v (fun n => putN st n 7) fun n h => by have h1 := h.wi; have h2 : ({ st with wi := n } : Sty).wi = n := rfl; have h3 : 0 ≤ n ∧ n ≤ 50 := (show 0 ≤ n ∧ n ≤ 50 from by have h4 := h1; simp only [putN] at h4; omega); omega
  | 8, _, _ => .of rfl
  | 9, _, hp => wd_sim st v ⟨#[97, 118, 111, 105, 100]⟩ ⟨#[99, 111, 108, 117, 109, 110]⟩ (by decide) (by decide) (by decide) (fun n => putN st n 9) (by have h0 : st.b = 0 := hp; show ({ st with b := 0 } : Sty) = st; rw [← h0])
  | 10, _, hp => wd_sim st v ⟨#[97, 118, 111, 105, 100]⟩ ⟨#[99, 111, 108, 117, 109, 110]⟩ (by decide) (by decide) (by decide) (fun n => putN st n 10) (by have h0 : st.af = 0 := hp; show ({ st with af := 0 } : Sty) = st; rw [← h0])
  | 11, _, _ => .of rfl
  | 12, _, hp => wd_sim st v ⟨#[108, 101, 102, 116]⟩ ⟨#[114, 105, 103, 104, 116]⟩ (by decide) (by decide) (by decide) (fun n => putN st n 12) (by have h0 : st.si = 0 := hp; show ({ st with si := 0 } : Sty) = st; rw [← h0])
  | 13, _, _ => .of rfl
  | 14, _, _ => .of rfl
  | 15, _, _ => .of rfl
  | n + 16, h, _ => by omega
/-! ### a part -/
def plN (x : ByteArray) : Int := idxI (fstN 16 fun i => seqB (nmB i) x)
def bareB (x : ByteArray) : Bool := bif seqB x ⟨#[97, 117, 116, 111]⟩ then true else bif seqB x ⟨#[107, 101, 101, 112]⟩ then true else bif seqB x ⟨#[115, 112, 97, 110]⟩ then true else seqB x ⟨#[99, 108, 101, 97, 114]⟩
theorem bare_at : ∀ i, i < 16 → bareB (nmB i) = !(hasF i)
  | 0, _ => by unfold bareB; simp only [seqB, Lib.toList_data]; decide
  | 1, _ => by unfold bareB; simp only [seqB, Lib.toList_data]; decide
  | 2, _ => by unfold bareB; simp only [seqB, Lib.toList_data]; decide
  | 3, _ => by unfold bareB; simp only [seqB, Lib.toList_data]; decide
  | 4, _ => by unfold bareB; simp only [seqB, Lib.toList_data]; decide
  | 5, _ => by unfold bareB; simp only [seqB, Lib.toList_data]; decide
  | 6, _ => by unfold bareB; simp only [seqB, Lib.toList_data]; decide
  | 7, _ => by unfold bareB; simp only [seqB, Lib.toList_data]; decide
  | 8, _ => by unfold bareB; simp only [seqB, Lib.toList_data]; decide
  | 9, _ => by unfold bareB; simp only [seqB, Lib.toList_data]; decide
  | 10, _ => by unfold bareB; simp only [seqB, Lib.toList_data]; decide
  | 11, _ => by unfold bareB; simp only [seqB, Lib.toList_data]; decide
  | 12, _ => by unfold bareB; simp only [seqB, Lib.toList_data]; decide
  | 13, _ => by unfold bareB; simp only [seqB, Lib.toList_data]; decide
  | 14, _ => by unfold bareB; simp only [seqB, Lib.toList_data]; decide
  | 15, _ => by unfold bareB; simp only [seqB, Lib.toList_data]; decide
  | n + 16, h => by omega
theorem plN_at {i : Nat} (h : i < 16) : plN (nmB i) = (i : Nat) := by
  have : (fstN 16 fun j => seqB (nmB j) (nmB i)) = some i := fstN_some h (seqB_iff.2 rfl) fun j hj => seqB_ne fun e => by
    have := nm_inj (by omega) h e
    omega
  unfold plN
  rw [this]; rfl
theorem plN_no {x : ByteArray} (h : ∀ i, i < 16 → x ≠ nmB i) : plN x = -1 := by
  have : (fstN 16 fun j => seqB (nmB j) x) = none := fstN_none fun j hj => seqB_ne fun e => h j hj e.symm
  unfold plN
  rw [this]; rfl
abbrev c40 (m : Nat) (x : ByteArray) : Bool := bif decide (plN (nmX x) ≤ 15 - (m : Int)) then true else hsX x == bareB (nmX x)
def rcE (m : Nat) (st : Sty) (x : ByteArray) : Nat := bif c40 m x then 1 else cde (rsR st (vlX x) (plN (nmX x)).toNat) st
theorem part_sim {m : Nat} {st : Sty} {x : ByteArray} (hm : m ≤ 16) (hp : ∀ j, 16 - m ≤ j → j < 16 → fv st j = fv plainS j) :
    pE m st x = rcE m st x ∧ (pE m st x = 0 → pS m st x = (rsR st (vlX x) (plN (nmX x)).toNat).1 ∧ plN (nmX x) = 15 - ((pM m st x : Nat) : Int)) ∧ (c40 m x = false → 0 ≤ plN (nmX x) ∧ plN (nmX x) < 16) := by
  by_cases hn : ∃ i, i < 16 ∧ nmX x = nmB i
  · obtain ⟨i, hi, hx⟩ := hn
    have hpl : plN (nmX x) = (i : Nat) := by rw [hx]; exact plN_at hi
    rcases Nat.lt_or_ge i (16 - m) with hlt | hge
    · have hF : pF m x = none := fstN_none fun j hj => by
        show seqB (qStr (gFd (j + (16 - m)) 0)) (nmX x) = false
        rw [gFd_nm _ (by omega), hx]
        exact seqB_ne fun e => by
          have := nm_inj (by omega) hi e
          omega
      have h1 : pE m st x = 1 := by unfold pE; rw [hF]
      have hc : c40 m x = true := by
        unfold c40
        rw [hpl, decide_eq_true (show ((i : Nat) : Int) ≤ 15 - (m : Int) by omega)]; rfl
      refine ⟨?_, fun h => by omega, fun h => by rw [hc] at h; cases h⟩
      rw [h1]; unfold rcE; rw [hc]; rfl
    · have hF := pF_at hm hge hi hx
      have hi2 : 16 - m + (i - (16 - m)) = i := by omega
      have hh : qBool (gsh (16 - m) (i - (16 - m)) 1) = hasF i := by
        show qBool (gFd (i - (16 - m) + (16 - m)) 1) = _
        rw [show i - (16 - m) + (16 - m) = i by omega]; rfl
      have hc : c40 m x = !(hasF i == hsX x) := by
        unfold c40
        rw [hpl, decide_eq_false (show ¬ ((i : Nat) : Int) ≤ 15 - (m : Int) by omega), hx, bare_at i hi]
        cases hasF i <;> cases hsX x <;> rfl
      have hE : pE m st x = bif !(hasF i == hsX x) then 1 else cde (rdR st (vlX x) i) st := by
        unfold pE
        rw [hF]
        simp only
        rw [hh, hi2]; rfl
      have hR : rcE m st x = bif !(hasF i == hsX x) then 1 else cde (rsR st (vlX x) i) st := by
        unfold rcE
        rw [hc, hpl, Int.toNat_natCast]
      obtain ⟨s1, s2⟩ := set_sim (st := st) (v := vlX x) i hi (hp i hge hi)
      refine ⟨by rw [hE, hR, s1], fun h => ?_, fun _ => by omega⟩
      rw [hE] at h
      cases hb : !(hasF i == hsX x) with
      | true => rw [hb] at h; cases h
      | false =>
        rw [hb, cond_false] at h
        have hE0 : pE m st x = 0 := by rw [hE, hb]; exact h
        constructor
        · rw [hpl, Int.toNat_natCast, ← s2 h]
          unfold pS
          rw [hF]
          simp only
          rw [hh, hb, hi2]; rfl
        · rw [hpl]
          unfold pM
          rw [hF]
          simp only
          rw [hE0, show ((0 : Nat) == 0) = true from rfl, cond_true]; omega
  · have hpl := plN_no fun i hi e => hn ⟨i, hi, e⟩
    have hF : pF m x = none := fstN_none fun j hj => by
      show seqB (qStr (gFd (j + (16 - m)) 0)) (nmX x) = false
      rw [gFd_nm _ (by omega)]
      exact seqB_ne fun e => hn ⟨_, by omega, e.symm⟩
    have h1 : pE m st x = 1 := by unfold pE; rw [hF]
    have hc : c40 m x = true := by
      unfold c40
      rw [hpl, decide_eq_true (show (-1 : Int) ≤ 15 - (m : Int) by omega)]; rfl
    refine ⟨?_, fun h => by omega, fun h => by rw [hc] at h; cases h⟩
    rw [h1]; unfold rcE; rw [hc]; rfl
/-! ### the parts, one behind the other -/
theorem splitK_cut (sep s : List UInt8) (hsep : sep ≠ []) : Lib.splitK sep 0 (Lib.count s sep) s = if (Lib.cut s sep).2.2 then (Lib.cut s sep).1 :: Lib.splitK sep 0 (Lib.count (Lib.cut s sep).2.1 sep) (Lib.cut s sep).2.1 else [s] := by
  rcases Lib.index_spec s sep with ⟨h1, _⟩ | ⟨i, h1, h2, h3, _⟩
  · have hc : Lib.cut s sep = (s, [], false) := by
      unfold Lib.cut
      rw [h1, if_neg (by omega)]
    rw [Lib.count_miss h1, hc, if_neg (by simp)]; rfl
  · have hc : Lib.cut s sep = (s.take i, s.drop (i + sep.length), true) := by
      unfold Lib.cut
      rw [h1, if_pos (by omega)]
      simp
    rw [hc, Lib.count_hit hsep h1, if_pos rfl, Nat.add_comm 1, Lib.splitK, h1, if_neg (by simp)]
    simp only [Int.toNat_natCast, Nat.add_zero]
/-- What is left of a text behind k parts. -/
def remX (x : ByteArray) : Nat → ByteArray
  | 0 => x
  | k + 1 => bT (cutS (remX x k) semiB).2.1
theorem prtL_cut (x : ByteArray) : (prtL x).map bL = if (cutS x semiB).2.2 then (cutS x semiB).1 :: (prtL (bT (cutS x semiB).2.1)).map bL else [bL x] := by
  have e : ∀ y : ByteArray, (prtL y).map bL = Lib.splitK [59, 32] 0 (Lib.count (bL y) [59, 32]) (bL y) := fun y => Lib.splitB_data semiB 0 _ y
  rw [e, e, splitK_cut _ _ (by simp), bL_bT]
theorem prtL_pos (x : ByteArray) : 0 < (prtL x).length := by
  have h := congrArg List.length (prtL_cut x)
  rw [List.length_map] at h
  rw [h]
  split <;> simp
theorem prtL_rem (x : ByteArray) : ∀ k, k < (prtL x).length → ((prtL x).map bL).drop k = (prtL (remX x k)).map bL
  | 0, _ => rfl
  | k + 1, h => by
    have ih := prtL_rem x k (by omega)
    have h2 : ((prtL x).map bL).drop (k + 1) = (((prtL x).map bL).drop k).drop 1 := by rw [List.drop_drop]
    rw [h2, ih, prtL_cut (remX x k)]
    cases hb : (cutS (remX x k) semiB).2.2 with
    | true => rw [if_pos rfl]; rfl
    | false =>
      have h3 := congrArg List.length ih
      rw [prtL_cut (remX x k), hb, if_neg (by simp)] at h3
      simp at h3
      omega
theorem part_rem {x : ByteArray} {k : Nat} (h : k < (prtL x).length) : xAt (prtG x) k = bT (cutS (remX x k) semiB).1 ∧ (cutS (remX x k) semiB).2.2 = decide (k + 1 < (prtL x).length) := by
  have e := prtL_rem x k h
  have e2 := prtL_cut (remX x k)
  rw [← e] at e2
  have h1 : ((prtL x).map bL).drop k = bL ((prtL x)[k]) :: ((prtL x).map bL).drop (k + 1) := by
    rw [List.drop_eq_getElem_cons (by simpa using h)]; simp
  rw [h1] at e2
  rw [prtG_at h]
  cases hb : (cutS (remX x k) semiB).2.2 with
  | true =>
    rw [hb, if_pos rfl] at e2
    injection e2 with e3 e4
    refine ⟨bL_inj (by rw [e3, bL_bT]), ?_⟩
    have hl := congrArg List.length e4
    rw [List.length_drop, List.length_map, List.length_map] at hl
    have := prtL_pos (bT (cutS (remX x k) semiB).2.1)
    exact (decide_eq_true (by omega)).symm
  | false =>
    rw [hb, if_neg (by simp)] at e2
    injection e2 with e3 e4
    have h5 := cut_eq0 hb
    refine ⟨bL_inj (by rw [e3, bL_bT, h5]), ?_⟩
    have hl := congrArg List.length e4
    simp at hl
    exact (decide_eq_false (by omega)).symm
theorem remX_size (x : ByteArray) : ∀ k, (remX x k).size ≤ x.size
  | 0 => Nat.le_refl _
  | k + 1 => by
    have h1 := (cut_le (bL (remX x k)) (bL semiB)).2
    have h2 := remX_size x k
    show (bT (cutS (remX x k) semiB).2.1).size ≤ _
    rw [← bL_len, bL_bT]
    exact Nat.le_trans h1 h2
/-- The fields that are left are plain. -/
theorem left_plain {g : Nat → Nat → Q} {k : Nat} (he : ∀ j, j < k → ePs g j = 0) : ∀ j, 16 - (stPs g k).2 ≤ j → j < 16 → fv (stPs g k).1 j = fv plainS j := (back_run he k (Nat.le_refl _)).2.1
end Go.Proofs.YtgmeglodnhagdaaGreatDoor
