/- The range over a function: the rule. -/
import Derived.Test.YtgmeglodnhagdaaGreatDoorSxX
import Derived.RangeFuncNested
namespace Go.SX
open Go.RowKit
set_option linter.unusedVariables false
set_option linter.unusedSimpArgs false
set_option linter.unusedSectionVars false

theorem goto_wp {F : Fence} {n : Nat} {P : Program} {Q : Exit → Act → World → Prop} {a : Act} {w : World} {c : Code} (e : Ex) (hc : exCode e = some c) (h : ∀ x, e.is x → Q x a w) : c.wpIn F n P Q a w := by
  cases e <;> simp only [exCode, Option.some.injEq, reduceCtorEq] at hc
  · subst hc; exact wpIn_exit (h _ rfl)
  · subst hc; exact wpIn_goto (h _ rfl)
  · subst hc; exact wpIn_ret (h _ trivial)

section
variable [GW] {P : Program} {Γ : Gam} {Λ : Lam} {root : Code}

/-- Where the rounds come to an end: m rounds, the last of which ended in e. -/
def Ends (E : Nat → Ex) (n m : Nat) (e : Ex) : Prop :=
  m ≤ n ∧ ((m = n ∧ e = .normal ∧ ∀ j, j < m → isNormal (E j) = true) ∨ ∃ k, m = k + 1 ∧ e = E k ∧ isNormal (E k) = false ∧ ∀ j, j < k → isNormal (E j) = true)

theorem ends_stops {E : Nat → Ex} {n m : Nat} {e : Ex} (he : Ends E n m e) {x : Nat → List V} {k : Nat} (hs : Stops (fun hh => isNormal (E (hh.length - 1))) x n k) : k = m := by
  obtain ⟨hle, hb, hf⟩ := hs
  have hb' : ∀ j, j + 1 < k → isNormal (E j) = true := fun j hj => by simpa [hist_length] using hb j hj
  simp only [hist_length] at hf
  obtain ⟨hmn, ⟨rfl, rfl, hn⟩ | ⟨q, rfl, rfl, hq, hn⟩⟩ := he
  · rcases hf with ⟨h0, h1⟩ | ⟨h1, _⟩
    · rw [hn (k - 1) (by omega)] at h1; cases h1
    · exact h1
  · rcases hf with ⟨h0, h1⟩ | ⟨h1, h2⟩
    · have h3 : ¬ q < k - 1 := fun hlt => by rw [hb' q (by omega)] at hq; cases hq
      have h4 : ¬ k - 1 < q := fun hlt => by rw [hn (k - 1) hlt] at h1; cases h1
      omega
    · have h3 : ¬ q + 1 < k := fun hlt => by rw [hb' q (by omega)] at hq; cases hq
      omega

theorem ends_normal {E : Nat → Ex} {n m : Nat} {e : Ex} (he : Ends E n m e) (rec : Loop) (hs : rec.state = .ready) (hp : rec.pending = none) : (recs rec E m).pending = exCode e := by
  obtain ⟨hmn, ⟨rfl, rfl, hn⟩ | ⟨q, rfl, rfl, hq, hn⟩⟩ := he
  · exact (recs_ok rec E hs hp m hn).2.1
  · rfl

theorem range_core (hΓ : GOK P Γ) (hΛ : LamOK P root Λ) {p : List Nat} {g : Operand} {ps : Array Nat} {assign body : Code} (hc : codeAt root p = some (.rangeFunc g ps assign body))
    {J : Jt P} {Am Mi : Nat → Prop} {w0 w w1 : World} {s : St} {θ θ1 : Th} {a : Act} {f : Nat} {caps : List V} {sp : List V → T (Nat × (Nat → List V))} {nn : Nat} {x : Nat → List V} {LL : Nat → List (Option Ob)} {YY : Nat → List (List V)} {E : Nat → Ex} {m : Nat} {e : Ex} {d : Option Ob} {rec : Loop} {l : Nat} {mark : List Deferred} {fn : FuncId} {k : Nat}
    (hg : ev s g = .clo f caps) (hcaps : caps.all V.free = true) (hit : IterOK P f sp) (hsp : (sp caps).pick = some (nn, x))
    (H : Rounds P Γ Λ p assign body ps.toList s d (s.tm.map fun _ => .any) LL YY x nn E) (hL0 : LL 0 = s.lo) (hY0 : YY 0 = s.ys) (hE : Ends E nn m e) (hk : keepsR s.lo (LL m)) (hlv : ∀ d ∈ s.df, ∀ n ∈ d.names, Liv (LL m) n)
    (h0 : Rep J Am Mi w0 s θ a w) (h1 : Rep J Am Mi w0 { s with lo := (midS s s.lo s.ys d rec []).lo } θ1 a w1) (hbl : (θ1 (s.lo.length + 2)).blk = l) (hsl : (θ1 s.lo.length).sl = .tuple a.tmps) (hθ1 : ∀ n, n < s.lo.length → θ1 n = θ n)
    (hrec : rec.state = .ready ∧ rec.pending = none ∧ rec.fn = fn ∧ rec.tmps = a.tmps ∧ rec.params = ps ∧ rec.assign = assign ∧ rec.body = body)
    (hd : d = if s.inr then none else some .dfr) (hmark : mark = if s.inr then [] else Df.den θ1 (.mark (s.lo.length + 1))) (hlr : ∀ l', J.r = some l' → l ≠ l')
    (he : (Instr.enterLoop fn a.tmps ps assign body J.r).run P w = .ok (l, mark) w1) :
    ∃ (l : Nat) (mark : List Deferred) (w₁ : World) (d : Deferred) (w₁' : World) (f : FuncId) (args : Array Value) (w₂ : World),
      (Instr.enterLoop fn a.tmps ps assign body J.r).run P w = .ok (l, mark) w₁ ∧
      (resolve a.eval (rangeCall g l) 0).run P w₁ = .ok d w₁' ∧
      (∀ f', Target.leads P w₁' d.target d.args = some f' → (FW J.r).fn f') ∧
      (invoke d.target d.args).run P w₁' = .ok (.enter f args) w₂ ∧
      ((FW J.r).depth.isSome = true → 1 ≤ k) ∧
      CallsIn (FW J.r) (k - 1) P f args w₂ (rangePost (FW J.r) k P l (PostC J Am Mi w0 (e, outS s (LL m) (YY m))) { a with defers := mark ++ a.defers }) := by
  have hev := h1.ev g
  have hev' : ev { s with lo := (midS s s.lo s.ys d rec []).lo } g = .clo f caps := by
    rw [← hg]; cases g <;> rfl
  rw [hev'] at hev
  obtain ⟨cvals, hcv, hden⟩ : ∃ cvals : List Value, a.eval g = .func (.func f) #[] cvals.toArray ∧ DenL (Stab Am (midS s s.lo s.ys d rec []).lo θ1 w1) (Liv (midS s s.lo s.ys d rec []).lo) θ1 w1 caps cvals := by
    generalize a.eval g = z at hev
    cases hev with
    | clo f l vs hl => exact ⟨vs, rfl, hl⟩
  refine ⟨l, mark, w1, { target := .fn (.func f) cvals.toArray, args := #[.func (.yield l) #[] #[]] }, w1, f, #[.func (.yield l) #[] #[]] ++ cvals.toArray, w1, he, ?_, fun _ _ => trivial, ?_, fun h => by simp at h, ?_⟩
  · have hr : resolve a.eval (rangeCall g l) 0 = Deferred.ofValue (a.eval g) #[.func (.yield l) #[] #[]] := by
      generalize hz : a.eval g = z
      simp only [resolve, rangeCall, hz]
      simp [Act.eval]
    rw [hr, hcv]
    simp [Deferred.ofValue]
  · simp only [invoke]
    exact run_enters hit.1 _ w1
  obtain ⟨r1, r2, r3, r4, r5, r6, r7⟩ := hrec
  have hR1 : Rep (J.at l (s.lo.length + 3) θ1) Am Mi w0 (midS s (LL 0) (YY 0) d (recs rec E 0) (s.tm.map fun _ => .any)) θ1 { tmps := a.tmps, defers := [] } w1 := by
    rw [hL0, hY0]
    have h2 : Rep J Am Mi w0 { s with lo := (midS s s.lo s.ys d rec []).lo } θ1 a w1 := h1
    refine h2.toRound ⟨s.lo.length + 2, rec, mid_raw (Y := s.ys) (tm := []) (Nat.le_refl _), hbl⟩ (by rw [mid_self]; simp) (by simp [h0.size]) (fun i v hv => ?_)
    simp only [List.getElem?_map, Option.map_eq_some_iff] at hv
    obtain ⟨y, hy, rfl⟩ := hv
    have hi : i < a.tmps.size := by rw [h0.size]; exact (List.getElem?_eq_some_iff.1 hy).1
    exact ⟨a.tmps[i], by simp, .any _⟩
  obtain ⟨F, ⟨hF1, hF2⟩, hj, hmi⟩ := hR1.jj
  have hF : AmbF (J.at l (s.lo.length + 3) θ1) F (YY 0) (midS s (LL 0) (YY 0) d (recs rec E 0) (s.tm.map fun _ => .any)).lo θ1 Am Mi w0 w1 := ⟨hF1, hF2, hj, hmi⟩
  let JI : Jt P := {
    J := JP (J.at l (s.lo.length + 3) θ1) s d (s.tm.map fun _ => .any) LL YY (recs rec E) x nn Am Mi w0 w1.heap.size (fun _ => False)
    closed := JP.closed h1.am h1.fr.size (fun _ h => h.elim)
    r := none
    F0 := fun b => b < w1.heap.size ∧ ¬ Stab Am (midS s s.lo s.ys d rec []).lo θ1 w1 b
    hN := 0
    th := th0
    ok := fun l' go adm => l' = l ∧ go = (fun hh => isNormal (E (hh.length - 1))) ∧ ∀ hh args, adm hh args = true → ∃ k, k < nn ∧ hh = hist x k ∧ args = x k ∧ ∀ j, j < k → isNormal (E j) = true
    yok := fun l' go adm hok => by
      obtain ⟨rfl, rfl, hadm⟩ := hok
      intro h O Fo w args vals hJ hgl had hOF hFs hdn
      have := JP.yok (fn := fn) (tmps0 := a.tmps) (l := l') hΓ hΛ hc rfl rfl hsl hbl H (fun k hn => by
        obtain ⟨q1, q2, q3, q4, q5, q6, q7⟩ := recs_ok rec E r1 r2 k hn
        exact ⟨q1, q2, q3.trans r3, q4.trans r4, q5.trans r5, q6.trans r6, q7.trans r7⟩) (fun k => rfl) h O Fo w args vals hJ hgl (hadm _ _ had) hOF hFs hdn
      simpa using this }
  have hgl1 : ∀ g ∈ GW.gl, Stab Am (midS s s.lo s.ys d rec []).lo θ1 w1 g.1 := h1.glS
  have hcall := hit.2 JI (Stab Am (midS s s.lo s.ys d rec []).lo θ1 w1) w1 caps cvals l (fun hh => isNormal (E (hh.length - 1)))
    (fun hh args => @decide (∃ k, k < nn ∧ hh = hist x k ∧ args = x k ∧ ∀ j, j < k → isNormal (E j) = true) (Classical.propDecidable _)) nn x (fun b hb => hb.1) h1.fr.glw hgl1 (denL_free hden hcaps) hsp
    ⟨rfl, rfl, fun hh args h => by simpa using h⟩ rfl rfl (fun b => Iff.rfl)
    ⟨0, Am, F, θ1, _, rfl, Nat.zero_le _, Nat.le_refl _, fun _ h => h, hR1, hF, fun _ h => h.elim, fun b hb => .inl ?_, fun g hg hh => hh.2 (hgl1 g hg)⟩
    (fun k hk hn => by
      simp only [decide_eq_true_eq]
      exact ⟨k, hk, rfl, rfl, fun j hj => by simpa [hist_length] using hn j hj⟩)
  · refine callsIn_FW (hcall.mono ?_)
    rintro e' w' ⟨v, k', rfl, hst, F', haf, k2, Am', F2, θ', a', hh, hk2, hB, hA, hR', -⟩
    have hkk : k' = k2 := by have := congrArg List.length hh; simpa [hist_length] using this
    subst hkk
    have hkm := ends_stops hE hst
    subst hkm
    have hb' : (θ' (s.lo.length + 2)).blk = l := by rw [hR'.tt.2.2 _ (show s.lo.length + 2 < s.lo.length + 3 by omega)]; exact hbl
    have hrec' : w'.heap[l]? = some (.loop (recs rec E k')) := by
      have := hR'.lo (s.lo.length + 2) (.raw (.loop (recs rec E k'))) (mid_raw (H.len k'))
      simp only [Holds, hb'] at this
      exact this
    have hA1 := h0.exitA hR' (H.len k') hθ1 hsl hk hlv hd hmark
    have hB1 := fun rec' => hA1.exitB hd (H.len k') hb' hlr rec'
    refine ⟨_, _, run_endLoop hrec' (recs_busy rec E r1 k'), ?_⟩
    have hpost : ∀ (rec' : Loop) x, e.is x → PostC J Am Mi w0 (e, outS s (LL k') (YY k')) x { a with defers := mark ++ a.defers } (w'.putObj l (.loop rec')) := fun rec' x hx => ⟨hx, Am', θ', hA, hB1 _⟩
    rw [ends_normal hE rec r1 r2]
    cases hx : exCode e with
    | none =>
      cases e <;> simp [exCode] at hx
      exact hpost _ .normal trivial
    | some c => exact goto_wp e hx (hpost _)
  · refine ⟨?_, fun hS => ?_⟩
    · rcases hb with hb | ⟨n, o, ho, hu⟩
      · exact h1.am b hb
      · exact (hR1.lt n o b ho hu).1
    · rcases hb with hb | ⟨n, o, ho, hu⟩
      · exact hS.2.1 hb
      · exact hS.2.2 n o (by rw [hL0] at ho; exact ho) hu

/-- **A range over a function** whose value is known: what the rounds come to. -/
theorem sem_range (hΓ : GOK P Γ) (hΛ : LamOK P root Λ) {p : List Nat} {g : Operand} {ps : Array Nat} {assign body : Code} (hc : codeAt root p = some (.rangeFunc g ps assign body))
    {s : St} {f : Nat} {caps : List V} {sp : List V → T (Nat × (Nat → List V))} {nn : Nat} {x : Nat → List V} {LL : Nat → List (Option Ob)} {YY : Nat → List (List V)} {E : Nat → Ex} {m : Nat} {e : Ex}
    (hg : ev s g = .clo f caps) (hcaps : caps.all V.free = true) (hit : IterOK P f sp) (hsp : (sp caps).pick = some (nn, x))
    (H : Rounds P Γ Λ p assign body ps.toList s (if s.inr then none else some .dfr) (s.tm.map fun _ => .any) LL YY x nn E) (hL0 : LL 0 = s.lo) (hY0 : YY 0 = s.ys) (hE : Ends E nn m e) (hk : keepsR s.lo (LL m)) (hlv : ∀ d ∈ s.df, ∀ n ∈ d.names, Liv (LL m) n) :
    SemC P (.rangeFunc g ps assign body) s (e, outS s (LL m) (YY m)) := by
  intro k J Am Mi w0 θ a w h0
  refine wpIn_rangeFunc fun fn _ => ?_
  by_cases hi : s.inr = true
  · have hj : J.r.isSome = true := by rw [← h0.rr.1]; exact hi
    obtain ⟨l0, hl0⟩ := Option.isSome_iff_exists.1 hj
    obtain ⟨n, y, hy, hb⟩ := h0.rr.2 l0 hl0
    have hrec0 : w.heap[l0]? = some (.loop y) := by
      have := h0.lo n _ hy
      simp only [Holds, hb] at this
      exact this
    obtain ⟨θ1, e1, e2, e3, e4, hR⟩ := h0.enterI { state := .ready, pending := none, fn, tmps := a.tmps, params := ps, assign, body, defers := y.defers }
    have he := run_enterLoop_inner (P := P) hrec0 fn a.tmps ps assign body
    rw [← hl0] at he
    have hd : (if s.inr = true then (none : Option Ob) else some .dfr) = none := by rw [if_pos hi]
    rw [hd] at H
    exact range_core hΓ hΛ hc hg hcaps hit hsp H hL0 hY0 hE hk hlv h0 hR e1 e2 e3 ⟨rfl, rfl, rfl, rfl, rfl, rfl, rfl⟩ hd.symm (by rw [if_pos hi]) (fun l' hl' hh => by
      have h2 := (Array.getElem?_eq_some_iff.1 hrec0).1
      rw [hl0] at hl'
      cases hl'
      omega) he
  · have hi' : s.inr = false := by simpa using hi
    have hj : J.r = none := by
      have := h0.rr.1
      rw [hi'] at this
      cases hh : J.r with
      | none => rfl
      | some l => rw [hh] at this; cases this
    obtain ⟨θ1, e0, e1, e2, e3, e4, hR⟩ := h0.enterO { state := .ready, pending := none, fn, tmps := a.tmps, params := ps, assign, body, defers := w.heap.size }
    have he := run_enterLoop_outer (P := P) (w := w) fn a.tmps ps assign body
    rw [← hj] at he
    have hd : (if s.inr = true then (none : Option Ob) else some .dfr) = some .dfr := by rw [if_neg hi]
    rw [hd] at H
    exact range_core hΓ hΛ hc hg hcaps hit hsp H hL0 hY0 hE hk hlv h0 hR e1 e2 e3 ⟨rfl, rfl, rfl, rfl, rfl, rfl, rfl⟩ hd.symm (by rw [if_neg hi]; simp [Df.den, e0]) (fun l' hl' hh => by rw [hj] at hl'; cases hl') he

end
end Go.SX
