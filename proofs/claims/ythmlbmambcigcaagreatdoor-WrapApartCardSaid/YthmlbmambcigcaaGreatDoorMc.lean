/- What the laws' proofs lean on, put together: part 3. -/
import Derived.Test.YthmlbmambcigcaaGreatDoorMb
import Derived.RangeFuncNested
import Derived.Test.YthmlbmambcigcaaGreatDoorProg
import Derived.KernelRfl
import Derived.Tactics
import Derived.Tactics2
import Derived.Defers
import Derived.Laws.Pointers
import Derived.Laws.LoneSync
import Derived.RegionTactic
import Derived.RegionCalls
import Derived.ChangeSame
import Derived.ChangeArms
import Derived.ChangeReads
import Derived.ChangeOld
import Derived.DataReads
import Derived.ChangeShapes
import Derived.JoinedOf
import Derived.RowKit
import Derived.RowKitTokens
import Derived.Handed
import Derived.Below
import Derived.OrdersIn
import Derived.TacticsIn
import Derived.WalkKit
import Derived.LaidEql
import Derived.Stop.Asserts

/- The range over a function: the rule. -/
namespace Go.SX
open Go.RowKit
set_option linter.unusedVariables false
set_option linter.unusedSimpArgs false
set_option linter.unusedSectionVars false

theorem goto_wp {F : Fence} {n : Nat} {P : Program} {Q : Exit → Act → World → Prop} {a : Act} {w : World} {c : Code} (e : Ex) (hc : exCode e = some c) (h : ∀ x, e.is x → Q x a w) : c.wpIn F n P Q a w := by
  cases e <;> simp only [exCode, Option.some.injEq, reduceCtorEq] at hc
  · subst hc; exact wpIn_exit (h _ rfl)
  · subst hc; exact wpIn_goto (h _ rfl)
  · subst hc; exact wpIn_ret (h _ trivial)

section
variable [GW] {P : Program} {Γ : Gam} {Λ : Lam} {root : Code}

/-- Where the rounds come to an end: m rounds, the last of which ended in e. -/
def Ends (E : Nat → Ex) (n m : Nat) (e : Ex) : Prop :=
  m ≤ n ∧ ((m = n ∧ e = .normal ∧ ∀ j, j < m → isNormal (E j) = true) ∨ ∃ k, m = k + 1 ∧ e = E k ∧ isNormal (E k) = false ∧ ∀ j, j < k → isNormal (E j) = true)

theorem ends_stops {E : Nat → Ex} {n m : Nat} {e : Ex} (he : Ends E n m e) {x : Nat → List V} {k : Nat} (hs : Stops (fun hh => isNormal (E (hh.length - 1))) x n k) : k = m := by
  obtain ⟨hle, hb, hf⟩ := hs
  have hb' : ∀ j, j + 1 < k → isNormal (E j) = true := fun j hj => by simpa [hist_length] using hb j hj
  simp only [hist_length] at hf
  obtain ⟨hmn, ⟨rfl, rfl, hn⟩ | ⟨q, rfl, rfl, hq, hn⟩⟩ := he
  · rcases hf with ⟨h0, h1⟩ | ⟨h1, _⟩
    · rw [hn (k - 1) (by omega)] at h1; cases h1
    · exact h1
  · rcases hf with ⟨h0, h1⟩ | ⟨h1, h2⟩
    · have h3 : ¬ q < k - 1 := fun hlt => by rw [hb' q (by omega)] at hq; cases hq
      have h4 : ¬ k - 1 < q := fun hlt => by rw [hn (k - 1) hlt] at h1; cases h1
      omega
    · have h3 : ¬ q + 1 < k := fun hlt => by rw [hb' q (by omega)] at hq; cases hq
      omega

theorem ends_normal {E : Nat → Ex} {n m : Nat} {e : Ex} (he : Ends E n m e) (rec : Loop) (hs : rec.state = .ready) (hp : rec.pending = none) : (recs rec E m).pending = exCode e := by
  obtain ⟨hmn, ⟨rfl, rfl, hn⟩ | ⟨q, rfl, rfl, hq, hn⟩⟩ := he
  · exact (recs_ok rec E hs hp m hn).2.1
  · rfl

theorem range_core (hΓ : GOK P Γ) (hΛ : LamOK P root Λ) {p : List Nat} {g : Operand} {ps : Array Nat} {assign body : Code} (hc : codeAt root p = some (.rangeFunc g ps assign body))
    {J : Jt P} {Am Mi : Nat → Prop} {w0 w w1 : World} {s : St} {θ θ1 : Th} {a : Act} {f : Nat} {caps : List V} {sp : List V → T (Nat × (Nat → List V))} {nn : Nat} {x : Nat → List V} {LL : Nat → List (Option Ob)} {YY : Nat → List (List V)} {E : Nat → Ex} {m : Nat} {e : Ex} {d : Option Ob} {rec : Loop} {l : Nat} {mark : List Deferred} {fn : FuncId} {k : Nat}
    (hg : ev s g = .clo f caps) (hcaps : caps.all V.free = true) (hit : IterOK P f sp) (hsp : (sp caps).pick = some (nn, x))
    (H : Rounds P Γ Λ p assign body ps.toList s d (s.tm.map fun _ => .any) LL YY x nn E) (hL0 : LL 0 = s.lo) (hY0 : YY 0 = s.ys) (hE : Ends E nn m e) (hk : keepsR s.lo (LL m)) (hlv : ∀ d ∈ s.df, ∀ n ∈ d.names, Liv (LL m) n)
    (h0 : Rep J Am Mi w0 s θ a w) (h1 : Rep J Am Mi w0 { s with lo := (midS s s.lo s.ys d rec []).lo } θ1 a w1) (hbl : (θ1 (s.lo.length + 2)).blk = l) (hsl : (θ1 s.lo.length).sl = .tuple a.tmps) (hθ1 : ∀ n, n < s.lo.length → θ1 n = θ n)
    (hrec : rec.state = .ready ∧ rec.pending = none ∧ rec.fn = fn ∧ rec.tmps = a.tmps ∧ rec.params = ps ∧ rec.assign = assign ∧ rec.body = body)
    (hd : d = if s.inr then none else some .dfr) (hmark : mark = if s.inr then [] else Df.den θ1 (.mark (s.lo.length + 1))) (hlr : ∀ l', J.r = some l' → l ≠ l')
    (he : (Instr.enterLoop fn a.tmps ps assign body J.r).run P w = .ok (l, mark) w1) :
    ∃ (l : Nat) (mark : List Deferred) (w₁ : World) (d : Deferred) (w₁' : World) (f : FuncId) (args : Array Value) (w₂ : World),
      (Instr.enterLoop fn a.tmps ps assign body J.r).run P w = .ok (l, mark) w₁ ∧
      (resolve a.eval (rangeCall g l) 0).run P w₁ = .ok d w₁' ∧
      (∀ f', Target.leads P w₁' d.target d.args = some f' → (FW J.r).fn f') ∧
      (invoke d.target d.args).run P w₁' = .ok (.enter f args) w₂ ∧
      ((FW J.r).depth.isSome = true → 1 ≤ k) ∧
      CallsIn (FW J.r) (k - 1) P f args w₂ (rangePost (FW J.r) k P l (PostC J Am Mi w0 (e, outS s (LL m) (YY m))) { a with defers := mark ++ a.defers }) := by
  have hev := h1.ev g
  have hev' : ev { s with lo := (midS s s.lo s.ys d rec []).lo } g = .clo f caps := by
    rw [← hg]; cases g <;> rfl
  rw [hev'] at hev
  obtain ⟨cvals, hcv, hden⟩ : ∃ cvals : List Value, a.eval g = .func (.func f) #[] cvals.toArray ∧ DenL (Stab Am (midS s s.lo s.ys d rec []).lo θ1 w1) (Liv (midS s s.lo s.ys d rec []).lo) θ1 w1 caps cvals := by
    generalize a.eval g = z at hev
    cases hev with
    | clo f l vs hl => exact ⟨vs, rfl, hl⟩
  refine ⟨l, mark, w1, { target := .fn (.func f) cvals.toArray, args := #[.func (.yield l) #[] #[]] }, w1, f, #[.func (.yield l) #[] #[]] ++ cvals.toArray, w1, he, ?_, fun _ _ => trivial, ?_, fun h => by simp at h, ?_⟩
  · have hr : resolve a.eval (rangeCall g l) 0 = Deferred.ofValue (a.eval g) #[.func (.yield l) #[] #[]] := by
      generalize hz : a.eval g = z
      simp only [resolve, rangeCall, hz]
      simp [Act.eval]
    rw [hr, hcv]
    simp [Deferred.ofValue]
  · simp only [invoke]
    exact run_enters hit.1 _ w1
  obtain ⟨r1, r2, r3, r4, r5, r6, r7⟩ := hrec
  have hR1 : Rep (J.at l (s.lo.length + 3) θ1) Am Mi w0 (midS s (LL 0) (YY 0) d (recs rec E 0) (s.tm.map fun _ => .any)) θ1 { tmps := a.tmps, defers := [] } w1 := by
    rw [hL0, hY0]
    have h2 : Rep J Am Mi w0 { s with lo := (midS s s.lo s.ys d rec []).lo } θ1 a w1 := h1
    refine h2.toRound ⟨s.lo.length + 2, rec, mid_raw (Y := s.ys) (tm := []) (Nat.le_refl _), hbl⟩ (by rw [mid_self]; simp) (by simp [h0.size]) (fun i v hv => ?_)
    simp only [List.getElem?_map, Option.map_eq_some_iff] at hv
    obtain ⟨y, hy, rfl⟩ := hv
    have hi : i < a.tmps.size := by rw [h0.size]; exact (List.getElem?_eq_some_iff.1 hy).1
    exact ⟨a.tmps[i], by simp, .any _⟩
  obtain ⟨F, ⟨hF1, hF2⟩, hj, hmi⟩ := hR1.jj
  have hF : AmbF (J.at l (s.lo.length + 3) θ1) F (YY 0) (midS s (LL 0) (YY 0) d (recs rec E 0) (s.tm.map fun _ => .any)).lo θ1 Am Mi w0 w1 := ⟨hF1, hF2, hj, hmi⟩
  let JI : Jt P := {
    J := JP (J.at l (s.lo.length + 3) θ1) s d (s.tm.map fun _ => .any) LL YY (recs rec E) x nn Am Mi w0 w1.heap.size (fun _ => False)
    closed := JP.closed h1.am h1.fr.size (fun _ h => h.elim)
    r := none
    F0 := fun b => b < w1.heap.size ∧ ¬ Stab Am (midS s s.lo s.ys d rec []).lo θ1 w1 b
    hN := 0
    th := th0
    ok := fun l' go adm => l' = l ∧ go = (fun hh => isNormal (E (hh.length - 1))) ∧ ∀ hh args, adm hh args = true → ∃ k, k < nn ∧ hh = hist x k ∧ args = x k ∧ ∀ j, j < k → isNormal (E j) = true
    yok := fun l' go adm hok => by
      obtain ⟨rfl, rfl, hadm⟩ := hok
      intro h O Fo w args vals hJ hgl had hOF hFs hdn
      have := JP.yok (fn := fn) (tmps0 := a.tmps) (l := l') hΓ hΛ hc rfl rfl hsl hbl H (fun k hn => by
        obtain ⟨q1, q2, q3, q4, q5, q6, q7⟩ := recs_ok rec E r1 r2 k hn
        exact ⟨q1, q2, q3.trans r3, q4.trans r4, q5.trans r5, q6.trans r6, q7.trans r7⟩) (fun k => rfl) h O Fo w args vals hJ hgl (hadm _ _ had) hOF hFs hdn
      simpa using this }
  have hgl1 : ∀ g ∈ GW.gl, Stab Am (midS s s.lo s.ys d rec []).lo θ1 w1 g.1 := h1.glS
  have hcall := hit.2 JI (Stab Am (midS s s.lo s.ys d rec []).lo θ1 w1) w1 caps cvals l (fun hh => isNormal (E (hh.length - 1)))
    (fun hh args => @decide (∃ k, k < nn ∧ hh = hist x k ∧ args = x k ∧ ∀ j, j < k → isNormal (E j) = true) (Classical.propDecidable _)) nn x (fun b hb => hb.1) h1.fr.glw hgl1 (denL_free hden hcaps) hsp
    ⟨rfl, rfl, fun hh args h => by simpa using h⟩ rfl rfl (fun b => Iff.rfl)
    ⟨0, Am, F, θ1, _, rfl, Nat.zero_le _, Nat.le_refl _, fun _ h => h, hR1, hF, fun _ h => h.elim, fun b hb => .inl ?_, fun g hg hh => hh.2 (hgl1 g hg)⟩
    (fun k hk hn => by
      simp only [decide_eq_true_eq]
      exact ⟨k, hk, rfl, rfl, fun j hj => by simpa [hist_length] using hn j hj⟩)
  · refine callsIn_FW (hcall.mono ?_)
    rintro e' w' ⟨v, k', rfl, hst, F', haf, k2, Am', F2, θ', a', hh, hk2, hB, hA, hR', -⟩
    have hkk : k' = k2 := by have := congrArg List.length hh; simpa [hist_length] using this
    subst hkk
    have hkm := ends_stops hE hst
    subst hkm
    have hb' : (θ' (s.lo.length + 2)).blk = l := by rw [hR'.tt.2.2 _ (show s.lo.length + 2 < s.lo.length + 3 by omega)]; exact hbl
    have hrec' : w'.heap[l]? = some (.loop (recs rec E k')) := by
      have := hR'.lo (s.lo.length + 2) (.raw (.loop (recs rec E k'))) (mid_raw (H.len k'))
      simp only [Holds, hb'] at this
      exact this
    have hA1 := h0.exitA hR' (H.len k') hθ1 hsl hk hlv hd hmark
    have hB1 := fun rec' => hA1.exitB hd (H.len k') hb' hlr rec'
    refine ⟨_, _, run_endLoop hrec' (recs_busy rec E r1 k'), ?_⟩
    have hpost : ∀ (rec' : Loop) x, e.is x → PostC J Am Mi w0 (e, outS s (LL k') (YY k')) x { a with defers := mark ++ a.defers } (w'.putObj l (.loop rec')) := fun rec' x hx => ⟨hx, Am', θ', hA, hB1 _⟩
    rw [ends_normal hE rec r1 r2]
    cases hx : exCode e with
    | none =>
      cases e <;> simp [exCode] at hx
      exact hpost _ .normal trivial
    | some c => exact goto_wp e hx (hpost _)
  · refine ⟨?_, fun hS => ?_⟩
    · rcases hb with hb | ⟨n, o, ho, hu⟩
      · exact h1.am b hb
      · exact (hR1.lt n o b ho hu).1
    · rcases hb with hb | ⟨n, o, ho, hu⟩
      · exact hS.2.1 hb
      · exact hS.2.2 n o (by rw [hL0] at ho; exact ho) hu

/-- **A range over a function** whose value is known: what the rounds come to. -/
theorem sem_range (hΓ : GOK P Γ) (hΛ : LamOK P root Λ) {p : List Nat} {g : Operand} {ps : Array Nat} {assign body : Code} (hc : codeAt root p = some (.rangeFunc g ps assign body))
    {s : St} {f : Nat} {caps : List V} {sp : List V → T (Nat × (Nat → List V))} {nn : Nat} {x : Nat → List V} {LL : Nat → List (Option Ob)} {YY : Nat → List (List V)} {E : Nat → Ex} {m : Nat} {e : Ex}
    (hg : ev s g = .clo f caps) (hcaps : caps.all V.free = true) (hit : IterOK P f sp) (hsp : (sp caps).pick = some (nn, x))
    (H : Rounds P Γ Λ p assign body ps.toList s (if s.inr then none else some .dfr) (s.tm.map fun _ => .any) LL YY x nn E) (hL0 : LL 0 = s.lo) (hY0 : YY 0 = s.ys) (hE : Ends E nn m e) (hk : keepsR s.lo (LL m)) (hlv : ∀ d ∈ s.df, ∀ n ∈ d.names, Liv (LL m) n) :
    SemC P (.rangeFunc g ps assign body) s (e, outS s (LL m) (YY m)) := by
  intro k J Am Mi w0 θ a w h0
  refine wpIn_rangeFunc fun fn _ => ?_
  by_cases hi : s.inr = true
  · have hj : J.r.isSome = true := by rw [← h0.rr.1]; exact hi
    obtain ⟨l0, hl0⟩ := Option.isSome_iff_exists.1 hj
    obtain ⟨n, y, hy, hb⟩ := h0.rr.2 l0 hl0
    have hrec0 : w.heap[l0]? = some (.loop y) := by
      have := h0.lo n _ hy
      simp only [Holds, hb] at this
      exact this
    obtain ⟨θ1, e1, e2, e3, e4, hR⟩ := h0.enterI { state := .ready, pending := none, fn, tmps := a.tmps, params := ps, assign, body, defers := y.defers }
    have he := run_enterLoop_inner (P := P) hrec0 fn a.tmps ps assign body
    rw [← hl0] at he
    have hd : (if s.inr = true then (none : Option Ob) else some .dfr) = none := by rw [if_pos hi]
    rw [hd] at H
    exact range_core hΓ hΛ hc hg hcaps hit hsp H hL0 hY0 hE hk hlv h0 hR e1 e2 e3 ⟨rfl, rfl, rfl, rfl, rfl, rfl, rfl⟩ hd.symm (by rw [if_pos hi]) (fun l' hl' hh => by
      have h2 := (Array.getElem?_eq_some_iff.1 hrec0).1
      rw [hl0] at hl'
      cases hl'
      omega) he
  · have hi' : s.inr = false := by simpa using hi
    have hj : J.r = none := by
      have := h0.rr.1
      rw [hi'] at this
      cases hh : J.r with
      | none => rfl
      | some l => rw [hh] at this; cases this
    obtain ⟨θ1, e0, e1, e2, e3, e4, hR⟩ := h0.enterO { state := .ready, pending := none, fn, tmps := a.tmps, params := ps, assign, body, defers := w.heap.size }
    have he := run_enterLoop_outer (P := P) (w := w) fn a.tmps ps assign body
    rw [← hj] at he
    have hd : (if s.inr = true then (none : Option Ob) else some .dfr) = some .dfr := by rw [if_neg hi]
    rw [hd] at H
    exact range_core hΓ hΛ hc hg hcaps hit hsp H hL0 hY0 hE hk hlv h0 hR e1 e2 e3 ⟨rfl, rfl, rfl, rfl, rfl, rfl, rfl⟩ hd.symm (by rw [if_neg hi]; simp [Df.den, e0]) (fun l' hl' hh => by rw [hj] at hl'; cases hl') he

end
end Go.SX

/- Loops by canonical states: the rule as it is used. -/
namespace Go.SX
open Go.RowKit
set_option linter.unusedVariables false
set_option linter.unusedSimpArgs false
set_option linter.unusedSectionVars false

/-- What a cut asks. -/
def chk (n k : Nat) (s : St) : Bool :=
  (s.tm.length == n) && ((s.df.all fun d => d.names.all fun m => decide (m < k)) && (((s.lo.drop k).all fun o => !isRaw o) && decide (s.base ≤ k)))

/-- A truth value that is literal no more. -/
def V.unkb : V → V
  | .kb b => .q (.c (.bool b))
  | v => v
def unkS (s : St) : St := { s with tm := s.tm.map V.unkb }

theorem sub_unk [GW] {P : Program} (s : St) : Sub P s (unkS s) := fun J Am Mi w0 θ a w h => by
  refine ⟨θ, by simp [unkS, h.size], fun i v hv => ?_, h.lo, h.lt, h.inj, h.mine, h.fr, h.am, h.jj, h.yy, h.ga, h.rr, h.tt, h.df, h.dfl⟩
  simp only [unkS, List.getElem?_map, Option.map_eq_some_iff] at hv
  obtain ⟨x, hx, rfl⟩ := hv
  obtain ⟨u, hu, hd⟩ := h.tm i x hx
  refine ⟨u, hu, ?_⟩
  cases x with
  | kb b => cases hd; exact .q _ _ (.c _)
  | _ => exact hd

/-- Marks bundled, resources from k on let go, just these slots kept. -/
def canS (n k : Nat) (live : List Nat) (s : St) : St := keep n live (unkS (cutS k (mergeDf s)))
def chkM (n k : Nat) (s : St) : Bool := chk n k (mergeDf s)

/-- The same at a loop's entry; mk: a bundle of marks is laid. -/
def preS (mk : Bool) (n k : Nat) (live : List Nat) (s : St) : St := keep n live (if mk then markS (unkS (cutS k (mergeDf s))) else unkS (cutS k (mergeDf s)))

theorem sub_cut' [GW] {P : Program} {n k : Nat} {s : St} (h : chkM n k s = true) : Sub P s (cutS k (mergeDf s)) ∧ (cutS k (mergeDf s)).tm.length = n := by
  simp only [chkM, chk, Bool.and_eq_true, beq_iff_eq, decide_eq_true_eq] at h
  obtain ⟨h1, h2, h3, h4⟩ := h
  exact ⟨sub_merge.trans (sub_cut h2 h3 h4), by simp [cutS, h1]⟩

theorem sub_can [GW] {P : Program} {n k : Nat} {s : St} (h : chkM n k s = true) (live : List Nat) : Sub P s (canS n k live s) :=
  let ⟨h1, h2⟩ := sub_cut' h
  (h1.trans (sub_unk _)).trans (sub_keep (by simpa [unkS] using h2) live)

theorem sub_pre [GW] {P : Program} {mk : Bool} {n k : Nat} {s : St} (h : chkM n k s = true) (live : List Nat) : Sub P s (preS mk n k live s) := by
  obtain ⟨h1, h2⟩ := sub_cut' (P := P) h
  cases mk with
  | true => exact ((h1.trans (sub_unk _)).trans sub_mark).trans (sub_keep (by simpa [markS, unkS] using h2) live)
  | false => exact (h1.trans (sub_unk _)).trans (sub_keep (by simpa [unkS] using h2) live)

/-- A block that is looked at no more. -/
def dead1 (n : Nat) (s : St) : St := match s.lo[n]? with
  | some (some (.map ..)) => { s with lo := s.lo.set n (some .dead) }
  | some (some (.cells ..)) => { s with lo := s.lo.set n (some .dead) }
  | _ => s

def deadS : List Nat → St → St
  | [], s => s
  | n :: ns, s => deadS ns (dead1 n s)

theorem sub_dead1 [GW] {P : Program} (n : Nat) (s : St) : Sub P s (dead1 n s) := fun J Am Mi w0 θ a w h => by
  unfold dead1
  split
  · rename_i hn
    exact ⟨θ, h.turn n _ .dead hn (fun b hb => hb) (fun _ _ e => by cases e) (.inr fun _ e => by cases e) rfl rfl rfl rfl (fun _ _ => rfl) trivial⟩
  · rename_i hn
    exact ⟨θ, h.turn n _ .dead hn (fun b hb => hb) (fun _ _ e => by cases e) (.inr fun _ e => by cases e) rfl rfl rfl rfl (fun _ _ => rfl) trivial⟩
  · exact ⟨θ, h⟩

theorem sub_dead [GW] {P : Program} : ∀ (ns : List Nat) (s : St), Sub P s (deadS ns s)
  | [], s => Sub.refl s
  | n :: ns, s => (sub_dead1 n s).trans (sub_dead ns _)

section
variable [GW] {P : Program} {Γ : Gam} {root : Code}

theorem loop_rule (hΓ : GOK P Γ) {p : List Nat} {b : Code} (hc : codeAt root (0 :: p) = some b) {ι : Type} (ok : ι → Prop) (S : ι → St) (μ : ι → Nat) (R : ι → Ex × St) (nn k : Nat) (live dd : Ex → List Nat)
    (hb : ∀ i, ok i → ∃ Λ e s', LamOK P root Λ ∧ ((sx P Γ Λ (0 :: p) b (S i)).bind fun x => .leaf (x.1, deadS (dd x.1) (canS nn k (live x.1) x.2), chkM nn k x.2)).pick = some (e, s', true) ∧
      ((e = .normal ∧ ∃ j, ok j ∧ μ j < μ i ∧ s' = S j ∧ R j = R i) ∨ (e ≠ .normal ∧ R i = (e, s')))) :
    ∀ i, ok i → SemC P (.loop b) (S i) (R i) := by
  refine sem_loop ok S μ R fun i hi => ?_
  obtain ⟨Λ, e, s', hΛ, hp, hr⟩ := hb i hi
  rw [T.pick_bind] at hp
  obtain ⟨⟨e1, s1⟩, h1, h2⟩ := hp
  simp only [T.pick, Option.some.injEq, Prod.mk.injEq] at h2
  obtain ⟨rfl, rfl, h3⟩ := h2
  refine ⟨e1, s1, sem_of_sx hΓ hΛ (0 :: p) hc h1, ?_⟩
  rcases hr with ⟨he, j, hj, hlt, hs, hR⟩ | ⟨he, hR⟩
  · exact .inl ⟨he, j, hj, hlt, hs ▸ (sub_can h3 _).trans (sub_dead _ _), hR⟩
  · exact .inr ⟨he, by rw [hR], by rw [hR]; exact (sub_can h3 _).trans (sub_dead _ _)⟩

/-- The same, with what the loop comes to as a tree. -/
theorem loop_tree (hΓ : GOK P Γ) {p : List Nat} {b : Code} (hc : codeAt root (0 :: p) = some b) {ι : Type} (ok : ι → Prop) (S : ι → St) (μ : ι → Nat) (R : Out) (nn k : Nat) (live dd : Ex → List Nat)
    (hb : ∀ i, ok i → ∃ Λ e s', LamOK P root Λ ∧ ((sx P Γ Λ (0 :: p) b (S i)).bind fun x => .leaf (x.1, deadS (dd x.1) (canS nn k (live x.1) x.2), chkM nn k x.2)).pick = some (e, s', true) ∧
      ((e = .normal ∧ ∃ j, ok j ∧ μ j < μ i ∧ s' = S j) ∨ (e ≠ .normal ∧ R.pick = some (e, s')))) :
    ∀ i, ok i → ∀ x, R.pick = some x → SemC P (.loop b) (S i) x := fun i hi x hx =>
  loop_rule hΓ hc ok S μ (fun _ => x) nn k live dd (fun i hi => by
    obtain ⟨Λ, e, s', h1, h2, h3⟩ := hb i hi
    refine ⟨Λ, e, s', h1, h2, ?_⟩
    rcases h3 with ⟨h4, j, h5, h6, h7⟩ | ⟨h4, h5⟩
    · exact .inl ⟨h4, j, h5, h6, h7, rfl⟩
    · exact .inr ⟨h4, Option.some.inj (hx.symm.trans h5)⟩) i hi

/-- A summary, asked for at the one state. -/
noncomputable def orc (mk : Bool) (nn k : Nat) (live : List Nat) (S : St) (R : Out) : St → Out := fun s =>
  .ite (chkM nn k s && @decide (preS mk nn k live s = S) (Classical.propDecidable _)) R .bad

theorem orc_ok {c : Code} {mk : Bool} {nn k : Nat} {live : List Nat} {S : St} {R : Out} (h : ∀ x, R.pick = some x → SemC P c S x) : ∀ s x, (orc mk nn k live S R s).pick = some x → SemC P c s x := fun s x hp => by
  simp only [orc, T.pick] at hp
  cases hc : (chkM nn k s && @decide (preS mk nn k live s = S) (Classical.propDecidable _)) with
  | false => rw [hc] at hp; simp at hp
  | true =>
    rw [hc] at hp
    simp only [cond_true] at hp
    simp only [Bool.and_eq_true, decide_eq_true_eq] at hc
    obtain ⟨h1, h2⟩ := hc
    obtain ⟨e, t⟩ := x
    exact (h _ hp).sub (h2 ▸ sub_pre h1 live) (Sub.refl _)

theorem LamOK.orc {c : Code} {p : List Nat} {mk : Bool} {nn k : Nat} {live : List Nat} {S : St} {R : Out} {Λ : Lam} (hc : codeAt root p = some c) (h : ∀ x, R.pick = some x → SemC P c S x) (hΛ : LamOK P root Λ) : LamOK P root ((p, SX.orc mk nn k live S R) :: Λ) :=
  LamOK.cons c hc (orc_ok h) hΛ

end

/-- A test that is met. -/
theorem pick_same {α β : Type} {a : β} (t e : T α) : (T.ite (@decide (a = a) (Classical.propDecidable _)) t e).pick = t.pick := by simp [T.pick]
theorem pick_ite {α : Type} (b : Bool) (t e : T α) : (T.ite b t e).pick = bif b then t.pick else e.pick := rfl
theorem pick_leaf {α : Type} (x : α) : (T.leaf x).pick = some x := rfl
theorem pick_bad {α : Type} : (T.bad : T α).pick = none := rfl

/-- One round of a range, from what is canonical to what is canonical. -/
noncomputable def roundT (P : Program) (Γ : Gam) (Λ : Lam) (p : List Nat) (assign body : Code) (ps : List Nat) (s : St) (d : Option Ob) (L : List (Option Ob)) (Y : List (List V)) (x : List V) (rec rec' : Loop) : T (Ex × St × Bool) :=
  (sx P Γ Λ (0 :: p) assign (midS s L Y d rec (setPs s.tm ps x))).bind fun y => match y.1 with
    | .normal => .ite (@decide (y.2.lo[s.lo.length + 2]? = some (some (.raw (.loop rec)))) (Classical.propDecidable _))
        ((sx P Γ Λ (1 :: p) body { y.2 with lo := y.2.lo.set (s.lo.length + 2) (some (.raw (.loop rec'))) }).bind fun z => .leaf (z.1, keep s.tm.length [] (cutS (s.lo.length + 3) z.2), chk s.tm.length (s.lo.length + 3) z.2)) .bad
    | _ => .bad

theorem rounds_of [GW] {P : Program} {Γ : Gam} {Λ : Lam} {p : List Nat} {assign body : Code} {ps : List Nat} {s : St} {d : Option Ob} {any : List V} {LL : Nat → List (Option Ob)} {YY : Nat → List (List V)} {x : Nat → List V} {n : Nat} {E : Nat → Ex}
    (hlen : ∀ k, s.lo.length ≤ (LL k).length) (hargs : ∀ k, k < n → (x k).length = ps.length)
    (h : ∀ k, k < n → (∀ j, j < k → isNormal (E j) = true) → ∀ rec rec' : Loop, (roundT P Γ Λ p assign body ps s d (LL k) (YY k) (x k) rec rec').pick = some (E k, midS s (LL (k + 1)) (YY (k + 1)) d rec' any, true)) :
    Rounds P Γ Λ p assign body ps s d any LL YY x n E := by
  refine ⟨hlen, hargs, fun k hk hn rec => ?_⟩
  have h1 := h k hk hn rec
  have key : ∃ y : Ex × St, (sx P Γ Λ (0 :: p) assign (midS s (LL k) (YY k) d rec (setPs s.tm ps (x k)))).pick = some y := by
    have := h1 rec
    unfold roundT at this
    rw [T.pick_bind] at this
    obtain ⟨y, hy, _⟩ := this
    exact ⟨y, hy⟩
  obtain ⟨⟨ye, ys⟩, hy⟩ := key
  have h2 : ∀ rec' : Loop, ye = .normal ∧ ys.lo[s.lo.length + 2]? = some (some (.raw (.loop rec))) ∧ ∃ z : Ex × St, (sx P Γ Λ (1 :: p) body { ys with lo := ys.lo.set (s.lo.length + 2) (some (.raw (.loop rec'))) }).pick = some z ∧
      z.1 = E k ∧ keep s.tm.length [] (cutS (s.lo.length + 3) z.2) = midS s (LL (k + 1)) (YY (k + 1)) d rec' any ∧ chk s.tm.length (s.lo.length + 3) z.2 = true := fun rec' => by
    have h3 := h1 rec'
    unfold roundT at h3
    rw [T.pick_bind] at h3
    obtain ⟨y, hy', h3⟩ := h3
    rw [hy] at hy'
    cases hy'
    cases ye <;> simp only [T.pick, reduceCtorEq] at h3
    cases hd : (@decide (ys.lo[s.lo.length + 2]? = some (some (.raw (.loop rec)))) (Classical.propDecidable _)) with
    | false => rw [hd] at h3; simp at h3
    | true =>
      rw [hd] at h3
      simp only [cond_true] at h3
      rw [T.pick_bind] at h3
      obtain ⟨z, hz, h3⟩ := h3
      simp only [T.pick, Option.some.injEq, Prod.mk.injEq] at h3
      exact ⟨rfl, by simpa using hd, z, hz, h3.1, h3.2.1, h3.2.2⟩
  obtain ⟨rfl, hraw, _⟩ := h2 rec
  have h4 : ∀ rec' : Loop, ∃ s2 : St, (sx P Γ Λ (1 :: p) body { ys with lo := ys.lo.set (s.lo.length + 2) (some (.raw (.loop rec'))) }).pick = some (E k, s2) ∧ Sub P s2 (midS s (LL (k + 1)) (YY (k + 1)) d rec' any) := fun rec' => by
    obtain ⟨_, _, ⟨ze, zs⟩, e1, e2, e3, e4⟩ := h2 rec'
    simp only at e2 e3 e4
    subst e2
    simp only [chk, Bool.and_eq_true, beq_iff_eq, decide_eq_true_eq] at e4
    obtain ⟨c1, c2, c3, c4⟩ := e4
    refine ⟨zs, e1, ?_⟩
    rw [← e3]
    exact (sub_cut c2 c3 c4).trans (sub_keep (by show (List.map _ _).length = _; rw [List.length_map, c1]) [])
  obtain ⟨f, hf⟩ := Classical.axiomOfChoice h4
  exact ⟨ys, f, hy, hraw, fun rec' => (hf rec').1, fun rec' => (hf rec').2⟩

/-- One round of a range; what is done to the state behind it. -/
noncomputable def roundP (post : St → St) (P : Program) (Γ : Gam) (Λ : Lam) (p : List Nat) (assign body : Code) (ps : List Nat) (s : St) (d : Option Ob) (k : Nat) (L : List (Option Ob)) (Y : List (List V)) (x : List V) (rec rec' : Loop) : T (Ex × St × Bool) :=
  (sx P Γ Λ (0 :: p) assign (midS s L Y d rec (setPs s.tm ps x))).bind fun y => match y.1 with
    | .normal => .ite (@decide (y.2.lo[s.lo.length + 2]? = some (some (.raw (.loop rec)))) (Classical.propDecidable _))
        ((sx P Γ Λ (1 :: p) body { y.2 with lo := y.2.lo.set (s.lo.length + 2) (some (.raw (.loop rec'))) }).bind fun z => .leaf (z.1, keep s.tm.length [] (cutS k (post z.2)), chk s.tm.length k (post z.2))) .bad
    | _ => .bad

theorem rounds_ofP [GW] {P : Program} {Γ : Gam} {Λ : Lam} {p : List Nat} {assign body : Code} {ps : List Nat} {s : St} {d : Option Ob} {any : List V} {LL : Nat → List (Option Ob)} {YY : Nat → List (List V)} {x : Nat → List V} {n : Nat} {E : Nat → Ex} (post : Nat → St → St) (hpost : ∀ k s, Sub P s (post k s)) (nk : Nat → Nat)
    (hlen : ∀ k, s.lo.length ≤ (LL k).length) (hargs : ∀ k, k < n → (x k).length = ps.length)
    (h : ∀ k, k < n → (∀ j, j < k → isNormal (E j) = true) → ∀ rec rec' : Loop, (roundP (post k) P Γ Λ p assign body ps s d (nk k) (LL k) (YY k) (x k) rec rec').pick = some (E k, midS s (LL (k + 1)) (YY (k + 1)) d rec' any, true)) :
    Rounds P Γ Λ p assign body ps s d any LL YY x n E := by
  refine ⟨hlen, hargs, fun k hk hn rec => ?_⟩
  have h1 := h k hk hn rec
  have key : ∃ y : Ex × St, (sx P Γ Λ (0 :: p) assign (midS s (LL k) (YY k) d rec (setPs s.tm ps (x k)))).pick = some y := by
    have := h1 rec
    unfold roundP at this
    rw [T.pick_bind] at this
    obtain ⟨y, hy, _⟩ := this
    exact ⟨y, hy⟩
  obtain ⟨⟨ye, ys⟩, hy⟩ := key
  have h2 : ∀ rec' : Loop, ye = .normal ∧ ys.lo[s.lo.length + 2]? = some (some (.raw (.loop rec))) ∧ ∃ z : Ex × St, (sx P Γ Λ (1 :: p) body { ys with lo := ys.lo.set (s.lo.length + 2) (some (.raw (.loop rec'))) }).pick = some z ∧
      z.1 = E k ∧ keep s.tm.length [] (cutS (nk k) (post k z.2)) = midS s (LL (k + 1)) (YY (k + 1)) d rec' any ∧ chk s.tm.length (nk k) (post k z.2) = true := fun rec' => by
    have h3 := h1 rec'
    unfold roundP at h3
    rw [T.pick_bind] at h3
    obtain ⟨y, hy', h3⟩ := h3
    rw [hy] at hy'
    cases hy'
    cases ye <;> simp only [T.pick, reduceCtorEq] at h3
    cases hd : (@decide (ys.lo[s.lo.length + 2]? = some (some (.raw (.loop rec)))) (Classical.propDecidable _)) with
    | false => rw [hd] at h3; simp at h3
    | true =>
      rw [hd] at h3
      simp only [cond_true] at h3
      rw [T.pick_bind] at h3
      obtain ⟨z, hz, h3⟩ := h3
      simp only [T.pick, Option.some.injEq, Prod.mk.injEq] at h3
      exact ⟨rfl, by simpa using hd, z, hz, h3.1, h3.2.1, h3.2.2⟩
  obtain ⟨rfl, hraw, _⟩ := h2 rec
  have h4 : ∀ rec' : Loop, ∃ s2 : St, (sx P Γ Λ (1 :: p) body { ys with lo := ys.lo.set (s.lo.length + 2) (some (.raw (.loop rec'))) }).pick = some (E k, s2) ∧ Sub P s2 (midS s (LL (k + 1)) (YY (k + 1)) d rec' any) := fun rec' => by
    obtain ⟨_, _, ⟨ze, zs⟩, e1, e2, e3, e4⟩ := h2 rec'
    simp only at e2 e3 e4
    subst e2
    simp only [chk, Bool.and_eq_true, beq_iff_eq, decide_eq_true_eq] at e4
    obtain ⟨c1, c2, c3, c4⟩ := e4
    refine ⟨zs, e1, ?_⟩
    rw [← e3]
    exact (hpost k zs).trans ((sub_cut c2 c3 c4).trans (sub_keep (by show (List.map _ _).length = _; rw [List.length_map, c1]) []))
  obtain ⟨f, hf⟩ := Classical.axiomOfChoice h4
  exact ⟨ys, f, hy, hraw, fun rec' => (hf rec').1, fun rec' => (hf rec').2⟩

/-! ### how far an iterator comes -/
theorem exists_stops (go : List (List V) → Bool) (x : Nat → List V) (n : Nat) : ∃ k, Stops go x n k := by
  by_cases h : ∃ i, i < n ∧ go (hist x (i + 1)) = false
  · obtain ⟨m, ⟨h1, h2⟩, h3⟩ := exists_least (fun i => i < n ∧ go (hist x (i + 1)) = false) h.choose h.choose_spec
    refine ⟨m + 1, h1, fun j hj => ?_, .inl ⟨by omega, h2⟩⟩
    cases hg : go (hist x (j + 1)) with
    | true => rfl
    | false => have := h3 j ⟨by omega, hg⟩; omega
  · have hall : ∀ i, i < n → go (hist x (i + 1)) = true := fun i hi => by
      cases hg : go (hist x (i + 1)) with
      | true => rfl
      | false => exact absurd ⟨i, hi, hg⟩ h
    refine ⟨n, Nat.le_refl _, fun j hj => hall j (by omega), .inr ⟨rfl, fun h0 => ?_⟩⟩
    have := hall (n - 1) (by omega)
    rwa [show n - 1 + 1 = n by omega] at this

theorem stops_at {go : List (List V) → Bool} {x : Nat → List V} {n k i : Nat} (h : Stops go x n k) (hi : i < n) (hall : ∀ j, j < i → go (hist x (j + 1)) = true) (hf : go (hist x (i + 1)) = false) : k = i + 1 := by
  obtain ⟨h1, h2, h3⟩ := h
  have h4 : ¬ i + 1 < k := fun hlt => by rw [h2 i hlt] at hf; cases hf
  rcases h3 with ⟨h5, h6⟩ | ⟨h5, h6⟩
  · have h7 : ¬ k - 1 < i := fun hlt => by
      have := hall (k - 1) hlt
      rw [show k - 1 + 1 = k by omega, h6] at this
      cases this
    omega
  · omega

theorem stops_end {go : List (List V) → Bool} {x : Nat → List V} {n k : Nat} (h : Stops go x n k) (hall : ∀ j, j < n → go (hist x (j + 1)) = true) : k = n := by
  obtain ⟨h1, h2, h3⟩ := h
  rcases h3 with ⟨h5, h6⟩ | ⟨h5, h6⟩
  · have := hall (k - 1) (by omega)
    rw [show k - 1 + 1 = k by omega, h6] at this
    cases this
  · exact h5

theorem den_nil {S : Nat → Prop} {w : World} {ks : List K} {g : Nat → Nat → Q} {v : Value} (h : DenQ S w (.c (.slice none 0 0)) v) : DenQ S w (.lst ks 0 g) v := by
  cases h; exact .nil _ _ _ rfl

theorem Weak.nilL {ks : List K} {g : Nat → Nat → Q} {l l' : List V} (hl : Weak l l') : Weak (.q (.c (.slice none 0 0)) :: l) (.q (.lst ks 0 g) :: l') := fun S w vs hd => by
  cases hd with
  | cons x v l vs h1 h2 => exact .cons _ _ _ _ (.q _ _ (den_nil h1.q_inv)) (hl _ _ _ h2)

end Go.SX

/- Names handed on: what a newer name stands for, under an older one that is needed no more. -/
namespace Go.SX
open Go.RowKit
set_option linter.unusedVariables false
set_option linter.unusedSimpArgs false
set_option linter.unusedSectionVars false

def V.mv1 (a b : Nat) : V → V
  | .ptr n off => if n = a then .ptr b off else if n = b then .any else .ptr n off
  | .ep n sz i j => if n = a then .ep b sz i j else if n = b then .any else .ep n sz i j
  | .own n => if n = a then .own b else if n = b then .any else .own n
  | .mp n => if n = a then .mp b else if n = b then .any else .mp n
  | .yld n => if n = a then .any else if n = b then .any else .yld n
  | .agg _ => .any
  | .clo _ _ => .any
  | .tup _ => .any
  | v => v

def V.mv (a b : Nat) : V → V
  | .agg l => .agg (l.map (V.mv1 a b))
  | .clo f l => .clo f (l.map (V.mv1 a b))
  | .tup l => .tup (l.map (V.mv1 a b))
  | v => V.mv1 a b v

def mvOb (a b : Nat) : Ob → Ob
  | .cells t cs => .cells t (cs.map (V.mv a b))
  | .held tm => .held (tm.map (V.mv a b))
  | o => o

def plainOb : Option (Option Ob) → Bool
  | some (some (.map ..)) => true
  | some (some (.cells ..)) => true
  | some (some (.vec ..)) => true
  | some (some (.siter ..)) => true
  | _ => false

def dropOb : Option (Option Ob) → Bool
  | some (some (.map ..)) => true
  | some (some (.cells ..)) => true
  | some (some (.vec ..)) => true
  | some (some .gone) => true
  | some (some .dead) => true
  | some (some (.siter ..)) => true
  | some none => true
  | _ => false

def mvLo (a b : Nat) (lo : List (Option Ob)) : List (Option Ob) :=
  ((lo.map fun o => o.map (mvOb a b)).set b ((lo.getD a none).map (mvOb a b))).set a none

/-- The name a's resource goes under the name b, whose own is let go. -/
def mvS (a b : Nat) (s : St) : St :=
  if decide (a ≠ b ∧ s.base ≤ b ∧ s.base ≤ a) && plainOb s.lo[a]? && dropOb s.lo[b]? && s.df.all (fun d => d.names.all fun n => decide (n ≠ a ∧ n ≠ b)) then
    { s with tm := s.tm.map (V.mv a b), lo := mvLo a b s.lo }
  else s

theorem den_mv1 {S S' L L' : Nat → Prop} {θ θ' : Th} {w : World} {a b : Nat} (hS : ∀ x, S x → S' x) (hb : θ' b = θ a) (hθ : ∀ n, n ≠ b → θ' n = θ n) (hLa : L a → L' b) (hL : ∀ n, L n → n ≠ a → n ≠ b → L' n) {v : V} {u : Value} (h : Den S L θ w v u) : Den S' L' θ' w (v.mv1 a b) u := by
  cases h with
  | any v => exact .any _
  | q x v h => exact .q _ _ (h.mono hS (fun _ _ => rfl))
  | kb b => exact .kb b
  | lc ks len get cap a n h => exact .lc _ _ _ _ _ _ (h.mono hS (fun _ _ => rfl))
  | ptr n off h =>
    simp only [V.mv1]
    split
    · rename_i e; subst e; rw [← hb]; exact .ptr b off (hLa h)
    · split
      · exact .any _
      · rename_i e1 e2; rw [← hθ n e2]; exact .ptr n off (hL n h e1 e2)
  | ep n sz i j h =>
    simp only [V.mv1]
    split
    · rename_i e; subst e; rw [← hb]; exact .ep b sz i j (hLa h)
    · split
      · exact .any _
      · rename_i e1 e2; rw [← hθ n e2]; exact .ep n sz i j (hL n h e1 e2)
  | own n ad len cap h e' =>
    simp only [V.mv1]
    split
    · rename_i e; subst e; exact .own b _ _ _ (hLa h) (by rw [hb]; exact e')
    · split
      · exact .any _
      · rename_i e1 e2; exact .own n _ _ _ (hL n h e1 e2) (by rw [hθ n e2]; exact e')
  | mp n h =>
    simp only [V.mv1]
    split
    · rename_i e; subst e; rw [← hb]; exact .mp b (hLa h)
    · split
      · exact .any _
      · rename_i e1 e2; rw [← hθ n e2]; exact .mp n (hL n h e1 e2)
  | yld n h =>
    simp only [V.mv1]
    split
    · exact .any _
    · split
      · exact .any _
      · rename_i e1 e2; rw [← hθ n e2]; exact .yld n (hL n h e1 e2)
  | clo f caps vs h => exact .any _
  | agg l vs h => exact .any _
  | tup l vs h => exact .any _

theorem denL_mv1 {S S' L L' : Nat → Prop} {θ θ' : Th} {w : World} {a b : Nat} (hS : ∀ x, S x → S' x) (hb : θ' b = θ a) (hθ : ∀ n, n ≠ b → θ' n = θ n) (hLa : L a → L' b) (hL : ∀ n, L n → n ≠ a → n ≠ b → L' n) : ∀ {l : List V} {us : List Value}, DenL S L θ w l us → DenL S' L' θ' w (l.map (V.mv1 a b)) us
  | _, _, .nil => .nil
  | _, _, .cons x v l us h hl => .cons _ _ _ _ (den_mv1 hS hb hθ hLa hL h) (denL_mv1 hS hb hθ hLa hL hl)

theorem den_mv {S S' L L' : Nat → Prop} {θ θ' : Th} {w : World} {a b : Nat} (hS : ∀ x, S x → S' x) (hb : θ' b = θ a) (hθ : ∀ n, n ≠ b → θ' n = θ n) (hLa : L a → L' b) (hL : ∀ n, L n → n ≠ a → n ≠ b → L' n) {v : V} {u : Value} (h : Den S L θ w v u) : Den S' L' θ' w (v.mv a b) u := by
  cases h with
  | clo f caps vs h => exact .clo _ _ _ (denL_mv1 hS hb hθ hLa hL h)
  | agg l vs h => exact .agg _ _ (denL_mv1 hS hb hθ hLa hL h)
  | tup l vs h => exact .tup _ _ (denL_mv1 hS hb hθ hLa hL h)
  | any v => exact .any _
  | q x v h => exact .q _ _ (h.mono hS (fun _ _ => rfl))
  | kb b => exact .kb b
  | lc ks len get cap a n h => exact .lc _ _ _ _ _ _ (h.mono hS (fun _ _ => rfl))
  | ptr n off h => exact den_mv1 hS hb hθ hLa hL (.ptr n off h)
  | ep n sz i j h => exact den_mv1 hS hb hθ hLa hL (.ep n sz i j h)
  | own n ad len cap h e' => exact den_mv1 hS hb hθ hLa hL (.own n ad len cap h e')
  | mp n h => exact den_mv1 hS hb hθ hLa hL (.mp n h)
  | yld n h => exact den_mv1 hS hb hθ hLa hL (.yld n h)

theorem denL_mv {S S' L L' : Nat → Prop} {θ θ' : Th} {w : World} {a b : Nat} (hS : ∀ x, S x → S' x) (hb : θ' b = θ a) (hθ : ∀ n, n ≠ b → θ' n = θ n) (hLa : L a → L' b) (hL : ∀ n, L n → n ≠ a → n ≠ b → L' n) : ∀ {l : List V} {us : List Value}, DenL S L θ w l us → DenL S' L' θ' w (l.map (V.mv a b)) us
  | _, _, .nil => .nil
  | _, _, .cons x v l us h hl => .cons _ _ _ _ (den_mv hS hb hθ hLa hL h) (denL_mv hS hb hθ hLa hL hl)

theorem holds_mv {S S' L L' : Nat → Prop} {θ θ' : Th} {w : World} {a b n m : Nat} {o : Ob} (hS : ∀ x, S x → S' x) (hb : θ' b = θ a) (hθ : ∀ n, n ≠ b → θ' n = θ n) (hLa : L a → L' b) (hL : ∀ n, L n → n ≠ a → n ≠ b → L' n) (hm : θ' m = θ n) (h : Holds S L θ w n o) : Holds S' L' θ' w m (mvOb a b o) := by
  cases o with
  | map kk ag vk es =>
    obtain ⟨arr, clk, h1, h2⟩ := h
    exact ⟨arr, clk, by rw [hm]; exact h1, h2.mono hS (fun _ _ => rfl)⟩
  | cells t cs =>
    obtain ⟨vs, h1, h2⟩ := h
    exact ⟨vs, by rw [hm]; exact h1, denL_mv hS hb hθ hLa hL h2⟩
  | vec t ks len get =>
    rcases h with ⟨h1, h2⟩ | ⟨vs, cap, h1, h2, h3, h4, h5, h6⟩
    · exact .inl ⟨by rw [hm]; exact h1, h2⟩
    · refine .inr ⟨vs, cap, by rw [hm]; exact h1, by rw [hm]; exact h2, h3, h4, h5, fun i j k hi hk => ?_⟩
      obtain ⟨a, u, b, c⟩ := h6 i j k hi hk
      exact ⟨a, u, b, c.mono hS (fun _ _ => rfl)⟩
  | yl go adm => trivial
  | dfr => exact ⟨by rw [hm]; exact h.1, fun b hb => by rw [hm] at hb; exact h.2 b hb⟩
  | deads => trivial
  | raw x => show _ = _; rw [hm]; exact h
  | siter b pos => show _ = _; rw [hm]; exact h
  | dead => trivial
  | gone => trivial
  | held tm =>
    obtain ⟨us, h1, h2⟩ := h
    exact ⟨us, by rw [hm]; exact h1, denL_mv hS hb hθ hLa hL h2⟩

theorem uses_mv {θ θ' : Th} {a b n m : Nat} (h : θ' m = θ n) (o : Ob) (c : Nat) : uses θ' m (mvOb a b o) c ↔ uses θ n o c := by
  cases o <;> simp [mvOb, uses, h]

theorem sub_mv [GW] {P : Program} (a b : Nat) (s : St) : Sub P s (mvS a b s) := fun J Am Mi w0 θ ac w h => by
  unfold mvS
  split
  · rename_i hc
    simp only [Bool.and_eq_true, decide_eq_true_eq] at hc
    obtain ⟨⟨⟨⟨hab, hbb, hba⟩, hpa⟩, hdb⟩, hdf⟩ := hc
    have hlb : b < s.lo.length := by
      rcases Nat.lt_or_ge b s.lo.length with h1 | h1
      · exact h1
      · rw [List.getElem?_eq_none h1] at hdb; simp [dropOb] at hdb
    have hla : a < s.lo.length := by
      rcases Nat.lt_or_ge a s.lo.length with h1 | h1
      · exact h1
      · rw [List.getElem?_eq_none h1] at hpa; simp [plainOb] at hpa
    have hget : ∀ (n : Nat) (o : Ob), (mvLo a b s.lo)[n]? = some (some o) → (n = b ∧ ∃ o', s.lo[a]? = some (some o') ∧ o = mvOb a b o') ∨ (n ≠ b ∧ n ≠ a ∧ ∃ o', s.lo[n]? = some (some o') ∧ o = mvOb a b o') := fun n o ho => by
      unfold mvLo at ho
      by_cases e1 : a = n
      · subst e1
        rw [List.getElem?_set] at ho
        simp at ho
      · rw [List.getElem?_set_ne e1] at ho
        by_cases e2 : b = n
        · subst e2
          rw [List.getElem?_set_self (by simpa using hlb)] at ho
          simp only [Option.some.injEq, Option.map_eq_some_iff] at ho
          obtain ⟨o', h1, rfl⟩ := ho
          refine .inl ⟨rfl, o', ?_, rfl⟩
          simp only [List.getD_eq_getElem?_getD] at h1
          cases hq : s.lo[a]? with
          | none => simp [hq] at h1
          | some q => simp [hq] at h1; rw [h1]
        · rw [List.getElem?_set_ne e2, List.getElem?_map] at ho
          simp only [Option.map_eq_some_iff] at ho
          obtain ⟨q, h1, h2⟩ := ho
          obtain ⟨o', rfl, rfl⟩ := h2
          exact .inr ⟨fun e => e2 e.symm, fun e => e1 e.symm, o', h1, rfl⟩
    have hput : ∀ (n : Nat) (o : Ob), s.lo[n]? = some (some o) → n ≠ a → n ≠ b → (mvLo a b s.lo)[n]? = some (some (mvOb a b o)) := fun n o ho e1 e2 => by
      unfold mvLo
      rw [List.getElem?_set_ne (fun e => e1 e.symm), List.getElem?_set_ne (fun e => e2 e.symm), List.getElem?_map, ho]
      rfl
    have hputb : ∀ o, s.lo[a]? = some (some o) → (mvLo a b s.lo)[b]? = some (some (mvOb a b o)) := fun o ho => by
      unfold mvLo
      rw [List.getElem?_set_ne hab, List.getElem?_set_self (by simpa using hlb)]
      simp [List.getD_eq_getElem?_getD, ho]
    have hθb : (fun n => if n = b then θ a else θ n) b = θ a := by simp
    have hθ : ∀ n, n ≠ b → (fun n => if n = b then θ a else θ n) n = θ n := fun n hn => by simp [hn]
    have hLa : Liv s.lo a → Liv (mvLo a b s.lo) b := fun ⟨o, ho⟩ => ⟨_, hputb o ho⟩
    have hL : ∀ n, Liv s.lo n → n ≠ a → n ≠ b → Liv (mvLo a b s.lo) n := fun n ⟨o, ho⟩ e1 e2 => ⟨_, hput n o ho e1 e2⟩
    -- where a resource of the new state comes from
    have hfrom : ∀ (n : Nat) (o : Ob), (mvLo a b s.lo)[n]? = some (some o) → ∃ m o', s.lo[m]? = some (some o') ∧ o = mvOb a b o' ∧ (fun n => if n = b then θ a else θ n) n = θ m ∧ (n = b ∧ m = a ∨ n ≠ b ∧ n ≠ a ∧ m = n) := fun n o ho => by
      rcases hget n o ho with ⟨rfl, o', h1, h2⟩ | ⟨e1, e2, o', h1, h2⟩
      · exact ⟨a, o', h1, h2, by simp, .inl ⟨rfl, rfl⟩⟩
      · exact ⟨n, o', h1, h2, by simp [e1], .inr ⟨e1, e2, rfl⟩⟩
    have hS : ∀ x, Stab Am s.lo θ w x → Stab Am (mvLo a b s.lo) (fun n => if n = b then θ a else θ n) w x := fun x hx => ⟨hx.1, hx.2.1, fun n o ho hu => by
      obtain ⟨m, o', h1, rfl, h3, _⟩ := hfrom n o ho
      exact hx.2.2 m o' h1 ((uses_mv h3 o' x).1 hu)⟩
    refine ⟨fun n => if n = b then θ a else θ n, by simp [h.size], fun i v hv => ?_, fun n o ho => ?_, fun n o x ho hu => ?_, fun n m o1 o2 x h1 h2 hne hu1 hu2 => ?_, h.mine, h.fr, h.am, ?_, fun n go adm ho => ?_, h.ga, ⟨h.rr.1, fun l hl => ?_⟩, ⟨h.tt.1, by simp only [mvLo, List.length_set, List.length_map]; exact h.tt.2.1, fun n hn => ?_⟩, ?_, fun d hd n hn => ?_⟩
    · simp only [List.getElem?_map, Option.map_eq_some_iff] at hv
      obtain ⟨x, hx, rfl⟩ := hv
      obtain ⟨u, hu, hd⟩ := h.tm i x hx
      exact ⟨u, hu, den_mv hS hθb hθ hLa hL hd⟩
    · obtain ⟨m, o', h1, rfl, h3, _⟩ := hfrom n o ho
      exact holds_mv hS hθb hθ hLa hL h3 (h.lo m o' h1)
    · obtain ⟨m, o', h1, rfl, h3, _⟩ := hfrom n o ho
      exact h.lt m o' x h1 ((uses_mv h3 o' x).1 hu)
    · obtain ⟨m1, p1, g1, rfl, g3, g4⟩ := hfrom n o1 h1
      obtain ⟨m2, p2, k1, rfl, k3, k4⟩ := hfrom m o2 h2
      refine h.inj m1 m2 p1 p2 x g1 k1 (fun e => hne ?_) ((uses_mv g3 p1 x).1 hu1) ((uses_mv k3 p2 x).1 hu2)
      rcases g4 with ⟨e1, e2⟩ | ⟨e1, e2, e3⟩ <;> rcases k4 with ⟨f1, f2⟩ | ⟨f1, f2, f3⟩ <;> omega
    · refine h.jj.step rfl rfl rfl (Nat.le_refl _) (fun _ _ _ => rfl) (fun x ⟨n, o, ho, hu⟩ => ?_) h.am h.own_am
      obtain ⟨m, o', h1, rfl, h3, _⟩ := hfrom n o ho
      have hu' := (uses_mv h3 o' x).1 hu
      exact ⟨.inl ⟨m, o', h1, hu'⟩, (h.lt m o' x h1 hu').1⟩
    · obtain ⟨m, o', h1, e, h3, _⟩ := hfrom n _ ho
      have : o' = .yl go adm := by cases o' <;> simp [mvOb] at e; obtain ⟨rfl, rfl⟩ := e; rfl
      subst this
      show J.ok ((fun n => if n = b then θ a else θ n) n).blk go adm
      rw [h3]
      exact h.yy m go adm h1
    · obtain ⟨n, x, hx, hb'⟩ := h.rr.2 l hl
      have e1 : n ≠ a := fun e => by subst e; rw [hx] at hpa; simp [plainOb] at hpa
      have e2 : n ≠ b := fun e => by subst e; rw [hx] at hdb; simp [dropOb] at hdb
      exact ⟨n, x, hput n _ hx e1 e2, by simp [e2]; exact hb'⟩
    · have hn' : n < s.base := hn
      have : n ≠ b := fun e => by omega
      simp only [if_neg this]
      exact h.tt.2.2 n hn'
    · rw [h.df]
      refine flatMap_congr' fun d hd => (Df.den_congr d fun m hm => ?_).symm
      have := List.all_eq_true.1 (List.all_eq_true.1 hdf d hd) m hm
      simp only [decide_eq_true_eq] at this
      simp [this.2]
    · have := List.all_eq_true.1 (List.all_eq_true.1 hdf d hd) n hn
      simp only [decide_eq_true_eq] at this
      exact hL n (h.dfl d hd n hn) this.1 this.2
  · exact ⟨θ, h⟩

def mvL : List (Nat × Nat) → St → St
  | [], s => s
  | (a, b) :: l, s => mvL l (mvS a b s)

theorem sub_mvL [GW] {P : Program} : ∀ (l : List (Nat × Nat)) (s : St), Sub P s (mvL l s)
  | [], s => Sub.refl s
  | (a, b) :: l, s => (sub_mv a b s).trans (sub_mvL l _)

section
variable [GW] {P : Program} {Γ : Gam} {root : Code}

/-- The rule, with names handed on. -/
theorem loop_treeM (hΓ : GOK P Γ) {p : List Nat} {b : Code} (hc : codeAt root (0 :: p) = some b) {ι : Type} (ok : ι → Prop) (S : ι → St) (μ : ι → Nat) (R : Out) (nn k : Nat) (live dd : Ex → List Nat) (mv : Ex → List (Nat × Nat))
    (hb : ∀ i, ok i → ∃ Λ e s', LamOK P root Λ ∧ ((sx P Γ Λ (0 :: p) b (S i)).bind fun x => .leaf (x.1, deadS (dd x.1) (canS nn k (live x.1) (mvL (mv x.1) x.2)), chkM nn k (mvL (mv x.1) x.2))).pick = some (e, s', true) ∧
      ((e = .normal ∧ ∃ j, ok j ∧ μ j < μ i ∧ s' = S j) ∨ (e ≠ .normal ∧ R.pick = some (e, s')))) :
    ∀ i, ok i → ∀ x, R.pick = some x → SemC P (.loop b) (S i) x := fun i hi x hx => by
  refine sem_loop ok S μ (fun _ => x) (fun i hi => ?_) i hi
  obtain ⟨Λ, e, s', hΛ, hp, hr⟩ := hb i hi
  rw [T.pick_bind] at hp
  obtain ⟨⟨e1, s1⟩, h1, h2⟩ := hp
  simp only [T.pick, Option.some.injEq, Prod.mk.injEq] at h2
  obtain ⟨rfl, rfl, h3⟩ := h2
  refine ⟨e1, s1, sem_of_sx hΓ hΛ (0 :: p) hc h1, ?_⟩
  have hsub : Sub P s1 (deadS (dd e1) (canS nn k (live e1) (mvL (mv e1) s1))) := (sub_mvL _ _).trans ((sub_can h3 _).trans (sub_dead _ _))
  rcases hr with ⟨he, j, hj, hlt, hs⟩ | ⟨he, hR⟩
  · exact .inl ⟨he, j, hj, hlt, hs ▸ hsub, rfl⟩
  · have : x = (e1, _) := Option.some.inj (hx.symm.trans hR)
    exact .inr ⟨he, by rw [this], by rw [this]; exact hsub⟩
end
end Go.SX

/- Lists that are nothing as yet; lists that are added to no more. -/
namespace Go.SX
open Go.RowKit
set_option linter.unusedVariables false
set_option linter.unusedSimpArgs false
set_option linter.unusedSectionVars false

def nilAt (j : Nat) (ks : List K) (cs : List V) : List V := match cs[j]? with
  | some (.q (.c (.slice none 0 0))) => cs.set j (.q (.lst ks 0 fun _ _ => default))
  | _ => cs

/-- No list, in a cell, as a list of nothing. -/
def nilC (n j : Nat) (ks : List K) (s : St) : St := match s.lo[n]? with
  | some (some (.cells t cs)) => { s with lo := s.lo.set n (some (.cells t (nilAt j ks cs))) }
  | _ => s

/-- No list, in a place, as a list of nothing. -/
def nilT (i : Nat) (ks : List K) (s : St) : St := match s.tm[i]? with
  | some (.q (.c (.slice none 0 0))) => { s with tm := s.tm.set i (.q (.lst ks 0 fun _ _ => default)) }
  | _ => s

/-- No list, in a place, as one that is owned. -/
def nilV (i nm : Nat) (t : TypeId) (ks : List K) (s : St) : St := match s.tm[i]?, s.lo[nm]? with
  | some (.q (.c (.slice none 0 0))), none => if decide (s.base ≤ nm) then { s with tm := s.tm.set i (.own nm), lo := ins s.lo nm (.vec t ks 0 fun _ _ => default) } else s
  | _, _ => s

theorem denL_set {S L : Nat → Prop} {θ : Th} {w : World} {x : V} : ∀ {l : List V} {us : List Value} {j : Nat} {u : Value}, DenL S L θ w l us → us[j]? = some u → Den S L θ w x u → DenL S L θ w (l.set j x) us
  | [], _, _, _, .nil, _, _ => .nil
  | y :: l, _, 0, u, .cons _ v _ us h hl, e, hx => by simp at e; subst e; exact .cons _ _ _ _ hx hl
  | y :: l, _, j + 1, u, .cons _ v _ us h hl, e, hx => .cons _ _ _ _ h (denL_set hl (by simpa using e) hx)

theorem sub_nilC [GW] {P : Program} (n j : Nat) (ks : List K) (s : St) : Sub P s (nilC n j ks s) := fun J Am Mi w0 θ a w h => by
  unfold nilC
  split
  · rename_i t cs hn
    refine ⟨θ, h.turn n _ (.cells t (nilAt j ks cs)) hn (fun b hb => hb) (fun _ _ e => by cases e) (.inr fun _ e => by cases e) (w' := w) rfl rfl rfl rfl (fun _ _ => rfl) ?_⟩
    obtain ⟨vs, h1, h2⟩ := h.lo n _ hn
    refine ⟨vs, h1, ?_⟩
    unfold nilAt
    split
    · rename_i hj
      obtain ⟨u, hu, hd⟩ := h2.get j _ hj
      exact denL_set h2 hu (.q _ _ (den_nil hd.q_inv))
    · exact h2
  · exact ⟨θ, h⟩

theorem sub_nilT [GW] {P : Program} (i : Nat) (ks : List K) (s : St) : Sub P s (nilT i ks s) := fun J Am Mi w0 θ a w h => by
  unfold nilT
  split
  · rename_i hi
    obtain ⟨u, hu, hd⟩ := h.tm i _ hi
    exact ⟨θ, h.retm i hu (.q _ _ (den_nil hd.q_inv))⟩
  · exact ⟨θ, h⟩

theorem sub_nilV [GW] {P : Program} (i nm : Nat) (t : TypeId) (ks : List K) (s : St) : Sub P s (nilV i nm t ks s) := fun J Am Mi w0 θ a w h => by
  unfold nilV
  split
  · rename_i hi hm
    split
    · rename_i hb
      have hb' : s.base ≤ nm := by simpa using hb
      obtain ⟨u, hu, hd⟩ := h.tm i _ hi
      have hu' : u = .slice none 0 0 := by
        have := hd.q_inv
        cases this; rfl
      subst hu'
      have hR := h.gain nm ⟨hb', fun o ho => by rw [hm] at ho; cases ho⟩ (.vec t ks 0 fun _ _ => default) (Below.refl _ _) ⟨0, .slice none 0 0, []⟩ _ rfl (fun _ _ e => by cases e) (fun b hu => by simp [uses] at hu) (fun S L hS hL hθ hw => .inl ⟨by simp, rfl⟩)
      exact ⟨_, hR.retm i hu (.own nm none 0 0 ⟨_, ins_same _ _ _⟩ (by simp))⟩
    · exact ⟨θ, h⟩
  · exact ⟨θ, h⟩

/-! ### lists that are added to no more -/
def V.fz1 (n : Nat) (q : Q) : V → V
  | .own m => if m = n then .q q else .own m
  | .ptr m off => if m = n then .any else .ptr m off
  | .ep m sz i j => if m = n then .any else .ep m sz i j
  | .mp m => if m = n then .any else .mp m
  | .yld m => if m = n then .any else .yld m
  | .agg _ => .any
  | .clo _ _ => .any
  | .tup _ => .any
  | v => v

def V.fz (n : Nat) (q : Q) : V → V
  | .agg l => .agg (l.map (V.fz1 n q))
  | .clo f l => .clo f (l.map (V.fz1 n q))
  | .tup l => .tup (l.map (V.fz1 n q))
  | v => V.fz1 n q v

def fzOb (n : Nat) (q : Q) : Ob → Ob
  | .cells t cs => .cells t (cs.map (V.fz n q))
  | .held tm => .held (tm.map (V.fz n q))
  | o => o

/-- The list n is owned no more. -/
def fzS (n : Nat) (s : St) : St := match s.lo[n]? with
  | some (some (.vec _ ks len get)) => if s.df.all (fun d => d.names.all fun m => decide (m ≠ n)) then
      { s with tm := s.tm.map (V.fz n (.lst ks len get)), lo := (s.lo.map fun o => o.map (fzOb n (.lst ks len get))).set n none } else s
  | _ => s

theorem den_fz1 {S S' L L' : Nat → Prop} {θ : Th} {w : World} {n : Nat} {q : Q} (hS : ∀ x, S x → S' x) (hq : L n → DenQ S' w q (θ n).sl) (hL : ∀ m, L m → m ≠ n → L' m) {v : V} {u : Value} (h : Den S L θ w v u) : Den S' L' θ w (v.fz1 n q) u := by
  cases h with
  | any v => exact .any _
  | q x v h => exact .q _ _ (h.mono hS (fun _ _ => rfl))
  | kb b => exact .kb b
  | lc ks len get cap a n h => exact .lc _ _ _ _ _ _ (h.mono hS (fun _ _ => rfl))
  | own m ad len cap h e =>
    simp only [V.fz1]
    split
    · rename_i e'; subst e'; rw [← e]; exact .q _ _ (hq h)
    · rename_i e'; exact .own m _ _ _ (hL m h e') e
  | ptr m off h =>
    simp only [V.fz1]
    split
    · exact .any _
    · rename_i e'; exact .ptr m off (hL m h e')
  | ep m sz i j h =>
    simp only [V.fz1]
    split
    · exact .any _
    · rename_i e'; exact .ep m sz i j (hL m h e')
  | mp m h =>
    simp only [V.fz1]
    split
    · exact .any _
    · rename_i e'; exact .mp m (hL m h e')
  | yld m h =>
    simp only [V.fz1]
    split
    · exact .any _
    · rename_i e'; exact .yld m (hL m h e')
  | clo f caps vs h => exact .any _
  | agg l vs h => exact .any _
  | tup l vs h => exact .any _

theorem denL_fz1 {S S' L L' : Nat → Prop} {θ : Th} {w : World} {n : Nat} {q : Q} (hS : ∀ x, S x → S' x) (hq : L n → DenQ S' w q (θ n).sl) (hL : ∀ m, L m → m ≠ n → L' m) : ∀ {l : List V} {us : List Value}, DenL S L θ w l us → DenL S' L' θ w (l.map (V.fz1 n q)) us
  | _, _, .nil => .nil
  | _, _, .cons x v l us h hl => .cons _ _ _ _ (den_fz1 hS hq hL h) (denL_fz1 hS hq hL hl)

theorem den_fz {S S' L L' : Nat → Prop} {θ : Th} {w : World} {n : Nat} {q : Q} (hS : ∀ x, S x → S' x) (hq : L n → DenQ S' w q (θ n).sl) (hL : ∀ m, L m → m ≠ n → L' m) {v : V} {u : Value} (h : Den S L θ w v u) : Den S' L' θ w (v.fz n q) u := by
  cases h with
  | clo f caps vs h => exact .clo _ _ _ (denL_fz1 hS hq hL h)
  | agg l vs h => exact .agg _ _ (denL_fz1 hS hq hL h)
  | tup l vs h => exact .tup _ _ (denL_fz1 hS hq hL h)
  | any v => exact .any _
  | q x v h => exact .q _ _ (h.mono hS (fun _ _ => rfl))
  | kb b => exact .kb b
  | lc ks len get cap a n h => exact .lc _ _ _ _ _ _ (h.mono hS (fun _ _ => rfl))
  | ptr m off h => exact den_fz1 hS hq hL (.ptr m off h)
  | ep m sz i j h => exact den_fz1 hS hq hL (.ep m sz i j h)
  | own m ad len cap h e => exact den_fz1 hS hq hL (.own m ad len cap h e)
  | mp m h => exact den_fz1 hS hq hL (.mp m h)
  | yld m h => exact den_fz1 hS hq hL (.yld m h)

theorem denL_fz {S S' L L' : Nat → Prop} {θ : Th} {w : World} {n : Nat} {q : Q} (hS : ∀ x, S x → S' x) (hq : L n → DenQ S' w q (θ n).sl) (hL : ∀ m, L m → m ≠ n → L' m) : ∀ {l : List V} {us : List Value}, DenL S L θ w l us → DenL S' L' θ w (l.map (V.fz n q)) us
  | _, _, .nil => .nil
  | _, _, .cons x v l us h hl => .cons _ _ _ _ (den_fz hS hq hL h) (denL_fz hS hq hL hl)

theorem uses_fz {θ : Th} {n m : Nat} {q : Q} (o : Ob) (b : Nat) : uses θ m (fzOb n q o) b ↔ uses θ m o b := by cases o <;> exact Iff.rfl

theorem sub_fz [GW] {P : Program} (n : Nat) (s : St) : Sub P s (fzS n s) := fun J Am Mi w0 θ a w h => by
  unfold fzS
  split
  · rename_i t ks len get hn
    split
    · rename_i hdf
      have hlt : n < s.lo.length := (List.getElem?_eq_some_iff.1 hn).1
      have hget : ∀ (m : Nat) (o : Ob), ((s.lo.map fun o => o.map (fzOb n (.lst ks len get))).set n none)[m]? = some (some o) → m ≠ n ∧ ∃ o', s.lo[m]? = some (some o') ∧ o = fzOb n (.lst ks len get) o' := fun m o ho => by
        by_cases e : n = m
        · subst e; rw [List.getElem?_set] at ho; simp at ho
        · rw [List.getElem?_set_ne e, List.getElem?_map] at ho
          simp only [Option.map_eq_some_iff] at ho
          obtain ⟨q, h1, h2⟩ := ho
          obtain ⟨o', rfl, rfl⟩ := h2
          exact ⟨fun e' => e e'.symm, o', h1, rfl⟩
      have hput : ∀ (m : Nat) (o : Ob), s.lo[m]? = some (some o) → m ≠ n → ((s.lo.map fun o => o.map (fzOb n (.lst ks len get))).set n none)[m]? = some (some (fzOb n (.lst ks len get) o)) := fun m o ho e => by
        rw [List.getElem?_set_ne (fun e' => e e'.symm), List.getElem?_map, ho]
        rfl
      have hL : ∀ m, Liv s.lo m → m ≠ n → Liv ((s.lo.map fun o => o.map (fzOb n (.lst ks len get))).set n none) m := fun m ⟨o, ho⟩ e => ⟨_, hput m o ho e⟩
      have hS : ∀ x, Stab Am s.lo θ w x → Stab Am ((s.lo.map fun o => o.map (fzOb n (.lst ks len get))).set n none) θ w x := fun x hx => ⟨hx.1, hx.2.1, fun m o ho hu => by
        obtain ⟨_, o', h1, rfl⟩ := hget m o ho
        exact hx.2.2 m o' h1 ((uses_fz o' x).1 hu)⟩
      have hq : Liv s.lo n → DenQ (Stab Am ((s.lo.map fun o => o.map (fzOb n (.lst ks len get))).set n none) θ w) w (.lst ks len get) (θ n).sl := fun _ => by
        rcases h.lo n _ hn with ⟨h1, h0⟩ | ⟨vs, cap, h1, h2, h3, h4, h5, h6⟩
        · rw [h1]; exact .nil _ _ _ h0
        · rw [h1]
          have hblk : Stab Am ((s.lo.map fun o => o.map (fzOb n (.lst ks len get))).set n none) θ w (θ n).blk := by
            have hu : uses θ n (.vec t ks len get) (θ n).blk := ⟨rfl, by rw [h1]; simp⟩
            obtain ⟨g1, g2, g3⟩ := h.lt n _ _ hn hu
            refine ⟨g1, g3, fun m o ho hu' => ?_⟩
            obtain ⟨e, o', k1, rfl⟩ := hget m o ho
            exact h.inj m n o' _ _ k1 hn e ((uses_fz o' _).1 hu') hu
          have hex : ∀ i j, i < len → j < ks.length → ∃ z, vs[i * ks.length + j]? = some z ∧ DenQ (Stab Am s.lo θ w) w (get i j) z := fun i j hi hj => (h6 i j (ks[j]) hi (by simp [hj])).2
          refine .lst _ _ _ (θ n).blk 0 cap (fun i j => vs.getD (i * ks.length + j) undef) hblk ⟨h4.1, Nat.le_trans h4.1 h4.2⟩ (fun i j hi hj => ?_) (fun i j k hi hk => (h6 i j k hi hk).1) (fun i j hi hj => ?_)
          · obtain ⟨z, hz, _⟩ := hex i j hi hj
            rw [Nat.zero_add, cell_of_row w _ _ _ _ _ h2]
            simp only [List.getElem?_toArray, hz, List.getD_eq_getElem?_getD, Option.getD_some]
          · obtain ⟨z, hz, hd⟩ := hex i j hi hj
            simp only [List.getD_eq_getElem?_getD, hz, Option.getD_some]
            exact hd.mono hS (fun _ _ => rfl)
      refine ⟨θ, by simp [h.size], fun i v hv => ?_, fun m o ho => ?_, fun m o x ho hu => ?_, fun m m' o1 o2 x h1 h2 hne hu1 hu2 => ?_, h.mine, h.fr, h.am, ?_, fun m go adm ho => ?_, h.ga, ⟨h.rr.1, fun l hl => ?_⟩, ⟨h.tt.1, by simp only [List.length_set, List.length_map]; exact h.tt.2.1, h.tt.2.2⟩, h.df, fun d hd m hm => ?_⟩
      · simp only [List.getElem?_map, Option.map_eq_some_iff] at hv
        obtain ⟨x, hx, rfl⟩ := hv
        obtain ⟨u, hu, hd⟩ := h.tm i x hx
        exact ⟨u, hu, den_fz hS hq hL hd⟩
      · obtain ⟨e, o', h1, rfl⟩ := hget m o ho
        have hH := h.lo m o' h1
        cases o' with
        | map kk ag vk es =>
          obtain ⟨arr, clk, g1, g2⟩ := hH
          exact ⟨arr, clk, g1, g2.mono hS (fun _ _ => rfl)⟩
        | cells t cs =>
          obtain ⟨vs, g1, g2⟩ := hH
          exact ⟨vs, g1, denL_fz hS hq hL g2⟩
        | vec t ks len get =>
          rcases hH with g1 | ⟨vs, cap, g1, g2, g3, g4, g5, g6⟩
          · exact .inl g1
          · refine .inr ⟨vs, cap, g1, g2, g3, g4, g5, fun i j q hi hq' => ?_⟩
            obtain ⟨a1, u, a2, a3⟩ := g6 i j q hi hq'
            exact ⟨a1, u, a2, a3.mono hS (fun _ _ => rfl)⟩
        | yl go adm => trivial
        | dfr => exact hH
        | deads => trivial
        | raw x => exact hH
        | siter b pos => exact hH
        | dead => trivial
        | gone => trivial
        | held tm =>
          obtain ⟨us, g1, g2⟩ := hH
          exact ⟨us, g1, denL_fz hS hq hL g2⟩
      · obtain ⟨e, o', h1, rfl⟩ := hget m o ho
        exact h.lt m o' x h1 ((uses_fz o' x).1 hu)
      · obtain ⟨_, p1, g1, rfl⟩ := hget m o1 h1
        obtain ⟨_, p2, g2, rfl⟩ := hget m' o2 h2
        exact h.inj m m' p1 p2 x g1 g2 hne ((uses_fz p1 x).1 hu1) ((uses_fz p2 x).1 hu2)
      · refine h.jj.step rfl rfl rfl (Nat.le_refl _) (fun _ _ _ => rfl) (fun x ⟨m, o, ho, hu⟩ => ?_) h.am h.own_am
        obtain ⟨_, o', h1, rfl⟩ := hget m o ho
        have hu' := (uses_fz o' x).1 hu
        exact ⟨.inl ⟨m, o', h1, hu'⟩, (h.lt m o' x h1 hu').1⟩
      · obtain ⟨_, o', h1, e⟩ := hget m _ ho
        have : o' = .yl go adm := by cases o' <;> simp [fzOb] at e; obtain ⟨rfl, rfl⟩ := e; rfl
        subst this
        exact h.yy m go adm h1
      · obtain ⟨m, x, hx, hb⟩ := h.rr.2 l hl
        have e : m ≠ n := fun e => by subst e; rw [hn] at hx; cases hx
        exact ⟨m, x, hput m _ hx e, hb⟩
      · have := List.all_eq_true.1 (List.all_eq_true.1 hdf d hd) m hm
        exact hL m (h.dfl d hd m hm) (by simpa using this)
    · exact ⟨θ, h⟩
  · exact ⟨θ, h⟩

section
variable [GW] {P : Program} {Γ : Gam} {root : Code}

/-- The rule, whatever is done to the state behind a round. -/
theorem loop_treeP (hΓ : GOK P Γ) {p : List Nat} {b : Code} (hc : codeAt root (0 :: p) = some b) {ι : Type} (ok : ι → Prop) (S : ι → St) (μ : ι → Nat) (R : Out) (nn k : Nat) (live dd : Ex → List Nat) (post : Ex → St → St) (hpost : ∀ e s, Sub P s (post e s))
    (hb : ∀ i, ok i → ∃ Λ e s', LamOK P root Λ ∧ ((sx P Γ Λ (0 :: p) b (S i)).bind fun x => .leaf (x.1, deadS (dd x.1) (canS nn k (live x.1) (post x.1 x.2)), chkM nn k (post x.1 x.2))).pick = some (e, s', true) ∧
      ((e = .normal ∧ ∃ j, ok j ∧ μ j < μ i ∧ s' = S j) ∨ (e ≠ .normal ∧ R.pick = some (e, s')))) :
    ∀ i, ok i → ∀ x, R.pick = some x → SemC P (.loop b) (S i) x := fun i hi x hx => by
  refine sem_loop ok S μ (fun _ => x) (fun i hi => ?_) i hi
  obtain ⟨Λ, e, s', hΛ, hp, hr⟩ := hb i hi
  rw [T.pick_bind] at hp
  obtain ⟨⟨e1, s1⟩, h1, h2⟩ := hp
  simp only [T.pick, Option.some.injEq, Prod.mk.injEq] at h2
  obtain ⟨rfl, rfl, h3⟩ := h2
  refine ⟨e1, s1, sem_of_sx hΓ hΛ (0 :: p) hc h1, ?_⟩
  have hsub : Sub P s1 (deadS (dd e1) (canS nn k (live e1) (post e1 s1))) := (hpost _ _).trans ((sub_can h3 _).trans (sub_dead _ _))
  rcases hr with ⟨he, j, hj, hlt, hs⟩ | ⟨he, hR⟩
  · exact .inl ⟨he, j, hj, hlt, hs ▸ hsub, rfl⟩
  · have : x = (e1, _) := Option.some.inj (hx.symm.trans hR)
    exact .inr ⟨he, by rw [this], by rw [this]; exact hsub⟩

/-- A summary that is asked for at the one state, whatever is done to it ahead. -/
noncomputable def orcP (pre : St → St) (mk : Bool) (nn k : Nat) (live : List Nat) (S : St) (R : Out) : St → Out := fun s => orc mk nn k live S R (pre s)

theorem LamOK.orcP {c : Code} {p : List Nat} {pre : St → St} {mk : Bool} {nn k : Nat} {live : List Nat} {S : St} {R : Out} {Λ : Lam} (hpre : ∀ s, Sub P s (pre s)) (hc : codeAt root p = some c) (h : ∀ x, R.pick = some x → SemC P c S x) (hΛ : LamOK P root Λ) : LamOK P root ((p, SX.orcP pre mk nn k live S R) :: Λ) :=
  LamOK.cons c hc (fun s x hp => by
    obtain ⟨e, t⟩ := x
    exact (orc_ok h (pre s) (e, t) hp).sub (hpre s) (Sub.refl _)) hΛ
end

theorem SpecOK.imp [GW] {P : Program} {f : Nat} {sp sp' : List V → T V} (h : SpecOK P f sp') (hi : ∀ args r, (∀ x ∈ args, VB x) → (sp args).pick = some r → (sp' args).pick = some r) : SpecOK P f sp :=
  ⟨h.1, fun S w args vals r a b c d e => h.2 S w args vals r a b c d (hi args r (fun x hx => let ⟨_, hv⟩ := d.mem x hx; hv.vb) e)⟩
/-- A contract that says less of the result. -/
theorem SpecOK.res [GW] {P : Program} {f : Nat} {sp sp' : List V → T V} (h : SpecOK P f sp') (hi : ∀ args r, (∀ x ∈ args, VB x) → (sp args).pick = some r → ∃ r', (sp' args).pick = some r' ∧ ∀ (S : Nat → Prop) (w : World) (v : Value), Den S NoL th0 w r' v → Den S NoL th0 w r v) : SpecOK P f sp :=
  ⟨h.1, fun S w args vals r a b c d e => by
    obtain ⟨r', h1, h2⟩ := hi args r (fun x hx => let ⟨_, hv⟩ := d.mem x hx; hv.vb) e
    exact (h.2 S w args vals r' a b c d h1).mono fun ev w' ⟨v, e1, e2, e3⟩ => ⟨v, e1, e2, h2 _ _ _ e3⟩⟩
/-- A nil list is a list of none. -/
theorem den_nil0 {S L : Nat → Prop} {θ : Th} {w : World} {ks : List K} {n : Nat} {g : Nat → Nat → Q} {v : Value} (hn : n = 0) (h : Den S L θ w (.q (.c (.slice none 0 0))) v) : Den S L θ w (.q (.lst ks n g)) v := by
  have := h.q_inv
  cases this
  exact .q _ _ (.nil _ _ _ hn)
/-- The tests on one way through a tree; what stands at its end. -/
def T.pathC {α : Type} : T α → List Bool → List Bool
  | .ite c t e, b :: l => c :: (match b with | true => t.pathC l | false => e.pathC l)
  | _, _ => []
def T.pathL {α : Type} : T α → List Bool → T α
  | .ite _ t e, b :: l => match b with | true => t.pathL l | false => e.pathL l
  | t, _ => t
theorem T.pick_path {α : Type} : ∀ (bs : List Bool) (t : T α), t.pathC bs = bs → t.pick = (t.pathL bs).pick
  | [], t, _ => by cases t <;> rfl
  | b :: l, .ite c t e, h => by
    simp only [T.pathC, List.cons.injEq] at h
    obtain ⟨rfl, h⟩ := h
    cases c with
    | true => exact T.pick_path l t h
    | false => exact T.pick_path l e h
  | b :: l, .leaf x, h => by simp [T.pathC] at h
  | b :: l, .bad, h => by simp [T.pathC] at h
/-- One way through a tree. -/
theorem T.pick_at {α : Type} {t : T α} {x : α} (bs cs : List Bool) (h1 : t.pathC bs = cs) (h2 : cs = bs) (h3 : t.pathL bs = .leaf x) : t.pick = some x := by
  rw [T.pick_path bs t (h1.trans h2), h3]; rfl
/-- What is let go of at a function's end. -/
def canP (n k : Nat) (live : List Nat) (s : St) : St := if chkM n k s then canS n k live s else s
theorem sub_canP [GW] {P : Program} (n k : Nat) (live : List Nat) (s : St) : Sub P s (canP n k live s) := by
  unfold canP
  split
  · rename_i h; exact sub_can h live
  · exact Sub.refl s
end Go.SX

/- Functions that are lent something, or hand something over: their contracts, out of what their bodies come to. -/
namespace Go.SX
open Go.RowKit
set_option linter.unusedVariables false
set_option linter.unusedSimpArgs false
set_option linter.unusedSectionVars false

def initX (fn : Func) (ls : Option Ob) (args : List V) : St := { tm := args ++ List.replicate (fn.ntmps - args.length) .any, lo := (optW 0 ls).map fun x => some x.2, base := (optW 0 ls).length }

/-- Which of the results is handed over, with what it names. -/
def newName (ho lend : Bool) : List V → Option Nat
  | [] => none
  | .mp n :: _ => some n
  | .ptr n off :: l => if ho && (!lend || decide (n ≠ 0)) then some n else newName ho lend l
  | .own n :: l => if ho then some n else newName ho lend l
  | _ :: l => newName ho lend l

def maskL (lend : Bool) (hn : Option Nat) (lo : List (Option Ob)) : List (Option Ob) :=
  let lo1 := if lend then lo.set 0 none else lo
  match hn with
  | some n => lo1.set n none
  | none => lo1

def handOb (lo1 : List (Option Ob)) : Ob → Option Ob
  | .map kk ag vk es => some (.map kk ag vk es)
  | .vec t ks len get => some (.vec t ks len get)
  | .cells t cs => (toQs lo1 cs).map (.cells t)
  | _ => none

def outX1 (lend : Bool) (hn : Option Nat) (lo1 : List (Option Ob)) : V → Option V
  | .ptr n off => if lend && decide (n = 0) then some (.ptr 0 off) else if hn = some n then some (.ptr 1 off) else letGo1 lo1 (.ptr n off)
  | .mp n => if hn = some n then some (.mp 1) else letGo1 lo1 (.mp n)
  | .own n => if hn = some n then some (.own 1) else letGo1 lo1 (.own n)
  | v => letGo1 lo1 v

def outXL (lend : Bool) (hn : Option Nat) (lo1 : List (Option Ob)) : List V → Option (List V)
  | [] => some []
  | x :: l => match outX1 lend hn lo1 x, outXL lend hn lo1 l with
    | some y, some r => some (y :: r)
    | _, _ => none

def lentOut (lend : Bool) (lo lo1 : List (Option Ob)) : Option (Option Ob) :=
  if lend then match lo[0]? with
    | some (some (Ob.cells t cs)) => (toQs lo1 cs).map fun cs' => some (Ob.cells t cs')
    | _ => none
  else some none

def newOut (hn : Option Nat) (lo lo1 : List (Option Ob)) : Option (Option Ob) := match hn with
  | some n => match lo[n]? with
    | some (some o) => (handOb lo1 o).map some
    | _ => none
  | none => some none

def tupOf : List V → V
  | [v] => v
  | vs => .tup vs

/-- What is handed back, and what of what was lent. -/
def outX (lend : Bool) (hn : Option Nat) (lo : List (Option Ob)) (vs : List V) : Option XOut :=
  if lend && decide (hn = some 0) then none else
  match lentOut lend lo (maskL lend hn lo), newOut hn lo (maskL lend hn lo), outXL lend hn (maskL lend hn lo) vs with
  | some l, some x, some rs => some ⟨l, x, tupOf rs⟩
  | _, _, _ => none

def leaveX (P : Program) (fn : Func) (ho lend : Bool) (s : St) : T XOut :=
  match dropMarks s.df s.lo with
  | some lo => (resL P { s with lo } fn.results.toList).bind fun vs => .ofOption (outX lend (newName ho lend vs) lo vs)
  | none => .bad

def funX (P : Program) (Γ : Gam) (Λ : Lam) (fn : Func) (c : Code) (ho : Bool) (ls : Option Ob) (args : List V) : T XOut :=
  (sx P Γ Λ [] c (initX fn ls args)).bind fun x => match x.1 with
    | .normal | .ret => leaveX P fn ho ls.isSome x.2
    | _ => .bad

def Jt.fix [GW] (P : Program) (k : Nat) (th : Th) : Jt P := { Jt.none P with hN := k, th }

section
variable [GW] {P : Program} {J : Jt P} {Am Mi : Nat → Prop} {w0 w : World} {s : St} {θ : Th} {a : Act} {Γ : Gam}

theorem maskL_sub {lend : Bool} {hn : Option Nat} {lo : List (Option Ob)} {n : Nat} {o : Ob} (h : (maskL lend hn lo)[n]? = some (some o)) : lo[n]? = some (some o) ∧ (lend = true → n ≠ 0) ∧ hn ≠ some n := by
  have h0 : ∀ {m : Nat} {l : List (Option Ob)}, (l.set m none)[n]? = some (some o) → l[n]? = some (some o) ∧ m ≠ n := fun {m l} h => by
    by_cases e : m = n
    · subst e
      rw [List.getElem?_set] at h
      simp at h
    · rw [List.getElem?_set_ne e] at h
      exact ⟨h, e⟩
  have h1 : ∀ {l : List (Option Ob)}, l = (if lend then lo.set 0 none else lo) → l[n]? = some (some o) → lo[n]? = some (some o) ∧ (lend = true → n ≠ 0) := fun {l} e h => by
    subst e
    cases lend with
    | true => obtain ⟨a, b⟩ := h0 (by simpa using h); exact ⟨a, fun _ e => b e.symm⟩
    | false => exact ⟨by simpa using h, fun e => by cases e⟩
  unfold maskL at h
  cases hn with
  | none =>
    obtain ⟨a, b⟩ := h1 rfl h
    exact ⟨a, b, by simp⟩
  | some m =>
    obtain ⟨a, b⟩ := h0 h
    obtain ⟨c, d⟩ := h1 rfl a
    exact ⟨c, d, fun e => b (Option.some.inj e)⟩

theorem handOb_uses {lo1 : List (Option Ob)} {o o' : Ob} {n : Nat} {b : Nat} (h : handOb lo1 o = some o') : uses θ n o' b ↔ uses θ n o b := by
  cases o with
  | cells t cs =>
    simp only [handOb, Option.map_eq_some_iff] at h
    obtain ⟨r, _, rfl⟩ := h
    exact Iff.rfl
  | map => simp [handOb] at h; subst h; exact Iff.rfl
  | vec => simp [handOb] at h; subst h; exact Iff.rfl
  | _ => simp [handOb] at h

theorem outX_run (h : Rep J Am Mi w0 s θ a w) {lend : Bool} {hn : Option Nat} {vs : List V} {us : List Value} {x : XOut} (e : outX lend hn s.lo vs = some x) (hd : DenL (Stab Am s.lo θ w) (Liv s.lo) θ w vs us) {S' : Nat → Prop}
    (hS : ∀ b, Stab Am s.lo θ w b → S' b) (hO : ∀ (n : Nat) (o : Ob) (b : Nat), s.lo[n]? = some (some o) → (lend = true → n ≠ 0) → hn ≠ some n → uses θ n o b → S' b) (hdis : ∀ n o b, hn = some n → s.lo[n]? = some (some o) → uses θ n o b → ¬ S' b) :
    ∃ θ' : Th, θ' 0 = θ 0 ∧ x.lent.isSome = lend ∧ (∀ o, x.lent = some o → ∃ t cs, o = .cells t cs ∧ Holds S' NoL θ' w 0 o ∧ ∃ cs0, s.lo[0]? = some (some (.cells t cs0))) ∧
      (∀ o, x.new = some o → Holds S' NoL θ' w 1 o ∧ (∀ go adm, o ≠ .yl go adm) ∧ ∃ n o0, hn = some n ∧ s.lo[n]? = some (some o0) ∧ (lend = true → n ≠ 0) ∧ ∀ b, uses θ' 1 o b ↔ uses θ n o0 b) ∧
      Den S' (fun n => (n = 0 ∧ lend = true) ∨ (n = 1 ∧ x.new.isSome)) θ' w x.r (if h : us.length = 1 then us[0] else .tuple us.toArray) := by
  unfold outX at e
  split at e
  · cases e
  rename_i hh0
  split at e
  · rename_i l nw rs h1 h2 h3
    cases e
    simp only
    have hlo1 := fun n o hm => (maskL_sub (lend := lend) (hn := hn) (lo := s.lo) (n := n) (o := o) hm).1
    have hO1 : ∀ (n : Nat) (o : Ob) (b : Nat), (maskL lend hn s.lo)[n]? = some (some o) → uses θ n o b → S' b := fun n o b hm hu => by
      obtain ⟨e1, e2, e3⟩ := maskL_sub hm
      exact hO n o b e1 e2 e3 hu
    have hcells : ∀ {n : Nat} {t : TypeId} {cs cs' : List V}, s.lo[n]? = some (some (.cells t cs)) → toQs (maskL lend hn s.lo) cs = some cs' → ∃ vs : List Value, w.heap[(θ n).blk]? = some (.cells vs.toArray t (0, 0)) ∧ DenL S' NoL th0 w cs' vs := fun hm hq => by
      obtain ⟨vs, g1, g2⟩ := h.lo _ _ hm
      exact ⟨vs, g1, toQs_den h hlo1 hS hO1 g2 hq⟩
    have hθ : ∃ θ' : Th, θ' 0 = θ 0 ∧ ∀ n, hn = some n → θ' 1 = θ n := by
      cases hn with
      | none => exact ⟨θ, rfl, fun n e => by cases e⟩
      | some m => exact ⟨fun k => if k = 1 then θ m else θ k, by simp, fun n e => by cases e; simp⟩
    obtain ⟨θ', t0, t1⟩ := hθ
    have hl : l.isSome = lend := by
      unfold lentOut at h1
      split at h1
      · rename_i hle
        split at h1
        · simp only [Option.map_eq_some_iff] at h1
          obtain ⟨_, _, rfl⟩ := h1
          simp [hle]
        · cases h1
      · rename_i hle
        cases h1
        simp at hle
        simp [hle]
    have hnw : nw.isSome = hn.isSome := by
      unfold newOut at h2
      split at h2
      · split at h2
        · simp only [Option.map_eq_some_iff] at h2
          obtain ⟨_, _, rfl⟩ := h2
          rfl
        · cases h2
      · cases h2; rfl
    have hden1 : ∀ {v y : V} {u : Value}, Den (Stab Am s.lo θ w) (Liv s.lo) θ w v u → outX1 lend hn (maskL lend hn s.lo) v = some y → Den S' (fun n => (n = 0 ∧ lend = true) ∨ (n = 1 ∧ nw.isSome)) θ' w y u := fun {v y u} hv hy => by
      have hgo : ∀ {v y : V} {u : Value}, Den (Stab Am s.lo θ w) (Liv s.lo) θ w v u → letGo1 (maskL lend hn s.lo) v = some y → Den S' (fun n => (n = 0 ∧ lend = true) ∨ (n = 1 ∧ nw.isSome)) θ' w y u := fun hv hy =>
        (letGo1_den h hlo1 hS hO1 hv hy).mono (fun _ x => x) (fun _ _ => rfl) (fun _ hf => hf.elim) (fun _ hf => hf.elim)
      cases v with
      | ptr n off =>
        simp only [outX1] at hy
        split at hy
        · rename_i hc
          simp only [Bool.and_eq_true, decide_eq_true_eq] at hc
          cases hy
          obtain ⟨hle, rfl⟩ := hc
          obtain ⟨rfl, _⟩ := hv.ptr_inv
          rw [← t0]
          exact .ptr 0 off (.inl ⟨rfl, hle⟩)
        · split at hy
          · rename_i hc
            cases hy
            obtain ⟨rfl, _⟩ := hv.ptr_inv
            rw [← t1 n hc]
            exact .ptr 1 off (.inr ⟨rfl, by rw [hnw, hc]; rfl⟩)
          · exact hgo hv hy
      | mp n =>
        simp only [outX1] at hy
        split at hy
        · rename_i hc
          cases hy
          cases hv
          rw [← t1 n hc]
          exact .mp 1 (.inr ⟨rfl, by rw [hnw, hc]; rfl⟩)
        · exact hgo hv hy
      | own n =>
        simp only [outX1] at hy
        split at hy
        · rename_i hc
          cases hy
          cases hv with
          | own _ ad len cap hl hs => exact .own 1 _ _ _ (.inr ⟨rfl, by rw [hnw, hc]; rfl⟩) (by rw [t1 n hc]; exact hs)
        · exact hgo hv hy
      | _ => exact hgo hv hy
    have hdenL : ∀ {vs rs : List V} {us : List Value}, DenL (Stab Am s.lo θ w) (Liv s.lo) θ w vs us → outXL lend hn (maskL lend hn s.lo) vs = some rs → DenL S' (fun n => (n = 0 ∧ lend = true) ∨ (n = 1 ∧ nw.isSome)) θ' w rs us := fun {vs} => by
      induction vs with
      | nil => intro rs us hd he; cases he; cases hd; exact .nil
      | cons v vs ih =>
        intro rs us hd he
        cases hd with
        | cons _ u _ us hv hl =>
          simp only [outXL] at he
          split at he
          · rename_i y r hy hr
            cases he
            exact .cons _ _ _ _ (hden1 hv hy) (ih hl hr)
          · cases he
    have hR := hdenL hd h3
    refine ⟨θ', t0, hl, fun o ho => ?_, fun o ho => ?_, ?_⟩
    · subst ho
      unfold lentOut at h1
      split at h1
      · split at h1
        · rename_i t cs hm
          simp only [Option.map_eq_some_iff] at h1
          obtain ⟨cs', hq, h1⟩ := h1
          cases h1
          obtain ⟨vs', g1, g2⟩ := hcells hm hq
          exact ⟨t, cs', rfl, ⟨vs', by rw [t0]; exact g1, g2.mono (fun _ x => x) (fun _ _ => rfl) (fun _ hf => hf.elim) (fun _ hf => hf.elim)⟩, cs, hm⟩
        · cases h1
      · cases h1
    · subst ho
      unfold newOut at h2
      split at h2
      · rename_i _ n
        split at h2
        · rename_i o0 hm
          simp only [Option.map_eq_some_iff] at h2
          obtain ⟨o', hq, h2⟩ := h2
          cases h2
          have hne : lend = true → n ≠ 0 := fun hle e => hh0 (by simp [hle, e])
          refine ⟨?_, ?_, n, o0, rfl, hm, hne, fun b => ((uses_ren (t1 n rfl) o b).trans (handOb_uses hq))⟩
          · have hH := h.lo _ _ hm
            cases o0 with
            | map kk ag vk es =>
              simp [handOb] at hq
              subst hq
              obtain ⟨arr, clk, g1, g2⟩ := hH
              exact ⟨arr, clk, by rw [t1 n rfl]; exact g1, g2.mono hS (fun _ _ => rfl)⟩
            | vec t ks len get =>
              simp [handOb] at hq
              subst hq
              rcases hH with ⟨g1, g2⟩ | ⟨vs, cap, g1, g2, g3, g4, g5, g6⟩
              · exact .inl ⟨by rw [t1 n rfl]; exact g1, g2⟩
              · refine .inr ⟨vs, cap, by rw [t1 n rfl]; exact g1, by rw [t1 n rfl]; exact g2, g3, g4, g5, fun i j k hi hk => ?_⟩
                obtain ⟨a, u, b, c⟩ := g6 i j k hi hk
                exact ⟨a, u, b, c.mono hS (fun _ _ => rfl)⟩
            | cells t cs =>
              simp only [handOb, Option.map_eq_some_iff] at hq
              obtain ⟨cs', hq, rfl⟩ := hq
              obtain ⟨vs', g1, g2⟩ := hcells hm hq
              exact ⟨vs', by rw [t1 n rfl]; exact g1, g2.mono (fun _ x => x) (fun _ _ => rfl) (fun _ hf => hf.elim) (fun _ hf => hf.elim)⟩
            | _ => simp [handOb] at hq
          · intro go adm e
            subst e
            cases o0 <;> simp [handOb] at hq
        · cases h2
      · cases h2
    · have hlen := hR.length
      cases hR with
      | nil => simpa [tupOf] using Den.tup (S := S') _ _ (DenL.nil (S := S') (L := fun n => (n = 0 ∧ lend = true) ∨ (n = 1 ∧ nw.isSome)) (θ := θ') (w := w))
      | cons y u rs us hy hl =>
        cases hl with
        | nil => simpa [tupOf] using hy
        | cons y2 u2 rs us hy2 hl =>
          have := Den.tup _ _ (DenL.cons _ _ _ _ hy (.cons _ _ _ _ hy2 hl))
          simpa [tupOf] using this
  · cases e

/-- What is known of l is known of l', whatever it names. -/
def WeakG (l l' : List V) : Prop := ∀ (S L : Nat → Prop) (θ : Th) (w : World) (vs : List Value), DenL S L θ w l vs → DenL S L θ w l' vs
theorem WeakG.rfl {l : List V} : WeakG l l := fun _ _ _ _ _ h => h
theorem WeakG.sp {k : Nat} {get get' : Nat → SX.Q} (h : ∀ j, j < k → get j = get' j) {l l' : List V} (hl : WeakG l l') : WeakG (.q (.sp k get) :: l) (.q (.sp k get') :: l') := fun S L θ w vs hd => by
  cases hd with
  | cons x v l vs h1 h2 => exact .cons _ _ _ _ (.q _ _ (den_sp h h1.q_inv)) (hl _ _ _ _ _ h2)
theorem WeakG.cons {x : V} {l l' : List V} (hl : WeakG l l') : WeakG (x :: l) (x :: l') := fun S L θ w vs hd => by
  cases hd with
  | cons x v l vs h1 h2 => exact .cons _ _ _ _ h1 (hl _ _ _ _ _ h2)

/-- A function's contract that is lent something or hands something over, out of what its body comes to. -/
theorem specX_of_bodyW {f : Nat} {fn : Func} {c : Code} {lend ho : Bool} {sp : Option Ob → List V → T XOut} (hΓ : GOK P Γ) (hf : P.funcs[f]? = some fn) (hb : fn.body = some c) (hent : entersB P f = true)
    (hsp : ∀ ls args x, ls.isSome = lend → (∀ y ∈ args, VB y) → (sp ls args).pick = some x → ∃ args' Λ, WeakG args args' ∧ LamOK P c Λ ∧ (funX P Γ Λ fn c ho ls args').pick = some x) : SpecX P f lend sp := by
  refine ⟨hent, fun S w θ ls args0 vals x hSw hgl hSg hlend hls hd0 hr => (callsIn_wide (n := 0)).1 (callsIn_of_wp_marks hf hb trivial ?_ rfl)⟩
  obtain ⟨args, Λ, hwk, hΛ, he⟩ := hsp ls args0 x hlend (fun x hx => let ⟨_, h⟩ := hd0.mem x hx; h.vb) hr
  have hd := hwk _ _ _ _ _ hd0
  unfold funX at he
  rw [T.pick_bind] at he
  obtain ⟨⟨ex, s1⟩, h1, h2⟩ := he
  have hlen := hd.length
  have hlo0 : ∀ n o, (initX fn ls args).lo[n]? = some (some o) → n = 0 ∧ ls = some o := fun n o ho => by
    cases ls with
    | none => simp [initX, optW] at ho
    | some y =>
      simp only [initX, optW, List.map_cons, List.map_nil] at ho
      cases n with
      | zero => simp at ho; exact ⟨rfl, by rw [ho]⟩
      | succ n => simp at ho
  have hlv : ∀ n, (n = 0 ∧ lend = true) → Liv (initX fn ls args).lo n := fun n ⟨hn, hl⟩ => by
    subst hn
    rw [← hlend] at hl
    obtain ⟨o, rfl⟩ := Option.isSome_iff_exists.1 hl
    exact ⟨o, by simp [initX, optW]⟩
  have hblk : ∀ n o b, (initX fn ls args).lo[n]? = some (some o) → uses θ n o b → lend = true ∧ b = (θ 0).blk := fun n o b ho hu => by
    obtain ⟨rfl, e⟩ := hlo0 n o ho
    obtain ⟨t, cs, rfl, _⟩ := hls o e
    exact ⟨by rw [← hlend, e]; rfl, hu⟩
  have hR : Rep (Jt.fix P (optW 0 ls).length θ) (fun b => b < w.heap.size ∧ ¬ S b ∧ ¬ (lend = true ∧ b = (θ 0).blk)) (fun b => w.heap.size ≤ b ∨ (lend = true ∧ b = (θ 0).blk)) w (initX fn ls args) θ { tmps := vals.toArray ++ Array.replicate (fn.ntmps - vals.toArray.size) undef, defers := [] } w := by
    have hnS : lend = true → ¬ S (θ 0).blk ∧ (θ 0).blk < w.heap.size := fun hl => by
      rw [← hlend] at hl
      obtain ⟨o, ho⟩ := Option.isSome_iff_exists.1 hl
      obtain ⟨t, cs, _, _, g1, g2⟩ := hls o ho
      exact ⟨g2, g1⟩
    have hS : ∀ b, S b → Stab (fun b => b < w.heap.size ∧ ¬ S b ∧ ¬ (lend = true ∧ b = (θ 0).blk)) (initX fn ls args).lo θ w b := fun b hb => ⟨hSw b hb, fun hh => hh.2.1 hb, fun n o ho hu => by
      obtain ⟨e1, e2⟩ := hblk n o b ho hu
      exact (hnS e1).1 (by rw [← e2]; exact hb)⟩
    have hd' := hd.mono (L' := Liv (initX fn ls args).lo) hS (fun _ _ => rfl) hlv (fun _ _ => rfl) (θ' := θ) (w' := w)
    refine ⟨by simp [initX, hlen], fun i v hv => ?_, fun n o ho => ?_, fun n o b ho hu => ?_, fun n m o o' b ho ho' hne => ?_, fun b hb => .inl hb, Fr.refl _ _ ⟨fun x hx hh => ?_, hgl⟩, fun b hb => hb.1, ⟨fun _ => False, ⟨fun _ hf => hf.elim, fun _ hf => hf.elim⟩, trivial, fun _ _ hf => hf.elim⟩, fun n go adm ho => ?_, fun x hx hh => hh.2.1 (hSg x hx), ⟨rfl, fun l hl => (by cases hl)⟩, ⟨rfl, ?_, fun n hn => rfl⟩, rfl, fun d hd => by simp [initX] at hd⟩
    · simp only [initX] at hv
      rw [List.getElem?_append] at hv
      split at hv
      · rename_i hi
        obtain ⟨u, hu, hdu⟩ := hd'.get i v hv
        refine ⟨u, ?_, hdu⟩
        rw [Array.getElem?_append]
        have : i < vals.toArray.size := by simp; omega
        rw [if_pos this]
        simpa using hu
      · rename_i hi
        rw [List.getElem?_replicate] at hv
        split at hv
        · rename_i hi2
          cases hv
          refine ⟨undef, ?_, .any _⟩
          rw [Array.getElem?_append]
          have : ¬ i < vals.toArray.size := by simp; omega
          rw [if_neg this, Array.getElem?_replicate, if_pos (by simp; omega)]
        · cases hv
    · obtain ⟨rfl, e⟩ := hlo0 n o ho
      obtain ⟨t, cs, rfl, hH, _⟩ := hls o e
      exact holds_ren hS rfl hH
    · obtain ⟨e1, e2⟩ := hblk n o b ho hu
      refine ⟨by rw [e2]; exact (hnS e1).2, .inr ⟨e1, e2⟩, fun hh => hh.2.2 ⟨e1, e2⟩⟩
    · obtain ⟨rfl, _⟩ := hlo0 n o ho
      obtain ⟨rfl, _⟩ := hlo0 m o' ho'
      exact absurd rfl hne
    · rcases hh with hh | ⟨e1, e2⟩
      · exact absurd (hgl.lt x hx) (by omega)
      · exact (hnS e1).1 (by rw [← e2]; exact hSg x hx)
    · obtain ⟨rfl, e⟩ := hlo0 n _ ho
      obtain ⟨t, cs, e', _⟩ := hls _ e
      cases e'
    · simp [initX]
  refine wpIn_mono (sx_wp hΓ hΛ c [] (initX fn ls args) (ex, s1) rfl h1 0 _ _ _ _ _ _ _ hR) ?_
  rintro e a' w' ⟨hi, Am', θ1, hup, hR'⟩
  simp only at hR'
  have hdone : (leaveX P fn ho ls.isSome s1).pick = some x → LeavesInM (FW none) 0 P fn a'.tmps (fun e w' => ∃ (v : Value) (θ' : Th), e = .returned v ∧ θ' 0 = θ 0 ∧ w'.os = w.os ∧ w'.tape = w.tape ∧ w'.output = w.output ∧ w.heap.size ≤ w'.heap.size ∧
      (∀ b, b < w.heap.size → ¬ (lend = true ∧ b = (θ 0).blk) → w'.heap[b]? = w.heap[b]?) ∧ x.lent.isSome = lend ∧
      (∀ o, x.lent = some o → ∃ t cs, o = .cells t cs ∧ Holds (XS w S w' θ' x) NoL θ' w' 0 o) ∧
      (∀ o, x.new = some o → Holds (XS w S w' θ' x) NoL θ' w' 1 o ∧ (∀ go adm, o ≠ .yl go adm) ∧ ∀ b, uses θ' 1 o b → w.heap.size ≤ b ∧ b < w'.heap.size) ∧
      Den (XS w S w' θ' x) (fun n => (n = 0 ∧ lend = true) ∨ (n = 1 ∧ x.new.isSome)) θ' w' x.r v) a'.defers .returning w' := fun ho' => by
    unfold leaveX at ho'
    rw [hlend] at ho'
    split at ho'
    · rename_i lo hlo
      rw [T.pick_bind] at ho'
      obtain ⟨vs, hvs, ho'⟩ := ho'
      rw [T.pick_ofOption] at ho'
      rw [hR'.df]
      refine marks_leave s1.df hR' hlo fun w2 hR2 => ?_
      obtain ⟨us, hus, hd2⟩ := resL_run hR2 hvs
      -- the lent one is where it was
      have hθ0 : lend = true → θ1 0 = θ 0 := fun hl => by
        have h3 := hR2.tt.2.2 0 (by
          have := hR2.tt.1
          rw [← this]
          show 0 < (optW 0 ls).length
          rw [← hlend] at hl
          obtain ⟨o, rfl⟩ := Option.isSome_iff_exists.1 hl
          simp [optW])
        exact h3
      have hown0 : ∀ {l : Option Ob}, lentOut lend lo (maskL lend (newName ho lend vs) lo) = some l → lend = true → ∃ t cs, lo[0]? = some (some (.cells t cs)) := fun hl he => by
        unfold lentOut at hl
        rw [if_pos he] at hl
        split at hl
        · exact ⟨_, _, by assumption⟩
        · cases hl
      have hlent0 : lend = true → ∃ t cs, lo[0]? = some (some (.cells t cs)) := fun he => by
        unfold outX at ho'
        split at ho'
        · cases ho'
        · split at ho'
          · rename_i h4 _ _
            exact hown0 h4 he
          · cases ho'
      -- what may be looked at behind
      have hnb : ∀ n o b, lo[n]? = some (some o) → (lend = true → n ≠ 0) → uses θ1 n o b → w.heap.size ≤ b ∧ b < w2.heap.size := fun n o b hm hne hu => by
        obtain ⟨g1, g2, _⟩ := hR2.lt n o b hm hu
        rcases g2 with g2 | ⟨e1, e2⟩
        · exact ⟨g2, g1⟩
        · obtain ⟨t, cs, h0⟩ := hlent0 e1
          exact absurd (show uses θ1 0 (.cells t cs) b by rw [e2, ← hθ0 e1]; rfl) (hR2.inj n 0 o _ b hm h0 (hne e1) hu)
      obtain ⟨θ', t0, t1, t2, t3, t4⟩ := outX_run (S' := fun b => (S b ∨ (w.heap.size ≤ b ∧ b < w2.heap.size)) ∧ ∀ n o, newName ho lend vs = some n → lo[n]? = some (some o) → ¬ uses θ1 n o b) hR2 ho' hd2
        (fun b hb => ⟨by
          by_cases hlt : b < w.heap.size
          · left
            refine Classical.byContradiction fun hn => hb.2.1 (hup b ⟨hlt, hn, fun ⟨e1, e2⟩ => ?_⟩)
            obtain ⟨t, cs, h0⟩ := hlent0 e1
            exact hb.2.2 0 _ h0 (by show b = (θ1 0).blk; rw [hθ0 e1]; exact e2)
          · exact .inr ⟨by omega, hb.1⟩, fun n o _ hm hu => hb.2.2 n o hm hu⟩)
        (fun n o b hm hne hnn hu => ⟨.inr (hnb n o b hm hne hu), fun n' o' e hm' hu' => hR2.inj n n' o o' b hm hm' (fun e' => hnn (by rw [e, e'])) hu hu'⟩)
        (fun n o b e hm hu hh => hh.2 n o e hm hu)
      have hXS : ∀ b, ((S b ∨ (w.heap.size ≤ b ∧ b < w2.heap.size)) ∧ ∀ n o, newName ho lend vs = some n → lo[n]? = some (some o) → ¬ uses θ1 n o b) → XS w S w2 (fun m => if m = 0 then θ 0 else θ' m) x b := fun b hb => ⟨hb.1, fun o hx hu => by
        obtain ⟨_, _, n, o0, e, hm, _, hiff⟩ := t3 o hx
        exact hb.2 n o0 e hm ((hiff b).1 ((uses_ren (θ := θ') (n := 1) (by simp) o b).1 hu))⟩
      have hL' : ∀ {v : V} {u : Value}, Den (fun b => (S b ∨ (w.heap.size ≤ b ∧ b < w2.heap.size)) ∧ ∀ n o, newName ho lend vs = some n → lo[n]? = some (some o) → ¬ uses θ1 n o b) (fun n => (n = 0 ∧ lend = true) ∨ (n = 1 ∧ x.new.isSome)) θ' w2 v u →
          Den (XS w S w2 (fun m => if m = 0 then θ 0 else θ' m) x) (fun n => (n = 0 ∧ lend = true) ∨ (n = 1 ∧ x.new.isSome)) (fun m => if m = 0 then θ 0 else θ' m) w2 v u := fun hv => hv.mono hXS (fun _ _ => rfl) (fun _ x => x) (fun n hn => by
        rcases hn with ⟨rfl, hl⟩ | ⟨rfl, _⟩
        · simp only [if_true]; rw [t0, hθ0 hl]
        · simp)
      refine ⟨if h : us.length = 1 then us[0] else .tuple us.toArray, ?_, _, fun m => if m = 0 then θ 0 else θ' m, rfl, by simp, hR2.fr.os, hR2.fr.tape, hR2.fr.output, hR2.fr.size, fun b hb hne => hR2.fr.block b hb (fun hh => by
        rcases hh with hh | hh
        · omega
        · exact hne hh), t1, fun o hx => ?_, fun o hx => ?_, hL' t4⟩
      · have hm : (fn.results.mapM (resOne a'.tmps)).run P w2 = .ok us.toArray w2 := by
          rw [Array.mapM_eq_mapM_toList, Sem.run_map, hus, Result.andThen_ok]
        rw [results_eq, Sem.run_bind, hm, Result.andThen_ok]
        simp
      · obtain ⟨t, cs, rfl, hH, _⟩ := t2 o hx
        have hl : lend = true := by rw [← t1, hx]; rfl
        exact ⟨t, cs, rfl, holds_ren hXS (by simp only [if_true]; rw [t0, hθ0 hl]) hH⟩
      · obtain ⟨hH, hny, n, o0, e, hm, hne, hiff⟩ := t3 o hx
        exact ⟨holds_ren hXS (by simp) hH, hny, fun b hu => hnb n o0 b hm hne ((hiff b).1 ((uses_ren (θ := θ') (n := 1) (by simp) o b).1 hu))⟩
    · simp [T.pick] at ho'
  cases ex <;> cases e <;> simp only [Ex.is] at hi <;> simp only at h2
  · exact hdone h2
  · simp [T.pick] at h2
  · simp [T.pick] at h2
  · exact hdone h2

end
end Go.SX

/- Functions that are lent several things: their contracts, out of what their bodies come to. -/
namespace Go.SX
open Go.RowKit
set_option linter.unusedVariables false
set_option linter.unusedSimpArgs false
set_option linter.unusedSectionVars false

def initM (fn : Func) (lo : List (Option Ob)) (args : List V) : St := { tm := args ++ List.replicate (fn.ntmps - args.length) .any, lo := lo, base := lo.length }

/-- What was lent is there still. -/
def livesB : List (Option Ob) → List (Option Ob) → Bool
  | [], _ => true
  | none :: l, l' => livesB l l'.tail
  | some _ :: l, l' => (match l' with
    | some _ :: _ => true
    | _ => false) && livesB l l'.tail

def outLo (lo : List (Option Ob)) : Bool := lo.all fun o => match o with
  | some o => outOb o
  | none => true

def leaveM (P : Program) (fn : Func) (lo0 : List (Option Ob)) (s : St) : T MOut :=
  match dropMarks s.df s.lo with
  | some lo => if livesB lo0 lo && outLo lo then (resL P { s with lo } fn.results.toList).bind fun vs => .leaf ⟨lo, tupOf vs⟩ else .bad
  | none => .bad

/-- What a function comes to that is lent several things; post: what is let go, or put under another name, at the end. -/
def funM (P : Program) (Γ : Gam) (Λ : Lam) (fn : Func) (c : Code) (post : St → St) (lo : List (Option Ob)) (args : List V) : T MOut :=
  (sx P Γ Λ [] c (initM fn lo args)).bind fun x => match x.1 with
    | .normal | .ret => leaveM P fn lo (post x.2)
    | _ => .bad

theorem livesB_get : ∀ {l l' : List (Option Ob)}, livesB l l' = true → ∀ n, Liv l n → Liv l' n
  | [], _, _, n, ⟨o, h⟩ => by simp at h
  | none :: l, l', h, n, ⟨o, ho⟩ => by
    cases n with
    | zero => simp at ho
    | succ n =>
      obtain ⟨o', ho'⟩ := livesB_get (l := l) (l' := l'.tail) h n ⟨o, by simpa using ho⟩
      exact ⟨o', by simpa using ho'⟩
  | some x :: l, l', h, n, ⟨o, ho⟩ => by
    simp only [livesB, Bool.and_eq_true] at h
    obtain ⟨h1, h2⟩ := h
    split at h1
    · rename_i y r
      cases n with
      | zero => exact ⟨y, rfl⟩
      | succ n =>
        obtain ⟨o', ho'⟩ := livesB_get (l := l) (l' := r) h2 n ⟨o, by simpa using ho⟩
        exact ⟨o', by simpa using ho'⟩
    · cases h1

section
variable [GW] {P : Program} {J : Jt P} {Am Mi : Nat → Prop} {w0 w : World} {s : St} {θ : Th} {a : Act} {Γ : Gam}

theorem den_tupOf {S L : Nat → Prop} {vs : List V} {us : List Value} (h : DenL S L θ w vs us) : Den S L θ w (tupOf vs) (if h : us.length = 1 then us[0] else .tuple us.toArray) := by
  cases h with
  | nil => simpa [tupOf] using Den.tup (S := S) _ _ (DenL.nil (S := S) (L := L) (θ := θ) (w := w))
  | cons y u rs us hy hl =>
    cases hl with
    | nil => simpa [tupOf] using hy
    | cons y2 u2 rs us hy2 hl =>
      have := Den.tup _ _ (DenL.cons _ _ _ _ hy (.cons _ _ _ _ hy2 hl))
      simpa [tupOf] using this

theorem specM_of_body {f : Nat} {fn : Func} {c : Code} {sp : List (Option Ob) → List V → T MOut} (hΓ : GOK P Γ) (hf : P.funcs[f]? = some fn) (hb : fn.body = some c) (hent : entersB P f = true)
    (hsp : ∀ lo args x, (∀ y ∈ args, VB y) → (sp lo args).pick = some x → ∃ args' Λ post, WeakG args args' ∧ LamOK P c Λ ∧ (∀ s, Sub P s (post s)) ∧ (funM P Γ Λ fn c post lo args').pick = some x) : SpecM P f sp := by
  refine ⟨hent, fun S w θ lo args0 vals x hSw hgl hSg hlo hinj hd0 hr => (callsIn_wide (n := 0)).1 (callsIn_of_wp_marks hf hb trivial ?_ rfl)⟩
  obtain ⟨args, Λ, post, hwk, hΛ, hpost, he⟩ := hsp lo args0 x (fun x hx => let ⟨_, h⟩ := hd0.mem x hx; h.vb) hr
  have hd := hwk _ _ _ _ _ hd0
  unfold funM at he
  rw [T.pick_bind] at he
  obtain ⟨⟨ex, s1⟩, h1, h2⟩ := he
  have hlen := hd.length
  have hR : Rep (Jt.fix P lo.length θ) (fun b => b < w.heap.size ∧ ¬ S b ∧ ∀ n o, lo[n]? = some (some o) → ¬ uses θ n o b) (fun b => w.heap.size ≤ b ∨ ∃ n o, lo[n]? = some (some o) ∧ uses θ n o b) w (initM fn lo args) θ { tmps := vals.toArray ++ Array.replicate (fn.ntmps - vals.toArray.size) undef, defers := [] } w := by
    have hS : ∀ b, S b → Stab (fun b => b < w.heap.size ∧ ¬ S b ∧ ∀ n o, lo[n]? = some (some o) → ¬ uses θ n o b) (initM fn lo args).lo θ w b := fun b hb => ⟨hSw b hb, fun hh => hh.2.1 hb, fun n o ho hu => ((hlo n o ho).2.2 b hu).2 hb⟩
    have hd' := hd.mono (L' := Liv (initM fn lo args).lo) hS (fun _ _ => rfl) (fun _ h => h) (fun _ _ => rfl) (θ' := θ) (w' := w)
    refine ⟨by simp [initM, hlen], fun i v hv => ?_, fun n o ho => ?_, fun n o b ho hu => ?_, hinj, fun b hb => .inl hb, Fr.refl _ _ ⟨fun x hx hh => ?_, hgl⟩, fun b hb => hb.1, ⟨fun _ => False, ⟨fun _ hf => hf.elim, fun _ hf => hf.elim⟩, trivial, fun _ _ hf => hf.elim⟩, fun n go adm ho => ?_, fun x hx hh => hh.2.1 (hSg x hx), ⟨rfl, fun l hl => (by cases hl)⟩, ⟨rfl, Nat.le_refl _, fun n hn => rfl⟩, rfl, fun d hd => by simp [initM] at hd⟩
    · simp only [initM] at hv
      rw [List.getElem?_append] at hv
      split at hv
      · rename_i hi
        obtain ⟨u, hu, hdu⟩ := hd'.get i v hv
        refine ⟨u, ?_, hdu⟩
        rw [Array.getElem?_append]
        have : i < vals.toArray.size := by simp; omega
        rw [if_pos this]
        simpa using hu
      · rename_i hi
        rw [List.getElem?_replicate] at hv
        split at hv
        · rename_i hi2
          cases hv
          refine ⟨undef, ?_, .any _⟩
          rw [Array.getElem?_append]
          have : ¬ i < vals.toArray.size := by simp; omega
          rw [if_neg this, Array.getElem?_replicate, if_pos (by simp; omega)]
        · cases hv
    · exact (hlo n o ho).2.1.monoG hS (fun _ _ => rfl) (fun _ h => h) (fun _ _ => ⟨rfl, rfl⟩) rfl (fun _ _ => rfl)
    · exact ⟨((hlo n o ho).2.2 b hu).1, .inr ⟨n, o, ho, hu⟩, fun hh => hh.2.2 n o ho hu⟩
    · rcases hh with hh | ⟨n, o, ho, hu⟩
      · exact absurd (hgl.lt x hx) (by omega)
      · exact ((hlo n o ho).2.2 _ hu).2 (hSg x hx)
    · have := (hlo n _ ho).1
      simp [inOb] at this
  refine wpIn_mono (sx_wp hΓ hΛ c [] (initM fn lo args) (ex, s1) rfl h1 0 _ _ _ _ _ _ _ hR) ?_
  rintro e a' w' ⟨hi, Am', θ1, hup, hR1⟩
  simp only at hR1
  obtain ⟨θ2, hR'⟩ := hpost s1 _ _ _ _ _ _ _ hR1
  have hdone : (leaveM P fn lo (post s1)).pick = some x → LeavesInM (FW none) 0 P fn a'.tmps (fun e w' => ∃ (v : Value) (θ' : Th), e = .returned v ∧ (∀ n, n < lo.length → θ' n = θ n) ∧ w'.os = w.os ∧ w'.tape = w.tape ∧ w'.output = w.output ∧ w.heap.size ≤ w'.heap.size ∧
      (∀ b, b < w.heap.size → (∀ n o, lo[n]? = some (some o) → ¬ uses θ n o b) → w'.heap[b]? = w.heap[b]?) ∧ (∀ n, Liv lo n → Liv x.lo n) ∧
      (∀ n o, x.lo[n]? = some (some o) → outOb o = true ∧ Holds (XM w S lo θ w' θ' x.lo) (Liv x.lo) θ' w' n o ∧ ∀ b, uses θ' n o b → ((∃ m o', lo[m]? = some (some o') ∧ uses θ m o' b) ∨ w.heap.size ≤ b) ∧ b < w'.heap.size) ∧
      (∀ n m o o' b, x.lo[n]? = some (some o) → x.lo[m]? = some (some o') → n ≠ m → uses θ' n o b → ¬ uses θ' m o' b) ∧ Den (XM w S lo θ w' θ' x.lo) (Liv x.lo) θ' w' x.r v) a'.defers .returning w' := fun ho' => by
    unfold leaveM at ho'
    split at ho'
    · rename_i lo1 hlo1
      split at ho'
      · rename_i hc
        simp only [Bool.and_eq_true] at hc
        obtain ⟨hliv, hout⟩ := hc
        rw [T.pick_bind] at ho'
        obtain ⟨vs, hvs, ho'⟩ := ho'
        cases ho'
        rw [hR'.df]
        refine marks_leave (post s1).df hR' hlo1 fun w2 hR2 => ?_
        obtain ⟨us, hus, hd2⟩ := resL_run hR2 hvs
        have hm : (fn.results.mapM (resOne a'.tmps)).run P w2 = .ok us.toArray w2 := by
          rw [Array.mapM_eq_mapM_toList, Sem.run_map, hus, Result.andThen_ok]
        have hXM : ∀ b, Stab Am' lo1 θ2 w2 b → XM w S lo θ w2 θ2 lo1 b := fun b hb => ⟨by
          by_cases hlt : b < w.heap.size
          · refine Classical.byContradiction fun hn => hb.2.1 (hup b ⟨hlt, fun hs => hn (.inl (.inl hs)), fun n o ho hu => hn (.inr ⟨n, o, ho, hu⟩)⟩)
          · exact .inl (.inr ⟨by omega, hb.1⟩), hb.2.2⟩
        refine ⟨if h : us.length = 1 then us[0] else .tuple us.toArray, ?_, _, θ2, rfl, fun n hn => hR2.tt.2.2 n (by
            have h3 := hR2.tt.1
            have h4 : (Jt.fix P lo.length θ).hN = lo.length := rfl
            rw [← h3, h4]; exact hn), hR2.fr.os, hR2.fr.tape, hR2.fr.output, hR2.fr.size, fun b hb hnu => hR2.fr.block b hb (fun hh => hh.elim (fun h => by omega) fun ⟨n, o, ho, hu⟩ => hnu n o ho hu),
          livesB_get hliv, fun n o ho => ⟨?_, (hR2.lo n o ho).monoG hXM (fun _ _ => rfl) (fun _ h => h) (fun _ _ => ⟨rfl, rfl⟩) rfl (fun _ _ => rfl), fun b hu => ?_⟩, hR2.inj, (den_tupOf hd2).mono hXM (fun _ _ => rfl) (fun _ h => h) (fun _ _ => rfl)⟩
        · rw [results_eq, Sem.run_bind, hm, Result.andThen_ok]
          simp
        · have := List.all_eq_true.1 hout (some o) (List.mem_of_getElem? ho)
          simpa using this
        · obtain ⟨g1, g2, _⟩ := hR2.lt n o b ho hu
          exact ⟨g2.elim .inr .inl, g1⟩
      · simp [T.pick] at ho'
    · simp [T.pick] at ho'
  cases ex <;> cases e <;> simp only [Ex.is] at hi <;> simp only at h2 <;> first | exact hdone h2 | (simp [T.pick] at h2; done) | skip
end
end Go.SX

/- What all texts share. -/
namespace Go.Proofs.YthmlbmambcigcaaGreatDoor
open Go Go.SX Go.Proofs
set_option maxRecDepth 100000
set_option linter.unusedVariables false
set_option linter.unusedSectionVars false
set_option linter.unusedSimpArgs false

abbrev cod (fn : Func) : Code := fn.body.getD .skip
theorem isBody (fn : Func) (h : fn.body.isSome = true) : fn.body = some (cod fn) := by
  unfold cod; cases hb : fn.body with
  | none => simp [hb] at h
  | some c => rfl

abbrev w64 (n : Int) : Int := IntKind.i64.wrap n
def mx2 (a b : Int) : Int := if b > a then b else a
def mn2 (a b : Int) : Int := if b < a then b else a

noncomputable abbrev loopAt (fn : Func) (p : List Nat) : Code := (match codeAt (cod fn) p with
  | some (.loop b) => b
  | _ => .skip)
noncomputable abbrev rfAt (fn : Func) (p : List Nat) : Code × Code := (match codeAt (cod fn) p with
  | some (.rangeFunc _ _ a b) => (a, b)
  | _ => (.skip, .skip))
abbrev gz (g : Nat → Nat → Q) : Nat → Nat → Q := fun j => g ((0 : Int).toNat + j)
abbrev nilE : V := .q (.c .nilIface)
abbrev rows (l : List (List Q)) : Nat → Nat → Q := fun i j => (l.getD i []).getD j default
theorem w64_id {n : Int} (h1 : -9223372036854775808 ≤ n) (h2 : n ≤ 9223372036854775807) : w64 n = n := by
  simp only [w64, IntKind.wrap, IntKind.bits, IntKind.signed]
  simp
  split <;> omega

theorem w64_suc {i n : Nat} (h : i < n) (hn : n ≤ 9223372036854775807) : w64 ((i : Int) + 1) = ((i + 1 : Nat) : Int) := by
  rw [w64_id (by omega) (by omega)]; omega

theorem c_lt {i n : Nat} (h : i < n) : decide ((i : Int) < n) = true := by simp; omega
theorem c_ge {i n : Nat} (h : n ≤ i) : decide ((i : Int) < n) = false := by simp; omega
theorem c_in {i n : Nat} (h : i < n) : decide (0 ≤ (i : Int) ∧ (i : Int) < n) = true := by simp; omega

theorem mn2_eq (a b : Int) : mn2 a b = min a b := by unfold mn2; split <;> omega
theorem mx2_eq (a b : Int) : mx2 a b = max a b := by unfold mx2; split <;> omega

abbrev inI (i n : Nat) : Bool := decide (0 ≤ (i : Int) ∧ (i : Int) < n)
/-- One truth behind the other. -/
def andN : List Bool → Bool
  | [] => true
  | [b] => b
  | b :: l => bif b then andN l else false
theorem gz_id (g : Nat → Nat → Q) : gz g = g := by
  funext i j
  show g ((0 : Int).toNat + i) j = g i j
  rw [show (0 : Int).toNat + i = i by simp]
theorem cond_and (p q : Prop) [Decidable p] [Decidable q] : (bif decide p then decide q else false) = decide (p ∧ q) := by
  by_cases h : p <;> simp [h]
theorem cond_or (p q : Prop) [Decidable p] [Decidable q] : (bif decide p then true else decide q) = decide (p ∨ q) := by
  by_cases h : p <;> simp [h]

end Go.Proofs.YthmlbmambcigcaaGreatDoor

/- The functions of word, one by one: what is made once. -/
namespace Go.Proofs.YthmlbmambcigcaaGreatDoor
open Go Go.SX Go.Proofs
set_option maxRecDepth 100000
variable [EA]
set_option linter.unusedVariables false
set_option linter.unusedSectionVars false
set_option linter.unusedSimpArgs false

/-! ### add -/
abbrev kvB (c : Nat) : Value := .int .u8 (IntKind.u8.wrap (c : Int))
abbrev obW (d st sm : Int) (by_ : V) : Ob := .cells 188 [V.int .u32 d, V.int .i32 st, V.int .u32 sm, by_]
abbrev mapW (es : List (Value × List Q)) : Ob := .map (.one (.int .u8)) false [.int .i64] es
/-- The map behind a text's runes. -/
def addF (b : ByteArray) (n : Int) : Nat → Nat → List (Value × List Q) → List (Value × List Q)
  | 0, _, es => es
  | k + 1, pos, es => if pos < b.size then addF b n k (pos + (Utf8.decode b pos).2) (putE (kvB (Utf8.decode b pos).1) [.c (.int .i64 n)] es) else es
theorem dec_pos (b : ByteArray) (pos : Nat) : 1 ≤ (Utf8.decode b pos).2 := by
  unfold Utf8.decode
  simp only
  repeat' split
  all_goals (simp)
def SAd (d st sm : Int) (b : ByteArray) (n : Int) (pos : Nat) (es : List (Value × List Q)) : St := mkS 20 [(0, .ptr 0 0), (2, V.i n), (9, .ptr 2 0)] [some (obW d st sm (.mp 1)), some (mapW es), some (.siter b pos)] [] false [] 2
def FAd (d st sm : Int) (es : List (Value × List Q)) : Ex × St := (.exit 0, mkS 20 [] [some (obW d st sm (.mp 1)), some (mapW es)] [] false [] 2)
def liveAd : Ex → List Nat | .normal => [0, 2, 9] | _ => []
def poAd : Ex → St → St
  | .normal, s => s
  | _, s => canP 20 2 [] s
theorem poAd_ok (e : Ex) (s : St) : Sub Tryz.prog s (poAd e s) := by
  unfold poAd
  split
  · exact Sub.refl s
  · exact sub_canP _ _ _ _
noncomputable abbrev bodyAd : Code := loopAt Tryz.f109 [0, 1]
noncomputable abbrev treeAd (d st sm : Int) (b : ByteArray) (n : Int) (pos : Nat) (es : List (Value × List Q)) : T (Ex × St × Bool) :=
  (sx Tryz.prog [] [] [0, 0, 1] bodyAd (SAd d st sm b n pos es)).bind (fun x => T.leaf (x.1, deadS [] (canS 20 3 (liveAd x.1) (poAd x.1 x.2)), chkM 20 3 (poAd x.1 x.2)))
theorem stepAd (d st sm : Int) (b : ByteArray) (n : Int) (pos : Nat) (es : List (Value × List Q)) : treeAd d st sm b n pos es =
    .ite (decide (pos < b.size)) (.leaf (.normal, SAd d st sm b n (pos + (Utf8.decode b pos).2) (putE (kvB (Utf8.decode b pos).1) [.c (.int .i64 n)] es), true)) (.leaf ((FAd d st sm es).1, (FAd d st sm es).2, true)) := by kernel_rfl
theorem loopAd (d st sm : Int) (b : ByteArray) (n : Int) (es : List (Value × List Q)) : ∀ x, (T.leaf (FAd d st sm (addF b n (b.size + 1) 0 es))).pick = some x → SemC Tryz.prog (.loop bodyAd) (SAd d st sm b n 0 es) x := by
  -- what is left to do, as it will have been done
  refine loop_treeP (GOK.nil _) (root := cod Tryz.f109) (p := [0, 1]) (by kernel_rfl) (ι := Nat × Nat × List (Value × List Q)) (fun i => b.size < i.1 + i.2.1 ∧ addF b n i.1 i.2.1 i.2.2 = addF b n (b.size + 1) 0 es) (fun i => SAd d st sm b n i.2.1 i.2.2) (fun i => i.1) (.leaf (FAd d st sm (addF b n (b.size + 1) 0 es))) 20 3 liveAd (fun _ => []) poAd poAd_ok (fun i hi => ?_) (b.size + 1, 0, es) ⟨by omega, rfl⟩
  obtain ⟨k, pos, es'⟩ := i
  obtain ⟨h1, h2⟩ := hi
  simp only at h1 h2
  have e := stepAd d st sm b n pos es'
  cases hlt : decide (pos < b.size) with
  | true =>
    have hp : pos < b.size := of_decide_eq_true hlt
    cases k with
    | zero => omega
    | succ k =>
      have hd := dec_pos b pos
      refine ⟨[], .normal, _, LamOK.nil _ _, (congrArg T.pick e).trans (by rw [hlt]; rfl), .inl ⟨rfl, (k, pos + (Utf8.decode b pos).2, _), ⟨by simp only; omega, ?_⟩, by simp, rfl⟩⟩
      simp only
      rw [← h2, addF, if_pos hp]
  | false =>
    have hp : ¬ pos < b.size := of_decide_eq_false hlt
    refine ⟨[], .exit 0, _, LamOK.nil _ _, (congrArg T.pick e).trans (by rw [hlt]; rfl), .inr ⟨by simp, ?_⟩⟩
    have : addF b n (b.size + 1) 0 es = es' := by
      rw [← h2]
      cases k with
      | zero => rfl
      | succ k => rw [addF, if_neg hp]
    rw [this]; rfl
def add.s : List (Option Ob) → List V → T MOut
  | [some (.cells t [.q (.c (.int .u32 d)), .q (.c (.int .i32 st)), .q (.c (.int .u32 sm)), .mp 1]), some (.map (.one (.int .u8)) false [.int .i64] es)], [.ptr 0 0, .q (.c (.string b)), .q (.c (.int .i64 n))] =>
      if t = 188 then .leaf ⟨[some (obW d st sm (.mp 1)), some (mapW (addF b n (b.size + 1) 0 es))], .tup []⟩ else .bad
  | _, _ => .bad
theorem add.eq (d st sm : Int) (b : ByteArray) (n : Int) (es es' : List (Value × List Q)) :
    funM Tryz.prog [] [([0, 1], orc false 20 3 [0, 2, 9] (SAd d st sm b n 0 es) (.leaf (FAd d st sm es')))] Tryz.f109 (cod Tryz.f109) (fun s => s) [some (obW d st sm (.mp 1)), some (mapW es)] [.ptr 0 0, V.s b, V.i n] =
      .ite (@decide (SAd d st sm b n 0 es = SAd d st sm b n 0 es) (Classical.propDecidable _)) (.leaf ⟨[some (obW d st sm (.mp 1)), some (mapW es')], .tup []⟩) .bad := by kernel_rfl
theorem add.ok : SpecM Tryz.prog 109 add.s := by
  refine specM_of_body (GOK.nil _) Tryz.func109 (isBody _ (by kernel_rfl)) (by kernel_rfl) fun lo args x hb he => ?_
  unfold add.s at he
  split at he
  · rename_i t d st sm es b n
    split at he
    · rename_i ht
      subst ht
      refine ⟨_, _, fun s => s, .rfl, LamOK.orc (p := [0, 1]) (mk := false) (nn := 20) (k := 3) (live := [0, 2, 9]) (c := .loop bodyAd) (by kernel_rfl) (loopAd d st sm b n es) (LamOK.nil _ _), fun s => Sub.refl s, (congrArg T.pick (add.eq d st sm b n es _)).trans ?_⟩
      rw [pick_same]; exact he
    · cases he
  · cases he

/-! ### the map that is made once -/
abbrev thinS : ByteArray := ⟨#[105, 106, 108, 46, 44, 39, 33, 124]⟩
abbrev broadS : ByteArray := ⟨#[109, 119, 77, 87]⟩
def esW : List (Value × List Q) := addF broadS 576 5 0 (addF thinS 192 9 0 [(.int .u8 32, [.c (.int .i64 256)])])
abbrev boxW (n : Nat) : Ob := .cells 173 [.ptr n 0]
abbrev ΓOf1 : Gam := [(109, .m add.s)]
theorem ΓOf1.ok : GOK Tryz.prog ΓOf1 := .consM add.ok (GOK.nil _)
/-- What made does: the map. -/
def of1.s : List (Option Ob) → List V → T MOut
  | [some (.cells t0 [.ptr 1 0]), some (.cells t [.q (.c (.int .u32 d)), .q (.c (.int .i32 st)), .q (.c (.int .u32 sm)), by_])], [.ptr 0 0] =>
      if t0 = 173 ∧ t = 188 then .leaf ⟨[some (boxW 1), some (obW d st sm (.mp 2)), some (mapW esW)], .tup []⟩ else .bad
  | _, _ => .bad
theorem of1.eq (d st sm : Int) (by_ : V) :
    funM Tryz.prog ΓOf1 [] Tryz.f108 (cod Tryz.f108) (fun s => s) [some (boxW 1), some (obW d st sm by_)] [.ptr 0 0] = .leaf ⟨[some (boxW 1), some (obW d st sm (.mp 2)), some (mapW esW)], .tup []⟩ := by kernel_rfl
theorem of1.ok : SpecM Tryz.prog 108 of1.s := by
  refine specM_of_body ΓOf1.ok Tryz.func108 (isBody _ (by kernel_rfl)) (by kernel_rfl) fun lo args x hb he => ?_
  unfold of1.s at he
  split at he
  · rename_i t0 t d st sm by_
    split at he
    · rename_i ht
      obtain ⟨rfl, rfl⟩ := ht
      exact ⟨_, [], fun s => s, .rfl, LamOK.nil _ _, fun s => Sub.refl s, (congrArg T.pick (of1.eq d st sm by_)).trans he⟩
    · cases he
  · cases he
end Go.Proofs.YthmlbmambcigcaaGreatDoor

/- The functions of word, one by one: what does something once. -/
namespace Go.Proofs.YthmlbmambcigcaaGreatDoor
open Go Go.SX Go.Proofs Go.RowKit
set_option maxRecDepth 100000
variable [EA]
set_option linter.unusedVariables false
set_option linter.unusedSectionVars false
set_option linter.unusedSimpArgs false

namespace Once
theorem disable (w : World) : (callFunc 120 #[]).run Tryz.prog w = .ok (.value (.tuple #[])) w := run_call_mark0 Tryz.func120 (by kernel_rfl) (by kernel_rfl) (by kernel_rfl) .disable (by kernel_rfl) w
theorem enable (w : World) : (callFunc 122 #[]).run Tryz.prog w = .ok (.value (.tuple #[])) w := run_call_mark0 Tryz.func122 (by kernel_rfl) (by kernel_rfl) (by kernel_rfl) .enable (by kernel_rfl) w
theorem acquire (a : Addr) (w : World) : (callFunc 123 #[.pointer (some a)]).run Tryz.prog w = .ok (.value (.tuple #[])) w := run_call_marked Tryz.func123 (by kernel_rfl) (by kernel_rfl) (by kernel_rfl) .acquire (by kernel_rfl) a w
theorem releaseMerge (a : Addr) (w : World) : (callFunc 125 #[.pointer (some a)]).run Tryz.prog w = .ok (.value (.tuple #[])) w := run_call_marked Tryz.func125 (by kernel_rfl) (by kernel_rfl) (by kernel_rfl) .releaseMerge (by kernel_rfl) a w

/-- Store(true), as a deferred call: the cell holds 1. -/
theorem store_deferred (a : Addr) (x : Value) (u : FrameMode) (w : World) (hc : w.cell? a = some x) (hz : w.frozen? a = false) :
    CallsD Tryz.prog 115 #[.pointer (some a), .bool true] u w fun e u' w' => u' = u ∧ (e = .returned (.tuple #[]) ∧ w' = w.drew.setCell a (.int .u32 1)) := by
  have hc' : w.drew.cell? a = some x := by go_simp
  have hz' : w.drew.frozen? a = false := by go_simp
  have hst := run_call_store (P := Tryz.prog) Tryz.func118 (by kernel_rfl) (by kernel_rfl) (by kernel_rfl) (by kernel_rfl) (k := .u32) (y := 1) hc' hz'
  go_enter_d Tryz.func115, Tryz.ntmps115
  go_wp2
  go_region_calls
  all_goals (go_end0; exact ⟨rfl, rfl⟩)

/-- Unlock, as a deferred call, the lock held and nobody waiting. -/
theorem unlock_deferred (a : Addr) (u : FrameMode) (w : World) (hc : w.cell? a = some (.int .i32 1)) (hz : w.frozen? a = false) :
    CallsD Tryz.prog 114 #[.pointer (some a)] u w fun e u' w' => u' = u ∧ (e = .returned (.tuple #[]) ∧ w' = w.setCell a (.int .i32 0)) := by
  have hd := disable
  have he := enable
  have hr := releaseMerge
  have hadd := run_call_add (P := Tryz.prog) Tryz.func126 (by kernel_rfl) (by kernel_rfl) (by kernel_rfl) .i32 (by kernel_rfl) (y := -1) (s := 0) hc hz (by simp [go_sem]; rfl)
  have hcv := run_convert_to_unsafe (P := Tryz.prog) (src := 226) (dst := 144) Tryz.underlying226 Tryz.underlying144 (by kernel_rfl) hc
  go_enter_d Tryz.func114, Tryz.ntmps114
  go_wp2
  go_end0
  go_wp2
  go_end0
  exact ⟨rfl, rfl⟩

/-- Lock, the lock free. -/
theorem lock_free (a : Addr) (w : World) (hc : w.cell? a = some (.int .i32 0)) (hz : w.frozen? a = false) :
    Calls Tryz.prog 113 #[.pointer (some a)] w fun e w' => e = .returned (.tuple #[]) ∧ w' = w.setCell a (.int .i32 1) := by
  have hd := disable
  have he := enable
  have ha := acquire
  have hcas := run_call_cas_hit (P := Tryz.prog) Tryz.func121 (by kernel_rfl) (by kernel_rfl) (by kernel_rfl) .i32 (by kernel_rfl) (y := 1) hc hz
  have hc' : (w.setCell a (.int .i32 1)).cell? a = some (.int .i32 1) := World.cell?_setCell_same w a _ hc
  have hcv := run_convert_to_unsafe (P := Tryz.prog) (src := 226) (dst := 144) Tryz.underlying226 Tryz.underlying144 (by kernel_rfl) hc'
  go_enter Tryz.func113, Tryz.ntmps113
  go_wp2
  first | go_end0 | (simp only [Exit.inBlock, Exit.then]; refine bodyPost_ret (results_none rfl _ _ _) rfl ?_) | refine bodyPost_ret (results_none rfl _ _ _) rfl ?_
  go_wp2
  go_end0
  exact ⟨rfl, rfl⟩

/-- doSlow, not yet done, the lock free: R says what the function that is called leaves. -/
theorem slow (b : Nat) (pl : Addr) (sm by_ : Value) (T : TypeId) (w : World) (hb : w.heap[b]? = some (.cells #[.int .u32 0, .int .i32 0, sm, by_] T (0, 0))) {R : World → Prop}
    (hcl : Calls Tryz.prog 108 #[.pointer (some pl)] (w.setCell ⟨b, 1, none⟩ (.int .i32 1)) fun e w' => e = .returned (.tuple #[]) ∧ R w') (hR : ∀ w', R w' → ∃ by', w'.heap[b]? = some (.cells #[.int .u32 0, .int .i32 1, sm, by'] T (0, 0))) :
    Calls Tryz.prog 111 #[.pointer (some ⟨b, 0, none⟩), .func (.func 108) #[] #[.pointer (some pl)]] w fun e w' => e = .returned (.tuple #[]) ∧ ∃ w2, R w2 ∧ w' = (w2.drew.setCell ⟨b, 0, none⟩ (.int .u32 1)).setCell ⟨b, 1, none⟩ (.int .i32 0) := by
  have h0 : w.cell? ⟨b, 0, none⟩ = some (.int .u32 0) := by simp [World.cell?, hb]
  have h1 : w.cell? ⟨b, 1, none⟩ = some (.int .i32 0) := by simp [World.cell?, hb]
  have f1 : w.frozen? ⟨b, 1, none⟩ = false := by simp [World.frozen?, hb]
  have hl := run_call_load (P := Tryz.prog) Tryz.func112 (by kernel_rfl) (by kernel_rfl) (by kernel_rfl) .u32 (by kernel_rfl) (w := w.setCell ⟨b, 1, none⟩ (.int .i32 1)) (a := ⟨b, 0, none⟩) (x := 0) ((World.cell?_setCell_other _ ⟨b, 1, none⟩ ⟨b, 0, none⟩ _ (by simp)).trans h0)
  have hnot : ∀ (x : Bool) (w : World), (Op.unary .not (.bool x)).run Tryz.prog w = .ok (.bool (!x)) w := fun _ _ => rfl
  go_enter_defers Tryz.func111, Tryz.ntmps111
  go_wp2_with (first
    | (go_at_call 113; refine (lock_free ⟨b, 1, none⟩ _ (by go_simp) (by go_simp)).mono ?_; rintro e w' ⟨rfl, rfl⟩)
    | (go_at_call 108; refine hcl.mono ?_; rintro e w' ⟨rfl, hr⟩)
    | go_in)
  obtain ⟨by', hb2⟩ := hR _ hr
  have k0 : w'.cell? ⟨b, 0, none⟩ = some (.int .u32 0) := by simp [World.cell?, hb2]
  have k1 : w'.cell? ⟨b, 1, none⟩ = some (.int .i32 1) := by simp [World.cell?, hb2]
  have z0 : w'.frozen? ⟨b, 0, none⟩ = false := by simp [World.frozen?, hb2]
  have z1 : w'.frozen? ⟨b, 1, none⟩ = false := by simp [World.frozen?, hb2]
  go_wp2
  -- two deferred calls, the last laid first
  refine leaves_cons (f := 115) (args := #[.pointer (some ⟨b, 0, none⟩), .bool true]) (by simp) (by simp [go_sem]) ?_
  refine (store_deferred ⟨b, 0, none⟩ (.int .u32 0) .returning _ k0 z0).mono ?_
  rintro e u' w'' ⟨rfl, rfl, rfl⟩
  refine leaves_cons (f := 114) (args := #[.pointer (some ⟨b, 1, none⟩)]) (by simp [settle]) (by simp [go_sem]) ?_
  refine (unlock_deferred ⟨b, 1, none⟩ _ _ ?_ (by simp [z1])).mono ?_
  · rw [World.cell?_setCell_other _ ⟨b, 0, none⟩ ⟨b, 1, none⟩ _ (by simp), World.cell?_drew]
    exact k1
  rintro e u' w'' ⟨rfl, rfl, rfl⟩
  simp [Leaves, settle, results, Tryz.results111]
  exact ⟨_, hr, rfl⟩
end Once
end Go.Proofs.YthmlbmambcigcaaGreatDoor

/- The functions of word, one by one: once.Do. -/
namespace Go.Proofs.YthmlbmambcigcaaGreatDoor
open Go Go.SX Go.Proofs Go.RowKit
set_option maxRecDepth 100000
variable [EA]
set_option linter.unusedVariables false
set_option linter.unusedSectionVars false
set_option linter.unusedSimpArgs false

namespace Once
theorem heap_set {w : World} {b : Nat} {cs : Array Value} {T : TypeId} {fr : Nat × Nat} (h : w.heap[b]? = some (.cells cs T fr)) (i : Nat) (v : Value) :
    (w.setCell ⟨b, i, none⟩ v).heap[b]? = some (.cells (cs.setIfInBounds i v) T fr) := by
  simp [World.setCell, Array.getElem?_modify, h]
theorem heap_set_other (w : World) {b c : Nat} (h : c ≠ b) (i : Nat) (v : Value) : (w.setCell ⟨b, i, none⟩ v).heap[c]? = w.heap[c]? := by
  simp [World.setCell, Array.getElem?_modify, Ne.symm h]

/-- Do, done already. -/
theorem done (a : Addr) (d : Int) (hd : ¬ d = 0) (fv : Value) (w : World) (h0 : w.cell? a = some (.int .u32 d)) :
    Calls Tryz.prog 107 #[.pointer (some a), fv] w fun e w' => e = .returned (.tuple #[]) ∧ w' = w := by
  have hl := run_call_load (P := Tryz.prog) Tryz.func112 (by kernel_rfl) (by kernel_rfl) (by kernel_rfl) .u32 (by kernel_rfl) h0
  have hnot : ∀ (x : Bool) (w : World), (Op.unary .not (.bool x)).run Tryz.prog w = .ok (.bool (!x)) w := fun _ _ => rfl
  have hd' : (d != 0) = true := by simp [hd]
  go_enter Tryz.func107, Tryz.ntmps107
  go_wp2
  go_end0
  exact ⟨rfl, rfl⟩

/-- Do, not yet done, the lock free. -/
theorem first (b : Nat) (pl : Addr) (sm by_ : Value) (T : TypeId) (w : World) (hb : w.heap[b]? = some (.cells #[.int .u32 0, .int .i32 0, sm, by_] T (0, 0))) {R : World → Prop}
    (hcl : Calls Tryz.prog 108 #[.pointer (some pl)] (w.setCell ⟨b, 1, none⟩ (.int .i32 1)) fun e w' => e = .returned (.tuple #[]) ∧ R w') (hR : ∀ w', R w' → ∃ by', w'.heap[b]? = some (.cells #[.int .u32 0, .int .i32 1, sm, by'] T (0, 0))) :
    Calls Tryz.prog 107 #[.pointer (some ⟨b, 0, none⟩), .func (.func 108) #[] #[.pointer (some pl)]] w fun e w' => e = .returned (.tuple #[]) ∧ ∃ w2, R w2 ∧ w' = (w2.drew.setCell ⟨b, 0, none⟩ (.int .u32 1)).setCell ⟨b, 1, none⟩ (.int .i32 0) := by
  have h0 : w.cell? ⟨b, 0, none⟩ = some (.int .u32 0) := by simp [World.cell?, hb]
  have hl := run_call_load (P := Tryz.prog) Tryz.func112 (by kernel_rfl) (by kernel_rfl) (by kernel_rfl) .u32 (by kernel_rfl) h0
  have hnot : ∀ (x : Bool) (w : World), (Op.unary .not (.bool x)).run Tryz.prog w = .ok (.bool (!x)) w := fun _ _ => rfl
  go_enter Tryz.func107, Tryz.ntmps107
  go_wp2_with (first | (go_at_call 111; refine (slow b pl sm by_ T _ hb hcl hR).mono ?_; rintro e w' ⟨rfl, w2, hr, rfl⟩) | go_in)
  go_end0
  exact ⟨rfl, _, hr, rfl⟩
end Once

def do.s : List (Option Ob) → List V → T MOut
  | some (.cells t [.q (.c (.int .u32 d)), .q (.c (.int .i32 st)), .q (.c (.int .u32 sm)), by_]) :: rest, [.ptr 0 0, .clo f [.ptr 1 0]] =>
      if d = 0 then (match rest with
        | [some (.cells t0 [.ptr 0 0])] => if t = 188 ∧ t0 = 173 ∧ f = 108 ∧ st = 0 then .leaf ⟨[some (obW 1 0 sm (.mp 2)), some (boxW 0), some (mapW esW)], .tup []⟩ else .bad
        | _ => .bad) else .leaf ⟨some (.cells t [.q (.c (.int .u32 d)), .q (.c (.int .i32 st)), .q (.c (.int .u32 sm)), by_]) :: rest, .tup []⟩
  | _, _ => .bad

theorem den_int {S L : Nat → Prop} {θ : Th} {w : World} {k : IntKind} {n : Int} {v : Value} (h : Den S L θ w (V.int k n) v) : v = .int k n := by
  cases h with
  | q _ _ h => cases h; rfl

theorem do.ok : SpecM Tryz.prog 107 do.s := by
  refine ⟨by kernel_rfl, fun S w θ lo args vals x hSw hgl hSg hlo hinj hd he => ?_⟩
  unfold do.s at he
  split at he
  · rename_i t d st sm by_ rest f
    obtain ⟨-, ⟨cs, hcs, hdc⟩, hu0⟩ := hlo 0 _ rfl
    have hv : ∃ v3, cs = [.int .u32 d, .int .i32 st, .int .u32 sm, v3] ∧ Den S (Liv (some (.cells t [.q (.c (.int .u32 d)), .q (.c (.int .i32 st)), .q (.c (.int .u32 sm)), by_]) :: rest)) θ w by_ v3 := by
      cases hdc with
      | cons _ u0 _ us h0 hdc => cases hdc with
        | cons _ u1 _ us h1 hdc => cases hdc with
          | cons _ u2 _ us h2 hdc => cases hdc with
            | cons _ u3 _ us h3 hdc => cases hdc with
              | nil => exact ⟨u3, by rw [den_int h0, den_int h1, den_int h2], h3⟩
    obtain ⟨v3, rfl, hv3⟩ := hv
    have hvals : vals = [.pointer (some ⟨(θ 0).blk, 0, none⟩), .func (.func f) #[] #[.pointer (some ⟨(θ 1).blk, 0, none⟩)]] ∧ Liv (some (.cells t [.q (.c (.int .u32 d)), .q (.c (.int .i32 st)), .q (.c (.int .u32 sm)), by_]) :: rest) 1 := by
      cases hd with
      | cons _ u0 _ us h0 hd => cases hd with
        | cons _ u1 _ us h1 hd => cases hd with
          | nil =>
            obtain ⟨rfl, -⟩ := h0.ptr_inv
            cases h1 with
            | clo _ _ vs hc => cases hc with
              | cons _ u2 _ us h2 hc => cases hc with
                | nil =>
                  obtain ⟨rfl, hl⟩ := h2.ptr_inv
                  exact ⟨rfl, hl⟩
    obtain ⟨rfl, -⟩ := hvals
    split at he
    · rename_i hd0
      subst hd0
      split at he
      · rename_i t0
        split at he
        · rename_i hc
          obtain ⟨rfl, rfl, rfl, rfl⟩ := hc
          cases he
          obtain ⟨-, ⟨cs1, hcs1, hdc1⟩, hu1⟩ := hlo 1 _ rfl
          have hv1 : cs1 = [.pointer (some ⟨(θ 0).blk, 0, none⟩)] := by
            cases hdc1 with
            | cons _ u0 _ us h0 hdc1 => cases hdc1 with
              | nil => obtain ⟨rfl, -⟩ := h0.ptr_inv; rfl
          subst hv1
          have hne : (θ 1).blk ≠ (θ 0).blk := fun e => hinj 0 1 _ _ (θ 0).blk rfl rfl (by omega) rfl e.symm
          have hb0 := hu0 _ rfl
          have hb1 := hu1 _ rfl
          -- the closure's contract, its two objects in its own order
          let τ : Th := fun n => if n = 0 then θ 1 else if n = 1 then θ 0 else θ n
          have hw1 : (w.setCell ⟨(θ 0).blk, 1, none⟩ (.int .i32 1)).heap[(θ 0).blk]? = some (.cells #[.int .u32 0, .int .i32 1, .int .u32 sm, v3] 188 (0, 0)) := by
            rw [Once.heap_set hcs]; rfl
          have hwo : ∀ c, c ≠ (θ 0).blk → (w.setCell ⟨(θ 0).blk, 1, none⟩ (.int .i32 1)).heap[c]? = w.heap[c]? := fun c hc => Once.heap_set_other w hc _ _
          have hS0 : ∀ b, S b → b ≠ (θ 0).blk := fun b hb e => hb0.2 (e ▸ hb)
          have hof := of1.ok.2 S (w.setCell ⟨(θ 0).blk, 1, none⟩ (.int .i32 1)) τ [some (boxW 1), some (obW 0 1 sm .any)] [.ptr 0 0] [.pointer (some ⟨(θ 1).blk, 0, none⟩)] ⟨[some (boxW 1), some (obW 0 1 sm (.mp 2)), some (mapW esW)], .tup []⟩
            (fun b hb => by simpa using hSw b hb) (fun y hy => by
              have h1 := hgl y hy
              have h2 := hS0 _ (hSg y hy)
              simp only [World.cell?, hwo _ h2] at h1 ⊢
              exact h1) hSg
            (fun n o ho => by
              match n, ho with
              | 0, ho =>
                cases ho
                refine ⟨rfl, ⟨_, (hwo _ hne).trans hcs1, .cons _ _ _ _ ?_ .nil⟩, fun b hb => ?_⟩
                · exact .ptr (θ := τ) 1 0 ⟨_, rfl⟩
                · have e : b = (θ 1).blk := hb
                  rw [e]; simpa using hb1
              | 1, ho =>
                cases ho
                refine ⟨rfl, ⟨_, hw1, .cons _ _ _ _ (.q _ _ (.c _)) (.cons _ _ _ _ (.q _ _ (.c _)) (.cons _ _ _ _ (.q _ _ (.c _)) (.cons _ _ _ _ (.any _) .nil)))⟩, fun b hb => ?_⟩
                have e : b = (θ 0).blk := hb
                rw [e]; simpa using hb0)
            (fun n m o o' b hn hm hnm hu hu' => by
              match n, hn, m, hm with
              | 0, hn, 1, hm =>
                cases hn; cases hm
                exact hne ((show b = (θ 1).blk from hu).symm.trans (show b = (θ 0).blk from hu'))
              | 1, hn, 0, hm =>
                cases hn; cases hm
                exact hne ((show b = (θ 1).blk from hu').symm.trans (show b = (θ 0).blk from hu))
              | 0, hn, 0, hm => exact hnm rfl
              | 1, hn, 1, hm => exact hnm rfl)
            (.cons _ _ _ _ (.ptr (θ := τ) 0 0 ⟨_, rfl⟩) .nil) rfl
          have hcl := (Once.first (θ 0).blk ⟨(θ 1).blk, 0, none⟩ (.int .u32 sm) v3 188 w hcs (R := fun w' => ∃ (θ' : Th), (∀ n, n < 2 → θ' n = τ n) ∧ w'.os = w.os ∧ w'.tape = w.tape ∧ w'.output = w.output ∧ w.heap.size ≤ w'.heap.size ∧
              (∀ b, b < w.heap.size → b ≠ (θ 0).blk → b ≠ (θ 1).blk → w'.heap[b]? = w.heap[b]?) ∧
              w'.heap[(θ 0).blk]? = some (.cells #[.int .u32 0, .int .i32 1, .int .u32 sm, .map (some (θ' 2).blk)] 188 (0, 0)) ∧
              w'.heap[(θ 1).blk]? = some (.cells #[.pointer (some ⟨(θ 0).blk, 0, none⟩)] 173 (0, 0)) ∧
              (w.heap.size ≤ (θ' 2).blk ∧ (θ' 2).blk < w'.heap.size) ∧ ∃ (arr : List MapEntry) (clk : Nat), w'.heap[(θ' 2).blk]? = some (.map arr.toArray clk) ∧ EntsOK (fun b => (S b ∨ (w.heap.size ≤ b ∧ b < w'.heap.size)) ∧ b ≠ (θ 0).blk ∧ b ≠ (θ 1).blk ∧ b ≠ (θ' 2).blk) w' (.one (.int .u8)) false [.int .i64] esW arr)
              (hof.mono ?_) (fun w' ⟨θ', h⟩ => ⟨_, h.2.2.2.2.2.2.1⟩))
          · refine hcl.mono ?_
            rintro e w' ⟨rfl, w2, ⟨θ', hθ', ho, ht, hou, hsz, hbl, hk0, hk1, hk2, arr, clk, hk3, hk4⟩, rfl⟩
            have k0 : ((w2.drew.setCell ⟨(θ 0).blk, 0, none⟩ (.int .u32 1)).setCell ⟨(θ 0).blk, 1, none⟩ (.int .i32 0)).heap[(θ 0).blk]? = some (.cells #[.int .u32 1, .int .i32 0, .int .u32 sm, .map (some (θ' 2).blk)] 188 (0, 0)) := by
              rw [Once.heap_set (Once.heap_set (w := w2.drew) hk0 0 (.int .u32 1)) 1 (.int .i32 0)]; rfl
            have ko : ∀ c, c ≠ (θ 0).blk → ((w2.drew.setCell ⟨(θ 0).blk, 0, none⟩ (.int .u32 1)).setCell ⟨(θ 0).blk, 1, none⟩ (.int .i32 0)).heap[c]? = w2.heap[c]? := fun c hc =>
              (Once.heap_set_other _ hc _ _).trans (Once.heap_set_other w2.drew hc _ _)
            have hsz2 : ((w2.drew.setCell ⟨(θ 0).blk, 0, none⟩ (.int .u32 1)).setCell ⟨(θ 0).blk, 1, none⟩ (.int .i32 0)).heap.size = w2.heap.size := by simp
            have t2 : (θ' 2).blk ≠ (θ 0).blk ∧ (θ' 2).blk ≠ (θ 1).blk := ⟨fun e => by have := hb0.1; omega, fun e => by have := hb1.1; omega⟩
            refine ⟨.tuple #[], fun n => if n = 2 then θ' 2 else θ n, rfl, fun n hn => ?_, ho, ht, hou, by rw [hsz2]; exact hsz, fun b hb hn => ?_, fun n hn => ?_, fun n o hno => ?_, fun n m o o' b hn hm hnm hu hu' => ?_, .tup [] [] .nil⟩
            · have : n ≠ 2 := by simp at hn; omega
              simp [this]
            · have e0 : b ≠ (θ 0).blk := fun e => hn 0 _ rfl e
              have e1 : b ≠ (θ 1).blk := fun e => hn 1 _ rfl e
              exact (ko b e0).trans (hbl b hb e0 e1)
            · obtain ⟨o, ho⟩ := hn
              match n, ho with
              | 0, _ => exact ⟨_, rfl⟩
              | 1, _ => exact ⟨_, rfl⟩
            · match n, hno with
              | 0, hno =>
                cases hno
                refine ⟨rfl, ⟨_, k0, .cons _ _ _ _ (.q _ _ (.c _)) (.cons _ _ _ _ (.q _ _ (.c _)) (.cons _ _ _ _ (.q _ _ (.c _)) (.cons _ _ _ _ ?_ .nil)))⟩, fun b hu => ?_⟩
                · exact .mp (θ := fun n => if n = 2 then θ' 2 else θ n) 2 ⟨_, rfl⟩
                · have e : b = (θ 0).blk := hu
                  exact ⟨.inl ⟨0, _, rfl, e⟩, by rw [hsz2, e]; have := hb0.1; omega⟩
              | 1, hno =>
                cases hno
                refine ⟨rfl, ⟨_, (ko _ hne).trans hk1, .cons _ _ _ _ ?_ .nil⟩, fun b hu => ?_⟩
                · exact .ptr (θ := fun n => if n = 2 then θ' 2 else θ n) 0 0 ⟨_, rfl⟩
                · have e : b = (θ 1).blk := hu
                  exact ⟨.inl ⟨1, _, rfl, e⟩, by rw [hsz2, e]; have := hb1.1; omega⟩
              | 2, hno =>
                cases hno
                have hX : ∀ b, ((S b ∨ (w.heap.size ≤ b ∧ b < w2.heap.size)) ∧ b ≠ (θ 0).blk ∧ b ≠ (θ 1).blk ∧ b ≠ (θ' 2).blk) → XM w S [some (obW 0 0 sm by_), some (boxW 0)] θ ((w2.drew.setCell ⟨(θ 0).blk, 0, none⟩ (.int .u32 1)).setCell ⟨(θ 0).blk, 1, none⟩ (.int .i32 0)) (fun n => if n = 2 then θ' 2 else θ n) [some (obW 1 0 sm (.mp 2)), some (boxW 0), some (mapW esW)] b := fun b hb => by
                  refine ⟨.inl (by rw [hsz2]; exact hb.1), fun n o hno hu => ?_⟩
                  match n, hno with
                  | 0, hno => cases hno; exact hb.2.1 hu
                  | 1, hno => cases hno; exact hb.2.2.1 hu
                  | 2, hno => cases hno; exact hb.2.2.2 hu
                refine ⟨rfl, ⟨arr, clk, (ko _ t2.1).trans hk3, hk4.mono hX (fun b hb => ko b hb.2.1)⟩, fun b hu => ?_⟩
                have e : b = (θ' 2).blk := hu
                exact ⟨.inr (by rw [e]; exact hk2.1), by rw [hsz2, e]; exact hk2.2⟩
            · match n, hn, m, hm with
              | 0, hn, 0, hm => exact hnm rfl
              | 1, hn, 1, hm => exact hnm rfl
              | 2, hn, 2, hm => exact hnm rfl
              | 0, hn, 1, hm => cases hn; cases hm; exact hne ((show b = (θ 1).blk from hu').symm.trans (show b = (θ 0).blk from hu))
              | 1, hn, 0, hm => cases hn; cases hm; exact hne ((show b = (θ 1).blk from hu).symm.trans (show b = (θ 0).blk from hu'))
              | 0, hn, 2, hm => cases hn; cases hm; exact t2.1 ((show b = (θ' 2).blk from hu').symm.trans (show b = (θ 0).blk from hu))
              | 2, hn, 0, hm => cases hn; cases hm; exact t2.1 ((show b = (θ' 2).blk from hu).symm.trans (show b = (θ 0).blk from hu'))
              | 1, hn, 2, hm => cases hn; cases hm; exact t2.2 ((show b = (θ' 2).blk from hu').symm.trans (show b = (θ 1).blk from hu))
              | 2, hn, 1, hm => cases hn; cases hm; exact t2.2 ((show b = (θ' 2).blk from hu).symm.trans (show b = (θ 1).blk from hu'))
          · rintro e w' ⟨v, θ', rfl, hθ', ho, ht, hou, hsz, hbl, hliv, hx, hxi, hv⟩
            have e0 : θ' 0 = θ 1 := hθ' 0 (by simp)
            have e1 : θ' 1 = θ 0 := hθ' 1 (by simp)
            have hv' : v = .tuple #[] := by
              cases hv with
              | tup _ vs h => cases h; rfl
            refine ⟨by rw [hv'], θ', fun n hn => hθ' n hn, ho, ht, hou, by simpa using hsz, fun b hb h0 h1 => ?_, ?_, ?_, ?_, ?_⟩
            · rw [hbl b (by simpa using hb) (fun n o ho hu => ?_), hwo b h0]
              match n, ho with
              | 0, ho => cases ho; exact h1 hu
              | 1, ho => cases ho; exact h0 hu
            · obtain ⟨-, ⟨us, h1, h2⟩, -⟩ := hx 1 _ rfl
              rw [e1] at h1
              cases h2 with
              | cons _ u0 _ us h20 h2 => cases h2 with
                | cons _ u1 _ us h21 h2 => cases h2 with
                  | cons _ u2 _ us h22 h2 => cases h2 with
                    | cons _ u3 _ us h23 h2 => cases h2 with
                      | nil =>
                        rw [den_int h20, den_int h21, den_int h22] at h1
                        cases h23 with
                        | mp _ hl => exact h1
            · obtain ⟨-, ⟨us, h1, h2⟩, -⟩ := hx 0 _ rfl
              rw [e0] at h1
              cases h2 with
              | cons _ u0 _ us h20 h2 => cases h2 with
                | nil =>
                  obtain ⟨rfl, -⟩ := h20.ptr_inv
                  rw [e1] at h1
                  exact h1
            · obtain ⟨-, -, h3⟩ := hx 2 _ rfl
              obtain ⟨h4, h5⟩ := h3 _ rfl
              refine ⟨?_, h5⟩
              rcases h4 with ⟨m, o', hm, hu⟩ | h4
              · refine absurd rfl (fun _ : (0 : Nat) = 0 => ?_)
                match m, hm with
                | 0, hm =>
                  cases hm
                  exact hxi 0 2 _ _ (θ' 2).blk rfl rfl (by omega) (show (θ' 2).blk = (θ' 0).blk by rw [e0]; exact hu) rfl
                | 1, hm =>
                  cases hm
                  exact hxi 1 2 _ _ (θ' 2).blk rfl rfl (by omega) (show (θ' 2).blk = (θ' 1).blk by rw [e1]; exact hu) rfl
              · simpa using h4
            · obtain ⟨-, ⟨arr, clk, h1, h2⟩, -⟩ := hx 2 _ rfl
              refine ⟨arr, clk, h1, h2.mono (fun b hb => ?_) (fun _ _ => rfl)⟩
              obtain ⟨g1, g2⟩ := hb
              have n0 : b ≠ (θ 1).blk := fun e => g2 0 _ rfl (show b = (θ' 0).blk by rw [e0]; exact e)
              have n1 : b ≠ (θ 0).blk := fun e => g2 1 _ rfl (show b = (θ' 1).blk by rw [e1]; exact e)
              refine ⟨?_, n1, n0, fun e => g2 2 _ rfl e⟩
              rcases g1 with g1 | ⟨n, o, hn, hu⟩
              · simpa using g1
              · refine absurd rfl (fun _ : (0 : Nat) = 0 => ?_)
                match n, hn with
                | 0, hn => cases hn; exact n0 hu
                | 1, hn => cases hn; exact n1 hu
        · cases he
      · cases he
    · rename_i hd0
      cases he
      have h0 : w.cell? ⟨(θ 0).blk, 0, none⟩ = some (.int .u32 d) := by simp [World.cell?, hcs]
      refine (Once.done ⟨(θ 0).blk, 0, none⟩ d hd0 _ w h0).mono ?_
      rintro e w' ⟨rfl, rfl⟩
      exact ⟨_, θ, rfl, fun _ _ => rfl, rfl, rfl, rfl, Nat.le_refl _, fun _ _ _ => rfl, fun _ h => h, fun n o ho => ⟨inOut (hlo n o ho).1, (hlo n o ho).2.1.mono (fun b hb => ⟨.inl (.inl hb), fun m o' hm hu => ((hlo m o' hm).2.2 b hu).2 hb⟩) (fun _ _ => rfl) (fun _ h => h) (fun _ _ => rfl) ⟨_, ho⟩ (fun _ _ => rfl), fun b hu => ⟨.inl ⟨n, o, ho, hu⟩, ((hlo n o ho).2.2 b hu).1⟩⟩, hinj, .tup [] [] .nil⟩
  · cases he
end Go.Proofs.YthmlbmambcigcaaGreatDoor

/- A law's statement, out of the law's contract: what its arguments are. -/
namespace Go.SX
open Go.RowKit Go.ChangeShapes
set_option linter.unusedVariables false
set_option linter.unusedSimpArgs false
set_option linter.unusedSectionVars false

mutual
/-- The kinds of the cells of a type of plain data; none: it is another type. -/
def flatT (P : Program) : Nat → TypeId → Option (List K)
  | 0, _ => none
  | n + 1, t => match P.underlying t with
    | some (.int k) => some [.int k]
    | some .bool => some [.bool]
    | some .string => some [.str]
    | some (.struct fs) => match flatFs P n fs.toList 0 with
      | some ks => if ks.length = P.cellsOf t then some ks else none
      | none => none
    | _ => none
def flatFs (P : Program) : Nat → List Field → Nat → Option (List K)
  | _, [], _ => some []
  | 0, _ :: _, _ => none
  | n + 1, f :: fs, off => if f.offset = off then match flatT P n f.type with
      | some ks => if ks.length = P.cellsOf f.type then match flatFs P n fs (off + ks.length) with
          | some r => some (ks ++ r)
          | none => none
        else none
      | none => none
    else none
end

/-- A value of a kind, as an argument may hold it. -/
inductive KW : K → Value → Prop
  | int (k : IntKind) (n : Int) (h : (Lit.int k n).wf = true) : KW (.int k) (.int k n)
  | bool (b : Bool) : KW .bool (.bool b)
  | str (s : ByteArray) (h : s.size ≤ maxLen) : KW .str (.string s)

inductive FitW : List K → List Value → Prop
  | nil : FitW [] []
  | cons (k : K) (v : Value) (ks : List K) (vs : List Value) (h : KW k v) (hl : FitW ks vs) : FitW (k :: ks) (v :: vs)

theorem FitW.append {ks ks' : List K} {vs vs' : List Value} (h : FitW ks vs) (h' : FitW ks' vs') : FitW (ks ++ ks') (vs ++ vs') := by
  induction h with
  | nil => exact h'
  | cons k v ks vs hk _ ih => exact .cons _ _ _ _ hk ih

theorem FitW.length {ks : List K} {vs : List Value} (h : FitW ks vs) : ks.length = vs.length := by
  induction h with
  | nil => rfl
  | cons _ _ _ _ _ _ ih => simp [ih]

theorem FitW.get {ks : List K} {vs : List Value} (h : FitW ks vs) : ∀ (j : Nat) (k : K), ks[j]? = some k → ∃ v, vs[j]? = some v ∧ KW k v := by
  induction h with
  | nil => intro j k hj; simp at hj
  | cons k v ks vs hk _ ih =>
    intro j k' hj
    cases j with
    | zero => simp at hj; subst hj; exact ⟨v, rfl, hk⟩
    | succ j => exact ih j k' (by simpa using hj)

section
variable {H : Type} {enc : TypeId × Value → H} {P : Program} {w : World} {base : Nat} {sp : Nat → Bool} {held : Bool}

theorem mapM_of_get {α β : Type} {f : α → Option β} : ∀ {l : List α} {xs : List β}, xs.length = l.length → (∀ (i : Nat) (a : α), l[i]? = some a → f a = xs[i]?) → l.mapM f = some xs
  | [], xs, hl, _ => by
    have : xs = [] := List.length_eq_zero_iff.1 (by simpa using hl)
    subst this; rfl
  | a :: l, [], hl, _ => by simp at hl
  | a :: l, x :: xs, hl, h => by
    have h0 := h 0 a rfl
    have ih := mapM_of_get (f := f) (l := l) (xs := xs) (by simpa using hl) fun i b hb => by simpa using h (i + 1) b (by simpa using hb)
    rw [List.mapM_cons, h0, ih]
    rfl

mutual
theorem flat_trod : ∀ (n : Nat) (t : TypeId) (ks : List K) (m : Nat) (cs : List Value) (x : DataW H × List MemPlace), flatT P n t = some ks → DataW.trod enc P w base sp held m t cs = some x →
    FitW ks cs ∧ x.2 = [] ∧ ∀ (w' : World) (base' : Nat) (sp' : Nat → Bool) (held' : Bool), DataW.trod enc P w' base' sp' held' m t cs = some x
  | 0, t, ks, m, cs, x, hf, h => by simp [flatT] at hf
  | n + 1, t, ks, m, cs, x, hf, h => by
    unfold flatT at hf
    split at hf
    · rename_i k hu
      cases hf
      obtain ⟨v, rfl, rfl, hw⟩ := DataW.trod_int hu h
      refine ⟨.cons _ _ _ _ (.int k v hw) .nil, rfl, fun w' base' sp' held' => ?_⟩
      cases m with
      | zero => simp [DataW.trod] at h
      | succ m => exact trod_int_mk m hu hw
    · rename_i hu
      cases hf
      obtain ⟨v, rfl, rfl⟩ := DataW.trod_bool hu h
      refine ⟨.cons _ _ _ _ (.bool v) .nil, rfl, fun w' base' sp' held' => ?_⟩
      cases m with
      | zero => simp [DataW.trod] at h
      | succ m => simp [DataW.trod, hu]
    · rename_i hu
      cases hf
      obtain ⟨v, rfl, rfl, hw⟩ := DataW.trod_string hu h
      refine ⟨.cons _ _ _ _ (.str v hw) .nil, rfl, fun w' base' sp' held' => ?_⟩
      cases m with
      | zero => simp [DataW.trod] at h
      | succ m => simp [DataW.trod, hu, hw]
    · rename_i fs hu
      split at hf
      · rename_i ks' hfs
        split at hf
        · rename_i hlen
          cases hf
          obtain ⟨xs, m', rfl, rfl, hcl, hxl, hx⟩ := DataW.trod_struct hu h
          have hx' : ∀ (i : Nat) (f : Field), fs.toList[i]? = some f → DataW.trod enc P w base sp held m' f.type ((cs.drop f.offset).take (P.cellsOf f.type)) = xs[i]? := fun i f hi => hx i f (by simpa using hi)
          obtain ⟨h1, h2, h3⟩ := flat_fields n fs.toList 0 ks m' cs xs hfs (by simpa using hxl) hx' (by omega)
          refine ⟨by simpa using h1, h2, fun w' base' sp' held' => ?_⟩
          exact trod_struct_mk hu hcl (mapM_of_get (by simpa using hxl) fun i f hi => h3 w' base' sp' held' i f hi)
        · cases hf
      · cases hf
    · cases hf
theorem flat_fields : ∀ (n : Nat) (fs : List Field) (off : Nat) (ks : List K) (m : Nat) (cs : List Value) (xs : List (DataW H × List MemPlace)), flatFs P n fs off = some ks → xs.length = fs.length →
    (∀ (i : Nat) (f : Field), fs[i]? = some f → DataW.trod enc P w base sp held m f.type ((cs.drop f.offset).take (P.cellsOf f.type)) = xs[i]?) → off + ks.length = cs.length →
    FitW ks (cs.drop off) ∧ xs.flatMap (·.2) = [] ∧ ∀ (w' : World) (base' : Nat) (sp' : Nat → Bool) (held' : Bool) (i : Nat) (f : Field), fs[i]? = some f → DataW.trod enc P w' base' sp' held' m f.type ((cs.drop f.offset).take (P.cellsOf f.type)) = xs[i]?
  | n, [], off, ks, m, cs, xs, hf, hxl, hx, hlen => by
    have hks : ks = [] := by cases n <;> simpa [flatFs] using hf.symm
    subst hks
    have : xs = [] := List.length_eq_zero_iff.1 (by simpa using hxl)
    subst this
    have hd : cs.drop off = [] := List.drop_eq_nil_iff.2 (by simp at hlen; omega)
    rw [hd]
    exact ⟨.nil, rfl, fun _ _ _ _ i f hi => by simp at hi⟩
  | 0, f :: fs, off, ks, m, cs, xs, hf, hxl, hx, hlen => by simp [flatFs] at hf
  | n + 1, f :: fs, off, ks, m, cs, xs, hf, hxl, hx, hlen => by
    unfold flatFs at hf
    split at hf
    · rename_i hoff
      split at hf
      · rename_i k1 hk1
        split at hf
        · rename_i hkl
          split at hf
          · rename_i r hr
            cases hf
            cases xs with
            | nil => simp at hxl
            | cons y ys =>
              have h0 := hx 0 f rfl
              simp only [List.getElem?_cons_zero] at h0
              obtain ⟨a1, a2, a3⟩ := flat_trod n f.type k1 m _ y hk1 h0
              obtain ⟨b1, b2, b3⟩ := flat_fields n fs (off + k1.length) r m cs ys hr (by simpa using hxl) (fun i g hi => by simpa using hx (i + 1) g (by simpa using hi)) (by simp only [List.length_append] at hlen; omega)
              rw [hoff] at a1 a3
              refine ⟨?_, by simp [a2, b2], fun w' base' sp' held' i g hi => ?_⟩
              · have := a1.append b1
                rwa [← hkl, ← List.drop_drop, List.take_append_drop] at this
              · cases i with
                | zero =>
                  simp only [List.getElem?_cons_zero, Option.some.injEq] at hi ⊢
                  subst hi
                  rw [hoff]
                  exact a3 w' base' sp' held'
                | succ i => simpa using b3 w' base' sp' held' i g (by simpa using hi)
          · cases hf
        · cases hf
      · cases hf
    · cases hf
end

/-! ### parameters -/
/-- A stable value of a kind, as an argument may hold it. -/
inductive QK : K → Q → Prop
  | val (k : K) (v : Value) (h : KW k v) : QK k (.c v)
  | lst (ks : List K) (n : Nat) (g : Nat → Nat → Q) (hn : n ≤ 9223372036854775807) (h : ∀ i j k, i < n → ks[j]? = some k → ∃ v, g i j = .c v ∧ KW k v) : QK (.lst ks) (.lst ks n g)

theorem KW.ok {k : K} {v : Value} (h : KW k v) : KOk k (.c v) := by
  cases h
  · exact .int _ _
  · exact .bool _
  · exact .str _

/-- A parameter's type: whether a struct; the kinds of its cells. -/
def parT (P : Program) (t : TypeId) : Option (Bool × List K) := match P.underlying t with
  | some (.slice e) => match flatT P 12 e with
    | some ks => if ks.length = P.cellsOf e ∧ 0 < ks.length then some (false, [.lst ks]) else none
    | none => none
  | some (.struct _) => (flatT P 12 t).map fun ks => (true, ks)
  | _ => (flatT P 12 t).map fun ks => (false, ks)

inductive QKs : List K → List V → Prop
  | nil : QKs [] []
  | cons (k : K) (q : Q) (ks : List K) (l : List V) (h : QK k q) (hl : QKs ks l) : QKs (k :: ks) (.q q :: l)

inductive PV : Bool × List K → V → Prop
  | one (k : K) (q : Q) (h : QK k q) : PV (false, [k]) (.q q)
  | agg (ks : List K) (l : List V) (h : QKs ks l) : PV (true, ks) (.agg l)

inductive PVs : List (Bool × List K) → List V → Prop
  | nil : PVs [] []
  | cons (p : Bool × List K) (x : V) (ps : List (Bool × List K)) (xs : List V) (h : PV p x) (hl : PVs ps xs) : PVs (p :: ps) (x :: xs)

theorem fitW_den {S L : Nat → Prop} {θ : Th} {ks : List K} {vs : List Value} (h : FitW ks vs) : QKs ks (vs.map fun v => .q (.c v)) ∧ DenL S L θ w (vs.map fun v => .q (.c v)) vs := by
  induction h with
  | nil => exact ⟨.nil, .nil⟩
  | cons k v ks vs hk _ ih => exact ⟨.cons _ _ _ _ (.val _ _ hk) ih.1, .cons _ _ _ _ (.q _ _ (.c _)) ih.2⟩

/-- What a parameter of plain data, or a list of such, denotes; that it is read behind the call as it was. -/
theorem par_den [GW] {t : TypeId} {p : Bool × List K} {v : Value} {d : DataW H} {ps : List MemPlace} {b0 : Nat} (hp : parT P t = some p) (hok : Value.okWide P w .any b0 t v) (h : DataW.Trod enc P w 0 (fun _ => true) true t v d ps) :
    (∃ x, PV p x ∧ Den (fun b => b < w.heap.size) NoL th0 w x v) ∧ ∀ w', Below w.heap.size w w' → DataW.Trod enc P w' 0 (fun b => decide (b < w.heap.size)) true t v d ps := by
  obtain ⟨m, hm⟩ := h
  unfold parT at hp
  split at hp
  · rename_i e hu
    split at hp
    · rename_i ks hks
      split at hp
      · rename_i hc
        obtain ⟨hcl, hpos⟩ := hc
        cases hp
        simp only [Value.okWide, hu, Cell.okWide, Cell.ok] at hok
        have hv : v = .slice none 0 0 ∨ ∃ a len cap, v = .slice (some a) len cap ∧ w.has P .any b0 a e cap := by
          split at hok
          all_goals first
            | (simp_all; done)
            | (simp_all; exact ⟨_, _, _, ⟨rfl, rfl, rfl⟩, hok.2.2⟩)
        rcases hv with rfl | ⟨a, len, cap, rfl, hhas⟩
        · refine ⟨⟨.q (.lst ks 0 fun _ _ => default), .one _ _ (.lst _ _ _ (Nat.zero_le _) fun i j k hi => absurd hi (Nat.not_lt_zero _)), .q _ _ (.nil _ _ _ rfl)⟩, fun w' hb => ?_⟩
          have hx : (d, ps) = (.nil, []) := by
            rcases DataW.trod_slice hu hm with ⟨_, hx⟩ | ⟨a, len, cap, elems, rest, n, _, hcs, _⟩
            · exact hx
            · simp [Value.cells] at hcs
          cases hx
          exact shut_slice_nil hu
        · obtain ⟨_, hspot, row, cells, hshape, _⟩ := hhas
          obtain ⟨b, off, spot⟩ := a
          simp only at hspot
          subst hspot
          have hblt : b < w.heap.size := by
            rcases Nat.lt_or_ge b w.heap.size with h1 | h1
            · exact h1
            · simp [World.shape?, Array.getElem?_eq_none h1] at hshape
          rcases DataW.trod_slice hu hm with ⟨hcs, _⟩ | ⟨a, len', cap', elems, rest, n, hfu, hcs, hx, _, hle, hcap, hel, he, hr1, hr2⟩
          · simp [Value.cells] at hcs
          · simp only [Value.cells, List.cons.injEq, Value.slice.injEq, Option.some.injEq, and_true] at hcs
            obtain ⟨rfl, rfl, rfl⟩ := hcs
            have key : ∀ i, i < len → ∃ cs, w.cells? 0 ⟨b, off + i * ks.length, none⟩ ks.length = some cs ∧ FitW ks cs ∧ ∃ y, elems[i]? = some y := fun i hi => by
              have h1 := he i hi
              rw [← hcl, addr_add] at h1
              obtain ⟨y, hy⟩ : ∃ y, elems[i]? = some y := ⟨elems[i], List.getElem?_eq_getElem (by omega)⟩
              rw [hy] at h1
              simp only [Option.bind_eq_some_iff] at h1
              obtain ⟨cs, h2, h3⟩ := h1
              exact ⟨cs, h2, (flat_trod 12 e ks n cs y hks h3).1, y, hy⟩
            have hcell : ∀ i j k, i < len → ks[j]? = some k → ∃ u, w.cell? ⟨b, off + i * ks.length + j, none⟩ = some u ∧ KW k u := fun i j k hi hk => by
              obtain ⟨cs, h2, h3, _⟩ := key i hi
              obtain ⟨_, hl, hc⟩ := World.cells?_some h2
              obtain ⟨u, hu1, hu2⟩ := h3.get j k hk
              have hj : j < ks.length := (List.getElem?_eq_some_iff.1 hk).1
              have := hc j hj
              rw [addr_add, hu1] at this
              exact ⟨u, this, hu2⟩
            refine ⟨⟨.q (.lst ks len fun i j => .c ((w.cell? ⟨b, off + i * ks.length + j, none⟩).getD undef)), .one _ _ (.lst _ _ _ ?_ fun i j k hi hk => ?_), .q _ _ (.lst _ _ _ b off cap (fun i j => (w.cell? ⟨b, off + i * ks.length + j, none⟩).getD undef) hblt ⟨hle, ?_⟩ (fun i j hi hj => ?_) (fun i j k hi hk => ?_) (fun i j hi hj => .c _))⟩, fun w' hb => ?_⟩
            · have : maxLen = 9223372036854775807 := by rfl
              omega
            · obtain ⟨u, h1, h2⟩ := hcell i j k hi hk
              exact ⟨u, by rw [h1]; rfl, h2⟩
            · have : maxLen = 9223372036854775807 := by rfl
              omega
            · obtain ⟨u, h1, _⟩ := hcell i j _ hi (List.getElem?_eq_getElem hj)
              rw [h1]; rfl
            · obtain ⟨u, h1, h2⟩ := hcell i j k hi hk
              rw [h1]; exact h2.ok
            · have hlt := DataW.trod_lt m t _ _ hm
              have h1 := DataW.trod_carry m t _ _ hm (fun p hp => hb.same (hlt p hp))
              refine ⟨m, ?_⟩
              subst hfu
              have hsp : decide (b < w.heap.size) = true := by simpa using hblt
              unfold DataW.trod at h1 ⊢
              rw [hu] at h1 ⊢
              simp only [Value.cells] at h1 ⊢
              have e1 : ∀ z cs, DataW.trod enc P w' 0 (fun _ => true) true n e cs = some z → DataW.trod enc P w' 0 (fun b => decide (b < w.heap.size)) true n e cs = some z := fun z cs hz => (flat_trod 12 e ks n cs z hks hz).2.2 _ _ _ _
              split at h1
              · rename_i hcnd
                rw [if_pos hcnd]
                simp only [Option.bind_eq_some_iff, Option.map_eq_some_iff, if_true] at h1 ⊢
                obtain ⟨els, g1, rst, g2, g3⟩ := h1
                refine ⟨els, mapM_carry g1 fun x y hx hy hxy => ?_, rst, ?_, g3⟩
                · obtain ⟨cs, k1, k2⟩ := Option.bind_eq_some_iff.1 hxy
                  exact Option.bind_eq_some_iff.2 ⟨cs, k1, e1 _ _ k2⟩
                · rw [if_pos hsp]
                  exact mapM_carry g2 fun x y hx hy hxy => by
                    obtain ⟨cs, k1, k2⟩ := Option.bind_eq_some_iff.1 hxy
                    exact Option.bind_eq_some_iff.2 ⟨cs, k1, e1 _ _ k2⟩
              · cases h1
      · cases hp
    · cases hp
  · rename_i fs hu
    simp only [Option.map_eq_some_iff] at hp
    obtain ⟨ks, hks, rfl⟩ := hp
    obtain ⟨h1, h2, h3⟩ := flat_trod 12 t ks m _ _ hks hm
    simp only [Value.okWide, hu] at hok
    obtain ⟨cs, rfl, _, _⟩ := hok
    obtain ⟨d1, d2⟩ := fitW_den (S := fun b => b < w.heap.size) (L := NoL) (θ := th0) (w := w) h1
    exact ⟨⟨.agg _, .agg _ _ d1, by simpa [Value.cells] using Den.agg _ _ d2⟩, fun w' _ => ⟨m, h3 _ _ _ _⟩⟩
  · rename_i hns hnt
    simp only [Option.map_eq_some_iff] at hp
    obtain ⟨ks, hks, rfl⟩ := hp
    obtain ⟨h1, h2, h3⟩ := flat_trod 12 t ks m _ _ hks hm
    refine ⟨?_, fun w' _ => ⟨m, h3 _ _ _ _⟩⟩
    unfold flatT at hks
    split at hks
    · rename_i k hu
      cases hks
      obtain ⟨n, rfl⟩ : ∃ n, v = .int k n := by
        simp only [Value.okWide, hu, Cell.okWide, Cell.ok] at hok
        split at hok <;> simp_all
      cases h1 with
      | cons _ _ _ _ hk _ => exact ⟨.q (.c (.int k n)), .one _ _ (.val _ _ hk), .q _ _ (.c _)⟩
    · rename_i hu
      cases hks
      obtain ⟨n, rfl⟩ : ∃ n, v = .bool n := by
        simp only [Value.okWide, hu, Cell.okWide, Cell.ok] at hok
        split at hok <;> simp_all
      cases h1 with
      | cons _ _ _ _ hk _ => exact ⟨.q (.c (.bool n)), .one _ _ (.val _ _ hk), .q _ _ (.c _)⟩
    · rename_i hu
      cases hks
      obtain ⟨n, rfl⟩ : ∃ n, v = .string n := by
        simp only [Value.okWide, hu, Cell.okWide, Cell.ok] at hok
        split at hok <;> simp_all
      cases h1 with
      | cons _ _ _ _ hk _ => exact ⟨.q (.c (.string n)), .one _ _ (.val _ _ hk), .q _ _ (.c _)⟩
    · rename_i fs hu
      exact absurd hu (hnt fs)
    · cases hks


def parTs (P : Program) : List TypeId → Option (List (Bool × List K))
  | [] => some []
  | t :: ts => match parT P t, parTs P ts with
    | some p, some r => some (p :: r)
    | _, _ => none

theorem pars_den [GW] : ∀ {ts : List TypeId} {shs : List (Bool × List K)} {vs : List Value} {ds : List (DataW H)} {ps : List MemPlace} {b0 : Nat}, parTs P ts = some shs → (∀ (j : Nat) t v, ts[j]? = some t → vs[j]? = some v → Value.okWide P w .any b0 t v) →
    DataW.TrodAll enc P w 0 (fun _ => true) true ts vs ds ps →
    (∃ xs, PVs shs xs ∧ DenL (fun b => b < w.heap.size) NoL th0 w xs vs) ∧ ds.length = ts.length ∧ ∀ w', Below w.heap.size w w' → DataW.TrodAll enc P w' 0 (fun b => decide (b < w.heap.size)) true ts vs ds ps
  | [], shs, vs, ds, ps, b0, hp, hok, h => by
    obtain ⟨rfl, rfl, rfl⟩ := trodAll_nil h
    cases hp
    exact ⟨⟨[], .nil, .nil⟩, rfl, fun _ _ => trodAll_mk0⟩
  | t :: ts, shs, vs, ds, ps, b0, hp, hok, h => by
    obtain ⟨v, vs', d, ds', p, q, rfl, rfl, rfl, h1, h2⟩ := trodAll_cons h
    simp only [parTs] at hp
    split at hp
    · rename_i sh r hsh hr
      cases hp
      obtain ⟨⟨x, a1, a2⟩, a3⟩ := par_den hsh (hok 0 t v rfl rfl) h1
      obtain ⟨⟨xs, b1, b2⟩, b3, b4⟩ := pars_den hr (fun j t' v' ht hv => hok (j + 1) t' v' (by simpa using ht) (by simpa using hv)) h2
      exact ⟨⟨x :: xs, .cons _ _ _ _ a1 b1, .cons _ _ _ _ a2 b2⟩, by simp [b3], fun w' hb => ⟨p, q, a3 w' hb, b4 w' hb, rfl⟩⟩
    · cases hp

/-- **A law's contract gives what its row asks.** -/
theorem contract_of [GW] {f : Nat} {fn : Func} {sp : List V → T V} {s : ChangeSpec} {shs : List (Bool × List K)} {rt : TypeId} {apart fresh handsOn : Bool} (hs : SpecOK P f sp) (hrt : fn.resultTypes = #[rt]) (hu : P.underlying rt = some .bool) (hvars : s.vars = [])
    (hfn : ∀ (ds : List (DataW H)), ds.length = fn.params.size → s.fn H ds = { results := [.lit (.bool true)], args := ds }) (hpar : parTs P fn.params.toList = some shs) (hlaw : ∀ xs, PVs shs xs → (sp xs).pick = some (V.b true))
    {args : Array Value} {ds gs : List (DataW H)} {before : List MemPlace} {b0 : Nat} (hval : ∀ (j : Nat) t v, fn.params[j]? = some t → args[j]? = some v → Value.okWide P w .any b0 t v)
    (hW : DataW.Whole enc P fn.params.toList s.vars apart w args.toList ds gs before) (hgl : GLw w) :
    Calls P f args w fun e W' => ∃ v, e = .returned v ∧ s.post enc P fn apart fresh handsOn false w args v W' := by
  have hW' := hW
  obtain ⟨p, q, hA, hV, rfl, hfz, hnd⟩ := hW
  rw [hvars] at hV
  obtain ⟨rfl, rfl⟩ : gs = [] ∧ q = [] := by
    cases gs with
    | nil => exact ⟨rfl, hV⟩
    | cons g r => exact absurd hV (by intro h; cases h)
  obtain ⟨⟨xs, hx1, hx2⟩, hlen, hback⟩ := pars_den hpar (fun j t v ht hv => hval j t v (by simpa using ht) (by simpa using hv)) hA
  have hc := hs.2 (fun b => b < w.heap.size) w xs args.toList (V.b true) (fun _ h => h) hgl (fun x hx => hgl.lt x hx) hx2 (hlaw xs hx1)
  simp only [Array.toArray_toList] at hc
  refine hc.mono ?_
  rintro e W' ⟨v, rfl, hb, hd⟩
  have hv : v = .bool true := den_bool hd rfl
  subst hv
  have e1 : s.fn H (ds ++ []) = { results := [.lit (.bool true)], args := ds } := by rw [List.append_nil]; exact hfn ds (by rw [hlen]; simp)
  refine ⟨_, rfl, ds, [], p ++ [], [], p, [], hW', ?_, ?_, ?_, hb.frame _, fun h => by cases h⟩
  · rw [e1, hrt]
    exact trodAll_mk1 (shut_bool hu true)
  · rw [e1]
    exact hback W' hb
  · rw [e1, hvars]; rfl

end
end Go.SX

/- The functions of word, one by one: of, wide, Width. -/
namespace Go.Proofs.YthmlbmambcigcaaGreatDoor
open Go Go.SX Go.Proofs
set_option maxRecDepth 100000
variable [EA]
set_option linter.unusedVariables false
set_option linter.unusedSectionVars false
set_option linter.unusedSimpArgs false

/-! ### of -/
abbrev atW (c : Int) : Option (List Q) := findE (.int .u8 c) esW
abbrev atV (c : Int) : V := outE false [.int .i64] ((atW c).getD [.c (.int .i64 0)])
def atI (c : Int) : Int := qInt (((atW c).getD [.c (.int .i64 0)]).headD default)
abbrev ΓOf : Gam := [(107, .m do.s)]
theorem ΓOf.ok : GOK Tryz.prog ΓOf := .consM do.ok (GOK.nil _)
abbrev freshW (sm : Int) (q : Q) : List (Option Ob) := [some (obW 0 0 sm (.q q))]
abbrev madeW (sm : Int) : List (Option Ob) := [some (obW 1 0 sm (.mp 1)), some (mapW esW)]
theorem of.eq0 (sm c : Int) (q : Q) : funM Tryz.prog ΓOf [] Tryz.f105 (cod Tryz.f105) (fun s => canP 24 2 [4, 5] (mvL [(2, 1)] s)) (freshW sm q) [.ptr 0 0, V.int .u8 c] =
    .leaf ⟨madeW sm, .tup [V.i (atI c), V.b (atW c).isSome]⟩ := by kernel_rfl
theorem of.eq1 (sm c : Int) : funM Tryz.prog ΓOf [] Tryz.f105 (cod Tryz.f105) (fun s => canP 24 2 [4, 5] s) (madeW sm) [.ptr 0 0, V.int .u8 c] =
    .leaf ⟨madeW sm, .tup [V.i (atI c), V.b (atW c).isSome]⟩ := by kernel_rfl
/-- What is made of the widths, whether they were fresh or made. -/
noncomputable def onW (lo : List (Option Ob)) (x : MOut) : T MOut := match lo with
  | [some (.cells t [.q (.c (.int .u32 d)), .q (.c (.int .i32 st)), .q (.c (.int .u32 sm)), .q q])] => if t = 188 ∧ d = 0 ∧ st = 0 ∧ sm = 0 then .leaf x else .bad
  | [some (.cells t [.q (.c (.int .u32 d)), .q (.c (.int .i32 st)), .q (.c (.int .u32 sm)), .mp 1]), some (.map kk ag vk es)] =>
      if t = 188 ∧ d = 1 ∧ st = 0 ∧ sm = 0 then .ite (@decide (some (Ob.map kk ag vk es) = some (mapW esW)) (Classical.propDecidable _)) (.leaf x) .bad else .bad
  | _ => .bad
theorem onW_pick {lo : List (Option Ob)} {x y : MOut} (h : (onW lo x).pick = some y) : y = x ∧ (lo = madeW 0 ∨ ∃ q, lo = freshW 0 q) := by
  unfold onW at h
  split at h
  · rename_i t d st sm q
    split at h
    · rename_i ht
      obtain ⟨rfl, rfl, rfl, rfl⟩ := ht
      cases h
      exact ⟨rfl, .inr ⟨_, rfl⟩⟩
    · cases h
  · rename_i t d st sm kk ag vk es
    split at h
    · rename_i ht
      obtain ⟨rfl, rfl, rfl, rfl⟩ := ht
      by_cases hm : some (Ob.map kk ag vk es) = some (mapW esW)
      · rw [hm] at h ⊢
        rw [pick_same] at h
        cases h
        exact ⟨rfl, .inl rfl⟩
      · simp [T.pick, hm] at h
    · cases h
  · cases h
noncomputable def of.s (lo : List (Option Ob)) (args : List V) : T MOut := match args with
  | [.ptr 0 0, .q (.c (.int .u8 c))] => onW lo ⟨madeW 0, .tup [V.i (atI c), V.b (atW c).isSome]⟩
  | _ => .bad
theorem of.ok : SpecM Tryz.prog 105 of.s := by
  refine specM_of_body ΓOf.ok Tryz.func105 (isBody _ (by kernel_rfl)) (by kernel_rfl) fun lo args x hb he => ?_
  unfold of.s at he
  split at he
  · rename_i c
    obtain ⟨rfl, rfl | ⟨q, rfl⟩⟩ := onW_pick he
    · exact ⟨_, [], fun s => canP 24 2 [4, 5] s, .rfl, LamOK.nil _ _, fun s => sub_canP _ _ _ _, (congrArg T.pick (of.eq1 0 c))⟩
    · exact ⟨_, [], fun s => canP 24 2 [4, 5] (mvL [(2, 1)] s), .rfl, LamOK.nil _ _, fun s => (sub_mvL _ _).trans (sub_canP _ _ _ _), (congrArg T.pick (of.eq0 0 c q))⟩
  · cases he

/-! ### wide -/
/-- How wide a byte is. -/
def widB (c : Int) : Int := bif (atW c).isSome then atI c else bif decide (192 ≤ c) then 640 else bif (bif decide (128 ≤ c) then true else decide (c < 32)) then 0 else 384
noncomputable abbrev ΓWi : Gam := [(105, .m of.s)]
theorem ΓWi.ok : GOK Tryz.prog ΓWi := .consM of.ok (GOK.nil _)
/-- The tree of what follows. -/
def treeWi (c : Int) : T MOut := .ite (atW c).isSome (.leaf ⟨madeW 0, V.i (atI c)⟩) (.ite (decide (192 ≤ c)) (.leaf ⟨madeW 0, V.i 640⟩)
  (.ite (bif decide (128 ≤ c) then true else decide (c < 32)) (.leaf ⟨madeW 0, V.i 0⟩) (.leaf ⟨madeW 0, V.i 384⟩)))
theorem treeWi_pick (c : Int) : (treeWi c).pick = some ⟨madeW 0, V.i (widB c)⟩ := by
  unfold treeWi widB
  simp only [pick_ite, pick_leaf]
  cases (atW c).isSome
  · cases decide (192 ≤ c)
    · cases (bif decide (128 ≤ c) then true else decide (c < 32)) <;> rfl
    · rfl
  · rfl
theorem wide.eq0 (c : Int) (q : Q) : (funM Tryz.prog ΓWi [] Tryz.f96 (cod Tryz.f96) (fun s => canP 26 2 [4] s) (freshW 0 q) [.ptr 0 0, V.int .u8 c]) = treeWi c := by kernel_rfl
theorem wide.eq1 (c : Int) : (funM Tryz.prog ΓWi [] Tryz.f96 (cod Tryz.f96) (fun s => canP 26 2 [4] s) (madeW 0) [.ptr 0 0, V.int .u8 c]) =
    .ite (@decide (some (mapW esW) = some (mapW esW)) (Classical.propDecidable _)) (treeWi c) .bad := by kernel_rfl
noncomputable def wide.s (lo : List (Option Ob)) (args : List V) : T MOut := match args with
  | [.ptr 0 0, .q (.c (.int .u8 c))] => onW lo ⟨madeW 0, V.i (widB c)⟩
  | _ => .bad
theorem wide.ok : SpecM Tryz.prog 96 wide.s := by
  refine specM_of_body ΓWi.ok Tryz.func96 (isBody _ (by kernel_rfl)) (by kernel_rfl) fun lo args x hb he => ?_
  unfold wide.s at he
  split at he
  · rename_i c
    obtain ⟨rfl, rfl | ⟨q, rfl⟩⟩ := onW_pick he
    · exact ⟨_, [], fun s => canP 26 2 [4] s, .rfl, LamOK.nil _ _, fun s => sub_canP _ _ _ _, (congrArg T.pick (wide.eq1 c)).trans ((pick_same _ _).trans (treeWi_pick c))⟩
    · exact ⟨_, [], fun s => canP 26 2 [4] s, .rfl, LamOK.nil _ _, fun s => sub_canP _ _ _ _, (congrArg T.pick (wide.eq0 c q)).trans (treeWi_pick c)⟩
  · cases he

/-! ### Width -/
noncomputable abbrev ΓWt : Gam := [(96, .m wide.s)]
theorem ΓWt.ok : GOK Tryz.prog ΓWt := .consM wide.ok (GOK.nil _)
end Go.Proofs.YthmlbmambcigcaaGreatDoor

/- Loops, and contracts, in short. -/
namespace Go.Proofs.YthmlbmambcigcaaGreatDoor
open Go Go.SX Go.Proofs
set_option maxRecDepth 100000
set_option linter.unusedVariables false
set_option linter.unusedSectionVars false
set_option linter.unusedSimpArgs false
section
variable [GW] {P : Program} {Γ : Gam} {root : Code}

/-- What a round comes to. -/
abbrev ltree (P : Program) (Γ : Gam) (Λ : Lam) (p : List Nat) (b : Code) (nn k : Nat) (live : Ex → List Nat) (post : Ex → St → St) (s : St) : T (Ex × St × Bool) :=
  (sx P Γ Λ (0 :: p) b s).bind fun x => .leaf (x.1, deadS [] (canS nn k (live x.1) (post x.1 x.2)), chkM nn k (post x.1 x.2))
def poN : Ex → St → St := fun _ s => s
theorem poN_ok (e : Ex) (s : St) : Sub P s (poN e s) := Sub.refl s
/-- What is let go where a loop ends: all from the name k on. -/
def poK (n k : Nat) (live : Ex → List Nat) : Ex → St → St
  | .normal, s => s
  | e, s => canP n k (live e) s
theorem poK_ok (n k : Nat) (live : Ex → List Nat) (e : Ex) (s : St) : Sub P s (poK n k live e s) := by
  unfold poK
  split
  · exact Sub.refl s
  · exact sub_canP _ _ _ _

theorem loop_nat (hΓ : GOK P Γ) {p : List Nat} {b : Code} (hc : codeAt root (0 :: p) = some b) (n : Nat) (ok : Nat → Prop) (S : Nat → St) (R : Out) (nn k : Nat) (live : Ex → List Nat) (post : Ex → St → St) (hpost : ∀ e s, Sub P s (post e s))
    (hb : ∀ i, i ≤ n → ok i → ∃ Λ e s', LamOK P root Λ ∧ (ltree P Γ Λ p b nn k live post (S i)).pick = some (e, s', true) ∧ ((e = .normal ∧ i < n ∧ ok (i + 1) ∧ s' = S (i + 1)) ∨ (e ≠ .normal ∧ R.pick = some (e, s')))) (h0 : ok 0) :
    ∀ x, R.pick = some x → SemC P (.loop b) (S 0) x :=
  loop_treeP hΓ hc (fun i => i ≤ n ∧ ok i) S (fun i => n - i) R nn k live (fun _ => []) post hpost (fun i hi => by
    obtain ⟨Λ, e, s', h1, h2, h3⟩ := hb i hi.1 hi.2
    refine ⟨Λ, e, s', h1, h2, h3.imp (fun h => ⟨h.1, i + 1, ⟨h.2.1, h.2.2.1⟩, ?_, h.2.2.2⟩) id⟩
    have := h.2.1
    omega) 0 ⟨Nat.zero_le _, h0⟩

theorem okF {f : Nat} {fn : Func} {sp : List V → T V} (hΓ : GOK P Γ) (hf : P.funcs[f]? = some fn) (hb : fn.body.isSome = true) (hent : entersB P f = true)
    (h : ∀ args r, (∀ y ∈ args, VB y) → (sp args).pick = some r → ∃ Λ, LamOK P (cod fn) Λ ∧ (funV P Γ Λ fn (cod fn) args).pick = some r) : SpecOK P f sp :=
  specOK_of_bodyW hΓ hf (isBody _ hb) hent fun args r hb he => by
    obtain ⟨Λ, h1, h2⟩ := h args r hb he
    exact ⟨args, Λ, fun _ _ _ x => x, h1, h2⟩
end
/-- The round of a list's loop that goes on. -/
theorem c_nlt {i n : Nat} (h : ¬ i < n) : decide ((i : Int) < n) = false := c_ge (by omega)

theorem c_inI {i n : Nat} (h : i < n) : inI i n = true := c_in h

/-- For all below n. -/
def allN (n : Nat) (p : Nat → Bool) : Bool := (List.range n).all p
theorem allN_false {n : Nat} {p : Nat → Bool} {i : Nat} (hi : i < n) (h : p i = false) : allN n p = false := by
  rw [allN, List.all_eq_false]
  exact ⟨i, List.mem_range.2 hi, by rw [h]; simp⟩
theorem allN_true {n : Nat} {p : Nat → Bool} (h : ∀ i, i < n → p i = true) : allN n p = true := by
  rw [allN, List.all_eq_true]
  exact fun i hi => h i (List.mem_range.1 hi)
theorem allN_at {n : Nat} {p : Nat → Bool} (h : allN n p = true) {i : Nat} (hi : i < n) : p i = true := by
  rw [allN, List.all_eq_true] at h
  exact h i (List.mem_range.2 hi)
theorem all_suc {p : Nat → Bool} {i : Nat} (h : ∀ j, j < i → p j = true) (hi : p i = true) : ∀ j, j < i + 1 → p j = true := fun j hj => by
  rcases Nat.lt_or_ge j i with h1 | h1
  · exact h j h1
  · rw [show j = i by omega]; exact hi

/-! ### words, lines -/
abbrev ksWd : List K := [.str, .int .i64, .int .i64, .int .i64]
structure Wd where
  t : ByteArray
  w : Int
  s : Int
  h : Int
abbrev gWd (g : Nat → Nat → Q) (i : Nat) : Wd := ⟨qStr (g i 0), qInt (g i 1), qInt (g i 2), qInt (g i 3)⟩
abbrev wdV (x : Wd) : V := .agg [V.s x.t, V.i x.w, V.i x.s, V.i x.h]
abbrev lWd (n : Nat) (g : Nat → Nat → Q) : V := .q (.lst ksWd n g)
structure Ln where
  a : Int
  z : Int
  w : Int
abbrev ksLn : List K := [.int .i64, .int .i64, .int .i64]
abbrev gLn (g : Nat → Nat → Q) (i : Nat) : Ln := ⟨qInt (g i 0), qInt (g i 1), qInt (g i 2)⟩
abbrev lLn (n : Nat) (g : Nat → Nat → Q) : V := .q (.lst ksLn n g)
abbrev lnV (x : Ln) : V := .agg [V.i x.a, V.i x.z, V.i x.w]
abbrev lInt (n : Nat) (g : Nat → Nat → Q) : V := .q (.lst [.int .i64] n g)
/-- A text's bytes. -/
abbrev bsG (b : ByteArray) : Nat → Nat → Q := fun i _ => .c (.int .u8 ((b.get! i).toNat : Nat))
def sByte (b : ByteArray) (i : Nat) : Int := ((b.get! i).toNat : Nat)
end Go.Proofs.YthmlbmambcigcaaGreatDoor

/- The functions of word, one by one: Width, Right. -/
namespace Go.Proofs.YthmlbmambcigcaaGreatDoor
open Go Go.SX Go.Proofs
set_option maxRecDepth 100000
variable [EA]
set_option linter.unusedVariables false
set_option linter.unusedSectionVars false
set_option linter.unusedSimpArgs false

/-! ### Width -/
/-- How wide the first i bytes are. -/
def wsum (b : ByteArray) : Nat → Int
  | 0 => 0
  | i + 1 => w64 (wsum b i + widB (sByte b i))
abbrev loWt : Nat → List (Option Ob)
  | 0 => freshW 0 (.c (.map none))
  | _ + 1 => madeW 0
def SWt (b : ByteArray) (lo : List (Option Ob)) (a i : Int) : St := mkS 23 [(3, .ptr 0 0), (4, V.i a), (10, .q (.lst [.int .u8] b.size (bsG b))), (11, V.i b.size), (12, V.i i)] lo [] false [] 0
def FWt (a : Int) : Ex × St := (.exit 0, mkS 23 [(4, V.i a)] [] [] false [] 0)
def liveWt : Ex → List Nat | .normal => [3, 4, 10, 11, 12] | _ => [4]
noncomputable abbrev bodyWt : Code := loopAt Tryz.f73 [0, 1, 0, 1, 1, 1]
noncomputable abbrev treeWt (s : St) : T (Ex × St × Bool) := ltree Tryz.prog ΓWt [] [0, 1, 0, 1, 1, 1] bodyWt 23 2 liveWt (poK 23 0 liveWt) s
theorem stepWt0 (b : ByteArray) (a : Int) : treeWt (SWt b (freshW 0 (.c (.map none))) a (0 : Nat)) =
    .ite (decide (((0 : Nat) : Int) < b.size)) (.ite (inI 0 b.size) (.leaf (.normal, SWt b (madeW 0) (w64 (a + widB (sByte b 0))) (w64 ((0 : Nat) + 1)), true)) .bad) (.leaf ((FWt a).1, (FWt a).2, true)) := by kernel_rfl
theorem stepWt1 (b : ByteArray) (a : Int) (i : Nat) : treeWt (SWt b (madeW 0) a i) =
    .ite (decide ((i : Int) < b.size)) (.ite (inI i b.size) (.ite (@decide (some (mapW esW) = some (mapW esW)) (Classical.propDecidable _)) (.leaf (.normal, SWt b (madeW 0) (w64 (a + widB (sByte b i))) (w64 (i + 1)), true)) .bad) .bad) (.leaf ((FWt a).1, (FWt a).2, true)) := by kernel_rfl
theorem loopWt (b : ByteArray) (hn : b.size ≤ 9223372036854775807) : ∀ x, (T.leaf (FWt (wsum b b.size))).pick = some x → SemC Tryz.prog (.loop bodyWt) (SWt b (loWt 0) (wsum b 0) (0 : Nat)) x := by
  refine loop_nat ΓWt.ok (root := cod Tryz.f73) (p := [0, 1, 0, 1, 1, 1]) (by kernel_rfl) b.size (fun _ => True) (fun i => SWt b (loWt i) (wsum b i) i) (.leaf (FWt (wsum b b.size))) 23 2 liveWt (poK 23 0 liveWt) (poK_ok _ _ _) (fun i hi _ => ?_) trivial
  rcases Nat.lt_or_ge i b.size with hlt | hge
  · refine ⟨[], .normal, _, LamOK.nil _ _, ?_, .inl ⟨rfl, hlt, trivial, rfl⟩⟩
    cases i with
    | zero =>
      refine (congrArg T.pick (stepWt0 b (wsum b 0))).trans ?_
      rw [c_lt hlt, c_inI hlt, w64_suc hlt hn]; rfl
    | succ i =>
      refine (congrArg T.pick (stepWt1 b (wsum b (i + 1)) (i + 1))).trans ?_
      rw [c_lt hlt, c_inI hlt, w64_suc hlt hn]
      simp only [pick_ite, cond_true, pick_same]; rfl
  · have e : i = b.size := by omega
    subst e
    refine ⟨[], .exit 0, _, LamOK.nil _ _, ?_, .inr ⟨by simp, rfl⟩⟩
    cases hi : b.size with
    | zero =>
      have := stepWt0 b (wsum b 0)
      rw [hi] at this
      refine (congrArg T.pick this).trans ?_
      rfl
    | succ i =>
      have := stepWt1 b (wsum b (i + 1)) (i + 1)
      rw [hi] at this
      refine (congrArg T.pick this).trans ?_
      rw [c_ge (Nat.le_refl _)]; rfl
def wWidth.s : List V → T V
  | [.q (.c (.string b))] => .ite (decide (b.size ≤ 9223372036854775807)) (.leaf (V.i (wsum b b.size))) .bad
  | _ => .bad
theorem wWidth.ok : SpecOK Tryz.prog 73 wWidth.s := by
  refine okF ΓWt.ok Tryz.func73 (by kernel_rfl) (by kernel_rfl) fun args r hb hr => ?_
  unfold wWidth.s at hr
  split at hr
  · rename_i b
    by_cases hn : b.size ≤ 9223372036854775807
    · refine ⟨[([0, 1, 0, 1, 1, 1], orc false 23 2 [3, 4, 10, 11, 12] (SWt b (loWt 0) (wsum b 0) (0 : Nat)) (.leaf (FWt (wsum b b.size))))], LamOK.orc (c := .loop bodyWt) (by kernel_rfl) (loopWt b hn) (LamOK.nil _ _), ?_⟩
      have e : funV Tryz.prog ΓWt [([0, 1, 0, 1, 1, 1], orc false 23 2 [3, 4, 10, 11, 12] (SWt b (loWt 0) (wsum b 0) (0 : Nat)) (.leaf (FWt (wsum b b.size))))] Tryz.f73 (cod Tryz.f73) [V.s b] =
          .ite (decide (b.size ≤ 9223372036854775807)) (.ite (@decide (SWt b (loWt 0) (wsum b 0) (0 : Nat) = SWt b (loWt 0) (wsum b 0) (0 : Nat)) (Classical.propDecidable _)) (.leaf (V.i (wsum b b.size))) .bad) .bad := by kernel_rfl
      rw [e, ← hr]
      simp only [pick_ite, hn, decide_true, cond_true]
    · simp [T.pick, hn] at hr
  · cases hr

/-! ### Right -/
abbrev ΓWr : Gam := [(73, wWidth.s)]
theorem ΓWr.ok : GOK Tryz.prog ΓWr := .cons wWidth.ok (GOK.nil _)
def SWr (n : Nat) (g : Nat → Nat → Q) (i : Int) : St := mkS 60 [(0, lWd n g), (6, lWd n g), (7, V.i n), (8, V.i i)] [] [] false [] 0
def liveWr : Ex → List Nat | .normal => [0, 6, 7, 8] | .ret => [2] | _ => [0]
noncomputable abbrev bodyWr : Code := loopAt Tryz.f52 [0, 1, 0, 1]
noncomputable abbrev treeWr (s : St) : T (Ex × St × Bool) := ltree Tryz.prog ΓWr [] [0, 1, 0, 1] bodyWr 60 0 liveWr poN s
abbrev szW (g : Nat → Nat → Q) (i : Nat) : Bool := decide ((gWd g i).t.size ≤ 9223372036854775807)
/-- A word that is none. -/
def badW (x : Wd) : Bool :=
  bif !(bif x.t == x.t then (bif x.w == wsum x.t x.t.size then (bif x.s == x.s then (bif x.h == x.h then true else false) else false) else false) else false) then true else
  bif x.t.toList == (ByteArray.mk #[]).toList then true else
  bif decide ((x.t.size : Int) > 400) then true else
  bif x.s != 0 then (bif x.s != 256 then true else (bif decide (x.h < 0) then true else decide (x.h > 400))) else (bif decide (x.h < 0) then true else decide (x.h > 400))
def RWr (n : Nat) (g : Nat → Nat → Q) : Out := .ite (allN n fun i => !badW (gWd g i)) (.leaf (.exit 0, mkS 60 [(0, lWd n g)] [] [] false [] 0)) (.leaf (.ret, mkS 60 [(2, V.b false)] [] [] false [] 0))
theorem stepWr (n : Nat) (g : Nat → Nat → Q) (i : Nat) : treeWr (SWr n g i) =
    .ite (decide ((i : Int) < n)) (.ite (inI i n) (.ite (szW g i) (.ite (badW (gWd g i)) (.leaf (.ret, mkS 60 [(2, V.b false)] [] [] false [] 0, true)) (.leaf (.normal, SWr n g (w64 (i + 1)), true))) .bad) .bad) (.leaf (.exit 0, mkS 60 [(0, lWd n g)] [] [] false [] 0, true)) := by kernel_rfl
theorem loopWr (n : Nat) (g : Nat → Nat → Q) (hn : n ≤ 9223372036854775807) (hs : allN n (szW g) = true) : ∀ x, (RWr n g).pick = some x → SemC Tryz.prog (.loop bodyWr) (SWr n g (0 : Nat)) x := by
  refine loop_nat ΓWr.ok (root := cod Tryz.f52) (p := [0, 1, 0, 1]) (by kernel_rfl) n (fun i => ∀ j, j < i → (!badW (gWd g j)) = true) (fun i => SWr n g i) (RWr n g) 60 0 liveWr poN poN_ok (fun i hi hall => ?_) (fun j hj => absurd hj (Nat.not_lt_zero _))
  have e := stepWr n g i
  rcases Nat.lt_or_ge i n with hlt | hge
  · rw [c_lt hlt, c_inI hlt, allN_at hs hlt, w64_suc hlt hn] at e
    cases hb : badW (gWd g i) with
    | true => exact ⟨[], .ret, _, LamOK.nil _ _, (congrArg T.pick e).trans (by rw [hb]; rfl), .inr ⟨by simp, by rw [RWr, allN_false (i := i) hlt (by simp [hb])]; rfl⟩⟩
    | false => exact ⟨[], .normal, _, LamOK.nil _ _, (congrArg T.pick e).trans (by rw [hb]; rfl), .inl ⟨rfl, hlt, all_suc (p := fun j => !badW (gWd g j)) hall (by simp [hb]), rfl⟩⟩
  · refine ⟨[], .exit 0, _, LamOK.nil _ _, (congrArg T.pick e).trans (by rw [c_ge hge]; rfl), .inr ⟨by simp, by rw [RWr, allN_true fun j hj => hall j (by omega)]; rfl⟩⟩
def rightW (n : Nat) (g : Nat → Nat → Q) : Bool := bif (allN n fun i => !badW (gWd g i)) then decide ((n : Int) ≤ 500) else false
def wRight.s : List V → T V
  | [.q (.lst [.str, .int .i64, .int .i64, .int .i64] n g)] => .ite (allN n (szW g)) (.leaf (V.b (rightW n g))) .bad
  | _ => .bad
theorem wRight.ok : SpecOK Tryz.prog 52 wRight.s := by
  refine okF ΓWr.ok Tryz.func52 (by kernel_rfl) (by kernel_rfl) fun args r hb hr => ?_
  unfold wRight.s at hr
  split at hr
  · rename_i n g
    have hn : n ≤ 9223372036854775807 := (hb (lWd n g) (by simp)).1
    cases hs : allN n (szW g) with
    | false => rw [hs] at hr; cases hr
    | true =>
      refine ⟨[([0, 1, 0, 1], orc false 60 0 [0, 6, 7, 8] (SWr n g (0 : Nat)) (RWr n g))], LamOK.orc (c := .loop bodyWr) (by kernel_rfl) (loopWr n g hn hs) (LamOK.nil _ _), ?_⟩
      have e : funV Tryz.prog ΓWr [([0, 1, 0, 1], orc false 60 0 [0, 6, 7, 8] (SWr n g (0 : Nat)) (RWr n g))] Tryz.f52 (cod Tryz.f52) [lWd n g] =
          .ite (@decide (SWr n g (0 : Nat) = SWr n g (0 : Nat)) (Classical.propDecidable _)) (.ite (allN n fun i => !badW (gWd g i)) (.leaf (V.b (decide ((n : Int) ≤ 500)))) (.leaf (V.b false))) .bad := by kernel_rfl
      rw [e, pick_same, ← hr, hs]
      unfold rightW
      cases (allN n fun i => !badW (gWd g i)) <;> rfl
  · cases hr
end Go.Proofs.YthmlbmambcigcaaGreatDoor

/- The functions beside line, one by one: how wide a text is; pieces. -/
namespace Go.Proofs.YthmlbmambcigcaaGreatDoor
open Go Go.SX Go.Proofs
set_option maxRecDepth 100000
variable [EA]
set_option linter.unusedVariables false
set_option linter.unusedSectionVars false
set_option linter.unusedSimpArgs false
/-! ### Wide, Width -/
def T.pickI (t : T V) : Option Int := match t.pick with
  | some (.q (.c (.int .i64 n))) => some n
  | _ => none
theorem T.pickI_eq {t : T V} {n : Int} (h : T.pickI t = some n) : t.pick = some (V.i n) := by
  unfold T.pickI at h
  split at h
  · rename_i m he
    cases h; exact he
  · cases h
theorem wideR_all : (List.range 256).all (fun k => decide (T.pickI (funV Tryz.prog [] [] Tryz.f72 (cod Tryz.f72) [V.int .u8 (k : Nat)]) = some (widB (k : Nat)))) = true := by kernel_rfl
abbrev isU8 (c : Int) : Bool := decide (0 ≤ c ∧ c < 256)
def rWide.s : List V → T V
  | [.q (.c (.int .u8 c))] => .ite (isU8 c) (.leaf (V.i (widB c))) .bad
  | _ => .bad
theorem rWide.ok : SpecOK Tryz.prog 72 rWide.s := by
  refine okF (GOK.nil _) Tryz.func72 (by kernel_rfl) (by kernel_rfl) fun args r hb hr => ?_
  unfold rWide.s at hr
  split at hr
  · rename_i c
    by_cases hc : 0 ≤ c ∧ c < 256
    · have h1 := of_decide_eq_true (List.all_eq_true.1 wideR_all c.toNat (List.mem_range.2 (by omega)))
      rw [show ((c.toNat : Nat) : Int) = c by omega] at h1
      refine ⟨[], LamOK.nil _ _, (T.pickI_eq h1).trans ?_⟩
      simpa [T.pick, hc] using hr
    · have : isU8 c = false := decide_eq_false hc
      rw [this] at hr; cases hr
  · cases hr
end Go.Proofs.YthmlbmambcigcaaGreatDoor

/- The functions beside line, one by one: texts, pieces. -/
namespace Go.Proofs.YthmlbmambcigcaaGreatDoor
open Go Go.SX Go.Proofs
set_option maxRecDepth 100000
variable [EA]
set_option linter.unusedVariables false
set_option linter.unusedSectionVars false
set_option linter.unusedSimpArgs false

theorem sByte_u8 (b : ByteArray) (i : Nat) : isU8 (sByte b i) = true := by
  have := (b.get! i).toNat_lt
  simp [sByte]; omega
abbrev ΓRw : Gam := [(72, rWide.s)]
theorem ΓRw.ok : GOK Tryz.prog ΓRw := .cons rWide.ok (GOK.nil _)
def SRw (b : ByteArray) (a i : Int) : St := mkS 18 [(0, V.s b), (3, V.i a), (4, V.i i)] [] [] false [] 0
def FRw (a : Int) : Ex × St := (.exit 0, mkS 18 [(3, V.i a)] [] [] false [] 0)
def liveRw : Ex → List Nat | .normal => [0, 3, 4] | _ => [3]
noncomputable abbrev bodyRw : Code := loopAt Tryz.f51 [0, 1, 0, 1, 1]
noncomputable abbrev treeRw (s : St) : T (Ex × St × Bool) := ltree Tryz.prog ΓRw [] [0, 1, 0, 1, 1] bodyRw 18 0 liveRw poN s
theorem stepRw (b : ByteArray) (a : Int) (i : Nat) : treeRw (SRw b a i) = .ite (decide ((i : Int) < b.size)) (.ite (inI i b.size) (.ite (isU8 (sByte b i)) (.leaf (.normal, SRw b (w64 (a + widB (sByte b i))) (w64 (i + 1)), true)) .bad) .bad) (.leaf ((FRw a).1, (FRw a).2, true)) := by kernel_rfl
theorem loopRw (b : ByteArray) (hn : b.size ≤ 9223372036854775807) : ∀ x, (T.leaf (FRw (wsum b b.size))).pick = some x → SemC Tryz.prog (.loop bodyRw) (SRw b (wsum b 0) (0 : Nat)) x := by
  refine loop_nat ΓRw.ok (root := cod Tryz.f51) (p := [0, 1, 0, 1, 1]) (by kernel_rfl) b.size (fun _ => True) (fun i => SRw b (wsum b i) i) (.leaf (FRw (wsum b b.size))) 18 0 liveRw poN poN_ok (fun i hi _ => ?_) trivial
  have e := stepRw b (wsum b i) i
  rcases Nat.lt_or_ge i b.size with hlt | hge
  · refine ⟨[], .normal, _, LamOK.nil _ _, (congrArg T.pick e).trans ?_, .inl ⟨rfl, hlt, trivial, rfl⟩⟩
    rw [c_lt hlt, c_inI hlt, sByte_u8, w64_suc hlt hn]; rfl
  · have h : i = b.size := by omega
    subst h
    exact ⟨[], .exit 0, _, LamOK.nil _ _, (congrArg T.pick e).trans (by rw [c_ge hge]; rfl), .inr ⟨by simp, rfl⟩⟩
theorem rWidth.ok : SpecOK Tryz.prog 51 wWidth.s := by
  refine okF ΓRw.ok Tryz.func51 (by kernel_rfl) (by kernel_rfl) fun args r hb hr => ?_
  unfold wWidth.s at hr
  split at hr
  · rename_i b
    by_cases hn : b.size ≤ 9223372036854775807
    · refine ⟨[([0, 1, 0, 1, 1], orc false 18 0 [0, 3, 4] (SRw b (wsum b 0) (0 : Nat)) (.leaf (FRw (wsum b b.size))))], LamOK.orc (c := .loop bodyRw) (by kernel_rfl) (loopRw b hn) (LamOK.nil _ _), ?_⟩
      have e : funV Tryz.prog ΓRw [([0, 1, 0, 1, 1], orc false 18 0 [0, 3, 4] (SRw b (wsum b 0) (0 : Nat)) (.leaf (FRw (wsum b b.size))))] Tryz.f51 (cod Tryz.f51) [V.s b] =
          (.ite (@decide (SRw b (wsum b 0) (0 : Nat) = SRw b (wsum b 0) (0 : Nat)) (Classical.propDecidable _)) (.leaf (V.i (wsum b b.size))) .bad) := by kernel_rfl
      rw [e, pick_same, ← hr]
      simp only [pick_ite, hn, decide_true, cond_true]
    · simp [T.pick, hn] at hr
  · cases hr

/-! ### gap, cut -/
def gapB (c : Int) : Bool := bif c == 32 then true else c == 10
def gap.s : List V → T V
  | [.q (.c (.int .u8 c))] => .leaf (V.b (gapB c))
  | _ => .bad
theorem gap.ok : SpecOK Tryz.prog 71 gap.s := by
  refine okF (GOK.nil _) Tryz.func71 (by kernel_rfl) (by kernel_rfl) fun args r hb hr => ?_
  unfold gap.s at hr
  split at hr
  · rename_i c
    exact ⟨[], LamOK.nil _ _, (congrArg T.pick (show funV Tryz.prog [] [] Tryz.f71 (cod Tryz.f71) [V.int .u8 c] = .leaf (V.b (gapB c)) by kernel_rfl)).trans hr⟩
  · cases hr
abbrev ln_cutN (b : ByteArray) : Int := if (410 : Int) < b.size then 410 else b.size
abbrev cutB (b : ByteArray) : ByteArray := b.extract (0 : Int).toNat (ln_cutN b).toNat
def cut.s : List V → T V
  | [.q (.c (.string b))] => .leaf (V.s (cutB b))
  | _ => .bad
theorem cut.ok : SpecOK Tryz.prog 31 cut.s := by
  refine okF (GOK.nil _) Tryz.func31 (by kernel_rfl) (by kernel_rfl) fun args r hb hr => ?_
  unfold cut.s at hr
  split at hr
  · rename_i b
    refine ⟨[], LamOK.nil _ _, (congrArg T.pick (show funV Tryz.prog [] [] Tryz.f31 (cod Tryz.f31) [V.s b] = .ite (decide (0 ≤ (0 : Int) ∧ 0 ≤ ln_cutN b ∧ ln_cutN b ≤ b.size)) (.leaf (V.s (cutB b))) .bad by kernel_rfl)).trans ?_⟩
    have : decide (0 ≤ (0 : Int) ∧ 0 ≤ ln_cutN b ∧ ln_cutN b ≤ b.size) = true := by
      apply decide_eq_true
      unfold ln_cutN
      split <;> omega
    rw [this]; exact hr
  · cases hr

/-! ### piece -/
abbrev ΓPc : Gam := [(71, gap.s)]
theorem ΓPc.ok : GOK Tryz.prog ΓPc := .cons gap.ok (GOK.nil _)
def SPc (b : ByteArray) (i : Int) : St := mkS 43 [(0, V.s b), (3, V.i i)] [] [] false [] 0
def livePc : Ex → List Nat | .normal => [0, 3] | .ret => [2] | _ => [3]
noncomputable abbrev bodyPc : Code := loopAt Tryz.f50 [0, 0, 1, 1]
noncomputable abbrev treePc (s : St) : T (Ex × St × Bool) := ltree Tryz.prog ΓPc [] [0, 0, 1, 1] bodyPc 43 0 livePc poN s
abbrev sB (b : ByteArray) (k : Int) : Int := ((b.get! k.toNat).toNat : Nat)
abbrev inJ (k : Int) (n : Nat) : Bool := decide (0 ≤ k ∧ k < (n : Int))
def treeP (b : ByteArray) (i : Nat) (j k : Int) : T (Ex × St × Bool) :=
  .ite (decide ((i : Int) < b.size)) (.ite (inI i b.size) (.ite (!gapB (sB b i)) (.ite (inJ k b.size) (.ite (sB b k == 45) (.ite (decide (j < b.size)) (.ite (inJ j b.size) (.ite (!gapB (sB b j)) (.ite (inJ j b.size) (.ite (sB b j != 45)
    (.leaf (.ret, mkS 43 [(2, V.i j)] [] [] false [] 0, true)) (.leaf (.normal, SPc b j, true))) .bad) (.leaf (.normal, SPc b j, true))) .bad) (.leaf (.normal, SPc b j, true))) (.leaf (.normal, SPc b j, true))) .bad) (.leaf (.exit 0, mkS 43 [(3, V.i i)] [] [] false [] 0, true))) .bad) (.leaf (.exit 0, mkS 43 [(3, V.i i)] [] [] false [] 0, true))
theorem stepPc (b : ByteArray) (i : Nat) : treePc (SPc b i) = treeP b i (w64 (i + 1)) (w64 (w64 (i + 1) - 1)) := by kernel_rfl
/-- Does a word end behind that byte? -/
def endB (b : ByteArray) (i : Nat) : Bool := sByte b i == 45 && (decide (i + 1 < b.size) && (!gapB (sByte b (i + 1)) && sByte b (i + 1) != 45))
/-- Where the word ends, and whether behind a hyphen. -/
def pcF (b : ByteArray) : Nat → Nat → Bool × Nat
  | 0, i => (false, i)
  | k + 1, i => if i < b.size then (bif gapB (sByte b i) then (false, i) else bif endB b i then (true, i + 1) else pcF b k (i + 1)) else (false, i)
abbrev pc (b : ByteArray) : Bool × Nat := pcF b b.size 0
def RPc (b : ByteArray) : Out := .ite (pc b).1 (.leaf (.ret, mkS 43 [(2, V.i (pc b).2)] [] [] false [] 0)) (.leaf (.exit 0, mkS 43 [(3, V.i (pc b).2)] [] [] false [] 0))
theorem loopPc (b : ByteArray) (hn : b.size ≤ 9223372036854775807) : ∀ x, (RPc b).pick = some x → SemC Tryz.prog (.loop bodyPc) (SPc b (0 : Nat)) x := by
  refine loop_nat ΓPc.ok (root := cod Tryz.f50) (p := [0, 0, 1, 1]) (by kernel_rfl) b.size (fun i => pcF b (b.size - i) i = pc b) (fun i => SPc b i) (RPc b) 43 0 livePc poN poN_ok (fun i hi ho => ?_) rfl
  have e := stepPc b i
  rcases Nat.lt_or_ge i b.size with hlt | hge
  · have hk : w64 (((i + 1 : Nat) : Int) - 1) = i := by rw [show ((i + 1 : Nat) : Int) - 1 = (i : Int) by omega]; exact w64_id (by omega) (by omega)
    rw [w64_suc hlt hn, hk] at e
    unfold treeP at e
    rw [c_lt hlt, c_inI hlt] at e
    have hki : inJ i b.size = true := c_in hlt
    rw [hki] at e
    have hs : b.size - i = (b.size - (i + 1)) + 1 := by omega
    rw [hs, pcF, if_pos hlt] at ho
    have hN : endB b i = false → pcF b (b.size - (i + 1)) (i + 1) = pc b ∨ gapB (sByte b i) = true := fun h => by
      cases hg : gapB (sByte b i) with
      | true => exact .inr rfl
      | false => rw [hg, h] at ho; exact .inl ho
    cases hg : gapB (sB b i) with
    | true =>
      refine ⟨[], .exit 0, _, LamOK.nil _ _, (congrArg T.pick e).trans (by rw [hg]; rfl), .inr ⟨by simp, ?_⟩⟩
      have hg' : gapB (sByte b i) = true := hg
      rw [hg'] at ho
      rw [RPc, ← ho]; rfl
    | false =>
      have hg' : gapB (sByte b i) = false := hg
      have hnorm : endB b i = false → pcF b (b.size - (i + 1)) (i + 1) = pc b := fun h => by
        rcases hN h with h | h
        · exact h
        · rw [hg'] at h; cases h
      cases h1 : sB b i == 45 with
      | false => exact ⟨[], .normal, _, LamOK.nil _ _, (congrArg T.pick e).trans (by rw [hg, h1]; rfl), .inl ⟨rfl, hlt, hnorm (by rw [endB]; show ((sB b i == 45) && _) = false; rw [h1]; rfl), rfl⟩⟩
      | true =>
        have h1' : (sByte b i == 45) = true := h1
        rcases Nat.lt_or_ge (i + 1) b.size with h2 | h2
        · have h2' : decide (((i + 1 : Nat) : Int) < b.size) = true := c_lt h2
          have h2'' : inJ ((i + 1 : Nat) : Int) b.size = true := c_in h2
          have he : endB b i = (!gapB (sB b ((i + 1 : Nat) : Int)) && sB b ((i + 1 : Nat) : Int) != 45) := by
            rw [endB, h1', decide_eq_true h2]; rfl
          cases h3 : gapB (sB b ((i + 1 : Nat) : Int)) with
          | true => exact ⟨[], .normal, _, LamOK.nil _ _, (congrArg T.pick e).trans (by rw [hg, h1, h2', h2'', h3]; rfl), .inl ⟨rfl, hlt, hnorm (by rw [he, h3]; rfl), rfl⟩⟩
          | false =>
            cases h4 : sB b ((i + 1 : Nat) : Int) != 45 with
            | false => exact ⟨[], .normal, _, LamOK.nil _ _, (congrArg T.pick e).trans (by rw [hg, h1, h2', h2'', h3, h4]; rfl), .inl ⟨rfl, hlt, hnorm (by rw [he, h3, h4]; rfl), rfl⟩⟩
            | true =>
              refine ⟨[], .ret, _, LamOK.nil _ _, (congrArg T.pick e).trans (by rw [hg, h1, h2', h2'', h3, h4]; rfl), .inr ⟨by simp, ?_⟩⟩
              rw [hg', he, h3, h4] at ho
              rw [RPc, ← ho]; rfl
        · have h2' : decide (((i + 1 : Nat) : Int) < b.size) = false := c_ge h2
          exact ⟨[], .normal, _, LamOK.nil _ _, (congrArg T.pick e).trans (by rw [hg, h1, h2']; rfl), .inl ⟨rfl, hlt, hnorm (by rw [endB, h1', decide_eq_false (by omega)]; rfl), rfl⟩⟩
  · have h : i = b.size := by omega
    subst h
    refine ⟨[], .exit 0, _, LamOK.nil _ _, (congrArg T.pick e).trans (by unfold treeP; rw [c_ge (Nat.le_refl _)]; rfl), .inr ⟨by simp, ?_⟩⟩
    rw [Nat.sub_self, pcF] at ho
    rw [RPc, ← ho]; rfl
def piece.s : List V → T V
  | [.q (.c (.string b))] => .ite (decide (b.size ≤ 9223372036854775807)) (.leaf (V.i (pc b).2)) .bad
  | _ => .bad
theorem piece.ok : SpecOK Tryz.prog 50 piece.s := by
  refine okF ΓPc.ok Tryz.func50 (by kernel_rfl) (by kernel_rfl) fun args r hb hr => ?_
  unfold piece.s at hr
  split at hr
  · rename_i b
    by_cases hn : b.size ≤ 9223372036854775807
    · refine ⟨[([0, 0, 1, 1], orc false 43 0 [0, 3] (SPc b (0 : Nat)) (RPc b))], LamOK.orc (c := .loop bodyPc) (by kernel_rfl) (loopPc b hn) (LamOK.nil _ _), ?_⟩
      have e : funV Tryz.prog ΓPc [([0, 0, 1, 1], orc false 43 0 [0, 3] (SPc b (0 : Nat)) (RPc b))] Tryz.f50 (cod Tryz.f50) [V.s b] =
          (.ite (@decide (SPc b (0 : Nat) = SPc b (0 : Nat)) (Classical.propDecidable _)) (.ite (pc b).1 (.leaf (V.i (pc b).2)) (.leaf (V.i (pc b).2))) .bad) := by kernel_rfl
      rw [e, pick_same, ← hr]
      simp only [pick_ite, hn, decide_true, cond_true]
      cases (pc b).1 <;> rfl
    · simp [T.pick, hn] at hr
  · cases hr
end Go.Proofs.YthmlbmambcigcaaGreatDoor

/- The functions beside line, one by one: which words are right; the least width, the greatest. -/
namespace Go.Proofs.YthmlbmambcigcaaGreatDoor
open Go Go.SX Go.Proofs
set_option maxRecDepth 100000
variable [EA]
set_option linter.unusedVariables false
set_option linter.unusedSectionVars false
set_option linter.unusedSimpArgs false

/-! ### Right -/
abbrev ΓRr : Gam := [(51, wWidth.s)]
theorem ΓRr.ok : GOK Tryz.prog ΓRr := .cons rWidth.ok (GOK.nil _)
def SRr (n : Nat) (g : Nat → Nat → Q) (i : Int) : St := mkS 55 [(0, lWd n g), (3, V.i i)] [] [] false [] 0
def liveRr : Ex → List Nat | .normal => [0, 3] | .ret => [2] | _ => [0]
noncomputable abbrev bodyRr : Code := loopAt Tryz.f58 [0, 1, 0, 1]
noncomputable abbrev treeRr (s : St) : T (Ex × St × Bool) := ltree Tryz.prog ΓRr [] [0, 1, 0, 1] bodyRr 55 0 liveRr poN s
/-- A word that is none, as the document tells it. -/
def badR (x : Wd) : Bool :=
  bif x.t.toList == (ByteArray.mk #[]).toList then true else
  bif decide ((x.t.size : Int) > 400) then true else
  bif x.w != wsum x.t x.t.size then true else
  bif x.s != 0 then (bif x.s != 256 then true else (bif decide (x.h < 0) then true else decide (x.h > 400))) else (bif decide (x.h < 0) then true else decide (x.h > 400))
theorem bb_self (b : ByteArray) : (b == b) = true := by
  obtain ⟨d⟩ := b
  show (d == d) = true
  simp
theorem badR_eq (x : Wd) : badR x = badW x := by
  unfold badR badW
  have h1 : (x.t == x.t) = true := bb_self _
  have h2 : (x.s == x.s) = true := by simp
  have h3 : (x.h == x.h) = true := by simp
  rw [h1, h2, h3]
  simp only [cond_true, bne]
  generalize (x.t.toList == (ByteArray.mk #[]).toList) = a
  generalize decide ((x.t.size : Int) > 400) = b
  generalize (x.w == wsum x.t x.t.size) = c
  generalize (bif !x.s == 0 then (bif !x.s == 256 then true else (bif decide (x.h < 0) then true else decide (x.h > 400))) else (bif decide (x.h < 0) then true else decide (x.h > 400))) = d
  cases a <;> cases b <;> cases c <;> rfl
abbrev ln_okR (x : Wd) : Bool := bif x.t.toList == (ByteArray.mk #[]).toList then true else bif decide ((x.t.size : Int) > 400) then true else bif decide (x.t.size ≤ 9223372036854775807) then true else false
theorem ln_okR_true (x : Wd) : ln_okR x = true := by
  unfold ln_okR
  cases (x.t.toList == (ByteArray.mk #[]).toList)
  · by_cases h : (x.t.size : Int) > 400
    · rw [decide_eq_true h]; rfl
    · rw [decide_eq_false h, decide_eq_true (p := x.t.size ≤ 9223372036854775807) (by omega)]; rfl
  · rfl
def RRr (n : Nat) (g : Nat → Nat → Q) : Out := .ite (allN n fun i => !badW (gWd g i)) (.leaf (.exit 0, mkS 55 [(0, lWd n g)] [] [] false [] 0)) (.leaf (.ret, mkS 55 [(2, V.b false)] [] [] false [] 0))
theorem stepRr (n : Nat) (g : Nat → Nat → Q) (i : Nat) : treeRr (SRr n g i) =
    .ite (decide ((i : Int) < n)) (.ite (inI i n) (.ite (ln_okR (gWd g i)) (.ite (badR (gWd g i)) (.leaf (.ret, mkS 55 [(2, V.b false)] [] [] false [] 0, true)) (.leaf (.normal, SRr n g (w64 (i + 1)), true))) .bad) .bad) (.leaf (.exit 0, mkS 55 [(0, lWd n g)] [] [] false [] 0, true)) := by kernel_rfl
theorem loopRr (n : Nat) (g : Nat → Nat → Q) (hn : n ≤ 9223372036854775807) : ∀ x, (RRr n g).pick = some x → SemC Tryz.prog (.loop bodyRr) (SRr n g (0 : Nat)) x := by
  refine loop_nat ΓRr.ok (root := cod Tryz.f58) (p := [0, 1, 0, 1]) (by kernel_rfl) n (fun i => ∀ j, j < i → (!badW (gWd g j)) = true) (fun i => SRr n g i) (RRr n g) 55 0 liveRr poN poN_ok (fun i hi hall => ?_) (fun j hj => absurd hj (Nat.not_lt_zero _))
  have e := stepRr n g i
  rcases Nat.lt_or_ge i n with hlt | hge
  · rw [c_lt hlt, c_inI hlt, ln_okR_true, badR_eq, w64_suc hlt hn] at e
    cases hb : badW (gWd g i) with
    | true => exact ⟨[], .ret, _, LamOK.nil _ _, (congrArg T.pick e).trans (by rw [hb]; rfl), .inr ⟨by simp, by rw [RRr, allN_false (i := i) hlt (by simp [hb])]; rfl⟩⟩
    | false => exact ⟨[], .normal, _, LamOK.nil _ _, (congrArg T.pick e).trans (by rw [hb]; rfl), .inl ⟨rfl, hlt, all_suc (p := fun j => !badW (gWd g j)) hall (by simp [hb]), rfl⟩⟩
  · refine ⟨[], .exit 0, _, LamOK.nil _ _, (congrArg T.pick e).trans (by rw [c_ge hge]; rfl), .inr ⟨by simp, by rw [RRr, allN_true fun j hj => hall j (by omega)]; rfl⟩⟩
def rRight.s : List V → T V
  | [.q (.lst [.str, .int .i64, .int .i64, .int .i64] n g)] => .leaf (V.b (rightW n g))
  | _ => .bad
theorem rRight.ok : SpecOK Tryz.prog 58 rRight.s := by
  refine okF ΓRr.ok Tryz.func58 (by kernel_rfl) (by kernel_rfl) fun args r hb hr => ?_
  unfold rRight.s at hr
  split at hr
  · rename_i n g
    have hn : n ≤ 9223372036854775807 := (hb (lWd n g) (by simp)).1
    refine ⟨[([0, 1, 0, 1], orc false 55 0 [0, 3] (SRr n g (0 : Nat)) (RRr n g))], LamOK.orc (c := .loop bodyRr) (by kernel_rfl) (loopRr n g hn) (LamOK.nil _ _), ?_⟩
    have e : funV Tryz.prog ΓRr [([0, 1, 0, 1], orc false 55 0 [0, 3] (SRr n g (0 : Nat)) (RRr n g))] Tryz.f58 (cod Tryz.f58) [lWd n g] =
        .ite (@decide (SRr n g (0 : Nat) = SRr n g (0 : Nat)) (Classical.propDecidable _)) (.ite (allN n fun i => !badW (gWd g i)) (.leaf (V.b (decide ((n : Int) ≤ 500)))) (.leaf (V.b false))) .bad := by kernel_rfl
    rw [e, pick_same, ← hr]
    unfold rightW
    cases (allN n fun i => !badW (gWd g i)) <;> rfl
  · cases hr

/-! ### Least -/
def SLs (n : Nat) (g : Nat → Nat → Q) (a i : Int) : St := mkS 26 [(0, lWd n g), (3, V.i a), (4, V.i i)] [] [] false [] 0
def FLs (a : Int) : Ex × St := (.exit 0, mkS 26 [(3, V.i a)] [] [] false [] 0)
def liveLs : Ex → List Nat | .normal => [0, 3, 4] | _ => [3]
/-- The greatest width of the first i, and a. -/
def maxW (g : Nat → Nat → Q) (a : Int) : Nat → Int
  | 0 => a
  | i + 1 => mx2 (maxW g a i) (gWd g i).w
def leastW (n : Nat) (g : Nat → Nat → Q) : Int := bif (n : Int) == 0 then 0 else maxW g (gWd g 0).w n
def rLeast.s : List V → T V
  | [.q (.lst [.str, .int .i64, .int .i64, .int .i64] n g)] => .leaf (V.i (leastW n g))
  | _ => .bad
/-! ### Most -/
abbrev ΓMo : Gam := [(58, rRight.s)]
theorem ΓMo.ok : GOK Tryz.prog ΓMo := .cons rRight.ok (GOK.nil _)
abbrev pMoI : List Nat := [0, 1, 1, 1, 0, 0, 1, 0, 0, 1, 0, 1, 1, 1]
abbrev pMoO : List Nat := [0, 1, 0, 1, 1, 1]
def SMoI (n : Nat) (g : Nat → Nat → Q) (b i w k : Int) : St := mkS 66 [(0, lWd n g), (3, V.i b), (4, V.i i), (5, V.i w), (6, V.i k)] [] [] false [] 0
def FMoI (n : Nat) (g : Nat → Nat → Q) (b i : Int) : Ex × St := (.exit 2, mkS 66 [(0, lWd n g), (3, V.i b), (4, V.i i)] [] [] false [] 0)
def liveMoI : Ex → List Nat | .normal => [0, 3, 4, 5, 6] | _ => [0, 3, 4]
def SMoO (n : Nat) (g : Nat → Nat → Q) (b i : Int) : St := mkS 66 [(0, lWd n g), (3, V.i b), (4, V.i i)] [] [] false [] 0
/-- The width behind one more word. -/
abbrev addW (w : Int) (x : Wd) : Int := w64 (w64 (w + x.s) + x.w)
/-- The greatest width of what begins with some words, f of them to come. -/
def moI (g : Nat → Nat → Q) : Nat → Int → Int → Nat → Int
  | 0, b, _, _ => b
  | f + 1, b, w, k => bif decide ((gWd g k).h ≤ 0) then moI g f (mx2 b (addW w (gWd g k))) (addW w (gWd g k)) (k + 1) else b
def FMoO (b : Int) : Ex × St := (.exit 0, mkS 66 [(3, V.i b)] [] [] false [] 0)
def liveMoO : Ex → List Nat | .normal => [0, 3, 4] | _ => [3]
noncomputable abbrev orMoI (n : Nat) (g : Nat → Nat → Q) (b i w k b' : Int) : Lam := [(pMoI, orc false 66 0 [0, 3, 4, 5, 6] (SMoI n g b i w k) (.leaf (FMoI n g b' i)))]
/-- The greatest width of what begins with one of the first i words. -/
def moO (n : Nat) (g : Nat → Nat → Q) : Nat → Int
  | 0 => (gWd g 0).w
  | i + 1 => moI g (n - (i + 1)) (mx2 (moO n g i) (gWd g i).w) (gWd g i).w (i + 1)
def mostW (n : Nat) (g : Nat → Nat → Q) : Int := bif (bif (n : Int) == 0 then true else !rightW n g) then 0 else moO n g n
def rMost.s : List V → T V
  | [.q (.lst [.str, .int .i64, .int .i64, .int .i64] n g)] => .leaf (V.i (mostW n g))
  | _ => .bad
end Go.Proofs.YthmlbmambcigcaaGreatDoor

/- Lists that a walk builds, as lists. -/
namespace Go.Proofs.YthmlbmambcigcaaGreatDoor
open Go Go.SX Go.Proofs
set_option maxRecDepth 100000
set_option linter.unusedVariables false
set_option linter.unusedSectionVars false
set_option linter.unusedSimpArgs false
/-! ### lists -/
abbrev wdQ (x : Wd) : List Q := [.c (.string x.t), .c (.int .i64 x.w), .c (.int .i64 x.s), .c (.int .i64 x.h)]
abbrev lnQ (x : Ln) : List Q := [.c (.int .i64 x.a), .c (.int .i64 x.z), .c (.int .i64 x.w)]
abbrev intQ (x : Int) : List Q := [.c (.int .i64 x)]
abbrev gOf {α : Type} (q : α → List Q) (l : List α) : Nat → Nat → Q := rows (l.map q)
abbrev vOf {α : Type} (ks : List K) (q : α → List Q) (l : List α) : V := .q (.lst ks l.length (gOf q l))
abbrev vecOf {α : Type} (t : TypeId) (ks : List K) (q : α → List Q) (l : List α) : Option Ob := some (.vec t ks l.length (gOf q l))
theorem catG_rows {n : Nat} (l : List (List Q)) (x : List Q) (hn : n = l.length) : catG n (rows l) (rows [x]) = rows (l ++ [x]) := by
  subst hn
  funext i j
  unfold catG rows
  by_cases h : i < l.length
  · simp [h, List.getD_eq_getElem?_getD, List.getElem?_append_left h]
  · have h' : l.length ≤ i := by omega
    simp [h, List.getD_eq_getElem?_getD, List.getElem?_append_right h']
theorem catG_of {α : Type} (q : α → List Q) (l : List α) (x : α) : catG l.length (gOf q l) (rows [q x]) = gOf q (l ++ [x]) := by
  unfold gOf
  rw [List.map_append]
  exact catG_rows _ _ (by simp)
theorem gOf_at {α : Type} (q : α → List Q) (l : List α) {i : Nat} (h : i < l.length) : gOf q l i = fun j => (q l[i]).getD j default := by
  funext j
  simp [rows, List.getD_eq_getElem?_getD, h]
theorem gWd_of {l : List Wd} {i : Nat} (h : i < l.length) : gWd (gOf wdQ l) i = l[i] := by
  have e : ∀ j, gOf wdQ l i j = (wdQ l[i]).getD j default := fun j => congrFun (gOf_at wdQ l h) j
  show (⟨qStr (gOf wdQ l i 0), qInt (gOf wdQ l i 1), qInt (gOf wdQ l i 2), qInt (gOf wdQ l i 3)⟩ : Wd) = l[i]
  rw [e, e, e, e]; rfl
theorem gLn_of {l : List Ln} {i : Nat} (h : i < l.length) : gLn (gOf lnQ l) i = l[i] := by
  have e : ∀ j, gOf lnQ l i j = (lnQ l[i]).getD j default := fun j => congrFun (gOf_at lnQ l h) j
  show (⟨qInt (gOf lnQ l i 0), qInt (gOf lnQ l i 1), qInt (gOf lnQ l i 2)⟩ : Ln) = l[i]
  rw [e, e, e]; rfl
/-- Names that are handed on where a round goes on. -/
def poM (l : List (Nat × Nat)) : Ex → St → St
  | .normal, s => mvL l s
  | _, s => s
theorem poM_ok [GW] {P : Program} (l : List (Nat × Nat)) (e : Ex) (s : St) : Sub P s (poM l e s) := by
  unfold poM
  split
  · exact sub_mvL _ _
  · exact Sub.refl s
theorem den_tnil {S L : Nat → Prop} {θ : Th} {w : World} {ks : List K} {g : Nat → Nat → Q} {y : V} {v : Value} (h : Den S L θ w (.tup [.q (.c (.slice none 0 0)), y]) v) : Den S L θ w (.tup [.q (.lst ks 0 g), y]) v := by
  cases h with
  | tup _ vs h => cases h with
    | cons _ u _ us h1 h2 => exact .tup _ _ (.cons _ _ _ _ (.q _ _ (den_nil h1.q_inv)) h2)
section
variable [GW] {P : Program} {Γ : Gam} {root : Code}
/-- A loop that goes through a list, to its end. -/
theorem loopFold (hΓ : GOK P Γ) {p : List Nat} {b : Code} (hc : codeAt root (0 :: p) = some b) {n : Nat} (hn : n ≤ 9223372036854775807) {A : Type} (S : A → Int → St) (f : Nat → A) (e : Ex) (he : e ≠ .normal) (fin : St) (nn k : Nat) (live : Ex → List Nat) (post : Ex → St → St) (hpost : ∀ e s, Sub P s (post e s))
    (h1 : ∀ i, i < n → ∃ Λ, LamOK P root Λ ∧ (ltree P Γ Λ p b nn k live post (S (f i) i)).pick = some (.normal, S (f (i + 1)) (w64 (i + 1)), true))
    (h2 : (ltree P Γ [] p b nn k live post (S (f n) n)).pick = some (e, fin, true)) : ∀ x, (T.leaf (e, fin)).pick = some x → SemC P (.loop b) (S (f 0) (0 : Nat)) x :=
  loop_nat hΓ hc n (fun _ => True) (fun i => S (f i) i) (.leaf (e, fin)) nn k live post hpost (fun i hi _ => by
    rcases Nat.lt_or_ge i n with hlt | hge
    · obtain ⟨Λ, g1, g2⟩ := h1 i hlt
      rw [w64_suc hlt hn] at g2
      exact ⟨Λ, .normal, _, g1, g2, .inl ⟨rfl, hlt, trivial, rfl⟩⟩
    · have h : i = n := by omega
      subst h
      exact ⟨[], e, fin, LamOK.nil _ _, h2, .inr ⟨he, rfl⟩⟩) trivial
/-- A loop that goes through a list as long as all is well. -/
theorem loopAll (hΓ : GOK P Γ) {p : List Nat} {b : Code} (hc : codeAt root (0 :: p) = some b) {n : Nat} (hn : n ≤ 9223372036854775807) (S : Int → St) (q : Nat → Bool) (fin ret : St) (nn k : Nat) (live : Ex → List Nat) (post : Ex → St → St) (hpost : ∀ e s, Sub P s (post e s))
    (h1 : ∀ i, i < n → q i = true → (ltree P Γ [] p b nn k live post (S i)).pick = some (.normal, S (w64 (i + 1)), true))
    (h2 : ∀ i, i < n → q i = false → (ltree P Γ [] p b nn k live post (S i)).pick = some (.ret, ret, true))
    (h3 : (ltree P Γ [] p b nn k live post (S (n : Nat))).pick = some (.exit 0, fin, true)) : ∀ x, (T.ite (allN n q) (.leaf (Ex.exit 0, fin)) (.leaf (.ret, ret))).pick = some x → SemC P (.loop b) (S (0 : Nat)) x :=
  loop_nat hΓ hc n (fun i => ∀ j, j < i → q j = true) (fun i => S i) _ nn k live post hpost (fun i hi hall => by
    rcases Nat.lt_or_ge i n with hlt | hge
    · cases hq : q i with
      | true =>
        have g := h1 i hlt hq
        rw [w64_suc hlt hn] at g
        exact ⟨[], .normal, _, LamOK.nil _ _, g, .inl ⟨rfl, hlt, all_suc hall hq, rfl⟩⟩
      | false => exact ⟨[], .ret, _, LamOK.nil _ _, h2 i hlt hq, .inr ⟨by simp, by rw [allN_false hlt hq]; rfl⟩⟩
    · have h : i = n := by omega
      subst h
      exact ⟨[], .exit 0, _, LamOK.nil _ _, h3, .inr ⟨by simp, by rw [allN_true hall]; rfl⟩⟩) (fun j hj => absurd hj (Nat.not_lt_zero _))
end
end Go.Proofs.YthmlbmambcigcaaGreatDoor

/- The functions beside line, one by one: the first words; a text's words. -/
namespace Go.Proofs.YthmlbmambcigcaaGreatDoor
open Go Go.SX Go.Proofs
set_option maxRecDepth 100000
variable [EA]
set_option linter.unusedVariables false
set_option linter.unusedSectionVars false
set_option linter.unusedSimpArgs false

/-! ### Few -/
abbrev cutX (x : Wd) : Wd := ⟨cutB x.t, mx2 (-10000000) (mn2 x.w 10000000), mx2 (-10000000) (mn2 x.s 10000000), mn2 x.h 500⟩
abbrev ΓFw : Gam := [(31, cut.s)]
theorem ΓFw.ok : GOK Tryz.prog ΓFw := .cons cut.ok (GOK.nil _)
abbrev lFw (g : Nat → Nat → Q) (i : Nat) : List Wd := (List.range i).map fun k => cutX (gWd g k)
def SFw (n : Nat) (g : Nat → Nat → Q) (m : Nat) (h : Nat → Nat → Q) (i : Int) : St := mkS 39 [(0, lWd n g), (3, .own 0), (4, V.i i)] [some (.vec 66 ksWd m h)] [] false [] 0
def FFw (m : Nat) (h : Nat → Nat → Q) : Ex × St := (.exit 0, mkS 39 [(3, .own 0)] [some (.vec 66 ksWd m h)] [] false [] 0)
def liveFw : Ex → List Nat | .normal => [0, 3, 4] | _ => [3]
noncomputable abbrev bodyFw : Code := loopAt Tryz.f12 [0, 1, 0, 1, 1]
noncomputable abbrev treeFw (s : St) : T (Ex × St × Bool) := ltree Tryz.prog ΓFw [] [0, 1, 0, 1, 1] bodyFw 39 1 liveFw (poM [(19, 0)]) s
theorem stepFw (n : Nat) (g : Nat → Nat → Q) (m : Nat) (h : Nat → Nat → Q) (i : Nat) : treeFw (SFw n g m h i) =
    .ite (bif decide ((i : Int) < n) then decide ((i : Int) < 60) else false) (.ite (inI i n) (.ite (roomB m 1 40) (.leaf (.normal, SFw n g (m + 1) (catG m h (rows [wdQ (cutX (gWd g i))])) (w64 (i + 1)), true)) .bad) .bad) (.leaf ((FFw m h).1, (FFw m h).2, true)) := by kernel_rfl
theorem lFw_len (g : Nat → Nat → Q) (i : Nat) : (lFw g i).length = i := by simp [lFw]
theorem lFw_suc (g : Nat → Nat → Q) (i : Nat) : lFw g (i + 1) = lFw g i ++ [cutX (gWd g i)] := by simp [lFw, List.range_succ]
theorem loopFw (n : Nat) (g : Nat → Nat → Q) : ∀ x, (T.leaf (FFw (min n 60) (gOf wdQ (lFw g (min n 60))))).pick = some x → SemC Tryz.prog (.loop bodyFw) (SFw n g 0 (gOf wdQ (lFw g 0)) (0 : Nat)) x := by
  refine loop_nat ΓFw.ok (root := cod Tryz.f12) (p := [0, 1, 0, 1, 1]) (by kernel_rfl) (min n 60) (fun _ => True) (fun i => SFw n g i (gOf wdQ (lFw g i)) i) (.leaf (FFw (min n 60) (gOf wdQ (lFw g (min n 60))))) 39 1 liveFw (poM [(19, 0)]) (poM_ok _) (fun i hi _ => ?_) trivial
  have e := stepFw n g i (gOf wdQ (lFw g i)) i
  rcases Nat.lt_or_ge i (min n 60) with hlt | hge
  · have h1 : i < n := by omega
    have h2 : decide ((i : Int) < 60) = true := decide_eq_true (by omega)
    have h3 : roomB i 1 40 = true := by simp [roomB]; omega
    refine ⟨[], .normal, _, LamOK.nil _ _, (congrArg T.pick e).trans ?_, .inl ⟨rfl, hlt, trivial, rfl⟩⟩
    have h4 := catG_of wdQ (lFw g i) (cutX (gWd g i))
    rw [lFw_len, ← lFw_suc] at h4
    rw [c_lt h1, h2, c_inI h1, h3, w64_suc (show i < 60 by omega) (by omega), h4]; rfl
  · have h : i = min n 60 := by omega
    subst h
    refine ⟨[], .exit 0, _, LamOK.nil _ _, (congrArg T.pick e).trans ?_, .inr ⟨by simp, rfl⟩⟩
    have : (bif decide (((min n 60 : Nat) : Int) < n) then decide (((min n 60 : Nat) : Int) < 60) else false) = false := by
      by_cases h : n < 60
      · rw [show min n 60 = n by omega, c_ge (Nat.le_refl _)]; rfl
      · rw [show min n 60 = 60 by omega, decide_eq_false (p := ((60 : Nat) : Int) < 60) (by omega)]
        cases decide (((60 : Nat) : Int) < n) <;> rfl
    rw [this]; rfl
def few.s : List V → T V
  | [.q (.lst [.str, .int .i64, .int .i64, .int .i64] n g)] => .leaf (vOf ksWd wdQ (lFw g (min n 60)))
  | _ => .bad
theorem few.ok : SpecOK Tryz.prog 12 few.s := by
  refine okF ΓFw.ok Tryz.func12 (by kernel_rfl) (by kernel_rfl) fun args r hb hr => ?_
  unfold few.s at hr
  split at hr
  · rename_i n g
    refine ⟨_, LamOK.orcP (pre := nilV 3 0 66 ksWd) (fun s => sub_nilV _ _ _ _ s) (p := [0, 1, 0, 1, 1]) (mk := false) (nn := 39) (k := 1) (live := [0, 3, 4]) (c := .loop bodyFw) (by kernel_rfl) (loopFw n g) (LamOK.nil _ _), ?_⟩
    have e : ∀ m h, funV Tryz.prog ΓFw [([0, 1, 0, 1, 1], orcP (nilV 3 0 66 ksWd) false 39 1 [0, 3, 4] (SFw n g 0 (gOf wdQ (lFw g 0)) (0 : Nat)) (.leaf (FFw m h)))] Tryz.f12 (cod Tryz.f12) [lWd n g] =
        .ite (@decide (SFw n g 0 (gOf wdQ (lFw g 0)) (0 : Nat) = SFw n g 0 (gOf wdQ (lFw g 0)) (0 : Nat)) (Classical.propDecidable _)) (.leaf (lWd m h)) .bad := fun m h => by kernel_rfl
    rw [e, pick_same, ← hr]
    show some (lWd _ _) = some (V.q (.lst ksWd (lFw g (min n 60)).length _))
    rw [lFw_len]
  · cases hr
/-! ### Words -/
abbrev ΓWs : Gam := [(50, piece.s), (51, wWidth.s)]
theorem ΓWs.ok : GOK Tryz.prog ΓWs := .cons piece.ok (.cons rWidth.ok (GOK.nil _))
def SWs (b : ByteArray) (m : Nat) (h : Nat → Nat → Q) (sp hd i : Int) : St := mkS 60 [(0, V.s b), (4, .own 0), (5, V.i sp), (6, V.i hd), (7, V.i i)] [some (.vec 66 ksWd m h)] [] false [] 0
def FWs (m : Nat) (h : Nat → Nat → Q) : Ex × St := (.exit 0, mkS 60 [(4, .own 0)] [some (.vec 66 ksWd m h)] [] false [] 0)
def liveWs : Ex → List Nat | .normal => [0, 4, 5, 6, 7] | _ => [4]
noncomputable abbrev bodyWs : Code := loopAt Tryz.f30 [0, 1, 0, 1, 1, 1, 1, 1]
noncomputable abbrev treeWs (s : St) : T (Ex × St × Bool) := ltree Tryz.prog ΓWs [] [0, 1, 0, 1, 1, 1, 1, 1] bodyWs 60 1 liveWs (poM [(19, 0)]) s
abbrev restB (b : ByteArray) (i : Nat) : ByteArray := b.extract (i : Int).toNat (b.size : Int).toNat
abbrev pn (b : ByteArray) (i : Nat) : Nat := (pc (restB b i)).2
abbrev subT (b : ByteArray) (i : Nat) (e : Int) : ByteArray := b.extract (i : Int).toNat e.toNat
abbrev cIn (b : ByteArray) (i : Nat) (e : Int) : Bool := decide (0 ≤ (i : Int) ∧ (i : Int) ≤ e ∧ e ≤ (b.size : Int))
abbrev wdAt (b : ByteArray) (i : Nat) (e sp hd : Int) : Wd := ⟨subT b i e, wsum (subT b i e) (subT b i e).size, sp, hd⟩
def tailWs (b : ByteArray) (m : Nat) (h : Nat → Nat → Q) (sp hd : Int) (i : Nat) (e : Int) : T (Ex × St × Bool) :=
  .ite (cIn b i e) (.ite (cIn b i e) (.ite (decide ((subT b i e).size ≤ 9223372036854775807)) (.ite (roomB m 1 40) (.leaf (.normal, SWs b (m + 1) (catG m h (rows [wdQ (wdAt b i e sp hd)])) 0 0 e, true)) .bad) .bad) .bad) .bad
theorem stepWs (b : ByteArray) (m : Nat) (h : Nat → Nat → Q) (sp hd : Int) (i : Nat) : treeWs (SWs b m h sp hd i) =
  .ite (decide ((i : Int) < b.size)) (.ite (inI i b.size) (.ite (sB b i == 10) (.leaf (.normal, SWs b m h 0 (w64 (hd + 1)) (w64 (i + 1)), true)) (.ite (inI i b.size) (.ite (sB b i == 32) (.leaf (.normal, SWs b m h 256 hd (w64 (i + 1)), true))
    (.ite (cIn b i b.size) (.ite (decide ((restB b i).size ≤ 9223372036854775807)) (.ite ((m : Int) == 0) (tailWs b m h 0 hd i (w64 (i + pn b i))) (tailWs b m h sp hd i (w64 (i + pn b i)))) .bad) .bad)) .bad)) .bad) (.leaf ((FWs m h).1, (FWs m h).2, true)) := by kernel_rfl

theorem pcF_ge (b : ByteArray) : ∀ k i, i ≤ (pcF b k i).2
  | 0, i => Nat.le_refl _
  | k + 1, i => by
    rw [pcF]
    split
    · cases gapB (sByte b i)
      · cases endB b i
        · exact Nat.le_trans (Nat.le_succ i) (pcF_ge b k (i + 1))
        · exact Nat.le_succ i
      · exact Nat.le_refl _
    · exact Nat.le_refl _
theorem pcF_le (b : ByteArray) : ∀ k i, i ≤ b.size → (pcF b k i).2 ≤ b.size
  | 0, i, h => h
  | k + 1, i, h => by
    rw [pcF]
    split
    · rename_i hlt
      cases gapB (sByte b i)
      · cases endB b i
        · exact pcF_le b k (i + 1) hlt
        · exact hlt
      · exact h
    · exact h
theorem pc_pos (b : ByteArray) (h0 : 0 < b.size) (hg : gapB (sByte b 0) = false) : 0 < (pc b).2 := by
  unfold pc
  cases hs : b.size with
  | zero => omega
  | succ k =>
    rw [pcF, if_pos h0, hg]
    cases endB b 0
    · exact pcF_ge b k 1
    · exact Nat.succ_pos 0
theorem sByte_ext (b : ByteArray) {i e k : Nat} (he : e ≤ b.size) (hk : i + k < e) : sByte (b.extract i e) k = sByte b (i + k) := by
  unfold sByte
  have h1 : k < (b.extract i e).size := by rw [ByteArray.size_extract]; omega
  have h2 : i + k < b.size := by omega
  have e1 : (b.extract i e).get! k = (b.extract i e)[k] := (getElem!_pos (b.extract i e).data k h1)
  have e2 : b.get! (i + k) = b[i + k] := (getElem!_pos b.data (i + k) h2)
  rw [e1, e2, ByteArray.getElem_extract]
theorem pn_le (b : ByteArray) {i : Nat} (h : i ≤ b.size) : i + pn b i ≤ b.size := by
  have := pcF_le (restB b i) (restB b i).size 0 (Nat.zero_le _)
  have h2 : (restB b i).size = b.size - i := by
    show (b.extract i b.size).size = _
    rw [ByteArray.size_extract]; omega
  unfold pn pc
  omega
theorem pn_pos (b : ByteArray) {i : Nat} (h : i < b.size) (h1 : (sB b i == 10) = false) (h2 : (sB b i == 32) = false) : 0 < pn b i := by
  refine pc_pos _ ?_ ?_
  · show 0 < (b.extract i b.size).size
    rw [ByteArray.size_extract]; omega
  · rw [show sByte (restB b i) 0 = sByte b i from sByte_ext b (i := i) (e := b.size) (k := 0) (Nat.le_refl _) h]
    unfold gapB
    rw [show (sByte b i == 32) = false from h2, show (sByte b i == 10) = false from h1]; rfl
/-- A text's words, from a byte on. -/
def wordsF (b : ByteArray) : Nat → List Wd → Int → Int → Nat → List Wd
  | 0, l, _, _, _ => l
  | k + 1, l, sp, hd, i => if i < b.size then
      (bif sByte b i == 10 then wordsF b k l 0 (w64 (hd + 1)) (i + 1) else bif sByte b i == 32 then wordsF b k l 256 hd (i + 1) else
        wordsF b k (l ++ [wdAt b i (i + pn b i : Nat) (bif (l.length : Int) == 0 then 0 else sp) hd]) 0 0 (i + pn b i)) else l
theorem wordsF_end (b : ByteArray) {k : Nat} {l : List Wd} {sp hd : Int} {i : Nat} (h : b.size ≤ i) : wordsF b k l sp hd i = l := by
  cases k with
  | zero => rfl
  | succ k => rw [wordsF, if_neg (by omega)]
abbrev words (b : ByteArray) : List Wd := wordsF b b.size [] 0 0 0
structure IxWs where
  k : Nat
  l : List Wd
  sp : Int
  hd : Int
  i : Nat
theorem ext_le (b : ByteArray) (i : Nat) (e : Int) (h : b.size ≤ 9223372036854775807) : decide ((subT b i e).size ≤ 9223372036854775807) = true := by
  apply decide_eq_true
  show (b.extract (i : Int).toNat e.toNat).size ≤ _
  rw [ByteArray.size_extract]; omega
theorem loopWs (b : ByteArray) (hn : b.size ≤ 1000000) : ∀ x, (T.leaf (FWs (words b).length (gOf wdQ (words b)))).pick = some x → SemC Tryz.prog (.loop bodyWs) (SWs b ([] : List Wd).length (gOf wdQ ([] : List Wd)) 0 0 (0 : Nat)) x := by
  refine loop_treeP ΓWs.ok (root := cod Tryz.f30) (p := [0, 1, 0, 1, 1, 1, 1, 1]) (by kernel_rfl) (fun y : IxWs => y.i ≤ b.size ∧ b.size ≤ y.k + y.i ∧ y.l.length ≤ y.i ∧ wordsF b y.k y.l y.sp y.hd y.i = words b)
    (fun y => SWs b y.l.length (gOf wdQ y.l) y.sp y.hd y.i) (fun y => b.size - y.i) (.leaf (FWs (words b).length (gOf wdQ (words b)))) 60 1 liveWs (fun _ => []) (poM [(19, 0)]) (poM_ok _) (fun y hy => ?_) ⟨b.size, [], 0, 0, 0⟩ ⟨Nat.zero_le _, by simp, Nat.zero_le _, rfl⟩
  obtain ⟨k, l, sp, hd, i⟩ := y
  obtain ⟨h1, h2, h3, h4⟩ := hy
  simp only at h1 h2 h3 h4
  have e := stepWs b l.length (gOf wdQ l) sp hd i
  rcases Nat.lt_or_ge i b.size with hlt | hge
  · obtain ⟨k, rfl⟩ : ∃ k', k = k' + 1 := ⟨k - 1, by omega⟩
    rw [wordsF, if_pos hlt] at h4
    rw [c_lt hlt, c_inI hlt, w64_suc hlt (by omega)] at e
    cases g1 : sB b i == 10 with
    | true =>
      rw [show (sByte b i == 10) = true from g1] at h4
      exact ⟨[], .normal, _, LamOK.nil _ _, (congrArg T.pick e).trans (by rw [g1]; rfl), .inl ⟨rfl, ⟨k, l, 0, w64 (hd + 1), i + 1⟩, ⟨hlt, by simp only; omega, by simp only; omega, h4⟩, by simp only; omega, rfl⟩⟩
    | false =>
      rw [show (sByte b i == 10) = false from g1] at h4
      cases g2 : sB b i == 32 with
      | true =>
        rw [show (sByte b i == 32) = true from g2] at h4
        exact ⟨[], .normal, _, LamOK.nil _ _, (congrArg T.pick e).trans (by rw [g1, g2]; rfl), .inl ⟨rfl, ⟨k, l, 256, hd, i + 1⟩, ⟨hlt, by simp only; omega, by simp only; omega, h4⟩, by simp only; omega, rfl⟩⟩
      | false =>
        rw [show (sByte b i == 32) = false from g2] at h4
        have p1 := pn_le b h1
        have p2 := pn_pos b hlt g1 g2
        have e1 : w64 ((i : Int) + (pn b i : Nat)) = ((i + pn b i : Nat) : Int) := by rw [w64_id (by omega) (by omega)]; omega
        have c1 : cIn b i b.size = true := decide_eq_true (by omega)
        have c2 : cIn b i ((i + pn b i : Nat) : Int) = true := decide_eq_true (by omega)
        have c3 : decide ((restB b i).size ≤ 9223372036854775807) = true := ext_le b i b.size (by omega)
        have c4 := ext_le b i ((i + pn b i : Nat) : Int) (by omega)
        have c5 : roomB l.length 1 40 = true := by simp [roomB]; omega
        have t : ∀ sp', (tailWs b l.length (gOf wdQ l) sp' hd i ((i + pn b i : Nat) : Int)).pick = some (Ex.normal, SWs b (l ++ [wdAt b i (i + pn b i : Nat) sp' hd]).length (gOf wdQ (l ++ [wdAt b i (i + pn b i : Nat) sp' hd])) 0 0 (i + pn b i : Nat), true) := fun sp' => by
          unfold tailWs
          rw [c2, c4, c5, catG_of wdQ l]
          simp only [pick_ite, cond_true, pick_leaf, List.length_append, List.length_cons, List.length_nil]
        refine ⟨[], .normal, _, LamOK.nil _ _, (congrArg T.pick e).trans ?_, .inl ⟨rfl, ⟨k, _, 0, 0, i + pn b i⟩, ⟨p1, by simp only; omega, by simp only [List.length_append, List.length_cons, List.length_nil]; omega, h4⟩, by simp only; omega, rfl⟩⟩
        rw [g1, g2, c1, c3, e1]
        simp only [pick_ite, cond_true, cond_false]
        cases hl : ((l.length : Int) == 0)
        · exact t sp
        · exact t 0
  · rw [wordsF_end b hge] at h4
    exact ⟨[], .exit 0, _, LamOK.nil _ _, (congrArg T.pick e).trans (by rw [c_ge hge]; rfl), .inr ⟨by simp, by rw [← h4]; rfl⟩⟩
abbrev emptyL (ks : List K) : V := .q (.lst ks 0 fun _ _ => default)
def rWords.s : List V → T V
  | [.q (.c (.string b))] => .ite (decide ((b.size : Int) > 400)) (.leaf (.tup [emptyL ksWd, V.i 70])) (.leaf (.tup [vOf ksWd wdQ (words b), V.i 0]))
  | _ => .bad
def rWords.t : List V → T V
  | [.q (.c (.string b))] => .ite (decide ((b.size : Int) > 400)) (.leaf (.tup [.q (.c (.slice none 0 0)), V.i 70])) (.leaf (.tup [vOf ksWd wdQ (words b), V.i 0]))
  | _ => .bad
theorem rWords.ok : SpecOK Tryz.prog 30 rWords.s := by
  refine SpecOK.res (sp' := rWords.t) ?_ fun args r hb hr => ?_
  · refine okF ΓWs.ok Tryz.func30 (by kernel_rfl) (by kernel_rfl) fun args r hb hr => ?_
    unfold rWords.t at hr
    split at hr
    · rename_i b
      by_cases hn : (b.size : Int) > 400
      · rw [decide_eq_true hn] at hr
        have e : T.pathL (funV Tryz.prog ΓWs [] Tryz.f30 (cod Tryz.f30) [V.s b]) [true] = .leaf (V.tup [.q (.c (.slice none 0 0)), V.i 70]) := by kernel_rfl
        have e0 : T.pathC (funV Tryz.prog ΓWs [] Tryz.f30 (cod Tryz.f30) [V.s b]) [true] = [decide ((b.size : Int) > 400)] := by kernel_rfl
        exact ⟨[], LamOK.nil _ _, (T.pick_at [true] _ e0 (by rw [decide_eq_true hn]) e).trans hr⟩
      · rw [decide_eq_false hn] at hr
        refine ⟨_, LamOK.orcP (pre := nilV 4 0 66 ksWd) (fun s => sub_nilV _ _ _ _ s) (p := [0, 1, 0, 1, 1, 1, 1, 1]) (mk := false) (nn := 60) (k := 1) (live := [0, 4, 5, 6, 7]) (c := .loop bodyWs) (by kernel_rfl) (loopWs b (by omega)) (LamOK.nil _ _), ?_⟩
        have e : ∀ m h, funV Tryz.prog ΓWs [([0, 1, 0, 1, 1, 1, 1, 1], orcP (nilV 4 0 66 ksWd) false 60 1 [0, 4, 5, 6, 7] (SWs b ([] : List Wd).length (gOf wdQ ([] : List Wd)) 0 0 (0 : Nat)) (.leaf (FWs m h)))] Tryz.f30 (cod Tryz.f30) [V.s b] =
            .ite (decide ((b.size : Int) > 400)) (.leaf (.tup [.q (.c (.slice none 0 0)), V.i 70])) (.ite (@decide (SWs b ([] : List Wd).length (gOf wdQ ([] : List Wd)) 0 0 (0 : Nat) = SWs b ([] : List Wd).length (gOf wdQ ([] : List Wd)) 0 0 (0 : Nat)) (Classical.propDecidable _)) (.leaf (.tup [lWd m h, V.i 0])) .bad) := fun m h => by kernel_rfl
        rw [e, ← hr, decide_eq_false hn]
        exact pick_same _ _
    · cases hr
  · unfold rWords.s at hr
    unfold rWords.t
    split at hr
    · rename_i b
      cases hc : decide ((b.size : Int) > 400) with
      | true => rw [hc] at hr; cases hr; exact ⟨_, rfl, fun S w v h => den_tnil h⟩
      | false => rw [hc] at hr; cases hr; exact ⟨_, rfl, fun S w v h => h⟩
    · cases hr
end Go.Proofs.YthmlbmambcigcaaGreatDoor

/- Lines, one by one: the same, which are wider, how wide the widest one is. -/
namespace Go.Proofs.YthmlbmambcigcaaGreatDoor
open Go Go.SX Go.Proofs
set_option maxRecDepth 100000
variable [EA]
set_option linter.unusedVariables false
set_option linter.unusedSectionVars false
set_option linter.unusedSimpArgs false

/-! ### Same -/
def lnEq (a b : Ln) : Bool := bif a.a == b.a then (bif a.z == b.z then (bif a.w == b.w then true else false) else false) else false
def SSa (n : Nat) (g : Nat → Nat → Q) (m : Nat) (h : Nat → Nat → Q) (i : Int) : St := mkS 26 [(0, lLn n g), (1, lLn m h), (5, V.i i)] [] [] false [] 0
def liveSa : Ex → List Nat | .normal => [0, 1, 5] | .ret => [4] | _ => []
def SSb (n : Nat) (g : Nat → Nat → Q) (m : Nat) (h : Nat → Nat → Q) (i : Int) : St := mkS 26 [(1, lLn m h), (12, lLn n g), (13, V.i n), (14, V.i i)] [] [] false [] 0
def liveSb : Ex → List Nat | .normal => [1, 12, 13, 14] | .ret => [4] | _ => []
def SIi (n : Nat) (g : Nat → Nat → Q) (m : Nat) (h : Nat → Nat → Q) (i : Int) : St := mkS 26 [(0, lInt n g), (1, lInt m h), (5, V.i i)] [] [] false [] 0
def rSameB (n : Nat) (g : Nat → Nat → Q) (m : Nat) (h : Nat → Nat → Q) : Bool := bif (n : Int) != m then false else allN n fun i => lnEq (gLn g i) (gLn h i)
def rSame.s : List V → T V
  | [.q (.lst [.int .i64, .int .i64, .int .i64] n g), .q (.lst [.int .i64, .int .i64, .int .i64] m h)] => .leaf (V.b (rSameB n g m h))
  | _ => .bad
def lSameB (n : Nat) (g : Nat → Nat → Q) (m : Nat) (h : Nat → Nat → Q) : Bool := bif (n : Int) != m then false else allN n fun i => lnEq (gLn g i) (gLn h i)
def lSame.s : List V → T V
  | [.q (.lst [.int .i64, .int .i64, .int .i64] n g), .q (.lst [.int .i64, .int .i64, .int .i64] m h)] => .leaf (V.b (lSameB n g m h))
  | _ => .bad
def intsB (n : Nat) (g : Nat → Nat → Q) (m : Nat) (h : Nat → Nat → Q) : Bool := bif (n : Int) != m then false else allN n fun i => qInt (g i 0) == qInt (h i 0)
def ints.s : List V → T V
  | [.q (.lst [.int .i64] n g), .q (.lst [.int .i64] m h)] => .leaf (V.b (intsB n g m h))
  | _ => .bad
/-! ### Over -/
def SOa (n : Nat) (g : Nat → Nat → Q) (w : Int) (m : Nat) (h : Nat → Nat → Q) (i : Int) : St := mkS 25 [(0, lLn n g), (1, V.i w), (5, .own 0), (6, V.i i)] [some (.vec 3 [.int .i64] m h)] [] false [] 0
def liveOa : Ex → List Nat | .normal => [0, 1, 5, 6] | _ => [5]
noncomputable abbrev bodyOa : Code := loopAt Tryz.f22 [0, 1, 0, 1, 1]
noncomputable abbrev treeOa (s : St) : T (Ex × St × Bool) := ltree Tryz.prog [] [] [0, 1, 0, 1, 1] bodyOa 25 1 liveOa (poM [(1, 0)]) s
def SOb (n : Nat) (g : Nat → Nat → Q) (w : Int) (m : Nat) (h : Nat → Nat → Q) (i : Int) : St := mkS 25 [(1, V.i w), (5, .own 0), (8, lLn n g), (9, V.i n), (10, V.i i)] [some (.vec 3 [.int .i64] m h)] [] false [] 0
def liveOb : Ex → List Nat | .normal => [1, 5, 8, 9, 10] | _ => [5]
/-- Which of the first i lines are wider. -/
def overL (g : Nat → Nat → Q) (w : Int) : Nat → List Int
  | 0 => []
  | i + 1 => bif decide ((gLn g i).w > w) then overL g w i ++ [(i : Int)] else overL g w i
theorem overL_len (g : Nat → Nat → Q) (w : Int) : ∀ i, (overL g w i).length ≤ i
  | 0 => Nat.le_refl _
  | i + 1 => by
    have := overL_len g w i
    rw [overL]
    cases decide ((gLn g i).w > w) <;> simp <;> omega
def over.s : List V → T V
  | [.q (.lst [.int .i64, .int .i64, .int .i64] n g), .q (.c (.int .i64 w))] => .ite (decide (n ≤ 1000000)) (.leaf (vOf [.int .i64] intQ (overL g w n))) .bad
  | _ => .bad
theorem stepOa (n : Nat) (g : Nat → Nat → Q) (w : Int) (m : Nat) (h : Nat → Nat → Q) (i : Nat) : treeOa (SOa n g w m h i) =
    .ite (decide ((i : Int) < n)) (.ite (inI i n) (.ite (decide ((gLn g i).w > w)) (.ite (roomB m 1 8) (.leaf (.normal, SOa n g w (m + 1) (catG m h (rows [intQ i])) (w64 (i + 1)), true)) .bad) (.leaf (.normal, SOa n g w m h (w64 (i + 1)), true))) .bad) (.leaf (.exit 0, mkS 25 [(5, .own 0)] [some (.vec 3 [.int .i64] m h)] [] false [] 0, true)) := by kernel_rfl
theorem loopOa (n : Nat) (g : Nat → Nat → Q) (w : Int) (hn : n ≤ 1000000) : ∀ x, (T.leaf (Ex.exit 0, mkS 25 [(5, .own 0)] [some (.vec 3 [.int .i64] (overL g w n).length (gOf intQ (overL g w n)))] [] false [] 0)).pick = some x → SemC Tryz.prog (.loop bodyOa) (SOa n g w (overL g w 0).length (gOf intQ (overL g w 0)) (0 : Nat)) x := by
  refine loopFold (GOK.nil _) (root := cod Tryz.f22) (p := [0, 1, 0, 1, 1]) (by kernel_rfl) (show n ≤ _ by omega) (fun (l : List Int) i => SOa n g w l.length (gOf intQ l) i) (overL g w) (.exit 0) (by simp) _ 25 1 liveOa (poM [(1, 0)]) (poM_ok _) (fun i hlt => ⟨[], LamOK.nil _ _, ?_⟩) ?_
  · have hl := overL_len g w i
    refine (congrArg T.pick (stepOa n g w _ _ i)).trans ?_
    rw [c_lt hlt, c_inI hlt, catG_of intQ, show roomB (overL g w i).length 1 8 = true by simp [roomB]; omega, overL]
    cases hc : decide ((gLn g i).w > w)
    · simp only [pick_ite, cond_true, cond_false, pick_leaf]
    · simp only [pick_ite, cond_true, pick_leaf, List.length_append, List.length_cons, List.length_nil]
  · exact (congrArg T.pick (stepOa n g w _ _ n)).trans (by rw [c_ge (Nat.le_refl _)]; rfl)
theorem rOver.ok : SpecOK Tryz.prog 22 over.s := by
  refine okF (GOK.nil _) Tryz.func22 (by kernel_rfl) (by kernel_rfl) fun args r hb hr => ?_
  unfold over.s at hr
  split at hr
  · rename_i n g w
    by_cases hn : n ≤ 1000000
    · refine ⟨_, LamOK.orcP (pre := nilV 5 0 3 [.int .i64]) (fun s => sub_nilV _ _ _ _ s) (p := [0, 1, 0, 1, 1]) (mk := false) (nn := 25) (k := 1) (live := liveOa .normal) (c := .loop bodyOa) (by kernel_rfl) (loopOa n g w hn) (LamOK.nil _ _), ?_⟩
      have e : ∀ m h, funV Tryz.prog [] [([0, 1, 0, 1, 1], orcP (nilV 5 0 3 [.int .i64]) false 25 1 (liveOa .normal) (SOa n g w (overL g w 0).length (gOf intQ (overL g w 0)) (0 : Nat)) (.leaf (Ex.exit 0, mkS 25 [(5, .own 0)] [some (.vec 3 [.int .i64] m h)] [] false [] 0)))] Tryz.f22 (cod Tryz.f22) [lLn n g, V.i w] =
          .ite (@decide (SOa n g w (overL g w 0).length (gOf intQ (overL g w 0)) (0 : Nat) = SOa n g w (overL g w 0).length (gOf intQ (overL g w 0)) (0 : Nat)) (Classical.propDecidable _)) (.leaf (lInt m h)) .bad := fun m h => by kernel_rfl
      rw [e, ← hr, decide_eq_true hn]
      exact pick_same _ _
    · rw [decide_eq_false hn] at hr; cases hr
  · cases hr
/-! ### Widest -/
def SWa (n : Nat) (g : Nat → Nat → Q) (a i : Int) : St := mkS 19 [(0, lLn n g), (3, V.i a), (4, V.i i)] [] [] false [] 0
def liveWa : Ex → List Nat | .normal => [0, 3, 4] | _ => [3]
def SWb (n : Nat) (g : Nat → Nat → Q) (a i : Int) : St := mkS 18 [(3, V.i a), (6, lLn n g), (7, V.i n), (8, V.i i)] [] [] false [] 0
def liveWb : Ex → List Nat | .normal => [3, 6, 7, 8] | _ => [3]
/-- How wide the widest of the first i lines is. -/
def widestL (g : Nat → Nat → Q) : Nat → Int
  | 0 => 0
  | i + 1 => mx2 (widestL g i) (gLn g i).w
def widest.s : List V → T V
  | [.q (.lst [.int .i64, .int .i64, .int .i64] n g)] => .leaf (V.i (widestL g n))
  | _ => .bad
end Go.Proofs.YthmlbmambcigcaaGreatDoor

/- Lines, one by one: the line that begins with a word. -/
namespace Go.Proofs.YthmlbmambcigcaaGreatDoor
open Go Go.SX Go.Proofs
set_option maxRecDepth 100000
variable [EA]
set_option linter.unusedVariables false
set_option linter.unusedSectionVars false
set_option linter.unusedSimpArgs false

/-! ### next, as the document tells it -/
abbrev cLn (x : Ln) : Option Ob := some (.cells 37 [V.i x.a, V.i x.z, V.i x.w])
def SNr (n : Nat) (g : Nat → Nat → Q) (w : Int) (x : Ln) : St := mkS 73 [(0, lWd n g), (2, V.i w), (6, .ptr 0 0), (7, .ptr 1 0)] [cLn ⟨0, 0, 0⟩, cLn x] [] false [] 0
def liveNr : Ex → List Nat | .normal => [0, 2, 6, 7] | _ => [6, 7]
noncomputable abbrev bodyNr : Code := loopAt Tryz.f101 [0, 0, 1, 1]
noncomputable abbrev treeNr (s : St) : T (Ex × St × Bool) := ltree Tryz.prog [] [] [0, 0, 1, 1] bodyNr 73 2 liveNr poN s
/-- Does a line take the next word? -/
abbrev takeB (w v : Int) (x : Wd) : Bool := bif x.h == 0 then decide (addW v x ≤ w) else false
theorem stepNr (n : Nat) (g : Nat → Nat → Q) (w a v : Int) (k : Nat) : treeNr (SNr n g w ⟨a, k, v⟩) =
    .ite (bif decide ((k : Int) < n) then (bif inI k n then (bif (gWd g k).h == 0 then (bif inI k n then (bif inI k n then true else false) else false) else true) else false) else true)
      (.ite (bif decide ((k : Int) < n) then takeB w v (gWd g k) else false) (.ite (inI k n) (.ite (inI k n) (.leaf (.normal, SNr n g w ⟨a, w64 (k + 1), addW v (gWd g k)⟩, true)) .bad) .bad)
        (.leaf (.exit 0, mkS 73 [(6, .ptr 0 0), (7, .ptr 1 0)] [cLn ⟨0, 0, 0⟩, cLn ⟨a, k, v⟩] [] false [] 0, true))) .bad := by kernel_rfl
/-- The words that a line takes, f of them to come: where it ends, how wide it is. -/
def tkF (g : Nat → Nat → Q) (w : Int) : Nat → Nat → Int → Nat × Int
  | 0, k, v => (k, v)
  | f + 1, k, v => bif takeB w v (gWd g k) then tkF g w f (k + 1) (addW v (gWd g k)) else (k, v)
theorem tkF_ge (g : Nat → Nat → Q) (w : Int) : ∀ f k v, k ≤ (tkF g w f k v).1
  | 0, k, v => Nat.le_refl _
  | f + 1, k, v => by
    rw [tkF]
    cases takeB w v (gWd g k)
    · exact Nat.le_refl _
    · exact Nat.le_trans (Nat.le_succ k) (tkF_ge g w f (k + 1) _)
theorem tkF_le (g : Nat → Nat → Q) (w : Int) : ∀ f k v, (tkF g w f k v).1 ≤ k + f
  | 0, k, v => Nat.le_refl _
  | f + 1, k, v => by
    rw [tkF]
    cases takeB w v (gWd g k)
    · exact Nat.le_add_right _ _
    · have := tkF_le g w f (k + 1) (addW v (gWd g k))
      show (tkF g w f (k + 1) _).1 ≤ _
      omega
theorem loopNr (n : Nat) (g : Nat → Nat → Q) (w a : Int) (hn : n ≤ 9223372036854775807) (k : Nat) (hk : k ≤ n) (v : Int) : ∀ x, (T.leaf (Ex.exit 0, mkS 73 [(6, .ptr 0 0), (7, .ptr 1 0)] [cLn ⟨0, 0, 0⟩, cLn ⟨a, (tkF g w (n - k) k v).1, (tkF g w (n - k) k v).2⟩] [] false [] 0)).pick = some x → SemC Tryz.prog (.loop bodyNr) (SNr n g w ⟨a, k, v⟩) x := by
  refine loop_treeP (GOK.nil _) (root := cod Tryz.f101) (p := [0, 0, 1, 1]) (by kernel_rfl) (ι := Nat × Int) (fun y => y.1 ≤ n ∧ tkF g w (n - y.1) y.1 y.2 = tkF g w (n - k) k v) (fun y => SNr n g w ⟨a, y.1, y.2⟩) (fun y => n - y.1) _ 73 2 liveNr (fun _ => []) poN poN_ok (fun y hy => ?_) (k, v) ⟨hk, rfl⟩
  obtain ⟨k', v'⟩ := y
  obtain ⟨h1, h2⟩ := hy
  simp only at h1 h2
  have e := stepNr n g w a v' k'
  rcases Nat.lt_or_ge k' n with hlt | hge
  · rw [show n - k' = (n - (k' + 1)) + 1 by omega, tkF] at h2
    have hok : (bif (gWd g k').h == 0 then (bif true then (bif true then true else false) else false) else true) = true := by cases (gWd g k').h == 0 <;> rfl
    rw [c_lt hlt, c_inI hlt, w64_suc hlt hn, hok] at e
    cases ht : takeB w v' (gWd g k') with
    | true =>
      rw [ht] at h2
      exact ⟨[], .normal, _, LamOK.nil _ _, (congrArg T.pick e).trans (by rw [ht]; rfl), .inl ⟨rfl, (k' + 1, _), ⟨hlt, h2⟩, by simp only; omega, rfl⟩⟩
    | false =>
      rw [ht] at h2
      exact ⟨[], .exit 0, _, LamOK.nil _ _, (congrArg T.pick e).trans (by rw [ht]; rfl), .inr ⟨by simp, by rw [← h2]; rfl⟩⟩
  · rw [show n - k' = 0 by omega, tkF] at h2
    exact ⟨[], .exit 0, _, LamOK.nil _ _, (congrArg T.pick e).trans (by rw [c_ge hge]; rfl), .inr ⟨by simp, by rw [← h2]; rfl⟩⟩
/-- The line that begins with a word. -/
def nextL (n : Nat) (g : Nat → Nat → Q) (w : Int) (i : Nat) : Ln := ⟨i, (tkF g w (n - (i + 1)) (i + 1) (gWd g i).w).1, (tkF g w (n - (i + 1)) (i + 1) (gWd g i).w).2⟩
def rnext.s : List V → T V
  | [.q (.lst [.str, .int .i64, .int .i64, .int .i64] n g), .q (.c (.int .i64 i)), .q (.c (.int .i64 w))] => .ite (decide (0 ≤ i ∧ i < n)) (.leaf (lnV (nextL n g w i.toNat))) .bad
  | _ => .bad
theorem rnext.ok : SpecOK Tryz.prog 101 rnext.s := by
  refine okF (GOK.nil _) Tryz.func101 (by kernel_rfl) (by kernel_rfl) fun args r hb hr => ?_
  unfold rnext.s at hr
  split at hr
  · rename_i n g i w
    have hn : n ≤ 9223372036854775807 := (hb (lWd n g) (by simp)).1
    by_cases hi : 0 ≤ i ∧ i < n
    · obtain ⟨k, rfl⟩ : ∃ k : Nat, i = k := ⟨i.toNat, by omega⟩
      have hk : k < n := by omega
      refine ⟨_, LamOK.orc (p := [0, 0, 1, 1]) (mk := false) (nn := 73) (k := 2) (live := [0, 2, 6, 7]) (c := .loop bodyNr) (by kernel_rfl) (loopNr n g w k hn (k + 1) hk (gWd g k).w) (LamOK.nil _ _), ?_⟩
      have e : ∀ a b, funV Tryz.prog [] [([0, 0, 1, 1], orc false 73 2 [0, 2, 6, 7] (SNr n g w ⟨k, ((k + 1 : Nat) : Int), (gWd g k).w⟩) (.leaf (Ex.exit 0, mkS 73 [(6, .ptr 0 0), (7, .ptr 1 0)] [cLn ⟨0, 0, 0⟩, cLn ⟨k, a, b⟩] [] false [] 0)))] Tryz.f101 (cod Tryz.f101) [lWd n g, V.i k, V.i w] =
          .ite (inI k n) (.ite (@decide (SNr n g w ⟨k, w64 (k + 1), (gWd g k).w⟩ = SNr n g w ⟨k, ((k + 1 : Nat) : Int), (gWd g k).w⟩) (Classical.propDecidable _)) (.leaf (lnV ⟨k, a, b⟩)) .bad) .bad := fun a b => by kernel_rfl
      have hi' : decide (0 ≤ (k : Int) ∧ (k : Int) < n) = true := decide_eq_true hi
      rw [e, ← hr, w64_suc hk hn, c_inI hk, hi']
      exact pick_same _ _
    · rw [decide_eq_false hi] at hr; cases hr
  · cases hr

/-! ### has, empty -/
abbrev brG (n : Nat) (g : Nat → Nat → Q) (w : Int) : Q := .sp 2 fun j => [Q.lst ksWd n g, .c (.int .i64 w)].getD j default
abbrev brV (n : Nat) (g : Nat → Nat → Q) (w : Int) : V := .q (brG n g w)
def has.s : List V → T V
  | [.agg [.q (.lst [.str, .int .i64, .int .i64, .int .i64] n g)], .q (.c (.int .i64 i))] => .leaf (V.b (bif decide (i ≥ 0) then decide (i < n) else false))
  | _ => .bad
theorem has.ok : SpecOK Tryz.prog 43 has.s := by
  refine okF (GOK.nil _) Tryz.func43 (by kernel_rfl) (by kernel_rfl) fun args r hb hr => ?_
  unfold has.s at hr
  split at hr
  · rename_i n g i
    exact ⟨[], LamOK.nil _ _, (congrArg T.pick (show funV Tryz.prog [] [] Tryz.f43 (cod Tryz.f43) [.agg [lWd n g], V.i i] = .leaf (V.b (bif decide (i ≥ 0) then decide (i < n) else false)) by kernel_rfl)).trans hr⟩
  · cases hr
/-- How many lines of nothing are ahead of a word. -/
abbrev emptyI (g : Nat → Nat → Q) (i : Nat) : Int := bif decide ((i : Int) > 0) then w64 ((gWd g i).h - 1) else (gWd g i).h
def empty.s : List V → T V
  | [.q (.sp 2 get), .q (.c (.int .i64 i))] => match get 0, get 1 with
    | .lst [.str, .int .i64, .int .i64, .int .i64] n g, .c (.int .i64 w) => .ite (decide (0 ≤ i ∧ i < n)) (.leaf (V.i (emptyI g i.toNat))) .bad
    | _, _ => .bad
  | _ => .bad
theorem weak_br {n : Nat} {g : Nat → Nat → Q} {w : Int} {get : Nat → Q} (h0 : get 0 = .lst ksWd n g) (h1 : get 1 = .c (.int .i64 w)) {l l' : List V} (hl : Weak l l') : Weak (.q (.sp 2 get) :: l) (brV n g w :: l') := fun S w' vs hd => by
  cases hd with
  | cons _ v _ l1 d1 hd => exact .cons _ _ _ _ (.q _ _ (den_sp (fun j hj => by
      rcases (show j = 0 ∨ j = 1 by omega) with rfl | rfl
      · exact h0
      · exact h1) d1.q_inv)) (hl _ _ _ hd)
theorem empty.ok : SpecOK Tryz.prog 70 empty.s := by
  refine specOK_of_bodyW (GOK.nil _) Tryz.func70 (isBody _ (by kernel_rfl)) (by kernel_rfl) fun args r hb hr => ?_
  unfold empty.s at hr
  split at hr
  · rename_i get i
    split at hr
    · rename_i n g w h0 h1
      by_cases hi : 0 ≤ i ∧ i < n
      · obtain ⟨k, rfl⟩ : ∃ k : Nat, i = k := ⟨i.toNat, by omega⟩
        have hk : k < n := by omega
        refine ⟨[brV n g w, V.i k], [], weak_br h0 h1 (fun _ _ _ h => h), LamOK.nil _ _, ?_⟩
        have e : funV Tryz.prog [] [] Tryz.f70 (cod Tryz.f70) [brV n g w, V.i k] = .ite (inI k n) (.ite (decide ((k : Int) > 0)) (.leaf (V.i (w64 ((gWd g k).h - 1)))) (.leaf (V.i (gWd g k).h))) .bad := by kernel_rfl
        have hi' : decide (0 ≤ (k : Int) ∧ (k : Int) < n) = true := decide_eq_true hi
        rw [e, ← hr, c_inI hk, hi']
        show _ = some (V.i (emptyI g k))
        rw [emptyI]
        cases decide ((k : Int) > 0) <;> rfl
      · rw [decide_eq_false hi] at hr; cases hr
    · cases hr
  · cases hr

/-! ### next -/
def next1.s : List V → T V
  | [.agg [.q (.c (.string t)), .q (.c (.int .i64 a)), .q (.c (.int .i64 s)), .q (.c (.int .i64 h))], .q (.sp 3 x), .q (.sp 1 y)] => match x 2, y 0 with
    | .c (.int .i64 v), .sp 2 get => match get 1 with
      | .c (.int .i64 w) => .leaf (V.b (takeB w v ⟨t, a, s, h⟩))
      | _ => .bad
    | _, _ => .bad
  | _ => .bad
theorem next1.ok : SpecOK Tryz.prog 66 next1.s := by
  refine specOK_of_bodyW (GOK.nil _) Tryz.func66 (isBody _ (by kernel_rfl)) (by kernel_rfl) fun args r hb hr => ?_
  unfold next1.s at hr
  split at hr
  · rename_i t a s h x y
    split at hr
    · rename_i v get hx hy
      split at hr
      · rename_i w hg
        refine ⟨[.agg [V.s t, V.i a, V.i s, V.i h], .q (.sp 3 fun j => [x 0, x 1, .c (.int .i64 v)].getD j default), .q (.sp 1 fun j => [Q.sp 2 fun j => [get 0, .c (.int .i64 w)].getD j default].getD j default)], [], ?_, LamOK.nil _ _, ?_⟩
        · intro S w' vs hd
          cases hd with
          | cons _ v1 _ l1 d1 hd => cases hd with
            | cons _ v2 _ l2 d2 hd => cases hd with
              | cons _ v3 _ l3 d3 hd =>
                refine .cons _ _ _ _ d1 (.cons _ _ _ _ (.q _ _ (den_sp (fun j hj => ?_) d2.q_inv)) (.cons _ _ _ _ (.q _ _ ?_) hd))
                · rcases (show j = 0 ∨ j = 1 ∨ j = 2 by omega) with rfl | rfl | rfl
                  · rfl
                  · rfl
                  · exact hx
                · obtain ⟨b, off, u, rfl, h1, h2, h3⟩ := d3.q_inv.sp_inv
                  refine .sp _ _ b off u h1 h2 fun j hj => ?_
                  have : j = 0 := by omega
                  subst this
                  have h4 := h3 0 hj
                  rw [hy] at h4
                  exact den_sp (fun j hj => by
                    rcases (show j = 0 ∨ j = 1 by omega) with rfl | rfl
                    · rfl
                    · exact hg) h4
        · have e : funV Tryz.prog [] [] Tryz.f66 (cod Tryz.f66) [.agg [V.s t, V.i a, V.i s, V.i h], .q (.sp 3 fun j => [x 0, x 1, .c (.int .i64 v)].getD j default), .q (.sp 1 fun j => [Q.sp 2 fun j => [get 0, .c (.int .i64 w)].getD j default].getD j default)] = .leaf (V.b (takeB w v ⟨t, a, s, h⟩)) := by kernel_rfl
          rw [e, ← hr]
      · cases hr
    · cases hr
  · cases hr
abbrev ΓNx : Gam := [(43, has.s), (66, next1.s)]
theorem ΓNx.ok : GOK Tryz.prog ΓNx := .cons has.ok (.cons next1.ok (GOK.nil _))
abbrev cBr (n : Nat) (g : Nat → Nat → Q) (w : Int) : Option Ob := some (.cells 87 [brV n g w])
def SNx (n : Nat) (g : Nat → Nat → Q) (w : Int) (x : Ln) : St := mkS 71 [(2, .ptr 0 0), (4, .ptr 1 0), (5, .ptr 2 0), (6, .clo 66 [.ptr 2 0, .ptr 0 0])] [cBr n g w, cLn ⟨0, 0, 0⟩, cLn x] [] false [] 0
def liveNx : Ex → List Nat | .normal => [2, 4, 5, 6] | _ => [4, 5]
noncomputable abbrev bodyNx : Code := loopAt Tryz.f44 [0, 0, 1, 1, 1]
noncomputable abbrev treeNx (s : St) : T (Ex × St × Bool) := ltree Tryz.prog ΓNx [] [0, 0, 1, 1, 1] bodyNx 71 3 liveNx poN s
def EBr (n : Nat) (g : Nat → Nat → Q) (w : Int) (x : Ln) : Ex × St := (.exit 0, mkS 71 [(4, .ptr 1 0), (5, .ptr 2 0)] [cBr n g w, cLn ⟨0, 0, 0⟩, cLn x] [] false [] 0)
theorem stepNx (n : Nat) (g : Nat → Nat → Q) (w a v : Int) (k : Nat) : treeNx (SNx n g w ⟨a, k, v⟩) =
    .ite (decide ((k : Int) < n)) (.ite (inI k n) (.ite (takeB w v (gWd g k)) (.ite (inI k n) (.ite (inI k n) (.leaf (.normal, SNx n g w ⟨a, w64 (k + 1), w64 (v + w64 ((gWd g k).s + (gWd g k).w))⟩, true)) .bad) .bad)
        (.leaf ((EBr n g w ⟨a, k, v⟩).1, (EBr n g w ⟨a, k, v⟩).2, true))) .bad) (.leaf ((EBr n g w ⟨a, k, v⟩).1, (EBr n g w ⟨a, k, v⟩).2, true)) := by kernel_rfl
theorem w64_r (a b : Int) : w64 (a + w64 b) = w64 (a + b) := by
  simp only [w64, IntKind.wrap, IntKind.bits, IntKind.signed]
  simp
  split <;> split <;> split <;> omega
theorem w64_l (a b : Int) : w64 (w64 a + b) = w64 (a + b) := by
  rw [Int.add_comm, w64_r, Int.add_comm]
theorem addW_eq (v : Int) (x : Wd) : w64 (v + w64 (x.s + x.w)) = addW v x := by
  rw [w64_r, addW, w64_l, Int.add_assoc]
theorem loopNx (n : Nat) (g : Nat → Nat → Q) (w a : Int) (hn : n ≤ 9223372036854775807) (k : Nat) (hk : k ≤ n) (v : Int) : ∀ x, (T.leaf (EBr n g w ⟨a, (tkF g w (n - k) k v).1, (tkF g w (n - k) k v).2⟩)).pick = some x → SemC Tryz.prog (.loop bodyNx) (SNx n g w ⟨a, k, v⟩) x := by
  refine loop_treeP ΓNx.ok (root := cod Tryz.f44) (p := [0, 0, 1, 1, 1]) (by kernel_rfl) (ι := Nat × Int) (fun y => y.1 ≤ n ∧ tkF g w (n - y.1) y.1 y.2 = tkF g w (n - k) k v) (fun y => SNx n g w ⟨a, y.1, y.2⟩) (fun y => n - y.1) _ 71 3 liveNx (fun _ => []) poN poN_ok (fun y hy => ?_) (k, v) ⟨hk, rfl⟩
  obtain ⟨k', v'⟩ := y
  obtain ⟨h1, h2⟩ := hy
  simp only at h1 h2
  have e := stepNx n g w a v' k'
  rcases Nat.lt_or_ge k' n with hlt | hge
  · rw [show n - k' = (n - (k' + 1)) + 1 by omega, tkF] at h2
    rw [c_lt hlt, c_inI hlt, w64_suc hlt hn, addW_eq] at e
    cases ht : takeB w v' (gWd g k') with
    | true =>
      rw [ht] at h2
      exact ⟨[], .normal, _, LamOK.nil _ _, (congrArg T.pick e).trans (by rw [ht]; rfl), .inl ⟨rfl, (k' + 1, _), ⟨hlt, h2⟩, by simp only; omega, rfl⟩⟩
    | false =>
      rw [ht] at h2
      exact ⟨[], .exit 0, _, LamOK.nil _ _, (congrArg T.pick e).trans (by rw [ht]; rfl), .inr ⟨by simp [EBr], by rw [← h2]; rfl⟩⟩
  · rw [show n - k' = 0 by omega, tkF] at h2
    exact ⟨[], .exit 0, _, LamOK.nil _ _, (congrArg T.pick e).trans (by rw [c_ge hge]; rfl), .inr ⟨by simp [EBr], by rw [← h2]; rfl⟩⟩
def next.s : List V → T V
  | [.q (.sp 2 get), .q (.c (.int .i64 i))] => match get 0, get 1 with
    | .lst [.str, .int .i64, .int .i64, .int .i64] n g, .c (.int .i64 w) => .ite (decide (0 ≤ i ∧ i < n)) (.leaf (lnV (nextL n g w i.toNat))) .bad
    | _, _ => .bad
  | _ => .bad
theorem next.ok : SpecOK Tryz.prog 44 next.s := by
  refine specOK_of_bodyW ΓNx.ok Tryz.func44 (isBody _ (by kernel_rfl)) (by kernel_rfl) fun args r hb hr => ?_
  unfold next.s at hr
  split at hr
  · rename_i get i
    split at hr
    · rename_i n g w h0 h1
      have hq : QB (get 0) := (hb (.q (.sp 2 get)) (by simp)) 0 (by omega)
      rw [h0] at hq
      have hn : n ≤ 9223372036854775807 := hq.1
      by_cases hi : 0 ≤ i ∧ i < n
      · obtain ⟨k, rfl⟩ : ∃ k : Nat, i = k := ⟨i.toNat, by omega⟩
        have hk : k < n := by omega
        refine ⟨[brV n g w, V.i k], _, weak_br h0 h1 (fun _ _ _ h => h), LamOK.orc (p := [0, 0, 1, 1, 1]) (mk := false) (nn := 71) (k := 3) (live := [2, 4, 5, 6]) (c := .loop bodyNx) (by kernel_rfl) (loopNx n g w k hn (k + 1) hk (gWd g k).w) (LamOK.nil _ _), ?_⟩
        have e : ∀ a b, funV Tryz.prog ΓNx [([0, 0, 1, 1, 1], orc false 71 3 [2, 4, 5, 6] (SNx n g w ⟨k, ((k + 1 : Nat) : Int), (gWd g k).w⟩) (.leaf (EBr n g w ⟨k, a, b⟩)))] Tryz.f44 (cod Tryz.f44) [brV n g w, V.i k] =
            .ite (inI k n) (.ite (@decide (SNx n g w ⟨k, w64 (k + 1), (gWd g k).w⟩ = SNx n g w ⟨k, ((k + 1 : Nat) : Int), (gWd g k).w⟩) (Classical.propDecidable _)) (.leaf (lnV ⟨k, a, b⟩)) .bad) .bad := fun a b => by kernel_rfl
        have hi' : decide (0 ≤ (k : Int) ∧ (k : Int) < n) = true := decide_eq_true hi
        rw [e, ← hr, w64_suc hk hn, c_inI hk, hi']
        exact pick_same _ _
      · rw [decide_eq_false hi] at hr; cases hr
    · cases hr
  · cases hr
end Go.Proofs.YthmlbmambcigcaaGreatDoor

/- errors.As at line's own kind of error: what told says of it. -/
namespace Go.Proofs.YthmlbmambcigcaaGreatDoor.AsLine
open Go Go.RowKit Go.Extern.Stop Go.Stop Go.Extern
set_option linter.unusedVariables false
set_option linter.unusedSimpArgs false

abbrev R : Nat := 193
abbrev E : Nat := 129
abbrev PE : Nat := 130
abbrev VT : Nat := 147
abbrev ER : Nat := 70
abbrev hd (t : Nat) : Value := .pointer (some ⟨3, t, none⟩)

theorem valueOfP (t : Addr) (w : World) : (ReflectliteValue.unpack (.iface PE (.pointer (some t)))).run Tryz.prog w
    = .ok (.agg #[hd PE, .pointer (some ⟨w.heap.size, 0, none⟩), .int .u64 150]) (w.alloc (.cells #[.pointer (some t)] PE)) := by kernel_rfl
theorem typeP (a : Addr) (w : World) : (ReflectliteValue.methodAny (ReflectliteValue.valueError "reflectlite.Value.Type" 0) (fun t _ _ _ => ReflectliteType.toType t) #[.agg #[hd PE, .pointer (some a), .int .u64 150]]).run Tryz.prog w
    = .ok (.iface R (.agg #[hd PE])) w := by kernel_rfl
theorem methodKind (d : Nat) (h : Value) (w : World) : (Go.method (d + 60) R (.agg #[h]) "Kind").run Tryz.prog w = .ok (149, h) w := by kernel_rfl
theorem kindP (w : World) : ((ReflectliteType.abiMethod fun t => (fun a : Nat => Value.int IntKind.u8 (a : Int)) <$> Rtype.kind t) #[hd PE]).run Tryz.prog w = .ok (.int .u8 22) w := by kernel_rfl
theorem kindE (w : World) : ((ReflectliteType.abiMethod fun t => (fun a : Nat => Value.int IntKind.u8 (a : Int)) <$> Rtype.kind t) #[hd E]).run Tryz.prog w = .ok (.int .u8 25) w := by kernel_rfl
theorem rlm (z : Sem Value) (f : TypeId → Addr → Nat → Nat → Sem Value) (v : Value) :
    ReflectliteValue.method z f #[v] = (do match ← ReflectliteValue.parts v with | none => z | some (t, a, fl) => f t a fl (fl % 32)) := rfl
theorem partsP (a : Addr) (w : World) : (ReflectliteValue.parts (.agg #[hd PE, .pointer (some a), .int .u64 150])).run Tryz.prog w = .ok (some (PE, a, 150)) w := by kernel_rfl
theorem undP : Tryz.prog.underlying PE = some (.pointer E) := by kernel_rfl
theorem isNilP (a p : Addr) (W : World) (ha : W.cell? a = some (.pointer (some p))) :
    (ReflectliteValue.method (ReflectliteValue.valueError "reflectlite.Value.IsNil" 0) ReflectliteValue.isNil #[.agg #[hd PE, .pointer (some a), .int .u64 150]]).run Tryz.prog W = .ok (.bool false) W := by
  rw [rlm]
  simp only [Sem.run_bind, partsP, Result.andThen]
  simp [ReflectliteValue.isNil, loadVar, isAgg, underlying, undP, ha, Result.andThen]
theorem methodElem (d : Nat) (h : Value) (w : World) : (Go.method (d + 60) R (.agg #[h]) "Elem").run Tryz.prog w = .ok (163, .agg #[h]) w := by kernel_rfl
theorem methodImplements (d : Nat) (h : Value) (w : World) : (Go.method (d + 60) R (.agg #[h]) "Implements").run Tryz.prog w = .ok (164, .agg #[h]) w := by kernel_rfl
theorem methodAssignableTo (d : Nat) (h : Value) (w : World) : (Go.method (d + 60) R (.agg #[h]) "AssignableTo").run Tryz.prog w = .ok (161, .agg #[h]) w := by kernel_rfl
theorem elemT (w : World) : (ReflectliteType.method ReflectliteType.elem #[.agg #[hd PE]]).run Tryz.prog w = .ok (.iface R (.agg #[hd E])) w := by kernel_rfl
theorem implE (w : World) : (ReflectliteType.relation "Implements" ReflectliteType.implements_ #[.agg #[hd E], .iface R (.agg #[hd ER])]).run Tryz.prog w = .ok (.bool true) w := by kernel_rfl
theorem typeOfE (v : Value) (w : World) : (ReflectliteType.typeOf #[.iface E v]).run Tryz.prog w = .ok (.iface R (.agg #[hd E])) w := by kernel_rfl
theorem assignE (w : World) : (ReflectliteType.relation "AssignableTo" ReflectliteType.assignableTo #[.agg #[hd E], .iface R (.agg #[hd E])]).run Tryz.prog w = .ok (.bool true) w := by kernel_rfl
theorem valueOfE (e : Int) (w : World) : (ReflectliteValue.unpack (.iface E (.agg #[.int .i64 e]))).run Tryz.prog w
    = .ok (.agg #[hd E, .pointer (some ⟨w.heap.size, 0, none⟩), .int .u64 153]) (w.alloc (.cells #[.int .i64 e] E)) := by kernel_rfl
theorem elemOfP (w : World) : (Rtype.elem? PE).run Tryz.prog w = .ok (some E) w := by kernel_rfl
theorem mkE (p : Addr) (w : World) : (ReflectliteValue.mk E p ReflectliteValue.flagAddr).run Tryz.prog w = .ok (.agg #[hd E, .pointer (some p), .int .u64 409]) w := by kernel_rfl
theorem elemV (a p : Addr) (W : World) (ha : W.cell? a = some (.pointer (some p))) :
    (ReflectliteValue.method (ReflectliteValue.valueError "reflectlite.Value.Elem" 0) ReflectliteValue.elem #[.agg #[hd PE, .pointer (some a), .int .u64 150]]).run Tryz.prog W
      = .ok (.agg #[hd E, .pointer (some p), .int .u64 409]) W := by
  rw [rlm]
  simp only [Sem.run_bind, partsP, Result.andThen]
  simp [ReflectliteValue.elem, loadVar, isAgg, underlying, undP, ha, Result.andThen, elemOfP, mkE]
theorem rls (v x : Value) : ReflectliteValue.set #[v, x] = (do
    let (some (dst, a, fl), some (src, b, _)) := (← ReflectliteValue.parts v, ← ReflectliteValue.parts x)
      | unsupported (.noEntry "extern/(internal/reflectlite.Value).Set.zeroValue")
    if fl / ReflectliteValue.flagAddr % 2 == 0 then unsupported (.noEntry "extern/(internal/reflectlite.Value).Set.unaddressable")
    let val ← loadVar src b
    if ← Rtype.directlyAssignable dst src then storeVar dst a val
    else if ← Rtype.implements dst src then
      if (← Rtype.kind src) == 20 then
        match val with
        | .nilIface => unsupported (.noEntry "extern/reflectlite: a nil value of one interface type handed on as a value of another")
        | _ => storeVar dst a val
      else storeVar dst a (.iface src val)
    else panicString ("reflectlite.Set: value of type " ++ (← Rtype.spelt src) ++ " is not assignable to type " ++ (← Rtype.spelt dst))
    pure (.tuple #[])) := rfl
theorem partsEa (a : Addr) (w : World) : (ReflectliteValue.parts (.agg #[hd E, .pointer (some a), .int .u64 409])).run Tryz.prog w = .ok (some (E, a, 409)) w := by kernel_rfl
theorem partsE (a : Addr) (w : World) : (ReflectliteValue.parts (.agg #[hd E, .pointer (some a), .int .u64 153])).run Tryz.prog w = .ok (some (E, a, 153)) w := by kernel_rfl
theorem directE (w : World) : (Rtype.directlyAssignable E E).run Tryz.prog w = .ok true w := by kernel_rfl
theorem sizeE (w : World) : (sizeOf E).run Tryz.prog w = .ok 1 w := by kernel_rfl
theorem undE : (Tryz.prog.underlying E).map (fun d => match d with | .struct _ => true | _ => false) = some true := by kernel_rfl
theorem isAggE (w : World) : (isAgg E).run Tryz.prog w = .ok true w := by kernel_rfl
theorem loadE (b : Nat) (e : Int) (W : World) (hb : W.cell? ⟨b, 0, none⟩ = some (.int .i64 e)) : (loadVar E ⟨b, 0, none⟩).run Tryz.prog W = .ok (.agg #[.int .i64 e]) W := by
  simp [loadVar, isAggE, sizeE, Result.andThen, loadCells, loadCellsFrom, Addr.add, hb]
/-- (Value).Set: the variable at 'ta' gets what the Value's own variable 'b' holds. -/
theorem setE (ta b : Nat) (e : Int) (old : Value) (W : World) (hb : W.cell? ⟨b, 0, none⟩ = some (.int .i64 e)) (ht : W.cell? ⟨ta, 0, none⟩ = some old) (hf : W.frozen? ⟨ta, 0, none⟩ = false) :
    (ReflectliteValue.set #[.agg #[hd E, .pointer (some ⟨ta, 0, none⟩), .int .u64 409], .agg #[hd E, .pointer (some ⟨b, 0, none⟩), .int .u64 153]]).run Tryz.prog W
      = .ok (.tuple #[]) (W.setCell ⟨ta, 0, none⟩ (.int .i64 e)) := by
  rw [rls]
  simp only [Sem.run_bind, partsEa, partsE, Result.andThen]
  simp [ReflectliteValue.flagAddr, loadE _ _ _ hb, Result.andThen, directE, storeVar, Value.cells, storeCells, Addr.add, sizeE]
  rw [run_store Tryz.prog W ⟨ta, 0, none⟩ _ _ (by rfl)]
  simp [ht, hf]

theorem as_nil (t : Value) (w : World) :
    Calls Tryz.prog 54 #[.nilIface, t] w fun e w' => e = .returned (.bool false) ∧ w' = w := by
  go_enter Tryz.func54, Tryz.ntmps54
  go_wp2
  go_ret
  exact ⟨rfl, rfl⟩

set_option maxHeartbeats 4000000 in
theorem as_hit (e : Int) (tb : Nat) (old : Value) (w : World) (hg : w.cell? ⟨2, 0, none⟩ = some (.iface R (.agg #[hd ER]))) (ht0 : w.cell? ⟨tb, 0, none⟩ = some old) (hf0 : w.frozen? ⟨tb, 0, none⟩ = false) :
    Calls Tryz.prog 54 #[.iface E (.agg #[.int .i64 e]), .iface PE (.pointer (some ⟨tb, 0, none⟩))] w fun ev w' => ev = .returned (.bool true) ∧ w' = ((((w.alloc (.cells #[.pointer (some ⟨tb, 0, none⟩)] PE)).alloc (.cells #[hd PE, .pointer (some ⟨w.heap.size, 0, none⟩), .int .u64 150] VT)).alloc (.cells #[hd PE, .pointer (some ⟨w.heap.size, 0, none⟩), .int .u64 150] VT)).alloc (.cells #[.int .i64 e] E)).setCell ⟨tb, 0, none⟩ (.int .i64 e) := by
  have h6 := @run_callFunc_extern Tryz.prog 75 _ (fun args => ReflectliteValue.unpack (args.getD 0 (.tuple #[]))) Tryz.func75 (by kernel_rfl) (by kernel_rfl) (by kernel_rfl) (by kernel_rfl)
  have h7 := @run_callFunc_extern Tryz.prog 76 _ (ReflectliteValue.methodAny (ReflectliteValue.valueError "reflectlite.Value.Type" 0) (fun t _ _ _ => ReflectliteType.toType t)) Tryz.func76 (by kernel_rfl) (by kernel_rfl) (by kernel_rfl) (by kernel_rfl)
  have h8 := @run_callFunc_extern Tryz.prog 77 _ (ReflectliteValue.method (ReflectliteValue.valueError "reflectlite.Value.IsNil" 0) ReflectliteValue.isNil) Tryz.func77 (by kernel_rfl) (by kernel_rfl) (by kernel_rfl) (by kernel_rfl)
  have h27 := @run_callFunc_extern Tryz.prog 149 _ (ReflectliteType.abiMethod fun t => do pure (.int .u8 (← Rtype.kind t))) Tryz.func149 (by kernel_rfl) (by kernel_rfl) (by kernel_rfl) (by kernel_rfl)
  have h37 := @run_callFunc_extern Tryz.prog 163 _ (ReflectliteType.method ReflectliteType.elem) Tryz.func163 (by kernel_rfl) (by kernel_rfl) (by kernel_rfl) (by kernel_rfl)
  have h38 := @run_callFunc_extern Tryz.prog 164 _ (ReflectliteType.relation "Implements" ReflectliteType.implements_) Tryz.func164 (by kernel_rfl) (by kernel_rfl) (by kernel_rfl) (by kernel_rfl)
  have h10 := @run_callFunc_extern Tryz.prog 93 _ ReflectliteType.typeOf Tryz.func93 (by kernel_rfl) (by kernel_rfl) (by kernel_rfl) (by kernel_rfl)
  have h35 := @run_callFunc_extern Tryz.prog 161 _ (ReflectliteType.relation "AssignableTo" ReflectliteType.assignableTo) Tryz.func161 (by kernel_rfl) (by kernel_rfl) (by kernel_rfl) (by kernel_rfl)
  have h11 := @run_callFunc_extern Tryz.prog 98 _ (ReflectliteValue.method (ReflectliteValue.valueError "reflectlite.Value.Elem" 0) ReflectliteValue.elem) Tryz.func98 (by kernel_rfl) (by kernel_rfl) (by kernel_rfl) (by kernel_rfl)
  have h12 := @run_callFunc_extern Tryz.prog 99 _ ReflectliteValue.set Tryz.func99 (by kernel_rfl) (by kernel_rfl) (by kernel_rfl) (by kernel_rfl)
  have tO := typeOfE
  have mA := methodAssignableTo
  have a25 := assignE
  have v25 := valueOfE
  have f6 := valueOfP
  have f7 := typeP
  have mK := methodKind
  have mE := methodElem
  have mI := methodImplements
  have k27 := kindP
  have k25 := kindE
  have e27 := elemT
  have i25 := implE
  simp only [E, PE, R, VT, ER, hd] at *
  have n8 := isNilP ⟨w.heap.size, 0, none⟩ ⟨tb, 0, none⟩ ((w.alloc (.cells #[.pointer (some ⟨tb, 0, none⟩)] PE)).alloc (.cells #[hd PE, .pointer (some ⟨w.heap.size, 0, none⟩), .int .u64 150] VT)) (by simp)
  have hlt : 2 < w.heap.size := by
    rcases Nat.lt_or_ge 2 w.heap.size with h | h
    · exact h
    · simp [World.cell?, Array.getElem?_eq_none h] at hg
  have hg2 : ((w.alloc (.cells #[.pointer (some ⟨tb, 0, none⟩)] PE)).alloc (.cells #[hd PE, .pointer (some ⟨w.heap.size, 0, none⟩), .int .u64 150] VT)).cell? ⟨2, 0, none⟩ = some (.iface R (.agg #[hd ER])) := by
    rw [World.cell?_alloc_lt _ _ ⟨2, 0, none⟩ (by simp only [World.size_alloc]; omega), World.cell?_alloc_lt _ _ ⟨2, 0, none⟩ hlt]; exact hg
  have htl : tb < w.heap.size := by
    rcases Nat.lt_or_ge tb w.heap.size with h | h
    · exact h
    · simp [World.cell?, Array.getElem?_eq_none h] at ht0
  have el := elemV ⟨w.heap.size, 0, none⟩ ⟨tb, 0, none⟩ (((w.alloc (.cells #[.pointer (some ⟨tb, 0, none⟩)] PE)).alloc (.cells #[hd PE, .pointer (some ⟨w.heap.size, 0, none⟩), .int .u64 150] VT)).alloc (.cells #[hd PE, .pointer (some ⟨w.heap.size, 0, none⟩), .int .u64 150] VT)) (by rw [World.cell?_alloc_lt _ _ ⟨w.heap.size, 0, none⟩ (by simp only [World.size_alloc]; omega)]; simp)
  have st := setE tb (w.heap.size + 1 + 1 + 1) e old ((((w.alloc (.cells #[.pointer (some ⟨tb, 0, none⟩)] PE)).alloc (.cells #[hd PE, .pointer (some ⟨w.heap.size, 0, none⟩), .int .u64 150] VT)).alloc (.cells #[hd PE, .pointer (some ⟨w.heap.size, 0, none⟩), .int .u64 150] VT)).alloc (.cells #[.int .i64 e] E))
    (by have := World.cell?_alloc_new (((w.alloc (.cells #[.pointer (some ⟨tb, 0, none⟩)] PE)).alloc (.cells #[hd PE, .pointer (some ⟨w.heap.size, 0, none⟩), .int .u64 150] VT)).alloc (.cells #[hd PE, .pointer (some ⟨w.heap.size, 0, none⟩), .int .u64 150] VT)) #[.int .i64 e] E 0; simpa using this)
    (by rw [World.cell?_alloc_lt _ _ ⟨tb, 0, none⟩ (by simp only [World.size_alloc]; omega), World.cell?_alloc_lt _ _ ⟨tb, 0, none⟩ (by simp only [World.size_alloc]; omega), World.cell?_alloc_lt _ _ ⟨tb, 0, none⟩ (by simp only [World.size_alloc]; omega), World.cell?_alloc_lt _ _ ⟨tb, 0, none⟩ htl]; exact ht0)
    (by rw [World.frozen?_alloc_old _ _ ⟨tb, 0, none⟩ (by simp only [World.size_alloc]; omega), World.frozen?_alloc_old _ _ ⟨tb, 0, none⟩ (by simp only [World.size_alloc]; omega), World.frozen?_alloc_old _ _ ⟨tb, 0, none⟩ (by simp only [World.size_alloc]; omega), World.frozen?_alloc_old _ _ ⟨tb, 0, none⟩ (Nat.ne_of_lt htl)]; exact hf0)
  simp only [E, PE, R, VT, ER, hd] at *
  go_enter Tryz.func54, Tryz.ntmps54
  go_wp2
  refine wp_loop_rounds 1 ?_
  rw [rounds_succ]
  go_wp2
  go_ret
  exact ⟨rfl, rfl⟩

end Go.Proofs.YthmlbmambcigcaaGreatDoor.AsLine

/- What line's told says of an error, as a contract. -/
namespace Go.Proofs.YthmlbmambcigcaaGreatDoor.AsLine
open Go Go.SX Go.RowKit Go.Extern.Stop Go.Stop Go.Extern
variable [EA]
set_option linter.unusedVariables false
set_option linter.unusedSectionVars false
set_option linter.unusedSimpArgs false

/-- told at a refusal: its reason. -/
theorem told_hit (e : Int) (w : World) (hg : w.cell? ⟨2, 0, none⟩ = some (.iface R (.agg #[hd ER]))) :
    Calls Tryz.prog 42 #[.iface E (.agg #[.int .i64 e])] w fun ev w' => ev = .returned (.int .i64 e) ∧ Below w.heap.size w w' := by
  have hlt : 2 < w.heap.size := by
    rcases Nat.lt_or_ge 2 w.heap.size with h | h
    · exact h
    · simp [World.cell?, Array.getElem?_eq_none h] at hg
  have hgA : (w.alloc (.cells #[.int .i64 0] E)).cell? ⟨2, 0, none⟩ = some (.iface R (.agg #[hd ER])) := by
    rw [World.cell?_alloc_lt _ _ ⟨2, 0, none⟩ hlt]; exact hg
  have htA : (w.alloc (.cells #[.int .i64 0] E)).cell? ⟨w.heap.size, 0, none⟩ = some (.int .i64 0) := by simp
  have hfA : (w.alloc (.cells #[.int .i64 0] E)).frozen? ⟨w.heap.size, 0, none⟩ = false := by simp
  have hB : Below w.heap.size w (((((w.alloc (.cells #[.int .i64 e] E)).alloc (.cells #[.pointer (some ⟨w.heap.size, 0, none⟩)] PE)).alloc (.cells #[hd PE, .pointer (some ⟨w.heap.size + 1, 0, none⟩), .int .u64 150] VT)).alloc (.cells #[hd PE, .pointer (some ⟨w.heap.size + 1, 0, none⟩), .int .u64 150] VT)).alloc (.cells #[.int .i64 e] E)) :=
    (((((Below.refl _ _).alloc (by simp) _).alloc (by simp) _).alloc (by simp only [World.size_alloc]; omega) _).alloc (by simp only [World.size_alloc]; omega) _).alloc (by simp only [World.size_alloc]; omega) _
  go_enter Tryz.func42, Tryz.ntmps42
  go_wp2_with (first | (go_at_call 54; refine (as_hit e _ (.int .i64 0) _ hgA htA hfA).mono ?_; rintro e w' ⟨rfl, rfl⟩))
  go_ret
  exact ⟨rfl, hB⟩

theorem told_nil (w : World) : Calls Tryz.prog 42 #[.nilIface] w fun ev w' => ev = .returned (.int .i64 0) ∧ Below w.heap.size w w' := by
  have hB : Below w.heap.size w (w.alloc (.cells #[.int .i64 0] E)) := (Below.refl _ _).alloc (Nat.le_refl _) _
  go_enter Tryz.func42, Tryz.ntmps42
  go_wp2_with (first | (go_at_call 54; refine (as_nil _ _).mono ?_; rintro e w' ⟨rfl, rfl⟩))
  go_ret
  exact ⟨rfl, hB⟩

/-- The reason that an error tells. -/
def errOf : Value → Option Int
  | .nilIface => some 0
  | .iface t v => if t = E then match v with
    | .agg a => match a.toList with
      | [.int .i64 e] => some e
      | _ => none
    | _ => none
    else none
  | _ => none

def told.s : List V → T V
  | [.q (.c v)] => match errOf v with
    | some e => .leaf (V.i e)
    | none => .bad
  | _ => .bad

theorem told.ok : SpecOK Tryz.prog 42 told.s := by
  refine ⟨by kernel_rfl, fun S w args vals r hS hg _ hd hr => ?_⟩
  unfold told.s at hr
  split at hr
  · rename_i v0
    cases hd with
    | cons x v l us hx hl =>
      cases hl
      cases hx with
      | q _ _ hq =>
        cases hq
        unfold errOf at hr
        split at hr
        · rename_i e he
          cases hr
          split at he
          · cases he
            exact (told_nil w).mono fun ev w' ⟨h1, h2⟩ => ⟨_, h1, h2, .q _ _ (.c _)⟩
          · split at he
            · rename_i ht
              subst ht
              split at he
              · rename_i arr
                split at he
                · rename_i arr2 e' ha
                  have : arr = #[.int .i64 e'] := Array.ext' ha
                  subst this
                  cases he
                  refine (told_hit _ w ?_).mono fun ev w' ⟨h1, h2⟩ => ⟨_, h1, h2, .q _ _ (.c _)⟩
                  exact hg _ gl_et
                · cases he
              · cases he
            · cases he
          · cases he
        · cases hr
  · cases hr
end Go.Proofs.YthmlbmambcigcaaGreatDoor.AsLine

/- Lines, one by one: Next, what opens, what is checked. -/
namespace Go.Proofs.YthmlbmambcigcaaGreatDoor
open Go Go.SX Go.Proofs
set_option maxRecDepth 100000
variable [EA]
set_option linter.unusedVariables false
set_option linter.unusedSectionVars false
set_option linter.unusedSimpArgs false

/-! ### checked -/
abbrev ΓCk : Gam := [(58, rRight.s)]
theorem ΓCk.ok : GOK Tryz.prog ΓCk := .cons rRight.ok (GOK.nil _)
abbrev badI (w : Int) : Bool := bif decide (w < 0) then true else decide (w > 1048576)
/-- What is wrong with words, and a width. -/
def chkW (n : Nat) (g : Nat → Nat → Q) (w : Int) : Int := bif !rightW n g then 70 else bif badI w then 60 else 0
def checked.s : List V → T V
  | [.q (.lst [.str, .int .i64, .int .i64, .int .i64] n g), .q (.c (.int .i64 w))] => .leaf (V.i (chkW n g w))
  | _ => .bad
theorem checked.ok : SpecOK Tryz.prog 100 checked.s := by
  refine okF ΓCk.ok Tryz.func100 (by kernel_rfl) (by kernel_rfl) fun args r hb hr => ?_
  unfold checked.s at hr
  split at hr
  · rename_i n g w
    have e : funV Tryz.prog ΓCk [] Tryz.f100 (cod Tryz.f100) [lWd n g, V.i w] = .ite (!rightW n g) (.leaf (V.i 70)) (.ite (badI w) (.leaf (V.i 60)) (.leaf (V.i 0))) := by kernel_rfl
    refine ⟨[], LamOK.nil _ _, ?_⟩
    rw [e, ← hr, chkW]
    cases rightW n g <;> cases badI w <;> rfl
  · cases hr
abbrev ΓOp : Gam := [(52, wRight.s)]
theorem ΓOp.ok : GOK Tryz.prog ΓOp := .cons wRight.ok (GOK.nil _)
abbrev lnErr (n : Int) : V := .q (.c (.iface 129 (.agg #[.int .i64 n])))
abbrev nilP : V := .q (.c (.pointer none))
def treeOp (n : Nat) (g : Nat → Nat → Q) (w : Int) : T V := .ite (!rightW n g) (.leaf (.tup [nilP, lnErr 70])) (.ite (badI w) (.leaf (.tup [nilP, lnErr 60])) (.leaf (.tup [brV n g w, nilE])))
def open_.s : List V → T V
  | [.q (.lst [.str, .int .i64, .int .i64, .int .i64] n g), .q (.c (.int .i64 w))] => .ite (allN n (szW g)) (treeOp n g w) .bad
  | _ => .bad
theorem open_.ok : SpecOK Tryz.prog 41 open_.s := by
  refine okF ΓOp.ok Tryz.func41 (by kernel_rfl) (by kernel_rfl) fun args r hb hr => ?_
  unfold open_.s at hr
  split at hr
  · rename_i n g w
    have e : funV Tryz.prog ΓOp [] Tryz.f41 (cod Tryz.f41) [lWd n g, V.i w] = .ite (decide (0 ≤ (0 : Int) ∧ (0 : Int) ≤ (n : Int) ∧ (n : Int) ≤ n ∧ (n : Int) ≤ n)) (.ite (allN n (szW g)) (.ite (!rightW n g) (.leaf (.tup [nilP, lnErr 70])) (.ite (badI w) (.leaf (.tup [nilP, lnErr 60])) (.leaf (.tup [brV n (gz g) w, nilE])))) .bad) .bad := by kernel_rfl
    have h : decide (0 ≤ (0 : Int) ∧ (0 : Int) ≤ (n : Int) ∧ (n : Int) ≤ n ∧ (n : Int) ≤ n) = true := decide_eq_true (by omega)
    refine ⟨[], LamOK.nil _ _, ?_⟩
    rw [e, ← hr, h, gz_id]; rfl
  · cases hr

/-! ### Next -/
/-- The line that begins with a word, and what is wrong. -/
def nextR (n : Nat) (g : Nat → Nat → Q) (i w : Int) : Ln × Int := bif chkW n g w != 0 then (⟨0, 0, 0⟩, chkW n g w) else bif decide (0 ≤ i ∧ i < n) then (nextL n g w i.toNat, 0) else (⟨0, 0, 0⟩, 80)
def rNext.s : List V → T V
  | [.q (.lst [.str, .int .i64, .int .i64, .int .i64] n g), .q (.c (.int .i64 i)), .q (.c (.int .i64 w))] => .leaf (.tup [lnV (nextR n g i w).1, V.i (nextR n g i w).2])
  | _ => .bad
def lNext.s : List V → T V
  | [.q (.lst [.str, .int .i64, .int .i64, .int .i64] n g), .q (.c (.int .i64 i)), .q (.c (.int .i64 w))] => .ite (allN n (szW g)) (.leaf (.tup [lnV (nextR n g i w).1, V.i (nextR n g i w).2])) .bad
  | _ => .bad
abbrev ΓRn : Gam := [(100, checked.s), (101, rnext.s)]
theorem ΓRn.ok : GOK Tryz.prog ΓRn := .cons checked.ok (.cons rnext.ok (GOK.nil _))
abbrev ΓLn : Gam := [(41, open_.s), (42, AsLine.told.s), (43, has.s), (44, next.s)]
theorem ΓLn.ok : GOK Tryz.prog ΓLn := .cons open_.ok (.cons AsLine.told.ok (.cons has.ok (.cons next.ok (GOK.nil _))))
theorem rNext.ok : SpecOK Tryz.prog 85 rNext.s := by
  refine okF ΓRn.ok Tryz.func85 (by kernel_rfl) (by kernel_rfl) fun args r hb hr => ?_
  unfold rNext.s at hr
  split at hr
  · rename_i n g i w
    have e : funV Tryz.prog ΓRn [] Tryz.f85 (cod Tryz.f85) [lWd n g, V.i i, V.i w] = .ite (chkW n g w != 0) (.leaf (.tup [lnV ⟨0, 0, 0⟩, V.i (chkW n g w)]))
        (.ite (bif decide (i < 0) then true else decide (i ≥ n)) (.leaf (.tup [lnV ⟨0, 0, 0⟩, V.i 80])) (.ite (decide (0 ≤ i ∧ i < n)) (.leaf (.tup [lnV ⟨i.toNat, (nextL n g w i.toNat).z, (nextL n g w i.toNat).w⟩, V.i 0])) .bad)) := by kernel_rfl
    refine ⟨[], LamOK.nil _ _, ?_⟩
    rw [e, ← hr, nextR]
    cases chkW n g w != 0 with
    | true => rfl
    | false =>
      by_cases hi : 0 ≤ i ∧ i < n
      · rw [decide_eq_true hi, decide_eq_false (show ¬ i < 0 by omega), decide_eq_false (show ¬ i ≥ n by omega)]; rfl
      · have : (bif decide (i < 0) then true else decide (i ≥ (n : Int))) = true := by
          rw [cond_or]; exact decide_eq_true (by omega)
        rw [decide_eq_false hi, this]; rfl
  · cases hr
theorem lNext.ok : SpecOK Tryz.prog 21 lNext.s := by
  refine okF ΓLn.ok Tryz.func21 (by kernel_rfl) (by kernel_rfl) fun args r hb hr => ?_
  unfold lNext.s at hr
  split at hr
  · rename_i n g i w
    have e : funV Tryz.prog ΓLn [] Tryz.f21 (cod Tryz.f21) [lWd n g, V.i i, V.i w] = .ite (allN n (szW g)) (.ite (!rightW n g) (.ite true (.leaf (.tup [lnV ⟨0, 0, 0⟩, V.i 70])) .bad) (.ite (badI w) (.ite true (.leaf (.tup [lnV ⟨0, 0, 0⟩, V.i 60])) .bad)
        (.ite false (.leaf (.tup [lnV ⟨0, 0, 0⟩, V.i 0])) (.ite (!(bif decide (i ≥ 0) then decide (i < n) else false)) (.leaf (.tup [lnV ⟨0, 0, 0⟩, V.i 80])) (.ite (decide (0 ≤ i ∧ i < n)) (.leaf (.tup [lnV ⟨i.toNat, (nextL n g w i.toNat).z, (nextL n g w i.toNat).w⟩, V.i 0])) .bad))))) .bad := by kernel_rfl
    refine ⟨[], LamOK.nil _ _, ?_⟩
    rw [e, ← hr, nextR, chkW]
    cases allN n (szW g) with
    | false => rfl
    | true =>
      cases rightW n g with
      | false => rfl
      | true =>
        cases badI w with
        | true => rfl
        | false =>
          by_cases hi : 0 ≤ i ∧ i < n
          · rw [decide_eq_true hi, decide_eq_true (show i ≥ 0 by omega), decide_eq_true hi.2]; rfl
          · have : (bif decide (i ≥ 0) then decide (i < (n : Int)) else false) = false := by
              rw [cond_and]; exact decide_eq_false (by omega)
            rw [decide_eq_false hi, this]; rfl
  · cases hr
end Go.Proofs.YthmlbmambcigcaaGreatDoor

/- Lines, one by one: Break, as the document tells it. -/
namespace Go.Proofs.YthmlbmambcigcaaGreatDoor
open Go Go.SX Go.Proofs
set_option maxRecDepth 100000
variable [EA]
set_option linter.unusedVariables false
set_option linter.unusedSectionVars false
set_option linter.unusedSimpArgs false

abbrev pBi : List Nat := [0, 0, 1, 1, 0, 1, 0, 0, 1, 0, 1, 1, 1, 1]
abbrev pBo : List Nat := [0, 1, 0, 1, 1, 1, 1]
abbrev vLn (m : Nat) (h : Nat → Nat → Q) : Option Ob := some (.vec 37 ksLn m h)
def SBi (n : Nat) (g : Nat → Nat → Q) (w : Int) (m : Nat) (h : Nat → Nat → Q) (i k : Int) : St := mkS 49 [(0, lWd n g), (1, V.i w), (7, .own 0), (8, V.i i), (9, V.i k)] [vLn m h] [] false [] 0
def FBi (n : Nat) (g : Nat → Nat → Q) (w : Int) (m : Nat) (h : Nat → Nat → Q) (i : Int) : Ex × St := (.exit 2, mkS 49 [(0, lWd n g), (1, V.i w), (7, .own 0), (8, V.i i)] [vLn m h] [] false [] 0)
def liveBi : Ex → List Nat | .normal => [0, 1, 7, 8, 9] | _ => [0, 1, 7, 8]
def SBo (n : Nat) (g : Nat → Nat → Q) (w : Int) (m : Nat) (h : Nat → Nat → Q) (i : Int) : St := mkS 49 [(0, lWd n g), (1, V.i w), (7, .own 0), (8, V.i i)] [vLn m h] [] false [] 0
def liveBo : Ex → List Nat | .normal => [0, 1, 7, 8] | _ => [7]
abbrev ΓBr : Gam := [(101, rnext.s)]
theorem ΓBr.ok : GOK Tryz.prog ΓBr := .cons rnext.ok (GOK.nil _)
noncomputable abbrev orBi (n : Nat) (g : Nat → Nat → Q) (w : Int) (m : Nat) (h : Nat → Nat → Q) (i k : Int) (m' : Nat) (h' : Nat → Nat → Q) : Lam := [(pBi, orc false 49 1 [0, 1, 7, 8, 9] (SBi n g w m h i k) (.leaf (FBi n g w m' h' i)))]
/-- Lines of nothing. -/
abbrev nils (i : Nat) (c : Nat) : List Ln := List.replicate c ⟨i, i, 0⟩
abbrev tailBo (n : Nat) (g : Nat → Nat → Q) (w : Int) (i : Nat) (m : Nat) (h : Nat → Nat → Q) : T (Ex × St × Bool) :=
  .ite (inI i n) (.ite (roomB m 1 24) (.leaf (.normal, SBo n g w (m + 1) (catG m h (rows [lnQ (nextL n g w i)])) (nextL n g w i).z, true)) .bad) .bad
/-- How many lines of nothing are ahead of a word. -/
abbrev kBo (i : Nat) : Int := bif decide ((i : Int) > 0) then 1 else 0
abbrev emptyN (g : Nat → Nat → Q) (i : Nat) : Nat := ((gWd g i).h - kBo i).toNat
abbrev nextZ (n : Nat) (g : Nat → Nat → Q) (w : Int) (i : Nat) : Nat := (tkF g w (n - (i + 1)) (i + 1) (gWd g i).w).1
/-- The lines from a word on. -/
def linesF (n : Nat) (g : Nat → Nat → Q) (w : Int) : Nat → Nat → List Ln
  | 0, _ => []
  | f + 1, i => if i < n then nils i (emptyN g i) ++ nextL n g w i :: linesF n g w f (nextZ n g w i) else []
abbrev breakL (n : Nat) (g : Nat → Nat → Q) (w : Int) : List Ln := linesF n g w n 0
theorem nextZ_gt (n : Nat) (g : Nat → Nat → Q) (w : Int) (i : Nat) : i < nextZ n g w i := tkF_ge g w (n - (i + 1)) (i + 1) _
theorem nextZ_le {n : Nat} {g : Nat → Nat → Q} {w : Int} {i : Nat} (hi : i < n) : nextZ n g w i ≤ n := by
  have := tkF_le g w (n - (i + 1)) (i + 1) (gWd g i).w
  show (tkF g w (n - (i + 1)) (i + 1) (gWd g i).w).1 ≤ n
  omega
theorem linesF_end (n : Nat) (g : Nat → Nat → Q) (w : Int) {f i : Nat} (h : n ≤ i) : linesF n g w f i = [] := by
  cases f with
  | zero => rfl
  | succ f => rw [linesF, if_neg (by omega)]
/-- Words that are not too many, none of them behind too many line ends. -/
def fewH (n : Nat) (g : Nat → Nat → Q) : Prop := n ≤ 500 ∧ ∀ i, i < n → (gWd g i).h ≤ 400
theorem good_h {x : Wd} (h : badR x = false) : x.h ≤ 400 ∧ 0 ≤ x.h := by
  unfold badR at h
  cases h1 : x.t.toList == (ByteArray.mk #[]).toList <;> rw [h1] at h <;> simp only [cond_true, cond_false] at h
  · cases h2 : decide ((x.t.size : Int) > 400) <;> rw [h2] at h <;> simp only [cond_true, cond_false] at h
    · cases h3 : x.w != wsum x.t x.t.size <;> rw [h3] at h <;> simp only [cond_true, cond_false] at h
      · have h6 : ∀ b : Bool, (bif decide (x.h < 0) then true else decide (x.h > 400)) = false → x.h ≤ 400 ∧ 0 ≤ x.h := fun _ h => by
          rw [cond_or] at h
          have := of_decide_eq_false h
          omega
        cases h4 : x.s != 0 <;> rw [h4] at h <;> simp only [cond_true, cond_false] at h
        · exact h6 true h
        · cases h5 : x.s != 256 <;> rw [h5] at h <;> simp only [cond_true, cond_false] at h
          · exact h6 true h
          · cases h
      · cases h
    · cases h
  · cases h
theorem right_few {n : Nat} {g : Nat → Nat → Q} (h : rightW n g = true) : fewH n g := by
  unfold rightW at h
  cases ha : (allN n fun i => !badW (gWd g i)) with
  | false => rw [ha] at h; cases h
  | true =>
    rw [ha] at h
    refine ⟨by have := of_decide_eq_true (show decide ((n : Int) ≤ 500) = true from h); omega, fun i hi => ?_⟩
    have := allN_at ha hi
    exact (good_h (x := gWd g i) (by rw [badR_eq]; simpa using this)).1
theorem chk_right {n : Nat} {g : Nat → Nat → Q} {w : Int} (h : (chkW n g w != 0) = false) : rightW n g = true ∧ badI w = false := by
  unfold chkW at h
  cases hr : rightW n g with
  | false => rw [hr] at h; simp at h
  | true =>
    rw [hr] at h
    cases hw : badI w with
    | true => rw [hw] at h; simp at h
    | false => exact ⟨rfl, rfl⟩
def rBreak.s : List V → T V
  | [.q (.lst [.str, .int .i64, .int .i64, .int .i64] n g), .q (.c (.int .i64 w))] => .ite (chkW n g w != 0) (.leaf (.tup [emptyL ksLn, V.i (chkW n g w)])) (.leaf (.tup [vOf ksLn lnQ (breakL n g w), V.i 0]))
  | _ => .bad
def rBreak.t : List V → T V
  | [.q (.lst [.str, .int .i64, .int .i64, .int .i64] n g), .q (.c (.int .i64 w))] => .ite (chkW n g w != 0) (.leaf (.tup [.q (.c (.slice none 0 0)), V.i (chkW n g w)])) (.leaf (.tup [vOf ksLn lnQ (breakL n g w), V.i 0]))
  | _ => .bad
theorem brk_res {P : Program} {f : Nat} (h : SpecOK P f rBreak.t) : SpecOK P f rBreak.s := by
  refine SpecOK.res h fun args r hb hr => ?_
  unfold rBreak.s at hr
  unfold rBreak.t
  split at hr
  · rename_i n g w
    cases hc : chkW n g w != 0 with
    | true => rw [hc] at hr; cases hr; exact ⟨_, rfl, fun S w v h => den_tnil h⟩
    | false => rw [hc] at hr; cases hr; exact ⟨_, rfl, fun S w v h => h⟩
  · cases hr
abbrev ΓBk : Gam := [(100, checked.s)]
theorem ΓBk.ok : GOK Tryz.prog ΓBk := .cons checked.ok (GOK.nil _)
end Go.Proofs.YthmlbmambcigcaaGreatDoor
