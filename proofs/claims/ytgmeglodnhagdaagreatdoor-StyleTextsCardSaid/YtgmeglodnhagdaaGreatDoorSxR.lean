/- One round of a range over a function. -/
import Derived.Test.YtgmeglodnhagdaaGreatDoorSxP
namespace Go.SX
open Go.RowKit
set_option linter.unusedVariables false
set_option linter.unusedSimpArgs false
set_option linter.unusedSectionVars false

def exCode : Ex → Option Code
  | .normal => none
  | .ret => some .ret
  | .exit i => some (.exit i)
  | .goto l => some (.goto l)

def isNormal : Ex → Bool
  | .normal => true
  | _ => false

/-- The record behind a round. -/
def recOf (rec : Loop) (e : Ex) : Loop := { rec with state := if isNormal e then .ready else .done, pending := exCode e }

section
variable [GW] {P : Program} {Γ : Gam} {Λ : Lam} {root : Code}

/-- One round: what was known between the rounds is known behind it. -/
theorem round_wp (hΓ : GOK P Γ) (hΛ : LamOK P root Λ) {p : List Nat} {g : Operand} {ps : Array Nat} {assign body : Code} (hc : codeAt root p = some (.rangeFunc g ps assign body))
    {J : Jt P} {Am Mi : Nat → Prop} {w0 w : World} {θ : Th} {l : Nat} {s : St} {L L' : List (Option Ob)} {Y Y' : List (List V)} {d : Option Ob} {rec : Loop} {any : List V} {tmps0 tmpsA : Array Value} {args : List V} {vals : List Value} {s1 s2 : St} {e : Ex} {fn : FuncId}
    (hJr : J.r = some l) (hJN : J.hN = s.lo.length + 3) (hsl : (J.th s.lo.length).sl = .tuple tmps0) (hblk : (J.th (s.lo.length + 2)).blk = l) (hL : s.lo.length ≤ L.length) (hL' : s.lo.length ≤ L'.length) (hready : rec.state = .ready) (hpend : rec.pending = none)
    (h : Rep J Am Mi w0 (midS s L Y d rec any) θ { tmps := tmpsA, defers := [] } w)
    (hargs : DenL (Stab Am (midS s L Y d rec any).lo θ w) (Liv (midS s L Y d rec any).lo) θ w args vals)
    (hs1 : (sx P Γ Λ (0 :: p) assign (midS s L Y d rec (setPs s.tm ps.toList args))).pick = some (.normal, s1)) (hraw : s1.lo[s.lo.length + 2]? = some (some (.raw (.loop rec))))
    (hs2 : (sx P Γ Λ (1 :: p) body { s1 with lo := s1.lo.set (s.lo.length + 2) (some (.raw (.loop { rec with state := .busy }))) }).pick = some (e, s2))
    {any' : List V} (hsub : Sub P s2 (midS s L' Y' d { rec with state := .busy } any')) {n : Nat} {R : Ending → World → Prop}
    (hK : ∀ Am' θ' a' w', (∀ b, Am b → Am' b) → Rep J Am' Mi w0 (midS s L' Y' d (recOf rec e) any') θ' a' w' → R (.returned (.bool (isNormal e))) w') :
    RoundIn (FW none) n P l fn ((ps.zip vals.toArray).foldl (fun t x => t.setIfInBounds x.1 x.2) tmps0) assign body w R := by
  have hca : codeAt root (0 :: p) = some assign := by simp [codeAt, hc, child]
  have hcb : codeAt root (1 :: p) = some body := by simp [codeAt, hc, child]
  have hnames : ∀ {J' : Jt P} {Am' : Nat → Prop} {θ' : Th} {s' : St} {a' : Act} {w' : World}, J'.th = J.th → s'.base = s.lo.length + 3 → Rep J' Am' Mi w0 s' θ' a' w' → (θ' (s.lo.length + 2)).blk = l := fun hth hb hr => by
    rw [hr.tt.2.2 _ (by omega), hth, hblk]
  have hheld := h.lo s.lo.length (.held s.tm) (mid_held hL)
  obtain ⟨us, hus, hden⟩ := hheld
  have hus' : us.toArray = tmps0 := by
    rw [h.tt.2.2 _ (show s.lo.length < s.lo.length + 3 by omega), hsl] at hus
    exact (Value.tuple.inj hus).symm
  have hR := h.withTm (tmps := (ps.zip vals.toArray).foldl (fun t x => t.setIfInBounds x.1 x.2) tmps0) (by
    have := setPs_den ps.toList hden hargs
    rw [hus'] at this
    have e : (ps.zip vals.toArray).foldl (fun t x => t.setIfInBounds x.1 x.2) tmps0 = (ps.toList.zip vals).foldl (fun t x => t.setIfInBounds x.1 x.2) tmps0 := by
      rw [← Array.foldl_toList]; simp
    rw [e]
    exact this)
  have hw := sx_wp hΓ hΛ assign (0 :: p) _ _ hca hs1 n J Am Mi w0 θ _ w hR
  rw [hJr] at hw
  refine roundIn_of_wpIn trivial (wpIn_mono hw ?_)
  rintro e1 a1 w1 ⟨hi, Am1, θ1, hup1, hR1⟩
  cases e1 <;> simp only [Ex.is] at hi
  have hb1 := hnames rfl (hR1.tt.1.symm.trans hJN) hR1
  have hrec : w1.heap[l]? = some (.loop rec) := by
    have := hR1.lo _ _ hraw
    simp only [Holds, hb1] at this
    exact this
  have hlt1 : l < w1.heap.size := (Array.getElem?_eq_some_iff.1 hrec).1
  refine ⟨_, run_beginRound hrec hready, ?_⟩
  have hR2 := hR1.turn (s.lo.length + 2) _ (.raw (.loop { rec with state := .busy })) hraw (fun b hb => hb) (fun _ _ e => by cases e) (.inl ⟨_, rfl⟩) (w' := w1.putObj l (.loop { rec with state := .busy })) rfl rfl rfl (by simp)
    (fun b hb => World.putObj_heap_other (fun e => hb (by simp only [uses, hb1]; exact e))) (by simp only [Holds, hb1]; exact World.putObj_heap_same hlt1)
  have hw2 := sx_wp hΓ hΛ body (1 :: p) _ _ hcb hs2 n J Am1 Mi w0 θ1 a1 _ hR2
  rw [hJr] at hw2
  refine wpIn_mono hw2 ?_
  rintro e2 a2 w2 ⟨hi2, Am2, θ2, hup2, hR3⟩
  obtain ⟨θ3, hR4⟩ := hsub _ _ _ _ _ _ _ hR3
  have hb4 := hnames rfl rfl hR4
  have hraw4 : (midS s L' Y' d { rec with state := .busy } any').lo[s.lo.length + 2]? = some (some (.raw (.loop { rec with state := .busy }))) := mid_raw hL'
  have hrec4 : w2.heap[l]? = some (.loop { rec with state := .busy }) := by
    have := hR4.lo _ _ hraw4
    simp only [Holds, hb4] at this
    exact this
  have hlt4 : l < w2.heap.size := (Array.getElem?_eq_some_iff.1 hrec4).1
  have fin : ∀ jump : Option Code, jump = exCode e → jump.isNone = isNormal e → ∃ v w', (Instr.endRound l jump).run P w2 = .ok v w' ∧ R (.returned v) w' := fun jump hj hn => by
    have hR5 := hR4.turn (s.lo.length + 2) _ (.raw (.loop (recOf rec e))) hraw4 (fun b hb => hb) (fun _ _ e => by cases e) (.inl ⟨_, rfl⟩) (w' := w2.putObj l (.loop (recOf rec e))) rfl rfl rfl (by simp)
      (fun b hb => World.putObj_heap_other (fun e => hb (by simp only [uses, hb4]; exact e))) (by simp only [Holds, hb4]; exact World.putObj_heap_same hlt4)
    have hlo : (midS s L' Y' d { rec with state := .busy } any').lo.set (s.lo.length + 2) (some (.raw (.loop (recOf rec e)))) = (midS s L' Y' d (recOf rec e) any').lo := mid_set hL' _
    rw [hlo] at hR5
    refine ⟨_, _, run_endRound jump hrec4, ?_⟩
    rw [hn]
    have := hK _ _ _ _ (fun b hb => hup2 b (hup1 b hb)) hR5
    simpa [recOf, hj, hn] using this
  cases e <;> cases e2 <;> simp only [Ex.is] at hi2
  · exact fin none rfl rfl
  · subst hi2; exact fin _ rfl rfl
  · subst hi2; exact fin _ rfl rfl
  · exact fin _ rfl rfl
end
end Go.SX
