/- Code, loops by their summaries, functions. -/
import Derived.Test.YtgmeglodnhagdaaGreatDoorSxM
import Derived.RangeFuncLeaves
import Derived.RangeFuncRecord
import Derived.ControlIn
namespace Go.SX
open Go.RowKit
set_option linter.unusedVariables false
set_option linter.unusedSimpArgs false
set_option linter.unusedSectionVars false

section
variable {P : Program} {F : Fence} {n : Nat} {b : Frame} {a : Act} {k : List Item} {cs : List Frame} {w : World} {Q : Exit → Act → World → Prop}

theorem stepR_scope {c : Code} : step P (lone (b.atR a (.code (.scope c) :: k)) cs w) = .next (lone (b.atR a (.code c :: .inScope c :: k)) cs w) :=
  step_lone_go (by simp [Go.stepG, Go.stepG.exec, Frame.atR])
theorem stepR_inScope {c : Code} : step P (lone (b.atR a (.inScope c :: k)) cs w) = .next (lone (b.atR a k) cs w) :=
  step_lone_go (by simp [Go.stepG, Go.stepG.exec, Frame.atR])

/-- What is asked of a scope that no jump leaves. -/
def noGo (Q : Exit → Act → World → Prop) : Exit → Act → World → Prop
  | .goto _, _, _ => False
  | e, a, w => Q e a w

theorem wpIn_scope {c : Code} (h : c.wpIn F n P (noGo Q) a w) : (Code.scope c).wpIn F n P Q a w := by
  intro b k cs hro hb hr
  have h0 : (lone (b.atR a (.code (.scope c) :: k)) cs w).fenced P F := fenced_calm hb hr rfl
  obtain ⟨e, a₁, w₁, hq, harr⟩ := h b (.inScope c :: k) cs hro hb hr
  cases e with
  | normal => exact ⟨.normal, a₁, w₁, hq, .head h0 stepR_scope (StepsIn.trans harr (.one (fenced_calm hb hr rfl) stepR_inScope))⟩
  | exit id =>
    have hx : exitTo id (.inScope c :: k) = exitTo id k := by simp [exitTo]
    exact ⟨.exit id, a₁, w₁, hq, fun k' hk => .head h0 stepR_scope (harr.1 k' (by rw [hx]; exact hk)),
      fun hr' hk => let ⟨k₁, h1, h2⟩ := harr.2 hr' (by rw [hx]; exact hk); ⟨k₁, h1, .head h0 stepR_scope h2⟩⟩
  | goto l => exact hq.elim
  | ret => exact ⟨_, a₁, w₁, hq, .of_steps (.one h0 stepR_scope) harr⟩
  | panic ch => exact ⟨_, a₁, w₁, hq, .of_steps (.one h0 stepR_scope) harr⟩
  | outgrown => exact ⟨_, a₁, w₁, hq, .of_steps (.one h0 stepR_scope) harr⟩
end

section
variable {P : Program} {F : Fence} {n : Nat} {a : Act} {w : World} {Q : Exit → Act → World → Prop}
/-- What is asked of a scope that is left by one jump at most, ahead. -/
def oneGo (F : Fence) (n : Nat) (P : Program) (c : Code) (Q : Exit → Act → World → Prop) : Exit → Act → World → Prop
  | .goto l, a, w => ∃ rest, findLabel c l = some rest ∧ rest.wpIn F n P (noGo Q) a w
  | e, a, w => Q e a w

theorem wpIn_scope_jump {c : Code} (h : c.wpIn F n P (oneGo F n P c Q) a w) : (Code.scope c).wpIn F n P Q a w := by
  intro b k cs hro hb hr
  have h0 : (lone (b.atR a (.code (.scope c) :: k)) cs w).fenced P F := fenced_calm hb hr rfl
  obtain ⟨e, a₁, w₁, hq, harr⟩ := h b (.inScope c :: k) cs hro hb hr
  have fin : ∀ (m : Machine) (hm : StepsIn (fun m => m.fenced P F) P (lone (b.atR a (.code (.scope c) :: k)) cs w) m) (e : Exit) (a₁ : Act) (w₁ : World), noGo Q e a₁ w₁ → ArrivesIn (fun m => m.fenced P F) P m b (.inScope c :: k) cs e a₁ w₁ →
      ∃ e a' w', Q e a' w' ∧ ArrivesIn (fun m => m.fenced P F) P (lone (b.atR a (.code (.scope c) :: k)) cs w) b k cs e a' w' := fun m hm e a₁ w₁ hq harr => by
    cases e with
    | normal => exact ⟨.normal, a₁, w₁, hq, StepsIn.trans hm (StepsIn.trans harr (.one (fenced_calm hb hr rfl) stepR_inScope))⟩
    | exit id =>
      have hx : exitTo id (.inScope c :: k) = exitTo id k := by simp [exitTo]
      exact ⟨.exit id, a₁, w₁, hq, fun k' hk => StepsIn.trans hm (harr.1 k' (by rw [hx]; exact hk)),
        fun hr' hk => let ⟨k₁, h1, h2⟩ := harr.2 hr' (by rw [hx]; exact hk); ⟨k₁, h1, StepsIn.trans hm h2⟩⟩
    | goto l => exact hq.elim
    | ret => exact ⟨_, a₁, w₁, hq, .of_steps hm harr⟩
    | panic ch => exact ⟨_, a₁, w₁, hq, .of_steps hm harr⟩
    | outgrown => exact ⟨_, a₁, w₁, hq, .of_steps hm harr⟩
  cases e with
  | goto l =>
    obtain ⟨rest, hf, hw⟩ := hq
    have hg : gotoIn l (.inScope c :: k) = some (.code rest :: .inScope c :: k) := by simp [gotoIn, hf]
    obtain ⟨e2, a2, w2, hq2, harr2⟩ := hw b (.inScope c :: k) cs hro hb hr
    exact fin _ (.head h0 stepR_scope (harr.1 _ hg)) e2 a2 w2 hq2 harr2
  | normal => exact fin _ (.one h0 stepR_scope) .normal a₁ w₁ hq harr
  | exit id => exact fin _ (.one h0 stepR_scope) (.exit id) a₁ w₁ hq harr
  | ret => exact fin _ (.one h0 stepR_scope) .ret a₁ w₁ hq harr
  | panic ch => exact fin _ (.one h0 stepR_scope) (.panic ch) a₁ w₁ hq harr
  | outgrown => exact fin _ (.one h0 stepR_scope) .outgrown a₁ w₁ hq harr
end

inductive Ex where
  | normal | exit (id : Nat) | goto (l : Nat) | ret
  deriving DecidableEq, Inhabited

def Ex.is : Ex → Exit → Prop
  | .normal, .normal => True
  | .exit i, .exit j => i = j
  | .goto i, .goto j => i = j
  | .ret, .ret => True
  | _, _ => False

abbrev Out := T (Ex × St)
/-- The summaries of the loops: by the loop's place in the function's code. -/
abbrev Lam := List (List Nat × (St → Out))

def lookP {α : Type} : List (List Nat × α) → List Nat → Option α
  | [], _ => none
  | (k, x) :: l, n => if k == n then some x else lookP l n

theorem lookP_mem {α : Type} : ∀ {l : List (List Nat × α)} {n : List Nat} {x : α}, lookP l n = some x → (n, x) ∈ l
  | [], _, _, h => by simp [lookP] at h
  | (k, y) :: l, n, x, h => by
    simp only [lookP] at h
    split at h
    · rename_i e
      cases h
      have : k = n := by simpa using e
      subst this
      exact List.mem_cons_self
    · exact List.mem_cons_of_mem _ (lookP_mem h)

def child : Code → Nat → Option Code
  | .seq a _, 0 => some a
  | .seq _ b, 1 => some b
  | .cond _ a _, 0 => some a
  | .cond _ _ b, 1 => some b
  | .block _ c, 0 => some c
  | .loop c, 0 => some c
  | .scope c, 0 => some c
  | .rangeFunc _ _ a _, 0 => some a
  | .rangeFunc _ _ _ b, 1 => some b
  | _, _ => none

def codeAt (root : Code) : List Nat → Option Code
  | [] => some root
  | i :: p => (codeAt root p).bind (child · i)

/-- Code without loops. -/
def sxs (P : Program) (Γ : Gam) : Code → St → Out
  | .skip, s => .leaf (.normal, s)
  | .label _, s => .leaf (.normal, s)
  | .region _ ops false, s => (runR P Γ ops.toList s).bind fun s => .leaf (.normal, s)
  | .region _ ops true, s => (runD P Γ ops.toList s).bind fun s => .leaf (.normal, s)
  | .seq a b, s => (sxs P Γ a s).bind fun x => match x.1 with
    | .normal => sxs P Γ b x.2
    | _ => .leaf x
  | .cond c a b, s => match ev s c with
    | .kb true => sxs P Γ a s
    | .kb false => sxs P Γ b s
    | .q (.c (.bool t)) => .ite t (sxs P Γ a s) (sxs P Γ b s)
    | _ => .bad
  | .block id c, s => (sxs P Γ c s).bind fun x => match x.1 with
    | .exit id' => if id' = id then .leaf (.normal, x.2) else .leaf x
    | _ => .leaf x
  | .exit id, s => .leaf (.exit id, s)
  | .goto l, s => .leaf (.goto l, s)
  | .ret, s => .leaf (.ret, s)
  | _, _ => .bad

def sx (P : Program) (Γ : Gam) (Λ : Lam) : List Nat → Code → St → Out
  | _, .skip, s => .leaf (.normal, s)
  | _, .label _, s => .leaf (.normal, s)
  | _, .region _ ops false, s => (runR P Γ ops.toList s).bind fun s => .leaf (.normal, s)
  | _, .region _ ops true, s => (runD P Γ ops.toList s).bind fun s => .leaf (.normal, s)
  | p, .seq a b, s => (sx P Γ Λ (0 :: p) a s).bind fun x => match x.1 with
    | .normal => sx P Γ Λ (1 :: p) b x.2
    | _ => .leaf x
  | p, .cond c a b, s => match ev s c with
    | .kb true => sx P Γ Λ (0 :: p) a s
    | .kb false => sx P Γ Λ (1 :: p) b s
    | .q (.c (.bool t)) => .ite t (sx P Γ Λ (0 :: p) a s) (sx P Γ Λ (1 :: p) b s)
    | _ => .bad
  | p, .block id c, s => (sx P Γ Λ (0 :: p) c s).bind fun x => match x.1 with
    | .exit id' => if id' = id then .leaf (.normal, x.2) else .leaf x
    | _ => .leaf x
  | p, .loop _, s => match lookP Λ p with
    | some f => f s
    | none => .bad
  | p, .rangeFunc _ _ _ _, s => match lookP Λ p with
    | some f => f s
    | none => .bad
  | p, .scope c, s => (sx P Γ Λ (0 :: p) c s).bind fun x => match x.1 with
    | .goto l => match findLabel c l with
      | some rest => (sxs P Γ rest x.2).bind fun y => match y.1 with
        | .goto _ => .bad
        | _ => .leaf y
      | none => .bad
    | _ => .leaf x
  | _, .exit id, s => .leaf (.exit id, s)
  | _, .goto l, s => .leaf (.goto l, s)
  | _, .ret, s => .leaf (.ret, s)
  | _, _, _ => .bad

/-- Where a piece of code comes to. -/
def PostC [GW] {P : Program} (J : Jt P) (Am Mi : Nat → Prop) (w0 : World) (x : Ex × St) : Exit → Act → World → Prop := fun e a w => x.1.is e ∧ ∃ (Am' : Nat → Prop) (θ : Th), (∀ b, Am b → Am' b) ∧ Rep J Am' Mi w0 x.2 θ a w

/-- The code c leads from s to x, whatever the frame. -/
def SemC [GW] (P : Program) (c : Code) (s : St) (x : Ex × St) : Prop :=
  ∀ (n : Nat) (J : Jt P) (Am Mi : Nat → Prop) (w0 : World) (θ : Th) (a : Act) (w : World), Rep J Am Mi w0 s θ a w → c.wpIn (FW J.r) n P (PostC J Am Mi w0 x) a w

def LamOK [GW] (P : Program) (root : Code) (Λ : Lam) : Prop :=
  ∀ p f, (p, f) ∈ Λ → ∃ c, codeAt root p = some c ∧ ∀ s x, (f s).pick = some x → SemC P c s x

theorem LamOK.nil [GW] (P : Program) (root : Code) : LamOK P root [] := fun _ _ h => by cases h
theorem LamOK.cons [GW] {P : Program} {root : Code} {p : List Nat} {f : St → Out} {Λ : Lam} (c : Code) (hc : codeAt root p = some c) (h : ∀ s x, (f s).pick = some x → SemC P c s x) (hΛ : LamOK P root Λ) : LamOK P root ((p, f) :: Λ) :=
  fun q g hq => by
    cases hq with
    | head => exact ⟨c, hc, h⟩
    | tail _ hm => exact hΛ q g hm

theorem sxs_wp [GW] {P : Program} {Γ : Gam} (hΓ : GOK P Γ) : ∀ (c : Code) (s : St) (x : Ex × St), (sxs P Γ c s).pick = some x → SemC P c s x := by
  intro c
  induction c with
  | skip => intro s x he n J Am Mi w0 θ a w h; cases he; exact wpIn_skip ⟨trivial, Am, θ, fun _ x => x, h⟩
  | label l => intro s x he n J Am Mi w0 θ a w h; cases he; exact wpIn_label ⟨trivial, Am, θ, fun _ x => x, h⟩
  | region id ops draw =>
    intro s x he n J Am Mi w0 θ a w h
    cases draw with
    | false =>
      simp only [sxs] at he
      rw [T.pick_bind] at he
      obtain ⟨s1, h1, h2⟩ := he
      cases h2
      exact region_wp hΓ h h1 fun Am' θ' a' w' hup hR => ⟨trivial, Am', θ', hup, hR⟩
    | true =>
      simp only [sxs] at he
      rw [T.pick_bind] at he
      obtain ⟨s1, h1, h2⟩ := he
      cases h2
      exact regionD_wp hΓ h h1 fun Am' θ' a' w' hup hR => ⟨trivial, Am', θ', hup, hR⟩
  | seq c d ihc ihd =>
    intro s x he n J Am Mi w0 θ a w h
    simp only [sxs] at he
    rw [T.pick_bind] at he
    obtain ⟨y, h1, h2⟩ := he
    refine wpIn_seq (wpIn_mono (ihc s y h1 n J Am Mi w0 θ a w h) ?_)
    rintro e a1 w1 ⟨hi, Am1, θ1, hup, hR⟩
    obtain ⟨ye, ys⟩ := y
    cases ye <;> cases e <;> simp only [Ex.is] at hi <;> simp only at h2
    · exact wpIn_mono (ihd ys x h2 n J Am1 Mi w0 θ1 a1 w1 hR) fun e2 a2 w2 ⟨hi2, Am2, θ2, hup2, hR2⟩ => ⟨hi2, Am2, θ2, fun b hb => hup2 b (hup b hb), hR2⟩
    · cases h2; subst hi; exact ⟨rfl, Am1, θ1, hup, hR⟩
    · cases h2; subst hi; exact ⟨rfl, Am1, θ1, hup, hR⟩
    · cases h2; exact ⟨trivial, Am1, θ1, hup, hR⟩
  | cond c d e ihd ihe =>
    intro s x he n J Am Mi w0 θ a w h
    have hcd := h.ev c
    simp only [sxs] at he
    split at he
    · rename_i hv
      rw [hv] at hcd
      exact wpIn_cond_true (den_bool hcd rfl) (ihd s x he n J Am Mi w0 θ a w h)
    · rename_i hv
      rw [hv] at hcd
      exact wpIn_cond_false (den_bool hcd rfl) (ihe s x he n J Am Mi w0 θ a w h)
    · rename_i t hv
      rw [hv] at hcd
      simp only [T.pick] at he
      cases t
      · exact wpIn_cond_false (den_bool hcd rfl) (ihe s x he n J Am Mi w0 θ a w h)
      · exact wpIn_cond_true (den_bool hcd rfl) (ihd s x he n J Am Mi w0 θ a w h)
    · simp [T.pick] at he
  | block id c ih =>
    intro s x he n J Am Mi w0 θ a w h
    simp only [sxs] at he
    rw [T.pick_bind] at he
    obtain ⟨y, h1, h2⟩ := he
    refine wpIn_block (wpIn_mono (ih s y h1 n J Am Mi w0 θ a w h) ?_)
    rintro e a1 w1 ⟨hi, Am1, θ1, hup, hR⟩
    obtain ⟨ye, ys⟩ := y
    cases ye <;> cases e <;> simp only [Ex.is] at hi <;> simp only at h2
    · cases h2; exact ⟨trivial, Am1, θ1, hup, hR⟩
    · subst hi
      simp only [Exit.inBlock]
      split at h2
      · rename_i hid; cases h2; rw [if_pos hid]; exact ⟨trivial, Am1, θ1, hup, hR⟩
      · rename_i hid; cases h2; rw [if_neg hid]; exact ⟨rfl, Am1, θ1, hup, hR⟩
    · cases h2; subst hi; exact ⟨rfl, Am1, θ1, hup, hR⟩
    · cases h2; exact ⟨trivial, Am1, θ1, hup, hR⟩
  | exit id => intro s x he n J Am Mi w0 θ a w h; cases he; exact wpIn_exit ⟨rfl, Am, θ, fun _ x => x, h⟩
  | goto l => intro s x he n J Am Mi w0 θ a w h; cases he; exact wpIn_goto ⟨rfl, Am, θ, fun _ x => x, h⟩
  | ret => intro s x he n J Am Mi w0 θ a w h; cases he; exact wpIn_ret ⟨trivial, Am, θ, fun _ x => x, h⟩
  | _ => intro s x he; simp [sxs, T.pick] at he

theorem sx_wp [GW] {P : Program} {Γ : Gam} {Λ : Lam} {root : Code} (hΓ : GOK P Γ) (hΛ : LamOK P root Λ) :
    ∀ (c : Code) (p : List Nat) (s : St) (x : Ex × St), codeAt root p = some c → (sx P Γ Λ p c s).pick = some x → SemC P c s x := by
  intro c
  induction c with
  | skip => intro p s x _ he n J Am Mi w0 θ a w h; cases he; exact wpIn_skip ⟨trivial, Am, θ, fun _ x => x, h⟩
  | label l => intro p s x _ he n J Am Mi w0 θ a w h; cases he; exact wpIn_label ⟨trivial, Am, θ, fun _ x => x, h⟩
  | region id ops draw =>
    intro p s x _ he n J Am Mi w0 θ a w h
    cases draw with
    | false =>
      simp only [sx] at he
      rw [T.pick_bind] at he
      obtain ⟨s1, h1, h2⟩ := he
      cases h2
      exact region_wp hΓ h h1 fun Am' θ' a' w' hup hR => ⟨trivial, Am', θ', hup, hR⟩
    | true =>
      simp only [sx] at he
      rw [T.pick_bind] at he
      obtain ⟨s1, h1, h2⟩ := he
      cases h2
      exact regionD_wp hΓ h h1 fun Am' θ' a' w' hup hR => ⟨trivial, Am', θ', hup, hR⟩
  | seq c d ihc ihd =>
    intro p s x hp he n J Am Mi w0 θ a w h
    simp only [sx] at he
    rw [T.pick_bind] at he
    obtain ⟨y, h1, h2⟩ := he
    have hc : codeAt root (0 :: p) = some c := by simp [codeAt, hp, child]
    have hd : codeAt root (1 :: p) = some d := by simp [codeAt, hp, child]
    refine wpIn_seq (wpIn_mono (ihc _ s y hc h1 n J Am Mi w0 θ a w h) ?_)
    rintro e a1 w1 ⟨hi, Am1, θ1, hup, hR⟩
    obtain ⟨ye, ys⟩ := y
    cases ye <;> cases e <;> simp only [Ex.is] at hi <;> simp only at h2
    · exact wpIn_mono (ihd _ ys x hd h2 n J Am1 Mi w0 θ1 a1 w1 hR) fun e2 a2 w2 ⟨hi2, Am2, θ2, hup2, hR2⟩ => ⟨hi2, Am2, θ2, fun b hb => hup2 b (hup b hb), hR2⟩
    · cases h2; subst hi; exact ⟨rfl, Am1, θ1, hup, hR⟩
    · cases h2; subst hi; exact ⟨rfl, Am1, θ1, hup, hR⟩
    · cases h2; exact ⟨trivial, Am1, θ1, hup, hR⟩
  | cond c d e ihd ihe =>
    intro p s x hp he n J Am Mi w0 θ a w h
    have hd : codeAt root (0 :: p) = some d := by simp [codeAt, hp, child]
    have hee : codeAt root (1 :: p) = some e := by simp [codeAt, hp, child]
    have hcd := h.ev c
    simp only [sx] at he
    split at he
    · rename_i hv
      rw [hv] at hcd
      exact wpIn_cond_true (den_bool hcd rfl) (ihd _ s x hd he n J Am Mi w0 θ a w h)
    · rename_i hv
      rw [hv] at hcd
      exact wpIn_cond_false (den_bool hcd rfl) (ihe _ s x hee he n J Am Mi w0 θ a w h)
    · rename_i t hv
      rw [hv] at hcd
      simp only [T.pick] at he
      cases t
      · exact wpIn_cond_false (den_bool hcd rfl) (ihe _ s x hee he n J Am Mi w0 θ a w h)
      · exact wpIn_cond_true (den_bool hcd rfl) (ihd _ s x hd he n J Am Mi w0 θ a w h)
    · simp [T.pick] at he
  | block id c ih =>
    intro p s x hp he n J Am Mi w0 θ a w h
    have hc : codeAt root (0 :: p) = some c := by simp [codeAt, hp, child]
    simp only [sx] at he
    rw [T.pick_bind] at he
    obtain ⟨y, h1, h2⟩ := he
    refine wpIn_block (wpIn_mono (ih _ s y hc h1 n J Am Mi w0 θ a w h) ?_)
    rintro e a1 w1 ⟨hi, Am1, θ1, hup, hR⟩
    obtain ⟨ye, ys⟩ := y
    cases ye <;> cases e <;> simp only [Ex.is] at hi <;> simp only at h2
    · cases h2; exact ⟨trivial, Am1, θ1, hup, hR⟩
    · subst hi
      simp only [Exit.inBlock]
      split at h2
      · rename_i hid; cases h2; rw [if_pos hid]; exact ⟨trivial, Am1, θ1, hup, hR⟩
      · rename_i hid; cases h2; rw [if_neg hid]; exact ⟨rfl, Am1, θ1, hup, hR⟩
    · cases h2; subst hi; exact ⟨rfl, Am1, θ1, hup, hR⟩
    · cases h2; exact ⟨trivial, Am1, θ1, hup, hR⟩
  | loop c ih =>
    intro p s x hp he
    simp only [sx] at he
    split at he
    · rename_i f hf
      obtain ⟨c', hc', hs⟩ := hΛ p f (lookP_mem hf)
      rw [hp] at hc'
      cases hc'
      exact hs s x he
    · simp [T.pick] at he
  | exit id => intro p s x _ he n J Am Mi w0 θ a w h; cases he; exact wpIn_exit ⟨rfl, Am, θ, fun _ x => x, h⟩
  | goto l => intro p s x _ he n J Am Mi w0 θ a w h; cases he; exact wpIn_goto ⟨rfl, Am, θ, fun _ x => x, h⟩
  | ret => intro p s x _ he n J Am Mi w0 θ a w h; cases he; exact wpIn_ret ⟨trivial, Am, θ, fun _ x => x, h⟩
  | rangeFunc f ps asg b _ _ =>
    intro p s x hp he
    simp only [sx] at he
    split at he
    · rename_i f hf
      obtain ⟨c', hc', hs⟩ := hΛ p f (lookP_mem hf)
      rw [hp] at hc'
      cases hc'
      exact hs s x he
    · simp [T.pick] at he
  | scope c ih =>
    intro p s x hp he n J Am Mi w0 θ a w h
    have hc : codeAt root (0 :: p) = some c := by simp [codeAt, hp, child]
    simp only [sx] at he
    rw [T.pick_bind] at he
    obtain ⟨y, h1, h2⟩ := he
    refine wpIn_scope_jump (wpIn_mono (ih _ s y hc h1 n J Am Mi w0 θ a w h) ?_)
    rintro e a1 w1 ⟨hi, Am1, θ1, hup, hR⟩
    obtain ⟨ye, ys⟩ := y
    cases ye <;> cases e <;> simp only [Ex.is] at hi <;> simp only at h2
    · cases h2; exact ⟨trivial, Am1, θ1, hup, hR⟩
    · cases h2; subst hi; exact ⟨rfl, Am1, θ1, hup, hR⟩
    · subst hi
      split at h2
      · rename_i rest hf
        rw [T.pick_bind] at h2
        obtain ⟨z, h3, h4⟩ := h2
        refine ⟨rest, hf, wpIn_mono (sxs_wp hΓ rest ys z h3 n J Am1 Mi w0 θ1 a1 w1 hR) ?_⟩
        rintro e a2 w2 ⟨hi, Am2, θ2, hup2, hR2⟩
        obtain ⟨ze, zs⟩ := z
        cases ze <;> cases e <;> simp only [Ex.is] at hi <;> simp only at h4
        · cases h4; exact ⟨trivial, Am2, θ2, fun b hb => hup2 b (hup b hb), hR2⟩
        · cases h4; subst hi; exact ⟨rfl, Am2, θ2, fun b hb => hup2 b (hup b hb), hR2⟩
        · simp [T.pick] at h4
        · cases h4; exact ⟨trivial, Am2, θ2, fun b hb => hup2 b (hup b hb), hR2⟩
      · simp [T.pick] at h2
    · cases h2; exact ⟨trivial, Am1, θ1, hup, hR⟩
  | refuse why => intro p s x _ he; simp [sx, T.pick] at he

/-! ### functions -/

def resV (P : Program) (s : St) : ResultVar → T V
  | .tmp t => .leaf (ev s (.tmp t))
  | .cell ad t => readV P t s (ev s (.tmp ad))

def resL (P : Program) (s : St) : List ResultVar → T (List V)
  | [] => .leaf []
  | x :: l => (resV P s x).bind fun v => (resL P s l).bind fun r => .leaf (v :: r)

def outV (P : Program) (fn : Func) (s : St) : T V :=
  (resL P s fn.results.toList).bind fun vs => match vs with
    | [v] => .ofOption (letGo s.lo v)
    | vs => .ofOption (letGo s.lo (.tup vs))

def initS (fn : Func) (args : List V) : St := { tm := args ++ List.replicate (fn.ntmps - args.length) .any, lo := [] }

/-- What is to be done when the function is left: marks alone, whose blocks hold nothing. -/
def dropMarks : List Df → List (Option Ob) → Option (List (Option Ob))
  | [], lo => some lo
  | .mark n :: ds, lo => match lo[n]? with
    | some (some .dfr) => dropMarks ds (lo.set n (some .deads))
    | _ => none
  | _ :: _, _ => none

def leaveV (P : Program) (fn : Func) (s : St) : T V :=
  match dropMarks s.df s.lo with
  | some lo => outV P fn { s with lo }
  | none => .bad

def funV (P : Program) (Γ : Gam) (Λ : Lam) (fn : Func) (c : Code) (args : List V) : T V :=
  (sx P Γ Λ [] c (initS fn args)).bind fun x => match x.1 with
    | .normal | .ret => leaveV P fn x.2
    | _ => .bad

section
variable [GW] {P : Program} {J : Jt P} {Am Mi : Nat → Prop} {w0 w : World} {s : St} {θ : Th} {a : Act} {Γ : Gam}

def resOne (tmps : Array Value) : ResultVar → Sem Value
  | .tmp t => pure (tmps.getD t undef)
  | .cell a t => do loadVar t (← asAddr (tmps.getD a undef))

theorem results_eq (fn : Func) (tmps : Array Value) : results fn tmps = (do let vs ← fn.results.mapM (resOne tmps); pure (if h : vs.size = 1 then vs[0] else .tuple vs)) := rfl

theorem resV_run (h : Rep J Am Mi w0 s θ a w) {x : ResultVar} {v : V} (e : (resV P s x).pick = some v) :
    ∃ u, (resOne a.tmps x).run P w = .ok u w ∧ Den (Stab Am s.lo θ w) (Liv s.lo) θ w v u := by
  cases x with
  | tmp t =>
    cases e
    exact ⟨_, rfl, h.ev (.tmp t)⟩
  | cell ad t =>
    simp only [resV] at e
    obtain ⟨y, hy, hd⟩ := readV_run h (h.ev (.tmp ad)) e
    refine ⟨y, ?_, hd⟩
    simp only [Act.eval] at hy
    simp only [resOne]
    generalize a.tmps.getD ad undef = z at hy ⊢
    cases z with
    | pointer p =>
      cases p with
      | some p => simpa [Instr.loadAt, Instr.sureAddr, asAddr] using hy
      | none => simp [Instr.loadAt, Instr.sureAddr, stuck, Sem.run, Result.andThen] at hy
    | _ => simp [Instr.loadAt, Instr.sureAddr, stuck, Sem.run, Result.andThen] at hy

theorem resL_run (h : Rep J Am Mi w0 s θ a w) : ∀ {l : List ResultVar} {vs : List V}, (resL P s l).pick = some vs →
    ∃ us, (l.mapM (resOne a.tmps)).run P w = .ok us w ∧ DenL (Stab Am s.lo θ w) (Liv s.lo) θ w vs us
  | [], vs, e => by
    cases e
    exact ⟨[], by simp, .nil⟩
  | x :: l, vs, e => by
    simp only [resL] at e
    rw [T.pick_bind] at e
    obtain ⟨v, hv, e⟩ := e
    rw [T.pick_bind] at e
    obtain ⟨rs, hr, e⟩ := e
    cases e
    obtain ⟨u, hu, hd⟩ := resV_run h hv
    obtain ⟨us, hus, hds⟩ := resL_run h hr
    refine ⟨u :: us, ?_, .cons _ _ _ _ hd hds⟩
    rw [List.mapM_cons]
    simp only [Sem.run_bind, hu, Result.andThen_ok, hus, Sem.run_pure]

theorem outV_run (h : Rep J Am Mi w0 s θ a w) {S' : Nat → Prop} (hS : ∀ b, Stab Am s.lo θ w b → S' b) (hO : ∀ (n : Nat) (o : Ob) (b : Nat), s.lo[n]? = some (some o) → uses θ n o b → S' b)
    {fn : Func} {v : V} (e : (outV P fn s).pick = some v) : ∃ u, (results fn a.tmps).run P w = .ok u w ∧ Den S' NoL th0 w v u := by
  unfold outV at e
  rw [T.pick_bind] at e
  obtain ⟨vs, hvs, e⟩ := e
  obtain ⟨us, hus, hd⟩ := resL_run h hvs
  have hm : (fn.results.mapM (resOne a.tmps)).run P w = .ok us.toArray w := by
    rw [Array.mapM_eq_mapM_toList, Sem.run_map, hus, Result.andThen_ok]
  have hlen := hd.length
  rw [results_eq, Sem.run_bind, hm, Result.andThen_ok]
  split at e
  · rename_i v1
    rw [T.pick_ofOption] at e
    cases hd with
    | cons x u l us' hx hl =>
      cases hl
      exact ⟨u, by simp, letGo_den h (fun _ _ x => x) hS hO hx e⟩
  · rename_i hne
    rw [T.pick_ofOption] at e
    refine ⟨.tuple us.toArray, ?_, letGo_den h (fun _ _ x => x) hS hO (.tup _ _ hd) e⟩
    have : ¬ us.toArray.size = 1 := by
      intro h1
      simp at h1
      rw [h1] at hlen
      match vs, hlen with
      | [x], _ => exact hne x rfl
    rw [dif_neg this]
    rfl

theorem marks_one {fn : Func} {R : Ending → World → Prop} {r : Option Nat} {n : Nat} {m : Nat} {rest : List Deferred} : ∀ (bs : List Nat) {s : St} {w : World}, Rep J Am Mi w0 s θ a w → s.lo[m]? = some (some .deads) → bs.Nodup → (∀ b ∈ bs, b ∈ (θ m).bs ∧ w.heap[b]? = some (.deferred (some []))) →
    (∀ w', Rep J Am Mi w0 s θ a w' → LeavesInM (FW r) n P fn a.tmps R rest .returning w') → LeavesInM (FW r) n P fn a.tmps R ((bs.map fun b => ({ target := .collected b, args := #[] } : Deferred)) ++ rest) .returning w
  | [], s, w, h, _, _, _, hK => hK w h
  | b :: bs, s, w, h, hm, hnd, hb, hK => by
    have hlen : m < s.lo.length := (List.getElem?_eq_some_iff.1 hm).1
    obtain ⟨hb1, hb2⟩ := hb b List.mem_cons_self
    have ht := h.turn m .deads .deads hm (fun b hb => hb) (fun _ _ e => by cases e) (.inr fun _ e => by cases e) (w' := w.putObj b (.deferred none)) rfl rfl rfl (by simp) (fun c hc => World.putObj_heap_other (fun e => hc (by rw [e]; exact hb1))) trivial
    have e : s.lo.set m (some .deads) = s.lo := by
      apply List.ext_getElem?
      intro i
      rw [List.getElem?_set]
      split
      · rename_i e; subst e; exact hm.symm
      · rfl
    rw [e] at ht
    have hnd' := List.nodup_cons.1 hnd
    exact ⟨by simp, .inl ⟨b, _, rfl, run_takeDeferred hb2, marks_one bs ht hm hnd'.2 (fun c hc => by
      obtain ⟨h1, h2⟩ := hb c (List.mem_cons_of_mem _ hc)
      exact ⟨h1, by rw [World.putObj_heap_other (fun e => hnd'.1 (by rw [← e]; exact hc))]; exact h2⟩) hK⟩⟩

theorem marks_leave {fn : Func} {R : Ending → World → Prop} {r : Option Nat} {n : Nat} : ∀ (ds : List Df) {s : St} {w : World} {lo : List (Option Ob)}, Rep J Am Mi w0 s θ a w → dropMarks ds s.lo = some lo →
    (∀ w', Rep J Am Mi w0 { s with lo } θ a w' → ∃ v, (results fn a.tmps).run P w' = .ok v w' ∧ R (.returned v) w') → LeavesInM (FW r) n P fn a.tmps R (ds.flatMap (Df.den θ)) .returning w
  | [], s, w, lo, h, hd, hK => by
    cases hd
    exact hK w h
  | .mark m :: ds, s, w, lo, h, hd, hK => by
    simp only [dropMarks] at hd
    split at hd
    · rename_i hm
      obtain ⟨hnd, hbs⟩ := h.lo m _ hm
      have hlen : m < s.lo.length := (List.getElem?_eq_some_iff.1 hm).1
      have ht := h.turn m .dfr .deads hm (fun b hb => hb) (fun _ _ e => by cases e) (.inr fun _ e => by cases e) (w' := w) rfl rfl rfl rfl (fun b hb => rfl) trivial
      rw [List.flatMap_cons]
      exact marks_one (m := m) (θ m).bs ht (by simp [hlen]) hnd (fun b hb => ⟨hb, hbs b hb⟩) fun w' h' => marks_leave ds h' hd hK
    · cases hd
  | .clo _ _ :: ds, s, w, lo, h, hd, hK => by simp [dropMarks] at hd

/-- What is known of l is known of l'. -/
def Weak (l l' : List V) : Prop := ∀ (S : Nat → Prop) (w : World) (vs : List Value), DenL S NoL th0 w l vs → DenL S NoL th0 w l' vs

/-- A function's contract, out of what its body comes to. -/
theorem specOK_of_bodyW {f : Nat} {fn : Func} {c : Code} {sp : List V → T V} (hΓ : GOK P Γ) (hf : P.funcs[f]? = some fn) (hb : fn.body = some c) (hent : entersB P f = true)
    (hsp : ∀ args r, (∀ x ∈ args, VB x) → (sp args).pick = some r → ∃ args' Λ, Weak args args' ∧ LamOK P c Λ ∧ (funV P Γ Λ fn c args').pick = some r) : SpecOK P f sp := by
  refine ⟨hent, fun S w args0 vals r hSw hgl hSg hd0 hr => (callsIn_wide (n := 0)).1 (callsIn_of_wp_marks hf hb trivial ?_ rfl)⟩
  obtain ⟨args, Λ, hwk, hΛ, he⟩ := hsp args0 r (fun x hx => let ⟨_, h⟩ := hd0.mem x hx; h.vb) hr
  have hd := hwk _ _ _ hd0
  unfold funV at he
  rw [T.pick_bind] at he
  obtain ⟨⟨ex, s1⟩, h1, h2⟩ := he
  have hlen := hd.length
  have hR : Rep (Jt.none P) (fun b => b < w.heap.size ∧ ¬ S b) (fun b => w.heap.size ≤ b) w (initS fn args) th0 { tmps := vals.toArray ++ Array.replicate (fn.ntmps - vals.toArray.size) undef, defers := [] } w := by
    have hS : ∀ b, S b → Stab (fun b => b < w.heap.size ∧ ¬ S b) (initS fn args).lo th0 w b := fun b hb => ⟨hSw b hb, fun hh => hh.2 hb, fun n o ho => by simp [initS] at ho⟩
    have hd' := hd.mono (L' := Liv (initS fn args).lo) hS (fun _ _ => rfl) (fun _ hf => hf.elim) (fun _ hf => hf.elim) (θ' := th0) (w' := w)
    refine ⟨by simp [initS, hlen], fun i v hv => ?_, fun n o ho => by simp [initS] at ho, fun n o b ho => by simp [initS] at ho, fun n m o o' b ho => by simp [initS] at ho, fun b hb => hb, Fr.refl _ _ ⟨fun x hx => Nat.not_le_of_lt (hgl.lt x hx), hgl⟩, fun b hb => hb.1, ⟨fun _ => False, ⟨fun _ hf => hf.elim, fun _ hf => hf.elim⟩, trivial, fun _ _ hf => hf.elim⟩, fun n go adm ho => by simp [initS] at ho, fun x hx hh => hh.2 (hSg x hx), ⟨rfl, fun l hl => (by cases hl)⟩, ⟨rfl, Nat.zero_le _, fun n hn => absurd hn (Nat.not_lt_zero _)⟩, rfl, fun d hd => by simp [initS] at hd⟩
    simp only [initS] at hv
    rw [List.getElem?_append] at hv
    split at hv
    · rename_i hi
      obtain ⟨u, hu, hdu⟩ := hd'.get i v hv
      refine ⟨u, ?_, hdu⟩
      rw [Array.getElem?_append]
      have : i < vals.toArray.size := by simp; omega
      rw [if_pos this]
      simpa using hu
    · rename_i hi
      rw [List.getElem?_replicate] at hv
      split at hv
      · rename_i hi2
        cases hv
        refine ⟨undef, ?_, .any _⟩
        rw [Array.getElem?_append]
        have : ¬ i < vals.toArray.size := by simp; omega
        rw [if_neg this, Array.getElem?_replicate, if_pos (by simp; omega)]
      · cases hv
  refine wpIn_mono (sx_wp hΓ hΛ c [] (initS fn args) (ex, s1) rfl h1 0 _ _ _ _ _ _ _ hR) ?_
  rintro e a' w' ⟨hi, Am', θ', hup, hR'⟩
  simp only at hR'
  have hdone : (leaveV P fn s1).pick = some r → LeavesInM (FW none) 0 P fn a'.tmps (fun e w'' => ∃ v, e = .returned v ∧ Below w.heap.size w w'' ∧ Den (fun b => S b ∨ (w.heap.size ≤ b ∧ b < w''.heap.size)) NoL th0 w'' r v) a'.defers .returning w' := fun ho => by
    unfold leaveV at ho
    split at ho
    · rename_i lo hlo
      rw [hR'.df]
      refine marks_leave s1.df hR' hlo fun w2 hR2 => ?_
      obtain ⟨u, hu, hdu⟩ := outV_run (S' := fun b => S b ∨ (w.heap.size ≤ b ∧ b < w2.heap.size)) hR2 (fun b hb => by
        by_cases hlt : b < w.heap.size
        · exact .inl (Classical.byContradiction fun hn => hb.2.1 (hup b ⟨hlt, hn⟩))
        · exact .inr ⟨by omega, hb.1⟩) (fun n o b ho hu => .inr ⟨(hR2.lt n o b ho hu).2.1, (hR2.lt n o b ho hu).1⟩) ho
      exact ⟨u, hu, u, rfl, ⟨hR2.fr.os, hR2.fr.tape, hR2.fr.output, hR2.fr.size, fun b hb => hR2.fr.block b hb (by omega)⟩, hdu⟩
    · simp [T.pick] at ho
  cases ex <;> cases e <;> simp only [Ex.is] at hi <;> simp only at h2
  · exact hdone h2
  · simp [T.pick] at h2
  · simp [T.pick] at h2
  · exact hdone h2

theorem specOK_of_body {f : Nat} {fn : Func} {c : Code} {sp : List V → T V} (hΓ : GOK P Γ) {Λ : Lam} (hΛ : LamOK P c Λ) (hf : P.funcs[f]? = some fn) (hb : fn.body = some c) (hent : entersB P f = true)
    (hsp : ∀ args r, (sp args).pick = some r → (funV P Γ Λ fn c args).pick = some r) : SpecOK P f sp :=
  specOK_of_bodyW hΓ hf hb hent fun args r _ h => ⟨args, Λ, fun _ _ _ x => x, hΛ, hsp args r h⟩

theorem den_sp {S : Nat → Prop} {k : Nat} {get get' : Nat → SX.Q} (h : ∀ j, j < k → get j = get' j) {v : Value} (hd : DenQ S w (.sp k get) v) : DenQ S w (.sp k get') v := by
  obtain ⟨b, off, u, rfl, h1, h2, h3⟩ := hd.sp_inv
  exact .sp _ _ b off u h1 h2 fun j hj => h j hj ▸ h3 j hj

theorem Weak.sp {k : Nat} {get get' : Nat → SX.Q} (h : ∀ j, j < k → get j = get' j) {l l' : List V} (hl : Weak l l') : Weak (.q (.sp k get) :: l) (.q (.sp k get') :: l') := fun S w vs hd => by
  cases hd with
  | cons x v l vs h1 h2 => exact .cons _ _ _ _ (.q _ _ (den_sp h h1.q_inv)) (hl _ _ _ h2)

theorem Weak.cons {x : V} {l l' : List V} (hl : Weak l l') : Weak (x :: l) (x :: l') := fun S w vs hd => by
  cases hd with
  | cons x v l vs h1 h2 => exact .cons _ _ _ _ h1 (hl _ _ _ h2)

theorem Weak.nil : Weak [] [] := fun _ _ _ h => h

end
end Go.SX
