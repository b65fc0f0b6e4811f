/- What an operation makes of the symbolic state: values. -/
import Derived.Test.YtgmeglodnhagdaaGreatDoorSxB
namespace Go.SX
open Go.RowKit
set_option linter.unusedVariables false
set_option linter.unusedSimpArgs false
set_option linter.unusedSectionVars false

/-- A tree of answers: the tests are truth values. -/
inductive T (α : Type) where
  | leaf (x : α)
  | ite (b : Bool) (t e : T α)
  | bad
  deriving Inhabited

def T.bind {α β : Type} : T α → (α → T β) → T β
  | .leaf x, k => k x
  | .ite b t e, k => .ite b (t.bind k) (e.bind k)
  | .bad, _ => .bad

def T.pick {α : Type} : T α → Option α
  | .leaf x => some x
  | .ite b t e => bif b then t.pick else e.pick
  | .bad => none

def T.map {α β : Type} (f : α → β) (t : T α) : T β := t.bind fun x => .leaf (f x)

theorem T.pick_bind {α β : Type} (t : T α) (k : α → T β) (r : β) : (t.bind k).pick = some r ↔ ∃ x, t.pick = some x ∧ (k x).pick = some r := by
  induction t with
  | leaf x => simp [T.bind, T.pick]
  | ite b t e iht ihe => cases b <;> simp [T.bind, T.pick, iht, ihe]
  | bad => simp [T.bind, T.pick]

def T.ofOption {α : Type} : Option α → T α
  | some x => .leaf x
  | none => .bad

theorem T.pick_ofOption {α : Type} (o : Option α) : (T.ofOption o).pick = o := by cases o <;> rfl

/-- What a piece of the model's code answers that asks no memory. -/
def run0 {α : Type} (P : Program) : Sem α → Option α
  | .pure a => some a
  | .program k => run0 P (k P)
  | .mark _ k => run0 P k
  | _ => none

theorem run0_run {α : Type} {P : Program} (s : Sem α) {a : α} (w : World) (h : run0 P s = some a) : s.run P w = .ok a w := by
  induction s with
  | pure x => simp [run0] at h; subst h; rfl
  | program k ih => exact ih P h
  | mark m k ih => exact ih h
  | _ => simp [run0] at h

def V.ofC : Value → V
  | .agg cs => .agg (cs.toList.map fun x => .q (.c x))
  | .bool b => .kb b
  | v => .q (.c v)

/-- The same of what was reckoned: its truth values are not literal. -/
def V.ofR : Value → V
  | .agg cs => .agg (cs.toList.map fun x => .q (.c x))
  | v => .q (.c v)

theorem denL_closed {S L : Nat → Prop} {θ : Th} {w : World} (l : List Value) : DenL S L θ w (l.map fun x => .q (.c x)) l := by
  induction l with
  | nil => exact .nil
  | cons x l ih => exact .cons _ _ _ _ (.q _ _ (.c x)) ih

theorem den_ofR {S L : Nat → Prop} {θ : Th} {w : World} (v : Value) : Den S L θ w (V.ofR v) v := by
  cases v <;> first | exact .q _ _ (.c _) | skip
  rename_i cs
  have := Den.agg (S := S) (L := L) (θ := θ) (w := w) _ _ (denL_closed (S := S) (L := L) (θ := θ) (w := w) cs.toList)
  simpa [V.ofR] using this

theorem den_ofC {S L : Nat → Prop} {θ : Th} {w : World} (v : Value) : Den S L θ w (V.ofC v) v := by
  cases v <;> first | exact .q _ _ (.c _) | exact .kb _ | skip
  rename_i cs
  have := Den.agg (S := S) (L := L) (θ := θ) (w := w) _ _ (denL_closed (S := S) (L := L) (θ := θ) (w := w) cs.toList)
  simpa [V.ofC] using this

def ev (s : St) : Operand → V
  | .tmp t => (s.tm.getD t .any).unlc
  | .const v => V.ofC v
  | .global g => .q (.c (.pointer (some ⟨g, 0, none⟩)))
  | .func f => .q (.c (.func (.func f) #[] #[]))

section
variable [GW] {P : Program} {J : Jt P} {Am Mi : Nat → Prop} {w0 w : World} {s : St} {θ : Th} {a : Act}

theorem Rep.ev (h : Rep J Am Mi w0 s θ a w) (x : Operand) : Den (Stab Am s.lo θ w) (Liv s.lo) θ w (ev s x) (a.eval x) := by
  cases x with
  | tmp t =>
    simp only [SX.ev, Act.eval, List.getD_eq_getElem?_getD]
    cases ht : s.tm[t]? with
    | none => exact .any _
    | some v =>
      obtain ⟨u, hu, hd⟩ := h.tm t v ht
      simpa [Array.getD_eq_getD_getElem?, hu] using hd.unlc
  | const v => exact den_ofC v
  | global g => exact .q _ _ (.c _)
  | func f => exact .q _ _ (.c _)

/-- The value of a place, as it stands. -/
def evr (s : St) : Operand → V
  | .tmp t => s.tm.getD t .any
  | x => SX.ev s x

theorem Rep.evr (h : Rep J Am Mi w0 s θ a w) (x : Operand) : Den (Stab Am s.lo θ w) (Liv s.lo) θ w (evr s x) (a.eval x) := by
  cases x with
  | tmp t =>
    simp only [SX.evr, Act.eval, List.getD_eq_getElem?_getD]
    cases ht : s.tm[t]? with
    | none => exact .any _
    | some v =>
      obtain ⟨u, hu, hd⟩ := h.tm t v ht
      simpa [Array.getD_eq_getD_getElem?, hu] using hd
  | const v => exact h.ev (.const v)
  | global g => exact h.ev (.global g)
  | func f => exact h.ev (.func f)

/-- A closed value. -/
def V.c1? : V → Option Value
  | .q (.c x) => some x
  | .kb b => some (.bool b)
  | _ => none

def V.cl? : List V → Option (List Value)
  | [] => some []
  | x :: l => match V.c1? x with
    | some v => (V.cl? l).map (v :: ·)
    | none => none

def V.val? : V → Option Value
  | .q (.c x) => some x
  | .kb b => some (.bool b)
  | .agg l => (V.cl? l).map fun vs => .agg vs.toArray
  | _ => none

theorem den_c1 {S L : Nat → Prop} {x : V} {u v : Value} (h : Den S L θ w x u) (e : x.c1? = some v) : u = v := by
  cases h with
  | q y z hq =>
    cases hq with
    | c z => simpa [V.c1?] using e
    | _ => simp [V.c1?] at e
  | kb b => simpa [V.c1?] using e
  | _ => simp [V.c1?] at e

theorem den_cl {S L : Nat → Prop} : ∀ {l : List V} {us vs : List Value}, DenL S L θ w l us → V.cl? l = some vs → us = vs
  | _, _, _, .nil, e => by simpa [V.cl?] using e
  | _, _, vs, .cons x v l us h hl, e => by
    simp only [V.cl?] at e
    cases hx : V.c1? x with
    | none => simp [hx] at e
    | some y =>
      simp only [hx] at e
      cases hr : V.cl? l with
      | none => simp [hr] at e
      | some zs =>
        simp only [hr, Option.map_some, Option.some.injEq] at e
        rw [← e, den_c1 h hx, den_cl hl hr]

theorem den_val {S L : Nat → Prop} {x : V} {u v : Value} (h : Den S L θ w x u) (e : x.val? = some v) : u = v := by
  cases h with
  | q y z hq =>
    cases hq with
    | c z => simpa [V.val?] using e
    | _ => simp [V.val?] at e
  | kb b => simpa [V.val?] using e
  | agg l vs hl =>
    simp only [V.val?] at e
    cases hr : V.cl? l with
    | none => simp [hr] at e
    | some zs =>
      simp only [hr, Option.map_some, Option.some.injEq] at e
      rw [← e, den_cl hl hr]
  | _ => simp [V.val?] at e

def Op.opnds : Op → Array Operand := Op.operands

def isSelect : Op → Bool
  | .select .. => true
  | _ => false

def rhoOf (s : St) (x : Operand) : Value := ((ev s x).val?).getD undef

/-- An operation on closed values that asks no memory: the model's own code, run. -/
def pureOp (P : Program) (o : Oper) (s : St) : Option V :=
  if !isSelect o.op && o.op.operands.all (fun x => ((ev s x).val?).isSome) then
    match run0 P (execOp (rhoOf s) o) with
    | some (.value v) => some (V.ofR v)
    | _ => none
  else none

theorem pureOp_run (h : Rep J Am Mi w0 s θ a w) (o : Oper) {x : V} (e : pureOp P o s = some x) :
    ∃ v, (execOp a.eval o).run P w = .ok (.value v) w ∧ Den (Stab Am s.lo θ w) (Liv s.lo) θ w x v := by
  unfold pureOp at e
  split at e
  · rename_i hc
    simp only [Bool.and_eq_true, Bool.not_eq_true', Array.all_eq_true'] at hc
    have hcong : execOp a.eval o = execOp (rhoOf s) o := by
      refine execOp_congr o (fun cs b hs => by simp [isSelect, hs] at hc) (fun y hy => ?_)
      have h1 := hc.2 y hy
      cases hv : (ev s y).val? with
      | none => simp [hv] at h1
      | some z => simp only [rhoOf, hv, Option.getD_some]; exact den_val (h.ev y) hv
    split at e
    · rename_i v hv
      cases e
      exact ⟨v, by rw [hcong]; exact run0_run _ w hv, den_ofR v⟩
    · cases e
  · cases e

end
end Go.SX
