/- Regions whose order is open: the text's order stands for all. -/
import Derived.Test.YtgmeglodnhagdaaGreatDoorSxK
namespace Go.SX
open Go.RowKit
set_option linter.unusedVariables false
set_option linter.unusedSimpArgs false
set_option linter.unusedSectionVars false

def Upd.isY : Upd → Bool
  | .yl _ _ => true
  | _ => false

structure Rec where
  i : Nat
  o : Oper
  mn : List Nat
  wn : List Nat
  yl : Bool

def commR (ops : List Oper) (x y : Rec) : Bool :=
  (match x.o.dst with | some d => !(opTmps ops y.o).contains d && y.o.dst != some d | none => true) &&
  (match y.o.dst with | some d => !(opTmps ops x.o).contains d | none => true) &&
  (x.wn.all fun n => !y.mn.contains n && !y.wn.contains n) &&
  (y.wn.all fun n => !x.mn.contains n) && !(x.yl && y.yl)

def traceT (P : Program) (Γ : Gam) (ops : List Oper) (base : Nat) : List (Nat × Oper) → St → T (St × List Rec)
  | [], s => .leaf (s, [])
  | (i, o) :: l, s => (effG P Γ ops (base + i) o s).bind fun u => (traceT P Γ ops base l (u.ap o.dst s)).bind fun r => .leaf (r.1, ⟨i, o, opNms o s, u.wn, isYl o s⟩ :: r.2)

/-- Which operations stand ahead of each, whatever the order. -/
def depsE (acc : List Nat) : List Edge → Nat
  | [] => 0
  | e :: es => (if Region.binds .any e then (1 <<< e.on) ||| acc.getD e.on 0 else 0) ||| depsE acc es
def depsOf : List Oper → List Nat → List Nat
  | [], acc => acc
  | o :: l, acc => depsOf l (acc ++ [depsE acc o.after.toList])

def backB (ops : List Oper) : Bool := (ops.zipIdx).all fun (o, i) => o.after.toList.all fun e => !Region.binds .any e || decide (e.on < i)

def pairsB (ops : List Oper) (deps : List Nat) : List Rec → Bool
  | [] => true
  | x :: l => (l.all fun y => (deps.getD y.i 0).testBit x.i || commR ops x y) && pairsB ops deps l

def index : Nat → List Oper → List (Nat × Oper)
  | _, [] => []
  | i, o :: l => (i, o) :: index (i + 1) l

def padS (k : Nat) (s : St) : St := { s with lo := s.lo ++ List.replicate k none }

def T.allBad {α : Type} : T α → Bool
  | .leaf _ => false
  | .ite _ t e => t.allBad && e.allBad
  | .bad => true

/-- Does the tree come to a leaf? -/
def T.okB {α : Type} : T α → Bool
  | .leaf _ => true
  | .ite b t e => if t.noBad && e.noBad then true else bif b then t.okB else e.okB
  | .bad => false

def colT2 (i : Nat) : T St → V
  | .leaf s => s.tm.getD i .any
  | .ite b t e => if t.allBad then colT2 i e else if e.allBad then colT2 i t else mergeV b (colT2 i t) (colT2 i e)
  | .bad => .any

def mergeTm2 (ds : List Nat) (t : T St) : Nat → List V → List V
  | _, [] => []
  | i, v :: l => (if ds.contains i then colT2 i t else v) :: mergeTm2 ds t (i + 1) l

/-- The ways of a region that only reckons values, brought together. -/
def joinT (s : St) (ds : List Nat) (t : T St) : T St :=
  match t with
  | .leaf s' => .leaf s'
  | t => if t.noBad then .leaf { s with tm := mergeTm2 ds t 0 s.tm } else .ite t.okB (.leaf { s with tm := mergeTm2 ds t 0 s.tm }) .bad

def runD (P : Program) (Γ : Gam) (ops : List Oper) (s : St) : T St :=
  if P.follows .mixedOrders && backB ops then
    if ops.any hasGuard && ops.all (isV Γ) then
      joinT (padS ops.length s) (dsts ops) ((traceT P Γ ops s.lo.length (index 0 ops) (padS ops.length s)).bind fun r => if pairsB ops (depsOf ops []) r.2 && r.2.all (fun x => x.wn.isEmpty && !x.yl) then .leaf r.1 else .bad)
    else (traceT P Γ ops s.lo.length (index 0 ops) (padS ops.length s)).bind fun r => if pairsB ops (depsOf ops []) r.2 then .leaf r.1 else .bad
  else .bad

theorem allBad_pick {α : Type} : ∀ {t : T α}, t.allBad = true → t.pick = none
  | .leaf _, h => by cases h
  | .bad, _ => rfl
  | .ite b t e, h => by
    simp only [T.allBad, Bool.and_eq_true] at h
    simp only [T.pick, allBad_pick h.1, allBad_pick h.2]
    cases b <;> rfl

theorem noBad_pick {α : Type} : ∀ {t : T α}, t.noBad = true → ∃ x, t.pick = some x
  | .leaf x, _ => ⟨x, rfl⟩
  | .bad, h => by cases h
  | .ite b t e, h => by
    simp only [T.noBad, Bool.and_eq_true] at h
    obtain ⟨x, hx⟩ := noBad_pick h.1
    obtain ⟨y, hy⟩ := noBad_pick h.2
    cases b
    · exact ⟨y, by simpa [T.pick] using hy⟩
    · exact ⟨x, by simpa [T.pick] using hx⟩

theorem okB_pick {α : Type} : ∀ {t : T α}, t.okB = true → ∃ x, t.pick = some x
  | .leaf x, _ => ⟨x, rfl⟩
  | .bad, h => by cases h
  | .ite b t e, h => by
    simp only [T.okB] at h
    split at h
    · rename_i hc
      exact noBad_pick (t := .ite b t e) hc
    · cases b
      · obtain ⟨y, hy⟩ := okB_pick (t := e) h
        exact ⟨y, by simpa [T.pick] using hy⟩
      · obtain ⟨x, hx⟩ := okB_pick (t := t) h
        exact ⟨x, by simpa [T.pick] using hx⟩

theorem mergeTm2_get {ds : List Nat} {t : T St} : ∀ (l : List V) (i j : Nat) (v : V), (mergeTm2 ds t i l)[j]? = some v → (ds.contains (i + j) = true ∧ v = colT2 (i + j) t) ∨ (ds.contains (i + j) = false ∧ l[j]? = some v)
  | [], i, j, v, h => by simp [mergeTm2] at h
  | x :: l, i, 0, v, h => by
    simp only [mergeTm2, List.getElem?_cons_zero, Option.some.injEq] at h
    by_cases hc : ds.contains i = true
    · rw [if_pos hc] at h; exact .inl ⟨hc, h.symm⟩
    · rw [if_neg hc] at h; exact .inr ⟨by simpa using hc, by simp [h]⟩
  | x :: l, i, j + 1, v, h => by
    simp only [mergeTm2, List.getElem?_cons_succ] at h
    have := mergeTm2_get l (i + 1) j v h
    rw [show i + 1 + j = i + (j + 1) by omega] at this
    simpa using this

theorem mergeTm2_length {ds : List Nat} {t : T St} : ∀ (l : List V) (i : Nat), (mergeTm2 ds t i l).length = l.length
  | [], _ => rfl
  | x :: l, i => by simp [mergeTm2, mergeTm2_length l (i + 1)]

inductive Tr (P : Program) (Γ : Gam) (ops : List Oper) (base : Nat) : List (Nat × Oper) → St → St → List Rec → Prop
  | nil (s : St) : Tr P Γ ops base [] s s []
  | cons (i : Nat) (o : Oper) (l : List (Nat × Oper)) (s s' : St) (u : Upd) (rs : List Rec) (h : (effG P Γ ops (base + i) o s).pick = some u) (ht : Tr P Γ ops base l (u.ap o.dst s) s' rs) :
      Tr P Γ ops base ((i, o) :: l) s s' (⟨i, o, opNms o s, u.wn, isYl o s⟩ :: rs)

section
variable {P : Program} {Γ : Gam} {ops : List Oper} {base : Nat}

theorem tr_of_trace : ∀ {l : List (Nat × Oper)} {s s' : St} {rs : List Rec}, (traceT P Γ ops base l s).pick = some (s', rs) → Tr P Γ ops base l s s' rs
  | [], s, s', rs, h => by cases h; exact .nil _
  | (i, o) :: l, s, s', rs, h => by
    simp only [traceT] at h
    rw [T.pick_bind] at h
    obtain ⟨u, hu, h⟩ := h
    rw [T.pick_bind] at h
    obtain ⟨⟨s1, r1⟩, h1, h⟩ := h
    cases h
    exact .cons i o l s _ u r1 hu (tr_of_trace h1)

theorem ins_set {lo : List (Option Ob)} {n : Nat} (h : n < lo.length) (o : Ob) : ins lo n o = lo.set n (some o) := by
  unfold ins
  have : n + 1 - lo.length = 0 := by omega
  simp [this]

theorem putT_comm {tm : List V} {d d' : Option Nat} {v v' : V} (h : ∀ x, d = some x → d' ≠ some x) : putT (putT tm d v) d' v' = putT (putT tm d' v') d v := by
  cases d with
  | none => rfl
  | some x =>
    cases d' with
    | none => rfl
    | some y =>
      have hne : x ≠ y := fun e => h x rfl (by rw [e])
      simp only [putT]
      exact List.set_comm _ _ hne

/-- What an operation sets: its place's value; the resources, by name. -/
def Upd.vo : Upd → Option V
  | .val v => some v
  | .new n o => some (newV n o)
  | .set _ _ => none
  | .many v _ => some v
  | .yl v _ => some v
def Upd.yo : Upd → List (List V)
  | .yl _ args => [args]
  | _ => []
def Upd.wo : Upd → List (Nat × Ob)
  | .val _ => []
  | .new n o => [(n, o)]
  | .set n o => [(n, o)]
  | .many _ ws => ws
  | .yl _ _ => []
def putV (tm : List V) (d : Option Nat) : Option V → List V
  | some v => putT tm d v
  | none => tm
def setL : List (Nat × Ob) → List (Option Ob) → List (Option Ob)
  | [], lo => lo
  | (n, o) :: l, lo => setL l (lo.set n (some o))

theorem setL_length : ∀ (l : List (Nat × Ob)) (lo : List (Option Ob)), (setL l lo).length = lo.length
  | [], _ => rfl
  | (n, o) :: l, lo => by simp only [setL]; rw [setL_length l]; simp

theorem insL_set : ∀ (l : List (Nat × Ob)) (lo : List (Option Ob)), (∀ x ∈ l, x.1 < lo.length) → insL l lo = setL l lo
  | [], _, _ => rfl
  | (n, o) :: l, lo, h => by
    simp only [insL, setL]
    rw [ins_set (h (n, o) List.mem_cons_self), insL_set l _ fun x hx => by simpa using h x (List.mem_cons_of_mem _ hx)]

theorem wn_wo (u : Upd) : u.wn = u.wo.map (·.1) := by cases u <;> rfl

theorem ap_eq {u : Upd} {d : Option Nat} {s : St} (hn : ∀ n ∈ u.wn, n < s.lo.length) : u.ap d s = { s with tm := putV s.tm d u.vo, lo := setL u.wo s.lo, ys := s.ys ++ u.yo } := by
  cases u with
  | val v => simp [Upd.ap, Upd.vo, Upd.wo, Upd.yo, setL, putV]
  | new n o => simp [Upd.ap, Upd.vo, Upd.wo, Upd.yo, setL, putV, ins_set (hn n (by simp [Upd.wn]))]
  | set n o => simp [Upd.ap, Upd.vo, Upd.wo, Upd.yo, setL, putV]
  | many v ws =>
    simp only [Upd.ap, Upd.vo, Upd.wo, Upd.yo, putV, List.append_nil]
    rw [insL_set ws _ fun x hx => hn x.1 (by simp only [Upd.wn, List.mem_map]; exact ⟨x, hx, rfl⟩)]
  | yl v args => simp [Upd.ap, Upd.vo, Upd.wo, Upd.yo, setL, putV]

theorem setL_other : ∀ (l : List (Nat × Ob)) (lo : List (Option Ob)) (n : Nat), n ∉ l.map (·.1) → (setL l lo)[n]? = lo[n]?
  | [], _, _, _ => rfl
  | (m, o) :: l, lo, n, h => by
    simp only [List.map_cons, List.mem_cons, not_or] at h
    simp only [setL]
    rw [setL_other l _ n h.2, List.getElem?_set_ne (fun e => h.1 e.symm)]

theorem setL_set : ∀ (l : List (Nat × Ob)) (lo : List (Option Ob)) (n : Nat) (o : Ob), n ∉ l.map (·.1) → setL l (lo.set n (some o)) = (setL l lo).set n (some o)
  | [], _, _, _, _ => rfl
  | (m, o') :: l, lo, n, o, h => by
    simp only [List.map_cons, List.mem_cons, not_or] at h
    simp only [setL]
    rw [List.set_comm _ _ h.1, setL_set l _ n o h.2]

theorem setL_comm : ∀ (l l' : List (Nat × Ob)) (lo : List (Option Ob)), (∀ n, n ∈ l.map (·.1) → n ∉ l'.map (·.1)) → setL l' (setL l lo) = setL l (setL l' lo)
  | [], l', lo, _ => rfl
  | (m, o) :: l, l', lo, h => by
    simp only [setL]
    rw [setL_comm l l' _ fun n hn => h n (List.mem_cons_of_mem _ hn), setL_set l' _ m o (h m List.mem_cons_self)]

theorem putV_comm {tm : List V} {d d' : Option Nat} {v v' : Option V} (h : ∀ x, d = some x → d' ≠ some x) : putV (putV tm d v) d' v' = putV (putV tm d' v') d v := by
  cases v <;> cases v' <;> simp only [putV]
  exact putT_comm h

theorem ap_length {u : Upd} {d : Option Nat} {s : St} (hn : ∀ n ∈ u.wn, n < s.lo.length) : (u.ap d s).lo.length = s.lo.length := by
  rw [ap_eq hn]
  exact setL_length _ _

theorem ap_comm {u u' : Upd} {d d' : Option Nat} {s : St} (hd : ∀ x, d = some x → d' ≠ some x) (hn : ∀ n ∈ u.wn, n ∉ u'.wn)
    (h1 : ∀ n ∈ u.wn, n < s.lo.length) (h2 : ∀ n ∈ u'.wn, n < s.lo.length) (hy : (u.isY && u'.isY) = false) : u'.ap d' (u.ap d s) = u.ap d (u'.ap d' s) := by
  rw [ap_eq (u := u') (s := u.ap d s) (by rw [ap_length h1]; exact h2), ap_eq (u := u) (s := u'.ap d' s) (by rw [ap_length h2]; exact h1), ap_eq h1, ap_eq h2]
  simp only
  rw [putV_comm hd, setL_comm _ _ _ (by rw [← wn_wo, ← wn_wo]; exact hn)]
  congr 1
  cases u <;> cases u' <;> simp [Upd.isY] at hy <;> simp [Upd.yo]

theorem ap_ys {u : Upd} {d : Option Nat} {s : St} (h : u.isY = false) : (u.ap d s).ys = s.ys := by
  cases u <;> simp [Upd.isY] at h <;> rfl

theorem ap_tm {u : Upd} {d : Option Nat} {s : St} {t : Nat} (h : d ≠ some t) : (u.ap d s).tm.getD t .any = s.tm.getD t .any := by
  have : ∀ v, (putT s.tm d v).getD t .any = s.tm.getD t .any := fun v => by
    cases d with
    | none => rfl
    | some x =>
      have hne : x ≠ t := fun e => h (by rw [e])
      simp [putT, List.getD_eq_getElem?_getD, List.getElem?_set_ne hne]
  cases u with
  | val v => exact this v
  | new n o => exact this _
  | set n o => rfl
  | many v ws => exact this v
  | yl v args => exact this v

theorem ap_lo {u : Upd} {d : Option Nat} {s : St} {n : Nat} (h : n ∉ u.wn) (hr : ∀ n ∈ u.wn, n < s.lo.length) : (u.ap d s).lo[n]? = s.lo[n]? := by
  rw [ap_eq hr]
  exact setL_other _ _ _ (by rw [← wn_wo]; exact h)

theorem effX_wn {nm : Nat} {o : Oper} {s : St} {u : Upd} (h : (effX P Γ nm o s).pick = some u) (n : Nat) (hn : n ∈ u.wn) : n = nm ∨ ∃ ob, s.lo[n]? = some (some ob) := by
  have hx : ∀ {n' : Nat} {x : XOut} {u : Upd}, (xOut n' nm x).pick = some u → ∀ n ∈ u.wn, n = nm ∨ n = n' ∧ x.lent.isSome := fun {n' x u} h n hn => by
    unfold xOut at h
    split at h
    · cases h
      simp only [Upd.wn, List.map_append, List.mem_append] at hn
      rcases hn with hn | hn
      · cases hl : x.lent with
        | none => simp [hl, optW] at hn
        | some o => simp [hl, optW] at hn; exact .inr ⟨hn, rfl⟩
      · cases hl : x.new with
        | none => simp [hl, optW] at hn
        | some o => simp [hl, optW] at hn; exact .inl hn
    · simp [T.pick] at h
  unfold effX at h
  split at h
  · rename_i c hop
    split at h
    · split at h
      · unfold appE at h
        split at h
        · split at h
          · rename_i n' t ks len get ks' m g el sz by_ hev hvec hy hei
            split at h
            · simp only [T.pick] at h
              cases hb : roomB len m by_ with
              | false => simp [hb] at h
              | true =>
                simp only [hb, cond_true, Option.some.injEq] at h
                subst h
                simp [Upd.wn] at hn
                rcases hn with rfl | rfl
                · rw [hev] at hvec
                  simp only [vecOf] at hvec
                  split at hvec
                  · rename_i hh
                    exact .inr ⟨_, hh⟩
                  · cases hvec
                · exact .inl rfl
            · simp [T.pick] at h
          · rename_i ks m g el sz by_ _ _ _
            split at h
            · simp only [T.pick] at h
              cases hb : roomB 0 m by_ with
              | false => simp [hb] at h
              | true =>
                simp only [hb, cond_true, Option.some.injEq] at h
                subst h
                simp [Upd.wn] at hn
                exact .inl hn
            · simp [T.pick] at h
          · simp [T.pick] at h
        · simp [T.pick] at h
      · simp [T.pick] at h
    · split at h
      · split at h
        · unfold xcall at h
          split at h
          · split at h
            · rename_i n' rest
              split at h
              · rename_i t cs hlo
                split at h
                · rw [T.pick_bind] at h
                  obtain ⟨x, _, h⟩ := h
                  rcases hx h n hn with e | ⟨e, _⟩
                  · exact .inl e
                  · subst e; exact .inr ⟨_, hlo⟩
                · simp [T.pick] at h
              · simp [T.pick] at h
            · simp [T.pick] at h
          · split at h
            · rw [T.pick_bind] at h
              obtain ⟨x, _, h⟩ := h
              rcases hx h n hn with e | ⟨e, _⟩
              · exact .inl e
              · exact .inl e
            · split at h
              · rw [T.pick_bind] at h
                obtain ⟨x, _, h⟩ := h
                split at h
                · rcases hx h n hn with e | ⟨e, _⟩
                  · exact .inl e
                  · exact .inl e
                · simp [T.pick] at h
              · simp [T.pick] at h
        · simp [T.pick] at h
      · simp [T.pick] at h
    · simp [T.pick] at h
  · simp [T.pick] at h

theorem eff_wn {nm : Nat} {o : Oper} {s : St} {u : Upd} (h : (effG P Γ ops nm o s).pick = some u) (n : Nat) (hn : n ∈ u.wn) : n = nm ∨ ∃ ob, s.lo[n]? = some (some ob) := by
  have h1 : ∀ {u : Upd}, (eff1 P Γ nm o s).pick = some u → ∀ n ∈ u.wn, n = nm ∨ ∃ ob, s.lo[n]? = some (some ob) := fun {u} h n hn => by
    unfold eff1 at h
    split at h
    · rw [T.pick_bind] at h
      obtain ⟨v, _, h⟩ := h
      cases h
      cases hn
    · split at h
      · rename_i u' h'
        cases h
        unfold effM at h'
        split at h'
        · split at h' <;> cases h'; simp [Upd.wn] at hn; exact .inl hn
        · split at h' <;> cases h'; simp [Upd.wn] at hn; exact .inl hn
        · split at h'
          · split at h'
            · rename_i ty cs hcs
              split at h' <;> cases h'
              simp [Upd.wn] at hn
              subst hn
              exact .inr ⟨_, hcs⟩
            · cases h'
          · cases h'
        · split at h'
          · split at h'
            · split at h' <;> cases h'
              simp [Upd.wn] at hn
              exact .inl hn
            · cases h'
          · cases h'
        · split at h'
          · split at h'
            · rename_i h6 _
              split at h' <;> cases h'
              simp [Upd.wn] at hn
              subst hn
              exact .inr ⟨_, h6⟩
            · cases h'
          · cases h'
        · cases h'
      · split at h
        · split at h
          · exfalso
            have hY : u.wn = [] := by
              unfold effY at h
              split at h
              · split at h
                · split at h
                  · split at h
                    · split at h
                      · simp only [T.pick] at h
                        rename_i adm _ _
                        generalize (adm s.ys _) = b at h
                        cases b <;> simp at h
                        subst h; rfl
                      · simp [T.pick] at h
                    · simp [T.pick] at h
                  · simp [T.pick] at h
                · simp [T.pick] at h
              · simp [T.pick] at h
            rw [hY] at hn; cases hn
          · exact effX_wn h n hn
        · simp [T.pick] at h
  unfold effG at h
  rw [T.pick_bind] at h
  obtain ⟨u0, h, hsp⟩ := h
  have hn0 : n ∈ u0.wn := by
    rcases splitU_pick hsp with rfl | ⟨b, d, _, rfl, rfl⟩
    · exact hn
    · cases hn
  clear hsp hn
  revert h
  generalize hu : u0 = u1 at hn0
  clear hu u0
  intro h
  have hn := hn0
  unfold effG0 at h
  split at h
  · exact h1 h n hn
  · split at h
    · simp [T.pick] at h
    · split at h
      · split at h
        · exact h1 h n hn
        · cases h; cases hn
      · cases h; cases hn
      · split at h
        · simp only [T.pick] at h
          have h2 : ∀ (c : Prop) [Decidable c] (t1 t2 : T Upd), (t1 = eff1 P Γ nm o s ∨ t1 = .leaf (.val undV)) → (t2 = eff1 P Γ nm o s ∨ t2 = .leaf (.val undV)) → (if c then t1 else t2).pick = some u1 → n = nm ∨ ∃ ob, s.lo[n]? = some (some ob) := by
            intro c _ t1 t2 e1 e2 h
            split at h
            · rcases e1 with rfl | rfl
              · exact h1 h n hn
              · cases h; cases hn
            · rcases e2 with rfl | rfl
              · exact h1 h n hn
              · cases h; cases hn
          rename_i b _
          cases b
          · exact h2 _ _ _ (.inr rfl) (.inl rfl) h
          · exact h2 _ _ _ (.inl rfl) (.inr rfl) h
        · simp [T.pick] at h

theorem effX_noY {nm : Nat} {o : Oper} {s : St} {u : Upd} (h : (effX P Γ nm o s).pick = some u) : u.isY = false := by
  have hx : ∀ {n' : Nat} {x : XOut} {u : Upd}, (xOut n' nm x).pick = some u → u.isY = false := fun {n' x u} h => by
    unfold xOut at h
    split at h
    · cases h; rfl
    · simp [T.pick] at h
  unfold effX at h
  split at h
  · split at h
    · split at h
      · unfold appE at h
        split at h
        · split at h
          · rename_i len _ m _ _ _ by_ _ _ _ _
            split at h
            · simp only [T.pick] at h
              generalize roomB _ _ _ = b at h
              cases b <;> simp at h
              subst h; rfl
            · simp [T.pick] at h
          · split at h
            · simp only [T.pick] at h
              generalize roomB _ _ _ = b at h
              cases b <;> simp at h
              subst h; rfl
            · simp [T.pick] at h
          · simp [T.pick] at h
        · simp [T.pick] at h
      · simp [T.pick] at h
    · split at h
      · split at h
        · unfold xcall at h
          split at h
          · split at h
            · split at h
              · split at h
                · rw [T.pick_bind] at h
                  obtain ⟨x, _, h⟩ := h
                  exact hx h
                · simp [T.pick] at h
              · simp [T.pick] at h
            · simp [T.pick] at h
          · split at h
            · rw [T.pick_bind] at h
              obtain ⟨x, _, h⟩ := h
              exact hx h
            · split at h
              · rw [T.pick_bind] at h
                obtain ⟨x, _, h⟩ := h
                split at h
                · exact hx h
                · simp [T.pick] at h
              · simp [T.pick] at h
        · simp [T.pick] at h
      · simp [T.pick] at h
    · simp [T.pick] at h
  · simp [T.pick] at h

theorem eff_isY {nm : Nat} {o : Oper} {s : St} {u : Upd} (h : (effG P Γ ops nm o s).pick = some u) (hu : u.isY = true) : isYl o s = true := by
  have h1 : ∀ {u : Upd}, (eff1 P Γ nm o s).pick = some u → u.isY = true → isYl o s = true := fun {u} h hn => by
    unfold eff1 at h
    split at h
    · rw [T.pick_bind] at h
      obtain ⟨v, _, h⟩ := h
      cases h
      cases hn
    · split at h
      · rename_i u' h'
        cases h
        unfold effM at h'
        split at h'
        · split at h' <;> cases h'; cases hn
        · split at h' <;> cases h'; cases hn
        · split at h'
          · split at h'
            · split at h' <;> cases h'; cases hn
            · cases h'
          · cases h'
        · split at h'
          · split at h'
            · split at h' <;> cases h'; cases hn
            · cases h'
          · cases h'
        · split at h'
          · split at h'
            · split at h' <;> cases h'; cases hn
            · cases h'
          · cases h'
        · cases h'
      · split at h
        · split at h
          · assumption
          · rw [effX_noY h] at hn; cases hn
        · simp [T.pick] at h
  unfold effG at h
  rw [T.pick_bind] at h
  obtain ⟨u0, h, hsp⟩ := h
  have hn : u0.isY = true := by
    rcases splitU_pick hsp with rfl | ⟨b, d, _, rfl, rfl⟩
    · exact hu
    · cases hu
  clear hsp hu
  unfold effG0 at h
  split at h
  · exact h1 h hn
  · split at h
    · simp [T.pick] at h
    · split at h
      · split at h
        · exact h1 h hn
        · cases h; cases hn
      · cases h; cases hn
      · split at h
        · simp only [T.pick] at h
          have h2 : ∀ (c : Prop) [Decidable c] (t1 t2 : T Upd), (t1 = eff1 P Γ nm o s ∨ t1 = .leaf (.val undV)) → (t2 = eff1 P Γ nm o s ∨ t2 = .leaf (.val undV)) → (if c then t1 else t2).pick = some u0 → isYl o s = true := by
            intro c _ t1 t2 e1 e2 h
            split at h
            · rcases e1 with rfl | rfl
              · exact h1 h hn
              · cases h; cases hn
            · rcases e2 with rfl | rfl
              · exact h1 h hn
              · cases h; cases hn
          rename_i b _
          cases b
          · exact h2 _ _ _ (.inr rfl) (.inl rfl) h
          · exact h2 _ _ _ (.inl rfl) (.inr rfl) h
        · simp [T.pick] at h

/-- Where only values were reckoned, nothing else has turned. -/
theorem tr_vals : ∀ {l : List (Nat × Oper)} {s s' : St} {rs : List Rec}, Tr P Γ ops base l s s' rs → rs.all (fun x => x.wn.isEmpty && !x.yl) = true → s' = { s with tm := s'.tm } ∧ s'.tm.length = s.tm.length ∧ ∀ j, (dsts (l.map (·.2))).contains j = false → s'.tm[j]? = s.tm[j]?
  | _, _, _, _, .nil s, _ => ⟨rfl, rfl, fun _ _ => rfl⟩
  | _, _, _, _, .cons i o l s s' u rs hu ht, hr => by
    simp only [List.all_cons, Bool.and_eq_true] at hr
    have hyn : isYl o s = false := by simpa using hr.1.2
    have hr : u.wn.isEmpty = true ∧ _ := ⟨hr.1.1, hr.2⟩
    obtain ⟨e1, e2, e3⟩ := tr_vals ht hr.2
    cases u with
    | val v =>
      have hap : (Upd.val v).ap o.dst s = { s with tm := putT s.tm o.dst v } := rfl
      rw [hap] at e1 e2 e3
      refine ⟨e1, ?_, fun j hj => ?_⟩
      · rw [e2]
        cases o.dst <;> simp [putT]
      · have hj' : (dsts (l.map (·.2))).contains j = false ∧ o.dst ≠ some j := by
          simp only [dsts, List.map_cons, List.filterMap_cons] at hj ⊢
          cases hd : o.dst with
          | none => rw [hd] at hj; exact ⟨hj, by simp⟩
          | some d =>
            rw [hd] at hj
            simp only [List.contains_cons, Bool.or_eq_false_iff, beq_eq_false_iff_ne] at hj
            exact ⟨hj.2, fun e => hj.1 (Option.some.inj e).symm⟩
        rw [e3 j hj'.1]
        cases hd : o.dst with
        | none => rfl
        | some d =>
          have : d ≠ j := fun e => hj'.2 (by rw [hd, e])
          simp [putT, List.getElem?_set_ne this]
    | new n o => simp [Upd.wn] at hr
    | set n o => simp [Upd.wn] at hr
    | many v ws =>
      cases ws with
      | nil =>
        have hap : (Upd.many v []).ap o.dst s = { s with tm := putT s.tm o.dst v } := rfl
        rw [hap] at e1 e2 e3
        refine ⟨e1, ?_, fun j hj => ?_⟩
        · rw [e2]
          cases o.dst <;> simp [putT]
        · have hj' : (dsts (l.map (·.2))).contains j = false ∧ o.dst ≠ some j := by
            simp only [dsts, List.map_cons, List.filterMap_cons] at hj ⊢
            cases hd : o.dst with
            | none => rw [hd] at hj; exact ⟨hj, by simp⟩
            | some d =>
              rw [hd] at hj
              simp only [List.contains_cons, Bool.or_eq_false_iff, beq_eq_false_iff_ne] at hj
              exact ⟨hj.2, fun e => hj.1 (Option.some.inj e).symm⟩
          rw [e3 j hj'.1]
          cases hd : o.dst with
          | none => rfl
          | some d =>
            have : d ≠ j := fun e => hj'.2 (by rw [hd, e])
            simp [putT, List.getElem?_set_ne this]
      | cons w ws => simp [Upd.wn] at hr
    | yl v args => rw [eff_isY hu rfl] at hyn; cases hyn

theorem tr_swap {i j : Nat} {x y : Oper} {l : List (Nat × Oper)} {s s' : St} {rx ry : Rec} {rs : List Rec} (h : Tr P Γ ops base ((j, y) :: (i, x) :: l) s s' (ry :: rx :: rs)) (hc : commR ops ry rx = true)
    (hi : base + i < s.lo.length) (hj : base + j < s.lo.length) : Tr P Γ ops base ((i, x) :: (j, y) :: l) s s' (rx :: ry :: rs) := by
  cases h with
  | cons _ _ _ _ _ uy _ hy ht =>
    cases ht with
    | cons _ _ _ _ _ ux _ hx ht =>
      have lt1 : ∀ n ∈ uy.wn, n < s.lo.length := fun n hn => by
        rcases eff_wn hy n hn with rfl | ⟨ob, ho⟩
        · exact hj
        · exact (List.getElem?_eq_some_iff.1 ho).1
      have hl1 := ap_length (d := y.dst) lt1
      have lt2 : ∀ n ∈ ux.wn, n < s.lo.length := fun n hn => by
        rcases eff_wn hx n hn with rfl | ⟨ob, ho⟩
        · exact hi
        · rw [← hl1]; exact (List.getElem?_eq_some_iff.1 ho).1
      simp only [commR, Bool.and_eq_true] at hc
      obtain ⟨⟨⟨⟨c1, c2⟩, c3⟩, c4⟩, c5⟩ := hc
      have hyc : ¬ (isYl y s = true ∧ isYl x (uy.ap y.dst s) = true) := fun hh => by simp [hh.1, hh.2] at c5
      have hyy : (uy.isY && ux.isY) = false := by
        cases h1 : uy.isY with
        | false => rfl
        | true =>
          cases h2 : ux.isY with
          | false => rfl
          | true => exact absurd ⟨eff_isY hy h1, eff_isY hx h2⟩ hyc
      have hd1 : ∀ t, y.dst = some t → t ∉ opTmps ops x ∧ x.dst ≠ some t := fun t ht => by
        simp only [ht, Bool.and_eq_true, Bool.not_eq_true', bne_iff_ne, ne_eq] at c1
        exact ⟨by simpa using c1.1, c1.2⟩
      have hd2 : ∀ t, x.dst = some t → t ∉ opTmps ops y := fun t ht => by
        simp only [ht, Bool.not_eq_true'] at c2
        simpa using c2
      have hn1 : ∀ n ∈ uy.wn, n ∉ opNms x (uy.ap y.dst s) ∧ n ∉ ux.wn := fun n hn => by
        have := List.all_eq_true.1 c3 n hn
        simp only [Bool.and_eq_true, Bool.not_eq_true'] at this
        exact ⟨by simpa using this.1, by simpa using this.2⟩
      have hn2 : ∀ n ∈ ux.wn, n ∉ opNms y s := fun n hn => by
        have := List.all_eq_true.1 c4 n hn
        simpa using this
      -- x, ahead of y
      have ax : Alike ops x (uy.ap y.dst s) s := ⟨fun t ht => (ap_tm (fun e => (hd1 t e).1 ht)).symm, fun n hn => (ap_lo (fun e => (hn1 n e).1 hn) lt1).symm, fun hh => (ap_ys (by
        cases h1 : uy.isY with
        | false => rfl
        | true => exact absurd ⟨eff_isY hy h1, hh⟩ hyc)).symm⟩
      have ex : effG P Γ ops (base + i) x s = effG P Γ ops (base + i) x (uy.ap y.dst s) := effG_alike ax
      have nx : opNms x s = opNms x (uy.ap y.dst s) := ax.nms
      have ay : Alike ops y s (ux.ap x.dst s) := ⟨fun t ht => ap_tm (fun e => hd2 t e ht), fun n hn => ap_lo (fun e => hn2 n e hn) lt2, fun hh => ap_ys (by
        cases h1 : ux.isY with
        | false => rfl
        | true => exact absurd ⟨hh, eff_isY hx h1⟩ hyc)⟩
      have ey : effG P Γ ops (base + j) y (ux.ap x.dst s) = effG P Γ ops (base + j) y s := effG_alike ay
      have ny : opNms y (ux.ap x.dst s) = opNms y s := ay.nms
      have hcomm : uy.ap y.dst (ux.ap x.dst s) = ux.ap x.dst (uy.ap y.dst s) :=
        ap_comm (fun t e e' => (hd1 t e').2 e) (fun n e e' => (hn1 n e').2 e) lt2 lt1 (by rw [Bool.and_comm]; exact hyy)
      rw [← nx, ← ny, ← isYl_alike ax, ← isYl_alike ay]
      refine .cons i x _ s s' ux _ (by rw [ex]; exact hx) (.cons j y _ _ s' uy _ (by rw [ey]; exact hy) ?_)
      rw [hcomm]
      exact ht

theorem tr_bubble : ∀ {l1 : List (Nat × Oper)} {i : Nat} {x : Oper} {l2 : List (Nat × Oper)} {s s' : St} {rs : List Rec}, Tr P Γ ops base (l1 ++ (i, x) :: l2) s s' rs →
    (∀ p ∈ l1 ++ (i, x) :: l2, base + p.1 < s.lo.length) →
    ∃ r1 rx r2, rs = r1 ++ rx :: r2 ∧ r1.map (·.i) = l1.map (·.1) ∧ rx.i = i ∧ ((∀ y ∈ r1, commR ops y rx = true) → Tr P Γ ops base ((i, x) :: (l1 ++ l2)) s s' (rx :: (r1 ++ r2)))
  | [], i, x, l2, s, s', rs, h, hl => by
    cases h with
    | cons _ _ _ _ _ u rs hu ht => exact ⟨[], _, rs, rfl, rfl, rfl, fun _ => .cons i x l2 s s' u rs hu ht⟩
  | (j, y) :: l1, i, x, l2, s, s', rs, h, hl => by
    cases h with
    | cons _ _ _ _ _ u rs hu ht =>
      have lt1 : ∀ n ∈ u.wn, n < s.lo.length := fun n hn => by
        rcases eff_wn hu n hn with rfl | ⟨ob, ho⟩
        · exact hl (j, y) (by simp)
        · exact (List.getElem?_eq_some_iff.1 ho).1
      obtain ⟨r1, rx, r2, rfl, h1, h2, h3⟩ := tr_bubble ht (fun p hp => by rw [ap_length lt1]; exact hl p (by simp at hp ⊢; right; exact hp))
      refine ⟨⟨j, y, opNms y s, u.wn, isYl y s⟩ :: r1, rx, r2, rfl, by simp [h1], h2, fun hc => ?_⟩
      have := h3 (fun z hz => hc z (by simp [hz]))
      exact tr_swap (.cons j y _ s s' u _ hu this) (hc _ (by simp)) (hl (i, x) (by simp)) (hl (j, y) (by simp))

theorem tr_is : ∀ {l : List (Nat × Oper)} {s s' : St} {rs : List Rec}, Tr P Γ ops base l s s' rs → rs.map (·.i) = l.map (·.1)
  | _, _, _, _, .nil _ => rfl
  | _, _, _, _, .cons i o l s s' u rs h ht => by simp [tr_is ht]

end
end Go.SX
