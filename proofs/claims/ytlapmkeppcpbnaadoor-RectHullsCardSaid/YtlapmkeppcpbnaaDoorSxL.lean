/- Regions whose order is open: the text's order stands for all. -/
import Derived.Test.YtlapmkeppcpbnaaDoorSxK
namespace Go.SX
open Go.RowKit
set_option linter.unusedVariables false
set_option linter.unusedSimpArgs false
set_option linter.unusedSectionVars false

structure Rec where
  i : Nat
  o : Oper
  mn : List Nat
  wn : Option Nat

def commR (ops : List Oper) (x y : Rec) : Bool :=
  (match x.o.dst with | some d => !(opTmps ops y.o).contains d && y.o.dst != some d | none => true) &&
  (match y.o.dst with | some d => !(opTmps ops x.o).contains d | none => true) &&
  (match x.wn with | some n => !y.mn.contains n && y.wn != some n | none => true) &&
  (match y.wn with | some n => !x.mn.contains n | none => true)

def traceT (P : Program) (Γ : Gam) (ops : List Oper) (base : Nat) : List (Nat × Oper) → St → T (St × List Rec)
  | [], s => .leaf (s, [])
  | (i, o) :: l, s => (effG P Γ ops (base + i) o s).bind fun u => (traceT P Γ ops base l (u.ap o.dst s)).bind fun r => .leaf (r.1, ⟨i, o, opNms o s, u.wn⟩ :: r.2)

/-- Which operations stand ahead of each, whatever the order. -/
def depsE (acc : List Nat) : List Edge → Nat
  | [] => 0
  | e :: es => (if Region.binds .any e then (1 <<< e.on) ||| acc.getD e.on 0 else 0) ||| depsE acc es
def depsOf : List Oper → List Nat → List Nat
  | [], acc => acc
  | o :: l, acc => depsOf l (acc ++ [depsE acc o.after.toList])

def backB (ops : List Oper) : Bool := (ops.zipIdx).all fun (o, i) => o.after.toList.all fun e => !Region.binds .any e || decide (e.on < i)

def pairsB (ops : List Oper) (deps : List Nat) : List Rec → Bool
  | [] => true
  | x :: l => (l.all fun y => (deps.getD y.i 0).testBit x.i || commR ops x y) && pairsB ops deps l

def index : Nat → List Oper → List (Nat × Oper)
  | _, [] => []
  | i, o :: l => (i, o) :: index (i + 1) l

def padS (k : Nat) (s : St) : St := { s with lo := s.lo ++ List.replicate k none }

def T.allBad {α : Type} : T α → Bool
  | .leaf _ => false
  | .ite _ t e => t.allBad && e.allBad
  | .bad => true

/-- Does the tree come to a leaf? -/
def T.okB {α : Type} : T α → Bool
  | .leaf _ => true
  | .ite b t e => if t.noBad && e.noBad then true else bif b then t.okB else e.okB
  | .bad => false

def colT2 (i : Nat) : T St → V
  | .leaf s => s.tm.getD i .any
  | .ite b t e => if t.allBad then colT2 i e else if e.allBad then colT2 i t else mergeV b (colT2 i t) (colT2 i e)
  | .bad => .any

def mergeTm2 (ds : List Nat) (t : T St) : Nat → List V → List V
  | _, [] => []
  | i, v :: l => (if ds.contains i then colT2 i t else v) :: mergeTm2 ds t (i + 1) l

/-- The ways of a region that only reckons values, brought together. -/
def joinT (s : St) (ds : List Nat) (t : T St) : T St :=
  match t with
  | .leaf s' => .leaf s'
  | t => if t.noBad then .leaf { s with tm := mergeTm2 ds t 0 s.tm } else .ite t.okB (.leaf { s with tm := mergeTm2 ds t 0 s.tm }) .bad

def runD (P : Program) (Γ : Gam) (ops : List Oper) (s : St) : T St :=
  if P.follows .mixedOrders && backB ops then
    if ops.any hasGuard && ops.all (isV Γ) then
      joinT (padS ops.length s) (dsts ops) ((traceT P Γ ops s.lo.length (index 0 ops) (padS ops.length s)).bind fun r => if pairsB ops (depsOf ops []) r.2 && r.2.all (fun x => x.wn.isNone) then .leaf r.1 else .bad)
    else (traceT P Γ ops s.lo.length (index 0 ops) (padS ops.length s)).bind fun r => if pairsB ops (depsOf ops []) r.2 then .leaf r.1 else .bad
  else .bad

theorem allBad_pick {α : Type} : ∀ {t : T α}, t.allBad = true → t.pick = none
  | .leaf _, h => by cases h
  | .bad, _ => rfl
  | .ite b t e, h => by
    simp only [T.allBad, Bool.and_eq_true] at h
    simp only [T.pick, allBad_pick h.1, allBad_pick h.2]
    cases b <;> rfl

theorem noBad_pick {α : Type} : ∀ {t : T α}, t.noBad = true → ∃ x, t.pick = some x
  | .leaf x, _ => ⟨x, rfl⟩
  | .bad, h => by cases h
  | .ite b t e, h => by
    simp only [T.noBad, Bool.and_eq_true] at h
    obtain ⟨x, hx⟩ := noBad_pick h.1
    obtain ⟨y, hy⟩ := noBad_pick h.2
    cases b
    · exact ⟨y, by simpa [T.pick] using hy⟩
    · exact ⟨x, by simpa [T.pick] using hx⟩

theorem okB_pick {α : Type} : ∀ {t : T α}, t.okB = true → ∃ x, t.pick = some x
  | .leaf x, _ => ⟨x, rfl⟩
  | .bad, h => by cases h
  | .ite b t e, h => by
    simp only [T.okB] at h
    split at h
    · rename_i hc
      exact noBad_pick (t := .ite b t e) hc
    · cases b
      · obtain ⟨y, hy⟩ := okB_pick (t := e) h
        exact ⟨y, by simpa [T.pick] using hy⟩
      · obtain ⟨x, hx⟩ := okB_pick (t := t) h
        exact ⟨x, by simpa [T.pick] using hx⟩

theorem mergeTm2_get {ds : List Nat} {t : T St} : ∀ (l : List V) (i j : Nat) (v : V), (mergeTm2 ds t i l)[j]? = some v → (ds.contains (i + j) = true ∧ v = colT2 (i + j) t) ∨ (ds.contains (i + j) = false ∧ l[j]? = some v)
  | [], i, j, v, h => by simp [mergeTm2] at h
  | x :: l, i, 0, v, h => by
    simp only [mergeTm2, List.getElem?_cons_zero, Option.some.injEq] at h
    by_cases hc : ds.contains i = true
    · rw [if_pos hc] at h; exact .inl ⟨hc, h.symm⟩
    · rw [if_neg hc] at h; exact .inr ⟨by simpa using hc, by simp [h]⟩
  | x :: l, i, j + 1, v, h => by
    simp only [mergeTm2, List.getElem?_cons_succ] at h
    have := mergeTm2_get l (i + 1) j v h
    rw [show i + 1 + j = i + (j + 1) by omega] at this
    simpa using this

theorem mergeTm2_length {ds : List Nat} {t : T St} : ∀ (l : List V) (i : Nat), (mergeTm2 ds t i l).length = l.length
  | [], _ => rfl
  | x :: l, i => by simp [mergeTm2, mergeTm2_length l (i + 1)]

inductive Tr (P : Program) (Γ : Gam) (ops : List Oper) (base : Nat) : List (Nat × Oper) → St → St → List Rec → Prop
  | nil (s : St) : Tr P Γ ops base [] s s []
  | cons (i : Nat) (o : Oper) (l : List (Nat × Oper)) (s s' : St) (u : Upd) (rs : List Rec) (h : (effG P Γ ops (base + i) o s).pick = some u) (ht : Tr P Γ ops base l (u.ap o.dst s) s' rs) :
      Tr P Γ ops base ((i, o) :: l) s s' (⟨i, o, opNms o s, u.wn⟩ :: rs)

section
variable {P : Program} {Γ : Gam} {ops : List Oper} {base : Nat}

theorem tr_of_trace : ∀ {l : List (Nat × Oper)} {s s' : St} {rs : List Rec}, (traceT P Γ ops base l s).pick = some (s', rs) → Tr P Γ ops base l s s' rs
  | [], s, s', rs, h => by cases h; exact .nil _
  | (i, o) :: l, s, s', rs, h => by
    simp only [traceT] at h
    rw [T.pick_bind] at h
    obtain ⟨u, hu, h⟩ := h
    rw [T.pick_bind] at h
    obtain ⟨⟨s1, r1⟩, h1, h⟩ := h
    cases h
    exact .cons i o l s _ u r1 hu (tr_of_trace h1)

theorem ins_set {lo : List (Option Ob)} {n : Nat} (h : n < lo.length) (o : Ob) : ins lo n o = lo.set n (some o) := by
  unfold ins
  have : n + 1 - lo.length = 0 := by omega
  simp [this]

theorem putT_comm {tm : List V} {d d' : Option Nat} {v v' : V} (h : ∀ x, d = some x → d' ≠ some x) : putT (putT tm d v) d' v' = putT (putT tm d' v') d v := by
  cases d with
  | none => rfl
  | some x =>
    cases d' with
    | none => rfl
    | some y =>
      have hne : x ≠ y := fun e => h x rfl (by rw [e])
      simp only [putT]
      exact List.set_comm _ _ hne

theorem ap_length {u : Upd} {d : Option Nat} {s : St} (hn : ∀ n, u.wn = some n → n < s.lo.length) : (u.ap d s).lo.length = s.lo.length := by
  cases u with
  | val v => rfl
  | new n o => simp only [Upd.ap, ins_set (hn n rfl), List.length_set]
  | set n o => simp [Upd.ap]

theorem ap_comm {u u' : Upd} {d d' : Option Nat} {s : St} (hd : ∀ x, d = some x → d' ≠ some x) (hn : ∀ n, u.wn = some n → u'.wn ≠ some n)
    (h1 : ∀ n, u.wn = some n → n < s.lo.length) (h2 : ∀ n, u'.wn = some n → n < s.lo.length) : u'.ap d' (u.ap d s) = u.ap d (u'.ap d' s) := by
  have key : ∀ n n' (o o' : Ob), u.wn = some n → u'.wn = some n' → (s.lo.set n (some o)).set n' (some o') = (s.lo.set n' (some o')).set n (some o) := fun n n' o o' e e' =>
    List.set_comm _ _ (fun x => hn n e (by rw [e', x]))
  cases u with
  | val v =>
    cases u' with
    | val v' => simp only [Upd.ap, putT_comm hd]
    | new n' o' => simp only [Upd.ap, putT_comm hd]
    | set n' o' => rfl
  | new n o =>
    have e1 := h1 n rfl
    cases u' with
    | val v' => simp only [Upd.ap, putT_comm hd]
    | new n' o' =>
      have e2 := h2 n' rfl
      simp only [Upd.ap, putT_comm hd]
      rw [ins_set e1, ins_set e2, ins_set (by simpa using e2), ins_set (by simpa using e1), key n n' o o' rfl rfl]
    | set n' o' =>
      simp only [Upd.ap]
      rw [ins_set e1, ins_set (by simpa using e1), key n n' o o' rfl rfl]
  | set n o =>
    cases u' with
    | val v' => rfl
    | new n' o' =>
      have e2 := h2 n' rfl
      simp only [Upd.ap]
      rw [ins_set e2, ins_set (by simpa using e2), key n n' o o' rfl rfl]
    | set n' o' =>
      simp only [Upd.ap, key n n' o o' rfl rfl]

theorem ap_tm {u : Upd} {d : Option Nat} {s : St} {t : Nat} (h : d ≠ some t) : (u.ap d s).tm.getD t .any = s.tm.getD t .any := by
  have : ∀ v, (putT s.tm d v).getD t .any = s.tm.getD t .any := fun v => by
    cases d with
    | none => rfl
    | some x =>
      have hne : x ≠ t := fun e => h (by rw [e])
      simp [putT, List.getD_eq_getElem?_getD, List.getElem?_set_ne hne]
  cases u with
  | val v => exact this v
  | new n o => exact this _
  | set n o => rfl

theorem ap_lo {u : Upd} {d : Option Nat} {s : St} {n : Nat} (h : u.wn ≠ some n) (hr : ∀ n, u.wn = some n → n < s.lo.length) : (u.ap d s).lo[n]? = s.lo[n]? := by
  cases u with
  | val v => rfl
  | new m o =>
    have hne : m ≠ n := fun e => h (by rw [← e]; rfl)
    simp only [Upd.ap, ins_set (hr m rfl), List.getElem?_set_ne hne]
  | set m o =>
    have hne : m ≠ n := fun e => h (by rw [← e]; rfl)
    simp only [Upd.ap, List.getElem?_set_ne hne]

theorem eff_wn {nm : Nat} {o : Oper} {s : St} {u : Upd} (h : (effG P Γ ops nm o s).pick = some u) (n : Nat) (hn : u.wn = some n) : n = nm ∨ ∃ ob, s.lo[n]? = some (some ob) := by
  have h1 : ∀ {u : Upd}, (eff1 P Γ nm o s).pick = some u → ∀ n, u.wn = some n → n = nm ∨ ∃ ob, s.lo[n]? = some (some ob) := fun {u} h n hn => by
    unfold eff1 at h
    split at h
    · rw [T.pick_bind] at h
      obtain ⟨v, _, h⟩ := h
      cases h
      cases hn
    · rw [T.pick_ofOption] at h
      unfold effM at h
      split at h
      · split at h <;> cases h; cases hn; exact .inl rfl
      · split at h <;> cases h; cases hn; exact .inl rfl
      · split at h
        · split at h
          · rename_i ty cs hcs
            split at h <;> cases h
            cases hn
            exact .inr ⟨_, hcs⟩
          · cases h
        · cases h
      · split at h
        · split at h
          · split at h <;> cases h
            cases hn
            exact .inl rfl
          · cases h
        · cases h
      · split at h
        · split at h
          · rename_i h6 _
            split at h <;> cases h
            cases hn
            exact .inr ⟨_, h6⟩
          · cases h
        · cases h
      · cases h
  unfold effG at h
  rw [T.pick_bind] at h
  obtain ⟨u0, h, hsp⟩ := h
  have hn0 : u0.wn = some n := by
    rcases splitU_pick hsp with rfl | ⟨b, d, _, rfl, rfl⟩
    · exact hn
    · cases hn
  clear hsp hn
  revert h
  generalize hu : u0 = u1 at hn0
  clear hu u0
  intro h
  have hn := hn0
  unfold effG0 at h
  split at h
  · exact h1 h n hn
  · split at h
    · simp [T.pick] at h
    · split at h
      · split at h
        · exact h1 h n hn
        · cases h; cases hn
      · cases h; cases hn
      · split at h
        · simp only [T.pick] at h
          have h2 : ∀ (c : Prop) [Decidable c] (t1 t2 : T Upd), (t1 = eff1 P Γ nm o s ∨ t1 = .leaf (.val undV)) → (t2 = eff1 P Γ nm o s ∨ t2 = .leaf (.val undV)) → (if c then t1 else t2).pick = some u1 → n = nm ∨ ∃ ob, s.lo[n]? = some (some ob) := by
            intro c _ t1 t2 e1 e2 h
            split at h
            · rcases e1 with rfl | rfl
              · exact h1 h n hn
              · cases h; cases hn
            · rcases e2 with rfl | rfl
              · exact h1 h n hn
              · cases h; cases hn
          rename_i b _
          cases b
          · exact h2 _ _ _ (.inr rfl) (.inl rfl) h
          · exact h2 _ _ _ (.inl rfl) (.inr rfl) h
        · simp [T.pick] at h

/-- Where only values were reckoned, nothing else has turned. -/
theorem tr_vals : ∀ {l : List (Nat × Oper)} {s s' : St} {rs : List Rec}, Tr P Γ ops base l s s' rs → rs.all (fun x => x.wn.isNone) = true → s' = { s with tm := s'.tm } ∧ s'.tm.length = s.tm.length ∧ ∀ j, (dsts (l.map (·.2))).contains j = false → s'.tm[j]? = s.tm[j]?
  | _, _, _, _, .nil s, _ => ⟨rfl, rfl, fun _ _ => rfl⟩
  | _, _, _, _, .cons i o l s s' u rs hu ht, hr => by
    simp only [List.all_cons, Bool.and_eq_true] at hr
    obtain ⟨e1, e2, e3⟩ := tr_vals ht hr.2
    cases u with
    | val v =>
      have hap : (Upd.val v).ap o.dst s = { s with tm := putT s.tm o.dst v } := rfl
      rw [hap] at e1 e2 e3
      refine ⟨e1, ?_, fun j hj => ?_⟩
      · rw [e2]
        cases o.dst <;> simp [putT]
      · have hj' : (dsts (l.map (·.2))).contains j = false ∧ o.dst ≠ some j := by
          simp only [dsts, List.map_cons, List.filterMap_cons] at hj ⊢
          cases hd : o.dst with
          | none => rw [hd] at hj; exact ⟨hj, by simp⟩
          | some d =>
            rw [hd] at hj
            simp only [List.contains_cons, Bool.or_eq_false_iff, beq_eq_false_iff_ne] at hj
            exact ⟨hj.2, fun e => hj.1 (Option.some.inj e).symm⟩
        rw [e3 j hj'.1]
        cases hd : o.dst with
        | none => rfl
        | some d =>
          have : d ≠ j := fun e => hj'.2 (by rw [hd, e])
          simp [putT, List.getElem?_set_ne this]
    | new n o => simp [Upd.wn] at hr
    | set n o => simp [Upd.wn] at hr

theorem tr_swap {i j : Nat} {x y : Oper} {l : List (Nat × Oper)} {s s' : St} {rx ry : Rec} {rs : List Rec} (h : Tr P Γ ops base ((j, y) :: (i, x) :: l) s s' (ry :: rx :: rs)) (hc : commR ops ry rx = true)
    (hi : base + i < s.lo.length) (hj : base + j < s.lo.length) : Tr P Γ ops base ((i, x) :: (j, y) :: l) s s' (rx :: ry :: rs) := by
  cases h with
  | cons _ _ _ _ _ uy _ hy ht =>
    cases ht with
    | cons _ _ _ _ _ ux _ hx ht =>
      have lt1 : ∀ n, uy.wn = some n → n < s.lo.length := fun n hn => by
        rcases eff_wn hy n hn with rfl | ⟨ob, ho⟩
        · exact hj
        · exact (List.getElem?_eq_some_iff.1 ho).1
      have hl1 := ap_length (d := y.dst) lt1
      have lt2 : ∀ n, ux.wn = some n → n < s.lo.length := fun n hn => by
        rcases eff_wn hx n hn with rfl | ⟨ob, ho⟩
        · exact hi
        · rw [← hl1]; exact (List.getElem?_eq_some_iff.1 ho).1
      simp only [commR, Bool.and_eq_true] at hc
      obtain ⟨⟨⟨c1, c2⟩, c3⟩, c4⟩ := hc
      have hd1 : ∀ t, y.dst = some t → t ∉ opTmps ops x ∧ x.dst ≠ some t := fun t ht => by
        simp only [ht, Bool.and_eq_true, Bool.not_eq_true', bne_iff_ne, ne_eq] at c1
        exact ⟨by simpa using c1.1, c1.2⟩
      have hd2 : ∀ t, x.dst = some t → t ∉ opTmps ops y := fun t ht => by
        simp only [ht, Bool.not_eq_true'] at c2
        simpa using c2
      have hn1 : ∀ n, uy.wn = some n → n ∉ opNms x (uy.ap y.dst s) ∧ ux.wn ≠ some n := fun n hn => by
        simp only [hn, Bool.and_eq_true, Bool.not_eq_true', bne_iff_ne, ne_eq] at c3
        exact ⟨by simpa using c3.1, c3.2⟩
      have hn2 : ∀ n, ux.wn = some n → n ∉ opNms y s := fun n hn => by
        simp only [hn, Bool.not_eq_true'] at c4
        simpa using c4
      -- x, ahead of y
      have ax : Alike ops x (uy.ap y.dst s) s := ⟨fun t ht => (ap_tm (fun e => (hd1 t e).1 ht)).symm, fun n hn => (ap_lo (fun e => (hn1 n e).1 hn) lt1).symm⟩
      have ex : effG P Γ ops (base + i) x s = effG P Γ ops (base + i) x (uy.ap y.dst s) := effG_alike ax
      have nx : opNms x s = opNms x (uy.ap y.dst s) := ax.nms
      have ay : Alike ops y s (ux.ap x.dst s) := ⟨fun t ht => ap_tm (fun e => hd2 t e ht), fun n hn => ap_lo (fun e => hn2 n e hn) lt2⟩
      have ey : effG P Γ ops (base + j) y (ux.ap x.dst s) = effG P Γ ops (base + j) y s := effG_alike ay
      have ny : opNms y (ux.ap x.dst s) = opNms y s := ay.nms
      have hcomm : uy.ap y.dst (ux.ap x.dst s) = ux.ap x.dst (uy.ap y.dst s) :=
        ap_comm (fun t e e' => (hd1 t e').2 e) (fun n e e' => (hn1 n e').2 e) lt2 lt1
      rw [← nx, ← ny]
      refine .cons i x _ s s' ux _ (by rw [ex]; exact hx) (.cons j y _ _ s' uy _ (by rw [ey]; exact hy) ?_)
      rw [hcomm]
      exact ht

theorem tr_bubble : ∀ {l1 : List (Nat × Oper)} {i : Nat} {x : Oper} {l2 : List (Nat × Oper)} {s s' : St} {rs : List Rec}, Tr P Γ ops base (l1 ++ (i, x) :: l2) s s' rs →
    (∀ p ∈ l1 ++ (i, x) :: l2, base + p.1 < s.lo.length) →
    ∃ r1 rx r2, rs = r1 ++ rx :: r2 ∧ r1.map (·.i) = l1.map (·.1) ∧ rx.i = i ∧ ((∀ y ∈ r1, commR ops y rx = true) → Tr P Γ ops base ((i, x) :: (l1 ++ l2)) s s' (rx :: (r1 ++ r2)))
  | [], i, x, l2, s, s', rs, h, hl => by
    cases h with
    | cons _ _ _ _ _ u rs hu ht => exact ⟨[], _, rs, rfl, rfl, rfl, fun _ => .cons i x l2 s s' u rs hu ht⟩
  | (j, y) :: l1, i, x, l2, s, s', rs, h, hl => by
    cases h with
    | cons _ _ _ _ _ u rs hu ht =>
      have lt1 : ∀ n, u.wn = some n → n < s.lo.length := fun n hn => by
        rcases eff_wn hu n hn with rfl | ⟨ob, ho⟩
        · exact hl (j, y) (by simp)
        · exact (List.getElem?_eq_some_iff.1 ho).1
      obtain ⟨r1, rx, r2, rfl, h1, h2, h3⟩ := tr_bubble ht (fun p hp => by rw [ap_length lt1]; exact hl p (by simp at hp ⊢; right; exact hp))
      refine ⟨⟨j, y, opNms y s, u.wn⟩ :: r1, rx, r2, rfl, by simp [h1], h2, fun hc => ?_⟩
      have := h3 (fun z hz => hc z (by simp [hz]))
      exact tr_swap (.cons j y _ s s' u _ hu this) (hc _ (by simp)) (hl (i, x) (by simp)) (hl (j, y) (by simp))

theorem tr_is : ∀ {l : List (Nat × Oper)} {s s' : St} {rs : List Rec}, Tr P Γ ops base l s s' rs → rs.map (·.i) = l.map (·.1)
  | _, _, _, _, .nil _ => rfl
  | _, _, _, _, .cons i o l s s' u rs h ht => by simp [tr_is ht]

end
end Go.SX
