/- What is owned, seen as what none owns: for a call that only looks, or when it is handed back. -/
import Derived.Test.YtgmeglodnhagdaaGreatDoorSxDm
namespace Go.SX
open Go.RowKit
set_option linter.unusedVariables false
set_option linter.unusedSimpArgs false
set_option linter.unusedSectionVars false

abbrev NoL : Nat → Prop := fun _ => False

def toQ0 (lo : List (Option Ob)) : V → Option Q
  | .q x => some x
  | .kb b => some (.c (.bool b))
  | .own n => match lo[n]? with
    | some (some (.vec _ ks len get)) => some (.lst ks len get)
    | _ => none
  | .lc ks len get _ => some (.lst ks len get)
  | .mp n => match lo[n]? with
    | some (some (.map kk ag vk es)) => some (.mp kk ag vk es)
    | _ => none
  | _ => none

def mapO {α β : Type} (f : α → Option β) : List α → Option (List β)
  | [] => some []
  | x :: l => match f x, mapO f l with
    | some y, some r => some (y :: r)
    | _, _ => none

/-- What is handed back names nothing that is owned: what is owned is let go. -/
def toQ : Nat → List (Option Ob) → V → Option Q
  | 0, lo, v => toQ0 lo v
  | k + 1, lo, .ptr n off => match lo[n]? with
    | some (some (.cells _ cs)) => (mapO (toQ k lo) (cs.drop off)).map fun qs => .sp qs.length (fun j => qs.getD j default)
    | _ => none
  | k + 1, lo, .clo f l => (mapO (toQ k lo) l).map (.clo f)
  | _ + 1, lo, v => toQ0 lo v

def toQs (lo : List (Option Ob)) : List V → Option (List V)
  | [] => some []
  | x :: l => match toQ 3 lo x, toQs lo l with
    | some y, some r => some (.q y :: r)
    | _, _ => none

def letGo1 (lo : List (Option Ob)) : V → Option V
  | .agg l => (toQs lo l).map .agg
  | .clo f l => (toQs lo l).map (.clo f)
  | .any => some .any
  | v => (toQ 3 lo v).map .q

def letGoL (lo : List (Option Ob)) : List V → Option (List V)
  | [] => some []
  | x :: l => match letGo1 lo x, letGoL lo l with
    | some y, some r => some (y :: r)
    | _, _ => none

def letGo (lo : List (Option Ob)) : V → Option V
  | .tup l => (letGoL lo l).map .tup
  | v => letGo1 lo v

section
variable [GW] {P : Program} {J : Jt P} {Am Mi : Nat → Prop} {w0 w : World} {s : St} {θ : Th} {a : Act}

theorem toQ0_den (h : Rep J Am Mi w0 s θ a w) {lo' : List (Option Ob)} (hlo : ∀ (n : Nat) (o : Ob), lo'[n]? = some (some o) → s.lo[n]? = some (some o)) {S' : Nat → Prop} (hS : ∀ b, Stab Am s.lo θ w b → S' b) (hO : ∀ (n : Nat) (o : Ob) (b : Nat), lo'[n]? = some (some o) → uses θ n o b → S' b)
    {v : V} {u : Value} {x : Q} (hd : Den (Stab Am s.lo θ w) (Liv s.lo) θ w v u) (e : toQ0 lo' v = some x) : DenQ S' w x u := by
  cases hd with
  | q y u hq => simp only [toQ0, Option.some.injEq] at e; subst e; exact hq.mono hS (fun _ _ => rfl)
  | kb b => simp only [toQ0, Option.some.injEq] at e; subst e; exact .c _
  | lc ks len get cap a n hq => simp only [toQ0, Option.some.injEq] at e; subst e; exact hq.mono hS (fun _ _ => rfl)
  | mp n hL =>
    simp only [toQ0] at e
    split at e
    · rename_i kk ag vk es hn
      cases e
      obtain ⟨arr, clk, h1, h2⟩ := h.lo n _ (hlo n _ hn)
      exact .of_ents (hO n _ _ hn rfl) h1 (h2.mono hS (fun _ _ => rfl))
    · cases e
  | own n ad len cap hL hsl =>
    simp only [toQ0] at e
    split at e
    · rename_i t ks len2 get hn
      cases e
      rcases h.lo n _ (hlo n _ hn) with ⟨h1, h0⟩ | ⟨vs, cap', h1, h2, h3, h4, h5, h6⟩
      · rw [h1] at hsl; cases hsl; exact .nil _ _ _ h0
      · rw [h1] at hsl
        cases hsl
        have hex : ∀ i j, i < len → j < ks.length → ∃ z, vs[i * ks.length + j]? = some z ∧ DenQ (Stab Am s.lo θ w) w (get i j) z := fun i j hi hj => (h6 i j (ks[j]) hi (by simp [hj])).2
        refine .lst _ _ _ (θ n).blk 0 cap (fun i j => vs.getD (i * ks.length + j) undef) (hO n _ _ hn ⟨rfl, by rw [h1]; simp⟩) ⟨h4.1, Nat.le_trans h4.1 h4.2⟩ (fun i j hi hj => ?_) (fun i j k hi hk => (h6 i j k hi hk).1) (fun i j hi hj => ?_)
        · obtain ⟨z, hz, _⟩ := hex i j hi hj
          rw [Nat.zero_add, cell_of_row w _ _ _ _ _ h2]
          simp only [List.getElem?_toArray, hz, List.getD_eq_getElem?_getD, Option.getD_some]
        · obtain ⟨z, hz, hd⟩ := hex i j hi hj
          simp only [List.getD_eq_getElem?_getD, hz, Option.getD_some]
          exact hd.mono hS (fun _ _ => rfl)
    · cases e
  | _ => simp [toQ0] at e

theorem mapO_get {α β : Type} {f : α → Option β} : ∀ {l : List α} {r : List β}, mapO f l = some r → r.length = l.length ∧ ∀ (i : Nat) (x : α), l[i]? = some x → ∃ y, r[i]? = some y ∧ f x = some y
  | [], r, h => by cases h; exact ⟨rfl, fun i x hx => by simp at hx⟩
  | x :: l, r, h => by
    simp only [mapO] at h
    split at h
    · rename_i y r' hy hr
      cases h
      obtain ⟨h1, h2⟩ := mapO_get hr
      refine ⟨by simp [h1], fun i z hz => ?_⟩
      cases i with
      | zero => simp at hz; subst hz; exact ⟨y, rfl, hy⟩
      | succ i => exact h2 i z (by simpa using hz)
    · cases h

theorem toQ_den (h : Rep J Am Mi w0 s θ a w) {lo' : List (Option Ob)} (hlo : ∀ (n : Nat) (o : Ob), lo'[n]? = some (some o) → s.lo[n]? = some (some o)) {S' : Nat → Prop} (hS : ∀ b, Stab Am s.lo θ w b → S' b) (hO : ∀ (n : Nat) (o : Ob) (b : Nat), lo'[n]? = some (some o) → uses θ n o b → S' b) :
    ∀ (k : Nat) {v : V} {u : Value} {x : Q}, Den (Stab Am s.lo θ w) (Liv s.lo) θ w v u → toQ k lo' v = some x → DenQ S' w x u
  | 0, v, u, x, hd, e => toQ0_den h hlo hS hO hd e
  | k + 1, v, u, x, hd, e => by
    unfold toQ at e
    split at e
    · rename_i h0
      cases h0
    · rename_i k' n off h0
      cases h0
      split at e
      · rename_i t cs hn
        simp only [Option.map_eq_some_iff] at e
        obtain ⟨qs, hqs, rfl⟩ := e
        obtain ⟨rfl, _⟩ := hd.ptr_inv
        obtain ⟨vs, h1, h2⟩ := h.lo n _ (hlo n _ hn)
        obtain ⟨hl, hg⟩ := mapO_get hqs
        have key : ∀ j, j < qs.length → ∃ z, vs[off + j]? = some z ∧ DenQ S' w (qs.getD j default) z := fun j hj => by
          have hj' : j < (cs.drop off).length := by omega
          obtain ⟨y, hy, hf⟩ := hg j _ (List.getElem?_eq_getElem hj')
          have hcs : cs[off + j]? = some ((cs.drop off)[j]) := by
            rw [← List.getElem?_drop]; exact List.getElem?_eq_getElem hj'
          obtain ⟨z, hz, hdz⟩ := h2.get _ _ hcs
          refine ⟨z, hz, ?_⟩
          simp only [List.getD_eq_getElem?_getD, hy, Option.getD_some]
          exact toQ_den h hlo hS hO k hdz hf
        refine .sp _ _ (θ n).blk off (fun j => vs.getD (off + j) undef) (hO n _ _ hn rfl) (fun j hj => ?_) (fun j hj => ?_)
        · obtain ⟨z, hz, _⟩ := key j hj
          rw [cell_of_row w _ _ _ _ _ h1]
          simp only [List.getElem?_toArray, hz, List.getD_eq_getElem?_getD, Option.getD_some]
        · obtain ⟨z, hz, hdz⟩ := key j hj
          have e1 : vs.getD (off + j) undef = z := by rw [List.getD_eq_getElem?_getD, hz]; rfl
          rw [e1]
          exact hdz
      · cases e
    · rename_i k' f l h0
      cases h0
      simp only [Option.map_eq_some_iff] at e
      obtain ⟨qs, hqs, rfl⟩ := e
      cases hd with
      | clo f l vs hl =>
        obtain ⟨hlen, hg⟩ := mapO_get hqs
        have hlv := hl.length
        have key : ∀ j, j < qs.length → ∃ z, vs[j]? = some z ∧ DenQ S' w (qs.getD j default) z := fun j hj => by
          have hj' : j < l.length := by omega
          obtain ⟨y, hy, hf⟩ := hg j _ (List.getElem?_eq_getElem hj')
          obtain ⟨z, hz, hdz⟩ := hl.get _ _ (List.getElem?_eq_getElem hj')
          refine ⟨z, hz, ?_⟩
          simp only [List.getD_eq_getElem?_getD, hy, Option.getD_some]
          exact toQ_den h hlo hS hO k hdz hf
        have ev : vs = (List.range qs.length).map fun j => vs.getD j undef := by
          refine List.ext_getElem (by simp; omega) fun j h1 h2 => ?_
          simp [List.getD_eq_getElem?_getD, h1]
        rw [ev]
        refine .clo _ _ _ fun j q hq => ?_
        have hj : j < qs.length := by
          rcases Nat.lt_or_ge j qs.length with hh | hh
          · exact hh
          · rw [List.getElem?_eq_none hh] at hq; cases hq
        obtain ⟨z, hz, hdz⟩ := key j hj
        have e1 : vs.getD j undef = z := by rw [List.getD_eq_getElem?_getD, hz]; rfl
        have e2 : qs.getD j default = q := by rw [List.getD_eq_getElem?_getD, hq]; rfl
        rw [e1, ← e2]
        exact hdz
    · exact toQ0_den h hlo hS hO hd e

theorem toQs_den (h : Rep J Am Mi w0 s θ a w) {lo' : List (Option Ob)} (hlo : ∀ (n : Nat) (o : Ob), lo'[n]? = some (some o) → s.lo[n]? = some (some o)) {S' : Nat → Prop} (hS : ∀ b, Stab Am s.lo θ w b → S' b) (hO : ∀ (n : Nat) (o : Ob) (b : Nat), lo'[n]? = some (some o) → uses θ n o b → S' b) :
    ∀ {l r : List V} {us : List Value}, DenL (Stab Am s.lo θ w) (Liv s.lo) θ w l us → toQs lo' l = some r → DenL S' NoL th0 w r us
  | [], r, us, hd, e => by cases e; cases hd; exact .nil
  | x :: l, r, us, hd, e => by
    cases hd with
    | cons x v l vs hx hl =>
      simp only [toQs] at e
      split at e
      · rename_i y r' hy hr
        cases e
        exact .cons _ _ _ _ (.q _ _ (toQ_den h hlo hS hO 3 hx hy)) (toQs_den h hlo hS hO hl hr)
      · cases e

theorem letGo1_den (h : Rep J Am Mi w0 s θ a w) {lo' : List (Option Ob)} (hlo : ∀ (n : Nat) (o : Ob), lo'[n]? = some (some o) → s.lo[n]? = some (some o)) {S' : Nat → Prop} (hS : ∀ b, Stab Am s.lo θ w b → S' b) (hO : ∀ (n : Nat) (o : Ob) (b : Nat), lo'[n]? = some (some o) → uses θ n o b → S' b)
    {v r : V} {u : Value} (hd : Den (Stab Am s.lo θ w) (Liv s.lo) θ w v u) (e : letGo1 lo' v = some r) : Den S' NoL th0 w r u := by
  unfold letGo1 at e
  split at e
  · rename_i l
    simp only [Option.map_eq_some_iff] at e
    obtain ⟨r', hr, rfl⟩ := e
    cases hd with
    | agg l vs hl => exact .agg _ _ (toQs_den h hlo hS hO hl hr)
  · rename_i f l
    simp only [Option.map_eq_some_iff] at e
    obtain ⟨r', hr, rfl⟩ := e
    cases hd with
    | clo f l vs hl => exact .clo _ _ _ (toQs_den h hlo hS hO hl hr)
  · cases e; exact .any _
  · simp only [Option.map_eq_some_iff] at e
    obtain ⟨x, hx, rfl⟩ := e
    exact .q _ _ (toQ_den h hlo hS hO 3 hd hx)

theorem letGoL_den (h : Rep J Am Mi w0 s θ a w) {lo' : List (Option Ob)} (hlo : ∀ (n : Nat) (o : Ob), lo'[n]? = some (some o) → s.lo[n]? = some (some o)) {S' : Nat → Prop} (hS : ∀ b, Stab Am s.lo θ w b → S' b) (hO : ∀ (n : Nat) (o : Ob) (b : Nat), lo'[n]? = some (some o) → uses θ n o b → S' b) :
    ∀ {l r : List V} {us : List Value}, DenL (Stab Am s.lo θ w) (Liv s.lo) θ w l us → letGoL lo' l = some r → DenL S' NoL th0 w r us
  | [], r, us, hd, e => by cases e; cases hd; exact .nil
  | x :: l, r, us, hd, e => by
    cases hd with
    | cons x v l vs hx hl =>
      simp only [letGoL] at e
      split at e
      · rename_i y r' hy hr
        cases e
        exact .cons _ _ _ _ (letGo1_den h hlo hS hO hx hy) (letGoL_den h hlo hS hO hl hr)
      · cases e

theorem letGo_den (h : Rep J Am Mi w0 s θ a w) {lo' : List (Option Ob)} (hlo : ∀ (n : Nat) (o : Ob), lo'[n]? = some (some o) → s.lo[n]? = some (some o)) {S' : Nat → Prop} (hS : ∀ b, Stab Am s.lo θ w b → S' b) (hO : ∀ (n : Nat) (o : Ob) (b : Nat), lo'[n]? = some (some o) → uses θ n o b → S' b)
    {v r : V} {u : Value} (hd : Den (Stab Am s.lo θ w) (Liv s.lo) θ w v u) (e : letGo lo' v = some r) : Den S' NoL th0 w r u := by
  unfold letGo at e
  split at e
  · rename_i l
    simp only [Option.map_eq_some_iff] at e
    obtain ⟨r', hr, rfl⟩ := e
    cases hd with
    | tup l vs hl => exact .tup _ _ (letGoL_den h hlo hS hO hl hr)
  · exact letGo1_den h hlo hS hO hd e


/-- A closed value, or some. -/
def V.shut1 : V → Bool
  | .q (.c _) => true
  | .kb _ => true
  | .agg l => (V.cl? l).isSome
  | _ => false

def V.shut : V → Bool
  | .tup l => l.all V.shut1
  | v => v.shut1

theorem den_c1s {S L S' L' : Nat → Prop} {θ θ' : Th} {w w' : World} : ∀ {l : List V} {us : List Value}, DenL S L θ w l us → (V.cl? l).isSome = true → DenL S' L' θ' w' l us
  | _, _, .nil, _ => .nil
  | _, _, .cons x v l us h hl, e => by
    simp only [V.cl?] at e
    cases hx : V.c1? x with
    | none => simp [hx] at e
    | some y =>
      simp only [hx, Option.isSome_map] at e
      refine .cons _ _ _ _ ?_ (den_c1s hl e)
      have := den_c1 h hx
      subst this
      cases x with
      | q z => cases z <;> simp [V.c1?] at hx; subst hx; exact .q _ _ (.c _)
      | kb b => simp [V.c1?] at hx; subst hx; exact .kb _
      | _ => simp [V.c1?] at hx

theorem den_shut1 {S L S' L' : Nat → Prop} {θ θ' : Th} {w w' : World} {x : V} {u : Value} (h : Den S L θ w x u) (e : x.shut1 = true) : Den S' L' θ' w' x u := by
  cases h with
  | q y u hq =>
    cases hq with
    | c z => exact .q _ _ (.c _)
    | _ => simp [V.shut1] at e
  | kb b => exact .kb _
  | agg l vs hl => exact .agg _ _ (den_c1s hl e)
  | _ => simp [V.shut1] at e

theorem den_shuts {S L S' L' : Nat → Prop} {θ θ' : Th} {w w' : World} : ∀ {l : List V} {us : List Value}, DenL S L θ w l us → l.all V.shut1 = true → DenL S' L' θ' w' l us
  | _, _, .nil, _ => .nil
  | _, _, .cons x v l us h hl, e => by
    simp only [List.all_cons, Bool.and_eq_true] at e
    exact .cons _ _ _ _ (den_shut1 h e.1) (den_shuts hl e.2)

theorem den_shut {S L S' L' : Nat → Prop} {θ θ' : Th} {w w' : World} {x : V} {u : Value} (h : Den S L θ w x u) (e : x.shut = true) : Den S' L' θ' w' x u := by
  cases h with
  | tup l vs hl => exact .tup _ _ (den_shuts hl e)
  | any v => simp [V.shut, V.shut1] at e
  | q y u hq => exact den_shut1 (L := L) (θ := θ) (.q _ _ hq) e
  | kb b => exact .kb _
  | agg l vs hl => exact den_shut1 (.agg _ _ hl) e
  | _ => simp [V.shut, V.shut1] at e

end
end Go.SX
