/- What an operation makes of the symbolic state: calls that are lent several things; a text gone through, rune by rune. -/
import Derived.Test.YtgmeglodnhagdaaGreatDoorSxHx
namespace Go.SX
open Go.RowKit
set_option linter.unusedVariables false
set_option linter.unusedSimpArgs false
set_option linter.unusedSectionVars false

/-! ### names, and other names -/
def V.ns1 : V → List Nat
  | .ptr n _ | .ep n _ _ _ | .own n | .mp n | .yld n => [n]
  | _ => []
def V.ns : V → List Nat
  | .agg l | .clo _ l | .tup l => l.flatMap V.ns1
  | v => v.ns1
def Ob.ns : Ob → List Nat
  | .cells _ cs => cs.flatMap V.ns
  | _ => []
def addN : List Nat → List Nat → List Nat
  | ns, [] => ns
  | ns, n :: l => addN (if ns.contains n then ns else ns ++ [n]) l
/-- All that some names lead to. -/
def reach (lo : List (Option Ob)) : Nat → List Nat → List Nat
  | 0, ns => ns
  | k + 1, ns => reach lo k (addN ns (ns.flatMap fun n => match lo[n]? with
    | some (some o) => o.ns
    | _ => []))

def V.rt1 (ρ : Nat → Option Nat) : V → V
  | .ptr n off => match ρ n with
    | some m => .ptr m off
    | none => .any
  | .ep n sz i j => match ρ n with
    | some m => .ep m sz i j
    | none => .any
  | .own n => match ρ n with
    | some m => .own m
    | none => .any
  | .mp n => match ρ n with
    | some m => .mp m
    | none => .any
  | .yld n => .any
  | .agg _ => .any
  | .clo _ _ => .any
  | .tup _ => .any
  | v => v
def V.rt2 (ρ : Nat → Option Nat) : V → V
  | .agg l => .agg (l.map (V.rt1 ρ))
  | .clo f l => .clo f (l.map (V.rt1 ρ))
  | v => V.rt1 ρ v
def V.rt (ρ : Nat → Option Nat) : V → V
  | .tup l => .tup (l.map (V.rt2 ρ))
  | v => V.rt2 ρ v
def Ob.rt (ρ : Nat → Option Nat) : Ob → Ob
  | .cells t cs => .cells t (cs.map (V.rt ρ))
  | o => o

section
variable {S S' L L' : Nat → Prop} {θ θ' : Th} {w : World} {ρ : Nat → Option Nat}

theorem den_rt1 (hS : ∀ x, S x → S' x) (hρ : ∀ n m, L n → ρ n = some m → L' m ∧ θ' m = θ n) {v : V} {u : Value} (h : Den S L θ w v u) : Den S' L' θ' w (v.rt1 ρ) u := by
  cases h with
  | any v => exact .any _
  | q x v h => exact .q _ _ (h.mono hS (fun _ _ => rfl))
  | kb b => exact .kb b
  | lc ks len get cap a n h => exact .lc _ _ _ _ _ _ (h.mono hS (fun _ _ => rfl))
  | ptr n off h =>
    simp only [V.rt1]
    split
    · rename_i m hm
      obtain ⟨h1, h2⟩ := hρ n m h hm
      rw [← h2]; exact .ptr m off h1
    · exact .any _
  | ep n sz i j h =>
    simp only [V.rt1]
    split
    · rename_i m hm
      obtain ⟨h1, h2⟩ := hρ n m h hm
      rw [← h2]; exact .ep m sz i j h1
    · exact .any _
  | own n ad len cap h e =>
    simp only [V.rt1]
    split
    · rename_i m hm
      obtain ⟨h1, h2⟩ := hρ n m h hm
      exact .own m _ _ _ h1 (by rw [h2]; exact e)
    · exact .any _
  | mp n h =>
    simp only [V.rt1]
    split
    · rename_i m hm
      obtain ⟨h1, h2⟩ := hρ n m h hm
      rw [← h2]; exact .mp m h1
    · exact .any _
  | yld n h => exact .any _
  | clo f caps vs h => exact .any _
  | agg l vs h => exact .any _
  | tup l vs h => exact .any _

theorem denL_rt1 (hS : ∀ x, S x → S' x) (hρ : ∀ n m, L n → ρ n = some m → L' m ∧ θ' m = θ n) : ∀ {l : List V} {us : List Value}, DenL S L θ w l us → DenL S' L' θ' w (l.map (V.rt1 ρ)) us
  | _, _, .nil => .nil
  | _, _, .cons x v l us h hl => .cons _ _ _ _ (den_rt1 hS hρ h) (denL_rt1 hS hρ hl)

theorem den_rt2 (hS : ∀ x, S x → S' x) (hρ : ∀ n m, L n → ρ n = some m → L' m ∧ θ' m = θ n) {v : V} {u : Value} (h : Den S L θ w v u) : Den S' L' θ' w (v.rt2 ρ) u := by
  cases h with
  | agg l vs h => exact .agg _ _ (denL_rt1 hS hρ h)
  | clo f l vs h => exact .clo _ _ _ (denL_rt1 hS hρ h)
  | any v => exact .any _
  | q x v h => exact den_rt1 hS hρ (.q x _ h)
  | kb b => exact .kb b
  | lc ks len get cap a n h => exact den_rt1 hS hρ (.lc ks len get cap a n h)
  | ptr n off h => exact den_rt1 hS hρ (.ptr n off h)
  | ep n sz i j h => exact den_rt1 hS hρ (.ep n sz i j h)
  | own n ad len cap h e => exact den_rt1 hS hρ (.own n ad len cap h e)
  | mp n h => exact den_rt1 hS hρ (.mp n h)
  | yld n h => exact .any _
  | tup l vs h => exact .any _

theorem denL_rt2 (hS : ∀ x, S x → S' x) (hρ : ∀ n m, L n → ρ n = some m → L' m ∧ θ' m = θ n) : ∀ {l : List V} {us : List Value}, DenL S L θ w l us → DenL S' L' θ' w (l.map (V.rt2 ρ)) us
  | _, _, .nil => .nil
  | _, _, .cons x v l us h hl => .cons _ _ _ _ (den_rt2 hS hρ h) (denL_rt2 hS hρ hl)

theorem den_rt (hS : ∀ x, S x → S' x) (hρ : ∀ n m, L n → ρ n = some m → L' m ∧ θ' m = θ n) {v : V} {u : Value} (h : Den S L θ w v u) : Den S' L' θ' w (v.rt ρ) u := by
  cases h with
  | tup l vs h => exact .tup _ _ (denL_rt2 hS hρ h)
  | agg l vs h => exact den_rt2 hS hρ (.agg l vs h)
  | clo f l vs h => exact den_rt2 hS hρ (.clo f l vs h)
  | any v => exact .any _
  | q x v h => exact den_rt2 hS hρ (.q x _ h)
  | kb b => exact .kb b
  | lc ks len get cap a n h => exact den_rt2 hS hρ (.lc ks len get cap a n h)
  | ptr n off h => exact den_rt2 hS hρ (.ptr n off h)
  | ep n sz i j h => exact den_rt2 hS hρ (.ep n sz i j h)
  | own n ad len cap h e => exact den_rt2 hS hρ (.own n ad len cap h e)
  | mp n h => exact den_rt2 hS hρ (.mp n h)
  | yld n h => exact .any _

theorem denL_rt (hS : ∀ x, S x → S' x) (hρ : ∀ n m, L n → ρ n = some m → L' m ∧ θ' m = θ n) : ∀ {l : List V} {us : List Value}, DenL S L θ w l us → DenL S' L' θ' w (l.map (V.rt ρ)) us
  | _, _, .nil => .nil
  | _, _, .cons x v l us h hl => .cons _ _ _ _ (den_rt hS hρ h) (denL_rt hS hρ hl)

theorem holds_rt (hS : ∀ x, S x → S' x) (hρ : ∀ n m, L n → ρ n = some m → L' m ∧ θ' m = θ n) {n m : Nat} {o : Ob} (ho : outOb o = true) (hm : θ' m = θ n) (h : Holds S L θ w n o) : Holds S' L' θ' w m (o.rt ρ) := by
  cases o with
  | map kk ag vk es =>
    obtain ⟨arr, clk, h1, h2⟩ := h
    exact ⟨arr, clk, by rw [hm]; exact h1, h2.mono hS (fun _ _ => rfl)⟩
  | cells t cs =>
    obtain ⟨vs, h1, h2⟩ := h
    exact ⟨vs, by rw [hm]; exact h1, denL_rt hS hρ h2⟩
  | vec t ks len get =>
    rcases h with ⟨h1, h2⟩ | ⟨vs, cap, h1, h2, h3, h4, h5, h6⟩
    · exact .inl ⟨by rw [hm]; exact h1, h2⟩
    · refine .inr ⟨vs, cap, by rw [hm]; exact h1, by rw [hm]; exact h2, h3, h4, h5, fun i j k hi hk => ?_⟩
      obtain ⟨a, u, b, c⟩ := h6 i j k hi hk
      exact ⟨a, u, b, c.mono hS (fun _ _ => rfl)⟩
  | siter b pos => show _ = _; rw [hm]; exact h
  | deads => trivial
  | dead => trivial
  | gone => trivial
  | yl go adm => simp [outOb] at ho
  | dfr => simp [outOb] at ho
  | raw x => simp [outOb] at ho
  | held tm => simp [outOb] at ho

theorem uses_rt {n m : Nat} (h : θ' m = θ n) (o : Ob) (b : Nat) : uses θ' m (o.rt ρ) b ↔ uses θ n o b := by
  cases o <;> simp [Ob.rt, uses, h]
end

theorem inOut {o : Ob} (h : inOb o = true) : outOb o = true := by cases o <;> simp [inOb, outOb] at h ⊢
theorem outOb_rt {ρ : Nat → Option Nat} {o : Ob} (h : outOb o = true) : outOb (o.rt ρ) = true := by cases o <;> simp [Ob.rt, outOb] at h ⊢

/-! ### the call -/
def ixA (n : Nat) : List Nat → Nat → Option Nat
  | [], _ => none
  | m :: l, k => if m = n then some k else ixA n l (k + 1)
def ixOf (ns : List Nat) (n : Nat) : Option Nat := ixA n ns 0
def nodupA : List Nat → Bool
  | [] => true
  | n :: l => !(l.contains n) && nodupA l

theorem ixA_some {n : Nat} : ∀ {l : List Nat} {k j : Nat}, ixA n l k = some j → k ≤ j ∧ l[j - k]? = some n
  | [], k, j, h => by cases h
  | m :: l, k, j, h => by
    simp only [ixA] at h
    split at h
    · rename_i e
      cases h
      subst e
      simp
    · obtain ⟨h1, h2⟩ := ixA_some h
      refine ⟨by omega, ?_⟩
      rw [show j - k = (j - (k + 1)) + 1 by omega]
      simpa using h2
theorem ixOf_some {ns : List Nat} {n j : Nat} (h : ixOf ns n = some j) : ns[j]? = some n := by
  have := (ixA_some h).2
  simpa using this
theorem nodupA_inj : ∀ {l : List Nat}, nodupA l = true → ∀ (i j n : Nat), l[i]? = some n → l[j]? = some n → i = j
  | [], _, i, j, n, h, _ => by simp at h
  | m :: l, h, i, j, n, h1, h2 => by
    simp only [nodupA, Bool.and_eq_true, Bool.not_eq_true'] at h
    have hm : m ∉ l := by
      intro hh
      have := h.1
      simp [hh] at this
    cases i with
    | zero =>
      cases j with
      | zero => rfl
      | succ j =>
        simp at h1 h2
        subst h1
        exact absurd (List.mem_of_getElem? h2) hm
    | succ i =>
      cases j with
      | zero =>
        simp at h1 h2
        subst h2
        exact absurd (List.mem_of_getElem? h1) hm
      | succ j =>
        have := nodupA_inj h.2 i j n (by simpa using h1) (by simpa using h2)
        omega

/-- The name that the j-th thing has behind the call. -/
def nmOf (ns : List Nat) (nm j : Nat) : Nat := if j < ns.length then ns.getD j 0 else nm + (j - ns.length)
def outWs (ns : List Nat) (nm : Nat) (lo : List (Option Ob)) : Nat → List (Option Ob) → List (Nat × Ob)
  | _, [] => []
  | j, none :: l => outWs ns nm lo (j + 1) l
  | j, some o :: l => (nmOf ns nm j, o.rt fun j => some (nmOf ns nm j)) :: outWs ns nm lo (j + 1) l

def lends (lo : List (Option Ob)) (ρ : Nat → Option Nat) : List Nat → Option (List (Option Ob))
  | [] => some []
  | n :: l => match lo[n]?, lends lo ρ l with
    | some (some o), some r => if inOb o then some (some (o.rt ρ) :: r) else none
    | _, _ => none

/-- A call that is lent all that its arguments lead to. -/
def mcall (s : St) (nm : Nat) (sp : List (Option Ob) → List V → T MOut) (args : List V) : T Upd :=
  let ns := reach s.lo s.lo.length (addN [] (args.flatMap V.ns))
  if nodupA ns && decide (s.lo.length ≤ nm) then match lends s.lo (ixOf ns) ns with
    | some los => (sp los (args.map (V.rt (ixOf ns)))).bind fun x => .leaf (.many (x.r.rt fun j => some (nmOf ns nm j)) (outWs ns nm x.lo 0 x.lo))
    | none => .bad
  else .bad

theorem lends_get {lo : List (Option Ob)} {ρ : Nat → Option Nat} : ∀ {ns : List Nat} {los : List (Option Ob)}, lends lo ρ ns = some los → los.length = ns.length ∧ ∀ (j n : Nat), ns[j]? = some n → ∃ o, lo[n]? = some (some o) ∧ inOb o = true ∧ los[j]? = some (some (o.rt ρ))
  | [], los, h => by cases h; exact ⟨rfl, fun j n hj => by simp at hj⟩
  | n :: ns, los, h => by
    simp only [lends] at h
    split at h
    · rename_i o r ho hr
      split at h
      · rename_i hi
        cases h
        obtain ⟨h1, h2⟩ := lends_get hr
        refine ⟨by simp [h1], fun j m hj => ?_⟩
        cases j with
        | zero => simp at hj; subst hj; exact ⟨o, ho, hi, rfl⟩
        | succ j => simpa using h2 j m (by simpa using hj)
      · cases h
    · cases h

theorem outWs_mem {ns : List Nat} {nm : Nat} {lo0 : List (Option Ob)} : ∀ (l : List (Option Ob)) (k : Nat) (m : Nat) (o : Ob), (m, o) ∈ outWs ns nm lo0 k l ↔ ∃ j o', l[j]? = some (some o') ∧ m = nmOf ns nm (k + j) ∧ o = o'.rt fun j => some (nmOf ns nm j)
  | [], k, m, o => by simp [outWs]
  | none :: l, k, m, o => by
    simp only [outWs, outWs_mem l (k + 1)]
    constructor
    · rintro ⟨j, o', h1, h2, h3⟩
      exact ⟨j + 1, o', by simpa using h1, by rw [h2]; congr 1; omega, h3⟩
    · rintro ⟨j, o', h1, h2, h3⟩
      cases j with
      | zero => simp at h1
      | succ j => exact ⟨j, o', by simpa using h1, by rw [h2]; congr 1; omega, h3⟩
  | some x :: l, k, m, o => by
    simp only [outWs, List.mem_cons, Prod.mk.injEq, outWs_mem l (k + 1)]
    constructor
    · rintro (⟨h1, h2⟩ | ⟨j, o', h1, h2, h3⟩)
      · exact ⟨0, x, rfl, by simpa using h1, h2⟩
      · exact ⟨j + 1, o', by simpa using h1, by rw [h2]; congr 1; omega, h3⟩
    · rintro ⟨j, o', h1, h2, h3⟩
      cases j with
      | zero => simp at h1; subst h1; exact .inl ⟨by simpa using h2, h3⟩
      | succ j => exact .inr ⟨j, o', by simpa using h1, by rw [h2]; congr 1; omega, h3⟩

theorem ins_get [GW] (lo : List (Option Ob)) (n : Nat) (o : Ob) (m : Nat) (x : Ob) : (ins lo n o)[m]? = some (some x) ↔ (m = n ∧ x = o) ∨ (m ≠ n ∧ lo[m]? = some (some x)) := by
  by_cases e : m = n
  · subst e
    rw [ins_same]
    constructor
    · intro h; cases h; exact .inl ⟨rfl, rfl⟩
    · rintro (⟨_, rfl⟩ | ⟨h, _⟩)
      · rfl
      · exact absurd rfl h
  · constructor
    · intro h
      refine .inr ⟨e, ?_⟩
      unfold ins at h
      rw [List.getElem?_set_ne (fun h => e h.symm), List.getElem?_append] at h
      split at h
      · exact h
      · simp [List.getElem?_replicate] at h
    · rintro (⟨h, _⟩ | ⟨_, h⟩)
      · exact absurd h e
      · unfold ins
        rw [List.getElem?_set_ne (fun h => e h.symm), List.getElem?_append_left (List.getElem?_eq_some_iff.1 h).1]
        exact h

/-- Several written, each once. -/
theorem insL_get [GW] : ∀ {ws : List (Nat × Ob)} {lo : List (Option Ob)}, (∀ (i j n : Nat) (o o' : Ob), ws[i]? = some (n, o) → ws[j]? = some (n, o') → i = j) → lo.length ≤ (insL ws lo).length ∧ ∀ (m : Nat) (x : Ob), (insL ws lo)[m]? = some (some x) ↔ (m, x) ∈ ws ∨ ((∀ o, (m, o) ∉ ws) ∧ lo[m]? = some (some x))
  | [], lo, _ => ⟨Nat.le_refl _, fun m x => by simp [insL]⟩
  | (n, o) :: ws, lo, hd => by
    obtain ⟨h1, h2⟩ := insL_get (ws := ws) (lo := ins lo n o) (fun i j n o o' hi hj => by
      have := hd (i + 1) (j + 1) n o o' (by simpa using hi) (by simpa using hj)
      omega)
    have hnot : ∀ o', (n, o') ∉ ws := fun o' hm => by
      obtain ⟨j, hj⟩ := List.mem_iff_getElem?.1 hm
      have := hd 0 (j + 1) n o o' rfl (by simpa using hj)
      omega
    refine ⟨Nat.le_trans (ins_len lo n o) h1, fun m x => ?_⟩
    simp only [insL]
    rw [h2]
    constructor
    · rintro (h | ⟨h3, h4⟩)
      · exact .inl (List.mem_cons_of_mem _ h)
      · rcases (ins_get _ _ _ _ _).1 h4 with ⟨rfl, rfl⟩ | ⟨e, h5⟩
        · exact .inl List.mem_cons_self
        · refine .inr ⟨fun o' hm => ?_, h5⟩
          cases hm with
          | head => exact e rfl
          | tail _ hm => exact h3 o' hm
    · rintro (h | ⟨h3, h4⟩)
      · cases h with
        | head => exact .inr ⟨hnot, (ins_get _ _ _ _ _).2 (.inl ⟨rfl, rfl⟩)⟩
        | tail _ h => exact .inl h
      · refine .inr ⟨fun o' hm => h3 o' (List.mem_cons_of_mem _ hm), (ins_get _ _ _ _ _).2 (.inr ⟨fun e => h3 o (e ▸ List.mem_cons_self), h4⟩)⟩

section
variable [GW] {P : Program} {J : Jt P} {Am Mi : Nat → Prop} {w0 w : World} {s : St} {θ : Th} {a : Act} {Γ : Gam} {r : Option Nat} {n : Nat} {o : Oper} {K : Act → World → Prop} {Q : Exit → Act → World → Prop}

theorem mcall_wp (h : Rep J Am Mi w0 s θ a w) {nm : Nat} {f : Nat} {sp : List (Option Ob) → List V → T MOut} (hS : SpecM P f sp) {args : List V} {vals : List Value} (hd : DenL (Stab Am s.lo θ w) (Liv s.lo) θ w args vals)
    {u : Upd} (hp : (mcall s nm sp args).pick = some u) (d : Option Nat) :
    Calls P f vals.toArray w fun e w' => ∃ v, e = .returned v ∧ ∃ θ'', Rep J Am Mi w0 (u.ap d s) θ'' (a.put d v) w' := by
  unfold mcall at hp
  generalize hns : reach s.lo s.lo.length (addN [] (args.flatMap V.ns)) = ns at hp
  simp only at hp
  split at hp
  · rename_i hc
    simp only [Bool.and_eq_true, decide_eq_true_eq] at hc
    obtain ⟨hnd, hnm⟩ := hc
    split at hp
    · rename_i los hlos
      rw [T.pick_bind] at hp
      obtain ⟨x, hx, hp⟩ := hp
      cases hp
      obtain ⟨hlen, hget⟩ := lends_get hlos
      have hinj := nodupA_inj hnd
      -- what is lent, one by one
      have hlo : ∀ (j : Nat) (o : Ob), los[j]? = some (some o) → ∃ n o', ns[j]? = some n ∧ s.lo[n]? = some (some o') ∧ inOb o' = true ∧ o = o'.rt (ixOf ns) := fun j o hj => by
        have hjl : j < ns.length := by rw [← hlen]; exact (List.getElem?_eq_some_iff.1 hj).1
        obtain ⟨o', h1, h2, h3⟩ := hget j _ (List.getElem?_eq_getElem hjl)
        rw [h3] at hj
        cases hj
        exact ⟨_, o', List.getElem?_eq_getElem hjl, h1, h2, rfl⟩
      have hθl : ∀ (j n : Nat), ns[j]? = some n → (fun j => θ (ns.getD j 0)) j = θ n := fun j n hj => by simp [List.getD_eq_getElem?_getD, hj]
      have hρ : ∀ n m, Liv s.lo n → ixOf ns n = some m → Liv los m ∧ (fun j => θ (ns.getD j 0)) m = θ n := fun n m hn hm => by
        have h1 := ixOf_some hm
        obtain ⟨o', h2, h3, h4⟩ := hget m n h1
        exact ⟨⟨_, h4⟩, hθl m n h1⟩
      have huse : ∀ (j n : Nat) (o' : Ob) (b : Nat), ns[j]? = some n → (uses (fun j => θ (ns.getD j 0)) j (o'.rt (ixOf ns)) b ↔ uses θ n o' b) := fun j n o' b hj => uses_rt (hθl j n hj) o' b
      have hC := hS.2 (Stab Am s.lo θ w) w (fun j => θ (ns.getD j 0)) los (args.map (V.rt (ixOf ns))) vals x (fun b hb => hb.1) h.fr.glw h.glS (fun j o hj => by
          obtain ⟨n, o', h1, h2, h3, rfl⟩ := hlo j o hj
          refine ⟨by cases o' <;> simp [inOb, Ob.rt] at h3 ⊢, holds_rt (fun _ x => x) hρ (inOut h3) (hθl j n h1) (h.lo n o' h2), fun b hb => ?_⟩
          have hb' := (huse j n o' b h1).1 hb
          exact ⟨(h.lt n o' b h2 hb').1, fun hst => hst.2.2 n o' h2 hb'⟩) (fun i j o1 o2 b hi hj hne hu1 hu2 => by
          obtain ⟨n1, p1, a1, a2, a3, rfl⟩ := hlo i o1 hi
          obtain ⟨n2, p2, b1, b2, b3, rfl⟩ := hlo j o2 hj
          exact h.inj n1 n2 p1 p2 b a2 b2 (fun e => hne (hinj i j n1 a1 (e ▸ b1))) ((huse i n1 p1 b a1).1 hu1) ((huse j n2 p2 b b1).1 hu2)) (denL_rt (fun _ x => x) hρ hd) hx
      refine hC.mono ?_
      rintro e w' ⟨v, θ', rfl, hth, hos, htp, hout, hsz, hheap, hliv, hx1, hx2, hx3⟩
      -- the names behind the call
      have hnmi : ∀ i j, i < x.lo.length → j < x.lo.length → nmOf ns nm i = nmOf ns nm j → i = j := fun i j _ _ he => by
        have hlt : ∀ i, i < ns.length → ns.getD i 0 < nm ∧ ns[i]? = some (ns.getD i 0) := fun i hi => by
          have h1 : ns[i]? = some (ns.getD i 0) := by simp [List.getD_eq_getElem?_getD, hi]
          obtain ⟨o', h2, _⟩ := hget i _ h1
          have := (List.getElem?_eq_some_iff.1 h2).1
          exact ⟨by omega, h1⟩
        unfold nmOf at he
        by_cases hi : i < ns.length <;> by_cases hj : j < ns.length
        · simp only [hi, hj, if_true] at he
          exact hinj i j _ (hlt i hi).2 (by rw [he]; exact (hlt j hj).2)
        · simp only [hi, hj, if_true, if_false] at he
          have := (hlt i hi).1
          omega
        · simp only [hi, hj, if_true, if_false] at he
          have := (hlt j hj).1
          omega
        · simp only [hi, hj, if_false] at he
          omega
      have hws : ∀ (i j m : Nat) (o o' : Ob), (outWs ns nm x.lo 0 x.lo)[i]? = some (m, o) → (outWs ns nm x.lo 0 x.lo)[j]? = some (m, o') → i = j := by
        have key : ∀ (l : List (Option Ob)) (k : Nat), k + l.length = x.lo.length → ∀ (i j m : Nat) (o o' : Ob), (outWs ns nm x.lo k l)[i]? = some (m, o) → (outWs ns nm x.lo k l)[j]? = some (m, o') → i = j := by
          intro l
          induction l with
          | nil => intro k _ i j m o o' h1; simp [outWs] at h1
          | cons y l ih =>
            intro k hk i j m o o' h1 h2
            simp only [List.length_cons] at hk
            cases y with
            | none => exact ih (k + 1) (by omega) i j m o o' h1 h2
            | some y =>
              simp only [outWs] at h1 h2
              have hno : ∀ (i : Nat) (o : Ob), (outWs ns nm x.lo (k + 1) l)[i]? ≠ some (nmOf ns nm k, o) := fun i o hh => by
                obtain ⟨j', o'', g1, g2, _⟩ := (outWs_mem l (k + 1) _ _).1 (List.mem_of_getElem? hh)
                have hj' := (List.getElem?_eq_some_iff.1 g1).1
                have := hnmi k (k + 1 + j') (by omega) (by omega) g2
                omega
              cases i with
              | zero =>
                cases j with
                | zero => rfl
                | succ j =>
                  simp at h1 h2
                  obtain ⟨rfl, _⟩ := h1
                  exact absurd h2 (hno j o')
              | succ i =>
                cases j with
                | zero =>
                  simp at h1 h2
                  obtain ⟨rfl, _⟩ := h2
                  exact absurd h1 (hno i o)
                | succ j =>
                  have := ih (k + 1) (by omega) i j m o o' (by simpa using h1) (by simpa using h2)
                  omega
        exact key x.lo 0 (by omega)
      obtain ⟨il, ig⟩ := insL_get (lo := s.lo) hws
      generalize hlo' : insL (outWs ns nm x.lo 0 x.lo) s.lo = lo' at il ig
      have hmem : ∀ m y, (m, y) ∈ outWs ns nm x.lo 0 x.lo ↔ ∃ j o', x.lo[j]? = some (some o') ∧ m = nmOf ns nm j ∧ y = o'.rt fun j => some (nmOf ns nm j) := fun m y => by
        rw [outWs_mem]
        simp only [Nat.zero_add]
      -- the valuation behind it
      have hθ'' : ∀ j, j < x.lo.length → (fun m => if nm ≤ m then θ' (m - nm + ns.length) else θ m) (nmOf ns nm j) = θ' j := fun j hj => by
        unfold nmOf
        by_cases hjl : j < ns.length
        · have h1 : ns[j]? = some (ns.getD j 0) := by simp [List.getD_eq_getElem?_getD, hjl]
          obtain ⟨o', h2, _⟩ := hget j _ h1
          have h3 := (List.getElem?_eq_some_iff.1 h2).1
          have h4 : ¬ nm ≤ ns.getD j 0 := by omega
          simp only [hjl, if_true, if_neg h4]
          rw [hth j (by rw [hlen]; exact hjl)]
        · have h4 : nm ≤ nm + (j - ns.length) := by omega
          simp only [hjl, if_false, if_pos h4]
          congr 1
          omega
      have hold : ∀ m, m < nm → (fun m => if nm ≤ m then θ' (m - nm + ns.length) else θ m) m = θ m := fun m hm => by
        have : ¬ nm ≤ m := by omega
        simp only [if_neg this]
      have hlive : ∀ m, Liv s.lo m → m < nm := fun m ⟨o', ho⟩ => Nat.lt_of_lt_of_le (List.getElem?_eq_some_iff.1 ho).1 hnm
      -- C: what is written
      have hCm : ∀ m, (∃ y, (m, y) ∈ outWs ns nm x.lo 0 x.lo) → ∀ y, lo'[m]? = some (some y) → ∃ j o', x.lo[j]? = some (some o') ∧ m = nmOf ns nm j ∧ y = o'.rt (fun j => some (nmOf ns nm j)) := fun m ⟨y0, hy0⟩ y hy => by
        rcases (ig m y).1 hy with h1 | ⟨h1, _⟩
        · exact (hmem m y).1 h1
        · exact absurd hy0 (h1 y0)
      have hxlt : ∀ (j : Nat) (o' : Ob), x.lo[j]? = some (some o') → j < x.lo.length := fun j o' hj => (List.getElem?_eq_some_iff.1 hj).1
      have husx : ∀ (j : Nat) (o' : Ob) (b : Nat), x.lo[j]? = some (some o') → (uses (fun m => if nm ≤ m then θ' (m - nm + ns.length) else θ m) (nmOf ns nm j) (o'.rt fun j => some (nmOf ns nm j)) b ↔ uses θ' j o' b) := fun j o' b hj => uses_rt (hθ'' j (hxlt j o' hj)) o' b
      -- O: the blocks that what was lent had
      have hOl : ∀ b, (∃ m o', los[m]? = some (some o') ∧ uses (fun j => θ (ns.getD j 0)) m o' b) → ∃ m y, (∃ j, ns[j]? = some m) ∧ s.lo[m]? = some (some y) ∧ uses θ m y b := fun b ⟨m, o', h1, h2⟩ => by
        obtain ⟨n', o'', g1, g2, g3, rfl⟩ := hlo m o' h1
        exact ⟨n', o'', ⟨m, g1⟩, g2, (huse m n' o'' b g1).1 h2⟩
      have hOl' : ∀ b j m y, ns[j]? = some m → s.lo[m]? = some (some y) → uses θ m y b → ∃ m o', los[m]? = some (some o') ∧ uses (fun j => θ (ns.getD j 0)) m o' b := fun b j m y h1 h2 h3 => by
        obtain ⟨o', g1, g2, g3⟩ := hget j m h1
        rw [h2] at g1
        cases g1
        exact ⟨j, _, g3, (huse j m y b h1).2 h3⟩
      have hlent : ∀ j m, ns[j]? = some m → ∃ y, (m, y) ∈ outWs ns nm x.lo 0 x.lo := fun j m hj => by
        obtain ⟨o', g1, g2, g3⟩ := hget j m hj
        obtain ⟨o'', g4⟩ := hliv j ⟨_, g3⟩
        refine ⟨_, (hmem m _).2 ⟨j, o'', g4, ?_, rfl⟩⟩
        have hjl := (List.getElem?_eq_some_iff.1 hj).1
        unfold nmOf
        rw [if_pos hjl, List.getD_eq_getElem?_getD, hj]
        rfl
      have hR := h.change (lo' := lo') (θ' := fun m => if nm ≤ m then θ' (m - nm + ns.length) else θ m) (w' := w') (fun m => ∃ y, (m, y) ∈ outWs ns nm x.lo 0 x.lo) (fun b => ∃ m o', los[m]? = some (some o') ∧ uses (fun j => θ (ns.getD j 0)) m o' b)
        (fun m y hm hc => by
          rcases (ig m y).1 hm with h1 | ⟨_, h1⟩
          · exact absurd ⟨y, h1⟩ hc
          · exact h1)
        (fun m hm => hold m (hlive m hm))
        (fun m hm => hold m (by have := h.tt.2.1; omega))
        (fun m ⟨y, hy⟩ => by
          by_cases hc : ∃ y, (m, y) ∈ outWs ns nm x.lo 0 x.lo
          · obtain ⟨z, hz⟩ := hc
            exact ⟨z, (ig m z).2 (.inl hz)⟩
          · exact ⟨y, (ig m y).2 (.inr ⟨fun o ho => hc ⟨o, ho⟩, hy⟩)⟩)
        il
        (fun m y b hc hm hux => by
          obtain ⟨j, o', g1, rfl, rfl⟩ := hCm m hc y hm
          exact (hx1 j o' g1).2.2 b ((husx j o' b g1).1 hux))
        (fun b hb => by
          obtain ⟨m, y, ⟨j, hj⟩, g2, g3⟩ := hOl b hb
          exact ⟨m, y, hlent j m hj, g2, g3⟩)
        (fun m m' y y' b hc hc' hm hm' hne hux hux' => by
          obtain ⟨j, o', g1, rfl, rfl⟩ := hCm m hc y hm
          obtain ⟨j', o'', g1', rfl, rfl⟩ := hCm m' hc' y' hm'
          exact hx2 j j' o' o'' b g1 g1' (fun e => hne (by rw [e])) ((husx j o' b g1).1 hux) ((husx j' o'' b g1').1 hux'))
        hos htp hout hsz (fun b hb hnO => hheap b hb fun m o' hm hu => hnO ⟨m, o', hm, hu⟩)
        (fun m go adm hc hm => by
          obtain ⟨j, o', g1, rfl, g3⟩ := hCm m hc _ hm
          have := outOb_rt (ρ := fun j => some (nmOf ns nm j)) (hx1 j o' g1).1
          rw [← g3] at this
          simp [outOb] at this)
        (fun m y ⟨z, hz⟩ hm => by
          obtain ⟨j, o', g1, rfl, _⟩ := (hmem _ z).1 hz
          have hmn := hlive _ ⟨_, hm⟩
          unfold nmOf at hm hmn
          by_cases hjl : j < ns.length
          · simp only [hjl, if_true] at hm
            have h1 : ns[j]? = some (ns.getD j 0) := by simp [List.getD_eq_getElem?_getD, hjl]
            obtain ⟨o'', g4, g5, _⟩ := hget j _ h1
            rw [g4] at hm
            cases hm
            simp [inOb] at g5
          · simp only [hjl, if_false] at hmn
            omega)
        (fun m y hc hm => (ig m y).2 (.inr ⟨fun o ho => hc ⟨o, ho⟩, hm⟩))
        (fun m y hc hm S hS1 hS2 hS3 => by
          obtain ⟨j, o', g1, rfl, rfl⟩ := hCm m hc y hm
          have hfree : ∀ b, (∀ k o, x.lo[k]? = some (some o) → ¬ uses θ' k o b) → ∀ m y, (∃ y, (m, y) ∈ outWs ns nm x.lo 0 x.lo) → lo'[m]? = some (some y) → ¬ uses (fun m => if nm ≤ m then θ' (m - nm + ns.length) else θ m) m y b := fun b hb m y hc hm hux => by
            obtain ⟨j, o', g1, rfl, rfl⟩ := hCm m hc y hm
            exact hb j o' g1 ((husx j o' b g1).1 hux)
          refine holds_rt (fun b hb => ?_) (fun k m hk hm => ?_) (hx1 j o' g1).1 (hθ'' j (hxlt j o' g1)) (hx1 j o' g1).2.1
          · obtain ⟨hb1, hb2⟩ := hb
            rcases hb1 with (hb1 | ⟨hb1, hb3⟩) | hb1
            · exact hS1 b hb1
            · exact hS2 b hb1 hb3 (hfree b hb2)
            · exact hS3 b hb1 (hfree b hb2)
          · cases hm
            obtain ⟨o'', ho''⟩ := hk
            exact ⟨⟨_, (ig _ _).2 (.inl ((hmem _ _).2 ⟨k, o'', ho'', rfl, rfl⟩))⟩, hθ'' k (hxlt k o'' ho'')⟩)
      refine ⟨v, rfl, fun m => if nm ≤ m then θ' (m - nm + ns.length) else θ m, ?_⟩
      have hap : (Upd.many (x.r.rt fun j => some (nmOf ns nm j)) (outWs ns nm x.lo 0 x.lo)).ap d s = { ({ s with lo := lo' } : St) with tm := putT s.tm d (x.r.rt fun j => some (nmOf ns nm j)) } := by rw [← hlo']; rfl
      rw [hap]
      refine hR.putO d (den_rt (fun b hb => ?_) (fun k m hk hm => ?_) hx3)
      · obtain ⟨hb1, hb2⟩ := hb
        have hlt : b < w'.heap.size ∧ ¬ Am b ∧ (∀ (m : Nat) (y : Ob), s.lo[m]? = some (some y) → uses θ m y b → ∃ j : Nat, ns[j]? = some m) := by
          rcases hb1 with (hb1 | ⟨hb1, hb3⟩) | hb1
          · exact ⟨Nat.lt_of_lt_of_le hb1.1 hsz, hb1.2.1, fun m y hm hu => absurd hu (hb1.2.2 m y hm)⟩
          · refine ⟨hb3, fun ham => by have := h.am b ham; omega, fun m y hm hu => ?_⟩
            have := (h.lt m y b hm hu).1
            omega
          · obtain ⟨m, y, ⟨j, hj⟩, g2, g3⟩ := hOl b hb1
            obtain ⟨g4, _, g5⟩ := h.lt m y b g2 g3
            refine ⟨Nat.lt_of_lt_of_le g4 hsz, g5, fun m' y' hm' hu' => ?_⟩
            by_cases e : m' = m
            · exact ⟨j, by rw [e]; exact hj⟩
            · exact absurd hu' (h.inj m m' y y' b g2 hm' (fun e' => e e'.symm) g3)
        refine ⟨hlt.1, hlt.2.1, fun m y hm hu => ?_⟩
        by_cases hc : ∃ y, (m, y) ∈ outWs ns nm x.lo 0 x.lo
        · obtain ⟨j, o', g1, rfl, rfl⟩ := hCm m hc y hm
          exact hb2 j o' g1 ((husx j o' b g1).1 hu)
        · rcases (ig m y).1 hm with h1 | ⟨_, h1⟩
          · exact hc ⟨y, h1⟩
          · have hmn := hlive m ⟨y, h1⟩
            rw [uses_congr (hold m hmn)] at hu
            obtain ⟨j, hj⟩ := hlt.2.2 m y h1 hu
            exact hc (hlent j m hj)
      · cases hm
        obtain ⟨o'', ho''⟩ := hk
        exact ⟨⟨_, (ig _ _).2 (.inl ((hmem _ _).2 ⟨k, o'', ho'', rfl, rfl⟩))⟩, hθ'' k (hxlt k o'' ho'')⟩
    · simp [T.pick] at hp
  · simp [T.pick] at hp

end

section
variable {P : Program} {s : St} {Γ : Gam} {o : Oper}
/-- A text is gone through. -/
def nextE (s : St) (it : Operand) : T Upd := match ev s it with
  | .ptr n 0 => match s.lo[n]? with
    | some (some (.siter b pos)) => .ite (decide (pos < b.size)) (.leaf (.many (.tup [.kb true, V.i (pos : Nat), V.int .i32 ((Utf8.decode b pos).1 : Nat)]) [(n, .siter b (pos + (Utf8.decode b pos).2))])) (.leaf (.val (.tup [.kb false])))
    | _ => .bad
  | _ => .bad

/-- What else may be done, in a text's order: calls that are lent several things, a text gone through. -/
def effA (P : Program) (Γ : Gam) (nm : Nat) (o : Oper) (s : St) : T Upd := match o.op with
  | .next it true => nextE s it
  | .call c => match c.callee with
    | .value x => match calleeV s x with
      | some (f, caps) => match look Γ f with
        | some (.m sp) => mcall s nm sp (c.args.toList.map (ev s) ++ caps)
        | _ => effX P Γ nm o s
      | none => .bad
    | _ => effX P Γ nm o s
  | _ => .bad

theorem effA_of_X {nm : Nat} {u : Upd} (h : (effX P Γ nm o s).pick = some u) : (effA P Γ nm o s).pick = some u := by
  have h0 := h
  unfold effX at h
  unfold effA
  split at h
  · rename_i c hop
    simp only [hop]
    split at h
    · rename_i hcal
      simp only [hcal]
      exact h0
    · rename_i y hcal
      simp only [hcal]
      split at h
      · rename_i f caps hcv
        simp only [hcv]
        split at h
        · rename_i lend sp hsp
          simp only [hsp]
          exact h0
        · simp [T.pick] at h
      · simp [T.pick] at h
    · simp [T.pick] at h
  · simp [T.pick] at h

end

section
variable [GW] {P : Program} {J : Jt P} {Am Mi : Nat → Prop} {w0 w : World} {s : St} {θ : Th} {a : Act} {Γ : Gam} {r : Option Nat} {n : Nat} {o : Oper} {K : Act → World → Prop} {Q : Exit → Act → World → Prop}
theorem effA_wp (hΓ : GOK P Γ) (h : Rep J Am Mi w0 s θ a w) {nm : Nat} (hn : Fresh s nm) {u : Upd} (hp : (effA P Γ nm o s).pick = some u)
    (hK : ∀ θ' a' w', Rep J Am Mi w0 (u.ap o.dst s) θ' a' w' → K a' w') : o.wpIn (FW r) n P a w K Q := by
  unfold effA at hp
  split at hp
  · rename_i it hop
    unfold nextE at hp
    split at hp
    · rename_i n' hit
      split at hp
      · rename_i b pos hlo
        have hpe := h.ev it
        rw [hit] at hpe
        obtain ⟨hptr, _⟩ := hpe.ptr_inv
        have hH : w.heap[(θ n').blk]? = some (.stringIter b pos) := h.lo _ _ hlo
        have hg : (getObj (θ n').blk).run P w = .ok (.stringIter b pos) w := by simp [getObj, Sem.run, hH]
        simp only [T.pick] at hp
        cases hlt : decide (pos < b.size) with
        | true =>
          rw [hlt] at hp
          cases hp
          have hlt' : pos < b.size := of_decide_eq_true hlt
          have ht := h.turn n' _ (.siter b (pos + (Utf8.decode b pos).2)) hlo (fun c hc => hc) (fun _ _ e => by cases e) (.inr fun _ e => by cases e) (w' := w.putObj (θ n').blk (.stringIter b (pos + (Utf8.decode b pos).2))) rfl rfl rfl (by simp) (fun c hc => World.putObj_heap_other (fun e => hc e)) (World.putObj_heap_same (h.lt n' _ _ hlo rfl).1)
          have hset : (setObj (θ n').blk (.stringIter b (pos + (Utf8.decode b pos).2))).run P w = .ok () (w.putObj (θ n').blk (.stringIter b (pos + (Utf8.decode b pos).2))) := by simp [setObj, Sem.run, World.putObj, hH]
          refine wpIn_value (v := .tuple #[.bool true, .int .i64 pos, .int .i32 (Utf8.decode b pos).1]) (w' := w.putObj (θ n').blk (.stringIter b (pos + (Utf8.decode b pos).2))) (by simp [hop]) ?_ (hK θ _ _ ?_)
          · simp [execOp, hop, hptr, Instr.next, hg, hlt', hset, goInt, Result.andThen_ok]
          · have hap : (Upd.many (.tup [.kb true, V.i (pos : Nat), V.int .i32 ((Utf8.decode b pos).1 : Nat)]) [(n', .siter b (pos + (Utf8.decode b pos).2))]).ap o.dst s = { ({ s with lo := s.lo.set n' (some (.siter b (pos + (Utf8.decode b pos).2))) } : St) with tm := putT s.tm o.dst (.tup [.kb true, V.i (pos : Nat), V.int .i32 ((Utf8.decode b pos).1 : Nat)]) } := by
              have hlt2 : n' < s.lo.length := (List.getElem?_eq_some_iff.1 hlo).1
              have e : ins s.lo n' (.siter b (pos + (Utf8.decode b pos).2)) = s.lo.set n' (some (.siter b (pos + (Utf8.decode b pos).2))) := by
                unfold ins
                rw [show n' + 1 - s.lo.length = 0 by omega]
                simp
              simp only [Upd.ap, insL, e]
            rw [hap]
            exact ht.putO o.dst (.tup _ _ (.cons _ _ _ _ (.kb true) (.cons _ _ _ _ (.q _ _ (.c _)) (.cons _ _ _ _ (.q _ _ (.c _)) .nil))))
        | false =>
          rw [hlt] at hp
          cases hp
          have hlt' : ¬ pos < b.size := of_decide_eq_false hlt
          refine wpIn_value (v := .tuple #[.bool false]) (w' := w) (by simp [hop]) ?_ (hK θ _ _ ?_)
          · simp [execOp, hop, hptr, Instr.next, hg, hlt', Result.andThen_ok]
          · exact h.putO o.dst (.tup _ _ (.cons _ _ _ _ (.kb false) .nil))
      · simp [T.pick] at hp
    · simp [T.pick] at hp
  · rename_i c hop
    split at hp
    · rename_i y hcal
      split at hp
      · rename_i f caps hcv
        split at hp
        · rename_i sp hsp
          have hS : SpecM P f sp := hΓ _ (look_mem hsp)
          obtain ⟨vs, hev, hcd⟩ := calleeV_den h hcv
          have hd := (den_map h c.args.toList).append hcd
          have hC := mcall_wp h hS hd hp o.dst
          have e : (List.map a.eval c.args.toList ++ vs).toArray = Array.map a.eval c.args ++ vs.toArray := by apply Array.ext'; simp
          rw [e] at hC
          refine wpIn_enter (f := f) (args := Array.map a.eval c.args ++ vs.toArray) (w' := w) (by simp [hop]) ?_ (hC.mono ?_)
          · simp only [execOp, hop, resolve, hcal, hev, Deferred.ofValue, Sem.run_bind, Sem.run_pure, Result.andThen_ok, invoke, Array.append_empty, Array.empty_append]
            exact run_enters hS.1 _ w
          · rintro ev' w' ⟨v, rfl, θ'', hR⟩
            exact hK θ'' _ w' hR
        · exact effX_wp hΓ h hn hp hK
      · simp [T.pick] at hp
    · exact effX_wp hΓ h hn hp hK
  · simp [T.pick] at hp
end
end Go.SX
