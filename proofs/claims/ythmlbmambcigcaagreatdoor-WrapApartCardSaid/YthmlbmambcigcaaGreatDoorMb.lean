/- What the laws' proofs lean on, put together: part 2. -/
import Derived.Test.YthmlbmambcigcaaGreatDoorMa
import Derived.RangeFuncLeaves
import Derived.RangeFuncRecord
import Derived.ControlIn
import Derived.KernelRfl

/- What an operation makes of the symbolic state: calls that are lent several things; a text gone through, rune by rune. -/
namespace Go.SX
open Go.RowKit
set_option linter.unusedVariables false
set_option linter.unusedSimpArgs false
set_option linter.unusedSectionVars false

/-! ### names, and other names -/
def V.ns1 : V → List Nat
  | .ptr n _ | .ep n _ _ _ | .own n | .mp n | .yld n => [n]
  | _ => []
def V.ns : V → List Nat
  | .agg l | .clo _ l | .tup l => l.flatMap V.ns1
  | v => v.ns1
def Ob.ns : Ob → List Nat
  | .cells _ cs => cs.flatMap V.ns
  | _ => []
def addN : List Nat → List Nat → List Nat
  | ns, [] => ns
  | ns, n :: l => addN (if ns.contains n then ns else ns ++ [n]) l
/-- All that some names lead to. -/
def reach (lo : List (Option Ob)) : Nat → List Nat → List Nat
  | 0, ns => ns
  | k + 1, ns => reach lo k (addN ns (ns.flatMap fun n => match lo[n]? with
    | some (some o) => o.ns
    | _ => []))

def V.rt1 (ρ : Nat → Option Nat) : V → V
  | .ptr n off => match ρ n with
    | some m => .ptr m off
    | none => .any
  | .ep n sz i j => match ρ n with
    | some m => .ep m sz i j
    | none => .any
  | .own n => match ρ n with
    | some m => .own m
    | none => .any
  | .mp n => match ρ n with
    | some m => .mp m
    | none => .any
  | .yld n => .any
  | .agg _ => .any
  | .clo _ _ => .any
  | .tup _ => .any
  | v => v
def V.rt2 (ρ : Nat → Option Nat) : V → V
  | .agg l => .agg (l.map (V.rt1 ρ))
  | .clo f l => .clo f (l.map (V.rt1 ρ))
  | v => V.rt1 ρ v
def V.rt (ρ : Nat → Option Nat) : V → V
  | .tup l => .tup (l.map (V.rt2 ρ))
  | v => V.rt2 ρ v
def Ob.rt (ρ : Nat → Option Nat) : Ob → Ob
  | .cells t cs => .cells t (cs.map (V.rt ρ))
  | o => o

section
variable {S S' L L' : Nat → Prop} {θ θ' : Th} {w : World} {ρ : Nat → Option Nat}

theorem den_rt1 (hS : ∀ x, S x → S' x) (hρ : ∀ n m, L n → ρ n = some m → L' m ∧ θ' m = θ n) {v : V} {u : Value} (h : Den S L θ w v u) : Den S' L' θ' w (v.rt1 ρ) u := by
  cases h with
  | any v => exact .any _
  | q x v h => exact .q _ _ (h.mono hS (fun _ _ => rfl))
  | kb b => exact .kb b
  | lc ks len get cap a n h => exact .lc _ _ _ _ _ _ (h.mono hS (fun _ _ => rfl))
  | ptr n off h =>
    simp only [V.rt1]
    split
    · rename_i m hm
      obtain ⟨h1, h2⟩ := hρ n m h hm
      rw [← h2]; exact .ptr m off h1
    · exact .any _
  | ep n sz i j h =>
    simp only [V.rt1]
    split
    · rename_i m hm
      obtain ⟨h1, h2⟩ := hρ n m h hm
      rw [← h2]; exact .ep m sz i j h1
    · exact .any _
  | own n ad len cap h e =>
    simp only [V.rt1]
    split
    · rename_i m hm
      obtain ⟨h1, h2⟩ := hρ n m h hm
      exact .own m _ _ _ h1 (by rw [h2]; exact e)
    · exact .any _
  | mp n h =>
    simp only [V.rt1]
    split
    · rename_i m hm
      obtain ⟨h1, h2⟩ := hρ n m h hm
      rw [← h2]; exact .mp m h1
    · exact .any _
  | yld n h => exact .any _
  | clo f caps vs h => exact .any _
  | agg l vs h => exact .any _
  | tup l vs h => exact .any _

theorem denL_rt1 (hS : ∀ x, S x → S' x) (hρ : ∀ n m, L n → ρ n = some m → L' m ∧ θ' m = θ n) : ∀ {l : List V} {us : List Value}, DenL S L θ w l us → DenL S' L' θ' w (l.map (V.rt1 ρ)) us
  | _, _, .nil => .nil
  | _, _, .cons x v l us h hl => .cons _ _ _ _ (den_rt1 hS hρ h) (denL_rt1 hS hρ hl)

theorem den_rt2 (hS : ∀ x, S x → S' x) (hρ : ∀ n m, L n → ρ n = some m → L' m ∧ θ' m = θ n) {v : V} {u : Value} (h : Den S L θ w v u) : Den S' L' θ' w (v.rt2 ρ) u := by
  cases h with
  | agg l vs h => exact .agg _ _ (denL_rt1 hS hρ h)
  | clo f l vs h => exact .clo _ _ _ (denL_rt1 hS hρ h)
  | any v => exact .any _
  | q x v h => exact den_rt1 hS hρ (.q x _ h)
  | kb b => exact .kb b
  | lc ks len get cap a n h => exact den_rt1 hS hρ (.lc ks len get cap a n h)
  | ptr n off h => exact den_rt1 hS hρ (.ptr n off h)
  | ep n sz i j h => exact den_rt1 hS hρ (.ep n sz i j h)
  | own n ad len cap h e => exact den_rt1 hS hρ (.own n ad len cap h e)
  | mp n h => exact den_rt1 hS hρ (.mp n h)
  | yld n h => exact .any _
  | tup l vs h => exact .any _

theorem denL_rt2 (hS : ∀ x, S x → S' x) (hρ : ∀ n m, L n → ρ n = some m → L' m ∧ θ' m = θ n) : ∀ {l : List V} {us : List Value}, DenL S L θ w l us → DenL S' L' θ' w (l.map (V.rt2 ρ)) us
  | _, _, .nil => .nil
  | _, _, .cons x v l us h hl => .cons _ _ _ _ (den_rt2 hS hρ h) (denL_rt2 hS hρ hl)

theorem den_rt (hS : ∀ x, S x → S' x) (hρ : ∀ n m, L n → ρ n = some m → L' m ∧ θ' m = θ n) {v : V} {u : Value} (h : Den S L θ w v u) : Den S' L' θ' w (v.rt ρ) u := by
  cases h with
  | tup l vs h => exact .tup _ _ (denL_rt2 hS hρ h)
  | agg l vs h => exact den_rt2 hS hρ (.agg l vs h)
  | clo f l vs h => exact den_rt2 hS hρ (.clo f l vs h)
  | any v => exact .any _
  | q x v h => exact den_rt2 hS hρ (.q x _ h)
  | kb b => exact .kb b
  | lc ks len get cap a n h => exact den_rt2 hS hρ (.lc ks len get cap a n h)
  | ptr n off h => exact den_rt2 hS hρ (.ptr n off h)
  | ep n sz i j h => exact den_rt2 hS hρ (.ep n sz i j h)
  | own n ad len cap h e => exact den_rt2 hS hρ (.own n ad len cap h e)
  | mp n h => exact den_rt2 hS hρ (.mp n h)
  | yld n h => exact .any _

theorem denL_rt (hS : ∀ x, S x → S' x) (hρ : ∀ n m, L n → ρ n = some m → L' m ∧ θ' m = θ n) : ∀ {l : List V} {us : List Value}, DenL S L θ w l us → DenL S' L' θ' w (l.map (V.rt ρ)) us
  | _, _, .nil => .nil
  | _, _, .cons x v l us h hl => .cons _ _ _ _ (den_rt hS hρ h) (denL_rt hS hρ hl)

theorem holds_rt (hS : ∀ x, S x → S' x) (hρ : ∀ n m, L n → ρ n = some m → L' m ∧ θ' m = θ n) {n m : Nat} {o : Ob} (ho : outOb o = true) (hm : θ' m = θ n) (h : Holds S L θ w n o) : Holds S' L' θ' w m (o.rt ρ) := by
  cases o with
  | map kk ag vk es =>
    obtain ⟨arr, clk, h1, h2⟩ := h
    exact ⟨arr, clk, by rw [hm]; exact h1, h2.mono hS (fun _ _ => rfl)⟩
  | cells t cs =>
    obtain ⟨vs, h1, h2⟩ := h
    exact ⟨vs, by rw [hm]; exact h1, denL_rt hS hρ h2⟩
  | vec t ks len get =>
    rcases h with ⟨h1, h2⟩ | ⟨vs, cap, h1, h2, h3, h4, h5, h6⟩
    · exact .inl ⟨by rw [hm]; exact h1, h2⟩
    · refine .inr ⟨vs, cap, by rw [hm]; exact h1, by rw [hm]; exact h2, h3, h4, h5, fun i j k hi hk => ?_⟩
      obtain ⟨a, u, b, c⟩ := h6 i j k hi hk
      exact ⟨a, u, b, c.mono hS (fun _ _ => rfl)⟩
  | siter b pos => show _ = _; rw [hm]; exact h
  | deads => trivial
  | dead => trivial
  | gone => trivial
  | yl go adm => simp [outOb] at ho
  | dfr => simp [outOb] at ho
  | raw x => simp [outOb] at ho
  | held tm => simp [outOb] at ho

theorem uses_rt {n m : Nat} (h : θ' m = θ n) (o : Ob) (b : Nat) : uses θ' m (o.rt ρ) b ↔ uses θ n o b := by
  cases o <;> simp [Ob.rt, uses, h]
end

theorem inOut {o : Ob} (h : inOb o = true) : outOb o = true := by cases o <;> simp [inOb, outOb] at h ⊢
theorem outOb_rt {ρ : Nat → Option Nat} {o : Ob} (h : outOb o = true) : outOb (o.rt ρ) = true := by cases o <;> simp [Ob.rt, outOb] at h ⊢

/-! ### the call -/
def ixA (n : Nat) : List Nat → Nat → Option Nat
  | [], _ => none
  | m :: l, k => if m = n then some k else ixA n l (k + 1)
def ixOf (ns : List Nat) (n : Nat) : Option Nat := ixA n ns 0
def nodupA : List Nat → Bool
  | [] => true
  | n :: l => !(l.contains n) && nodupA l

theorem ixA_some {n : Nat} : ∀ {l : List Nat} {k j : Nat}, ixA n l k = some j → k ≤ j ∧ l[j - k]? = some n
  | [], k, j, h => by cases h
  | m :: l, k, j, h => by
    simp only [ixA] at h
    split at h
    · rename_i e
      cases h
      subst e
      simp
    · obtain ⟨h1, h2⟩ := ixA_some h
      refine ⟨by omega, ?_⟩
      rw [show j - k = (j - (k + 1)) + 1 by omega]
      simpa using h2
theorem ixOf_some {ns : List Nat} {n j : Nat} (h : ixOf ns n = some j) : ns[j]? = some n := by
  have := (ixA_some h).2
  simpa using this
theorem nodupA_inj : ∀ {l : List Nat}, nodupA l = true → ∀ (i j n : Nat), l[i]? = some n → l[j]? = some n → i = j
  | [], _, i, j, n, h, _ => by simp at h
  | m :: l, h, i, j, n, h1, h2 => by
    simp only [nodupA, Bool.and_eq_true, Bool.not_eq_true'] at h
    have hm : m ∉ l := by
      intro hh
      have := h.1
      simp [hh] at this
    cases i with
    | zero =>
      cases j with
      | zero => rfl
      | succ j =>
        simp at h1 h2
        subst h1
        exact absurd (List.mem_of_getElem? h2) hm
    | succ i =>
      cases j with
      | zero =>
        simp at h1 h2
        subst h2
        exact absurd (List.mem_of_getElem? h1) hm
      | succ j =>
        have := nodupA_inj h.2 i j n (by simpa using h1) (by simpa using h2)
        omega

/-- The name that the j-th thing has behind the call. -/
def nmOf (ns : List Nat) (nm j : Nat) : Nat := if j < ns.length then ns.getD j 0 else nm + (j - ns.length)
def outWs (ns : List Nat) (nm : Nat) (lo : List (Option Ob)) : Nat → List (Option Ob) → List (Nat × Ob)
  | _, [] => []
  | j, none :: l => outWs ns nm lo (j + 1) l
  | j, some o :: l => (nmOf ns nm j, o.rt fun j => some (nmOf ns nm j)) :: outWs ns nm lo (j + 1) l

def lends (lo : List (Option Ob)) (ρ : Nat → Option Nat) : List Nat → Option (List (Option Ob))
  | [] => some []
  | n :: l => match lo[n]?, lends lo ρ l with
    | some (some o), some r => if inOb o then some (some (o.rt ρ) :: r) else none
    | _, _ => none

/-- A call that is lent all that its arguments lead to. -/
def mcall (s : St) (nm : Nat) (sp : List (Option Ob) → List V → T MOut) (args : List V) : T Upd :=
  let ns := reach s.lo s.lo.length (addN [] (args.flatMap V.ns))
  if nodupA ns && decide (s.lo.length ≤ nm) then match lends s.lo (ixOf ns) ns with
    | some los => (sp los (args.map (V.rt (ixOf ns)))).bind fun x => .leaf (.many (x.r.rt fun j => some (nmOf ns nm j)) (outWs ns nm x.lo 0 x.lo))
    | none => .bad
  else .bad

theorem lends_get {lo : List (Option Ob)} {ρ : Nat → Option Nat} : ∀ {ns : List Nat} {los : List (Option Ob)}, lends lo ρ ns = some los → los.length = ns.length ∧ ∀ (j n : Nat), ns[j]? = some n → ∃ o, lo[n]? = some (some o) ∧ inOb o = true ∧ los[j]? = some (some (o.rt ρ))
  | [], los, h => by cases h; exact ⟨rfl, fun j n hj => by simp at hj⟩
  | n :: ns, los, h => by
    simp only [lends] at h
    split at h
    · rename_i o r ho hr
      split at h
      · rename_i hi
        cases h
        obtain ⟨h1, h2⟩ := lends_get hr
        refine ⟨by simp [h1], fun j m hj => ?_⟩
        cases j with
        | zero => simp at hj; subst hj; exact ⟨o, ho, hi, rfl⟩
        | succ j => simpa using h2 j m (by simpa using hj)
      · cases h
    · cases h

theorem outWs_mem {ns : List Nat} {nm : Nat} {lo0 : List (Option Ob)} : ∀ (l : List (Option Ob)) (k : Nat) (m : Nat) (o : Ob), (m, o) ∈ outWs ns nm lo0 k l ↔ ∃ j o', l[j]? = some (some o') ∧ m = nmOf ns nm (k + j) ∧ o = o'.rt fun j => some (nmOf ns nm j)
  | [], k, m, o => by simp [outWs]
  | none :: l, k, m, o => by
    simp only [outWs, outWs_mem l (k + 1)]
    constructor
    · rintro ⟨j, o', h1, h2, h3⟩
      exact ⟨j + 1, o', by simpa using h1, by rw [h2]; congr 1; omega, h3⟩
    · rintro ⟨j, o', h1, h2, h3⟩
      cases j with
      | zero => simp at h1
      | succ j => exact ⟨j, o', by simpa using h1, by rw [h2]; congr 1; omega, h3⟩
  | some x :: l, k, m, o => by
    simp only [outWs, List.mem_cons, Prod.mk.injEq, outWs_mem l (k + 1)]
    constructor
    · rintro (⟨h1, h2⟩ | ⟨j, o', h1, h2, h3⟩)
      · exact ⟨0, x, rfl, by simpa using h1, h2⟩
      · exact ⟨j + 1, o', by simpa using h1, by rw [h2]; congr 1; omega, h3⟩
    · rintro ⟨j, o', h1, h2, h3⟩
      cases j with
      | zero => simp at h1; subst h1; exact .inl ⟨by simpa using h2, h3⟩
      | succ j => exact .inr ⟨j, o', by simpa using h1, by rw [h2]; congr 1; omega, h3⟩

theorem ins_get [GW] (lo : List (Option Ob)) (n : Nat) (o : Ob) (m : Nat) (x : Ob) : (ins lo n o)[m]? = some (some x) ↔ (m = n ∧ x = o) ∨ (m ≠ n ∧ lo[m]? = some (some x)) := by
  by_cases e : m = n
  · subst e
    rw [ins_same]
    constructor
    · intro h; cases h; exact .inl ⟨rfl, rfl⟩
    · rintro (⟨_, rfl⟩ | ⟨h, _⟩)
      · rfl
      · exact absurd rfl h
  · constructor
    · intro h
      refine .inr ⟨e, ?_⟩
      unfold ins at h
      rw [List.getElem?_set_ne (fun h => e h.symm), List.getElem?_append] at h
      split at h
      · exact h
      · simp [List.getElem?_replicate] at h
    · rintro (⟨h, _⟩ | ⟨_, h⟩)
      · exact absurd h e
      · unfold ins
        rw [List.getElem?_set_ne (fun h => e h.symm), List.getElem?_append_left (List.getElem?_eq_some_iff.1 h).1]
        exact h

/-- Several written, each once. -/
theorem insL_get [GW] : ∀ {ws : List (Nat × Ob)} {lo : List (Option Ob)}, (∀ (i j n : Nat) (o o' : Ob), ws[i]? = some (n, o) → ws[j]? = some (n, o') → i = j) → lo.length ≤ (insL ws lo).length ∧ ∀ (m : Nat) (x : Ob), (insL ws lo)[m]? = some (some x) ↔ (m, x) ∈ ws ∨ ((∀ o, (m, o) ∉ ws) ∧ lo[m]? = some (some x))
  | [], lo, _ => ⟨Nat.le_refl _, fun m x => by simp [insL]⟩
  | (n, o) :: ws, lo, hd => by
    obtain ⟨h1, h2⟩ := insL_get (ws := ws) (lo := ins lo n o) (fun i j n o o' hi hj => by
      have := hd (i + 1) (j + 1) n o o' (by simpa using hi) (by simpa using hj)
      omega)
    have hnot : ∀ o', (n, o') ∉ ws := fun o' hm => by
      obtain ⟨j, hj⟩ := List.mem_iff_getElem?.1 hm
      have := hd 0 (j + 1) n o o' rfl (by simpa using hj)
      omega
    refine ⟨Nat.le_trans (ins_len lo n o) h1, fun m x => ?_⟩
    simp only [insL]
    rw [h2]
    constructor
    · rintro (h | ⟨h3, h4⟩)
      · exact .inl (List.mem_cons_of_mem _ h)
      · rcases (ins_get _ _ _ _ _).1 h4 with ⟨rfl, rfl⟩ | ⟨e, h5⟩
        · exact .inl List.mem_cons_self
        · refine .inr ⟨fun o' hm => ?_, h5⟩
          cases hm with
          | head => exact e rfl
          | tail _ hm => exact h3 o' hm
    · rintro (h | ⟨h3, h4⟩)
      · cases h with
        | head => exact .inr ⟨hnot, (ins_get _ _ _ _ _).2 (.inl ⟨rfl, rfl⟩)⟩
        | tail _ h => exact .inl h
      · refine .inr ⟨fun o' hm => h3 o' (List.mem_cons_of_mem _ hm), (ins_get _ _ _ _ _).2 (.inr ⟨fun e => h3 o (e ▸ List.mem_cons_self), h4⟩)⟩

section
variable [GW] {P : Program} {J : Jt P} {Am Mi : Nat → Prop} {w0 w : World} {s : St} {θ : Th} {a : Act} {Γ : Gam} {r : Option Nat} {n : Nat} {o : Oper} {K : Act → World → Prop} {Q : Exit → Act → World → Prop}

theorem mcall_wp (h : Rep J Am Mi w0 s θ a w) {nm : Nat} {f : Nat} {sp : List (Option Ob) → List V → T MOut} (hS : SpecM P f sp) {args : List V} {vals : List Value} (hd : DenL (Stab Am s.lo θ w) (Liv s.lo) θ w args vals)
    {u : Upd} (hp : (mcall s nm sp args).pick = some u) (d : Option Nat) :
    Calls P f vals.toArray w fun e w' => ∃ v, e = .returned v ∧ ∃ θ'', Rep J Am Mi w0 (u.ap d s) θ'' (a.put d v) w' := by
  unfold mcall at hp
  generalize hns : reach s.lo s.lo.length (addN [] (args.flatMap V.ns)) = ns at hp
  simp only at hp
  split at hp
  · rename_i hc
    simp only [Bool.and_eq_true, decide_eq_true_eq] at hc
    obtain ⟨hnd, hnm⟩ := hc
    split at hp
    · rename_i los hlos
      rw [T.pick_bind] at hp
      obtain ⟨x, hx, hp⟩ := hp
      cases hp
      obtain ⟨hlen, hget⟩ := lends_get hlos
      have hinj := nodupA_inj hnd
      -- what is lent, one by one
      have hlo : ∀ (j : Nat) (o : Ob), los[j]? = some (some o) → ∃ n o', ns[j]? = some n ∧ s.lo[n]? = some (some o') ∧ inOb o' = true ∧ o = o'.rt (ixOf ns) := fun j o hj => by
        have hjl : j < ns.length := by rw [← hlen]; exact (List.getElem?_eq_some_iff.1 hj).1
        obtain ⟨o', h1, h2, h3⟩ := hget j _ (List.getElem?_eq_getElem hjl)
        rw [h3] at hj
        cases hj
        exact ⟨_, o', List.getElem?_eq_getElem hjl, h1, h2, rfl⟩
      have hθl : ∀ (j n : Nat), ns[j]? = some n → (fun j => θ (ns.getD j 0)) j = θ n := fun j n hj => by simp [List.getD_eq_getElem?_getD, hj]
      have hρ : ∀ n m, Liv s.lo n → ixOf ns n = some m → Liv los m ∧ (fun j => θ (ns.getD j 0)) m = θ n := fun n m hn hm => by
        have h1 := ixOf_some hm
        obtain ⟨o', h2, h3, h4⟩ := hget m n h1
        exact ⟨⟨_, h4⟩, hθl m n h1⟩
      have huse : ∀ (j n : Nat) (o' : Ob) (b : Nat), ns[j]? = some n → (uses (fun j => θ (ns.getD j 0)) j (o'.rt (ixOf ns)) b ↔ uses θ n o' b) := fun j n o' b hj => uses_rt (hθl j n hj) o' b
      have hC := hS.2 (Stab Am s.lo θ w) w (fun j => θ (ns.getD j 0)) los (args.map (V.rt (ixOf ns))) vals x (fun b hb => hb.1) h.fr.glw h.glS (fun j o hj => by
          obtain ⟨n, o', h1, h2, h3, rfl⟩ := hlo j o hj
          refine ⟨by cases o' <;> simp [inOb, Ob.rt] at h3 ⊢, holds_rt (fun _ x => x) hρ (inOut h3) (hθl j n h1) (h.lo n o' h2), fun b hb => ?_⟩
          have hb' := (huse j n o' b h1).1 hb
          exact ⟨(h.lt n o' b h2 hb').1, fun hst => hst.2.2 n o' h2 hb'⟩) (fun i j o1 o2 b hi hj hne hu1 hu2 => by
          obtain ⟨n1, p1, a1, a2, a3, rfl⟩ := hlo i o1 hi
          obtain ⟨n2, p2, b1, b2, b3, rfl⟩ := hlo j o2 hj
          exact h.inj n1 n2 p1 p2 b a2 b2 (fun e => hne (hinj i j n1 a1 (e ▸ b1))) ((huse i n1 p1 b a1).1 hu1) ((huse j n2 p2 b b1).1 hu2)) (denL_rt (fun _ x => x) hρ hd) hx
      refine hC.mono ?_
      rintro e w' ⟨v, θ', rfl, hth, hos, htp, hout, hsz, hheap, hliv, hx1, hx2, hx3⟩
      -- the names behind the call
      have hnmi : ∀ i j, i < x.lo.length → j < x.lo.length → nmOf ns nm i = nmOf ns nm j → i = j := fun i j _ _ he => by
        have hlt : ∀ i, i < ns.length → ns.getD i 0 < nm ∧ ns[i]? = some (ns.getD i 0) := fun i hi => by
          have h1 : ns[i]? = some (ns.getD i 0) := by simp [List.getD_eq_getElem?_getD, hi]
          obtain ⟨o', h2, _⟩ := hget i _ h1
          have := (List.getElem?_eq_some_iff.1 h2).1
          exact ⟨by omega, h1⟩
        unfold nmOf at he
        by_cases hi : i < ns.length <;> by_cases hj : j < ns.length
        · simp only [hi, hj, if_true] at he
          exact hinj i j _ (hlt i hi).2 (by rw [he]; exact (hlt j hj).2)
        · simp only [hi, hj, if_true, if_false] at he
          have := (hlt i hi).1
          omega
        · simp only [hi, hj, if_true, if_false] at he
          have := (hlt j hj).1
          omega
        · simp only [hi, hj, if_false] at he
          omega
      have hws : ∀ (i j m : Nat) (o o' : Ob), (outWs ns nm x.lo 0 x.lo)[i]? = some (m, o) → (outWs ns nm x.lo 0 x.lo)[j]? = some (m, o') → i = j := by
        have key : ∀ (l : List (Option Ob)) (k : Nat), k + l.length = x.lo.length → ∀ (i j m : Nat) (o o' : Ob), (outWs ns nm x.lo k l)[i]? = some (m, o) → (outWs ns nm x.lo k l)[j]? = some (m, o') → i = j := by
          intro l
          induction l with
          | nil => intro k _ i j m o o' h1; simp [outWs] at h1
          | cons y l ih =>
            intro k hk i j m o o' h1 h2
            simp only [List.length_cons] at hk
            cases y with
            | none => exact ih (k + 1) (by omega) i j m o o' h1 h2
            | some y =>
              simp only [outWs] at h1 h2
              have hno : ∀ (i : Nat) (o : Ob), (outWs ns nm x.lo (k + 1) l)[i]? ≠ some (nmOf ns nm k, o) := fun i o hh => by
                obtain ⟨j', o'', g1, g2, _⟩ := (outWs_mem l (k + 1) _ _).1 (List.mem_of_getElem? hh)
                have hj' := (List.getElem?_eq_some_iff.1 g1).1
                have := hnmi k (k + 1 + j') (by omega) (by omega) g2
                omega
              cases i with
              | zero =>
                cases j with
                | zero => rfl
                | succ j =>
                  simp at h1 h2
                  obtain ⟨rfl, _⟩ := h1
                  exact absurd h2 (hno j o')
              | succ i =>
                cases j with
                | zero =>
                  simp at h1 h2
                  obtain ⟨rfl, _⟩ := h2
                  exact absurd h1 (hno i o)
                | succ j =>
                  have := ih (k + 1) (by omega) i j m o o' (by simpa using h1) (by simpa using h2)
                  omega
        exact key x.lo 0 (by omega)
      obtain ⟨il, ig⟩ := insL_get (lo := s.lo) hws
      generalize hlo' : insL (outWs ns nm x.lo 0 x.lo) s.lo = lo' at il ig
      have hmem : ∀ m y, (m, y) ∈ outWs ns nm x.lo 0 x.lo ↔ ∃ j o', x.lo[j]? = some (some o') ∧ m = nmOf ns nm j ∧ y = o'.rt fun j => some (nmOf ns nm j) := fun m y => by
        rw [outWs_mem]
        simp only [Nat.zero_add]
      -- the valuation behind it
      have hθ'' : ∀ j, j < x.lo.length → (fun m => if nm ≤ m then θ' (m - nm + ns.length) else θ m) (nmOf ns nm j) = θ' j := fun j hj => by
        unfold nmOf
        by_cases hjl : j < ns.length
        · have h1 : ns[j]? = some (ns.getD j 0) := by simp [List.getD_eq_getElem?_getD, hjl]
          obtain ⟨o', h2, _⟩ := hget j _ h1
          have h3 := (List.getElem?_eq_some_iff.1 h2).1
          have h4 : ¬ nm ≤ ns.getD j 0 := by omega
          simp only [hjl, if_true, if_neg h4]
          rw [hth j (by rw [hlen]; exact hjl)]
        · have h4 : nm ≤ nm + (j - ns.length) := by omega
          simp only [hjl, if_false, if_pos h4]
          congr 1
          omega
      have hold : ∀ m, m < nm → (fun m => if nm ≤ m then θ' (m - nm + ns.length) else θ m) m = θ m := fun m hm => by
        have : ¬ nm ≤ m := by omega
        simp only [if_neg this]
      have hlive : ∀ m, Liv s.lo m → m < nm := fun m ⟨o', ho⟩ => Nat.lt_of_lt_of_le (List.getElem?_eq_some_iff.1 ho).1 hnm
      -- C: what is written
      have hCm : ∀ m, (∃ y, (m, y) ∈ outWs ns nm x.lo 0 x.lo) → ∀ y, lo'[m]? = some (some y) → ∃ j o', x.lo[j]? = some (some o') ∧ m = nmOf ns nm j ∧ y = o'.rt (fun j => some (nmOf ns nm j)) := fun m ⟨y0, hy0⟩ y hy => by
        rcases (ig m y).1 hy with h1 | ⟨h1, _⟩
        · exact (hmem m y).1 h1
        · exact absurd hy0 (h1 y0)
      have hxlt : ∀ (j : Nat) (o' : Ob), x.lo[j]? = some (some o') → j < x.lo.length := fun j o' hj => (List.getElem?_eq_some_iff.1 hj).1
      have husx : ∀ (j : Nat) (o' : Ob) (b : Nat), x.lo[j]? = some (some o') → (uses (fun m => if nm ≤ m then θ' (m - nm + ns.length) else θ m) (nmOf ns nm j) (o'.rt fun j => some (nmOf ns nm j)) b ↔ uses θ' j o' b) := fun j o' b hj => uses_rt (hθ'' j (hxlt j o' hj)) o' b
      -- O: the blocks that what was lent had
      have hOl : ∀ b, (∃ m o', los[m]? = some (some o') ∧ uses (fun j => θ (ns.getD j 0)) m o' b) → ∃ m y, (∃ j, ns[j]? = some m) ∧ s.lo[m]? = some (some y) ∧ uses θ m y b := fun b ⟨m, o', h1, h2⟩ => by
        obtain ⟨n', o'', g1, g2, g3, rfl⟩ := hlo m o' h1
        exact ⟨n', o'', ⟨m, g1⟩, g2, (huse m n' o'' b g1).1 h2⟩
      have hOl' : ∀ b j m y, ns[j]? = some m → s.lo[m]? = some (some y) → uses θ m y b → ∃ m o', los[m]? = some (some o') ∧ uses (fun j => θ (ns.getD j 0)) m o' b := fun b j m y h1 h2 h3 => by
        obtain ⟨o', g1, g2, g3⟩ := hget j m h1
        rw [h2] at g1
        cases g1
        exact ⟨j, _, g3, (huse j m y b h1).2 h3⟩
      have hlent : ∀ j m, ns[j]? = some m → ∃ y, (m, y) ∈ outWs ns nm x.lo 0 x.lo := fun j m hj => by
        obtain ⟨o', g1, g2, g3⟩ := hget j m hj
        obtain ⟨o'', g4⟩ := hliv j ⟨_, g3⟩
        refine ⟨_, (hmem m _).2 ⟨j, o'', g4, ?_, rfl⟩⟩
        have hjl := (List.getElem?_eq_some_iff.1 hj).1
        unfold nmOf
        rw [if_pos hjl, List.getD_eq_getElem?_getD, hj]
        rfl
      have hR := h.change (lo' := lo') (θ' := fun m => if nm ≤ m then θ' (m - nm + ns.length) else θ m) (w' := w') (fun m => ∃ y, (m, y) ∈ outWs ns nm x.lo 0 x.lo) (fun b => ∃ m o', los[m]? = some (some o') ∧ uses (fun j => θ (ns.getD j 0)) m o' b)
        (fun m y hm hc => by
          rcases (ig m y).1 hm with h1 | ⟨_, h1⟩
          · exact absurd ⟨y, h1⟩ hc
          · exact h1)
        (fun m hm => hold m (hlive m hm))
        (fun m hm => hold m (by have := h.tt.2.1; omega))
        (fun m ⟨y, hy⟩ => by
          by_cases hc : ∃ y, (m, y) ∈ outWs ns nm x.lo 0 x.lo
          · obtain ⟨z, hz⟩ := hc
            exact ⟨z, (ig m z).2 (.inl hz)⟩
          · exact ⟨y, (ig m y).2 (.inr ⟨fun o ho => hc ⟨o, ho⟩, hy⟩)⟩)
        il
        (fun m y b hc hm hux => by
          obtain ⟨j, o', g1, rfl, rfl⟩ := hCm m hc y hm
          exact (hx1 j o' g1).2.2 b ((husx j o' b g1).1 hux))
        (fun b hb => by
          obtain ⟨m, y, ⟨j, hj⟩, g2, g3⟩ := hOl b hb
          exact ⟨m, y, hlent j m hj, g2, g3⟩)
        (fun m m' y y' b hc hc' hm hm' hne hux hux' => by
          obtain ⟨j, o', g1, rfl, rfl⟩ := hCm m hc y hm
          obtain ⟨j', o'', g1', rfl, rfl⟩ := hCm m' hc' y' hm'
          exact hx2 j j' o' o'' b g1 g1' (fun e => hne (by rw [e])) ((husx j o' b g1).1 hux) ((husx j' o'' b g1').1 hux'))
        hos htp hout hsz (fun b hb hnO => hheap b hb fun m o' hm hu => hnO ⟨m, o', hm, hu⟩)
        (fun m go adm hc hm => by
          obtain ⟨j, o', g1, rfl, g3⟩ := hCm m hc _ hm
          have := outOb_rt (ρ := fun j => some (nmOf ns nm j)) (hx1 j o' g1).1
          rw [← g3] at this
          simp [outOb] at this)
        (fun m y ⟨z, hz⟩ hm => by
          obtain ⟨j, o', g1, rfl, _⟩ := (hmem _ z).1 hz
          have hmn := hlive _ ⟨_, hm⟩
          unfold nmOf at hm hmn
          by_cases hjl : j < ns.length
          · simp only [hjl, if_true] at hm
            have h1 : ns[j]? = some (ns.getD j 0) := by simp [List.getD_eq_getElem?_getD, hjl]
            obtain ⟨o'', g4, g5, _⟩ := hget j _ h1
            rw [g4] at hm
            cases hm
            simp [inOb] at g5
          · simp only [hjl, if_false] at hmn
            omega)
        (fun m y hc hm => (ig m y).2 (.inr ⟨fun o ho => hc ⟨o, ho⟩, hm⟩))
        (fun m y hc hm S hS1 hS2 hS3 => by
          obtain ⟨j, o', g1, rfl, rfl⟩ := hCm m hc y hm
          have hfree : ∀ b, (∀ k o, x.lo[k]? = some (some o) → ¬ uses θ' k o b) → ∀ m y, (∃ y, (m, y) ∈ outWs ns nm x.lo 0 x.lo) → lo'[m]? = some (some y) → ¬ uses (fun m => if nm ≤ m then θ' (m - nm + ns.length) else θ m) m y b := fun b hb m y hc hm hux => by
            obtain ⟨j, o', g1, rfl, rfl⟩ := hCm m hc y hm
            exact hb j o' g1 ((husx j o' b g1).1 hux)
          refine holds_rt (fun b hb => ?_) (fun k m hk hm => ?_) (hx1 j o' g1).1 (hθ'' j (hxlt j o' g1)) (hx1 j o' g1).2.1
          · obtain ⟨hb1, hb2⟩ := hb
            rcases hb1 with (hb1 | ⟨hb1, hb3⟩) | hb1
            · exact hS1 b hb1
            · exact hS2 b hb1 hb3 (hfree b hb2)
            · exact hS3 b hb1 (hfree b hb2)
          · cases hm
            obtain ⟨o'', ho''⟩ := hk
            exact ⟨⟨_, (ig _ _).2 (.inl ((hmem _ _).2 ⟨k, o'', ho'', rfl, rfl⟩))⟩, hθ'' k (hxlt k o'' ho'')⟩)
      refine ⟨v, rfl, fun m => if nm ≤ m then θ' (m - nm + ns.length) else θ m, ?_⟩
      have hap : (Upd.many (x.r.rt fun j => some (nmOf ns nm j)) (outWs ns nm x.lo 0 x.lo)).ap d s = { ({ s with lo := lo' } : St) with tm := putT s.tm d (x.r.rt fun j => some (nmOf ns nm j)) } := by rw [← hlo']; rfl
      rw [hap]
      refine hR.putO d (den_rt (fun b hb => ?_) (fun k m hk hm => ?_) hx3)
      · obtain ⟨hb1, hb2⟩ := hb
        have hlt : b < w'.heap.size ∧ ¬ Am b ∧ (∀ (m : Nat) (y : Ob), s.lo[m]? = some (some y) → uses θ m y b → ∃ j : Nat, ns[j]? = some m) := by
          rcases hb1 with (hb1 | ⟨hb1, hb3⟩) | hb1
          · exact ⟨Nat.lt_of_lt_of_le hb1.1 hsz, hb1.2.1, fun m y hm hu => absurd hu (hb1.2.2 m y hm)⟩
          · refine ⟨hb3, fun ham => by have := h.am b ham; omega, fun m y hm hu => ?_⟩
            have := (h.lt m y b hm hu).1
            omega
          · obtain ⟨m, y, ⟨j, hj⟩, g2, g3⟩ := hOl b hb1
            obtain ⟨g4, _, g5⟩ := h.lt m y b g2 g3
            refine ⟨Nat.lt_of_lt_of_le g4 hsz, g5, fun m' y' hm' hu' => ?_⟩
            by_cases e : m' = m
            · exact ⟨j, by rw [e]; exact hj⟩
            · exact absurd hu' (h.inj m m' y y' b g2 hm' (fun e' => e e'.symm) g3)
        refine ⟨hlt.1, hlt.2.1, fun m y hm hu => ?_⟩
        by_cases hc : ∃ y, (m, y) ∈ outWs ns nm x.lo 0 x.lo
        · obtain ⟨j, o', g1, rfl, rfl⟩ := hCm m hc y hm
          exact hb2 j o' g1 ((husx j o' b g1).1 hu)
        · rcases (ig m y).1 hm with h1 | ⟨_, h1⟩
          · exact hc ⟨y, h1⟩
          · have hmn := hlive m ⟨y, h1⟩
            rw [uses_congr (hold m hmn)] at hu
            obtain ⟨j, hj⟩ := hlt.2.2 m y h1 hu
            exact hc (hlent j m hj)
      · cases hm
        obtain ⟨o'', ho''⟩ := hk
        exact ⟨⟨_, (ig _ _).2 (.inl ((hmem _ _).2 ⟨k, o'', ho'', rfl, rfl⟩))⟩, hθ'' k (hxlt k o'' ho'')⟩
    · simp [T.pick] at hp
  · simp [T.pick] at hp

end

section
variable {P : Program} {s : St} {Γ : Gam} {o : Oper}
/-- A text is gone through. -/
def nextE (s : St) (it : Operand) : T Upd := match ev s it with
  | .ptr n 0 => match s.lo[n]? with
    | some (some (.siter b pos)) => .ite (decide (pos < b.size)) (.leaf (.many (.tup [.kb true, V.i (pos : Nat), V.int .i32 ((Utf8.decode b pos).1 : Nat)]) [(n, .siter b (pos + (Utf8.decode b pos).2))])) (.leaf (.val (.tup [.kb false])))
    | _ => .bad
  | _ => .bad

/-- What else may be done, in a text's order: calls that are lent several things, a text gone through. -/
def effA (P : Program) (Γ : Gam) (nm : Nat) (o : Oper) (s : St) : T Upd := match o.op with
  | .next it true => nextE s it
  | .call c => match c.callee with
    | .value x => match calleeV s x with
      | some (f, caps) => match look Γ f with
        | some (.m sp) => mcall s nm sp (c.args.toList.map (ev s) ++ caps)
        | _ => effX P Γ nm o s
      | none => .bad
    | _ => effX P Γ nm o s
  | _ => .bad

theorem effA_of_X {nm : Nat} {u : Upd} (h : (effX P Γ nm o s).pick = some u) : (effA P Γ nm o s).pick = some u := by
  have h0 := h
  unfold effX at h
  unfold effA
  split at h
  · rename_i c hop
    simp only [hop]
    split at h
    · rename_i hcal
      simp only [hcal]
      exact h0
    · rename_i y hcal
      simp only [hcal]
      split at h
      · rename_i f caps hcv
        simp only [hcv]
        split at h
        · rename_i lend sp hsp
          simp only [hsp]
          exact h0
        · simp [T.pick] at h
      · simp [T.pick] at h
    · simp [T.pick] at h
  · simp [T.pick] at h

end

section
variable [GW] {P : Program} {J : Jt P} {Am Mi : Nat → Prop} {w0 w : World} {s : St} {θ : Th} {a : Act} {Γ : Gam} {r : Option Nat} {n : Nat} {o : Oper} {K : Act → World → Prop} {Q : Exit → Act → World → Prop}
theorem effA_wp (hΓ : GOK P Γ) (h : Rep J Am Mi w0 s θ a w) {nm : Nat} (hn : Fresh s nm) {u : Upd} (hp : (effA P Γ nm o s).pick = some u)
    (hK : ∀ θ' a' w', Rep J Am Mi w0 (u.ap o.dst s) θ' a' w' → K a' w') : o.wpIn (FW r) n P a w K Q := by
  unfold effA at hp
  split at hp
  · rename_i it hop
    unfold nextE at hp
    split at hp
    · rename_i n' hit
      split at hp
      · rename_i b pos hlo
        have hpe := h.ev it
        rw [hit] at hpe
        obtain ⟨hptr, _⟩ := hpe.ptr_inv
        have hH : w.heap[(θ n').blk]? = some (.stringIter b pos) := h.lo _ _ hlo
        have hg : (getObj (θ n').blk).run P w = .ok (.stringIter b pos) w := by simp [getObj, Sem.run, hH]
        simp only [T.pick] at hp
        cases hlt : decide (pos < b.size) with
        | true =>
          rw [hlt] at hp
          cases hp
          have hlt' : pos < b.size := of_decide_eq_true hlt
          have ht := h.turn n' _ (.siter b (pos + (Utf8.decode b pos).2)) hlo (fun c hc => hc) (fun _ _ e => by cases e) (.inr fun _ e => by cases e) (w' := w.putObj (θ n').blk (.stringIter b (pos + (Utf8.decode b pos).2))) rfl rfl rfl (by simp) (fun c hc => World.putObj_heap_other (fun e => hc e)) (World.putObj_heap_same (h.lt n' _ _ hlo rfl).1)
          have hset : (setObj (θ n').blk (.stringIter b (pos + (Utf8.decode b pos).2))).run P w = .ok () (w.putObj (θ n').blk (.stringIter b (pos + (Utf8.decode b pos).2))) := by simp [setObj, Sem.run, World.putObj, hH]
          refine wpIn_value (v := .tuple #[.bool true, .int .i64 pos, .int .i32 (Utf8.decode b pos).1]) (w' := w.putObj (θ n').blk (.stringIter b (pos + (Utf8.decode b pos).2))) (by simp [hop]) ?_ (hK θ _ _ ?_)
          · simp [execOp, hop, hptr, Instr.next, hg, hlt', hset, goInt, Result.andThen_ok]
          · have hap : (Upd.many (.tup [.kb true, V.i (pos : Nat), V.int .i32 ((Utf8.decode b pos).1 : Nat)]) [(n', .siter b (pos + (Utf8.decode b pos).2))]).ap o.dst s = { ({ s with lo := s.lo.set n' (some (.siter b (pos + (Utf8.decode b pos).2))) } : St) with tm := putT s.tm o.dst (.tup [.kb true, V.i (pos : Nat), V.int .i32 ((Utf8.decode b pos).1 : Nat)]) } := by
              have hlt2 : n' < s.lo.length := (List.getElem?_eq_some_iff.1 hlo).1
              have e : ins s.lo n' (.siter b (pos + (Utf8.decode b pos).2)) = s.lo.set n' (some (.siter b (pos + (Utf8.decode b pos).2))) := by
                unfold ins
                rw [show n' + 1 - s.lo.length = 0 by omega]
                simp
              simp only [Upd.ap, insL, e]
            rw [hap]
            exact ht.putO o.dst (.tup _ _ (.cons _ _ _ _ (.kb true) (.cons _ _ _ _ (.q _ _ (.c _)) (.cons _ _ _ _ (.q _ _ (.c _)) .nil))))
        | false =>
          rw [hlt] at hp
          cases hp
          have hlt' : ¬ pos < b.size := of_decide_eq_false hlt
          refine wpIn_value (v := .tuple #[.bool false]) (w' := w) (by simp [hop]) ?_ (hK θ _ _ ?_)
          · simp [execOp, hop, hptr, Instr.next, hg, hlt', Result.andThen_ok]
          · exact h.putO o.dst (.tup _ _ (.cons _ _ _ _ (.kb false) .nil))
      · simp [T.pick] at hp
    · simp [T.pick] at hp
  · rename_i c hop
    split at hp
    · rename_i y hcal
      split at hp
      · rename_i f caps hcv
        split at hp
        · rename_i sp hsp
          have hS : SpecM P f sp := hΓ _ (look_mem hsp)
          obtain ⟨vs, hev, hcd⟩ := calleeV_den h hcv
          have hd := (den_map h c.args.toList).append hcd
          have hC := mcall_wp h hS hd hp o.dst
          have e : (List.map a.eval c.args.toList ++ vs).toArray = Array.map a.eval c.args ++ vs.toArray := by apply Array.ext'; simp
          rw [e] at hC
          refine wpIn_enter (f := f) (args := Array.map a.eval c.args ++ vs.toArray) (w' := w) (by simp [hop]) ?_ (hC.mono ?_)
          · simp only [execOp, hop, resolve, hcal, hev, Deferred.ofValue, Sem.run_bind, Sem.run_pure, Result.andThen_ok, invoke, Array.append_empty, Array.empty_append]
            exact run_enters hS.1 _ w
          · rintro ev' w' ⟨v, rfl, θ'', hR⟩
            exact hK θ'' _ w' hR
        · exact effX_wp hΓ h hn hp hK
      · simp [T.pick] at hp
    · exact effX_wp hΓ h hn hp hK
  · simp [T.pick] at hp
end
end Go.SX

/- Regions in the text's order. -/
namespace Go.SX
open Go.RowKit
set_option linter.unusedVariables false
set_option linter.unusedSimpArgs false
set_option linter.unusedSectionVars false

/-- One operation, no yield. -/
def step0 (P : Program) (Γ : Gam) (nm : Nat) (o : Oper) (s : St) : T St :=
  match execV P Γ o s with
  | some t => t.bind fun v => .leaf { s with tm := putT s.tm o.dst v }
  | none => match execM P o nm s with
    | some s' => .leaf s'
    | none => (effX P Γ nm o s).bind fun u => .leaf (u.ap o.dst s)

/-- Is it a yield? -/
def isYl (o : Oper) (s : St) : Bool := match o.op with
  | .call c => match c.callee with
    | .value x => match ev s x with
      | .yld _ => true
      | _ => false
    | _ => false
  | _ => false

/-- To yield. -/
def execY (o : Oper) (s : St) : T St :=
  match o.op with
  | .call c => match c.callee with
    | .value x => match ev s x with
      | .yld n => match s.lo[n]? with
        | some (some (.yl go adm)) => if (c.args.toList.map (ev s)).all V.free then .ite (adm s.ys (c.args.toList.map (ev s))) (.leaf { s with tm := putT s.tm o.dst (V.b (go (s.ys ++ [c.args.toList.map (ev s)]))), ys := s.ys ++ [c.args.toList.map (ev s)] }) .bad else .bad
        | _ => .bad
      | _ => .bad
    | _ => .bad
  | _ => .bad

/-- To yield, as what it turns. -/
def effY (o : Oper) (s : St) : T Upd :=
  match o.op with
  | .call c => match c.callee with
    | .value x => match ev s x with
      | .yld n => match s.lo[n]? with
        | some (some (.yl go adm)) => if (c.args.toList.map (ev s)).all V.free then .ite (adm s.ys (c.args.toList.map (ev s))) (.leaf (.yl (V.b (go (s.ys ++ [c.args.toList.map (ev s)]))) (c.args.toList.map (ev s)))) .bad else .bad
        | _ => .bad
      | _ => .bad
    | _ => .bad
  | _ => .bad

theorem execY_eff {o : Oper} {s : St} {u : Upd} (h : (effY o s).pick = some u) : (execY o s).pick = some (u.ap o.dst s) := by
  unfold effY at h
  split at h
  · rename_i c hop
    split at h
    · rename_i x hcal
      split at h
      · rename_i n hev
        split at h
        · rename_i go adm hlo
          split at h
          · rename_i hf
            simp only [T.pick] at h
            have e : execY o s = .ite (adm s.ys (c.args.toList.map (ev s))) (.leaf { s with tm := putT s.tm o.dst (V.b (go (s.ys ++ [c.args.toList.map (ev s)]))), ys := s.ys ++ [c.args.toList.map (ev s)] }) .bad := by
              simp only [execY, hop, hcal, hev, hlo, hf, if_true]
            rw [e]
            simp only [T.pick]
            cases hb : adm s.ys (c.args.toList.map (ev s)) with
            | false => rw [hb] at h; cases h
            | true => rw [hb] at h; cases h; rfl
          · simp [T.pick] at h
        · simp [T.pick] at h
      · simp [T.pick] at h
    · simp [T.pick] at h
  · simp [T.pick] at h

/-- One operation. -/
def step1 (P : Program) (Γ : Gam) (nm : Nat) (o : Oper) (s : St) : T St :=
  match execV P Γ o s with
  | some t => t.bind fun v => .leaf { s with tm := putT s.tm o.dst v }
  | none => match execM P o nm s with
    | some s' => .leaf s'
    | none => if isYl o s then execY o s else (effA P Γ nm o s).bind fun u => .leaf (u.ap o.dst s)

/-- The slot that tells whether a guarded operation is wanted. -/
def gslot (ops : List Oper) (j : Nat) : Option Nat := (ops[j]?).bind (·.dst)

/-- What an operation leaves that was not wanted. -/
abbrev undV : V := .q (.c undef)

def skipS (o : Oper) (s : St) : St := { s with tm := putT s.tm o.dst undV }

/-- One operation, if it is wanted. -/
def stepG (P : Program) (Γ : Gam) (ops : List Oper) (nm : Nat) (o : Oper) (s : St) : T St :=
  match o.guard with
  | none => step1 P Γ nm o s
  | some (j, want) =>
    match gslot ops j with
    | none => .bad
    | some g => match s.tm[g]? with
      | some (.kb b) => if b = want then step1 P Γ nm o s else .leaf (skipS o s)
      | some (.q (.c (.bool b))) =>
        .ite b (if want then step1 P Γ nm o { s with tm := s.tm.set g (.kb true) } else .leaf (skipS o { s with tm := s.tm.set g (.kb true) }))
          (if want then .leaf (skipS o { s with tm := s.tm.set g (.kb false) }) else step1 P Γ nm o { s with tm := s.tm.set g (.kb false) })
      | some (.q (.c (.tuple _))) => .leaf (skipS o s)
      | _ => .bad

def runG (P : Program) (Γ : Gam) (ops : List Oper) : List Oper → St → T St
  | [], s => .leaf s
  | o :: l, s => (stepG P Γ ops s.lo.length o s).bind (runG P Γ ops l)

def isV (Γ : Gam) (o : Oper) : Bool := match o.op with
  | .move _ | .assign _ | .pick .. | .load .. | .lookup .. | .extract .. | .nilCheck _ | .fieldAddr .. | .indexAddr .. | .index .. | .slice .. | .binOp .. | .build .. | .buildSlice .. | .unOp .. | .convert .. | .makeInterface .. | .field .. => true
  | .call c => match c.callee with
    | .builtin .len => match c.args.toList with
      | [_] => true
      | _ => false
    | .builtin .min | .builtin .max => true
    | .value (.func f) => match look Γ f with
      | some (.f _) => true
      | _ => false
    | _ => false
  | _ => false

def mergeV (b : Bool) (x y : V) : V :=
  match x.bool?, y.bool? with
  | some p, some q => V.b (bif b then p else q)
  | _, _ => match x.int?, y.int? with
    | some (k, m), some (k', n) => if k = k' then V.int k (bif b then m else n) else .any
    | _, _ => .any

def T.noBad {α : Type} : T α → Bool
  | .leaf _ => true
  | .ite _ t e => t.noBad && e.noBad
  | .bad => false

def colT (i : Nat) : T St → V
  | .leaf s => s.tm.getD i .any
  | .ite b t e => mergeV b (colT i t) (colT i e)
  | .bad => .any

def mergeTm (ds : List Nat) (t : T St) : Nat → List V → List V
  | _, [] => []
  | i, v :: l => (if ds.contains i then colT i t else v) :: mergeTm ds t (i + 1) l

def dsts (l : List Oper) : List Nat := l.filterMap (·.dst)

/-- A piece that only reckons values, its ways brought together. -/
def runMid (P : Program) (Γ : Gam) (ops mid : List Oper) (s : St) : T St :=
  let t := runG P Γ ops mid s
  match t with
  | .leaf s' => .leaf s'
  | t => if t.noBad then .leaf { s with tm := mergeTm (dsts mid) t 0 s.tm } else t

def hasGuard (o : Oper) : Bool := o.guard.isSome

def runR (P : Program) (Γ : Gam) (ops : List Oper) (s : St) : T St :=
  (runG P Γ ops (ops.takeWhile (fun o => !hasGuard o)) s).bind fun s =>
    (runMid P Γ ops ((ops.dropWhile (fun o => !hasGuard o)).takeWhile (isV Γ)) s).bind fun s =>
      runG P Γ ops ((ops.dropWhile (fun o => !hasGuard o)).dropWhile (isV Γ)) s

section
variable [GW] {P : Program} {J : Jt P} {Am Mi : Nat → Prop} {w0 w : World} {s : St} {θ : Th} {a : Act} {Γ : Gam} {r : Option Nat} {n : Nat} {o : Oper} {K : Act → World → Prop} {Q : Exit → Act → World → Prop}

/-- What is preserved beside. -/
def Side (Jb : Th → Act → World → Prop) (ds : List Nat) : Prop :=
  ∀ θ a w d u w', Jb θ a w → Below w.heap.size w w' → (∀ x, d = some x → x ∈ ds) → Jb θ (a.put d u) w'

theorem step0_wp (hΓ : GOK P Γ) (h : Rep J Am Mi w0 s θ a w) {nm : Nat} (hn : Fresh s nm) {s' : St} (he : (step0 P Γ nm o s).pick = some s')
    (hK : ∀ θ' a' w', Rep J Am Mi w0 s' θ' a' w' → K a' w') : o.wpIn (FW r) n P a w K Q := by
  unfold step0 at he
  split at he
  · rename_i t ht
    rw [T.pick_bind] at he
    obtain ⟨v, hv, hs⟩ := he
    cases hs
    exact execV_wp hΓ h ht hv fun u w' hb hd => hK θ _ _ ((h.ext hb).putO o.dst hd)
  · split at he
    · rename_i s1 hs1
      cases he
      exact execM_wp h hn hs1 hK fun a w hk => hk
    · rw [T.pick_bind] at he
      obtain ⟨u, hu, hs⟩ := he
      cases hs
      exact effX_wp hΓ h hn hu hK

/-- What a round leaves of the state: the blocks that others may turn are more than they were. -/
theorem Rep.after (h : Rep J Am Mi w0 s θ a w) {F F' : Nat → Prop} {w' : World} (hF : ∀ b, F b → Am b) (hF0 : ∀ b, J.F0 b → F b) (hA : After F F' w w') (hm : ∀ b, b < w0.heap.size → F b → Mi b) {ys : List (List V)}
    (hj : J.J ys (fun b => ¬ F b ∧ (Own s.lo θ b ∨ Am b)) F' w') : Rep J (fun b => Am b ∨ F' b) Mi w0 { s with ys } θ a w' := by
  have hS : ∀ b, Stab Am s.lo θ w b → Stab (fun b => Am b ∨ F' b) s.lo θ w' b := fun b hb => ⟨Nat.lt_of_lt_of_le hb.1 hA.size, fun hf => by
    rcases hf with hf | hf
    · exact hb.2.1 hf
    · rcases (hA.new b hf).1 with h1 | h1
      · exact hb.2.1 (hF b h1)
      · exact absurd hb.1 (by omega), hb.2.2⟩
  have hw : ∀ b, Stab Am s.lo θ w b → w'.heap[b]? = w.heap[b]? := fun b hb => hA.block b hb.1 (fun hf => hb.2.1 (hF b hf))
  have hnF : ∀ b, b < w.heap.size → ¬ Am b → ¬ (Am b ∨ F' b) := fun b hb hn hf => by
    rcases hf with hf | hf
    · exact hn hf
    · rcases (hA.new b hf).1 with h1 | h1
      · exact hn (hF b h1)
      · omega
  refine ⟨h.size, fun i v hv => ?_, fun n o ho => ?_, fun n o b ho hu => ?_, h.inj, h.mine, ?_, fun b hb => ?_, ⟨F', ⟨fun b hb => .inr hb, fun b hb => hA.up b (hF0 b hb)⟩, ?_, fun b hb hf => ?_⟩, h.yy, fun x hx hf => ?_, h.rr, h.tt, h.df, h.dfl⟩
  · obtain ⟨u, hu, hd⟩ := h.tm i v hv
    exact ⟨u, hu, hd.mono hS hw (fun _ x => x) (fun _ _ => rfl)⟩
  · exact (h.lo n o ho).mono hS hw (fun _ x => x) (fun _ _ => rfl) ⟨o, ho⟩ (fun b hu => hA.block b (h.lt n o b ho hu).1 (fun hf => (h.lt n o b ho hu).2.2 (hF b hf)))
  · obtain ⟨h1, h2, h3⟩ := h.lt n o b ho hu
    exact ⟨Nat.lt_of_lt_of_le h1 hA.size, h2, hnF b h1 h3⟩
  · exact ⟨hA.os.trans h.fr.os, hA.tape.trans h.fr.tape, hA.output.trans h.fr.output, Nat.le_trans h.fr.size hA.size, fun b hlt hn => (hA.block b (Nat.lt_of_lt_of_le hlt h.fr.size) (fun hf => hn (hm b hlt hf))).trans (h.fr.block b hlt hn), h.fr.gl⟩
  · rcases hb with hb | hb
    · exact Nat.lt_of_lt_of_le (h.am b hb) hA.size
    · exact (hA.new b hb).2
  · refine J.closed _ _ _ _ _ _ hj rfl rfl rfl (Nat.le_refl _) (fun _ _ _ => rfl) (fun b ⟨hnf, hh⟩ => ?_)
    have hnf0 : ¬ F b := fun hf => hnf (hA.up b hf)
    rcases hh with ⟨n, o, ho, hu⟩ | hh | hh
    · exact ⟨.inl ⟨hnf0, .inl ⟨n, o, ho, hu⟩⟩, Nat.lt_of_lt_of_le (h.lt n o b ho hu).1 hA.size⟩
    · exact ⟨.inl ⟨hnf0, .inr hh⟩, Nat.lt_of_lt_of_le (h.am b hh) hA.size⟩
    · exact absurd hh hnf
  · rcases (hA.new b hf).1 with h1 | h1
    · exact hm b hb h1
    · have := h.fr.size; omega
  · rcases hf with hf | hf
    · exact h.ga x hx hf
    · rcases (hA.new _ hf).1 with h1 | h1
      · exact h.ga x hx (hF _ h1)
      · have := h.fr.glw.lt x hx; omega

theorem execY_wp (h : Rep J Am Mi w0 s θ a w) {s' : St} (he : (execY o s).pick = some s')
    (hK : ∀ (Am' : Nat → Prop) θ' a' w', (∀ b, Am b → Am' b) → Rep J Am' Mi w0 s' θ' a' w' → K a' w') : o.wpIn (FW r) n P a w K Q := by
  unfold execY at he
  split at he
  · rename_i c hop
    split at he
    · rename_i x hcal
      split at he
      · rename_i m hx
        split at he
        · rename_i go adm hm
          split at he
          · rename_i hfree
            simp only [T.pick] at he
            cases hadm : adm s.ys (c.args.toList.map (ev s)) with
            | false => rw [hadm] at he; simp [T.pick] at he
            | true =>
              rw [hadm] at he
              simp only [cond_true, T.pick, Option.some.injEq] at he
              subst he
              have hxe := h.ev x
              rw [hx] at hxe
              obtain ⟨hxe, _⟩ := hxe.yld_inv
              have hok := h.yy m go adm hm
              obtain ⟨F, ⟨hF, hF0⟩, hJF, hmi⟩ := h.jj
              have hd := den_map h c.args.toList
              have hd' : DenL (fun b => b < w.heap.size ∧ ¬ F b ∧ ¬ (¬ F b ∧ (Own s.lo θ b ∨ Am b))) (fun _ => False) th0 w (c.args.toList.map (ev s)) (c.args.toList.map a.eval) :=
                (denL_free hd hfree).mono (fun b hb => ⟨hb.1, fun hf => hb.2.1 (hF b hf), fun ⟨_, hh⟩ => hh.elim (fun ⟨n, o, ho, hu⟩ => hb.2.2 n o ho hu) hb.2.1⟩) (fun _ _ => rfl) (fun _ hf => hf) (fun _ _ => rfl)
              obtain ⟨fn, tmps, assign, body, hrun, hround⟩ := J.yok _ _ _ hok _ _ _ _ _ _ hJF h.fr.glw hadm (fun b ⟨hnf, hh⟩ => ⟨hh.elim (fun ⟨n, o, ho, hu⟩ => (h.lt n o b ho hu).1) (h.am b), hnf⟩) (fun b hb => h.am b (hF b hb)) hd'
              have e : (List.map a.eval c.args.toList).toArray = Array.map a.eval c.args := by apply Array.ext'; simp
              rw [e] at hrun
              refine ⟨fun _ _ => trivial, ?_⟩
              rw [Oper.semAt_eq _ _ _ (by simp [hop])]
              have hexec : (execOp a.eval o).run P w = .ok (.round (θ m).blk fn tmps assign body) w := by
                simp only [execOp, hop, resolve, hcal, hxe, Deferred.ofValue, Sem.run_bind, Sem.run_pure, Result.andThen_ok, invoke, Array.append_empty, Array.empty_append]
                exact hrun
              rw [hexec, Oper.uponIn_round]
              refine ⟨fun hh => (by cases hh), ?_⟩
              have hround' : RoundIn (FW r) (n - 1) P (θ m).blk fn tmps assign body w (fun e w' => e = .returned (.bool (go (s.ys ++ [c.args.toList.map (ev s)]))) ∧ ∃ F', After F F' w w' ∧ J.J (s.ys ++ [c.args.toList.map (ev s)]) (fun b => ¬ F b ∧ (Own s.lo θ b ∨ Am b)) F' w') := ⟨hround.1, fun c cs hr => hround.2 c cs (by simp [Fence.room])⟩
              refine hround'.mono ?_
              rintro ev' w' ⟨rfl, F', hA, hj⟩
              exact hK _ _ _ _ (fun _ x => .inl x) ((h.after hF hF0 hA hmi hj).putO o.dst (.q _ _ (.c _)))
          · simp [T.pick] at he
        · simp [T.pick] at he
      · simp [T.pick] at he
    · simp [T.pick] at he
  · simp [T.pick] at he

theorem step1_wp (hΓ : GOK P Γ) (h : Rep J Am Mi w0 s θ a w) {nm : Nat} (hn : Fresh s nm) {s' : St} (he : (step1 P Γ nm o s).pick = some s')
    (hK : ∀ (Am' : Nat → Prop) θ' a' w', (∀ b, Am b → Am' b) → Rep J Am' Mi w0 s' θ' a' w' → K a' w') : o.wpIn (FW r) n P a w K Q := by
  unfold step1 at he
  split at he
  · rename_i t ht
    rw [T.pick_bind] at he
    obtain ⟨v, hv, hs⟩ := he
    cases hs
    exact execV_wp hΓ h ht hv fun u w' hb hd => hK _ θ _ _ (fun _ x => x) ((h.ext hb).putO o.dst hd)
  · split at he
    · rename_i s1 hs1
      cases he
      exact execM_wp h hn hs1 (fun θ' a' w' hR => hK Am θ' a' w' (fun _ x => x) hR) fun a w hk => hk
    · split at he
      · exact execY_wp h he hK
      · rw [T.pick_bind] at he
        obtain ⟨u, hu, hs⟩ := he
        cases hs
        exact effA_wp hΓ h hn hu fun θ' a' w' hR => hK Am θ' a' w' (fun _ x => x) hR

theorem step1_wpV (hΓ : GOK P Γ) (h : Rep J Am Mi w0 s θ a w) {nm : Nat} (hv : isV Γ o = true) {s' : St} (he : (step1 P Γ nm o s).pick = some s') {Jb : Th → Act → World → Prop} {ds : List Nat} (hJ : Side Jb ds) (hds : ∀ d, o.dst = some d → d ∈ ds) (hj : Jb θ a w)
    (hK : ∀ a' w', Rep J Am Mi w0 s' θ a' w' → Jb θ a' w' → s'.lo = s.lo → K a' w') : o.wpIn (FW r) n P a w K Q := by
  unfold step1 at he
  split at he
  · rename_i t ht
    rw [T.pick_bind] at he
    obtain ⟨v, hv, hs⟩ := he
    cases hs
    exact execV_wp hΓ h ht hv fun u w' hb hd => hK _ _ ((h.ext hb).putO o.dst hd) (hJ _ _ _ _ _ _ hj hb hds) rfl
  · rename_i hnone
    exfalso
    unfold isV at hv
    have hld : ∀ t x, o.op ≠ .load t x := fun t x hop => by
      cases x <;> simp [execV, hop] at hnone
    split at hv <;> first | (simp [execV, *] at hnone; done) | (rename_i hop; exact absurd hop (hld _ _)) | skip
    · rename_i c hop
      split at hv <;> first | (simp [execV, execC, *] at hnone; done) | skip
      · rename_i hcal
        simp only [execV, hop, execC, hcal] at hnone
        split at hv
        · rename_i y hargs
          simp [hargs] at hnone
        · cases hv
      · rename_i f hcal
        simp only [execV, hop, execC, hcal, calleeV] at hnone
        cases hl : look Γ f with
        | none => simp [hl] at hv
        | some sp => cases sp <;> simp [hl] at hnone hv
      · cases hv
    · cases hv

theorem wanted_none {ops : Array Oper} (hg : o.guard = none) : Region.wanted o (yielded ops a.tmps) = true := by simp [Region.wanted, hg]

theorem wanted_some {ops : List Oper} {j g : Nat} {want b : Bool} (hg : o.guard = some (j, want)) (hs : gslot ops j = some g) (hb : a.tmps[g]? = some (.bool b)) :
    Region.wanted o (yielded ops.toArray a.tmps) = (b == want) := by
  have : yielded ops.toArray a.tmps j = some b := by
    unfold gslot at hs
    simp [yielded, hs, hb]
  simp [Region.wanted, hg, this]

theorem wanted_und {ops : List Oper} {j g : Nat} {want : Bool} {x : Array Value} (hg : o.guard = some (j, want)) (hs : gslot ops j = some g) (hb : a.tmps[g]? = some (.tuple x)) :
    Region.wanted o (yielded ops.toArray a.tmps) = false := by
  have : yielded ops.toArray a.tmps j = none := by
    unfold gslot at hs
    simp [yielded, hs, hb]
  simp [Region.wanted, hg, this]

theorem Rep.slotUnd (h : Rep J Am Mi w0 s θ a w) {g : Nat} {x : Array Value} (hg : s.tm[g]? = some (.q (.c (.tuple x)))) : a.tmps[g]? = some (.tuple x) := by
  obtain ⟨u, hu, hd⟩ := h.tm g _ hg
  rw [hu]
  cases hd with
  | q _ _ hq => cases hq; rfl

theorem Rep.retm (h : Rep J Am Mi w0 s θ a w) (g : Nat) {v : V} {u : Value} (hu : a.tmps[g]? = some u) (hv : Den (Stab Am s.lo θ w) (Liv s.lo) θ w v u) :
    Rep J Am Mi w0 { s with tm := s.tm.set g v } θ a w := by
  have := h.put g hv
  have e : a.put (some g) u = a := by
    obtain ⟨tm, df⟩ := a
    simp only [Act.put]
    congr 1
    apply Array.ext_getElem?
    intro i
    rw [Array.getElem?_setIfInBounds]
    split
    · rename_i hi
      subst hi
      split
      · exact hu.symm
      · rename_i hlt
        simp only [Array.getElem?_eq_none (Nat.le_of_not_lt hlt)]
    · rfl
  rw [e] at this
  exact this

theorem Rep.skip (h : Rep J Am Mi w0 s θ a w) : Rep J Am Mi w0 (skipS o s) θ (a.put o.dst undef) w := h.putO o.dst (.q _ _ (.c _))

theorem Rep.slotBool (h : Rep J Am Mi w0 s θ a w) {g : Nat} {v : V} {b : Bool} (hg : s.tm[g]? = some v) (hv : v.bool? = some b) : a.tmps[g]? = some (.bool b) := by
  obtain ⟨u, hu, hd⟩ := h.tm g v hg
  rw [hu, den_bool hd hv]

/-- One operation of a region, wanted or not. -/
def wpOne (r : Option Nat) (n : Nat) (P : Program) (ops : Array Oper) (Q : Exit → Act → World → Prop) (o : Oper) (a : Act) (w : World) (K : Act → World → Prop) : Prop :=
  if Region.wanted o (yielded ops a.tmps) then o.wpIn (FW r) n P a w K Q else K (a.put o.dst undef) w

theorem wpListIn_one {ops : Array Oper} {l : List Oper} (h : wpOne r n P ops Q o a w (wpListIn (FW r) n P ops Q l)) : wpListIn (FW r) n P ops Q (o :: l) a w := by
  unfold wpOne at h
  unfold wpListIn
  split
  · rename_i hw; rw [if_pos hw] at h; exact h
  · rename_i hw; rw [if_neg hw] at h; exact ⟨fun _ _ => trivial, h⟩

theorem stepG_wp (hΓ : GOK P Γ) {ops : List Oper} (h : Rep J Am Mi w0 s θ a w) {nm : Nat} (hn : Fresh s nm) {s' : St} (he : (stepG P Γ ops nm o s).pick = some s')
    (hK : ∀ (Am' : Nat → Prop) θ' a' w', (∀ b, Am b → Am' b) → Rep J Am' Mi w0 s' θ' a' w' → K a' w') : wpOne r n P ops.toArray Q o a w K := by
  unfold stepG at he
  unfold wpOne
  split at he
  · rename_i hg
    rw [if_pos (wanted_none hg)]
    exact step1_wp hΓ h hn he hK
  · rename_i j want hg
    split at he
    · simp [T.pick] at he
    · rename_i g hgs
      split at he
      · rename_i b hb
        rw [wanted_some hg hgs (h.slotBool hb rfl)]
        split at he
        · rename_i hbw
          rw [if_pos (by simpa using hbw)]
          exact step1_wp hΓ h hn he hK
        · rename_i hbw
          cases he
          rw [if_neg (by simpa using hbw)]
          exact hK _ _ _ _ (fun _ x => x) h.skip
      · rename_i b hb
        have hbv := h.slotBool hb rfl
        have hR := h.retm g hbv (.kb b)
        rw [wanted_some hg hgs hbv]
        simp only [T.pick] at he
        cases b <;> cases want <;> simp only [cond_true, cond_false, if_true, if_false, Bool.false_eq_true] at he
        · rw [if_pos (by rfl)]; exact step1_wp hΓ hR hn he hK
        · cases he; rw [if_neg (by simp)]; exact hK _ _ _ _ (fun _ x => x) hR.skip
        · cases he; rw [if_neg (by simp)]; exact hK _ _ _ _ (fun _ x => x) hR.skip
        · rw [if_pos (by rfl)]; exact step1_wp hΓ hR hn he hK
      · rename_i x hb
        cases he
        rw [wanted_und hg hgs (h.slotUnd hb), if_neg (by simp)]
        exact hK _ _ _ _ (fun _ x => x) h.skip
      · simp [T.pick] at he

theorem runG_wp (hΓ : GOK P Γ) {ops rest : List Oper} : ∀ (l : List Oper) {Am : Nat → Prop} {s s' : St} {θ : Th} {a : Act} {w : World}, Rep J Am Mi w0 s θ a w → (runG P Γ ops l s).pick = some s' →
    (∀ (Am' : Nat → Prop) θ' a' w', (∀ b, Am b → Am' b) → Rep J Am' Mi w0 s' θ' a' w' → wpListIn (FW r) n P ops.toArray Q rest a' w') → wpListIn (FW r) n P ops.toArray Q (l ++ rest) a w
  | [], Am, s, s', θ, a, w, h, he, hK => by
    cases he
    exact hK _ _ _ _ (fun _ x => x) h
  | o :: l, Am, s, s', θ, a, w, h, he, hK => by
    simp only [runG] at he
    rw [T.pick_bind] at he
    obtain ⟨s1, h1, h2⟩ := he
    refine wpListIn_one (stepG_wp hΓ h ⟨h.tt.2.1, fun o ho => ?_⟩ h1 fun Am' θ' a' w' hup hR => runG_wp hΓ l hR h2 fun Am2 θ2 a2 w2 hup2 hR2 => hK Am2 θ2 a2 w2 (fun b hb => hup2 b (hup b hb)) hR2)
    have := (List.getElem?_eq_some_iff.1 ho).1
    omega

theorem stepG_wpV (hΓ : GOK P Γ) {ops : List Oper} (h : Rep J Am Mi w0 s θ a w) {nm : Nat} (hv : isV Γ o = true) {s' : St} (he : (stepG P Γ ops nm o s).pick = some s') {Jb : Th → Act → World → Prop} {ds : List Nat} (hJ : Side Jb ds) (hds : ∀ d, o.dst = some d → d ∈ ds) (hj : Jb θ a w)
    (hK : ∀ a' w', Rep J Am Mi w0 s' θ a' w' → Jb θ a' w' → s'.lo = s.lo → K a' w') : wpOne r n P ops.toArray Q o a w K := by
  unfold stepG at he
  unfold wpOne
  have hjs : Jb θ (a.put o.dst undef) w := hJ _ _ _ _ _ _ hj (Below.refl _ _) hds
  split at he
  · rename_i hg
    rw [if_pos (wanted_none hg)]
    exact step1_wpV hΓ h hv he hJ hds hj hK
  · rename_i j want hg
    split at he
    · simp [T.pick] at he
    · rename_i g hgs
      split at he
      · rename_i b hb
        rw [wanted_some hg hgs (h.slotBool hb rfl)]
        split at he
        · rename_i hbw
          rw [if_pos (by simpa using hbw)]
          exact step1_wpV hΓ h hv he hJ hds hj hK
        · rename_i hbw
          cases he
          rw [if_neg (by simpa using hbw)]
          exact hK _ _ h.skip hjs rfl
      · rename_i b hb
        have hbv := h.slotBool hb rfl
        have hR := h.retm g hbv (.kb b)
        rw [wanted_some hg hgs hbv]
        simp only [T.pick] at he
        cases b <;> cases want <;> simp only [cond_true, cond_false, if_true, if_false, Bool.false_eq_true] at he
        · rw [if_pos (by rfl)]; exact step1_wpV hΓ hR hv he hJ hds hj hK
        · cases he; rw [if_neg (by simp)]; exact hK _ _ hR.skip hjs rfl
        · cases he; rw [if_neg (by simp)]; exact hK _ _ hR.skip hjs rfl
        · rw [if_pos (by rfl)]; exact step1_wpV hΓ hR hv he hJ hds hj hK
      · rename_i x hb
        cases he
        rw [wanted_und hg hgs (h.slotUnd hb), if_neg (by simp)]
        exact hK _ _ h.skip hjs rfl
      · simp [T.pick] at he

theorem runG_wpV (hΓ : GOK P Γ) {ops rest : List Oper} {Jb : Th → Act → World → Prop} {ds : List Nat} (hJ : Side Jb ds) : ∀ (l : List Oper) {s s' : St} {θ : Th} {a : Act} {w : World}, l.all (isV Γ) = true → (∀ o ∈ l, ∀ d, o.dst = some d → d ∈ ds) →
    Rep J Am Mi w0 s θ a w → Jb θ a w → (runG P Γ ops l s).pick = some s' →
    (∀ a' w', Rep J Am Mi w0 s' θ a' w' → Jb θ a' w' → s'.lo = s.lo → wpListIn (FW r) n P ops.toArray Q rest a' w') → wpListIn (FW r) n P ops.toArray Q (l ++ rest) a w
  | [], s, s', θ, a, w, hv, hds, h, hj, he, hK => by
    cases he
    exact hK _ _ h hj rfl
  | o :: l, s, s', θ, a, w, hv, hds, h, hj, he, hK => by
    simp only [List.all_cons, Bool.and_eq_true] at hv
    simp only [runG] at he
    rw [T.pick_bind] at he
    obtain ⟨s1, h1, h2⟩ := he
    refine wpListIn_one (stepG_wpV hΓ h hv.1 h1 hJ (fun d hd => hds o (by simp) d hd) hj fun a' w' hR hj' hl => ?_)
    exact runG_wpV hΓ hJ l hv.2 (fun o ho => hds o (by simp [ho])) hR hj' h2 fun a'' w'' hR' hj'' hl' => hK _ _ hR' hj'' (hl'.trans hl)

theorem colT_den {S L : Nat → Prop} {i : Nat} {u : Value} : ∀ {t : T St} {s' : St}, t.noBad = true → t.pick = some s' → Den S L θ w (s'.tm.getD i .any) u → Den S L θ w (colT i t) u
  | .leaf s, s', _, hp, hd => by cases hp; exact hd
  | .bad, _, hn, _, _ => by cases hn
  | .ite b t e, s', hn, hp, hd => by
    simp only [T.noBad, Bool.and_eq_true] at hn
    simp only [T.pick] at hp
    simp only [colT, mergeV]
    split
    · rename_i p q hpb hqb
      cases b
      · have := den_bool (colT_den hn.2 hp hd) hqb
        rw [this]; exact .q _ _ (.c _)
      · have := den_bool (colT_den hn.1 hp hd) hpb
        rw [this]; exact .q _ _ (.c _)
    · split
      · rename_i k m k' m' hm hm'
        split
        · rename_i hk
          subst hk
          cases b
          · have := den_int (colT_den hn.2 hp hd) hm'
            rw [this]; exact .q _ _ (.c _)
          · have := den_int (colT_den hn.1 hp hd) hm
            rw [this]; exact .q _ _ (.c _)
        · exact .any _
      · exact .any _

theorem mergeTm_get {ds : List Nat} {t : T St} : ∀ (l : List V) (i j : Nat) (v : V), (mergeTm ds t i l)[j]? = some v → (ds.contains (i + j) = true ∧ v = colT (i + j) t) ∨ (ds.contains (i + j) = false ∧ l[j]? = some v)
  | [], i, j, v, h => by simp [mergeTm] at h
  | x :: l, i, 0, v, h => by
    simp only [mergeTm, List.getElem?_cons_zero, Option.some.injEq] at h
    by_cases hc : ds.contains i = true
    · rw [if_pos hc] at h; exact .inl ⟨hc, h.symm⟩
    · rw [if_neg hc] at h; exact .inr ⟨by simpa using hc, by simp [h]⟩
  | x :: l, i, j + 1, v, h => by
    simp only [mergeTm, List.getElem?_cons_succ] at h
    have := mergeTm_get l (i + 1) j v h
    rw [show i + 1 + j = i + (j + 1) by omega] at this
    simpa using this

theorem mergeTm_length {ds : List Nat} {t : T St} : ∀ (l : List V) (i : Nat), (mergeTm ds t i l).length = l.length
  | [], _ => rfl
  | x :: l, i => by simp [mergeTm, mergeTm_length l (i + 1)]

/-- All slots of ds forgotten. -/
def forgetAll (ds : List Nat) (tm : List V) : List V := ds.foldl (fun tm d => tm.set d .any) tm

theorem runMid_wp (hΓ : GOK P Γ) {ops mid rest : List Oper} (hv : mid.all (isV Γ) = true) {s s' : St} (h : Rep J Am Mi w0 s θ a w) (he : (runMid P Γ ops mid s).pick = some s')
    (hK : ∀ (Am' : Nat → Prop) θ' a' w', (∀ b, Am b → Am' b) → Rep J Am' Mi w0 s' θ' a' w' → wpListIn (FW r) n P ops.toArray Q rest a' w') : wpListIn (FW r) n P ops.toArray Q (mid ++ rest) a w := by
  unfold runMid at he
  simp only at he
  split at he
  · rename_i s1 hs1
    cases he
    exact runG_wp hΓ mid h (by rw [hs1]; rfl) hK
  · split at he
    · rename_i hnb
      cases he
      -- the way that is taken, and what is known beside it of the other slots
      obtain ⟨s1, hp⟩ : ∃ s1, (runG P Γ ops mid s).pick = some s1 := by
        have : ∀ t : T St, t.noBad = true → ∃ s1, t.pick = some s1 := by
          intro t
          induction t with
          | leaf x => exact fun _ => ⟨x, rfl⟩
          | bad => intro h; cases h
          | ite b t e iht ihe =>
            intro h
            simp only [T.noBad, Bool.and_eq_true] at h
            cases b
            · exact ihe h.2
            · exact iht h.1
        exact this _ hnb
      refine runG_wpV (Jb := fun θ a w => ∃ tm, tm.length = s.tm.length ∧ (∀ (i : Nat) v, (dsts mid).contains i = false → s.tm[i]? = some v → tm[i]? = some v) ∧ Rep J Am Mi w0 { s with tm } θ a w) (ds := dsts mid) hΓ ?_ mid hv ?_ h ⟨s.tm, rfl, fun _ _ _ h => h, h⟩ hp ?_
      · rintro θ a w d u w' ⟨tm, h1, h2, h3⟩ hb hd
        refine ⟨putT tm d .any, by cases d <;> simp [putT, h1], fun i v hi hv => ?_, (h3.ext hb).putO d (.any u)⟩
        cases d with
        | none => exact h2 i v hi hv
        | some d =>
          have hd' := hd d rfl
          have hne : d ≠ i := by
            rintro rfl
            have : (dsts mid).contains d = true := by simpa using hd'
            rw [this] at hi
            cases hi
          simp only [putT, List.getElem?_set_ne hne]
          exact h2 i v hi hv
      · intro o ho d hd
        simp only [dsts, List.mem_filterMap]
        exact ⟨o, ho, hd⟩
      · rintro a' w' hR ⟨tm, h1, h2, h3⟩ hl
        refine hK Am θ a' w' (fun _ x => x) ?_
        have hsz : s1.tm.length = s.tm.length := by rw [← hR.size, ← h1]; exact h3.size
        refine ⟨by simp [mergeTm_length, hR.size, hsz], fun i v hiv => ?_, h3.lo, h3.lt, h3.inj, h3.mine, h3.fr, h3.am, h3.jj, h3.yy, h3.ga, h3.rr, h3.tt, h3.df, h3.dfl⟩
        rcases mergeTm_get s.tm 0 i v hiv with ⟨hc, rfl⟩ | ⟨hc, hv'⟩
        · rw [Nat.zero_add] at hc ⊢
          have hi : i < s.tm.length := by
            have := (List.getElem?_eq_some_iff.1 hiv).1
            rwa [mergeTm_length] at this
          have hi' : i < s1.tm.length := by omega
          obtain ⟨u, hu, hd⟩ := hR.tm i s1.tm[i] (List.getElem?_eq_getElem hi')
          refine ⟨u, hu, ?_⟩
          have := colT_den (i := i) (S := Stab Am s1.lo θ w') (L := Liv s1.lo) hnb hp (u := u) (θ := θ) (w := w') (by simpa [List.getD_eq_getElem?_getD, hi'] using hd)
          rw [hl] at this
          exact this
        · rw [Nat.zero_add] at hc
          exact h3.tm i v (h2 i v hc hv')
    · exact runG_wp hΓ mid h he hK

theorem runR_wp (hΓ : GOK P Γ) {ops : List Oper} {s s' : St} (h : Rep J Am Mi w0 s θ a w) (he : (runR P Γ ops s).pick = some s')
    (hK : ∀ (Am' : Nat → Prop) θ' a' w', (∀ b, Am b → Am' b) → Rep J Am' Mi w0 s' θ' a' w' → Q .normal a' w') : wpListIn (FW r) n P ops.toArray Q ops a w := by
  unfold runR at he
  rw [T.pick_bind] at he
  obtain ⟨s1, h1, he⟩ := he
  rw [T.pick_bind] at he
  obtain ⟨s2, h2, h3⟩ := he
  have hsplit : ops = ops.takeWhile (fun o => !hasGuard o) ++ ((ops.dropWhile (fun o => !hasGuard o)).takeWhile (isV Γ) ++ ((ops.dropWhile (fun o => !hasGuard o)).dropWhile (isV Γ) ++ [])) := by
    rw [List.append_nil, List.takeWhile_append_dropWhile, List.takeWhile_append_dropWhile]
  have key : wpListIn (FW r) n P ops.toArray Q (ops.takeWhile (fun o => !hasGuard o) ++ ((ops.dropWhile (fun o => !hasGuard o)).takeWhile (isV Γ) ++ ((ops.dropWhile (fun o => !hasGuard o)).dropWhile (isV Γ) ++ []))) a w := by
    refine runG_wp hΓ _ h h1 fun Am1 θ1 a1 w1 hup1 hR => ?_
    refine runMid_wp hΓ ?_ hR h2 fun Am2 θ2 a2 w2 hup2 hR => ?_
    · exact List.all_takeWhile
    · exact runG_wp hΓ _ hR h3 fun Am' θ' a' w' hup3 hR => hK Am' θ' a' w' (fun b hb => hup3 b (hup2 b (hup1 b hb))) hR
  rw [← hsplit] at key
  exact key

theorem region_wp (hΓ : GOK P Γ) {id : Nat} {ops : Array Oper} {s s' : St} (h : Rep J Am Mi w0 s θ a w) (he : (runR P Γ ops.toList s).pick = some s')
    (hK : ∀ (Am' : Nat → Prop) θ' a' w', (∀ b, Am b → Am' b) → Rep J Am' Mi w0 s' θ' a' w' → Q .normal a' w') : (Code.region id ops false).wpIn (FW r) n P Q a w := by
  refine wpIn_region_list ?_
  have := runR_wp (r := r) (n := n) (Q := Q) hΓ h he hK
  simpa using this

end
end Go.SX

/- Regions whose order is open: the text's order stands for all. -/
namespace Go.SX
open Go.RowKit
set_option linter.unusedVariables false
set_option linter.unusedSimpArgs false
set_option linter.unusedSectionVars false

def effM (P : Program) (o : Oper) (nm : Nat) (s : St) : Option Upd :=
  match o.op with
  | .alloc t => match run0 P (zeroValue t), o.dst with
    | some z, some d => some (.new nm (.cells t (z.cells.toList.map fun x => .q (.c x))))
    | _, _ => none
  | .box t x => match (ev s x).cells?, o.dst with
    | some cs, some d => some (.new nm (.cells t cs))
    | _, _ => none
  | .store t x y => match ev s x, (ev s y).cells?, run0 P (sizeOf t), o.dst with
    | .ptr n off, some vs, some m, none => match s.lo[n]? with
      | some (some (.cells ty cs)) => if vs.length = m && off + m ≤ cs.length && vs.all V.one then some (.set n (.cells ty (over cs off vs))) else none
      | _ => none
    | _, _, _, _ => none
  | .makeMap t none => match P.underlying t, o.dst with
    | some (.map kt et), some d => match mkOf P kt, run0 P (isAgg et) with
      | some kk, some ag => if ag || decide ((kindsT P 12 et).length = 1) then some (.new nm (.map kk ag (kindsT P 12 et) [])) else none
      | _, _ => none
    | _, _ => none
  | .mapUpdate t m k v => match P.underlying t, ev s m, (ev s k).val?, o.dst with
    | some (.map kt et), .mp n, some kv, none => match mkOf P kt, s.lo[n]?, updQ (ev s v) with
      | some kk, some (some (.map kk' ag vk es)), some (ag', qs) => if MK.same kk kk' && kk.fit kv && kOks vk qs && (ag == ag') then some (.set n (.map kk' ag vk (putE kv qs es))) else none
      | _, _, _ => none
    | _, _, _, _ => none
  | _ => none

def isCallO (o : Oper) : Bool := match o.op with
  | .call _ => true
  | _ => false

theorem execM_call {P : Program} {o : Oper} {nm : Nat} {s : St} (h : isCallO o = true) : execM P o nm s = none := by
  unfold isCallO at h
  split at h
  · rename_i c hop
    simp [execM, hop]
  · cases h

def eff1 (P : Program) (Γ : Gam) (nm : Nat) (o : Oper) (s : St) : T Upd :=
  match execV P Γ o s with
  | some t => t.bind fun v => .leaf (.val v)
  | none => match effM P o nm s with
    | some u => .leaf u
    | none => if isCallO o then (if isYl o s then effY o s else effX P Γ nm o s) else .bad

def effG0 (P : Program) (Γ : Gam) (ops : List Oper) (nm : Nat) (o : Oper) (s : St) : T Upd :=
  match o.guard with
  | none => eff1 P Γ nm o s
  | some (j, want) =>
    match gslot ops j with
    | none => .bad
    | some g => match s.tm.getD g .any with
      | .kb b => if b = want then eff1 P Γ nm o s else .leaf (.val undV)
      | .q (.c (.tuple _)) => .leaf (.val undV)
      | v => match v.bool? with
        | some b => .ite b (if want then eff1 P Γ nm o s else .leaf (.val undV)) (if want then .leaf (.val undV) else eff1 P Γ nm o s)
        | none => .bad

/-- The slots that tell whether an operation is wanted. -/
def gslots (ops : List Oper) : List Nat := ops.filterMap fun o => match o.guard with
  | some (j, _) => gslot ops j
  | none => none

/-- A truth value that others hang on is parted at once. -/
def splitU (gs : List Nat) (d : Option Nat) : Upd → T Upd
  | .val v => match d with
    | some d => if gs.contains d then match v with
        | .q (.c (.bool b)) => .ite b (.leaf (.val (.kb true))) (.leaf (.val (.kb false)))
        | v => .leaf (.val v)
      else .leaf (.val v)
    | none => .leaf (.val v)
  | u => .leaf u

def effG (P : Program) (Γ : Gam) (ops : List Oper) (nm : Nat) (o : Oper) (s : St) : T Upd := (effG0 P Γ ops nm o s).bind (splitU (gslots ops) o.dst)

theorem splitU_pick {gs : List Nat} {d : Option Nat} {u u' : Upd} (h : (splitU gs d u).pick = some u') : u' = u ∨ ∃ b d', d = some d' ∧ u = .val (.q (.c (.bool b))) ∧ u' = .val (.kb b) := by
  unfold splitU at h
  split at h
  · split at h
    · split at h
      · split at h
        · rename_i b
          simp only [T.pick] at h
          cases b <;> simp at h <;> subst h <;> exact .inr ⟨_, _, rfl, rfl, rfl⟩
        · cases h; exact .inl rfl
      · cases h; exact .inl rfl
    · cases h; exact .inl rfl
  · cases h; exact .inl rfl

theorem execM_eff {P : Program} {o : Oper} {nm : Nat} {s : St} {u : Upd} (h : effM P o nm s = some u) : execM P o nm s = some (u.ap o.dst s) := by
  unfold effM at h
  unfold execM
  split at h
  · rename_i t hop
    simp only [hop]
    split at h
    · rename_i z d hz hd
      cases h
      simp [hz, hd, Upd.ap, putT, newV]
    · cases h
  · rename_i t x hop
    simp only [hop]
    split at h
    · rename_i cs d hz hd
      cases h
      simp [hz, hd, Upd.ap, putT, newV]
    · cases h
  · rename_i t x y hop
    simp only [hop]
    split at h
    · rename_i n off vs m h1 h2 h3 h4
      simp only [h1, h2, h3, h4]
      split at h
      · rename_i ty cs hcs
        simp only [hcs]
        split at h
        · rename_i hc
          cases h
          rw [if_pos hc]
          rfl
        · cases h
      · cases h
    · cases h
  · rename_i t hop
    simp only [hop]
    split at h
    · rename_i kt et d hu hd
      simp only [hu, hd]
      split at h
      · rename_i kk ag h1 h2
        simp only [h1, h2]
        split at h
        · rename_i hc
          cases h
          rw [if_pos hc]
          rfl
        · cases h
      · cases h
    · cases h
  · rename_i t m k v hop
    simp only [hop]
    unfold mapU
    split at h
    · rename_i kt et n kv h1 h2 h3 h4
      simp only [h1, h2, h3, h4]
      split at h
      · rename_i kk kk' ag vk es ag' qs h5 h6 h7
        simp only [h5, h6, h7]
        split at h
        · rename_i hc
          cases h
          rw [if_pos hc]
          rfl
        · cases h
      · cases h
    · cases h
  · cases h

theorem step1_eff {P : Program} {Γ : Gam} {o : Oper} {nm : Nat} {s : St} {u : Upd} (h : (eff1 P Γ nm o s).pick = some u) : (step1 P Γ nm o s).pick = some (u.ap o.dst s) := by
  unfold eff1 at h
  unfold step1
  split at h
  · rename_i t ht
    rw [T.pick_bind] at h
    obtain ⟨v, hv, h⟩ := h
    cases h
    try rw [ht]
    exact (T.pick_bind _ _ _).2 ⟨v, hv, rfl⟩
  · rename_i ht
    try rw [ht]
    try simp only
    split at h
    · rename_i u' hu'
      cases h
      rw [execM_eff hu']
      rfl
    · split at h
      · rename_i hm
        rw [execM_call hm]
        simp only
        split at h
        · rename_i hy
          rw [if_pos hy]
          exact execY_eff h
        · rename_i hy
          rw [if_neg hy, T.pick_bind]
          exact ⟨u, effA_of_X h, rfl⟩
      · simp [T.pick] at h

/-! ### what an operation looks at -/
def V.nms : V → List Nat
  | .ptr n _ => [n]
  | .ep n _ _ _ => [n]
  | .own n => [n]
  | .mp n => [n]
  | .yld n => [n]
  | _ => []

def opTmps (ops : List Oper) (o : Oper) : List Nat :=
  (o.op.operands.toList.filterMap fun | .tmp t => some t | _ => none) ++
  (match o.guard with
   | some (j, _) => (gslot ops j).toList
   | none => [])

/-- Names that a value names, and those that lie below them. -/
def deepN : Nat → List (Option Ob) → V → List Nat
  | k + 1, lo, .ptr n _ => n :: (match lo[n]? with
    | some (some (.cells _ cs)) => cs.flatMap (deepN k lo)
    | _ => [])
  | _, _, v => v.nms

def deepV (lo : List (Option Ob)) : V → List Nat
  | .agg l => l.flatMap (deepN 3 lo)
  | .clo _ l => l.flatMap (deepN 3 lo)
  | v => deepN 3 lo v

/-- What a call is given. -/
def callArgs (o : Oper) (s : St) : List V := match o.op with
  | .call c => match c.callee with
    | .value x => c.args.toList.map (ev s) ++ (match calleeV s x with
      | some (_, caps) => caps
      | none => [])
    | _ => []
  | _ => []

def opNms (o : Oper) (s : St) : List Nat := (o.op.operands.toList.flatMap fun x => (ev s x).nms) ++ (callArgs o s).flatMap (deepV s.lo)

structure Alike (ops : List Oper) (o : Oper) (s s' : St) : Prop where
  tm : ∀ t ∈ opTmps ops o, s'.tm.getD t .any = s.tm.getD t .any
  lo : ∀ n ∈ opNms o s, s'.lo[n]? = s.lo[n]?
  ys : isYl o s = true → s'.ys = s.ys

section
variable {P : Program} {Γ : Gam} {ops : List Oper} {o : Oper} {s s' : St} {nm : Nat}

theorem Alike.ev (h : Alike ops o s s') {x : Operand} (hx : x ∈ o.op.operands) : ev s' x = ev s x := by
  cases x with
  | tmp t => exact congrArg V.unlc (h.tm t (List.mem_append_left _ (List.mem_filterMap.2 ⟨.tmp t, by simpa using hx, rfl⟩)))
  | _ => rfl

theorem Alike.evr (h : Alike ops o s s') {x : Operand} (hx : x ∈ o.op.operands) : evr s' x = evr s x := by
  cases x with
  | tmp t => exact h.tm t (List.mem_append_left _ (List.mem_filterMap.2 ⟨.tmp t, by simpa using hx, rfl⟩))
  | _ => rfl

theorem deepN_congr {lo lo' : List (Option Ob)} : ∀ (k : Nat) (v : V), (∀ n ∈ deepN k lo v, lo'[n]? = lo[n]?) → deepN k lo' v = deepN k lo v
  | 0, v, _ => by cases v <;> rfl
  | k + 1, v, h => by
    cases v with
    | ptr n off =>
      have h0 := h n (by simp [deepN])
      simp only [deepN, h0]
      congr 1
      split
      · rename_i t cs hlo
        refine flatMap_congr' fun x hx => deepN_congr k x fun m hm => h m ?_
        simp only [deepN, hlo]
        exact List.mem_cons_of_mem _ (List.mem_flatMap.2 ⟨x, hx, hm⟩)
      · rfl
    | _ => rfl

theorem mapO_congr {α β : Type} {f g : α → Option β} : ∀ {l : List α}, (∀ x ∈ l, f x = g x) → mapO f l = mapO g l
  | [], _ => rfl
  | x :: l, h => by simp only [mapO, h x List.mem_cons_self, mapO_congr (fun y hy => h y (List.mem_cons_of_mem _ hy))]

theorem toQ0_congr {lo lo' : List (Option Ob)} {v : V} (h : ∀ n ∈ v.nms, lo'[n]? = lo[n]?) : toQ0 lo' v = toQ0 lo v := by
  cases v with
  | own n => simp only [toQ0, h n (by simp [V.nms])]
  | mp n => simp only [toQ0, h n (by simp [V.nms])]
  | _ => rfl

theorem toQ_congr {lo lo' : List (Option Ob)} : ∀ (k : Nat) (v : V), (∀ n ∈ deepN k lo v, lo'[n]? = lo[n]?) → toQ k lo' v = toQ k lo v
  | 0, v, h => by
    have : deepN 0 lo v = v.nms := by cases v <;> rfl
    rw [this] at h
    exact toQ0_congr h
  | k + 1, v, h => by
    cases v with
    | ptr n off =>
      have h0 := h n (by simp [deepN])
      simp only [toQ, h0]
      split
      · rename_i t cs hlo
        refine congrArg _ (mapO_congr fun x hx => toQ_congr k x fun m hm => h m ?_)
        simp only [deepN, hlo]
        exact List.mem_cons_of_mem _ (List.mem_flatMap.2 ⟨x, List.mem_of_mem_drop hx, hm⟩)
      · rfl
    | _ => exact toQ0_congr h

theorem toQs_congr {lo lo' : List (Option Ob)} : ∀ {l : List V}, (∀ x ∈ l, ∀ n ∈ deepN 3 lo x, lo'[n]? = lo[n]?) → toQs lo' l = toQs lo l
  | [], _ => rfl
  | x :: l, h => by simp only [toQs, toQ_congr 3 x (h x List.mem_cons_self), toQs_congr fun y hy => h y (List.mem_cons_of_mem _ hy)]

theorem letGo1_congr {lo lo' : List (Option Ob)} {v : V} (h : ∀ n ∈ deepV lo v, lo'[n]? = lo[n]?) : letGo1 lo' v = letGo1 lo v := by
  cases v with
  | agg l => simp only [letGo1, toQs_congr (l := l) fun x hx n hn => h n (List.mem_flatMap.2 ⟨x, hx, hn⟩)]
  | clo f l => simp only [letGo1, toQs_congr (l := l) fun x hx n hn => h n (List.mem_flatMap.2 ⟨x, hx, hn⟩)]
  | any => rfl
  | _ => simp only [letGo1]; rw [toQ_congr 3 _ h]

theorem letGoL_congr {lo lo' : List (Option Ob)} : ∀ {l : List V}, (∀ x ∈ l, ∀ n ∈ deepV lo x, lo'[n]? = lo[n]?) → letGoL lo' l = letGoL lo l
  | [], _ => rfl
  | x :: l, h => by simp only [letGoL, letGo1_congr (h x List.mem_cons_self), letGoL_congr fun y hy => h y (List.mem_cons_of_mem _ hy)]

theorem deepV_congr {lo lo' : List (Option Ob)} {v : V} (h : ∀ n ∈ deepV lo v, lo'[n]? = lo[n]?) : deepV lo' v = deepV lo v := by
  cases v with
  | agg l => exact flatMap_congr' fun x hx => deepN_congr 3 x fun n hn => h n (List.mem_flatMap.2 ⟨x, hx, hn⟩)
  | clo f l => exact flatMap_congr' fun x hx => deepN_congr 3 x fun n hn => h n (List.mem_flatMap.2 ⟨x, hx, hn⟩)
  | _ => exact deepN_congr 3 _ h

theorem all_congr' {α : Type} {f g : α → Bool} : ∀ {l : List α}, (∀ x ∈ l, f x = g x) → l.all f = l.all g
  | [], _ => rfl
  | x :: l, h => by simp only [List.all_cons, h x List.mem_cons_self, all_congr' (fun y hy => h y (List.mem_cons_of_mem _ hy))]

theorem calleeV_alike {c : Call} {x : Operand} (hop : o.op = .call c) (hcal : c.callee = .value x) (h : Alike ops o s s') : calleeV s' x = calleeV s x := by
  have hx : x ∈ o.op.operands := by
    rw [hop]
    simp [Op.operands, Call.operands, hcal]
  unfold calleeV
  cases x <;> simp only [h.ev hx]

theorem args_alike {c : Call} (hop : o.op = .call c) (h : Alike ops o s s') : c.args.toList.map (SX.ev s') = c.args.toList.map (SX.ev s) := List.map_congr_left fun x hx => h.ev (by
  rw [hop]
  simp only [Op.operands, Call.operands]
  exact Array.mem_append_right _ (by simpa using hx))

theorem callArgs_alike (h : Alike ops o s s') : callArgs o s' = callArgs o s := by
  unfold callArgs
  split
  · rename_i c hop
    split
    · rename_i x hcal
      rw [calleeV_alike hop hcal h, args_alike hop h]
    · rfl
  · rfl

theorem Alike.deep (h : Alike ops o s s') : ∀ x ∈ callArgs o s, ∀ n ∈ deepV s.lo x, s'.lo[n]? = s.lo[n]? := fun x hx n hn => h.lo n (List.mem_append_right _ (List.mem_flatMap.2 ⟨x, hx, hn⟩))

theorem Alike.nms (h : Alike ops o s s') : opNms o s' = opNms o s := by
  unfold opNms
  rw [callArgs_alike h, flatMap_congr' (g := fun x => (SX.ev s x).nms) fun x hx => by rw [h.ev (by simpa using hx)]]
  congr 1
  exact flatMap_congr' fun x hx => deepV_congr (h.deep x hx)

theorem Alike.look (h : Alike ops o s s') {x : Operand} (hx : x ∈ o.op.operands) {n : Nat} (hn : n ∈ (SX.ev s x).nms) : s'.lo[n]? = s.lo[n]? :=
  h.lo n (List.mem_append_left _ (List.mem_flatMap.2 ⟨x, by simpa using hx, hn⟩))

theorem pureOp_alike (h : Alike ops o s s') : pureOp P o s' = pureOp P o s := by
  unfold pureOp
  have h1 : (o.op.operands.all fun x => ((SX.ev s' x).val?).isSome) = (o.op.operands.all fun x => ((SX.ev s x).val?).isSome) := by
    rw [← Array.all_toList, ← Array.all_toList]
    exact all_congr' fun x hx => by rw [h.ev (by simpa using hx)]
  rw [h1]
  by_cases hs : isSelect o.op = true
  · simp [hs]
  · have : execOp (rhoOf s') o = execOp (rhoOf s) o := execOp_congr o (fun cs b e => by simp [isSelect, e] at hs) (fun x hx => by simp only [rhoOf, h.ev hx])
    rw [this]

theorem readV_alike {t : TypeId} {v : V} (h : ∀ n ∈ v.nms, s'.lo[n]? = s.lo[n]?) : readV P t s' v = readV P t s v := by
  unfold readV
  cases v with
  | ptr n off => simp only [h n (by simp [V.nms])]
  | ep n sz i j => simp only [h n (by simp [V.nms])]
  | q x => cases x <;> simp only
  | _ => simp only

theorem entsOf_alike {m : V} (h : ∀ n ∈ m.nms, s'.lo[n]? = s.lo[n]?) : entsOf s' m = entsOf s m := by
  cases m with
  | mp n => simp only [entsOf, h n (by simp [V.nms])]
  | q x => cases x <;> rfl
  | _ => rfl

theorem lookV_alike {t : TypeId} {m k : V} {ok : Bool} (h : ∀ n ∈ m.nms, s'.lo[n]? = s.lo[n]?) : lookV P t s' m k ok = lookV P t s m k ok := by
  unfold lookV
  rw [entsOf_alike h]

theorem lenM_alike (h : Alike ops o s s') {v : V} (hv : ∀ n ∈ v.nms, s'.lo[n]? = s.lo[n]?) : lenM P o v s' = lenM P o v s := by
  unfold lenM
  rw [entsOf_alike hv, pureOp_alike h]

theorem apV_alike {c : Call} (hop : o.op = .call c) (h : Alike ops o s s') : apV P c s' = apV P c s := by
  unfold apV
  split
  · rename_i x y hargs
    have hm : ∀ z ∈ c.args.toList, z ∈ o.op.operands := fun z hz => by
      rw [hop]
      simp only [Op.operands, Call.operands]
      exact Array.mem_append_right _ (by simpa using hz)
    rw [h.evr (hm x (by simp [hargs])), h.ev (hm y (by simp [hargs]))]
  · rfl

theorem callT_alike {sp : List V → T V} {args : List V} (h : ∀ x ∈ args, ∀ n ∈ deepV s.lo x, s'.lo[n]? = s.lo[n]?) : callT s' sp args = callT s sp args := by
  unfold callT
  rw [letGoL_congr h]

theorem xcall_alike {lend : Bool} {sp : Option Ob → List V → T XOut} {args : List V} (h : ∀ x ∈ args, ∀ n ∈ deepV s.lo x, s'.lo[n]? = s.lo[n]?) : xcall s' nm lend sp args = xcall s nm lend sp args := by
  unfold xcall
  rw [letGoL_congr h]
  split
  · split
    · rename_i n' rest
      have := h (.ptr n' 0) List.mem_cons_self n' (by simp [deepV, deepN])
      rw [this]
    · rfl
  · rfl

theorem bnd_alike (h : Alike ops o s s') {d : Int} {x : Option Operand} (hx : ∀ y, x = some y → y ∈ o.op.operands) : bnd s' d x = bnd s d x := by
  cases x with
  | none => rfl
  | some y => simp only [bnd, h.ev (hx y rfl)]

theorem lenV_alike (h : Alike ops o s s') {v : V} (hv : ∀ n ∈ v.nms, s'.lo[n]? = s.lo[n]?) : lenV P o v s' = lenV P o v s := by
  unfold lenV
  cases v with
  | own n => simp only [hv n (by simp [V.nms])]
  | q x => cases x <;> simp only [pureOp_alike h]
  | _ => simp only [pureOp_alike h]

theorem map_ev_alike (h : Alike ops o s s') {l : List Operand} (hl : ∀ x ∈ l, x ∈ o.op.operands) : l.map (SX.ev s') = l.map (SX.ev s) :=
  List.map_congr_left fun x hx => h.ev (hl x hx)

theorem bsRows_congr {ks : List K} {e e' : Operand → V} : ∀ (l : List (Nat × Operand)) (i : Nat), (∀ x ∈ l, e' x.2 = e x.2) → bsRows ks e' i l = bsRows ks e i l
  | [], _, _ => rfl
  | (j, x) :: l, i, h => by
    simp only [bsRows, h (j, x) List.mem_cons_self, bsRows_congr l (i + 1) fun y hy => h y (List.mem_cons_of_mem _ hy)]

theorem bsV_congr {t : TypeId} {n : Nat} {e e' : Operand → V} (l : List (Nat × Operand)) (h : ∀ x ∈ l, e' x.2 = e x.2) : bsV P t n l e' = bsV P t n l e := by
  have hk : ∀ sz, bsKs e' sz l = bsKs e sz l := fun sz => by
    cases l with
    | nil => rfl
    | cons x l => simp only [bsKs, h x List.mem_cons_self]
  simp only [bsV, hk, bsRows_congr l 0 h]

theorem bFill_congr {places : Array (Nat × Nat)} {e e' : Operand → V} : ∀ (l : List (Nat × Operand)) (cs : List V), (∀ x ∈ l, e' x.2 = e x.2) → bFill places e' l cs = bFill places e l cs
  | [], _, _ => rfl
  | (j, x) :: l, cs, h => by
    simp only [bFill, h (j, x) List.mem_cons_self]
    split
    · split
      · exact bFill_congr l _ fun y hy => h y (List.mem_cons_of_mem _ hy)
      · rfl
    · rfl

theorem buildV_congr {t : TypeId} {e e' : Operand → V} (l : List (Nat × Operand)) (h : ∀ x ∈ l, e' x.2 = e x.2) : buildV P t l e' = buildV P t l e := by
  unfold buildV
  simp only [bFill_congr l _ h]

theorem execV_alike (h : Alike ops o s s') : execV P Γ o s' = execV P Γ o s := by
  have hev : ∀ x, x ∈ o.op.operands → SX.ev s' x = SX.ev s x := fun x hx => h.ev hx
  have hlo : ∀ x, x ∈ o.op.operands → ∀ n ∈ (SX.ev s x).nms, s'.lo[n]? = s.lo[n]? := fun x hx n hn => h.look hx hn
  have hp := pureOp_alike (P := P) h
  have hb : ∀ (d : Int) (x : Option Operand), (∀ y, x = some y → y ∈ o.op.operands) → bnd s' d x = bnd s d x := fun d x hx => bnd_alike h hx
  cases hop : o.op <;> simp only [execV, hop] <;> simp only [hop, Op.operands] at hev hlo hb
  case move x => rw [hev x (by simp)]
  case assign x => rw [hev x (by simp)]
  case pick c x y => rw [hev c (by simp), hev x (by simp), hev y (by simp)]
  case build t parts => rw [hp, buildV_congr parts.toList fun x hx => hev x.2 (by simp; exact ⟨x.1, by simpa using hx⟩)]
  case buildSlice t n parts => rw [bsV_congr parts.toList fun x hx => hev x.2 (by simp; exact ⟨x.1, by simpa using hx⟩)]
  case load t x =>
    cases x with
    | global g => rfl
    | _ => simp only []; rw [hev _ (by simp), readV_alike (hlo _ (by simp))]
  case lookup t m k ok => rw [hev m (by simp), hev k (by simp), lookV_alike (hlo m (by simp))]
  case nilCheck x => rw [hev x (by simp)]
  case binOp op t x y yt => rw [hev x (by simp), hev y (by simp), hp]
  case unOp => rw [hp]
  case convert src dst x => rw [hp, hev x (by simp)]
  case makeInterface => rw [hp]
  case makeFunc fn first caps =>
    have hc : List.map (SX.ev s') caps.toList = List.map (SX.ev s) caps.toList := List.map_congr_left fun x hx => hev x (by simp; right; simpa using hx)
    simp only [hc]
  case slice t x lo hi mx =>
    simp only [cutV]
    rw [hev x (by simp), hb 0 lo (by rintro y rfl; simp)]
    have h1 : ∀ d, bnd s' d hi = bnd s d hi := fun d => hb d hi (by rintro y rfl; simp)
    simp only [h1]
    have h2 : ∀ y, mx = some y → bnd s' 0 (some y) = bnd s 0 (some y) := fun y hy => by rw [← hy]; exact hb 0 mx (by rintro y rfl; simp)
    cases mx with
    | none => rfl
    | some y => simp only [h2 y rfl]
  case fieldAddr t x f => rw [hev x (by simp)]
  case field => rw [hp]
  case indexAddr t x ix =>
    rw [hev x (by simp), hev ix (by simp)]
    have h1 := hlo x (by simp)
    cases hx : SX.ev s x with
    | own n =>
      rw [hx] at h1
      cases (SX.ev s ix).int? with
      | none => rfl
      | some q => simp only [h1 n (by simp [V.nms])]
    | q y => cases y <;> cases (SX.ev s ix).int? <;> rfl
    | _ => cases (SX.ev s ix).int? <;> rfl
  case index t x ix => rw [hev x (by simp), hev ix (by simp), hp]
  case extract t i => rw [hev t (by simp)]
  case call c =>
    have hargs : ∀ x ∈ c.args.toList, x ∈ c.operands := fun x hx => by
      simp only [Call.operands]
      exact Array.mem_append_right _ (by simpa using hx)
    cases hcal : c.callee with
    | value f =>
      simp only [execC, hcal]
      have hm : List.map (SX.ev s') c.args.toList = List.map (SX.ev s) c.args.toList := List.map_congr_left fun x hx => hev x (hargs x hx)
      rw [calleeV_alike hop hcal h]
      cases hcv : calleeV s f with
      | none => rfl
      | some q =>
        obtain ⟨f', caps⟩ := q
        simp only
        cases hl : SX.look Γ f' with
        | none => rfl
        | some sp => cases sp with
          | f sp =>
            simp only [hm]
            rw [callT_alike]
            intro x hx
            refine h.deep x ?_
            simp only [callArgs, hop, hcal, hcv]
            exact hx
          | m sp => rfl
          | x lend sp => rfl
          | g v => rfl
    | invoke r m => simp only [execC, hcal]
    | builtin b =>
      cases b <;> simp only [execC, hcal, hp]
      case append => exact apV_alike hop h
      split
      · rename_i x hx
        have hm : x ∈ c.operands := hargs x (by simp [hx])
        simp only [hev x hm, lenV_alike h (hlo x hm), lenM_alike h (hlo x hm)]
      · rfl

theorem effM_alike (h : Alike ops o s s') : effM P o nm s' = effM P o nm s := by
  have hev : ∀ x, x ∈ o.op.operands → SX.ev s' x = SX.ev s x := fun x hx => h.ev hx
  have hlo : ∀ x, x ∈ o.op.operands → ∀ n ∈ (SX.ev s x).nms, s'.lo[n]? = s.lo[n]? := fun x hx n hn => h.look hx hn
  cases hop : o.op <;> simp only [effM, hop] <;> simp only [hop, Op.operands] at hev hlo
  case box t x => rw [hev x (by simp)]
  case store t x y =>
    rw [hev x (by simp), hev y (by simp)]
    have h1 := hlo x (by simp)
    cases hx : SX.ev s x with
    | ptr n off =>
      rw [hx] at h1
      cases (SX.ev s y).cells? with
      | none => rfl
      | some vs =>
        cases run0 P (sizeOf t) with
        | none => rfl
        | some m =>
          cases o.dst with
          | none => simp only [h1 n (by simp [V.nms])]
          | some d => rfl
    | _ => rfl
  case makeMap t r => cases r <;> rfl
  case mapUpdate t m k v =>
    rw [hev m (by simp), hev k (by simp), hev v (by simp)]
    have h1 := hlo m (by simp)
    cases P.underlying t with
    | none => rfl
    | some d => cases d with
      | map kt et => cases hm : SX.ev s m with
        | mp n =>
          rw [hm] at h1
          cases (SX.ev s k).val? with
          | none => rfl
          | some kv => cases o.dst with
            | none => simp only [h1 n (by simp [V.nms])]
            | some d => rfl
        | _ => rfl
      | _ => rfl

theorem appE_alike {c : Call} (hop : o.op = .call c) (h : Alike ops o s s') : appE P c nm s' = appE P c nm s := by
  have hm : ∀ z ∈ c.args.toList, z ∈ o.op.operands := fun z hz => by
    rw [hop]
    simp only [Op.operands, Call.operands]
    exact Array.mem_append_right _ (by simpa using hz)
  unfold appE
  split
  · rename_i x y hargs
    have hx := hm x (by simp [hargs])
    have hlo : ∀ n ∈ (SX.ev s x).nms, s'.lo[n]? = s.lo[n]? := fun n hn => h.look hx hn
    have hv : vecOf s' (SX.ev s x) = vecOf s (SX.ev s x) := by
      cases hv : SX.ev s x with
      | own n =>
        rw [hv] at hlo
        simp only [vecOf, hlo n (by simp [V.nms])]
      | _ => rfl
    rw [h.ev hx, h.ev (hm y (by simp [hargs])), hv]
  · rfl

theorem effX_alike (h : Alike ops o s s') : effX P Γ nm o s' = effX P Γ nm o s := by
  unfold effX
  split
  · rename_i c hop
    split
    · rw [appE_alike hop h]
    · rename_i x hcal
      rw [calleeV_alike hop hcal h, args_alike hop h]
      cases hcv : calleeV s x with
      | none => rfl
      | some q =>
        obtain ⟨f', caps⟩ := q
        simp only
        cases hl : SX.look Γ f' with
        | none => rfl
        | some sp => cases sp with
          | f sp => rfl
          | m sp => rfl
          | g v => rfl
          | x lend sp =>
            simp only
            rw [xcall_alike]
            intro y hy
            refine h.deep y ?_
            simp only [callArgs, hop, hcal, hcv]
            exact hy
    · rfl
  · rfl

theorem isYl_alike (h : Alike ops o s s') : isYl o s' = isYl o s := by
  unfold isYl
  split
  · rename_i c hop
    split
    · rename_i x hcal
      have hx : x ∈ o.op.operands := by
        rw [hop]
        simp [Op.operands, Call.operands, hcal]
      rw [h.ev hx]
    · rfl
  · rfl

theorem effY_alike (h : Alike ops o s s') : effY o s' = effY o s := by
  unfold effY
  split
  · rename_i c hop
    split
    · rename_i x hcal
      have hx : x ∈ o.op.operands := by
        rw [hop]
        simp [Op.operands, Call.operands, hcal]
      have hlo : ∀ n ∈ (SX.ev s x).nms, s'.lo[n]? = s.lo[n]? := fun n hn => h.look hx hn
      rw [h.ev hx, args_alike hop h]
      cases hv : SX.ev s x with
      | yld n =>
        have hy : isYl o s = true := by unfold isYl; simp only [hop, hcal, hv]
        rw [hv] at hlo
        simp only [hlo n (by simp [V.nms]), h.ys hy]
      | _ => rfl
    · rfl
  · rfl

theorem eff1_alike (h : Alike ops o s s') : eff1 P Γ nm o s' = eff1 P Γ nm o s := by
  unfold eff1
  rw [execV_alike h, effM_alike h, effX_alike h, isYl_alike h, effY_alike h]

theorem effG_alike (h : Alike ops o s s') : effG P Γ ops nm o s' = effG P Γ ops nm o s := by
  unfold effG effG0
  rw [eff1_alike h]
  cases hg : o.guard with
  | none => rfl
  | some q =>
    obtain ⟨j, want⟩ := q
    simp only
    cases hs : gslot ops j with
    | none => rfl
    | some g =>
      simp only
      rw [h.tm g (List.mem_append_right _ (by simp [hg, hs]))]

end
end Go.SX

/- Regions whose order is open: the text's order stands for all. -/
namespace Go.SX
open Go.RowKit
set_option linter.unusedVariables false
set_option linter.unusedSimpArgs false
set_option linter.unusedSectionVars false

def Upd.isY : Upd → Bool
  | .yl _ _ => true
  | _ => false

structure Rec where
  i : Nat
  o : Oper
  mn : List Nat
  wn : List Nat
  yl : Bool

def commR (ops : List Oper) (x y : Rec) : Bool :=
  (match x.o.dst with | some d => !(opTmps ops y.o).contains d && y.o.dst != some d | none => true) &&
  (match y.o.dst with | some d => !(opTmps ops x.o).contains d | none => true) &&
  (x.wn.all fun n => !y.mn.contains n && !y.wn.contains n) &&
  (y.wn.all fun n => !x.mn.contains n) && !(x.yl && y.yl)

def traceT (P : Program) (Γ : Gam) (ops : List Oper) (base : Nat) : List (Nat × Oper) → St → T (St × List Rec)
  | [], s => .leaf (s, [])
  | (i, o) :: l, s => (effG P Γ ops (base + i) o s).bind fun u => (traceT P Γ ops base l (u.ap o.dst s)).bind fun r => .leaf (r.1, ⟨i, o, opNms o s, u.wn, isYl o s⟩ :: r.2)

/-- Which operations stand ahead of each, whatever the order. -/
def depsE (acc : List Nat) : List Edge → Nat
  | [] => 0
  | e :: es => (if Region.binds .any e then (1 <<< e.on) ||| acc.getD e.on 0 else 0) ||| depsE acc es
def depsOf : List Oper → List Nat → List Nat
  | [], acc => acc
  | o :: l, acc => depsOf l (acc ++ [depsE acc o.after.toList])

def backB (ops : List Oper) : Bool := (ops.zipIdx).all fun (o, i) => o.after.toList.all fun e => !Region.binds .any e || decide (e.on < i)

def pairsB (ops : List Oper) (deps : List Nat) : List Rec → Bool
  | [] => true
  | x :: l => (l.all fun y => (deps.getD y.i 0).testBit x.i || commR ops x y) && pairsB ops deps l

def index : Nat → List Oper → List (Nat × Oper)
  | _, [] => []
  | i, o :: l => (i, o) :: index (i + 1) l

def padS (k : Nat) (s : St) : St := { s with lo := s.lo ++ List.replicate k none }

def T.allBad {α : Type} : T α → Bool
  | .leaf _ => false
  | .ite _ t e => t.allBad && e.allBad
  | .bad => true

/-- Does the tree come to a leaf? -/
def T.okB {α : Type} : T α → Bool
  | .leaf _ => true
  | .ite b t e => if t.noBad && e.noBad then true else bif b then t.okB else e.okB
  | .bad => false

def colT2 (i : Nat) : T St → V
  | .leaf s => s.tm.getD i .any
  | .ite b t e => if t.allBad then colT2 i e else if e.allBad then colT2 i t else mergeV b (colT2 i t) (colT2 i e)
  | .bad => .any

def mergeTm2 (ds : List Nat) (t : T St) : Nat → List V → List V
  | _, [] => []
  | i, v :: l => (if ds.contains i then colT2 i t else v) :: mergeTm2 ds t (i + 1) l

/-- The ways of a region that only reckons values, brought together. -/
def joinT (s : St) (ds : List Nat) (t : T St) : T St :=
  match t with
  | .leaf s' => .leaf s'
  | t => if t.noBad then .leaf { s with tm := mergeTm2 ds t 0 s.tm } else .ite t.okB (.leaf { s with tm := mergeTm2 ds t 0 s.tm }) .bad

def runD (P : Program) (Γ : Gam) (ops : List Oper) (s : St) : T St :=
  if P.follows .mixedOrders && backB ops then
    if ops.any hasGuard && ops.all (isV Γ) then
      joinT (padS ops.length s) (dsts ops) ((traceT P Γ ops s.lo.length (index 0 ops) (padS ops.length s)).bind fun r => if pairsB ops (depsOf ops []) r.2 && r.2.all (fun x => x.wn.isEmpty && !x.yl) then .leaf r.1 else .bad)
    else (traceT P Γ ops s.lo.length (index 0 ops) (padS ops.length s)).bind fun r => if pairsB ops (depsOf ops []) r.2 then .leaf r.1 else .bad
  else .bad

theorem allBad_pick {α : Type} : ∀ {t : T α}, t.allBad = true → t.pick = none
  | .leaf _, h => by cases h
  | .bad, _ => rfl
  | .ite b t e, h => by
    simp only [T.allBad, Bool.and_eq_true] at h
    simp only [T.pick, allBad_pick h.1, allBad_pick h.2]
    cases b <;> rfl

theorem noBad_pick {α : Type} : ∀ {t : T α}, t.noBad = true → ∃ x, t.pick = some x
  | .leaf x, _ => ⟨x, rfl⟩
  | .bad, h => by cases h
  | .ite b t e, h => by
    simp only [T.noBad, Bool.and_eq_true] at h
    obtain ⟨x, hx⟩ := noBad_pick h.1
    obtain ⟨y, hy⟩ := noBad_pick h.2
    cases b
    · exact ⟨y, by simpa [T.pick] using hy⟩
    · exact ⟨x, by simpa [T.pick] using hx⟩

theorem okB_pick {α : Type} : ∀ {t : T α}, t.okB = true → ∃ x, t.pick = some x
  | .leaf x, _ => ⟨x, rfl⟩
  | .bad, h => by cases h
  | .ite b t e, h => by
    simp only [T.okB] at h
    split at h
    · rename_i hc
      exact noBad_pick (t := .ite b t e) hc
    · cases b
      · obtain ⟨y, hy⟩ := okB_pick (t := e) h
        exact ⟨y, by simpa [T.pick] using hy⟩
      · obtain ⟨x, hx⟩ := okB_pick (t := t) h
        exact ⟨x, by simpa [T.pick] using hx⟩

theorem mergeTm2_get {ds : List Nat} {t : T St} : ∀ (l : List V) (i j : Nat) (v : V), (mergeTm2 ds t i l)[j]? = some v → (ds.contains (i + j) = true ∧ v = colT2 (i + j) t) ∨ (ds.contains (i + j) = false ∧ l[j]? = some v)
  | [], i, j, v, h => by simp [mergeTm2] at h
  | x :: l, i, 0, v, h => by
    simp only [mergeTm2, List.getElem?_cons_zero, Option.some.injEq] at h
    by_cases hc : ds.contains i = true
    · rw [if_pos hc] at h; exact .inl ⟨hc, h.symm⟩
    · rw [if_neg hc] at h; exact .inr ⟨by simpa using hc, by simp [h]⟩
  | x :: l, i, j + 1, v, h => by
    simp only [mergeTm2, List.getElem?_cons_succ] at h
    have := mergeTm2_get l (i + 1) j v h
    rw [show i + 1 + j = i + (j + 1) by omega] at this
    simpa using this

theorem mergeTm2_length {ds : List Nat} {t : T St} : ∀ (l : List V) (i : Nat), (mergeTm2 ds t i l).length = l.length
  | [], _ => rfl
  | x :: l, i => by simp [mergeTm2, mergeTm2_length l (i + 1)]

inductive Tr (P : Program) (Γ : Gam) (ops : List Oper) (base : Nat) : List (Nat × Oper) → St → St → List Rec → Prop
  | nil (s : St) : Tr P Γ ops base [] s s []
  | cons (i : Nat) (o : Oper) (l : List (Nat × Oper)) (s s' : St) (u : Upd) (rs : List Rec) (h : (effG P Γ ops (base + i) o s).pick = some u) (ht : Tr P Γ ops base l (u.ap o.dst s) s' rs) :
      Tr P Γ ops base ((i, o) :: l) s s' (⟨i, o, opNms o s, u.wn, isYl o s⟩ :: rs)

section
variable {P : Program} {Γ : Gam} {ops : List Oper} {base : Nat}

theorem tr_of_trace : ∀ {l : List (Nat × Oper)} {s s' : St} {rs : List Rec}, (traceT P Γ ops base l s).pick = some (s', rs) → Tr P Γ ops base l s s' rs
  | [], s, s', rs, h => by cases h; exact .nil _
  | (i, o) :: l, s, s', rs, h => by
    simp only [traceT] at h
    rw [T.pick_bind] at h
    obtain ⟨u, hu, h⟩ := h
    rw [T.pick_bind] at h
    obtain ⟨⟨s1, r1⟩, h1, h⟩ := h
    cases h
    exact .cons i o l s _ u r1 hu (tr_of_trace h1)

theorem ins_set {lo : List (Option Ob)} {n : Nat} (h : n < lo.length) (o : Ob) : ins lo n o = lo.set n (some o) := by
  unfold ins
  have : n + 1 - lo.length = 0 := by omega
  simp [this]

theorem putT_comm {tm : List V} {d d' : Option Nat} {v v' : V} (h : ∀ x, d = some x → d' ≠ some x) : putT (putT tm d v) d' v' = putT (putT tm d' v') d v := by
  cases d with
  | none => rfl
  | some x =>
    cases d' with
    | none => rfl
    | some y =>
      have hne : x ≠ y := fun e => h x rfl (by rw [e])
      simp only [putT]
      exact List.set_comm _ _ hne

/-- What an operation sets: its place's value; the resources, by name. -/
def Upd.vo : Upd → Option V
  | .val v => some v
  | .new n o => some (newV n o)
  | .set _ _ => none
  | .many v _ => some v
  | .yl v _ => some v
def Upd.yo : Upd → List (List V)
  | .yl _ args => [args]
  | _ => []
def Upd.wo : Upd → List (Nat × Ob)
  | .val _ => []
  | .new n o => [(n, o)]
  | .set n o => [(n, o)]
  | .many _ ws => ws
  | .yl _ _ => []
def putV (tm : List V) (d : Option Nat) : Option V → List V
  | some v => putT tm d v
  | none => tm
def setL : List (Nat × Ob) → List (Option Ob) → List (Option Ob)
  | [], lo => lo
  | (n, o) :: l, lo => setL l (lo.set n (some o))

theorem setL_length : ∀ (l : List (Nat × Ob)) (lo : List (Option Ob)), (setL l lo).length = lo.length
  | [], _ => rfl
  | (n, o) :: l, lo => by simp only [setL]; rw [setL_length l]; simp

theorem insL_set : ∀ (l : List (Nat × Ob)) (lo : List (Option Ob)), (∀ x ∈ l, x.1 < lo.length) → insL l lo = setL l lo
  | [], _, _ => rfl
  | (n, o) :: l, lo, h => by
    simp only [insL, setL]
    rw [ins_set (h (n, o) List.mem_cons_self), insL_set l _ fun x hx => by simpa using h x (List.mem_cons_of_mem _ hx)]

theorem wn_wo (u : Upd) : u.wn = u.wo.map (·.1) := by cases u <;> rfl

theorem ap_eq {u : Upd} {d : Option Nat} {s : St} (hn : ∀ n ∈ u.wn, n < s.lo.length) : u.ap d s = { s with tm := putV s.tm d u.vo, lo := setL u.wo s.lo, ys := s.ys ++ u.yo } := by
  cases u with
  | val v => simp [Upd.ap, Upd.vo, Upd.wo, Upd.yo, setL, putV]
  | new n o => simp [Upd.ap, Upd.vo, Upd.wo, Upd.yo, setL, putV, ins_set (hn n (by simp [Upd.wn]))]
  | set n o => simp [Upd.ap, Upd.vo, Upd.wo, Upd.yo, setL, putV]
  | many v ws =>
    simp only [Upd.ap, Upd.vo, Upd.wo, Upd.yo, putV, List.append_nil]
    rw [insL_set ws _ fun x hx => hn x.1 (by simp only [Upd.wn, List.mem_map]; exact ⟨x, hx, rfl⟩)]
  | yl v args => simp [Upd.ap, Upd.vo, Upd.wo, Upd.yo, setL, putV]

theorem setL_other : ∀ (l : List (Nat × Ob)) (lo : List (Option Ob)) (n : Nat), n ∉ l.map (·.1) → (setL l lo)[n]? = lo[n]?
  | [], _, _, _ => rfl
  | (m, o) :: l, lo, n, h => by
    simp only [List.map_cons, List.mem_cons, not_or] at h
    simp only [setL]
    rw [setL_other l _ n h.2, List.getElem?_set_ne (fun e => h.1 e.symm)]

theorem setL_set : ∀ (l : List (Nat × Ob)) (lo : List (Option Ob)) (n : Nat) (o : Ob), n ∉ l.map (·.1) → setL l (lo.set n (some o)) = (setL l lo).set n (some o)
  | [], _, _, _, _ => rfl
  | (m, o') :: l, lo, n, o, h => by
    simp only [List.map_cons, List.mem_cons, not_or] at h
    simp only [setL]
    rw [List.set_comm _ _ h.1, setL_set l _ n o h.2]

theorem setL_comm : ∀ (l l' : List (Nat × Ob)) (lo : List (Option Ob)), (∀ n, n ∈ l.map (·.1) → n ∉ l'.map (·.1)) → setL l' (setL l lo) = setL l (setL l' lo)
  | [], l', lo, _ => rfl
  | (m, o) :: l, l', lo, h => by
    simp only [setL]
    rw [setL_comm l l' _ fun n hn => h n (List.mem_cons_of_mem _ hn), setL_set l' _ m o (h m List.mem_cons_self)]

theorem putV_comm {tm : List V} {d d' : Option Nat} {v v' : Option V} (h : ∀ x, d = some x → d' ≠ some x) : putV (putV tm d v) d' v' = putV (putV tm d' v') d v := by
  cases v <;> cases v' <;> simp only [putV]
  exact putT_comm h

theorem ap_length {u : Upd} {d : Option Nat} {s : St} (hn : ∀ n ∈ u.wn, n < s.lo.length) : (u.ap d s).lo.length = s.lo.length := by
  rw [ap_eq hn]
  exact setL_length _ _

theorem ap_comm {u u' : Upd} {d d' : Option Nat} {s : St} (hd : ∀ x, d = some x → d' ≠ some x) (hn : ∀ n ∈ u.wn, n ∉ u'.wn)
    (h1 : ∀ n ∈ u.wn, n < s.lo.length) (h2 : ∀ n ∈ u'.wn, n < s.lo.length) (hy : (u.isY && u'.isY) = false) : u'.ap d' (u.ap d s) = u.ap d (u'.ap d' s) := by
  rw [ap_eq (u := u') (s := u.ap d s) (by rw [ap_length h1]; exact h2), ap_eq (u := u) (s := u'.ap d' s) (by rw [ap_length h2]; exact h1), ap_eq h1, ap_eq h2]
  simp only
  rw [putV_comm hd, setL_comm _ _ _ (by rw [← wn_wo, ← wn_wo]; exact hn)]
  congr 1
  cases u <;> cases u' <;> simp [Upd.isY] at hy <;> simp [Upd.yo]

theorem ap_ys {u : Upd} {d : Option Nat} {s : St} (h : u.isY = false) : (u.ap d s).ys = s.ys := by
  cases u <;> simp [Upd.isY] at h <;> rfl

theorem ap_tm {u : Upd} {d : Option Nat} {s : St} {t : Nat} (h : d ≠ some t) : (u.ap d s).tm.getD t .any = s.tm.getD t .any := by
  have : ∀ v, (putT s.tm d v).getD t .any = s.tm.getD t .any := fun v => by
    cases d with
    | none => rfl
    | some x =>
      have hne : x ≠ t := fun e => h (by rw [e])
      simp [putT, List.getD_eq_getElem?_getD, List.getElem?_set_ne hne]
  cases u with
  | val v => exact this v
  | new n o => exact this _
  | set n o => rfl
  | many v ws => exact this v
  | yl v args => exact this v

theorem ap_lo {u : Upd} {d : Option Nat} {s : St} {n : Nat} (h : n ∉ u.wn) (hr : ∀ n ∈ u.wn, n < s.lo.length) : (u.ap d s).lo[n]? = s.lo[n]? := by
  rw [ap_eq hr]
  exact setL_other _ _ _ (by rw [← wn_wo]; exact h)

theorem effX_wn {nm : Nat} {o : Oper} {s : St} {u : Upd} (h : (effX P Γ nm o s).pick = some u) (n : Nat) (hn : n ∈ u.wn) : n = nm ∨ ∃ ob, s.lo[n]? = some (some ob) := by
  have hx : ∀ {n' : Nat} {x : XOut} {u : Upd}, (xOut n' nm x).pick = some u → ∀ n ∈ u.wn, n = nm ∨ n = n' ∧ x.lent.isSome := fun {n' x u} h n hn => by
    unfold xOut at h
    split at h
    · cases h
      simp only [Upd.wn, List.map_append, List.mem_append] at hn
      rcases hn with hn | hn
      · cases hl : x.lent with
        | none => simp [hl, optW] at hn
        | some o => simp [hl, optW] at hn; exact .inr ⟨hn, rfl⟩
      · cases hl : x.new with
        | none => simp [hl, optW] at hn
        | some o => simp [hl, optW] at hn; exact .inl hn
    · simp [T.pick] at h
  unfold effX at h
  split at h
  · rename_i c hop
    split at h
    · split at h
      · unfold appE at h
        split at h
        · split at h
          · rename_i n' t ks len get ks' m g el sz by_ hev hvec hy hei
            split at h
            · simp only [T.pick] at h
              cases hb : roomB len m by_ with
              | false => simp [hb] at h
              | true =>
                simp only [hb, cond_true, Option.some.injEq] at h
                subst h
                simp [Upd.wn] at hn
                rcases hn with rfl | rfl
                · rw [hev] at hvec
                  simp only [vecOf] at hvec
                  split at hvec
                  · rename_i hh
                    exact .inr ⟨_, hh⟩
                  · cases hvec
                · exact .inl rfl
            · simp [T.pick] at h
          · rename_i ks m g el sz by_ _ _ _
            split at h
            · simp only [T.pick] at h
              cases hb : roomB 0 m by_ with
              | false => simp [hb] at h
              | true =>
                simp only [hb, cond_true, Option.some.injEq] at h
                subst h
                simp [Upd.wn] at hn
                exact .inl hn
            · simp [T.pick] at h
          · simp [T.pick] at h
        · simp [T.pick] at h
      · simp [T.pick] at h
    · split at h
      · split at h
        · unfold xcall at h
          split at h
          · split at h
            · rename_i n' rest
              split at h
              · rename_i t cs hlo
                split at h
                · rw [T.pick_bind] at h
                  obtain ⟨x, _, h⟩ := h
                  rcases hx h n hn with e | ⟨e, _⟩
                  · exact .inl e
                  · subst e; exact .inr ⟨_, hlo⟩
                · simp [T.pick] at h
              · simp [T.pick] at h
            · simp [T.pick] at h
          · split at h
            · rw [T.pick_bind] at h
              obtain ⟨x, _, h⟩ := h
              rcases hx h n hn with e | ⟨e, _⟩
              · exact .inl e
              · exact .inl e
            · split at h
              · rw [T.pick_bind] at h
                obtain ⟨x, _, h⟩ := h
                split at h
                · rcases hx h n hn with e | ⟨e, _⟩
                  · exact .inl e
                  · exact .inl e
                · simp [T.pick] at h
              · simp [T.pick] at h
        · simp [T.pick] at h
      · simp [T.pick] at h
    · simp [T.pick] at h
  · simp [T.pick] at h

theorem eff_wn {nm : Nat} {o : Oper} {s : St} {u : Upd} (h : (effG P Γ ops nm o s).pick = some u) (n : Nat) (hn : n ∈ u.wn) : n = nm ∨ ∃ ob, s.lo[n]? = some (some ob) := by
  have h1 : ∀ {u : Upd}, (eff1 P Γ nm o s).pick = some u → ∀ n ∈ u.wn, n = nm ∨ ∃ ob, s.lo[n]? = some (some ob) := fun {u} h n hn => by
    unfold eff1 at h
    split at h
    · rw [T.pick_bind] at h
      obtain ⟨v, _, h⟩ := h
      cases h
      cases hn
    · split at h
      · rename_i u' h'
        cases h
        unfold effM at h'
        split at h'
        · split at h' <;> cases h'; simp [Upd.wn] at hn; exact .inl hn
        · split at h' <;> cases h'; simp [Upd.wn] at hn; exact .inl hn
        · split at h'
          · split at h'
            · rename_i ty cs hcs
              split at h' <;> cases h'
              simp [Upd.wn] at hn
              subst hn
              exact .inr ⟨_, hcs⟩
            · cases h'
          · cases h'
        · split at h'
          · split at h'
            · split at h' <;> cases h'
              simp [Upd.wn] at hn
              exact .inl hn
            · cases h'
          · cases h'
        · split at h'
          · split at h'
            · rename_i h6 _
              split at h' <;> cases h'
              simp [Upd.wn] at hn
              subst hn
              exact .inr ⟨_, h6⟩
            · cases h'
          · cases h'
        · cases h'
      · split at h
        · split at h
          · exfalso
            have hY : u.wn = [] := by
              unfold effY at h
              split at h
              · split at h
                · split at h
                  · split at h
                    · split at h
                      · simp only [T.pick] at h
                        rename_i adm _ _
                        generalize (adm s.ys _) = b at h
                        cases b <;> simp at h
                        subst h; rfl
                      · simp [T.pick] at h
                    · simp [T.pick] at h
                  · simp [T.pick] at h
                · simp [T.pick] at h
              · simp [T.pick] at h
            rw [hY] at hn; cases hn
          · exact effX_wn h n hn
        · simp [T.pick] at h
  unfold effG at h
  rw [T.pick_bind] at h
  obtain ⟨u0, h, hsp⟩ := h
  have hn0 : n ∈ u0.wn := by
    rcases splitU_pick hsp with rfl | ⟨b, d, _, rfl, rfl⟩
    · exact hn
    · cases hn
  clear hsp hn
  revert h
  generalize hu : u0 = u1 at hn0
  clear hu u0
  intro h
  have hn := hn0
  unfold effG0 at h
  split at h
  · exact h1 h n hn
  · split at h
    · simp [T.pick] at h
    · split at h
      · split at h
        · exact h1 h n hn
        · cases h; cases hn
      · cases h; cases hn
      · split at h
        · simp only [T.pick] at h
          have h2 : ∀ (c : Prop) [Decidable c] (t1 t2 : T Upd), (t1 = eff1 P Γ nm o s ∨ t1 = .leaf (.val undV)) → (t2 = eff1 P Γ nm o s ∨ t2 = .leaf (.val undV)) → (if c then t1 else t2).pick = some u1 → n = nm ∨ ∃ ob, s.lo[n]? = some (some ob) := by
            intro c _ t1 t2 e1 e2 h
            split at h
            · rcases e1 with rfl | rfl
              · exact h1 h n hn
              · cases h; cases hn
            · rcases e2 with rfl | rfl
              · exact h1 h n hn
              · cases h; cases hn
          rename_i b _
          cases b
          · exact h2 _ _ _ (.inr rfl) (.inl rfl) h
          · exact h2 _ _ _ (.inl rfl) (.inr rfl) h
        · simp [T.pick] at h

theorem effX_noY {nm : Nat} {o : Oper} {s : St} {u : Upd} (h : (effX P Γ nm o s).pick = some u) : u.isY = false := by
  have hx : ∀ {n' : Nat} {x : XOut} {u : Upd}, (xOut n' nm x).pick = some u → u.isY = false := fun {n' x u} h => by
    unfold xOut at h
    split at h
    · cases h; rfl
    · simp [T.pick] at h
  unfold effX at h
  split at h
  · split at h
    · split at h
      · unfold appE at h
        split at h
        · split at h
          · rename_i len _ m _ _ _ by_ _ _ _ _
            split at h
            · simp only [T.pick] at h
              generalize roomB _ _ _ = b at h
              cases b <;> simp at h
              subst h; rfl
            · simp [T.pick] at h
          · split at h
            · simp only [T.pick] at h
              generalize roomB _ _ _ = b at h
              cases b <;> simp at h
              subst h; rfl
            · simp [T.pick] at h
          · simp [T.pick] at h
        · simp [T.pick] at h
      · simp [T.pick] at h
    · split at h
      · split at h
        · unfold xcall at h
          split at h
          · split at h
            · split at h
              · split at h
                · rw [T.pick_bind] at h
                  obtain ⟨x, _, h⟩ := h
                  exact hx h
                · simp [T.pick] at h
              · simp [T.pick] at h
            · simp [T.pick] at h
          · split at h
            · rw [T.pick_bind] at h
              obtain ⟨x, _, h⟩ := h
              exact hx h
            · split at h
              · rw [T.pick_bind] at h
                obtain ⟨x, _, h⟩ := h
                split at h
                · exact hx h
                · simp [T.pick] at h
              · simp [T.pick] at h
        · simp [T.pick] at h
      · simp [T.pick] at h
    · simp [T.pick] at h
  · simp [T.pick] at h

theorem eff_isY {nm : Nat} {o : Oper} {s : St} {u : Upd} (h : (effG P Γ ops nm o s).pick = some u) (hu : u.isY = true) : isYl o s = true := by
  have h1 : ∀ {u : Upd}, (eff1 P Γ nm o s).pick = some u → u.isY = true → isYl o s = true := fun {u} h hn => by
    unfold eff1 at h
    split at h
    · rw [T.pick_bind] at h
      obtain ⟨v, _, h⟩ := h
      cases h
      cases hn
    · split at h
      · rename_i u' h'
        cases h
        unfold effM at h'
        split at h'
        · split at h' <;> cases h'; cases hn
        · split at h' <;> cases h'; cases hn
        · split at h'
          · split at h'
            · split at h' <;> cases h'; cases hn
            · cases h'
          · cases h'
        · split at h'
          · split at h'
            · split at h' <;> cases h'; cases hn
            · cases h'
          · cases h'
        · split at h'
          · split at h'
            · split at h' <;> cases h'; cases hn
            · cases h'
          · cases h'
        · cases h'
      · split at h
        · split at h
          · assumption
          · rw [effX_noY h] at hn; cases hn
        · simp [T.pick] at h
  unfold effG at h
  rw [T.pick_bind] at h
  obtain ⟨u0, h, hsp⟩ := h
  have hn : u0.isY = true := by
    rcases splitU_pick hsp with rfl | ⟨b, d, _, rfl, rfl⟩
    · exact hu
    · cases hu
  clear hsp hu
  unfold effG0 at h
  split at h
  · exact h1 h hn
  · split at h
    · simp [T.pick] at h
    · split at h
      · split at h
        · exact h1 h hn
        · cases h; cases hn
      · cases h; cases hn
      · split at h
        · simp only [T.pick] at h
          have h2 : ∀ (c : Prop) [Decidable c] (t1 t2 : T Upd), (t1 = eff1 P Γ nm o s ∨ t1 = .leaf (.val undV)) → (t2 = eff1 P Γ nm o s ∨ t2 = .leaf (.val undV)) → (if c then t1 else t2).pick = some u0 → isYl o s = true := by
            intro c _ t1 t2 e1 e2 h
            split at h
            · rcases e1 with rfl | rfl
              · exact h1 h hn
              · cases h; cases hn
            · rcases e2 with rfl | rfl
              · exact h1 h hn
              · cases h; cases hn
          rename_i b _
          cases b
          · exact h2 _ _ _ (.inr rfl) (.inl rfl) h
          · exact h2 _ _ _ (.inl rfl) (.inr rfl) h
        · simp [T.pick] at h

/-- Where only values were reckoned, nothing else has turned. -/
theorem tr_vals : ∀ {l : List (Nat × Oper)} {s s' : St} {rs : List Rec}, Tr P Γ ops base l s s' rs → rs.all (fun x => x.wn.isEmpty && !x.yl) = true → s' = { s with tm := s'.tm } ∧ s'.tm.length = s.tm.length ∧ ∀ j, (dsts (l.map (·.2))).contains j = false → s'.tm[j]? = s.tm[j]?
  | _, _, _, _, .nil s, _ => ⟨rfl, rfl, fun _ _ => rfl⟩
  | _, _, _, _, .cons i o l s s' u rs hu ht, hr => by
    simp only [List.all_cons, Bool.and_eq_true] at hr
    have hyn : isYl o s = false := by simpa using hr.1.2
    have hr : u.wn.isEmpty = true ∧ _ := ⟨hr.1.1, hr.2⟩
    obtain ⟨e1, e2, e3⟩ := tr_vals ht hr.2
    cases u with
    | val v =>
      have hap : (Upd.val v).ap o.dst s = { s with tm := putT s.tm o.dst v } := rfl
      rw [hap] at e1 e2 e3
      refine ⟨e1, ?_, fun j hj => ?_⟩
      · rw [e2]
        cases o.dst <;> simp [putT]
      · have hj' : (dsts (l.map (·.2))).contains j = false ∧ o.dst ≠ some j := by
          simp only [dsts, List.map_cons, List.filterMap_cons] at hj ⊢
          cases hd : o.dst with
          | none => rw [hd] at hj; exact ⟨hj, by simp⟩
          | some d =>
            rw [hd] at hj
            simp only [List.contains_cons, Bool.or_eq_false_iff, beq_eq_false_iff_ne] at hj
            exact ⟨hj.2, fun e => hj.1 (Option.some.inj e).symm⟩
        rw [e3 j hj'.1]
        cases hd : o.dst with
        | none => rfl
        | some d =>
          have : d ≠ j := fun e => hj'.2 (by rw [hd, e])
          simp [putT, List.getElem?_set_ne this]
    | new n o => simp [Upd.wn] at hr
    | set n o => simp [Upd.wn] at hr
    | many v ws =>
      cases ws with
      | nil =>
        have hap : (Upd.many v []).ap o.dst s = { s with tm := putT s.tm o.dst v } := rfl
        rw [hap] at e1 e2 e3
        refine ⟨e1, ?_, fun j hj => ?_⟩
        · rw [e2]
          cases o.dst <;> simp [putT]
        · have hj' : (dsts (l.map (·.2))).contains j = false ∧ o.dst ≠ some j := by
            simp only [dsts, List.map_cons, List.filterMap_cons] at hj ⊢
            cases hd : o.dst with
            | none => rw [hd] at hj; exact ⟨hj, by simp⟩
            | some d =>
              rw [hd] at hj
              simp only [List.contains_cons, Bool.or_eq_false_iff, beq_eq_false_iff_ne] at hj
              exact ⟨hj.2, fun e => hj.1 (Option.some.inj e).symm⟩
          rw [e3 j hj'.1]
          cases hd : o.dst with
          | none => rfl
          | some d =>
            have : d ≠ j := fun e => hj'.2 (by rw [hd, e])
            simp [putT, List.getElem?_set_ne this]
      | cons w ws => simp [Upd.wn] at hr
    | yl v args => rw [eff_isY hu rfl] at hyn; cases hyn

theorem tr_swap {i j : Nat} {x y : Oper} {l : List (Nat × Oper)} {s s' : St} {rx ry : Rec} {rs : List Rec} (h : Tr P Γ ops base ((j, y) :: (i, x) :: l) s s' (ry :: rx :: rs)) (hc : commR ops ry rx = true)
    (hi : base + i < s.lo.length) (hj : base + j < s.lo.length) : Tr P Γ ops base ((i, x) :: (j, y) :: l) s s' (rx :: ry :: rs) := by
  cases h with
  | cons _ _ _ _ _ uy _ hy ht =>
    cases ht with
    | cons _ _ _ _ _ ux _ hx ht =>
      have lt1 : ∀ n ∈ uy.wn, n < s.lo.length := fun n hn => by
        rcases eff_wn hy n hn with rfl | ⟨ob, ho⟩
        · exact hj
        · exact (List.getElem?_eq_some_iff.1 ho).1
      have hl1 := ap_length (d := y.dst) lt1
      have lt2 : ∀ n ∈ ux.wn, n < s.lo.length := fun n hn => by
        rcases eff_wn hx n hn with rfl | ⟨ob, ho⟩
        · exact hi
        · rw [← hl1]; exact (List.getElem?_eq_some_iff.1 ho).1
      simp only [commR, Bool.and_eq_true] at hc
      obtain ⟨⟨⟨⟨c1, c2⟩, c3⟩, c4⟩, c5⟩ := hc
      have hyc : ¬ (isYl y s = true ∧ isYl x (uy.ap y.dst s) = true) := fun hh => by simp [hh.1, hh.2] at c5
      have hyy : (uy.isY && ux.isY) = false := by
        cases h1 : uy.isY with
        | false => rfl
        | true =>
          cases h2 : ux.isY with
          | false => rfl
          | true => exact absurd ⟨eff_isY hy h1, eff_isY hx h2⟩ hyc
      have hd1 : ∀ t, y.dst = some t → t ∉ opTmps ops x ∧ x.dst ≠ some t := fun t ht => by
        simp only [ht, Bool.and_eq_true, Bool.not_eq_true', bne_iff_ne, ne_eq] at c1
        exact ⟨by simpa using c1.1, c1.2⟩
      have hd2 : ∀ t, x.dst = some t → t ∉ opTmps ops y := fun t ht => by
        simp only [ht, Bool.not_eq_true'] at c2
        simpa using c2
      have hn1 : ∀ n ∈ uy.wn, n ∉ opNms x (uy.ap y.dst s) ∧ n ∉ ux.wn := fun n hn => by
        have := List.all_eq_true.1 c3 n hn
        simp only [Bool.and_eq_true, Bool.not_eq_true'] at this
        exact ⟨by simpa using this.1, by simpa using this.2⟩
      have hn2 : ∀ n ∈ ux.wn, n ∉ opNms y s := fun n hn => by
        have := List.all_eq_true.1 c4 n hn
        simpa using this
      -- x, ahead of y
      have ax : Alike ops x (uy.ap y.dst s) s := ⟨fun t ht => (ap_tm (fun e => (hd1 t e).1 ht)).symm, fun n hn => (ap_lo (fun e => (hn1 n e).1 hn) lt1).symm, fun hh => (ap_ys (by
        cases h1 : uy.isY with
        | false => rfl
        | true => exact absurd ⟨eff_isY hy h1, hh⟩ hyc)).symm⟩
      have ex : effG P Γ ops (base + i) x s = effG P Γ ops (base + i) x (uy.ap y.dst s) := effG_alike ax
      have nx : opNms x s = opNms x (uy.ap y.dst s) := ax.nms
      have ay : Alike ops y s (ux.ap x.dst s) := ⟨fun t ht => ap_tm (fun e => hd2 t e ht), fun n hn => ap_lo (fun e => hn2 n e hn) lt2, fun hh => ap_ys (by
        cases h1 : ux.isY with
        | false => rfl
        | true => exact absurd ⟨hh, eff_isY hx h1⟩ hyc)⟩
      have ey : effG P Γ ops (base + j) y (ux.ap x.dst s) = effG P Γ ops (base + j) y s := effG_alike ay
      have ny : opNms y (ux.ap x.dst s) = opNms y s := ay.nms
      have hcomm : uy.ap y.dst (ux.ap x.dst s) = ux.ap x.dst (uy.ap y.dst s) :=
        ap_comm (fun t e e' => (hd1 t e').2 e) (fun n e e' => (hn1 n e').2 e) lt2 lt1 (by rw [Bool.and_comm]; exact hyy)
      rw [← nx, ← ny, ← isYl_alike ax, ← isYl_alike ay]
      refine .cons i x _ s s' ux _ (by rw [ex]; exact hx) (.cons j y _ _ s' uy _ (by rw [ey]; exact hy) ?_)
      rw [hcomm]
      exact ht

theorem tr_bubble : ∀ {l1 : List (Nat × Oper)} {i : Nat} {x : Oper} {l2 : List (Nat × Oper)} {s s' : St} {rs : List Rec}, Tr P Γ ops base (l1 ++ (i, x) :: l2) s s' rs →
    (∀ p ∈ l1 ++ (i, x) :: l2, base + p.1 < s.lo.length) →
    ∃ r1 rx r2, rs = r1 ++ rx :: r2 ∧ r1.map (·.i) = l1.map (·.1) ∧ rx.i = i ∧ ((∀ y ∈ r1, commR ops y rx = true) → Tr P Γ ops base ((i, x) :: (l1 ++ l2)) s s' (rx :: (r1 ++ r2)))
  | [], i, x, l2, s, s', rs, h, hl => by
    cases h with
    | cons _ _ _ _ _ u rs hu ht => exact ⟨[], _, rs, rfl, rfl, rfl, fun _ => .cons i x l2 s s' u rs hu ht⟩
  | (j, y) :: l1, i, x, l2, s, s', rs, h, hl => by
    cases h with
    | cons _ _ _ _ _ u rs hu ht =>
      have lt1 : ∀ n ∈ u.wn, n < s.lo.length := fun n hn => by
        rcases eff_wn hu n hn with rfl | ⟨ob, ho⟩
        · exact hl (j, y) (by simp)
        · exact (List.getElem?_eq_some_iff.1 ho).1
      obtain ⟨r1, rx, r2, rfl, h1, h2, h3⟩ := tr_bubble ht (fun p hp => by rw [ap_length lt1]; exact hl p (by simp at hp ⊢; right; exact hp))
      refine ⟨⟨j, y, opNms y s, u.wn, isYl y s⟩ :: r1, rx, r2, rfl, by simp [h1], h2, fun hc => ?_⟩
      have := h3 (fun z hz => hc z (by simp [hz]))
      exact tr_swap (.cons j y _ s s' u _ hu this) (hc _ (by simp)) (hl (i, x) (by simp)) (hl (j, y) (by simp))

theorem tr_is : ∀ {l : List (Nat × Oper)} {s s' : St} {rs : List Rec}, Tr P Γ ops base l s s' rs → rs.map (·.i) = l.map (·.1)
  | _, _, _, _, .nil _ => rfl
  | _, _, _, _, .cons i o l s s' u rs h ht => by simp [tr_is ht]

end
end Go.SX

/- Regions whose order is open: any order comes to where the text's comes. -/
namespace Go.SX
open Go.RowKit
set_option linter.unusedVariables false
set_option linter.unusedSimpArgs false
set_option linter.unusedSectionVars false

section
variable [GW] {P : Program} {J : Jt P} {Am Mi : Nat → Prop} {w0 w : World} {s : St} {θ : Th} {a : Act} {Γ : Gam} {r : Option Nat} {n : Nat} {o : Oper} {K : Act → World → Prop} {Q : Exit → Act → World → Prop} {ops : List Oper} {base : Nat}

theorem effG0_wp (hΓ : GOK P Γ) (h : Rep J Am Mi w0 s θ a w) {nm : Nat} (hn : Fresh s nm) {u : Upd} (he : (effG0 P Γ ops nm o s).pick = some u)
    (hK : ∀ (Am' : Nat → Prop) θ' a' w', (∀ b, Am b → Am' b) → Rep J Am' Mi w0 (u.ap o.dst s) θ' a' w' → K a' w') : wpOne r n P ops.toArray Q o a w K := by
  unfold effG0 at he
  unfold wpOne
  split at he
  · rename_i hg
    rw [if_pos (wanted_none hg)]
    exact step1_wp hΓ h hn (step1_eff he) hK
  · rename_i j want hg
    split at he
    · simp [T.pick] at he
    · rename_i g hgs
      have hsk : (T.leaf (Upd.val undV)).pick = some u → K (a.put o.dst undef) w := fun e => by
        cases e
        exact hK Am _ _ _ (fun _ x => x) h.skip
      have hslot : ∀ b, (s.tm.getD g .any).bool? = some b → a.tmps[g]? = some (.bool b) := fun b hb => by
        have hlt : g < s.tm.length := by
          rcases Nat.lt_or_ge g s.tm.length with h' | h'
          · exact h'
          · simp [List.getD_eq_getElem?_getD, List.getElem?_eq_none h', V.bool?] at hb
        exact h.slotBool (b := b) (List.getElem?_eq_getElem hlt) (by simpa [List.getD_eq_getElem?_getD, hlt] using hb)
      split at he
      · rename_i b hb
        have hbv := hslot b (by rw [hb]; rfl)
        rw [wanted_some hg hgs hbv]
        split at he
        · rename_i hbw
          subst hbw
          rw [if_pos (by simp)]
          exact step1_wp hΓ h hn (step1_eff he) hK
        · rename_i hbw
          rw [if_neg (by simpa using hbw)]
          exact hsk he
      · rename_i x hb
        have hlt : g < s.tm.length := by
          rcases Nat.lt_or_ge g s.tm.length with h' | h'
          · exact h'
          · simp [List.getD_eq_getElem?_getD, List.getElem?_eq_none h'] at hb
        have hu := h.slotUnd (g := g) (x := x) (by rw [List.getElem?_eq_getElem hlt]; simpa [List.getD_eq_getElem?_getD, hlt] using hb)
        rw [wanted_und hg hgs hu, if_neg (by simp)]
        exact hsk he
      · split at he
        · rename_i b hb
          have hbv := hslot b hb
          rw [wanted_some hg hgs hbv]
          simp only [T.pick] at he
          cases b <;> cases want <;> simp only [cond_true, cond_false, if_true, if_false, Bool.false_eq_true] at he
          · rw [if_pos (by rfl)]; exact step1_wp hΓ h hn (step1_eff he) hK
          · rw [if_neg (by simp)]; exact hsk he
          · rw [if_neg (by simp)]; exact hsk he
          · rw [if_pos (by rfl)]; exact step1_wp hΓ h hn (step1_eff he) hK
        · simp [T.pick] at he

theorem effG_wp (hΓ : GOK P Γ) (h : Rep J Am Mi w0 s θ a w) {nm : Nat} (hn : Fresh s nm) {u : Upd} (he : (effG P Γ ops nm o s).pick = some u)
    (hK : ∀ (Am' : Nat → Prop) θ' a' w', (∀ b, Am b → Am' b) → Rep J Am' Mi w0 (u.ap o.dst s) θ' a' w' → K a' w') : wpOne r n P ops.toArray Q o a w K := by
  unfold effG at he
  rw [T.pick_bind] at he
  obtain ⟨u0, h0, h1⟩ := he
  refine effG0_wp hΓ h hn h0 fun Am' θ' a' w' hup hR => hK Am' θ' a' w' hup ?_
  rcases splitU_pick h1 with rfl | ⟨b, d, hd, rfl, rfl⟩
  · exact hR
  · rw [hd] at hR ⊢
    simp only [Upd.ap, putT] at hR ⊢
    rcases Nat.lt_or_ge d s.tm.length with hlt | hge
    · have hs : a'.tmps[d]? = some (.bool b) := hR.slotBool (g := d) (v := .q (.c (.bool b))) (b := b) (by simp [hlt]) rfl
      have := hR.retm d (v := .kb b) hs (.kb b)
      simpa using this
    · rw [List.set_eq_of_length_le hge] at hR ⊢
      exact hR

theorem depsE_spec (acc : List Nat) : ∀ (es : List Edge) (j : Nat), (depsE acc es).testBit j = true → ∃ e ∈ es, Region.binds .any e = true ∧ (j = e.on ∨ (acc.getD e.on 0).testBit j = true)
  | [], j, h => by simp [depsE] at h
  | e :: es, j, h => by
    simp only [depsE, Nat.testBit_or, Bool.or_eq_true] at h
    rcases h with h | h
    · split at h
      · rename_i hb
        rw [Nat.testBit_or, Bool.or_eq_true] at h
        refine ⟨e, List.mem_cons_self, hb, ?_⟩
        rcases h with h | h
        · left
          rw [Nat.one_shiftLeft, Nat.testBit_two_pow] at h
          exact (of_decide_eq_true h).symm
        · exact .inr h
      · simp at h
    · obtain ⟨e', he', hb, hj⟩ := depsE_spec acc es j h
      exact ⟨e', List.mem_cons_of_mem _ he', hb, hj⟩

theorem depsOf_spec : ∀ (l : List Oper) (acc : List Nat),
    (∀ i, i < acc.length → (depsOf l acc).getD i 0 = acc.getD i 0) ∧
    (∀ (k : Nat) o, l[k]? = some o → ∀ j, ((depsOf l acc).getD (acc.length + k) 0).testBit j = true → ∃ e ∈ o.after.toList, Region.binds .any e = true ∧ (j = e.on ∨ ((depsOf l acc).getD e.on 0).testBit j = true))
  | [], acc => ⟨fun _ _ => rfl, fun k o h => by simp at h⟩
  | o :: l, acc => by
    have ih := depsOf_spec l (acc ++ [depsE acc o.after.toList])
    simp only [depsOf]
    refine ⟨fun i hi => ?_, fun k x hk j hj => ?_⟩
    · rw [ih.1 i (by simp; omega)]
      simp [List.getD_eq_getElem?_getD, List.getElem?_append, hi]
    · cases k with
      | zero =>
        simp only [List.getElem?_cons_zero, Option.some.injEq] at hk
        subst hk
        rw [Nat.add_zero, ih.1 acc.length (by simp)] at hj
        simp only [List.getD_eq_getElem?_getD, List.getElem?_append_right (Nat.le_refl _), Nat.sub_self, List.getElem?_cons_zero, Option.getD_some] at hj
        obtain ⟨e, he, hb, hj⟩ := depsE_spec acc _ j hj
        refine ⟨e, he, hb, hj.imp id fun hm => ?_⟩
        have hlt : e.on < acc.length := by
          rcases Nat.lt_or_ge e.on acc.length with h' | h'
          · exact h'
          · simp [List.getD_eq_getElem?_getD, List.getElem?_eq_none h'] at hm
        rw [ih.1 e.on (by simp; omega)]
        have : (acc ++ [depsE acc o.after.toList]).getD e.on 0 = acc.getD e.on 0 := by
          simp [List.getD_eq_getElem?_getD, List.getElem?_append, hlt]
        rw [this]
        exact hm
      | succ k =>
        simp only [List.getElem?_cons_succ] at hk
        exact ih.2 k x hk j (by simpa [Nat.add_assoc, Nat.add_comm 1 k] using hj)

theorem backB_spec (h : backB ops = true) {i : Nat} {o : Oper} (ho : ops[i]? = some o) {e : Edge} (he : e ∈ o.after.toList) (hb : Region.binds .any e = true) : e.on < i := by
  unfold backB at h
  rw [List.all_eq_true] at h
  have hm : (o, i) ∈ ops.zipIdx := List.mem_zipIdx_iff_getElem?.2 ho
  have := h _ hm
  simp only [List.all_eq_true] at this
  have := this e he
  simpa [hb] using this

/-- Whatever stands ahead of what is listed is listed. -/
theorem closed_deps (hbk : backB ops = true) {listed : Array Bool} (hc : ∀ (k : Nat) o, ops[k]? = some o → listed.getD k false = true → ∀ e ∈ o.after.toList, Region.binds .any e = true → listed.getD e.on false = true) :
    ∀ (k : Nat) o, ops[k]? = some o → listed.getD k false = true → ∀ j, ((depsOf ops []).getD k 0).testBit j = true → listed.getD j false = true := by
  intro k
  induction k using Nat.strongRecOn with
  | _ k ih =>
    intro o ho hl j hj
    obtain ⟨e, he, hb, h⟩ := (depsOf_spec ops []).2 k o ho j (by simpa using hj)
    have hle := hc k o ho hl e he hb
    rcases h with rfl | h
    · exact hle
    · have hlt := backB_spec hbk ho he hb
      have hk : k < ops.length := (List.getElem?_eq_some_iff.1 ho).1
      have hlt' : e.on < ops.length := by omega
      exact ih e.on hlt ops[e.on] (List.getElem?_eq_getElem hlt') hle j h

theorem pairsB_sub {deps : List Nat} : ∀ {r1 : List Rec} {x : Rec} {r2 : List Rec}, pairsB ops deps (r1 ++ x :: r2) = true → pairsB ops deps (r1 ++ r2) = true ∧ ∀ y ∈ r1, (deps.getD x.i 0).testBit y.i = true ∨ commR ops y x = true
  | [], x, r2, h => by
    simp only [List.nil_append, pairsB, Bool.and_eq_true] at h
    exact ⟨h.2, fun _ hy => by cases hy⟩
  | y :: r1, x, r2, h => by
    simp only [List.cons_append, pairsB, Bool.and_eq_true, List.all_append, List.all_cons] at h
    obtain ⟨⟨h1, h2, h3⟩, h4⟩ := h
    obtain ⟨i1, i2⟩ := pairsB_sub h4
    refine ⟨by simp only [List.cons_append, pairsB, Bool.and_eq_true, List.all_append]; exact ⟨⟨h1, h3⟩, i1⟩, fun z hz => ?_⟩
    cases hz with
    | head => simpa using h2
    | tail _ hm => exact i2 z hm

theorem drawn_any (hΓ : GOK P Γ) (hbk : backB ops = true) {s' : St} (hQ : ∀ (Am' : Nat → Prop) θ' a' w', (∀ b, Am b → Am' b) → Rep J Am' Mi w0 s' θ' a' w' → Q .normal a' w') :
    ∀ (fuel : Nat) (rem : List (Nat × Oper)) (listed : Array Bool) (s : St) (Am1 : Nat → Prop) (θ : Th) (a : Act) (w : World) (rs : List Rec), (∀ b, Am b → Am1 b) → Rep J Am1 Mi w0 s θ a w → Tr P Γ ops base rem s s' rs → pairsB ops (depsOf ops []) rs = true →
      (∀ p ∈ rem, base + p.1 < s.lo.length) → (∀ p ∈ rem, ∀ o, s.lo[base + p.1]? ≠ some (some o)) → s.base ≤ base →
      (∀ (j : Nat) o, ops[j]? = some o → (listed.getD j true = false ↔ (j, o) ∈ rem)) → (∀ p ∈ rem, ops[p.1]? = some p.2) → (rem.Pairwise fun p q => p.1 < q.1) → listed.size = ops.length →
      (∀ (k : Nat) o, ops[k]? = some o → listed.getD k false = true → ∀ e ∈ o.after.toList, Region.binds .any e = true → listed.getD e.on false = true) →
      fuel = rem.length → wpAnyIn (FW r) n P .any ops.toArray Q fuel listed a w := by
  intro fuel
  induction fuel with
  | zero =>
    intro rem listed s Am1 θ a w rs hup hR hT hp hlt hdead hbb hrem hops hpw hsz hcl hf
    have : rem = [] := List.length_eq_zero_iff.1 hf.symm
    subst this
    cases hT
    refine ⟨?_, hQ Am1 θ a w hup hR⟩
    rw [List.eq_nil_iff_forall_not_mem]
    intro j hj
    obtain ⟨h0, o, ho, _⟩ := mem_ready.1 hj
    have := (hrem j o (by simpa using ho)).1 h0
    cases this
  | succ fuel ih =>
    intro rem listed s Am1 θ a w rs hup hR hT hp hlt hdead hbb hrem hops hpw hsz hcl hf
    constructor
    · intro hnil
      -- the first that is left is ready
      exfalso
      match rem, hf, hops, hpw, hrem with
      | (i, o) :: l, _, hops, hpw, hrem =>
        have ho := hops (i, o) (by simp)
        simp only at ho
        have hmem : i ∈ Region.ready .any ops.toArray listed := by
          refine mem_ready.2 ⟨(hrem i o ho).2 (by simp), o, by simpa using ho, fun e he hb => ?_⟩
          have hlt' := backB_spec hbk ho (by simpa using he) hb
          have hi : i < ops.length := (List.getElem?_eq_some_iff.1 ho).1
          have hel : e.on < ops.length := by omega
          have hx := hrem e.on ops[e.on] (List.getElem?_eq_getElem hel)
          cases hv : listed.getD e.on true with
          | false =>
            have := hx.1 hv
            cases this with
            | head => omega
            | tail _ hm =>
              have := (List.pairwise_cons.1 hpw).1 _ hm
              simp only at this
              omega
          | true =>
            have hes : e.on < listed.size := by omega
            simp only [Array.getD_eq_getD_getElem?, Array.getElem?_eq_getElem hes, Option.getD_some] at hv ⊢
            exact hv
        rw [hnil] at hmem
        cases hmem
    · intro i hi
      obtain ⟨h0, o, ho, hed⟩ := mem_ready.1 hi
      have ho' : ops[i]? = some o := by simpa using ho
      have hm := (hrem i o ho').1 h0
      obtain ⟨l1, l2, rfl⟩ := List.append_of_mem hm
      obtain ⟨r1, rx, r2, rfl, e1, e2, hb⟩ := tr_bubble hT hlt
      obtain ⟨p1, p2⟩ := pairsB_sub hp
      have hcomm : ∀ y ∈ r1, commR ops y rx = true := by
        intro y hy
        rcases p2 y hy with hd | hc
        · exfalso
          have hyi : y.i ∈ l1.map (·.1) := by rw [← e1]; exact List.mem_map.2 ⟨y, hy, rfl⟩
          obtain ⟨⟨yi, yo⟩, hyl, rfl'⟩ := List.mem_map.1 hyi
          simp only at rfl'
          have hyo := hops (yi, yo) (by simp [hyl])
          have hun : listed.getD yi true = false := (hrem yi yo hyo).2 (by simp [hyl])
          have hyl' : listed.getD yi false = true := by
            rw [e2] at hd
            obtain ⟨e, he, hbd, h⟩ := (depsOf_spec ops []).2 i o ho' y.i (by simpa using hd)
            have hle := hed e (by simpa using he) hbd
            rw [rfl']
            rcases h with h | h
            · rw [h]; exact hle
            · have hlt' := backB_spec hbk ho' he hbd
              have hilt : i < ops.length := (List.getElem?_eq_some_iff.1 ho').1
              have hel : e.on < ops.length := by omega
              exact closed_deps hbk hcl e.on ops[e.on] (List.getElem?_eq_getElem hel) hle _ h
          have hys : yi < listed.size := by
            rw [hsz]; exact (List.getElem?_eq_some_iff.1 hyo).1
          simp only [Array.getD_eq_getD_getElem?, Array.getElem?_eq_getElem hys, Option.getD_some] at hun hyl'
          rw [hun] at hyl'
          cases hyl'
        · exact hc
      have hT' := hb hcomm
      unfold wpOpIn
      simp only [ho]
      cases hT' with
      | cons _ _ _ _ _ u _ hu ht =>
        have hlti : base + i < s.lo.length := hlt (i, o) (by simp)
        have ltu : ∀ m ∈ u.wn, m < s.lo.length := fun m hm => by
          rcases eff_wn hu m hm with rfl | ⟨ob, hob⟩
          · exact hlti
          · exact (List.getElem?_eq_some_iff.1 hob).1
        have hne : ∀ p ∈ l1 ++ l2, p.1 ≠ i := by
          intro p hpm
          rw [List.pairwise_append] at hpw
          obtain ⟨_, hp2, hp3⟩ := hpw
          rcases List.mem_append.1 hpm with h | h
          · have := hp3 p h (i, o) (by simp)
            simp only at this
            omega
          · have := (List.pairwise_cons.1 hp2).1 p h
            simp only at this
            omega
        have hmem : ∀ p ∈ l1 ++ l2, p ∈ l1 ++ (i, o) :: l2 := fun p hp => by
          simp only [List.mem_append, List.mem_cons] at hp ⊢
          rcases hp with h | h
          · exact .inl h
          · exact .inr (.inr h)
        have main : wpOne r n P ops.toArray Q o a w (wpAnyIn (FW r) n P .any ops.toArray Q fuel (listed.setIfInBounds i true)) := by
          refine effG_wp hΓ hR (nm := base + i) ⟨Nat.le_trans hbb (Nat.le_add_right _ _), hdead (i, o) (by simp)⟩ hu fun Am2 θ' a' w' hup' hR' => ?_
          refine ih (l1 ++ l2) (listed.setIfInBounds i true) _ Am2 θ' a' w' (r1 ++ r2) (fun b hb => hup' b (hup b hb)) hR' ht p1 (fun p hp => by rw [ap_length ltu]; exact hlt p (hmem p hp)) (fun p hp ob hob => ?_) (by cases u <;> exact hbb) (fun j x hj => ?_) (fun p hp => hops p (hmem p hp)) ?_ (by simp [hsz]) ?_ (by simp at hf ⊢; omega)
          · by_cases hw : base + p.1 ∈ u.wn
            · rcases eff_wn hu _ hw with h | ⟨ob', hob'⟩
              · exact hne p hp (by omega)
              · exact hdead p (hmem p hp) ob' hob'
            · rw [ap_lo hw ltu] at hob
              exact hdead p (hmem p hp) ob hob
          · by_cases hji : j = i
            · subst hji
              have hjs : j < listed.size := by rw [hsz]; exact (List.getElem?_eq_some_iff.1 hj).1
              constructor
              · intro h
                simp [Array.getD_eq_getD_getElem?, hjs] at h
              · intro h
                exact absurd rfl (hne _ h)
            · rw [getD_set_ne true (Ne.symm hji), hrem j x hj]
              constructor
              · intro h
                simp only [List.mem_append, List.mem_cons] at h ⊢
                rcases h with h | h | h
                · exact .inl h
                · exact absurd (congrArg Prod.fst h) hji
                · exact .inr h
              · intro h; exact hmem _ h
          · rw [List.pairwise_append] at hpw ⊢
            obtain ⟨q1, q2, q3⟩ := hpw
            exact ⟨q1, (List.pairwise_cons.1 q2).2, fun p hp q hq => q3 p hp q (List.mem_cons_of_mem _ hq)⟩
          · intro k x hk hkl e he hbd
            by_cases hki : k = i
            · subst hki
              rw [ho'] at hk
              cases hk
              exact getD_set_true (hed e (by simpa using he) hbd)
            · rw [getD_set_ne false (Ne.symm hki)] at hkl
              exact getD_set_true (hcl k x hk hkl e he hbd)
        unfold wpOne at main
        split at main
        · rename_i hwt; rw [if_pos hwt]; exact main
        · rename_i hwt; rw [if_neg hwt]; exact ⟨fun _ _ => trivial, main⟩

theorem index_mem : ∀ (l : List Oper) (i : Nat) (p : Nat × Oper), p ∈ index i l ↔ i ≤ p.1 ∧ l[p.1 - i]? = some p.2
  | [], i, p => by simp [index]
  | o :: l, i, p => by
    simp only [index, List.mem_cons, index_mem l (i + 1) p]
    constructor
    · rintro (rfl | ⟨h1, h2⟩)
      · simp
      · refine ⟨by omega, ?_⟩
        rw [show p.1 - i = (p.1 - (i + 1)) + 1 by omega]
        simpa using h2
    · rintro ⟨h1, h2⟩
      by_cases h : p.1 = i
      · left
        rw [h] at h2
        simp at h2
        obtain ⟨pi, po⟩ := p
        simp only at h h2
        rw [h, h2]
      · right
        refine ⟨by omega, ?_⟩
        rw [show p.1 - i = (p.1 - (i + 1)) + 1 by omega] at h2
        simpa using h2

theorem index_pairwise : ∀ (l : List Oper) (i : Nat), (index i l).Pairwise fun p q => p.1 < q.1
  | [], _ => .nil
  | o :: l, i => by
    refine List.pairwise_cons.2 ⟨fun p hp => ?_, index_pairwise l (i + 1)⟩
    have := ((index_mem l (i + 1) p).1 hp).1
    simp only
    omega

theorem index_length : ∀ (l : List Oper) (i : Nat), (index i l).length = l.length
  | [], _ => rfl
  | o :: l, i => by simp [index, index_length l (i + 1)]

theorem padS_lo (k : Nat) (s : St) (m : Nat) (ob : Ob) : (padS k s).lo[m]? = some (some ob) ↔ s.lo[m]? = some (some ob) := by
  simp only [padS, List.getElem?_append]
  split
  · rfl
  · rename_i hlt
    rw [List.getElem?_eq_none (by omega : s.lo.length ≤ m)]
    simp [List.getElem?_replicate]

theorem Rep.pad (h : Rep J Am Mi w0 s θ a w) (k : Nat) : Rep J Am Mi w0 (padS k s) θ a w := by
  have hS : ∀ b, Stab Am s.lo θ w b → Stab Am (padS k s).lo θ w b := fun b hb => ⟨hb.1, hb.2.1, fun m ob ho => hb.2.2 m ob ((padS_lo k s m ob).1 ho)⟩
  have hL : ∀ m, Liv s.lo m → Liv (padS k s).lo m := fun m ⟨ob, ho⟩ => ⟨ob, (padS_lo k s m ob).2 ho⟩
  refine ⟨h.size, fun i v hv => ?_, fun m ob ho => ?_, fun m ob b ho hu => h.lt m ob b ((padS_lo k s m ob).1 ho) hu, fun m m' o1 o2 b h1 h2 => h.inj m m' o1 o2 b ((padS_lo k s m o1).1 h1) ((padS_lo k s m' o2).1 h2), h.mine, h.fr, h.am, h.jj.step rfl rfl rfl (Nat.le_refl _) (fun _ _ _ => rfl) (fun b ⟨m, o, ho, hu⟩ => ⟨.inl ⟨m, o, (padS_lo k s m o).1 ho, hu⟩, (h.lt m o b ((padS_lo k s m o).1 ho) hu).1⟩) h.am h.own_am, fun n go adm ho => h.yy n go adm ((padS_lo k s n _).1 ho), h.ga, ⟨h.rr.1, fun l hl => (by obtain ⟨n, x, hx, hb⟩ := h.rr.2 l hl; exact ⟨n, x, (padS_lo k s n _).2 hx, hb⟩)⟩, ⟨h.tt.1, Nat.le_trans h.tt.2.1 (by simp [padS]), h.tt.2.2⟩, h.df, fun d hd m hm => hL m (h.dfl d hd m hm)⟩
  · obtain ⟨u, hu, hd⟩ := h.tm i v hv
    exact ⟨u, hu, hd.mono hS (fun _ _ => rfl) hL (fun _ _ => rfl)⟩
  · have ho' := (padS_lo k s m ob).1 ho
    exact (h.lo m ob ho').mono hS (fun _ _ => rfl) hL (fun _ _ => rfl) ⟨ob, ho'⟩ (fun _ _ => rfl)

theorem colT2_den {S L : Nat → Prop} {i : Nat} {u : Value} : ∀ {t : T St} {s' : St}, t.pick = some s' → Den S L θ w (s'.tm.getD i .any) u → Den S L θ w (colT2 i t) u
  | .leaf s, s', hp, hd => by cases hp; exact hd
  | .bad, _, hp, _ => by cases hp
  | .ite b t e, s', hp, hd => by
    simp only [colT2]
    split
    · rename_i ht
      cases b
      · exact colT2_den (t := e) (by simpa [T.pick] using hp) hd
      · simp only [T.pick, allBad_pick ht] at hp; cases hp
    · split
      · rename_i he
        cases b
        · simp only [T.pick, allBad_pick he] at hp; cases hp
        · exact colT2_den (t := t) (by simpa [T.pick] using hp) hd
      · simp only [T.pick] at hp
        simp only [mergeV]
        split
        · rename_i p q hpb hqb
          cases b
          · have := den_bool (colT2_den (t := e) hp hd) hqb
            rw [this]; exact .q _ _ (.c _)
          · have := den_bool (colT2_den (t := t) hp hd) hpb
            rw [this]; exact .q _ _ (.c _)
        · split
          · rename_i k m k' m' hm hm'
            split
            · rename_i hk
              subst hk
              cases b
              · have := den_int (colT2_den (t := e) hp hd) hm'
                rw [this]; exact .q _ _ (.c _)
              · have := den_int (colT2_den (t := t) hp hd) hm
                rw [this]; exact .q _ _ (.c _)
            · exact .any _
          · exact .any _

theorem Rep.join {s0 s1 : St} {ds : List Nat} {t : T St} (h : Rep J Am Mi w0 s1 θ a w) (ht : t.pick = some s1) (he : s1 = { s0 with tm := s1.tm }) (hl : s1.tm.length = s0.tm.length) (ho : ∀ j, ds.contains j = false → s1.tm[j]? = s0.tm[j]?) :
    Rep J Am Mi w0 { s0 with tm := mergeTm2 ds t 0 s0.tm } θ a w := by
  have hlo : s0.lo = s1.lo := by rw [he]
  have hdf : s0.df = s1.df := by rw [he]
  have hin : s0.inr = s1.inr := by rw [he]
  have hba : s0.base = s1.base := by rw [he]
  have hys : s0.ys = s1.ys := by rw [he]
  have key : Rep J Am Mi w0 { s1 with tm := mergeTm2 ds t 0 s0.tm } θ a w := by
    refine ⟨by rw [h.size, hl]; simp [mergeTm2_length], fun i v hv => ?_, h.lo, h.lt, h.inj, h.mine, h.fr, h.am, h.jj, h.yy, h.ga, h.rr, h.tt, h.df, h.dfl⟩
    rcases mergeTm2_get _ _ _ _ hv with ⟨_, rfl⟩ | ⟨hc, hv'⟩
    · have hlt : i < s1.tm.length := by
        have := (List.getElem?_eq_some_iff.1 hv).1
        rw [mergeTm2_length] at this
        omega
      obtain ⟨u, hu, hd⟩ := h.tm i _ (List.getElem?_eq_getElem hlt)
      refine ⟨u, hu, ?_⟩
      rw [Nat.zero_add]
      exact colT2_den ht (by simpa [List.getD_eq_getElem?_getD, hlt] using hd)
    · rw [Nat.zero_add] at hc
      exact h.tm i v (by rw [ho i hc]; exact hv')
  have e2 : ({ s0 with tm := mergeTm2 ds t 0 s0.tm } : St) = { s1 with tm := mergeTm2 ds t 0 s0.tm } := by rw [he]
  rw [e2]
  exact key

theorem index_map : ∀ (l : List Oper) (i : Nat), (index i l).map (·.2) = l
  | [], _ => rfl
  | o :: l, i => by simp [index, index_map l (i + 1)]

theorem regionD_wp (hΓ : GOK P Γ) {id : Nat} {opsA : Array Oper} {s' : St} (h : Rep J Am Mi w0 s θ a w) (he : (runD P Γ opsA.toList s).pick = some s')
    (hK : ∀ (Am' : Nat → Prop) θ' a' w', (∀ b, Am b → Am' b) → Rep J Am' Mi w0 s' θ' a' w' → Q .normal a' w') : (Code.region id opsA true).wpIn (FW r) n P Q a w := by
  have main : ∀ (s1 : St) (rs : List Rec), P.follows .mixedOrders = true → backB opsA.toList = true → (traceT P Γ opsA.toList s.lo.length (index 0 opsA.toList) (padS opsA.toList.length s)).pick = some (s1, rs) → pairsB opsA.toList (depsOf opsA.toList []) rs = true →
      (∀ (Am' : Nat → Prop) θ' a' w', (∀ b, Am b → Am' b) → Rep J Am' Mi w0 s1 θ' a' w' → Q .normal a' w') → (Code.region id opsA true).wpIn (FW r) n P Q a w := fun s1 rs hc1 hc2 h1 hp hK => by
    refine wpIn_region_any hc1 ?_
    have hT := tr_of_trace h1
    have hR := (h.drew).pad opsA.toList.length
    have hlen : (padS opsA.toList.length s).lo.length = s.lo.length + opsA.toList.length := by simp [padS]
    have := drawn_any (r := r) (n := n) (Q := Q) hΓ hc2 hK (opsA.toList.length) (index 0 opsA.toList) (Array.replicate opsA.size false) _ Am θ a w.drew rs (fun _ x => x) hR hT hp
      (fun p hp => by
        have := (index_mem _ 0 p).1 hp
        have := (List.getElem?_eq_some_iff.1 this.2).1
        rw [hlen]; omega)
      (fun p hp ob hob => by
        have := (List.getElem?_eq_some_iff.1 ((padS_lo _ s _ ob).1 hob)).1
        omega)
      (show s.base ≤ s.lo.length from h.tt.2.1)
      (fun j x hj => by
        have hjl : j < opsA.size := by simpa using (List.getElem?_eq_some_iff.1 hj).1
        constructor
        · intro _
          exact (index_mem _ 0 (j, x)).2 ⟨Nat.zero_le _, by simpa using hj⟩
        · intro _
          simp [Array.getD_eq_getD_getElem?, Array.getElem?_replicate, hjl])
      (fun p hp => by simpa using ((index_mem _ 0 p).1 hp).2)
      (index_pairwise _ 0) (by simp)
      (fun k x hk hl => by simp [Array.getD_eq_getD_getElem?, Array.getElem?_replicate] at hl; split at hl <;> simp at hl)
      (by rw [index_length])
    simpa using this
  unfold runD at he
  split at he
  · rename_i hc
    simp only [Bool.and_eq_true] at hc
    split at he
    · have hτ : ∃ s1, ((traceT P Γ opsA.toList s.lo.length (index 0 opsA.toList) (padS opsA.toList.length s)).bind fun r => if pairsB opsA.toList (depsOf opsA.toList []) r.2 && r.2.all (fun x => x.wn.isEmpty && !x.yl) then T.leaf r.1 else .bad).pick = some s1 ∧
          ((s' = s1) ∨ s' = { padS opsA.toList.length s with tm := mergeTm2 (dsts opsA.toList) ((traceT P Γ opsA.toList s.lo.length (index 0 opsA.toList) (padS opsA.toList.length s)).bind fun r => if pairsB opsA.toList (depsOf opsA.toList []) r.2 && r.2.all (fun x => x.wn.isEmpty && !x.yl) then T.leaf r.1 else .bad) 0 (padS opsA.toList.length s).tm }) := by
        generalize ((traceT P Γ opsA.toList s.lo.length (index 0 opsA.toList) (padS opsA.toList.length s)).bind fun r => if pairsB opsA.toList (depsOf opsA.toList []) r.2 && r.2.all (fun x => x.wn.isEmpty && !x.yl) then T.leaf r.1 else .bad) = τ at he
        unfold joinT at he
        split at he
        · cases he; exact ⟨_, rfl, .inl rfl⟩
        · split at he
          · rename_i hnb
            cases he
            obtain ⟨x, hx⟩ := noBad_pick hnb
            exact ⟨x, hx, .inr rfl⟩
          · simp only [T.pick] at he
            cases hok : T.okB τ with
            | false => rw [hok] at he; cases he
            | true =>
              rw [hok] at he
              cases he
              obtain ⟨x, hx⟩ := okB_pick hok
              exact ⟨x, hx, .inr rfl⟩
      obtain ⟨s1, hp1, hs'⟩ := hτ
      have hp1' := hp1
      rw [T.pick_bind] at hp1
      obtain ⟨⟨s2, rs⟩, h1, h2⟩ := hp1
      split at h2
      · rename_i hcc
        simp only [Bool.and_eq_true] at hcc
        cases h2
        refine main s2 rs hc.1 hc.2 h1 hcc.1 fun Am' θ' a' w' hup hR => hK Am' θ' a' w' hup ?_
        rcases hs' with rfl | rfl
        · exact hR
        · obtain ⟨e1, e2, e3⟩ := tr_vals (tr_of_trace h1) hcc.2
          rw [index_map] at e3
          exact hR.join hp1' e1 e2 e3
      · cases h2
    · rw [T.pick_bind] at he
      obtain ⟨⟨s1, rs⟩, h1, h2⟩ := he
      split at h2
      · rename_i hp
        cases h2
        exact main _ rs hc.1 hc.2 h1 hp hK
      · simp [T.pick] at h2
  · simp [T.pick] at he

end
end Go.SX

/- Code, loops by their summaries, functions. -/
namespace Go.SX
open Go.RowKit
set_option linter.unusedVariables false
set_option linter.unusedSimpArgs false
set_option linter.unusedSectionVars false

section
variable {P : Program} {F : Fence} {n : Nat} {b : Frame} {a : Act} {k : List Item} {cs : List Frame} {w : World} {Q : Exit → Act → World → Prop}

theorem stepR_scope {c : Code} : step P (lone (b.atR a (.code (.scope c) :: k)) cs w) = .next (lone (b.atR a (.code c :: .inScope c :: k)) cs w) :=
  step_lone_go (by simp [Go.stepG, Go.stepG.exec, Frame.atR])
theorem stepR_inScope {c : Code} : step P (lone (b.atR a (.inScope c :: k)) cs w) = .next (lone (b.atR a k) cs w) :=
  step_lone_go (by simp [Go.stepG, Go.stepG.exec, Frame.atR])

/-- What is asked of a scope that no jump leaves. -/
def noGo (Q : Exit → Act → World → Prop) : Exit → Act → World → Prop
  | .goto _, _, _ => False
  | e, a, w => Q e a w

theorem wpIn_scope {c : Code} (h : c.wpIn F n P (noGo Q) a w) : (Code.scope c).wpIn F n P Q a w := by
  intro b k cs hro hb hr
  have h0 : (lone (b.atR a (.code (.scope c) :: k)) cs w).fenced P F := fenced_calm hb hr rfl
  obtain ⟨e, a₁, w₁, hq, harr⟩ := h b (.inScope c :: k) cs hro hb hr
  cases e with
  | normal => exact ⟨.normal, a₁, w₁, hq, .head h0 stepR_scope (StepsIn.trans harr (.one (fenced_calm hb hr rfl) stepR_inScope))⟩
  | exit id =>
    have hx : exitTo id (.inScope c :: k) = exitTo id k := by simp [exitTo]
    exact ⟨.exit id, a₁, w₁, hq, fun k' hk => .head h0 stepR_scope (harr.1 k' (by rw [hx]; exact hk)),
      fun hr' hk => let ⟨k₁, h1, h2⟩ := harr.2 hr' (by rw [hx]; exact hk); ⟨k₁, h1, .head h0 stepR_scope h2⟩⟩
  | goto l => exact hq.elim
  | ret => exact ⟨_, a₁, w₁, hq, .of_steps (.one h0 stepR_scope) harr⟩
  | panic ch => exact ⟨_, a₁, w₁, hq, .of_steps (.one h0 stepR_scope) harr⟩
  | outgrown => exact ⟨_, a₁, w₁, hq, .of_steps (.one h0 stepR_scope) harr⟩
end

section
variable {P : Program} {F : Fence} {n : Nat} {a : Act} {w : World} {Q : Exit → Act → World → Prop}
/-- What is asked of a scope that is left by one jump at most, ahead. -/
def oneGo (F : Fence) (n : Nat) (P : Program) (c : Code) (Q : Exit → Act → World → Prop) : Exit → Act → World → Prop
  | .goto l, a, w => ∃ rest, findLabel c l = some rest ∧ rest.wpIn F n P (noGo Q) a w
  | e, a, w => Q e a w

theorem wpIn_scope_jump {c : Code} (h : c.wpIn F n P (oneGo F n P c Q) a w) : (Code.scope c).wpIn F n P Q a w := by
  intro b k cs hro hb hr
  have h0 : (lone (b.atR a (.code (.scope c) :: k)) cs w).fenced P F := fenced_calm hb hr rfl
  obtain ⟨e, a₁, w₁, hq, harr⟩ := h b (.inScope c :: k) cs hro hb hr
  have fin : ∀ (m : Machine) (hm : StepsIn (fun m => m.fenced P F) P (lone (b.atR a (.code (.scope c) :: k)) cs w) m) (e : Exit) (a₁ : Act) (w₁ : World), noGo Q e a₁ w₁ → ArrivesIn (fun m => m.fenced P F) P m b (.inScope c :: k) cs e a₁ w₁ →
      ∃ e a' w', Q e a' w' ∧ ArrivesIn (fun m => m.fenced P F) P (lone (b.atR a (.code (.scope c) :: k)) cs w) b k cs e a' w' := fun m hm e a₁ w₁ hq harr => by
    cases e with
    | normal => exact ⟨.normal, a₁, w₁, hq, StepsIn.trans hm (StepsIn.trans harr (.one (fenced_calm hb hr rfl) stepR_inScope))⟩
    | exit id =>
      have hx : exitTo id (.inScope c :: k) = exitTo id k := by simp [exitTo]
      exact ⟨.exit id, a₁, w₁, hq, fun k' hk => StepsIn.trans hm (harr.1 k' (by rw [hx]; exact hk)),
        fun hr' hk => let ⟨k₁, h1, h2⟩ := harr.2 hr' (by rw [hx]; exact hk); ⟨k₁, h1, StepsIn.trans hm h2⟩⟩
    | goto l => exact hq.elim
    | ret => exact ⟨_, a₁, w₁, hq, .of_steps hm harr⟩
    | panic ch => exact ⟨_, a₁, w₁, hq, .of_steps hm harr⟩
    | outgrown => exact ⟨_, a₁, w₁, hq, .of_steps hm harr⟩
  cases e with
  | goto l =>
    obtain ⟨rest, hf, hw⟩ := hq
    have hg : gotoIn l (.inScope c :: k) = some (.code rest :: .inScope c :: k) := by simp [gotoIn, hf]
    obtain ⟨e2, a2, w2, hq2, harr2⟩ := hw b (.inScope c :: k) cs hro hb hr
    exact fin _ (.head h0 stepR_scope (harr.1 _ hg)) e2 a2 w2 hq2 harr2
  | normal => exact fin _ (.one h0 stepR_scope) .normal a₁ w₁ hq harr
  | exit id => exact fin _ (.one h0 stepR_scope) (.exit id) a₁ w₁ hq harr
  | ret => exact fin _ (.one h0 stepR_scope) .ret a₁ w₁ hq harr
  | panic ch => exact fin _ (.one h0 stepR_scope) (.panic ch) a₁ w₁ hq harr
  | outgrown => exact fin _ (.one h0 stepR_scope) .outgrown a₁ w₁ hq harr
end

inductive Ex where
  | normal | exit (id : Nat) | goto (l : Nat) | ret
  deriving DecidableEq, Inhabited

def Ex.is : Ex → Exit → Prop
  | .normal, .normal => True
  | .exit i, .exit j => i = j
  | .goto i, .goto j => i = j
  | .ret, .ret => True
  | _, _ => False

abbrev Out := T (Ex × St)
/-- The summaries of the loops: by the loop's place in the function's code. -/
abbrev Lam := List (List Nat × (St → Out))

def lookP {α : Type} : List (List Nat × α) → List Nat → Option α
  | [], _ => none
  | (k, x) :: l, n => if k == n then some x else lookP l n

theorem lookP_mem {α : Type} : ∀ {l : List (List Nat × α)} {n : List Nat} {x : α}, lookP l n = some x → (n, x) ∈ l
  | [], _, _, h => by simp [lookP] at h
  | (k, y) :: l, n, x, h => by
    simp only [lookP] at h
    split at h
    · rename_i e
      cases h
      have : k = n := by simpa using e
      subst this
      exact List.mem_cons_self
    · exact List.mem_cons_of_mem _ (lookP_mem h)

def child : Code → Nat → Option Code
  | .seq a _, 0 => some a
  | .seq _ b, 1 => some b
  | .cond _ a _, 0 => some a
  | .cond _ _ b, 1 => some b
  | .block _ c, 0 => some c
  | .loop c, 0 => some c
  | .scope c, 0 => some c
  | .rangeFunc _ _ a _, 0 => some a
  | .rangeFunc _ _ _ b, 1 => some b
  | _, _ => none

def codeAt (root : Code) : List Nat → Option Code
  | [] => some root
  | i :: p => (codeAt root p).bind (child · i)

/-- Code without loops. -/
def sxs (P : Program) (Γ : Gam) : Code → St → Out
  | .skip, s => .leaf (.normal, s)
  | .label _, s => .leaf (.normal, s)
  | .region _ ops false, s => (runR P Γ ops.toList s).bind fun s => .leaf (.normal, s)
  | .region _ ops true, s => (runD P Γ ops.toList s).bind fun s => .leaf (.normal, s)
  | .seq a b, s => (sxs P Γ a s).bind fun x => match x.1 with
    | .normal => sxs P Γ b x.2
    | _ => .leaf x
  | .cond c a b, s => match ev s c with
    | .kb true => sxs P Γ a s
    | .kb false => sxs P Γ b s
    | .q (.c (.bool t)) => .ite t (sxs P Γ a s) (sxs P Γ b s)
    | _ => .bad
  | .block id c, s => (sxs P Γ c s).bind fun x => match x.1 with
    | .exit id' => if id' = id then .leaf (.normal, x.2) else .leaf x
    | _ => .leaf x
  | .exit id, s => .leaf (.exit id, s)
  | .goto l, s => .leaf (.goto l, s)
  | .ret, s => .leaf (.ret, s)
  | _, _ => .bad

def sx (P : Program) (Γ : Gam) (Λ : Lam) : List Nat → Code → St → Out
  | _, .skip, s => .leaf (.normal, s)
  | _, .label _, s => .leaf (.normal, s)
  | _, .region _ ops false, s => (runR P Γ ops.toList s).bind fun s => .leaf (.normal, s)
  | _, .region _ ops true, s => (runD P Γ ops.toList s).bind fun s => .leaf (.normal, s)
  | p, .seq a b, s => (sx P Γ Λ (0 :: p) a s).bind fun x => match x.1 with
    | .normal => sx P Γ Λ (1 :: p) b x.2
    | _ => .leaf x
  | p, .cond c a b, s => match ev s c with
    | .kb true => sx P Γ Λ (0 :: p) a s
    | .kb false => sx P Γ Λ (1 :: p) b s
    | .q (.c (.bool t)) => .ite t (sx P Γ Λ (0 :: p) a s) (sx P Γ Λ (1 :: p) b s)
    | _ => .bad
  | p, .block id c, s => (sx P Γ Λ (0 :: p) c s).bind fun x => match x.1 with
    | .exit id' => if id' = id then .leaf (.normal, x.2) else .leaf x
    | _ => .leaf x
  | p, .loop _, s => match lookP Λ p with
    | some f => f s
    | none => .bad
  | p, .rangeFunc _ _ _ _, s => match lookP Λ p with
    | some f => f s
    | none => .bad
  | p, .scope c, s => (sx P Γ Λ (0 :: p) c s).bind fun x => match x.1 with
    | .goto l => match findLabel c l with
      | some rest => (sxs P Γ rest x.2).bind fun y => match y.1 with
        | .goto _ => .bad
        | _ => .leaf y
      | none => .bad
    | _ => .leaf x
  | _, .exit id, s => .leaf (.exit id, s)
  | _, .goto l, s => .leaf (.goto l, s)
  | _, .ret, s => .leaf (.ret, s)
  | _, _, _ => .bad

/-- Where a piece of code comes to. -/
def PostC [GW] {P : Program} (J : Jt P) (Am Mi : Nat → Prop) (w0 : World) (x : Ex × St) : Exit → Act → World → Prop := fun e a w => x.1.is e ∧ ∃ (Am' : Nat → Prop) (θ : Th), (∀ b, Am b → Am' b) ∧ Rep J Am' Mi w0 x.2 θ a w

/-- The code c leads from s to x, whatever the frame. -/
def SemC [GW] (P : Program) (c : Code) (s : St) (x : Ex × St) : Prop :=
  ∀ (n : Nat) (J : Jt P) (Am Mi : Nat → Prop) (w0 : World) (θ : Th) (a : Act) (w : World), Rep J Am Mi w0 s θ a w → c.wpIn (FW J.r) n P (PostC J Am Mi w0 x) a w

def LamOK [GW] (P : Program) (root : Code) (Λ : Lam) : Prop :=
  ∀ p f, (p, f) ∈ Λ → ∃ c, codeAt root p = some c ∧ ∀ s x, (f s).pick = some x → SemC P c s x

theorem LamOK.nil [GW] (P : Program) (root : Code) : LamOK P root [] := fun _ _ h => by cases h
theorem LamOK.cons [GW] {P : Program} {root : Code} {p : List Nat} {f : St → Out} {Λ : Lam} (c : Code) (hc : codeAt root p = some c) (h : ∀ s x, (f s).pick = some x → SemC P c s x) (hΛ : LamOK P root Λ) : LamOK P root ((p, f) :: Λ) :=
  fun q g hq => by
    cases hq with
    | head => exact ⟨c, hc, h⟩
    | tail _ hm => exact hΛ q g hm

theorem sxs_wp [GW] {P : Program} {Γ : Gam} (hΓ : GOK P Γ) : ∀ (c : Code) (s : St) (x : Ex × St), (sxs P Γ c s).pick = some x → SemC P c s x := by
  intro c
  induction c with
  | skip => intro s x he n J Am Mi w0 θ a w h; cases he; exact wpIn_skip ⟨trivial, Am, θ, fun _ x => x, h⟩
  | label l => intro s x he n J Am Mi w0 θ a w h; cases he; exact wpIn_label ⟨trivial, Am, θ, fun _ x => x, h⟩
  | region id ops draw =>
    intro s x he n J Am Mi w0 θ a w h
    cases draw with
    | false =>
      simp only [sxs] at he
      rw [T.pick_bind] at he
      obtain ⟨s1, h1, h2⟩ := he
      cases h2
      exact region_wp hΓ h h1 fun Am' θ' a' w' hup hR => ⟨trivial, Am', θ', hup, hR⟩
    | true =>
      simp only [sxs] at he
      rw [T.pick_bind] at he
      obtain ⟨s1, h1, h2⟩ := he
      cases h2
      exact regionD_wp hΓ h h1 fun Am' θ' a' w' hup hR => ⟨trivial, Am', θ', hup, hR⟩
  | seq c d ihc ihd =>
    intro s x he n J Am Mi w0 θ a w h
    simp only [sxs] at he
    rw [T.pick_bind] at he
    obtain ⟨y, h1, h2⟩ := he
    refine wpIn_seq (wpIn_mono (ihc s y h1 n J Am Mi w0 θ a w h) ?_)
    rintro e a1 w1 ⟨hi, Am1, θ1, hup, hR⟩
    obtain ⟨ye, ys⟩ := y
    cases ye <;> cases e <;> simp only [Ex.is] at hi <;> simp only at h2
    · exact wpIn_mono (ihd ys x h2 n J Am1 Mi w0 θ1 a1 w1 hR) fun e2 a2 w2 ⟨hi2, Am2, θ2, hup2, hR2⟩ => ⟨hi2, Am2, θ2, fun b hb => hup2 b (hup b hb), hR2⟩
    · cases h2; subst hi; exact ⟨rfl, Am1, θ1, hup, hR⟩
    · cases h2; subst hi; exact ⟨rfl, Am1, θ1, hup, hR⟩
    · cases h2; exact ⟨trivial, Am1, θ1, hup, hR⟩
  | cond c d e ihd ihe =>
    intro s x he n J Am Mi w0 θ a w h
    have hcd := h.ev c
    simp only [sxs] at he
    split at he
    · rename_i hv
      rw [hv] at hcd
      exact wpIn_cond_true (den_bool hcd rfl) (ihd s x he n J Am Mi w0 θ a w h)
    · rename_i hv
      rw [hv] at hcd
      exact wpIn_cond_false (den_bool hcd rfl) (ihe s x he n J Am Mi w0 θ a w h)
    · rename_i t hv
      rw [hv] at hcd
      simp only [T.pick] at he
      cases t
      · exact wpIn_cond_false (den_bool hcd rfl) (ihe s x he n J Am Mi w0 θ a w h)
      · exact wpIn_cond_true (den_bool hcd rfl) (ihd s x he n J Am Mi w0 θ a w h)
    · simp [T.pick] at he
  | block id c ih =>
    intro s x he n J Am Mi w0 θ a w h
    simp only [sxs] at he
    rw [T.pick_bind] at he
    obtain ⟨y, h1, h2⟩ := he
    refine wpIn_block (wpIn_mono (ih s y h1 n J Am Mi w0 θ a w h) ?_)
    rintro e a1 w1 ⟨hi, Am1, θ1, hup, hR⟩
    obtain ⟨ye, ys⟩ := y
    cases ye <;> cases e <;> simp only [Ex.is] at hi <;> simp only at h2
    · cases h2; exact ⟨trivial, Am1, θ1, hup, hR⟩
    · subst hi
      simp only [Exit.inBlock]
      split at h2
      · rename_i hid; cases h2; rw [if_pos hid]; exact ⟨trivial, Am1, θ1, hup, hR⟩
      · rename_i hid; cases h2; rw [if_neg hid]; exact ⟨rfl, Am1, θ1, hup, hR⟩
    · cases h2; subst hi; exact ⟨rfl, Am1, θ1, hup, hR⟩
    · cases h2; exact ⟨trivial, Am1, θ1, hup, hR⟩
  | exit id => intro s x he n J Am Mi w0 θ a w h; cases he; exact wpIn_exit ⟨rfl, Am, θ, fun _ x => x, h⟩
  | goto l => intro s x he n J Am Mi w0 θ a w h; cases he; exact wpIn_goto ⟨rfl, Am, θ, fun _ x => x, h⟩
  | ret => intro s x he n J Am Mi w0 θ a w h; cases he; exact wpIn_ret ⟨trivial, Am, θ, fun _ x => x, h⟩
  | _ => intro s x he; simp [sxs, T.pick] at he

theorem sx_wp [GW] {P : Program} {Γ : Gam} {Λ : Lam} {root : Code} (hΓ : GOK P Γ) (hΛ : LamOK P root Λ) :
    ∀ (c : Code) (p : List Nat) (s : St) (x : Ex × St), codeAt root p = some c → (sx P Γ Λ p c s).pick = some x → SemC P c s x := by
  intro c
  induction c with
  | skip => intro p s x _ he n J Am Mi w0 θ a w h; cases he; exact wpIn_skip ⟨trivial, Am, θ, fun _ x => x, h⟩
  | label l => intro p s x _ he n J Am Mi w0 θ a w h; cases he; exact wpIn_label ⟨trivial, Am, θ, fun _ x => x, h⟩
  | region id ops draw =>
    intro p s x _ he n J Am Mi w0 θ a w h
    cases draw with
    | false =>
      simp only [sx] at he
      rw [T.pick_bind] at he
      obtain ⟨s1, h1, h2⟩ := he
      cases h2
      exact region_wp hΓ h h1 fun Am' θ' a' w' hup hR => ⟨trivial, Am', θ', hup, hR⟩
    | true =>
      simp only [sx] at he
      rw [T.pick_bind] at he
      obtain ⟨s1, h1, h2⟩ := he
      cases h2
      exact regionD_wp hΓ h h1 fun Am' θ' a' w' hup hR => ⟨trivial, Am', θ', hup, hR⟩
  | seq c d ihc ihd =>
    intro p s x hp he n J Am Mi w0 θ a w h
    simp only [sx] at he
    rw [T.pick_bind] at he
    obtain ⟨y, h1, h2⟩ := he
    have hc : codeAt root (0 :: p) = some c := by simp [codeAt, hp, child]
    have hd : codeAt root (1 :: p) = some d := by simp [codeAt, hp, child]
    refine wpIn_seq (wpIn_mono (ihc _ s y hc h1 n J Am Mi w0 θ a w h) ?_)
    rintro e a1 w1 ⟨hi, Am1, θ1, hup, hR⟩
    obtain ⟨ye, ys⟩ := y
    cases ye <;> cases e <;> simp only [Ex.is] at hi <;> simp only at h2
    · exact wpIn_mono (ihd _ ys x hd h2 n J Am1 Mi w0 θ1 a1 w1 hR) fun e2 a2 w2 ⟨hi2, Am2, θ2, hup2, hR2⟩ => ⟨hi2, Am2, θ2, fun b hb => hup2 b (hup b hb), hR2⟩
    · cases h2; subst hi; exact ⟨rfl, Am1, θ1, hup, hR⟩
    · cases h2; subst hi; exact ⟨rfl, Am1, θ1, hup, hR⟩
    · cases h2; exact ⟨trivial, Am1, θ1, hup, hR⟩
  | cond c d e ihd ihe =>
    intro p s x hp he n J Am Mi w0 θ a w h
    have hd : codeAt root (0 :: p) = some d := by simp [codeAt, hp, child]
    have hee : codeAt root (1 :: p) = some e := by simp [codeAt, hp, child]
    have hcd := h.ev c
    simp only [sx] at he
    split at he
    · rename_i hv
      rw [hv] at hcd
      exact wpIn_cond_true (den_bool hcd rfl) (ihd _ s x hd he n J Am Mi w0 θ a w h)
    · rename_i hv
      rw [hv] at hcd
      exact wpIn_cond_false (den_bool hcd rfl) (ihe _ s x hee he n J Am Mi w0 θ a w h)
    · rename_i t hv
      rw [hv] at hcd
      simp only [T.pick] at he
      cases t
      · exact wpIn_cond_false (den_bool hcd rfl) (ihe _ s x hee he n J Am Mi w0 θ a w h)
      · exact wpIn_cond_true (den_bool hcd rfl) (ihd _ s x hd he n J Am Mi w0 θ a w h)
    · simp [T.pick] at he
  | block id c ih =>
    intro p s x hp he n J Am Mi w0 θ a w h
    have hc : codeAt root (0 :: p) = some c := by simp [codeAt, hp, child]
    simp only [sx] at he
    rw [T.pick_bind] at he
    obtain ⟨y, h1, h2⟩ := he
    refine wpIn_block (wpIn_mono (ih _ s y hc h1 n J Am Mi w0 θ a w h) ?_)
    rintro e a1 w1 ⟨hi, Am1, θ1, hup, hR⟩
    obtain ⟨ye, ys⟩ := y
    cases ye <;> cases e <;> simp only [Ex.is] at hi <;> simp only at h2
    · cases h2; exact ⟨trivial, Am1, θ1, hup, hR⟩
    · subst hi
      simp only [Exit.inBlock]
      split at h2
      · rename_i hid; cases h2; rw [if_pos hid]; exact ⟨trivial, Am1, θ1, hup, hR⟩
      · rename_i hid; cases h2; rw [if_neg hid]; exact ⟨rfl, Am1, θ1, hup, hR⟩
    · cases h2; subst hi; exact ⟨rfl, Am1, θ1, hup, hR⟩
    · cases h2; exact ⟨trivial, Am1, θ1, hup, hR⟩
  | loop c ih =>
    intro p s x hp he
    simp only [sx] at he
    split at he
    · rename_i f hf
      obtain ⟨c', hc', hs⟩ := hΛ p f (lookP_mem hf)
      rw [hp] at hc'
      cases hc'
      exact hs s x he
    · simp [T.pick] at he
  | exit id => intro p s x _ he n J Am Mi w0 θ a w h; cases he; exact wpIn_exit ⟨rfl, Am, θ, fun _ x => x, h⟩
  | goto l => intro p s x _ he n J Am Mi w0 θ a w h; cases he; exact wpIn_goto ⟨rfl, Am, θ, fun _ x => x, h⟩
  | ret => intro p s x _ he n J Am Mi w0 θ a w h; cases he; exact wpIn_ret ⟨trivial, Am, θ, fun _ x => x, h⟩
  | rangeFunc f ps asg b _ _ =>
    intro p s x hp he
    simp only [sx] at he
    split at he
    · rename_i f hf
      obtain ⟨c', hc', hs⟩ := hΛ p f (lookP_mem hf)
      rw [hp] at hc'
      cases hc'
      exact hs s x he
    · simp [T.pick] at he
  | scope c ih =>
    intro p s x hp he n J Am Mi w0 θ a w h
    have hc : codeAt root (0 :: p) = some c := by simp [codeAt, hp, child]
    simp only [sx] at he
    rw [T.pick_bind] at he
    obtain ⟨y, h1, h2⟩ := he
    refine wpIn_scope_jump (wpIn_mono (ih _ s y hc h1 n J Am Mi w0 θ a w h) ?_)
    rintro e a1 w1 ⟨hi, Am1, θ1, hup, hR⟩
    obtain ⟨ye, ys⟩ := y
    cases ye <;> cases e <;> simp only [Ex.is] at hi <;> simp only at h2
    · cases h2; exact ⟨trivial, Am1, θ1, hup, hR⟩
    · cases h2; subst hi; exact ⟨rfl, Am1, θ1, hup, hR⟩
    · subst hi
      split at h2
      · rename_i rest hf
        rw [T.pick_bind] at h2
        obtain ⟨z, h3, h4⟩ := h2
        refine ⟨rest, hf, wpIn_mono (sxs_wp hΓ rest ys z h3 n J Am1 Mi w0 θ1 a1 w1 hR) ?_⟩
        rintro e a2 w2 ⟨hi, Am2, θ2, hup2, hR2⟩
        obtain ⟨ze, zs⟩ := z
        cases ze <;> cases e <;> simp only [Ex.is] at hi <;> simp only at h4
        · cases h4; exact ⟨trivial, Am2, θ2, fun b hb => hup2 b (hup b hb), hR2⟩
        · cases h4; subst hi; exact ⟨rfl, Am2, θ2, fun b hb => hup2 b (hup b hb), hR2⟩
        · simp [T.pick] at h4
        · cases h4; exact ⟨trivial, Am2, θ2, fun b hb => hup2 b (hup b hb), hR2⟩
      · simp [T.pick] at h2
    · cases h2; exact ⟨trivial, Am1, θ1, hup, hR⟩
  | refuse why => intro p s x _ he; simp [sx, T.pick] at he

/-! ### functions -/

def resV (P : Program) (s : St) : ResultVar → T V
  | .tmp t => .leaf (ev s (.tmp t))
  | .cell ad t => readV P t s (ev s (.tmp ad))

def resL (P : Program) (s : St) : List ResultVar → T (List V)
  | [] => .leaf []
  | x :: l => (resV P s x).bind fun v => (resL P s l).bind fun r => .leaf (v :: r)

def outV (P : Program) (fn : Func) (s : St) : T V :=
  (resL P s fn.results.toList).bind fun vs => match vs with
    | [v] => .ofOption (letGo s.lo v)
    | vs => .ofOption (letGo s.lo (.tup vs))

def initS (fn : Func) (args : List V) : St := { tm := args ++ List.replicate (fn.ntmps - args.length) .any, lo := [] }

/-- What is to be done when the function is left: marks alone, whose blocks hold nothing. -/
def dropMarks : List Df → List (Option Ob) → Option (List (Option Ob))
  | [], lo => some lo
  | .mark n :: ds, lo => match lo[n]? with
    | some (some .dfr) => dropMarks ds (lo.set n (some .deads))
    | _ => none
  | _ :: _, _ => none

def leaveV (P : Program) (fn : Func) (s : St) : T V :=
  match dropMarks s.df s.lo with
  | some lo => outV P fn { s with lo }
  | none => .bad

def funV (P : Program) (Γ : Gam) (Λ : Lam) (fn : Func) (c : Code) (args : List V) : T V :=
  (sx P Γ Λ [] c (initS fn args)).bind fun x => match x.1 with
    | .normal | .ret => leaveV P fn x.2
    | _ => .bad

section
variable [GW] {P : Program} {J : Jt P} {Am Mi : Nat → Prop} {w0 w : World} {s : St} {θ : Th} {a : Act} {Γ : Gam}

def resOne (tmps : Array Value) : ResultVar → Sem Value
  | .tmp t => pure (tmps.getD t undef)
  | .cell a t => do loadVar t (← asAddr (tmps.getD a undef))

theorem results_eq (fn : Func) (tmps : Array Value) : results fn tmps = (do let vs ← fn.results.mapM (resOne tmps); pure (if h : vs.size = 1 then vs[0] else .tuple vs)) := rfl

theorem resV_run (h : Rep J Am Mi w0 s θ a w) {x : ResultVar} {v : V} (e : (resV P s x).pick = some v) :
    ∃ u, (resOne a.tmps x).run P w = .ok u w ∧ Den (Stab Am s.lo θ w) (Liv s.lo) θ w v u := by
  cases x with
  | tmp t =>
    cases e
    exact ⟨_, rfl, h.ev (.tmp t)⟩
  | cell ad t =>
    simp only [resV] at e
    obtain ⟨y, hy, hd⟩ := readV_run h (h.ev (.tmp ad)) e
    refine ⟨y, ?_, hd⟩
    simp only [Act.eval] at hy
    simp only [resOne]
    generalize a.tmps.getD ad undef = z at hy ⊢
    cases z with
    | pointer p =>
      cases p with
      | some p => simpa [Instr.loadAt, Instr.sureAddr, asAddr] using hy
      | none => simp [Instr.loadAt, Instr.sureAddr, stuck, Sem.run, Result.andThen] at hy
    | _ => simp [Instr.loadAt, Instr.sureAddr, stuck, Sem.run, Result.andThen] at hy

theorem resL_run (h : Rep J Am Mi w0 s θ a w) : ∀ {l : List ResultVar} {vs : List V}, (resL P s l).pick = some vs →
    ∃ us, (l.mapM (resOne a.tmps)).run P w = .ok us w ∧ DenL (Stab Am s.lo θ w) (Liv s.lo) θ w vs us
  | [], vs, e => by
    cases e
    exact ⟨[], by simp, .nil⟩
  | x :: l, vs, e => by
    simp only [resL] at e
    rw [T.pick_bind] at e
    obtain ⟨v, hv, e⟩ := e
    rw [T.pick_bind] at e
    obtain ⟨rs, hr, e⟩ := e
    cases e
    obtain ⟨u, hu, hd⟩ := resV_run h hv
    obtain ⟨us, hus, hds⟩ := resL_run h hr
    refine ⟨u :: us, ?_, .cons _ _ _ _ hd hds⟩
    rw [List.mapM_cons]
    simp only [Sem.run_bind, hu, Result.andThen_ok, hus, Sem.run_pure]

theorem outV_run (h : Rep J Am Mi w0 s θ a w) {S' : Nat → Prop} (hS : ∀ b, Stab Am s.lo θ w b → S' b) (hO : ∀ (n : Nat) (o : Ob) (b : Nat), s.lo[n]? = some (some o) → uses θ n o b → S' b)
    {fn : Func} {v : V} (e : (outV P fn s).pick = some v) : ∃ u, (results fn a.tmps).run P w = .ok u w ∧ Den S' NoL th0 w v u := by
  unfold outV at e
  rw [T.pick_bind] at e
  obtain ⟨vs, hvs, e⟩ := e
  obtain ⟨us, hus, hd⟩ := resL_run h hvs
  have hm : (fn.results.mapM (resOne a.tmps)).run P w = .ok us.toArray w := by
    rw [Array.mapM_eq_mapM_toList, Sem.run_map, hus, Result.andThen_ok]
  have hlen := hd.length
  rw [results_eq, Sem.run_bind, hm, Result.andThen_ok]
  split at e
  · rename_i v1
    rw [T.pick_ofOption] at e
    cases hd with
    | cons x u l us' hx hl =>
      cases hl
      exact ⟨u, by simp, letGo_den h (fun _ _ x => x) hS hO hx e⟩
  · rename_i hne
    rw [T.pick_ofOption] at e
    refine ⟨.tuple us.toArray, ?_, letGo_den h (fun _ _ x => x) hS hO (.tup _ _ hd) e⟩
    have : ¬ us.toArray.size = 1 := by
      intro h1
      simp at h1
      rw [h1] at hlen
      match vs, hlen with
      | [x], _ => exact hne x rfl
    rw [dif_neg this]
    rfl

theorem marks_one {fn : Func} {R : Ending → World → Prop} {r : Option Nat} {n : Nat} {m : Nat} {rest : List Deferred} : ∀ (bs : List Nat) {s : St} {w : World}, Rep J Am Mi w0 s θ a w → s.lo[m]? = some (some .deads) → bs.Nodup → (∀ b ∈ bs, b ∈ (θ m).bs ∧ w.heap[b]? = some (.deferred (some []))) →
    (∀ w', Rep J Am Mi w0 s θ a w' → LeavesInM (FW r) n P fn a.tmps R rest .returning w') → LeavesInM (FW r) n P fn a.tmps R ((bs.map fun b => ({ target := .collected b, args := #[] } : Deferred)) ++ rest) .returning w
  | [], s, w, h, _, _, _, hK => hK w h
  | b :: bs, s, w, h, hm, hnd, hb, hK => by
    have hlen : m < s.lo.length := (List.getElem?_eq_some_iff.1 hm).1
    obtain ⟨hb1, hb2⟩ := hb b List.mem_cons_self
    have ht := h.turn m .deads .deads hm (fun b hb => hb) (fun _ _ e => by cases e) (.inr fun _ e => by cases e) (w' := w.putObj b (.deferred none)) rfl rfl rfl (by simp) (fun c hc => World.putObj_heap_other (fun e => hc (by rw [e]; exact hb1))) trivial
    have e : s.lo.set m (some .deads) = s.lo := by
      apply List.ext_getElem?
      intro i
      rw [List.getElem?_set]
      split
      · rename_i e; subst e; exact hm.symm
      · rfl
    rw [e] at ht
    have hnd' := List.nodup_cons.1 hnd
    exact ⟨by simp, .inl ⟨b, _, rfl, run_takeDeferred hb2, marks_one bs ht hm hnd'.2 (fun c hc => by
      obtain ⟨h1, h2⟩ := hb c (List.mem_cons_of_mem _ hc)
      exact ⟨h1, by rw [World.putObj_heap_other (fun e => hnd'.1 (by rw [← e]; exact hc))]; exact h2⟩) hK⟩⟩

theorem marks_leave {fn : Func} {R : Ending → World → Prop} {r : Option Nat} {n : Nat} : ∀ (ds : List Df) {s : St} {w : World} {lo : List (Option Ob)}, Rep J Am Mi w0 s θ a w → dropMarks ds s.lo = some lo →
    (∀ w', Rep J Am Mi w0 { s with lo } θ a w' → ∃ v, (results fn a.tmps).run P w' = .ok v w' ∧ R (.returned v) w') → LeavesInM (FW r) n P fn a.tmps R (ds.flatMap (Df.den θ)) .returning w
  | [], s, w, lo, h, hd, hK => by
    cases hd
    exact hK w h
  | .mark m :: ds, s, w, lo, h, hd, hK => by
    simp only [dropMarks] at hd
    split at hd
    · rename_i hm
      obtain ⟨hnd, hbs⟩ := h.lo m _ hm
      have hlen : m < s.lo.length := (List.getElem?_eq_some_iff.1 hm).1
      have ht := h.turn m .dfr .deads hm (fun b hb => hb) (fun _ _ e => by cases e) (.inr fun _ e => by cases e) (w' := w) rfl rfl rfl rfl (fun b hb => rfl) trivial
      rw [List.flatMap_cons]
      exact marks_one (m := m) (θ m).bs ht (by simp [hlen]) hnd (fun b hb => ⟨hb, hbs b hb⟩) fun w' h' => marks_leave ds h' hd hK
    · cases hd
  | .clo _ _ :: ds, s, w, lo, h, hd, hK => by simp [dropMarks] at hd

/-- What is known of l is known of l'. -/
def Weak (l l' : List V) : Prop := ∀ (S : Nat → Prop) (w : World) (vs : List Value), DenL S NoL th0 w l vs → DenL S NoL th0 w l' vs

/-- A function's contract, out of what its body comes to. -/
theorem specOK_of_bodyW {f : Nat} {fn : Func} {c : Code} {sp : List V → T V} (hΓ : GOK P Γ) (hf : P.funcs[f]? = some fn) (hb : fn.body = some c) (hent : entersB P f = true)
    (hsp : ∀ args r, (∀ x ∈ args, VB x) → (sp args).pick = some r → ∃ args' Λ, Weak args args' ∧ LamOK P c Λ ∧ (funV P Γ Λ fn c args').pick = some r) : SpecOK P f sp := by
  refine ⟨hent, fun S w args0 vals r hSw hgl hSg hd0 hr => (callsIn_wide (n := 0)).1 (callsIn_of_wp_marks hf hb trivial ?_ rfl)⟩
  obtain ⟨args, Λ, hwk, hΛ, he⟩ := hsp args0 r (fun x hx => let ⟨_, h⟩ := hd0.mem x hx; h.vb) hr
  have hd := hwk _ _ _ hd0
  unfold funV at he
  rw [T.pick_bind] at he
  obtain ⟨⟨ex, s1⟩, h1, h2⟩ := he
  have hlen := hd.length
  have hR : Rep (Jt.none P) (fun b => b < w.heap.size ∧ ¬ S b) (fun b => w.heap.size ≤ b) w (initS fn args) th0 { tmps := vals.toArray ++ Array.replicate (fn.ntmps - vals.toArray.size) undef, defers := [] } w := by
    have hS : ∀ b, S b → Stab (fun b => b < w.heap.size ∧ ¬ S b) (initS fn args).lo th0 w b := fun b hb => ⟨hSw b hb, fun hh => hh.2 hb, fun n o ho => by simp [initS] at ho⟩
    have hd' := hd.mono (L' := Liv (initS fn args).lo) hS (fun _ _ => rfl) (fun _ hf => hf.elim) (fun _ hf => hf.elim) (θ' := th0) (w' := w)
    refine ⟨by simp [initS, hlen], fun i v hv => ?_, fun n o ho => by simp [initS] at ho, fun n o b ho => by simp [initS] at ho, fun n m o o' b ho => by simp [initS] at ho, fun b hb => hb, Fr.refl _ _ ⟨fun x hx => Nat.not_le_of_lt (hgl.lt x hx), hgl⟩, fun b hb => hb.1, ⟨fun _ => False, ⟨fun _ hf => hf.elim, fun _ hf => hf.elim⟩, trivial, fun _ _ hf => hf.elim⟩, fun n go adm ho => by simp [initS] at ho, fun x hx hh => hh.2 (hSg x hx), ⟨rfl, fun l hl => (by cases hl)⟩, ⟨rfl, Nat.zero_le _, fun n hn => absurd hn (Nat.not_lt_zero _)⟩, rfl, fun d hd => by simp [initS] at hd⟩
    simp only [initS] at hv
    rw [List.getElem?_append] at hv
    split at hv
    · rename_i hi
      obtain ⟨u, hu, hdu⟩ := hd'.get i v hv
      refine ⟨u, ?_, hdu⟩
      rw [Array.getElem?_append]
      have : i < vals.toArray.size := by simp; omega
      rw [if_pos this]
      simpa using hu
    · rename_i hi
      rw [List.getElem?_replicate] at hv
      split at hv
      · rename_i hi2
        cases hv
        refine ⟨undef, ?_, .any _⟩
        rw [Array.getElem?_append]
        have : ¬ i < vals.toArray.size := by simp; omega
        rw [if_neg this, Array.getElem?_replicate, if_pos (by simp; omega)]
      · cases hv
  refine wpIn_mono (sx_wp hΓ hΛ c [] (initS fn args) (ex, s1) rfl h1 0 _ _ _ _ _ _ _ hR) ?_
  rintro e a' w' ⟨hi, Am', θ', hup, hR'⟩
  simp only at hR'
  have hdone : (leaveV P fn s1).pick = some r → LeavesInM (FW none) 0 P fn a'.tmps (fun e w'' => ∃ v, e = .returned v ∧ Below w.heap.size w w'' ∧ Den (fun b => S b ∨ (w.heap.size ≤ b ∧ b < w''.heap.size)) NoL th0 w'' r v) a'.defers .returning w' := fun ho => by
    unfold leaveV at ho
    split at ho
    · rename_i lo hlo
      rw [hR'.df]
      refine marks_leave s1.df hR' hlo fun w2 hR2 => ?_
      obtain ⟨u, hu, hdu⟩ := outV_run (S' := fun b => S b ∨ (w.heap.size ≤ b ∧ b < w2.heap.size)) hR2 (fun b hb => by
        by_cases hlt : b < w.heap.size
        · exact .inl (Classical.byContradiction fun hn => hb.2.1 (hup b ⟨hlt, hn⟩))
        · exact .inr ⟨by omega, hb.1⟩) (fun n o b ho hu => .inr ⟨(hR2.lt n o b ho hu).2.1, (hR2.lt n o b ho hu).1⟩) ho
      exact ⟨u, hu, u, rfl, ⟨hR2.fr.os, hR2.fr.tape, hR2.fr.output, hR2.fr.size, fun b hb => hR2.fr.block b hb (by omega)⟩, hdu⟩
    · simp [T.pick] at ho
  cases ex <;> cases e <;> simp only [Ex.is] at hi <;> simp only at h2
  · exact hdone h2
  · simp [T.pick] at h2
  · simp [T.pick] at h2
  · exact hdone h2

theorem specOK_of_body {f : Nat} {fn : Func} {c : Code} {sp : List V → T V} (hΓ : GOK P Γ) {Λ : Lam} (hΛ : LamOK P c Λ) (hf : P.funcs[f]? = some fn) (hb : fn.body = some c) (hent : entersB P f = true)
    (hsp : ∀ args r, (sp args).pick = some r → (funV P Γ Λ fn c args).pick = some r) : SpecOK P f sp :=
  specOK_of_bodyW hΓ hf hb hent fun args r _ h => ⟨args, Λ, fun _ _ _ x => x, hΛ, hsp args r h⟩

theorem den_sp {S : Nat → Prop} {k : Nat} {get get' : Nat → SX.Q} (h : ∀ j, j < k → get j = get' j) {v : Value} (hd : DenQ S w (.sp k get) v) : DenQ S w (.sp k get') v := by
  obtain ⟨b, off, u, rfl, h1, h2, h3⟩ := hd.sp_inv
  exact .sp _ _ b off u h1 h2 fun j hj => h j hj ▸ h3 j hj

theorem Weak.sp {k : Nat} {get get' : Nat → SX.Q} (h : ∀ j, j < k → get j = get' j) {l l' : List V} (hl : Weak l l') : Weak (.q (.sp k get) :: l) (.q (.sp k get') :: l') := fun S w vs hd => by
  cases hd with
  | cons x v l vs h1 h2 => exact .cons _ _ _ _ (.q _ _ (den_sp h h1.q_inv)) (hl _ _ _ h2)

theorem Weak.cons {x : V} {l l' : List V} (hl : Weak l l') : Weak (x :: l) (x :: l') := fun S w vs hd => by
  cases hd with
  | cons x v l vs h1 h2 => exact .cons _ _ _ _ h1 (hl _ _ _ h2)

theorem Weak.nil : Weak [] [] := fun _ _ _ h => h

end
end Go.SX

/- Loops: canonical states, what may be forgotten, the rule. -/
namespace Go.SX
open Go.RowKit
set_option linter.unusedVariables false
set_option linter.unusedSimpArgs false
set_option linter.unusedSectionVars false

/-- s says no less than s'. -/
def Sub [GW] (P : Program) (s s' : St) : Prop := ∀ (J : Jt P) (Am Mi : Nat → Prop) (w0 : World) (θ : Th) (a : Act) (w : World), Rep J Am Mi w0 s θ a w → ∃ θ' : Th, Rep J Am Mi w0 s' θ' a w

theorem Sub.refl [GW] {P : Program} (s : St) : Sub P s s := fun _ _ _ _ θ _ _ h => ⟨θ, h⟩
theorem Sub.trans [GW] {P : Program} {s t u : St} (h : Sub P s t) (k : Sub P t u) : Sub P s u := fun _ _ _ _ _ _ _ x => let ⟨_, y⟩ := h _ _ _ _ _ _ _ x; k _ _ _ _ _ _ _ y

def mkTm : Nat → Nat → List (Nat × V) → List V
  | 0, _, _ => []
  | k + 1, i, l => (match look l i with | some v => v | none => .any) :: mkTm k (i + 1) l

/-- The state in which just these slots are known. -/
def mkS (n : Nat) (l : List (Nat × V)) (lo : List (Option Ob)) (df : List Df) (inr : Bool) (ys : List (List V)) (base : Nat) : St := { tm := mkTm n 0 l, lo, df, inr, ys, base }

theorem mkTm_length : ∀ (k i : Nat) (l : List (Nat × V)), (mkTm k i l).length = k
  | 0, _, _ => rfl
  | k + 1, i, l => by simp [mkTm, mkTm_length k (i + 1) l]

theorem mkTm_get : ∀ (k i : Nat) (l : List (Nat × V)) (j : Nat) (v : V), (mkTm k i l)[j]? = some v → v = .any ∨ look l (i + j) = some v
  | 0, _, _, j, v, h => by simp [mkTm] at h
  | k + 1, i, l, 0, v, h => by
    simp only [mkTm, List.getElem?_cons_zero, Option.some.injEq] at h
    cases hl : look l i with
    | none => simp [hl] at h; exact .inl h.symm
    | some x => rw [hl] at h; exact .inr (congrArg some h)
  | k + 1, i, l, j + 1, v, h => by
    simp only [mkTm, List.getElem?_cons_succ] at h
    have := mkTm_get k (i + 1) l j v h
    rwa [show i + 1 + j = i + (j + 1) by omega] at this

/-- Just these slots are kept. -/
def keep (n : Nat) (live : List Nat) (s : St) : St := mkS n (live.map fun i => (i, s.tm.getD i .any)) s.lo s.df s.inr s.ys s.base

theorem look_map (f : Nat → V) : ∀ (live : List Nat) (i : Nat) (v : V), look (live.map fun i => (i, f i)) i = some v → v = f i
  | [], _, _, h => by simp [look] at h
  | k :: l, i, v, h => by
    simp only [List.map_cons, look] at h
    split at h
    · rename_i e
      have : k = i := by simpa using e
      subst this
      simpa using h.symm
    · exact look_map f l i v h

theorem sub_keep [GW] {P : Program} {n : Nat} {s : St} (hn : s.tm.length = n) (live : List Nat) : Sub P s (keep n live s) := fun J Am Mi w0 θ a w h => by
  refine ⟨θ, ?_⟩
  refine h.less (tm := mkTm n 0 (live.map fun i => (i, s.tm.getD i .any))) (by rw [mkTm_length, hn]) fun i v hv => ?_
  rcases mkTm_get _ _ _ _ _ hv with h1 | h1
  · exact .inl h1
  · rw [Nat.zero_add] at h1
    have h2 := look_map (fun i => s.tm.getD i .any) live i v h1
    cases hs : s.tm[i]? with
    | none => left; rw [h2]; simp [List.getD_eq_getElem?_getD, hs]
    | some x => right; rw [h2]; simp [List.getD_eq_getElem?_getD, hs]

/-! ### resources let go -/
def V.w1 (k : Nat) : V → Bool
  | .q _ | .kb _ | .any => true
  | .ptr n _ | .ep n _ _ _ | .own n | .mp n | .yld n => decide (n < k)
  | _ => false

def V.lim (k : Nat) (v : V) : V :=
  match v with
  | .agg l => if l.all (V.w1 k) then .agg l else .any
  | .clo f l => if l.all (V.w1 k) then .clo f l else .any
  | .tup _ => .any
  | v => if V.w1 k v then v else .any

def limOb (k : Nat) : Ob → Ob
  | .map kk ag vk es => .map kk ag vk es
  | .cells t cs => .cells t (cs.map (V.lim k))
  | .vec t ks len get => .vec t ks len get
  | .yl go adm => .yl go adm
  | .dfr => .dfr
  | .deads => .deads
  | .raw x => .raw x
  | .siter b pos => .siter b pos
  | .dead => .dead
  | .gone => .gone
  | .held tm => .held (tm.map (V.lim k))

def limLo (k : Nat) : List (Option Ob) → List (Option Ob)
  | [] => []
  | none :: l => none :: limLo k l
  | some o :: l => some (limOb k o) :: limLo k l

/-- The resources from the name k on are let go. -/
def cutS (k : Nat) (s : St) : St := { tm := s.tm.map (V.lim k), lo := limLo k (s.lo.take k), df := s.df, inr := s.inr, ys := s.ys, base := s.base }

theorem den_w1 {S S' L L' : Nat → Prop} {θ : Th} {w : World} {k : Nat} (hS : ∀ b, S b → S' b) (hL : ∀ n, n < k → L n → L' n) {v : V} {u : Value} (h : Den S L θ w v u) (e : v.w1 k = true) : Den S' L' θ w v u := by
  cases h with
  | any v => exact .any _
  | q x v h => exact .q _ _ (h.mono hS (fun _ _ => rfl))
  | ptr n off h => exact .ptr n off (hL n (by simpa [V.w1] using e) h)
  | ep n sz i j h => exact .ep n sz i j (hL n (by simpa [V.w1] using e) h)
  | kb b => exact .kb b
  | own n a len cap h e' => exact .own n a len cap (hL n (by simpa [V.w1] using e) h) e'
  | mp n h => exact .mp n (hL n (by simpa [V.w1] using e) h)
  | yld n h => exact .yld n (hL n (by simpa [V.w1] using e) h)
  | _ => simp [V.w1] at e

theorem denL_w1 {S S' L L' : Nat → Prop} {θ : Th} {w : World} {k : Nat} (hS : ∀ b, S b → S' b) (hL : ∀ n, n < k → L n → L' n) : ∀ {l : List V} {us : List Value}, DenL S L θ w l us → l.all (V.w1 k) = true → DenL S' L' θ w l us
  | _, _, .nil, _ => .nil
  | _, _, .cons x v l us h hl, e => by
    simp only [List.all_cons, Bool.and_eq_true] at e
    exact .cons _ _ _ _ (den_w1 hS hL h e.1) (denL_w1 hS hL hl e.2)

theorem den_lim {S S' L L' : Nat → Prop} {θ : Th} {w : World} {k : Nat} (hS : ∀ b, S b → S' b) (hL : ∀ n, n < k → L n → L' n) {v : V} {u : Value} (h : Den S L θ w v u) : Den S' L' θ w (v.lim k) u := by
  unfold V.lim
  split
  · split
    · rename_i e
      cases h with
      | agg l vs hl => exact .agg _ _ (denL_w1 hS hL hl e)
    · exact .any _
  · split
    · rename_i e
      cases h with
      | clo f l vs hl => exact .clo _ _ _ (denL_w1 hS hL hl e)
    · exact .any _
  · exact .any _
  · split
    · rename_i e; exact den_w1 hS hL h e
    · exact .any _

theorem denL_lim {S S' L L' : Nat → Prop} {θ : Th} {w : World} {k : Nat} (hS : ∀ b, S b → S' b) (hL : ∀ n, n < k → L n → L' n) : ∀ {l : List V} {us : List Value}, DenL S L θ w l us → DenL S' L' θ w (l.map (V.lim k)) us
  | _, _, .nil => .nil
  | _, _, .cons x v l us h hl => .cons _ _ _ _ (den_lim hS hL h) (denL_lim hS hL hl)

theorem limLo_get (k : Nat) : ∀ (l : List (Option Ob)) (n : Nat), (limLo k l)[n]? = (l[n]?).map (·.map (limOb k))
  | [], n => by simp [limLo]
  | none :: l, 0 => by simp [limLo]
  | some o :: l, 0 => by simp [limLo]
  | none :: l, n + 1 => by simp [limLo, limLo_get k l n]
  | some o :: l, n + 1 => by simp [limLo, limLo_get k l n]

theorem limLo_length (k : Nat) : ∀ (l : List (Option Ob)), (limLo k l).length = l.length
  | [] => rfl
  | none :: l => by simp [limLo, limLo_length k l]
  | some o :: l => by simp [limLo, limLo_length k l]

theorem uses_lim (θ : Th) (n k : Nat) (o : Ob) (b : Nat) : uses θ n (limOb k o) b ↔ uses θ n o b := by cases o <;> rfl

def isRaw : Option Ob → Bool
  | some (.raw _) => true
  | _ => false

theorem sub_cut [GW] {P : Program} {k : Nat} {s : St} (hdf : s.df.all (fun d => d.names.all (fun n => decide (n < k))) = true) (hraw : (s.lo.drop k).all (fun o => !isRaw o) = true) (hbs : s.base ≤ k) : Sub P s (cutS k s) := fun J Am Mi w0 θ a w h => by
  refine ⟨θ, ?_⟩
  have hget : ∀ (n : Nat) (o : Ob), (cutS k s).lo[n]? = some (some o) → n < k ∧ ∃ o', s.lo[n]? = some (some o') ∧ o = limOb k o' := fun n o ho => by
    simp only [cutS, limLo_get, List.getElem?_take] at ho
    split at ho
    · rename_i hlt
      cases hs : s.lo[n]? with
      | none => simp [hs] at ho
      | some q =>
        cases q with
        | none => simp [hs] at ho
        | some o' => simp [hs] at ho; exact ⟨hlt, o', rfl, ho.symm⟩
    · simp at ho
  have hS : ∀ b, Stab Am s.lo θ w b → Stab Am (cutS k s).lo θ w b := fun b hb => ⟨hb.1, hb.2.1, fun n o ho hu => by
    obtain ⟨_, o', ho', rfl⟩ := hget n o ho
    exact hb.2.2 n o' ho' ((uses_lim θ n k o' b).1 hu)⟩
  have hL : ∀ n, n < k → Liv s.lo n → Liv (cutS k s).lo n := fun n hn ⟨o, ho⟩ => ⟨limOb k o, by simp [cutS, limLo_get, List.getElem?_take, hn, ho]⟩
  refine ⟨by simp [cutS, h.size], fun i v hv => ?_, fun n o ho => ?_, fun n o b ho hu => ?_, fun n m o1 o2 b h1 h2 hne hu1 hu2 => ?_, h.mine, h.fr, h.am, ?_, fun n go adm ho => ?_, h.ga, ⟨h.rr.1, fun l hl => ?_⟩, ⟨h.tt.1, by simp only [cutS, limLo_length, List.length_take]; exact Nat.le_min.2 ⟨hbs, h.tt.2.1⟩, h.tt.2.2⟩, h.df, fun d hd n hn => ?_⟩
  · simp only [cutS, List.getElem?_map, Option.map_eq_some_iff] at hv
    obtain ⟨x, hx, rfl⟩ := hv
    obtain ⟨u, hu, hd⟩ := h.tm i x hx
    exact ⟨u, hu, den_lim hS hL hd⟩
  · obtain ⟨_, o', ho', rfl⟩ := hget n o ho
    have := h.lo n o' ho'
    cases o' with
    | map kk ag vk es =>
      obtain ⟨arr, clk, h1, h2⟩ := this
      exact ⟨arr, clk, h1, h2.mono hS (fun _ _ => rfl)⟩
    | cells t cs =>
      obtain ⟨vs, h1, h2⟩ := this
      exact ⟨vs, h1, denL_lim hS hL h2⟩
    | vec t ks len get =>
      rcases this with h1 | ⟨vs, cap, h1, h2, h3, h4, h5, h6⟩
      · exact .inl h1
      · refine .inr ⟨vs, cap, h1, h2, h3, h4, h5, fun i j q hi hq => ?_⟩
        obtain ⟨a1, u, a2, a3⟩ := h6 i j q hi hq
        exact ⟨a1, u, a2, a3.mono hS (fun _ _ => rfl)⟩
    | yl go adm => trivial
    | dfr => exact this
    | deads => trivial
    | raw x => exact this
    | siter b pos => exact this
    | dead => trivial
    | gone => trivial
    | held tm =>
      obtain ⟨us, h1, h2⟩ := this
      exact ⟨us, h1, denL_lim hS hL h2⟩
  · obtain ⟨_, o', ho', rfl⟩ := hget n o ho
    exact h.lt n o' b ho' ((uses_lim θ n k o' b).1 hu)
  · obtain ⟨_, p1, hp1, rfl⟩ := hget n o1 h1
    obtain ⟨_, p2, hp2, rfl⟩ := hget m o2 h2
    exact h.inj n m p1 p2 b hp1 hp2 hne ((uses_lim θ n k p1 b).1 hu1) ((uses_lim θ m k p2 b).1 hu2)
  · refine h.jj.step rfl rfl rfl (Nat.le_refl _) (fun _ _ _ => rfl) (fun b ⟨n, o, ho, hu⟩ => ?_) h.am h.own_am
    obtain ⟨_, o', ho', rfl⟩ := hget n o ho
    have hu' := (uses_lim θ n k o' b).1 hu
    exact ⟨.inl ⟨n, o', ho', hu'⟩, (h.lt n o' b ho' hu').1⟩
  · obtain ⟨_, o', ho', e⟩ := hget n _ ho
    cases o' <;> simp [limOb] at e
    obtain ⟨rfl, rfl⟩ := e
    exact h.yy n _ _ ho'
  · obtain ⟨n, x, hx, hb⟩ := h.rr.2 l hl
    have hnk : n < k := by
      rcases Nat.lt_or_ge n k with hlt | hge
      · exact hlt
      · rw [List.all_eq_true] at hraw
        have := hraw (some (.raw (.loop x))) (List.mem_iff_getElem?.2 ⟨n - k, by rw [List.getElem?_drop, show k + (n - k) = n by omega]; exact hx⟩)
        simp [isRaw] at this
    exact ⟨n, x, by simp [cutS, limLo_get, List.getElem?_take, hnk, hx, limOb], hb⟩
  · rw [List.all_eq_true] at hdf
    have := hdf d hd
    rw [List.all_eq_true] at this
    exact hL n (by simpa using this n hn) (h.dfl d hd n hn)

/-! ### the rule -/
theorem exists_least (p : Nat → Prop) : ∀ n, p n → ∃ m, p m ∧ ∀ k, p k → m ≤ k := by
  intro n
  induction n using Nat.strongRecOn with
  | ind n ih =>
    intro h
    by_cases hc : ∃ k, k < n ∧ p k
    · obtain ⟨k, hk, hp⟩ := hc; exact ih k hk hp
    · exact ⟨n, h, fun k hk => Nat.le_of_not_lt fun hlt => hc ⟨k, hlt, hk⟩⟩

noncomputable def leastOf (p : Nat → Prop) (h : ∃ n, p n) : Nat := Classical.choose (exists_least p h.choose h.choose_spec)
theorem leastOf_spec (p : Nat → Prop) (h : ∃ n, p n) : p (leastOf p h) := (Classical.choose_spec (exists_least p h.choose h.choose_spec)).1
theorem leastOf_le (p : Nat → Prop) (h : ∃ n, p n) (k : Nat) (hk : p k) : leastOf p h ≤ k := (Classical.choose_spec (exists_least p h.choose h.choose_spec)).2 k hk

theorem SemC.sub [GW] {P : Program} {c : Code} {s s' : St} {e : Ex} {t t' : St} (h : SemC P c s (e, t)) (h1 : Sub P s' s) (h2 : Sub P t t') : SemC P c s' (e, t') :=
  fun n J Am Mi w0 θ a w hR => by
    obtain ⟨θ1, hR1⟩ := h1 _ _ _ _ _ _ _ hR
    refine wpIn_mono (h n J Am Mi w0 θ1 a w hR1) fun e' a' w' ⟨hi, Am', θ', hup, hR'⟩ => ?_
    obtain ⟨θ2, hR2⟩ := h2 _ _ _ _ _ _ _ hR'
    exact ⟨hi, Am', θ2, hup, hR2⟩

theorem sem_loop [GW] {P : Program} {b : Code} {ι : Type} (ok : ι → Prop) (S : ι → St) (μ : ι → Nat) (R : ι → Ex × St)
    (hb : ∀ i, ok i → ∃ e s1, SemC P b (S i) (e, s1) ∧ ((e = .normal ∧ ∃ j, ok j ∧ μ j < μ i ∧ Sub P s1 (S j) ∧ R j = R i) ∨ (e ≠ .normal ∧ (R i).1 = e ∧ Sub P s1 (R i).2))) :
    ∀ i, ok i → SemC P (.loop b) (S i) (R i) := by
  intro i0 hi0 n J Am0 Mi w0 θ0 a0 w hR0
  have hdec := Classical.propDecidable
  let Inv : Nat → Act → World → Prop := fun k a w => ∃ i, ok i ∧ R i = R i0 ∧ μ i = k ∧ ∃ (Am : Nat → Prop) (θ : Th), (∀ b, Am0 b → Am b) ∧ Rep J Am Mi w0 (S i) θ a w
  let m : Act → World → Nat := fun a w => if h : ∃ k, Inv k a w then leastOf _ h else 0
  refine wpIn_loop (fun a w => ∃ k, Inv k a w) m ⟨μ i0, i0, hi0, rfl, rfl, Am0, θ0, fun _ x => x, hR0⟩ ?_
  intro a w hI
  have hm : Inv (m a w) a w := by
    show Inv (if h : ∃ k, Inv k a w then leastOf _ h else 0) a w
    rw [dif_pos hI]
    exact leastOf_spec _ hI
  obtain ⟨i, hi, hRi, hk, Am, θ, hup, hR⟩ := hm
  obtain ⟨e, s1, hs, hcase⟩ := hb i hi
  refine wpIn_mono (hs n J Am Mi w0 θ a w hR) ?_
  rintro e' a' w' ⟨hie, Am', θ', hup', hR'⟩
  simp only at hie hR'
  rcases hcase with ⟨rfl, j, hj, hlt, hsub, hRj⟩ | ⟨hne, hRe, hsub⟩
  · cases e' <;> simp only [Ex.is] at hie
    obtain ⟨θ2, hR2⟩ := hsub _ _ _ _ _ _ _ hR'
    have hI' : ∃ k, Inv k a' w' := ⟨μ j, j, hj, hRj.trans hRi, rfl, Am', θ2, fun b hb => hup' b (hup b hb), hR2⟩
    refine ⟨hI', ?_⟩
    show (if h : ∃ k, Inv k a' w' then leastOf _ h else 0) < m a w
    rw [dif_pos hI']
    have : leastOf _ hI' ≤ μ j := leastOf_le _ hI' _ ⟨j, hj, hRj.trans hRi, rfl, Am', θ2, fun b hb => hup' b (hup b hb), hR2⟩
    exact Nat.lt_of_le_of_lt this (hk ▸ hlt)
  · have hp : PostC J Am0 Mi w0 (R i0) e' a' w' := by
      rw [← hRi]
      obtain ⟨θ2, hR2⟩ := hsub _ _ _ _ _ _ _ hR'
      exact ⟨by rw [hRe]; exact hie, Am', θ2, fun b hb => hup' b (hup b hb), hR2⟩
    cases e' with
    | normal => cases e <;> simp only [Ex.is] at hie; exact absurd rfl hne
    | _ => exact hp

/-! ### marks -/
/-- A bundle of marks, empty as yet. -/
def markS (s : St) : St := { s with lo := s.lo ++ [some .dfr], df := .mark s.lo.length :: s.df }

theorem sub_mark [GW] {P : Program} {s : St} : Sub P s (markS s) := fun J Am Mi w0 θ a w h => by
  have hfr : Fresh s s.lo.length := ⟨h.tt.2.1, fun o ho => by simp at ho⟩
  have g := h.gain s.lo.length hfr .dfr (Below.refl _ _) ⟨0, .tuple #[], []⟩ _ rfl (fun _ _ e => by cases e) (fun b hu => by simp [uses] at hu) (fun S L hS hL hθ hw => ⟨by simp, fun b hb => by simp at hb⟩)
  have e : ins s.lo s.lo.length .dfr = s.lo ++ [some .dfr] := by
    apply List.ext_getElem?
    intro i
    simp only [ins, List.getElem?_set, List.getElem?_append, List.length_append, List.length_replicate]
    by_cases hi : s.lo.length = i
    · subst hi; simp
    · rw [if_neg hi]
      by_cases hlt : i < s.lo.length
      · simp [hlt]
      · simp only [hlt, if_false]
        rw [List.getElem?_replicate, if_neg (by omega), List.getElem?_eq_none (by simp; omega)]
  rw [e] at g
  refine ⟨_, g.size, g.tm, g.lo, g.lt, g.inj, g.mine, g.fr, g.am, g.jj, g.yy, g.ga, g.rr, g.tt, ?_, fun d hd n hn => ?_⟩
  · rw [g.df]
    simp [markS, Df.den]
  · simp only [markS, List.mem_cons] at hd
    rcases hd with rfl | hd
    · simp only [Df.names, List.mem_singleton] at hn
      subst hn
      exact ⟨.dfr, by simp [markS]⟩
    · exact g.dfl d hd n hn

def notMark (n m : Nat) : Df → Bool
  | .mark k => !(k == m) && !(k == n)
  | _ => true

def isDfr : Option (Option Ob) → Bool
  | some (some .dfr) => true
  | _ => false

/-- The newest bundle of marks goes into the one below. -/
def mergeDf (s : St) : St :=
  match s.df with
  | .mark n :: .mark m :: rest =>
    if isDfr s.lo[n]? && isDfr s.lo[m]? && !(n == m) && decide (s.base ≤ m) && decide (s.base ≤ n) && rest.all (notMark n m) then { s with df := .mark m :: rest } else s
  | _ => s

theorem isDfr_eq {o : Option (Option Ob)} (h : isDfr o = true) : o = some (some .dfr) := by
  unfold isDfr at h
  split at h
  · rfl
  · cases h

theorem sub_merge [GW] {P : Program} {s : St} : Sub P s (mergeDf s) := fun J Am Mi w0 θ a w h => by
  unfold mergeDf
  split
  · rename_i n m rest hdf
    split
    · rename_i hc
      simp only [Bool.and_eq_true, decide_eq_true_eq, Bool.not_eq_true', beq_eq_false_iff_ne] at hc
      obtain ⟨⟨⟨⟨⟨hn, hm⟩, hnm⟩, hbm⟩, hbn⟩, hrest⟩ := hc
      have hn := isDfr_eq hn
      have hm := isDfr_eq hm
      let θ' : Th := fun k => if k = m then ⟨(θ m).blk, (θ m).sl, (θ n).bs ++ (θ m).bs⟩ else if k = n then ⟨(θ n).blk, (θ n).sl, []⟩ else θ k
      have hbl : ∀ k, (θ' k).blk = (θ k).blk ∧ (θ' k).sl = (θ k).sl := fun k => by
        simp only [θ']
        split
        · rename_i e; subst e; exact ⟨rfl, rfl⟩
        · split
          · rename_i e; subst e; exact ⟨rfl, rfl⟩
          · exact ⟨rfl, rfl⟩
      have hoth : ∀ k, k ≠ m → k ≠ n → θ' k = θ k := fun k hk hk2 => by simp only [θ', if_neg hk, if_neg hk2]
      have hsm : (θ' m).bs = (θ n).bs ++ (θ m).bs := by simp [θ']
      have hsn : (θ' n).bs = [] := by simp [θ', hnm]
      have huse : ∀ (k : Nat) (o : Ob) (b : Nat), s.lo[k]? = some (some o) → uses θ' k o b → (k ≠ m ∧ k ≠ n ∧ uses θ k o b) ∨ (k = m ∧ (uses θ n .dfr b ∨ uses θ m .dfr b)) := fun k o b ho hu => by
        by_cases hk : k = m
        · subst hk
          rw [hm] at ho
          cases ho
          simp only [uses, hsm, List.mem_append] at hu
          exact .inr ⟨rfl, hu⟩
        · by_cases hk2 : k = n
          · subst hk2
            rw [hn] at ho
            cases ho
            simp [uses, hsn] at hu
          · exact .inl ⟨hk, hk2, (uses_congr (hoth k hk hk2) o b).1 hu⟩
      have hown : ∀ b, Own s.lo θ' b → Own s.lo θ b := fun b ⟨k, o, ho, hu⟩ => by
        rcases huse k o b ho hu with ⟨h1, h3, h4⟩ | ⟨_, h4 | h4⟩
        · exact ⟨k, o, ho, h4⟩
        · exact ⟨n, .dfr, hn, h4⟩
        · exact ⟨m, .dfr, hm, h4⟩
      have hS : ∀ b, Stab Am s.lo θ w b → Stab Am s.lo θ' w b := fun b hb => ⟨hb.1, hb.2.1, fun k o ho hu => by
        obtain ⟨k', o', h1, h2⟩ := hown b ⟨k, o, ho, hu⟩
        exact hb.2.2 k' o' h1 h2⟩
      obtain ⟨hnd1, hb1⟩ := h.lo n _ hn
      obtain ⟨hnd2, hb2⟩ := h.lo m _ hm
      refine ⟨θ', h.size, fun i v hv => ?_, fun k o ho => ?_, fun k o b ho hu => ?_, fun k k' o o' b ho ho' hne hu hu' => ?_, h.mine, h.fr, h.am, ?_, fun k go adm ho => by rw [(hbl k).1]; exact h.yy k go adm ho, h.ga, ⟨h.rr.1, fun l hl => ?_⟩, ⟨h.tt.1, h.tt.2.1, fun k hk => ?_⟩, ?_, fun d hd k hk => h.dfl d (by rw [hdf]; exact List.mem_cons_of_mem _ hd) k hk⟩
      · obtain ⟨u, hu, hd⟩ := h.tm i v hv
        exact ⟨u, hu, hd.monoG hS (fun _ _ => rfl) (fun _ x => x) (fun k _ => hbl k)⟩
      · by_cases hk : k = m
        · subst hk
          rw [hm] at ho
          cases ho
          refine ⟨?_, fun b hb => ?_⟩
          · rw [hsm]
            exact List.nodup_append.2 ⟨hnd1, hnd2, fun a ha b hb e => by subst e; exact h.inj n k .dfr .dfr a hn hm hnm ha hb⟩
          · rw [hsm, List.mem_append] at hb
            exact hb.elim (hb1 b) (hb2 b)
        · by_cases hk2 : k = n
          · subst hk2
            rw [hn] at ho
            cases ho
            exact ⟨by rw [hsn]; simp, fun b hb => by rw [hsn] at hb; cases hb⟩
          · exact (h.lo k o ho).monoG hS (fun _ _ => rfl) (fun _ x => x) (fun k _ => hbl k) (hoth k hk hk2) (fun _ _ => rfl)
      · rcases huse k o b ho hu with ⟨h1, h3, h4⟩ | ⟨_, h4 | h4⟩
        · exact h.lt k o b ho h4
        · exact h.lt n _ b hn h4
        · exact h.lt m _ b hm h4
      · rcases huse k o b ho hu with ⟨h1, h3, h4⟩ | ⟨e1, h4⟩ <;> rcases huse k' o' b ho' hu' with ⟨h1', h3', h4'⟩ | ⟨e1', h4'⟩
        · exact h.inj k k' o o' b ho ho' hne h4 h4'
        · rcases h4' with h4' | h4'
          · exact h.inj k n o _ b ho hn h3 h4 h4'
          · exact h.inj k m o _ b ho hm h1 h4 h4'
        · rcases h4 with h4 | h4
          · exact h.inj k' n o' _ b ho' hn h3' h4' h4
          · exact h.inj k' m o' _ b ho' hm h1' h4' h4
        · exact hne (e1.trans e1'.symm)
      · exact h.jj.step rfl rfl rfl (Nat.le_refl _) (fun _ _ _ => rfl) (fun b hb => by
          obtain ⟨k, o, ho, hu⟩ := hown b hb
          exact ⟨.inl ⟨k, o, ho, hu⟩, (h.lt k o b ho hu).1⟩) h.am h.own_am
      · obtain ⟨k, x, hx, hb⟩ := h.rr.2 l hl
        exact ⟨k, x, hx, by rw [(hbl k).1]; exact hb⟩
      · have hk' : k < s.base := hk
        rw [hoth k (by omega) (by omega)]
        exact h.tt.2.2 k hk
      · rw [h.df, hdf]
        simp only [List.flatMap_cons, Df.den, hsm, List.map_append, List.append_assoc]
        congr 2
        refine flatMap_congr' fun d hd => ?_
        rw [List.all_eq_true] at hrest
        have h1 := hrest d hd
        cases d with
        | mark k =>
          simp only [notMark, Bool.and_eq_true, Bool.not_eq_true', beq_eq_false_iff_ne] at h1
          simp only [Df.den, hoth k h1.1 h1.2]
        | clo f caps => simp only [Df.den, (hbl _).1]
    · exact ⟨θ, h⟩
  · exact ⟨θ, h⟩

/-- What a piece of code comes to, by the kernel's reckoning. -/
theorem sem_of_sx [GW] {P : Program} {Γ : Gam} {Λ : Lam} {root : Code} (hΓ : GOK P Γ) (hΛ : LamOK P root Λ) (p : List Nat) {c : Code} (hc : codeAt root p = some c) {s : St} {x : Ex × St} (h : (sx P Γ Λ p c s).pick = some x) : SemC P c s x :=
  sx_wp hΓ hΛ c p s x hc h

end Go.SX

/- Iterators: their contract, and how it is got from the body. -/
namespace Go.SX
open Go.RowKit
set_option linter.unusedVariables false
set_option linter.unusedSimpArgs false
set_option linter.unusedSectionVars false

def hist (x : Nat → List V) (k : Nat) : List (List V) := (List.range k).map x

theorem hist_succ (x : Nat → List V) (k : Nat) : hist x (k + 1) = hist x k ++ [x k] := by simp [hist, List.range_succ]

/-- After k yields there is no more: told to stop, or at the end. -/
structure Stops (go : List (List V) → Bool) (x : Nat → List V) (n k : Nat) : Prop where
  le : k ≤ n
  before : ∀ j, j + 1 < k → go (hist x (j + 1)) = true
  fin : (0 < k ∧ go (hist x k) = false) ∨ (k = n ∧ (0 < k → go (hist x k) = true))

/-- The yields that an iterator may ask for are let in. -/
def Admits (go : List (List V) → Bool) (adm : List (List V) → List V → Bool) (n : Nat) (x : Nat → List V) : Prop :=
  ∀ k, k < n → (∀ j, j < k → go (hist x (j + 1)) = true) → adm (hist x k) (x k) = true

/-- An iterator's contract: at what it has captured it yields x 0, x 1 .. x (n - 1), until it is told to stop. -/
def IterOK [GW] (P : Program) (f : Nat) (sp : List V → T (Nat × (Nat → List V))) : Prop :=
  entersB P f = true ∧ ∀ (J : Jt P) (S : Nat → Prop) (w : World) (caps : List V) (cvals : List Value) (l : Nat) (go : List (List V) → Bool) (adm : List (List V) → List V → Bool) (n : Nat) (x : Nat → List V),
    (∀ b, S b → b < w.heap.size) → GLw w → (∀ g ∈ GW.gl, S g.1) → DenL S NoL th0 w caps cvals → (sp caps).pick = some (n, x) → J.ok l go adm → J.r = none → J.hN = 0 → (∀ b, J.F0 b ↔ (b < w.heap.size ∧ ¬ S b)) →
    J.J [] (fun _ => False) (fun b => b < w.heap.size ∧ ¬ S b) w → Admits go adm n x →
    Calls P f (#[.func (.yield l) #[] #[]] ++ cvals.toArray) w fun e w' => ∃ v k, e = .returned v ∧ Stops go x n k ∧ ∃ F', After (fun b => b < w.heap.size ∧ ¬ S b) F' w w' ∧ J.J (hist x k) (fun _ => False) F' w'

def initI (fn : Func) (caps : List V) (go : List (List V) → Bool) (adm : List (List V) → List V → Bool) : St :=
  { tm := (.yld 0 :: caps) ++ List.replicate (fn.ntmps - (caps.length + 1)) .any, lo := [some (.yl go adm)] }

/-- What a body yields. -/
def itV (P : Program) (Γ : Gam) (Λ : Lam) (fn : Func) (c : Code) (caps : List V) (go : List (List V) → Bool) (adm : List (List V) → List V → Bool) : T (List (List V)) :=
  (sx P Γ Λ [] c (initI fn caps go adm)).bind fun (x : Ex × St) => match x.1 with
    | .normal | .ret => match x.2.lo[0]? with
      | some (some (Ob.yl _ _)) => (leaveV P fn x.2).bind fun _ => .leaf x.2.ys
      | _ => .bad
    | _ => .bad

theorem dropMarks_yl : ∀ (ds : List Df) {lo lo' : List (Option Ob)}, dropMarks ds lo = some lo' → ∀ (n : Nat) (go : List (List V) → Bool) (adm : List (List V) → List V → Bool), lo[n]? = some (some (Ob.yl go adm)) → lo'[n]? = some (some (Ob.yl go adm))
  | [], lo, lo', h, n, go, adm, e => by cases h; exact e
  | .mark m :: ds, lo, lo', h, n, go, adm, e => by
    simp only [dropMarks] at h
    split at h
    · rename_i hm
      refine dropMarks_yl ds h n go adm ?_
      have : m ≠ n := fun x => by rw [x, e] at hm; cases hm
      simp only [List.getElem?_set_ne this]
      exact e
    · cases h
  | .clo _ _ :: ds, lo, lo', h, n, go, adm, e => by simp [dropMarks] at h

theorem iterOK_of_body [GW] {P : Program} {Γ : Gam} {f : Nat} {fn : Func} {c : Code} {sp : List V → T (Nat × (Nat → List V))} (hΓ : GOK P Γ)
    (hf : P.funcs[f]? = some fn) (hb : fn.body = some c) (hent : entersB P f = true)
    (hsp : ∀ caps n x go adm, (∀ x ∈ caps, VB x) → (sp caps).pick = some (n, x) → Admits go adm n x → ∃ caps' Λ k, Weak caps caps' ∧ LamOK P c Λ ∧ Stops go x n k ∧ (itV P Γ Λ fn c caps' go adm).pick = some (hist x k)) : IterOK P f sp := by
  refine ⟨hent, fun J S w caps0 cvals l go adm n x hSw hgl hSg hd0 hr hok hJr hJN hF0 hj hadm => (callsIn_wide (n := 0)).1 (callsIn_of_wp_marks hf hb trivial ?_ rfl)⟩
  obtain ⟨caps, Λ, k, hwk, hΛ, hst, he⟩ := hsp caps0 n x go adm (fun x hx => let ⟨_, h⟩ := hd0.mem x hx; h.vb) hr hadm
  have hd := hwk _ _ _ hd0
  unfold itV at he
  rw [T.pick_bind] at he
  obtain ⟨⟨ex, s1⟩, h1, h2⟩ := he
  have hlen := hd.length
  have hR : Rep J (fun b => b < w.heap.size ∧ ¬ S b) (fun b => ¬ S b) w (initI fn caps go adm) (fun _ => ⟨l, .tuple #[], []⟩)
      { tmps := (#[.func (.yield l) #[] #[]] ++ cvals.toArray) ++ Array.replicate (fn.ntmps - (#[Value.func (.yield l) #[] #[]] ++ cvals.toArray).size) undef, defers := [] } w := by
    have hlo : ∀ (n : Nat) (o : Ob), (initI fn caps go adm).lo[n]? = some (some o) → n = 0 ∧ o = .yl go adm := fun n o ho => by
      cases n with
      | zero => simp [initI] at ho; exact ⟨rfl, ho.symm⟩
      | succ n => simp [initI] at ho
    have hS : ∀ b, S b → Stab (fun b => b < w.heap.size ∧ ¬ S b) (initI fn caps go adm).lo (fun _ => ⟨l, .tuple #[], []⟩) w b := fun b hb => ⟨hSw b hb, fun hh => hh.2 hb, fun n o ho hu => by
      obtain ⟨_, rfl⟩ := hlo n o ho
      exact hu⟩
    have hd0 := hd.mono (L' := Liv (initI fn caps go adm).lo) hS (fun _ _ => rfl) (fun _ hf => hf.elim) (fun _ hf => hf.elim) (θ' := (fun _ => ⟨l, .tuple #[], []⟩)) (w' := w)
    have hd' : DenL (Stab (fun b => b < w.heap.size ∧ ¬ S b) (initI fn caps go adm).lo (fun _ => ⟨l, .tuple #[], []⟩) w) (Liv (initI fn caps go adm).lo) (fun _ => ⟨l, .tuple #[], []⟩) w (.yld 0 :: caps) (.func (.yield l) #[] #[] :: cvals) :=
      .cons _ _ _ _ (.yld 0 ⟨_, rfl⟩) hd0
    have hsz : (#[Value.func (.yield l) #[] #[]] ++ cvals.toArray) = (Value.func (.yield l) #[] #[] :: cvals).toArray := by simp
    rw [hsz]
    refine ⟨by simp only [initI, List.length_append, List.length_cons, List.length_replicate, Array.size_append, Array.size_replicate, List.size_toArray]; omega, fun i v hv => ?_, fun n o ho => ?_, fun n o b ho hu => ?_, fun n m o o' b ho ho' hne hu => ?_, fun b hb hs => absurd (hSw b hs) (by omega), Fr.refl _ _ ⟨fun g hg hn => hn (hSg g hg), hgl⟩, fun b hb => hb.1,
      ⟨fun b => b < w.heap.size ∧ ¬ S b, ⟨fun _ h => h, fun b h => (hF0 b).1 h⟩, J.closed _ _ _ _ _ _ hj rfl rfl rfl (Nat.le_refl _) (fun _ _ _ => rfl) (fun b ⟨hnf, hh⟩ => hh.elim (fun ⟨n, o, ho, hu⟩ => by obtain ⟨_, rfl⟩ := hlo n o ho; exact hu.elim) fun hh => absurd hh hnf), fun b hb hf => hf.2⟩, fun n go' adm' ho => ?_, fun g hg hh => hh.2 (hSg g hg), ⟨by rw [hJr]; rfl, fun l hl => (by rw [hJr] at hl; cases hl)⟩, ⟨hJN, Nat.zero_le _, fun n hn => absurd hn (Nat.not_lt_zero _)⟩, rfl, fun d hd => by simp [initI] at hd⟩
    · simp only [initI] at hv
      rw [List.getElem?_append] at hv
      split at hv
      · rename_i hi
        obtain ⟨u, hu, hdu⟩ := hd'.get i v hv
        refine ⟨u, ?_, hdu⟩
        rw [Array.getElem?_append]
        have : i < (Value.func (.yield l) #[] #[] :: cvals).toArray.size := by simp only [List.size_toArray]; rw [← hd'.length]; exact hi
        rw [if_pos this]
        simpa using hu
      · rename_i hi
        rw [List.getElem?_replicate] at hv
        split at hv
        · rename_i hi2
          cases hv
          refine ⟨undef, ?_, .any _⟩
          rw [Array.getElem?_append]
          have hl2 := hd'.length
          have : ¬ i < (Value.func (.yield l) #[] #[] :: cvals).toArray.size := by simp only [List.size_toArray]; omega
          rw [if_neg this, Array.getElem?_replicate, if_pos (by simp only [List.size_toArray, List.length_cons] at *; omega)]
        · cases hv
    · obtain ⟨_, rfl⟩ := hlo n o ho; trivial
    · obtain ⟨_, rfl⟩ := hlo n o ho; exact hu.elim
    · obtain ⟨_, rfl⟩ := hlo n o ho; exact hu.elim
    · obtain ⟨rfl, e⟩ := hlo n _ ho
      cases e
      exact hok
  have hwp := sx_wp hΓ hΛ c [] (initI fn caps go adm) (ex, s1) rfl h1 0 _ _ _ _ _ _ _ hR
  rw [hJr] at hwp
  refine wpIn_mono hwp ?_
  rintro e a' w' ⟨hi, Am', θ', hup, hR'⟩
  simp only at hR'
  have hdone : (match s1.lo[0]? with
      | some (some (Ob.yl _ _)) => (leaveV P fn s1).bind fun _ => T.leaf s1.ys
      | _ => .bad).pick = some (hist x k) → LeavesInM (FW none) 0 P fn a'.tmps (fun e w' => ∃ v k, e = .returned v ∧ Stops go x n k ∧ ∃ F', After (fun b => b < w.heap.size ∧ ¬ S b) F' w w' ∧ J.J (hist x k) (fun _ => False) F' w') a'.defers .returning w' := fun ho => by
    split at ho
    · rename_i go' adm' hyl
      obtain ⟨F2', ⟨_, _⟩, _, hyy⟩ := hR'.jj
      clear hyy
      rw [T.pick_bind] at ho
      obtain ⟨u, ho, hys⟩ := ho
      have hys' : s1.ys = hist x k := Option.some.inj hys
      unfold leaveV at ho
      split at ho
      · rename_i lo hlo
        rw [hR'.df]
        refine marks_leave s1.df hR' hlo fun w2 hR2 => ?_
        obtain ⟨v, hv, _⟩ := outV_run (S' := fun _ => True) hR2 (fun _ _ => trivial) (fun _ _ _ _ _ => trivial) ho
        obtain ⟨F2, ⟨hF2, hF20⟩, hj2, hm2⟩ := hR2.jj
        simp only [hys'] at hj2
        exact ⟨v, hv, v, k, rfl, hst, F2, ⟨hR2.fr.os, hR2.fr.tape, hR2.fr.output, hR2.fr.size, fun b hb hn => hR2.fr.block b hb (fun hs => hn ⟨hb, hs⟩), fun b hb => hF20 b ((hF0 b).2 hb), fun b hb => ⟨by
            by_cases hlt : b < w.heap.size
            · exact .inl ⟨hlt, hm2 b hlt hb⟩
            · exact .inr (by omega), hR2.am b (hF2 b hb)⟩⟩, J.closed _ _ _ _ _ _ hj2 rfl rfl rfl (Nat.le_refl _) (fun _ _ _ => rfl) (fun b hb => hb.elim)⟩
      · simp [T.pick] at ho
    · simp [T.pick] at ho
  cases ex <;> cases e <;> simp only [Ex.is] at hi <;> simp only at h2
  · exact hdone h2
  · simp [T.pick] at h2
  · simp [T.pick] at h2
  · exact hdone h2

end Go.SX

/- The range over a function: the caller's side. -/
namespace Go.SX
open Go.RowKit
set_option linter.unusedVariables false
set_option linter.unusedSimpArgs false
set_option linter.unusedSectionVars false

section
variable [GW] {P : Program} {J : Jt P} {Am Am' Mi : Nat → Prop} {w0 w w' : World} {s s' : St} {θ θ' : Th} {a a' : Act}

/-- What may turn from here on. -/
def Mir (w : World) (lo : List (Option Ob)) (θ : Th) (FJ : Nat → Prop) (b : Nat) : Prop := w.heap.size ≤ b ∨ Own lo θ b ∨ FJ b

/-- The frame is taken anew. -/
theorem Rep.rebase (h : Rep J Am Mi w0 s θ a w) : ∃ FJ : Nat → Prop, (∀ b, FJ b → Am b) ∧ (∀ b, b < w0.heap.size → FJ b → Mi b) ∧ Rep J Am (Mir w s.lo θ FJ) w s θ a w := by
  obtain ⟨F, ⟨h1, h1'⟩, h2, h3⟩ := h.jj
  refine ⟨F, h1, h3, h.size, h.tm, h.lo, fun n o b ho hu => ⟨(h.lt n o b ho hu).1, .inr (.inl ⟨n, o, ho, hu⟩), (h.lt n o b ho hu).2.2⟩, h.inj, fun b hb => .inl hb,
    Fr.refl _ _ ⟨fun x hx hm => ?_, h.fr.glw⟩, h.am, ⟨F, ⟨h1, h1'⟩, h2, fun b _ hf => .inr (.inr hf)⟩, h.yy, h.ga, h.rr, h.tt, h.df, h.dfl⟩
  rcases hm with hm | ⟨n, o, ho, hu⟩ | hm
  · exact absurd (h.fr.glw.lt x hx) (by omega)
  · exact h.fr.gl.1 x hx (h.lt n o _ ho hu).2.1
  · exact h.ga x hx (h1 _ hm)

theorem Rep.mir_mi (h : Rep J Am Mi w0 s θ a w) {FJ : Nat → Prop} (hF : ∀ b, b < w0.heap.size → FJ b → Mi b) : ∀ b, Mir w s.lo θ FJ b → Mi b := fun b hb => by
  rcases hb with hb | ⟨n, o, ho, hu⟩ | hb
  · exact h.mine b (Nat.le_trans h.fr.size hb)
  · exact (h.lt n o b ho hu).2.1
  · by_cases hlt : b < w0.heap.size
    · exact hF b hlt hb
    · exact h.mine b (by omega)

/-- .. and is given back. -/
theorem Rep.back (h : Rep J Am Mi w0 s θ a w) {FJ : Nat → Prop} (hF : ∀ b, b < w0.heap.size → FJ b → Mi b) {J' : Jt P} (h' : Rep J' Am' (Mir w s.lo θ FJ) w s' θ' a' w') : Rep J' Am' Mi w0 s' θ' a' w' := by
  have hm := h.mir_mi hF
  obtain ⟨F, ⟨h1, h1'⟩, h2, h3⟩ := h'.jj
  refine ⟨h'.size, h'.tm, h'.lo, fun n o b ho hu => ⟨(h'.lt n o b ho hu).1, hm b (h'.lt n o b ho hu).2.1, (h'.lt n o b ho hu).2.2⟩, h'.inj, h.mine,
    ⟨h'.fr.os.trans h.fr.os, h'.fr.tape.trans h.fr.tape, h'.fr.output.trans h.fr.output, Nat.le_trans h.fr.size h'.fr.size, fun b hb hn => (h'.fr.block b (Nat.lt_of_lt_of_le hb h.fr.size) (fun hh => hn (hm b hh))).trans (h.fr.block b hb hn), h.fr.gl⟩,
    h'.am, ⟨F, ⟨h1, h1'⟩, h2, fun b hb hf => hm b (h3 b (Nat.lt_of_lt_of_le hb h.fr.size) hf)⟩, h'.yy, h'.ga, h'.rr, h'.tt, h'.df, h'.dfl⟩

/-- What goes on beside, with F named. -/
structure AmbF (J : Jt P) (F : Nat → Prop) (ys : List (List V)) (lo : List (Option Ob)) (θ : Th) (Am Mi : Nat → Prop) (w0 w : World) : Prop where
  am : ∀ b, F b → Am b
  f0 : ∀ b, J.F0 b → F b
  jj : J.J ys (fun b => ¬ F b ∧ (Own lo θ b ∨ Am b)) F w
  mi : ∀ b, b < w0.heap.size → F b → Mi b

theorem AmbF.amb {F : Nat → Prop} {ys : List (List V)} {lo : List (Option Ob)} (h : AmbF J F ys lo θ Am Mi w0 w) : Amb J ys lo θ Am Mi w0 w := ⟨F, ⟨h.am, h.f0⟩, h.jj, h.mi⟩

theorem AmbF.others {F : Nat → Prop} {ys : List (List V)} {lo : List (Option Ob)} (h : AmbF J F ys lo θ Am Mi w0 w) {O O0 : Nat → Prop} (hsz : w.heap.size ≤ w'.heap.size) (hos : w'.os = w.os) (htp : w'.tape = w.tape) (hout : w'.output = w.output)
    (hO0 : ∀ b, O0 b → Am b ∧ ¬ F b) (hb : ∀ b, b < w.heap.size → ¬ O0 b → w'.heap[b]? = w.heap[b]?) (hO : ∀ b, O b → (O0 b ∨ w.heap.size ≤ b) ∧ b < w'.heap.size)
    (hown : ∀ b, Own lo θ b → b < w.heap.size) (ham : ∀ b, Am b → b < w.heap.size) : AmbF J F ys lo θ (fun b => Am b ∨ O b) Mi w0 w' where
  am := fun b hf => .inl (h.am b hf)
  f0 := h.f0
  mi := h.mi
  jj := J.closed _ _ _ _ _ _ h.jj hos htp hout hsz (fun b hlt hn => hb b hlt fun h0 => hn ⟨(hO0 b h0).2, .inr (hO0 b h0).1⟩) (fun b ⟨hnf, hh⟩ => by
    rcases hh with hh | hh | hh
    · exact ⟨.inl ⟨hnf, .inl hh⟩, Nat.lt_of_lt_of_le (hown b hh) hsz⟩
    · exact ⟨.inl ⟨hnf, .inr hh⟩, Nat.lt_of_lt_of_le (ham b hh) hsz⟩
    · exact ⟨(hO b hh).1.imp (fun h0 => ⟨hnf, .inr (hO0 b h0).1⟩) id, (hO b hh).2⟩)

/-- The blocks O are another's from now on (new ones, or such as are let alone already). -/
theorem Rep.others (h : Rep J Am Mi w0 s θ a w) {O : Nat → Prop} (hsz : w.heap.size ≤ w'.heap.size) (hos : w'.os = w.os) (htp : w'.tape = w.tape) (hout : w'.output = w.output)
    {O0 : Nat → Prop} (hO0 : ∀ b, O0 b → Am b) (hb : ∀ b, b < w.heap.size → ¬ O0 b → w'.heap[b]? = w.heap[b]?) (hO : ∀ b, O b → (O0 b ∨ w.heap.size ≤ b) ∧ b < w'.heap.size)
    (hj : Amb J s.ys s.lo θ (fun b => Am b ∨ O b) Mi w0 w') (hm0 : ∀ b, b < w0.heap.size → O0 b → Mi b) : Rep J (fun b => Am b ∨ O b) Mi w0 s θ a w' := by
  have hno : ∀ b, b < w.heap.size → ¬ Am b → ¬ (Am b ∨ O b) := fun b hlt hn hh => by
    rcases hh with hh | hh
    · exact hn hh
    · rcases (hO b hh).1 with h1 | h1
      · exact hn (hO0 b h1)
      · omega
  have hS : ∀ b, Stab Am s.lo θ w b → Stab (fun b => Am b ∨ O b) s.lo θ w' b := fun b hb' => ⟨Nat.lt_of_lt_of_le hb'.1 hsz, hno b hb'.1 hb'.2.1, hb'.2.2⟩
  have hw : ∀ b, Stab Am s.lo θ w b → w'.heap[b]? = w.heap[b]? := fun b hb' => hb b hb'.1 (fun h0 => hb'.2.1 (hO0 b h0))
  refine ⟨h.size, fun i v hv => ?_, fun n o ho => ?_, fun n o b ho hu => ?_, h.inj, h.mine, ?_, fun b hb' => ?_, hj, h.yy, fun x hx hh => ?_, h.rr, h.tt, h.df, h.dfl⟩
  · obtain ⟨u, hu, hd⟩ := h.tm i v hv
    exact ⟨u, hu, hd.mono hS hw (fun _ x => x) (fun _ _ => rfl)⟩
  · exact (h.lo n o ho).mono hS hw (fun _ x => x) (fun _ _ => rfl) ⟨o, ho⟩ (fun b hu => hb b (h.lt n o b ho hu).1 (fun h0 => (h.lt n o b ho hu).2.2 (hO0 b h0)))
  · obtain ⟨h1, h2, h3⟩ := h.lt n o b ho hu
    exact ⟨Nat.lt_of_lt_of_le h1 hsz, h2, hno b h1 h3⟩
  · exact ⟨hos.trans h.fr.os, htp.trans h.fr.tape, hout.trans h.fr.output, Nat.le_trans h.fr.size hsz, fun b hlt hn => (hb b (Nat.lt_of_lt_of_le hlt h.fr.size) (fun h0 => hn (hm0 b hlt h0))).trans (h.fr.block b hlt hn), h.fr.gl⟩
  · rcases hb' with hb' | hb'
    · exact Nat.lt_of_lt_of_le (h.am b hb') hsz
    · exact (hO b hb').2
  · rcases hh with hh | hh
    · exact h.ga x hx hh
    · rcases (hO _ hh).1 with h1 | h1
      · exact h.ga x hx (hO0 _ h1)
      · have := h.fr.glw.lt x hx; omega

/-- The ambient part of a round's activation. -/
def Jt.at (J : Jt P) (l N : Nat) (th : Th) : Jt P := { J with r := some l, hN := N, th }

theorem Rep.toRound (h : Rep J Am Mi w0 s θ a w) {l N : Nat} (hraw : ∃ n x, s.lo[n]? = some (some (.raw (.loop x))) ∧ (θ n).blk = l) (hN : N ≤ s.lo.length) {tm : List V} {tmps : Array Value} (hsz : tmps.size = tm.length)
    (htm : ∀ (i : Nat) (v : V), tm[i]? = some v → ∃ u, tmps[i]? = some u ∧ Den (Stab Am s.lo θ w) (Liv s.lo) θ w v u) :
    Rep (J.at l N θ) Am Mi w0 { s with tm, df := [], inr := true, base := N } θ { tmps, defers := [] } w :=
  ⟨hsz, htm, h.lo, h.lt, h.inj, h.mine, h.fr, h.am, h.jj, h.yy, h.ga, ⟨rfl, fun l' hl' => by cases hl'; exact hraw⟩, ⟨rfl, hN, fun _ _ => rfl⟩, rfl, fun d hd => by cases hd⟩

theorem ins_end (lo : List (Option Ob)) (o : Ob) : ins lo lo.length o = lo ++ [some o] := by
  apply List.ext_getElem?
  intro i
  simp only [ins, List.getElem?_set, List.getElem?_append, List.length_append, List.length_replicate]
  by_cases hi : lo.length = i
  · subst hi; simp
  · rw [if_neg hi]
    by_cases hlt : i < lo.length
    · simp [hlt]
    · have h1 : 1 ≤ i - lo.length := by omega
      simp only [hlt, if_false]
      rw [List.getElem?_replicate, if_neg (by omega), List.getElem?_eq_none (by simp; omega)]

def midS (s : St) (L : List (Option Ob)) (Y : List (List V)) (d : Option Ob) (rec : Loop) (tm : List V) : St :=
  { tm, lo := L.take s.lo.length ++ ([some (.held s.tm), d, some (.raw (.loop rec))] ++ L.drop s.lo.length), df := [], inr := true, base := s.lo.length + 3, ys := Y }
theorem mid_self (s : St) (Y : List (List V)) (d : Option Ob) (rec : Loop) (tm : List V) : (midS s s.lo Y d rec tm).lo = s.lo ++ [some (.held s.tm), d, some (.raw (.loop rec))] := by simp [midS]
theorem mid_lt {s : St} {L : List (Option Ob)} {Y : List (List V)} {d : Option Ob} {rec : Loop} {tm : List V} (hL : s.lo.length ≤ L.length) {n : Nat} (h : n < s.lo.length) : (midS s L Y d rec tm).lo[n]? = L[n]? := by
  simp only [midS]
  rw [List.getElem?_append_left (by rw [List.length_take]; omega), List.getElem?_take_of_lt h]
theorem mid_at {s : St} {L : List (Option Ob)} {Y : List (List V)} {d : Option Ob} {rec : Loop} {tm : List V} (hL : s.lo.length ≤ L.length) {i : Nat} (hi : i < 3) : (midS s L Y d rec tm).lo[s.lo.length + i]? = [some (Ob.held s.tm), d, some (.raw (.loop rec))][i]? := by
  have hl : (L.take s.lo.length).length = s.lo.length := by rw [List.length_take]; omega
  simp only [midS]
  rw [List.getElem?_append_right (by omega), hl, show s.lo.length + i - s.lo.length = i by omega, List.getElem?_append_left (by simpa using hi)]
theorem mid_held {s : St} {L : List (Option Ob)} {Y : List (List V)} {d : Option Ob} {rec : Loop} {tm : List V} (hL : s.lo.length ≤ L.length) : (midS s L Y d rec tm).lo[s.lo.length]? = some (some (.held s.tm)) := mid_at (i := 0) hL (by omega)
theorem mid_raw {s : St} {L : List (Option Ob)} {Y : List (List V)} {d : Option Ob} {rec : Loop} {tm : List V} (hL : s.lo.length ≤ L.length) : (midS s L Y d rec tm).lo[s.lo.length + 2]? = some (some (.raw (.loop rec))) := mid_at (i := 2) hL (by omega)
theorem mid_set {s : St} {L : List (Option Ob)} {Y : List (List V)} {d : Option Ob} {rec : Loop} {tm : List V} (hL : s.lo.length ≤ L.length) (o : Option Ob) : (midS s L Y d rec tm).lo.set (s.lo.length + 2) o = L.take s.lo.length ++ ([some (.held s.tm), d, o] ++ L.drop s.lo.length) := by
  have hl : (L.take s.lo.length).length = s.lo.length := by rw [List.length_take]; omega
  simp only [midS]
  rw [List.set_append_right _ _ (by omega), hl, show s.lo.length + 2 - s.lo.length = 2 by omega]
  rfl
theorem mid_len {s : St} {L : List (Option Ob)} {Y : List (List V)} {d : Option Ob} {rec : Loop} {tm : List V} (hL : s.lo.length ≤ L.length) : (midS s L Y d rec tm).lo.length = L.length + 3 := by
  simp only [midS, List.length_append, List.length_take, List.length_drop, List.length_cons, List.length_nil]
  omega

theorem denL_mk {S L : Nat → Prop} : ∀ {l : List V} {us : List Value}, l.length = us.length → (∀ (i : Nat) (v : V), l[i]? = some v → ∃ u, us[i]? = some u ∧ Den S L θ w v u) → DenL S L θ w l us
  | [], [], _, _ => .nil
  | v :: l, u :: us, hl, h => by
    obtain ⟨u', hu', hd⟩ := h 0 v rfl
    cases hu'
    exact .cons _ _ _ _ hd (denL_mk (by simpa using hl) fun i v hv => h (i + 1) v (by simpa using hv))
  | [], _ :: _, hl, _ => by simp at hl
  | _ :: _, [], hl, _ => by simp at hl

theorem Rep.held (h : Rep J Am Mi w0 s θ a w) : DenL (Stab Am s.lo θ w) (Liv s.lo) θ w s.tm a.tmps.toList :=
  denL_mk (by simp [h.size]) fun i v hv => by
    obtain ⟨u, hu, hd⟩ := h.tm i v hv
    exact ⟨u, by simpa using hu, hd⟩

theorem fresh_end (h : Rep J Am Mi w0 s θ a w) : Fresh s s.lo.length := ⟨h.tt.2.1, fun o ho => by simp at ho⟩

/-- The statement is entered where no round is on. -/
theorem Rep.enterO (h : Rep J Am Mi w0 s θ a w) (rec : Loop) : ∃ θ1 : Th, (θ1 (s.lo.length + 1)).bs = [w.heap.size] ∧ (θ1 (s.lo.length + 2)).blk = w.heap.size + 1 ∧ (θ1 s.lo.length).sl = .tuple a.tmps ∧ (∀ n, n < s.lo.length → θ1 n = θ n) ∧
    (∀ b, Own (midS s s.lo s.ys (some .dfr) rec []).lo θ1 b → Own s.lo θ b ∨ w.heap.size ≤ b) ∧
    Rep J Am Mi w0 { s with lo := (midS s s.lo s.ys (some .dfr) rec []).lo } θ1 a ((w.alloc (.deferred (some []))).alloc (.loop rec)) := by
  simp only [mid_self]
  have g1 := h.gain s.lo.length (fresh_end h) (.held s.tm) (Below.refl _ _) ⟨0, .tuple a.tmps, []⟩ _ rfl (fun _ _ e => by cases e) (fun b hu => hu.elim) (fun S L hS hL hθ hw => ⟨a.tmps.toList, by simp, h.held.mono hS hw hL hθ⟩)
  rw [ins_end] at g1
  have g2 := g1.new _ (fresh_end g1) .dfr (.deferred (some [])) ⟨0, .tuple #[], [w.heap.size]⟩ _ rfl (fun _ _ e => by cases e) (fun b hu => by simpa [uses] using hu) (fun S L hS hL hθ hw => by
    refine ⟨by simp, fun b hb => ?_⟩
    simp only [if_true, List.mem_singleton] at hb
    subst hb
    exact World.alloc_heap_new w _)
  rw [ins_end] at g2
  have g3 := g2.new _ (fresh_end g2) (.raw (.loop rec)) (.loop rec) ⟨w.heap.size + 1, .tuple #[], []⟩ _ rfl (fun _ _ e => by cases e) (fun b hu => by simpa [uses] using hu) (fun S L hS hL hθ hw => by
    show _ = _
    simp only [if_true]
    have := World.alloc_heap_new (w.alloc (.deferred (some []))) (.loop rec)
    rwa [World.size_alloc] at this)
  rw [ins_end] at g3
  simp only [List.append_assoc, List.cons_append, List.nil_append, List.length_append, List.length_cons, List.length_nil] at g3
  refine ⟨_, ?_, ?_, ?_, fun n hn => ?_, fun b hb => ?_, g3⟩
  · simp
  · simp
  · simp
  · rw [if_neg (by omega), if_neg (by omega), if_neg (by omega)]
  · have := g3.lt
    obtain ⟨n, o, ho, hu⟩ := hb
    by_cases hlt : n < s.lo.length
    · left
      refine ⟨n, o, by simpa [midS, List.getElem?_append, hlt] using ho, ?_⟩
      rw [uses_congr (θ := θ) (by rw [if_neg (by omega), if_neg (by omega), if_neg (by omega)])] at hu
      exact hu
    · right
      have hn : n = s.lo.length ∨ n = s.lo.length + 1 ∨ n = s.lo.length + 2 := by
        have := (List.getElem?_eq_some_iff.1 ho).1
        simp [midS] at this
        omega
      rcases hn with rfl | rfl | rfl
      · simp [midS, List.getElem?_append] at ho
        subst ho
        exact hu.elim
      · simp [midS, List.getElem?_append] at ho
        subst ho
        simp [uses] at hu
        omega
      · simp [midS, List.getElem?_append] at ho
        subst ho
        simp [uses] at hu
        omega

theorem ins_two (lo : List (Option Ob)) (o : Ob) : ins lo (lo.length + 1) o = lo ++ [none, some o] := by
  apply List.ext_getElem?
  intro i
  simp only [ins, List.getElem?_set, List.getElem?_append, List.length_append, List.length_replicate]
  by_cases hi : lo.length + 1 = i
  · subst hi
    rw [if_pos rfl, if_pos (by omega), if_neg (by omega), show lo.length + 1 - lo.length = 1 by omega]
    rfl
  · rw [if_neg hi]
    by_cases hlt : i < lo.length
    · simp [hlt]
    · simp only [hlt, if_false]
      by_cases h0 : i = lo.length
      · subst h0
        rw [List.getElem?_replicate, if_pos (by omega)]
        simp
      · rw [List.getElem?_replicate, if_neg (by omega), List.getElem?_eq_none (by simp; omega)]

/-- The statement is entered within a round. -/
theorem Rep.enterI (h : Rep J Am Mi w0 s θ a w) (rec : Loop) : ∃ θ1 : Th, (θ1 (s.lo.length + 2)).blk = w.heap.size ∧ (θ1 s.lo.length).sl = .tuple a.tmps ∧ (∀ n, n < s.lo.length → θ1 n = θ n) ∧
    (∀ b, Own (midS s s.lo s.ys none rec []).lo θ1 b → Own s.lo θ b ∨ w.heap.size ≤ b) ∧
    Rep J Am Mi w0 { s with lo := (midS s s.lo s.ys none rec []).lo } θ1 a (w.alloc (.loop rec)) := by
  simp only [mid_self]
  have g1 := h.gain s.lo.length (fresh_end h) (.held s.tm) (Below.refl _ _) ⟨0, .tuple a.tmps, []⟩ _ rfl (fun _ _ e => by cases e) (fun b hu => hu.elim) (fun S L hS hL hθ hw => ⟨a.tmps.toList, by simp, h.held.mono hS hw hL hθ⟩)
  rw [ins_end] at g1
  have g3 := g1.new ((s.lo ++ [some (Ob.held s.tm)]).length + 1) ⟨Nat.le_trans g1.tt.2.1 (Nat.le_succ _), fun o ho => by simp at ho⟩ (.raw (.loop rec)) (.loop rec) ⟨w.heap.size, .tuple #[], []⟩ _ rfl (fun _ _ e => by cases e) (fun b hu => by simpa [uses] using hu) (fun S L hS hL hθ hw => by
    show _ = _
    simp only [if_true]
    exact World.alloc_heap_new w _)
  rw [ins_two] at g3
  simp only [List.append_assoc, List.cons_append, List.nil_append, List.length_append, List.length_cons, List.length_nil] at g3
  refine ⟨_, ?_, ?_, fun n hn => ?_, fun b hb => ?_, g3⟩
  · simp
  · rw [if_neg (by omega), if_pos rfl]
  · rw [if_neg (by omega), if_neg (by omega)]
  · obtain ⟨n, o, ho, hu⟩ := hb
    by_cases hlt : n < s.lo.length
    · left
      refine ⟨n, o, by simpa [midS, List.getElem?_append, hlt] using ho, ?_⟩
      rw [uses_congr (θ := θ) (by rw [if_neg (by omega), if_neg (by omega)])] at hu
      exact hu
    · right
      have hn : n = s.lo.length ∨ n = s.lo.length + 1 ∨ n = s.lo.length + 2 := by
        have := (List.getElem?_eq_some_iff.1 ho).1
        simp [midS] at this
        omega
      rcases hn with rfl | rfl | rfl
      · simp [midS, List.getElem?_append] at ho
        subst ho
        exact hu.elim
      · simp [midS, List.getElem?_append] at ho
      · simp [midS, List.getElem?_append] at ho
        subst ho
        simp [uses] at hu
        omega

/-- Other temporaries, in the same world. -/
theorem Rep.withTm (h : Rep J Am Mi w0 s θ a w) {tm : List V} {tmps : Array Value} (hd : DenL (Stab Am s.lo θ w) (Liv s.lo) θ w tm tmps.toList) :
    Rep J Am Mi w0 { s with tm } θ { a with tmps } w :=
  ⟨by have := hd.length; simpa using this.symm, fun i v hv => by
      obtain ⟨u, hu, hdu⟩ := hd.get i v hv
      exact ⟨u, by simpa using hu, hdu⟩, h.lo, h.lt, h.inj, h.mine, h.fr, h.am, h.jj, h.yy, h.ga, h.rr, h.tt, h.df, h.dfl⟩

def setPs : List V → List Nat → List V → List V
  | tm, p :: ps, v :: vs => setPs (tm.set p v) ps vs
  | tm, _, _ => tm

theorem setPs_den {S L : Nat → Prop} : ∀ (ps : List Nat) {tm vs : List V} {us xs : List Value}, DenL S L θ w tm us → DenL S L θ w vs xs → DenL S L θ w (setPs tm ps vs) (((ps.zip xs).foldl (fun t x => t.setIfInBounds x.1 x.2) us.toArray).toList)
  | [], tm, vs, us, xs, h, hv => by simpa [setPs] using h
  | p :: ps, tm, [], us, xs, h, hv => by cases hv; simpa [setPs] using h
  | p :: ps, tm, v :: vs, us, xs, h, hv => by
    cases hv with
    | cons _ x _ xs hx hxs =>
      simp only [setPs, List.zip_cons_cons, List.foldl_cons]
      have hset : DenL S L θ w (tm.set p v) (us.set p x) := by
        refine denL_mk (by simp [h.length]) fun i y hy => ?_
        rw [List.getElem?_set] at hy
        split at hy
        · rename_i e
          subst e
          split at hy
          · rename_i hl
            cases hy
            exact ⟨x, by rw [List.getElem?_set, if_pos rfl, if_pos (by rw [← h.length]; exact hl)], hx⟩
          · cases hy
        · rename_i e
          obtain ⟨u, hu, hd⟩ := h.get i y hy
          exact ⟨u, by rw [List.getElem?_set, if_neg e]; exact hu, hd⟩
      have := setPs_den ps hset hxs
      simpa using this

end
end Go.SX

/- One round of a range over a function. -/
namespace Go.SX
open Go.RowKit
set_option linter.unusedVariables false
set_option linter.unusedSimpArgs false
set_option linter.unusedSectionVars false

def exCode : Ex → Option Code
  | .normal => none
  | .ret => some .ret
  | .exit i => some (.exit i)
  | .goto l => some (.goto l)

def isNormal : Ex → Bool
  | .normal => true
  | _ => false

/-- The record behind a round. -/
def recOf (rec : Loop) (e : Ex) : Loop := { rec with state := if isNormal e then .ready else .done, pending := exCode e }

section
variable [GW] {P : Program} {Γ : Gam} {Λ : Lam} {root : Code}

/-- One round: what was known between the rounds is known behind it. -/
theorem round_wp (hΓ : GOK P Γ) (hΛ : LamOK P root Λ) {p : List Nat} {g : Operand} {ps : Array Nat} {assign body : Code} (hc : codeAt root p = some (.rangeFunc g ps assign body))
    {J : Jt P} {Am Mi : Nat → Prop} {w0 w : World} {θ : Th} {l : Nat} {s : St} {L L' : List (Option Ob)} {Y Y' : List (List V)} {d : Option Ob} {rec : Loop} {any : List V} {tmps0 tmpsA : Array Value} {args : List V} {vals : List Value} {s1 s2 : St} {e : Ex} {fn : FuncId}
    (hJr : J.r = some l) (hJN : J.hN = s.lo.length + 3) (hsl : (J.th s.lo.length).sl = .tuple tmps0) (hblk : (J.th (s.lo.length + 2)).blk = l) (hL : s.lo.length ≤ L.length) (hL' : s.lo.length ≤ L'.length) (hready : rec.state = .ready) (hpend : rec.pending = none)
    (h : Rep J Am Mi w0 (midS s L Y d rec any) θ { tmps := tmpsA, defers := [] } w)
    (hargs : DenL (Stab Am (midS s L Y d rec any).lo θ w) (Liv (midS s L Y d rec any).lo) θ w args vals)
    (hs1 : (sx P Γ Λ (0 :: p) assign (midS s L Y d rec (setPs s.tm ps.toList args))).pick = some (.normal, s1)) (hraw : s1.lo[s.lo.length + 2]? = some (some (.raw (.loop rec))))
    (hs2 : (sx P Γ Λ (1 :: p) body { s1 with lo := s1.lo.set (s.lo.length + 2) (some (.raw (.loop { rec with state := .busy }))) }).pick = some (e, s2))
    {any' : List V} (hsub : Sub P s2 (midS s L' Y' d { rec with state := .busy } any')) {n : Nat} {R : Ending → World → Prop}
    (hK : ∀ Am' θ' a' w', (∀ b, Am b → Am' b) → Rep J Am' Mi w0 (midS s L' Y' d (recOf rec e) any') θ' a' w' → R (.returned (.bool (isNormal e))) w') :
    RoundIn (FW none) n P l fn ((ps.zip vals.toArray).foldl (fun t x => t.setIfInBounds x.1 x.2) tmps0) assign body w R := by
  have hca : codeAt root (0 :: p) = some assign := by simp [codeAt, hc, child]
  have hcb : codeAt root (1 :: p) = some body := by simp [codeAt, hc, child]
  have hnames : ∀ {J' : Jt P} {Am' : Nat → Prop} {θ' : Th} {s' : St} {a' : Act} {w' : World}, J'.th = J.th → s'.base = s.lo.length + 3 → Rep J' Am' Mi w0 s' θ' a' w' → (θ' (s.lo.length + 2)).blk = l := fun hth hb hr => by
    rw [hr.tt.2.2 _ (by omega), hth, hblk]
  have hheld := h.lo s.lo.length (.held s.tm) (mid_held hL)
  obtain ⟨us, hus, hden⟩ := hheld
  have hus' : us.toArray = tmps0 := by
    rw [h.tt.2.2 _ (show s.lo.length < s.lo.length + 3 by omega), hsl] at hus
    exact (Value.tuple.inj hus).symm
  have hR := h.withTm (tmps := (ps.zip vals.toArray).foldl (fun t x => t.setIfInBounds x.1 x.2) tmps0) (by
    have := setPs_den ps.toList hden hargs
    rw [hus'] at this
    have e : (ps.zip vals.toArray).foldl (fun t x => t.setIfInBounds x.1 x.2) tmps0 = (ps.toList.zip vals).foldl (fun t x => t.setIfInBounds x.1 x.2) tmps0 := by
      rw [← Array.foldl_toList]; simp
    rw [e]
    exact this)
  have hw := sx_wp hΓ hΛ assign (0 :: p) _ _ hca hs1 n J Am Mi w0 θ _ w hR
  rw [hJr] at hw
  refine roundIn_of_wpIn trivial (wpIn_mono hw ?_)
  rintro e1 a1 w1 ⟨hi, Am1, θ1, hup1, hR1⟩
  cases e1 <;> simp only [Ex.is] at hi
  have hb1 := hnames rfl (hR1.tt.1.symm.trans hJN) hR1
  have hrec : w1.heap[l]? = some (.loop rec) := by
    have := hR1.lo _ _ hraw
    simp only [Holds, hb1] at this
    exact this
  have hlt1 : l < w1.heap.size := (Array.getElem?_eq_some_iff.1 hrec).1
  refine ⟨_, run_beginRound hrec hready, ?_⟩
  have hR2 := hR1.turn (s.lo.length + 2) _ (.raw (.loop { rec with state := .busy })) hraw (fun b hb => hb) (fun _ _ e => by cases e) (.inl ⟨_, rfl⟩) (w' := w1.putObj l (.loop { rec with state := .busy })) rfl rfl rfl (by simp)
    (fun b hb => World.putObj_heap_other (fun e => hb (by simp only [uses, hb1]; exact e))) (by simp only [Holds, hb1]; exact World.putObj_heap_same hlt1)
  have hw2 := sx_wp hΓ hΛ body (1 :: p) _ _ hcb hs2 n J Am1 Mi w0 θ1 a1 _ hR2
  rw [hJr] at hw2
  refine wpIn_mono hw2 ?_
  rintro e2 a2 w2 ⟨hi2, Am2, θ2, hup2, hR3⟩
  obtain ⟨θ3, hR4⟩ := hsub _ _ _ _ _ _ _ hR3
  have hb4 := hnames rfl rfl hR4
  have hraw4 : (midS s L' Y' d { rec with state := .busy } any').lo[s.lo.length + 2]? = some (some (.raw (.loop { rec with state := .busy }))) := mid_raw hL'
  have hrec4 : w2.heap[l]? = some (.loop { rec with state := .busy }) := by
    have := hR4.lo _ _ hraw4
    simp only [Holds, hb4] at this
    exact this
  have hlt4 : l < w2.heap.size := (Array.getElem?_eq_some_iff.1 hrec4).1
  have fin : ∀ jump : Option Code, jump = exCode e → jump.isNone = isNormal e → ∃ v w', (Instr.endRound l jump).run P w2 = .ok v w' ∧ R (.returned v) w' := fun jump hj hn => by
    have hR5 := hR4.turn (s.lo.length + 2) _ (.raw (.loop (recOf rec e))) hraw4 (fun b hb => hb) (fun _ _ e => by cases e) (.inl ⟨_, rfl⟩) (w' := w2.putObj l (.loop (recOf rec e))) rfl rfl rfl (by simp)
      (fun b hb => World.putObj_heap_other (fun e => hb (by simp only [uses, hb4]; exact e))) (by simp only [Holds, hb4]; exact World.putObj_heap_same hlt4)
    have hlo : (midS s L' Y' d { rec with state := .busy } any').lo.set (s.lo.length + 2) (some (.raw (.loop (recOf rec e)))) = (midS s L' Y' d (recOf rec e) any').lo := mid_set hL' _
    rw [hlo] at hR5
    refine ⟨_, _, run_endRound jump hrec4, ?_⟩
    rw [hn]
    have := hK _ _ _ _ (fun b hb => hup2 b (hup1 b hb)) hR5
    simpa [recOf, hj, hn] using this
  cases e <;> cases e2 <;> simp only [Ex.is] at hi2
  · exact fin none rfl rfl
  · subst hi2; exact fin _ rfl rfl
  · subst hi2; exact fin _ rfl rfl
  · exact fin _ rfl rfl
end
end Go.SX

/- The range over a function: what goes on beside the iterator. -/
namespace Go.SX
open Go.RowKit
set_option linter.unusedVariables false
set_option linter.unusedSimpArgs false
set_option linter.unusedSectionVars false

section
variable [GW] {P : Program} {J : Jt P} {Am Am' Mi : Nat → Prop} {w0 w w' : World} {s s' : St} {θ θ' : Th} {a a' : Act}

theorem Rep.lessAm (h : Rep J Am Mi w0 s θ a w) (hA : ∀ b, Am' b → Am b) (hj : Amb J s.ys s.lo θ Am' Mi w0 w) : Rep J Am' Mi w0 s θ a w := by
  have hS : ∀ b, Stab Am s.lo θ w b → Stab Am' s.lo θ w b := fun b hb => ⟨hb.1, fun hh => hb.2.1 (hA b hh), hb.2.2⟩
  refine ⟨h.size, fun i v hv => ?_, fun n o ho => ?_, fun n o b ho hu => ⟨(h.lt n o b ho hu).1, (h.lt n o b ho hu).2.1, fun hh => (h.lt n o b ho hu).2.2 (hA b hh)⟩, h.inj, h.mine, h.fr, fun b hb => h.am b (hA b hb), hj, h.yy, fun x hx hh => h.ga x hx (hA _ hh), h.rr, h.tt, h.df, h.dfl⟩
  · obtain ⟨u, hu, hd⟩ := h.tm i v hv
    exact ⟨u, hu, hd.mono hS (fun _ _ => rfl) (fun _ x => x) (fun _ _ => rfl)⟩
  · exact (h.lo n o ho).mono hS (fun _ _ => rfl) (fun _ x => x) (fun _ _ => rfl) ⟨o, ho⟩ (fun _ _ => rfl)

theorem AmbF.lessAm {F : Nat → Prop} {ys : List (List V)} {lo : List (Option Ob)} (h : AmbF J F ys lo θ Am Mi w0 w) (hA : ∀ b, Am' b → Am b) (hF : ∀ b, F b → Am' b)
    (hown : ∀ b, Own lo θ b → b < w.heap.size) (ham : ∀ b, Am b → b < w.heap.size) : AmbF J F ys lo θ Am' Mi w0 w where
  am := hF
  f0 := h.f0
  mi := h.mi
  jj := J.closed _ _ _ _ _ _ h.jj rfl rfl rfl (Nat.le_refl _) (fun _ _ _ => rfl) (fun b ⟨hnf, hh⟩ => by
    rcases hh with hh | hh
    · exact ⟨.inl ⟨hnf, .inl hh⟩, hown b hh⟩
    · exact ⟨.inl ⟨hnf, .inr (hA b hh)⟩, ham b (hA b hh)⟩)

theorem Rep.rebaseF (h : Rep J Am Mi w0 s θ a w) {F : Nat → Prop} (hF : AmbF J F s.ys s.lo θ Am Mi w0 w) : Rep J Am (Mir w s.lo θ F) w s θ a w := by
  refine ⟨h.size, h.tm, h.lo, fun n o b ho hu => ⟨(h.lt n o b ho hu).1, .inr (.inl ⟨n, o, ho, hu⟩), (h.lt n o b ho hu).2.2⟩, h.inj, fun b hb => .inl hb,
    Fr.refl _ _ ⟨fun x hx hm => ?_, h.fr.glw⟩, h.am, ⟨F, ⟨hF.am, hF.f0⟩, hF.jj, fun b _ hf => .inr (.inr hf)⟩, h.yy, h.ga, h.rr, h.tt, h.df, h.dfl⟩
  rcases hm with hm | ⟨n, o, ho, hu⟩ | hm
  · exact absurd (h.fr.glw.lt x hx) (by omega)
  · exact h.fr.gl.1 x hx (h.lt n o _ ho hu).2.1
  · exact h.ga x hx (hF.am _ hm)

/-- What goes on beside an iterator that a range statement runs: the caller's activation, k rounds on. -/
def JP (J1 : Jt P) (s : St) (d : Option Ob) (any : List V) (LL : Nat → List (Option Ob)) (YY : Nat → List (List V)) (rc : Nat → Loop) (x : Nat → List V) (n : Nat) (Am0 Mi : Nat → Prop) (w0 : World) (B : Nat) (G : Nat → Prop)
    (hh : List (List V)) (O Fo : Nat → Prop) (w : World) : Prop :=
  ∃ (k : Nat) (Am F : Nat → Prop) (θ : Th) (a : Act), hh = hist x k ∧ k ≤ n ∧ B ≤ w.heap.size ∧ (∀ b, Am0 b → Am b) ∧ Rep J1 Am Mi w0 (midS s (LL k) (YY k) d (rc k) any) θ a w ∧
    AmbF J1 F (YY k) (midS s (LL k) (YY k) d (rc k) any).lo θ Am Mi w0 w ∧ (∀ b, O b → Am b ∧ ¬ F b ∧ (B ≤ b ∨ G b)) ∧ (∀ b, (Am b ∨ Own (midS s (LL k) (YY k) d (rc k) any).lo θ b) → Fo b ∨ O b) ∧ (∀ g ∈ GW.gl, ¬ Fo g.1)

theorem JP.closed {J1 : Jt P} {d : Option Ob} {any : List V} {LL : Nat → List (Option Ob)} {YY : Nat → List (List V)} {rc : Nat → Loop} {x : Nat → List V} {n : Nat} {Am0 : Nat → Prop} {B : Nat} {G : Nat → Prop} (hB0 : ∀ b, Am0 b → b < B) (hBw : w0.heap.size ≤ B) (hG : ∀ b, G b → Mi b ∧ ¬ Am0 b) :
    ∀ (h : List (List V)) (O O' F : Nat → Prop) (w w' : World), JP J1 s d any LL YY rc x n Am0 Mi w0 B G h O F w → w'.os = w.os → w'.tape = w.tape → w'.output = w.output → w.heap.size ≤ w'.heap.size →
    (∀ b, b < w.heap.size → ¬ O b → w'.heap[b]? = w.heap[b]?) → (∀ b, O' b → (O b ∨ w.heap.size ≤ b) ∧ b < w'.heap.size) → JP J1 s d any LL YY rc x n Am0 Mi w0 B G h O' F w' := by
  rintro h O O' Fo w w' ⟨k, Am, F, θ, a, hh, hk, hB, hA0, hR, hF, hO, hcov, hgl⟩ hos htp hout hsz hb hO'
  have hown : ∀ b, Own (midS s (LL k) (YY k) d (rc k) any).lo θ b → b < w.heap.size := fun b ⟨n, o, ho, hu⟩ => (hR.lt n o b ho hu).1
  have hF1 := hF.others (O := O') (O0 := O) hsz hos htp hout (fun b h => ⟨(hO b h).1, (hO b h).2.1⟩) hb hO' hown hR.am
  have hR1 := hR.others (O := O') (O0 := O) hsz hos htp hout (fun b h => (hO b h).1) hb hO' hF1.amb (fun b hlt h => (hO b h).2.2.elim (fun h1 => absurd h1 (by omega)) fun h1 => (hG b h1).1)
  have hle : ∀ b, ((Am b ∧ ¬ (O b ∧ ¬ O' b)) ∨ O' b) → (Am b ∨ O' b) := fun b hb => hb.imp (·.1) id
  have hF2 := hF1.lessAm (Am' := fun b => (Am b ∧ ¬ (O b ∧ ¬ O' b)) ∨ O' b) hle (fun b hf => .inl ⟨hF.am b hf, fun hh => (hO b hh.1).2.1 hf⟩) (fun b hb => Nat.lt_of_lt_of_le (hown b hb) hsz) hR1.am
  have hR2 := hR1.lessAm hle hF2.amb
  refine ⟨k, _, F, θ, a, hh, hk, Nat.le_trans hB hsz, fun b hb0 => .inl ⟨hA0 b hb0, fun hh => (hO b hh.1).2.2.elim (fun h1 => by have := hB0 b hb0; omega) fun h1 => (hG b h1).2 hb0⟩, hR2, hF2, fun b hb' => ⟨.inr hb', ?_, ?_⟩, fun b hb' => ?_, hgl⟩
  · intro hf
    rcases (hO' b hb').1 with h1 | h1
    · exact (hO b h1).2.1 hf
    · exact absurd (hR.am b (hF.am b hf)) (by omega)
  · rcases (hO' b hb').1 with h1 | h1
    · exact (hO b h1).2.2
    · exact .inl (by omega)
  · rcases hb' with (⟨h1, h2⟩ | h1) | h1
    · rcases hcov b (.inl h1) with h3 | h3
      · exact .inl h3
      · exact .inr (Classical.byContradiction fun hn => h2 ⟨h3, hn⟩)
    · exact .inr h1
    · rcases hcov b (.inr h1) with h3 | h3
      · exact .inl h3
      · exact absurd (hO b h3).1 (hR.own_am b h1)

theorem hist_length (x : Nat → List V) (k : Nat) : (hist x k).length = k := by simp [hist]

/-- What the user shows of the rounds. -/
structure Rounds [GW] (P : Program) (Γ : Gam) (Λ : Lam) (p : List Nat) (assign body : Code) (ps : List Nat) (s : St) (d : Option Ob) (any : List V) (LL : Nat → List (Option Ob)) (YY : Nat → List (List V)) (x : Nat → List V) (n : Nat) (E : Nat → Ex) : Prop where
  len : ∀ k, s.lo.length ≤ (LL k).length
  args : ∀ k, k < n → (x k).length = ps.length
  round : ∀ k, k < n → (∀ j, j < k → isNormal (E j) = true) → ∀ rec : Loop, ∃ (s1 : St) (s2 : Loop → St), (sx P Γ Λ (0 :: p) assign (midS s (LL k) (YY k) d rec (setPs s.tm ps (x k)))).pick = some (.normal, s1) ∧
    s1.lo[s.lo.length + 2]? = some (some (.raw (.loop rec))) ∧
    (∀ rec' : Loop, (sx P Γ Λ (1 :: p) body { s1 with lo := s1.lo.set (s.lo.length + 2) (some (.raw (.loop rec'))) }).pick = some (E k, s2 rec')) ∧
    ∀ (rec' : Loop), Sub P (s2 rec') (midS s (LL (k + 1)) (YY (k + 1)) d rec' any)

end
end Go.SX

/- The range over a function: the yield's law. -/
namespace Go.SX
open Go.RowKit
set_option linter.unusedVariables false
set_option linter.unusedSimpArgs false
set_option linter.unusedSectionVars false

section
variable [GW] {P : Program} {Γ : Gam} {Λ : Lam} {root : Code} {Mi Am0 : Nat → Prop} {w0 : World} {s : St}

theorem JP.yok (hΓ : GOK P Γ) (hΛ : LamOK P root Λ) {p : List Nat} {g : Operand} {ps : Array Nat} {assign body : Code} (hc : codeAt root p = some (.rangeFunc g ps assign body))
    {J1 : Jt P} {l : Nat} {d : Option Ob} {any : List V} {tmps0 : Array Value} {fn : FuncId} {LL : Nat → List (Option Ob)} {YY : Nat → List (List V)} {rc : Nat → Loop} {x : Nat → List V} {n : Nat} {E : Nat → Ex} {B : Nat} {G : Nat → Prop}
    (hJr : J1.r = some l) (hJN : J1.hN = s.lo.length + 3) (hsl : (J1.th s.lo.length).sl = .tuple tmps0) (hblk : (J1.th (s.lo.length + 2)).blk = l)
    (H : Rounds P Γ Λ p assign body ps.toList s d any LL YY x n E)
    (hrc : ∀ k, (∀ j, j < k → isNormal (E j) = true) → (rc k).state = .ready ∧ (rc k).pending = none ∧ (rc k).fn = fn ∧ (rc k).tmps = tmps0 ∧ (rc k).params = ps ∧ (rc k).assign = assign ∧ (rc k).body = body)
    (hrs : ∀ k, recOf (rc k) (E k) = rc (k + 1)) :
    ∀ (h : List (List V)) (O F : Nat → Prop) (w : World) (args : List V) (vals : List Value), JP J1 s d any LL YY rc x n Am0 Mi w0 B G h O F w → GLw w →
      (∃ k, k < n ∧ h = hist x k ∧ args = x k ∧ ∀ j, j < k → isNormal (E j) = true) → (∀ b, O b → b < w.heap.size ∧ ¬ F b) → (∀ b, F b → b < w.heap.size) →
      DenL (fun b => b < w.heap.size ∧ ¬ F b ∧ ¬ O b) (fun _ => False) th0 w args vals →
      ∃ fn tmps assign body, (Instr.yield l vals.toArray).run P w = .ok (.round l fn tmps assign body) w ∧
        RoundIn (FW none) 0 P l fn tmps assign body w (fun e w' => e = .returned (.bool (isNormal (E h.length))) ∧ ∃ F', After F F' w w' ∧ JP J1 s d any LL YY rc x n Am0 Mi w0 B G (h ++ [args]) O F' w') := by
  rintro h O Fo w args vals ⟨k, Am, F, θ, a, rfl, hk, hB, hA0, hR, hF, hO, hcov, hgl⟩ hglw ⟨k', hk', hh, rfl, hnorm⟩ hOF hFs hd
  have hkk : k = k' := by have := congrArg List.length hh; simpa [hist_length] using this
  subst hkk
  obtain ⟨ta, da⟩ := a
  obtain rfl : da = [] := hR.df
  obtain ⟨r1, r2, r3, r4, r5, r6, r7⟩ := hrc k hnorm
  obtain ⟨s1, s2, e1, e2, e3, e4⟩ := H.round k hk' hnorm (rc k)
  have hbl : (θ (s.lo.length + 2)).blk = l := by rw [hR.tt.2.2 _ (show s.lo.length + 2 < s.lo.length + 3 by omega), hblk]
  have hrec : w.heap[l]? = some (.loop (rc k)) := by
    have := hR.lo (s.lo.length + 2) (.raw (.loop (rc k))) (mid_raw (H.len k))
    simp only [Holds, hbl] at this
    exact this
  have hvl : vals.toArray.size = (rc k).params.size := by
    have h1 := hd.length
    have h2 := H.args k hk'
    rw [r5]
    simp only [List.size_toArray]
    rw [← h1, h2]; simp
  have hy := run_yield (P := P) hrec hvl
  rw [r3, r4, r5, r6, r7] at hy
  refine ⟨_, _, _, _, hy, ?_⟩
  have hRb := hR.rebaseF hF
  have hsub := e4 { rc k with state := .busy }
  have hargs := hd.mono (S' := Stab Am (midS s (LL k) (YY k) d (rc k) any).lo θ w) (L' := Liv (midS s (LL k) (YY k) d (rc k) any).lo) (θ' := θ) (w' := w) (fun b hb => ⟨hb.1, fun hh => (hcov b (.inl hh)).elim hb.2.1 hb.2.2, fun n o ho hu => (hcov b (.inr ⟨n, o, ho, hu⟩)).elim hb.2.1 hb.2.2⟩) (fun _ _ => rfl) (fun _ hf => hf.elim) (fun _ hf => hf.elim)
  refine round_wp hΓ hΛ hc hJr hJN hsl hblk (H.len k) (H.len (k + 1)) r1 r2 hRb hargs e1 e2 (e3 _) hsub ?_
  intro Am' θ' a' w' hup hR'
  rw [hrs] at hR'
  have hcov' : ∀ b, Mir w (midS s (LL k) (YY k) d (rc k) any).lo θ F b → w.heap.size ≤ b ∨ Fo b ∨ O b := fun b hb => hb.imp id fun hh => hh.elim (fun h1 => hcov b (.inr h1)) fun h1 => hcov b (.inl (hF.am b h1))
  have hBk := hR.back hF.mi hR'
  obtain ⟨F', ⟨hF1, hF2⟩, hj, hmi⟩ := hR'.jj
  have hFF : AmbF J1 F' (YY (k + 1)) (midS s (LL (k + 1)) (YY (k + 1)) d (rc (k + 1)) any).lo θ' Am' Mi w0 w' :=
    ⟨hF1, hF2, hj, fun b hb hf => hR.mir_mi hF.mi b (hmi b (Nat.lt_of_lt_of_le hb hR.fr.size) hf)⟩
  have hsz := hR'.fr.size
  have hF2' := hFF.lessAm (Am' := fun b => Am' b ∧ (Am b ∨ w.heap.size ≤ b ∨ Own (midS s (LL k) (YY k) d (rc k) any).lo θ b)) (fun b hb => hb.1) (fun b hf => ⟨hF1 b hf, by
    by_cases hlt : b < w.heap.size
    · rcases hmi b hlt hf with h1 | h1 | h1
      · exact .inr (.inl h1)
      · exact .inr (.inr h1)
      · exact .inl (hF.am b h1)
    · exact .inr (.inl (by omega))⟩) (fun b ⟨n, o, ho, hu⟩ => (hBk.lt n o b ho hu).1) hBk.am
  have hR2 := hBk.lessAm (fun b hb => hb.1) hF2'.amb
  refine ⟨by rw [hist_length], fun b => Fo b ∨ (w.heap.size ≤ b ∧ b < w'.heap.size), ⟨hR'.fr.os, hR'.fr.tape, hR'.fr.output, hsz, fun b hb hn => hR'.fr.block b hb fun hm => ?_, fun b hb => .inl hb, fun b hb => ?_⟩,
    k + 1, _, F', θ', a', (hist_succ x k).symm, hk', Nat.le_trans hB hsz, fun b hb => ⟨hup b (hA0 b hb), .inl (hA0 b hb)⟩, hR2, hF2', fun b hb => ⟨⟨hup b (hO b hb).1, .inl (hO b hb).1⟩, fun hf => ?_, (hO b hb).2.2⟩, fun b hb => ?_, fun g hg hh => ?_⟩
  · rcases hm with hm | hm | hm
    · omega
    · exact (hcov b (.inr hm)).elim hn fun ho => hR.own_am b hm (hO b ho).1
    · exact (hcov b (.inl (hF.am b hm))).elim hn fun ho => (hO b ho).2.1 hm
  · exact hb.elim (fun h1 => ⟨.inl h1, Nat.lt_of_lt_of_le (hFs b h1) hsz⟩) fun h1 => ⟨.inr h1.1, h1.2⟩
  · rcases hmi b (hOF b hb).1 hf with h1 | h1 | h1
    · have := (hOF b hb).1; omega
    · exact hR.own_am b h1 (hO b hb).1
    · exact (hO b hb).2.1 h1
  · rcases hb with ⟨h1, h2 | h2 | h2⟩ | h1
    · exact (hcov b (.inl h2)).imp .inl id
    · exact .inl (.inr ⟨h2, hBk.am b h1⟩)
    · exact (hcov b (.inr h2)).imp .inl id
    · obtain ⟨n, o, ho, hu⟩ := h1
      rcases hcov' b (hR'.lt n o b ho hu).2.1 with h2 | h2 | h2
      · exact .inl (.inr ⟨h2, (hR'.lt n o b ho hu).1⟩)
      · exact .inl (.inl h2)
      · exact .inr h2
  · rcases hh with hh | hh
    · exact hgl g hg hh
    · have := hglw.lt g hg; omega
end
end Go.SX

/- The range over a function: its law. -/
namespace Go.SX
open Go.RowKit
set_option linter.unusedVariables false
set_option linter.unusedSimpArgs false
set_option linter.unusedSectionVars false

/-- The state behind a range statement. -/
def outS (s : St) (L : List (Option Ob)) (Y : List (List V)) : St :=
  { s with lo := L.take s.lo.length ++ ([some (.held s.tm), if s.inr then none else some .dfr, some .dead] ++ L.drop s.lo.length), df := if s.inr then s.df else .mark (s.lo.length + 1) :: s.df, ys := Y }

section
variable [GW] {P : Program} {J : Jt P} {Am Am' Mi : Nat → Prop} {w0 w w' : World} {s : St} {θ θ' : Th} {a a' : Act}

/-- What holds of the resources that a statement's end leans on: they lie as they were. -/
def keepsR : List (Option Ob) → List (Option Ob) → Prop
  | some (.raw x) :: l, o :: l' => o = some (.raw x) ∧ keepsR l l'
  | some (.raw _) :: _, [] => False
  | some .dfr :: l, o :: l' => o = some .dfr ∧ keepsR l l'
  | some .dfr :: _, [] => False
  | _ :: l, _ :: l' => keepsR l l'
  | _ :: _, [] => True
  | [], _ => True

theorem keepsR_raw : ∀ {l l' : List (Option Ob)}, l.length ≤ l'.length → keepsR l l' → ∀ (n : Nat) (x : Obj), l[n]? = some (some (.raw x)) → l'[n]? = some (some (.raw x))
  | [], _, _, _, n, x, h => by simp at h
  | o :: l, [], hl, _, n, x, h => by simp at hl
  | o :: l, o' :: l', hl, hk, n, x, h => by
    have hl' : l.length ≤ l'.length := by simpa using hl
    have hk' : keepsR l l' ∧ ∀ y, o = some (.raw y) → o' = some (.raw y) := by
      cases o with
      | none => exact ⟨hk, fun _ e => by cases e⟩
      | some o =>
        cases o with
        | raw y => exact ⟨hk.2, fun z e => by rw [← e]; exact hk.1⟩
        | dfr => exact ⟨hk.2, fun _ e => by cases e⟩
        | _ => exact ⟨hk, fun _ e => by cases e⟩
    cases n with
    | zero => simp at h; simp [hk'.2 x h]
    | succ n => simpa using keepsR_raw hl' hk'.1 n x (by simpa using h)

/-- The statement is left: the activation goes on where it was. -/
theorem Rep.exitA {Am0 : Nat → Prop} {θ0 θ1 : Th} {a0 a2 : Act} {w00 : World} (h0 : Rep J Am0 Mi w0 s θ0 a0 w00) {l : Nat} {L : List (Option Ob)} {Y : List (List V)} {d : Option Ob} {rec : Loop} {any : List V} {mark : List Deferred}
    (hR : Rep (J.at l (s.lo.length + 3) θ1) Am Mi w0 (midS s L Y d rec any) θ a2 w) (hL : s.lo.length ≤ L.length) (hθ1 : ∀ n, n < s.lo.length → θ1 n = θ0 n) (hsl : (θ1 s.lo.length).sl = .tuple a0.tmps)
    (hk : keepsR s.lo L) (hlv : ∀ d ∈ s.df, ∀ n ∈ d.names, Liv L n) (hd : d = if s.inr then none else some .dfr) (hmark : mark = if s.inr then [] else Df.den θ1 (.mark (s.lo.length + 1))) :
    Rep J Am Mi w0 { s with lo := (midS s L Y d rec any).lo, df := if s.inr then s.df else .mark (s.lo.length + 1) :: s.df, ys := Y } θ { tmps := a0.tmps, defers := mark ++ a0.defers } w := by
  have hth : ∀ n, n < s.lo.length + 3 → θ n = θ1 n := fun n hn => hR.tt.2.2 n hn
  have hth0 : ∀ n, n < s.lo.length → θ n = θ0 n := fun n hn => (hth n (by omega)).trans (hθ1 n hn)
  obtain ⟨us, hus, hden⟩ := hR.lo s.lo.length (.held s.tm) (mid_held hL)
  have hus' : us.toArray = a0.tmps := by
    rw [hth _ (by omega), hsl] at hus
    exact (Value.tuple.inj hus).symm
  have hgetL : ∀ (n : Nat) (o : Ob), n < s.lo.length → L[n]? = some (some o) → (midS s L Y d rec any).lo[n]? = some (some o) := fun n o hn ho => (mid_lt hL hn).trans ho
  refine ⟨h0.size, fun i v hv => ?_, hR.lo, hR.lt, hR.inj, hR.mine, hR.fr, hR.am, hR.jj, hR.yy, hR.ga, ⟨h0.rr.1, fun l' hl' => ?_⟩, ⟨h0.tt.1, ?_, fun n hn => ?_⟩, ?_, fun df hdf n hn => ?_⟩
  · obtain ⟨u, hu, hdu⟩ := hden.get i v hv
    exact ⟨u, by simp only; rw [← hus']; simpa using hu, hdu⟩
  · obtain ⟨n, x, hx, hb⟩ := h0.rr.2 l' hl'
    exact ⟨n, x, hgetL _ _ (List.getElem?_eq_some_iff.1 hx).1 (keepsR_raw hL hk n _ hx), by rw [hth0 n (List.getElem?_eq_some_iff.1 hx).1]; exact hb⟩
  · have := h0.tt.2.1
    rw [mid_len hL]
    show s.base ≤ _
    omega
  · have h1 : n < s.base := hn
    rw [hth0 n (Nat.lt_of_lt_of_le h1 h0.tt.2.1)]
    exact h0.tt.2.2 n h1
  · have e1 : List.flatMap (Df.den θ0) s.df = List.flatMap (Df.den θ) s.df := flatMap_congr' fun d hd => (Df.den_congr d fun m hm => by
      obtain ⟨o, ho⟩ := h0.dfl d hd m hm
      exact hth0 m (List.getElem?_eq_some_iff.1 ho).1).symm
    simp only [hmark, h0.df, e1]
    split
    · rfl
    · rw [List.flatMap_cons]
      simp only [Df.den, hth (s.lo.length + 1) (by omega)]
  · have hlv' : ∀ n, n < s.lo.length → Liv L n → Liv (midS s L Y d rec any).lo n := fun n hn ⟨o, ho⟩ => ⟨o, hgetL n o hn ho⟩
    have hlt : ∀ df ∈ s.df, ∀ n ∈ df.names, n < s.lo.length := fun df hm n hn => by
      obtain ⟨o, ho⟩ := h0.dfl df hm n hn
      exact (List.getElem?_eq_some_iff.1 ho).1
    simp only at hdf
    split at hdf
    · exact hlv' n (hlt df hdf n hn) (hlv df hdf n hn)
    · rename_i hi
      rcases List.mem_cons.1 hdf with rfl | hm
      · simp only [Df.names, List.mem_singleton] at hn
        subst hn
        refine ⟨.dfr, ?_⟩
        have := mid_at (s := s) (L := L) (Y := Y) (d := d) (rec := rec) (tm := any) (i := 1) hL (by omega)
        rw [hd, if_neg hi] at this
        rw [hd, if_neg hi]
        exact this
      · exact hlv' n (hlt df hm n hn) (hlv df hm n hn)

/-- .. and the statement's record is done with. -/
theorem Rep.exitB {L : List (Option Ob)} {Y : List (List V)} {d : Option Ob} {rec : Loop} {any : List V} {l : Nat} (hd : d = if s.inr then none else some .dfr)
    (hR : Rep J Am Mi w0 { s with lo := (midS s L Y d rec any).lo, df := if s.inr then s.df else .mark (s.lo.length + 1) :: s.df, ys := Y } θ a w) (hL : s.lo.length ≤ L.length) (hbl : (θ (s.lo.length + 2)).blk = l)
    (hr : ∀ l', J.r = some l' → l ≠ l') (rec' : Loop) : Rep J Am Mi w0 (outS s L Y) θ a (w.putObj l (.loop rec')) := by
  have hraw : (midS s L Y d rec any).lo[s.lo.length + 2]? = some (some (.raw (.loop rec))) := mid_raw hL
  have ht := hR.turnG (s.lo.length + 2) _ .dead hraw (fun b hb => hb) (fun _ _ e => by cases e) (.inr fun l' hl' x _ => by rw [hbl]; exact hr l' hl') (w' := w.putObj l (.loop rec')) rfl rfl rfl (by simp)
    (fun b hb => World.putObj_heap_other (fun e => hb (by simp only [uses, hbl]; exact e))) trivial
  have e : (midS s L Y d rec any).lo.set (s.lo.length + 2) (some .dead) = (outS s L Y).lo := by
    rw [mid_set hL, outS, hd]
  have e2 : (outS s L Y) = { s with lo := (midS s L Y d rec any).lo.set (s.lo.length + 2) (some .dead), df := if s.inr then s.df else .mark (s.lo.length + 1) :: s.df, ys := Y } := by
    rw [e]; rfl
  rw [e2]
  exact ht

/-- The record, k rounds on. -/
def recs (rec : Loop) (E : Nat → Ex) : Nat → Loop
  | 0 => rec
  | k + 1 => recOf (recs rec E k) (E k)

theorem recs_ok (rec : Loop) (E : Nat → Ex) (hs : rec.state = .ready) (hp : rec.pending = none) : ∀ k, (∀ j, j < k → isNormal (E j) = true) →
    (recs rec E k).state = .ready ∧ (recs rec E k).pending = none ∧ (recs rec E k).fn = rec.fn ∧ (recs rec E k).tmps = rec.tmps ∧ (recs rec E k).params = rec.params ∧ (recs rec E k).assign = rec.assign ∧ (recs rec E k).body = rec.body
  | 0, _ => ⟨hs, hp, rfl, rfl, rfl, rfl, rfl⟩
  | k + 1, h => by
    obtain ⟨h1, h2, h3⟩ := recs_ok rec E hs hp k fun j hj => h j (by omega)
    have he := h k (by omega)
    refine ⟨by simp [recs, recOf, he], ?_, h3⟩
    simp only [recs, recOf]
    cases hE : E k <;> rw [hE] at he <;> simp [isNormal] at he
    rfl

theorem recs_busy (rec : Loop) (E : Nat → Ex) (hs : rec.state = .ready) : ∀ k, (recs rec E k).state ≠ .busy
  | 0 => by simp [recs, hs]
  | k + 1 => by simp only [recs, recOf]; split <;> simp

end
end Go.SX
