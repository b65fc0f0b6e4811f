/- Names handed on: what a newer name stands for, under an older one that is needed no more. -/
import Derived.Test.YtgmeglodnhagdaaGreatDoorSxZ
namespace Go.SX
open Go.RowKit
set_option linter.unusedVariables false
set_option linter.unusedSimpArgs false
set_option linter.unusedSectionVars false

def V.mv1 (a b : Nat) : V → V
  | .ptr n off => if n = a then .ptr b off else if n = b then .any else .ptr n off
  | .ep n sz i j => if n = a then .ep b sz i j else if n = b then .any else .ep n sz i j
  | .own n => if n = a then .own b else if n = b then .any else .own n
  | .mp n => if n = a then .mp b else if n = b then .any else .mp n
  | .yld n => if n = a then .any else if n = b then .any else .yld n
  | .agg _ => .any
  | .clo _ _ => .any
  | .tup _ => .any
  | v => v

def V.mv (a b : Nat) : V → V
  | .agg l => .agg (l.map (V.mv1 a b))
  | .clo f l => .clo f (l.map (V.mv1 a b))
  | .tup l => .tup (l.map (V.mv1 a b))
  | v => V.mv1 a b v

def mvOb (a b : Nat) : Ob → Ob
  | .cells t cs => .cells t (cs.map (V.mv a b))
  | .held tm => .held (tm.map (V.mv a b))
  | o => o

def plainOb : Option (Option Ob) → Bool
  | some (some (.map ..)) => true
  | some (some (.cells ..)) => true
  | some (some (.vec ..)) => true
  | some (some (.siter ..)) => true
  | _ => false

def dropOb : Option (Option Ob) → Bool
  | some (some (.map ..)) => true
  | some (some (.cells ..)) => true
  | some (some (.vec ..)) => true
  | some (some .gone) => true
  | some (some .dead) => true
  | some (some (.siter ..)) => true
  | some none => true
  | _ => false

def mvLo (a b : Nat) (lo : List (Option Ob)) : List (Option Ob) :=
  ((lo.map fun o => o.map (mvOb a b)).set b ((lo.getD a none).map (mvOb a b))).set a none

/-- The name a's resource goes under the name b, whose own is let go. -/
def mvS (a b : Nat) (s : St) : St :=
  if decide (a ≠ b ∧ s.base ≤ b ∧ s.base ≤ a) && plainOb s.lo[a]? && dropOb s.lo[b]? && s.df.all (fun d => d.names.all fun n => decide (n ≠ a ∧ n ≠ b)) then
    { s with tm := s.tm.map (V.mv a b), lo := mvLo a b s.lo }
  else s

theorem den_mv1 {S S' L L' : Nat → Prop} {θ θ' : Th} {w : World} {a b : Nat} (hS : ∀ x, S x → S' x) (hb : θ' b = θ a) (hθ : ∀ n, n ≠ b → θ' n = θ n) (hLa : L a → L' b) (hL : ∀ n, L n → n ≠ a → n ≠ b → L' n) {v : V} {u : Value} (h : Den S L θ w v u) : Den S' L' θ' w (v.mv1 a b) u := by
  cases h with
  | any v => exact .any _
  | q x v h => exact .q _ _ (h.mono hS (fun _ _ => rfl))
  | kb b => exact .kb b
  | lc ks len get cap a n h => exact .lc _ _ _ _ _ _ (h.mono hS (fun _ _ => rfl))
  | ptr n off h =>
    simp only [V.mv1]
    split
    · rename_i e; subst e; rw [← hb]; exact .ptr b off (hLa h)
    · split
      · exact .any _
      · rename_i e1 e2; rw [← hθ n e2]; exact .ptr n off (hL n h e1 e2)
  | ep n sz i j h =>
    simp only [V.mv1]
    split
    · rename_i e; subst e; rw [← hb]; exact .ep b sz i j (hLa h)
    · split
      · exact .any _
      · rename_i e1 e2; rw [← hθ n e2]; exact .ep n sz i j (hL n h e1 e2)
  | own n ad len cap h e' =>
    simp only [V.mv1]
    split
    · rename_i e; subst e; exact .own b _ _ _ (hLa h) (by rw [hb]; exact e')
    · split
      · exact .any _
      · rename_i e1 e2; exact .own n _ _ _ (hL n h e1 e2) (by rw [hθ n e2]; exact e')
  | mp n h =>
    simp only [V.mv1]
    split
    · rename_i e; subst e; rw [← hb]; exact .mp b (hLa h)
    · split
      · exact .any _
      · rename_i e1 e2; rw [← hθ n e2]; exact .mp n (hL n h e1 e2)
  | yld n h =>
    simp only [V.mv1]
    split
    · exact .any _
    · split
      · exact .any _
      · rename_i e1 e2; rw [← hθ n e2]; exact .yld n (hL n h e1 e2)
  | clo f caps vs h => exact .any _
  | agg l vs h => exact .any _
  | tup l vs h => exact .any _

theorem denL_mv1 {S S' L L' : Nat → Prop} {θ θ' : Th} {w : World} {a b : Nat} (hS : ∀ x, S x → S' x) (hb : θ' b = θ a) (hθ : ∀ n, n ≠ b → θ' n = θ n) (hLa : L a → L' b) (hL : ∀ n, L n → n ≠ a → n ≠ b → L' n) : ∀ {l : List V} {us : List Value}, DenL S L θ w l us → DenL S' L' θ' w (l.map (V.mv1 a b)) us
  | _, _, .nil => .nil
  | _, _, .cons x v l us h hl => .cons _ _ _ _ (den_mv1 hS hb hθ hLa hL h) (denL_mv1 hS hb hθ hLa hL hl)

theorem den_mv {S S' L L' : Nat → Prop} {θ θ' : Th} {w : World} {a b : Nat} (hS : ∀ x, S x → S' x) (hb : θ' b = θ a) (hθ : ∀ n, n ≠ b → θ' n = θ n) (hLa : L a → L' b) (hL : ∀ n, L n → n ≠ a → n ≠ b → L' n) {v : V} {u : Value} (h : Den S L θ w v u) : Den S' L' θ' w (v.mv a b) u := by
  cases h with
  | clo f caps vs h => exact .clo _ _ _ (denL_mv1 hS hb hθ hLa hL h)
  | agg l vs h => exact .agg _ _ (denL_mv1 hS hb hθ hLa hL h)
  | tup l vs h => exact .tup _ _ (denL_mv1 hS hb hθ hLa hL h)
  | any v => exact .any _
  | q x v h => exact .q _ _ (h.mono hS (fun _ _ => rfl))
  | kb b => exact .kb b
  | lc ks len get cap a n h => exact .lc _ _ _ _ _ _ (h.mono hS (fun _ _ => rfl))
  | ptr n off h => exact den_mv1 hS hb hθ hLa hL (.ptr n off h)
  | ep n sz i j h => exact den_mv1 hS hb hθ hLa hL (.ep n sz i j h)
  | own n ad len cap h e' => exact den_mv1 hS hb hθ hLa hL (.own n ad len cap h e')
  | mp n h => exact den_mv1 hS hb hθ hLa hL (.mp n h)
  | yld n h => exact den_mv1 hS hb hθ hLa hL (.yld n h)

theorem denL_mv {S S' L L' : Nat → Prop} {θ θ' : Th} {w : World} {a b : Nat} (hS : ∀ x, S x → S' x) (hb : θ' b = θ a) (hθ : ∀ n, n ≠ b → θ' n = θ n) (hLa : L a → L' b) (hL : ∀ n, L n → n ≠ a → n ≠ b → L' n) : ∀ {l : List V} {us : List Value}, DenL S L θ w l us → DenL S' L' θ' w (l.map (V.mv a b)) us
  | _, _, .nil => .nil
  | _, _, .cons x v l us h hl => .cons _ _ _ _ (den_mv hS hb hθ hLa hL h) (denL_mv hS hb hθ hLa hL hl)

theorem holds_mv {S S' L L' : Nat → Prop} {θ θ' : Th} {w : World} {a b n m : Nat} {o : Ob} (hS : ∀ x, S x → S' x) (hb : θ' b = θ a) (hθ : ∀ n, n ≠ b → θ' n = θ n) (hLa : L a → L' b) (hL : ∀ n, L n → n ≠ a → n ≠ b → L' n) (hm : θ' m = θ n) (h : Holds S L θ w n o) : Holds S' L' θ' w m (mvOb a b o) := by
  cases o with
  | map kk ag vk es =>
    obtain ⟨arr, clk, h1, h2⟩ := h
    exact ⟨arr, clk, by rw [hm]; exact h1, h2.mono hS (fun _ _ => rfl)⟩
  | cells t cs =>
    obtain ⟨vs, h1, h2⟩ := h
    exact ⟨vs, by rw [hm]; exact h1, denL_mv hS hb hθ hLa hL h2⟩
  | vec t ks len get =>
    rcases h with ⟨h1, h2⟩ | ⟨vs, cap, h1, h2, h3, h4, h5, h6⟩
    · exact .inl ⟨by rw [hm]; exact h1, h2⟩
    · refine .inr ⟨vs, cap, by rw [hm]; exact h1, by rw [hm]; exact h2, h3, h4, h5, fun i j k hi hk => ?_⟩
      obtain ⟨a, u, b, c⟩ := h6 i j k hi hk
      exact ⟨a, u, b, c.mono hS (fun _ _ => rfl)⟩
  | yl go adm => trivial
  | dfr => exact ⟨by rw [hm]; exact h.1, fun b hb => by rw [hm] at hb; exact h.2 b hb⟩
  | deads => trivial
  | raw x => show _ = _; rw [hm]; exact h
  | siter b pos => show _ = _; rw [hm]; exact h
  | dead => trivial
  | gone => trivial
  | held tm =>
    obtain ⟨us, h1, h2⟩ := h
    exact ⟨us, by rw [hm]; exact h1, denL_mv hS hb hθ hLa hL h2⟩

theorem uses_mv {θ θ' : Th} {a b n m : Nat} (h : θ' m = θ n) (o : Ob) (c : Nat) : uses θ' m (mvOb a b o) c ↔ uses θ n o c := by
  cases o <;> simp [mvOb, uses, h]

theorem sub_mv [GW] {P : Program} (a b : Nat) (s : St) : Sub P s (mvS a b s) := fun J Am Mi w0 θ ac w h => by
  unfold mvS
  split
  · rename_i hc
    simp only [Bool.and_eq_true, decide_eq_true_eq] at hc
    obtain ⟨⟨⟨⟨hab, hbb, hba⟩, hpa⟩, hdb⟩, hdf⟩ := hc
    have hlb : b < s.lo.length := by
      rcases Nat.lt_or_ge b s.lo.length with h1 | h1
      · exact h1
      · rw [List.getElem?_eq_none h1] at hdb; simp [dropOb] at hdb
    have hla : a < s.lo.length := by
      rcases Nat.lt_or_ge a s.lo.length with h1 | h1
      · exact h1
      · rw [List.getElem?_eq_none h1] at hpa; simp [plainOb] at hpa
    have hget : ∀ (n : Nat) (o : Ob), (mvLo a b s.lo)[n]? = some (some o) → (n = b ∧ ∃ o', s.lo[a]? = some (some o') ∧ o = mvOb a b o') ∨ (n ≠ b ∧ n ≠ a ∧ ∃ o', s.lo[n]? = some (some o') ∧ o = mvOb a b o') := fun n o ho => by
      unfold mvLo at ho
      by_cases e1 : a = n
      · subst e1
        rw [List.getElem?_set] at ho
        simp at ho
      · rw [List.getElem?_set_ne e1] at ho
        by_cases e2 : b = n
        · subst e2
          rw [List.getElem?_set_self (by simpa using hlb)] at ho
          simp only [Option.some.injEq, Option.map_eq_some_iff] at ho
          obtain ⟨o', h1, rfl⟩ := ho
          refine .inl ⟨rfl, o', ?_, rfl⟩
          simp only [List.getD_eq_getElem?_getD] at h1
          cases hq : s.lo[a]? with
          | none => simp [hq] at h1
          | some q => simp [hq] at h1; rw [h1]
        · rw [List.getElem?_set_ne e2, List.getElem?_map] at ho
          simp only [Option.map_eq_some_iff] at ho
          obtain ⟨q, h1, h2⟩ := ho
          obtain ⟨o', rfl, rfl⟩ := h2
          exact .inr ⟨fun e => e2 e.symm, fun e => e1 e.symm, o', h1, rfl⟩
    have hput : ∀ (n : Nat) (o : Ob), s.lo[n]? = some (some o) → n ≠ a → n ≠ b → (mvLo a b s.lo)[n]? = some (some (mvOb a b o)) := fun n o ho e1 e2 => by
      unfold mvLo
      rw [List.getElem?_set_ne (fun e => e1 e.symm), List.getElem?_set_ne (fun e => e2 e.symm), List.getElem?_map, ho]
      rfl
    have hputb : ∀ o, s.lo[a]? = some (some o) → (mvLo a b s.lo)[b]? = some (some (mvOb a b o)) := fun o ho => by
      unfold mvLo
      rw [List.getElem?_set_ne hab, List.getElem?_set_self (by simpa using hlb)]
      simp [List.getD_eq_getElem?_getD, ho]
    have hθb : (fun n => if n = b then θ a else θ n) b = θ a := by simp
    have hθ : ∀ n, n ≠ b → (fun n => if n = b then θ a else θ n) n = θ n := fun n hn => by simp [hn]
    have hLa : Liv s.lo a → Liv (mvLo a b s.lo) b := fun ⟨o, ho⟩ => ⟨_, hputb o ho⟩
    have hL : ∀ n, Liv s.lo n → n ≠ a → n ≠ b → Liv (mvLo a b s.lo) n := fun n ⟨o, ho⟩ e1 e2 => ⟨_, hput n o ho e1 e2⟩
    -- where a resource of the new state comes from
    have hfrom : ∀ (n : Nat) (o : Ob), (mvLo a b s.lo)[n]? = some (some o) → ∃ m o', s.lo[m]? = some (some o') ∧ o = mvOb a b o' ∧ (fun n => if n = b then θ a else θ n) n = θ m ∧ (n = b ∧ m = a ∨ n ≠ b ∧ n ≠ a ∧ m = n) := fun n o ho => by
      rcases hget n o ho with ⟨rfl, o', h1, h2⟩ | ⟨e1, e2, o', h1, h2⟩
      · exact ⟨a, o', h1, h2, by simp, .inl ⟨rfl, rfl⟩⟩
      · exact ⟨n, o', h1, h2, by simp [e1], .inr ⟨e1, e2, rfl⟩⟩
    have hS : ∀ x, Stab Am s.lo θ w x → Stab Am (mvLo a b s.lo) (fun n => if n = b then θ a else θ n) w x := fun x hx => ⟨hx.1, hx.2.1, fun n o ho hu => by
      obtain ⟨m, o', h1, rfl, h3, _⟩ := hfrom n o ho
      exact hx.2.2 m o' h1 ((uses_mv h3 o' x).1 hu)⟩
    refine ⟨fun n => if n = b then θ a else θ n, by simp [h.size], fun i v hv => ?_, fun n o ho => ?_, fun n o x ho hu => ?_, fun n m o1 o2 x h1 h2 hne hu1 hu2 => ?_, h.mine, h.fr, h.am, ?_, fun n go adm ho => ?_, h.ga, ⟨h.rr.1, fun l hl => ?_⟩, ⟨h.tt.1, by simp only [mvLo, List.length_set, List.length_map]; exact h.tt.2.1, fun n hn => ?_⟩, ?_, fun d hd n hn => ?_⟩
    · simp only [List.getElem?_map, Option.map_eq_some_iff] at hv
      obtain ⟨x, hx, rfl⟩ := hv
      obtain ⟨u, hu, hd⟩ := h.tm i x hx
      exact ⟨u, hu, den_mv hS hθb hθ hLa hL hd⟩
    · obtain ⟨m, o', h1, rfl, h3, _⟩ := hfrom n o ho
      exact holds_mv hS hθb hθ hLa hL h3 (h.lo m o' h1)
    · obtain ⟨m, o', h1, rfl, h3, _⟩ := hfrom n o ho
      exact h.lt m o' x h1 ((uses_mv h3 o' x).1 hu)
    · obtain ⟨m1, p1, g1, rfl, g3, g4⟩ := hfrom n o1 h1
      obtain ⟨m2, p2, k1, rfl, k3, k4⟩ := hfrom m o2 h2
      refine h.inj m1 m2 p1 p2 x g1 k1 (fun e => hne ?_) ((uses_mv g3 p1 x).1 hu1) ((uses_mv k3 p2 x).1 hu2)
      rcases g4 with ⟨e1, e2⟩ | ⟨e1, e2, e3⟩ <;> rcases k4 with ⟨f1, f2⟩ | ⟨f1, f2, f3⟩ <;> omega
    · refine h.jj.step rfl rfl rfl (Nat.le_refl _) (fun _ _ _ => rfl) (fun x ⟨n, o, ho, hu⟩ => ?_) h.am h.own_am
      obtain ⟨m, o', h1, rfl, h3, _⟩ := hfrom n o ho
      have hu' := (uses_mv h3 o' x).1 hu
      exact ⟨.inl ⟨m, o', h1, hu'⟩, (h.lt m o' x h1 hu').1⟩
    · obtain ⟨m, o', h1, e, h3, _⟩ := hfrom n _ ho
      have : o' = .yl go adm := by cases o' <;> simp [mvOb] at e; obtain ⟨rfl, rfl⟩ := e; rfl
      subst this
      show J.ok ((fun n => if n = b then θ a else θ n) n).blk go adm
      rw [h3]
      exact h.yy m go adm h1
    · obtain ⟨n, x, hx, hb'⟩ := h.rr.2 l hl
      have e1 : n ≠ a := fun e => by subst e; rw [hx] at hpa; simp [plainOb] at hpa
      have e2 : n ≠ b := fun e => by subst e; rw [hx] at hdb; simp [dropOb] at hdb
      exact ⟨n, x, hput n _ hx e1 e2, by simp [e2]; exact hb'⟩
    · have hn' : n < s.base := hn
      have : n ≠ b := fun e => by omega
      simp only [if_neg this]
      exact h.tt.2.2 n hn'
    · rw [h.df]
      refine flatMap_congr' fun d hd => (Df.den_congr d fun m hm => ?_).symm
      have := List.all_eq_true.1 (List.all_eq_true.1 hdf d hd) m hm
      simp only [decide_eq_true_eq] at this
      simp [this.2]
    · have := List.all_eq_true.1 (List.all_eq_true.1 hdf d hd) n hn
      simp only [decide_eq_true_eq] at this
      exact hL n (h.dfl d hd n hn) this.1 this.2
  · exact ⟨θ, h⟩

def mvL : List (Nat × Nat) → St → St
  | [], s => s
  | (a, b) :: l, s => mvL l (mvS a b s)

theorem sub_mvL [GW] {P : Program} : ∀ (l : List (Nat × Nat)) (s : St), Sub P s (mvL l s)
  | [], s => Sub.refl s
  | (a, b) :: l, s => (sub_mv a b s).trans (sub_mvL l _)

section
variable [GW] {P : Program} {Γ : Gam} {root : Code}

/-- The rule, with names handed on. -/
theorem loop_treeM (hΓ : GOK P Γ) {p : List Nat} {b : Code} (hc : codeAt root (0 :: p) = some b) {ι : Type} (ok : ι → Prop) (S : ι → St) (μ : ι → Nat) (R : Out) (nn k : Nat) (live dd : Ex → List Nat) (mv : Ex → List (Nat × Nat))
    (hb : ∀ i, ok i → ∃ Λ e s', LamOK P root Λ ∧ ((sx P Γ Λ (0 :: p) b (S i)).bind fun x => .leaf (x.1, deadS (dd x.1) (canS nn k (live x.1) (mvL (mv x.1) x.2)), chkM nn k (mvL (mv x.1) x.2))).pick = some (e, s', true) ∧
      ((e = .normal ∧ ∃ j, ok j ∧ μ j < μ i ∧ s' = S j) ∨ (e ≠ .normal ∧ R.pick = some (e, s')))) :
    ∀ i, ok i → ∀ x, R.pick = some x → SemC P (.loop b) (S i) x := fun i hi x hx => by
  refine sem_loop ok S μ (fun _ => x) (fun i hi => ?_) i hi
  obtain ⟨Λ, e, s', hΛ, hp, hr⟩ := hb i hi
  rw [T.pick_bind] at hp
  obtain ⟨⟨e1, s1⟩, h1, h2⟩ := hp
  simp only [T.pick, Option.some.injEq, Prod.mk.injEq] at h2
  obtain ⟨rfl, rfl, h3⟩ := h2
  refine ⟨e1, s1, sem_of_sx hΓ hΛ (0 :: p) hc h1, ?_⟩
  have hsub : Sub P s1 (deadS (dd e1) (canS nn k (live e1) (mvL (mv e1) s1))) := (sub_mvL _ _).trans ((sub_can h3 _).trans (sub_dead _ _))
  rcases hr with ⟨he, j, hj, hlt, hs⟩ | ⟨he, hR⟩
  · exact .inl ⟨he, j, hj, hlt, hs ▸ hsub, rfl⟩
  · have : x = (e1, _) := Option.some.inj (hx.symm.trans hR)
    exact .inr ⟨he, by rw [this], by rw [this]; exact hsub⟩
end
end Go.SX
