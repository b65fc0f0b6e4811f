/- Loops: canonical states, what may be forgotten, the rule. -/
import Derived.Test.YtgmeglodnhagdaaGreatDoorSxJ
import Derived.KernelRfl
namespace Go.SX
open Go.RowKit
set_option linter.unusedVariables false
set_option linter.unusedSimpArgs false
set_option linter.unusedSectionVars false

/-- s says no less than s'. -/
def Sub [GW] (P : Program) (s s' : St) : Prop := ∀ (J : Jt P) (Am Mi : Nat → Prop) (w0 : World) (θ : Th) (a : Act) (w : World), Rep J Am Mi w0 s θ a w → ∃ θ' : Th, Rep J Am Mi w0 s' θ' a w

theorem Sub.refl [GW] {P : Program} (s : St) : Sub P s s := fun _ _ _ _ θ _ _ h => ⟨θ, h⟩
theorem Sub.trans [GW] {P : Program} {s t u : St} (h : Sub P s t) (k : Sub P t u) : Sub P s u := fun _ _ _ _ _ _ _ x => let ⟨_, y⟩ := h _ _ _ _ _ _ _ x; k _ _ _ _ _ _ _ y

def mkTm : Nat → Nat → List (Nat × V) → List V
  | 0, _, _ => []
  | k + 1, i, l => (match look l i with | some v => v | none => .any) :: mkTm k (i + 1) l

/-- The state in which just these slots are known. -/
def mkS (n : Nat) (l : List (Nat × V)) (lo : List (Option Ob)) (df : List Df) (inr : Bool) (ys : List (List V)) (base : Nat) : St := { tm := mkTm n 0 l, lo, df, inr, ys, base }

theorem mkTm_length : ∀ (k i : Nat) (l : List (Nat × V)), (mkTm k i l).length = k
  | 0, _, _ => rfl
  | k + 1, i, l => by simp [mkTm, mkTm_length k (i + 1) l]

theorem mkTm_get : ∀ (k i : Nat) (l : List (Nat × V)) (j : Nat) (v : V), (mkTm k i l)[j]? = some v → v = .any ∨ look l (i + j) = some v
  | 0, _, _, j, v, h => by simp [mkTm] at h
  | k + 1, i, l, 0, v, h => by
    simp only [mkTm, List.getElem?_cons_zero, Option.some.injEq] at h
    cases hl : look l i with
    | none => simp [hl] at h; exact .inl h.symm
    | some x => rw [hl] at h; exact .inr (congrArg some h)
  | k + 1, i, l, j + 1, v, h => by
    simp only [mkTm, List.getElem?_cons_succ] at h
    have := mkTm_get k (i + 1) l j v h
    rwa [show i + 1 + j = i + (j + 1) by omega] at this

/-- Just these slots are kept. -/
def keep (n : Nat) (live : List Nat) (s : St) : St := mkS n (live.map fun i => (i, s.tm.getD i .any)) s.lo s.df s.inr s.ys s.base

theorem look_map (f : Nat → V) : ∀ (live : List Nat) (i : Nat) (v : V), look (live.map fun i => (i, f i)) i = some v → v = f i
  | [], _, _, h => by simp [look] at h
  | k :: l, i, v, h => by
    simp only [List.map_cons, look] at h
    split at h
    · rename_i e
      have : k = i := by simpa using e
      subst this
      simpa using h.symm
    · exact look_map f l i v h

theorem sub_keep [GW] {P : Program} {n : Nat} {s : St} (hn : s.tm.length = n) (live : List Nat) : Sub P s (keep n live s) := fun J Am Mi w0 θ a w h => by
  refine ⟨θ, ?_⟩
  refine h.less (tm := mkTm n 0 (live.map fun i => (i, s.tm.getD i .any))) (by rw [mkTm_length, hn]) fun i v hv => ?_
  rcases mkTm_get _ _ _ _ _ hv with h1 | h1
  · exact .inl h1
  · rw [Nat.zero_add] at h1
    have h2 := look_map (fun i => s.tm.getD i .any) live i v h1
    cases hs : s.tm[i]? with
    | none => left; rw [h2]; simp [List.getD_eq_getElem?_getD, hs]
    | some x => right; rw [h2]; simp [List.getD_eq_getElem?_getD, hs]

/-! ### resources let go -/
def V.w1 (k : Nat) : V → Bool
  | .q _ | .kb _ | .any => true
  | .ptr n _ | .ep n _ _ _ | .own n | .mp n | .yld n => decide (n < k)
  | _ => false

def V.lim (k : Nat) (v : V) : V :=
  match v with
  | .agg l => if l.all (V.w1 k) then .agg l else .any
  | .clo f l => if l.all (V.w1 k) then .clo f l else .any
  | .tup _ => .any
  | v => if V.w1 k v then v else .any

def limOb (k : Nat) : Ob → Ob
  | .map kk ag vk es => .map kk ag vk es
  | .cells t cs => .cells t (cs.map (V.lim k))
  | .vec t ks len get => .vec t ks len get
  | .yl go adm => .yl go adm
  | .dfr => .dfr
  | .deads => .deads
  | .raw x => .raw x
  | .siter b pos => .siter b pos
  | .dead => .dead
  | .gone => .gone
  | .held tm => .held (tm.map (V.lim k))

def limLo (k : Nat) : List (Option Ob) → List (Option Ob)
  | [] => []
  | none :: l => none :: limLo k l
  | some o :: l => some (limOb k o) :: limLo k l

/-- The resources from the name k on are let go. -/
def cutS (k : Nat) (s : St) : St := { tm := s.tm.map (V.lim k), lo := limLo k (s.lo.take k), df := s.df, inr := s.inr, ys := s.ys, base := s.base }

theorem den_w1 {S S' L L' : Nat → Prop} {θ : Th} {w : World} {k : Nat} (hS : ∀ b, S b → S' b) (hL : ∀ n, n < k → L n → L' n) {v : V} {u : Value} (h : Den S L θ w v u) (e : v.w1 k = true) : Den S' L' θ w v u := by
  cases h with
  | any v => exact .any _
  | q x v h => exact .q _ _ (h.mono hS (fun _ _ => rfl))
  | ptr n off h => exact .ptr n off (hL n (by simpa [V.w1] using e) h)
  | ep n sz i j h => exact .ep n sz i j (hL n (by simpa [V.w1] using e) h)
  | kb b => exact .kb b
  | own n a len cap h e' => exact .own n a len cap (hL n (by simpa [V.w1] using e) h) e'
  | mp n h => exact .mp n (hL n (by simpa [V.w1] using e) h)
  | yld n h => exact .yld n (hL n (by simpa [V.w1] using e) h)
  | _ => simp [V.w1] at e

theorem denL_w1 {S S' L L' : Nat → Prop} {θ : Th} {w : World} {k : Nat} (hS : ∀ b, S b → S' b) (hL : ∀ n, n < k → L n → L' n) : ∀ {l : List V} {us : List Value}, DenL S L θ w l us → l.all (V.w1 k) = true → DenL S' L' θ w l us
  | _, _, .nil, _ => .nil
  | _, _, .cons x v l us h hl, e => by
    simp only [List.all_cons, Bool.and_eq_true] at e
    exact .cons _ _ _ _ (den_w1 hS hL h e.1) (denL_w1 hS hL hl e.2)

theorem den_lim {S S' L L' : Nat → Prop} {θ : Th} {w : World} {k : Nat} (hS : ∀ b, S b → S' b) (hL : ∀ n, n < k → L n → L' n) {v : V} {u : Value} (h : Den S L θ w v u) : Den S' L' θ w (v.lim k) u := by
  unfold V.lim
  split
  · split
    · rename_i e
      cases h with
      | agg l vs hl => exact .agg _ _ (denL_w1 hS hL hl e)
    · exact .any _
  · split
    · rename_i e
      cases h with
      | clo f l vs hl => exact .clo _ _ _ (denL_w1 hS hL hl e)
    · exact .any _
  · exact .any _
  · split
    · rename_i e; exact den_w1 hS hL h e
    · exact .any _

theorem denL_lim {S S' L L' : Nat → Prop} {θ : Th} {w : World} {k : Nat} (hS : ∀ b, S b → S' b) (hL : ∀ n, n < k → L n → L' n) : ∀ {l : List V} {us : List Value}, DenL S L θ w l us → DenL S' L' θ w (l.map (V.lim k)) us
  | _, _, .nil => .nil
  | _, _, .cons x v l us h hl => .cons _ _ _ _ (den_lim hS hL h) (denL_lim hS hL hl)

theorem limLo_get (k : Nat) : ∀ (l : List (Option Ob)) (n : Nat), (limLo k l)[n]? = (l[n]?).map (·.map (limOb k))
  | [], n => by simp [limLo]
  | none :: l, 0 => by simp [limLo]
  | some o :: l, 0 => by simp [limLo]
  | none :: l, n + 1 => by simp [limLo, limLo_get k l n]
  | some o :: l, n + 1 => by simp [limLo, limLo_get k l n]

theorem limLo_length (k : Nat) : ∀ (l : List (Option Ob)), (limLo k l).length = l.length
  | [] => rfl
  | none :: l => by simp [limLo, limLo_length k l]
  | some o :: l => by simp [limLo, limLo_length k l]

theorem uses_lim (θ : Th) (n k : Nat) (o : Ob) (b : Nat) : uses θ n (limOb k o) b ↔ uses θ n o b := by cases o <;> rfl

def isRaw : Option Ob → Bool
  | some (.raw _) => true
  | _ => false

theorem sub_cut [GW] {P : Program} {k : Nat} {s : St} (hdf : s.df.all (fun d => d.names.all (fun n => decide (n < k))) = true) (hraw : (s.lo.drop k).all (fun o => !isRaw o) = true) (hbs : s.base ≤ k) : Sub P s (cutS k s) := fun J Am Mi w0 θ a w h => by
  refine ⟨θ, ?_⟩
  have hget : ∀ (n : Nat) (o : Ob), (cutS k s).lo[n]? = some (some o) → n < k ∧ ∃ o', s.lo[n]? = some (some o') ∧ o = limOb k o' := fun n o ho => by
    simp only [cutS, limLo_get, List.getElem?_take] at ho
    split at ho
    · rename_i hlt
      cases hs : s.lo[n]? with
      | none => simp [hs] at ho
      | some q =>
        cases q with
        | none => simp [hs] at ho
        | some o' => simp [hs] at ho; exact ⟨hlt, o', rfl, ho.symm⟩
    · simp at ho
  have hS : ∀ b, Stab Am s.lo θ w b → Stab Am (cutS k s).lo θ w b := fun b hb => ⟨hb.1, hb.2.1, fun n o ho hu => by
    obtain ⟨_, o', ho', rfl⟩ := hget n o ho
    exact hb.2.2 n o' ho' ((uses_lim θ n k o' b).1 hu)⟩
  have hL : ∀ n, n < k → Liv s.lo n → Liv (cutS k s).lo n := fun n hn ⟨o, ho⟩ => ⟨limOb k o, by simp [cutS, limLo_get, List.getElem?_take, hn, ho]⟩
  refine ⟨by simp [cutS, h.size], fun i v hv => ?_, fun n o ho => ?_, fun n o b ho hu => ?_, fun n m o1 o2 b h1 h2 hne hu1 hu2 => ?_, h.mine, h.fr, h.am, ?_, fun n go adm ho => ?_, h.ga, ⟨h.rr.1, fun l hl => ?_⟩, ⟨h.tt.1, by simp only [cutS, limLo_length, List.length_take]; exact Nat.le_min.2 ⟨hbs, h.tt.2.1⟩, h.tt.2.2⟩, h.df, fun d hd n hn => ?_⟩
  · simp only [cutS, List.getElem?_map, Option.map_eq_some_iff] at hv
    obtain ⟨x, hx, rfl⟩ := hv
    obtain ⟨u, hu, hd⟩ := h.tm i x hx
    exact ⟨u, hu, den_lim hS hL hd⟩
  · obtain ⟨_, o', ho', rfl⟩ := hget n o ho
    have := h.lo n o' ho'
    cases o' with
    | map kk ag vk es =>
      obtain ⟨arr, clk, h1, h2⟩ := this
      exact ⟨arr, clk, h1, h2.mono hS (fun _ _ => rfl)⟩
    | cells t cs =>
      obtain ⟨vs, h1, h2⟩ := this
      exact ⟨vs, h1, denL_lim hS hL h2⟩
    | vec t ks len get =>
      rcases this with h1 | ⟨vs, cap, h1, h2, h3, h4, h5, h6⟩
      · exact .inl h1
      · refine .inr ⟨vs, cap, h1, h2, h3, h4, h5, fun i j q hi hq => ?_⟩
        obtain ⟨a1, u, a2, a3⟩ := h6 i j q hi hq
        exact ⟨a1, u, a2, a3.mono hS (fun _ _ => rfl)⟩
    | yl go adm => trivial
    | dfr => exact this
    | deads => trivial
    | raw x => exact this
    | siter b pos => exact this
    | dead => trivial
    | gone => trivial
    | held tm =>
      obtain ⟨us, h1, h2⟩ := this
      exact ⟨us, h1, denL_lim hS hL h2⟩
  · obtain ⟨_, o', ho', rfl⟩ := hget n o ho
    exact h.lt n o' b ho' ((uses_lim θ n k o' b).1 hu)
  · obtain ⟨_, p1, hp1, rfl⟩ := hget n o1 h1
    obtain ⟨_, p2, hp2, rfl⟩ := hget m o2 h2
    exact h.inj n m p1 p2 b hp1 hp2 hne ((uses_lim θ n k p1 b).1 hu1) ((uses_lim θ m k p2 b).1 hu2)
  · refine h.jj.step rfl rfl rfl (Nat.le_refl _) (fun _ _ _ => rfl) (fun b ⟨n, o, ho, hu⟩ => ?_) h.am h.own_am
    obtain ⟨_, o', ho', rfl⟩ := hget n o ho
    have hu' := (uses_lim θ n k o' b).1 hu
    exact ⟨.inl ⟨n, o', ho', hu'⟩, (h.lt n o' b ho' hu').1⟩
  · obtain ⟨_, o', ho', e⟩ := hget n _ ho
    cases o' <;> simp [limOb] at e
    obtain ⟨rfl, rfl⟩ := e
    exact h.yy n _ _ ho'
  · obtain ⟨n, x, hx, hb⟩ := h.rr.2 l hl
    have hnk : n < k := by
      rcases Nat.lt_or_ge n k with hlt | hge
      · exact hlt
      · rw [List.all_eq_true] at hraw
        have := hraw (some (.raw (.loop x))) (List.mem_iff_getElem?.2 ⟨n - k, by rw [List.getElem?_drop, show k + (n - k) = n by omega]; exact hx⟩)
        simp [isRaw] at this
    exact ⟨n, x, by simp [cutS, limLo_get, List.getElem?_take, hnk, hx, limOb], hb⟩
  · rw [List.all_eq_true] at hdf
    have := hdf d hd
    rw [List.all_eq_true] at this
    exact hL n (by simpa using this n hn) (h.dfl d hd n hn)

/-! ### the rule -/
theorem exists_least (p : Nat → Prop) : ∀ n, p n → ∃ m, p m ∧ ∀ k, p k → m ≤ k := by
  intro n
  induction n using Nat.strongRecOn with
  | ind n ih =>
    intro h
    by_cases hc : ∃ k, k < n ∧ p k
    · obtain ⟨k, hk, hp⟩ := hc; exact ih k hk hp
    · exact ⟨n, h, fun k hk => Nat.le_of_not_lt fun hlt => hc ⟨k, hlt, hk⟩⟩

noncomputable def leastOf (p : Nat → Prop) (h : ∃ n, p n) : Nat := Classical.choose (exists_least p h.choose h.choose_spec)
theorem leastOf_spec (p : Nat → Prop) (h : ∃ n, p n) : p (leastOf p h) := (Classical.choose_spec (exists_least p h.choose h.choose_spec)).1
theorem leastOf_le (p : Nat → Prop) (h : ∃ n, p n) (k : Nat) (hk : p k) : leastOf p h ≤ k := (Classical.choose_spec (exists_least p h.choose h.choose_spec)).2 k hk

theorem SemC.sub [GW] {P : Program} {c : Code} {s s' : St} {e : Ex} {t t' : St} (h : SemC P c s (e, t)) (h1 : Sub P s' s) (h2 : Sub P t t') : SemC P c s' (e, t') :=
  fun n J Am Mi w0 θ a w hR => by
    obtain ⟨θ1, hR1⟩ := h1 _ _ _ _ _ _ _ hR
    refine wpIn_mono (h n J Am Mi w0 θ1 a w hR1) fun e' a' w' ⟨hi, Am', θ', hup, hR'⟩ => ?_
    obtain ⟨θ2, hR2⟩ := h2 _ _ _ _ _ _ _ hR'
    exact ⟨hi, Am', θ2, hup, hR2⟩

theorem sem_loop [GW] {P : Program} {b : Code} {ι : Type} (ok : ι → Prop) (S : ι → St) (μ : ι → Nat) (R : ι → Ex × St)
    (hb : ∀ i, ok i → ∃ e s1, SemC P b (S i) (e, s1) ∧ ((e = .normal ∧ ∃ j, ok j ∧ μ j < μ i ∧ Sub P s1 (S j) ∧ R j = R i) ∨ (e ≠ .normal ∧ (R i).1 = e ∧ Sub P s1 (R i).2))) :
    ∀ i, ok i → SemC P (.loop b) (S i) (R i) := by
  intro i0 hi0 n J Am0 Mi w0 θ0 a0 w hR0
  have hdec := Classical.propDecidable
  let Inv : Nat → Act → World → Prop := fun k a w => ∃ i, ok i ∧ R i = R i0 ∧ μ i = k ∧ ∃ (Am : Nat → Prop) (θ : Th), (∀ b, Am0 b → Am b) ∧ Rep J Am Mi w0 (S i) θ a w
  let m : Act → World → Nat := fun a w => if h : ∃ k, Inv k a w then leastOf _ h else 0
  refine wpIn_loop (fun a w => ∃ k, Inv k a w) m ⟨μ i0, i0, hi0, rfl, rfl, Am0, θ0, fun _ x => x, hR0⟩ ?_
  intro a w hI
  have hm : Inv (m a w) a w := by
    show Inv (if h : ∃ k, Inv k a w then leastOf _ h else 0) a w
    rw [dif_pos hI]
    exact leastOf_spec _ hI
  obtain ⟨i, hi, hRi, hk, Am, θ, hup, hR⟩ := hm
  obtain ⟨e, s1, hs, hcase⟩ := hb i hi
  refine wpIn_mono (hs n J Am Mi w0 θ a w hR) ?_
  rintro e' a' w' ⟨hie, Am', θ', hup', hR'⟩
  simp only at hie hR'
  rcases hcase with ⟨rfl, j, hj, hlt, hsub, hRj⟩ | ⟨hne, hRe, hsub⟩
  · cases e' <;> simp only [Ex.is] at hie
    obtain ⟨θ2, hR2⟩ := hsub _ _ _ _ _ _ _ hR'
    have hI' : ∃ k, Inv k a' w' := ⟨μ j, j, hj, hRj.trans hRi, rfl, Am', θ2, fun b hb => hup' b (hup b hb), hR2⟩
    refine ⟨hI', ?_⟩
    show (if h : ∃ k, Inv k a' w' then leastOf _ h else 0) < m a w
    rw [dif_pos hI']
    have : leastOf _ hI' ≤ μ j := leastOf_le _ hI' _ ⟨j, hj, hRj.trans hRi, rfl, Am', θ2, fun b hb => hup' b (hup b hb), hR2⟩
    exact Nat.lt_of_le_of_lt this (hk ▸ hlt)
  · have hp : PostC J Am0 Mi w0 (R i0) e' a' w' := by
      rw [← hRi]
      obtain ⟨θ2, hR2⟩ := hsub _ _ _ _ _ _ _ hR'
      exact ⟨by rw [hRe]; exact hie, Am', θ2, fun b hb => hup' b (hup b hb), hR2⟩
    cases e' with
    | normal => cases e <;> simp only [Ex.is] at hie; exact absurd rfl hne
    | _ => exact hp

/-! ### marks -/
/-- A bundle of marks, empty as yet. -/
def markS (s : St) : St := { s with lo := s.lo ++ [some .dfr], df := .mark s.lo.length :: s.df }

theorem sub_mark [GW] {P : Program} {s : St} : Sub P s (markS s) := fun J Am Mi w0 θ a w h => by
  have hfr : Fresh s s.lo.length := ⟨h.tt.2.1, fun o ho => by simp at ho⟩
  have g := h.gain s.lo.length hfr .dfr (Below.refl _ _) ⟨0, .tuple #[], []⟩ _ rfl (fun _ _ e => by cases e) (fun b hu => by simp [uses] at hu) (fun S L hS hL hθ hw => ⟨by simp, fun b hb => by simp at hb⟩)
  have e : ins s.lo s.lo.length .dfr = s.lo ++ [some .dfr] := by
    apply List.ext_getElem?
    intro i
    simp only [ins, List.getElem?_set, List.getElem?_append, List.length_append, List.length_replicate]
    by_cases hi : s.lo.length = i
    · subst hi; simp
    · rw [if_neg hi]
      by_cases hlt : i < s.lo.length
      · simp [hlt]
      · simp only [hlt, if_false]
        rw [List.getElem?_replicate, if_neg (by omega), List.getElem?_eq_none (by simp; omega)]
  rw [e] at g
  refine ⟨_, g.size, g.tm, g.lo, g.lt, g.inj, g.mine, g.fr, g.am, g.jj, g.yy, g.ga, g.rr, g.tt, ?_, fun d hd n hn => ?_⟩
  · rw [g.df]
    simp [markS, Df.den]
  · simp only [markS, List.mem_cons] at hd
    rcases hd with rfl | hd
    · simp only [Df.names, List.mem_singleton] at hn
      subst hn
      exact ⟨.dfr, by simp [markS]⟩
    · exact g.dfl d hd n hn

def notMark (n m : Nat) : Df → Bool
  | .mark k => !(k == m) && !(k == n)
  | _ => true

def isDfr : Option (Option Ob) → Bool
  | some (some .dfr) => true
  | _ => false

/-- The newest bundle of marks goes into the one below. -/
def mergeDf (s : St) : St :=
  match s.df with
  | .mark n :: .mark m :: rest =>
    if isDfr s.lo[n]? && isDfr s.lo[m]? && !(n == m) && decide (s.base ≤ m) && decide (s.base ≤ n) && rest.all (notMark n m) then { s with df := .mark m :: rest } else s
  | _ => s

theorem isDfr_eq {o : Option (Option Ob)} (h : isDfr o = true) : o = some (some .dfr) := by
  unfold isDfr at h
  split at h
  · rfl
  · cases h

theorem sub_merge [GW] {P : Program} {s : St} : Sub P s (mergeDf s) := fun J Am Mi w0 θ a w h => by
  unfold mergeDf
  split
  · rename_i n m rest hdf
    split
    · rename_i hc
      simp only [Bool.and_eq_true, decide_eq_true_eq, Bool.not_eq_true', beq_eq_false_iff_ne] at hc
      obtain ⟨⟨⟨⟨⟨hn, hm⟩, hnm⟩, hbm⟩, hbn⟩, hrest⟩ := hc
      have hn := isDfr_eq hn
      have hm := isDfr_eq hm
      let θ' : Th := fun k => if k = m then ⟨(θ m).blk, (θ m).sl, (θ n).bs ++ (θ m).bs⟩ else if k = n then ⟨(θ n).blk, (θ n).sl, []⟩ else θ k
      have hbl : ∀ k, (θ' k).blk = (θ k).blk ∧ (θ' k).sl = (θ k).sl := fun k => by
        simp only [θ']
        split
        · rename_i e; subst e; exact ⟨rfl, rfl⟩
        · split
          · rename_i e; subst e; exact ⟨rfl, rfl⟩
          · exact ⟨rfl, rfl⟩
      have hoth : ∀ k, k ≠ m → k ≠ n → θ' k = θ k := fun k hk hk2 => by simp only [θ', if_neg hk, if_neg hk2]
      have hsm : (θ' m).bs = (θ n).bs ++ (θ m).bs := by simp [θ']
      have hsn : (θ' n).bs = [] := by simp [θ', hnm]
      have huse : ∀ (k : Nat) (o : Ob) (b : Nat), s.lo[k]? = some (some o) → uses θ' k o b → (k ≠ m ∧ k ≠ n ∧ uses θ k o b) ∨ (k = m ∧ (uses θ n .dfr b ∨ uses θ m .dfr b)) := fun k o b ho hu => by
        by_cases hk : k = m
        · subst hk
          rw [hm] at ho
          cases ho
          simp only [uses, hsm, List.mem_append] at hu
          exact .inr ⟨rfl, hu⟩
        · by_cases hk2 : k = n
          · subst hk2
            rw [hn] at ho
            cases ho
            simp [uses, hsn] at hu
          · exact .inl ⟨hk, hk2, (uses_congr (hoth k hk hk2) o b).1 hu⟩
      have hown : ∀ b, Own s.lo θ' b → Own s.lo θ b := fun b ⟨k, o, ho, hu⟩ => by
        rcases huse k o b ho hu with ⟨h1, h3, h4⟩ | ⟨_, h4 | h4⟩
        · exact ⟨k, o, ho, h4⟩
        · exact ⟨n, .dfr, hn, h4⟩
        · exact ⟨m, .dfr, hm, h4⟩
      have hS : ∀ b, Stab Am s.lo θ w b → Stab Am s.lo θ' w b := fun b hb => ⟨hb.1, hb.2.1, fun k o ho hu => by
        obtain ⟨k', o', h1, h2⟩ := hown b ⟨k, o, ho, hu⟩
        exact hb.2.2 k' o' h1 h2⟩
      obtain ⟨hnd1, hb1⟩ := h.lo n _ hn
      obtain ⟨hnd2, hb2⟩ := h.lo m _ hm
      refine ⟨θ', h.size, fun i v hv => ?_, fun k o ho => ?_, fun k o b ho hu => ?_, fun k k' o o' b ho ho' hne hu hu' => ?_, h.mine, h.fr, h.am, ?_, fun k go adm ho => by rw [(hbl k).1]; exact h.yy k go adm ho, h.ga, ⟨h.rr.1, fun l hl => ?_⟩, ⟨h.tt.1, h.tt.2.1, fun k hk => ?_⟩, ?_, fun d hd k hk => h.dfl d (by rw [hdf]; exact List.mem_cons_of_mem _ hd) k hk⟩
      · obtain ⟨u, hu, hd⟩ := h.tm i v hv
        exact ⟨u, hu, hd.monoG hS (fun _ _ => rfl) (fun _ x => x) (fun k _ => hbl k)⟩
      · by_cases hk : k = m
        · subst hk
          rw [hm] at ho
          cases ho
          refine ⟨?_, fun b hb => ?_⟩
          · rw [hsm]
            exact List.nodup_append.2 ⟨hnd1, hnd2, fun a ha b hb e => by subst e; exact h.inj n k .dfr .dfr a hn hm hnm ha hb⟩
          · rw [hsm, List.mem_append] at hb
            exact hb.elim (hb1 b) (hb2 b)
        · by_cases hk2 : k = n
          · subst hk2
            rw [hn] at ho
            cases ho
            exact ⟨by rw [hsn]; simp, fun b hb => by rw [hsn] at hb; cases hb⟩
          · exact (h.lo k o ho).monoG hS (fun _ _ => rfl) (fun _ x => x) (fun k _ => hbl k) (hoth k hk hk2) (fun _ _ => rfl)
      · rcases huse k o b ho hu with ⟨h1, h3, h4⟩ | ⟨_, h4 | h4⟩
        · exact h.lt k o b ho h4
        · exact h.lt n _ b hn h4
        · exact h.lt m _ b hm h4
      · rcases huse k o b ho hu with ⟨h1, h3, h4⟩ | ⟨e1, h4⟩ <;> rcases huse k' o' b ho' hu' with ⟨h1', h3', h4'⟩ | ⟨e1', h4'⟩
        · exact h.inj k k' o o' b ho ho' hne h4 h4'
        · rcases h4' with h4' | h4'
          · exact h.inj k n o _ b ho hn h3 h4 h4'
          · exact h.inj k m o _ b ho hm h1 h4 h4'
        · rcases h4 with h4 | h4
          · exact h.inj k' n o' _ b ho' hn h3' h4' h4
          · exact h.inj k' m o' _ b ho' hm h1' h4' h4
        · exact hne (e1.trans e1'.symm)
      · exact h.jj.step rfl rfl rfl (Nat.le_refl _) (fun _ _ _ => rfl) (fun b hb => by
          obtain ⟨k, o, ho, hu⟩ := hown b hb
          exact ⟨.inl ⟨k, o, ho, hu⟩, (h.lt k o b ho hu).1⟩) h.am h.own_am
      · obtain ⟨k, x, hx, hb⟩ := h.rr.2 l hl
        exact ⟨k, x, hx, by rw [(hbl k).1]; exact hb⟩
      · have hk' : k < s.base := hk
        rw [hoth k (by omega) (by omega)]
        exact h.tt.2.2 k hk
      · rw [h.df, hdf]
        simp only [List.flatMap_cons, Df.den, hsm, List.map_append, List.append_assoc]
        congr 2
        refine flatMap_congr' fun d hd => ?_
        rw [List.all_eq_true] at hrest
        have h1 := hrest d hd
        cases d with
        | mark k =>
          simp only [notMark, Bool.and_eq_true, Bool.not_eq_true', beq_eq_false_iff_ne] at h1
          simp only [Df.den, hoth k h1.1 h1.2]
        | clo f caps => simp only [Df.den, (hbl _).1]
    · exact ⟨θ, h⟩
  · exact ⟨θ, h⟩

/-- What a piece of code comes to, by the kernel's reckoning. -/
theorem sem_of_sx [GW] {P : Program} {Γ : Gam} {Λ : Lam} {root : Code} (hΓ : GOK P Γ) (hΛ : LamOK P root Λ) (p : List Nat) {c : Code} (hc : codeAt root p = some c) {s : St} {x : Ex × St} (h : (sx P Γ Λ p c s).pick = some x) : SemC P c s x :=
  sx_wp hΓ hΛ c p s x hc h

end Go.SX
