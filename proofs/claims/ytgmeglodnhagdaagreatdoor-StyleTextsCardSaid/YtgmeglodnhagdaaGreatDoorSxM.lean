/- Regions whose order is open: any order comes to where the text's comes. -/
import Derived.Test.YtgmeglodnhagdaaGreatDoorSxL
namespace Go.SX
open Go.RowKit
set_option linter.unusedVariables false
set_option linter.unusedSimpArgs false
set_option linter.unusedSectionVars false

section
variable [GW] {P : Program} {J : Jt P} {Am Mi : Nat → Prop} {w0 w : World} {s : St} {θ : Th} {a : Act} {Γ : Gam} {r : Option Nat} {n : Nat} {o : Oper} {K : Act → World → Prop} {Q : Exit → Act → World → Prop} {ops : List Oper} {base : Nat}

theorem effG0_wp (hΓ : GOK P Γ) (h : Rep J Am Mi w0 s θ a w) {nm : Nat} (hn : Fresh s nm) {u : Upd} (he : (effG0 P Γ ops nm o s).pick = some u)
    (hK : ∀ (Am' : Nat → Prop) θ' a' w', (∀ b, Am b → Am' b) → Rep J Am' Mi w0 (u.ap o.dst s) θ' a' w' → K a' w') : wpOne r n P ops.toArray Q o a w K := by
  unfold effG0 at he
  unfold wpOne
  split at he
  · rename_i hg
    rw [if_pos (wanted_none hg)]
    exact step1_wp hΓ h hn (step1_eff he) hK
  · rename_i j want hg
    split at he
    · simp [T.pick] at he
    · rename_i g hgs
      have hsk : (T.leaf (Upd.val undV)).pick = some u → K (a.put o.dst undef) w := fun e => by
        cases e
        exact hK Am _ _ _ (fun _ x => x) h.skip
      have hslot : ∀ b, (s.tm.getD g .any).bool? = some b → a.tmps[g]? = some (.bool b) := fun b hb => by
        have hlt : g < s.tm.length := by
          rcases Nat.lt_or_ge g s.tm.length with h' | h'
          · exact h'
          · simp [List.getD_eq_getElem?_getD, List.getElem?_eq_none h', V.bool?] at hb
        exact h.slotBool (b := b) (List.getElem?_eq_getElem hlt) (by simpa [List.getD_eq_getElem?_getD, hlt] using hb)
      split at he
      · rename_i b hb
        have hbv := hslot b (by rw [hb]; rfl)
        rw [wanted_some hg hgs hbv]
        split at he
        · rename_i hbw
          subst hbw
          rw [if_pos (by simp)]
          exact step1_wp hΓ h hn (step1_eff he) hK
        · rename_i hbw
          rw [if_neg (by simpa using hbw)]
          exact hsk he
      · rename_i x hb
        have hlt : g < s.tm.length := by
          rcases Nat.lt_or_ge g s.tm.length with h' | h'
          · exact h'
          · simp [List.getD_eq_getElem?_getD, List.getElem?_eq_none h'] at hb
        have hu := h.slotUnd (g := g) (x := x) (by rw [List.getElem?_eq_getElem hlt]; simpa [List.getD_eq_getElem?_getD, hlt] using hb)
        rw [wanted_und hg hgs hu, if_neg (by simp)]
        exact hsk he
      · split at he
        · rename_i b hb
          have hbv := hslot b hb
          rw [wanted_some hg hgs hbv]
          simp only [T.pick] at he
          cases b <;> cases want <;> simp only [cond_true, cond_false, if_true, if_false, Bool.false_eq_true] at he
          · rw [if_pos (by rfl)]; exact step1_wp hΓ h hn (step1_eff he) hK
          · rw [if_neg (by simp)]; exact hsk he
          · rw [if_neg (by simp)]; exact hsk he
          · rw [if_pos (by rfl)]; exact step1_wp hΓ h hn (step1_eff he) hK
        · simp [T.pick] at he

theorem effG_wp (hΓ : GOK P Γ) (h : Rep J Am Mi w0 s θ a w) {nm : Nat} (hn : Fresh s nm) {u : Upd} (he : (effG P Γ ops nm o s).pick = some u)
    (hK : ∀ (Am' : Nat → Prop) θ' a' w', (∀ b, Am b → Am' b) → Rep J Am' Mi w0 (u.ap o.dst s) θ' a' w' → K a' w') : wpOne r n P ops.toArray Q o a w K := by
  unfold effG at he
  rw [T.pick_bind] at he
  obtain ⟨u0, h0, h1⟩ := he
  refine effG0_wp hΓ h hn h0 fun Am' θ' a' w' hup hR => hK Am' θ' a' w' hup ?_
  rcases splitU_pick h1 with rfl | ⟨b, d, hd, rfl, rfl⟩
  · exact hR
  · rw [hd] at hR ⊢
    simp only [Upd.ap, putT] at hR ⊢
    rcases Nat.lt_or_ge d s.tm.length with hlt | hge
    · have hs : a'.tmps[d]? = some (.bool b) := hR.slotBool (g := d) (v := .q (.c (.bool b))) (b := b) (by simp [hlt]) rfl
      have := hR.retm d (v := .kb b) hs (.kb b)
      simpa using this
    · rw [List.set_eq_of_length_le hge] at hR ⊢
      exact hR

theorem depsE_spec (acc : List Nat) : ∀ (es : List Edge) (j : Nat), (depsE acc es).testBit j = true → ∃ e ∈ es, Region.binds .any e = true ∧ (j = e.on ∨ (acc.getD e.on 0).testBit j = true)
  | [], j, h => by simp [depsE] at h
  | e :: es, j, h => by
    simp only [depsE, Nat.testBit_or, Bool.or_eq_true] at h
    rcases h with h | h
    · split at h
      · rename_i hb
        rw [Nat.testBit_or, Bool.or_eq_true] at h
        refine ⟨e, List.mem_cons_self, hb, ?_⟩
        rcases h with h | h
        · left
          rw [Nat.one_shiftLeft, Nat.testBit_two_pow] at h
          exact (of_decide_eq_true h).symm
        · exact .inr h
      · simp at h
    · obtain ⟨e', he', hb, hj⟩ := depsE_spec acc es j h
      exact ⟨e', List.mem_cons_of_mem _ he', hb, hj⟩

theorem depsOf_spec : ∀ (l : List Oper) (acc : List Nat),
    (∀ i, i < acc.length → (depsOf l acc).getD i 0 = acc.getD i 0) ∧
    (∀ (k : Nat) o, l[k]? = some o → ∀ j, ((depsOf l acc).getD (acc.length + k) 0).testBit j = true → ∃ e ∈ o.after.toList, Region.binds .any e = true ∧ (j = e.on ∨ ((depsOf l acc).getD e.on 0).testBit j = true))
  | [], acc => ⟨fun _ _ => rfl, fun k o h => by simp at h⟩
  | o :: l, acc => by
    have ih := depsOf_spec l (acc ++ [depsE acc o.after.toList])
    simp only [depsOf]
    refine ⟨fun i hi => ?_, fun k x hk j hj => ?_⟩
    · rw [ih.1 i (by simp; omega)]
      simp [List.getD_eq_getElem?_getD, List.getElem?_append, hi]
    · cases k with
      | zero =>
        simp only [List.getElem?_cons_zero, Option.some.injEq] at hk
        subst hk
        rw [Nat.add_zero, ih.1 acc.length (by simp)] at hj
        simp only [List.getD_eq_getElem?_getD, List.getElem?_append_right (Nat.le_refl _), Nat.sub_self, List.getElem?_cons_zero, Option.getD_some] at hj
        obtain ⟨e, he, hb, hj⟩ := depsE_spec acc _ j hj
        refine ⟨e, he, hb, hj.imp id fun hm => ?_⟩
        have hlt : e.on < acc.length := by
          rcases Nat.lt_or_ge e.on acc.length with h' | h'
          · exact h'
          · simp [List.getD_eq_getElem?_getD, List.getElem?_eq_none h'] at hm
        rw [ih.1 e.on (by simp; omega)]
        have : (acc ++ [depsE acc o.after.toList]).getD e.on 0 = acc.getD e.on 0 := by
          simp [List.getD_eq_getElem?_getD, List.getElem?_append, hlt]
        rw [this]
        exact hm
      | succ k =>
        simp only [List.getElem?_cons_succ] at hk
        exact ih.2 k x hk j (by simpa [Nat.add_assoc, Nat.add_comm 1 k] using hj)

theorem backB_spec (h : backB ops = true) {i : Nat} {o : Oper} (ho : ops[i]? = some o) {e : Edge} (he : e ∈ o.after.toList) (hb : Region.binds .any e = true) : e.on < i := by
  unfold backB at h
  rw [List.all_eq_true] at h
  have hm : (o, i) ∈ ops.zipIdx := List.mem_zipIdx_iff_getElem?.2 ho
  have := h _ hm
  simp only [List.all_eq_true] at this
  have := this e he
  simpa [hb] using this

/-- Whatever stands ahead of what is listed is listed. -/
theorem closed_deps (hbk : backB ops = true) {listed : Array Bool} (hc : ∀ (k : Nat) o, ops[k]? = some o → listed.getD k false = true → ∀ e ∈ o.after.toList, Region.binds .any e = true → listed.getD e.on false = true) :
    ∀ (k : Nat) o, ops[k]? = some o → listed.getD k false = true → ∀ j, ((depsOf ops []).getD k 0).testBit j = true → listed.getD j false = true := by
  intro k
  induction k using Nat.strongRecOn with
  | _ k ih =>
    intro o ho hl j hj
    obtain ⟨e, he, hb, h⟩ := (depsOf_spec ops []).2 k o ho j (by simpa using hj)
    have hle := hc k o ho hl e he hb
    rcases h with rfl | h
    · exact hle
    · have hlt := backB_spec hbk ho he hb
      have hk : k < ops.length := (List.getElem?_eq_some_iff.1 ho).1
      have hlt' : e.on < ops.length := by omega
      exact ih e.on hlt ops[e.on] (List.getElem?_eq_getElem hlt') hle j h

theorem pairsB_sub {deps : List Nat} : ∀ {r1 : List Rec} {x : Rec} {r2 : List Rec}, pairsB ops deps (r1 ++ x :: r2) = true → pairsB ops deps (r1 ++ r2) = true ∧ ∀ y ∈ r1, (deps.getD x.i 0).testBit y.i = true ∨ commR ops y x = true
  | [], x, r2, h => by
    simp only [List.nil_append, pairsB, Bool.and_eq_true] at h
    exact ⟨h.2, fun _ hy => by cases hy⟩
  | y :: r1, x, r2, h => by
    simp only [List.cons_append, pairsB, Bool.and_eq_true, List.all_append, List.all_cons] at h
    obtain ⟨⟨h1, h2, h3⟩, h4⟩ := h
    obtain ⟨i1, i2⟩ := pairsB_sub h4
    refine ⟨by simp only [List.cons_append, pairsB, Bool.and_eq_true, List.all_append]; exact ⟨⟨h1, h3⟩, i1⟩, fun z hz => ?_⟩
    cases hz with
    | head => simpa using h2
    | tail _ hm => exact i2 z hm

theorem drawn_any (hΓ : GOK P Γ) (hbk : backB ops = true) {s' : St} (hQ : ∀ (Am' : Nat → Prop) θ' a' w', (∀ b, Am b → Am' b) → Rep J Am' Mi w0 s' θ' a' w' → Q .normal a' w') :
    ∀ (fuel : Nat) (rem : List (Nat × Oper)) (listed : Array Bool) (s : St) (Am1 : Nat → Prop) (θ : Th) (a : Act) (w : World) (rs : List Rec), (∀ b, Am b → Am1 b) → Rep J Am1 Mi w0 s θ a w → Tr P Γ ops base rem s s' rs → pairsB ops (depsOf ops []) rs = true →
      (∀ p ∈ rem, base + p.1 < s.lo.length) → (∀ p ∈ rem, ∀ o, s.lo[base + p.1]? ≠ some (some o)) → s.base ≤ base →
      (∀ (j : Nat) o, ops[j]? = some o → (listed.getD j true = false ↔ (j, o) ∈ rem)) → (∀ p ∈ rem, ops[p.1]? = some p.2) → (rem.Pairwise fun p q => p.1 < q.1) → listed.size = ops.length →
      (∀ (k : Nat) o, ops[k]? = some o → listed.getD k false = true → ∀ e ∈ o.after.toList, Region.binds .any e = true → listed.getD e.on false = true) →
      fuel = rem.length → wpAnyIn (FW r) n P .any ops.toArray Q fuel listed a w := by
  intro fuel
  induction fuel with
  | zero =>
    intro rem listed s Am1 θ a w rs hup hR hT hp hlt hdead hbb hrem hops hpw hsz hcl hf
    have : rem = [] := List.length_eq_zero_iff.1 hf.symm
    subst this
    cases hT
    refine ⟨?_, hQ Am1 θ a w hup hR⟩
    rw [List.eq_nil_iff_forall_not_mem]
    intro j hj
    obtain ⟨h0, o, ho, _⟩ := mem_ready.1 hj
    have := (hrem j o (by simpa using ho)).1 h0
    cases this
  | succ fuel ih =>
    intro rem listed s Am1 θ a w rs hup hR hT hp hlt hdead hbb hrem hops hpw hsz hcl hf
    constructor
    · intro hnil
      -- the first that is left is ready
      exfalso
      match rem, hf, hops, hpw, hrem with
      | (i, o) :: l, _, hops, hpw, hrem =>
        have ho := hops (i, o) (by simp)
        simp only at ho
        have hmem : i ∈ Region.ready .any ops.toArray listed := by
          refine mem_ready.2 ⟨(hrem i o ho).2 (by simp), o, by simpa using ho, fun e he hb => ?_⟩
          have hlt' := backB_spec hbk ho (by simpa using he) hb
          have hi : i < ops.length := (List.getElem?_eq_some_iff.1 ho).1
          have hel : e.on < ops.length := by omega
          have hx := hrem e.on ops[e.on] (List.getElem?_eq_getElem hel)
          cases hv : listed.getD e.on true with
          | false =>
            have := hx.1 hv
            cases this with
            | head => omega
            | tail _ hm =>
              have := (List.pairwise_cons.1 hpw).1 _ hm
              simp only at this
              omega
          | true =>
            have hes : e.on < listed.size := by omega
            simp only [Array.getD_eq_getD_getElem?, Array.getElem?_eq_getElem hes, Option.getD_some] at hv ⊢
            exact hv
        rw [hnil] at hmem
        cases hmem
    · intro i hi
      obtain ⟨h0, o, ho, hed⟩ := mem_ready.1 hi
      have ho' : ops[i]? = some o := by simpa using ho
      have hm := (hrem i o ho').1 h0
      obtain ⟨l1, l2, rfl⟩ := List.append_of_mem hm
      obtain ⟨r1, rx, r2, rfl, e1, e2, hb⟩ := tr_bubble hT hlt
      obtain ⟨p1, p2⟩ := pairsB_sub hp
      have hcomm : ∀ y ∈ r1, commR ops y rx = true := by
        intro y hy
        rcases p2 y hy with hd | hc
        · exfalso
          have hyi : y.i ∈ l1.map (·.1) := by rw [← e1]; exact List.mem_map.2 ⟨y, hy, rfl⟩
          obtain ⟨⟨yi, yo⟩, hyl, rfl'⟩ := List.mem_map.1 hyi
          simp only at rfl'
          have hyo := hops (yi, yo) (by simp [hyl])
          have hun : listed.getD yi true = false := (hrem yi yo hyo).2 (by simp [hyl])
          have hyl' : listed.getD yi false = true := by
            rw [e2] at hd
            obtain ⟨e, he, hbd, h⟩ := (depsOf_spec ops []).2 i o ho' y.i (by simpa using hd)
            have hle := hed e (by simpa using he) hbd
            rw [rfl']
            rcases h with h | h
            · rw [h]; exact hle
            · have hlt' := backB_spec hbk ho' he hbd
              have hilt : i < ops.length := (List.getElem?_eq_some_iff.1 ho').1
              have hel : e.on < ops.length := by omega
              exact closed_deps hbk hcl e.on ops[e.on] (List.getElem?_eq_getElem hel) hle _ h
          have hys : yi < listed.size := by
            rw [hsz]; exact (List.getElem?_eq_some_iff.1 hyo).1
          simp only [Array.getD_eq_getD_getElem?, Array.getElem?_eq_getElem hys, Option.getD_some] at hun hyl'
          rw [hun] at hyl'
          cases hyl'
        · exact hc
      have hT' := hb hcomm
      unfold wpOpIn
      simp only [ho]
      cases hT' with
      | cons _ _ _ _ _ u _ hu ht =>
        have hlti : base + i < s.lo.length := hlt (i, o) (by simp)
        have ltu : ∀ m ∈ u.wn, m < s.lo.length := fun m hm => by
          rcases eff_wn hu m hm with rfl | ⟨ob, hob⟩
          · exact hlti
          · exact (List.getElem?_eq_some_iff.1 hob).1
        have hne : ∀ p ∈ l1 ++ l2, p.1 ≠ i := by
          intro p hpm
          rw [List.pairwise_append] at hpw
          obtain ⟨_, hp2, hp3⟩ := hpw
          rcases List.mem_append.1 hpm with h | h
          · have := hp3 p h (i, o) (by simp)
            simp only at this
            omega
          · have := (List.pairwise_cons.1 hp2).1 p h
            simp only at this
            omega
        have hmem : ∀ p ∈ l1 ++ l2, p ∈ l1 ++ (i, o) :: l2 := fun p hp => by
          simp only [List.mem_append, List.mem_cons] at hp ⊢
          rcases hp with h | h
          · exact .inl h
          · exact .inr (.inr h)
        have main : wpOne r n P ops.toArray Q o a w (wpAnyIn (FW r) n P .any ops.toArray Q fuel (listed.setIfInBounds i true)) := by
          refine effG_wp hΓ hR (nm := base + i) ⟨Nat.le_trans hbb (Nat.le_add_right _ _), hdead (i, o) (by simp)⟩ hu fun Am2 θ' a' w' hup' hR' => ?_
          refine ih (l1 ++ l2) (listed.setIfInBounds i true) _ Am2 θ' a' w' (r1 ++ r2) (fun b hb => hup' b (hup b hb)) hR' ht p1 (fun p hp => by rw [ap_length ltu]; exact hlt p (hmem p hp)) (fun p hp ob hob => ?_) (by cases u <;> exact hbb) (fun j x hj => ?_) (fun p hp => hops p (hmem p hp)) ?_ (by simp [hsz]) ?_ (by simp at hf ⊢; omega)
          · by_cases hw : base + p.1 ∈ u.wn
            · rcases eff_wn hu _ hw with h | ⟨ob', hob'⟩
              · exact hne p hp (by omega)
              · exact hdead p (hmem p hp) ob' hob'
            · rw [ap_lo hw ltu] at hob
              exact hdead p (hmem p hp) ob hob
          · by_cases hji : j = i
            · subst hji
              have hjs : j < listed.size := by rw [hsz]; exact (List.getElem?_eq_some_iff.1 hj).1
              constructor
              · intro h
                simp [Array.getD_eq_getD_getElem?, hjs] at h
              · intro h
                exact absurd rfl (hne _ h)
            · rw [getD_set_ne true (Ne.symm hji), hrem j x hj]
              constructor
              · intro h
                simp only [List.mem_append, List.mem_cons] at h ⊢
                rcases h with h | h | h
                · exact .inl h
                · exact absurd (congrArg Prod.fst h) hji
                · exact .inr h
              · intro h; exact hmem _ h
          · rw [List.pairwise_append] at hpw ⊢
            obtain ⟨q1, q2, q3⟩ := hpw
            exact ⟨q1, (List.pairwise_cons.1 q2).2, fun p hp q hq => q3 p hp q (List.mem_cons_of_mem _ hq)⟩
          · intro k x hk hkl e he hbd
            by_cases hki : k = i
            · subst hki
              rw [ho'] at hk
              cases hk
              exact getD_set_true (hed e (by simpa using he) hbd)
            · rw [getD_set_ne false (Ne.symm hki)] at hkl
              exact getD_set_true (hcl k x hk hkl e he hbd)
        unfold wpOne at main
        split at main
        · rename_i hwt; rw [if_pos hwt]; exact main
        · rename_i hwt; rw [if_neg hwt]; exact ⟨fun _ _ => trivial, main⟩

theorem index_mem : ∀ (l : List Oper) (i : Nat) (p : Nat × Oper), p ∈ index i l ↔ i ≤ p.1 ∧ l[p.1 - i]? = some p.2
  | [], i, p => by simp [index]
  | o :: l, i, p => by
    simp only [index, List.mem_cons, index_mem l (i + 1) p]
    constructor
    · rintro (rfl | ⟨h1, h2⟩)
      · simp
      · refine ⟨by omega, ?_⟩
        rw [show p.1 - i = (p.1 - (i + 1)) + 1 by omega]
        simpa using h2
    · rintro ⟨h1, h2⟩
      by_cases h : p.1 = i
      · left
        rw [h] at h2
        simp at h2
        obtain ⟨pi, po⟩ := p
        simp only at h h2
        rw [h, h2]
      · right
        refine ⟨by omega, ?_⟩
        rw [show p.1 - i = (p.1 - (i + 1)) + 1 by omega] at h2
        simpa using h2

theorem index_pairwise : ∀ (l : List Oper) (i : Nat), (index i l).Pairwise fun p q => p.1 < q.1
  | [], _ => .nil
  | o :: l, i => by
    refine List.pairwise_cons.2 ⟨fun p hp => ?_, index_pairwise l (i + 1)⟩
    have := ((index_mem l (i + 1) p).1 hp).1
    simp only
    omega

theorem index_length : ∀ (l : List Oper) (i : Nat), (index i l).length = l.length
  | [], _ => rfl
  | o :: l, i => by simp [index, index_length l (i + 1)]

theorem padS_lo (k : Nat) (s : St) (m : Nat) (ob : Ob) : (padS k s).lo[m]? = some (some ob) ↔ s.lo[m]? = some (some ob) := by
  simp only [padS, List.getElem?_append]
  split
  · rfl
  · rename_i hlt
    rw [List.getElem?_eq_none (by omega : s.lo.length ≤ m)]
    simp [List.getElem?_replicate]

theorem Rep.pad (h : Rep J Am Mi w0 s θ a w) (k : Nat) : Rep J Am Mi w0 (padS k s) θ a w := by
  have hS : ∀ b, Stab Am s.lo θ w b → Stab Am (padS k s).lo θ w b := fun b hb => ⟨hb.1, hb.2.1, fun m ob ho => hb.2.2 m ob ((padS_lo k s m ob).1 ho)⟩
  have hL : ∀ m, Liv s.lo m → Liv (padS k s).lo m := fun m ⟨ob, ho⟩ => ⟨ob, (padS_lo k s m ob).2 ho⟩
  refine ⟨h.size, fun i v hv => ?_, fun m ob ho => ?_, fun m ob b ho hu => h.lt m ob b ((padS_lo k s m ob).1 ho) hu, fun m m' o1 o2 b h1 h2 => h.inj m m' o1 o2 b ((padS_lo k s m o1).1 h1) ((padS_lo k s m' o2).1 h2), h.mine, h.fr, h.am, h.jj.step rfl rfl rfl (Nat.le_refl _) (fun _ _ _ => rfl) (fun b ⟨m, o, ho, hu⟩ => ⟨.inl ⟨m, o, (padS_lo k s m o).1 ho, hu⟩, (h.lt m o b ((padS_lo k s m o).1 ho) hu).1⟩) h.am h.own_am, fun n go adm ho => h.yy n go adm ((padS_lo k s n _).1 ho), h.ga, ⟨h.rr.1, fun l hl => (by obtain ⟨n, x, hx, hb⟩ := h.rr.2 l hl; exact ⟨n, x, (padS_lo k s n _).2 hx, hb⟩)⟩, ⟨h.tt.1, Nat.le_trans h.tt.2.1 (by simp [padS]), h.tt.2.2⟩, h.df, fun d hd m hm => hL m (h.dfl d hd m hm)⟩
  · obtain ⟨u, hu, hd⟩ := h.tm i v hv
    exact ⟨u, hu, hd.mono hS (fun _ _ => rfl) hL (fun _ _ => rfl)⟩
  · have ho' := (padS_lo k s m ob).1 ho
    exact (h.lo m ob ho').mono hS (fun _ _ => rfl) hL (fun _ _ => rfl) ⟨ob, ho'⟩ (fun _ _ => rfl)

theorem colT2_den {S L : Nat → Prop} {i : Nat} {u : Value} : ∀ {t : T St} {s' : St}, t.pick = some s' → Den S L θ w (s'.tm.getD i .any) u → Den S L θ w (colT2 i t) u
  | .leaf s, s', hp, hd => by cases hp; exact hd
  | .bad, _, hp, _ => by cases hp
  | .ite b t e, s', hp, hd => by
    simp only [colT2]
    split
    · rename_i ht
      cases b
      · exact colT2_den (t := e) (by simpa [T.pick] using hp) hd
      · simp only [T.pick, allBad_pick ht] at hp; cases hp
    · split
      · rename_i he
        cases b
        · simp only [T.pick, allBad_pick he] at hp; cases hp
        · exact colT2_den (t := t) (by simpa [T.pick] using hp) hd
      · simp only [T.pick] at hp
        simp only [mergeV]
        split
        · rename_i p q hpb hqb
          cases b
          · have := den_bool (colT2_den (t := e) hp hd) hqb
            rw [this]; exact .q _ _ (.c _)
          · have := den_bool (colT2_den (t := t) hp hd) hpb
            rw [this]; exact .q _ _ (.c _)
        · split
          · rename_i k m k' m' hm hm'
            split
            · rename_i hk
              subst hk
              cases b
              · have := den_int (colT2_den (t := e) hp hd) hm'
                rw [this]; exact .q _ _ (.c _)
              · have := den_int (colT2_den (t := t) hp hd) hm
                rw [this]; exact .q _ _ (.c _)
            · exact .any _
          · exact .any _

theorem Rep.join {s0 s1 : St} {ds : List Nat} {t : T St} (h : Rep J Am Mi w0 s1 θ a w) (ht : t.pick = some s1) (he : s1 = { s0 with tm := s1.tm }) (hl : s1.tm.length = s0.tm.length) (ho : ∀ j, ds.contains j = false → s1.tm[j]? = s0.tm[j]?) :
    Rep J Am Mi w0 { s0 with tm := mergeTm2 ds t 0 s0.tm } θ a w := by
  have hlo : s0.lo = s1.lo := by rw [he]
  have hdf : s0.df = s1.df := by rw [he]
  have hin : s0.inr = s1.inr := by rw [he]
  have hba : s0.base = s1.base := by rw [he]
  have hys : s0.ys = s1.ys := by rw [he]
  have key : Rep J Am Mi w0 { s1 with tm := mergeTm2 ds t 0 s0.tm } θ a w := by
    refine ⟨by rw [h.size, hl]; simp [mergeTm2_length], fun i v hv => ?_, h.lo, h.lt, h.inj, h.mine, h.fr, h.am, h.jj, h.yy, h.ga, h.rr, h.tt, h.df, h.dfl⟩
    rcases mergeTm2_get _ _ _ _ hv with ⟨_, rfl⟩ | ⟨hc, hv'⟩
    · have hlt : i < s1.tm.length := by
        have := (List.getElem?_eq_some_iff.1 hv).1
        rw [mergeTm2_length] at this
        omega
      obtain ⟨u, hu, hd⟩ := h.tm i _ (List.getElem?_eq_getElem hlt)
      refine ⟨u, hu, ?_⟩
      rw [Nat.zero_add]
      exact colT2_den ht (by simpa [List.getD_eq_getElem?_getD, hlt] using hd)
    · rw [Nat.zero_add] at hc
      exact h.tm i v (by rw [ho i hc]; exact hv')
  have e2 : ({ s0 with tm := mergeTm2 ds t 0 s0.tm } : St) = { s1 with tm := mergeTm2 ds t 0 s0.tm } := by rw [he]
  rw [e2]
  exact key

theorem index_map : ∀ (l : List Oper) (i : Nat), (index i l).map (·.2) = l
  | [], _ => rfl
  | o :: l, i => by simp [index, index_map l (i + 1)]

theorem regionD_wp (hΓ : GOK P Γ) {id : Nat} {opsA : Array Oper} {s' : St} (h : Rep J Am Mi w0 s θ a w) (he : (runD P Γ opsA.toList s).pick = some s')
    (hK : ∀ (Am' : Nat → Prop) θ' a' w', (∀ b, Am b → Am' b) → Rep J Am' Mi w0 s' θ' a' w' → Q .normal a' w') : (Code.region id opsA true).wpIn (FW r) n P Q a w := by
  have main : ∀ (s1 : St) (rs : List Rec), P.follows .mixedOrders = true → backB opsA.toList = true → (traceT P Γ opsA.toList s.lo.length (index 0 opsA.toList) (padS opsA.toList.length s)).pick = some (s1, rs) → pairsB opsA.toList (depsOf opsA.toList []) rs = true →
      (∀ (Am' : Nat → Prop) θ' a' w', (∀ b, Am b → Am' b) → Rep J Am' Mi w0 s1 θ' a' w' → Q .normal a' w') → (Code.region id opsA true).wpIn (FW r) n P Q a w := fun s1 rs hc1 hc2 h1 hp hK => by
    refine wpIn_region_any hc1 ?_
    have hT := tr_of_trace h1
    have hR := (h.drew).pad opsA.toList.length
    have hlen : (padS opsA.toList.length s).lo.length = s.lo.length + opsA.toList.length := by simp [padS]
    have := drawn_any (r := r) (n := n) (Q := Q) hΓ hc2 hK (opsA.toList.length) (index 0 opsA.toList) (Array.replicate opsA.size false) _ Am θ a w.drew rs (fun _ x => x) hR hT hp
      (fun p hp => by
        have := (index_mem _ 0 p).1 hp
        have := (List.getElem?_eq_some_iff.1 this.2).1
        rw [hlen]; omega)
      (fun p hp ob hob => by
        have := (List.getElem?_eq_some_iff.1 ((padS_lo _ s _ ob).1 hob)).1
        omega)
      (show s.base ≤ s.lo.length from h.tt.2.1)
      (fun j x hj => by
        have hjl : j < opsA.size := by simpa using (List.getElem?_eq_some_iff.1 hj).1
        constructor
        · intro _
          exact (index_mem _ 0 (j, x)).2 ⟨Nat.zero_le _, by simpa using hj⟩
        · intro _
          simp [Array.getD_eq_getD_getElem?, Array.getElem?_replicate, hjl])
      (fun p hp => by simpa using ((index_mem _ 0 p).1 hp).2)
      (index_pairwise _ 0) (by simp)
      (fun k x hk hl => by simp [Array.getD_eq_getD_getElem?, Array.getElem?_replicate] at hl; split at hl <;> simp at hl)
      (by rw [index_length])
    simpa using this
  unfold runD at he
  split at he
  · rename_i hc
    simp only [Bool.and_eq_true] at hc
    split at he
    · have hτ : ∃ s1, ((traceT P Γ opsA.toList s.lo.length (index 0 opsA.toList) (padS opsA.toList.length s)).bind fun r => if pairsB opsA.toList (depsOf opsA.toList []) r.2 && r.2.all (fun x => x.wn.isEmpty && !x.yl) then T.leaf r.1 else .bad).pick = some s1 ∧
          ((s' = s1) ∨ s' = { padS opsA.toList.length s with tm := mergeTm2 (dsts opsA.toList) ((traceT P Γ opsA.toList s.lo.length (index 0 opsA.toList) (padS opsA.toList.length s)).bind fun r => if pairsB opsA.toList (depsOf opsA.toList []) r.2 && r.2.all (fun x => x.wn.isEmpty && !x.yl) then T.leaf r.1 else .bad) 0 (padS opsA.toList.length s).tm }) := by
        generalize ((traceT P Γ opsA.toList s.lo.length (index 0 opsA.toList) (padS opsA.toList.length s)).bind fun r => if pairsB opsA.toList (depsOf opsA.toList []) r.2 && r.2.all (fun x => x.wn.isEmpty && !x.yl) then T.leaf r.1 else .bad) = τ at he
        unfold joinT at he
        split at he
        · cases he; exact ⟨_, rfl, .inl rfl⟩
        · split at he
          · rename_i hnb
            cases he
            obtain ⟨x, hx⟩ := noBad_pick hnb
            exact ⟨x, hx, .inr rfl⟩
          · simp only [T.pick] at he
            cases hok : T.okB τ with
            | false => rw [hok] at he; cases he
            | true =>
              rw [hok] at he
              cases he
              obtain ⟨x, hx⟩ := okB_pick hok
              exact ⟨x, hx, .inr rfl⟩
      obtain ⟨s1, hp1, hs'⟩ := hτ
      have hp1' := hp1
      rw [T.pick_bind] at hp1
      obtain ⟨⟨s2, rs⟩, h1, h2⟩ := hp1
      split at h2
      · rename_i hcc
        simp only [Bool.and_eq_true] at hcc
        cases h2
        refine main s2 rs hc.1 hc.2 h1 hcc.1 fun Am' θ' a' w' hup hR => hK Am' θ' a' w' hup ?_
        rcases hs' with rfl | rfl
        · exact hR
        · obtain ⟨e1, e2, e3⟩ := tr_vals (tr_of_trace h1) hcc.2
          rw [index_map] at e3
          exact hR.join hp1' e1 e2 e3
      · cases h2
    · rw [T.pick_bind] at he
      obtain ⟨⟨s1, rs⟩, h1, h2⟩ := he
      split at h2
      · rename_i hp
        cases h2
        exact main _ rs hc.1 hc.2 h1 hp hK
      · simp [T.pick] at h2
  · simp [T.pick] at he

end
end Go.SX
