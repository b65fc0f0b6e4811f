/- Loops by canonical states: the rule as it is used. -/
import Derived.Test.YtgmeglodnhagdaaGreatDoorSxY
namespace Go.SX
open Go.RowKit
set_option linter.unusedVariables false
set_option linter.unusedSimpArgs false
set_option linter.unusedSectionVars false

/-- What a cut asks. -/
def chk (n k : Nat) (s : St) : Bool :=
  (s.tm.length == n) && ((s.df.all fun d => d.names.all fun m => decide (m < k)) && (((s.lo.drop k).all fun o => !isRaw o) && decide (s.base ≤ k)))

/-- A truth value that is literal no more. -/
def V.unkb : V → V
  | .kb b => .q (.c (.bool b))
  | v => v
def unkS (s : St) : St := { s with tm := s.tm.map V.unkb }

theorem sub_unk [GW] {P : Program} (s : St) : Sub P s (unkS s) := fun J Am Mi w0 θ a w h => by
  refine ⟨θ, by simp [unkS, h.size], fun i v hv => ?_, h.lo, h.lt, h.inj, h.mine, h.fr, h.am, h.jj, h.yy, h.ga, h.rr, h.tt, h.df, h.dfl⟩
  simp only [unkS, List.getElem?_map, Option.map_eq_some_iff] at hv
  obtain ⟨x, hx, rfl⟩ := hv
  obtain ⟨u, hu, hd⟩ := h.tm i x hx
  refine ⟨u, hu, ?_⟩
  cases x with
  | kb b => cases hd; exact .q _ _ (.c _)
  | _ => exact hd

/-- Marks bundled, resources from k on let go, just these slots kept. -/
def canS (n k : Nat) (live : List Nat) (s : St) : St := keep n live (unkS (cutS k (mergeDf s)))
def chkM (n k : Nat) (s : St) : Bool := chk n k (mergeDf s)

/-- The same at a loop's entry; mk: a bundle of marks is laid. -/
def preS (mk : Bool) (n k : Nat) (live : List Nat) (s : St) : St := keep n live (if mk then markS (unkS (cutS k (mergeDf s))) else unkS (cutS k (mergeDf s)))

theorem sub_cut' [GW] {P : Program} {n k : Nat} {s : St} (h : chkM n k s = true) : Sub P s (cutS k (mergeDf s)) ∧ (cutS k (mergeDf s)).tm.length = n := by
  simp only [chkM, chk, Bool.and_eq_true, beq_iff_eq, decide_eq_true_eq] at h
  obtain ⟨h1, h2, h3, h4⟩ := h
  exact ⟨sub_merge.trans (sub_cut h2 h3 h4), by simp [cutS, h1]⟩

theorem sub_can [GW] {P : Program} {n k : Nat} {s : St} (h : chkM n k s = true) (live : List Nat) : Sub P s (canS n k live s) :=
  let ⟨h1, h2⟩ := sub_cut' h
  (h1.trans (sub_unk _)).trans (sub_keep (by simpa [unkS] using h2) live)

theorem sub_pre [GW] {P : Program} {mk : Bool} {n k : Nat} {s : St} (h : chkM n k s = true) (live : List Nat) : Sub P s (preS mk n k live s) := by
  obtain ⟨h1, h2⟩ := sub_cut' (P := P) h
  cases mk with
  | true => exact ((h1.trans (sub_unk _)).trans sub_mark).trans (sub_keep (by simpa [markS, unkS] using h2) live)
  | false => exact (h1.trans (sub_unk _)).trans (sub_keep (by simpa [unkS] using h2) live)

/-- A block that is looked at no more. -/
def dead1 (n : Nat) (s : St) : St := match s.lo[n]? with
  | some (some (.map ..)) => { s with lo := s.lo.set n (some .dead) }
  | some (some (.cells ..)) => { s with lo := s.lo.set n (some .dead) }
  | _ => s

def deadS : List Nat → St → St
  | [], s => s
  | n :: ns, s => deadS ns (dead1 n s)

theorem sub_dead1 [GW] {P : Program} (n : Nat) (s : St) : Sub P s (dead1 n s) := fun J Am Mi w0 θ a w h => by
  unfold dead1
  split
  · rename_i hn
    exact ⟨θ, h.turn n _ .dead hn (fun b hb => hb) (fun _ _ e => by cases e) (.inr fun _ e => by cases e) rfl rfl rfl rfl (fun _ _ => rfl) trivial⟩
  · rename_i hn
    exact ⟨θ, h.turn n _ .dead hn (fun b hb => hb) (fun _ _ e => by cases e) (.inr fun _ e => by cases e) rfl rfl rfl rfl (fun _ _ => rfl) trivial⟩
  · exact ⟨θ, h⟩

theorem sub_dead [GW] {P : Program} : ∀ (ns : List Nat) (s : St), Sub P s (deadS ns s)
  | [], s => Sub.refl s
  | n :: ns, s => (sub_dead1 n s).trans (sub_dead ns _)

section
variable [GW] {P : Program} {Γ : Gam} {root : Code}

theorem loop_rule (hΓ : GOK P Γ) {p : List Nat} {b : Code} (hc : codeAt root (0 :: p) = some b) {ι : Type} (ok : ι → Prop) (S : ι → St) (μ : ι → Nat) (R : ι → Ex × St) (nn k : Nat) (live dd : Ex → List Nat)
    (hb : ∀ i, ok i → ∃ Λ e s', LamOK P root Λ ∧ ((sx P Γ Λ (0 :: p) b (S i)).bind fun x => .leaf (x.1, deadS (dd x.1) (canS nn k (live x.1) x.2), chkM nn k x.2)).pick = some (e, s', true) ∧
      ((e = .normal ∧ ∃ j, ok j ∧ μ j < μ i ∧ s' = S j ∧ R j = R i) ∨ (e ≠ .normal ∧ R i = (e, s')))) :
    ∀ i, ok i → SemC P (.loop b) (S i) (R i) := by
  refine sem_loop ok S μ R fun i hi => ?_
  obtain ⟨Λ, e, s', hΛ, hp, hr⟩ := hb i hi
  rw [T.pick_bind] at hp
  obtain ⟨⟨e1, s1⟩, h1, h2⟩ := hp
  simp only [T.pick, Option.some.injEq, Prod.mk.injEq] at h2
  obtain ⟨rfl, rfl, h3⟩ := h2
  refine ⟨e1, s1, sem_of_sx hΓ hΛ (0 :: p) hc h1, ?_⟩
  rcases hr with ⟨he, j, hj, hlt, hs, hR⟩ | ⟨he, hR⟩
  · exact .inl ⟨he, j, hj, hlt, hs ▸ (sub_can h3 _).trans (sub_dead _ _), hR⟩
  · exact .inr ⟨he, by rw [hR], by rw [hR]; exact (sub_can h3 _).trans (sub_dead _ _)⟩

/-- The same, with what the loop comes to as a tree. -/
theorem loop_tree (hΓ : GOK P Γ) {p : List Nat} {b : Code} (hc : codeAt root (0 :: p) = some b) {ι : Type} (ok : ι → Prop) (S : ι → St) (μ : ι → Nat) (R : Out) (nn k : Nat) (live dd : Ex → List Nat)
    (hb : ∀ i, ok i → ∃ Λ e s', LamOK P root Λ ∧ ((sx P Γ Λ (0 :: p) b (S i)).bind fun x => .leaf (x.1, deadS (dd x.1) (canS nn k (live x.1) x.2), chkM nn k x.2)).pick = some (e, s', true) ∧
      ((e = .normal ∧ ∃ j, ok j ∧ μ j < μ i ∧ s' = S j) ∨ (e ≠ .normal ∧ R.pick = some (e, s')))) :
    ∀ i, ok i → ∀ x, R.pick = some x → SemC P (.loop b) (S i) x := fun i hi x hx =>
  loop_rule hΓ hc ok S μ (fun _ => x) nn k live dd (fun i hi => by
    obtain ⟨Λ, e, s', h1, h2, h3⟩ := hb i hi
    refine ⟨Λ, e, s', h1, h2, ?_⟩
    rcases h3 with ⟨h4, j, h5, h6, h7⟩ | ⟨h4, h5⟩
    · exact .inl ⟨h4, j, h5, h6, h7, rfl⟩
    · exact .inr ⟨h4, Option.some.inj (hx.symm.trans h5)⟩) i hi

/-- A summary, asked for at the one state. -/
noncomputable def orc (mk : Bool) (nn k : Nat) (live : List Nat) (S : St) (R : Out) : St → Out := fun s =>
  .ite (chkM nn k s && @decide (preS mk nn k live s = S) (Classical.propDecidable _)) R .bad

theorem orc_ok {c : Code} {mk : Bool} {nn k : Nat} {live : List Nat} {S : St} {R : Out} (h : ∀ x, R.pick = some x → SemC P c S x) : ∀ s x, (orc mk nn k live S R s).pick = some x → SemC P c s x := fun s x hp => by
  simp only [orc, T.pick] at hp
  cases hc : (chkM nn k s && @decide (preS mk nn k live s = S) (Classical.propDecidable _)) with
  | false => rw [hc] at hp; simp at hp
  | true =>
    rw [hc] at hp
    simp only [cond_true] at hp
    simp only [Bool.and_eq_true, decide_eq_true_eq] at hc
    obtain ⟨h1, h2⟩ := hc
    obtain ⟨e, t⟩ := x
    exact (h _ hp).sub (h2 ▸ sub_pre h1 live) (Sub.refl _)

theorem LamOK.orc {c : Code} {p : List Nat} {mk : Bool} {nn k : Nat} {live : List Nat} {S : St} {R : Out} {Λ : Lam} (hc : codeAt root p = some c) (h : ∀ x, R.pick = some x → SemC P c S x) (hΛ : LamOK P root Λ) : LamOK P root ((p, SX.orc mk nn k live S R) :: Λ) :=
  LamOK.cons c hc (orc_ok h) hΛ

end

/-- A test that is met. -/
theorem pick_same {α β : Type} {a : β} (t e : T α) : (T.ite (@decide (a = a) (Classical.propDecidable _)) t e).pick = t.pick := by simp [T.pick]
theorem pick_ite {α : Type} (b : Bool) (t e : T α) : (T.ite b t e).pick = bif b then t.pick else e.pick := rfl
theorem pick_leaf {α : Type} (x : α) : (T.leaf x).pick = some x := rfl
theorem pick_bad {α : Type} : (T.bad : T α).pick = none := rfl

/-- One round of a range, from what is canonical to what is canonical. -/
noncomputable def roundT (P : Program) (Γ : Gam) (Λ : Lam) (p : List Nat) (assign body : Code) (ps : List Nat) (s : St) (d : Option Ob) (L : List (Option Ob)) (Y : List (List V)) (x : List V) (rec rec' : Loop) : T (Ex × St × Bool) :=
  (sx P Γ Λ (0 :: p) assign (midS s L Y d rec (setPs s.tm ps x))).bind fun y => match y.1 with
    | .normal => .ite (@decide (y.2.lo[s.lo.length + 2]? = some (some (.raw (.loop rec)))) (Classical.propDecidable _))
        ((sx P Γ Λ (1 :: p) body { y.2 with lo := y.2.lo.set (s.lo.length + 2) (some (.raw (.loop rec'))) }).bind fun z => .leaf (z.1, keep s.tm.length [] (cutS (s.lo.length + 3) z.2), chk s.tm.length (s.lo.length + 3) z.2)) .bad
    | _ => .bad

theorem rounds_of [GW] {P : Program} {Γ : Gam} {Λ : Lam} {p : List Nat} {assign body : Code} {ps : List Nat} {s : St} {d : Option Ob} {any : List V} {LL : Nat → List (Option Ob)} {YY : Nat → List (List V)} {x : Nat → List V} {n : Nat} {E : Nat → Ex}
    (hlen : ∀ k, s.lo.length ≤ (LL k).length) (hargs : ∀ k, k < n → (x k).length = ps.length)
    (h : ∀ k, k < n → (∀ j, j < k → isNormal (E j) = true) → ∀ rec rec' : Loop, (roundT P Γ Λ p assign body ps s d (LL k) (YY k) (x k) rec rec').pick = some (E k, midS s (LL (k + 1)) (YY (k + 1)) d rec' any, true)) :
    Rounds P Γ Λ p assign body ps s d any LL YY x n E := by
  refine ⟨hlen, hargs, fun k hk hn rec => ?_⟩
  have h1 := h k hk hn rec
  have key : ∃ y : Ex × St, (sx P Γ Λ (0 :: p) assign (midS s (LL k) (YY k) d rec (setPs s.tm ps (x k)))).pick = some y := by
    have := h1 rec
    unfold roundT at this
    rw [T.pick_bind] at this
    obtain ⟨y, hy, _⟩ := this
    exact ⟨y, hy⟩
  obtain ⟨⟨ye, ys⟩, hy⟩ := key
  have h2 : ∀ rec' : Loop, ye = .normal ∧ ys.lo[s.lo.length + 2]? = some (some (.raw (.loop rec))) ∧ ∃ z : Ex × St, (sx P Γ Λ (1 :: p) body { ys with lo := ys.lo.set (s.lo.length + 2) (some (.raw (.loop rec'))) }).pick = some z ∧
      z.1 = E k ∧ keep s.tm.length [] (cutS (s.lo.length + 3) z.2) = midS s (LL (k + 1)) (YY (k + 1)) d rec' any ∧ chk s.tm.length (s.lo.length + 3) z.2 = true := fun rec' => by
    have h3 := h1 rec'
    unfold roundT at h3
    rw [T.pick_bind] at h3
    obtain ⟨y, hy', h3⟩ := h3
    rw [hy] at hy'
    cases hy'
    cases ye <;> simp only [T.pick, reduceCtorEq] at h3
    cases hd : (@decide (ys.lo[s.lo.length + 2]? = some (some (.raw (.loop rec)))) (Classical.propDecidable _)) with
    | false => rw [hd] at h3; simp at h3
    | true =>
      rw [hd] at h3
      simp only [cond_true] at h3
      rw [T.pick_bind] at h3
      obtain ⟨z, hz, h3⟩ := h3
      simp only [T.pick, Option.some.injEq, Prod.mk.injEq] at h3
      exact ⟨rfl, by simpa using hd, z, hz, h3.1, h3.2.1, h3.2.2⟩
  obtain ⟨rfl, hraw, _⟩ := h2 rec
  have h4 : ∀ rec' : Loop, ∃ s2 : St, (sx P Γ Λ (1 :: p) body { ys with lo := ys.lo.set (s.lo.length + 2) (some (.raw (.loop rec'))) }).pick = some (E k, s2) ∧ Sub P s2 (midS s (LL (k + 1)) (YY (k + 1)) d rec' any) := fun rec' => by
    obtain ⟨_, _, ⟨ze, zs⟩, e1, e2, e3, e4⟩ := h2 rec'
    simp only at e2 e3 e4
    subst e2
    simp only [chk, Bool.and_eq_true, beq_iff_eq, decide_eq_true_eq] at e4
    obtain ⟨c1, c2, c3, c4⟩ := e4
    refine ⟨zs, e1, ?_⟩
    rw [← e3]
    exact (sub_cut c2 c3 c4).trans (sub_keep (by show (List.map _ _).length = _; rw [List.length_map, c1]) [])
  obtain ⟨f, hf⟩ := Classical.axiomOfChoice h4
  exact ⟨ys, f, hy, hraw, fun rec' => (hf rec').1, fun rec' => (hf rec').2⟩

/-- One round of a range; what is done to the state behind it. -/
noncomputable def roundP (post : St → St) (P : Program) (Γ : Gam) (Λ : Lam) (p : List Nat) (assign body : Code) (ps : List Nat) (s : St) (d : Option Ob) (k : Nat) (L : List (Option Ob)) (Y : List (List V)) (x : List V) (rec rec' : Loop) : T (Ex × St × Bool) :=
  (sx P Γ Λ (0 :: p) assign (midS s L Y d rec (setPs s.tm ps x))).bind fun y => match y.1 with
    | .normal => .ite (@decide (y.2.lo[s.lo.length + 2]? = some (some (.raw (.loop rec)))) (Classical.propDecidable _))
        ((sx P Γ Λ (1 :: p) body { y.2 with lo := y.2.lo.set (s.lo.length + 2) (some (.raw (.loop rec'))) }).bind fun z => .leaf (z.1, keep s.tm.length [] (cutS k (post z.2)), chk s.tm.length k (post z.2))) .bad
    | _ => .bad

theorem rounds_ofP [GW] {P : Program} {Γ : Gam} {Λ : Lam} {p : List Nat} {assign body : Code} {ps : List Nat} {s : St} {d : Option Ob} {any : List V} {LL : Nat → List (Option Ob)} {YY : Nat → List (List V)} {x : Nat → List V} {n : Nat} {E : Nat → Ex} (post : Nat → St → St) (hpost : ∀ k s, Sub P s (post k s)) (nk : Nat → Nat)
    (hlen : ∀ k, s.lo.length ≤ (LL k).length) (hargs : ∀ k, k < n → (x k).length = ps.length)
    (h : ∀ k, k < n → (∀ j, j < k → isNormal (E j) = true) → ∀ rec rec' : Loop, (roundP (post k) P Γ Λ p assign body ps s d (nk k) (LL k) (YY k) (x k) rec rec').pick = some (E k, midS s (LL (k + 1)) (YY (k + 1)) d rec' any, true)) :
    Rounds P Γ Λ p assign body ps s d any LL YY x n E := by
  refine ⟨hlen, hargs, fun k hk hn rec => ?_⟩
  have h1 := h k hk hn rec
  have key : ∃ y : Ex × St, (sx P Γ Λ (0 :: p) assign (midS s (LL k) (YY k) d rec (setPs s.tm ps (x k)))).pick = some y := by
    have := h1 rec
    unfold roundP at this
    rw [T.pick_bind] at this
    obtain ⟨y, hy, _⟩ := this
    exact ⟨y, hy⟩
  obtain ⟨⟨ye, ys⟩, hy⟩ := key
  have h2 : ∀ rec' : Loop, ye = .normal ∧ ys.lo[s.lo.length + 2]? = some (some (.raw (.loop rec))) ∧ ∃ z : Ex × St, (sx P Γ Λ (1 :: p) body { ys with lo := ys.lo.set (s.lo.length + 2) (some (.raw (.loop rec'))) }).pick = some z ∧
      z.1 = E k ∧ keep s.tm.length [] (cutS (nk k) (post k z.2)) = midS s (LL (k + 1)) (YY (k + 1)) d rec' any ∧ chk s.tm.length (nk k) (post k z.2) = true := fun rec' => by
    have h3 := h1 rec'
    unfold roundP at h3
    rw [T.pick_bind] at h3
    obtain ⟨y, hy', h3⟩ := h3
    rw [hy] at hy'
    cases hy'
    cases ye <;> simp only [T.pick, reduceCtorEq] at h3
    cases hd : (@decide (ys.lo[s.lo.length + 2]? = some (some (.raw (.loop rec)))) (Classical.propDecidable _)) with
    | false => rw [hd] at h3; simp at h3
    | true =>
      rw [hd] at h3
      simp only [cond_true] at h3
      rw [T.pick_bind] at h3
      obtain ⟨z, hz, h3⟩ := h3
      simp only [T.pick, Option.some.injEq, Prod.mk.injEq] at h3
      exact ⟨rfl, by simpa using hd, z, hz, h3.1, h3.2.1, h3.2.2⟩
  obtain ⟨rfl, hraw, _⟩ := h2 rec
  have h4 : ∀ rec' : Loop, ∃ s2 : St, (sx P Γ Λ (1 :: p) body { ys with lo := ys.lo.set (s.lo.length + 2) (some (.raw (.loop rec'))) }).pick = some (E k, s2) ∧ Sub P s2 (midS s (LL (k + 1)) (YY (k + 1)) d rec' any) := fun rec' => by
    obtain ⟨_, _, ⟨ze, zs⟩, e1, e2, e3, e4⟩ := h2 rec'
    simp only at e2 e3 e4
    subst e2
    simp only [chk, Bool.and_eq_true, beq_iff_eq, decide_eq_true_eq] at e4
    obtain ⟨c1, c2, c3, c4⟩ := e4
    refine ⟨zs, e1, ?_⟩
    rw [← e3]
    exact (hpost k zs).trans ((sub_cut c2 c3 c4).trans (sub_keep (by show (List.map _ _).length = _; rw [List.length_map, c1]) []))
  obtain ⟨f, hf⟩ := Classical.axiomOfChoice h4
  exact ⟨ys, f, hy, hraw, fun rec' => (hf rec').1, fun rec' => (hf rec').2⟩

/-! ### how far an iterator comes -/
theorem exists_stops (go : List (List V) → Bool) (x : Nat → List V) (n : Nat) : ∃ k, Stops go x n k := by
  by_cases h : ∃ i, i < n ∧ go (hist x (i + 1)) = false
  · obtain ⟨m, ⟨h1, h2⟩, h3⟩ := exists_least (fun i => i < n ∧ go (hist x (i + 1)) = false) h.choose h.choose_spec
    refine ⟨m + 1, h1, fun j hj => ?_, .inl ⟨by omega, h2⟩⟩
    cases hg : go (hist x (j + 1)) with
    | true => rfl
    | false => have := h3 j ⟨by omega, hg⟩; omega
  · have hall : ∀ i, i < n → go (hist x (i + 1)) = true := fun i hi => by
      cases hg : go (hist x (i + 1)) with
      | true => rfl
      | false => exact absurd ⟨i, hi, hg⟩ h
    refine ⟨n, Nat.le_refl _, fun j hj => hall j (by omega), .inr ⟨rfl, fun h0 => ?_⟩⟩
    have := hall (n - 1) (by omega)
    rwa [show n - 1 + 1 = n by omega] at this

theorem stops_at {go : List (List V) → Bool} {x : Nat → List V} {n k i : Nat} (h : Stops go x n k) (hi : i < n) (hall : ∀ j, j < i → go (hist x (j + 1)) = true) (hf : go (hist x (i + 1)) = false) : k = i + 1 := by
  obtain ⟨h1, h2, h3⟩ := h
  have h4 : ¬ i + 1 < k := fun hlt => by rw [h2 i hlt] at hf; cases hf
  rcases h3 with ⟨h5, h6⟩ | ⟨h5, h6⟩
  · have h7 : ¬ k - 1 < i := fun hlt => by
      have := hall (k - 1) hlt
      rw [show k - 1 + 1 = k by omega, h6] at this
      cases this
    omega
  · omega

theorem stops_end {go : List (List V) → Bool} {x : Nat → List V} {n k : Nat} (h : Stops go x n k) (hall : ∀ j, j < n → go (hist x (j + 1)) = true) : k = n := by
  obtain ⟨h1, h2, h3⟩ := h
  rcases h3 with ⟨h5, h6⟩ | ⟨h5, h6⟩
  · have := hall (k - 1) (by omega)
    rw [show k - 1 + 1 = k by omega, h6] at this
    cases this
  · exact h5

theorem den_nil {S : Nat → Prop} {w : World} {ks : List K} {g : Nat → Nat → Q} {v : Value} (h : DenQ S w (.c (.slice none 0 0)) v) : DenQ S w (.lst ks 0 g) v := by
  cases h; exact .nil _ _ _ rfl

theorem Weak.nilL {ks : List K} {g : Nat → Nat → Q} {l l' : List V} (hl : Weak l l') : Weak (.q (.c (.slice none 0 0)) :: l) (.q (.lst ks 0 g) :: l') := fun S w vs hd => by
  cases hd with
  | cons x v l vs h1 h2 => exact .cons _ _ _ _ (.q _ _ (den_nil h1.q_inv)) (hl _ _ _ h2)

end Go.SX
