/- Lists that are nothing as yet; lists that are added to no more. -/
import Derived.Test.YtgmeglodnhagdaaGreatDoorSxZm
namespace Go.SX
open Go.RowKit
set_option linter.unusedVariables false
set_option linter.unusedSimpArgs false
set_option linter.unusedSectionVars false

def nilAt (j : Nat) (ks : List K) (cs : List V) : List V := match cs[j]? with
  | some (.q (.c (.slice none 0 0))) => cs.set j (.q (.lst ks 0 fun _ _ => default))
  | _ => cs

/-- No list, in a cell, as a list of nothing. -/
def nilC (n j : Nat) (ks : List K) (s : St) : St := match s.lo[n]? with
  | some (some (.cells t cs)) => { s with lo := s.lo.set n (some (.cells t (nilAt j ks cs))) }
  | _ => s

/-- No list, in a place, as a list of nothing. -/
def nilT (i : Nat) (ks : List K) (s : St) : St := match s.tm[i]? with
  | some (.q (.c (.slice none 0 0))) => { s with tm := s.tm.set i (.q (.lst ks 0 fun _ _ => default)) }
  | _ => s

/-- No list, in a place, as one that is owned. -/
def nilV (i nm : Nat) (t : TypeId) (ks : List K) (s : St) : St := match s.tm[i]?, s.lo[nm]? with
  | some (.q (.c (.slice none 0 0))), none => if decide (s.base ≤ nm) then { s with tm := s.tm.set i (.own nm), lo := ins s.lo nm (.vec t ks 0 fun _ _ => default) } else s
  | _, _ => s

theorem denL_set {S L : Nat → Prop} {θ : Th} {w : World} {x : V} : ∀ {l : List V} {us : List Value} {j : Nat} {u : Value}, DenL S L θ w l us → us[j]? = some u → Den S L θ w x u → DenL S L θ w (l.set j x) us
  | [], _, _, _, .nil, _, _ => .nil
  | y :: l, _, 0, u, .cons _ v _ us h hl, e, hx => by simp at e; subst e; exact .cons _ _ _ _ hx hl
  | y :: l, _, j + 1, u, .cons _ v _ us h hl, e, hx => .cons _ _ _ _ h (denL_set hl (by simpa using e) hx)

theorem sub_nilC [GW] {P : Program} (n j : Nat) (ks : List K) (s : St) : Sub P s (nilC n j ks s) := fun J Am Mi w0 θ a w h => by
  unfold nilC
  split
  · rename_i t cs hn
    refine ⟨θ, h.turn n _ (.cells t (nilAt j ks cs)) hn (fun b hb => hb) (fun _ _ e => by cases e) (.inr fun _ e => by cases e) (w' := w) rfl rfl rfl rfl (fun _ _ => rfl) ?_⟩
    obtain ⟨vs, h1, h2⟩ := h.lo n _ hn
    refine ⟨vs, h1, ?_⟩
    unfold nilAt
    split
    · rename_i hj
      obtain ⟨u, hu, hd⟩ := h2.get j _ hj
      exact denL_set h2 hu (.q _ _ (den_nil hd.q_inv))
    · exact h2
  · exact ⟨θ, h⟩

theorem sub_nilT [GW] {P : Program} (i : Nat) (ks : List K) (s : St) : Sub P s (nilT i ks s) := fun J Am Mi w0 θ a w h => by
  unfold nilT
  split
  · rename_i hi
    obtain ⟨u, hu, hd⟩ := h.tm i _ hi
    exact ⟨θ, h.retm i hu (.q _ _ (den_nil hd.q_inv))⟩
  · exact ⟨θ, h⟩

theorem sub_nilV [GW] {P : Program} (i nm : Nat) (t : TypeId) (ks : List K) (s : St) : Sub P s (nilV i nm t ks s) := fun J Am Mi w0 θ a w h => by
  unfold nilV
  split
  · rename_i hi hm
    split
    · rename_i hb
      have hb' : s.base ≤ nm := by simpa using hb
      obtain ⟨u, hu, hd⟩ := h.tm i _ hi
      have hu' : u = .slice none 0 0 := by
        have := hd.q_inv
        cases this; rfl
      subst hu'
      have hR := h.gain nm ⟨hb', fun o ho => by rw [hm] at ho; cases ho⟩ (.vec t ks 0 fun _ _ => default) (Below.refl _ _) ⟨0, .slice none 0 0, []⟩ _ rfl (fun _ _ e => by cases e) (fun b hu => by simp [uses] at hu) (fun S L hS hL hθ hw => .inl ⟨by simp, rfl⟩)
      exact ⟨_, hR.retm i hu (.own nm none 0 0 ⟨_, ins_same _ _ _⟩ (by simp))⟩
    · exact ⟨θ, h⟩
  · exact ⟨θ, h⟩

/-! ### lists that are added to no more -/
def V.fz1 (n : Nat) (q : Q) : V → V
  | .own m => if m = n then .q q else .own m
  | .ptr m off => if m = n then .any else .ptr m off
  | .ep m sz i j => if m = n then .any else .ep m sz i j
  | .mp m => if m = n then .any else .mp m
  | .yld m => if m = n then .any else .yld m
  | .agg _ => .any
  | .clo _ _ => .any
  | .tup _ => .any
  | v => v

def V.fz (n : Nat) (q : Q) : V → V
  | .agg l => .agg (l.map (V.fz1 n q))
  | .clo f l => .clo f (l.map (V.fz1 n q))
  | .tup l => .tup (l.map (V.fz1 n q))
  | v => V.fz1 n q v

def fzOb (n : Nat) (q : Q) : Ob → Ob
  | .cells t cs => .cells t (cs.map (V.fz n q))
  | .held tm => .held (tm.map (V.fz n q))
  | o => o

/-- The list n is owned no more. -/
def fzS (n : Nat) (s : St) : St := match s.lo[n]? with
  | some (some (.vec _ ks len get)) => if s.df.all (fun d => d.names.all fun m => decide (m ≠ n)) then
      { s with tm := s.tm.map (V.fz n (.lst ks len get)), lo := (s.lo.map fun o => o.map (fzOb n (.lst ks len get))).set n none } else s
  | _ => s

theorem den_fz1 {S S' L L' : Nat → Prop} {θ : Th} {w : World} {n : Nat} {q : Q} (hS : ∀ x, S x → S' x) (hq : L n → DenQ S' w q (θ n).sl) (hL : ∀ m, L m → m ≠ n → L' m) {v : V} {u : Value} (h : Den S L θ w v u) : Den S' L' θ w (v.fz1 n q) u := by
  cases h with
  | any v => exact .any _
  | q x v h => exact .q _ _ (h.mono hS (fun _ _ => rfl))
  | kb b => exact .kb b
  | lc ks len get cap a n h => exact .lc _ _ _ _ _ _ (h.mono hS (fun _ _ => rfl))
  | own m ad len cap h e =>
    simp only [V.fz1]
    split
    · rename_i e'; subst e'; rw [← e]; exact .q _ _ (hq h)
    · rename_i e'; exact .own m _ _ _ (hL m h e') e
  | ptr m off h =>
    simp only [V.fz1]
    split
    · exact .any _
    · rename_i e'; exact .ptr m off (hL m h e')
  | ep m sz i j h =>
    simp only [V.fz1]
    split
    · exact .any _
    · rename_i e'; exact .ep m sz i j (hL m h e')
  | mp m h =>
    simp only [V.fz1]
    split
    · exact .any _
    · rename_i e'; exact .mp m (hL m h e')
  | yld m h =>
    simp only [V.fz1]
    split
    · exact .any _
    · rename_i e'; exact .yld m (hL m h e')
  | clo f caps vs h => exact .any _
  | agg l vs h => exact .any _
  | tup l vs h => exact .any _

theorem denL_fz1 {S S' L L' : Nat → Prop} {θ : Th} {w : World} {n : Nat} {q : Q} (hS : ∀ x, S x → S' x) (hq : L n → DenQ S' w q (θ n).sl) (hL : ∀ m, L m → m ≠ n → L' m) : ∀ {l : List V} {us : List Value}, DenL S L θ w l us → DenL S' L' θ w (l.map (V.fz1 n q)) us
  | _, _, .nil => .nil
  | _, _, .cons x v l us h hl => .cons _ _ _ _ (den_fz1 hS hq hL h) (denL_fz1 hS hq hL hl)

theorem den_fz {S S' L L' : Nat → Prop} {θ : Th} {w : World} {n : Nat} {q : Q} (hS : ∀ x, S x → S' x) (hq : L n → DenQ S' w q (θ n).sl) (hL : ∀ m, L m → m ≠ n → L' m) {v : V} {u : Value} (h : Den S L θ w v u) : Den S' L' θ w (v.fz n q) u := by
  cases h with
  | clo f caps vs h => exact .clo _ _ _ (denL_fz1 hS hq hL h)
  | agg l vs h => exact .agg _ _ (denL_fz1 hS hq hL h)
  | tup l vs h => exact .tup _ _ (denL_fz1 hS hq hL h)
  | any v => exact .any _
  | q x v h => exact .q _ _ (h.mono hS (fun _ _ => rfl))
  | kb b => exact .kb b
  | lc ks len get cap a n h => exact .lc _ _ _ _ _ _ (h.mono hS (fun _ _ => rfl))
  | ptr m off h => exact den_fz1 hS hq hL (.ptr m off h)
  | ep m sz i j h => exact den_fz1 hS hq hL (.ep m sz i j h)
  | own m ad len cap h e => exact den_fz1 hS hq hL (.own m ad len cap h e)
  | mp m h => exact den_fz1 hS hq hL (.mp m h)
  | yld m h => exact den_fz1 hS hq hL (.yld m h)

theorem denL_fz {S S' L L' : Nat → Prop} {θ : Th} {w : World} {n : Nat} {q : Q} (hS : ∀ x, S x → S' x) (hq : L n → DenQ S' w q (θ n).sl) (hL : ∀ m, L m → m ≠ n → L' m) : ∀ {l : List V} {us : List Value}, DenL S L θ w l us → DenL S' L' θ w (l.map (V.fz n q)) us
  | _, _, .nil => .nil
  | _, _, .cons x v l us h hl => .cons _ _ _ _ (den_fz hS hq hL h) (denL_fz hS hq hL hl)

theorem uses_fz {θ : Th} {n m : Nat} {q : Q} (o : Ob) (b : Nat) : uses θ m (fzOb n q o) b ↔ uses θ m o b := by cases o <;> exact Iff.rfl

theorem sub_fz [GW] {P : Program} (n : Nat) (s : St) : Sub P s (fzS n s) := fun J Am Mi w0 θ a w h => by
  unfold fzS
  split
  · rename_i t ks len get hn
    split
    · rename_i hdf
      have hlt : n < s.lo.length := (List.getElem?_eq_some_iff.1 hn).1
      have hget : ∀ (m : Nat) (o : Ob), ((s.lo.map fun o => o.map (fzOb n (.lst ks len get))).set n none)[m]? = some (some o) → m ≠ n ∧ ∃ o', s.lo[m]? = some (some o') ∧ o = fzOb n (.lst ks len get) o' := fun m o ho => by
        by_cases e : n = m
        · subst e; rw [List.getElem?_set] at ho; simp at ho
        · rw [List.getElem?_set_ne e, List.getElem?_map] at ho
          simp only [Option.map_eq_some_iff] at ho
          obtain ⟨q, h1, h2⟩ := ho
          obtain ⟨o', rfl, rfl⟩ := h2
          exact ⟨fun e' => e e'.symm, o', h1, rfl⟩
      have hput : ∀ (m : Nat) (o : Ob), s.lo[m]? = some (some o) → m ≠ n → ((s.lo.map fun o => o.map (fzOb n (.lst ks len get))).set n none)[m]? = some (some (fzOb n (.lst ks len get) o)) := fun m o ho e => by
        rw [List.getElem?_set_ne (fun e' => e e'.symm), List.getElem?_map, ho]
        rfl
      have hL : ∀ m, Liv s.lo m → m ≠ n → Liv ((s.lo.map fun o => o.map (fzOb n (.lst ks len get))).set n none) m := fun m ⟨o, ho⟩ e => ⟨_, hput m o ho e⟩
      have hS : ∀ x, Stab Am s.lo θ w x → Stab Am ((s.lo.map fun o => o.map (fzOb n (.lst ks len get))).set n none) θ w x := fun x hx => ⟨hx.1, hx.2.1, fun m o ho hu => by
        obtain ⟨_, o', h1, rfl⟩ := hget m o ho
        exact hx.2.2 m o' h1 ((uses_fz o' x).1 hu)⟩
      have hq : Liv s.lo n → DenQ (Stab Am ((s.lo.map fun o => o.map (fzOb n (.lst ks len get))).set n none) θ w) w (.lst ks len get) (θ n).sl := fun _ => by
        rcases h.lo n _ hn with ⟨h1, h0⟩ | ⟨vs, cap, h1, h2, h3, h4, h5, h6⟩
        · rw [h1]; exact .nil _ _ _ h0
        · rw [h1]
          have hblk : Stab Am ((s.lo.map fun o => o.map (fzOb n (.lst ks len get))).set n none) θ w (θ n).blk := by
            have hu : uses θ n (.vec t ks len get) (θ n).blk := ⟨rfl, by rw [h1]; simp⟩
            obtain ⟨g1, g2, g3⟩ := h.lt n _ _ hn hu
            refine ⟨g1, g3, fun m o ho hu' => ?_⟩
            obtain ⟨e, o', k1, rfl⟩ := hget m o ho
            exact h.inj m n o' _ _ k1 hn e ((uses_fz o' _).1 hu') hu
          have hex : ∀ i j, i < len → j < ks.length → ∃ z, vs[i * ks.length + j]? = some z ∧ DenQ (Stab Am s.lo θ w) w (get i j) z := fun i j hi hj => (h6 i j (ks[j]) hi (by simp [hj])).2
          refine .lst _ _ _ (θ n).blk 0 cap (fun i j => vs.getD (i * ks.length + j) undef) hblk ⟨h4.1, Nat.le_trans h4.1 h4.2⟩ (fun i j hi hj => ?_) (fun i j k hi hk => (h6 i j k hi hk).1) (fun i j hi hj => ?_)
          · obtain ⟨z, hz, _⟩ := hex i j hi hj
            rw [Nat.zero_add, cell_of_row w _ _ _ _ _ h2]
            simp only [List.getElem?_toArray, hz, List.getD_eq_getElem?_getD, Option.getD_some]
          · obtain ⟨z, hz, hd⟩ := hex i j hi hj
            simp only [List.getD_eq_getElem?_getD, hz, Option.getD_some]
            exact hd.mono hS (fun _ _ => rfl)
      refine ⟨θ, by simp [h.size], fun i v hv => ?_, fun m o ho => ?_, fun m o x ho hu => ?_, fun m m' o1 o2 x h1 h2 hne hu1 hu2 => ?_, h.mine, h.fr, h.am, ?_, fun m go adm ho => ?_, h.ga, ⟨h.rr.1, fun l hl => ?_⟩, ⟨h.tt.1, by simp only [List.length_set, List.length_map]; exact h.tt.2.1, h.tt.2.2⟩, h.df, fun d hd m hm => ?_⟩
      · simp only [List.getElem?_map, Option.map_eq_some_iff] at hv
        obtain ⟨x, hx, rfl⟩ := hv
        obtain ⟨u, hu, hd⟩ := h.tm i x hx
        exact ⟨u, hu, den_fz hS hq hL hd⟩
      · obtain ⟨e, o', h1, rfl⟩ := hget m o ho
        have hH := h.lo m o' h1
        cases o' with
        | map kk ag vk es =>
          obtain ⟨arr, clk, g1, g2⟩ := hH
          exact ⟨arr, clk, g1, g2.mono hS (fun _ _ => rfl)⟩
        | cells t cs =>
          obtain ⟨vs, g1, g2⟩ := hH
          exact ⟨vs, g1, denL_fz hS hq hL g2⟩
        | vec t ks len get =>
          rcases hH with g1 | ⟨vs, cap, g1, g2, g3, g4, g5, g6⟩
          · exact .inl g1
          · refine .inr ⟨vs, cap, g1, g2, g3, g4, g5, fun i j q hi hq' => ?_⟩
            obtain ⟨a1, u, a2, a3⟩ := g6 i j q hi hq'
            exact ⟨a1, u, a2, a3.mono hS (fun _ _ => rfl)⟩
        | yl go adm => trivial
        | dfr => exact hH
        | deads => trivial
        | raw x => exact hH
        | siter b pos => exact hH
        | dead => trivial
        | gone => trivial
        | held tm =>
          obtain ⟨us, g1, g2⟩ := hH
          exact ⟨us, g1, denL_fz hS hq hL g2⟩
      · obtain ⟨e, o', h1, rfl⟩ := hget m o ho
        exact h.lt m o' x h1 ((uses_fz o' x).1 hu)
      · obtain ⟨_, p1, g1, rfl⟩ := hget m o1 h1
        obtain ⟨_, p2, g2, rfl⟩ := hget m' o2 h2
        exact h.inj m m' p1 p2 x g1 g2 hne ((uses_fz p1 x).1 hu1) ((uses_fz p2 x).1 hu2)
      · refine h.jj.step rfl rfl rfl (Nat.le_refl _) (fun _ _ _ => rfl) (fun x ⟨m, o, ho, hu⟩ => ?_) h.am h.own_am
        obtain ⟨_, o', h1, rfl⟩ := hget m o ho
        have hu' := (uses_fz o' x).1 hu
        exact ⟨.inl ⟨m, o', h1, hu'⟩, (h.lt m o' x h1 hu').1⟩
      · obtain ⟨_, o', h1, e⟩ := hget m _ ho
        have : o' = .yl go adm := by cases o' <;> simp [fzOb] at e; obtain ⟨rfl, rfl⟩ := e; rfl
        subst this
        exact h.yy m go adm h1
      · obtain ⟨m, x, hx, hb⟩ := h.rr.2 l hl
        have e : m ≠ n := fun e => by subst e; rw [hn] at hx; cases hx
        exact ⟨m, x, hput m _ hx e, hb⟩
      · have := List.all_eq_true.1 (List.all_eq_true.1 hdf d hd) m hm
        exact hL m (h.dfl d hd m hm) (by simpa using this)
    · exact ⟨θ, h⟩
  · exact ⟨θ, h⟩

section
variable [GW] {P : Program} {Γ : Gam} {root : Code}

/-- The rule, whatever is done to the state behind a round. -/
theorem loop_treeP (hΓ : GOK P Γ) {p : List Nat} {b : Code} (hc : codeAt root (0 :: p) = some b) {ι : Type} (ok : ι → Prop) (S : ι → St) (μ : ι → Nat) (R : Out) (nn k : Nat) (live dd : Ex → List Nat) (post : Ex → St → St) (hpost : ∀ e s, Sub P s (post e s))
    (hb : ∀ i, ok i → ∃ Λ e s', LamOK P root Λ ∧ ((sx P Γ Λ (0 :: p) b (S i)).bind fun x => .leaf (x.1, deadS (dd x.1) (canS nn k (live x.1) (post x.1 x.2)), chkM nn k (post x.1 x.2))).pick = some (e, s', true) ∧
      ((e = .normal ∧ ∃ j, ok j ∧ μ j < μ i ∧ s' = S j) ∨ (e ≠ .normal ∧ R.pick = some (e, s')))) :
    ∀ i, ok i → ∀ x, R.pick = some x → SemC P (.loop b) (S i) x := fun i hi x hx => by
  refine sem_loop ok S μ (fun _ => x) (fun i hi => ?_) i hi
  obtain ⟨Λ, e, s', hΛ, hp, hr⟩ := hb i hi
  rw [T.pick_bind] at hp
  obtain ⟨⟨e1, s1⟩, h1, h2⟩ := hp
  simp only [T.pick, Option.some.injEq, Prod.mk.injEq] at h2
  obtain ⟨rfl, rfl, h3⟩ := h2
  refine ⟨e1, s1, sem_of_sx hΓ hΛ (0 :: p) hc h1, ?_⟩
  have hsub : Sub P s1 (deadS (dd e1) (canS nn k (live e1) (post e1 s1))) := (hpost _ _).trans ((sub_can h3 _).trans (sub_dead _ _))
  rcases hr with ⟨he, j, hj, hlt, hs⟩ | ⟨he, hR⟩
  · exact .inl ⟨he, j, hj, hlt, hs ▸ hsub, rfl⟩
  · have : x = (e1, _) := Option.some.inj (hx.symm.trans hR)
    exact .inr ⟨he, by rw [this], by rw [this]; exact hsub⟩

/-- A summary that is asked for at the one state, whatever is done to it ahead. -/
noncomputable def orcP (pre : St → St) (mk : Bool) (nn k : Nat) (live : List Nat) (S : St) (R : Out) : St → Out := fun s => orc mk nn k live S R (pre s)

theorem LamOK.orcP {c : Code} {p : List Nat} {pre : St → St} {mk : Bool} {nn k : Nat} {live : List Nat} {S : St} {R : Out} {Λ : Lam} (hpre : ∀ s, Sub P s (pre s)) (hc : codeAt root p = some c) (h : ∀ x, R.pick = some x → SemC P c S x) (hΛ : LamOK P root Λ) : LamOK P root ((p, SX.orcP pre mk nn k live S R) :: Λ) :=
  LamOK.cons c hc (fun s x hp => by
    obtain ⟨e, t⟩ := x
    exact (orc_ok h (pre s) (e, t) hp).sub (hpre s) (Sub.refl _)) hΛ
end

theorem SpecOK.imp [GW] {P : Program} {f : Nat} {sp sp' : List V → T V} (h : SpecOK P f sp') (hi : ∀ args r, (∀ x ∈ args, VB x) → (sp args).pick = some r → (sp' args).pick = some r) : SpecOK P f sp :=
  ⟨h.1, fun S w args vals r a b c d e => h.2 S w args vals r a b c d (hi args r (fun x hx => let ⟨_, hv⟩ := d.mem x hx; hv.vb) e)⟩
/-- A contract that says less of the result. -/
theorem SpecOK.res [GW] {P : Program} {f : Nat} {sp sp' : List V → T V} (h : SpecOK P f sp') (hi : ∀ args r, (∀ x ∈ args, VB x) → (sp args).pick = some r → ∃ r', (sp' args).pick = some r' ∧ ∀ (S : Nat → Prop) (w : World) (v : Value), Den S NoL th0 w r' v → Den S NoL th0 w r v) : SpecOK P f sp :=
  ⟨h.1, fun S w args vals r a b c d e => by
    obtain ⟨r', h1, h2⟩ := hi args r (fun x hx => let ⟨_, hv⟩ := d.mem x hx; hv.vb) e
    exact (h.2 S w args vals r' a b c d h1).mono fun ev w' ⟨v, e1, e2, e3⟩ => ⟨v, e1, e2, h2 _ _ _ e3⟩⟩
/-- A nil list is a list of none. -/
theorem den_nil0 {S L : Nat → Prop} {θ : Th} {w : World} {ks : List K} {n : Nat} {g : Nat → Nat → Q} {v : Value} (hn : n = 0) (h : Den S L θ w (.q (.c (.slice none 0 0))) v) : Den S L θ w (.q (.lst ks n g)) v := by
  have := h.q_inv
  cases this
  exact .q _ _ (.nil _ _ _ hn)
/-- The tests on one way through a tree; what stands at its end. -/
def T.pathC {α : Type} : T α → List Bool → List Bool
  | .ite c t e, b :: l => c :: (match b with | true => t.pathC l | false => e.pathC l)
  | _, _ => []
def T.pathL {α : Type} : T α → List Bool → T α
  | .ite _ t e, b :: l => match b with | true => t.pathL l | false => e.pathL l
  | t, _ => t
theorem T.pick_path {α : Type} : ∀ (bs : List Bool) (t : T α), t.pathC bs = bs → t.pick = (t.pathL bs).pick
  | [], t, _ => by cases t <;> rfl
  | b :: l, .ite c t e, h => by
    simp only [T.pathC, List.cons.injEq] at h
    obtain ⟨rfl, h⟩ := h
    cases c with
    | true => exact T.pick_path l t h
    | false => exact T.pick_path l e h
  | b :: l, .leaf x, h => by simp [T.pathC] at h
  | b :: l, .bad, h => by simp [T.pathC] at h
/-- One way through a tree. -/
theorem T.pick_at {α : Type} {t : T α} {x : α} (bs cs : List Bool) (h1 : t.pathC bs = cs) (h2 : cs = bs) (h3 : t.pathL bs = .leaf x) : t.pick = some x := by
  rw [T.pick_path bs t (h1.trans h2), h3]; rfl
/-- What is let go of at a function's end. -/
def canP (n k : Nat) (live : List Nat) (s : St) : St := if chkM n k s then canS n k live s else s
theorem sub_canP [GW] {P : Program} (n k : Nat) (live : List Nat) (s : St) : Sub P s (canP n k live s) := by
  unfold canP
  split
  · rename_i h; exact sub_can h live
  · exact Sub.refl s
end Go.SX
