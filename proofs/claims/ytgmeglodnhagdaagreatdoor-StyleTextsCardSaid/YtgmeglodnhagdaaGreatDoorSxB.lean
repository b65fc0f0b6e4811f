/- How the symbolic state follows the world: new blocks, stores, calls that leave what was. No program in sight. -/
import Derived.Test.YtgmeglodnhagdaaGreatDoorSxA
namespace Go.SX
open Go.RowKit
set_option linter.unusedVariables false
set_option linter.unusedSimpArgs false
set_option linter.unusedSectionVars false

variable [GW] {P : Program} {J : Jt P} {Am Mi : Nat → Prop} {w0 w : World} {s : St} {θ : Th} {a : Act}

theorem Rep.stabS (h : Rep J Am Mi w0 s θ a w) : ∀ b, Stab Am s.lo θ w b → b < w.heap.size := fun _ hb => hb.1

theorem Rep.own_am (h : Rep J Am Mi w0 s θ a w) : ∀ b, Own s.lo θ b → ¬ Am b := fun b ⟨n, o, ho, hu⟩ => (h.lt n o b ho hu).2.2

theorem Rep.put (h : Rep J Am Mi w0 s θ a w) (d : Nat) {v : V} {u : Value} (hv : Den (Stab Am s.lo θ w) (Liv s.lo) θ w v u) :
    Rep J Am Mi w0 { s with tm := s.tm.set d v } θ (a.put (some d) u) w where
  size := by simp [Act.put, h.size]
  tm := fun i x hx => by
    simp only [List.getElem?_set] at hx
    split at hx
    · rename_i hi
      subst hi
      split at hx
      · rename_i hl
        cases hx
        exact ⟨u, by simp [Act.put, h.size, hl], hv⟩
      · cases hx
    · rename_i hi
      obtain ⟨y, hy, hd⟩ := h.tm i x hx
      exact ⟨y, by simp [Act.put, Array.getElem?_setIfInBounds_ne hi, hy], hd⟩
  lo := h.lo
  lt := h.lt
  inj := h.inj
  mine := h.mine
  fr := h.fr
  am := h.am
  jj := h.jj
  yy := h.yy
  ga := h.ga
  rr := h.rr
  tt := h.tt
  df := h.df
  dfl := h.dfl

theorem Rep.forget (h : Rep J Am Mi w0 s θ a w) (d : Nat) (u : Value) : Rep J Am Mi w0 { s with tm := s.tm.set d .any } θ (a.put (some d) u) w := h.put d (.any u)

/-- Only what is known of the temporaries is lost. -/
theorem Rep.less (h : Rep J Am Mi w0 s θ a w) {tm : List V} (hl : tm.length = s.tm.length) (ht : ∀ (i : Nat) v, tm[i]? = some v → v = .any ∨ s.tm[i]? = some v) :
    Rep J Am Mi w0 { s with tm } θ a w where
  size := by simp [h.size, hl]
  tm := fun i x hx => by
    rcases ht i x hx with rfl | hx'
    · have hi : i < tm.length := (List.getElem?_eq_some_iff.1 hx).1
      have : i < a.tmps.size := by rw [h.size, ← hl]; exact hi
      exact ⟨a.tmps[i], by simp [this], .any _⟩
    · exact h.tm i x hx'
  lo := h.lo
  lt := h.lt
  inj := h.inj
  mine := h.mine
  fr := h.fr
  am := h.am
  jj := h.jj
  yy := h.yy
  ga := h.ga
  rr := h.rr
  tt := h.tt
  df := h.df
  dfl := h.dfl

/-- A step of the world that leaves all blocks that were there. -/
theorem Rep.ext (h : Rep J Am Mi w0 s θ a w) {w' : World} (hb : Below w.heap.size w w') : Rep J Am Mi w0 s θ a w' := by
  have hS : ∀ b, Stab Am s.lo θ w b → Stab Am s.lo θ w' b := fun b hb' => ⟨Nat.lt_of_lt_of_le hb'.1 hb.size, hb'.2⟩
  have hw : ∀ b, Stab Am s.lo θ w b → w'.heap[b]? = w.heap[b]? := fun b hb' => hb.block b hb'.1
  refine ⟨h.size, fun i v hv => ?_, fun n o ho => ?_, fun n o b ho hu => ?_, h.inj, h.mine, ?_, fun b hb' => Nat.lt_of_lt_of_le (h.am b hb') hb.size, h.jj.step hb.os hb.tape hb.output hb.size (fun b hlt _ => hb.block b hlt) (fun b ⟨n, o, ho, hu⟩ => ⟨.inl ⟨n, o, ho, hu⟩, Nat.lt_of_lt_of_le (h.lt n o b ho hu).1 hb.size⟩) h.am h.own_am, h.yy, h.ga, h.rr, h.tt, h.df, h.dfl⟩
  · obtain ⟨u, hu, hd⟩ := h.tm i v hv
    exact ⟨u, hu, hd.mono hS hw (fun _ x => x) (fun _ _ => rfl)⟩
  · exact (h.lo n o ho).mono hS hw (fun _ x => x) (fun _ _ => rfl) ⟨o, ho⟩ (fun b hu => hb.block b (h.lt n o b ho hu).1)
  · exact ⟨Nat.lt_of_lt_of_le (h.lt n o b ho hu).1 hb.size, (h.lt n o b ho hu).2⟩
  · exact ⟨hb.os.trans h.fr.os, hb.tape.trans h.fr.tape, hb.output.trans h.fr.output, Nat.le_trans h.fr.size hb.size, fun b hlt hn => (hb.block b (Nat.lt_of_lt_of_le hlt h.fr.size)).trans (h.fr.block b hlt hn), h.fr.gl⟩

theorem Rep.drew (h : Rep J Am Mi w0 s θ a w) : Rep J Am Mi w0 s θ a w.drew := h.ext (Below.refl _ _).drew

/-- The list of the resources, with one more, under the name n. -/
def ins (lo : List (Option Ob)) (n : Nat) (o : Ob) : List (Option Ob) := (lo ++ List.replicate (n + 1 - lo.length) none).set n (some o)

theorem ins_same (lo : List (Option Ob)) (n : Nat) (o : Ob) : (ins lo n o)[n]? = some (some o) := by
  have : n < lo.length + (n + 1 - lo.length) := by omega
  simp [ins, List.getElem?_set, this]

theorem ins_other (lo : List (Option Ob)) (n m : Nat) (o o' : Ob) (hm : m ≠ n) : (ins lo n o)[m]? = some (some o') ↔ lo[m]? = some (some o') := by
  simp only [ins, List.getElem?_set]
  rw [if_neg (fun h => hm h.symm), List.getElem?_append]
  split
  · rfl
  · rename_i hlt
    have h1 : lo[m]? = none := List.getElem?_eq_none (by omega)
    rw [h1]
    simp [List.getElem?_replicate]

/-- A resource more, under a name that may be given; its block (if it has one) is new. -/
theorem Rep.gain (h : Rep J Am Mi w0 s θ a w) (n : Nat) (hfr : Fresh s n) (o : Ob) {w' : World} (hb : Below w.heap.size w w') (nm : Nm) (θ' : Th) (hθ' : θ' = fun m => if m = n then nm else θ m)
    (hny : ∀ go adm, o ≠ .yl go adm) (hu : ∀ b, uses θ' n o b → w.heap.size ≤ b ∧ b < w'.heap.size)
    (hd : ∀ (S L : Nat → Prop), (∀ b, Stab Am s.lo θ w b → S b) → (∀ m, Liv s.lo m → L m) → (∀ m, Liv s.lo m → θ' m = θ m) → (∀ b, Stab Am s.lo θ w b → w'.heap[b]? = w.heap[b]?) → Holds S L θ' w' n o) :
    Rep J Am Mi w0 { s with lo := ins s.lo n o } θ' a w' := by
  have hn := hfr.2
  subst hθ'
  have hθ : ∀ m, Liv s.lo m → (fun m => if m = n then nm else θ m) m = θ m := fun m hm => by
    obtain ⟨o, ho⟩ := hm
    have : m ≠ n := fun e => hn o (by rw [← e]; exact ho)
    simp [this]
  have hL : ∀ m, Liv s.lo m → Liv (ins s.lo n o) m := fun m hm => by
    obtain ⟨o', ho⟩ := hm
    exact ⟨o', (ins_other _ _ _ _ _ (fun e => hn o' (by rw [← e]; exact ho))).2 ho⟩
  have hS : ∀ b, Stab Am s.lo θ w b → Stab Am (ins s.lo n o) (fun m => if m = n then nm else θ m) w' b := fun b hb' => by
    refine ⟨Nat.lt_of_lt_of_le hb'.1 hb.size, hb'.2.1, fun m o' ho hu' => ?_⟩
    by_cases hm : m = n
    · subst hm
      rw [ins_same] at ho
      cases ho
      have := hu b hu'
      exact absurd hb'.1 (by omega)
    · rw [ins_other _ _ _ _ _ hm] at ho
      rw [uses_congr (θ := θ) (by simp [hm])] at hu'
      exact hb'.2.2 m o' ho hu'
  have hw : ∀ b, Stab Am s.lo θ w b → w'.heap[b]? = w.heap[b]? := fun b hb' => hb.block b hb'.1
  refine ⟨h.size, fun i v hv => ?_, fun m o' ho => ?_, fun m o' b ho hu' => ?_, fun m m' o1 o2 b ho ho' hne hu1 hu2 => ?_, h.mine, ?_, fun b hb' => Nat.lt_of_lt_of_le (h.am b hb') hb.size, ?_, ?_, h.ga, ⟨h.rr.1, fun l hl => ?_⟩, ⟨h.tt.1, Nat.le_trans h.tt.2.1 (by simp [ins]), fun m hm => (by have h1 : m < s.base := hm; have h2 := hfr.1; rw [if_neg (show m ≠ n by omega)]; exact h.tt.2.2 m h1)⟩, ?_, fun d hd m hm => hL m (h.dfl d hd m hm)⟩
  · obtain ⟨u, hu, hd⟩ := h.tm i v hv
    exact ⟨u, hu, hd.mono hS hw hL hθ⟩
  · by_cases hm : m = n
    · subst hm
      rw [ins_same] at ho
      cases ho
      exact hd _ _ hS hL hθ hw
    · rw [ins_other _ _ _ _ _ hm] at ho
      exact (h.lo m o' ho).mono hS hw hL hθ ⟨o', ho⟩ (fun b hu => hb.block b (h.lt m o' b ho hu).1)
  · by_cases hm : m = n
    · subst hm
      rw [ins_same] at ho
      cases ho
      have := hu b hu'
      exact ⟨this.2, h.mine _ (Nat.le_trans h.fr.size this.1), fun hh => absurd (h.am _ hh) (by omega)⟩
    · rw [ins_other _ _ _ _ _ hm] at ho
      rw [uses_congr (θ := θ) (by simp [hm])] at hu'
      exact ⟨Nat.lt_of_lt_of_le (h.lt m o' b ho hu').1 hb.size, (h.lt m o' b ho hu').2⟩
  · by_cases hm : m = n
    · subst hm
      rw [ins_same] at ho
      cases ho
      have e1 := hu b hu1
      have hm' : m' ≠ m := fun e => hne e.symm
      rw [ins_other _ _ _ _ _ hm'] at ho'
      rw [uses_congr (θ := θ) (by simp [hm'])] at hu2
      have := (h.lt m' o2 b ho' hu2).1
      omega
    · rw [ins_other _ _ _ _ _ hm] at ho
      rw [uses_congr (θ := θ) (by simp [hm])] at hu1
      by_cases hm' : m' = n
      · subst hm'
        rw [ins_same] at ho'
        cases ho'
        have e1 := hu b hu2
        have := (h.lt m o1 b ho hu1).1
        omega
      · rw [ins_other _ _ _ _ _ hm'] at ho'
        rw [uses_congr (θ := θ) (by simp [hm'])] at hu2
        exact h.inj m m' o1 o2 b ho ho' hne hu1 hu2
  · exact ⟨hb.os.trans h.fr.os, hb.tape.trans h.fr.tape, hb.output.trans h.fr.output, Nat.le_trans h.fr.size hb.size, fun b hlt hn => (hb.block b (Nat.lt_of_lt_of_le hlt h.fr.size)).trans (h.fr.block b hlt hn), h.fr.gl⟩
  · refine h.jj.step hb.os hb.tape hb.output hb.size (fun b hlt _ => hb.block b hlt) (fun b ⟨m, o', ho, hu'⟩ => ?_) h.am h.own_am
    by_cases hm : m = n
    · subst hm
      rw [ins_same] at ho
      cases ho
      have := hu b hu'
      exact ⟨.inr this.1, this.2⟩
    · rw [ins_other _ _ _ _ _ hm] at ho
      rw [uses_congr (θ := θ) (by simp [hm])] at hu'
      exact ⟨.inl ⟨m, o', ho, hu'⟩, Nat.lt_of_lt_of_le (h.lt m o' b ho hu').1 hb.size⟩
  · intro m go adm ho
    by_cases hm : m = n
    · subst hm
      rw [ins_same] at ho
      cases ho
      exact absurd rfl (hny go adm)
    · rw [ins_other _ _ _ _ _ hm] at ho
      simp only [if_neg hm]
      exact h.yy m go adm ho
  · obtain ⟨m, x, hx, hb⟩ := h.rr.2 l hl
    have hm : m ≠ n := fun e => hn _ (by rw [← e]; exact hx)
    exact ⟨m, x, (ins_other _ _ _ _ _ hm).2 hx, by simp only [if_neg hm]; exact hb⟩
  · rw [h.df]
    exact flatMap_congr' fun d hd => (Df.den_congr d fun m hm => hθ m (h.dfl d hd m hm)).symm

/-- A new block, under a name that is not alive. -/
theorem Rep.new (h : Rep J Am Mi w0 s θ a w) (n : Nat) (hfr : Fresh s n) (o : Ob) (x : Obj) (nm : Nm) (θ' : Th) (hθ' : θ' = fun m => if m = n then nm else θ m)
    (hny : ∀ go adm, o ≠ .yl go adm) (hu : ∀ b, uses θ' n o b → b = w.heap.size)
    (hd : ∀ (S L : Nat → Prop), (∀ b, Stab Am s.lo θ w b → S b) → (∀ m, Liv s.lo m → L m) → (∀ m, Liv s.lo m → θ' m = θ m) → (∀ b, Stab Am s.lo θ w b → (w.alloc x).heap[b]? = w.heap[b]?) → Holds S L θ' (w.alloc x) n o) :
    Rep J Am Mi w0 { s with lo := ins s.lo n o } θ' a (w.alloc x) :=
  h.gain n hfr o ((Below.refl _ _).alloc (Nat.le_refl _) _) nm θ' hθ' hny (fun b hb => by have := hu b hb; subst this; exact ⟨Nat.le_refl _, by simp⟩) hd

/-- A new block of cells, under a name that is not alive. -/
theorem Rep.alloc (h : Rep J Am Mi w0 s θ a w) (n : Nat) (hn : Fresh s n) (t : TypeId) (cs : List V) (vs : List Value)
    (hd : DenL (Stab Am s.lo θ w) (Liv s.lo) θ w cs vs) :
    ∃ θ', (θ' n).blk = w.heap.size ∧ Rep J Am Mi w0 { s with lo := ins s.lo n (.cells t cs) } θ' a (w.alloc (.cells vs.toArray t)) := by
  refine ⟨fun m => if m = n then ⟨w.heap.size, .tuple #[], []⟩ else θ m, by simp, h.new n hn _ _ _ _ rfl (fun _ _ e => by cases e) (fun b hb => by simpa [uses] using hb) (fun S L hS hL hθ hw => ?_)⟩
  exact ⟨vs, by simp only [if_true]; exact Array.getElem?_push_size, hd.mono hS hw hL hθ⟩

/-- Cells in place of others, from the place off on. -/
def over {α : Type} : List α → Nat → List α → List α
  | l, _, [] => l
  | [], _, _ :: _ => []
  | _ :: l, 0, v :: vs => v :: over l 0 vs
  | x :: l, n + 1, v :: vs => x :: over l n (v :: vs)

theorem over_nil {α : Type} (l : List α) (off : Nat) : over l off [] = l := by cases l <;> rfl

theorem over_cons {α : Type} (l : List α) : ∀ (off : Nat) (v : α) (vs : List α), over l off (v :: vs) = over (l.set off v) (off + 1) vs := by
  induction l with
  | nil => intro off v vs; cases off <;> cases vs <;> rfl
  | cons x l ih =>
    intro off v vs
    cases off with
    | zero =>
      simp only [over, List.set_cons_zero]
      cases vs with
      | nil => simp [over_nil]
      | cons y vs => simp [over]
    | succ off =>
      simp only [over, List.set_cons_succ]
      cases vs with
      | nil => rw [ih]; simp [over_nil]
      | cons y vs => rw [ih]; simp [over]

theorem over_length {α : Type} (l : List α) (off : Nat) (vs : List α) : (over l off vs).length = l.length := by
  induction vs generalizing l off with
  | nil => simp [over_nil]
  | cons v vs ih => rw [over_cons, ih, List.length_set]

theorem DenL.set {S L : Nat → Prop} {θ : Th} {w : World} {l : List V} {vs : List Value} (h : DenL S L θ w l vs) (i : Nat) {x : V} {u : Value} (hx : Den S L θ w x u) : DenL S L θ w (l.set i x) (vs.set i u) := by
  induction l generalizing vs i with
  | nil => cases h; exact .nil
  | cons y l ih =>
    cases h with
    | cons y v l vs h hl =>
      cases i with
      | zero => exact .cons _ _ _ _ hx hl
      | succ i => exact .cons _ _ _ _ h (ih hl i)

theorem DenL.over {S L : Nat → Prop} {θ : Th} {w : World} {l : List V} {vs : List Value} (h : DenL S L θ w l vs) (off : Nat) {xs : List V} {us : List Value} (hx : DenL S L θ w xs us) : DenL S L θ w (over l off xs) (over vs off us) := by
  induction xs generalizing l vs off us with
  | nil => cases hx; simpa [over_nil] using h
  | cons x xs ih => cases hx with | cons x u xs us h1 h2 => rw [over_cons, over_cons]; exact ih (h.set off h1) (off + 1) h2

/-- The heap with one block of cells written anew. -/
def World.putCells (w : World) (b : Nat) (vs : List Value) (t : TypeId) : World := { w with heap := w.heap.setIfInBounds b (.cells vs.toArray t (0, 0)) }

theorem putCells_same (w : World) (b : Nat) (vs : List Value) (t : TypeId) (hb : b < w.heap.size) : (World.putCells w b vs t).heap[b]? = some (.cells vs.toArray t (0, 0)) := by
  simp [World.putCells, hb]

theorem putCells_other (w : World) (b c : Nat) (vs : List Value) (t : TypeId) (hc : c ≠ b) : (World.putCells w b vs t).heap[c]? = w.heap[c]? := by
  simp [World.putCells, Array.getElem?_setIfInBounds_ne (Ne.symm hc)]

theorem putCells_size (w : World) (b : Nat) (vs : List Value) (t : TypeId) : (World.putCells w b vs t).heap.size = w.heap.size := by simp [World.putCells]

/-- A block of cells that is owned is written anew. -/
theorem Rep.write (h : Rep J Am Mi w0 s θ a w) (n : Nat) (t : TypeId) (cs cs' : List V) (vs : List Value) (hn : s.lo[n]? = some (some (.cells t cs)))
    (hd : DenL (Stab Am s.lo θ w) (Liv s.lo) θ w cs' vs) :
    Rep J Am Mi w0 { s with lo := s.lo.set n (some (.cells t cs')) } θ a (World.putCells w (θ n).blk vs t) := by
  have hlt : n < s.lo.length := (List.getElem?_eq_some_iff.1 hn).1
  have hnb := h.lt n _ _ hn rfl
  have hset : ∀ (m : Nat) (o : Ob), (s.lo.set n (some (.cells t cs')))[m]? = some (some o) → (m = n ∧ o = .cells t cs') ∨ (m ≠ n ∧ s.lo[m]? = some (some o)) := fun m o ho => by
    by_cases e : n = m
    · subst e
      rw [List.getElem?_set_self hlt] at ho
      exact .inl ⟨rfl, (Option.some.inj (Option.some.inj ho)).symm⟩
    · rw [List.getElem?_set_ne e] at ho
      exact .inr ⟨fun x => e x.symm, ho⟩
  have hL : ∀ m, Liv s.lo m → Liv (s.lo.set n (some (.cells t cs'))) m := fun m hm => by
    obtain ⟨o, ho⟩ := hm
    by_cases e : m = n
    · subst e; exact ⟨.cells t cs', by simp [List.getElem?_set, hlt]⟩
    · exact ⟨o, by simp only [List.getElem?_set]; rw [if_neg (fun x => e x.symm)]; exact ho⟩
  have hu : ∀ (m : Nat) (o : Ob) (b : Nat), (s.lo.set n (some (.cells t cs')))[m]? = some (some o) → uses θ m o b → ∃ o', s.lo[m]? = some (some o') ∧ uses θ m o' b := fun m o b ho hu => by
    rcases hset m o ho with ⟨rfl, rfl⟩ | ⟨_, ho'⟩
    · exact ⟨_, hn, hu⟩
    · exact ⟨o, ho', hu⟩
  have hS : ∀ b, Stab Am s.lo θ w b → Stab Am (s.lo.set n (some (.cells t cs'))) θ (World.putCells w (θ n).blk vs t) b := fun b hb => by
    refine ⟨by rw [putCells_size]; exact hb.1, hb.2.1, fun m o ho hx => ?_⟩
    obtain ⟨o', ho', hx'⟩ := hu m o b ho hx
    exact hb.2.2 m o' ho' hx'
  have hw : ∀ b, Stab Am s.lo θ w b → (World.putCells w (θ n).blk vs t).heap[b]? = w.heap[b]? := fun b hb => putCells_other _ _ _ _ _ (fun e => hb.2.2 n _ hn (show uses θ n _ b from e))
  refine ⟨h.size, fun i v hv => ?_, fun m o ho => ?_, fun m o b ho hx => ?_, fun m m' o o' b ho ho' hne hx hx' => ?_, h.mine, ?_, fun b hb => by rw [putCells_size]; exact h.am b hb, ?_, fun m go adm ho => ?_, h.ga, ⟨h.rr.1, fun l hl => ?_⟩, ⟨h.tt.1, by simpa using h.tt.2.1, h.tt.2.2⟩, h.df, fun d hd m hm => hL m (h.dfl d hd m hm)⟩
  · obtain ⟨u, hu, hd⟩ := h.tm i v hv
    exact ⟨u, hu, hd.mono hS hw hL (fun _ _ => rfl)⟩
  · rcases hset m o ho with ⟨rfl, rfl⟩ | ⟨hm, ho'⟩
    · exact ⟨vs, putCells_same _ _ _ _ hnb.1, hd.mono hS hw hL (fun _ _ => rfl)⟩
    · exact (h.lo m o ho').mono hS hw hL (fun _ _ => rfl) ⟨o, ho'⟩ (fun b hb => putCells_other _ _ _ _ _ (fun e => h.inj m n o _ b ho' hn hm hb (show uses θ n _ b from e)))
  · obtain ⟨o', ho', hx'⟩ := hu m o b ho hx
    rw [putCells_size]
    exact h.lt m o' b ho' hx'
  · obtain ⟨p, hp, hpx⟩ := hu m o b ho hx
    obtain ⟨p', hp', hpx'⟩ := hu m' o' b ho' hx'
    exact h.inj m m' p p' b hp hp' hne hpx hpx'
  · refine ⟨h.fr.os, h.fr.tape, h.fr.output, by rw [putCells_size]; exact h.fr.size, fun b hb hm => ?_, h.fr.gl⟩
    rw [putCells_other _ _ _ _ _ (fun e => hm (by rw [e]; exact hnb.2.1))]
    exact h.fr.block b hb hm
  · refine h.jj.step rfl rfl rfl (by rw [putCells_size]; exact Nat.le_refl _) (fun b hlt hb => putCells_other _ _ _ _ _ (fun e => hb ⟨n, _, hn, e⟩)) (fun b ⟨m, o, ho, hx⟩ => ?_) h.am h.own_am
    obtain ⟨o', ho', hx'⟩ := hu m o b ho hx
    exact ⟨.inl ⟨m, o', ho', hx'⟩, by rw [putCells_size]; exact (h.lt m o' b ho' hx').1⟩

  · rcases hset m _ ho with ⟨_, e⟩ | ⟨_, ho'⟩
    · cases e
    · exact h.yy m go adm ho'
  · obtain ⟨m, x, hx, hb⟩ := h.rr.2 l hl
    have hm : n ≠ m := fun e => by rw [← e, hn] at hx; cases hx
    exact ⟨m, x, by simp only [List.getElem?_set_ne hm]; exact hx, hb⟩

/-- A block that is owned is turned into something else. -/
theorem Rep.turnG (h : Rep J Am Mi w0 s θ a w) (n : Nat) (o o' : Ob) (hn : s.lo[n]? = some (some o)) (hu' : ∀ b, uses θ n o' b → uses θ n o b) (hny : ∀ go adm, o' ≠ .yl go adm) (hnr : (∃ x, o' = .raw (.loop x)) ∨ ∀ l, J.r = some l → ∀ x, o = .raw (.loop x) → (θ n).blk ≠ l)
    {w' : World} (hos : w'.os = w.os) (htp : w'.tape = w.tape) (hout : w'.output = w.output) (hsz : w'.heap.size = w.heap.size) (hww : ∀ b, ¬ uses θ n o b → w'.heap[b]? = w.heap[b]?)
    (hH : Holds (Stab Am s.lo θ w) (Liv s.lo) θ w' n o') : Rep J Am Mi w0 { s with lo := s.lo.set n (some o') } θ a w' := by
  have hlt : n < s.lo.length := (List.getElem?_eq_some_iff.1 hn).1
  have hset : ∀ (m : Nat) (x : Ob), (s.lo.set n (some o'))[m]? = some (some x) → (m = n ∧ x = o') ∨ (m ≠ n ∧ s.lo[m]? = some (some x)) := fun m x hx => by
    by_cases e : n = m
    · subst e
      rw [List.getElem?_set_self hlt] at hx
      exact .inl ⟨rfl, (Option.some.inj (Option.some.inj hx)).symm⟩
    · rw [List.getElem?_set_ne e] at hx
      exact .inr ⟨fun x => e x.symm, hx⟩
  have hL : ∀ m, Liv s.lo m → Liv (s.lo.set n (some o')) m := fun m hm => by
    obtain ⟨x, hx⟩ := hm
    by_cases e : m = n
    · subst e; exact ⟨o', by simp [List.getElem?_set, hlt]⟩
    · exact ⟨x, by simp only [List.getElem?_set]; rw [if_neg (fun x => e x.symm)]; exact hx⟩
  have hu : ∀ (m : Nat) (x : Ob) (b : Nat), (s.lo.set n (some o'))[m]? = some (some x) → uses θ m x b → ∃ y, s.lo[m]? = some (some y) ∧ uses θ m y b := fun m x b hx hb => by
    rcases hset m x hx with ⟨rfl, rfl⟩ | ⟨_, hx'⟩
    · exact ⟨_, hn, hu' b hb⟩
    · exact ⟨x, hx', hb⟩
  have hS : ∀ b, Stab Am s.lo θ w b → Stab Am (s.lo.set n (some o')) θ w' b := fun b hb => by
    refine ⟨by rw [hsz]; exact hb.1, hb.2.1, fun m x hx hux => ?_⟩
    obtain ⟨y, hy, huy⟩ := hu m x b hx hux
    exact hb.2.2 m y hy huy
  have hw : ∀ b, Stab Am s.lo θ w b → w'.heap[b]? = w.heap[b]? := fun b hb => hww b (fun e => hb.2.2 n _ hn e)
  refine ⟨h.size, fun i v hv => ?_, fun m x hx => ?_, fun m x b hx hux => ?_, fun m m' x x' b hx hx' hne hux hux' => ?_, h.mine, ?_, fun b hb => by rw [hsz]; exact h.am b hb, ?_, fun m go adm hx => ?_, h.ga, ⟨h.rr.1, fun l hl => ?_⟩, ⟨h.tt.1, by simpa using h.tt.2.1, h.tt.2.2⟩, h.df, fun d hd m hm => hL m (h.dfl d hd m hm)⟩
  · obtain ⟨u, hu, hd⟩ := h.tm i v hv
    exact ⟨u, hu, hd.mono hS hw hL (fun _ _ => rfl)⟩
  · rcases hset m x hx with ⟨rfl, rfl⟩ | ⟨hm, hx'⟩
    · exact hH.mono hS (fun _ _ => rfl) hL (fun _ _ => rfl) ⟨o, hn⟩ (fun _ _ => rfl)
    · exact (h.lo m x hx').mono hS hw hL (fun _ _ => rfl) ⟨x, hx'⟩ (fun b hb => hww b (fun e => h.inj m n x o b hx' hn hm hb e))
  · obtain ⟨y, hy, huy⟩ := hu m x b hx hux
    rw [hsz]
    exact h.lt m y b hy huy
  · obtain ⟨p, hp, hpx⟩ := hu m x b hx hux
    obtain ⟨p', hp', hpx'⟩ := hu m' x' b hx' hux'
    exact h.inj m m' p p' b hp hp' hne hpx hpx'
  · refine ⟨hos.trans h.fr.os, htp.trans h.fr.tape, hout.trans h.fr.output, by rw [hsz]; exact h.fr.size, fun b hb hm => ?_, h.fr.gl⟩
    rw [hww b (fun e => hm (h.lt n o b hn e).2.1)]
    exact h.fr.block b hb hm
  · refine h.jj.step hos htp hout (by rw [hsz]; exact Nat.le_refl _) (fun b hlt hb => hww b (fun e => hb ⟨n, _, hn, e⟩)) (fun b ⟨m, x, hx, hux⟩ => ?_) h.am h.own_am
    obtain ⟨y, hy, huy⟩ := hu m x b hx hux
    exact ⟨.inl ⟨m, y, hy, huy⟩, by rw [hsz]; exact (h.lt m y b hy huy).1⟩
  · rcases hset m _ hx with ⟨_, e⟩ | ⟨_, hx'⟩
    · exact absurd e.symm (hny go adm)
    · exact h.yy m go adm hx'
  · obtain ⟨m, x, hx, hb⟩ := h.rr.2 l hl
    by_cases hm : n = m
    · subst hm
      rw [hn] at hx
      cases hx
      rcases hnr with ⟨y, rfl⟩ | hh
      · exact ⟨n, y, by simp [List.getElem?_set, hlt], hb⟩
      · exact absurd hb (hh l hl x rfl)
    · exact ⟨m, x, by simp only [List.getElem?_set_ne hm]; exact hx, hb⟩

theorem Rep.turn (h : Rep J Am Mi w0 s θ a w) (n : Nat) (o o' : Ob) (hn : s.lo[n]? = some (some o)) (hu' : ∀ b, uses θ n o' b → uses θ n o b) (hny : ∀ go adm, o' ≠ .yl go adm) (hnr : (∃ x, o' = .raw (.loop x)) ∨ ∀ x, o ≠ .raw (.loop x))
    {w' : World} (hos : w'.os = w.os) (htp : w'.tape = w.tape) (hout : w'.output = w.output) (hsz : w'.heap.size = w.heap.size) (hww : ∀ b, ¬ uses θ n o b → w'.heap[b]? = w.heap[b]?)
    (hH : Holds (Stab Am s.lo θ w) (Liv s.lo) θ w' n o') : Rep J Am Mi w0 { s with lo := s.lo.set n (some o') } θ a w' :=
  h.turnG n o o' hn hu' hny (hnr.imp id fun hh _ _ x e => absurd e (hh x)) hos htp hout hsz hww hH

end Go.SX
