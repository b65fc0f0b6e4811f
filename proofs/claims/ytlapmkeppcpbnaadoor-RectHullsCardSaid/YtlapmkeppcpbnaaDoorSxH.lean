/- What an operation makes of the symbolic state: calls; what makes and writes memory; one step. -/
import Derived.Test.YtlapmkeppcpbnaaDoorSxG
import Derived.Great.FillDense
import Derived.RangeFuncLeaves
import Derived.RangeFuncRecord
namespace Go.SX
open Go.RowKit
set_option linter.unusedVariables false
set_option linter.unusedSimpArgs false
set_option linter.unusedSectionVars false

section
variable [GW] {P : Program} {J : Jt P} {Am Mi : Nat → Prop} {w0 w : World} {s : St} {θ : Th} {a : Act} {Γ : Gam} {r : Option Nat} {n : Nat} {o : Oper} {K : Act → World → Prop} {Q : Exit → Act → World → Prop}

theorem Rep.stab_ext (h : Rep J Am Mi w0 s θ a w) {w' : World} (hb : Below w.heap.size w w') (b : Nat) (hS : Stab Am s.lo θ w b ∨ (w.heap.size ≤ b ∧ b < w'.heap.size)) : Stab Am s.lo θ w' b := by
  rcases hS with hS | ⟨h1, h2⟩
  · exact ⟨Nat.lt_of_lt_of_le hS.1 hb.size, hS.2⟩
  · refine ⟨h2, fun ham => ?_, fun m o ho hu => ?_⟩
    · have := h.am b ham
      omega
    · have := (h.lt m o b ho hu).1
      omega

theorem Rep.glS (h : Rep J Am Mi w0 s θ a w) : ∀ x ∈ GW.gl, Stab Am s.lo θ w x.1 := fun x hx =>
  ⟨h.fr.glw.lt x hx, h.ga x hx, fun n o ho hu => h.fr.gl.1 x hx (h.lt n o _ ho hu).2.1⟩

theorem execV_call (hΓ : GOK P Γ) (h : Rep J Am Mi w0 s θ a w) {t : T V} {x : V} (hc : isCallF o = true) (hnb : ∀ t m parts, o.op ≠ .buildSlice t m parts) (he : execV P Γ o s = some t) (hp : t.pick = some x)
    (hK : ∀ v w', Below w.heap.size w w' → Den (Stab Am s.lo θ w') (Liv s.lo) θ w' x v → K (a.put o.dst v) w') : o.wpIn (FW r) n P a w K Q := by
  unfold isCallF at hc
  split at hc
  · rename_i c hop
    split at hc
    · rename_i f hcal
      simp only [execV, hop, execC, hcal] at he
      split at he
      · rename_i sp hsp
        cases he
        split at hp
        · rename_i hfree
          obtain ⟨hent, hcall⟩ := hΓ _ (look_mem hsp)
          have hd := den_map h c.args.toList
          have hd' : DenL (Stab Am s.lo θ w) NoL th0 w (c.args.toList.map (ev s)) (c.args.toList.map a.eval) := denL_free hd hfree
          have e : (List.map a.eval c.args.toList).toArray = Array.map a.eval c.args := by apply Array.ext'; simp
          have hC := hcall _ w _ _ x (fun b hb => hb.1) h.fr.glw h.glS hd' hp
          rw [e] at hC
          refine wpIn_enter (f := f) (args := c.args.map a.eval) (w' := w) (by simp [hop]) ?_ (hC.mono ?_)
          · simp only [execOp, hop, resolve, hcal, Act.eval, Deferred.ofValue, Sem.run_bind, Sem.run_pure, Result.andThen_ok, invoke, Array.append_empty, Array.empty_append]
            exact run_enters hent _ w
          · rintro ev' w' ⟨v, rfl, hb, hr⟩
            refine hK v w' hb (hr.mono (fun b hS => h.stab_ext hb b hS) (fun _ _ => rfl) (fun _ hf => hf.elim) (fun _ hf => hf.elim))
        · simp [T.pick] at hp
      · cases he
    · cases hc
  · rename_i hb
    exact absurd hb (hnb _ _ _)
  · cases hc

/-! ### what makes and writes memory -/

def V.one : V → Bool
  | .q (.c x) => x.oneCell'
  | .agg _ | .tup _ | .any => false
  | _ => true

theorem bsRows_den (h : Rep J Am Mi w0 s θ a w) {ks : List SX.K} : ∀ (l : List (Nat × Operand)) (i : Nat) (rows : List (List SX.Q)), bsRows ks (ev s) i l = some rows →
    (l.map fun x => (x.1, a.eval x.2)) = (((l.map fun x => a.eval x.2).zipIdx i).map fun x => (x.2, x.1)) ∧ rows.length = l.length ∧
    ∀ (k : Nat) row, rows[k]? = some row → ∃ u, (l.map fun x => a.eval x.2)[k]? = some u ∧ u.cells.size = ks.length ∧ kOks ks row = true ∧ ∀ (j : Nat) q, row[j]? = some q → ∃ c, u.cells[j]? = some c ∧ DenQ (Stab Am s.lo θ w) w q c
  | [], i, rows, e => by cases e; exact ⟨rfl, rfl, fun k row h => by simp at h⟩
  | (j, x) :: l, i, rows, e => by
    simp only [bsRows] at e
    split at e
    · rename_i hij
      subst hij
      split at e
      · rename_i cs hcs
        split at e
        · rename_i qs hqs
          split at e
          · rename_i hk
            simp only [Option.map_eq_some_iff] at e
            obtain ⟨r, hr, rfl⟩ := e
            obtain ⟨h1, h2, h3⟩ := bsRows_den h l (j + 1) r hr
            refine ⟨by simp [h1], by simp [h2], fun k row hrow => ?_⟩
            cases k with
            | zero =>
              simp at hrow
              subst hrow
              obtain ⟨g1, g2⟩ := qsOf_den (den_cells (h.ev x) hcs) hqs
              refine ⟨_, rfl, ?_, hk, fun j q hq => ?_⟩
              · rw [(kOks_len hk).1, g1]; simp
              · obtain ⟨u, hu, hd⟩ := g2 j q hq
                exact ⟨u, by simpa using hu, hd⟩
            | succ k => exact h3 k row (by simpa using hrow)
          · cases e
        · cases e
      · cases e
    · cases e

theorem bsT_run {t : TypeId} {z : Nat} (h : bsT P t = some z) (w : World) : ∃ e zv, P.underlying t = some (.slice e) ∧ (sizeOf e).run P w = .ok z w ∧ (zeroValue e).run P w = .ok zv w := by
  unfold bsT at h
  cases hu : P.underlying t with
  | none => simp [underlying, program, run0, hu, stuck, Bind.bind, Sem.bind, Pure.pure] at h
  | some d =>
    cases d <;> simp only [underlying, program, run0, hu, stuck, Bind.bind, Sem.bind, Pure.pure] at h <;> first | cases h | skip
    rename_i e
    split at h
    · rename_i zv hz
      exact ⟨e, zv, rfl, run0_run _ w h, run0_run _ w hz⟩
    · cases h

theorem bs_wp (h : Rep J Am Mi w0 s θ a w) {t : TypeId} {m : Nat} {parts : Array (Nat × Operand)} (hop : o.op = .buildSlice t m parts) {x : V} (hp : (bsV P t m parts.toList (ev s)).pick = some x)
    (hK : ∀ v w', Below w.heap.size w w' → Den (Stab Am s.lo θ w') (Liv s.lo) θ w' x v → K (a.put o.dst v) w') : o.wpIn (FW r) n P a w K Q := by
  unfold bsV at hp
  split at hp
  · rename_i sz hsz
    split at hp
    · rename_i rows hrows
      split at hp
      · rename_i hc
        cases hp
        simp only [Bool.and_eq_true, decide_eq_true_eq] at hc
        obtain ⟨⟨⟨hks, hpos⟩, hlen⟩, hbig⟩ := hc
        generalize hks' : bsKs (ev s) sz parts.toList = ks at *
        obtain ⟨el, zv, hu, hs, hz⟩ := bsT_run hsz w
        obtain ⟨h1, h2, h3⟩ := bsRows_den h parts.toList 0 rows hrows
        have hvl : (parts.toList.map fun x => a.eval x.2).length = m := by simpa using hlen
        have hsize : ∀ v ∈ (parts.toList.map fun x => a.eval x.2), v.cells.size = sz := fun v hv => by
          obtain ⟨k, hk, rfl⟩ := List.mem_iff_getElem.1 hv
          have hk' : k < rows.length := by rw [h2]; simpa using hk
          obtain ⟨u, hu1, hu2, _⟩ := h3 k _ (List.getElem?_eq_getElem hk')
          rw [List.getElem?_eq_getElem hk] at hu1
          cases hu1
          rw [hu2, hks]
        have hfill := Great.fill_whole hpos (parts.toList.map fun x => a.eval x.2) ((Array.range (m * sz)).map (zv.cells[· % zv.cells.size]!)) hsize (by simp; rw [← hlen]; simp)
        have hw : ∀ b, b < w.heap.size → (w.alloc (.cells ((parts.toList.map fun x => a.eval x.2).flatMap fun v => v.cells.toList).toArray el)).heap[b]? = w.heap[b]? := fun b hb => Below.heap_alloc _ _ _ hb
        have hbel : Below w.heap.size w (w.alloc (.cells ((parts.toList.map fun x => a.eval x.2).flatMap fun v => v.cells.toList).toArray el)) := (Below.refl _ _).alloc (Nat.le_refl _) _
        refine wpIn_value (v := .slice (some ⟨w.heap.size, 0, none⟩) m m) (w' := w.alloc (.cells ((parts.toList.map fun x => a.eval x.2).flatMap fun v => v.cells.toList).toArray el)) (by simp [hop]) ?_ (hK _ _ hbel (.q _ _ ?_))
        · have e1 : (parts.map fun x => (x.1, a.eval x.2)).toList = (parts.toList.map fun x => (x.1, a.eval x.2)) := by simp
          have hund : (underlying t).run P w = .ok (.slice el) w := by simp [underlying, hu]
          have n1 : ¬ m * sz > 2 ^ 24 := by omega
          have n2 : ¬ m * sz = 0 := Nat.ne_of_gt (Nat.mul_pos (by omega) hpos)
          simp only [execOp, hop, Instr.buildSlice, Sem.run_bind, hund, Result.andThen_ok, hs, if_neg n1, if_neg n2, hz, Sem.run_pure, e1, h1, hfill]
          rfl
        · have hget : ∀ i j, i < m → j < ks.length → ∃ q c, (rows.getD i []).getD j default = q ∧ ((parts.toList.map fun x => a.eval x.2).flatMap fun v => v.cells.toList)[i * ks.length + j]? = some c ∧ DenQ (Stab Am s.lo θ w) w q c ∧ ∀ k, ks[j]? = some k → KOk k q := fun i j hi hj => by
            have hi' : i < rows.length := by rw [h2, hlen]; exact hi
            obtain ⟨u, hu1, hu2, hu3, hu4⟩ := h3 i _ (List.getElem?_eq_getElem hi')
            obtain ⟨g1, g2⟩ := kOks_len hu3
            obtain ⟨q, hq, hkq⟩ := g2 j _ (List.getElem?_eq_getElem hj)
            obtain ⟨c, hc1, hc2⟩ := hu4 j q hq
            refine ⟨q, c, ?_, ?_, hc2, fun k hk => ?_⟩
            · simp [List.getD_eq_getElem?_getD, List.getElem?_eq_getElem hi', hq]
            · rw [hks, Great.flat_get hpos _ hsize]
              have e1 : (i * sz + j) / sz = i := by rw [Nat.mul_comm, Nat.mul_add_div hpos, Nat.div_eq_of_lt (by omega), Nat.add_zero]
              have e2 : (i * sz + j) % sz = j := by rw [Nat.mul_comm, Nat.mul_add_mod, Nat.mod_eq_of_lt (by omega)]
              rw [e1, e2, hu1]
              exact hc1
            · rw [List.getElem?_eq_getElem hj] at hk; cases hk; exact hkq
          refine .lst _ _ _ w.heap.size 0 m (fun i j => (((parts.toList.map fun x => a.eval x.2).flatMap fun v => v.cells.toList)[i * ks.length + j]?).getD undef) (h.stab_ext hbel _ (.inr ⟨Nat.le_refl _, by simp⟩)) ⟨Nat.le_refl _, by
            have h9 : m * 1 ≤ m * sz := Nat.mul_le_mul_left m hpos
            omega⟩ (fun i j hi hj => ?_) (fun i j k hi hk => ?_) (fun i j hi hj => ?_)
          · obtain ⟨q, c, _, hc, _⟩ := hget i j hi hj
            rw [hc]
            have := World.cell?_alloc_new w ((parts.toList.map fun x => a.eval x.2).flatMap fun v => v.cells.toList).toArray el (0 + i * ks.length + j)
            rw [this]
            simpa using hc
          · have hj : j < ks.length := (List.getElem?_eq_some_iff.1 hk).1
            obtain ⟨q, c, hq, _, _, hkq⟩ := hget i j hi hj
            rw [hq]
            exact hkq k hk
          · obtain ⟨q, c, hq, hc, hd, _⟩ := hget i j hi hj
            rw [hq, hc]
            exact hd.mono (fun b hb => h.stab_ext hbel b (.inl hb)) (fun b hb => hw b hb.1)
      · cases hp
    · cases hp
  · cases hp

/-- The operations that yield a value. -/
theorem execV_wp (hΓ : GOK P Γ) (h : Rep J Am Mi w0 s θ a w) {t : T V} {x : V} (he : execV P Γ o s = some t) (hp : t.pick = some x)
    (hK : ∀ v w', Below w.heap.size w w' → Den (Stab Am s.lo θ w') (Liv s.lo) θ w' x v → K (a.put o.dst v) w') : o.wpIn (FW r) n P a w K Q := by
  cases hc : isCallF o with
  | true =>
    cases hop : o.op with
    | buildSlice t m parts =>
      simp only [execV, hop] at he
      cases he
      exact bs_wp h hop hp hK
    | call c => exact execV_call hΓ h hc (fun _ _ _ e => by rw [hop] at e; cases e) he hp hK
    | _ => simp [isCallF, hop] at hc
  | false =>
    obtain ⟨hdef, v, hv, hd⟩ := execV_val h hc he hp
    exact wpIn_value hdef hv (hK v w (Below.refl _ _) hd)

theorem den_one {S L : Nat → Prop} {x : V} {u : Value} (h : Den S L θ w x u) (e : x.one = true) : u.oneCell' = true := by
  cases h with
  | any v => simp [V.one] at e
  | q y v hq => cases hq <;> first | rfl | simpa [V.one] using e
  | agg l vs h => simp [V.one] at e
  | tup l vs h => simp [V.one] at e
  | _ => rfl

theorem denL_one {S L : Nat → Prop} : ∀ {l : List V} {us : List Value}, DenL S L θ w l us → l.all V.one = true → ∀ v ∈ us, v.oneCell' = true
  | _, _, .nil, _ => by simp
  | _, _, .cons x v l us h hl, e => by
    simp only [List.all_cons, Bool.and_eq_true] at e
    intro y hy
    cases hy with
    | head => exact den_one h e.1
    | tail _ hm => exact denL_one hl e.2 y hm

/-- A value for a map: whether it is a struct's; its cells. -/
def updQ : V → Option (Bool × List SX.Q)
  | .agg l => (qsOf l).map fun qs => (true, qs)
  | .q (.c (.agg _)) => none
  | .q x => some (false, [x])
  | .kb b => some (false, [.c (.bool b)])
  | _ => none

theorem updQ_den {S L : Nat → Prop} {v : V} {u : Value} {ag : Bool} {qs : List SX.Q} (h : Den S L θ w v u) (e : updQ v = some (ag, qs)) : ∃ us : List Value, u = valOf ag us ∧ qs.length = us.length ∧ ∀ (j : Nat) (q : SX.Q), qs[j]? = some q → ∃ z, us[j]? = some z ∧ DenQ S w q z := by
  unfold updQ at e
  split at e
  · rename_i l
    simp only [Option.map_eq_some_iff, Prod.mk.injEq] at e
    obtain ⟨qs', h1, rfl, rfl⟩ := e
    cases h with
    | agg l vs hl =>
      obtain ⟨h2, h3⟩ := qsOf_den hl h1
      exact ⟨vs, rfl, h2, h3⟩
  · cases e
  · rename_i x _
    cases e
    exact ⟨[u], rfl, rfl, fun j q hq => by
      cases j with
      | zero => simp at hq; subst hq; exact ⟨u, rfl, h.q_inv⟩
      | succ j => simp at hq⟩
  · rename_i b
    cases e
    cases h
    exact ⟨[.bool b], rfl, rfl, fun j q hq => by
      cases j with
      | zero => simp at hq; subst hq; exact ⟨.bool b, rfl, .c _⟩
      | succ j => simp at hq⟩
  · cases e

theorem denK_of {S : Nat → Prop} : ∀ {ks : List SX.K} {qs : List SX.Q} {us : List Value}, kOks ks qs = true → qs.length = us.length → (∀ (j : Nat) (q : SX.Q), qs[j]? = some q → ∃ z, us[j]? = some z ∧ DenQ S w q z) → DenK S w ks qs us
  | [], [], [], _, _, _ => .nil
  | [], _ :: _, _, h, _, _ => by simp [kOks] at h
  | _ :: _, [], _, h, _, _ => by simp [kOks] at h
  | [], [], _ :: _, _, h, _ => by simp at h
  | _ :: _, _ :: _, [], _, h, _ => by simp at h
  | k :: ks, q :: qs, u :: us, h, hl, hd => by
    simp only [kOks, Bool.and_eq_true] at h
    obtain ⟨z, hz, hdz⟩ := hd 0 q rfl
    cases hz
    exact .cons _ _ _ _ _ _ (kOk_ok h.1) hdz (denK_of h.2 (by simpa using hl) fun j q hq => by simpa using hd (j + 1) q (by simpa using hq))

/-- What makes or writes memory; nm: the name of what is made. -/
def execM (P : Program) (o : Oper) (nm : Nat) (s : St) : Option St :=
  match o.op with
  | .alloc t => match run0 P (zeroValue t), o.dst with
    | some z, some d => some { s with tm := s.tm.set d (.ptr nm 0), lo := ins s.lo nm (.cells t (z.cells.toList.map fun x => .q (.c x))) }
    | _, _ => none
  | .box t x => match (ev s x).cells?, o.dst with
    | some cs, some d => some { s with tm := s.tm.set d (.ptr nm 0), lo := ins s.lo nm (.cells t cs) }
    | _, _ => none
  | .store t x y => match ev s x, (ev s y).cells?, run0 P (sizeOf t), o.dst with
    | .ptr n off, some vs, some m, none => match s.lo[n]? with
      | some (some (.cells ty cs)) => if vs.length = m && off + m ≤ cs.length && vs.all V.one then some { s with lo := s.lo.set n (some (.cells ty (over cs off vs))) } else none
      | _ => none
    | _, _, _, _ => none
  | .makeMap t none => match P.underlying t, o.dst with
    | some (.map kt et), some d => match mkOf P kt, run0 P (isAgg et) with
      | some kk, some ag => if ag || decide ((kindsT P 12 et).length = 1) then some { s with tm := s.tm.set d (.mp nm), lo := ins s.lo nm (.map kk ag (kindsT P 12 et) []) } else none
      | _, _ => none
    | _, _ => none
  | .mapUpdate t m k v => match P.underlying t, ev s m, (ev s k).val?, o.dst with
    | some (.map kt et), .mp n, some kv, none => match mkOf P kt, s.lo[n]?, updQ (ev s v) with
      | some kk, some (some (.map kk' ag vk es)), some (ag', qs) => if MK.same kk kk' && kk.fit kv && kOks vk qs && (ag == ag') then some { s with lo := s.lo.set n (some (.map kk' ag vk (putE kv qs es))) } else none
      | _, _, _ => none
    | _, _, _, _ => none
  | _ => none

theorem over_eq {α : Type} (l : List α) (off : Nat) (vs : List α) (h : off + vs.length ≤ l.length) : over l off vs = l.take off ++ vs ++ l.drop (off + vs.length) := by
  induction l generalizing off vs with
  | nil =>
    have : vs = [] := by
      cases vs with
      | nil => rfl
      | cons v vs => simp at h
    subst this
    simp [over]
  | cons x l ih =>
    cases vs with
    | nil => simp [over_nil]
    | cons v vs =>
      cases off with
      | zero =>
        simp only [over]
        rw [ih 0 vs (by simp at h ⊢; omega)]
        simp [Nat.add_comm 1]
      | succ off =>
        simp only [over]
        rw [ih off (v :: vs) (by simp at h ⊢; omega)]
        simp [Nat.add_right_comm off 1]

theorem setRow_putCells (w : World) (g : Nat) (cur : Array Value) (t : TypeId) (vs : List Value) (hg : w.heap[g]? = some (.cells cur t (0, 0))) : w.setRow g vs.toArray = World.putCells w g vs t := by
  unfold World.setRow World.putCells
  congr 1
  apply Array.ext_getElem?
  intro i
  rw [Array.getElem?_modify]
  by_cases hi : g = i
  · subst hi
    have hlt := (Array.getElem?_eq_some_iff.1 hg).1
    rw [hg]
    simp [hlt]
  · rw [Array.getElem?_setIfInBounds_ne hi]
    simp [hi]

theorem execM_wp (h : Rep J Am Mi w0 s θ a w) {nm : Nat} (hn : Fresh s nm) {s' : St} (he : execM P o nm s = some s')
    (hK : ∀ θ' a' w', Rep J Am Mi w0 s' θ' a' w' → K a' w') (hK' : ∀ a w, K a w → K (a.put none undef) w) : o.wpIn (FW r) n P a w K Q := by
  unfold execM at he
  split at he
  · rename_i t hop
    split at he
    · rename_i z d hz hdst
      cases he
      obtain ⟨θ', hb, hR⟩ := h.alloc nm hn t (z.cells.toList.map fun x => .q (.c x)) z.cells.toList (denL_closed _)
      refine wpIn_value (v := .pointer (some ⟨w.heap.size, 0, none⟩)) (w' := w.alloc (.cells z.cells.toList.toArray t)) (by simp [hop]) ?_ (hK θ' _ _ ?_)
      · simp [execOp, hop, Instr.alloc, run0_run _ w hz, Result.andThen_ok, newVar, newRow]
      · rw [hdst]
        exact hR.put d (by rw [← hb]; exact .ptr nm 0 ⟨_, ins_same _ _ _⟩)
    · cases he
  · rename_i t x hop
    split at he
    · rename_i cs d hcs hdst
      cases he
      obtain ⟨θ', hb, hR⟩ := h.alloc nm hn t cs (a.eval x).cells.toList (den_cells (h.ev x) hcs)
      refine wpIn_value (v := .pointer (some ⟨w.heap.size, 0, none⟩)) (w' := w.alloc (.cells (a.eval x).cells.toList.toArray t)) (by simp [hop]) ?_ (hK θ' _ _ ?_)
      · simp [execOp, hop, Instr.box, Result.andThen_ok, newVar, newRow]
      · rw [hdst]
        exact hR.put d (by rw [← hb]; exact .ptr nm 0 ⟨_, ins_same _ _ _⟩)
    · cases he
  · rename_i t x y hop
    split at he
    · rename_i n' off vs m hx hvs hm hdst
      split at he
      · rename_i ty cs hcs
        split at he
        · rename_i hc
          cases he
          simp only [Bool.and_eq_true, decide_eq_true_eq] at hc
          obtain ⟨⟨h1, h2⟩, h3⟩ := hc
          have hxe := h.ev x
          rw [hx] at hxe
          obtain ⟨hptr, _⟩ := hxe.ptr_inv
          have hvd := den_cells (h.ev y) hvs
          obtain ⟨us, hu1, hu2⟩ := h.lo _ _ hcs
          have hl := hu2.length
          have hvl := hvd.length
          have hst := run_storeCells_at (P := P) (θ n').blk off ty (a.eval y).cells.toList 0 us.toArray w hu1 (by simp only [List.size_toArray]; omega) (denL_one hvd h3)
          have hov : over us off (a.eval y).cells.toList = (us.toArray.toList.take (off + 0) ++ (a.eval y).cells.toList ++ us.toArray.toList.drop (off + 0 + (a.eval y).cells.toList.length)) := by
            simpa using over_eq us off (a.eval y).cells.toList (by omega)
          rw [← hov, setRow_putCells _ _ _ _ _ hu1] at hst
          have hsz : (a.eval y).cells.size = m := by rw [← h1, hvl]; simp
          refine wpIn_skip' (w' := World.putCells w (θ n').blk (over us off (a.eval y).cells.toList) ty) (by simp [hop]) ?_ ?_
          · simp [execOp, hop, hptr, Instr.storeAt, Instr.sureAddr, storeVar, run0_run _ w hm, Result.andThen_ok, hsz, hst]
          · rw [hdst]
            exact hK' _ _ (hK θ _ _ (h.write n' ty cs _ _ hcs (hu2.over off hvd)))
        · cases he
      · cases he
    · cases he
  · rename_i t hop
    split at he
    · rename_i kt et d hu hdst
      split at he
      · rename_i kk ag hkk hag
        split at he
        · cases he
          have hR := h.new nm hn (.map kk ag (kindsT P 12 et) []) (.map #[] 0) ⟨w.heap.size, .tuple #[], []⟩ _ rfl (fun _ _ e => by cases e) (fun b hb => by simpa [uses] using hb) (fun S L hS hL hθ hw => ⟨[], 0, by
            simp only [if_true]
            exact World.alloc_heap_new w _, .nil⟩)
          refine wpIn_value (v := .map (some w.heap.size)) (w' := w.alloc (.map #[] 0)) (by simp [hop]) ?_ (hK (fun m => if m = nm then ⟨w.heap.size, .tuple #[], []⟩ else θ m) _ _ ?_)
          · simp [execOp, hop, Instr.makeMap, Result.andThen_ok, run_newObj_alloc]
          · rw [hdst]
            refine hR.put d ?_
            have := Den.mp (S := Stab Am (ins s.lo nm (.map kk ag (kindsT P 12 et) [])) (fun m => if m = nm then ⟨w.heap.size, .tuple #[], []⟩ else θ m) (w.alloc (.map #[] 0))) (L := Liv (ins s.lo nm (.map kk ag (kindsT P 12 et) []))) (θ := fun m => if m = nm then ⟨w.heap.size, .tuple #[], []⟩ else θ m) (w := w.alloc (.map #[] 0)) nm ⟨_, ins_same _ _ _⟩
            simpa using this
        · cases he
      · cases he
    · cases he
  · rename_i t m k v hop
    split at he
    · rename_i kt et n' kv hu hm hkv hdst
      split at he
      · rename_i kk kk' ag vk es ag' qs hmk hlo hupd
        split at he
        · rename_i hc
          cases he
          simp only [Bool.and_eq_true, beq_iff_eq] at hc
          obtain ⟨⟨⟨hsame, hfit⟩, hks⟩, hag⟩ := hc
          subst hag
          obtain rfl := MK.same_eq hsame
          have hme := h.ev m
          rw [hm] at hme
          obtain ⟨hmv, _⟩ : a.eval m = .map (some (θ n').blk) ∧ Liv s.lo n' := by
            generalize a.eval m = z at hme
            cases hme with
            | mp _ hl => exact ⟨rfl, hl⟩
          have hke := den_val (h.ev k) hkv
          obtain ⟨us, hus, hlen, hdq⟩ := updQ_den (h.ev v) hupd
          have hdk := denK_of hks hlen hdq
          obtain ⟨arr, clk, h1, h2⟩ := h.lo n' _ hlo
          have hlt := (h.lt n' _ _ hlo rfl).1
          have hg : (getObj (θ n').blk).run P w = .ok (.map arr.toArray clk) w := by simp [getObj, Sem.run, h1]
          have hck := fun em => check_run hmk hfit w em
          have hf := find_run hmk hfit w arr (ents_fit h2)
          have hset : ∀ o', (setObj (θ n').blk o').run P w = .ok () (w.putObj (θ n').blk o') := fun o' => by simp [setObj, Sem.run, World.putObj, h1]
          have fin : ∀ (arr' : List MapEntry) (clk' : Nat), EntsOK (Stab Am s.lo θ w) w kk ag vk (putE kv qs es) arr' → (Instr.mapUpdate t (a.eval m) (a.eval k) (a.eval v)).run P w = .ok () (w.putObj (θ n').blk (.map arr'.toArray clk')) → o.wpIn (FW r) n P a w K Q := fun arr' clk' hE hr => by
            have ht := h.turn n' _ (.map kk ag vk (putE kv qs es)) hlo (fun b hb => hb) (fun _ _ e => by cases e) (.inr fun _ e => by cases e) (w' := w.putObj (θ n').blk (.map arr'.toArray clk')) rfl rfl rfl (by simp) (fun b hb => World.putObj_heap_other (fun e => hb e)) ⟨arr', clk', World.putObj_heap_same hlt, hE.mono (fun _ x => x) (fun b hb => World.putObj_heap_other (fun e => hb.2.2 n' _ hlo e))⟩
            refine wpIn_skip' (w' := w.putObj (θ n').blk (.map arr'.toArray clk')) (by simp [hop]) ?_ ?_
            · simp [execOp, hop, hr, Result.andThen_ok]
            · rw [hdst]
              exact hK' _ _ (hK θ _ _ ht)
          rcases ents_put (ag := ag) hfit hdk clk h2 0 with ⟨e1, e2⟩ | ⟨j, v', e, e1, e2, e3, e4⟩
          · rw [e1] at hf
            refine fin _ (clk + 1) e2 ?_
            simp [Instr.mapUpdate, run_underlying hu, hmv, hke, hus, hg, hck, hf, Result.andThen, hset]
          · rw [e1] at hf
            refine fin _ clk e4 ?_
            have hst := stays_run (P := P) hfit w
            simp [Instr.mapUpdate, run_underlying hu, hmv, hke, hus, hg, hck, hf, Result.andThen, hset, e2, e3, hst]
        · cases he
      · cases he
    · cases he
  · cases he

end
end Go.SX
