/- Regions in the text's order. -/
import Derived.Test.YtgmeglodnhagdaaGreatDoorSxHm
namespace Go.SX
open Go.RowKit
set_option linter.unusedVariables false
set_option linter.unusedSimpArgs false
set_option linter.unusedSectionVars false

/-- One operation, no yield. -/
def step0 (P : Program) (Γ : Gam) (nm : Nat) (o : Oper) (s : St) : T St :=
  match execV P Γ o s with
  | some t => t.bind fun v => .leaf { s with tm := putT s.tm o.dst v }
  | none => match execM P o nm s with
    | some s' => .leaf s'
    | none => (effX P Γ nm o s).bind fun u => .leaf (u.ap o.dst s)

/-- Is it a yield? -/
def isYl (o : Oper) (s : St) : Bool := match o.op with
  | .call c => match c.callee with
    | .value x => match ev s x with
      | .yld _ => true
      | _ => false
    | _ => false
  | _ => false

/-- To yield. -/
def execY (o : Oper) (s : St) : T St :=
  match o.op with
  | .call c => match c.callee with
    | .value x => match ev s x with
      | .yld n => match s.lo[n]? with
        | some (some (.yl go adm)) => if (c.args.toList.map (ev s)).all V.free then .ite (adm s.ys (c.args.toList.map (ev s))) (.leaf { s with tm := putT s.tm o.dst (V.b (go (s.ys ++ [c.args.toList.map (ev s)]))), ys := s.ys ++ [c.args.toList.map (ev s)] }) .bad else .bad
        | _ => .bad
      | _ => .bad
    | _ => .bad
  | _ => .bad

/-- To yield, as what it turns. -/
def effY (o : Oper) (s : St) : T Upd :=
  match o.op with
  | .call c => match c.callee with
    | .value x => match ev s x with
      | .yld n => match s.lo[n]? with
        | some (some (.yl go adm)) => if (c.args.toList.map (ev s)).all V.free then .ite (adm s.ys (c.args.toList.map (ev s))) (.leaf (.yl (V.b (go (s.ys ++ [c.args.toList.map (ev s)]))) (c.args.toList.map (ev s)))) .bad else .bad
        | _ => .bad
      | _ => .bad
    | _ => .bad
  | _ => .bad

theorem execY_eff {o : Oper} {s : St} {u : Upd} (h : (effY o s).pick = some u) : (execY o s).pick = some (u.ap o.dst s) := by
  unfold effY at h
  split at h
  · rename_i c hop
    split at h
    · rename_i x hcal
      split at h
      · rename_i n hev
        split at h
        · rename_i go adm hlo
          split at h
          · rename_i hf
            simp only [T.pick] at h
            have e : execY o s = .ite (adm s.ys (c.args.toList.map (ev s))) (.leaf { s with tm := putT s.tm o.dst (V.b (go (s.ys ++ [c.args.toList.map (ev s)]))), ys := s.ys ++ [c.args.toList.map (ev s)] }) .bad := by
              simp only [execY, hop, hcal, hev, hlo, hf, if_true]
            rw [e]
            simp only [T.pick]
            cases hb : adm s.ys (c.args.toList.map (ev s)) with
            | false => rw [hb] at h; cases h
            | true => rw [hb] at h; cases h; rfl
          · simp [T.pick] at h
        · simp [T.pick] at h
      · simp [T.pick] at h
    · simp [T.pick] at h
  · simp [T.pick] at h

/-- One operation. -/
def step1 (P : Program) (Γ : Gam) (nm : Nat) (o : Oper) (s : St) : T St :=
  match execV P Γ o s with
  | some t => t.bind fun v => .leaf { s with tm := putT s.tm o.dst v }
  | none => match execM P o nm s with
    | some s' => .leaf s'
    | none => if isYl o s then execY o s else (effA P Γ nm o s).bind fun u => .leaf (u.ap o.dst s)

/-- The slot that tells whether a guarded operation is wanted. -/
def gslot (ops : List Oper) (j : Nat) : Option Nat := (ops[j]?).bind (·.dst)

/-- What an operation leaves that was not wanted. -/
abbrev undV : V := .q (.c undef)

def skipS (o : Oper) (s : St) : St := { s with tm := putT s.tm o.dst undV }

/-- One operation, if it is wanted. -/
def stepG (P : Program) (Γ : Gam) (ops : List Oper) (nm : Nat) (o : Oper) (s : St) : T St :=
  match o.guard with
  | none => step1 P Γ nm o s
  | some (j, want) =>
    match gslot ops j with
    | none => .bad
    | some g => match s.tm[g]? with
      | some (.kb b) => if b = want then step1 P Γ nm o s else .leaf (skipS o s)
      | some (.q (.c (.bool b))) =>
        .ite b (if want then step1 P Γ nm o { s with tm := s.tm.set g (.kb true) } else .leaf (skipS o { s with tm := s.tm.set g (.kb true) }))
          (if want then .leaf (skipS o { s with tm := s.tm.set g (.kb false) }) else step1 P Γ nm o { s with tm := s.tm.set g (.kb false) })
      | some (.q (.c (.tuple _))) => .leaf (skipS o s)
      | _ => .bad

def runG (P : Program) (Γ : Gam) (ops : List Oper) : List Oper → St → T St
  | [], s => .leaf s
  | o :: l, s => (stepG P Γ ops s.lo.length o s).bind (runG P Γ ops l)

def isV (Γ : Gam) (o : Oper) : Bool := match o.op with
  | .move _ | .assign _ | .pick .. | .load .. | .lookup .. | .extract .. | .nilCheck _ | .fieldAddr .. | .indexAddr .. | .index .. | .slice .. | .binOp .. | .build .. | .buildSlice .. | .unOp .. | .convert .. | .makeInterface .. | .field .. => true
  | .call c => match c.callee with
    | .builtin .len => match c.args.toList with
      | [_] => true
      | _ => false
    | .builtin .min | .builtin .max => true
    | .value (.func f) => match look Γ f with
      | some (.f _) => true
      | _ => false
    | _ => false
  | _ => false

def mergeV (b : Bool) (x y : V) : V :=
  match x.bool?, y.bool? with
  | some p, some q => V.b (bif b then p else q)
  | _, _ => match x.int?, y.int? with
    | some (k, m), some (k', n) => if k = k' then V.int k (bif b then m else n) else .any
    | _, _ => .any

def T.noBad {α : Type} : T α → Bool
  | .leaf _ => true
  | .ite _ t e => t.noBad && e.noBad
  | .bad => false

def colT (i : Nat) : T St → V
  | .leaf s => s.tm.getD i .any
  | .ite b t e => mergeV b (colT i t) (colT i e)
  | .bad => .any

def mergeTm (ds : List Nat) (t : T St) : Nat → List V → List V
  | _, [] => []
  | i, v :: l => (if ds.contains i then colT i t else v) :: mergeTm ds t (i + 1) l

def dsts (l : List Oper) : List Nat := l.filterMap (·.dst)

def isYld : V → Bool
  | .yld _ => true
  | _ => false
/-- Is a yield in one of some slots? Then the ways are not brought together. -/
def hasYld (ds : List Nat) : T St → Bool
  | .leaf s => ds.any fun i => isYld (s.tm.getD i .any)
  | .ite _ t e => hasYld ds t || hasYld ds e
  | .bad => false

/-- A piece that only reckons values, its ways brought together. -/
def runMid (P : Program) (Γ : Gam) (ops mid : List Oper) (s : St) : T St :=
  let t := runG P Γ ops mid s
  match t with
  | .leaf s' => .leaf s'
  | t => if t.noBad && !(hasYld (dsts mid) t) then .leaf { s with tm := mergeTm (dsts mid) t 0 s.tm } else t

def hasGuard (o : Oper) : Bool := o.guard.isSome

def runR (P : Program) (Γ : Gam) (ops : List Oper) (s : St) : T St :=
  (runG P Γ ops (ops.takeWhile (fun o => !hasGuard o)) s).bind fun s =>
    (runMid P Γ ops ((ops.dropWhile (fun o => !hasGuard o)).takeWhile (isV Γ)) s).bind fun s =>
      runG P Γ ops ((ops.dropWhile (fun o => !hasGuard o)).dropWhile (isV Γ)) s

section
variable [GW] {P : Program} {J : Jt P} {Am Mi : Nat → Prop} {w0 w : World} {s : St} {θ : Th} {a : Act} {Γ : Gam} {r : Option Nat} {n : Nat} {o : Oper} {K : Act → World → Prop} {Q : Exit → Act → World → Prop}

/-- What is preserved beside. -/
def Side (Jb : Th → Act → World → Prop) (ds : List Nat) : Prop :=
  ∀ θ a w d u w', Jb θ a w → Below w.heap.size w w' → (∀ x, d = some x → x ∈ ds) → Jb θ (a.put d u) w'

theorem step0_wp (hΓ : GOK P Γ) (h : Rep J Am Mi w0 s θ a w) {nm : Nat} (hn : Fresh s nm) {s' : St} (he : (step0 P Γ nm o s).pick = some s')
    (hK : ∀ θ' a' w', Rep J Am Mi w0 s' θ' a' w' → K a' w') : o.wpIn (FW r) n P a w K Q := by
  unfold step0 at he
  split at he
  · rename_i t ht
    rw [T.pick_bind] at he
    obtain ⟨v, hv, hs⟩ := he
    cases hs
    exact execV_wp hΓ h ht hv fun u w' hb hd => hK θ _ _ ((h.ext hb).putO o.dst hd)
  · split at he
    · rename_i s1 hs1
      cases he
      exact execM_wp h hn hs1 hK fun a w hk => hk
    · rw [T.pick_bind] at he
      obtain ⟨u, hu, hs⟩ := he
      cases hs
      exact effX_wp hΓ h hn hu hK

/-- What a round leaves of the state: the blocks that others may turn are more than they were. -/
theorem Rep.after (h : Rep J Am Mi w0 s θ a w) {F F' : Nat → Prop} {w' : World} (hF : ∀ b, F b → Am b) (hF0 : ∀ b, J.F0 b → F b) (hA : After F F' w w') (hm : ∀ b, b < w0.heap.size → F b → Mi b) {ys : List (List V)}
    (hj : J.J ys (fun b => ¬ F b ∧ (Own s.lo θ b ∨ Am b)) F' w') : Rep J (fun b => Am b ∨ F' b) Mi w0 { s with ys } θ a w' := by
  have hS : ∀ b, Stab Am s.lo θ w b → Stab (fun b => Am b ∨ F' b) s.lo θ w' b := fun b hb => ⟨Nat.lt_of_lt_of_le hb.1 hA.size, fun hf => by
    rcases hf with hf | hf
    · exact hb.2.1 hf
    · rcases (hA.new b hf).1 with h1 | h1
      · exact hb.2.1 (hF b h1)
      · exact absurd hb.1 (by omega), hb.2.2⟩
  have hw : ∀ b, Stab Am s.lo θ w b → w'.heap[b]? = w.heap[b]? := fun b hb => hA.block b hb.1 (fun hf => hb.2.1 (hF b hf))
  have hnF : ∀ b, b < w.heap.size → ¬ Am b → ¬ (Am b ∨ F' b) := fun b hb hn hf => by
    rcases hf with hf | hf
    · exact hn hf
    · rcases (hA.new b hf).1 with h1 | h1
      · exact hn (hF b h1)
      · omega
  refine ⟨h.size, fun i v hv => ?_, fun n o ho => ?_, fun n o b ho hu => ?_, h.inj, h.mine, ?_, fun b hb => ?_, ⟨F', ⟨fun b hb => .inr hb, fun b hb => hA.up b (hF0 b hb)⟩, ?_, fun b hb hf => ?_⟩, h.yy, fun x hx hf => ?_, h.rr, h.tt, h.df, h.dfl⟩
  · obtain ⟨u, hu, hd⟩ := h.tm i v hv
    exact ⟨u, hu, hd.mono hS hw (fun _ x => x) (fun _ _ => rfl)⟩
  · exact (h.lo n o ho).mono hS hw (fun _ x => x) (fun _ _ => rfl) ⟨o, ho⟩ (fun b hu => hA.block b (h.lt n o b ho hu).1 (fun hf => (h.lt n o b ho hu).2.2 (hF b hf)))
  · obtain ⟨h1, h2, h3⟩ := h.lt n o b ho hu
    exact ⟨Nat.lt_of_lt_of_le h1 hA.size, h2, hnF b h1 h3⟩
  · exact ⟨hA.os.trans h.fr.os, hA.tape.trans h.fr.tape, hA.output.trans h.fr.output, Nat.le_trans h.fr.size hA.size, fun b hlt hn => (hA.block b (Nat.lt_of_lt_of_le hlt h.fr.size) (fun hf => hn (hm b hlt hf))).trans (h.fr.block b hlt hn), h.fr.gl⟩
  · rcases hb with hb | hb
    · exact Nat.lt_of_lt_of_le (h.am b hb) hA.size
    · exact (hA.new b hb).2
  · refine J.closed _ _ _ _ _ _ hj rfl rfl rfl (Nat.le_refl _) (fun _ _ _ => rfl) (fun b ⟨hnf, hh⟩ => ?_)
    have hnf0 : ¬ F b := fun hf => hnf (hA.up b hf)
    rcases hh with ⟨n, o, ho, hu⟩ | hh | hh
    · exact ⟨.inl ⟨hnf0, .inl ⟨n, o, ho, hu⟩⟩, Nat.lt_of_lt_of_le (h.lt n o b ho hu).1 hA.size⟩
    · exact ⟨.inl ⟨hnf0, .inr hh⟩, Nat.lt_of_lt_of_le (h.am b hh) hA.size⟩
    · exact absurd hh hnf
  · rcases (hA.new b hf).1 with h1 | h1
    · exact hm b hb h1
    · have := h.fr.size; omega
  · rcases hf with hf | hf
    · exact h.ga x hx hf
    · rcases (hA.new _ hf).1 with h1 | h1
      · exact h.ga x hx (hF _ h1)
      · have := h.fr.glw.lt x hx; omega

theorem execY_wp (h : Rep J Am Mi w0 s θ a w) {s' : St} (he : (execY o s).pick = some s')
    (hK : ∀ (Am' : Nat → Prop) θ' a' w', (∀ b, Am b → Am' b) → Rep J Am' Mi w0 s' θ' a' w' → K a' w') : o.wpIn (FW r) n P a w K Q := by
  unfold execY at he
  split at he
  · rename_i c hop
    split at he
    · rename_i x hcal
      split at he
      · rename_i m hx
        split at he
        · rename_i go adm hm
          split at he
          · rename_i hfree
            simp only [T.pick] at he
            cases hadm : adm s.ys (c.args.toList.map (ev s)) with
            | false => rw [hadm] at he; simp [T.pick] at he
            | true =>
              rw [hadm] at he
              simp only [cond_true, T.pick, Option.some.injEq] at he
              subst he
              have hxe := h.ev x
              rw [hx] at hxe
              obtain ⟨hxe, _⟩ := hxe.yld_inv
              have hok := h.yy m go adm hm
              obtain ⟨F, ⟨hF, hF0⟩, hJF, hmi⟩ := h.jj
              have hd := den_map h c.args.toList
              have hd' : DenL (fun b => b < w.heap.size ∧ ¬ F b ∧ ¬ (¬ F b ∧ (Own s.lo θ b ∨ Am b))) (fun _ => False) th0 w (c.args.toList.map (ev s)) (c.args.toList.map a.eval) :=
                (denL_free hd hfree).mono (fun b hb => ⟨hb.1, fun hf => hb.2.1 (hF b hf), fun ⟨_, hh⟩ => hh.elim (fun ⟨n, o, ho, hu⟩ => hb.2.2 n o ho hu) hb.2.1⟩) (fun _ _ => rfl) (fun _ hf => hf) (fun _ _ => rfl)
              obtain ⟨fn, tmps, assign, body, hrun, hround⟩ := J.yok _ _ _ hok _ _ _ _ _ _ hJF h.fr.glw hadm (fun b ⟨hnf, hh⟩ => ⟨hh.elim (fun ⟨n, o, ho, hu⟩ => (h.lt n o b ho hu).1) (h.am b), hnf⟩) (fun b hb => h.am b (hF b hb)) hd'
              have e : (List.map a.eval c.args.toList).toArray = Array.map a.eval c.args := by apply Array.ext'; simp
              rw [e] at hrun
              refine ⟨fun _ _ => trivial, ?_⟩
              rw [Oper.semAt_eq _ _ _ (by simp [hop])]
              have hexec : (execOp a.eval o).run P w = .ok (.round (θ m).blk fn tmps assign body) w := by
                simp only [execOp, hop, resolve, hcal, hxe, Deferred.ofValue, Sem.run_bind, Sem.run_pure, Result.andThen_ok, invoke, Array.append_empty, Array.empty_append]
                exact hrun
              rw [hexec, Oper.uponIn_round]
              refine ⟨fun hh => (by cases hh), ?_⟩
              have hround' : RoundIn (FW r) (n - 1) P (θ m).blk fn tmps assign body w (fun e w' => e = .returned (.bool (go (s.ys ++ [c.args.toList.map (ev s)]))) ∧ ∃ F', After F F' w w' ∧ J.J (s.ys ++ [c.args.toList.map (ev s)]) (fun b => ¬ F b ∧ (Own s.lo θ b ∨ Am b)) F' w') := ⟨hround.1, fun c cs hr => hround.2 c cs (by simp [Fence.room])⟩
              refine hround'.mono ?_
              rintro ev' w' ⟨rfl, F', hA, hj⟩
              exact hK _ _ _ _ (fun _ x => .inl x) ((h.after hF hF0 hA hmi hj).putO o.dst (.q _ _ (.c _)))
          · simp [T.pick] at he
        · simp [T.pick] at he
      · simp [T.pick] at he
    · simp [T.pick] at he
  · simp [T.pick] at he

theorem step1_wp (hΓ : GOK P Γ) (h : Rep J Am Mi w0 s θ a w) {nm : Nat} (hn : Fresh s nm) {s' : St} (he : (step1 P Γ nm o s).pick = some s')
    (hK : ∀ (Am' : Nat → Prop) θ' a' w', (∀ b, Am b → Am' b) → Rep J Am' Mi w0 s' θ' a' w' → K a' w') : o.wpIn (FW r) n P a w K Q := by
  unfold step1 at he
  split at he
  · rename_i t ht
    rw [T.pick_bind] at he
    obtain ⟨v, hv, hs⟩ := he
    cases hs
    exact execV_wp hΓ h ht hv fun u w' hb hd => hK _ θ _ _ (fun _ x => x) ((h.ext hb).putO o.dst hd)
  · split at he
    · rename_i s1 hs1
      cases he
      exact execM_wp h hn hs1 (fun θ' a' w' hR => hK Am θ' a' w' (fun _ x => x) hR) fun a w hk => hk
    · split at he
      · exact execY_wp h he hK
      · rw [T.pick_bind] at he
        obtain ⟨u, hu, hs⟩ := he
        cases hs
        exact effA_wp hΓ h hn hu fun θ' a' w' hR => hK Am θ' a' w' (fun _ x => x) hR

theorem step1_wpV (hΓ : GOK P Γ) (h : Rep J Am Mi w0 s θ a w) {nm : Nat} (hv : isV Γ o = true) {s' : St} (he : (step1 P Γ nm o s).pick = some s') {Jb : Th → Act → World → Prop} {ds : List Nat} (hJ : Side Jb ds) (hds : ∀ d, o.dst = some d → d ∈ ds) (hj : Jb θ a w)
    (hK : ∀ a' w', Rep J Am Mi w0 s' θ a' w' → Jb θ a' w' → s'.lo = s.lo → K a' w') : o.wpIn (FW r) n P a w K Q := by
  unfold step1 at he
  split at he
  · rename_i t ht
    rw [T.pick_bind] at he
    obtain ⟨v, hv, hs⟩ := he
    cases hs
    exact execV_wp hΓ h ht hv fun u w' hb hd => hK _ _ ((h.ext hb).putO o.dst hd) (hJ _ _ _ _ _ _ hj hb hds) rfl
  · rename_i hnone
    exfalso
    unfold isV at hv
    have hld : ∀ t x, o.op ≠ .load t x := fun t x hop => by
      cases x <;> simp [execV, hop] at hnone
    split at hv <;> first | (simp [execV, *] at hnone; done) | (rename_i hop; exact absurd hop (hld _ _)) | skip
    · rename_i c hop
      split at hv <;> first | (simp [execV, execC, *] at hnone; done) | skip
      · rename_i hcal
        simp only [execV, hop, execC, hcal] at hnone
        split at hv
        · rename_i y hargs
          simp [hargs] at hnone
        · cases hv
      · rename_i f hcal
        simp only [execV, hop, execC, hcal, calleeV] at hnone
        cases hl : look Γ f with
        | none => simp [hl] at hv
        | some sp => cases sp <;> simp [hl] at hnone hv
      · cases hv
    · cases hv

theorem wanted_none {ops : Array Oper} (hg : o.guard = none) : Region.wanted o (yielded ops a.tmps) = true := by simp [Region.wanted, hg]

theorem wanted_some {ops : List Oper} {j g : Nat} {want b : Bool} (hg : o.guard = some (j, want)) (hs : gslot ops j = some g) (hb : a.tmps[g]? = some (.bool b)) :
    Region.wanted o (yielded ops.toArray a.tmps) = (b == want) := by
  have : yielded ops.toArray a.tmps j = some b := by
    unfold gslot at hs
    simp [yielded, hs, hb]
  simp [Region.wanted, hg, this]

theorem wanted_und {ops : List Oper} {j g : Nat} {want : Bool} {x : Array Value} (hg : o.guard = some (j, want)) (hs : gslot ops j = some g) (hb : a.tmps[g]? = some (.tuple x)) :
    Region.wanted o (yielded ops.toArray a.tmps) = false := by
  have : yielded ops.toArray a.tmps j = none := by
    unfold gslot at hs
    simp [yielded, hs, hb]
  simp [Region.wanted, hg, this]

theorem Rep.slotUnd (h : Rep J Am Mi w0 s θ a w) {g : Nat} {x : Array Value} (hg : s.tm[g]? = some (.q (.c (.tuple x)))) : a.tmps[g]? = some (.tuple x) := by
  obtain ⟨u, hu, hd⟩ := h.tm g _ hg
  rw [hu]
  cases hd with
  | q _ _ hq => cases hq; rfl

theorem Rep.retm (h : Rep J Am Mi w0 s θ a w) (g : Nat) {v : V} {u : Value} (hu : a.tmps[g]? = some u) (hv : Den (Stab Am s.lo θ w) (Liv s.lo) θ w v u) :
    Rep J Am Mi w0 { s with tm := s.tm.set g v } θ a w := by
  have := h.put g hv
  have e : a.put (some g) u = a := by
    obtain ⟨tm, df⟩ := a
    simp only [Act.put]
    congr 1
    apply Array.ext_getElem?
    intro i
    rw [Array.getElem?_setIfInBounds]
    split
    · rename_i hi
      subst hi
      split
      · exact hu.symm
      · rename_i hlt
        simp only [Array.getElem?_eq_none (Nat.le_of_not_lt hlt)]
    · rfl
  rw [e] at this
  exact this

theorem Rep.skip (h : Rep J Am Mi w0 s θ a w) : Rep J Am Mi w0 (skipS o s) θ (a.put o.dst undef) w := h.putO o.dst (.q _ _ (.c _))

theorem Rep.slotBool (h : Rep J Am Mi w0 s θ a w) {g : Nat} {v : V} {b : Bool} (hg : s.tm[g]? = some v) (hv : v.bool? = some b) : a.tmps[g]? = some (.bool b) := by
  obtain ⟨u, hu, hd⟩ := h.tm g v hg
  rw [hu, den_bool hd hv]

/-- One operation of a region, wanted or not. -/
def wpOne (r : Option Nat) (n : Nat) (P : Program) (ops : Array Oper) (Q : Exit → Act → World → Prop) (o : Oper) (a : Act) (w : World) (K : Act → World → Prop) : Prop :=
  if Region.wanted o (yielded ops a.tmps) then o.wpIn (FW r) n P a w K Q else K (a.put o.dst undef) w

theorem wpListIn_one {ops : Array Oper} {l : List Oper} (h : wpOne r n P ops Q o a w (wpListIn (FW r) n P ops Q l)) : wpListIn (FW r) n P ops Q (o :: l) a w := by
  unfold wpOne at h
  unfold wpListIn
  split
  · rename_i hw; rw [if_pos hw] at h; exact h
  · rename_i hw; rw [if_neg hw] at h; exact ⟨fun _ _ => trivial, h⟩

theorem stepG_wp (hΓ : GOK P Γ) {ops : List Oper} (h : Rep J Am Mi w0 s θ a w) {nm : Nat} (hn : Fresh s nm) {s' : St} (he : (stepG P Γ ops nm o s).pick = some s')
    (hK : ∀ (Am' : Nat → Prop) θ' a' w', (∀ b, Am b → Am' b) → Rep J Am' Mi w0 s' θ' a' w' → K a' w') : wpOne r n P ops.toArray Q o a w K := by
  unfold stepG at he
  unfold wpOne
  split at he
  · rename_i hg
    rw [if_pos (wanted_none hg)]
    exact step1_wp hΓ h hn he hK
  · rename_i j want hg
    split at he
    · simp [T.pick] at he
    · rename_i g hgs
      split at he
      · rename_i b hb
        rw [wanted_some hg hgs (h.slotBool hb rfl)]
        split at he
        · rename_i hbw
          rw [if_pos (by simpa using hbw)]
          exact step1_wp hΓ h hn he hK
        · rename_i hbw
          cases he
          rw [if_neg (by simpa using hbw)]
          exact hK _ _ _ _ (fun _ x => x) h.skip
      · rename_i b hb
        have hbv := h.slotBool hb rfl
        have hR := h.retm g hbv (.kb b)
        rw [wanted_some hg hgs hbv]
        simp only [T.pick] at he
        cases b <;> cases want <;> simp only [cond_true, cond_false, if_true, if_false, Bool.false_eq_true] at he
        · rw [if_pos (by rfl)]; exact step1_wp hΓ hR hn he hK
        · cases he; rw [if_neg (by simp)]; exact hK _ _ _ _ (fun _ x => x) hR.skip
        · cases he; rw [if_neg (by simp)]; exact hK _ _ _ _ (fun _ x => x) hR.skip
        · rw [if_pos (by rfl)]; exact step1_wp hΓ hR hn he hK
      · rename_i x hb
        cases he
        rw [wanted_und hg hgs (h.slotUnd hb), if_neg (by simp)]
        exact hK _ _ _ _ (fun _ x => x) h.skip
      · simp [T.pick] at he

theorem runG_wp (hΓ : GOK P Γ) {ops rest : List Oper} : ∀ (l : List Oper) {Am : Nat → Prop} {s s' : St} {θ : Th} {a : Act} {w : World}, Rep J Am Mi w0 s θ a w → (runG P Γ ops l s).pick = some s' →
    (∀ (Am' : Nat → Prop) θ' a' w', (∀ b, Am b → Am' b) → Rep J Am' Mi w0 s' θ' a' w' → wpListIn (FW r) n P ops.toArray Q rest a' w') → wpListIn (FW r) n P ops.toArray Q (l ++ rest) a w
  | [], Am, s, s', θ, a, w, h, he, hK => by
    cases he
    exact hK _ _ _ _ (fun _ x => x) h
  | o :: l, Am, s, s', θ, a, w, h, he, hK => by
    simp only [runG] at he
    rw [T.pick_bind] at he
    obtain ⟨s1, h1, h2⟩ := he
    refine wpListIn_one (stepG_wp hΓ h ⟨h.tt.2.1, fun o ho => ?_⟩ h1 fun Am' θ' a' w' hup hR => runG_wp hΓ l hR h2 fun Am2 θ2 a2 w2 hup2 hR2 => hK Am2 θ2 a2 w2 (fun b hb => hup2 b (hup b hb)) hR2)
    have := (List.getElem?_eq_some_iff.1 ho).1
    omega

theorem stepG_wpV (hΓ : GOK P Γ) {ops : List Oper} (h : Rep J Am Mi w0 s θ a w) {nm : Nat} (hv : isV Γ o = true) {s' : St} (he : (stepG P Γ ops nm o s).pick = some s') {Jb : Th → Act → World → Prop} {ds : List Nat} (hJ : Side Jb ds) (hds : ∀ d, o.dst = some d → d ∈ ds) (hj : Jb θ a w)
    (hK : ∀ a' w', Rep J Am Mi w0 s' θ a' w' → Jb θ a' w' → s'.lo = s.lo → K a' w') : wpOne r n P ops.toArray Q o a w K := by
  unfold stepG at he
  unfold wpOne
  have hjs : Jb θ (a.put o.dst undef) w := hJ _ _ _ _ _ _ hj (Below.refl _ _) hds
  split at he
  · rename_i hg
    rw [if_pos (wanted_none hg)]
    exact step1_wpV hΓ h hv he hJ hds hj hK
  · rename_i j want hg
    split at he
    · simp [T.pick] at he
    · rename_i g hgs
      split at he
      · rename_i b hb
        rw [wanted_some hg hgs (h.slotBool hb rfl)]
        split at he
        · rename_i hbw
          rw [if_pos (by simpa using hbw)]
          exact step1_wpV hΓ h hv he hJ hds hj hK
        · rename_i hbw
          cases he
          rw [if_neg (by simpa using hbw)]
          exact hK _ _ h.skip hjs rfl
      · rename_i b hb
        have hbv := h.slotBool hb rfl
        have hR := h.retm g hbv (.kb b)
        rw [wanted_some hg hgs hbv]
        simp only [T.pick] at he
        cases b <;> cases want <;> simp only [cond_true, cond_false, if_true, if_false, Bool.false_eq_true] at he
        · rw [if_pos (by rfl)]; exact step1_wpV hΓ hR hv he hJ hds hj hK
        · cases he; rw [if_neg (by simp)]; exact hK _ _ hR.skip hjs rfl
        · cases he; rw [if_neg (by simp)]; exact hK _ _ hR.skip hjs rfl
        · rw [if_pos (by rfl)]; exact step1_wpV hΓ hR hv he hJ hds hj hK
      · rename_i x hb
        cases he
        rw [wanted_und hg hgs (h.slotUnd hb), if_neg (by simp)]
        exact hK _ _ h.skip hjs rfl
      · simp [T.pick] at he

theorem runG_wpV (hΓ : GOK P Γ) {ops rest : List Oper} {Jb : Th → Act → World → Prop} {ds : List Nat} (hJ : Side Jb ds) : ∀ (l : List Oper) {s s' : St} {θ : Th} {a : Act} {w : World}, l.all (isV Γ) = true → (∀ o ∈ l, ∀ d, o.dst = some d → d ∈ ds) →
    Rep J Am Mi w0 s θ a w → Jb θ a w → (runG P Γ ops l s).pick = some s' →
    (∀ a' w', Rep J Am Mi w0 s' θ a' w' → Jb θ a' w' → s'.lo = s.lo → wpListIn (FW r) n P ops.toArray Q rest a' w') → wpListIn (FW r) n P ops.toArray Q (l ++ rest) a w
  | [], s, s', θ, a, w, hv, hds, h, hj, he, hK => by
    cases he
    exact hK _ _ h hj rfl
  | o :: l, s, s', θ, a, w, hv, hds, h, hj, he, hK => by
    simp only [List.all_cons, Bool.and_eq_true] at hv
    simp only [runG] at he
    rw [T.pick_bind] at he
    obtain ⟨s1, h1, h2⟩ := he
    refine wpListIn_one (stepG_wpV hΓ h hv.1 h1 hJ (fun d hd => hds o (by simp) d hd) hj fun a' w' hR hj' hl => ?_)
    exact runG_wpV hΓ hJ l hv.2 (fun o ho => hds o (by simp [ho])) hR hj' h2 fun a'' w'' hR' hj'' hl' => hK _ _ hR' hj'' (hl'.trans hl)

theorem colT_den {S L : Nat → Prop} {i : Nat} {u : Value} : ∀ {t : T St} {s' : St}, t.noBad = true → t.pick = some s' → Den S L θ w (s'.tm.getD i .any) u → Den S L θ w (colT i t) u
  | .leaf s, s', _, hp, hd => by cases hp; exact hd
  | .bad, _, hn, _, _ => by cases hn
  | .ite b t e, s', hn, hp, hd => by
    simp only [T.noBad, Bool.and_eq_true] at hn
    simp only [T.pick] at hp
    simp only [colT, mergeV]
    split
    · rename_i p q hpb hqb
      cases b
      · have := den_bool (colT_den hn.2 hp hd) hqb
        rw [this]; exact .q _ _ (.c _)
      · have := den_bool (colT_den hn.1 hp hd) hpb
        rw [this]; exact .q _ _ (.c _)
    · split
      · rename_i k m k' m' hm hm'
        split
        · rename_i hk
          subst hk
          cases b
          · have := den_int (colT_den hn.2 hp hd) hm'
            rw [this]; exact .q _ _ (.c _)
          · have := den_int (colT_den hn.1 hp hd) hm
            rw [this]; exact .q _ _ (.c _)
        · exact .any _
      · exact .any _

theorem mergeTm_get {ds : List Nat} {t : T St} : ∀ (l : List V) (i j : Nat) (v : V), (mergeTm ds t i l)[j]? = some v → (ds.contains (i + j) = true ∧ v = colT (i + j) t) ∨ (ds.contains (i + j) = false ∧ l[j]? = some v)
  | [], i, j, v, h => by simp [mergeTm] at h
  | x :: l, i, 0, v, h => by
    simp only [mergeTm, List.getElem?_cons_zero, Option.some.injEq] at h
    by_cases hc : ds.contains i = true
    · rw [if_pos hc] at h; exact .inl ⟨hc, h.symm⟩
    · rw [if_neg hc] at h; exact .inr ⟨by simpa using hc, by simp [h]⟩
  | x :: l, i, j + 1, v, h => by
    simp only [mergeTm, List.getElem?_cons_succ] at h
    have := mergeTm_get l (i + 1) j v h
    rw [show i + 1 + j = i + (j + 1) by omega] at this
    simpa using this

theorem mergeTm_length {ds : List Nat} {t : T St} : ∀ (l : List V) (i : Nat), (mergeTm ds t i l).length = l.length
  | [], _ => rfl
  | x :: l, i => by simp [mergeTm, mergeTm_length l (i + 1)]

/-- All slots of ds forgotten. -/
def forgetAll (ds : List Nat) (tm : List V) : List V := ds.foldl (fun tm d => tm.set d .any) tm

theorem runMid_wp (hΓ : GOK P Γ) {ops mid rest : List Oper} (hv : mid.all (isV Γ) = true) {s s' : St} (h : Rep J Am Mi w0 s θ a w) (he : (runMid P Γ ops mid s).pick = some s')
    (hK : ∀ (Am' : Nat → Prop) θ' a' w', (∀ b, Am b → Am' b) → Rep J Am' Mi w0 s' θ' a' w' → wpListIn (FW r) n P ops.toArray Q rest a' w') : wpListIn (FW r) n P ops.toArray Q (mid ++ rest) a w := by
  unfold runMid at he
  simp only at he
  split at he
  · rename_i s1 hs1
    cases he
    exact runG_wp hΓ mid h (by rw [hs1]; rfl) hK
  · split at he
    · rename_i hnb
      have hnb := (Bool.and_eq_true .. ▸ hnb).1
      cases he
      -- the way that is taken, and what is known beside it of the other slots
      obtain ⟨s1, hp⟩ : ∃ s1, (runG P Γ ops mid s).pick = some s1 := by
        have : ∀ t : T St, t.noBad = true → ∃ s1, t.pick = some s1 := by
          intro t
          induction t with
          | leaf x => exact fun _ => ⟨x, rfl⟩
          | bad => intro h; cases h
          | ite b t e iht ihe =>
            intro h
            simp only [T.noBad, Bool.and_eq_true] at h
            cases b
            · exact ihe h.2
            · exact iht h.1
        exact this _ hnb
      refine runG_wpV (Jb := fun θ a w => ∃ tm, tm.length = s.tm.length ∧ (∀ (i : Nat) v, (dsts mid).contains i = false → s.tm[i]? = some v → tm[i]? = some v) ∧ Rep J Am Mi w0 { s with tm } θ a w) (ds := dsts mid) hΓ ?_ mid hv ?_ h ⟨s.tm, rfl, fun _ _ _ h => h, h⟩ hp ?_
      · rintro θ a w d u w' ⟨tm, h1, h2, h3⟩ hb hd
        refine ⟨putT tm d .any, by cases d <;> simp [putT, h1], fun i v hi hv => ?_, (h3.ext hb).putO d (.any u)⟩
        cases d with
        | none => exact h2 i v hi hv
        | some d =>
          have hd' := hd d rfl
          have hne : d ≠ i := by
            rintro rfl
            have : (dsts mid).contains d = true := by simpa using hd'
            rw [this] at hi
            cases hi
          simp only [putT, List.getElem?_set_ne hne]
          exact h2 i v hi hv
      · intro o ho d hd
        simp only [dsts, List.mem_filterMap]
        exact ⟨o, ho, hd⟩
      · rintro a' w' hR ⟨tm, h1, h2, h3⟩ hl
        refine hK Am θ a' w' (fun _ x => x) ?_
        have hsz : s1.tm.length = s.tm.length := by rw [← hR.size, ← h1]; exact h3.size
        refine ⟨by simp [mergeTm_length, hR.size, hsz], fun i v hiv => ?_, h3.lo, h3.lt, h3.inj, h3.mine, h3.fr, h3.am, h3.jj, h3.yy, h3.ga, h3.rr, h3.tt, h3.df, h3.dfl⟩
        rcases mergeTm_get s.tm 0 i v hiv with ⟨hc, rfl⟩ | ⟨hc, hv'⟩
        · rw [Nat.zero_add] at hc ⊢
          have hi : i < s.tm.length := by
            have := (List.getElem?_eq_some_iff.1 hiv).1
            rwa [mergeTm_length] at this
          have hi' : i < s1.tm.length := by omega
          obtain ⟨u, hu, hd⟩ := hR.tm i s1.tm[i] (List.getElem?_eq_getElem hi')
          refine ⟨u, hu, ?_⟩
          have := colT_den (i := i) (S := Stab Am s1.lo θ w') (L := Liv s1.lo) hnb hp (u := u) (θ := θ) (w := w') (by simpa [List.getD_eq_getElem?_getD, hi'] using hd)
          rw [hl] at this
          exact this
        · rw [Nat.zero_add] at hc
          exact h3.tm i v (h2 i v hc hv')
    · exact runG_wp hΓ mid h he hK

theorem runR_wp (hΓ : GOK P Γ) {ops : List Oper} {s s' : St} (h : Rep J Am Mi w0 s θ a w) (he : (runR P Γ ops s).pick = some s')
    (hK : ∀ (Am' : Nat → Prop) θ' a' w', (∀ b, Am b → Am' b) → Rep J Am' Mi w0 s' θ' a' w' → Q .normal a' w') : wpListIn (FW r) n P ops.toArray Q ops a w := by
  unfold runR at he
  rw [T.pick_bind] at he
  obtain ⟨s1, h1, he⟩ := he
  rw [T.pick_bind] at he
  obtain ⟨s2, h2, h3⟩ := he
  have hsplit : ops = ops.takeWhile (fun o => !hasGuard o) ++ ((ops.dropWhile (fun o => !hasGuard o)).takeWhile (isV Γ) ++ ((ops.dropWhile (fun o => !hasGuard o)).dropWhile (isV Γ) ++ [])) := by
    rw [List.append_nil, List.takeWhile_append_dropWhile, List.takeWhile_append_dropWhile]
  have key : wpListIn (FW r) n P ops.toArray Q (ops.takeWhile (fun o => !hasGuard o) ++ ((ops.dropWhile (fun o => !hasGuard o)).takeWhile (isV Γ) ++ ((ops.dropWhile (fun o => !hasGuard o)).dropWhile (isV Γ) ++ []))) a w := by
    refine runG_wp hΓ _ h h1 fun Am1 θ1 a1 w1 hup1 hR => ?_
    refine runMid_wp hΓ ?_ hR h2 fun Am2 θ2 a2 w2 hup2 hR => ?_
    · exact List.all_takeWhile
    · exact runG_wp hΓ _ hR h3 fun Am' θ' a' w' hup3 hR => hK Am' θ' a' w' (fun b hb => hup3 b (hup2 b (hup1 b hb))) hR
  rw [← hsplit] at key
  exact key

theorem region_wp (hΓ : GOK P Γ) {id : Nat} {ops : Array Oper} {s s' : St} (h : Rep J Am Mi w0 s θ a w) (he : (runR P Γ ops.toList s).pick = some s')
    (hK : ∀ (Am' : Nat → Prop) θ' a' w', (∀ b, Am b → Am' b) → Rep J Am' Mi w0 s' θ' a' w' → Q .normal a' w') : (Code.region id ops false).wpIn (FW r) n P Q a w := by
  refine wpIn_region_list ?_
  have := runR_wp (r := r) (n := n) (Q := Q) hΓ h he hK
  simpa using this

end
end Go.SX
