/- Regions whose order is open: the text's order stands for all. -/
import Derived.Test.YtgmeglodnhagdaaGreatDoorSxI
namespace Go.SX
open Go.RowKit
set_option linter.unusedVariables false
set_option linter.unusedSimpArgs false
set_option linter.unusedSectionVars false

def effM (P : Program) (o : Oper) (nm : Nat) (s : St) : Option Upd :=
  match o.op with
  | .alloc t => match run0 P (zeroValue t), o.dst with
    | some z, some d => some (.new nm (.cells t (z.cells.toList.map fun x => .q (.c x))))
    | _, _ => none
  | .box t x => match (ev s x).cells?, o.dst with
    | some cs, some d => some (.new nm (.cells t cs))
    | _, _ => none
  | .store t x y => match ev s x, (ev s y).cells?, run0 P (sizeOf t), o.dst with
    | .ptr n off, some vs, some m, none => match s.lo[n]? with
      | some (some (.cells ty cs)) => if vs.length = m && off + m ≤ cs.length && vs.all V.one then some (.set n (.cells ty (over cs off vs))) else none
      | _ => none
    | _, _, _, _ => none
  | .makeMap t none => match P.underlying t, o.dst with
    | some (.map kt et), some d => match mkOf P kt, run0 P (isAgg et) with
      | some kk, some ag => if ag || decide ((kindsT P 12 et).length = 1) then some (.new nm (.map kk ag (kindsT P 12 et) [])) else none
      | _, _ => none
    | _, _ => none
  | .mapUpdate t m k v => match P.underlying t, ev s m, (ev s k).val?, o.dst with
    | some (.map kt et), .mp n, some kv, none => match mkOf P kt, s.lo[n]?, updQ (ev s v) with
      | some kk, some (some (.map kk' ag vk es)), some (ag', qs) => if MK.same kk kk' && kk.fit kv && kOks vk qs && (ag == ag') then some (.set n (.map kk' ag vk (putE kv qs es))) else none
      | _, _, _ => none
    | _, _, _, _ => none
  | _ => none

def isCallO (o : Oper) : Bool := match o.op with
  | .call _ => true
  | _ => false

theorem execM_call {P : Program} {o : Oper} {nm : Nat} {s : St} (h : isCallO o = true) : execM P o nm s = none := by
  unfold isCallO at h
  split at h
  · rename_i c hop
    simp [execM, hop]
  · cases h

def eff1 (P : Program) (Γ : Gam) (nm : Nat) (o : Oper) (s : St) : T Upd :=
  match execV P Γ o s with
  | some t => t.bind fun v => .leaf (.val v)
  | none => match effM P o nm s with
    | some u => .leaf u
    | none => if isCallO o then (if isYl o s then effY o s else effX P Γ nm o s) else .bad

def effG0 (P : Program) (Γ : Gam) (ops : List Oper) (nm : Nat) (o : Oper) (s : St) : T Upd :=
  match o.guard with
  | none => eff1 P Γ nm o s
  | some (j, want) =>
    match gslot ops j with
    | none => .bad
    | some g => match s.tm.getD g .any with
      | .kb b => if b = want then eff1 P Γ nm o s else .leaf (.val undV)
      | .q (.c (.tuple _)) => .leaf (.val undV)
      | v => match v.bool? with
        | some b => .ite b (if want then eff1 P Γ nm o s else .leaf (.val undV)) (if want then .leaf (.val undV) else eff1 P Γ nm o s)
        | none => .bad

/-- The slots that tell whether an operation is wanted. -/
def gslots (ops : List Oper) : List Nat := ops.filterMap fun o => match o.guard with
  | some (j, _) => gslot ops j
  | none => none

/-- A truth value that others hang on is parted at once. -/
def splitU (gs : List Nat) (d : Option Nat) : Upd → T Upd
  | .val v => match d with
    | some d => if gs.contains d then match v with
        | .q (.c (.bool b)) => .ite b (.leaf (.val (.kb true))) (.leaf (.val (.kb false)))
        | v => .leaf (.val v)
      else .leaf (.val v)
    | none => .leaf (.val v)
  | u => .leaf u

def effG (P : Program) (Γ : Gam) (ops : List Oper) (nm : Nat) (o : Oper) (s : St) : T Upd := (effG0 P Γ ops nm o s).bind (splitU (gslots ops) o.dst)

theorem splitU_pick {gs : List Nat} {d : Option Nat} {u u' : Upd} (h : (splitU gs d u).pick = some u') : u' = u ∨ ∃ b d', d = some d' ∧ u = .val (.q (.c (.bool b))) ∧ u' = .val (.kb b) := by
  unfold splitU at h
  split at h
  · split at h
    · split at h
      · split at h
        · rename_i b
          simp only [T.pick] at h
          cases b <;> simp at h <;> subst h <;> exact .inr ⟨_, _, rfl, rfl, rfl⟩
        · cases h; exact .inl rfl
      · cases h; exact .inl rfl
    · cases h; exact .inl rfl
  · cases h; exact .inl rfl

theorem execM_eff {P : Program} {o : Oper} {nm : Nat} {s : St} {u : Upd} (h : effM P o nm s = some u) : execM P o nm s = some (u.ap o.dst s) := by
  unfold effM at h
  unfold execM
  split at h
  · rename_i t hop
    simp only [hop]
    split at h
    · rename_i z d hz hd
      cases h
      simp [hz, hd, Upd.ap, putT, newV]
    · cases h
  · rename_i t x hop
    simp only [hop]
    split at h
    · rename_i cs d hz hd
      cases h
      simp [hz, hd, Upd.ap, putT, newV]
    · cases h
  · rename_i t x y hop
    simp only [hop]
    split at h
    · rename_i n off vs m h1 h2 h3 h4
      simp only [h1, h2, h3, h4]
      split at h
      · rename_i ty cs hcs
        simp only [hcs]
        split at h
        · rename_i hc
          cases h
          rw [if_pos hc]
          rfl
        · cases h
      · cases h
    · cases h
  · rename_i t hop
    simp only [hop]
    split at h
    · rename_i kt et d hu hd
      simp only [hu, hd]
      split at h
      · rename_i kk ag h1 h2
        simp only [h1, h2]
        split at h
        · rename_i hc
          cases h
          rw [if_pos hc]
          rfl
        · cases h
      · cases h
    · cases h
  · rename_i t m k v hop
    simp only [hop]
    unfold mapU
    split at h
    · rename_i kt et n kv h1 h2 h3 h4
      simp only [h1, h2, h3, h4]
      split at h
      · rename_i kk kk' ag vk es ag' qs h5 h6 h7
        simp only [h5, h6, h7]
        split at h
        · rename_i hc
          cases h
          rw [if_pos hc]
          rfl
        · cases h
      · cases h
    · cases h
  · cases h

theorem step1_eff {P : Program} {Γ : Gam} {o : Oper} {nm : Nat} {s : St} {u : Upd} (h : (eff1 P Γ nm o s).pick = some u) : (step1 P Γ nm o s).pick = some (u.ap o.dst s) := by
  unfold eff1 at h
  unfold step1
  split at h
  · rename_i t ht
    rw [T.pick_bind] at h
    obtain ⟨v, hv, h⟩ := h
    cases h
    try rw [ht]
    exact (T.pick_bind _ _ _).2 ⟨v, hv, rfl⟩
  · rename_i ht
    try rw [ht]
    try simp only
    split at h
    · rename_i u' hu'
      cases h
      rw [execM_eff hu']
      rfl
    · split at h
      · rename_i hm
        rw [execM_call hm]
        simp only
        split at h
        · rename_i hy
          rw [if_pos hy]
          exact execY_eff h
        · rename_i hy
          rw [if_neg hy, T.pick_bind]
          exact ⟨u, effA_of_X h, rfl⟩
      · simp [T.pick] at h

/-! ### what an operation looks at -/
def V.nms : V → List Nat
  | .ptr n _ => [n]
  | .ep n _ _ _ => [n]
  | .own n => [n]
  | .mp n => [n]
  | .yld n => [n]
  | _ => []

def opTmps (ops : List Oper) (o : Oper) : List Nat :=
  (o.op.operands.toList.filterMap fun | .tmp t => some t | _ => none) ++
  (match o.guard with
   | some (j, _) => (gslot ops j).toList
   | none => [])

/-- Names that a value names, and those that lie below them. -/
def deepN : Nat → List (Option Ob) → V → List Nat
  | k + 1, lo, .ptr n _ => n :: (match lo[n]? with
    | some (some (.cells _ cs)) => cs.flatMap (deepN k lo)
    | _ => [])
  | k + 1, lo, .clo _ l => l.flatMap (deepN k lo)
  | _, _, v => v.nms

def deepV (lo : List (Option Ob)) : V → List Nat
  | .agg l => l.flatMap (deepN 3 lo)
  | .clo _ l => l.flatMap (deepN 3 lo)
  | v => deepN 3 lo v

/-- What a call is given. -/
def callArgs (o : Oper) (s : St) : List V := match o.op with
  | .call c => match c.callee with
    | .value x => c.args.toList.map (ev s) ++ (match calleeV s x with
      | some (_, caps) => caps
      | none => [])
    | _ => []
  | _ => []

def opNms (o : Oper) (s : St) : List Nat := (o.op.operands.toList.flatMap fun x => (ev s x).nms) ++ (callArgs o s).flatMap (deepV s.lo)

structure Alike (ops : List Oper) (o : Oper) (s s' : St) : Prop where
  tm : ∀ t ∈ opTmps ops o, s'.tm.getD t .any = s.tm.getD t .any
  lo : ∀ n ∈ opNms o s, s'.lo[n]? = s.lo[n]?
  ys : isYl o s = true → s'.ys = s.ys

section
variable {P : Program} {Γ : Gam} {ops : List Oper} {o : Oper} {s s' : St} {nm : Nat}

theorem Alike.ev (h : Alike ops o s s') {x : Operand} (hx : x ∈ o.op.operands) : ev s' x = ev s x := by
  cases x with
  | tmp t => exact congrArg V.unlc (h.tm t (List.mem_append_left _ (List.mem_filterMap.2 ⟨.tmp t, by simpa using hx, rfl⟩)))
  | _ => rfl

theorem Alike.evr (h : Alike ops o s s') {x : Operand} (hx : x ∈ o.op.operands) : evr s' x = evr s x := by
  cases x with
  | tmp t => exact h.tm t (List.mem_append_left _ (List.mem_filterMap.2 ⟨.tmp t, by simpa using hx, rfl⟩))
  | _ => rfl

theorem deepN_congr {lo lo' : List (Option Ob)} : ∀ (k : Nat) (v : V), (∀ n ∈ deepN k lo v, lo'[n]? = lo[n]?) → deepN k lo' v = deepN k lo v
  | 0, v, _ => by cases v <;> rfl
  | k + 1, v, h => by
    cases v with
    | ptr n off =>
      have h0 := h n (by simp [deepN])
      simp only [deepN, h0]
      congr 1
      split
      · rename_i t cs hlo
        refine flatMap_congr' fun x hx => deepN_congr k x fun m hm => h m ?_
        simp only [deepN, hlo]
        exact List.mem_cons_of_mem _ (List.mem_flatMap.2 ⟨x, hx, hm⟩)
      · rfl
    | clo f l => exact flatMap_congr' fun x hx => deepN_congr k x fun m hm => h m (by simp only [deepN]; exact List.mem_flatMap.2 ⟨x, hx, hm⟩)
    | _ => rfl

theorem mapO_congr {α β : Type} {f g : α → Option β} : ∀ {l : List α}, (∀ x ∈ l, f x = g x) → mapO f l = mapO g l
  | [], _ => rfl
  | x :: l, h => by simp only [mapO, h x List.mem_cons_self, mapO_congr (fun y hy => h y (List.mem_cons_of_mem _ hy))]

theorem toQ0_congr {lo lo' : List (Option Ob)} {v : V} (h : ∀ n ∈ v.nms, lo'[n]? = lo[n]?) : toQ0 lo' v = toQ0 lo v := by
  cases v with
  | own n => simp only [toQ0, h n (by simp [V.nms])]
  | mp n => simp only [toQ0, h n (by simp [V.nms])]
  | _ => rfl

theorem toQ_congr {lo lo' : List (Option Ob)} : ∀ (k : Nat) (v : V), (∀ n ∈ deepN k lo v, lo'[n]? = lo[n]?) → toQ k lo' v = toQ k lo v
  | 0, v, h => by
    have : deepN 0 lo v = v.nms := by cases v <;> rfl
    rw [this] at h
    exact toQ0_congr h
  | k + 1, v, h => by
    cases v with
    | ptr n off =>
      have h0 := h n (by simp [deepN])
      simp only [toQ, h0]
      split
      · rename_i t cs hlo
        refine congrArg _ (mapO_congr fun x hx => toQ_congr k x fun m hm => h m ?_)
        simp only [deepN, hlo]
        exact List.mem_cons_of_mem _ (List.mem_flatMap.2 ⟨x, List.mem_of_mem_drop hx, hm⟩)
      · rfl
    | clo f l =>
      simp only [toQ]
      exact congrArg _ (mapO_congr fun x hx => toQ_congr k x fun m hm => h m (by simp only [deepN]; exact List.mem_flatMap.2 ⟨x, hx, hm⟩))
    | _ => exact toQ0_congr h

theorem toQs_congr {lo lo' : List (Option Ob)} : ∀ {l : List V}, (∀ x ∈ l, ∀ n ∈ deepN 3 lo x, lo'[n]? = lo[n]?) → toQs lo' l = toQs lo l
  | [], _ => rfl
  | x :: l, h => by simp only [toQs, toQ_congr 3 x (h x List.mem_cons_self), toQs_congr fun y hy => h y (List.mem_cons_of_mem _ hy)]

theorem letGo1_congr {lo lo' : List (Option Ob)} {v : V} (h : ∀ n ∈ deepV lo v, lo'[n]? = lo[n]?) : letGo1 lo' v = letGo1 lo v := by
  cases v with
  | agg l => simp only [letGo1, toQs_congr (l := l) fun x hx n hn => h n (List.mem_flatMap.2 ⟨x, hx, hn⟩)]
  | clo f l => simp only [letGo1, toQs_congr (l := l) fun x hx n hn => h n (List.mem_flatMap.2 ⟨x, hx, hn⟩)]
  | any => rfl
  | _ => simp only [letGo1]; rw [toQ_congr 3 _ h]

theorem letGoL_congr {lo lo' : List (Option Ob)} : ∀ {l : List V}, (∀ x ∈ l, ∀ n ∈ deepV lo x, lo'[n]? = lo[n]?) → letGoL lo' l = letGoL lo l
  | [], _ => rfl
  | x :: l, h => by simp only [letGoL, letGo1_congr (h x List.mem_cons_self), letGoL_congr fun y hy => h y (List.mem_cons_of_mem _ hy)]

theorem deepV_congr {lo lo' : List (Option Ob)} {v : V} (h : ∀ n ∈ deepV lo v, lo'[n]? = lo[n]?) : deepV lo' v = deepV lo v := by
  cases v with
  | agg l => exact flatMap_congr' fun x hx => deepN_congr 3 x fun n hn => h n (List.mem_flatMap.2 ⟨x, hx, hn⟩)
  | clo f l => exact flatMap_congr' fun x hx => deepN_congr 3 x fun n hn => h n (List.mem_flatMap.2 ⟨x, hx, hn⟩)
  | _ => exact deepN_congr 3 _ h

theorem all_congr' {α : Type} {f g : α → Bool} : ∀ {l : List α}, (∀ x ∈ l, f x = g x) → l.all f = l.all g
  | [], _ => rfl
  | x :: l, h => by simp only [List.all_cons, h x List.mem_cons_self, all_congr' (fun y hy => h y (List.mem_cons_of_mem _ hy))]

theorem calleeV_alike {c : Call} {x : Operand} (hop : o.op = .call c) (hcal : c.callee = .value x) (h : Alike ops o s s') : calleeV s' x = calleeV s x := by
  have hx : x ∈ o.op.operands := by
    rw [hop]
    simp [Op.operands, Call.operands, hcal]
  unfold calleeV
  cases x <;> simp only [h.ev hx]

theorem args_alike {c : Call} (hop : o.op = .call c) (h : Alike ops o s s') : c.args.toList.map (SX.ev s') = c.args.toList.map (SX.ev s) := List.map_congr_left fun x hx => h.ev (by
  rw [hop]
  simp only [Op.operands, Call.operands]
  exact Array.mem_append_right _ (by simpa using hx))

theorem callArgs_alike (h : Alike ops o s s') : callArgs o s' = callArgs o s := by
  unfold callArgs
  split
  · rename_i c hop
    split
    · rename_i x hcal
      rw [calleeV_alike hop hcal h, args_alike hop h]
    · rfl
  · rfl

theorem Alike.deep (h : Alike ops o s s') : ∀ x ∈ callArgs o s, ∀ n ∈ deepV s.lo x, s'.lo[n]? = s.lo[n]? := fun x hx n hn => h.lo n (List.mem_append_right _ (List.mem_flatMap.2 ⟨x, hx, hn⟩))

theorem Alike.nms (h : Alike ops o s s') : opNms o s' = opNms o s := by
  unfold opNms
  rw [callArgs_alike h, flatMap_congr' (g := fun x => (SX.ev s x).nms) fun x hx => by rw [h.ev (by simpa using hx)]]
  congr 1
  exact flatMap_congr' fun x hx => deepV_congr (h.deep x hx)

theorem Alike.look (h : Alike ops o s s') {x : Operand} (hx : x ∈ o.op.operands) {n : Nat} (hn : n ∈ (SX.ev s x).nms) : s'.lo[n]? = s.lo[n]? :=
  h.lo n (List.mem_append_left _ (List.mem_flatMap.2 ⟨x, by simpa using hx, hn⟩))

theorem pureOp_alike (h : Alike ops o s s') : pureOp P o s' = pureOp P o s := by
  unfold pureOp
  have h1 : (o.op.operands.all fun x => ((SX.ev s' x).val?).isSome) = (o.op.operands.all fun x => ((SX.ev s x).val?).isSome) := by
    rw [← Array.all_toList, ← Array.all_toList]
    exact all_congr' fun x hx => by rw [h.ev (by simpa using hx)]
  rw [h1]
  by_cases hs : isSelect o.op = true
  · simp [hs]
  · have : execOp (rhoOf s') o = execOp (rhoOf s) o := execOp_congr o (fun cs b e => by simp [isSelect, e] at hs) (fun x hx => by simp only [rhoOf, h.ev hx])
    rw [this]

theorem readV_alike {t : TypeId} {v : V} (h : ∀ n ∈ v.nms, s'.lo[n]? = s.lo[n]?) : readV P t s' v = readV P t s v := by
  unfold readV
  cases v with
  | ptr n off => simp only [h n (by simp [V.nms])]
  | ep n sz i j => simp only [h n (by simp [V.nms])]
  | q x => cases x <;> simp only
  | _ => simp only

theorem entsOf_alike {m : V} (h : ∀ n ∈ m.nms, s'.lo[n]? = s.lo[n]?) : entsOf s' m = entsOf s m := by
  cases m with
  | mp n => simp only [entsOf, h n (by simp [V.nms])]
  | q x => cases x <;> rfl
  | _ => rfl

theorem lookV_alike {t : TypeId} {m k : V} {ok : Bool} (h : ∀ n ∈ m.nms, s'.lo[n]? = s.lo[n]?) : lookV P t s' m k ok = lookV P t s m k ok := by
  unfold lookV
  rw [entsOf_alike h]

theorem lenM_alike (h : Alike ops o s s') {v : V} (hv : ∀ n ∈ v.nms, s'.lo[n]? = s.lo[n]?) : lenM P o v s' = lenM P o v s := by
  unfold lenM
  rw [entsOf_alike hv, pureOp_alike h]

theorem apV_alike {c : Call} (hop : o.op = .call c) (h : Alike ops o s s') : apV P c s' = apV P c s := by
  unfold apV
  split
  · rename_i x y hargs
    have hm : ∀ z ∈ c.args.toList, z ∈ o.op.operands := fun z hz => by
      rw [hop]
      simp only [Op.operands, Call.operands]
      exact Array.mem_append_right _ (by simpa using hz)
    rw [h.evr (hm x (by simp [hargs])), h.ev (hm y (by simp [hargs]))]
  · rfl

theorem callT_alike {sp : List V → T V} {args : List V} (h : ∀ x ∈ args, ∀ n ∈ deepV s.lo x, s'.lo[n]? = s.lo[n]?) : callT s' sp args = callT s sp args := by
  unfold callT
  rw [letGoL_congr h]

theorem xcall_alike {lend : Bool} {sp : Option Ob → List V → T XOut} {args : List V} (h : ∀ x ∈ args, ∀ n ∈ deepV s.lo x, s'.lo[n]? = s.lo[n]?) : xcall s' nm lend sp args = xcall s nm lend sp args := by
  unfold xcall
  rw [letGoL_congr h]
  split
  · split
    · rename_i n' rest
      have := h (.ptr n' 0) List.mem_cons_self n' (by simp [deepV, deepN])
      rw [this]
    · rfl
  · rfl

theorem bnd_alike (h : Alike ops o s s') {d : Int} {x : Option Operand} (hx : ∀ y, x = some y → y ∈ o.op.operands) : bnd s' d x = bnd s d x := by
  cases x with
  | none => rfl
  | some y => simp only [bnd, h.ev (hx y rfl)]

theorem lenV_alike (h : Alike ops o s s') {v : V} (hv : ∀ n ∈ v.nms, s'.lo[n]? = s.lo[n]?) : lenV P o v s' = lenV P o v s := by
  unfold lenV
  cases v with
  | own n => simp only [hv n (by simp [V.nms])]
  | q x => cases x <;> simp only [pureOp_alike h]
  | _ => simp only [pureOp_alike h]

theorem map_ev_alike (h : Alike ops o s s') {l : List Operand} (hl : ∀ x ∈ l, x ∈ o.op.operands) : l.map (SX.ev s') = l.map (SX.ev s) :=
  List.map_congr_left fun x hx => h.ev (hl x hx)

theorem bsRows_congr {ks : List K} {e e' : Operand → V} : ∀ (l : List (Nat × Operand)) (i : Nat), (∀ x ∈ l, e' x.2 = e x.2) → bsRows ks e' i l = bsRows ks e i l
  | [], _, _ => rfl
  | (j, x) :: l, i, h => by
    simp only [bsRows, h (j, x) List.mem_cons_self, bsRows_congr l (i + 1) fun y hy => h y (List.mem_cons_of_mem _ hy)]

theorem bsV_congr {t : TypeId} {n : Nat} {e e' : Operand → V} (l : List (Nat × Operand)) (h : ∀ x ∈ l, e' x.2 = e x.2) : bsV P t n l e' = bsV P t n l e := by
  have hk : ∀ sz, bsKs e' sz l = bsKs e sz l := fun sz => by
    cases l with
    | nil => rfl
    | cons x l => simp only [bsKs, h x List.mem_cons_self]
  simp only [bsV, hk, bsRows_congr l 0 h]

theorem bFill_congr {places : Array (Nat × Nat)} {e e' : Operand → V} : ∀ (l : List (Nat × Operand)) (cs : List V), (∀ x ∈ l, e' x.2 = e x.2) → bFill places e' l cs = bFill places e l cs
  | [], _, _ => rfl
  | (j, x) :: l, cs, h => by
    simp only [bFill, h (j, x) List.mem_cons_self]
    split
    · split
      · exact bFill_congr l _ fun y hy => h y (List.mem_cons_of_mem _ hy)
      · rfl
    · rfl

theorem buildV_congr {t : TypeId} {e e' : Operand → V} (l : List (Nat × Operand)) (h : ∀ x ∈ l, e' x.2 = e x.2) : buildV P t l e' = buildV P t l e := by
  unfold buildV
  simp only [bFill_congr l _ h]

theorem execV_alike (h : Alike ops o s s') : execV P Γ o s' = execV P Γ o s := by
  have hev : ∀ x, x ∈ o.op.operands → SX.ev s' x = SX.ev s x := fun x hx => h.ev hx
  have hlo : ∀ x, x ∈ o.op.operands → ∀ n ∈ (SX.ev s x).nms, s'.lo[n]? = s.lo[n]? := fun x hx n hn => h.look hx hn
  have hp := pureOp_alike (P := P) h
  have hb : ∀ (d : Int) (x : Option Operand), (∀ y, x = some y → y ∈ o.op.operands) → bnd s' d x = bnd s d x := fun d x hx => bnd_alike h hx
  cases hop : o.op <;> simp only [execV, hop] <;> simp only [hop, Op.operands] at hev hlo hb
  case move x => rw [hev x (by simp)]
  case assign x => rw [hev x (by simp)]
  case pick c x y => rw [hev c (by simp), hev x (by simp), hev y (by simp)]
  case build t parts => rw [hp, buildV_congr parts.toList fun x hx => hev x.2 (by simp; exact ⟨x.1, by simpa using hx⟩)]
  case buildSlice t n parts => rw [bsV_congr parts.toList fun x hx => hev x.2 (by simp; exact ⟨x.1, by simpa using hx⟩)]
  case load t x =>
    cases x with
    | global g => rfl
    | _ => simp only []; rw [hev _ (by simp), readV_alike (hlo _ (by simp))]
  case lookup t m k ok => rw [hev m (by simp), hev k (by simp), lookV_alike (hlo m (by simp))]
  case nilCheck x => rw [hev x (by simp)]
  case binOp op t x y yt => rw [hev x (by simp), hev y (by simp), hp]
  case unOp => rw [hp]
  case convert src dst x => rw [hp, hev x (by simp)]
  case makeInterface => rw [hp]
  case makeFunc fn first caps =>
    have hc : List.map (SX.ev s') caps.toList = List.map (SX.ev s) caps.toList := List.map_congr_left fun x hx => hev x (by simp; right; simpa using hx)
    simp only [hc]
  case slice t x lo hi mx =>
    simp only [cutV]
    rw [hev x (by simp), hb 0 lo (by rintro y rfl; simp)]
    have h1 : ∀ d, bnd s' d hi = bnd s d hi := fun d => hb d hi (by rintro y rfl; simp)
    simp only [h1]
    have h2 : ∀ y, mx = some y → bnd s' 0 (some y) = bnd s 0 (some y) := fun y hy => by rw [← hy]; exact hb 0 mx (by rintro y rfl; simp)
    cases mx with
    | none => rfl
    | some y => simp only [h2 y rfl]
  case fieldAddr t x f => rw [hev x (by simp)]
  case field => rw [hp]
  case indexAddr t x ix =>
    rw [hev x (by simp), hev ix (by simp)]
    have h1 := hlo x (by simp)
    cases hx : SX.ev s x with
    | own n =>
      rw [hx] at h1
      cases (SX.ev s ix).int? with
      | none => rfl
      | some q => simp only [h1 n (by simp [V.nms])]
    | q y => cases y <;> cases (SX.ev s ix).int? <;> rfl
    | _ => cases (SX.ev s ix).int? <;> rfl
  case index t x ix => rw [hev x (by simp), hev ix (by simp), hp]
  case extract t i => rw [hev t (by simp)]
  case call c =>
    have hargs : ∀ x ∈ c.args.toList, x ∈ c.operands := fun x hx => by
      simp only [Call.operands]
      exact Array.mem_append_right _ (by simpa using hx)
    cases hcal : c.callee with
    | value f =>
      simp only [execC, hcal]
      have hm : List.map (SX.ev s') c.args.toList = List.map (SX.ev s) c.args.toList := List.map_congr_left fun x hx => hev x (hargs x hx)
      rw [calleeV_alike hop hcal h]
      cases hcv : calleeV s f with
      | none => rfl
      | some q =>
        obtain ⟨f', caps⟩ := q
        simp only
        cases hl : SX.look Γ f' with
        | none => rfl
        | some sp => cases sp with
          | f sp =>
            simp only [hm]
            rw [callT_alike]
            intro x hx
            refine h.deep x ?_
            simp only [callArgs, hop, hcal, hcv]
            exact hx
          | m sp => rfl
          | x lend sp => rfl
          | g v => rfl
    | invoke r m => simp only [execC, hcal]
    | builtin b =>
      cases b <;> simp only [execC, hcal, hp]
      case append => exact apV_alike hop h
      split
      · rename_i x hx
        have hm : x ∈ c.operands := hargs x (by simp [hx])
        simp only [hev x hm, lenV_alike h (hlo x hm), lenM_alike h (hlo x hm)]
      · rfl

theorem effM_alike (h : Alike ops o s s') : effM P o nm s' = effM P o nm s := by
  have hev : ∀ x, x ∈ o.op.operands → SX.ev s' x = SX.ev s x := fun x hx => h.ev hx
  have hlo : ∀ x, x ∈ o.op.operands → ∀ n ∈ (SX.ev s x).nms, s'.lo[n]? = s.lo[n]? := fun x hx n hn => h.look hx hn
  cases hop : o.op <;> simp only [effM, hop] <;> simp only [hop, Op.operands] at hev hlo
  case box t x => rw [hev x (by simp)]
  case store t x y =>
    rw [hev x (by simp), hev y (by simp)]
    have h1 := hlo x (by simp)
    cases hx : SX.ev s x with
    | ptr n off =>
      rw [hx] at h1
      cases (SX.ev s y).cells? with
      | none => rfl
      | some vs =>
        cases run0 P (sizeOf t) with
        | none => rfl
        | some m =>
          cases o.dst with
          | none => simp only [h1 n (by simp [V.nms])]
          | some d => rfl
    | _ => rfl
  case makeMap t r => cases r <;> rfl
  case mapUpdate t m k v =>
    rw [hev m (by simp), hev k (by simp), hev v (by simp)]
    have h1 := hlo m (by simp)
    cases P.underlying t with
    | none => rfl
    | some d => cases d with
      | map kt et => cases hm : SX.ev s m with
        | mp n =>
          rw [hm] at h1
          cases (SX.ev s k).val? with
          | none => rfl
          | some kv => cases o.dst with
            | none => simp only [h1 n (by simp [V.nms])]
            | some d => rfl
        | _ => rfl
      | _ => rfl

theorem appE_alike {c : Call} (hop : o.op = .call c) (h : Alike ops o s s') : appE P c nm s' = appE P c nm s := by
  have hm : ∀ z ∈ c.args.toList, z ∈ o.op.operands := fun z hz => by
    rw [hop]
    simp only [Op.operands, Call.operands]
    exact Array.mem_append_right _ (by simpa using hz)
  unfold appE
  split
  · rename_i x y hargs
    have hx := hm x (by simp [hargs])
    have hlo : ∀ n ∈ (SX.ev s x).nms, s'.lo[n]? = s.lo[n]? := fun n hn => h.look hx hn
    have hv : vecOf s' (SX.ev s x) = vecOf s (SX.ev s x) := by
      cases hv : SX.ev s x with
      | own n =>
        rw [hv] at hlo
        simp only [vecOf, hlo n (by simp [V.nms])]
      | _ => rfl
    rw [h.ev hx, h.ev (hm y (by simp [hargs])), hv]
  · rfl

theorem effX_alike (h : Alike ops o s s') : effX P Γ nm o s' = effX P Γ nm o s := by
  unfold effX
  split
  · rename_i c hop
    split
    · rw [appE_alike hop h]
    · rename_i x hcal
      rw [calleeV_alike hop hcal h, args_alike hop h]
      cases hcv : calleeV s x with
      | none => rfl
      | some q =>
        obtain ⟨f', caps⟩ := q
        simp only
        cases hl : SX.look Γ f' with
        | none => rfl
        | some sp => cases sp with
          | f sp => rfl
          | m sp => rfl
          | g v => rfl
          | x lend sp =>
            simp only
            rw [xcall_alike]
            intro y hy
            refine h.deep y ?_
            simp only [callArgs, hop, hcal, hcv]
            exact hy
    · rfl
  · rfl

theorem isYl_alike (h : Alike ops o s s') : isYl o s' = isYl o s := by
  unfold isYl
  split
  · rename_i c hop
    split
    · rename_i x hcal
      have hx : x ∈ o.op.operands := by
        rw [hop]
        simp [Op.operands, Call.operands, hcal]
      rw [h.ev hx]
    · rfl
  · rfl

theorem effY_alike (h : Alike ops o s s') : effY o s' = effY o s := by
  unfold effY
  split
  · rename_i c hop
    split
    · rename_i x hcal
      have hx : x ∈ o.op.operands := by
        rw [hop]
        simp [Op.operands, Call.operands, hcal]
      have hlo : ∀ n ∈ (SX.ev s x).nms, s'.lo[n]? = s.lo[n]? := fun n hn => h.look hx hn
      rw [h.ev hx, args_alike hop h]
      cases hv : SX.ev s x with
      | yld n =>
        have hy : isYl o s = true := by unfold isYl; simp only [hop, hcal, hv]
        rw [hv] at hlo
        simp only [hlo n (by simp [V.nms]), h.ys hy]
      | _ => rfl
    · rfl
  · rfl

theorem eff1_alike (h : Alike ops o s s') : eff1 P Γ nm o s' = eff1 P Γ nm o s := by
  unfold eff1
  rw [execV_alike h, effM_alike h, effX_alike h, isYl_alike h, effY_alike h]

theorem effG_alike (h : Alike ops o s s') : effG P Γ ops nm o s' = effG P Γ ops nm o s := by
  unfold effG effG0
  rw [eff1_alike h]
  cases hg : o.guard with
  | none => rfl
  | some q =>
    obtain ⟨j, want⟩ := q
    simp only
    cases hs : gslot ops j with
    | none => rfl
    | some g =>
      simp only
      rw [h.tm g (List.mem_append_right _ (by simp [hg, hs]))]

end
end Go.SX
