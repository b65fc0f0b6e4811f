/- What an operation makes of the symbolic state: the operations that yield a value and write nothing. -/
import Derived.Test.YtgmeglodnhagdaaGreatDoorSxDq
namespace Go.SX
open Go.RowKit
set_option linter.unusedVariables false
set_option linter.unusedSimpArgs false
set_option linter.unusedSectionVars false

theorem callsIn_FW {r : Option Nat} {n : Nat} {P : Program} {f : FuncId} {args : Array Value} {w : World} {R : Ending → World → Prop} (h : Calls P f args w R) : CallsIn (FW r) n P f args w R :=
  (callsIn_wide (n := n)).2 h

def V.free1 : V → Bool
  | .q _ => true
  | .kb _ => true
  | _ => false

def V.free : V → Bool
  | .q _ => true
  | .kb _ => true
  | .agg l => l.all V.free1
  | .clo _ l => l.all V.free1
  | _ => false

theorem den_free1 {S L L' : Nat → Prop} {θ θ' : Th} {w : World} {x : V} {v : Value} (h : Den S L θ w x v) (e : x.free1 = true) : Den S L' θ' w x v := by
  cases h with
  | q x v h => exact .q x v h
  | kb b => exact .kb b
  | _ => simp [V.free1] at e

theorem denL_free1 {S L L' : Nat → Prop} {θ θ' : Th} {w : World} : ∀ {l : List V} {vs : List Value}, DenL S L θ w l vs → l.all V.free1 = true → DenL S L' θ' w l vs
  | _, _, .nil, _ => .nil
  | _, _, .cons x v l vs h hl, e => by
    simp only [List.all_cons, Bool.and_eq_true] at e
    exact .cons _ _ _ _ (den_free1 h e.1) (denL_free1 hl e.2)

theorem den_free {S L L' : Nat → Prop} {θ θ' : Th} {w : World} {x : V} {v : Value} (h : Den S L θ w x v) (e : x.free = true) : Den S L' θ' w x v := by
  cases h with
  | q x v h => exact .q x v h
  | kb b => exact .kb b
  | agg l vs h => exact .agg l vs (denL_free1 h e)
  | clo f l vs h => exact .clo f l vs (denL_free1 h e)
  | _ => simp [V.free] at e

theorem denL_free {S L L' : Nat → Prop} {θ θ' : Th} {w : World} : ∀ {l : List V} {vs : List Value}, DenL S L θ w l vs → l.all V.free = true → DenL S L' θ' w l vs
  | _, _, .nil, _ => .nil
  | _, _, .cons x v l vs h hl, e => by
    simp only [List.all_cons, Bool.and_eq_true] at e
    exact .cons _ _ _ _ (den_free h e.1) (denL_free hl e.2)

def entersB (P : Program) (f : Nat) : Bool :=
  match P.funcs[f]? with
  | some fn => fn.body.isSome && !(fn.name == "runtime.NumGoroutine")
  | none => false

theorem run_enters {P : Program} {f : Nat} (h : entersB P f = true) (args : Array Value) (w : World) : (callFunc f args).run P w = .ok (.enter f args) w := by
  unfold entersB at h
  split at h
  · rename_i fn hf
    simp only [Bool.and_eq_true, Bool.not_eq_true'] at h
    have hb : fn.body.isNone = false := by
      cases hb : fn.body <;> simp [hb] at h ⊢
    have hn : ¬ fn.name = "runtime.NumGoroutine" := by simpa using h.2
    have hb' : ¬ fn.body = none := by intro e; simp [e] at hb
    simp [callFunc, run_program, hf, hn, hb']
  · cases h

/-- A function's contract: on arguments that name nothing owned, it hands back what sp says, and leaves all that was. -/
def SpecOK [GW] (P : Program) (f : Nat) (sp : List V → T V) : Prop :=
  entersB P f = true ∧ ∀ (S : Nat → Prop) (w : World) (args : List V) (vals : List Value) (r : V), (∀ b, S b → b < w.heap.size) → GLw w → (∀ x ∈ GW.gl, S x.1) → DenL S NoL th0 w args vals → (sp args).pick = some r →
    Calls P f vals.toArray w fun e w' => ∃ v, e = .returned v ∧ Below w.heap.size w w' ∧ Den (fun b => S b ∨ (w.heap.size ≤ b ∧ b < w'.heap.size)) NoL th0 w' r v

/-- What a call comes to that is lent something, or hands something over. Names: 0 what was lent, 1 what is new. -/
structure XOut where
  lent : Option Ob
  new : Option Ob
  r : V

/-- What a call comes to that is lent several things: what they are then, and what is new; the result. -/
structure MOut where
  lo : List (Option Ob)
  r : V

inductive Spec where
  | f (sp : List V → T V)
  | m (sp : List (Option Ob) → List V → T MOut)
  | x (lend : Bool) (sp : Option Ob → List V → T XOut)
  | g (v : Value)

instance : Coe (List V → T V) Spec := ⟨.f⟩

def XS (w : World) (S : Nat → Prop) (w' : World) (θ' : Th) (x : XOut) (b : Nat) : Prop := (S b ∨ (w.heap.size ≤ b ∧ b < w'.heap.size)) ∧ ∀ o, x.new = some o → ¬ uses θ' 1 o b

/-- The contract of a function that is lent one object (by its first argument), or hands a new one over. -/
def SpecX [GW] (P : Program) (f : Nat) (lend : Bool) (sp : Option Ob → List V → T XOut) : Prop :=
  entersB P f = true ∧ ∀ (S : Nat → Prop) (w : World) (θ : Th) (ls : Option Ob) (args : List V) (vals : List Value) (x : XOut), (∀ b, S b → b < w.heap.size) → GLw w → (∀ x ∈ GW.gl, S x.1) → ls.isSome = lend →
    (∀ o, ls = some o → ∃ t cs, o = .cells t cs ∧ Holds S NoL θ w 0 o ∧ (θ 0).blk < w.heap.size ∧ ¬ S (θ 0).blk) → DenL S (fun n => n = 0 ∧ lend = true) θ w args vals → (sp ls args).pick = some x →
    Calls P f vals.toArray w fun e w' => ∃ (v : Value) (θ' : Th), e = .returned v ∧ θ' 0 = θ 0 ∧ w'.os = w.os ∧ w'.tape = w.tape ∧ w'.output = w.output ∧ w.heap.size ≤ w'.heap.size ∧
      (∀ b, b < w.heap.size → ¬ (lend = true ∧ b = (θ 0).blk) → w'.heap[b]? = w.heap[b]?) ∧ x.lent.isSome = lend ∧
      (∀ o, x.lent = some o → ∃ t cs, o = .cells t cs ∧ Holds (XS w S w' θ' x) NoL θ' w' 0 o) ∧
      (∀ o, x.new = some o → Holds (XS w S w' θ' x) NoL θ' w' 1 o ∧ (∀ go adm, o ≠ .yl go adm) ∧ ∀ b, uses θ' 1 o b → w.heap.size ≤ b ∧ b < w'.heap.size) ∧
      Den (XS w S w' θ' x) (fun n => (n = 0 ∧ lend = true) ∨ (n = 1 ∧ x.new.isSome)) θ' w' x.r v

/-- What may be lent; what may come back. -/
def inOb : Ob → Bool
  | .cells .. | .map .. | .vec .. | .siter .. => true
  | _ => false
def outOb : Ob → Bool
  | .cells .. | .map .. | .vec .. | .siter .. | .gone | .dead | .deads => true
  | _ => false

def XM (w : World) (S : Nat → Prop) (lo : List (Option Ob)) (θ : Th) (w' : World) (θ' : Th) (lo' : List (Option Ob)) (b : Nat) : Prop :=
  ((S b ∨ (w.heap.size ≤ b ∧ b < w'.heap.size)) ∨ ∃ n o, lo[n]? = some (some o) ∧ uses θ n o b) ∧ ∀ n o, lo'[n]? = some (some o) → ¬ uses θ' n o b

/-- The contract of a function that is lent several things: all that its arguments lead to. -/
def SpecM [GW] (P : Program) (f : Nat) (sp : List (Option Ob) → List V → T MOut) : Prop :=
  entersB P f = true ∧ ∀ (S : Nat → Prop) (w : World) (θ : Th) (lo : List (Option Ob)) (args : List V) (vals : List Value) (x : MOut), (∀ b, S b → b < w.heap.size) → GLw w → (∀ x ∈ GW.gl, S x.1) →
    (∀ n o, lo[n]? = some (some o) → inOb o = true ∧ Holds S (Liv lo) θ w n o ∧ ∀ b, uses θ n o b → b < w.heap.size ∧ ¬ S b) →
    (∀ n m o o' b, lo[n]? = some (some o) → lo[m]? = some (some o') → n ≠ m → uses θ n o b → ¬ uses θ m o' b) → DenL S (Liv lo) θ w args vals → (sp lo args).pick = some x →
    Calls P f vals.toArray w fun e w' => ∃ (v : Value) (θ' : Th), e = .returned v ∧ (∀ n, n < lo.length → θ' n = θ n) ∧ w'.os = w.os ∧ w'.tape = w.tape ∧ w'.output = w.output ∧ w.heap.size ≤ w'.heap.size ∧
      (∀ b, b < w.heap.size → (∀ n o, lo[n]? = some (some o) → ¬ uses θ n o b) → w'.heap[b]? = w.heap[b]?) ∧ (∀ n, Liv lo n → Liv x.lo n) ∧
      (∀ n o, x.lo[n]? = some (some o) → outOb o = true ∧ Holds (XM w S lo θ w' θ' x.lo) (Liv x.lo) θ' w' n o ∧ ∀ b, uses θ' n o b → ((∃ m o', lo[m]? = some (some o') ∧ uses θ m o' b) ∨ w.heap.size ≤ b) ∧ b < w'.heap.size) ∧
      (∀ n m o o' b, x.lo[n]? = some (some o) → x.lo[m]? = some (some o') → n ≠ m → uses θ' n o b → ¬ uses θ' m o' b) ∧ Den (XM w S lo θ w' θ' x.lo) (Liv x.lo) θ' w' x.r v

abbrev Gam := List (Nat × Spec)

def SpecAny [GW] (P : Program) (f : Nat) : Spec → Prop
  | .f sp => SpecOK P f sp
  | .m sp => SpecM P f sp
  | .x lend sp => SpecX P f lend sp
  | .g v => ∃ g, f = g + 1048576 ∧ (g, 0, v) ∈ GW.gl ∧ isTup v = false

def GOK [GW] (P : Program) (Γ : Gam) : Prop := ∀ p, p ∈ Γ → SpecAny P p.1 p.2

theorem GOK.nil [GW] (P : Program) : GOK P [] := fun _ h => by cases h
theorem GOK.cons [GW] {P : Program} {f : Nat} {sp : List V → T V} {Γ : Gam} (h : SpecOK P f sp) (hΓ : GOK P Γ) : GOK P ((f, .f sp) :: Γ) := fun p hp => by
  cases hp with
  | head => exact h
  | tail _ hm => exact hΓ p hm
theorem GOK.consX [GW] {P : Program} {f : Nat} {lend : Bool} {sp : Option Ob → List V → T XOut} {Γ : Gam} (h : SpecX P f lend sp) (hΓ : GOK P Γ) : GOK P ((f, .x lend sp) :: Γ) := fun p hp => by
  cases hp with
  | head => exact h
  | tail _ hm => exact hΓ p hm

theorem GOK.consM [GW] {P : Program} {f : Nat} {sp : List (Option Ob) → List V → T MOut} {Γ : Gam} (h : SpecM P f sp) (hΓ : GOK P Γ) : GOK P ((f, .m sp) :: Γ) := fun p hp => by
  cases hp with
  | head => exact h
  | tail _ hm => exact hΓ p hm

theorem GOK.consG [GW] {P : Program} {g : Nat} {v : Value} {Γ : Gam} (h : (g, 0, v) ∈ GW.gl) (hΓ : GOK P Γ) (ht : isTup v = false := by rfl) : GOK P ((g + 1048576, .g v) :: Γ) := fun p hp => by
  cases hp with
  | head => exact ⟨g, rfl, h, ht⟩
  | tail _ hm => exact hΓ p hm

/-- A package variable that is laid. -/
def globV (P : Program) (Γ : Gam) (t : TypeId) (g : Nat) : T V := match look Γ (g + 1048576), run0 P (isAgg t) with
  | some (.g v), some false => .leaf (.q (.c v))
  | _, _ => .bad

def V.bool? : V → Option Bool
  | .q (.c (.bool b)) => some b
  | .kb b => some b
  | _ => none

def V.int? : V → Option (IntKind × Int)
  | .q (.c (.int k n)) => some (k, n)
  | _ => none

def pickV (c x y : V) : Option V :=
  match c with
  | .kb true => some x
  | .kb false => some y
  | .q (.c (.bool b)) =>
    match x.bool?, y.bool? with
    | some p, some q => some (V.b (bif b then p else q))
    | _, _ => match x.int?, y.int? with
      | some (k, m), some (k', n) => if k = k' then some (V.int k (bif b then m else n)) else none
      | _, _ => none
  | _ => none

/-- A field's place, in cells. -/
def fieldOff (P : Program) (t : TypeId) (f : Nat) : Option Nat := run0 P (do
  let .struct fields ← underlying t | stuck ""
  let some fd := fields[f]? | stuck ""
  if (← sizeOf fd.type) = 0 then stuck "" else pure fd.offset)

def elemSize (P : Program) (t : TypeId) : Option Nat := run0 P (do
  let .slice e ← underlying t | stuck ""
  sizeOf e)

def isStr (P : Program) (t : TypeId) : Bool := match P.underlying t with
  | some .string => true
  | _ => false

def bnd (s : St) (d : Int) : Option Operand → Option Int
  | none => some d
  | some x => (ev s x).int?.map (·.2)

/-- A stable list, cut. -/
def cutV (P : Program) (t : TypeId) (x : V) (lo hi mx : Option Operand) (s : St) : T V :=
  match x with
  | .q (.lst ks len get) =>
    match bnd s 0 lo, bnd s len hi with
    | some l, some h =>
      match mx with
      | none => if elemSize P t = some ks.length then .ite (decide (0 ≤ l ∧ l ≤ h ∧ h ≤ (len : Int))) (.leaf (.q (.lst ks (h.toNat - l.toNat) fun i => get (l.toNat + i)))) .bad else .bad
      | some y => match bnd s 0 (some y), hi with
        | some m, some _ => if elemSize P t = some ks.length then .ite (decide (0 ≤ l ∧ l ≤ h ∧ h ≤ m ∧ m ≤ (len : Int))) (.leaf (.lc ks (h.toNat - l.toNat) (fun i => get (l.toNat + i)) (m.toNat - l.toNat))) .bad else .bad
        | _, _ => .bad
    | _, _ => .bad
  | .q (.c (.string b)) =>
    match mx, bnd s 0 lo, bnd s b.size hi with
    | none, some l, some h => if isStr P t then .ite (decide (0 ≤ l ∧ l ≤ h ∧ h ≤ (b.size : Int))) (.leaf (V.s (b.extract l.toNat h.toNat))) .bad else .bad
    | _, _, _ => .bad
  | _ => .bad

def lenV (P : Program) (o : Oper) (x : V) (s : St) : T V :=
  match x with
  | .q (.lst _ len _) => .leaf (V.i len)
  | .own n => match s.lo[n]? with
    | some (some (.vec _ _ len _)) => .leaf (V.i len)
    | _ => .bad
  | _ => .ofOption (pureOp P o s)

def isSl (P : Program) (c : Call) : Bool := match c.argTypes[0]? with
  | some t => match P.underlying t with
    | some (.slice _) => true
    | _ => false
  | none => false

def isMp (P : Program) (c : Call) : Bool := match c.argTypes[0]? with
  | some t => match P.underlying t with
    | some (.map _ _) => true
    | _ => false
  | none => false

def lenM (P : Program) (o : Oper) (x : V) (s : St) : T V := match entsOf s x with
  | some (_, _, _, es) => .leaf (V.i es.length)
  | none => .ofOption (pureOp P o s)

/-- The function that is called, and what it is closed over. -/
def calleeV (s : St) : Operand → Option (Nat × List V)
  | .func f => some (f, [])
  | x => match ev s x with
    | .clo f caps => some (f, caps)
    | .q (.clo f caps) => some (f, caps.map .q)
    | .q (.c (.func (.func f) a b)) => match a.toList, b.toList with
      | [], [] => some (f, [])
      | _, _ => none
    | _ => none

/-- A call that looks at what it is given, and no more: what is owned it sees as what none owns. -/
def callT (s : St) (sp : List V → T V) (args : List V) : T V :=
  if args.all V.free then sp args else match letGoL s.lo args with
    | some args' => (sp args').bind fun v => if v.shut then .leaf v else .bad
    | none => .bad

/-- The list behind what is added to it. -/
def catG (len : Nat) (get g : Nat → Nat → Q) (i j : Nat) : Q := bif decide (i < len) then get i j else g (i - len) j

/-- A slice's elements: their type, how many cells, how many bytes. -/
def elemInfo (P : Program) (c : Call) : Option (TypeId × Nat × Nat) := match c.argTypes.toList with
  | [t, t'] => if t = t' then match P.underlying t with
      | some (.slice e) => match P.info? e with
        | some i => match i.zero with
          | some z => if z.cells.size = i.size ∧ 0 < i.size ∧ 1 ≤ i.bytes then some (e, i.size, i.bytes) else none
          | none => none
        | none => none
      | _ => none
    else none
  | _ => none

def roomB (len m bytes : Nat) : Bool := decide (0 < m ∧ (len + m) * bytes ≤ 140737488355328)

/-- To add to a list that has no room left. -/
def apV (P : Program) (c : Call) (s : St) : Option (T V) := match c.args.toList with
  | [x, y] => match evr s x, ev s y, elemInfo P c with
    | .lc ks len get cap, .q (.lst ks' m g), some (_, sz, by_) => if K.sames ks ks' && decide (ks.length = sz) then some (.ite (decide (cap < len + m) && roomB len m by_) (.leaf (.q (.lst ks (len + m) (catG len get g)))) .bad) else none
    | _, _, _ => none
  | _ => none

def execC (P : Program) (Γ : Gam) (o : Oper) (c : Call) (s : St) : Option (T V) :=
  match c.callee with
  | .builtin .len => match c.args.toList with
    | [x] => some (if isSl P c then lenV P o (ev s x) s else if isMp P c then lenM P o (ev s x) s else .ofOption (pureOp P o s))
    | _ => none
  | .builtin .append => apV P c s
  | .builtin .min => some (.ofOption (pureOp P o s))
  | .builtin .max => some (.ofOption (pureOp P o s))
  | .value x => match calleeV s x with
    | some (f, caps) => match look Γ f with
      | some (.f sp) => some (callT s sp (c.args.toList.map (ev s) ++ caps))
      | _ => none
    | none => none
  | _ => none

def isBytes (P : Program) (t : TypeId) : Bool := match P.underlying t with
  | some (.slice e) => match P.underlying e with
    | some (.int .u8) => true
    | _ => false
  | _ => false

/-- One text behind another. -/
def catS (op : BinOp) (x y : V) : Option (T V) := match op, x, y with
  | .add, .q (.c (.string a)), .q (.c (.string b)) => some (.ite (decide (a.size + b.size ≤ 9223372036854775807)) (.leaf (V.s (a ++ b))) .bad)
  | _, _, _ => none

/-- A text's bytes, in a list of their own. -/
def convV (P : Program) (src dst : TypeId) : V → T V
  | .q (.c (.string b)) => if isStr P src && isBytes P dst then .ite (decide (b.size ≤ 9223372036854775807)) (.leaf (.q (.lst [.int .u8] b.size fun i _ => .c (.int .u8 ((b.get! i).toNat : Nat))))) .bad else .bad
  | .q (.lst [.int .u8] n g) => if isBytes P src && isStr P dst then .ite (decide (0 < n)) (.leaf (.q (.c (.string ⟨((List.range n).map fun i => UInt8.ofNat (qInt (g i 0)).toNat).toArray⟩)))) .bad else .bad
  | _ => .bad

def bsRows (ks : List K) (e : Operand → V) : Nat → List (Nat × Operand) → Option (List (List Q))
  | _, [] => some []
  | i, (j, x) :: l => if j = i then match (e x).cells? with
      | some cs => match qsOf cs with
        | some qs => if kOks ks qs then (bsRows ks e (i + 1) l).map (qs :: ·) else none
        | none => none
      | none => none
    else none

def bsKs (e : Operand → V) (sz : Nat) : List (Nat × Operand) → List K
  | (_, x) :: _ => match (e x).cells? with
    | some cs => match qsOf cs with
      | some qs => qs.map Q.k
      | none => []
    | none => []
  | [] => List.replicate sz .any

def bsT (P : Program) (t : TypeId) : Option Nat := run0 P (do
  let .slice e ← underlying t | stuck ""
  match run0 P (zeroValue e) with
  | some _ => sizeOf e
  | none => stuck "")

/-- A list made of its parts, all of them given: it is stable from then on. -/
def bsV (P : Program) (t : TypeId) (n : Nat) (parts : List (Nat × Operand)) (e : Operand → V) : T V :=
  match bsT P t with
  | some sz => match bsRows (bsKs e sz parts) e 0 parts with
    | some rows => if decide ((bsKs e sz parts).length = sz) && decide (0 < sz) && decide (parts.length = n) && decide (0 < n ∧ n * sz ≤ 2 ^ 24) then .leaf (.q (.lst (bsKs e sz parts) n fun i j => (rows.getD i []).getD j default)) else .bad
    | none => .bad
  | none => .bad

/-- A struct made of its parts. -/
def bFill (places : Array (Nat × Nat)) (e : Operand → V) : List (Nat × Operand) → List V → Option (List V)
  | [], cs => some cs
  | (i, x) :: r, cs => match places[i]?, (e x).cells? with
    | some (off, size), some vs => if vs.length = size ∧ off + vs.length ≤ cs.length then bFill places e r (over cs off vs) else none
    | _, _ => none

def placesOf (fs : Array Field) : Sem (Array (Nat × Nat)) := fs.mapM fun f => do pure (f.offset, ← sizeOf f.type)

def buildV (P : Program) (t : TypeId) (parts : List (Nat × Operand)) (e : Operand → V) : Option V :=
  match P.underlying t with
  | some (.struct fs) => match run0 P (zeroValue t), run0 P (placesOf fs) with
    | some z, some places => (bFill places e parts (z.cells.toList.map fun x => .q (.c x))).map .agg
    | _, _ => none
  | _ => none

/-- The operations that yield a value and write nothing; none: it is none of these. -/
def execV (P : Program) (Γ : Gam) (o : Oper) (s : St) : Option (T V) :=
  match o.op with
  | .move x | .assign x => some (.leaf (ev s x))
  | .pick c x y => some (.ofOption (pickV (ev s c) (ev s x) (ev s y)))
  | .load t (.global g) => some (globV P Γ t g)
  | .load t x => some (readV P t s (ev s x))
  | .lookup t m k ok => some (lookV P t s (ev s m) (ev s k) ok)
  | .extract t i => some (match ev s t with
    | .tup l => .ofOption l[i]?
    | _ => .bad)
  | .nilCheck x => some (match ev s x with
    | .ptr n off => .leaf (.ptr n off)
    | .q (.sp k get) => .leaf (.q (.sp k get))
    | .clo f caps => .leaf (.clo f caps)
    | .q (.clo f caps) => .leaf (.q (.clo f caps))
    | .yld n => .leaf (.yld n)
    | _ => .bad)
  | .fieldAddr t x f => some (match ev s x, fieldOff P t f with
    | .ptr n off, some d => .leaf (.ptr n (off + d))
    | .ep n sz i j, some d => .leaf (.ep n sz i (j + d))
    | .q (.sp k get), some d => .leaf (.q (.sp (k - d) fun j => get (d + j)))
    | _, _ => .bad)
  | .indexAddr t x ix => some (match ev s x, (ev s ix).int? with
    | .q (.lst ks len get), some (_, i) => if elemSize P t = some ks.length then .ite (decide (0 ≤ i ∧ i < (len : Int))) (.leaf (.q (.sp ks.length (nrmG ks (get i.toNat))))) .bad else .bad
    | .own n, some (_, i) => match s.lo[n]? with
      | some (some (.vec _ ks len _)) => if elemSize P t = some ks.length then .ite (decide (0 ≤ i ∧ i < (len : Int))) (.leaf (.ep n ks.length i.toNat 0)) .bad else .bad
      | _ => .bad
    | _, _ => .bad)
  | .index t x ix => some (match ev s x, (ev s ix).int? with
    | .q (.c (.string b)), some (_, i) => if isStr P t then .ite (decide (0 ≤ i ∧ i < (b.size : Int))) (.leaf (V.int .u8 ((b.get! i.toNat).toNat : Nat))) .bad else .bad
    | _, _ => .ofOption (pureOp P o s))
  | .slice t x lo hi mx => some (cutV P t (ev s x) lo hi mx s)
  | .binOp op t x y _ => some (match eqNil P op t (ev s x) (ev s y) with
    | some v => .leaf v
    | none => match eqOp P op t (ev s x) (ev s y) with
    | some v => .leaf v
    | none => match catS op (ev s x) (ev s y) with
      | some t => t
      | none => .ofOption (pureOp P o s))
  | .makeFunc fn first caps => match fn, first.toList with
    | .func f, [] => some (.leaf (.clo f (caps.toList.map (ev s))))
    | _, _ => none
  | .call c => execC P Γ o c s
  | .buildSlice t n parts => some (bsV P t n parts.toList (ev s))
  | .build t parts => some (match pureOp P o s with
    | some v => .leaf v
    | none => .ofOption (buildV P t parts.toList (ev s)))
  | .convert src dst x => some (match pureOp P o s with
    | some v => .leaf v
    | none => convV P src dst (ev s x))
  | .unOp .. | .makeInterface .. | .field .. => some (.ofOption (pureOp P o s))
  | _ => none

section
variable [GW] {P : Program} {J : Jt P} {Am Mi : Nat → Prop} {w0 w : World} {s : St} {θ : Th} {a : Act}

theorem den_bool {S L : Nat → Prop} {x : V} {u : Value} {b : Bool} (h : Den S L θ w x u) (e : x.bool? = some b) : u = .bool b := by
  cases h with
  | q y z hq => cases hq with
    | c _ => cases u <;> simp [V.bool?] at e; subst e; rfl
    | _ => simp [V.bool?] at e
  | kb c => simp [V.bool?] at e; subst e; rfl
  | _ => simp [V.bool?] at e

theorem den_int {S L : Nat → Prop} {x : V} {u : Value} {k : IntKind} {n : Int} (h : Den S L θ w x u) (e : x.int? = some (k, n)) : u = .int k n := by
  cases h with
  | q y z hq => cases hq with
    | c _ => cases u <;> simp [V.int?] at e; obtain ⟨rfl, rfl⟩ := e; rfl
    | _ => simp [V.int?] at e
  | _ => simp [V.int?] at e

theorem pickV_den {S L : Nat → Prop} {c x y r : V} {uc ux uy : Value} (hc : Den S L θ w c uc) (hx : Den S L θ w x ux) (hy : Den S L θ w y uy) (e : pickV c x y = some r) :
    ∃ b, uc = .bool b ∧ Den S L θ w r (if b then ux else uy) := by
  unfold pickV at e
  split at e
  · cases e; cases hc; exact ⟨true, rfl, hx⟩
  · cases e; cases hc; exact ⟨false, rfl, hy⟩
  · rename_i b
    have hb := den_bool (b := b) hc rfl
    refine ⟨b, hb, ?_⟩
    split at e
    · rename_i p q hp hq
      cases e
      have h1 := den_bool hx hp
      have h2 := den_bool hy hq
      subst h1; subst h2
      cases b <;> exact .q _ _ (.c _)
    · split at e
      · rename_i k m k' n hp hq
        split at e
        · rename_i hk
          subst hk
          cases e
          have h1 := den_int hx hp
          have h2 := den_int hy hq
          subst h1; subst h2
          cases b <;> exact .q _ _ (.c _)
        · cases e
      · cases e
  · cases e

theorem fieldOff_run {t : TypeId} {f d : Nat} (h : fieldOff P t f = some d) (b off : Nat) (w : World) : (Instr.fieldAt t (.pointer (some ⟨b, off, none⟩)) f).run P w = .ok (.pointer (some ⟨b, off + d, none⟩)) w := by
  have h' := run0_run _ w h
  simp only [Sem.run_bind] at h'
  simp only [Instr.fieldAt, Sem.run_bind]
  cases hu : (underlying t).run P w with
  | halt x w' => simp [hu, Result.andThen] at h'
  | ok dsc w1 =>
    simp only [hu, Result.andThen_ok] at h' ⊢
    cases dsc with
    | struct fields =>
      simp only at h' ⊢
      cases hf : fields[f]? with
      | none => simp [hf, stuck, Sem.run] at h'
      | some fd =>
        simp only [hf, Sem.run_bind] at h' ⊢
        simp only [Instr.sureAddr, Sem.run_pure, Result.andThen_ok, fieldPlace, Sem.run_bind]
        cases hz : (sizeOf fd.type).run P w1 with
        | halt x w' => simp [hz, Result.andThen] at h'
        | ok z w2 =>
          simp only [hz, Result.andThen_ok] at h' ⊢
          by_cases h0 : z = 0
          · simp [h0, stuck, Sem.run] at h'
          · simp only [if_neg h0, Sem.run_pure] at h' ⊢
            cases h'
            simp [addr_add]
    | _ => simp [stuck, Sem.run] at h'

theorem elemSize_run {t : TypeId} {z : Nat} (h : elemSize P t = some z) (w : World) : ∃ e, P.underlying t = some (.slice e) ∧ (sizeOf e).run P w = .ok z w := by
  unfold elemSize at h
  cases hu : P.underlying t with
  | none => simp [underlying, program, run0, hu, stuck, Bind.bind, Sem.bind, Pure.pure] at h
  | some d =>
    cases d <;> simp only [underlying, program, run0, hu, stuck, Bind.bind, Sem.bind, Pure.pure] at h <;> first | cases h | skip
    rename_i e
    exact ⟨e, rfl, run0_run _ w h⟩

end
end Go.SX
