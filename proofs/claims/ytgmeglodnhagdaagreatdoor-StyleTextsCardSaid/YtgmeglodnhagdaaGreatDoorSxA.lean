/- A symbolic state over the model's memory: values, resources, what they denote. No program in sight. -/
import Derived.Below
import Derived.OrdersIn
import Derived.TacticsIn
import Derived.RangeFuncIn
namespace Go.SX
open Go.RowKit
set_option linter.unusedVariables false
set_option linter.unusedSimpArgs false
set_option linter.unusedSectionVars false

/-- Kinds of the cells of a stable element. -/
inductive K where
  | int (k : IntKind) | bool | str | any | lst (ks : List K)
  deriving Inhabited

/-- The kind of a map's keys. -/
inductive MK where
  | one (k : K)
  | many (ks : List K)
  deriving Inhabited

def K.fit : K → Value → Bool
  | .int k, .int k' _ => decide (k = k')
  | .bool, .bool _ => true
  | .str, .string _ => true
  | _, _ => false

def K.fitL : List K → List Value → Bool
  | [], [] => true
  | k :: ks, v :: vs => k.fit v && K.fitL ks vs
  | _, _ => false

def MK.fit : MK → Value → Bool
  | .one k, v => k.fit v
  | .many ks, .agg cs => K.fitL ks cs.toList
  | _, _ => false

/-- A map's value, of its cells. -/
def valOf (ag : Bool) (us : List Value) : Value := if ag then .agg us.toArray else us.headD undef

/-- Stable values: they name nothing that the activation owns. -/
inductive Q where
  | c (x : Value)
  | lst (ks : List K) (len : Nat) (get : Nat → Nat → Q)
  | sp (k : Nat) (get : Nat → Q)
  | mp (kk : MK) (ag : Bool) (vk : List K) (es : List (Value × List Q))
  | clo (f : Nat) (caps : List Q)
  | nn

instance : Inhabited Q := ⟨.c (.tuple #[])⟩

inductive V where
  | q (x : Q)
  | ptr (n off : Nat)
  | ep (n sz i j : Nat)
  | own (n : Nat)
  | mp (n : Nat)
  | yld (n : Nat)
  | clo (f : Nat) (caps : List V)
  | agg (l : List V)
  | tup (l : List V)
  | kb (b : Bool)
  | lc (ks : List K) (len : Nat) (get : Nat → Nat → Q) (cap : Nat)
  | any

instance : Inhabited V := ⟨.any⟩

abbrev V.int (k : IntKind) (n : Int) : V := .q (.c (.int k n))
abbrev V.i (n : Int) : V := .q (.c (.int .i64 n))
abbrev V.b (x : Bool) : V := .q (.c (.bool x))
abbrev V.s (x : ByteArray) : V := .q (.c (.string x))

/-- A cell of that kind. -/
inductive KOk : K → Q → Prop
  | int (k : IntKind) (n : Int) : KOk (.int k) (.c (.int k n))
  | bool (b : Bool) : KOk .bool (.c (.bool b))
  | str (s : ByteArray) : KOk .str (.c (.string s))
  | any (q : Q) : KOk .any q
  | lst (ks : List K) (len : Nat) (get : Nat → Nat → Q) : KOk (.lst ks) (.lst ks len get)

/-- What a stable value denotes: S says which blocks are stable. -/
inductive DenQ (S : Nat → Prop) (w : World) : Q → Value → Prop
  | c (x : Value) : DenQ S w (.c x) x
  | nil (ks : List K) (len : Nat) (get : Nat → Nat → Q) (h : len = 0) : DenQ S w (.lst ks len get) (.slice none 0 0)
  | lst (ks : List K) (len : Nat) (get : Nat → Nat → Q) (b off cap : Nat) (u : Nat → Nat → Value) (hS : S b) (hcap : len ≤ cap ∧ len ≤ 9223372036854775807)
      (hc : ∀ i j, i < len → j < ks.length → w.cell? ⟨b, off + i * ks.length + j, none⟩ = some (u i j))
      (hk : ∀ i j k, i < len → ks[j]? = some k → KOk k (get i j))
      (hd : ∀ i j, i < len → j < ks.length → DenQ S w (get i j) (u i j)) : DenQ S w (.lst ks len get) (.slice (some ⟨b, off, none⟩) len cap)
  | sp (k : Nat) (get : Nat → Q) (b off : Nat) (u : Nat → Value) (hS : S b)
      (hc : ∀ j, j < k → w.cell? ⟨b, off + j, none⟩ = some (u j))
      (hd : ∀ j, j < k → DenQ S w (get j) (u j)) : DenQ S w (.sp k get) (.pointer (some ⟨b, off, none⟩))
  | mp (kk : MK) (ag : Bool) (vk : List K) (es : List (Value × List Q)) (b : Nat) (arr : List MapEntry) (clk : Nat) (u : Nat → Nat → Value) (hS : S b)
      (hb : w.heap[b]? = some (.map arr.toArray clk)) (hl : arr.length = es.length)
      (hf : ∀ (i : Nat) (key : Value) (qs : List Q), es[i]? = some (key, qs) → kk.fit key = true ∧ qs.length = vk.length ∧ ∃ born : Nat, arr[i]? = some ({ key := key, val := valOf ag ((List.range vk.length).map (u i)), born := born } : MapEntry))
      (hk : ∀ (i : Nat) (key : Value) (qs : List Q) (j : Nat) (k : K) (q : Q), es[i]? = some (key, qs) → vk[j]? = some k → qs[j]? = some q → KOk k q)
      (hd : ∀ (i : Nat) (key : Value) (qs : List Q) (j : Nat) (q : Q), es[i]? = some (key, qs) → qs[j]? = some q → DenQ S w q (u i j)) : DenQ S w (.mp kk ag vk es) (.map (some b))
  | clo (f : Nat) (caps : List Q) (u : Nat → Value) (hd : ∀ (j : Nat) (q : Q), caps[j]? = some q → DenQ S w q (u j)) : DenQ S w (.clo f caps) (.func (.func f) #[] ((List.range caps.length).map u).toArray)
  | nn (t : TypeId) (v : Value) : DenQ S w .nn (.iface t v)

/-- The valuation of a name: its block, and (of a list that is owned) its slice value. -/
structure Nm where
  blk : Nat
  sl : Value
  bs : List Nat

abbrev Th := Nat → Nm

def th0 : Th := fun _ => ⟨0, .tuple #[], []⟩

mutual
/-- S: the stable blocks. L: the names that are alive. -/
inductive Den (S L : Nat → Prop) (θ : Th) (w : World) : V → Value → Prop
  | any (v : Value) : Den S L θ w .any v
  | q (x : Q) (v : Value) (h : DenQ S w x v) : Den S L θ w (.q x) v
  | ptr (n off : Nat) (h : L n) : Den S L θ w (.ptr n off) (.pointer (some ⟨(θ n).blk, off, none⟩))
  | ep (n sz i j : Nat) (h : L n) : Den S L θ w (.ep n sz i j) (.pointer (some ⟨(θ n).blk, i * sz + j, none⟩))
  | kb (b : Bool) : Den S L θ w (.kb b) (.bool b)
  | own (n : Nat) (a : Option Addr) (len cap : Nat) (h : L n) (e : (θ n).sl = .slice a len cap) : Den S L θ w (.own n) (.slice a len cap)
  | mp (n : Nat) (h : L n) : Den S L θ w (.mp n) (.map (some (θ n).blk))
  | lc (ks : List K) (len : Nat) (get : Nat → Nat → Q) (cap : Nat) (a : Option Addr) (n : Nat) (h : DenQ S w (.lst ks len get) (.slice a n cap)) : Den S L θ w (.lc ks len get cap) (.slice a n cap)
  | yld (n : Nat) (h : L n) : Den S L θ w (.yld n) (.func (.yield (θ n).blk) #[] #[])
  | clo (f : Nat) (caps : List V) (vs : List Value) (h : DenL S L θ w caps vs) : Den S L θ w (.clo f caps) (.func (.func f) #[] vs.toArray)
  | agg (l : List V) (vs : List Value) (h : DenL S L θ w l vs) : Den S L θ w (.agg l) (.agg vs.toArray)
  | tup (l : List V) (vs : List Value) (h : DenL S L θ w l vs) : Den S L θ w (.tup l) (.tuple vs.toArray)
inductive DenL (S L : Nat → Prop) (θ : Th) (w : World) : List V → List Value → Prop
  | nil : DenL S L θ w [] []
  | cons (x : V) (v : Value) (l : List V) (vs : List Value) (h : Den S L θ w x v) (hl : DenL S L θ w l vs) : DenL S L θ w (x :: l) (v :: vs)
end

/-- What is owned. -/
inductive Ob where
  | map (kk : MK) (ag : Bool) (vk : List K) (es : List (Value × List Q))
  | cells (t : TypeId) (cs : List V)
  | vec (t : TypeId) (ks : List K) (len : Nat) (get : Nat → Nat → Q)
  | yl (go : List (List V) → Bool) (adm : List (List V) → List V → Bool)
  | dfr
  | deads
  | raw (x : Obj)
  | siter (b : ByteArray) (pos : Nat)
  | held (tm : List V)
  | dead
  | gone
  deriving Inhabited

/-- What is to be done when the function is left: the mark of a loop's deferred calls; a closure over what is owned. -/
inductive Df where
  | mark (n : Nat)
  | clo (f : Nat) (caps : List Nat)
  deriving Inhabited

structure St where
  tm : List V
  lo : List (Option Ob)
  df : List Df := []
  inr : Bool := false
  base : Nat := 0
  ys : List (List V) := []
  deriving Inhabited

def Df.names : Df → List Nat
  | .mark n => [n]
  | .clo _ caps => caps

def Df.den (θ : Th) : Df → List Deferred
  | .mark n => (θ n).bs.map fun b => { target := .collected b, args := #[] }
  | .clo f caps => [{ target := .fn (.func f) (caps.map fun n => Value.pointer (some ⟨(θ n).blk, 0, none⟩)).toArray, args := #[] }]

theorem Df.den_congr {θ θ' : Th} : ∀ (d : Df), (∀ n ∈ d.names, θ' n = θ n) → d.den θ' = d.den θ
  | .mark n, h => by simp [Df.den, h n (by simp [Df.names])]
  | .clo f caps, h => by
    simp only [Df.den]
    congr 4
    exact List.map_congr_left fun n hn => by rw [h n (by simpa [Df.names] using hn)]

theorem flatMap_congr' {α β : Type} {f g : α → List β} : ∀ {l : List α}, (∀ x ∈ l, f x = g x) → l.flatMap f = l.flatMap g
  | [], _ => rfl
  | x :: l, h => by simp only [List.flatMap_cons, h x List.mem_cons_self, flatMap_congr' (l := l) fun y hy => h y (List.mem_cons_of_mem _ hy)]

/-- Cells of kinds. -/
inductive DenK (S : Nat → Prop) (w : World) : List K → List Q → List Value → Prop
  | nil : DenK S w [] [] []
  | cons (k : K) (q : Q) (u : Value) (ks : List K) (qs : List Q) (us : List Value) (hk : KOk k q) (hd : DenQ S w q u) (h : DenK S w ks qs us) : DenK S w (k :: ks) (q :: qs) (u :: us)

/-- A map's entries. -/
inductive EntsOK (S : Nat → Prop) (w : World) (kk : MK) (ag : Bool) (vk : List K) : List (Value × List Q) → List MapEntry → Prop
  | nil : EntsOK S w kk ag vk [] []
  | cons (key : Value) (qs : List Q) (us : List Value) (born : Nat) (es : List (Value × List Q)) (arr : List MapEntry) (hf : kk.fit key = true) (hd : DenK S w vk qs us) (h : EntsOK S w kk ag vk es arr) :
      EntsOK S w kk ag vk ((key, qs) :: es) ({ key, val := valOf ag us, born } :: arr)

/-- The block that a resource takes. -/
def uses (θ : Th) (n : Nat) : Ob → Nat → Prop
  | .map .., b => b = (θ n).blk
  | .cells .., b => b = (θ n).blk
  | .vec .., b => b = (θ n).blk ∧ (θ n).sl ≠ .slice none 0 0
  | .yl .., _ => False
  | .dfr, b => b ∈ (θ n).bs
  | .deads, b => b ∈ (θ n).bs
  | .raw _, b => b = (θ n).blk
  | .siter .., b => b = (θ n).blk
  | .dead, b => b = (θ n).blk
  | .held _, _ => False
  | .gone, _ => False

def Holds (S L : Nat → Prop) (θ : Th) (w : World) (n : Nat) : Ob → Prop
  | .map kk ag vk es => ∃ (arr : List MapEntry) (clk : Nat), w.heap[(θ n).blk]? = some (.map arr.toArray clk) ∧ EntsOK S w kk ag vk es arr
  | .cells t cs => ∃ vs : List Value, w.heap[(θ n).blk]? = some (.cells vs.toArray t (0, 0)) ∧ DenL S L θ w cs vs
  | .vec t ks len get => ((θ n).sl = .slice none 0 0 ∧ len = 0) ∨
      ∃ (vs : List Value) (cap : Nat), (θ n).sl = .slice (some ⟨(θ n).blk, 0, none⟩) len cap ∧ w.heap[(θ n).blk]? = some (.cells vs.toArray t (0, 0)) ∧
        vs.length = cap * ks.length ∧ (len ≤ cap ∧ cap ≤ 9223372036854775807) ∧ 0 < ks.length ∧
        (∀ i j k, i < len → ks[j]? = some k → KOk k (get i j) ∧ ∃ u, vs[i * ks.length + j]? = some u ∧ DenQ S w (get i j) u)
  | .yl .. => True
  | .dfr => (θ n).bs.Nodup ∧ ∀ b ∈ (θ n).bs, w.heap[b]? = some (.deferred (some []))
  | .deads => True
  | .raw x => w.heap[(θ n).blk]? = some x
  | .siter b pos => w.heap[(θ n).blk]? = some (.stringIter b pos)
  | .dead => True
  | .gone => True
  | .held tm => ∃ us : List Value, (θ n).sl = .tuple us.toArray ∧ DenL S L θ w tm us

def Liv (lo : List (Option Ob)) (n : Nat) : Prop := ∃ o, lo[n]? = some (some o)

/-- Blocks that lie as they are: there, neither the ambient callers' own, nor owned here. -/
def Stab (Am : Nat → Prop) (lo : List (Option Ob)) (θ : Th) (w : World) (b : Nat) : Prop :=
  b < w.heap.size ∧ ¬ Am b ∧ ∀ n o, lo[n]? = some (some o) → ¬ uses θ n o b

/-- The package variables that every call finds as they were laid: block, place, what it holds. -/
class GW where
  gl : List (Nat × Nat × Value)

/-- Addresses that the world's making has chosen: where the variables' errors lie. -/
class EA where
  ea : Nat → Addr
  ml : Int := 0

/-- What is laid at a block: a cell's value; a whole block's cells (a tuple, which no cell holds); that nothing there is frozen (a struct, which no cell holds). -/
def laidAt (w : World) (b off : Nat) : Value → Prop
  | .tuple cs => ∃ t fz, w.heap[b]? = some (.cells cs t fz)
  | .agg _ => ∃ cs t, w.heap[b]? = some (.cells cs t (0, 0))
  | v => w.cell? ⟨b, off, none⟩ = some v
def isTup : Value → Bool
  | .tuple _ => true
  | .agg _ => true
  | _ => false
theorem laidAt_cell {w : World} {b off : Nat} {v : Value} (h : laidAt w b off v) (ht : isTup v = false) : w.cell? ⟨b, off, none⟩ = some v := by
  cases v <;> first | exact h | cases ht
theorem laidAt_lt {w : World} {b off : Nat} {v : Value} (h : laidAt w b off v) : b < w.heap.size := by
  rcases Nat.lt_or_ge b w.heap.size with hl | hl
  · exact hl
  · cases v <;> simp [laidAt, World.cell?, Array.getElem?_eq_none hl] at h
theorem laidAt_same {w w' : World} {b off : Nat} {v : Value} (hb : w'.heap[b]? = w.heap[b]?) (h : laidAt w b off v) : laidAt w' b off v := by
  cases v <;> simp only [laidAt, World.cell?, hb] at h ⊢ <;> exact h
def GLw [GW] (w : World) : Prop := ∀ x ∈ GW.gl, laidAt w x.1 x.2.1 x.2.2

theorem GLw.lt [GW] {w : World} (h : GLw w) : ∀ x ∈ GW.gl, x.1 < w.heap.size := fun x hx => laidAt_lt (h x hx)

/-- What has become of the world since the activation began: nothing but what is its own (Mi) has turned. -/
structure Fr [GW] (Mi : Nat → Prop) (w0 w : World) : Prop where
  os : w.os = w0.os
  tape : w.tape = w0.tape
  output : w.output = w0.output
  size : w0.heap.size ≤ w.heap.size
  block : ∀ b, b < w0.heap.size → ¬ Mi b → w.heap[b]? = w0.heap[b]?
  gl : (∀ x ∈ GW.gl, ¬ Mi x.1) ∧ GLw w0

theorem Fr.refl [GW] (Mi : Nat → Prop) (w : World) (hg : (∀ x ∈ GW.gl, ¬ Mi x.1) ∧ GLw w) : Fr Mi w w := ⟨rfl, rfl, rfl, Nat.le_refl _, fun _ _ _ => rfl, hg⟩

theorem Fr.glw [GW] {Mi : Nat → Prop} {w0 w : World} (h : Fr Mi w0 w) : GLw w := fun x hx => by
  have h1 := h.gl.2 x hx
  exact laidAt_same (h.block x.1 (h.gl.2.lt x hx) (h.gl.1 x hx)) h1

/-- A round's frame, or a function's own: no fence else. -/
abbrev FW (r : Option Nat) : Fence := { fn := fun _ => True, depth := none, alive := false, round := r }

/-- What a round may have turned: blocks of F, and new ones. -/
structure After (F F' : Nat → Prop) (w w' : World) : Prop where
  os : w'.os = w.os
  tape : w'.tape = w.tape
  output : w'.output = w.output
  size : w.heap.size ≤ w'.heap.size
  block : ∀ b, b < w.heap.size → ¬ F b → w'.heap[b]? = w.heap[b]?
  up : ∀ b, F b → F' b
  new : ∀ b, F' b → (F b ∨ w.heap.size ≤ b) ∧ b < w'.heap.size

/-- What goes on beside the activation. h: what it has yielded so far; O: the blocks that it owns; F: blocks that are not its own to look at. It holds on as long as nothing turns but O and what is new. To yield leads on to the next history. -/
structure Jt [GW] (P : Program) where
  J : List (List V) → (Nat → Prop) → (Nat → Prop) → World → Prop
  closed : ∀ (h : List (List V)) (O O' F : Nat → Prop) (w w' : World), J h O F w → w'.os = w.os → w'.tape = w.tape → w'.output = w.output → w.heap.size ≤ w'.heap.size →
    (∀ b, b < w.heap.size → ¬ O b → w'.heap[b]? = w.heap[b]?) → (∀ b, O' b → (O b ∨ w.heap.size ≤ b) ∧ b < w'.heap.size) → J h O' F w'
  r : Option Nat
  F0 : Nat → Prop
  hN : Nat
  th : Th
  ok : Nat → (List (List V) → Bool) → (List (List V) → List V → Bool) → Prop
  yok : ∀ l go adm, ok l go adm → ∀ (h : List (List V)) (O F : Nat → Prop) (w : World) (args : List V) (vals : List Value), J h O F w → GLw w → adm h args = true → (∀ b, O b → b < w.heap.size ∧ ¬ F b) → (∀ b, F b → b < w.heap.size) →
    DenL (fun b => b < w.heap.size ∧ ¬ F b ∧ ¬ O b) (fun _ => False) th0 w args vals →
    ∃ fn tmps assign body, (Instr.yield l vals.toArray).run P w = .ok (.round l fn tmps assign body) w ∧
      RoundIn (FW none) 0 P l fn tmps assign body w (fun e w' => e = .returned (.bool (go (h ++ [args]))) ∧ ∃ F', After F F' w w' ∧ J (h ++ [args]) O F' w')

def Jt.none [GW] (P : Program) : Jt P := ⟨fun _ _ _ _ => True, fun _ _ _ _ _ _ _ _ _ _ _ _ _ => trivial, Option.none, fun _ => False, 0, th0, fun _ _ _ => False, fun _ _ _ h => h.elim⟩

def Own (lo : List (Option Ob)) (θ : Th) (b : Nat) : Prop := ∃ n o, lo[n]? = some (some o) ∧ uses θ n o b

def hasYl (lo : List (Option Ob)) : Prop := ∃ (n : Nat) (go : List (List V) → Bool) (adm : List (List V) → List V → Bool), lo[n]? = some (some (Ob.yl go adm))

/-- What goes on beside: F is what a yield may turn; what is owned here, and what is looked at by none (Am) but is not F's, may turn without a yield. -/
def Amb [GW] {P : Program} (J : Jt P) (ys : List (List V)) (lo : List (Option Ob)) (θ : Th) (Am Mi : Nat → Prop) (w0 w : World) : Prop :=
  ∃ F : Nat → Prop, ((∀ b, F b → Am b) ∧ ∀ b, J.F0 b → F b) ∧ J.J ys (fun b => ¬ F b ∧ (Own lo θ b ∨ Am b)) F w ∧ (∀ b, b < w0.heap.size → F b → Mi b)

theorem Amb.step [GW] {P : Program} {J : Jt P} {ys : List (List V)} {lo lo' : List (Option Ob)} {θ θ' : Th} {Am Mi : Nat → Prop} {w0 w w' : World} (h : Amb J ys lo θ Am Mi w0 w)
    (hos : w'.os = w.os) (htp : w'.tape = w.tape) (hout : w'.output = w.output) (hsz : w.heap.size ≤ w'.heap.size) (hb : ∀ b, b < w.heap.size → ¬ Own lo θ b → w'.heap[b]? = w.heap[b]?)
    (ho : ∀ b, Own lo' θ' b → (Own lo θ b ∨ w.heap.size ≤ b) ∧ b < w'.heap.size) (ham : ∀ b, Am b → b < w.heap.size) (hna : ∀ b, Own lo θ b → ¬ Am b) : Amb J ys lo' θ' Am Mi w0 w' := by
  obtain ⟨F, h1, h2, h3⟩ := h
  refine ⟨F, h1, J.closed _ _ _ _ _ _ h2 hos htp hout hsz (fun b hlt hn => hb b hlt fun hown => hn ⟨fun hf => hna b hown (h1.1 b hf), .inl hown⟩) (fun b ⟨hnf, hh⟩ => ?_), h3⟩
  rcases hh with hh | hh
  · obtain ⟨h4, h5⟩ := ho b hh
    exact ⟨h4.imp (fun h6 => ⟨hnf, .inl h6⟩) id, h5⟩
  · exact ⟨.inl ⟨hnf, .inr hh⟩, Nat.lt_of_lt_of_le (ham b hh) hsz⟩

/-- A name that may be given. -/
def Fresh (s : St) (nm : Nat) : Prop := s.base ≤ nm ∧ ∀ o, s.lo[nm]? ≠ some (some o)

/-- The state s stands for the activation a in the world w. -/
structure Rep [GW] {P : Program} (J : Jt P) (Am Mi : Nat → Prop) (w0 : World) (s : St) (θ : Th) (a : Act) (w : World) : Prop where
  size : a.tmps.size = s.tm.length
  tm : ∀ (i : Nat) (v : V), s.tm[i]? = some v → ∃ u, a.tmps[i]? = some u ∧ Den (Stab Am s.lo θ w) (Liv s.lo) θ w v u
  lo : ∀ (n : Nat) (o : Ob), s.lo[n]? = some (some o) → Holds (Stab Am s.lo θ w) (Liv s.lo) θ w n o
  lt : ∀ (n : Nat) (o : Ob) (b : Nat), s.lo[n]? = some (some o) → uses θ n o b → b < w.heap.size ∧ Mi b ∧ ¬ Am b
  inj : ∀ (n m : Nat) (o o' : Ob) (b : Nat), s.lo[n]? = some (some o) → s.lo[m]? = some (some o') → n ≠ m → uses θ n o b → ¬ uses θ m o' b
  mine : ∀ b, w0.heap.size ≤ b → Mi b
  fr : Fr Mi w0 w
  am : ∀ b, Am b → b < w.heap.size
  jj : Amb J s.ys s.lo θ Am Mi w0 w
  yy : ∀ n go adm, s.lo[n]? = some (some (.yl go adm)) → J.ok (θ n).blk go adm
  ga : ∀ x ∈ GW.gl, ¬ Am x.1
  rr : s.inr = J.r.isSome ∧ ∀ l, J.r = some l → ∃ n x, s.lo[n]? = some (some (.raw (.loop x))) ∧ (θ n).blk = l
  tt : J.hN = s.base ∧ s.base ≤ s.lo.length ∧ ∀ n, n < s.base → θ n = J.th n
  df : a.defers = s.df.flatMap (Df.den θ)
  dfl : ∀ d ∈ s.df, ∀ n ∈ d.names, Liv s.lo n

/-! ### What carries a denotation on -/

theorem DenQ.mono {S S' : Nat → Prop} {w w' : World} (hS : ∀ b, S b → S' b) (hw : ∀ b, S b → w'.heap[b]? = w.heap[b]?) {x : Q} {v : Value} (h : DenQ S w x v) : DenQ S' w' x v := by
  have hcell : ∀ b off, S b → w'.cell? ⟨b, off, none⟩ = w.cell? ⟨b, off, none⟩ := fun b off hb => by simp only [World.cell?, hw b hb]
  induction h with
  | c x => exact .c x
  | nil ks len get h => exact .nil ks len get h
  | lst ks len get b off cap u hb hcap hc hk _ ih =>
    exact .lst ks len get b off cap u (hS b hb) hcap (fun i j hi hj => (hcell b _ hb).trans (hc i j hi hj)) hk ih
  | sp k get b off u hb hc _ ih => exact .sp k get b off u (hS b hb) (fun j hj => (hcell b _ hb).trans (hc j hj)) ih
  | mp kk ag vk es b arr clk u hb hm hl hf hk _ ih => exact .mp kk ag vk es b arr clk u (hS b hb) ((hw b hb).trans hm) hl hf hk ih
  | clo f caps u _ ih => exact .clo f caps u ih
  | nn t v => exact .nn t v

mutual
theorem Den.monoG {S S' L L' : Nat → Prop} {θ θ' : Th} {w w' : World} (hS : ∀ b, S b → S' b) (hw : ∀ b, S b → w'.heap[b]? = w.heap[b]?) (hL : ∀ n, L n → L' n) (hθ : ∀ n, L n → (θ' n).blk = (θ n).blk ∧ (θ' n).sl = (θ n).sl) {x : V} {v : Value} : Den S L θ w x v → Den S' L' θ' w' x v
  | .any v => .any v
  | .q x v h => .q x v (h.mono hS hw)
  | .ptr n off h => by rw [← (hθ n h).1]; exact .ptr n off (hL n h)
  | .ep n sz i j h => by rw [← (hθ n h).1]; exact .ep n sz i j (hL n h)
  | .kb b => .kb b
  | .lc ks len get cap a n h => .lc ks len get cap a n (h.mono hS hw)
  | .own n a len cap h e => .own n a len cap (hL n h) (by rw [(hθ n h).2]; exact e)
  | .mp n h => by rw [← (hθ n h).1]; exact .mp n (hL n h)
  | .yld n h => by rw [← (hθ n h).1]; exact .yld n (hL n h)
  | .clo f caps vs h => .clo f caps vs (DenL.monoG hS hw hL hθ h)
  | .agg l vs h => .agg l vs (DenL.monoG hS hw hL hθ h)
  | .tup l vs h => .tup l vs (DenL.monoG hS hw hL hθ h)
theorem DenL.monoG {S S' L L' : Nat → Prop} {θ θ' : Th} {w w' : World} (hS : ∀ b, S b → S' b) (hw : ∀ b, S b → w'.heap[b]? = w.heap[b]?) (hL : ∀ n, L n → L' n) (hθ : ∀ n, L n → (θ' n).blk = (θ n).blk ∧ (θ' n).sl = (θ n).sl) {x : List V} {v : List Value} : DenL S L θ w x v → DenL S' L' θ' w' x v
  | .nil => .nil
  | .cons x v l vs h hl => .cons x v l vs (Den.monoG hS hw hL hθ h) (DenL.monoG hS hw hL hθ hl)
end

theorem Den.mono {S S' L L' : Nat → Prop} {θ θ' : Th} {w w' : World} (hS : ∀ b, S b → S' b) (hw : ∀ b, S b → w'.heap[b]? = w.heap[b]?) (hL : ∀ n, L n → L' n) (hθ : ∀ n, L n → θ' n = θ n) {x : V} {v : Value} (h : Den S L θ w x v) : Den S' L' θ' w' x v :=
  h.monoG hS hw hL fun n hn => by rw [hθ n hn]; exact ⟨rfl, rfl⟩
theorem DenL.mono {S S' L L' : Nat → Prop} {θ θ' : Th} {w w' : World} (hS : ∀ b, S b → S' b) (hw : ∀ b, S b → w'.heap[b]? = w.heap[b]?) (hL : ∀ n, L n → L' n) (hθ : ∀ n, L n → θ' n = θ n) {x : List V} {v : List Value} (h : DenL S L θ w x v) : DenL S' L' θ' w' x v :=
  h.monoG hS hw hL fun n hn => by rw [hθ n hn]; exact ⟨rfl, rfl⟩

theorem DenK.mono {S S' : Nat → Prop} {w w' : World} (hS : ∀ b, S b → S' b) (hw : ∀ b, S b → w'.heap[b]? = w.heap[b]?) {ks : List K} {qs : List Q} {us : List Value} (h : DenK S w ks qs us) : DenK S' w' ks qs us := by
  induction h with
  | nil => exact .nil
  | cons k q u ks qs us hk hd _ ih => exact .cons _ _ _ _ _ _ hk (hd.mono hS hw) ih

theorem EntsOK.mono {S S' : Nat → Prop} {w w' : World} (hS : ∀ b, S b → S' b) (hw : ∀ b, S b → w'.heap[b]? = w.heap[b]?) {kk : MK} {ag : Bool} {vk : List K} {es : List (Value × List Q)} {arr : List MapEntry} (h : EntsOK S w kk ag vk es arr) : EntsOK S' w' kk ag vk es arr := by
  induction h with
  | nil => exact .nil
  | cons key qs us born es arr hf hd _ ih => exact .cons _ _ _ _ _ _ hf (hd.mono hS hw) ih

theorem uses_congr {θ θ' : Th} {n : Nat} (h : θ' n = θ n) (o : Ob) (b : Nat) : uses θ' n o b ↔ uses θ n o b := by
  cases o <;> simp [uses, h]

theorem Holds.monoG {S S' L L' : Nat → Prop} {θ θ' : Th} {w w' : World} {n : Nat} {o : Ob} (hS : ∀ b, S b → S' b) (hw : ∀ b, S b → w'.heap[b]? = w.heap[b]?) (hL : ∀ n, L n → L' n) (hθ : ∀ n, L n → (θ' n).blk = (θ n).blk ∧ (θ' n).sl = (θ n).sl)
    (hn : θ' n = θ n) (hu : ∀ b, uses θ n o b → w'.heap[b]? = w.heap[b]?) (h : Holds S L θ w n o) : Holds S' L' θ' w' n o := by
  cases o with
  | map kk ag vk es =>
    obtain ⟨arr, clk, h1, h2⟩ := h
    exact ⟨arr, clk, by rw [hn, hu _ rfl]; exact h1, h2.mono hS hw⟩
  | cells t cs =>
    obtain ⟨vs, h1, h2⟩ := h
    exact ⟨vs, by rw [hn, hu _ rfl]; exact h1, h2.monoG hS hw hL hθ⟩
  | vec t ks len get =>
    rcases h with ⟨h1, h2⟩ | ⟨vs, cap, h1, h2, h3, h4, h5, h6⟩
    · exact .inl ⟨by rw [hn]; exact h1, h2⟩
    · refine .inr ⟨vs, cap, by rw [hn]; exact h1, ?_, h3, h4, h5, fun i j k hi hk => ?_⟩
      · rw [hn, hu (θ n).blk ⟨rfl, by rw [h1]; simp⟩]; exact h2
      · obtain ⟨a, u, b, c⟩ := h6 i j k hi hk
        exact ⟨a, u, b, c.mono hS hw⟩
  | yl go adm => trivial
  | dfr => exact ⟨by rw [hn]; exact h.1, fun b hb => by rw [hn] at hb; rw [hu b hb]; exact h.2 b hb⟩
  | deads => trivial
  | raw x => show _ = _; rw [hn, hu _ rfl]; exact h
  | siter b pos => show _ = _; rw [hn, hu _ rfl]; exact h
  | dead => trivial
  | gone => trivial
  | held tm =>
    obtain ⟨us, h1, h2⟩ := h
    exact ⟨us, by rw [hn]; exact h1, h2.monoG hS hw hL hθ⟩

theorem Holds.mono {S S' L L' : Nat → Prop} {θ θ' : Th} {w w' : World} {n : Nat} {o : Ob} (hS : ∀ b, S b → S' b) (hw : ∀ b, S b → w'.heap[b]? = w.heap[b]?) (hL : ∀ n, L n → L' n) (hθ : ∀ n, L n → θ' n = θ n)
    (hn : L n) (hu : ∀ b, uses θ n o b → w'.heap[b]? = w.heap[b]?) (h : Holds S L θ w n o) : Holds S' L' θ' w' n o :=
  h.monoG hS hw hL (fun n hn => by rw [hθ n hn]; exact ⟨rfl, rfl⟩) (hθ n hn) hu

theorem DenL.length {S L : Nat → Prop} {θ : Th} {w : World} : ∀ {l : List V} {vs : List Value}, DenL S L θ w l vs → l.length = vs.length
  | _, _, .nil => rfl
  | _, _, .cons _ _ _ _ _ h => by simp [h.length]

theorem DenL.get {S L : Nat → Prop} {θ : Th} {w : World} : ∀ {l : List V} {vs : List Value}, DenL S L θ w l vs → ∀ (i : Nat) (x : V), l[i]? = some x → ∃ u, vs[i]? = some u ∧ Den S L θ w x u
  | _, _, .nil, _, _, h => by simp at h
  | _, _, .cons x v l vs h hl, 0, y, e => ⟨v, rfl, by simp at e; exact e ▸ h⟩
  | _, _, .cons x v l vs h hl, i + 1, y, e => hl.get i y (by simpa using e)

theorem DenL.append {S L : Nat → Prop} {θ : Th} {w : World} {l l' : List V} {vs vs' : List Value} (h : DenL S L θ w l vs) (h' : DenL S L θ w l' vs') : DenL S L θ w (l ++ l') (vs ++ vs') := by
  induction l generalizing vs with
  | nil => cases h; exact h'
  | cons x l ih => cases h with | cons x v l vs h hl => exact .cons _ _ _ _ h (ih hl)

theorem DenL.drop {S L : Nat → Prop} {θ : Th} {w : World} {l : List V} {vs : List Value} (h : DenL S L θ w l vs) (k : Nat) : DenL S L θ w (l.drop k) (vs.drop k) := by
  induction k generalizing l vs with
  | zero => simpa using h
  | succ k ih => cases h with
    | nil => exact .nil
    | cons x v l vs h hl => simpa using ih hl

theorem DenL.take {S L : Nat → Prop} {θ : Th} {w : World} {l : List V} {vs : List Value} (h : DenL S L θ w l vs) (k : Nat) : DenL S L θ w (l.take k) (vs.take k) := by
  induction k generalizing l vs with
  | zero => exact .nil
  | succ k ih => cases h with
    | nil => exact .nil
    | cons x v l vs h hl => exact .cons _ _ _ _ h (ih hl)

theorem DenQ.lst_inv {S : Nat → Prop} {w : World} {ks : List K} {len : Nat} {get : Nat → Nat → Q} {v : Value} (h : DenQ S w (.lst ks len get) v) :
    (v = .slice none 0 0 ∧ len = 0) ∨ ∃ (b off cap : Nat) (u : Nat → Nat → Value), v = .slice (some ⟨b, off, none⟩) len cap ∧ S b ∧ (len ≤ cap ∧ len ≤ 9223372036854775807) ∧
      (∀ i j, i < len → j < ks.length → w.cell? ⟨b, off + i * ks.length + j, none⟩ = some (u i j)) ∧
      (∀ i j k, i < len → ks[j]? = some k → KOk k (get i j)) ∧
      (∀ i j, i < len → j < ks.length → DenQ S w (get i j) (u i j)) := by
  cases h with
  | nil _ _ _ h => exact .inl ⟨rfl, h⟩
  | lst _ _ _ b off cap u hS hcap hc hk hd => exact .inr ⟨b, off, cap, u, rfl, hS, hcap, hc, hk, hd⟩

theorem DenQ.sp_inv {S : Nat → Prop} {w : World} {k : Nat} {get : Nat → Q} {v : Value} (h : DenQ S w (.sp k get) v) :
    ∃ (b off : Nat) (u : Nat → Value), v = .pointer (some ⟨b, off, none⟩) ∧ S b ∧ (∀ j, j < k → w.cell? ⟨b, off + j, none⟩ = some (u j)) ∧ (∀ j, j < k → DenQ S w (get j) (u j)) := by
  cases h with
  | sp _ _ b off u hS hc hd => exact ⟨b, off, u, rfl, hS, hc, hd⟩

theorem DenQ.clo_inv {S : Nat → Prop} {w : World} {f : Nat} {caps : List Q} {v : Value} (h : DenQ S w (.clo f caps) v) :
    ∃ u : Nat → Value, v = .func (.func f) #[] ((List.range caps.length).map u).toArray ∧ ∀ (j : Nat) (q : Q), caps[j]? = some q → DenQ S w q (u j) := by
  cases h with
  | clo _ _ u hd => exact ⟨u, rfl, hd⟩

theorem Den.q_inv {S L : Nat → Prop} {θ : Th} {w : World} {x : Q} {v : Value} (h : Den S L θ w (.q x) v) : DenQ S w x v := by
  cases h with
  | q _ _ h => exact h

theorem Den.ptr_inv {S L : Nat → Prop} {θ : Th} {w : World} {n off : Nat} {v : Value} (h : Den S L θ w (.ptr n off) v) : v = .pointer (some ⟨(θ n).blk, off, none⟩) ∧ L n := by
  cases h with
  | ptr _ _ h => exact ⟨rfl, h⟩

theorem Den.ep_inv {S L : Nat → Prop} {θ : Th} {w : World} {n sz i j : Nat} {v : Value} (h : Den S L θ w (.ep n sz i j) v) : v = .pointer (some ⟨(θ n).blk, i * sz + j, none⟩) ∧ L n := by
  cases h with
  | ep _ _ _ _ h => exact ⟨rfl, h⟩

theorem Den.own_inv {S L : Nat → Prop} {θ : Th} {w : World} {n : Nat} {v : Value} (h : Den S L θ w (.own n) v) : (∃ a len cap, v = .slice a len cap) ∧ v = (θ n).sl ∧ L n := by
  cases h with
  | own _ a len cap h e => exact ⟨⟨_, _, _, rfl⟩, e.symm, h⟩

theorem Den.lc_inv {S L : Nat → Prop} {θ : Th} {w : World} {ks : List K} {len : Nat} {get : Nat → Nat → Q} {cap : Nat} {v : Value} (h : Den S L θ w (.lc ks len get cap) v) : ∃ a n, v = .slice a n cap ∧ DenQ S w (.lst ks len get) v := by
  cases h with
  | lc _ _ _ _ a n h => exact ⟨a, n, rfl, h⟩

/-- A list whose capacity is known, as one of which it is not. -/
def V.unlc : V → V
  | .lc ks len get _ => .q (.lst ks len get)
  | v => v

theorem Den.unlc {S L : Nat → Prop} {θ : Th} {w : World} {x : V} {v : Value} (h : Den S L θ w x v) : Den S L θ w x.unlc v := by
  cases x with
  | lc ks len get cap =>
    obtain ⟨a, n, rfl, hq⟩ := h.lc_inv
    exact .q _ _ hq
  | _ => exact h

theorem Den.yld_inv {S L : Nat → Prop} {θ : Th} {w : World} {n : Nat} {v : Value} (h : Den S L θ w (.yld n) v) : v = .func (.yield (θ n).blk) #[] #[] ∧ L n := by
  cases h with
  | yld _ h => exact ⟨rfl, h⟩

/-- Lists are no longer than an int tells. -/
def QB : Q → Prop
  | .c _ => True
  | .lst ks n g => n ≤ 9223372036854775807 ∧ ∀ i j, i < n → j < ks.length → QB (g i j)
  | .sp k g => ∀ j, j < k → QB (g j)
  | .mp .. => True
  | .clo .. => True
  | .nn => True

theorem DenQ.qb {S : Nat → Prop} {w : World} {q : Q} {v : Value} (h : DenQ S w q v) : QB q := by
  induction h with
  | c x => trivial
  | nil ks len get h => subst h; exact ⟨Nat.zero_le _, fun i j hi => absurd hi (Nat.not_lt_zero _)⟩
  | lst ks len get b off cap u hb hcap hc hk _ ih => exact ⟨hcap.2, ih⟩
  | sp k get b off u hb hc _ ih => exact ih
  | mp => trivial
  | clo => trivial
  | nn => trivial

def VB : V → Prop
  | .q x => QB x
  | .agg l => ∀ x ∈ l, match x with
    | .q q => QB q
    | _ => True
  | _ => True

theorem DenL.mem {S L : Nat → Prop} {θ : Th} {w : World} : ∀ {l : List V} {vs : List Value}, DenL S L θ w l vs → ∀ x ∈ l, ∃ v, Den S L θ w x v
  | _, _, .nil, _, h => by cases h
  | _, _, .cons x v l vs h hl, y, hy => by
    cases hy with
    | head => exact ⟨v, h⟩
    | tail _ hm => exact hl.mem y hm

theorem Den.vb {S L : Nat → Prop} {θ : Th} {w : World} {x : V} {v : Value} (h : Den S L θ w x v) : VB x := by
  cases h with
  | q x v h => exact h.qb
  | agg l vs h =>
    intro x hx
    obtain ⟨v, hv⟩ := h.mem x hx
    cases x with
    | q q => exact hv.q_inv.qb
    | _ => trivial
  | _ => trivial

/-! ### cells by their kinds -/
def qInt : Q → Int
  | .c (.int _ n) => n
  | _ => 0
def qBool : Q → Bool
  | .c (.bool b) => b
  | _ => false
def qStr : Q → ByteArray
  | .c (.string b) => b
  | _ => ⟨#[]⟩
def qLen : Q → Nat
  | .lst _ n _ => n
  | _ => 0
def qGet : Q → Nat → Nat → Q
  | .lst _ _ g => g
  | _ => fun _ _ => default
/-- A cell of that kind, in that kind's form. -/
def nrm : K → Q → Q
  | .int k, q => .c (.int k (qInt q))
  | .bool, q => .c (.bool (qBool q))
  | .str, q => .c (.string (qStr q))
  | .lst ks, q => .lst ks (qLen q) (qGet q)
  | .any, q => q
theorem nrm_eq {k : K} {q : Q} (h : KOk k q) : nrm k q = q := by cases h <;> rfl
abbrev nrmG (ks : List K) (g : Nat → Q) (j : Nat) : Q := nrm (ks.getD j .any) (g j)
theorem DenQ.nrmG {S : Nat → Prop} {w : World} {ks : List K} {g : Nat → Q} {j : Nat} {u : Value} (h : DenQ S w (g j) u) (hj : j < ks.length) (hk : ∀ k, ks[j]? = some k → KOk k (g j)) : DenQ S w (SX.nrmG ks g j) u := by
  have e : ks.getD j .any = ks[j] := by simp [List.getD_eq_getElem?_getD, hj]
  show DenQ S w (nrm (ks.getD j .any) (g j)) u
  rw [e, nrm_eq (hk _ (List.getElem?_eq_getElem hj))]
  exact h

end Go.SX
