/- What the laws' proofs lean on, put together: part 1. -/
import Derived.Below
import Derived.OrdersIn
import Derived.TacticsIn
import Derived.RangeFuncIn
import Derived.Test.YthmlbmambcigcaaGreatDoorProg
import Derived.Laws.StructEq
import Derived.Laws.CopyRow
import Derived.Laws.Rows
import Derived.WideKeyRuns
import Derived.Great.FillDense
import Derived.ArgAppend
import Derived.Laws.AppendOwn
import Derived.RangeFuncLeaves
import Derived.RangeFuncRecord
import Derived.Laws.IdiomStrings
import Derived.Maps.AppendAt

/- A symbolic state over the model's memory: values, resources, what they denote. No program in sight. -/
namespace Go.SX
open Go.RowKit
set_option linter.unusedVariables false
set_option linter.unusedSimpArgs false
set_option linter.unusedSectionVars false

/-- Kinds of the cells of a stable element. -/
inductive K where
  | int (k : IntKind) | bool | str | any | lst (ks : List K)
  deriving Inhabited

/-- The kind of a map's keys. -/
inductive MK where
  | one (k : K)
  | many (ks : List K)
  deriving Inhabited

def K.fit : K → Value → Bool
  | .int k, .int k' _ => decide (k = k')
  | .bool, .bool _ => true
  | .str, .string _ => true
  | _, _ => false

def K.fitL : List K → List Value → Bool
  | [], [] => true
  | k :: ks, v :: vs => k.fit v && K.fitL ks vs
  | _, _ => false

def MK.fit : MK → Value → Bool
  | .one k, v => k.fit v
  | .many ks, .agg cs => K.fitL ks cs.toList
  | _, _ => false

/-- A map's value, of its cells. -/
def valOf (ag : Bool) (us : List Value) : Value := if ag then .agg us.toArray else us.headD undef

/-- Stable values: they name nothing that the activation owns. -/
inductive Q where
  | c (x : Value)
  | lst (ks : List K) (len : Nat) (get : Nat → Nat → Q)
  | sp (k : Nat) (get : Nat → Q)
  | mp (kk : MK) (ag : Bool) (vk : List K) (es : List (Value × List Q))

instance : Inhabited Q := ⟨.c (.tuple #[])⟩

inductive V where
  | q (x : Q)
  | ptr (n off : Nat)
  | ep (n sz i j : Nat)
  | own (n : Nat)
  | mp (n : Nat)
  | yld (n : Nat)
  | clo (f : Nat) (caps : List V)
  | agg (l : List V)
  | tup (l : List V)
  | kb (b : Bool)
  | lc (ks : List K) (len : Nat) (get : Nat → Nat → Q) (cap : Nat)
  | any

instance : Inhabited V := ⟨.any⟩

abbrev V.int (k : IntKind) (n : Int) : V := .q (.c (.int k n))
abbrev V.i (n : Int) : V := .q (.c (.int .i64 n))
abbrev V.b (x : Bool) : V := .q (.c (.bool x))
abbrev V.s (x : ByteArray) : V := .q (.c (.string x))

/-- A cell of that kind. -/
inductive KOk : K → Q → Prop
  | int (k : IntKind) (n : Int) : KOk (.int k) (.c (.int k n))
  | bool (b : Bool) : KOk .bool (.c (.bool b))
  | str (s : ByteArray) : KOk .str (.c (.string s))
  | any (q : Q) : KOk .any q
  | lst (ks : List K) (len : Nat) (get : Nat → Nat → Q) : KOk (.lst ks) (.lst ks len get)

/-- What a stable value denotes: S says which blocks are stable. -/
inductive DenQ (S : Nat → Prop) (w : World) : Q → Value → Prop
  | c (x : Value) : DenQ S w (.c x) x
  | nil (ks : List K) (len : Nat) (get : Nat → Nat → Q) (h : len = 0) : DenQ S w (.lst ks len get) (.slice none 0 0)
  | lst (ks : List K) (len : Nat) (get : Nat → Nat → Q) (b off cap : Nat) (u : Nat → Nat → Value) (hS : S b) (hcap : len ≤ cap ∧ len ≤ 9223372036854775807)
      (hc : ∀ i j, i < len → j < ks.length → w.cell? ⟨b, off + i * ks.length + j, none⟩ = some (u i j))
      (hk : ∀ i j k, i < len → ks[j]? = some k → KOk k (get i j))
      (hd : ∀ i j, i < len → j < ks.length → DenQ S w (get i j) (u i j)) : DenQ S w (.lst ks len get) (.slice (some ⟨b, off, none⟩) len cap)
  | sp (k : Nat) (get : Nat → Q) (b off : Nat) (u : Nat → Value) (hS : S b)
      (hc : ∀ j, j < k → w.cell? ⟨b, off + j, none⟩ = some (u j))
      (hd : ∀ j, j < k → DenQ S w (get j) (u j)) : DenQ S w (.sp k get) (.pointer (some ⟨b, off, none⟩))
  | mp (kk : MK) (ag : Bool) (vk : List K) (es : List (Value × List Q)) (b : Nat) (arr : List MapEntry) (clk : Nat) (u : Nat → Nat → Value) (hS : S b)
      (hb : w.heap[b]? = some (.map arr.toArray clk)) (hl : arr.length = es.length)
      (hf : ∀ (i : Nat) (key : Value) (qs : List Q), es[i]? = some (key, qs) → kk.fit key = true ∧ qs.length = vk.length ∧ ∃ born : Nat, arr[i]? = some ({ key := key, val := valOf ag ((List.range vk.length).map (u i)), born := born } : MapEntry))
      (hk : ∀ (i : Nat) (key : Value) (qs : List Q) (j : Nat) (k : K) (q : Q), es[i]? = some (key, qs) → vk[j]? = some k → qs[j]? = some q → KOk k q)
      (hd : ∀ (i : Nat) (key : Value) (qs : List Q) (j : Nat) (q : Q), es[i]? = some (key, qs) → qs[j]? = some q → DenQ S w q (u i j)) : DenQ S w (.mp kk ag vk es) (.map (some b))

/-- The valuation of a name: its block, and (of a list that is owned) its slice value. -/
structure Nm where
  blk : Nat
  sl : Value
  bs : List Nat

abbrev Th := Nat → Nm

def th0 : Th := fun _ => ⟨0, .tuple #[], []⟩

mutual
/-- S: the stable blocks. L: the names that are alive. -/
inductive Den (S L : Nat → Prop) (θ : Th) (w : World) : V → Value → Prop
  | any (v : Value) : Den S L θ w .any v
  | q (x : Q) (v : Value) (h : DenQ S w x v) : Den S L θ w (.q x) v
  | ptr (n off : Nat) (h : L n) : Den S L θ w (.ptr n off) (.pointer (some ⟨(θ n).blk, off, none⟩))
  | ep (n sz i j : Nat) (h : L n) : Den S L θ w (.ep n sz i j) (.pointer (some ⟨(θ n).blk, i * sz + j, none⟩))
  | kb (b : Bool) : Den S L θ w (.kb b) (.bool b)
  | own (n : Nat) (a : Option Addr) (len cap : Nat) (h : L n) (e : (θ n).sl = .slice a len cap) : Den S L θ w (.own n) (.slice a len cap)
  | mp (n : Nat) (h : L n) : Den S L θ w (.mp n) (.map (some (θ n).blk))
  | lc (ks : List K) (len : Nat) (get : Nat → Nat → Q) (cap : Nat) (a : Option Addr) (n : Nat) (h : DenQ S w (.lst ks len get) (.slice a n cap)) : Den S L θ w (.lc ks len get cap) (.slice a n cap)
  | yld (n : Nat) (h : L n) : Den S L θ w (.yld n) (.func (.yield (θ n).blk) #[] #[])
  | clo (f : Nat) (caps : List V) (vs : List Value) (h : DenL S L θ w caps vs) : Den S L θ w (.clo f caps) (.func (.func f) #[] vs.toArray)
  | agg (l : List V) (vs : List Value) (h : DenL S L θ w l vs) : Den S L θ w (.agg l) (.agg vs.toArray)
  | tup (l : List V) (vs : List Value) (h : DenL S L θ w l vs) : Den S L θ w (.tup l) (.tuple vs.toArray)
inductive DenL (S L : Nat → Prop) (θ : Th) (w : World) : List V → List Value → Prop
  | nil : DenL S L θ w [] []
  | cons (x : V) (v : Value) (l : List V) (vs : List Value) (h : Den S L θ w x v) (hl : DenL S L θ w l vs) : DenL S L θ w (x :: l) (v :: vs)
end

/-- What is owned. -/
inductive Ob where
  | map (kk : MK) (ag : Bool) (vk : List K) (es : List (Value × List Q))
  | cells (t : TypeId) (cs : List V)
  | vec (t : TypeId) (ks : List K) (len : Nat) (get : Nat → Nat → Q)
  | yl (go : List (List V) → Bool) (adm : List (List V) → List V → Bool)
  | dfr
  | deads
  | raw (x : Obj)
  | siter (b : ByteArray) (pos : Nat)
  | held (tm : List V)
  | dead
  | gone
  deriving Inhabited

/-- What is to be done when the function is left: the mark of a loop's deferred calls; a closure over what is owned. -/
inductive Df where
  | mark (n : Nat)
  | clo (f : Nat) (caps : List Nat)
  deriving Inhabited

structure St where
  tm : List V
  lo : List (Option Ob)
  df : List Df := []
  inr : Bool := false
  base : Nat := 0
  ys : List (List V) := []
  deriving Inhabited

def Df.names : Df → List Nat
  | .mark n => [n]
  | .clo _ caps => caps

def Df.den (θ : Th) : Df → List Deferred
  | .mark n => (θ n).bs.map fun b => { target := .collected b, args := #[] }
  | .clo f caps => [{ target := .fn (.func f) (caps.map fun n => Value.pointer (some ⟨(θ n).blk, 0, none⟩)).toArray, args := #[] }]

theorem Df.den_congr {θ θ' : Th} : ∀ (d : Df), (∀ n ∈ d.names, θ' n = θ n) → d.den θ' = d.den θ
  | .mark n, h => by simp [Df.den, h n (by simp [Df.names])]
  | .clo f caps, h => by
    simp only [Df.den]
    congr 4
    exact List.map_congr_left fun n hn => by rw [h n (by simpa [Df.names] using hn)]

theorem flatMap_congr' {α β : Type} {f g : α → List β} : ∀ {l : List α}, (∀ x ∈ l, f x = g x) → l.flatMap f = l.flatMap g
  | [], _ => rfl
  | x :: l, h => by simp only [List.flatMap_cons, h x List.mem_cons_self, flatMap_congr' (l := l) fun y hy => h y (List.mem_cons_of_mem _ hy)]

/-- Cells of kinds. -/
inductive DenK (S : Nat → Prop) (w : World) : List K → List Q → List Value → Prop
  | nil : DenK S w [] [] []
  | cons (k : K) (q : Q) (u : Value) (ks : List K) (qs : List Q) (us : List Value) (hk : KOk k q) (hd : DenQ S w q u) (h : DenK S w ks qs us) : DenK S w (k :: ks) (q :: qs) (u :: us)

/-- A map's entries. -/
inductive EntsOK (S : Nat → Prop) (w : World) (kk : MK) (ag : Bool) (vk : List K) : List (Value × List Q) → List MapEntry → Prop
  | nil : EntsOK S w kk ag vk [] []
  | cons (key : Value) (qs : List Q) (us : List Value) (born : Nat) (es : List (Value × List Q)) (arr : List MapEntry) (hf : kk.fit key = true) (hd : DenK S w vk qs us) (h : EntsOK S w kk ag vk es arr) :
      EntsOK S w kk ag vk ((key, qs) :: es) ({ key, val := valOf ag us, born } :: arr)

/-- The block that a resource takes. -/
def uses (θ : Th) (n : Nat) : Ob → Nat → Prop
  | .map .., b => b = (θ n).blk
  | .cells .., b => b = (θ n).blk
  | .vec .., b => b = (θ n).blk ∧ (θ n).sl ≠ .slice none 0 0
  | .yl .., _ => False
  | .dfr, b => b ∈ (θ n).bs
  | .deads, b => b ∈ (θ n).bs
  | .raw _, b => b = (θ n).blk
  | .siter .., b => b = (θ n).blk
  | .dead, b => b = (θ n).blk
  | .held _, _ => False
  | .gone, _ => False

def Holds (S L : Nat → Prop) (θ : Th) (w : World) (n : Nat) : Ob → Prop
  | .map kk ag vk es => ∃ (arr : List MapEntry) (clk : Nat), w.heap[(θ n).blk]? = some (.map arr.toArray clk) ∧ EntsOK S w kk ag vk es arr
  | .cells t cs => ∃ vs : List Value, w.heap[(θ n).blk]? = some (.cells vs.toArray t (0, 0)) ∧ DenL S L θ w cs vs
  | .vec t ks len get => ((θ n).sl = .slice none 0 0 ∧ len = 0) ∨
      ∃ (vs : List Value) (cap : Nat), (θ n).sl = .slice (some ⟨(θ n).blk, 0, none⟩) len cap ∧ w.heap[(θ n).blk]? = some (.cells vs.toArray t (0, 0)) ∧
        vs.length = cap * ks.length ∧ (len ≤ cap ∧ cap ≤ 9223372036854775807) ∧ 0 < ks.length ∧
        (∀ i j k, i < len → ks[j]? = some k → KOk k (get i j) ∧ ∃ u, vs[i * ks.length + j]? = some u ∧ DenQ S w (get i j) u)
  | .yl .. => True
  | .dfr => (θ n).bs.Nodup ∧ ∀ b ∈ (θ n).bs, w.heap[b]? = some (.deferred (some []))
  | .deads => True
  | .raw x => w.heap[(θ n).blk]? = some x
  | .siter b pos => w.heap[(θ n).blk]? = some (.stringIter b pos)
  | .dead => True
  | .gone => True
  | .held tm => ∃ us : List Value, (θ n).sl = .tuple us.toArray ∧ DenL S L θ w tm us

def Liv (lo : List (Option Ob)) (n : Nat) : Prop := ∃ o, lo[n]? = some (some o)

/-- Blocks that lie as they are: there, neither the ambient callers' own, nor owned here. -/
def Stab (Am : Nat → Prop) (lo : List (Option Ob)) (θ : Th) (w : World) (b : Nat) : Prop :=
  b < w.heap.size ∧ ¬ Am b ∧ ∀ n o, lo[n]? = some (some o) → ¬ uses θ n o b

/-- The package variables that every call finds as they were laid: block, place, what it holds. -/
class GW where
  gl : List (Nat × Nat × Value)

/-- Addresses that the world's making has chosen: where the variables' errors lie. -/
class EA where
  ea : Nat → Addr

def GLw [GW] (w : World) : Prop := ∀ x ∈ GW.gl, w.cell? ⟨x.1, x.2.1, none⟩ = some x.2.2

theorem GLw.lt [GW] {w : World} (h : GLw w) : ∀ x ∈ GW.gl, x.1 < w.heap.size := fun x hx => by
  have := h x hx
  rcases Nat.lt_or_ge x.1 w.heap.size with hl | hl
  · exact hl
  · simp [World.cell?, Array.getElem?_eq_none hl] at this

/-- What has become of the world since the activation began: nothing but what is its own (Mi) has turned. -/
structure Fr [GW] (Mi : Nat → Prop) (w0 w : World) : Prop where
  os : w.os = w0.os
  tape : w.tape = w0.tape
  output : w.output = w0.output
  size : w0.heap.size ≤ w.heap.size
  block : ∀ b, b < w0.heap.size → ¬ Mi b → w.heap[b]? = w0.heap[b]?
  gl : (∀ x ∈ GW.gl, ¬ Mi x.1) ∧ GLw w0

theorem Fr.refl [GW] (Mi : Nat → Prop) (w : World) (hg : (∀ x ∈ GW.gl, ¬ Mi x.1) ∧ GLw w) : Fr Mi w w := ⟨rfl, rfl, rfl, Nat.le_refl _, fun _ _ _ => rfl, hg⟩

theorem Fr.glw [GW] {Mi : Nat → Prop} {w0 w : World} (h : Fr Mi w0 w) : GLw w := fun x hx => by
  have h1 := h.gl.2 x hx
  have h2 := h.block x.1 (h.gl.2.lt x hx) (h.gl.1 x hx)
  simp only [World.cell?] at h1 ⊢
  rw [h2]; exact h1

/-- A round's frame, or a function's own: no fence else. -/
abbrev FW (r : Option Nat) : Fence := { fn := fun _ => True, depth := none, alive := false, round := r }

/-- What a round may have turned: blocks of F, and new ones. -/
structure After (F F' : Nat → Prop) (w w' : World) : Prop where
  os : w'.os = w.os
  tape : w'.tape = w.tape
  output : w'.output = w.output
  size : w.heap.size ≤ w'.heap.size
  block : ∀ b, b < w.heap.size → ¬ F b → w'.heap[b]? = w.heap[b]?
  up : ∀ b, F b → F' b
  new : ∀ b, F' b → (F b ∨ w.heap.size ≤ b) ∧ b < w'.heap.size

/-- What goes on beside the activation. h: what it has yielded so far; O: the blocks that it owns; F: blocks that are not its own to look at. It holds on as long as nothing turns but O and what is new. To yield leads on to the next history. -/
structure Jt [GW] (P : Program) where
  J : List (List V) → (Nat → Prop) → (Nat → Prop) → World → Prop
  closed : ∀ (h : List (List V)) (O O' F : Nat → Prop) (w w' : World), J h O F w → w'.os = w.os → w'.tape = w.tape → w'.output = w.output → w.heap.size ≤ w'.heap.size →
    (∀ b, b < w.heap.size → ¬ O b → w'.heap[b]? = w.heap[b]?) → (∀ b, O' b → (O b ∨ w.heap.size ≤ b) ∧ b < w'.heap.size) → J h O' F w'
  r : Option Nat
  F0 : Nat → Prop
  hN : Nat
  th : Th
  ok : Nat → (List (List V) → Bool) → (List (List V) → List V → Bool) → Prop
  yok : ∀ l go adm, ok l go adm → ∀ (h : List (List V)) (O F : Nat → Prop) (w : World) (args : List V) (vals : List Value), J h O F w → GLw w → adm h args = true → (∀ b, O b → b < w.heap.size ∧ ¬ F b) → (∀ b, F b → b < w.heap.size) →
    DenL (fun b => b < w.heap.size ∧ ¬ F b ∧ ¬ O b) (fun _ => False) th0 w args vals →
    ∃ fn tmps assign body, (Instr.yield l vals.toArray).run P w = .ok (.round l fn tmps assign body) w ∧
      RoundIn (FW none) 0 P l fn tmps assign body w (fun e w' => e = .returned (.bool (go (h ++ [args]))) ∧ ∃ F', After F F' w w' ∧ J (h ++ [args]) O F' w')

def Jt.none [GW] (P : Program) : Jt P := ⟨fun _ _ _ _ => True, fun _ _ _ _ _ _ _ _ _ _ _ _ _ => trivial, Option.none, fun _ => False, 0, th0, fun _ _ _ => False, fun _ _ _ h => h.elim⟩

def Own (lo : List (Option Ob)) (θ : Th) (b : Nat) : Prop := ∃ n o, lo[n]? = some (some o) ∧ uses θ n o b

def hasYl (lo : List (Option Ob)) : Prop := ∃ (n : Nat) (go : List (List V) → Bool) (adm : List (List V) → List V → Bool), lo[n]? = some (some (Ob.yl go adm))

/-- What goes on beside: F is what a yield may turn; what is owned here, and what is looked at by none (Am) but is not F's, may turn without a yield. -/
def Amb [GW] {P : Program} (J : Jt P) (ys : List (List V)) (lo : List (Option Ob)) (θ : Th) (Am Mi : Nat → Prop) (w0 w : World) : Prop :=
  ∃ F : Nat → Prop, ((∀ b, F b → Am b) ∧ ∀ b, J.F0 b → F b) ∧ J.J ys (fun b => ¬ F b ∧ (Own lo θ b ∨ Am b)) F w ∧ (∀ b, b < w0.heap.size → F b → Mi b)

theorem Amb.step [GW] {P : Program} {J : Jt P} {ys : List (List V)} {lo lo' : List (Option Ob)} {θ θ' : Th} {Am Mi : Nat → Prop} {w0 w w' : World} (h : Amb J ys lo θ Am Mi w0 w)
    (hos : w'.os = w.os) (htp : w'.tape = w.tape) (hout : w'.output = w.output) (hsz : w.heap.size ≤ w'.heap.size) (hb : ∀ b, b < w.heap.size → ¬ Own lo θ b → w'.heap[b]? = w.heap[b]?)
    (ho : ∀ b, Own lo' θ' b → (Own lo θ b ∨ w.heap.size ≤ b) ∧ b < w'.heap.size) (ham : ∀ b, Am b → b < w.heap.size) (hna : ∀ b, Own lo θ b → ¬ Am b) : Amb J ys lo' θ' Am Mi w0 w' := by
  obtain ⟨F, h1, h2, h3⟩ := h
  refine ⟨F, h1, J.closed _ _ _ _ _ _ h2 hos htp hout hsz (fun b hlt hn => hb b hlt fun hown => hn ⟨fun hf => hna b hown (h1.1 b hf), .inl hown⟩) (fun b ⟨hnf, hh⟩ => ?_), h3⟩
  rcases hh with hh | hh
  · obtain ⟨h4, h5⟩ := ho b hh
    exact ⟨h4.imp (fun h6 => ⟨hnf, .inl h6⟩) id, h5⟩
  · exact ⟨.inl ⟨hnf, .inr hh⟩, Nat.lt_of_lt_of_le (ham b hh) hsz⟩

/-- A name that may be given. -/
def Fresh (s : St) (nm : Nat) : Prop := s.base ≤ nm ∧ ∀ o, s.lo[nm]? ≠ some (some o)

/-- The state s stands for the activation a in the world w. -/
structure Rep [GW] {P : Program} (J : Jt P) (Am Mi : Nat → Prop) (w0 : World) (s : St) (θ : Th) (a : Act) (w : World) : Prop where
  size : a.tmps.size = s.tm.length
  tm : ∀ (i : Nat) (v : V), s.tm[i]? = some v → ∃ u, a.tmps[i]? = some u ∧ Den (Stab Am s.lo θ w) (Liv s.lo) θ w v u
  lo : ∀ (n : Nat) (o : Ob), s.lo[n]? = some (some o) → Holds (Stab Am s.lo θ w) (Liv s.lo) θ w n o
  lt : ∀ (n : Nat) (o : Ob) (b : Nat), s.lo[n]? = some (some o) → uses θ n o b → b < w.heap.size ∧ Mi b ∧ ¬ Am b
  inj : ∀ (n m : Nat) (o o' : Ob) (b : Nat), s.lo[n]? = some (some o) → s.lo[m]? = some (some o') → n ≠ m → uses θ n o b → ¬ uses θ m o' b
  mine : ∀ b, w0.heap.size ≤ b → Mi b
  fr : Fr Mi w0 w
  am : ∀ b, Am b → b < w.heap.size
  jj : Amb J s.ys s.lo θ Am Mi w0 w
  yy : ∀ n go adm, s.lo[n]? = some (some (.yl go adm)) → J.ok (θ n).blk go adm
  ga : ∀ x ∈ GW.gl, ¬ Am x.1
  rr : s.inr = J.r.isSome ∧ ∀ l, J.r = some l → ∃ n x, s.lo[n]? = some (some (.raw (.loop x))) ∧ (θ n).blk = l
  tt : J.hN = s.base ∧ s.base ≤ s.lo.length ∧ ∀ n, n < s.base → θ n = J.th n
  df : a.defers = s.df.flatMap (Df.den θ)
  dfl : ∀ d ∈ s.df, ∀ n ∈ d.names, Liv s.lo n

/-! ### What carries a denotation on -/

theorem DenQ.mono {S S' : Nat → Prop} {w w' : World} (hS : ∀ b, S b → S' b) (hw : ∀ b, S b → w'.heap[b]? = w.heap[b]?) {x : Q} {v : Value} (h : DenQ S w x v) : DenQ S' w' x v := by
  have hcell : ∀ b off, S b → w'.cell? ⟨b, off, none⟩ = w.cell? ⟨b, off, none⟩ := fun b off hb => by simp only [World.cell?, hw b hb]
  induction h with
  | c x => exact .c x
  | nil ks len get h => exact .nil ks len get h
  | lst ks len get b off cap u hb hcap hc hk _ ih =>
    exact .lst ks len get b off cap u (hS b hb) hcap (fun i j hi hj => (hcell b _ hb).trans (hc i j hi hj)) hk ih
  | sp k get b off u hb hc _ ih => exact .sp k get b off u (hS b hb) (fun j hj => (hcell b _ hb).trans (hc j hj)) ih
  | mp kk ag vk es b arr clk u hb hm hl hf hk _ ih => exact .mp kk ag vk es b arr clk u (hS b hb) ((hw b hb).trans hm) hl hf hk ih

mutual
theorem Den.monoG {S S' L L' : Nat → Prop} {θ θ' : Th} {w w' : World} (hS : ∀ b, S b → S' b) (hw : ∀ b, S b → w'.heap[b]? = w.heap[b]?) (hL : ∀ n, L n → L' n) (hθ : ∀ n, L n → (θ' n).blk = (θ n).blk ∧ (θ' n).sl = (θ n).sl) {x : V} {v : Value} : Den S L θ w x v → Den S' L' θ' w' x v
  | .any v => .any v
  | .q x v h => .q x v (h.mono hS hw)
  | .ptr n off h => by rw [← (hθ n h).1]; exact .ptr n off (hL n h)
  | .ep n sz i j h => by rw [← (hθ n h).1]; exact .ep n sz i j (hL n h)
  | .kb b => .kb b
  | .lc ks len get cap a n h => .lc ks len get cap a n (h.mono hS hw)
  | .own n a len cap h e => .own n a len cap (hL n h) (by rw [(hθ n h).2]; exact e)
  | .mp n h => by rw [← (hθ n h).1]; exact .mp n (hL n h)
  | .yld n h => by rw [← (hθ n h).1]; exact .yld n (hL n h)
  | .clo f caps vs h => .clo f caps vs (DenL.monoG hS hw hL hθ h)
  | .agg l vs h => .agg l vs (DenL.monoG hS hw hL hθ h)
  | .tup l vs h => .tup l vs (DenL.monoG hS hw hL hθ h)
theorem DenL.monoG {S S' L L' : Nat → Prop} {θ θ' : Th} {w w' : World} (hS : ∀ b, S b → S' b) (hw : ∀ b, S b → w'.heap[b]? = w.heap[b]?) (hL : ∀ n, L n → L' n) (hθ : ∀ n, L n → (θ' n).blk = (θ n).blk ∧ (θ' n).sl = (θ n).sl) {x : List V} {v : List Value} : DenL S L θ w x v → DenL S' L' θ' w' x v
  | .nil => .nil
  | .cons x v l vs h hl => .cons x v l vs (Den.monoG hS hw hL hθ h) (DenL.monoG hS hw hL hθ hl)
end

theorem Den.mono {S S' L L' : Nat → Prop} {θ θ' : Th} {w w' : World} (hS : ∀ b, S b → S' b) (hw : ∀ b, S b → w'.heap[b]? = w.heap[b]?) (hL : ∀ n, L n → L' n) (hθ : ∀ n, L n → θ' n = θ n) {x : V} {v : Value} (h : Den S L θ w x v) : Den S' L' θ' w' x v :=
  h.monoG hS hw hL fun n hn => by rw [hθ n hn]; exact ⟨rfl, rfl⟩
theorem DenL.mono {S S' L L' : Nat → Prop} {θ θ' : Th} {w w' : World} (hS : ∀ b, S b → S' b) (hw : ∀ b, S b → w'.heap[b]? = w.heap[b]?) (hL : ∀ n, L n → L' n) (hθ : ∀ n, L n → θ' n = θ n) {x : List V} {v : List Value} (h : DenL S L θ w x v) : DenL S' L' θ' w' x v :=
  h.monoG hS hw hL fun n hn => by rw [hθ n hn]; exact ⟨rfl, rfl⟩

theorem DenK.mono {S S' : Nat → Prop} {w w' : World} (hS : ∀ b, S b → S' b) (hw : ∀ b, S b → w'.heap[b]? = w.heap[b]?) {ks : List K} {qs : List Q} {us : List Value} (h : DenK S w ks qs us) : DenK S' w' ks qs us := by
  induction h with
  | nil => exact .nil
  | cons k q u ks qs us hk hd _ ih => exact .cons _ _ _ _ _ _ hk (hd.mono hS hw) ih

theorem EntsOK.mono {S S' : Nat → Prop} {w w' : World} (hS : ∀ b, S b → S' b) (hw : ∀ b, S b → w'.heap[b]? = w.heap[b]?) {kk : MK} {ag : Bool} {vk : List K} {es : List (Value × List Q)} {arr : List MapEntry} (h : EntsOK S w kk ag vk es arr) : EntsOK S' w' kk ag vk es arr := by
  induction h with
  | nil => exact .nil
  | cons key qs us born es arr hf hd _ ih => exact .cons _ _ _ _ _ _ hf (hd.mono hS hw) ih

theorem uses_congr {θ θ' : Th} {n : Nat} (h : θ' n = θ n) (o : Ob) (b : Nat) : uses θ' n o b ↔ uses θ n o b := by
  cases o <;> simp [uses, h]

theorem Holds.monoG {S S' L L' : Nat → Prop} {θ θ' : Th} {w w' : World} {n : Nat} {o : Ob} (hS : ∀ b, S b → S' b) (hw : ∀ b, S b → w'.heap[b]? = w.heap[b]?) (hL : ∀ n, L n → L' n) (hθ : ∀ n, L n → (θ' n).blk = (θ n).blk ∧ (θ' n).sl = (θ n).sl)
    (hn : θ' n = θ n) (hu : ∀ b, uses θ n o b → w'.heap[b]? = w.heap[b]?) (h : Holds S L θ w n o) : Holds S' L' θ' w' n o := by
  cases o with
  | map kk ag vk es =>
    obtain ⟨arr, clk, h1, h2⟩ := h
    exact ⟨arr, clk, by rw [hn, hu _ rfl]; exact h1, h2.mono hS hw⟩
  | cells t cs =>
    obtain ⟨vs, h1, h2⟩ := h
    exact ⟨vs, by rw [hn, hu _ rfl]; exact h1, h2.monoG hS hw hL hθ⟩
  | vec t ks len get =>
    rcases h with ⟨h1, h2⟩ | ⟨vs, cap, h1, h2, h3, h4, h5, h6⟩
    · exact .inl ⟨by rw [hn]; exact h1, h2⟩
    · refine .inr ⟨vs, cap, by rw [hn]; exact h1, ?_, h3, h4, h5, fun i j k hi hk => ?_⟩
      · rw [hn, hu (θ n).blk ⟨rfl, by rw [h1]; simp⟩]; exact h2
      · obtain ⟨a, u, b, c⟩ := h6 i j k hi hk
        exact ⟨a, u, b, c.mono hS hw⟩
  | yl go adm => trivial
  | dfr => exact ⟨by rw [hn]; exact h.1, fun b hb => by rw [hn] at hb; rw [hu b hb]; exact h.2 b hb⟩
  | deads => trivial
  | raw x => show _ = _; rw [hn, hu _ rfl]; exact h
  | siter b pos => show _ = _; rw [hn, hu _ rfl]; exact h
  | dead => trivial
  | gone => trivial
  | held tm =>
    obtain ⟨us, h1, h2⟩ := h
    exact ⟨us, by rw [hn]; exact h1, h2.monoG hS hw hL hθ⟩

theorem Holds.mono {S S' L L' : Nat → Prop} {θ θ' : Th} {w w' : World} {n : Nat} {o : Ob} (hS : ∀ b, S b → S' b) (hw : ∀ b, S b → w'.heap[b]? = w.heap[b]?) (hL : ∀ n, L n → L' n) (hθ : ∀ n, L n → θ' n = θ n)
    (hn : L n) (hu : ∀ b, uses θ n o b → w'.heap[b]? = w.heap[b]?) (h : Holds S L θ w n o) : Holds S' L' θ' w' n o :=
  h.monoG hS hw hL (fun n hn => by rw [hθ n hn]; exact ⟨rfl, rfl⟩) (hθ n hn) hu

theorem DenL.length {S L : Nat → Prop} {θ : Th} {w : World} : ∀ {l : List V} {vs : List Value}, DenL S L θ w l vs → l.length = vs.length
  | _, _, .nil => rfl
  | _, _, .cons _ _ _ _ _ h => by simp [h.length]

theorem DenL.get {S L : Nat → Prop} {θ : Th} {w : World} : ∀ {l : List V} {vs : List Value}, DenL S L θ w l vs → ∀ (i : Nat) (x : V), l[i]? = some x → ∃ u, vs[i]? = some u ∧ Den S L θ w x u
  | _, _, .nil, _, _, h => by simp at h
  | _, _, .cons x v l vs h hl, 0, y, e => ⟨v, rfl, by simp at e; exact e ▸ h⟩
  | _, _, .cons x v l vs h hl, i + 1, y, e => hl.get i y (by simpa using e)

theorem DenL.append {S L : Nat → Prop} {θ : Th} {w : World} {l l' : List V} {vs vs' : List Value} (h : DenL S L θ w l vs) (h' : DenL S L θ w l' vs') : DenL S L θ w (l ++ l') (vs ++ vs') := by
  induction l generalizing vs with
  | nil => cases h; exact h'
  | cons x l ih => cases h with | cons x v l vs h hl => exact .cons _ _ _ _ h (ih hl)

theorem DenL.drop {S L : Nat → Prop} {θ : Th} {w : World} {l : List V} {vs : List Value} (h : DenL S L θ w l vs) (k : Nat) : DenL S L θ w (l.drop k) (vs.drop k) := by
  induction k generalizing l vs with
  | zero => simpa using h
  | succ k ih => cases h with
    | nil => exact .nil
    | cons x v l vs h hl => simpa using ih hl

theorem DenL.take {S L : Nat → Prop} {θ : Th} {w : World} {l : List V} {vs : List Value} (h : DenL S L θ w l vs) (k : Nat) : DenL S L θ w (l.take k) (vs.take k) := by
  induction k generalizing l vs with
  | zero => exact .nil
  | succ k ih => cases h with
    | nil => exact .nil
    | cons x v l vs h hl => exact .cons _ _ _ _ h (ih hl)

theorem DenQ.lst_inv {S : Nat → Prop} {w : World} {ks : List K} {len : Nat} {get : Nat → Nat → Q} {v : Value} (h : DenQ S w (.lst ks len get) v) :
    (v = .slice none 0 0 ∧ len = 0) ∨ ∃ (b off cap : Nat) (u : Nat → Nat → Value), v = .slice (some ⟨b, off, none⟩) len cap ∧ S b ∧ (len ≤ cap ∧ len ≤ 9223372036854775807) ∧
      (∀ i j, i < len → j < ks.length → w.cell? ⟨b, off + i * ks.length + j, none⟩ = some (u i j)) ∧
      (∀ i j k, i < len → ks[j]? = some k → KOk k (get i j)) ∧
      (∀ i j, i < len → j < ks.length → DenQ S w (get i j) (u i j)) := by
  cases h with
  | nil _ _ _ h => exact .inl ⟨rfl, h⟩
  | lst _ _ _ b off cap u hS hcap hc hk hd => exact .inr ⟨b, off, cap, u, rfl, hS, hcap, hc, hk, hd⟩

theorem DenQ.sp_inv {S : Nat → Prop} {w : World} {k : Nat} {get : Nat → Q} {v : Value} (h : DenQ S w (.sp k get) v) :
    ∃ (b off : Nat) (u : Nat → Value), v = .pointer (some ⟨b, off, none⟩) ∧ S b ∧ (∀ j, j < k → w.cell? ⟨b, off + j, none⟩ = some (u j)) ∧ (∀ j, j < k → DenQ S w (get j) (u j)) := by
  cases h with
  | sp _ _ b off u hS hc hd => exact ⟨b, off, u, rfl, hS, hc, hd⟩

theorem Den.q_inv {S L : Nat → Prop} {θ : Th} {w : World} {x : Q} {v : Value} (h : Den S L θ w (.q x) v) : DenQ S w x v := by
  cases h with
  | q _ _ h => exact h

theorem Den.ptr_inv {S L : Nat → Prop} {θ : Th} {w : World} {n off : Nat} {v : Value} (h : Den S L θ w (.ptr n off) v) : v = .pointer (some ⟨(θ n).blk, off, none⟩) ∧ L n := by
  cases h with
  | ptr _ _ h => exact ⟨rfl, h⟩

theorem Den.ep_inv {S L : Nat → Prop} {θ : Th} {w : World} {n sz i j : Nat} {v : Value} (h : Den S L θ w (.ep n sz i j) v) : v = .pointer (some ⟨(θ n).blk, i * sz + j, none⟩) ∧ L n := by
  cases h with
  | ep _ _ _ _ h => exact ⟨rfl, h⟩

theorem Den.own_inv {S L : Nat → Prop} {θ : Th} {w : World} {n : Nat} {v : Value} (h : Den S L θ w (.own n) v) : (∃ a len cap, v = .slice a len cap) ∧ v = (θ n).sl ∧ L n := by
  cases h with
  | own _ a len cap h e => exact ⟨⟨_, _, _, rfl⟩, e.symm, h⟩

theorem Den.lc_inv {S L : Nat → Prop} {θ : Th} {w : World} {ks : List K} {len : Nat} {get : Nat → Nat → Q} {cap : Nat} {v : Value} (h : Den S L θ w (.lc ks len get cap) v) : ∃ a n, v = .slice a n cap ∧ DenQ S w (.lst ks len get) v := by
  cases h with
  | lc _ _ _ _ a n h => exact ⟨a, n, rfl, h⟩

/-- A list whose capacity is known, as one of which it is not. -/
def V.unlc : V → V
  | .lc ks len get _ => .q (.lst ks len get)
  | v => v

theorem Den.unlc {S L : Nat → Prop} {θ : Th} {w : World} {x : V} {v : Value} (h : Den S L θ w x v) : Den S L θ w x.unlc v := by
  cases x with
  | lc ks len get cap =>
    obtain ⟨a, n, rfl, hq⟩ := h.lc_inv
    exact .q _ _ hq
  | _ => exact h

theorem Den.yld_inv {S L : Nat → Prop} {θ : Th} {w : World} {n : Nat} {v : Value} (h : Den S L θ w (.yld n) v) : v = .func (.yield (θ n).blk) #[] #[] ∧ L n := by
  cases h with
  | yld _ h => exact ⟨rfl, h⟩

/-- Lists are no longer than an int tells. -/
def QB : Q → Prop
  | .c _ => True
  | .lst ks n g => n ≤ 9223372036854775807 ∧ ∀ i j, i < n → j < ks.length → QB (g i j)
  | .sp k g => ∀ j, j < k → QB (g j)
  | .mp .. => True

theorem DenQ.qb {S : Nat → Prop} {w : World} {q : Q} {v : Value} (h : DenQ S w q v) : QB q := by
  induction h with
  | c x => trivial
  | nil ks len get h => subst h; exact ⟨Nat.zero_le _, fun i j hi => absurd hi (Nat.not_lt_zero _)⟩
  | lst ks len get b off cap u hb hcap hc hk _ ih => exact ⟨hcap.2, ih⟩
  | sp k get b off u hb hc _ ih => exact ih
  | mp => trivial

def VB : V → Prop
  | .q x => QB x
  | .agg l => ∀ x ∈ l, match x with
    | .q q => QB q
    | _ => True
  | _ => True

theorem DenL.mem {S L : Nat → Prop} {θ : Th} {w : World} : ∀ {l : List V} {vs : List Value}, DenL S L θ w l vs → ∀ x ∈ l, ∃ v, Den S L θ w x v
  | _, _, .nil, _, h => by cases h
  | _, _, .cons x v l vs h hl, y, hy => by
    cases hy with
    | head => exact ⟨v, h⟩
    | tail _ hm => exact hl.mem y hm

theorem Den.vb {S L : Nat → Prop} {θ : Th} {w : World} {x : V} {v : Value} (h : Den S L θ w x v) : VB x := by
  cases h with
  | q x v h => exact h.qb
  | agg l vs h =>
    intro x hx
    obtain ⟨v, hv⟩ := h.mem x hx
    cases x with
    | q q => exact hv.q_inv.qb
    | _ => trivial
  | _ => trivial

/-! ### cells by their kinds -/
def qInt : Q → Int
  | .c (.int _ n) => n
  | _ => 0
def qBool : Q → Bool
  | .c (.bool b) => b
  | _ => false
def qStr : Q → ByteArray
  | .c (.string b) => b
  | _ => ⟨#[]⟩
def qLen : Q → Nat
  | .lst _ n _ => n
  | _ => 0
def qGet : Q → Nat → Nat → Q
  | .lst _ _ g => g
  | _ => fun _ _ => default
/-- A cell of that kind, in that kind's form. -/
def nrm : K → Q → Q
  | .int k, q => .c (.int k (qInt q))
  | .bool, q => .c (.bool (qBool q))
  | .str, q => .c (.string (qStr q))
  | .lst ks, q => .lst ks (qLen q) (qGet q)
  | .any, q => q
theorem nrm_eq {k : K} {q : Q} (h : KOk k q) : nrm k q = q := by cases h <;> rfl
abbrev nrmG (ks : List K) (g : Nat → Q) (j : Nat) : Q := nrm (ks.getD j .any) (g j)
theorem DenQ.nrmG {S : Nat → Prop} {w : World} {ks : List K} {g : Nat → Q} {j : Nat} {u : Value} (h : DenQ S w (g j) u) (hj : j < ks.length) (hk : ∀ k, ks[j]? = some k → KOk k (g j)) : DenQ S w (SX.nrmG ks g j) u := by
  have e : ks.getD j .any = ks[j] := by simp [List.getD_eq_getElem?_getD, hj]
  show DenQ S w (nrm (ks.getD j .any) (g j)) u
  rw [e, nrm_eq (hk _ (List.getElem?_eq_getElem hj))]
  exact h

end Go.SX

/- The package variables that are laid. -/
namespace Go.Proofs.YthmlbmambcigcaaGreatDoor
open Go Go.SX
set_option linter.unusedVariables false
set_option linter.unusedSectionVars false

/-- A type's handle, as errors.errorType holds it. -/
abbrev etV : Value := .iface 193 (.agg #[.pointer (some ⟨3, 70, none⟩)])
/-- An error that errors.New made, wherever it lies. -/
abbrev errP [EA] (i : Nat) : Value := .iface 236 (.pointer (some (EA.ea i)))
abbrev gl0 [EA] : List (Nat × Nat × Value) := [(2, 0, etV)]
  ++ [(1, 0, errP 0)]
  ++ [(0, 0, errP 1)]
instance gw [EA] : GW := ⟨gl0⟩
theorem gl_et [EA] : (2, 0, etV) ∈ GW.gl := by simp [GW.gl, gl0]
theorem gl_float [EA] : (1, 0, errP 0) ∈ GW.gl := by simp [GW.gl, gl0]
theorem gl_wrap [EA] : (0, 0, errP 1) ∈ GW.gl := by simp [GW.gl, gl0]
end Go.Proofs.YthmlbmambcigcaaGreatDoor

/- How the symbolic state follows the world: new blocks, stores, calls that leave what was. No program in sight. -/
namespace Go.SX
open Go.RowKit
set_option linter.unusedVariables false
set_option linter.unusedSimpArgs false
set_option linter.unusedSectionVars false

variable [GW] {P : Program} {J : Jt P} {Am Mi : Nat → Prop} {w0 w : World} {s : St} {θ : Th} {a : Act}

theorem Rep.stabS (h : Rep J Am Mi w0 s θ a w) : ∀ b, Stab Am s.lo θ w b → b < w.heap.size := fun _ hb => hb.1

theorem Rep.own_am (h : Rep J Am Mi w0 s θ a w) : ∀ b, Own s.lo θ b → ¬ Am b := fun b ⟨n, o, ho, hu⟩ => (h.lt n o b ho hu).2.2

theorem Rep.put (h : Rep J Am Mi w0 s θ a w) (d : Nat) {v : V} {u : Value} (hv : Den (Stab Am s.lo θ w) (Liv s.lo) θ w v u) :
    Rep J Am Mi w0 { s with tm := s.tm.set d v } θ (a.put (some d) u) w where
  size := by simp [Act.put, h.size]
  tm := fun i x hx => by
    simp only [List.getElem?_set] at hx
    split at hx
    · rename_i hi
      subst hi
      split at hx
      · rename_i hl
        cases hx
        exact ⟨u, by simp [Act.put, h.size, hl], hv⟩
      · cases hx
    · rename_i hi
      obtain ⟨y, hy, hd⟩ := h.tm i x hx
      exact ⟨y, by simp [Act.put, Array.getElem?_setIfInBounds_ne hi, hy], hd⟩
  lo := h.lo
  lt := h.lt
  inj := h.inj
  mine := h.mine
  fr := h.fr
  am := h.am
  jj := h.jj
  yy := h.yy
  ga := h.ga
  rr := h.rr
  tt := h.tt
  df := h.df
  dfl := h.dfl

theorem Rep.forget (h : Rep J Am Mi w0 s θ a w) (d : Nat) (u : Value) : Rep J Am Mi w0 { s with tm := s.tm.set d .any } θ (a.put (some d) u) w := h.put d (.any u)

/-- Only what is known of the temporaries is lost. -/
theorem Rep.less (h : Rep J Am Mi w0 s θ a w) {tm : List V} (hl : tm.length = s.tm.length) (ht : ∀ (i : Nat) v, tm[i]? = some v → v = .any ∨ s.tm[i]? = some v) :
    Rep J Am Mi w0 { s with tm } θ a w where
  size := by simp [h.size, hl]
  tm := fun i x hx => by
    rcases ht i x hx with rfl | hx'
    · have hi : i < tm.length := (List.getElem?_eq_some_iff.1 hx).1
      have : i < a.tmps.size := by rw [h.size, ← hl]; exact hi
      exact ⟨a.tmps[i], by simp [this], .any _⟩
    · exact h.tm i x hx'
  lo := h.lo
  lt := h.lt
  inj := h.inj
  mine := h.mine
  fr := h.fr
  am := h.am
  jj := h.jj
  yy := h.yy
  ga := h.ga
  rr := h.rr
  tt := h.tt
  df := h.df
  dfl := h.dfl

/-- A step of the world that leaves all blocks that were there. -/
theorem Rep.ext (h : Rep J Am Mi w0 s θ a w) {w' : World} (hb : Below w.heap.size w w') : Rep J Am Mi w0 s θ a w' := by
  have hS : ∀ b, Stab Am s.lo θ w b → Stab Am s.lo θ w' b := fun b hb' => ⟨Nat.lt_of_lt_of_le hb'.1 hb.size, hb'.2⟩
  have hw : ∀ b, Stab Am s.lo θ w b → w'.heap[b]? = w.heap[b]? := fun b hb' => hb.block b hb'.1
  refine ⟨h.size, fun i v hv => ?_, fun n o ho => ?_, fun n o b ho hu => ?_, h.inj, h.mine, ?_, fun b hb' => Nat.lt_of_lt_of_le (h.am b hb') hb.size, h.jj.step hb.os hb.tape hb.output hb.size (fun b hlt _ => hb.block b hlt) (fun b ⟨n, o, ho, hu⟩ => ⟨.inl ⟨n, o, ho, hu⟩, Nat.lt_of_lt_of_le (h.lt n o b ho hu).1 hb.size⟩) h.am h.own_am, h.yy, h.ga, h.rr, h.tt, h.df, h.dfl⟩
  · obtain ⟨u, hu, hd⟩ := h.tm i v hv
    exact ⟨u, hu, hd.mono hS hw (fun _ x => x) (fun _ _ => rfl)⟩
  · exact (h.lo n o ho).mono hS hw (fun _ x => x) (fun _ _ => rfl) ⟨o, ho⟩ (fun b hu => hb.block b (h.lt n o b ho hu).1)
  · exact ⟨Nat.lt_of_lt_of_le (h.lt n o b ho hu).1 hb.size, (h.lt n o b ho hu).2⟩
  · exact ⟨hb.os.trans h.fr.os, hb.tape.trans h.fr.tape, hb.output.trans h.fr.output, Nat.le_trans h.fr.size hb.size, fun b hlt hn => (hb.block b (Nat.lt_of_lt_of_le hlt h.fr.size)).trans (h.fr.block b hlt hn), h.fr.gl⟩

theorem Rep.drew (h : Rep J Am Mi w0 s θ a w) : Rep J Am Mi w0 s θ a w.drew := h.ext (Below.refl _ _).drew

/-- The list of the resources, with one more, under the name n. -/
def ins (lo : List (Option Ob)) (n : Nat) (o : Ob) : List (Option Ob) := (lo ++ List.replicate (n + 1 - lo.length) none).set n (some o)

theorem ins_same (lo : List (Option Ob)) (n : Nat) (o : Ob) : (ins lo n o)[n]? = some (some o) := by
  have : n < lo.length + (n + 1 - lo.length) := by omega
  simp [ins, List.getElem?_set, this]

theorem ins_other (lo : List (Option Ob)) (n m : Nat) (o o' : Ob) (hm : m ≠ n) : (ins lo n o)[m]? = some (some o') ↔ lo[m]? = some (some o') := by
  simp only [ins, List.getElem?_set]
  rw [if_neg (fun h => hm h.symm), List.getElem?_append]
  split
  · rfl
  · rename_i hlt
    have h1 : lo[m]? = none := List.getElem?_eq_none (by omega)
    rw [h1]
    simp [List.getElem?_replicate]

/-- A resource more, under a name that may be given; its block (if it has one) is new. -/
theorem Rep.gain (h : Rep J Am Mi w0 s θ a w) (n : Nat) (hfr : Fresh s n) (o : Ob) {w' : World} (hb : Below w.heap.size w w') (nm : Nm) (θ' : Th) (hθ' : θ' = fun m => if m = n then nm else θ m)
    (hny : ∀ go adm, o ≠ .yl go adm) (hu : ∀ b, uses θ' n o b → w.heap.size ≤ b ∧ b < w'.heap.size)
    (hd : ∀ (S L : Nat → Prop), (∀ b, Stab Am s.lo θ w b → S b) → (∀ m, Liv s.lo m → L m) → (∀ m, Liv s.lo m → θ' m = θ m) → (∀ b, Stab Am s.lo θ w b → w'.heap[b]? = w.heap[b]?) → Holds S L θ' w' n o) :
    Rep J Am Mi w0 { s with lo := ins s.lo n o } θ' a w' := by
  have hn := hfr.2
  subst hθ'
  have hθ : ∀ m, Liv s.lo m → (fun m => if m = n then nm else θ m) m = θ m := fun m hm => by
    obtain ⟨o, ho⟩ := hm
    have : m ≠ n := fun e => hn o (by rw [← e]; exact ho)
    simp [this]
  have hL : ∀ m, Liv s.lo m → Liv (ins s.lo n o) m := fun m hm => by
    obtain ⟨o', ho⟩ := hm
    exact ⟨o', (ins_other _ _ _ _ _ (fun e => hn o' (by rw [← e]; exact ho))).2 ho⟩
  have hS : ∀ b, Stab Am s.lo θ w b → Stab Am (ins s.lo n o) (fun m => if m = n then nm else θ m) w' b := fun b hb' => by
    refine ⟨Nat.lt_of_lt_of_le hb'.1 hb.size, hb'.2.1, fun m o' ho hu' => ?_⟩
    by_cases hm : m = n
    · subst hm
      rw [ins_same] at ho
      cases ho
      have := hu b hu'
      exact absurd hb'.1 (by omega)
    · rw [ins_other _ _ _ _ _ hm] at ho
      rw [uses_congr (θ := θ) (by simp [hm])] at hu'
      exact hb'.2.2 m o' ho hu'
  have hw : ∀ b, Stab Am s.lo θ w b → w'.heap[b]? = w.heap[b]? := fun b hb' => hb.block b hb'.1
  refine ⟨h.size, fun i v hv => ?_, fun m o' ho => ?_, fun m o' b ho hu' => ?_, fun m m' o1 o2 b ho ho' hne hu1 hu2 => ?_, h.mine, ?_, fun b hb' => Nat.lt_of_lt_of_le (h.am b hb') hb.size, ?_, ?_, h.ga, ⟨h.rr.1, fun l hl => ?_⟩, ⟨h.tt.1, Nat.le_trans h.tt.2.1 (by simp [ins]), fun m hm => (by have h1 : m < s.base := hm; have h2 := hfr.1; rw [if_neg (show m ≠ n by omega)]; exact h.tt.2.2 m h1)⟩, ?_, fun d hd m hm => hL m (h.dfl d hd m hm)⟩
  · obtain ⟨u, hu, hd⟩ := h.tm i v hv
    exact ⟨u, hu, hd.mono hS hw hL hθ⟩
  · by_cases hm : m = n
    · subst hm
      rw [ins_same] at ho
      cases ho
      exact hd _ _ hS hL hθ hw
    · rw [ins_other _ _ _ _ _ hm] at ho
      exact (h.lo m o' ho).mono hS hw hL hθ ⟨o', ho⟩ (fun b hu => hb.block b (h.lt m o' b ho hu).1)
  · by_cases hm : m = n
    · subst hm
      rw [ins_same] at ho
      cases ho
      have := hu b hu'
      exact ⟨this.2, h.mine _ (Nat.le_trans h.fr.size this.1), fun hh => absurd (h.am _ hh) (by omega)⟩
    · rw [ins_other _ _ _ _ _ hm] at ho
      rw [uses_congr (θ := θ) (by simp [hm])] at hu'
      exact ⟨Nat.lt_of_lt_of_le (h.lt m o' b ho hu').1 hb.size, (h.lt m o' b ho hu').2⟩
  · by_cases hm : m = n
    · subst hm
      rw [ins_same] at ho
      cases ho
      have e1 := hu b hu1
      have hm' : m' ≠ m := fun e => hne e.symm
      rw [ins_other _ _ _ _ _ hm'] at ho'
      rw [uses_congr (θ := θ) (by simp [hm'])] at hu2
      have := (h.lt m' o2 b ho' hu2).1
      omega
    · rw [ins_other _ _ _ _ _ hm] at ho
      rw [uses_congr (θ := θ) (by simp [hm])] at hu1
      by_cases hm' : m' = n
      · subst hm'
        rw [ins_same] at ho'
        cases ho'
        have e1 := hu b hu2
        have := (h.lt m o1 b ho hu1).1
        omega
      · rw [ins_other _ _ _ _ _ hm'] at ho'
        rw [uses_congr (θ := θ) (by simp [hm'])] at hu2
        exact h.inj m m' o1 o2 b ho ho' hne hu1 hu2
  · exact ⟨hb.os.trans h.fr.os, hb.tape.trans h.fr.tape, hb.output.trans h.fr.output, Nat.le_trans h.fr.size hb.size, fun b hlt hn => (hb.block b (Nat.lt_of_lt_of_le hlt h.fr.size)).trans (h.fr.block b hlt hn), h.fr.gl⟩
  · refine h.jj.step hb.os hb.tape hb.output hb.size (fun b hlt _ => hb.block b hlt) (fun b ⟨m, o', ho, hu'⟩ => ?_) h.am h.own_am
    by_cases hm : m = n
    · subst hm
      rw [ins_same] at ho
      cases ho
      have := hu b hu'
      exact ⟨.inr this.1, this.2⟩
    · rw [ins_other _ _ _ _ _ hm] at ho
      rw [uses_congr (θ := θ) (by simp [hm])] at hu'
      exact ⟨.inl ⟨m, o', ho, hu'⟩, Nat.lt_of_lt_of_le (h.lt m o' b ho hu').1 hb.size⟩
  · intro m go adm ho
    by_cases hm : m = n
    · subst hm
      rw [ins_same] at ho
      cases ho
      exact absurd rfl (hny go adm)
    · rw [ins_other _ _ _ _ _ hm] at ho
      simp only [if_neg hm]
      exact h.yy m go adm ho
  · obtain ⟨m, x, hx, hb⟩ := h.rr.2 l hl
    have hm : m ≠ n := fun e => hn _ (by rw [← e]; exact hx)
    exact ⟨m, x, (ins_other _ _ _ _ _ hm).2 hx, by simp only [if_neg hm]; exact hb⟩
  · rw [h.df]
    exact flatMap_congr' fun d hd => (Df.den_congr d fun m hm => hθ m (h.dfl d hd m hm)).symm

/-- A new block, under a name that is not alive. -/
theorem Rep.new (h : Rep J Am Mi w0 s θ a w) (n : Nat) (hfr : Fresh s n) (o : Ob) (x : Obj) (nm : Nm) (θ' : Th) (hθ' : θ' = fun m => if m = n then nm else θ m)
    (hny : ∀ go adm, o ≠ .yl go adm) (hu : ∀ b, uses θ' n o b → b = w.heap.size)
    (hd : ∀ (S L : Nat → Prop), (∀ b, Stab Am s.lo θ w b → S b) → (∀ m, Liv s.lo m → L m) → (∀ m, Liv s.lo m → θ' m = θ m) → (∀ b, Stab Am s.lo θ w b → (w.alloc x).heap[b]? = w.heap[b]?) → Holds S L θ' (w.alloc x) n o) :
    Rep J Am Mi w0 { s with lo := ins s.lo n o } θ' a (w.alloc x) :=
  h.gain n hfr o ((Below.refl _ _).alloc (Nat.le_refl _) _) nm θ' hθ' hny (fun b hb => by have := hu b hb; subst this; exact ⟨Nat.le_refl _, by simp⟩) hd

/-- A new block of cells, under a name that is not alive. -/
theorem Rep.alloc (h : Rep J Am Mi w0 s θ a w) (n : Nat) (hn : Fresh s n) (t : TypeId) (cs : List V) (vs : List Value)
    (hd : DenL (Stab Am s.lo θ w) (Liv s.lo) θ w cs vs) :
    ∃ θ', (θ' n).blk = w.heap.size ∧ Rep J Am Mi w0 { s with lo := ins s.lo n (.cells t cs) } θ' a (w.alloc (.cells vs.toArray t)) := by
  refine ⟨fun m => if m = n then ⟨w.heap.size, .tuple #[], []⟩ else θ m, by simp, h.new n hn _ _ _ _ rfl (fun _ _ e => by cases e) (fun b hb => by simpa [uses] using hb) (fun S L hS hL hθ hw => ?_)⟩
  exact ⟨vs, by simp only [if_true]; exact Array.getElem?_push_size, hd.mono hS hw hL hθ⟩

/-- Cells in place of others, from the place off on. -/
def over {α : Type} : List α → Nat → List α → List α
  | l, _, [] => l
  | [], _, _ :: _ => []
  | _ :: l, 0, v :: vs => v :: over l 0 vs
  | x :: l, n + 1, v :: vs => x :: over l n (v :: vs)

theorem over_nil {α : Type} (l : List α) (off : Nat) : over l off [] = l := by cases l <;> rfl

theorem over_cons {α : Type} (l : List α) : ∀ (off : Nat) (v : α) (vs : List α), over l off (v :: vs) = over (l.set off v) (off + 1) vs := by
  induction l with
  | nil => intro off v vs; cases off <;> cases vs <;> rfl
  | cons x l ih =>
    intro off v vs
    cases off with
    | zero =>
      simp only [over, List.set_cons_zero]
      cases vs with
      | nil => simp [over_nil]
      | cons y vs => simp [over]
    | succ off =>
      simp only [over, List.set_cons_succ]
      cases vs with
      | nil => rw [ih]; simp [over_nil]
      | cons y vs => rw [ih]; simp [over]

theorem over_length {α : Type} (l : List α) (off : Nat) (vs : List α) : (over l off vs).length = l.length := by
  induction vs generalizing l off with
  | nil => simp [over_nil]
  | cons v vs ih => rw [over_cons, ih, List.length_set]

theorem DenL.set {S L : Nat → Prop} {θ : Th} {w : World} {l : List V} {vs : List Value} (h : DenL S L θ w l vs) (i : Nat) {x : V} {u : Value} (hx : Den S L θ w x u) : DenL S L θ w (l.set i x) (vs.set i u) := by
  induction l generalizing vs i with
  | nil => cases h; exact .nil
  | cons y l ih =>
    cases h with
    | cons y v l vs h hl =>
      cases i with
      | zero => exact .cons _ _ _ _ hx hl
      | succ i => exact .cons _ _ _ _ h (ih hl i)

theorem DenL.over {S L : Nat → Prop} {θ : Th} {w : World} {l : List V} {vs : List Value} (h : DenL S L θ w l vs) (off : Nat) {xs : List V} {us : List Value} (hx : DenL S L θ w xs us) : DenL S L θ w (over l off xs) (over vs off us) := by
  induction xs generalizing l vs off us with
  | nil => cases hx; simpa [over_nil] using h
  | cons x xs ih => cases hx with | cons x u xs us h1 h2 => rw [over_cons, over_cons]; exact ih (h.set off h1) (off + 1) h2

/-- The heap with one block of cells written anew. -/
def World.putCells (w : World) (b : Nat) (vs : List Value) (t : TypeId) : World := { w with heap := w.heap.setIfInBounds b (.cells vs.toArray t (0, 0)) }

theorem putCells_same (w : World) (b : Nat) (vs : List Value) (t : TypeId) (hb : b < w.heap.size) : (World.putCells w b vs t).heap[b]? = some (.cells vs.toArray t (0, 0)) := by
  simp [World.putCells, hb]

theorem putCells_other (w : World) (b c : Nat) (vs : List Value) (t : TypeId) (hc : c ≠ b) : (World.putCells w b vs t).heap[c]? = w.heap[c]? := by
  simp [World.putCells, Array.getElem?_setIfInBounds_ne (Ne.symm hc)]

theorem putCells_size (w : World) (b : Nat) (vs : List Value) (t : TypeId) : (World.putCells w b vs t).heap.size = w.heap.size := by simp [World.putCells]

/-- A block of cells that is owned is written anew. -/
theorem Rep.write (h : Rep J Am Mi w0 s θ a w) (n : Nat) (t : TypeId) (cs cs' : List V) (vs : List Value) (hn : s.lo[n]? = some (some (.cells t cs)))
    (hd : DenL (Stab Am s.lo θ w) (Liv s.lo) θ w cs' vs) :
    Rep J Am Mi w0 { s with lo := s.lo.set n (some (.cells t cs')) } θ a (World.putCells w (θ n).blk vs t) := by
  have hlt : n < s.lo.length := (List.getElem?_eq_some_iff.1 hn).1
  have hnb := h.lt n _ _ hn rfl
  have hset : ∀ (m : Nat) (o : Ob), (s.lo.set n (some (.cells t cs')))[m]? = some (some o) → (m = n ∧ o = .cells t cs') ∨ (m ≠ n ∧ s.lo[m]? = some (some o)) := fun m o ho => by
    by_cases e : n = m
    · subst e
      rw [List.getElem?_set_self hlt] at ho
      exact .inl ⟨rfl, (Option.some.inj (Option.some.inj ho)).symm⟩
    · rw [List.getElem?_set_ne e] at ho
      exact .inr ⟨fun x => e x.symm, ho⟩
  have hL : ∀ m, Liv s.lo m → Liv (s.lo.set n (some (.cells t cs'))) m := fun m hm => by
    obtain ⟨o, ho⟩ := hm
    by_cases e : m = n
    · subst e; exact ⟨.cells t cs', by simp [List.getElem?_set, hlt]⟩
    · exact ⟨o, by simp only [List.getElem?_set]; rw [if_neg (fun x => e x.symm)]; exact ho⟩
  have hu : ∀ (m : Nat) (o : Ob) (b : Nat), (s.lo.set n (some (.cells t cs')))[m]? = some (some o) → uses θ m o b → ∃ o', s.lo[m]? = some (some o') ∧ uses θ m o' b := fun m o b ho hu => by
    rcases hset m o ho with ⟨rfl, rfl⟩ | ⟨_, ho'⟩
    · exact ⟨_, hn, hu⟩
    · exact ⟨o, ho', hu⟩
  have hS : ∀ b, Stab Am s.lo θ w b → Stab Am (s.lo.set n (some (.cells t cs'))) θ (World.putCells w (θ n).blk vs t) b := fun b hb => by
    refine ⟨by rw [putCells_size]; exact hb.1, hb.2.1, fun m o ho hx => ?_⟩
    obtain ⟨o', ho', hx'⟩ := hu m o b ho hx
    exact hb.2.2 m o' ho' hx'
  have hw : ∀ b, Stab Am s.lo θ w b → (World.putCells w (θ n).blk vs t).heap[b]? = w.heap[b]? := fun b hb => putCells_other _ _ _ _ _ (fun e => hb.2.2 n _ hn (show uses θ n _ b from e))
  refine ⟨h.size, fun i v hv => ?_, fun m o ho => ?_, fun m o b ho hx => ?_, fun m m' o o' b ho ho' hne hx hx' => ?_, h.mine, ?_, fun b hb => by rw [putCells_size]; exact h.am b hb, ?_, fun m go adm ho => ?_, h.ga, ⟨h.rr.1, fun l hl => ?_⟩, ⟨h.tt.1, by simpa using h.tt.2.1, h.tt.2.2⟩, h.df, fun d hd m hm => hL m (h.dfl d hd m hm)⟩
  · obtain ⟨u, hu, hd⟩ := h.tm i v hv
    exact ⟨u, hu, hd.mono hS hw hL (fun _ _ => rfl)⟩
  · rcases hset m o ho with ⟨rfl, rfl⟩ | ⟨hm, ho'⟩
    · exact ⟨vs, putCells_same _ _ _ _ hnb.1, hd.mono hS hw hL (fun _ _ => rfl)⟩
    · exact (h.lo m o ho').mono hS hw hL (fun _ _ => rfl) ⟨o, ho'⟩ (fun b hb => putCells_other _ _ _ _ _ (fun e => h.inj m n o _ b ho' hn hm hb (show uses θ n _ b from e)))
  · obtain ⟨o', ho', hx'⟩ := hu m o b ho hx
    rw [putCells_size]
    exact h.lt m o' b ho' hx'
  · obtain ⟨p, hp, hpx⟩ := hu m o b ho hx
    obtain ⟨p', hp', hpx'⟩ := hu m' o' b ho' hx'
    exact h.inj m m' p p' b hp hp' hne hpx hpx'
  · refine ⟨h.fr.os, h.fr.tape, h.fr.output, by rw [putCells_size]; exact h.fr.size, fun b hb hm => ?_, h.fr.gl⟩
    rw [putCells_other _ _ _ _ _ (fun e => hm (by rw [e]; exact hnb.2.1))]
    exact h.fr.block b hb hm
  · refine h.jj.step rfl rfl rfl (by rw [putCells_size]; exact Nat.le_refl _) (fun b hlt hb => putCells_other _ _ _ _ _ (fun e => hb ⟨n, _, hn, e⟩)) (fun b ⟨m, o, ho, hx⟩ => ?_) h.am h.own_am
    obtain ⟨o', ho', hx'⟩ := hu m o b ho hx
    exact ⟨.inl ⟨m, o', ho', hx'⟩, by rw [putCells_size]; exact (h.lt m o' b ho' hx').1⟩

  · rcases hset m _ ho with ⟨_, e⟩ | ⟨_, ho'⟩
    · cases e
    · exact h.yy m go adm ho'
  · obtain ⟨m, x, hx, hb⟩ := h.rr.2 l hl
    have hm : n ≠ m := fun e => by rw [← e, hn] at hx; cases hx
    exact ⟨m, x, by simp only [List.getElem?_set_ne hm]; exact hx, hb⟩

/-- A block that is owned is turned into something else. -/
theorem Rep.turnG (h : Rep J Am Mi w0 s θ a w) (n : Nat) (o o' : Ob) (hn : s.lo[n]? = some (some o)) (hu' : ∀ b, uses θ n o' b → uses θ n o b) (hny : ∀ go adm, o' ≠ .yl go adm) (hnr : (∃ x, o' = .raw (.loop x)) ∨ ∀ l, J.r = some l → ∀ x, o = .raw (.loop x) → (θ n).blk ≠ l)
    {w' : World} (hos : w'.os = w.os) (htp : w'.tape = w.tape) (hout : w'.output = w.output) (hsz : w'.heap.size = w.heap.size) (hww : ∀ b, ¬ uses θ n o b → w'.heap[b]? = w.heap[b]?)
    (hH : Holds (Stab Am s.lo θ w) (Liv s.lo) θ w' n o') : Rep J Am Mi w0 { s with lo := s.lo.set n (some o') } θ a w' := by
  have hlt : n < s.lo.length := (List.getElem?_eq_some_iff.1 hn).1
  have hset : ∀ (m : Nat) (x : Ob), (s.lo.set n (some o'))[m]? = some (some x) → (m = n ∧ x = o') ∨ (m ≠ n ∧ s.lo[m]? = some (some x)) := fun m x hx => by
    by_cases e : n = m
    · subst e
      rw [List.getElem?_set_self hlt] at hx
      exact .inl ⟨rfl, (Option.some.inj (Option.some.inj hx)).symm⟩
    · rw [List.getElem?_set_ne e] at hx
      exact .inr ⟨fun x => e x.symm, hx⟩
  have hL : ∀ m, Liv s.lo m → Liv (s.lo.set n (some o')) m := fun m hm => by
    obtain ⟨x, hx⟩ := hm
    by_cases e : m = n
    · subst e; exact ⟨o', by simp [List.getElem?_set, hlt]⟩
    · exact ⟨x, by simp only [List.getElem?_set]; rw [if_neg (fun x => e x.symm)]; exact hx⟩
  have hu : ∀ (m : Nat) (x : Ob) (b : Nat), (s.lo.set n (some o'))[m]? = some (some x) → uses θ m x b → ∃ y, s.lo[m]? = some (some y) ∧ uses θ m y b := fun m x b hx hb => by
    rcases hset m x hx with ⟨rfl, rfl⟩ | ⟨_, hx'⟩
    · exact ⟨_, hn, hu' b hb⟩
    · exact ⟨x, hx', hb⟩
  have hS : ∀ b, Stab Am s.lo θ w b → Stab Am (s.lo.set n (some o')) θ w' b := fun b hb => by
    refine ⟨by rw [hsz]; exact hb.1, hb.2.1, fun m x hx hux => ?_⟩
    obtain ⟨y, hy, huy⟩ := hu m x b hx hux
    exact hb.2.2 m y hy huy
  have hw : ∀ b, Stab Am s.lo θ w b → w'.heap[b]? = w.heap[b]? := fun b hb => hww b (fun e => hb.2.2 n _ hn e)
  refine ⟨h.size, fun i v hv => ?_, fun m x hx => ?_, fun m x b hx hux => ?_, fun m m' x x' b hx hx' hne hux hux' => ?_, h.mine, ?_, fun b hb => by rw [hsz]; exact h.am b hb, ?_, fun m go adm hx => ?_, h.ga, ⟨h.rr.1, fun l hl => ?_⟩, ⟨h.tt.1, by simpa using h.tt.2.1, h.tt.2.2⟩, h.df, fun d hd m hm => hL m (h.dfl d hd m hm)⟩
  · obtain ⟨u, hu, hd⟩ := h.tm i v hv
    exact ⟨u, hu, hd.mono hS hw hL (fun _ _ => rfl)⟩
  · rcases hset m x hx with ⟨rfl, rfl⟩ | ⟨hm, hx'⟩
    · exact hH.mono hS (fun _ _ => rfl) hL (fun _ _ => rfl) ⟨o, hn⟩ (fun _ _ => rfl)
    · exact (h.lo m x hx').mono hS hw hL (fun _ _ => rfl) ⟨x, hx'⟩ (fun b hb => hww b (fun e => h.inj m n x o b hx' hn hm hb e))
  · obtain ⟨y, hy, huy⟩ := hu m x b hx hux
    rw [hsz]
    exact h.lt m y b hy huy
  · obtain ⟨p, hp, hpx⟩ := hu m x b hx hux
    obtain ⟨p', hp', hpx'⟩ := hu m' x' b hx' hux'
    exact h.inj m m' p p' b hp hp' hne hpx hpx'
  · refine ⟨hos.trans h.fr.os, htp.trans h.fr.tape, hout.trans h.fr.output, by rw [hsz]; exact h.fr.size, fun b hb hm => ?_, h.fr.gl⟩
    rw [hww b (fun e => hm (h.lt n o b hn e).2.1)]
    exact h.fr.block b hb hm
  · refine h.jj.step hos htp hout (by rw [hsz]; exact Nat.le_refl _) (fun b hlt hb => hww b (fun e => hb ⟨n, _, hn, e⟩)) (fun b ⟨m, x, hx, hux⟩ => ?_) h.am h.own_am
    obtain ⟨y, hy, huy⟩ := hu m x b hx hux
    exact ⟨.inl ⟨m, y, hy, huy⟩, by rw [hsz]; exact (h.lt m y b hy huy).1⟩
  · rcases hset m _ hx with ⟨_, e⟩ | ⟨_, hx'⟩
    · exact absurd e.symm (hny go adm)
    · exact h.yy m go adm hx'
  · obtain ⟨m, x, hx, hb⟩ := h.rr.2 l hl
    by_cases hm : n = m
    · subst hm
      rw [hn] at hx
      cases hx
      rcases hnr with ⟨y, rfl⟩ | hh
      · exact ⟨n, y, by simp [List.getElem?_set, hlt], hb⟩
      · exact absurd hb (hh l hl x rfl)
    · exact ⟨m, x, by simp only [List.getElem?_set_ne hm]; exact hx, hb⟩

theorem Rep.turn (h : Rep J Am Mi w0 s θ a w) (n : Nat) (o o' : Ob) (hn : s.lo[n]? = some (some o)) (hu' : ∀ b, uses θ n o' b → uses θ n o b) (hny : ∀ go adm, o' ≠ .yl go adm) (hnr : (∃ x, o' = .raw (.loop x)) ∨ ∀ x, o ≠ .raw (.loop x))
    {w' : World} (hos : w'.os = w.os) (htp : w'.tape = w.tape) (hout : w'.output = w.output) (hsz : w'.heap.size = w.heap.size) (hww : ∀ b, ¬ uses θ n o b → w'.heap[b]? = w.heap[b]?)
    (hH : Holds (Stab Am s.lo θ w) (Liv s.lo) θ w' n o') : Rep J Am Mi w0 { s with lo := s.lo.set n (some o') } θ a w' :=
  h.turnG n o o' hn hu' hny (hnr.imp id fun hh _ _ x e => absurd e (hh x)) hos htp hout hsz hww hH

end Go.SX

/- What an operation makes of the symbolic state: values. -/
namespace Go.SX
open Go.RowKit
set_option linter.unusedVariables false
set_option linter.unusedSimpArgs false
set_option linter.unusedSectionVars false

/-- A tree of answers: the tests are truth values. -/
inductive T (α : Type) where
  | leaf (x : α)
  | ite (b : Bool) (t e : T α)
  | bad
  deriving Inhabited

def T.bind {α β : Type} : T α → (α → T β) → T β
  | .leaf x, k => k x
  | .ite b t e, k => .ite b (t.bind k) (e.bind k)
  | .bad, _ => .bad

def T.pick {α : Type} : T α → Option α
  | .leaf x => some x
  | .ite b t e => bif b then t.pick else e.pick
  | .bad => none

def T.map {α β : Type} (f : α → β) (t : T α) : T β := t.bind fun x => .leaf (f x)

theorem T.pick_bind {α β : Type} (t : T α) (k : α → T β) (r : β) : (t.bind k).pick = some r ↔ ∃ x, t.pick = some x ∧ (k x).pick = some r := by
  induction t with
  | leaf x => simp [T.bind, T.pick]
  | ite b t e iht ihe => cases b <;> simp [T.bind, T.pick, iht, ihe]
  | bad => simp [T.bind, T.pick]

def T.ofOption {α : Type} : Option α → T α
  | some x => .leaf x
  | none => .bad

theorem T.pick_ofOption {α : Type} (o : Option α) : (T.ofOption o).pick = o := by cases o <;> rfl

/-- What a piece of the model's code answers that asks no memory. -/
def run0 {α : Type} (P : Program) : Sem α → Option α
  | .pure a => some a
  | .program k => run0 P (k P)
  | .mark _ k => run0 P k
  | _ => none

theorem run0_run {α : Type} {P : Program} (s : Sem α) {a : α} (w : World) (h : run0 P s = some a) : s.run P w = .ok a w := by
  induction s with
  | pure x => simp [run0] at h; subst h; rfl
  | program k ih => exact ih P h
  | mark m k ih => exact ih h
  | _ => simp [run0] at h

def V.ofC : Value → V
  | .agg cs => .agg (cs.toList.map fun x => .q (.c x))
  | .bool b => .kb b
  | v => .q (.c v)

/-- The same of what was reckoned: its truth values are not literal. -/
def V.ofR : Value → V
  | .agg cs => .agg (cs.toList.map fun x => .q (.c x))
  | v => .q (.c v)

theorem denL_closed {S L : Nat → Prop} {θ : Th} {w : World} (l : List Value) : DenL S L θ w (l.map fun x => .q (.c x)) l := by
  induction l with
  | nil => exact .nil
  | cons x l ih => exact .cons _ _ _ _ (.q _ _ (.c x)) ih

theorem den_ofR {S L : Nat → Prop} {θ : Th} {w : World} (v : Value) : Den S L θ w (V.ofR v) v := by
  cases v <;> first | exact .q _ _ (.c _) | skip
  rename_i cs
  have := Den.agg (S := S) (L := L) (θ := θ) (w := w) _ _ (denL_closed (S := S) (L := L) (θ := θ) (w := w) cs.toList)
  simpa [V.ofR] using this

theorem den_ofC {S L : Nat → Prop} {θ : Th} {w : World} (v : Value) : Den S L θ w (V.ofC v) v := by
  cases v <;> first | exact .q _ _ (.c _) | exact .kb _ | skip
  rename_i cs
  have := Den.agg (S := S) (L := L) (θ := θ) (w := w) _ _ (denL_closed (S := S) (L := L) (θ := θ) (w := w) cs.toList)
  simpa [V.ofC] using this

def ev (s : St) : Operand → V
  | .tmp t => (s.tm.getD t .any).unlc
  | .const v => V.ofC v
  | .global g => .q (.c (.pointer (some ⟨g, 0, none⟩)))
  | .func f => .q (.c (.func (.func f) #[] #[]))

section
variable [GW] {P : Program} {J : Jt P} {Am Mi : Nat → Prop} {w0 w : World} {s : St} {θ : Th} {a : Act}

theorem Rep.ev (h : Rep J Am Mi w0 s θ a w) (x : Operand) : Den (Stab Am s.lo θ w) (Liv s.lo) θ w (ev s x) (a.eval x) := by
  cases x with
  | tmp t =>
    simp only [SX.ev, Act.eval, List.getD_eq_getElem?_getD]
    cases ht : s.tm[t]? with
    | none => exact .any _
    | some v =>
      obtain ⟨u, hu, hd⟩ := h.tm t v ht
      simpa [Array.getD_eq_getD_getElem?, hu] using hd.unlc
  | const v => exact den_ofC v
  | global g => exact .q _ _ (.c _)
  | func f => exact .q _ _ (.c _)

/-- The value of a place, as it stands. -/
def evr (s : St) : Operand → V
  | .tmp t => s.tm.getD t .any
  | x => SX.ev s x

theorem Rep.evr (h : Rep J Am Mi w0 s θ a w) (x : Operand) : Den (Stab Am s.lo θ w) (Liv s.lo) θ w (evr s x) (a.eval x) := by
  cases x with
  | tmp t =>
    simp only [SX.evr, Act.eval, List.getD_eq_getElem?_getD]
    cases ht : s.tm[t]? with
    | none => exact .any _
    | some v =>
      obtain ⟨u, hu, hd⟩ := h.tm t v ht
      simpa [Array.getD_eq_getD_getElem?, hu] using hd
  | const v => exact h.ev (.const v)
  | global g => exact h.ev (.global g)
  | func f => exact h.ev (.func f)

/-- A closed value. -/
def V.c1? : V → Option Value
  | .q (.c x) => some x
  | .kb b => some (.bool b)
  | _ => none

def V.cl? : List V → Option (List Value)
  | [] => some []
  | x :: l => match V.c1? x with
    | some v => (V.cl? l).map (v :: ·)
    | none => none

def V.val? : V → Option Value
  | .q (.c x) => some x
  | .kb b => some (.bool b)
  | .agg l => (V.cl? l).map fun vs => .agg vs.toArray
  | _ => none

theorem den_c1 {S L : Nat → Prop} {x : V} {u v : Value} (h : Den S L θ w x u) (e : x.c1? = some v) : u = v := by
  cases h with
  | q y z hq =>
    cases hq with
    | c z => simpa [V.c1?] using e
    | _ => simp [V.c1?] at e
  | kb b => simpa [V.c1?] using e
  | _ => simp [V.c1?] at e

theorem den_cl {S L : Nat → Prop} : ∀ {l : List V} {us vs : List Value}, DenL S L θ w l us → V.cl? l = some vs → us = vs
  | _, _, _, .nil, e => by simpa [V.cl?] using e
  | _, _, vs, .cons x v l us h hl, e => by
    simp only [V.cl?] at e
    cases hx : V.c1? x with
    | none => simp [hx] at e
    | some y =>
      simp only [hx] at e
      cases hr : V.cl? l with
      | none => simp [hr] at e
      | some zs =>
        simp only [hr, Option.map_some, Option.some.injEq] at e
        rw [← e, den_c1 h hx, den_cl hl hr]

theorem den_val {S L : Nat → Prop} {x : V} {u v : Value} (h : Den S L θ w x u) (e : x.val? = some v) : u = v := by
  cases h with
  | q y z hq =>
    cases hq with
    | c z => simpa [V.val?] using e
    | _ => simp [V.val?] at e
  | kb b => simpa [V.val?] using e
  | agg l vs hl =>
    simp only [V.val?] at e
    cases hr : V.cl? l with
    | none => simp [hr] at e
    | some zs =>
      simp only [hr, Option.map_some, Option.some.injEq] at e
      rw [← e, den_cl hl hr]
  | _ => simp [V.val?] at e

def Op.opnds : Op → Array Operand := Op.operands

def isSelect : Op → Bool
  | .select .. => true
  | _ => false

def rhoOf (s : St) (x : Operand) : Value := ((ev s x).val?).getD undef

/-- An operation on closed values that asks no memory: the model's own code, run. -/
def pureOp (P : Program) (o : Oper) (s : St) : Option V :=
  if !isSelect o.op && o.op.operands.all (fun x => ((ev s x).val?).isSome) then
    match run0 P (execOp (rhoOf s) o) with
    | some (.value v) => some (V.ofR v)
    | _ => none
  else none

theorem pureOp_run (h : Rep J Am Mi w0 s θ a w) (o : Oper) {x : V} (e : pureOp P o s = some x) :
    ∃ v, (execOp a.eval o).run P w = .ok (.value v) w ∧ Den (Stab Am s.lo θ w) (Liv s.lo) θ w x v := by
  unfold pureOp at e
  split at e
  · rename_i hc
    simp only [Bool.and_eq_true, Bool.not_eq_true', Array.all_eq_true'] at hc
    have hcong : execOp a.eval o = execOp (rhoOf s) o := by
      refine execOp_congr o (fun cs b hs => by simp [isSelect, hs] at hc) (fun y hy => ?_)
      have h1 := hc.2 y hy
      cases hv : (ev s y).val? with
      | none => simp [hv] at h1
      | some z => simp only [rhoOf, hv, Option.getD_some]; exact den_val (h.ev y) hv
    split at e
    · rename_i v hv
      cases e
      exact ⟨v, by rw [hcong]; exact run0_run _ w hv, den_ofR v⟩
    · cases e
  · cases e

end
end Go.SX

/- What an operation makes of the symbolic state: reading memory, comparing, calling. -/
namespace Go.SX
open Go.RowKit
set_option linter.unusedVariables false
set_option linter.unusedSimpArgs false
set_option linter.unusedSectionVars false

def look {α : Type} : List (Nat × α) → Nat → Option α
  | [], _ => none
  | (k, x) :: l, n => if k == n then some x else look l n

theorem look_mem {α : Type} : ∀ {l : List (Nat × α)} {n : Nat} {x : α}, look l n = some x → (n, x) ∈ l
  | [], _, _, h => by simp [look] at h
  | (k, y) :: l, n, x, h => by
    simp only [look] at h
    split at h
    · rename_i e
      cases h
      have : k = n := by simpa using e
      subst this
      exact List.mem_cons_self
    · exact List.mem_cons_of_mem _ (look_mem h)

/-! ### equality -/
def eqFs (P : Program) (eq1 : TypeId → Value → Value → Option Bool) (xs ys : Array Value) : List Field → Option Bool
  | [] => some true
  | f :: fs =>
    if f.name ≠ "_" then
      match run0 P (part f.type xs f.offset), run0 P (part f.type ys f.offset) with
      | some a, some b => match eq1 f.type a b, eqFs P eq1 xs ys fs with
        | some r, some q => some (bif r then q else false)
        | _, _ => none
      | _, _ => none
    else eqFs P eq1 xs ys fs

def eqIn (P : Program) : Nat → TypeId → Value → Value → Option Bool
  | 0, _, _, _ => none
  | d + 1, t, x, y =>
    match P.underlying t, x, y with
    | some .bool, .bool a, .bool b => some (a == b)
    | some (.int _), .int k a, .int k' b => if k = k' then some (a == b) else none
    | some .string, .string a, .string b => some (a == b)
    | some (.struct fs), .agg xs, .agg ys => if P.stoodInHeld t then none else eqFs P (eqIn P d) xs ys fs.toList
    | _, _, _ => none

theorem underlying_fields {P : Program} {t : TypeId} {fs : Array Field} (h : P.underlying t = some (.struct fs)) : P.fieldsOf t = fs := by simp [Program.fieldsOf, h]

theorem eqFs_run {P : Program} (w : World) (eq1 : TypeId → Value → Value → Option Bool) (D : Nat) (h1 : ∀ t x y r, eq1 t x y = some r → (Op.equalIn D t x y).run P w = .ok r w) (xs ys : Array Value) :
    ∀ (fs : List Field) (r : Bool), eqFs P eq1 xs ys fs = some r → (Op.eqFields D xs ys fs).run P w = .ok r w
  | [], _, h => by simp [eqFs] at h; subst h; rfl
  | f :: fs, r, h => by
    simp only [eqFs] at h
    simp only [Op.eqFields]
    split at h
    · rename_i hn
      rw [if_pos hn]
      split at h
      · rename_i a b ha hb
        split at h
        · rename_i r1 q h2 h3
          cases h
          have e1 := h1 f.type a b r1 h2
          have e2 := eqFs_run w eq1 D h1 xs ys fs q h3
          simp only [Sem.run_bind, run0_run _ w ha, run0_run _ w hb, Result.andThen_ok, e1]
          cases r1 <;> simp [e2]
        · cases h
      · cases h
    · rename_i hn
      rw [if_neg hn]
      exact eqFs_run w eq1 D h1 xs ys fs r h

theorem eqIn_run {P : Program} (w : World) : ∀ (d D : Nat) (t : TypeId) (x y : Value) (r : Bool), d ≤ D → eqIn P d t x y = some r → (Op.equalIn D t x y).run P w = .ok r w
  | 0, _, _, _, _, _, _, h => by simp [eqIn] at h
  | d + 1, D, t, x, y, r, hD, h => by
    obtain ⟨D, rfl⟩ : ∃ m, D = m + 1 := ⟨D - 1, by omega⟩
    simp only [eqIn] at h
    split at h
    · rename_i hu; cases h; simp [Op.equalIn, run_underlying hu]
    · rename_i hu
      split at h
      · rename_i hk; subst hk; cases h; simp [Op.equalIn, run_underlying hu]
      · cases h
    · rename_i hu; cases h; simp [Op.equalIn, run_underlying hu]
    · rename_i fs xs ys hu
      split at h
      · cases h
      · rename_i hs
        rw [run_equalIn_struct w D t xs ys (by rw [underlying_fields hu]; exact hu) (by simpa using hs), underlying_fields hu]
        exact eqFs_run w (eqIn P d) D (fun t x y r => eqIn_run w d D t x y r (by omega)) xs ys fs.toList r h
    · cases h

def eqOp (P : Program) (op : BinOp) (t : TypeId) (x y : V) : Option V :=
  match x.val?, y.val? with
  | some (.agg xs), some (.agg ys) =>
    if P.eqGuardType P.depth t then none else
    match op with
    | .eql => (eqIn P 12 t (.agg xs) (.agg ys)).map fun r => V.b r
    | .neq => (eqIn P 12 t (.agg xs) (.agg ys)).map fun r => V.b (!r)
    | _ => none
  | _, _ => none

/-! ### reading -/
def ptrs (get : Nat → Q) : Nat → Nat → List V
  | _, 0 => []
  | i, k + 1 => .q (get i) :: ptrs get (i + 1) k

theorem ptrs_length (get : Nat → Q) : ∀ k i, (ptrs get i k).length = k
  | 0, _ => rfl
  | k + 1, i => by simp [ptrs, ptrs_length get k (i + 1)]

def readV (P : Program) (t : TypeId) (s : St) (v : V) : T V :=
  match run0 P (isAgg t) with
  | some false => match v with
    | .ptr n off => match s.lo[n]? with
      | some (some (.cells _ cs)) => T.ofOption cs[off]?
      | _ => .bad
    | .q (.sp k get) => if 0 < k then .leaf (.q (get 0)) else .bad
    | .ep n sz i j => match s.lo[n]? with
      | some (some (.vec _ ks len get)) => if j < ks.length && sz == ks.length then .ite (decide (i < len)) (.leaf (.q (nrmG ks (get i) j))) .bad else .bad
      | _ => .bad
    | _ => .bad
  | some true => match run0 P (sizeOf t) with
    | some m => match v with
      | .ptr n off => match s.lo[n]? with
        | some (some (.cells _ cs)) => if off + m ≤ cs.length then .leaf (.agg ((cs.drop off).take m)) else .bad
        | _ => .bad
      | .q (.sp k get) => if m ≤ k then .leaf (.agg (ptrs get 0 m)) else .bad
      | .ep n sz i j => match s.lo[n]? with
        | some (some (.vec _ ks len get)) => if j + m ≤ ks.length && sz == ks.length then .ite (decide (i < len)) (.leaf (.agg (ptrs (nrmG ks (get i)) j m))) .bad else .bad
        | _ => .bad
      | _ => .bad
    | none => .bad
  | none => .bad

section
variable [GW] {P : Program} {J : Jt P} {Am Mi : Nat → Prop} {w0 w : World} {s : St} {θ : Th} {a : Act}

theorem addr_add (b off n : Nat) : (⟨b, off, none⟩ : Addr).add n = ⟨b, off + n, none⟩ := by unfold Addr.add; split <;> simp_all

theorem run_isAgg {t : TypeId} {b : Bool} (h : run0 P (isAgg t) = some b) (w : World) : (isAgg t).run P w = .ok b w := run0_run _ w h

theorem run_loadVar_one {t : TypeId} (h : run0 P (isAgg t) = some false) {x : Addr} {v : Value} (hc : w.cell? x = some v) : (loadVar t x).run P w = .ok v w := by
  simp [loadVar, run0_run _ w h, hc]

theorem run_loadVar_many {t : TypeId} (h : run0 P (isAgg t) = some true) {m : Nat} (hm : run0 P (sizeOf t) = some m) {b off : Nat} {vs : List Value} (hl : vs.length = m)
    (hc : ∀ (j : Nat) v, vs[j]? = some v → w.cell? ⟨b, off + j, none⟩ = some v) : (loadVar t ⟨b, off, none⟩).run P w = .ok (.agg vs.toArray) w := by
  have := run_loadCells_list (P := P) w ⟨b, off, none⟩ vs (fun j v hv => by rw [addr_add]; exact hc j v hv)
  rw [hl] at this
  simp [loadVar, run0_run _ w h, run0_run _ w hm, this]

theorem denL_ptrs {S L : Nat → Prop} {θ : Th} {w : World} (get : Nat → Q) (u : Nat → Value) : ∀ (k i : Nat), (∀ j, i ≤ j → j < i + k → DenQ S w (get j) (u j)) → DenL S L θ w (ptrs get i k) ((List.range k).map fun j => u (i + j))
  | 0, _, _ => .nil
  | k + 1, i, h => by
    rw [List.range_succ_eq_map, List.map_cons, List.map_map]
    refine .cons _ _ _ _ (.q _ _ (h i (Nat.le_refl _) (by omega))) ?_
    have := denL_ptrs (S := S) (L := L) (θ := θ) (w := w) get u k (i + 1) (fun j h1 h2 => h j (by omega) (by omega))
    simpa [ptrs, Function.comp_def, Nat.add_assoc, Nat.add_comm 1] using this

theorem readV_run (h : Rep J Am Mi w0 s θ a w) {t : TypeId} {v x : V} {u : Value} (hu : Den (Stab Am s.lo θ w) (Liv s.lo) θ w v u) (e : (readV P t s v).pick = some x) :
    ∃ y, (Instr.loadAt t u).run P w = .ok y w ∧ Den (Stab Am s.lo θ w) (Liv s.lo) θ w x y := by
  have cells : ∀ n ty cs, s.lo[n]? = some (some (.cells ty cs)) → ∃ vs : List Value, DenL (Stab Am s.lo θ w) (Liv s.lo) θ w cs vs ∧ ∀ (j : Nat) z, vs[j]? = some z → w.cell? ⟨(θ n).blk, j, none⟩ = some z := fun n ty cs hn => by
    obtain ⟨vs, h1, h2⟩ := h.lo n _ hn
    exact ⟨vs, h2, fun j z hz => by rw [cell_of_row w _ j _ _ _ h1]; simpa using hz⟩
  unfold readV at e
  split at e
  · rename_i hag
    split at e
    · rename_i n off
      split at e
      · rename_i ty cs hn
        rw [T.pick_ofOption] at e
        obtain ⟨vs, hd, hc⟩ := cells n ty cs hn
        obtain ⟨z, hz, hdz⟩ := hd.get off x e
        cases hu
        exact ⟨z, by simp [Instr.loadAt, Instr.sureAddr, run_loadVar_one hag (hc off z hz)], hdz⟩
      · simp [T.pick] at e
    · rename_i k get
      split at e
      · rename_i hk
        simp [T.pick] at e
        subst e
        cases hu with
        | q y z hq =>
          cases hq with
          | sp k get b off u' hS hc hd =>
            exact ⟨u' 0, by simp [Instr.loadAt, Instr.sureAddr, run_loadVar_one hag (show w.cell? ⟨b, off, none⟩ = some (u' 0) from by simpa using hc 0 hk)], .q _ _ (hd 0 hk)⟩
      · simp [T.pick] at e
    · rename_i n sz i j
      split at e
      · rename_i ty ks len get hn
        split at e
        · rename_i hc
          simp only [Bool.and_eq_true, decide_eq_true_eq, beq_iff_eq] at hc
          obtain ⟨hj, rfl⟩ := hc
          simp only [T.pick] at e
          by_cases hi : i < len
          · simp [hi] at e
            subst e
            rcases h.lo n _ hn with ⟨_, h0⟩ | ⟨vs, cap, h1, h2, h3, h4, h5, h6⟩
            · omega
            · obtain ⟨_, z, hz, hd⟩ := h6 i j (ks[j]) hi (by simp [hj])
              have hd := hd.nrmG hj (fun k hk => (h6 i j k hi hk).1)
              cases hu
              have hcell : w.cell? ⟨(θ n).blk, i * ks.length + j, none⟩ = some z := by rw [cell_of_row w _ _ _ _ _ h2]; simpa using hz
              exact ⟨z, by simp [Instr.loadAt, Instr.sureAddr, run_loadVar_one hag hcell], .q _ _ hd⟩
          · simp [hi] at e
        · simp [T.pick] at e
      · simp [T.pick] at e
    · simp [T.pick] at e
  · rename_i hag
    split at e
    · rename_i m hm
      split at e
      · rename_i n off
        split at e
        · rename_i ty cs hn
          split at e
          · rename_i hle
            simp [T.pick] at e
            subst e
            obtain ⟨vs, hd, hc⟩ := cells n ty cs hn
            have hlen := hd.length
            cases hu
            refine ⟨_, ?_, .agg _ _ ((hd.drop off).take m)⟩
            have := run_loadVar_many (P := P) (w := w) hag hm (b := (θ n).blk) (off := off) (vs := (vs.drop off).take m) (by simp; omega) (fun j z hz => by
              refine hc (off + j) z ?_
              simp only [List.getElem?_take, List.getElem?_drop] at hz
              split at hz
              · exact hz
              · cases hz)
            simp only [Instr.loadAt, Instr.sureAddr, Sem.run_bind, Sem.run_pure, Result.andThen_ok]
            exact this
          · simp [T.pick] at e
        · simp [T.pick] at e
      · rename_i k get
        split at e
        · rename_i hk
          simp [T.pick] at e
          subst e
          cases hu with
          | q y z hq =>
            cases hq with
            | sp k get b off u' hS hc hd =>
              refine ⟨_, ?_, .agg _ _ (denL_ptrs get u' m 0 (fun j _ hj => hd j (by omega)))⟩
              have := run_loadVar_many (P := P) (w := w) hag hm (b := b) (off := off) (vs := (List.range m).map fun j => u' (0 + j)) (by simp) (fun j z hz => by
                simp only [List.getElem?_map, List.getElem?_range, Option.map_eq_some_iff] at hz
                obtain ⟨j', hj', rfl⟩ := hz
                have hlt : j < m := by
                  by_cases hlt : j < m
                  · exact hlt
                  · simp [hlt] at hj'
                simp [hlt] at hj'
                subst hj'
                simpa using hc j (by omega))
              simp only [Instr.loadAt, Instr.sureAddr, Sem.run_bind, Sem.run_pure, Result.andThen_ok]
              exact this
        · simp [T.pick] at e
      · rename_i n sz i j
        split at e
        · rename_i ty ks len get hn
          split at e
          · rename_i hc
            simp only [Bool.and_eq_true, decide_eq_true_eq, beq_iff_eq] at hc
            obtain ⟨hj, rfl⟩ := hc
            simp only [T.pick] at e
            by_cases hi : i < len
            · simp [hi] at e
              subst e
              rcases h.lo n _ hn with ⟨_, h0⟩ | ⟨vs, cap, h1, h2, h3, h4, h5, h6⟩
              · omega
              · have hex : ∀ j', j' < ks.length → ∃ z, vs[i * ks.length + j']? = some z ∧ DenQ (Stab Am s.lo θ w) w (get i j') z := fun j' hj' => (h6 i j' (ks[j']) hi (by simp [hj'])).2
                have hvs : ∀ j', j' < ks.length → vs[i * ks.length + j']? = some (vs.getD (i * ks.length + j') undef) ∧ DenQ (Stab Am s.lo θ w) w (nrmG ks (get i) j') (vs.getD (i * ks.length + j') undef) := fun j' hj' => by
                  obtain ⟨z, hz, hd⟩ := hex j' hj'
                  have hd := hd.nrmG hj' (fun k hk => (h6 i j' k hi hk).1)
                  simp only [List.getD_eq_getElem?_getD, hz, Option.getD_some]
                  exact ⟨trivial, hd⟩
                cases hu
                refine ⟨_, ?_, .agg _ _ (denL_ptrs (nrmG ks (get i)) (fun j' => vs.getD (i * ks.length + j') undef) m j (fun j' h1' h2' => (hvs j' (by omega)).2))⟩
                have := run_loadVar_many (P := P) (w := w) hag hm (b := (θ n).blk) (off := i * ks.length + j) (vs := (List.range m).map fun j' => vs.getD (i * ks.length + (j + j')) undef) (by simp) (fun j' z hz => by
                  simp only [List.getElem?_map, List.getElem?_range, Option.map_eq_some_iff] at hz
                  obtain ⟨j'', hj'', rfl⟩ := hz
                  have hlt : j' < m := by
                    by_cases hlt : j' < m
                    · exact hlt
                    · simp [hlt] at hj''
                  simp [hlt] at hj''
                  subst hj''
                  rw [Nat.add_assoc, cell_of_row w _ _ _ _ _ h2]
                  simpa using (hvs (j + j') (by omega)).1)
                simp only [Instr.loadAt, Instr.sureAddr, Sem.run_bind, Sem.run_pure, Result.andThen_ok]
                exact this
            · simp [hi] at e
          · simp [T.pick] at e
        · simp [T.pick] at e
      · simp [T.pick] at e
    · simp [T.pick] at e
  · simp [T.pick] at e

end
end Go.SX

/- Maps: the model's own operations on keys that are plain. -/
namespace Go.SX
open Go.RowKit
set_option linter.unusedVariables false
set_option linter.unusedSimpArgs false
set_option linter.unusedSectionVars false

theorem ba_eq {a b : ByteArray} (h : (a == b) = true) : a = b := by
  cases a with | mk x => cases b with | mk y =>
  have h' : (x == y) = true := h
  rw [eq_of_beq h']

theorem ba_refl (a : ByteArray) : (a == a) = true := by
  cases a with | mk x =>
  have h' : (x == x) = true := by simp
  exact h'

def kOfT (P : Program) (t : TypeId) : Option K := match P.underlying t with
  | some (.int k) => some (.int k)
  | some .bool => some .bool
  | some .string => some .str
  | _ => none

def fieldsK (P : Program) : List Field → Nat → Option (List K)
  | [], _ => some []
  | f :: fs, i => if f.name ≠ "_" ∧ f.offset = i then match kOfT P f.type, fieldsK P fs (i + 1) with
      | some k, some ks => some (k :: ks)
      | _, _ => none
    else none

def mkOf (P : Program) (t : TypeId) : Option MK := match P.underlying t with
  | some (.struct fs) => if P.stoodInHeld t then none else (fieldsK P fs.toList 0).map .many
  | _ => (kOfT P t).map .one

def keq1 : Value → Value → Bool
  | .int _ a, .int _ b => a == b
  | .bool a, .bool b => a == b
  | .string a, .string b => a == b
  | _, _ => false

def keqL : List Value → List Value → Bool
  | [], [] => true
  | x :: xs, y :: ys => bif keq1 x y then keqL xs ys else false
  | _, _ => false

def keq : Value → Value → Bool
  | .agg xs, .agg ys => keqL xs.toList ys.toList
  | x, y => keq1 x y

theorem kOfT_inv {P : Program} {t : TypeId} {k : K} (h : kOfT P t = some k) : (∃ q, P.underlying t = some (.int q) ∧ k = .int q) ∨ (P.underlying t = some .bool ∧ k = .bool) ∨ (P.underlying t = some .string ∧ k = .str) := by
  unfold kOfT at h
  split at h
  · rename_i q hu; cases h; exact .inl ⟨q, hu, rfl⟩
  · rename_i hu; cases h; exact .inr (.inl ⟨hu, rfl⟩)
  · rename_i hu; cases h; exact .inr (.inr ⟨hu, rfl⟩)
  · cases h

theorem part0 {P : Program} {t : TypeId} {k : K} (h : kOfT P t = some k) (cs : Array Value) (i : Nat) (v : Value) (hv : cs[i]? = some v) : run0 P (part t cs i) = some v := by
  rcases kOfT_inv h with ⟨q, hu, rfl⟩ | ⟨hu, rfl⟩ | ⟨hu, rfl⟩ <;>
    simp [part, isAgg, underlying, program, run0, Bind.bind, Sem.bind, Pure.pure, hu, hv]

theorem eqIn_one {P : Program} {t : TypeId} {k : K} (h : kOfT P t = some k) {x y : Value} (hx : k.fit x = true) (hy : k.fit y = true) (d : Nat) : eqIn P (d + 1) t x y = some (keq1 x y) := by
  rcases kOfT_inv h with ⟨q, hu, rfl⟩ | ⟨hu, rfl⟩ | ⟨hu, rfl⟩ <;> cases x <;> simp [K.fit] at hx <;> cases y <;> simp [K.fit] at hy
  · subst hx; subst hy; simp [eqIn, hu, keq1]
  · simp [eqIn, hu, keq1]
  · simp [eqIn, hu, keq1]

theorem eqFs_many {P : Program} (d : Nat) (xs ys : Array Value) : ∀ (fs : List Field) (i : Nat) (ks : List K), fieldsK P fs i = some ks → K.fitL ks (xs.toList.drop i) = true → K.fitL ks (ys.toList.drop i) = true →
    eqFs P (eqIn P (d + 1)) xs ys fs = some (keqL (xs.toList.drop i) (ys.toList.drop i))
  | [], i, ks, h, hx, hy => by
    cases h
    cases hx' : xs.toList.drop i with
    | nil => cases hy' : ys.toList.drop i with
      | nil => rfl
      | cons y l => rw [hy'] at hy; simp [K.fitL] at hy
    | cons x l => rw [hx'] at hx; simp [K.fitL] at hx
  | f :: fs, i, ks, h, hx, hy => by
    simp only [fieldsK] at h
    split at h
    · rename_i hc
      split at h
      · rename_i k ks' hk hks
        cases h
        cases hx' : xs.toList.drop i with
        | nil => rw [hx'] at hx; simp [K.fitL] at hx
        | cons x l =>
          cases hy' : ys.toList.drop i with
          | nil => rw [hy'] at hy; simp [K.fitL] at hy
          | cons y l' =>
            rw [hx'] at hx
            rw [hy'] at hy
            simp only [K.fitL, Bool.and_eq_true] at hx hy
            have ex : xs[i]? = some x := by
              have : (xs.toList.drop i)[0]? = some x := by rw [hx']; rfl
              simpa using this
            have ey : ys[i]? = some y := by
              have : (ys.toList.drop i)[0]? = some y := by rw [hy']; rfl
              simpa using this
            have el : xs.toList.drop (i + 1) = l := by
              have : (xs.toList.drop i).tail = l := by rw [hx']; rfl
              simpa using this
            have el' : ys.toList.drop (i + 1) = l' := by
              have : (ys.toList.drop i).tail = l' := by rw [hy']; rfl
              simpa using this
            have ih := eqFs_many d xs ys fs (i + 1) ks' hks (by rw [el]; exact hx.2) (by rw [el']; exact hy.2)
            simp only [eqFs]
            rw [if_pos hc.1, hc.2, part0 hk xs i x ex, part0 hk ys i y ey]
            simp only [eqIn_one hk hx.1 hy.1, ih, el, el', keqL]
      · cases h
    · cases h

theorem equal_run {P : Program} {t : TypeId} {kk : MK} (h : mkOf P t = some kk) {x y : Value} (hx : kk.fit x = true) (hy : kk.fit y = true) (w : World) : (Op.equal t x y).run P w = .ok (keq x y) w := by
  unfold mkOf at h
  split at h
  · rename_i fs hu
    split at h
    · cases h
    · rename_i hs
      simp only [Option.map_eq_some_iff] at h
      obtain ⟨ks, hks, rfl⟩ := h
      cases x <;> simp [MK.fit] at hx
      rename_i xs
      cases y <;> simp [MK.fit] at hy
      rename_i ys
      refine eqIn_run w 2 _ t _ _ _ (by decide) ?_
      have := eqFs_many (P := P) 0 xs ys fs.toList 0 ks hks (by simpa using hx) (by simpa using hy)
      have e2 : eqIn P 2 t (.agg xs) (.agg ys) = eqFs P (eqIn P 1) xs ys fs.toList := by
        rw [eqIn, if_neg hs]
        exact hu
      rw [e2]
      simpa only [keq, List.drop_zero] using this
  · simp only [Option.map_eq_some_iff] at h
    obtain ⟨k, hk, rfl⟩ := h
    have h1 : keq x y = keq1 x y := by
      cases x <;> cases y <;> first | rfl | skip
      simp only [MK.fit] at hx
      cases k <;> simp [K.fit] at hx
    rw [h1]
    exact eqIn_run w 1 _ t _ _ _ (by decide) (eqIn_one hk hx hy 0)

/-- The first entry with that key. -/
def findI (x : Value) : List MapEntry → Nat → Option (Nat × Value)
  | [], _ => none
  | e :: es, i => bif keq x e.key then some (i, e.val) else findI x es (i + 1)

theorem asking_run {P : Program} {t : TypeId} {kk : MK} (h : mkOf P t = some kk) {x : Value} (hx : kk.fit x = true) (w : World) : ∀ (es : List MapEntry) (i : Nat), (∀ e ∈ es, kk.fit e.key = true) → (Instr.findAsking t x es i).run P w = .ok (findI x es i) w
  | [], i, _ => by simp [Instr.findAsking, findI]
  | e :: es, i, he => by
    simp only [Instr.findAsking, findI, Sem.run_bind, equal_run h hx (he e List.mem_cons_self) w, Result.andThen_ok]
    cases keq x e.key with
    | true => simp
    | false => simpa using asking_run h hx w es (i + 1) fun y hy => he y (List.mem_cons_of_mem _ hy)

theorem now_find {d : TypeDesc} {k : K} (hd : (∃ q, d = .int q ∧ k = .int q) ∨ (d = .bool ∧ k = .bool) ∨ (d = .string ∧ k = .str)) {x : Value} (hx : k.fit x = true) : ∀ (es : List MapEntry) (i : Nat), (∀ e ∈ es, k.fit e.key = true) → Instr.findNow d x es i = some (findI x es i)
  | [], i, _ => by simp [Instr.findNow, findI]
  | e :: es, i, he => by
    have ih := now_find hd hx es (i + 1) fun y hy => he y (List.mem_cons_of_mem _ hy)
    have hf := he e List.mem_cons_self
    have key : Instr.sameNow d x e.key = some (keq x e.key) := by
      generalize e.key = y at hf
      rcases hd with ⟨q, rfl, rfl⟩ | ⟨rfl, rfl⟩ | ⟨rfl, rfl⟩ <;> cases x <;> simp [K.fit] at hx <;> cases y <;> simp [K.fit] at hf
      · subst hx; subst hf; simp [Instr.sameNow, keq, keq1]
      · simp [Instr.sameNow, keq, keq1]
      · simp [Instr.sameNow, keq, keq1]
    simp only [Instr.findNow, findI, key]
    cases keq x e.key with
    | true => rfl
    | false => exact ih

theorem find_run {P : Program} {t : TypeId} {kk : MK} (h : mkOf P t = some kk) {x : Value} (hx : kk.fit x = true) (w : World) (es : List MapEntry) (he : ∀ e ∈ es, kk.fit e.key = true) : (Instr.findKey t x es).run P w = .ok (findI x es 0) w := by
  have h' := h
  unfold mkOf at h
  split at h
  · rename_i fs hu
    rw [run_findKey_eq w (by rw [hu])]
    exact asking_run h' hx w es 0 he
  · simp only [Option.map_eq_some_iff] at h
    obtain ⟨k, hk, rfl⟩ := h
    rcases kOfT_inv hk with ⟨q, hu, rfl⟩ | ⟨hu, rfl⟩ | ⟨hu, rfl⟩
    · simp [Instr.findKey, run_underlying hu, now_find (d := .int q) (.inl ⟨q, rfl, rfl⟩) hx es 0 he]
    · simp [Instr.findKey, run_underlying hu, now_find (d := .bool) (.inr (.inl ⟨rfl, rfl⟩)) hx es 0 he]
    · simp [Instr.findKey, run_underlying hu, now_find (d := .string) (.inr (.inr ⟨rfl, rfl⟩)) hx es 0 he]

theorem check_one {P : Program} {t : TypeId} {k : K} (h : kOfT P t = some k) {x : Value} (w : World) (em : Bool) (d : Nat) : (Instr.checkKey em (d + 1) t x).run P w = .ok () w := by
  rcases kOfT_inv h with ⟨q, hu, rfl⟩ | ⟨hu, rfl⟩ | ⟨hu, rfl⟩ <;> simp [Instr.checkKey, run_underlying hu]

theorem check_run {P : Program} {t : TypeId} {kk : MK} (h : mkOf P t = some kk) {x : Value} (hx : kk.fit x = true) (w : World) (em : Bool) : (Instr.checkKey em 10000 t x).run P w = .ok () w := by
  unfold mkOf at h
  split at h
  · rename_i fs hu
    split at h
    · cases h
    · simp only [Option.map_eq_some_iff] at h
      obtain ⟨ks, hks, rfl⟩ := h
      cases x <;> simp [MK.fit] at hx
      rename_i xs
      rw [show (10000 : Nat) = 9998 + 1 + 1 from rfl, Instr.checkKey]
      simp only [Sem.run_bind, run_underlying hu, Result.andThen_ok]
      rw [← Array.forIn_toList]
      have hx' : K.fitL ks (xs.toList.drop 0) = true := by simpa using hx
      clear hx hu
      generalize hL : fs.toList = L at hks
      clear hL
      generalize 0 = i at hks hx'
      induction L generalizing i ks with
      | nil => simp
      | cons f L ih =>
        simp only [fieldsK] at hks
        split at hks
        · rename_i hc
          split at hks
          · rename_i k ks' hk hks'
            cases hks
            cases hxl : xs.toList.drop i with
            | nil => rw [hxl] at hx'; simp [K.fitL] at hx'
            | cons x l =>
              rw [hxl] at hx'
              simp only [K.fitL, Bool.and_eq_true] at hx'
              have ex : xs[i]? = some x := by
                have : (xs.toList.drop i)[0]? = some x := by rw [hxl]; rfl
                simpa using this
              have el : xs.toList.drop (i + 1) = l := by
                have : (xs.toList.drop i).tail = l := by rw [hxl]; rfl
                simpa using this
              have p1 := run0_run _ w (part0 hk xs i x ex)
              simp only [List.forIn_cons, Sem.run_bind, hc.1, hc.2, ne_eq, not_false_eq_true, if_true, Result.andThen_ok, p1, check_one hk, Sem.run_pure]
              exact ih _ _ hks' (by rw [el]; exact hx'.2)
          · cases hks
        · cases hks
  · simp only [Option.map_eq_some_iff] at h
    obtain ⟨k, hk, rfl⟩ := h
    exact check_one hk w em 9999

theorem keq1_eq {k : K} {x y : Value} (hx : k.fit x = true) (hy : k.fit y = true) (h : keq1 x y = true) : x = y := by
  cases k <;> cases x <;> simp [K.fit] at hx <;> cases y <;> simp [K.fit] at hy
  · simp [keq1] at h; subst hx; subst hy; rw [h]
  · simp [keq1] at h; rw [h]
  · rw [ba_eq h]

theorem keqL_eq : ∀ {ks : List K} {xs ys : List Value}, K.fitL ks xs = true → K.fitL ks ys = true → keqL xs ys = true → xs = ys
  | [], [], [], _, _, _ => rfl
  | [], _ :: _, _, h, _, _ => by simp [K.fitL] at h
  | [], [], _ :: _, _, h, _ => by simp [K.fitL] at h
  | _ :: _, [], _, h, _, _ => by simp [K.fitL] at h
  | _ :: _, _ :: _, [], _, h, _ => by simp [K.fitL] at h
  | k :: ks, x :: xs, y :: ys, hx, hy, h => by
    simp only [K.fitL, Bool.and_eq_true] at hx hy
    simp only [keqL] at h
    cases h1 : keq1 x y with
    | false => simp [h1] at h
    | true =>
      simp only [h1, cond_true] at h
      rw [keq1_eq hx.1 hy.1 h1, keqL_eq hx.2 hy.2 h]

theorem keq_eq {kk : MK} {x y : Value} (hx : kk.fit x = true) (hy : kk.fit y = true) (h : keq x y = true) : x = y := by
  cases kk with
  | one k =>
    have h1 : keq x y = keq1 x y := by
      cases x <;> cases y <;> first | rfl | skip
      simp only [MK.fit] at hx
      cases k <;> simp [K.fit] at hx
    rw [h1] at h
    exact keq1_eq hx hy h
  | many ks =>
    cases x <;> simp [MK.fit] at hx
    cases y <;> simp [MK.fit] at hy
    rename_i xs ys
    have := keqL_eq hx hy h
    rw [Array.ext' this]

theorem sameBits_one {k : K} {x : Value} (hx : k.fit x = true) (n : Nat) : Instr.sameBits n x x = true := by
  cases k <;> cases x <;> simp [K.fit] at hx <;> simp [Instr.sameBits, ba_refl]

theorem sameBits_fit {kk : MK} {x : Value} (hx : kk.fit x = true) (n : Nat) : Instr.sameBits (n + 1) x x = true := by
  cases kk with
  | one k => exact sameBits_one hx _
  | many ks =>
    cases x <;> simp [MK.fit] at hx
    rename_i xs
    simp only [Instr.sameBits, beq_self_eq_true, Bool.true_and, List.all_eq_true]
    generalize xs.toList = l at hx
    induction l generalizing ks with
    | nil => intro p hp; simp at hp
    | cons x l ih =>
      cases ks with
      | nil => simp [K.fitL] at hx
      | cons k ks =>
        simp only [K.fitL, Bool.and_eq_true] at hx
        intro p hp
        rw [List.zip_cons_cons] at hp
        cases hp with
        | head => exact sameBits_one hx.1 n
        | tail _ hm => exact ih ks hx.2 p hm

theorem stays_run {P : Program} {kk : MK} {x : Value} (hx : kk.fit x = true) (w : World) : (Instr.keyThatStays x x).run P w = .ok x w := by
  have := sameBits_fit hx 9999
  simp [Instr.keyThatStays, this]

mutual
def K.same : K → K → Bool
  | .int k, .int k' => decide (k = k')
  | .bool, .bool => true
  | .str, .str => true
  | .any, .any => true
  | .lst ks, .lst ks' => K.sames ks ks'
  | _, _ => false
def K.sames : List K → List K → Bool
  | [], [] => true
  | k :: ks, k' :: ks' => K.same k k' && K.sames ks ks'
  | _, _ => false
end
mutual
theorem K.same_eq : ∀ (a b : K), K.same a b = true → a = b
  | .int k, b, h => by cases b <;> simp [K.same] at h; rw [h]
  | .bool, b, h => by cases b <;> simp [K.same] at h; rfl
  | .str, b, h => by cases b <;> simp [K.same] at h; rfl
  | .any, b, h => by cases b <;> simp [K.same] at h; rfl
  | .lst ks, b, h => by cases b <;> simp [K.same] at h; rw [K.sames_eq ks _ h]
theorem K.sames_eq : ∀ (a b : List K), K.sames a b = true → a = b
  | [], b, h => by cases b <;> simp [K.sames] at h; rfl
  | k :: ks, b, h => by
    cases b with
    | nil => simp [K.sames] at h
    | cons k' ks' => simp only [K.sames, Bool.and_eq_true] at h; rw [K.same_eq k k' h.1, K.sames_eq ks ks' h.2]
end

def Q.k : Q → K
  | .c (.int k _) => .int k
  | .c (.bool _) => .bool
  | .c (.string _) => .str
  | .lst ks _ _ => .lst ks
  | _ => .any
theorem Q.k_ok (q : Q) : KOk q.k q := by
  unfold Q.k
  split
  · exact .int _ _
  · exact .bool _
  · exact .str _
  · exact .lst _ _ _
  · exact .any _

def kOk (k : K) (q : Q) : Bool := match k with
  | .any => true
  | k => K.same q.k k
theorem kOk_ok {k : K} {q : Q} (h : kOk k q = true) : KOk k q := by
  unfold kOk at h
  split at h
  · exact .any q
  · rw [← K.same_eq _ _ h]; exact q.k_ok

def V.cells? : V → Option (List V)
  | .agg l => some l
  | .q (.c (.agg _)) => none
  | .tup _ => none
  | .any => none
  | v => some [v]


def qsOf : List V → Option (List Q)
  | [] => some []
  | .q x :: l => (qsOf l).map (x :: ·)
  | .kb b :: l => (qsOf l).map (.c (.bool b) :: ·)
  | _ => none

def kOks : List K → List Q → Bool
  | [], [] => true
  | k :: ks, q :: qs => kOk k q && kOks ks qs
  | _, _ => false


/-! ### entries -/
def findE (key : Value) : List (Value × List Q) → Option (List Q)
  | [] => none
  | (k, q) :: es => bif keq key k then some q else findE key es

def putE (key : Value) (q : List Q) : List (Value × List Q) → List (Value × List Q)
  | [] => [(key, q)]
  | (k, q') :: es => bif keq key k then (key, q) :: es else (k, q') :: putE key q es

def nrmL : List K → List Q → List V
  | [], _ => []
  | k :: ks, qs => .q (nrm k (qs.headD default)) :: nrmL ks qs.tail

def outE (ag : Bool) (vk : List K) (qs : List Q) : V := if ag then .agg (nrmL vk qs) else match nrmL vk qs with
  | [x] => x
  | _ => .any

def zQs : List K → List Value → Option (List Q)
  | [], [] => some []
  | .lst ks :: r, .slice none 0 0 :: vs => (zQs r vs).map (.lst ks 0 (fun _ _ => default) :: ·)
  | k :: r, v :: vs => if kOk k (.c v) then (zQs r vs).map (.c v :: ·) else none
  | _, _ => none

def zOf (P : Program) (et : TypeId) (ag : Bool) (vk : List K) : Option (List Q) := match run0 P (zeroValue et) with
  | some (.agg cs) => if ag then zQs vk cs.toList else none
  | some z => if ag then none else zQs vk [z]
  | none => none

def MK.same : MK → MK → Bool
  | .one k, .one k' => K.same k k'
  | .many ks, .many ks' => K.sames ks ks'
  | _, _ => false

theorem MK.same_eq {a b : MK} (h : MK.same a b = true) : a = b := by
  cases a <;> cases b <;> simp [MK.same] at h
  · rw [K.same_eq _ _ h]
  · rw [K.sames_eq _ _ h]

mutual
/-- The kinds of a type's cells. -/
def kindsT (P : Program) : Nat → TypeId → List K
  | 0, _ => [.any]
  | n + 1, t => match P.underlying t with
    | some (.int k) => [.int k]
    | some .bool => [.bool]
    | some .string => [.str]
    | some (.slice e) => [.lst (kindsT P n e)]
    | some (.struct fs) => kindsFs P n fs.toList
    | _ => [.any]
def kindsFs (P : Program) : Nat → List Field → List K
  | 0, _ => []
  | _, [] => []
  | n + 1, f :: fs => kindsT P n f.type ++ kindsFs P n fs
end

/-- What a map holds. -/
def entsOf (s : St) : V → Option (MK × Bool × List K × List (Value × List Q))
  | .mp n => match s.lo[n]? with
    | some (some (.map kk ag vk es)) => some (kk, ag, vk, es)
    | _ => none
  | .q (.mp kk ag vk es) => some (kk, ag, vk, es)
  | _ => none

def lookV (P : Program) (t : TypeId) (s : St) (m k : V) (ok : Bool) : T V :=
  match P.underlying t, entsOf s m, k.val? with
  | some (.map kt et), some (kk', ag, vk, es), some kv => match mkOf P kt with
    | some kk => match zOf P et ag vk with
      | some zs => if MK.same kk kk' && kk.fit kv && (ag || decide (vk.length = 1)) then
          .leaf (if ok then .tup [outE ag vk ((findE kv es).getD zs), V.b (findE kv es).isSome] else outE ag vk ((findE kv es).getD zs))
        else .bad
      | none => .bad
    | _ => .bad
  | _, _, _ => .bad

section
variable {S L : Nat → Prop} {θ : Th} {w : World} {P : Program}

theorem ents_fit {kk : MK} {ag : Bool} {vk : List K} {es : List (Value × List Q)} {arr : List MapEntry} (h : EntsOK S w kk ag vk es arr) : ∀ e ∈ arr, kk.fit e.key = true := by
  induction h with
  | nil => intro e he; cases he
  | cons key qs us born es arr hf hd _ ih =>
    intro e he
    cases he with
    | head => exact hf
    | tail _ hm => exact ih e hm

theorem ents_find {kk : MK} {ag : Bool} {vk : List K} {key : Value} {es : List (Value × List Q)} {arr : List MapEntry} (h : EntsOK S w kk ag vk es arr) : ∀ i,
    (findI key arr i = none ∧ findE key es = none) ∨ ∃ j v qs us, findI key arr i = some (i + j, v) ∧ findE key es = some qs ∧ v = valOf ag us ∧ DenK S w vk qs us := by
  induction h with
  | nil => intro i; exact .inl ⟨rfl, rfl⟩
  | cons k qs us born es arr hf hd _ ih =>
    intro i
    simp only [findI, findE]
    cases keq key k with
    | true => exact .inr ⟨0, _, qs, us, rfl, rfl, rfl, hd⟩
    | false =>
      rcases ih (i + 1) with ⟨h1, h2⟩ | ⟨j, v, qs', us', h1, h2⟩
      · exact .inl ⟨h1, h2⟩
      · exact .inr ⟨j + 1, v, qs', us', by rw [show i + (j + 1) = i + 1 + j by omega]; exact h1, h2⟩

theorem ents_put {kk : MK} {ag : Bool} {vk : List K} {key : Value} {qs : List Q} {us : List Value} (hk : kk.fit key = true) (hd : DenK S w vk qs us) (clk : Nat) {es : List (Value × List Q)} {arr : List MapEntry} (h : EntsOK S w kk ag vk es arr) : ∀ i,
    (findI key arr i = none ∧ EntsOK S w kk ag vk (putE key qs es) (arr ++ [{ key, val := valOf ag us, born := clk }])) ∨
    ∃ j v e, findI key arr i = some (i + j, v) ∧ arr[j]? = some e ∧ e.key = key ∧ EntsOK S w kk ag vk (putE key qs es) (arr.modify j fun e => { e with key, val := valOf ag us }) := by
  induction h with
  | nil => intro i; exact .inl ⟨rfl, .cons _ _ _ _ _ _ hk hd .nil⟩
  | cons k qs' us' born es arr hf hd' hr ih =>
    intro i
    simp only [findI, putE]
    cases hq : keq key k with
    | true =>
      refine .inr ⟨0, _, _, rfl, rfl, (keq_eq hk hf hq).symm, ?_⟩
      simp only [cond_true, List.modify_zero_cons]
      exact .cons _ _ _ _ _ _ hk hd hr
    | false =>
      rcases ih (i + 1) with ⟨h1, h2⟩ | ⟨j, v, e, h1, h2, h3, h4⟩
      · exact .inl ⟨h1, .cons _ _ _ _ _ _ hf hd' h2⟩
      · refine .inr ⟨j + 1, v, e, by rw [show i + (j + 1) = i + 1 + j by omega]; exact h1, h2, h3, ?_⟩
        simp only [cond_false, List.modify_succ_cons]
        exact .cons _ _ _ _ _ _ hf hd' h4

theorem denK_nrm : ∀ {ks : List K} {qs : List Q} {us : List Value}, DenK S w ks qs us → DenL S L θ w (nrmL ks qs) us
  | _, _, _, .nil => .nil
  | _, _, _, .cons k q u ks qs us hk hd h => .cons _ _ _ _ (.q _ _ (by simp only [List.headD_cons]; rw [nrm_eq hk]; exact hd)) (denK_nrm h)

theorem denK_len {ks : List K} {qs : List Q} {us : List Value} (h : DenK S w ks qs us) : us.length = ks.length := by
  induction h with
  | nil => rfl
  | cons _ _ _ _ _ _ _ _ _ ih => simp [ih]

theorem outE_den {ag : Bool} {vk : List K} {qs : List Q} {us : List Value} (h : DenK S w vk qs us) (hl : (ag || decide (vk.length = 1)) = true) : Den S L θ w (outE ag vk qs) (valOf ag us) := by
  have hd := denK_nrm (L := L) (θ := θ) h
  unfold outE valOf
  cases ag with
  | true => exact .agg _ _ hd
  | false =>
    simp only [Bool.false_or, decide_eq_true_eq] at hl
    simp only [Bool.false_eq_true, if_false]
    generalize nrmL vk qs = l at hd
    cases hd with
    | nil => exact .any _
    | cons x v l vs h1 h2 =>
      cases h2 with
      | nil => exact h1
      | cons => exact .any _

theorem zQs_den : ∀ {ks : List K} {vs : List Value} {qs : List Q}, zQs ks vs = some qs → DenK S w ks qs vs
  | [], [], qs, h => by cases h; exact .nil
  | [], _ :: _, qs, h => by simp [zQs] at h
  | _ :: _, [], qs, h => by simp [zQs] at h
  | k :: r, v :: vs, qs, h => by
    unfold zQs at h
    split at h
    · rename_i h1 _; cases h1
    · rename_i h1 h2
      cases h1; cases h2
      simp only [Option.map_eq_some_iff] at h
      obtain ⟨qs', h', rfl⟩ := h
      exact .cons _ _ _ _ _ _ (.lst _ _ _) (.nil _ _ _ rfl) (zQs_den h')
    · rename_i h1 h2
      cases h1; cases h2
      split at h
      · rename_i hk
        simp only [Option.map_eq_some_iff] at h
        obtain ⟨qs', h', rfl⟩ := h
        exact .cons _ _ _ _ _ _ (kOk_ok hk) (.c _) (zQs_den h')
      · cases h
    · cases h

theorem zOf_den {et : TypeId} {ag : Bool} {vk : List K} {zs : List Q} (h : zOf P et ag vk = some zs) (w' : World) : ∃ us, (zeroValue et).run P w' = .ok (valOf ag us) w' ∧ DenK S w vk zs us := by
  unfold zOf at h
  split at h
  · rename_i cs hz
    split at h
    · rename_i ha
      subst ha
      exact ⟨cs.toList, by rw [run0_run _ w' hz]; simp [valOf], zQs_den h⟩
    · cases h
  · rename_i z hz0 hz
    split at h
    · cases h
    · rename_i ha
      have ha' : ag = false := by simpa using ha
      subst ha'
      exact ⟨[z], by rw [run0_run _ w' hz]; simp [valOf], zQs_den h⟩
  · cases h

end

section
variable [GW] {P : Program} {J : Jt P} {Am Mi : Nat → Prop} {w0 w : World} {s : St} {θ : Th} {a : Act}

theorem denK_fun {S : Nat → Prop} {ks : List SX.K} {qs : List SX.Q} {us : List Value} (h : DenK S w ks qs us) : ∃ u : Nat → Value, qs.length = ks.length ∧ us = (List.range ks.length).map u ∧ (∀ (j : Nat) k q, ks[j]? = some k → qs[j]? = some q → KOk k q) ∧ ∀ (j : Nat) q, qs[j]? = some q → DenQ S w q (u j) := by
  induction h with
  | nil => exact ⟨fun _ => undef, rfl, rfl, fun j k q h => by simp at h, fun j q h => by simp at h⟩
  | cons k q u ks qs us hk hd _ ih =>
    obtain ⟨f, h1, h2, h3, h4⟩ := ih
    refine ⟨fun j => if j = 0 then u else f (j - 1), by simp [h1], ?_, fun j k' q' hk' hq' => ?_, fun j q' hq' => ?_⟩
    · rw [List.length_cons, List.range_succ_eq_map, List.map_cons, List.map_map, h2]
      simp [Function.comp_def]
    · cases j with
      | zero => simp at hk' hq'; subst hk'; subst hq'; exact hk
      | succ j => exact h3 j k' q' (by simpa using hk') (by simpa using hq')
    · cases j with
      | zero => simp at hq'; subst hq'; simpa using hd
      | succ j => simpa using h4 j q' (by simpa using hq')

theorem fun_denK {S : Nat → Prop} : ∀ {ks : List SX.K} {qs : List SX.Q} (u : Nat → Value), qs.length = ks.length → (∀ (j : Nat) k q, ks[j]? = some k → qs[j]? = some q → KOk k q) → (∀ (j : Nat) q, qs[j]? = some q → DenQ S w q (u j)) → DenK S w ks qs ((List.range ks.length).map u)
  | [], [], u, _, _, _ => .nil
  | [], _ :: _, u, h, _, _ => by simp at h
  | _ :: _, [], u, h, _, _ => by simp at h
  | k :: ks, q :: qs, u, h, hk, hd => by
    rw [List.length_cons, List.range_succ_eq_map, List.map_cons, List.map_map]
    exact .cons _ _ _ _ _ _ (hk 0 k q rfl rfl) (hd 0 q rfl) (fun_denK (fun j => u (j + 1)) (by simpa using h) (fun j k' q' h1 h2 => hk (j + 1) k' q' (by simpa using h1) (by simpa using h2)) (fun j q' h1 => hd (j + 1) q' (by simpa using h1)))

theorem ents_fun {S : Nat → Prop} {kk : MK} {ag : Bool} {vk : List SX.K} {es : List (Value × List SX.Q)} {arr : List MapEntry} (h : EntsOK S w kk ag vk es arr) : ∃ u : Nat → Nat → Value, arr.length = es.length ∧
    (∀ (i : Nat) (key : Value) (qs : List SX.Q), es[i]? = some (key, qs) → kk.fit key = true ∧ qs.length = vk.length ∧ ∃ born : Nat, arr[i]? = some ({ key := key, val := valOf ag ((List.range vk.length).map (u i)), born := born } : MapEntry)) ∧
    (∀ (i : Nat) (key : Value) (qs : List SX.Q) (j : Nat) (k : SX.K) (q : SX.Q), es[i]? = some (key, qs) → vk[j]? = some k → qs[j]? = some q → KOk k q) ∧
    (∀ (i : Nat) (key : Value) (qs : List SX.Q) (j : Nat) (q : SX.Q), es[i]? = some (key, qs) → qs[j]? = some q → DenQ S w q (u i j)) := by
  induction h with
  | nil => exact ⟨fun _ _ => undef, rfl, fun i key qs h => by simp at h, fun i key qs j k q h => by simp at h, fun i key qs j q h => by simp at h⟩
  | cons key qs us born es arr hf hd _ ih =>
    obtain ⟨f, h1, h2, h3, h4⟩ := ih
    obtain ⟨u, g1, g2, g3, g4⟩ := denK_fun hd
    refine ⟨fun i => if i = 0 then u else f (i - 1), by simp [h1], fun i key' qs' he => ?_, fun i key' qs' j k q he => ?_, fun i key' qs' j q he => ?_⟩
    · cases i with
      | zero => simp at he; obtain ⟨rfl, rfl⟩ := he; exact ⟨hf, g1, born, by simp [g2]⟩
      | succ i => simpa using h2 i key' qs' (by simpa using he)
    · cases i with
      | zero => simp at he; obtain ⟨rfl, rfl⟩ := he; exact g3 j k q
      | succ i => exact h3 i key' qs' j k q (by simpa using he)
    · cases i with
      | zero => simp at he; obtain ⟨rfl, rfl⟩ := he; simpa using g4 j q
      | succ i => simpa using h4 i key' qs' j q (by simpa using he)

theorem fun_ents {S : Nat → Prop} {kk : MK} {ag : Bool} {vk : List SX.K} : ∀ {es : List (Value × List SX.Q)} {arr : List MapEntry} (u : Nat → Nat → Value), arr.length = es.length →
    (∀ (i : Nat) (key : Value) (qs : List SX.Q), es[i]? = some (key, qs) → kk.fit key = true ∧ qs.length = vk.length ∧ ∃ born : Nat, arr[i]? = some ({ key := key, val := valOf ag ((List.range vk.length).map (u i)), born := born } : MapEntry)) →
    (∀ (i : Nat) (key : Value) (qs : List SX.Q) (j : Nat) (k : SX.K) (q : SX.Q), es[i]? = some (key, qs) → vk[j]? = some k → qs[j]? = some q → KOk k q) →
    (∀ (i : Nat) (key : Value) (qs : List SX.Q) (j : Nat) (q : SX.Q), es[i]? = some (key, qs) → qs[j]? = some q → DenQ S w q (u i j)) → EntsOK S w kk ag vk es arr
  | [], [], u, _, _, _, _ => .nil
  | [], _ :: _, u, h, _, _, _ => by simp at h
  | _ :: _, [], u, h, _, _, _ => by simp at h
  | (key, qs) :: es, e :: arr, u, h, hf, hk, hd => by
    obtain ⟨h1, h2, born, h3⟩ := hf 0 key qs rfl
    simp at h3
    subst h3
    exact .cons _ _ _ _ _ _ h1 (fun_denK (u 0) h2 (fun j k q a b => hk 0 key qs j k q rfl a b) (fun j q a => hd 0 key qs j q rfl a))
      (fun_ents (fun i => u (i + 1)) (by simpa using h) (fun i k q a => by simpa using hf (i + 1) k q (by simpa using a)) (fun i k q j k' q' a => hk (i + 1) k q j k' q' (by simpa using a)) (fun i k q j q' a => hd (i + 1) k q j q' (by simpa using a)))

theorem DenQ.mp_inv {S : Nat → Prop} {kk : MK} {ag : Bool} {vk : List SX.K} {es : List (Value × List SX.Q)} {v : Value} (h : DenQ S w (.mp kk ag vk es) v) :
    ∃ b arr clk, v = .map (some b) ∧ S b ∧ w.heap[b]? = some (.map arr.toArray clk) ∧ EntsOK S w kk ag vk es arr := by
  cases h with
  | mp _ _ _ _ b arr clk u hS hb hl hf hk hd => exact ⟨b, arr, clk, rfl, hS, hb, fun_ents u hl hf hk hd⟩

theorem DenQ.of_ents {S : Nat → Prop} {kk : MK} {ag : Bool} {vk : List SX.K} {es : List (Value × List SX.Q)} {b : Nat} {arr : List MapEntry} {clk : Nat} (hS : S b) (hb : w.heap[b]? = some (.map arr.toArray clk)) (h : EntsOK S w kk ag vk es arr) :
    DenQ S w (.mp kk ag vk es) (.map (some b)) := by
  obtain ⟨u, h1, h2, h3, h4⟩ := ents_fun h
  exact .mp _ _ _ _ b arr clk u hS hb h1 h2 h3 h4

theorem entsOf_den (h : Rep J Am Mi w0 s θ a w) {m : V} {um : Value} (hm : Den (Stab Am s.lo θ w) (Liv s.lo) θ w m um) {kk : MK} {ag : Bool} {vk : List SX.K} {es : List (Value × List SX.Q)} (e : entsOf s m = some (kk, ag, vk, es)) :
    ∃ b arr clk, um = .map (some b) ∧ w.heap[b]? = some (.map arr.toArray clk) ∧ EntsOK (Stab Am s.lo θ w) w kk ag vk es arr := by
  cases hm with
  | mp n hl =>
    simp only [entsOf] at e
    split at e
    · rename_i hlo
      simp only [Option.some.injEq, Prod.mk.injEq] at e
      obtain ⟨rfl, rfl, rfl, rfl⟩ := e
      obtain ⟨arr, clk, h1, h2⟩ := h.lo n _ hlo
      exact ⟨_, arr, clk, rfl, h1, h2⟩
    · cases e
  | q y z hq =>
    cases y with
    | mp =>
      simp only [entsOf, Option.some.injEq, Prod.mk.injEq] at e
      obtain ⟨rfl, rfl, rfl, rfl⟩ := e
      obtain ⟨b, arr, clk, rfl, _, h1, h2⟩ := hq.mp_inv
      exact ⟨_, arr, clk, rfl, h1, h2⟩
    | _ => simp [entsOf] at e
  | _ => simp [entsOf] at e

theorem lookV_run (h : Rep J Am Mi w0 s θ a w) {t : TypeId} {m k x : V} {um uk : Value} (hm : Den (Stab Am s.lo θ w) (Liv s.lo) θ w m um) (hk : Den (Stab Am s.lo θ w) (Liv s.lo) θ w k uk) {ok : Bool} (e : (lookV P t s m k ok).pick = some x) :
    ∃ y, (Instr.lookup t um uk ok).run P w = .ok y w ∧ Den (Stab Am s.lo θ w) (Liv s.lo) θ w x y := by
  unfold lookV at e
  split at e
  · rename_i kt et kk' ag vk es kv hu hen hkv
    split at e
    · rename_i kk hmk
      split at e
      · rename_i zs hz
        split at e
        · rename_i hc
          simp only [Bool.and_eq_true] at hc
          obtain ⟨⟨hsame, hfit⟩, hl⟩ := hc
          obtain rfl := MK.same_eq hsame
          simp only [T.pick, Option.some.injEq] at e
          subst e
          obtain rfl := den_val hk hkv
          obtain ⟨mb, arr, clk, rfl, h1, h2⟩ := entsOf_den h hm hen
          obtain ⟨zus, hzr, hzd⟩ := zOf_den (S := Stab Am s.lo θ w) (w := w) hz w
          have hg : (getObj mb).run P w = .ok (.map arr.toArray clk) w := by simp [getObj, Sem.run, h1]
          have hck := fun em => check_run hmk hfit w em
          have hf := find_run hmk hfit w arr (ents_fit h2)
          rcases ents_find (key := uk) h2 0 with ⟨e1, e2⟩ | ⟨j, v, qs, us, e1, e2, rfl, hd⟩
          · rw [e1] at hf
            rw [e2]
            have hd := outE_den (L := Liv s.lo) (θ := θ) hzd hl
            cases ok with
            | false => exact ⟨_, by simp [Instr.lookup, run_underlying hu, hg, hck, hf, hzr, Result.andThen], hd⟩
            | true => exact ⟨_, by simp [Instr.lookup, run_underlying hu, hg, hck, hf, hzr, Result.andThen], .tup _ [_, _] (.cons _ _ _ _ hd (.cons _ _ _ _ (.q _ _ (.c _)) .nil))⟩
          · rw [e1] at hf
            rw [e2]
            have hd := outE_den (L := Liv s.lo) (θ := θ) hd hl
            cases ok with
            | false => exact ⟨_, by simp [Instr.lookup, run_underlying hu, hg, hck, hf, Result.andThen], hd⟩
            | true => exact ⟨_, by simp [Instr.lookup, run_underlying hu, hg, hck, hf, Result.andThen], .tup _ [_, _] (.cons _ _ _ _ hd (.cons _ _ _ _ (.q _ _ (.c _)) .nil))⟩
        · simp [T.pick] at e
      · simp [T.pick] at e
    · simp [T.pick] at e
  · simp [T.pick] at e

theorem qsOf_den {S L : Nat → Prop} : ∀ {l : List V} {us : List Value} {qs : List SX.Q}, DenL S L θ w l us → qsOf l = some qs → qs.length = us.length ∧ ∀ (j : Nat) (q : SX.Q), qs[j]? = some q → ∃ u, us[j]? = some u ∧ DenQ S w q u
  | _, _, qs, .nil, e => by cases e; exact ⟨rfl, fun j q h => by simp at h⟩
  | _, _, qs, .cons x v l us h hl, e => by
    have key : ∀ y, DenQ S w y v → (qsOf l).map (y :: ·) = some qs → qs.length = (v :: us).length ∧ ∀ (j : Nat) (q : SX.Q), qs[j]? = some q → ∃ u, (v :: us)[j]? = some u ∧ DenQ S w q u := fun y hy e => by
      simp only [Option.map_eq_some_iff] at e
      obtain ⟨r, hr, rfl⟩ := e
      obtain ⟨h1, h2⟩ := qsOf_den hl hr
      refine ⟨by simp [h1], fun j q hq => ?_⟩
      cases j with
      | zero => simp at hq; subst hq; exact ⟨v, rfl, hy⟩
      | succ j => exact h2 j q (by simpa using hq)
    cases h with
    | q y v hy => exact key y hy (by simpa [qsOf] using e)
    | kb b => exact key _ (.c _) (by simpa [qsOf] using e)
    | _ => simp [qsOf] at e

theorem kOks_len : ∀ {ks : List SX.K} {qs : List SX.Q}, kOks ks qs = true → ks.length = qs.length ∧ ∀ (j : Nat) k, ks[j]? = some k → ∃ q, qs[j]? = some q ∧ KOk k q
  | [], [], _ => ⟨rfl, fun j k h => by simp at h⟩
  | k :: ks, q :: qs, h => by
    simp only [kOks, Bool.and_eq_true] at h
    obtain ⟨h1, h2⟩ := kOks_len h.2
    refine ⟨by simp [h1], fun j k' hk => ?_⟩
    cases j with
    | zero => simp at hk; subst hk; exact ⟨q, rfl, kOk_ok h.1⟩
    | succ j => exact h2 j k' (by simpa using hk)
  | [], _ :: _, h => by simp [kOks] at h
  | _ :: _, [], h => by simp [kOks] at h


theorem den_cells {S L : Nat → Prop} {x : V} {u : Value} {cs : List V} (h : Den S L θ w x u) (e : x.cells? = some cs) : DenL S L θ w cs u.cells.toList := by
  cases h with
  | any v => simp [V.cells?] at e
  | q y v hq =>
    cases hq with
    | c z =>
      cases u <;> simp [V.cells?] at e <;> subst e <;> exact .cons _ _ _ _ (.q _ _ (.c _)) .nil
    | nil ks len get h0 => simp [V.cells?] at e; subst e; exact .cons _ _ _ _ (.q _ _ (.nil _ _ _ h0)) .nil
    | lst _ _ _ b off cap u hS hcap hc hk hd => simp [V.cells?] at e; subst e; exact .cons _ _ _ _ (.q _ _ (.lst _ _ _ b off cap u hS hcap hc hk hd)) .nil
    | sp _ _ b off u hS hc hd => simp [V.cells?] at e; subst e; exact .cons _ _ _ _ (.q _ _ (.sp _ _ b off u hS hc hd)) .nil
    | mp _ _ _ _ b arr clk u hS hb hl hf hk hd => simp [V.cells?] at e; subst e; exact .cons _ _ _ _ (.q _ _ (.mp _ _ _ _ b arr clk u hS hb hl hf hk hd)) .nil
  | lc ks len get cap a n hq => simp [V.cells?] at e; subst e; exact .cons _ _ _ _ (.lc _ _ _ _ a n hq) .nil
  | ptr n off h => simp [V.cells?] at e; subst e; exact .cons _ _ _ _ (.ptr _ _ h) .nil
  | ep n sz i j h => simp [V.cells?] at e; subst e; exact .cons _ _ _ _ (.ep _ _ _ _ h) .nil
  | kb b => simp [V.cells?] at e; subst e; exact .cons _ _ _ _ (.kb _) .nil
  | own n a len cap h e' => simp [V.cells?] at e; subst e; exact .cons _ _ _ _ (.own _ _ _ _ h e') .nil
  | mp n h => simp [V.cells?] at e; subst e; exact .cons _ _ _ _ (.mp _ h) .nil
  | yld n h => simp [V.cells?] at e; subst e; exact .cons _ _ _ _ (.yld _ h) .nil
  | clo f caps vs h => simp [V.cells?] at e; subst e; exact .cons _ _ _ _ (.clo _ _ _ h) .nil
  | agg l vs h => simp [V.cells?] at e; subst e; simpa [Value.cells] using h
  | tup l vs h => simp [V.cells?] at e


/-! ### lists made in place -/

end
end Go.SX

/- What is owned, seen as what none owns: for a call that only looks, or when it is handed back. -/
namespace Go.SX
open Go.RowKit
set_option linter.unusedVariables false
set_option linter.unusedSimpArgs false
set_option linter.unusedSectionVars false

abbrev NoL : Nat → Prop := fun _ => False

def toQ0 (lo : List (Option Ob)) : V → Option Q
  | .q x => some x
  | .kb b => some (.c (.bool b))
  | .own n => match lo[n]? with
    | some (some (.vec _ ks len get)) => some (.lst ks len get)
    | _ => none
  | .lc ks len get _ => some (.lst ks len get)
  | .mp n => match lo[n]? with
    | some (some (.map kk ag vk es)) => some (.mp kk ag vk es)
    | _ => none
  | _ => none

def mapO {α β : Type} (f : α → Option β) : List α → Option (List β)
  | [] => some []
  | x :: l => match f x, mapO f l with
    | some y, some r => some (y :: r)
    | _, _ => none

/-- What is handed back names nothing that is owned: what is owned is let go. -/
def toQ : Nat → List (Option Ob) → V → Option Q
  | 0, lo, v => toQ0 lo v
  | k + 1, lo, .ptr n off => match lo[n]? with
    | some (some (.cells _ cs)) => (mapO (toQ k lo) (cs.drop off)).map fun qs => .sp qs.length (fun j => qs.getD j default)
    | _ => none
  | _ + 1, lo, v => toQ0 lo v

def toQs (lo : List (Option Ob)) : List V → Option (List V)
  | [] => some []
  | x :: l => match toQ 3 lo x, toQs lo l with
    | some y, some r => some (.q y :: r)
    | _, _ => none

def letGo1 (lo : List (Option Ob)) : V → Option V
  | .agg l => (toQs lo l).map .agg
  | .clo f l => (toQs lo l).map (.clo f)
  | .any => some .any
  | v => (toQ 3 lo v).map .q

def letGoL (lo : List (Option Ob)) : List V → Option (List V)
  | [] => some []
  | x :: l => match letGo1 lo x, letGoL lo l with
    | some y, some r => some (y :: r)
    | _, _ => none

def letGo (lo : List (Option Ob)) : V → Option V
  | .tup l => (letGoL lo l).map .tup
  | v => letGo1 lo v

section
variable [GW] {P : Program} {J : Jt P} {Am Mi : Nat → Prop} {w0 w : World} {s : St} {θ : Th} {a : Act}

theorem toQ0_den (h : Rep J Am Mi w0 s θ a w) {lo' : List (Option Ob)} (hlo : ∀ (n : Nat) (o : Ob), lo'[n]? = some (some o) → s.lo[n]? = some (some o)) {S' : Nat → Prop} (hS : ∀ b, Stab Am s.lo θ w b → S' b) (hO : ∀ (n : Nat) (o : Ob) (b : Nat), lo'[n]? = some (some o) → uses θ n o b → S' b)
    {v : V} {u : Value} {x : Q} (hd : Den (Stab Am s.lo θ w) (Liv s.lo) θ w v u) (e : toQ0 lo' v = some x) : DenQ S' w x u := by
  cases hd with
  | q y u hq => simp only [toQ0, Option.some.injEq] at e; subst e; exact hq.mono hS (fun _ _ => rfl)
  | kb b => simp only [toQ0, Option.some.injEq] at e; subst e; exact .c _
  | lc ks len get cap a n hq => simp only [toQ0, Option.some.injEq] at e; subst e; exact hq.mono hS (fun _ _ => rfl)
  | mp n hL =>
    simp only [toQ0] at e
    split at e
    · rename_i kk ag vk es hn
      cases e
      obtain ⟨arr, clk, h1, h2⟩ := h.lo n _ (hlo n _ hn)
      exact .of_ents (hO n _ _ hn rfl) h1 (h2.mono hS (fun _ _ => rfl))
    · cases e
  | own n ad len cap hL hsl =>
    simp only [toQ0] at e
    split at e
    · rename_i t ks len2 get hn
      cases e
      rcases h.lo n _ (hlo n _ hn) with ⟨h1, h0⟩ | ⟨vs, cap', h1, h2, h3, h4, h5, h6⟩
      · rw [h1] at hsl; cases hsl; exact .nil _ _ _ h0
      · rw [h1] at hsl
        cases hsl
        have hex : ∀ i j, i < len → j < ks.length → ∃ z, vs[i * ks.length + j]? = some z ∧ DenQ (Stab Am s.lo θ w) w (get i j) z := fun i j hi hj => (h6 i j (ks[j]) hi (by simp [hj])).2
        refine .lst _ _ _ (θ n).blk 0 cap (fun i j => vs.getD (i * ks.length + j) undef) (hO n _ _ hn ⟨rfl, by rw [h1]; simp⟩) ⟨h4.1, Nat.le_trans h4.1 h4.2⟩ (fun i j hi hj => ?_) (fun i j k hi hk => (h6 i j k hi hk).1) (fun i j hi hj => ?_)
        · obtain ⟨z, hz, _⟩ := hex i j hi hj
          rw [Nat.zero_add, cell_of_row w _ _ _ _ _ h2]
          simp only [List.getElem?_toArray, hz, List.getD_eq_getElem?_getD, Option.getD_some]
        · obtain ⟨z, hz, hd⟩ := hex i j hi hj
          simp only [List.getD_eq_getElem?_getD, hz, Option.getD_some]
          exact hd.mono hS (fun _ _ => rfl)
    · cases e
  | _ => simp [toQ0] at e

theorem mapO_get {α β : Type} {f : α → Option β} : ∀ {l : List α} {r : List β}, mapO f l = some r → r.length = l.length ∧ ∀ (i : Nat) (x : α), l[i]? = some x → ∃ y, r[i]? = some y ∧ f x = some y
  | [], r, h => by cases h; exact ⟨rfl, fun i x hx => by simp at hx⟩
  | x :: l, r, h => by
    simp only [mapO] at h
    split at h
    · rename_i y r' hy hr
      cases h
      obtain ⟨h1, h2⟩ := mapO_get hr
      refine ⟨by simp [h1], fun i z hz => ?_⟩
      cases i with
      | zero => simp at hz; subst hz; exact ⟨y, rfl, hy⟩
      | succ i => exact h2 i z (by simpa using hz)
    · cases h

theorem toQ_den (h : Rep J Am Mi w0 s θ a w) {lo' : List (Option Ob)} (hlo : ∀ (n : Nat) (o : Ob), lo'[n]? = some (some o) → s.lo[n]? = some (some o)) {S' : Nat → Prop} (hS : ∀ b, Stab Am s.lo θ w b → S' b) (hO : ∀ (n : Nat) (o : Ob) (b : Nat), lo'[n]? = some (some o) → uses θ n o b → S' b) :
    ∀ (k : Nat) {v : V} {u : Value} {x : Q}, Den (Stab Am s.lo θ w) (Liv s.lo) θ w v u → toQ k lo' v = some x → DenQ S' w x u
  | 0, v, u, x, hd, e => toQ0_den h hlo hS hO hd e
  | k + 1, v, u, x, hd, e => by
    unfold toQ at e
    split at e
    · rename_i h0
      cases h0
    · rename_i k' n off h0
      cases h0
      split at e
      · rename_i t cs hn
        simp only [Option.map_eq_some_iff] at e
        obtain ⟨qs, hqs, rfl⟩ := e
        obtain ⟨rfl, _⟩ := hd.ptr_inv
        obtain ⟨vs, h1, h2⟩ := h.lo n _ (hlo n _ hn)
        obtain ⟨hl, hg⟩ := mapO_get hqs
        have key : ∀ j, j < qs.length → ∃ z, vs[off + j]? = some z ∧ DenQ S' w (qs.getD j default) z := fun j hj => by
          have hj' : j < (cs.drop off).length := by omega
          obtain ⟨y, hy, hf⟩ := hg j _ (List.getElem?_eq_getElem hj')
          have hcs : cs[off + j]? = some ((cs.drop off)[j]) := by
            rw [← List.getElem?_drop]; exact List.getElem?_eq_getElem hj'
          obtain ⟨z, hz, hdz⟩ := h2.get _ _ hcs
          refine ⟨z, hz, ?_⟩
          simp only [List.getD_eq_getElem?_getD, hy, Option.getD_some]
          exact toQ_den h hlo hS hO k hdz hf
        refine .sp _ _ (θ n).blk off (fun j => vs.getD (off + j) undef) (hO n _ _ hn rfl) (fun j hj => ?_) (fun j hj => ?_)
        · obtain ⟨z, hz, _⟩ := key j hj
          rw [cell_of_row w _ _ _ _ _ h1]
          simp only [List.getElem?_toArray, hz, List.getD_eq_getElem?_getD, Option.getD_some]
        · obtain ⟨z, hz, hdz⟩ := key j hj
          have e1 : vs.getD (off + j) undef = z := by rw [List.getD_eq_getElem?_getD, hz]; rfl
          rw [e1]
          exact hdz
      · cases e
    · exact toQ0_den h hlo hS hO hd e

theorem toQs_den (h : Rep J Am Mi w0 s θ a w) {lo' : List (Option Ob)} (hlo : ∀ (n : Nat) (o : Ob), lo'[n]? = some (some o) → s.lo[n]? = some (some o)) {S' : Nat → Prop} (hS : ∀ b, Stab Am s.lo θ w b → S' b) (hO : ∀ (n : Nat) (o : Ob) (b : Nat), lo'[n]? = some (some o) → uses θ n o b → S' b) :
    ∀ {l r : List V} {us : List Value}, DenL (Stab Am s.lo θ w) (Liv s.lo) θ w l us → toQs lo' l = some r → DenL S' NoL th0 w r us
  | [], r, us, hd, e => by cases e; cases hd; exact .nil
  | x :: l, r, us, hd, e => by
    cases hd with
    | cons x v l vs hx hl =>
      simp only [toQs] at e
      split at e
      · rename_i y r' hy hr
        cases e
        exact .cons _ _ _ _ (.q _ _ (toQ_den h hlo hS hO 3 hx hy)) (toQs_den h hlo hS hO hl hr)
      · cases e

theorem letGo1_den (h : Rep J Am Mi w0 s θ a w) {lo' : List (Option Ob)} (hlo : ∀ (n : Nat) (o : Ob), lo'[n]? = some (some o) → s.lo[n]? = some (some o)) {S' : Nat → Prop} (hS : ∀ b, Stab Am s.lo θ w b → S' b) (hO : ∀ (n : Nat) (o : Ob) (b : Nat), lo'[n]? = some (some o) → uses θ n o b → S' b)
    {v r : V} {u : Value} (hd : Den (Stab Am s.lo θ w) (Liv s.lo) θ w v u) (e : letGo1 lo' v = some r) : Den S' NoL th0 w r u := by
  unfold letGo1 at e
  split at e
  · rename_i l
    simp only [Option.map_eq_some_iff] at e
    obtain ⟨r', hr, rfl⟩ := e
    cases hd with
    | agg l vs hl => exact .agg _ _ (toQs_den h hlo hS hO hl hr)
  · rename_i f l
    simp only [Option.map_eq_some_iff] at e
    obtain ⟨r', hr, rfl⟩ := e
    cases hd with
    | clo f l vs hl => exact .clo _ _ _ (toQs_den h hlo hS hO hl hr)
  · cases e; exact .any _
  · simp only [Option.map_eq_some_iff] at e
    obtain ⟨x, hx, rfl⟩ := e
    exact .q _ _ (toQ_den h hlo hS hO 3 hd hx)

theorem letGoL_den (h : Rep J Am Mi w0 s θ a w) {lo' : List (Option Ob)} (hlo : ∀ (n : Nat) (o : Ob), lo'[n]? = some (some o) → s.lo[n]? = some (some o)) {S' : Nat → Prop} (hS : ∀ b, Stab Am s.lo θ w b → S' b) (hO : ∀ (n : Nat) (o : Ob) (b : Nat), lo'[n]? = some (some o) → uses θ n o b → S' b) :
    ∀ {l r : List V} {us : List Value}, DenL (Stab Am s.lo θ w) (Liv s.lo) θ w l us → letGoL lo' l = some r → DenL S' NoL th0 w r us
  | [], r, us, hd, e => by cases e; cases hd; exact .nil
  | x :: l, r, us, hd, e => by
    cases hd with
    | cons x v l vs hx hl =>
      simp only [letGoL] at e
      split at e
      · rename_i y r' hy hr
        cases e
        exact .cons _ _ _ _ (letGo1_den h hlo hS hO hx hy) (letGoL_den h hlo hS hO hl hr)
      · cases e

theorem letGo_den (h : Rep J Am Mi w0 s θ a w) {lo' : List (Option Ob)} (hlo : ∀ (n : Nat) (o : Ob), lo'[n]? = some (some o) → s.lo[n]? = some (some o)) {S' : Nat → Prop} (hS : ∀ b, Stab Am s.lo θ w b → S' b) (hO : ∀ (n : Nat) (o : Ob) (b : Nat), lo'[n]? = some (some o) → uses θ n o b → S' b)
    {v r : V} {u : Value} (hd : Den (Stab Am s.lo θ w) (Liv s.lo) θ w v u) (e : letGo lo' v = some r) : Den S' NoL th0 w r u := by
  unfold letGo at e
  split at e
  · rename_i l
    simp only [Option.map_eq_some_iff] at e
    obtain ⟨r', hr, rfl⟩ := e
    cases hd with
    | tup l vs hl => exact .tup _ _ (letGoL_den h hlo hS hO hl hr)
  · exact letGo1_den h hlo hS hO hd e


/-- A closed value, or some. -/
def V.shut1 : V → Bool
  | .q (.c _) => true
  | .kb _ => true
  | .agg l => (V.cl? l).isSome
  | _ => false

def V.shut : V → Bool
  | .tup l => l.all V.shut1
  | v => v.shut1

theorem den_c1s {S L S' L' : Nat → Prop} {θ θ' : Th} {w w' : World} : ∀ {l : List V} {us : List Value}, DenL S L θ w l us → (V.cl? l).isSome = true → DenL S' L' θ' w' l us
  | _, _, .nil, _ => .nil
  | _, _, .cons x v l us h hl, e => by
    simp only [V.cl?] at e
    cases hx : V.c1? x with
    | none => simp [hx] at e
    | some y =>
      simp only [hx, Option.isSome_map] at e
      refine .cons _ _ _ _ ?_ (den_c1s hl e)
      have := den_c1 h hx
      subst this
      cases x with
      | q z => cases z <;> simp [V.c1?] at hx; subst hx; exact .q _ _ (.c _)
      | kb b => simp [V.c1?] at hx; subst hx; exact .kb _
      | _ => simp [V.c1?] at hx

theorem den_shut1 {S L S' L' : Nat → Prop} {θ θ' : Th} {w w' : World} {x : V} {u : Value} (h : Den S L θ w x u) (e : x.shut1 = true) : Den S' L' θ' w' x u := by
  cases h with
  | q y u hq =>
    cases hq with
    | c z => exact .q _ _ (.c _)
    | _ => simp [V.shut1] at e
  | kb b => exact .kb _
  | agg l vs hl => exact .agg _ _ (den_c1s hl e)
  | _ => simp [V.shut1] at e

theorem den_shuts {S L S' L' : Nat → Prop} {θ θ' : Th} {w w' : World} : ∀ {l : List V} {us : List Value}, DenL S L θ w l us → l.all V.shut1 = true → DenL S' L' θ' w' l us
  | _, _, .nil, _ => .nil
  | _, _, .cons x v l us h hl, e => by
    simp only [List.all_cons, Bool.and_eq_true] at e
    exact .cons _ _ _ _ (den_shut1 h e.1) (den_shuts hl e.2)

theorem den_shut {S L S' L' : Nat → Prop} {θ θ' : Th} {w w' : World} {x : V} {u : Value} (h : Den S L θ w x u) (e : x.shut = true) : Den S' L' θ' w' x u := by
  cases h with
  | tup l vs hl => exact .tup _ _ (den_shuts hl e)
  | any v => simp [V.shut, V.shut1] at e
  | q y u hq => exact den_shut1 (L := L) (θ := θ) (.q _ _ hq) e
  | kb b => exact .kb _
  | agg l vs hl => exact den_shut1 (.agg _ _ hl) e
  | _ => simp [V.shut, V.shut1] at e

end
end Go.SX

/- What an operation makes of the symbolic state: the operations that yield a value and write nothing. -/
namespace Go.SX
open Go.RowKit
set_option linter.unusedVariables false
set_option linter.unusedSimpArgs false
set_option linter.unusedSectionVars false

theorem callsIn_FW {r : Option Nat} {n : Nat} {P : Program} {f : FuncId} {args : Array Value} {w : World} {R : Ending → World → Prop} (h : Calls P f args w R) : CallsIn (FW r) n P f args w R :=
  (callsIn_wide (n := n)).2 h

def V.free1 : V → Bool
  | .q _ => true
  | .kb _ => true
  | _ => false

def V.free : V → Bool
  | .q _ => true
  | .kb _ => true
  | .agg l => l.all V.free1
  | .clo _ l => l.all V.free1
  | _ => false

theorem den_free1 {S L L' : Nat → Prop} {θ θ' : Th} {w : World} {x : V} {v : Value} (h : Den S L θ w x v) (e : x.free1 = true) : Den S L' θ' w x v := by
  cases h with
  | q x v h => exact .q x v h
  | kb b => exact .kb b
  | _ => simp [V.free1] at e

theorem denL_free1 {S L L' : Nat → Prop} {θ θ' : Th} {w : World} : ∀ {l : List V} {vs : List Value}, DenL S L θ w l vs → l.all V.free1 = true → DenL S L' θ' w l vs
  | _, _, .nil, _ => .nil
  | _, _, .cons x v l vs h hl, e => by
    simp only [List.all_cons, Bool.and_eq_true] at e
    exact .cons _ _ _ _ (den_free1 h e.1) (denL_free1 hl e.2)

theorem den_free {S L L' : Nat → Prop} {θ θ' : Th} {w : World} {x : V} {v : Value} (h : Den S L θ w x v) (e : x.free = true) : Den S L' θ' w x v := by
  cases h with
  | q x v h => exact .q x v h
  | kb b => exact .kb b
  | agg l vs h => exact .agg l vs (denL_free1 h e)
  | clo f l vs h => exact .clo f l vs (denL_free1 h e)
  | _ => simp [V.free] at e

theorem denL_free {S L L' : Nat → Prop} {θ θ' : Th} {w : World} : ∀ {l : List V} {vs : List Value}, DenL S L θ w l vs → l.all V.free = true → DenL S L' θ' w l vs
  | _, _, .nil, _ => .nil
  | _, _, .cons x v l vs h hl, e => by
    simp only [List.all_cons, Bool.and_eq_true] at e
    exact .cons _ _ _ _ (den_free h e.1) (denL_free hl e.2)

def entersB (P : Program) (f : Nat) : Bool :=
  match P.funcs[f]? with
  | some fn => fn.body.isSome && !(fn.name == "runtime.NumGoroutine")
  | none => false

theorem run_enters {P : Program} {f : Nat} (h : entersB P f = true) (args : Array Value) (w : World) : (callFunc f args).run P w = .ok (.enter f args) w := by
  unfold entersB at h
  split at h
  · rename_i fn hf
    simp only [Bool.and_eq_true, Bool.not_eq_true'] at h
    have hb : fn.body.isNone = false := by
      cases hb : fn.body <;> simp [hb] at h ⊢
    have hn : ¬ fn.name = "runtime.NumGoroutine" := by simpa using h.2
    have hb' : ¬ fn.body = none := by intro e; simp [e] at hb
    simp [callFunc, run_program, hf, hn, hb']
  · cases h

/-- A function's contract: on arguments that name nothing owned, it hands back what sp says, and leaves all that was. -/
def SpecOK [GW] (P : Program) (f : Nat) (sp : List V → T V) : Prop :=
  entersB P f = true ∧ ∀ (S : Nat → Prop) (w : World) (args : List V) (vals : List Value) (r : V), (∀ b, S b → b < w.heap.size) → GLw w → (∀ x ∈ GW.gl, S x.1) → DenL S NoL th0 w args vals → (sp args).pick = some r →
    Calls P f vals.toArray w fun e w' => ∃ v, e = .returned v ∧ Below w.heap.size w w' ∧ Den (fun b => S b ∨ (w.heap.size ≤ b ∧ b < w'.heap.size)) NoL th0 w' r v

/-- What a call comes to that is lent something, or hands something over. Names: 0 what was lent, 1 what is new. -/
structure XOut where
  lent : Option Ob
  new : Option Ob
  r : V

/-- What a call comes to that is lent several things: what they are then, and what is new; the result. -/
structure MOut where
  lo : List (Option Ob)
  r : V

inductive Spec where
  | f (sp : List V → T V)
  | m (sp : List (Option Ob) → List V → T MOut)
  | x (lend : Bool) (sp : Option Ob → List V → T XOut)
  | g (v : Value)

instance : Coe (List V → T V) Spec := ⟨.f⟩

def XS (w : World) (S : Nat → Prop) (w' : World) (θ' : Th) (x : XOut) (b : Nat) : Prop := (S b ∨ (w.heap.size ≤ b ∧ b < w'.heap.size)) ∧ ∀ o, x.new = some o → ¬ uses θ' 1 o b

/-- The contract of a function that is lent one object (by its first argument), or hands a new one over. -/
def SpecX [GW] (P : Program) (f : Nat) (lend : Bool) (sp : Option Ob → List V → T XOut) : Prop :=
  entersB P f = true ∧ ∀ (S : Nat → Prop) (w : World) (θ : Th) (ls : Option Ob) (args : List V) (vals : List Value) (x : XOut), (∀ b, S b → b < w.heap.size) → GLw w → (∀ x ∈ GW.gl, S x.1) → ls.isSome = lend →
    (∀ o, ls = some o → ∃ t cs, o = .cells t cs ∧ Holds S NoL θ w 0 o ∧ (θ 0).blk < w.heap.size ∧ ¬ S (θ 0).blk) → DenL S (fun n => n = 0 ∧ lend = true) θ w args vals → (sp ls args).pick = some x →
    Calls P f vals.toArray w fun e w' => ∃ (v : Value) (θ' : Th), e = .returned v ∧ θ' 0 = θ 0 ∧ w'.os = w.os ∧ w'.tape = w.tape ∧ w'.output = w.output ∧ w.heap.size ≤ w'.heap.size ∧
      (∀ b, b < w.heap.size → ¬ (lend = true ∧ b = (θ 0).blk) → w'.heap[b]? = w.heap[b]?) ∧ x.lent.isSome = lend ∧
      (∀ o, x.lent = some o → ∃ t cs, o = .cells t cs ∧ Holds (XS w S w' θ' x) NoL θ' w' 0 o) ∧
      (∀ o, x.new = some o → Holds (XS w S w' θ' x) NoL θ' w' 1 o ∧ (∀ go adm, o ≠ .yl go adm) ∧ ∀ b, uses θ' 1 o b → w.heap.size ≤ b ∧ b < w'.heap.size) ∧
      Den (XS w S w' θ' x) (fun n => (n = 0 ∧ lend = true) ∨ (n = 1 ∧ x.new.isSome)) θ' w' x.r v

/-- What may be lent; what may come back. -/
def inOb : Ob → Bool
  | .cells .. | .map .. | .vec .. | .siter .. => true
  | _ => false
def outOb : Ob → Bool
  | .cells .. | .map .. | .vec .. | .siter .. | .gone | .dead | .deads => true
  | _ => false

def XM (w : World) (S : Nat → Prop) (lo : List (Option Ob)) (θ : Th) (w' : World) (θ' : Th) (lo' : List (Option Ob)) (b : Nat) : Prop :=
  ((S b ∨ (w.heap.size ≤ b ∧ b < w'.heap.size)) ∨ ∃ n o, lo[n]? = some (some o) ∧ uses θ n o b) ∧ ∀ n o, lo'[n]? = some (some o) → ¬ uses θ' n o b

/-- The contract of a function that is lent several things: all that its arguments lead to. -/
def SpecM [GW] (P : Program) (f : Nat) (sp : List (Option Ob) → List V → T MOut) : Prop :=
  entersB P f = true ∧ ∀ (S : Nat → Prop) (w : World) (θ : Th) (lo : List (Option Ob)) (args : List V) (vals : List Value) (x : MOut), (∀ b, S b → b < w.heap.size) → GLw w → (∀ x ∈ GW.gl, S x.1) →
    (∀ n o, lo[n]? = some (some o) → inOb o = true ∧ Holds S (Liv lo) θ w n o ∧ ∀ b, uses θ n o b → b < w.heap.size ∧ ¬ S b) →
    (∀ n m o o' b, lo[n]? = some (some o) → lo[m]? = some (some o') → n ≠ m → uses θ n o b → ¬ uses θ m o' b) → DenL S (Liv lo) θ w args vals → (sp lo args).pick = some x →
    Calls P f vals.toArray w fun e w' => ∃ (v : Value) (θ' : Th), e = .returned v ∧ (∀ n, n < lo.length → θ' n = θ n) ∧ w'.os = w.os ∧ w'.tape = w.tape ∧ w'.output = w.output ∧ w.heap.size ≤ w'.heap.size ∧
      (∀ b, b < w.heap.size → (∀ n o, lo[n]? = some (some o) → ¬ uses θ n o b) → w'.heap[b]? = w.heap[b]?) ∧ (∀ n, Liv lo n → Liv x.lo n) ∧
      (∀ n o, x.lo[n]? = some (some o) → outOb o = true ∧ Holds (XM w S lo θ w' θ' x.lo) (Liv x.lo) θ' w' n o ∧ ∀ b, uses θ' n o b → ((∃ m o', lo[m]? = some (some o') ∧ uses θ m o' b) ∨ w.heap.size ≤ b) ∧ b < w'.heap.size) ∧
      (∀ n m o o' b, x.lo[n]? = some (some o) → x.lo[m]? = some (some o') → n ≠ m → uses θ' n o b → ¬ uses θ' m o' b) ∧ Den (XM w S lo θ w' θ' x.lo) (Liv x.lo) θ' w' x.r v

abbrev Gam := List (Nat × Spec)

def SpecAny [GW] (P : Program) (f : Nat) : Spec → Prop
  | .f sp => SpecOK P f sp
  | .m sp => SpecM P f sp
  | .x lend sp => SpecX P f lend sp
  | .g v => ∃ g, f = g + 1048576 ∧ (g, 0, v) ∈ GW.gl

def GOK [GW] (P : Program) (Γ : Gam) : Prop := ∀ p, p ∈ Γ → SpecAny P p.1 p.2

theorem GOK.nil [GW] (P : Program) : GOK P [] := fun _ h => by cases h
theorem GOK.cons [GW] {P : Program} {f : Nat} {sp : List V → T V} {Γ : Gam} (h : SpecOK P f sp) (hΓ : GOK P Γ) : GOK P ((f, .f sp) :: Γ) := fun p hp => by
  cases hp with
  | head => exact h
  | tail _ hm => exact hΓ p hm
theorem GOK.consX [GW] {P : Program} {f : Nat} {lend : Bool} {sp : Option Ob → List V → T XOut} {Γ : Gam} (h : SpecX P f lend sp) (hΓ : GOK P Γ) : GOK P ((f, .x lend sp) :: Γ) := fun p hp => by
  cases hp with
  | head => exact h
  | tail _ hm => exact hΓ p hm

theorem GOK.consM [GW] {P : Program} {f : Nat} {sp : List (Option Ob) → List V → T MOut} {Γ : Gam} (h : SpecM P f sp) (hΓ : GOK P Γ) : GOK P ((f, .m sp) :: Γ) := fun p hp => by
  cases hp with
  | head => exact h
  | tail _ hm => exact hΓ p hm

theorem GOK.consG [GW] {P : Program} {g : Nat} {v : Value} {Γ : Gam} (h : (g, 0, v) ∈ GW.gl) (hΓ : GOK P Γ) : GOK P ((g + 1048576, .g v) :: Γ) := fun p hp => by
  cases hp with
  | head => exact ⟨g, rfl, h⟩
  | tail _ hm => exact hΓ p hm

/-- A package variable that is laid. -/
def globV (P : Program) (Γ : Gam) (t : TypeId) (g : Nat) : T V := match look Γ (g + 1048576), run0 P (isAgg t) with
  | some (.g v), some false => .leaf (.q (.c v))
  | _, _ => .bad

def V.bool? : V → Option Bool
  | .q (.c (.bool b)) => some b
  | .kb b => some b
  | _ => none

def V.int? : V → Option (IntKind × Int)
  | .q (.c (.int k n)) => some (k, n)
  | _ => none

def pickV (c x y : V) : Option V :=
  match c with
  | .kb true => some x
  | .kb false => some y
  | .q (.c (.bool b)) =>
    match x.bool?, y.bool? with
    | some p, some q => some (V.b (bif b then p else q))
    | _, _ => match x.int?, y.int? with
      | some (k, m), some (k', n) => if k = k' then some (V.int k (bif b then m else n)) else none
      | _, _ => none
  | _ => none

/-- A field's place, in cells. -/
def fieldOff (P : Program) (t : TypeId) (f : Nat) : Option Nat := run0 P (do
  let .struct fields ← underlying t | stuck ""
  let some fd := fields[f]? | stuck ""
  if (← sizeOf fd.type) = 0 then stuck "" else pure fd.offset)

def elemSize (P : Program) (t : TypeId) : Option Nat := run0 P (do
  let .slice e ← underlying t | stuck ""
  sizeOf e)

def isStr (P : Program) (t : TypeId) : Bool := match P.underlying t with
  | some .string => true
  | _ => false

def bnd (s : St) (d : Int) : Option Operand → Option Int
  | none => some d
  | some x => (ev s x).int?.map (·.2)

/-- A stable list, cut. -/
def cutV (P : Program) (t : TypeId) (x : V) (lo hi mx : Option Operand) (s : St) : T V :=
  match x with
  | .q (.lst ks len get) =>
    match bnd s 0 lo, bnd s len hi with
    | some l, some h =>
      match mx with
      | none => if elemSize P t = some ks.length then .ite (decide (0 ≤ l ∧ l ≤ h ∧ h ≤ (len : Int))) (.leaf (.q (.lst ks (h.toNat - l.toNat) fun i => get (l.toNat + i)))) .bad else .bad
      | some y => match bnd s 0 (some y), hi with
        | some m, some _ => if elemSize P t = some ks.length then .ite (decide (0 ≤ l ∧ l ≤ h ∧ h ≤ m ∧ m ≤ (len : Int))) (.leaf (.lc ks (h.toNat - l.toNat) (fun i => get (l.toNat + i)) (m.toNat - l.toNat))) .bad else .bad
        | _, _ => .bad
    | _, _ => .bad
  | .q (.c (.string b)) =>
    match mx, bnd s 0 lo, bnd s b.size hi with
    | none, some l, some h => if isStr P t then .ite (decide (0 ≤ l ∧ l ≤ h ∧ h ≤ (b.size : Int))) (.leaf (V.s (b.extract l.toNat h.toNat))) .bad else .bad
    | _, _, _ => .bad
  | _ => .bad

def lenV (P : Program) (o : Oper) (x : V) (s : St) : T V :=
  match x with
  | .q (.lst _ len _) => .leaf (V.i len)
  | .own n => match s.lo[n]? with
    | some (some (.vec _ _ len _)) => .leaf (V.i len)
    | _ => .bad
  | _ => .ofOption (pureOp P o s)

def isSl (P : Program) (c : Call) : Bool := match c.argTypes[0]? with
  | some t => match P.underlying t with
    | some (.slice _) => true
    | _ => false
  | none => false

def isMp (P : Program) (c : Call) : Bool := match c.argTypes[0]? with
  | some t => match P.underlying t with
    | some (.map _ _) => true
    | _ => false
  | none => false

def lenM (P : Program) (o : Oper) (x : V) (s : St) : T V := match entsOf s x with
  | some (_, _, _, es) => .leaf (V.i es.length)
  | none => .ofOption (pureOp P o s)

/-- The function that is called, and what it is closed over. -/
def calleeV (s : St) : Operand → Option (Nat × List V)
  | .func f => some (f, [])
  | x => match ev s x with
    | .clo f caps => some (f, caps)
    | _ => none

/-- A call that looks at what it is given, and no more: what is owned it sees as what none owns. -/
def callT (s : St) (sp : List V → T V) (args : List V) : T V :=
  if args.all V.free then sp args else match letGoL s.lo args with
    | some args' => (sp args').bind fun v => if v.shut then .leaf v else .bad
    | none => .bad

/-- The list behind what is added to it. -/
def catG (len : Nat) (get g : Nat → Nat → Q) (i j : Nat) : Q := bif decide (i < len) then get i j else g (i - len) j

/-- A slice's elements: their type, how many cells, how many bytes. -/
def elemInfo (P : Program) (c : Call) : Option (TypeId × Nat × Nat) := match c.argTypes.toList with
  | [t, t'] => if t = t' then match P.underlying t with
      | some (.slice e) => match P.info? e with
        | some i => match i.zero with
          | some z => if z.cells.size = i.size ∧ 0 < i.size ∧ 1 ≤ i.bytes then some (e, i.size, i.bytes) else none
          | none => none
        | none => none
      | _ => none
    else none
  | _ => none

def roomB (len m bytes : Nat) : Bool := decide (0 < m ∧ (len + m) * bytes ≤ 140737488355328)

/-- To add to a list that has no room left. -/
def apV (P : Program) (c : Call) (s : St) : Option (T V) := match c.args.toList with
  | [x, y] => match evr s x, ev s y, elemInfo P c with
    | .lc ks len get cap, .q (.lst ks' m g), some (_, sz, by_) => if K.sames ks ks' && decide (ks.length = sz) then some (.ite (decide (cap < len + m) && roomB len m by_) (.leaf (.q (.lst ks (len + m) (catG len get g)))) .bad) else none
    | _, _, _ => none
  | _ => none

def execC (P : Program) (Γ : Gam) (o : Oper) (c : Call) (s : St) : Option (T V) :=
  match c.callee with
  | .builtin .len => match c.args.toList with
    | [x] => some (if isSl P c then lenV P o (ev s x) s else if isMp P c then lenM P o (ev s x) s else .ofOption (pureOp P o s))
    | _ => none
  | .builtin .append => apV P c s
  | .builtin .min => some (.ofOption (pureOp P o s))
  | .builtin .max => some (.ofOption (pureOp P o s))
  | .value x => match calleeV s x with
    | some (f, caps) => match look Γ f with
      | some (.f sp) => some (callT s sp (c.args.toList.map (ev s) ++ caps))
      | _ => none
    | none => none
  | _ => none

def isBytes (P : Program) (t : TypeId) : Bool := match P.underlying t with
  | some (.slice e) => match P.underlying e with
    | some (.int .u8) => true
    | _ => false
  | _ => false

/-- One text behind another. -/
def catS (op : BinOp) (x y : V) : Option (T V) := match op, x, y with
  | .add, .q (.c (.string a)), .q (.c (.string b)) => some (.ite (decide (a.size + b.size ≤ 9223372036854775807)) (.leaf (V.s (a ++ b))) .bad)
  | _, _, _ => none

/-- A text's bytes, in a list of their own. -/
def convV (P : Program) (src dst : TypeId) : V → T V
  | .q (.c (.string b)) => if isStr P src && isBytes P dst then .ite (decide (b.size ≤ 9223372036854775807)) (.leaf (.q (.lst [.int .u8] b.size fun i _ => .c (.int .u8 ((b.get! i).toNat : Nat))))) .bad else .bad
  | _ => .bad

def bsRows (ks : List K) (e : Operand → V) : Nat → List (Nat × Operand) → Option (List (List Q))
  | _, [] => some []
  | i, (j, x) :: l => if j = i then match (e x).cells? with
      | some cs => match qsOf cs with
        | some qs => if kOks ks qs then (bsRows ks e (i + 1) l).map (qs :: ·) else none
        | none => none
      | none => none
    else none

def bsKs (e : Operand → V) (sz : Nat) : List (Nat × Operand) → List K
  | (_, x) :: _ => match (e x).cells? with
    | some cs => match qsOf cs with
      | some qs => qs.map Q.k
      | none => []
    | none => []
  | [] => List.replicate sz .any

def bsT (P : Program) (t : TypeId) : Option Nat := run0 P (do
  let .slice e ← underlying t | stuck ""
  match run0 P (zeroValue e) with
  | some _ => sizeOf e
  | none => stuck "")

/-- A list made of its parts, all of them given: it is stable from then on. -/
def bsV (P : Program) (t : TypeId) (n : Nat) (parts : List (Nat × Operand)) (e : Operand → V) : T V :=
  match bsT P t with
  | some sz => match bsRows (bsKs e sz parts) e 0 parts with
    | some rows => if decide ((bsKs e sz parts).length = sz) && decide (0 < sz) && decide (parts.length = n) && decide (0 < n ∧ n * sz ≤ 2 ^ 24) then .leaf (.q (.lst (bsKs e sz parts) n fun i j => (rows.getD i []).getD j default)) else .bad
    | none => .bad
  | none => .bad

/-- A struct made of its parts. -/
def bFill (places : Array (Nat × Nat)) (e : Operand → V) : List (Nat × Operand) → List V → Option (List V)
  | [], cs => some cs
  | (i, x) :: r, cs => match places[i]?, (e x).cells? with
    | some (off, size), some vs => if vs.length = size ∧ off + vs.length ≤ cs.length then bFill places e r (over cs off vs) else none
    | _, _ => none

def placesOf (fs : Array Field) : Sem (Array (Nat × Nat)) := fs.mapM fun f => do pure (f.offset, ← sizeOf f.type)

def buildV (P : Program) (t : TypeId) (parts : List (Nat × Operand)) (e : Operand → V) : Option V :=
  match P.underlying t with
  | some (.struct fs) => match run0 P (zeroValue t), run0 P (placesOf fs) with
    | some z, some places => (bFill places e parts (z.cells.toList.map fun x => .q (.c x))).map .agg
    | _, _ => none
  | _ => none

/-- The operations that yield a value and write nothing; none: it is none of these. -/
def execV (P : Program) (Γ : Gam) (o : Oper) (s : St) : Option (T V) :=
  match o.op with
  | .move x | .assign x => some (.leaf (ev s x))
  | .pick c x y => some (.ofOption (pickV (ev s c) (ev s x) (ev s y)))
  | .load t (.global g) => some (globV P Γ t g)
  | .load t x => some (readV P t s (ev s x))
  | .lookup t m k ok => some (lookV P t s (ev s m) (ev s k) ok)
  | .extract t i => some (match ev s t with
    | .tup l => .ofOption l[i]?
    | _ => .bad)
  | .nilCheck x => some (match ev s x with
    | .ptr n off => .leaf (.ptr n off)
    | .q (.sp k get) => .leaf (.q (.sp k get))
    | .clo f caps => .leaf (.clo f caps)
    | .yld n => .leaf (.yld n)
    | _ => .bad)
  | .fieldAddr t x f => some (match ev s x, fieldOff P t f with
    | .ptr n off, some d => .leaf (.ptr n (off + d))
    | .ep n sz i j, some d => .leaf (.ep n sz i (j + d))
    | .q (.sp k get), some d => .leaf (.q (.sp (k - d) fun j => get (d + j)))
    | _, _ => .bad)
  | .indexAddr t x ix => some (match ev s x, (ev s ix).int? with
    | .q (.lst ks len get), some (_, i) => if elemSize P t = some ks.length then .ite (decide (0 ≤ i ∧ i < (len : Int))) (.leaf (.q (.sp ks.length (nrmG ks (get i.toNat))))) .bad else .bad
    | .own n, some (_, i) => match s.lo[n]? with
      | some (some (.vec _ ks len _)) => if elemSize P t = some ks.length then .ite (decide (0 ≤ i ∧ i < (len : Int))) (.leaf (.ep n ks.length i.toNat 0)) .bad else .bad
      | _ => .bad
    | _, _ => .bad)
  | .index t x ix => some (match ev s x, (ev s ix).int? with
    | .q (.c (.string b)), some (_, i) => if isStr P t then .ite (decide (0 ≤ i ∧ i < (b.size : Int))) (.leaf (V.int .u8 ((b.get! i.toNat).toNat : Nat))) .bad else .bad
    | _, _ => .ofOption (pureOp P o s))
  | .slice t x lo hi mx => some (cutV P t (ev s x) lo hi mx s)
  | .binOp op t x y _ => some (match eqOp P op t (ev s x) (ev s y) with
    | some v => .leaf v
    | none => match catS op (ev s x) (ev s y) with
      | some t => t
      | none => .ofOption (pureOp P o s))
  | .makeFunc fn first caps => match fn, first.toList with
    | .func f, [] => some (.leaf (.clo f (caps.toList.map (ev s))))
    | _, _ => none
  | .call c => execC P Γ o c s
  | .buildSlice t n parts => some (bsV P t n parts.toList (ev s))
  | .build t parts => some (match pureOp P o s with
    | some v => .leaf v
    | none => .ofOption (buildV P t parts.toList (ev s)))
  | .convert src dst x => some (match pureOp P o s with
    | some v => .leaf v
    | none => convV P src dst (ev s x))
  | .unOp .. | .makeInterface .. | .field .. => some (.ofOption (pureOp P o s))
  | _ => none

section
variable [GW] {P : Program} {J : Jt P} {Am Mi : Nat → Prop} {w0 w : World} {s : St} {θ : Th} {a : Act}

theorem den_bool {S L : Nat → Prop} {x : V} {u : Value} {b : Bool} (h : Den S L θ w x u) (e : x.bool? = some b) : u = .bool b := by
  cases h with
  | q y z hq => cases hq with
    | c _ => cases u <;> simp [V.bool?] at e; subst e; rfl
    | _ => simp [V.bool?] at e
  | kb c => simp [V.bool?] at e; subst e; rfl
  | _ => simp [V.bool?] at e

theorem den_int {S L : Nat → Prop} {x : V} {u : Value} {k : IntKind} {n : Int} (h : Den S L θ w x u) (e : x.int? = some (k, n)) : u = .int k n := by
  cases h with
  | q y z hq => cases hq with
    | c _ => cases u <;> simp [V.int?] at e; obtain ⟨rfl, rfl⟩ := e; rfl
    | _ => simp [V.int?] at e
  | _ => simp [V.int?] at e

theorem pickV_den {S L : Nat → Prop} {c x y r : V} {uc ux uy : Value} (hc : Den S L θ w c uc) (hx : Den S L θ w x ux) (hy : Den S L θ w y uy) (e : pickV c x y = some r) :
    ∃ b, uc = .bool b ∧ Den S L θ w r (if b then ux else uy) := by
  unfold pickV at e
  split at e
  · cases e; cases hc; exact ⟨true, rfl, hx⟩
  · cases e; cases hc; exact ⟨false, rfl, hy⟩
  · rename_i b
    have hb := den_bool (b := b) hc rfl
    refine ⟨b, hb, ?_⟩
    split at e
    · rename_i p q hp hq
      cases e
      have h1 := den_bool hx hp
      have h2 := den_bool hy hq
      subst h1; subst h2
      cases b <;> exact .q _ _ (.c _)
    · split at e
      · rename_i k m k' n hp hq
        split at e
        · rename_i hk
          subst hk
          cases e
          have h1 := den_int hx hp
          have h2 := den_int hy hq
          subst h1; subst h2
          cases b <;> exact .q _ _ (.c _)
        · cases e
      · cases e
  · cases e

theorem fieldOff_run {t : TypeId} {f d : Nat} (h : fieldOff P t f = some d) (b off : Nat) (w : World) : (Instr.fieldAt t (.pointer (some ⟨b, off, none⟩)) f).run P w = .ok (.pointer (some ⟨b, off + d, none⟩)) w := by
  have h' := run0_run _ w h
  simp only [Sem.run_bind] at h'
  simp only [Instr.fieldAt, Sem.run_bind]
  cases hu : (underlying t).run P w with
  | halt x w' => simp [hu, Result.andThen] at h'
  | ok dsc w1 =>
    simp only [hu, Result.andThen_ok] at h' ⊢
    cases dsc with
    | struct fields =>
      simp only at h' ⊢
      cases hf : fields[f]? with
      | none => simp [hf, stuck, Sem.run] at h'
      | some fd =>
        simp only [hf, Sem.run_bind] at h' ⊢
        simp only [Instr.sureAddr, Sem.run_pure, Result.andThen_ok, fieldPlace, Sem.run_bind]
        cases hz : (sizeOf fd.type).run P w1 with
        | halt x w' => simp [hz, Result.andThen] at h'
        | ok z w2 =>
          simp only [hz, Result.andThen_ok] at h' ⊢
          by_cases h0 : z = 0
          · simp [h0, stuck, Sem.run] at h'
          · simp only [if_neg h0, Sem.run_pure] at h' ⊢
            cases h'
            simp [addr_add]
    | _ => simp [stuck, Sem.run] at h'

theorem elemSize_run {t : TypeId} {z : Nat} (h : elemSize P t = some z) (w : World) : ∃ e, P.underlying t = some (.slice e) ∧ (sizeOf e).run P w = .ok z w := by
  unfold elemSize at h
  cases hu : P.underlying t with
  | none => simp [underlying, program, run0, hu, stuck, Bind.bind, Sem.bind, Pure.pure] at h
  | some d =>
    cases d <;> simp only [underlying, program, run0, hu, stuck, Bind.bind, Sem.bind, Pure.pure] at h <;> first | cases h | skip
    rename_i e
    exact ⟨e, rfl, run0_run _ w h⟩

end
end Go.SX

/- What an operation makes of the symbolic state: that 'execV' is right. -/
namespace Go.SX
open Go.RowKit
set_option linter.unusedVariables false
set_option linter.unusedSimpArgs false
set_option linter.unusedSectionVars false

section
variable [GW] {P : Program} {J : Jt P} {Am Mi : Nat → Prop} {w0 w : World} {s : St} {θ : Th} {a : Act} {Γ : Gam} {r : Option Nat} {n : Nat} {o : Oper} {K : Act → World → Prop} {Q : Exit → Act → World → Prop}

theorem wpIn_value (hd : ∀ c, o.op ≠ .defer c) {v : Value} {w' : World} (hr : (execOp a.eval o).run P w = .ok (.value v) w') (hk : K (a.put o.dst v) w') : o.wpIn (FW r) n P a w K Q := by
  refine ⟨fun _ _ => trivial, ?_⟩
  rw [Oper.semAt_eq _ _ _ hd, hr]
  exact hk

theorem wpIn_skip' (hd : ∀ c, o.op ≠ .defer c) {w' : World} (hr : (execOp a.eval o).run P w = .ok .skip w') (hk : K (a.put o.dst undef) w') : o.wpIn (FW r) n P a w K Q := by
  refine ⟨fun _ _ => trivial, ?_⟩
  rw [Oper.semAt_eq _ _ _ hd, hr]
  exact hk

theorem wpIn_enter (hd : ∀ c, o.op ≠ .defer c) {f : FuncId} {args : Array Value} {w' : World} (hr : (execOp a.eval o).run P w = .ok (.enter f args) w')
    (hk : Calls P f args w' fun
      | .returned v, w'' => K (a.put o.dst v) w''
      | _, _ => False) : o.wpIn (FW r) n P a w K Q := by
  refine ⟨fun _ _ => trivial, ?_⟩
  rw [Oper.semAt_eq _ _ _ hd, hr]
  refine ⟨(fun h => by cases h), callsIn_FW (hk.mono fun e w'' he => ?_)⟩
  cases e with
  | returned v => exact he
  | panicked c => exact he.elim
  | outgrown => exact he.elim

def ValRun (P : Program) (o : Oper) (a : Act) (w : World) (D : Value → Prop) : Prop := ∃ v, (execOp a.eval o).run P w = .ok (.value v) w ∧ D v

theorem cutV_run (h : Rep J Am Mi w0 s θ a w) {t : TypeId} {xo : Operand} {lo hi mx : Option Operand} {x : V} (e : (cutV P t (ev s xo) lo hi mx s).pick = some x) :
    ∃ v, (Instr.sliceAt t (a.eval xo) (lo.map a.eval) (hi.map a.eval) (mx.map a.eval)).run P w = .ok v w ∧ Den (Stab Am s.lo θ w) (Liv s.lo) θ w x v := by
  have hb : ∀ (d : Int) (q : Option Operand) (l : Int), bnd s d q = some l → (q = none ∧ l = d) ∨ ∃ y k, q = some y ∧ a.eval y = .int k l := fun d q l hq => by
    cases q with
    | none => simp [bnd] at hq; exact .inl ⟨rfl, hq.symm⟩
    | some y =>
      simp only [bnd, Option.map_eq_some_iff] at hq
      obtain ⟨⟨k, n⟩, hi, rfl⟩ := hq
      exact .inr ⟨y, k, rfl, den_int (h.ev y) hi⟩
  have hsb : ∀ (v : Value) (k : IntKind) (i : Int) (y : Nat) (c : BoundsCode), v = .int k i → 0 ≤ i → i ≤ y → (Instr.sliceBound v y c).run P w = .ok i.toNat w := fun v k i y c hv h0 h1 => by
    subst hv
    simp [Instr.sliceBound, asIntOf, h0, h1]
  generalize hx : ev s xo = X at e
  have hd := h.ev xo
  rw [hx] at hd
  generalize a.eval xo = u at hd
  unfold cutV at e
  split at e
  · rename_i ks len get
    split at e
    · rename_i l hh hl hhi
      have hlo := hb _ _ _ hl
      have hhi' := hb _ _ _ hhi
      -- the list's own shape
      have key : ∀ (m : Nat), l ≤ hh → 0 ≤ l → hh ≤ (len : Int) → ∀ z, elemSize P t = some z → z = ks.length → ∀ (cap : Nat) (ad : Option Addr), u = .slice ad len cap → l.toNat ≤ m → m ≤ cap → hh.toNat ≤ m →
          Den (Stab Am s.lo θ w) (Liv s.lo) θ w (.q (.lst ks (hh.toNat - l.toNat) fun i => get (l.toNat + i))) (.slice (if m = l.toNat then ad else ad.map (·.add (l.toNat * z))) (hh.toNat - l.toNat) (m - l.toNat)) := by
        intro m h1 h0 h2 z hz hzk cap ad hu hml hmc hhm
        subst hzk
        subst hu
        refine .q _ _ ?_
        cases hd with
        | q y v hq =>
          cases hq with
          | nil _ _ _ h0' =>
            have e1 : hh.toNat = 0 := by omega
            have e2 : l.toNat = 0 := by omega
            have hm0 : m = 0 := by omega
            rw [e1, e2, hm0]
            exact .nil _ _ _ rfl
          | lst ks' len' get' b off cap' u' hS hcap hc hk hdd =>
            by_cases hml' : m = l.toNat
            · have hlen : hh.toNat - l.toNat = 0 := by omega
              rw [if_pos hml', hlen]
              exact .lst _ _ _ b off _ (fun i j => u' (l.toNat + i) j) hS (by omega) (fun i j hi => by omega) (fun i j k hi => by omega) (fun i j hi => by omega)
            · rw [if_neg hml', Option.map_some, addr_add]
              refine .lst _ _ _ b _ _ (fun i j => u' (l.toNat + i) j) hS (by omega) (fun i j hi hj => ?_) (fun i j k hi hj => hk _ _ _ (by omega) hj) (fun i j hi hj => hdd _ _ (by omega) hj)
              have := hc (l.toNat + i) j (by omega) hj
              rw [← this]
              congr 2
              rw [Nat.add_mul]; omega
      have shape : ∃ ad cap, u = .slice ad len cap ∧ len ≤ cap := by
        cases hd with
        | q y v hq =>
          cases hq with
          | nil _ _ _ h0' => exact ⟨none, 0, by rw [h0'], by omega⟩
          | lst ks' len' get' b off cap' u' hS hcap hc hk hdd => exact ⟨_, _, rfl, hcap.1⟩
      obtain ⟨ad, cap, rfl, hcap⟩ := shape
      split at e
      · -- two indexes
        split at e
        · rename_i hz
          simp only [T.pick] at e
          by_cases hc : 0 ≤ l ∧ l ≤ hh ∧ hh ≤ (len : Int)
          · simp only [hc, and_self, decide_true, cond_true, Option.some.injEq] at e
            subst e
            obtain ⟨ty, hu, hsz⟩ := elemSize_run hz w
            have hD := key cap hc.2.1 hc.1 hc.2.2 _ hz rfl cap ad rfl (by omega) (Nat.le_refl _) (by omega)
            refine ⟨_, ?_, hD⟩
            rcases hlo with ⟨rfl, rfl⟩ | ⟨yl, kl, rfl, hyl⟩ <;> rcases hhi' with ⟨rfl, rfl⟩ | ⟨yh, kh, rfl, hyh⟩
            · simp [Instr.sliceAt, Instr.slice, Instr.sliceBounds, run_underlying hu, hsz, Result.andThen_ok]
            · simp [Instr.sliceAt, Instr.slice, Instr.sliceBounds, run_underlying hu, hsz, Result.andThen_ok, hsb _ _ _ cap .sliceAcap hyh (by omega) (by omega)]
            · simp [Instr.sliceAt, Instr.slice, Instr.sliceBounds, run_underlying hu, hsz, Result.andThen_ok, hsb _ _ _ len .sliceB hyl (by omega) (by omega)]
            · have e1 := hsb _ _ _ cap .sliceAcap hyh (by omega) (by omega)
              have e2 := hsb _ _ _ hh.toNat .sliceB hyl (by omega) (by omega)
              simp [Instr.sliceAt, Instr.slice, Instr.sliceBounds, run_underlying hu, hsz, Result.andThen_ok, e1, e2]
          · simp [hc] at e
        · simp [T.pick] at e
      · -- three
        rename_i ym
        split at e
        · rename_i _ m' yhv hm
          split at e
          · rename_i hz
            simp only [T.pick] at e
            by_cases hc : 0 ≤ l ∧ l ≤ hh ∧ hh ≤ m' ∧ m' ≤ (len : Int)
            · simp only [hc, and_self, decide_true, cond_true, Option.some.injEq] at e
              subst e
              obtain ⟨ty, hu, hsz⟩ := elemSize_run hz w
              have hD := key m'.toNat hc.2.1 hc.1 (by omega) _ hz rfl cap ad rfl (by omega) (by omega) (by omega)
              refine ⟨_, ?_, .lc _ _ _ _ _ _ hD.q_inv⟩
              rcases hb _ _ _ hm with ⟨h0, _⟩ | ⟨ym', km, hym, hvm⟩
              · cases h0
              cases hym
              rcases hhi' with ⟨h0, _⟩ | ⟨yh, kh, hyh', hvh⟩
              · cases h0
              cases hyh'
              have e1 := hsb _ _ _ cap .slice3Acap hvm (by omega) (by omega)
              have e2 := hsb _ _ _ m'.toNat .slice3B hvh (by omega) (by omega)
              rcases hlo with ⟨rfl, rfl⟩ | ⟨yl, kl, rfl, hyl⟩
              · simp [Instr.sliceAt, Instr.slice, Instr.sliceBounds, run_underlying hu, hsz, Result.andThen_ok, e1, e2]
              · have e3 := hsb _ _ _ hh.toNat .slice3C hyl (by omega) (by omega)
                simp [Instr.sliceAt, Instr.slice, Instr.sliceBounds, run_underlying hu, hsz, Result.andThen_ok, e1, e2, e3]
            · simp [hc] at e
          · simp [T.pick] at e
        · simp [T.pick] at e
    · simp [T.pick] at e
  · rename_i b
    split at e
    · rename_i l hh hl hhi
      split at e
      · rename_i hstr
        simp only [T.pick] at e
        have hu : P.underlying t = some .string := by
          unfold isStr at hstr
          split at hstr
          · assumption
          · cases hstr
        by_cases hc : 0 ≤ l ∧ l ≤ hh ∧ hh ≤ (b.size : Int)
        · simp only [hc, and_self, decide_true, cond_true, Option.some.injEq] at e
          subst e
          cases hd with
          | q y v hq =>
            cases hq
            refine ⟨_, ?_, .q _ _ (.c _)⟩
            rcases hb _ _ _ hl with ⟨rfl, rfl⟩ | ⟨yl, kl, rfl, hyl⟩ <;> rcases hb _ _ _ hhi with ⟨rfl, rfl⟩ | ⟨yh, kh, rfl, hyh⟩
            · simp [Instr.sliceAt, Instr.slice, Instr.sliceBounds, run_underlying hu]
            · have e1 := hsb _ _ _ b.size .sliceAlen hyh (by omega) (by omega)
              simp [Instr.sliceAt, Instr.slice, Instr.sliceBounds, run_underlying hu, e1]
            · have e2 := hsb _ _ _ b.size .sliceB hyl (by omega) (by omega)
              simp [Instr.sliceAt, Instr.slice, Instr.sliceBounds, run_underlying hu, e2]
            · have e1 := hsb _ _ _ b.size .sliceAlen hyh (by omega) (by omega)
              have e2 := hsb _ _ _ hh.toNat .sliceB hyl (by omega) (by omega)
              simp [Instr.sliceAt, Instr.slice, Instr.sliceBounds, run_underlying hu, e1, e2]
        · simp [hc] at e
      · simp [T.pick] at e
    · simp [T.pick] at e
  · simp [T.pick] at e

end
end Go.SX

/- What an operation makes of the symbolic state: that 'execV' is right, all cases. -/
namespace Go.SX
open Go.RowKit
set_option linter.unusedVariables false
set_option linter.unusedSimpArgs false
set_option linter.unusedSectionVars false

section
variable [GW] {P : Program} {J : Jt P} {Am Mi : Nat → Prop} {w0 w : World} {s : St} {θ : Th} {a : Act} {Γ : Gam} {r : Option Nat} {n : Nat} {o : Oper} {K : Act → World → Prop} {Q : Exit → Act → World → Prop}

theorem isStr_underlying {t : TypeId} (h : isStr P t = true) : P.underlying t = some .string := by
  unfold isStr at h
  split at h
  · assumption
  · cases h

theorem den_map (h : Rep J Am Mi w0 s θ a w) : ∀ (l : List Operand), DenL (Stab Am s.lo θ w) (Liv s.lo) θ w (l.map (ev s)) (l.map a.eval)
  | [] => .nil
  | x :: l => .cons _ _ _ _ (h.ev x) (den_map h l)

theorem pureOp_val (h : Rep J Am Mi w0 s θ a w) {x : V} (e : pureOp P o s = some x) : ValRun P o a w (Den (Stab Am s.lo θ w) (Liv s.lo) θ w x) := pureOp_run h o e

/-- What 'execV' says, of one operation that is no call of a function. -/
def isCallF (o : Oper) : Bool := match o.op with
  | .call c => match c.callee with
    | .value _ => true
    | .builtin .append => true
    | _ => false
  | .buildSlice .. => true
  | .convert .. => true
  | .load _ (.global _) => true
  | _ => false

theorem over_fold : ∀ (l : List Value) (k : Nat) (arr : Array Value) (off : Nat), ((l.zipIdx k).foldl (fun cs (p : Value × Nat) => cs.setIfInBounds (off + p.2) p.1) arr).toList = over arr.toList (off + k) l
  | [], k, arr, off => by simp [over_nil]
  | x :: l, k, arr, off => by
    rw [List.zipIdx_cons, List.foldl_cons, over_fold l (k + 1), over_cons]
    simp only [Array.toList_setIfInBounds]
    rw [show off + (k + 1) = off + k + 1 by omega]

theorem bFill_den (h : Rep J Am Mi w0 s θ a w) (places : Array (Nat × Nat)) : ∀ (parts : List (Nat × Operand)) (cs r : List V) (arr : Array Value), bFill places (ev s) parts cs = some r → DenL (Stab Am s.lo θ w) (Liv s.lo) θ w cs arr.toList →
    ∃ arr' : Array Value, Instr.fill (fun i => places[i]?) arr (parts.map fun p => (p.1, a.eval p.2)) = some arr' ∧ DenL (Stab Am s.lo θ w) (Liv s.lo) θ w r arr'.toList
  | [], cs, r, arr, he, hd => by cases he; exact ⟨arr, rfl, hd⟩
  | (i, x) :: parts, cs, r, arr, he, hd => by
    simp only [bFill] at he
    split at he
    · rename_i off size vs hp hvs
      split at he
      · rename_i hc
        have hx := den_cells (h.ev x) hvs
        have hl := hx.length
        have hl2 := hd.length
        simp only [Array.length_toList] at hl hl2
        have hov := hd.over off hx
        have hf := over_fold (a.eval x).cells.toList 0 arr off
        obtain ⟨arr', h1, h2⟩ := bFill_den h places parts _ r (((a.eval x).cells.toList.zipIdx 0).foldl (fun cs (p : Value × Nat) => cs.setIfInBounds (off + p.2) p.1) arr) he (by rw [hf]; exact hov)
        refine ⟨arr', ?_, h2⟩
        simp only [List.map_cons, Instr.fill, hp]
        rw [if_neg (by simp; omega)]
        rw [← h1]
        congr 1
        rw [← Array.foldl_toList]
        simp
      · cases he
    · cases he

theorem buildV_val (h : Rep J Am Mi w0 s θ a w) {t : TypeId} {parts : Array (Nat × Operand)} {x : V} (e : buildV P t parts.toList (ev s) = some x) :
    ∃ v, (Instr.build t (parts.map fun p => (p.1, a.eval p.2))).run P w = .ok v w ∧ Den (Stab Am s.lo θ w) (Liv s.lo) θ w x v := by
  unfold buildV at e
  split at e
  · rename_i fs hu
    split at e
    · rename_i z places hz hp
      simp only [Option.map_eq_some_iff] at e
      obtain ⟨r, hr, rfl⟩ := e
      obtain ⟨arr', h1, h2⟩ := bFill_den h places parts.toList _ r z.cells hr (denL_closed _)
      refine ⟨.agg arr', ?_, by simpa using Den.agg _ _ h2⟩
      have hpl : (fs.mapM fun f => (do pure (f.offset, ← sizeOf f.type) : Sem (Nat × Nat))).run P w = .ok places w := run0_run (placesOf fs) w hp
      have h1' : Instr.fill (fun i => places[i]?) z.cells (parts.map fun p => (p.1, a.eval p.2)).toList = some arr' := by simpa using h1
      simp only [Instr.build, Sem.run_bind, run0_run _ w hz, Result.andThen_ok, run_underlying hu, hpl, Sem.run_pure]
      rw [h1']
      rfl
    · cases e
  · cases e

set_option maxHeartbeats 1000000 in
theorem execV_val (h : Rep J Am Mi w0 s θ a w) {t : T V} {x : V} (hc : isCallF o = false) (he : execV P Γ o s = some t) (hp : t.pick = some x) :
    (∀ c, o.op ≠ .defer c) ∧ ValRun P o a w (Den (Stab Am s.lo θ w) (Liv s.lo) θ w x) := by
  unfold execV at he
  split at he
  · rename_i y hop
    cases he; cases hp
    exact ⟨by simp [hop], a.eval y, by simp [execOp, hop], h.ev y⟩
  · rename_i y hop
    cases he; cases hp
    exact ⟨by simp [hop], a.eval y, by simp [execOp, hop], h.ev y⟩
  · rename_i c y z hop
    cases he
    rw [T.pick_ofOption] at hp
    obtain ⟨b, hb, hd⟩ := pickV_den (h.ev c) (h.ev y) (h.ev z) hp
    exact ⟨by simp [hop], if b = true then a.eval y else a.eval z, by simp [execOp, hop, hb, asBool], hd⟩
  · rename_i ty g hop
    simp [isCallF, hop] at hc
  · rename_i ty y _ hop
    cases he
    obtain ⟨v, hv, hd⟩ := readV_run h (h.ev y) hp
    exact ⟨by simp [hop], v, by simp [execOp, hop, hv, Result.andThen_ok], hd⟩
  · rename_i ty m k ok hop
    cases he
    obtain ⟨v, hv, hd⟩ := lookV_run h (h.ev m) (h.ev k) hp
    exact ⟨by simp [hop], v, by simp [execOp, hop, hv, Result.andThen_ok], hd⟩
  · rename_i y i hop
    cases he
    refine ⟨by simp [hop], ?_⟩
    split at hp
    · rename_i l hl
      rw [T.pick_ofOption] at hp
      have hd := h.ev y
      rw [hl] at hd
      cases hev : a.eval y <;> rw [hev] at hd <;> cases hd
      rename_i vs hd
      obtain ⟨u, hu, hd'⟩ := hd.get i x hp
      exact ⟨u, by simp [execOp, hop, hev, Instr.extract, hu], hd'⟩
    · simp [T.pick] at hp
  · rename_i y hop
    cases he
    refine ⟨by simp [hop], ?_⟩
    have hd := h.ev y
    split at hp
    · rename_i n off hl
      rw [hl] at hd
      simp [T.pick] at hp
      subst hp
      obtain ⟨p, hev⟩ : ∃ p, a.eval y = .pointer (some p) := by
        cases hev : a.eval y <;> rw [hev] at hd <;> cases hd
        exact ⟨_, rfl⟩
      exact ⟨a.eval y, by simp [execOp, hop, hev], hd⟩
    · rename_i k get hl
      rw [hl] at hd
      simp [T.pick] at hp
      subst hp
      obtain ⟨b, off, u, hev, _⟩ := hd.q_inv.sp_inv
      exact ⟨a.eval y, by simp [execOp, hop, hev], hd⟩
    · rename_i f caps hl
      rw [hl] at hd
      simp [T.pick] at hp
      subst hp
      obtain ⟨g, vs, hev⟩ : ∃ g vs, a.eval y = .func (.func g) #[] vs := by
        cases hev : a.eval y <;> rw [hev] at hd <;> cases hd
        exact ⟨_, _, rfl⟩
      exact ⟨a.eval y, by simp [execOp, hop, hev], hd⟩
    · rename_i n hl
      rw [hl] at hd
      simp [T.pick] at hp
      subst hp
      obtain ⟨g, hev⟩ : ∃ g, a.eval y = .func (.yield g) #[] #[] := by
        cases hev : a.eval y <;> rw [hev] at hd <;> cases hd
        exact ⟨_, rfl⟩
      exact ⟨a.eval y, by simp [execOp, hop, hev], hd⟩
    · simp [T.pick] at hp
  · rename_i ty y f hop
    cases he
    refine ⟨by simp [hop], ?_⟩
    have hd := h.ev y
    split at hp
    · rename_i n off d hl hf
      rw [hl] at hd
      simp [T.pick] at hp
      subst hp
      cases hev : a.eval y <;> rw [hev] at hd <;> cases hd
      rename_i hL
      exact ⟨.pointer (some ⟨(θ n).blk, off + d, none⟩), by simp [execOp, hop, hev, fieldOff_run hf, Result.andThen_ok], .ptr _ _ hL⟩
    · rename_i n sz i j d hl hf
      rw [hl] at hd
      simp [T.pick] at hp
      subst hp
      cases hev : a.eval y <;> rw [hev] at hd <;> cases hd
      rename_i hL
      exact ⟨.pointer (some ⟨(θ n).blk, i * sz + (j + d), none⟩), by simp [execOp, hop, hev, fieldOff_run hf, Result.andThen_ok, Nat.add_assoc], .ep _ _ _ _ hL⟩
    · rename_i k get d hl hf
      rw [hl] at hd
      simp [T.pick] at hp
      subst hp
      obtain ⟨b, off, u, hev, hS, hc', hdd⟩ := hd.q_inv.sp_inv
      exact ⟨.pointer (some ⟨b, off + d, none⟩), by simp [execOp, hop, hev, fieldOff_run hf, Result.andThen_ok], .q _ _ (.sp _ _ _ _ (fun j => u (d + j)) hS (fun j hj => by rw [Nat.add_assoc]; exact hc' _ (by omega)) (fun j hj => hdd _ (by omega)))⟩
    · simp [T.pick] at hp
  · rename_i ty y ix hop
    cases he
    refine ⟨by simp [hop], ?_⟩
    have hd := h.ev y
    split at hp
    · rename_i ks len get k i hl hi
      rw [hl] at hd
      have hix := den_int (h.ev ix) hi
      split at hp
      · rename_i hz
        obtain ⟨e, hu, hsz⟩ := elemSize_run hz w
        simp only [T.pick] at hp
        by_cases hlt : 0 ≤ i ∧ i < (len : Int)
        · simp [hlt] at hp
          subst hp
          rcases hd.q_inv.lst_inv with ⟨_, h0⟩ | ⟨b, off, cap, u, hev, hS, hcap, hc', hk, hdd⟩
          · omega
          · refine ⟨_, ?_, .q _ _ (.sp _ _ b (off + i.toNat * ks.length) (fun j => u i.toNat j) hS (fun j hj => hc' _ _ (by omega) hj) (fun j hj => (hdd i.toNat j (by omega) hj).nrmG hj (fun k hk' => hk i.toNat j k (by omega) hk')))⟩
            simp [execOp, hop, hev, hix, Instr.indexAt, asIntOf, run_underlying hu, hlt, hsz, Result.andThen_ok, addr_add]
        · simp [hlt] at hp
      · simp [T.pick] at hp
    · rename_i n' k i hl hi
      rw [hl] at hd
      have hix := den_int (h.ev ix) hi
      split at hp
      · rename_i ty' ks len get hn
        split at hp
        · rename_i hz
          obtain ⟨e, hu, hsz⟩ := elemSize_run hz w
          simp only [T.pick] at hp
          by_cases hlt : 0 ≤ i ∧ i < (len : Int)
          · simp [hlt] at hp
            subst hp
            rcases h.lo _ _ hn with ⟨_, h0⟩ | ⟨vs, cap, h1, h2, h3, h4, h5, h6⟩
            · omega
            · cases hev : a.eval y <;> rw [hev] at hd <;> cases hd
              rename_i hL hsl
              rw [h1] at hsl
              cases hsl
              refine ⟨_, ?_, .ep _ ks.length i.toNat 0 hL⟩
              simp [execOp, hop, hev, hix, Instr.indexAt, asIntOf, run_underlying hu, hlt, hsz, Result.andThen_ok, addr_add]
          · simp [hlt] at hp
        · simp [T.pick] at hp
      · simp [T.pick] at hp
    · simp [T.pick] at hp
  · rename_i ty y ix hop
    cases he
    refine ⟨by simp [hop], ?_⟩
    have hd := h.ev y
    split at hp
    · rename_i b k i hl hi
      rw [hl] at hd
      have hix := den_int (h.ev ix) hi
      split at hp
      · rename_i hs
        have hu := isStr_underlying hs
        simp only [T.pick] at hp
        by_cases hlt : 0 ≤ i ∧ i < (b.size : Int)
        · simp [hlt] at hp
          subst hp
          have hev : a.eval y = .string b := den_val hd rfl
          · have hget : b[i.toNat]? = some (b.get! i.toNat) := by
              have hlt' : i.toNat < b.size := by omega
              rw [getElem?_pos b i.toNat hlt']
              congr 1
              simp only [ByteArray.get!]
              rw [getElem!_pos b.data i.toNat hlt']
              rfl
            refine ⟨_, ?_, .q _ _ (.c _)⟩
            have hlt' : i.toNat < b.size := by omega
            rw [getElem?_pos b i.toNat hlt'] at hget
            simp [execOp, hop, hev, hix, Instr.index, asIntOf, run_underlying hu, hlt]
            rw [Option.some.inj hget]
        · simp [hlt] at hp
      · simp [T.pick] at hp
    · rw [T.pick_ofOption] at hp
      exact pureOp_val h hp
  · rename_i ty y lo hi mx hop
    cases he
    obtain ⟨v, hv, hd⟩ := cutV_run h hp
    exact ⟨by simp [hop], v, by simp [execOp, hop, hv, Result.andThen_ok], hd⟩
  · rename_i op ty y z yt hop
    cases he
    refine ⟨by simp [hop], ?_⟩
    split at hp
    · rename_i v hv
      cases hp
      unfold eqOp at hv
      split at hv
      · rename_i xs ys hxs hys
        have h1 := den_val (h.ev y) hxs
        have h2 := den_val (h.ev z) hys
        split at hv
        · cases hv
        · rename_i hg
          split at hv
          · simp only [Option.map_eq_some_iff] at hv
            obtain ⟨b, hb, rfl⟩ := hv
            have := eqIn_run w 12 10000 ty _ _ b (by omega) hb
            exact ⟨.bool b, by simp [execOp, hop, h1, h2, run_eqGuard_agg w .eql ty y z xs ys (by simpa using hg), run_eql_struct, this, Result.andThen_ok], .q _ _ (.c _)⟩
          · simp only [Option.map_eq_some_iff] at hv
            obtain ⟨b, hb, rfl⟩ := hv
            have := eqIn_run w 12 10000 ty _ _ b (by omega) hb
            exact ⟨.bool (!b), by simp [execOp, hop, h1, h2, run_eqGuard_agg w .neq ty y z xs ys (by simpa using hg), run_neq_struct, this, Result.andThen_ok], .q _ _ (.c _)⟩
          · cases hv
      · cases hv
    · split at hp
      · rename_i tc htc
        unfold catS at htc
        split at htc
        · rename_i b c hxb hyc hnn
          cases htc
          have h1 := den_val (h.ev y) (by rw [hxb]; rfl)
          have h2 := den_val (h.ev z) (by rw [hyc]; rfl)
          simp only [T.pick] at hp
          by_cases hle : b.size + c.size ≤ 9223372036854775807
          · rw [decide_eq_true hle] at hp
            cases hp
            have hg : ¬ (9223372036854775807 : Int) < (b.size : Int) + c.size := by omega
            exact ⟨.string (b ++ c), by simp only [execOp, hop, h1, h2]; simp [eqGuard, binOp, Op.stringOp, hg], .q _ _ (.c _)⟩
          · rw [decide_eq_false hle] at hp; cases hp
        · cases htc
      · rw [T.pick_ofOption] at hp
        exact pureOp_val h hp
  · rename_i fn first caps hop
    split at he
    · rename_i f hf
      cases he; cases hp
      have hf' : first = #[] := by simpa using hf
      subst hf'
      refine ⟨by simp [hop], .func (.func f) #[] (caps.map a.eval), by simp [execOp, hop, Instr.makeFunc], ?_⟩
      have := Den.clo (S := Stab Am s.lo θ w) (L := Liv s.lo) (θ := θ) (w := w) f _ _ (den_map h caps.toList)
      have e : (List.map a.eval caps.toList).toArray = Array.map a.eval caps := by apply Array.ext'; simp
      rw [e] at this
      exact this
    · cases he
  · rename_i c hop
    refine ⟨by simp [hop], ?_⟩
    unfold execC at he
    split at he
    · rename_i hcal
      split at he
      · rename_i y hargs
        cases he
        have hargs' : c.args = #[y] := by
          have := congrArg List.toArray hargs
          simpa using this
        have hd := h.ev y
        split at hp
        · rename_i hsl0
          have hrun : ∀ ad len cap, a.eval y = .slice ad len cap → (execOp a.eval o).run P w = .ok (.value (.int .i64 len)) w := fun ad len cap hev => by
            unfold isSl at hsl0
            split at hsl0
            · rename_i ty hty
              split at hsl0
              · rename_i el hu
                simp [execOp, hop, hcal, hargs', hev, resolve, invoke, builtin, Builtin.len_, hty, run_underlying hu, goInt]
              · cases hsl0
            · cases hsl0
          unfold lenV at hp
          split at hp
          · rename_i ks len get hl
            rw [hl] at hd
            simp [T.pick] at hp
            subst hp
            rcases hd.q_inv.lst_inv with ⟨hev, h0⟩ | ⟨b, off, cap, u, hev, _⟩
            · exact ⟨_, hrun _ _ _ hev, by rw [h0]; exact .q _ _ (.c _)⟩
            · exact ⟨_, hrun _ _ _ hev, .q _ _ (.c _)⟩
          · rename_i n' hl
            rw [hl] at hd
            split at hp
            · rename_i ty' ks len get hn
              simp [T.pick] at hp
              subst hp
              cases hev : a.eval y <;> rw [hev] at hd <;> cases hd
              rename_i hL hsl
              rcases h.lo _ _ hn with ⟨h1, h0⟩ | ⟨vs, cap, h1, h2, h3, h4, h5, h6⟩
              · rw [h1] at hsl
                cases hsl
                exact ⟨_, hrun _ _ _ hev, by rw [h0]; exact .q _ _ (.c _)⟩
              · rw [h1] at hsl
                cases hsl
                exact ⟨_, hrun _ _ _ hev, .q _ _ (.c _)⟩
            · simp [T.pick] at hp
          · rw [T.pick_ofOption] at hp
            exact pureOp_val h hp
        · split at hp
          · rename_i hmp0
            unfold lenM at hp
            split at hp
            · rename_i kk ag vk es hen
              simp only [T.pick, Option.some.injEq] at hp
              subst hp
              obtain ⟨b, arr, clk, hev, h1, h2⟩ := entsOf_den h hd hen
              have hlen : arr.length = es.length := by
                obtain ⟨_, h3, _⟩ := ents_fun h2
                exact h3
              refine ⟨.int .i64 es.length, ?_, .q _ _ (.c _)⟩
              unfold isMp at hmp0
              split at hmp0
              · rename_i ty hty
                split at hmp0
                · rename_i k1 e1 hu
                  have hg : (getObj b).run P w = .ok (.map arr.toArray clk) w := by simp [getObj, Sem.run, h1]
                  simp [execOp, hop, hcal, hargs', hev, resolve, invoke, builtin, Builtin.len_, hty, run_underlying hu, goInt, hg, hlen]
                · cases hmp0
              · cases hmp0
            · rw [T.pick_ofOption] at hp
              exact pureOp_val h hp
          · rw [T.pick_ofOption] at hp
            exact pureOp_val h hp
      · cases he
    · rename_i hcal
      simp [isCallF, hop, hcal] at hc
    · cases he
      rw [T.pick_ofOption] at hp
      exact pureOp_val h hp
    · cases he
      rw [T.pick_ofOption] at hp
      exact pureOp_val h hp
    · rename_i hcal
      simp [isCallF, hop, hcal] at hc
    · cases he
  · rename_i hop
    simp [isCallF, hop] at hc
  · rename_i t' parts hop
    cases he
    refine ⟨by simp [hop], ?_⟩
    split at hp
    · rename_i v hv
      cases hp
      exact pureOp_val h hv
    · rw [T.pick_ofOption] at hp
      obtain ⟨v, hv, hd⟩ := buildV_val h hp
      exact ⟨v, by simp [execOp, hop, hv, Result.andThen_ok], hd⟩
  · rename_i hop
    simp [isCallF, hop] at hc
  · rename_i hop
    cases he
    rw [T.pick_ofOption] at hp
    exact ⟨by simp [hop], pureOp_val h hp⟩
  · rename_i hop
    cases he
    rw [T.pick_ofOption] at hp
    exact ⟨by simp [hop], pureOp_val h hp⟩
  · rename_i hop
    cases he
    rw [T.pick_ofOption] at hp
    exact ⟨by simp [hop], pureOp_val h hp⟩
  · cases he

end
end Go.SX

/- What an operation makes of the symbolic state: calls; what makes and writes memory; one step. -/
namespace Go.SX
open Go.RowKit
set_option linter.unusedVariables false
set_option linter.unusedSimpArgs false
set_option linter.unusedSectionVars false

section
variable [GW] {P : Program} {J : Jt P} {Am Mi : Nat → Prop} {w0 w : World} {s : St} {θ : Th} {a : Act} {Γ : Gam} {r : Option Nat} {n : Nat} {o : Oper} {K : Act → World → Prop} {Q : Exit → Act → World → Prop}

theorem Rep.stab_ext (h : Rep J Am Mi w0 s θ a w) {w' : World} (hb : Below w.heap.size w w') (b : Nat) (hS : Stab Am s.lo θ w b ∨ (w.heap.size ≤ b ∧ b < w'.heap.size)) : Stab Am s.lo θ w' b := by
  rcases hS with hS | ⟨h1, h2⟩
  · exact ⟨Nat.lt_of_lt_of_le hS.1 hb.size, hS.2⟩
  · refine ⟨h2, fun ham => ?_, fun m o ho hu => ?_⟩
    · have := h.am b ham
      omega
    · have := (h.lt m o b ho hu).1
      omega

theorem Rep.glS (h : Rep J Am Mi w0 s θ a w) : ∀ x ∈ GW.gl, Stab Am s.lo θ w x.1 := fun x hx =>
  ⟨h.fr.glw.lt x hx, h.ga x hx, fun n o ho hu => h.fr.gl.1 x hx (h.lt n o _ ho hu).2.1⟩

theorem calleeV_den (h : Rep J Am Mi w0 s θ a w) {x : Operand} {f : Nat} {caps : List V} (e : calleeV s x = some (f, caps)) : ∃ vs : List Value, a.eval x = .func (.func f) #[] vs.toArray ∧ DenL (Stab Am s.lo θ w) (Liv s.lo) θ w caps vs := by
  unfold calleeV at e
  split at e
  · cases e
    exact ⟨[], rfl, .nil⟩
  · split at e
    · rename_i f' caps' hev
      cases e
      have hd := h.ev x
      rw [hev] at hd
      generalize a.eval x = u at hd
      cases hd with
      | clo _ _ vs hl => exact ⟨vs, rfl, hl⟩
    · cases e

/-- All blocks that may be looked at. -/
def SeeS (Am : Nat → Prop) (lo : List (Option Ob)) (θ : Th) (w : World) (b : Nat) : Prop := Stab Am lo θ w b ∨ ∃ n o, lo[n]? = some (some o) ∧ uses θ n o b

theorem Rep.see_lt (h : Rep J Am Mi w0 s θ a w) : ∀ b, SeeS Am s.lo θ w b → b < w.heap.size := fun b hb => by
  rcases hb with hb | ⟨n, o, ho, hu⟩
  · exact hb.1
  · exact (h.lt n o b ho hu).1

theorem callT_calls (h : Rep J Am Mi w0 s θ a w) {f : Nat} {sp : List V → T V} (hS : SpecOK P f sp) {args : List V} {vals : List Value} (hd : DenL (Stab Am s.lo θ w) (Liv s.lo) θ w args vals) {x : V} (hp : (callT s sp args).pick = some x) :
    Calls P f vals.toArray w fun e w' => ∃ v, e = .returned v ∧ Below w.heap.size w w' ∧ Den (Stab Am s.lo θ w') (Liv s.lo) θ w' x v := by
  unfold callT at hp
  split at hp
  · rename_i hfree
    refine (hS.2 _ w _ _ x (fun b hb => hb.1) h.fr.glw h.glS (denL_free hd hfree) hp).mono ?_
    rintro ev' w' ⟨v, rfl, hb, hr⟩
    exact ⟨v, rfl, hb, hr.mono (fun b hS => h.stab_ext hb b hS) (fun _ _ => rfl) (fun _ hf => hf.elim) (fun _ hf => hf.elim)⟩
  · split at hp
    · rename_i args' hargs
      rw [T.pick_bind] at hp
      obtain ⟨y, hy, hp⟩ := hp
      split at hp
      · rename_i hsh
        cases hp
        have hd' : DenL (SeeS Am s.lo θ w) NoL th0 w args' vals := letGoL_den h (fun _ _ x => x) (fun b hb => .inl hb) (fun n o b ho hu => .inr ⟨n, o, ho, hu⟩) hd hargs
        refine (hS.2 _ w _ _ _ h.see_lt h.fr.glw (fun x hx => .inl (h.glS x hx)) hd' hy).mono ?_
        rintro ev' w' ⟨v, rfl, hb, hr⟩
        exact ⟨v, rfl, hb, den_shut hr hsh⟩
      · simp [T.pick] at hp
    · simp [T.pick] at hp

theorem execV_call (hΓ : GOK P Γ) (h : Rep J Am Mi w0 s θ a w) {t : T V} {x : V} {c : Call} {y : Operand} (hop : o.op = .call c) (hcal : c.callee = .value y) (he : execV P Γ o s = some t) (hp : t.pick = some x)
    (hK : ∀ v w', Below w.heap.size w w' → Den (Stab Am s.lo θ w') (Liv s.lo) θ w' x v → K (a.put o.dst v) w') : o.wpIn (FW r) n P a w K Q := by
  simp only [execV, hop, execC, hcal] at he
  split at he
  · rename_i f caps hcv
    split at he
    · rename_i sp hsp
      cases he
      have hS : SpecOK P f sp := hΓ _ (look_mem hsp)
      obtain ⟨vs, hev, hcd⟩ := calleeV_den h hcv
      have hd := (den_map h c.args.toList).append hcd
      have hC := callT_calls h hS hd hp
      have e : (List.map a.eval c.args.toList ++ vs).toArray = Array.map a.eval c.args ++ vs.toArray := by apply Array.ext'; simp
      rw [e] at hC
      refine wpIn_enter (f := f) (args := Array.map a.eval c.args ++ vs.toArray) (w' := w) (by simp [hop]) ?_ (hC.mono ?_)
      · simp only [execOp, hop, resolve, hcal, hev, Deferred.ofValue, Sem.run_bind, Sem.run_pure, Result.andThen_ok, invoke, Array.append_empty, Array.empty_append]
        exact run_enters hS.1 _ w
      · rintro ev' w' ⟨v, rfl, hb, hr⟩
        exact hK v w' hb hr
    · cases he
  · cases he

/-! ### to add to a list -/

/-- The cells of a list, one behind the other. -/
def flatC (u : Nat → Nat → Value) (n sz : Nat) : List Value := (List.range (n * sz)).map fun t => u (t / sz) (t % sz)

theorem flatC_length (u : Nat → Nat → Value) (n sz : Nat) : (flatC u n sz).length = n * sz := by simp [flatC]

theorem flatC_get {u : Nat → Nat → Value} {n sz t : Nat} {v : Value} (h : (flatC u n sz)[t]? = some v) : t / sz < n ∧ t % sz < sz ∧ v = u (t / sz) (t % sz) ∧ t < n * sz := by
  simp only [flatC, List.getElem?_map, Option.map_eq_some_iff] at h
  obtain ⟨t', h1, rfl⟩ := h
  obtain ⟨h2, h3⟩ := List.getElem?_eq_some_iff.1 h1
  simp at h3 h2
  subst h3
  have hpos : 0 < sz := Nat.pos_of_ne_zero fun e => by subst e; simp at h2
  exact ⟨Nat.div_lt_of_lt_mul (by rw [Nat.mul_comm]; exact h2), Nat.mod_lt _ hpos, rfl, h2⟩

theorem flatC_at {u : Nat → Nat → Value} {n sz i j : Nat} (hi : i < n) (hj : j < sz) : (flatC u n sz)[i * sz + j]? = some (u i j) := by
  have hlt : i * sz + j < n * sz := by
    have : (i + 1) * sz ≤ n * sz := Nat.mul_le_mul_right _ hi
    rw [Nat.add_mul] at this
    omega
  have hpos : 0 < sz := by omega
  have e1 : (i * sz + j) / sz = i := by rw [Nat.mul_comm, Nat.mul_add_div hpos, Nat.div_eq_of_lt hj, Nat.add_zero]
  have e2 : (i * sz + j) % sz = j := by rw [Nat.mul_comm, Nat.mul_add_mod, Nat.mod_eq_of_lt hj]
  simp [flatC, hlt, e1, e2]

theorem elemInfo_inv {c : Call} {e : TypeId} {sz by_ : Nat} (h : elemInfo P c = some (e, sz, by_)) : ∃ t i z, c.argTypes = #[t, t] ∧ P.underlying t = some (.slice e) ∧ P.info? e = some i ∧ i.zero = some z ∧ i.size = sz ∧ i.bytes = by_ ∧ z.cells.size = sz ∧ 0 < sz ∧ 1 ≤ by_ := by
  unfold elemInfo at h
  split at h
  · rename_i t t' hty
    split at h
    · rename_i htt
      subst htt
      split at h
      · rename_i e' hu
        split at h
        · rename_i i hi
          split at h
          · rename_i z hz
            split at h
            · rename_i hc
              cases h
              refine ⟨t, i, z, ?_, hu, hi, hz, rfl, rfl, hc.1, hc.2.1, hc.2.2⟩
              apply Array.ext'
              rw [hty]
            · cases h
          · cases h
        · cases h
      · cases h
    · cases h
  · cases h

/-- The list that is added, out of what it stands for. -/
theorem lst_cells {S : Nat → Prop} {ks : List SX.K} {m : Nat} {g : Nat → Nat → SX.Q} {v : Value} (h : DenQ S w (.lst ks m g) v) (hm : 0 < m) :
    ∃ (b off cap : Nat) (u : Nat → Nat → Value), v = .slice (some ⟨b, off, none⟩) m cap ∧ (∀ (j : Nat) z, (flatC u m ks.length)[j]? = some z → w.cell? ((⟨b, off, none⟩ : Addr).add j) = some z) ∧
      (∀ i j k, i < m → ks[j]? = some k → KOk k (g i j)) ∧ (∀ i j, i < m → j < ks.length → DenQ S w (g i j) (u i j)) := by
  rcases h.lst_inv with ⟨_, h0⟩ | ⟨b, off, cap, u, rfl, _, _, hc, hk, hd⟩
  · omega
  · refine ⟨b, off, cap, u, rfl, fun j z hz => ?_, hk, hd⟩
    obtain ⟨h1, h2, rfl, h3⟩ := flatC_get hz
    rw [addr_add, ← hc _ _ h1 h2]
    congr 2
    have hpos : 0 < ks.length := by omega
    rw [Nat.add_assoc, Nat.mul_comm, Nat.div_add_mod]

/-- To add to nothing. -/
theorem run_append_none (ty t e : TypeId) (i : TypeInfo) (z : Value) (size bytes : Nat) (ht : P.underlying t = some (.slice e)) (hi : P.info? e = some i) (hz : i.zero = some z) (hsize : i.size = size) (hby : i.bytes = bytes) (hzs : z.cells.size = size) (hsz : 0 < size)
    (a : Addr) (m c : Nat) (news : List Value) (hl : news.length = m * size) (hnews : ∀ j u, news[j]? = some u → w.cell? (a.add j) = some u) (hm : 0 < m) (h63 : m ≤ maxLen) (hbytes : m * bytes ≤ 140737488355328) :
    ∃ v' w', (Builtin.append_ #[t, t] ty #[.slice none 0 0, .slice (some a) m c]).run P w = .ok v' w' ∧ w'.ownsRow w.heap.size e size v' m news ∧ w.grownBy w' none := by
  subst hsize
  subst hby
  have hsmall : m ≤ 9223372036854775807 := by simp only [maxLen] at h63; omega
  have hr := run_append_nil (P := P) w t ty e i z ht hi hz a m c news hl hnews hm (by omega) (by omega)
  have hge := grownCap_ge w m 0 e
  have hcm : grownCap w m 0 e ≤ maxLen := grownCap_le_maxLen w m 0 e h63
  refine ⟨_, _, hr, ⟨hl, .inr ⟨w.heap.size, _, _, rfl, Nat.le_refl _, heap_alloc_new w.drew _, hge, hcm, ?_, ?_⟩⟩, ⟨rfl, rfl, rfl, by simp, fun k hk _ => heap_alloc_old w.drew _ k hk⟩⟩
  · simp only [Array.size_append, List.size_toArray, size_zeroCells, hzs, hl, ← Nat.add_mul]
    congr 1
    omega
  · simp only [Array.toList_append]
    rw [← hl]
    exact List.take_left

theorem ap_wp (h : Rep J Am Mi w0 s θ a w) {c : Call} (hop : o.op = .call c) (hcal : c.callee = .builtin .append) {t : T V} {x : V} (ht : apV P c s = some t) (hp : t.pick = some x)
    (hK : ∀ v w', Below w.heap.size w w' → Den (Stab Am s.lo θ w') (Liv s.lo) θ w' x v → K (a.put o.dst v) w') : o.wpIn (FW r) n P a w K Q := by
  unfold apV at ht
  split at ht
  · rename_i x0 y0 hargs
    split at ht
    · rename_i ks len get cap ks' m g el sz by_ hx hy hei
      split at ht
      · rename_i hc0
        cases ht
        simp only [Bool.and_eq_true, decide_eq_true_eq] at hc0
        obtain ⟨hks, hksz⟩ := hc0
        obtain rfl := SX.K.sames_eq _ _ hks
        obtain ⟨ty, i, z, hat, hu, hi, hz, h1, h2, h3, h4, h5⟩ := elemInfo_inv hei
        simp only [T.pick] at hp
        cases hb : (decide (cap < len + m) && roomB len m by_) with
        | false => simp [hb] at hp
        | true =>
          simp only [hb, cond_true, Option.some.injEq] at hp
          subst hp
          simp only [roomB, Bool.and_eq_true, decide_eq_true_eq] at hb
          obtain ⟨hgr, hm0, hby⟩ := hb
          have hargs' : c.args = #[x0, y0] := by
            have := congrArg List.toArray hargs
            simpa using this
          have hdx := h.evr x0
          rw [hx] at hdx
          obtain ⟨ad, n0, hxe, hdx⟩ := hdx.lc_inv
          have hdy := h.ev y0
          rw [hy] at hdy
          obtain ⟨yb, yo, yc, yu, hye, hyc, hyk, hyd⟩ := lst_cells hdy.q_inv hm0
          have hlm : len + m ≤ 140737488355328 := Nat.le_trans (Nat.le_mul_of_pos_right _ h5) hby
          have hlm' : len + m ≤ maxLen := by simp only [maxLen]; omega
          -- what is left behind
          have fin : ∀ (xu : Nat → Nat → Value) (v' : Value) (w' : World), (∀ i j k, i < len → ks[j]? = some k → KOk k (get i j)) → (∀ i j, i < len → j < ks.length → DenQ (Stab Am s.lo θ w) w (get i j) (xu i j)) →
              (execOp a.eval o).run P w = .ok (.value v') w' → w'.ownsRow w.heap.size el sz v' (len + m) (flatC xu len sz ++ flatC yu m sz) → w.grownBy w' none → o.wpIn (FW r) n P a w K Q := by
            intro xu v' w' hxk hxd hr hown hg
            have hbel : Below w.heap.size w w' := ⟨hg.os, hg.tape, hg.output, hg.size, fun k hk => hg.block k hk (by simp)⟩
            refine wpIn_value (v := v') (w' := w') (by simp [hop]) hr (hK _ _ hbel (.q _ _ ?_))
            rcases hown.2 with ⟨_, h0⟩ | ⟨gb, cap', cur, rfl, hgb, hgc, hnc, hcm, hcs, htake⟩
            · omega
            · have hlt : gb < w'.heap.size := (Array.getElem?_eq_some_iff.1 hgc).1
              have hcell : ∀ t z, (flatC xu len sz ++ flatC yu m sz)[t]? = some z → w'.cell? ⟨gb, 0 + t, none⟩ = some z := fun t z hz => by
                rw [Nat.zero_add, cell_of_row w' _ _ _ _ _ hgc, ← Array.getElem?_toList]
                rw [← htake] at hz
                rw [List.getElem?_take] at hz
                split at hz
                · exact hz
                · cases hz
              have hmono : ∀ {q : SX.Q} {z : Value}, DenQ (Stab Am s.lo θ w) w q z → DenQ (Stab Am s.lo θ w') w' q z := fun hq => hq.mono (fun b hb => h.stab_ext hbel b (.inl hb)) (fun b hb => hg.block b hb.1 (by simp))
              refine .lst _ _ _ gb 0 cap' (fun i j => if i < len then xu i j else yu (i - len) j) (h.stab_ext hbel _ (.inr ⟨hgb, hlt⟩)) ⟨hnc, by simp only [maxLen] at hlm'; omega⟩ (fun i j hi hj => ?_) (fun i j k hi hk => ?_) (fun i j hi hj => ?_)
              · rw [hksz] at hj ⊢
                rw [Nat.add_assoc]
                refine hcell _ _ ?_
                by_cases hlt : i < len
                · rw [if_pos hlt, List.getElem?_append_left (by
                    rw [flatC_length]
                    have : (i + 1) * sz ≤ len * sz := Nat.mul_le_mul_right _ hlt
                    rw [Nat.add_mul] at this
                    omega)]
                  exact flatC_at hlt hj
                · rw [if_neg hlt, List.getElem?_append_right (by
                    rw [flatC_length]
                    have : len * sz ≤ i * sz := Nat.mul_le_mul_right _ (by omega)
                    omega), flatC_length]
                  have : i * sz + j - len * sz = (i - len) * sz + j := by
                    have e : i * sz = (i - len) * sz + len * sz := by rw [← Nat.add_mul]; congr 1; omega
                    omega
                  rw [this]
                  exact flatC_at (by omega) hj
              · simp only [catG]
                by_cases hlt : i < len
                · simp only [hlt, decide_true, cond_true]; exact hxk i j k hlt hk
                · simp only [hlt, decide_false, cond_false]; exact hyk _ j k (by omega) hk
              · simp only [catG]
                by_cases hlt : i < len
                · simp only [hlt, decide_true, cond_true, if_true]; exact hmono (hxd i j hlt hj)
                · simp only [hlt, decide_false, cond_false, if_false]; exact hmono (hyd _ j (by omega) hj)
          rcases hdx.lst_inv with ⟨hnil, h0⟩ | ⟨b, off, cap0, u, hsl, _, _, hcx, hkx, hddx⟩
          · rw [hnil] at hxe
            subst h0
            obtain ⟨v', w', hr, hown, hg⟩ := run_append_none (P := P) (w := w) o.type ty el i z sz by_ hu hi hz h1 h2 h3 h4 ⟨yb, yo, none⟩ m yc (flatC yu m sz) (flatC_length _ _ _) (by rw [← hksz]; exact hyc) hm0 (by omega) (by simpa using hby)
            refine fin (fun _ _ => undef) v' w' (fun i j k hi => absurd hi (Nat.not_lt_zero _)) (fun i j hi => absurd hi (Nat.not_lt_zero _)) ?_ (by simpa [flatC] using hown) hg
            simp [execOp, hop, hcal, hargs', resolve, invoke, builtin, hat, hnil, hye, hr, Result.andThen]
          · rw [hsl] at hxe
            cases hxe
            have hold : ∀ (j : Nat) v, (flatC u len sz)[j]? = some v → w.cell? ((⟨b, off, none⟩ : Addr).add j) = some v := fun j v hv => by
              obtain ⟨g1, g2, rfl, g3⟩ := flatC_get hv
              rw [addr_add, ← hcx _ _ g1 (by rw [hksz]; exact g2)]
              congr 2
              rw [hksz, Nat.add_assoc, Nat.mul_comm, Nat.div_add_mod]
            obtain ⟨v', w', hr, hown, hg⟩ := run_append_arg_grows (P := P) w ty o.type el i z sz by_ hu hi hz h1 h2 h3 h4 ⟨b, off, none⟩ len cap (flatC u len sz) (flatC_length _ _ _) hold ⟨yb, yo, none⟩ m yc (flatC yu m sz) (flatC_length _ _ _) (by rw [← hksz]; exact hyc) hgr hlm' hby
            refine fin u v' w' hkx hddx ?_ hown hg
            simp [execOp, hop, hcal, hargs', resolve, invoke, builtin, hat, hsl, hye, hr, Result.andThen]
      · cases ht
    · cases ht
  · cases ht

/-! ### what makes and writes memory -/

def V.one : V → Bool
  | .q (.c x) => x.oneCell'
  | .agg _ | .tup _ | .any => false
  | _ => true

theorem bsRows_den (h : Rep J Am Mi w0 s θ a w) {ks : List SX.K} : ∀ (l : List (Nat × Operand)) (i : Nat) (rows : List (List SX.Q)), bsRows ks (ev s) i l = some rows →
    (l.map fun x => (x.1, a.eval x.2)) = (((l.map fun x => a.eval x.2).zipIdx i).map fun x => (x.2, x.1)) ∧ rows.length = l.length ∧
    ∀ (k : Nat) row, rows[k]? = some row → ∃ u, (l.map fun x => a.eval x.2)[k]? = some u ∧ u.cells.size = ks.length ∧ kOks ks row = true ∧ ∀ (j : Nat) q, row[j]? = some q → ∃ c, u.cells[j]? = some c ∧ DenQ (Stab Am s.lo θ w) w q c
  | [], i, rows, e => by cases e; exact ⟨rfl, rfl, fun k row h => by simp at h⟩
  | (j, x) :: l, i, rows, e => by
    simp only [bsRows] at e
    split at e
    · rename_i hij
      subst hij
      split at e
      · rename_i cs hcs
        split at e
        · rename_i qs hqs
          split at e
          · rename_i hk
            simp only [Option.map_eq_some_iff] at e
            obtain ⟨r, hr, rfl⟩ := e
            obtain ⟨h1, h2, h3⟩ := bsRows_den h l (j + 1) r hr
            refine ⟨by simp [h1], by simp [h2], fun k row hrow => ?_⟩
            cases k with
            | zero =>
              simp at hrow
              subst hrow
              obtain ⟨g1, g2⟩ := qsOf_den (den_cells (h.ev x) hcs) hqs
              refine ⟨_, rfl, ?_, hk, fun j q hq => ?_⟩
              · rw [(kOks_len hk).1, g1]; simp
              · obtain ⟨u, hu, hd⟩ := g2 j q hq
                exact ⟨u, by simpa using hu, hd⟩
            | succ k => exact h3 k row (by simpa using hrow)
          · cases e
        · cases e
      · cases e
    · cases e

theorem bsT_run {t : TypeId} {z : Nat} (h : bsT P t = some z) (w : World) : ∃ e zv, P.underlying t = some (.slice e) ∧ (sizeOf e).run P w = .ok z w ∧ (zeroValue e).run P w = .ok zv w := by
  unfold bsT at h
  cases hu : P.underlying t with
  | none => simp [underlying, program, run0, hu, stuck, Bind.bind, Sem.bind, Pure.pure] at h
  | some d =>
    cases d <;> simp only [underlying, program, run0, hu, stuck, Bind.bind, Sem.bind, Pure.pure] at h <;> first | cases h | skip
    rename_i e
    split at h
    · rename_i zv hz
      exact ⟨e, zv, rfl, run0_run _ w h, run0_run _ w hz⟩
    · cases h

theorem bs_wp (h : Rep J Am Mi w0 s θ a w) {t : TypeId} {m : Nat} {parts : Array (Nat × Operand)} (hop : o.op = .buildSlice t m parts) {x : V} (hp : (bsV P t m parts.toList (ev s)).pick = some x)
    (hK : ∀ v w', Below w.heap.size w w' → Den (Stab Am s.lo θ w') (Liv s.lo) θ w' x v → K (a.put o.dst v) w') : o.wpIn (FW r) n P a w K Q := by
  unfold bsV at hp
  split at hp
  · rename_i sz hsz
    split at hp
    · rename_i rows hrows
      split at hp
      · rename_i hc
        cases hp
        simp only [Bool.and_eq_true, decide_eq_true_eq] at hc
        obtain ⟨⟨⟨hks, hpos⟩, hlen⟩, hbig⟩ := hc
        generalize hks' : bsKs (ev s) sz parts.toList = ks at *
        obtain ⟨el, zv, hu, hs, hz⟩ := bsT_run hsz w
        obtain ⟨h1, h2, h3⟩ := bsRows_den h parts.toList 0 rows hrows
        have hvl : (parts.toList.map fun x => a.eval x.2).length = m := by simpa using hlen
        have hsize : ∀ v ∈ (parts.toList.map fun x => a.eval x.2), v.cells.size = sz := fun v hv => by
          obtain ⟨k, hk, rfl⟩ := List.mem_iff_getElem.1 hv
          have hk' : k < rows.length := by rw [h2]; simpa using hk
          obtain ⟨u, hu1, hu2, _⟩ := h3 k _ (List.getElem?_eq_getElem hk')
          rw [List.getElem?_eq_getElem hk] at hu1
          cases hu1
          rw [hu2, hks]
        have hfill := Great.fill_whole hpos (parts.toList.map fun x => a.eval x.2) ((Array.range (m * sz)).map (zv.cells[· % zv.cells.size]!)) hsize (by simp; rw [← hlen]; simp)
        have hw : ∀ b, b < w.heap.size → (w.alloc (.cells ((parts.toList.map fun x => a.eval x.2).flatMap fun v => v.cells.toList).toArray el)).heap[b]? = w.heap[b]? := fun b hb => Below.heap_alloc _ _ _ hb
        have hbel : Below w.heap.size w (w.alloc (.cells ((parts.toList.map fun x => a.eval x.2).flatMap fun v => v.cells.toList).toArray el)) := (Below.refl _ _).alloc (Nat.le_refl _) _
        refine wpIn_value (v := .slice (some ⟨w.heap.size, 0, none⟩) m m) (w' := w.alloc (.cells ((parts.toList.map fun x => a.eval x.2).flatMap fun v => v.cells.toList).toArray el)) (by simp [hop]) ?_ (hK _ _ hbel (.q _ _ ?_))
        · have e1 : (parts.map fun x => (x.1, a.eval x.2)).toList = (parts.toList.map fun x => (x.1, a.eval x.2)) := by simp
          have hund : (underlying t).run P w = .ok (.slice el) w := by simp [underlying, hu]
          have n1 : ¬ m * sz > 2 ^ 24 := by omega
          have n2 : ¬ m * sz = 0 := Nat.ne_of_gt (Nat.mul_pos (by omega) hpos)
          simp only [execOp, hop, Instr.buildSlice, Sem.run_bind, hund, Result.andThen_ok, hs, if_neg n1, if_neg n2, hz, Sem.run_pure, e1, h1, hfill]
          rfl
        · have hget : ∀ i j, i < m → j < ks.length → ∃ q c, (rows.getD i []).getD j default = q ∧ ((parts.toList.map fun x => a.eval x.2).flatMap fun v => v.cells.toList)[i * ks.length + j]? = some c ∧ DenQ (Stab Am s.lo θ w) w q c ∧ ∀ k, ks[j]? = some k → KOk k q := fun i j hi hj => by
            have hi' : i < rows.length := by rw [h2, hlen]; exact hi
            obtain ⟨u, hu1, hu2, hu3, hu4⟩ := h3 i _ (List.getElem?_eq_getElem hi')
            obtain ⟨g1, g2⟩ := kOks_len hu3
            obtain ⟨q, hq, hkq⟩ := g2 j _ (List.getElem?_eq_getElem hj)
            obtain ⟨c, hc1, hc2⟩ := hu4 j q hq
            refine ⟨q, c, ?_, ?_, hc2, fun k hk => ?_⟩
            · simp [List.getD_eq_getElem?_getD, List.getElem?_eq_getElem hi', hq]
            · rw [hks, Great.flat_get hpos _ hsize]
              have e1 : (i * sz + j) / sz = i := by rw [Nat.mul_comm, Nat.mul_add_div hpos, Nat.div_eq_of_lt (by omega), Nat.add_zero]
              have e2 : (i * sz + j) % sz = j := by rw [Nat.mul_comm, Nat.mul_add_mod, Nat.mod_eq_of_lt (by omega)]
              rw [e1, e2, hu1]
              exact hc1
            · rw [List.getElem?_eq_getElem hj] at hk; cases hk; exact hkq
          refine .lst _ _ _ w.heap.size 0 m (fun i j => (((parts.toList.map fun x => a.eval x.2).flatMap fun v => v.cells.toList)[i * ks.length + j]?).getD undef) (h.stab_ext hbel _ (.inr ⟨Nat.le_refl _, by simp⟩)) ⟨Nat.le_refl _, by
            have h9 : m * 1 ≤ m * sz := Nat.mul_le_mul_left m hpos
            omega⟩ (fun i j hi hj => ?_) (fun i j k hi hk => ?_) (fun i j hi hj => ?_)
          · obtain ⟨q, c, _, hc, _⟩ := hget i j hi hj
            rw [hc]
            have := World.cell?_alloc_new w ((parts.toList.map fun x => a.eval x.2).flatMap fun v => v.cells.toList).toArray el (0 + i * ks.length + j)
            rw [this]
            simpa using hc
          · have hj : j < ks.length := (List.getElem?_eq_some_iff.1 hk).1
            obtain ⟨q, c, hq, _, _, hkq⟩ := hget i j hi hj
            rw [hq]
            exact hkq k hk
          · obtain ⟨q, c, hq, hc, hd, _⟩ := hget i j hi hj
            rw [hq, hc]
            exact hd.mono (fun b hb => h.stab_ext hbel b (.inl hb)) (fun b hb => hw b hb.1)
      · cases hp
    · cases hp
  · cases hp

/-- A text's bytes. -/
theorem cv_wp (h : Rep J Am Mi w0 s θ a w) {src dst : TypeId} {y : Operand} (hop : o.op = .convert src dst y) {x : V} (hp : (convV P src dst (ev s y)).pick = some x)
    (hK : ∀ v w', Below w.heap.size w w' → Den (Stab Am s.lo θ w') (Liv s.lo) θ w' x v → K (a.put o.dst v) w') : o.wpIn (FW r) n P a w K Q := by
  unfold convV at hp
  split at hp
  · rename_i b hy
    split at hp
    · rename_i hc
      simp only [Bool.and_eq_true] at hc
      obtain ⟨h1, h2⟩ := hc
      have hs := isStr_underlying h1
      unfold isBytes at h2
      split at h2
      · rename_i e hd
        split at h2
        · rename_i he
          simp only [T.pick] at hp
          cases hb : decide (b.size ≤ 9223372036854775807) with
          | false => simp [hb] at hp
          | true =>
            simp only [hb, cond_true, Option.some.injEq] at hp
            subst hp
            have hsz : b.size ≤ 9223372036854775807 := of_decide_eq_true hb
            have hye := h.ev y
            rw [hy] at hye
            have hyv : a.eval y = .string b := by
              have := hye.q_inv
              generalize a.eval y = z at this
              cases this
              rfl
            have hr := run_bytes_of_string (P := P) w src dst e b hs hd he
            have hge : b.size ≤ grownCap w b.size 0 e := grownCap_ge w b.size 0 e
            generalize grownCap w b.size 0 e = cap at hr hge
            generalize hX : (Obj.cells (bytesRow b cap) e ((bytesRow b cap).size, (bytesRow b cap).size + 1)) = X at hr
            have hbel : Below w.heap.size w (w.drew.alloc X) := ((Below.refl w.heap.size w).drew).alloc (Nat.le_refl _) _
            have hheap : (w.drew.alloc X).heap[w.heap.size]? = some X := by
              show (w.heap.push X)[w.heap.size]? = _
              simp
            refine wpIn_value (v := .slice (some ⟨w.heap.size, 0, none⟩) b.size cap) (w' := w.drew.alloc X) (by simp [hop]) ?_ (hK _ _ hbel (.q _ _ ?_))
            · simp [execOp, hop, hyv, hr, Result.andThen_ok]
            · refine .lst _ _ _ w.heap.size 0 cap (fun i _ => .int .u8 ((b.get! i).toNat : Nat)) (h.stab_ext hbel _ (.inr ⟨Nat.le_refl _, by show w.heap.size < (w.heap.push X).size; simp⟩)) ⟨hge, hsz⟩ (fun i j hi hj => ?_) (fun i j k hi hk => ?_) (fun i j hi hj => .c _)
              · have hj0 : j = 0 := by simpa using hj
                subst hj0
                have hi' : i < b.data.size := hi
                have e1 : (bytesRow b cap)[i]? = some (Value.int .u8 ((b.get! i).toNat : Nat)) := by
                  unfold bytesRow
                  rw [Array.getElem?_append_left (by simpa using hi')]
                  have e2 : b.get! i = b.data[i] := by
                    show b.data[i]! = _
                    exact getElem!_pos b.data i hi'
                  rw [Array.getElem?_map, Array.getElem?_eq_getElem hi', e2]
                  rfl
                have e3 : (w.drew.alloc X).cell? ⟨w.heap.size, i, none⟩ = (bytesRow b cap)[i]? := by
                  unfold World.cell?
                  simp only [hheap]
                  rw [← hX]
                  rfl
                rw [← e1, ← e3]
                congr 2
                simp
              · have hj : j = 0 := by
                  have := (List.getElem?_eq_some_iff.1 hk).1
                  simpa using this
                subst hj
                simp at hk
                subst hk
                exact .int _ _
        · cases h2
      · cases h2
    · cases hp
  · cases hp

/-- The operations that yield a value. -/
theorem execV_wp (hΓ : GOK P Γ) (h : Rep J Am Mi w0 s θ a w) {t : T V} {x : V} (he : execV P Γ o s = some t) (hp : t.pick = some x)
    (hK : ∀ v w', Below w.heap.size w w' → Den (Stab Am s.lo θ w') (Liv s.lo) θ w' x v → K (a.put o.dst v) w') : o.wpIn (FW r) n P a w K Q := by
  cases hc : isCallF o with
  | true =>
    cases hop : o.op with
    | buildSlice t m parts =>
      simp only [execV, hop] at he
      cases he
      exact bs_wp h hop hp hK
    | convert src dst y =>
      simp only [execV, hop] at he
      cases he
      split at hp
      · rename_i v hv
        cases hp
        obtain ⟨u, hu, hd⟩ := pureOp_run h o hv
        exact wpIn_value (by simp [hop]) hu (hK u w (Below.refl _ _) hd)
      · exact cv_wp h hop hp hK
    | call c =>
      cases hcal : c.callee with
      | value y => exact execV_call hΓ h hop hcal he hp hK
      | builtin b =>
        cases b with
        | append => simp only [execV, hop, execC, hcal] at he; exact ap_wp h hop hcal he hp hK
        | _ => simp [isCallF, hop, hcal] at hc
      | _ => simp [isCallF, hop, hcal] at hc
    | load t y =>
      cases y with
      | global g =>
        simp only [execV, hop] at he
        cases he
        unfold globV at hp
        split at hp
        · rename_i v hl ha
          cases hp
          obtain ⟨g', e1, e2⟩ : ∃ g', g + 1048576 = g' + 1048576 ∧ (g', 0, v) ∈ GW.gl := hΓ _ (look_mem hl)
          have e3 : g = g' := by omega
          subst e3
          have hcell := h.fr.glw _ e2
          have hr := run_loadVar_one (P := P) ha hcell
          refine wpIn_value (v := v) (w' := w) (by simp [hop]) ?_ (hK _ _ (Below.refl _ _) (.q _ _ (.c _)))
          simp [execOp, hop, Act.eval, Instr.loadAt, Instr.sureAddr, hr, Result.andThen_ok]
        · simp [T.pick] at hp
      | _ => simp [isCallF, hop] at hc
    | _ => simp [isCallF, hop] at hc
  | false =>
    obtain ⟨hdef, v, hv, hd⟩ := execV_val h hc he hp
    exact wpIn_value hdef hv (hK v w (Below.refl _ _) hd)

theorem den_one {S L : Nat → Prop} {x : V} {u : Value} (h : Den S L θ w x u) (e : x.one = true) : u.oneCell' = true := by
  cases h with
  | any v => simp [V.one] at e
  | q y v hq => cases hq <;> first | rfl | simpa [V.one] using e
  | agg l vs h => simp [V.one] at e
  | tup l vs h => simp [V.one] at e
  | _ => rfl

theorem denL_one {S L : Nat → Prop} : ∀ {l : List V} {us : List Value}, DenL S L θ w l us → l.all V.one = true → ∀ v ∈ us, v.oneCell' = true
  | _, _, .nil, _ => by simp
  | _, _, .cons x v l us h hl, e => by
    simp only [List.all_cons, Bool.and_eq_true] at e
    intro y hy
    cases hy with
    | head => exact den_one h e.1
    | tail _ hm => exact denL_one hl e.2 y hm

/-- A value for a map: whether it is a struct's; its cells. -/
def updQ : V → Option (Bool × List SX.Q)
  | .agg l => (qsOf l).map fun qs => (true, qs)
  | .q (.c (.agg _)) => none
  | .q x => some (false, [x])
  | .kb b => some (false, [.c (.bool b)])
  | _ => none

theorem updQ_den {S L : Nat → Prop} {v : V} {u : Value} {ag : Bool} {qs : List SX.Q} (h : Den S L θ w v u) (e : updQ v = some (ag, qs)) : ∃ us : List Value, u = valOf ag us ∧ qs.length = us.length ∧ ∀ (j : Nat) (q : SX.Q), qs[j]? = some q → ∃ z, us[j]? = some z ∧ DenQ S w q z := by
  unfold updQ at e
  split at e
  · rename_i l
    simp only [Option.map_eq_some_iff, Prod.mk.injEq] at e
    obtain ⟨qs', h1, rfl, rfl⟩ := e
    cases h with
    | agg l vs hl =>
      obtain ⟨h2, h3⟩ := qsOf_den hl h1
      exact ⟨vs, rfl, h2, h3⟩
  · cases e
  · rename_i x _
    cases e
    exact ⟨[u], rfl, rfl, fun j q hq => by
      cases j with
      | zero => simp at hq; subst hq; exact ⟨u, rfl, h.q_inv⟩
      | succ j => simp at hq⟩
  · rename_i b
    cases e
    cases h
    exact ⟨[.bool b], rfl, rfl, fun j q hq => by
      cases j with
      | zero => simp at hq; subst hq; exact ⟨.bool b, rfl, .c _⟩
      | succ j => simp at hq⟩
  · cases e

theorem denK_of {S : Nat → Prop} : ∀ {ks : List SX.K} {qs : List SX.Q} {us : List Value}, kOks ks qs = true → qs.length = us.length → (∀ (j : Nat) (q : SX.Q), qs[j]? = some q → ∃ z, us[j]? = some z ∧ DenQ S w q z) → DenK S w ks qs us
  | [], [], [], _, _, _ => .nil
  | [], _ :: _, _, h, _, _ => by simp [kOks] at h
  | _ :: _, [], _, h, _, _ => by simp [kOks] at h
  | [], [], _ :: _, _, h, _ => by simp at h
  | _ :: _, _ :: _, [], _, h, _ => by simp at h
  | k :: ks, q :: qs, u :: us, h, hl, hd => by
    simp only [kOks, Bool.and_eq_true] at h
    obtain ⟨z, hz, hdz⟩ := hd 0 q rfl
    cases hz
    exact .cons _ _ _ _ _ _ (kOk_ok h.1) hdz (denK_of h.2 (by simpa using hl) fun j q hq => by simpa using hd (j + 1) q (by simpa using hq))

/-- An entry is put into a map that is owned. -/
def mapU (P : Program) (t : TypeId) (m k v : Operand) (dst : Option Nat) (s : St) : Option St :=
  match P.underlying t, ev s m, (ev s k).val?, dst with
    | some (.map kt et), .mp n, some kv, none => match mkOf P kt, s.lo[n]?, updQ (ev s v) with
      | some kk, some (some (.map kk' ag vk es)), some (ag', qs) => if MK.same kk kk' && kk.fit kv && kOks vk qs && (ag == ag') then some { s with lo := s.lo.set n (some (.map kk' ag vk (putE kv qs es))) } else none
      | _, _, _ => none
    | _, _, _, _ => none

/-- What makes or writes memory; nm: the name of what is made. -/
def execM (P : Program) (o : Oper) (nm : Nat) (s : St) : Option St :=
  match o.op with
  | .alloc t => match run0 P (zeroValue t), o.dst with
    | some z, some d => some { s with tm := s.tm.set d (.ptr nm 0), lo := ins s.lo nm (.cells t (z.cells.toList.map fun x => .q (.c x))) }
    | _, _ => none
  | .box t x => match (ev s x).cells?, o.dst with
    | some cs, some d => some { s with tm := s.tm.set d (.ptr nm 0), lo := ins s.lo nm (.cells t cs) }
    | _, _ => none
  | .store t x y => match ev s x, (ev s y).cells?, run0 P (sizeOf t), o.dst with
    | .ptr n off, some vs, some m, none => match s.lo[n]? with
      | some (some (.cells ty cs)) => if vs.length = m && off + m ≤ cs.length && vs.all V.one then some { s with lo := s.lo.set n (some (.cells ty (over cs off vs))) } else none
      | _ => none
    | _, _, _, _ => none
  | .makeMap t none => match P.underlying t, o.dst with
    | some (.map kt et), some d => match mkOf P kt, run0 P (isAgg et) with
      | some kk, some ag => if ag || decide ((kindsT P 12 et).length = 1) then some { s with tm := s.tm.set d (.mp nm), lo := ins s.lo nm (.map kk ag (kindsT P 12 et) []) } else none
      | _, _ => none
    | _, _ => none
  | .mapUpdate t m k v => mapU P t m k v o.dst s
  | .insert t m k v => mapU P t m k v o.dst s
  | .range t x => match ev s x, o.dst with
    | .q (.c (.string b)), some d => if isStr P t then some { s with tm := s.tm.set d (.ptr nm 0), lo := ins s.lo nm (.siter b 0) } else none
    | _, _ => none
  | _ => none

theorem over_eq {α : Type} (l : List α) (off : Nat) (vs : List α) (h : off + vs.length ≤ l.length) : over l off vs = l.take off ++ vs ++ l.drop (off + vs.length) := by
  induction l generalizing off vs with
  | nil =>
    have : vs = [] := by
      cases vs with
      | nil => rfl
      | cons v vs => simp at h
    subst this
    simp [over]
  | cons x l ih =>
    cases vs with
    | nil => simp [over_nil]
    | cons v vs =>
      cases off with
      | zero =>
        simp only [over]
        rw [ih 0 vs (by simp at h ⊢; omega)]
        simp [Nat.add_comm 1]
      | succ off =>
        simp only [over]
        rw [ih off (v :: vs) (by simp at h ⊢; omega)]
        simp [Nat.add_right_comm off 1]

theorem setRow_putCells (w : World) (g : Nat) (cur : Array Value) (t : TypeId) (vs : List Value) (hg : w.heap[g]? = some (.cells cur t (0, 0))) : w.setRow g vs.toArray = World.putCells w g vs t := by
  unfold World.setRow World.putCells
  congr 1
  apply Array.ext_getElem?
  intro i
  rw [Array.getElem?_modify]
  by_cases hi : g = i
  · subst hi
    have hlt := (Array.getElem?_eq_some_iff.1 hg).1
    rw [hg]
    simp [hlt]
  · rw [Array.getElem?_setIfInBounds_ne hi]
    simp [hi]

theorem mapU_wp (h : Rep J Am Mi w0 s θ a w) {t : TypeId} {m k v : Operand} (hdef : ∀ c, o.op ≠ .defer c) (hop : ∀ w' : World, (Instr.mapUpdate t (a.eval m) (a.eval k) (a.eval v)).run P w = .ok () w' → (execOp a.eval o).run P w = .ok .skip w') {s' : St} (he : mapU P t m k v o.dst s = some s')
    (hK : ∀ θ' a' w', Rep J Am Mi w0 s' θ' a' w' → K a' w') (hK' : ∀ a w, K a w → K (a.put none undef) w) : o.wpIn (FW r) n P a w K Q := by
  unfold mapU at he
  split at he
  · rename_i kt et n' kv hu hm hkv hdst
    split at he
    · rename_i kk kk' ag vk es ag' qs hmk hlo hupd
      split at he
      · rename_i hc
        cases he
        simp only [Bool.and_eq_true, beq_iff_eq] at hc
        obtain ⟨⟨⟨hsame, hfit⟩, hks⟩, hag⟩ := hc
        subst hag
        obtain rfl := MK.same_eq hsame
        have hme := h.ev m
        rw [hm] at hme
        obtain ⟨hmv, _⟩ : a.eval m = .map (some (θ n').blk) ∧ Liv s.lo n' := by
          generalize a.eval m = z at hme
          cases hme with
          | mp _ hl => exact ⟨rfl, hl⟩
        have hke := den_val (h.ev k) hkv
        obtain ⟨us, hus, hlen, hdq⟩ := updQ_den (h.ev v) hupd
        have hdk := denK_of hks hlen hdq
        obtain ⟨arr, clk, h1, h2⟩ := h.lo n' _ hlo
        have hlt := (h.lt n' _ _ hlo rfl).1
        have hg : (getObj (θ n').blk).run P w = .ok (.map arr.toArray clk) w := by simp [getObj, Sem.run, h1]
        have hck := fun em => check_run hmk hfit w em
        have hf := find_run hmk hfit w arr (ents_fit h2)
        have hset : ∀ o', (setObj (θ n').blk o').run P w = .ok () (w.putObj (θ n').blk o') := fun o' => by simp [setObj, Sem.run, World.putObj, h1]
        have fin : ∀ (arr' : List MapEntry) (clk' : Nat), EntsOK (Stab Am s.lo θ w) w kk ag vk (putE kv qs es) arr' → (Instr.mapUpdate t (a.eval m) (a.eval k) (a.eval v)).run P w = .ok () (w.putObj (θ n').blk (.map arr'.toArray clk')) → o.wpIn (FW r) n P a w K Q := fun arr' clk' hE hr => by
          have ht := h.turn n' _ (.map kk ag vk (putE kv qs es)) hlo (fun b hb => hb) (fun _ _ e => by cases e) (.inr fun _ e => by cases e) (w' := w.putObj (θ n').blk (.map arr'.toArray clk')) rfl rfl rfl (by simp) (fun b hb => World.putObj_heap_other (fun e => hb e)) ⟨arr', clk', World.putObj_heap_same hlt, hE.mono (fun _ x => x) (fun b hb => World.putObj_heap_other (fun e => hb.2.2 n' _ hlo e))⟩
          refine wpIn_skip' (w' := w.putObj (θ n').blk (.map arr'.toArray clk')) hdef (hop _ hr) ?_
          rw [hdst]
          exact hK' _ _ (hK θ _ _ ht)
        rcases ents_put (ag := ag) hfit hdk clk h2 0 with ⟨e1, e2⟩ | ⟨j, v', e, e1, e2, e3, e4⟩
        · rw [e1] at hf
          refine fin _ (clk + 1) e2 ?_
          simp [Instr.mapUpdate, run_underlying hu, hmv, hke, hus, hg, hck, hf, Result.andThen, hset]
        · rw [e1] at hf
          refine fin _ clk e4 ?_
          have hst := stays_run (P := P) hfit w
          simp [Instr.mapUpdate, run_underlying hu, hmv, hke, hus, hg, hck, hf, Result.andThen, hset, e2, e3, hst]
      · cases he
    · cases he
  · cases he

theorem execM_wp (h : Rep J Am Mi w0 s θ a w) {nm : Nat} (hn : Fresh s nm) {s' : St} (he : execM P o nm s = some s')
    (hK : ∀ θ' a' w', Rep J Am Mi w0 s' θ' a' w' → K a' w') (hK' : ∀ a w, K a w → K (a.put none undef) w) : o.wpIn (FW r) n P a w K Q := by
  unfold execM at he
  split at he
  · rename_i t hop
    split at he
    · rename_i z d hz hdst
      cases he
      obtain ⟨θ', hb, hR⟩ := h.alloc nm hn t (z.cells.toList.map fun x => .q (.c x)) z.cells.toList (denL_closed _)
      refine wpIn_value (v := .pointer (some ⟨w.heap.size, 0, none⟩)) (w' := w.alloc (.cells z.cells.toList.toArray t)) (by simp [hop]) ?_ (hK θ' _ _ ?_)
      · simp [execOp, hop, Instr.alloc, run0_run _ w hz, Result.andThen_ok, newVar, newRow]
      · rw [hdst]
        exact hR.put d (by rw [← hb]; exact .ptr nm 0 ⟨_, ins_same _ _ _⟩)
    · cases he
  · rename_i t x hop
    split at he
    · rename_i cs d hcs hdst
      cases he
      obtain ⟨θ', hb, hR⟩ := h.alloc nm hn t cs (a.eval x).cells.toList (den_cells (h.ev x) hcs)
      refine wpIn_value (v := .pointer (some ⟨w.heap.size, 0, none⟩)) (w' := w.alloc (.cells (a.eval x).cells.toList.toArray t)) (by simp [hop]) ?_ (hK θ' _ _ ?_)
      · simp [execOp, hop, Instr.box, Result.andThen_ok, newVar, newRow]
      · rw [hdst]
        exact hR.put d (by rw [← hb]; exact .ptr nm 0 ⟨_, ins_same _ _ _⟩)
    · cases he
  · rename_i t x y hop
    split at he
    · rename_i n' off vs m hx hvs hm hdst
      split at he
      · rename_i ty cs hcs
        split at he
        · rename_i hc
          cases he
          simp only [Bool.and_eq_true, decide_eq_true_eq] at hc
          obtain ⟨⟨h1, h2⟩, h3⟩ := hc
          have hxe := h.ev x
          rw [hx] at hxe
          obtain ⟨hptr, _⟩ := hxe.ptr_inv
          have hvd := den_cells (h.ev y) hvs
          obtain ⟨us, hu1, hu2⟩ := h.lo _ _ hcs
          have hl := hu2.length
          have hvl := hvd.length
          have hst := run_storeCells_at (P := P) (θ n').blk off ty (a.eval y).cells.toList 0 us.toArray w hu1 (by simp only [List.size_toArray]; omega) (denL_one hvd h3)
          have hov : over us off (a.eval y).cells.toList = (us.toArray.toList.take (off + 0) ++ (a.eval y).cells.toList ++ us.toArray.toList.drop (off + 0 + (a.eval y).cells.toList.length)) := by
            simpa using over_eq us off (a.eval y).cells.toList (by omega)
          rw [← hov, setRow_putCells _ _ _ _ _ hu1] at hst
          have hsz : (a.eval y).cells.size = m := by rw [← h1, hvl]; simp
          refine wpIn_skip' (w' := World.putCells w (θ n').blk (over us off (a.eval y).cells.toList) ty) (by simp [hop]) ?_ ?_
          · simp [execOp, hop, hptr, Instr.storeAt, Instr.sureAddr, storeVar, run0_run _ w hm, Result.andThen_ok, hsz, hst]
          · rw [hdst]
            exact hK' _ _ (hK θ _ _ (h.write n' ty cs _ _ hcs (hu2.over off hvd)))
        · cases he
      · cases he
    · cases he
  · rename_i t hop
    split at he
    · rename_i kt et d hu hdst
      split at he
      · rename_i kk ag hkk hag
        split at he
        · cases he
          have hR := h.new nm hn (.map kk ag (kindsT P 12 et) []) (.map #[] 0) ⟨w.heap.size, .tuple #[], []⟩ _ rfl (fun _ _ e => by cases e) (fun b hb => by simpa [uses] using hb) (fun S L hS hL hθ hw => ⟨[], 0, by
            simp only [if_true]
            exact World.alloc_heap_new w _, .nil⟩)
          refine wpIn_value (v := .map (some w.heap.size)) (w' := w.alloc (.map #[] 0)) (by simp [hop]) ?_ (hK (fun m => if m = nm then ⟨w.heap.size, .tuple #[], []⟩ else θ m) _ _ ?_)
          · simp [execOp, hop, Instr.makeMap, Result.andThen_ok, run_newObj_alloc]
          · rw [hdst]
            refine hR.put d ?_
            have := Den.mp (S := Stab Am (ins s.lo nm (.map kk ag (kindsT P 12 et) [])) (fun m => if m = nm then ⟨w.heap.size, .tuple #[], []⟩ else θ m) (w.alloc (.map #[] 0))) (L := Liv (ins s.lo nm (.map kk ag (kindsT P 12 et) []))) (θ := fun m => if m = nm then ⟨w.heap.size, .tuple #[], []⟩ else θ m) (w := w.alloc (.map #[] 0)) nm ⟨_, ins_same _ _ _⟩
            simpa using this
        · cases he
      · cases he
    · cases he
  · rename_i t m k v hop
    exact mapU_wp h (by simp [hop]) (fun w' hr => by simp [execOp, hop, hr, Result.andThen_ok]) he hK hK'
  · rename_i t m k v hop
    exact mapU_wp h (by simp [hop]) (fun w' hr => by simp [execOp, hop, hr, Result.andThen_ok]) he hK hK'
  · rename_i t x hop
    split at he
    · rename_i b d hx hdst
      split at he
      · rename_i hstr
        cases he
        have hu := isStr_underlying hstr
        have hye := h.ev x
        rw [hx] at hye
        have hyv : a.eval x = .string b := by
          have := hye.q_inv
          generalize a.eval x = z at this
          cases this
          rfl
        have hR := h.new nm hn (.siter b 0) (.stringIter b 0) ⟨w.heap.size, .tuple #[], []⟩ _ rfl (fun _ _ e => by cases e) (fun c hc => by simpa [uses] using hc) (fun S L hS hL hθ hw => by
          show (w.alloc (.stringIter b 0)).heap[_]? = _
          simp only [if_true]
          exact World.alloc_heap_new w _)
        refine wpIn_value (v := .pointer (some ⟨w.heap.size, 0, none⟩)) (w' := w.alloc (.stringIter b 0)) (by simp [hop]) ?_ (hK (fun m => if m = nm then ⟨w.heap.size, .tuple #[], []⟩ else θ m) _ _ ?_)
        · simp [execOp, hop, hyv, Instr.range, run_underlying hu, Result.andThen_ok, run_newObj_alloc]
        · rw [hdst]
          refine hR.put d ?_
          have := Den.ptr (S := Stab Am (ins s.lo nm (.siter b 0)) (fun m => if m = nm then ⟨w.heap.size, .tuple #[], []⟩ else θ m) (w.alloc (.stringIter b 0))) (L := Liv (ins s.lo nm (.siter b 0))) (θ := fun m => if m = nm then ⟨w.heap.size, .tuple #[], []⟩ else θ m) (w := w.alloc (.stringIter b 0)) nm 0 ⟨_, ins_same _ _ _⟩
          simpa using this
      · cases he
    · cases he
  · cases he

end
end Go.SX

/- What an operation makes of the symbolic state: to add to a list that is owned; calls that are lent something or hand something over. -/
namespace Go.SX
open Go.RowKit
set_option linter.unusedVariables false
set_option linter.unusedSimpArgs false
set_option linter.unusedSectionVars false

def putT (tm : List V) (d : Option Nat) (v : V) : List V := match d with
  | some d => tm.set d v
  | none => tm

/-- What one operation turns. -/
inductive Upd where
  | val (v : V)
  | new (n : Nat) (o : Ob)
  | set (n : Nat) (o : Ob)
  | many (v : V) (ws : List (Nat × Ob))
  | yl (v : V) (args : List V)

/-- What names a new resource. -/
def newV (n : Nat) : Ob → V
  | .map .. => .mp n
  | .vec .. => .own n
  | _ => .ptr n 0

def insL : List (Nat × Ob) → List (Option Ob) → List (Option Ob)
  | [], lo => lo
  | (n, o) :: l, lo => insL l (ins lo n o)

def Upd.ap (d : Option Nat) : Upd → St → St
  | .val v, s => { s with tm := putT s.tm d v }
  | .new n o, s => { s with tm := putT s.tm d (newV n o), lo := ins s.lo n o }
  | .set n o, s => { s with lo := s.lo.set n (some o) }
  | .many v ws, s => { s with tm := putT s.tm d v, lo := insL ws s.lo }
  | .yl v args, s => { s with tm := putT s.tm d v, ys := s.ys ++ [args] }

def Upd.wn : Upd → List Nat
  | .val _ => []
  | .new n _ => [n]
  | .set n _ => [n]
  | .many _ ws => ws.map (·.1)
  | .yl _ _ => []

def K.oneB : K → Bool
  | .any => false
  | _ => true

def vecOf (s : St) : V → Option (TypeId × List K × Nat × (Nat → Nat → Q))
  | .own n => match s.lo[n]? with
    | some (some (.vec t ks len get)) => some (t, ks, len, get)
    | _ => none
  | _ => none

/-- To add to a list that is owned: its name is gone, the new one has what it had. -/
def appE (P : Program) (c : Call) (nm : Nat) (s : St) : T Upd := match c.args.toList with
  | [x, y] => match ev s x, vecOf s (ev s x), ev s y, elemInfo P c with
    | .own n, some (t, ks, len, get), .q (.lst ks' m g), some (e, sz, by_) => if K.sames ks ks' && decide (ks.length = sz ∧ t = e) && ks.all K.oneB then .ite (roomB len m by_) (.leaf (.many (.own nm) [(n, .gone), (nm, .vec t ks (len + m) (catG len get g))])) .bad else .bad
    | .q (.c (.slice none 0 0)), _, .q (.lst ks m g), some (e, sz, by_) => if decide (ks.length = sz) then .ite (roomB 0 m by_) (.leaf (.new nm (.vec e ks m g))) .bad else .bad
    | _, _, _, _ => .bad
  | _ => .bad

/-- What a call hands back, under the caller's names. -/
def ren1 (n nm : Nat) : V → Option V
  | .ptr 0 off => some (.ptr n off)
  | .ptr 1 off => some (.ptr nm off)
  | .mp 1 => some (.mp nm)
  | .own 1 => some (.own nm)
  | v => if v.free then some v else none

def renL (n nm : Nat) : List V → Option (List V)
  | [] => some []
  | x :: l => match ren1 n nm x, renL n nm l with
    | some y, some r => some (y :: r)
    | _, _ => none

def renV (n nm : Nat) : V → Option V
  | .tup l => (renL n nm l).map .tup
  | v => ren1 n nm v

def K.plain : K → Bool
  | .int _ | .bool | .str => true
  | _ => false

def shutOb : Ob → Bool
  | .map _ _ vk _ => vk.all K.plain
  | _ => false

def shutR1 : V → Bool
  | .mp 1 => true
  | v => v.shut1

def shutR : V → Bool
  | .tup l => l.all shutR1
  | v => shutR1 v

def shutX (x : XOut) : Bool := shutR x.r && match x.new with
  | some o => shutOb o
  | none => true

def optW (n : Nat) : Option Ob → List (Nat × Ob)
  | some o => [(n, o)]
  | none => []

def xOut (n nm : Nat) (x : XOut) : T Upd := match renV n nm x.r with
  | some v => .leaf (.many v (optW n x.lent ++ optW nm x.new))
  | none => .bad

/-- A call that is lent something, or hands something over. -/
def xcall (s : St) (nm : Nat) (lend : Bool) (sp : Option Ob → List V → T XOut) (args : List V) : T Upd :=
  if lend then match args with
    | .ptr n 0 :: rest => match s.lo[n]? with
      | some (some (.cells t cs)) => if cs.all V.free1 && rest.all V.free then (sp (some (.cells t cs)) (.ptr 0 0 :: rest)).bind (xOut n nm) else .bad
      | _ => .bad
    | _ => .bad
  else if args.all V.free then (sp none args).bind (xOut nm nm)
  else match letGoL s.lo args with
    | some args' => (sp none args').bind fun x => if shutX x then xOut nm nm x else .bad
    | none => .bad

def effX (P : Program) (Γ : Gam) (nm : Nat) (o : Oper) (s : St) : T Upd := match o.op with
  | .call c => match c.callee with
    | .builtin .append => match o.dst with
      | some _ => appE P c nm s
      | none => .bad
    | .value x => match calleeV s x with
      | some (f, caps) => match look Γ f with
        | some (.x lend sp) => xcall s nm lend sp (c.args.toList.map (ev s) ++ caps)
        | _ => .bad
      | none => .bad
    | _ => .bad
  | _ => .bad

section
variable [GW] {P : Program} {J : Jt P} {Am Mi : Nat → Prop} {w0 w : World} {s : St} {θ : Th} {a : Act} {Γ : Gam} {r : Option Nat} {n : Nat} {o : Oper} {K : Act → World → Prop} {Q : Exit → Act → World → Prop}

/-- Some resources (C) are turned, handed on or new; all else is as it was. O: the blocks that C had. -/
theorem Rep.change (h : Rep J Am Mi w0 s θ a w) {lo' : List (Option Ob)} {θ' : Th} {w' : World} (C O : Nat → Prop)
    (hk : ∀ m x, lo'[m]? = some (some x) → ¬ C m → s.lo[m]? = some (some x)) (hθ : ∀ m, Liv s.lo m → θ' m = θ m) (hb : ∀ m, m < s.base → θ' m = θ m) (hL : ∀ m, Liv s.lo m → Liv lo' m) (hlen : s.lo.length ≤ lo'.length)
    (hu : ∀ m x b, C m → lo'[m]? = some (some x) → uses θ' m x b → (O b ∨ w.heap.size ≤ b) ∧ b < w'.heap.size)
    (hO : ∀ b, O b → ∃ m x, C m ∧ s.lo[m]? = some (some x) ∧ uses θ m x b)
    (hinj : ∀ m m' x x' b, C m → C m' → lo'[m]? = some (some x) → lo'[m']? = some (some x') → m ≠ m' → uses θ' m x b → ¬ uses θ' m' x' b)
    (hos : w'.os = w.os) (htp : w'.tape = w.tape) (hout : w'.output = w.output) (hsz : w.heap.size ≤ w'.heap.size) (hww : ∀ b, b < w.heap.size → ¬ O b → w'.heap[b]? = w.heap[b]?)
    (hny : ∀ m go adm, C m → lo'[m]? ≠ some (some (.yl go adm))) (hnr : ∀ m x, C m → s.lo[m]? ≠ some (some (.raw x)))
    (hrk : ∀ m x, ¬ C m → s.lo[m]? = some (some x) → lo'[m]? = some (some x))
    (hH : ∀ m x, C m → lo'[m]? = some (some x) → ∀ S : Nat → Prop, (∀ b, Stab Am s.lo θ w b → S b) → (∀ b, w.heap.size ≤ b → b < w'.heap.size → (∀ m x, C m → lo'[m]? = some (some x) → ¬ uses θ' m x b) → S b) → (∀ b, O b → (∀ m x, C m → lo'[m]? = some (some x) → ¬ uses θ' m x b) → S b) → Holds S (Liv lo') θ' w' m x) :
    Rep J Am Mi w0 { s with lo := lo' } θ' a w' := by
  have hOown : ∀ b, O b → Own s.lo θ b := fun b hb => let ⟨m, x, _, h1, h2⟩ := hO b hb; ⟨m, x, h1, h2⟩
  have old : ∀ m x b, ¬ C m → lo'[m]? = some (some x) → uses θ' m x b → s.lo[m]? = some (some x) ∧ uses θ m x b := fun m x b hc hx hux => by
    have hx' := hk m x hx hc
    exact ⟨hx', (uses_congr (hθ m ⟨x, hx'⟩) x b).1 hux⟩
  have hnO : ∀ m x b, ¬ C m → s.lo[m]? = some (some x) → uses θ m x b → ¬ O b := fun m x b hc hx hux hb => by
    obtain ⟨m', x', hc', hx', hux'⟩ := hO b hb
    exact h.inj m m' x x' b hx hx' (fun e => hc (e ▸ hc')) hux hux'
  have hS : ∀ b, Stab Am s.lo θ w b → Stab Am lo' θ' w' b := fun b hb' => by
    refine ⟨Nat.lt_of_lt_of_le hb'.1 hsz, hb'.2.1, fun m x hx hux => ?_⟩
    by_cases hc : C m
    · rcases (hu m x b hc hx hux).1 with h1 | h1
      · obtain ⟨m', x', _, hx', hux'⟩ := hO b h1
        exact hb'.2.2 m' x' hx' hux'
      · have := hb'.1; omega
    · obtain ⟨h1, h2⟩ := old m x b hc hx hux
      exact hb'.2.2 m x h1 h2
  have hw : ∀ b, Stab Am s.lo θ w b → w'.heap[b]? = w.heap[b]? := fun b hb' => hww b hb'.1 fun ho => by
    obtain ⟨m, x, _, hx, hux⟩ := hO b ho
    exact hb'.2.2 m x hx hux
  refine ⟨h.size, fun i v hv => ?_, fun m x hx => ?_, fun m x b hx hux => ?_, fun m m' x x' b hx hx' hne hux hux' => ?_, h.mine, ?_, fun b hb' => Nat.lt_of_lt_of_le (h.am b hb') hsz, ?_, fun m go adm hx => ?_, h.ga, ⟨h.rr.1, fun l hl => ?_⟩, ⟨h.tt.1, Nat.le_trans h.tt.2.1 hlen, fun m hm => by rw [hb m hm]; exact h.tt.2.2 m hm⟩, ?_, fun d hd m hm => hL m (h.dfl d hd m hm)⟩
  · obtain ⟨u, hu, hd⟩ := h.tm i v hv
    exact ⟨u, hu, hd.mono hS hw hL hθ⟩
  · by_cases hc : C m
    · refine hH m x hc hx _ hS (fun b h1 h2 h3 => ⟨h2, fun ham => ?_, fun m' x' hx' hux' => ?_⟩) (fun b h1 h3 => ?_)
      · have := h.am b ham; omega
      · by_cases hc' : C m'
        · exact h3 m' x' hc' hx' hux'
        · obtain ⟨h4, h5⟩ := old m' x' b hc' hx' hux'
          have := (h.lt m' x' b h4 h5).1
          omega
      · obtain ⟨m0, x0, _, g1, g2⟩ := hO b h1
        obtain ⟨g3, _, g4⟩ := h.lt m0 x0 b g1 g2
        refine ⟨Nat.lt_of_lt_of_le g3 hsz, g4, fun m' x' hx' hux' => ?_⟩
        by_cases hc' : C m'
        · exact h3 m' x' hc' hx' hux'
        · obtain ⟨h4, h5⟩ := old m' x' b hc' hx' hux'
          exact hnO m' x' b hc' h4 h5 h1
    · have hx' := hk m x hx hc
      exact (h.lo m x hx').mono hS hw hL hθ ⟨x, hx'⟩ (fun b hux => hww b (h.lt m x b hx' hux).1 (hnO m x b hc hx' hux))
  · by_cases hc : C m
    · obtain ⟨h1, h2⟩ := hu m x b hc hx hux
      refine ⟨h2, ?_⟩
      rcases h1 with h1 | h1
      · obtain ⟨m', x', _, hx', hux'⟩ := hO b h1
        exact (h.lt m' x' b hx' hux').2
      · exact ⟨h.mine _ (Nat.le_trans h.fr.size h1), fun hh => absurd (h.am _ hh) (by omega)⟩
    · obtain ⟨h1, h2⟩ := old m x b hc hx hux
      exact ⟨Nat.lt_of_lt_of_le (h.lt m x b h1 h2).1 hsz, (h.lt m x b h1 h2).2⟩
  · by_cases hc : C m <;> by_cases hc' : C m'
    · exact hinj m m' x x' b hc hc' hx hx' hne hux hux'
    · obtain ⟨h1, h2⟩ := old m' x' b hc' hx' hux'
      rcases (hu m x b hc hx hux).1 with h3 | h3
      · exact hnO m' x' b hc' h1 h2 h3
      · have := (h.lt m' x' b h1 h2).1; omega
    · obtain ⟨h1, h2⟩ := old m x b hc hx hux
      rcases (hu m' x' b hc' hx' hux').1 with h3 | h3
      · exact hnO m x b hc h1 h2 h3
      · have := (h.lt m x b h1 h2).1; omega
    · obtain ⟨h1, h2⟩ := old m x b hc hx hux
      obtain ⟨h3, h4⟩ := old m' x' b hc' hx' hux'
      exact h.inj m m' x x' b h1 h3 hne h2 h4
  · refine ⟨hos.trans h.fr.os, htp.trans h.fr.tape, hout.trans h.fr.output, Nat.le_trans h.fr.size hsz, fun b hlt hn => ?_, h.fr.gl⟩
    rw [hww b (Nat.lt_of_lt_of_le hlt h.fr.size) (fun ho => by
      obtain ⟨m, x, _, hx, hux⟩ := hO b ho
      exact hn (h.lt m x b hx hux).2.1)]
    exact h.fr.block b hlt hn
  · refine h.jj.step hos htp hout hsz (fun b hlt hno => hww b hlt fun ho => hno (hOown b ho)) (fun b ⟨m, x, hx, hux⟩ => ?_) h.am h.own_am
    by_cases hc : C m
    · obtain ⟨h1, h2⟩ := hu m x b hc hx hux
      exact ⟨h1.imp (hOown b) id, h2⟩
    · obtain ⟨h1, h2⟩ := old m x b hc hx hux
      exact ⟨.inl ⟨m, x, h1, h2⟩, Nat.lt_of_lt_of_le (h.lt m x b h1 h2).1 hsz⟩
  · by_cases hc : C m
    · exact absurd hx (hny m go adm hc)
    · have hx' := hk m _ hx hc
      show J.ok (θ' m).blk go adm
      rw [hθ m ⟨_, hx'⟩]
      exact h.yy m go adm hx'
  · obtain ⟨m, x, hx, hb⟩ := h.rr.2 l hl
    have hc : ¬ C m := fun hc => hnr m _ hc hx
    exact ⟨m, x, hrk m _ hc hx, by rw [hθ m ⟨_, hx⟩]; exact hb⟩
  · rw [h.df]
    exact flatMap_congr' fun d hd => (Df.den_congr d fun m hm => hθ m (h.dfl d hd m hm)).symm

theorem Rep.putO (h : Rep J Am Mi w0 s θ a w) (d : Option Nat) {v : V} {u : Value} (hv : Den (Stab Am s.lo θ w) (Liv s.lo) θ w v u) :
    Rep J Am Mi w0 { s with tm := putT s.tm d v } θ (a.put d u) w := by
  cases d with
  | none => exact h
  | some d => exact h.put d hv

theorem holds_ren {S S' L : Nat → Prop} {θ θ' : Th} {w' : World} {n m : Nat} {o : Ob} (hS : ∀ b, S b → S' b) (hn : θ' m = θ n) (h : Holds S NoL θ w' n o) : Holds S' L θ' w' m o := by
  have hL : ∀ {l : List V} {vs : List Value}, DenL S NoL θ w' l vs → DenL S' L θ' w' l vs := fun hd => hd.mono hS (fun _ _ => rfl) (fun _ hf => hf.elim) (fun _ hf => hf.elim)
  cases o with
  | map kk ag vk es =>
    obtain ⟨arr, clk, h1, h2⟩ := h
    exact ⟨arr, clk, by rw [hn]; exact h1, h2.mono hS (fun _ _ => rfl)⟩
  | cells t cs =>
    obtain ⟨vs, h1, h2⟩ := h
    exact ⟨vs, by rw [hn]; exact h1, hL h2⟩
  | vec t ks len get =>
    rcases h with ⟨h1, h2⟩ | ⟨vs, cap, h1, h2, h3, h4, h5, h6⟩
    · exact .inl ⟨by rw [hn]; exact h1, h2⟩
    · refine .inr ⟨vs, cap, by rw [hn]; exact h1, by rw [hn]; exact h2, h3, h4, h5, fun i j k hi hk => ?_⟩
      obtain ⟨a, u, b, c⟩ := h6 i j k hi hk
      exact ⟨a, u, b, c.mono hS (fun _ _ => rfl)⟩
  | yl go adm => trivial
  | dfr => exact ⟨by rw [hn]; exact h.1, fun b hb => by rw [hn] at hb; exact h.2 b hb⟩
  | deads => trivial
  | raw x => show _ = _; rw [hn]; exact h
  | siter b pos => show _ = _; rw [hn]; exact h
  | dead => trivial
  | gone => trivial
  | held tm =>
    obtain ⟨us, h1, h2⟩ := h
    exact ⟨us, by rw [hn]; exact h1, hL h2⟩

theorem uses_ren {θ θ' : Th} {n m : Nat} (h : θ' m = θ n) (o : Ob) (b : Nat) : uses θ' m o b ↔ uses θ n o b := by
  cases o <;> simp [uses, h]

theorem den_oneB {S : Nat → Prop} {k : SX.K} {q : SX.Q} {u : Value} (h : DenQ S w q u) (hk : KOk k q) (e : k.oneB = true) : u.oneCell' = true := by
  cases hk with
  | int k n => cases h; rfl
  | bool b => cases h; rfl
  | str s => cases h; rfl
  | any q => cases e
  | lst ks len get => cases h <;> rfl

theorem ins_len (lo : List (Option Ob)) (n : Nat) (o : Ob) : lo.length ≤ (ins lo n o).length := by simp [ins]

theorem appE_wp (h : Rep J Am Mi w0 s θ a w) {c : Call} (hop : o.op = .call c) (hcal : c.callee = .builtin .append) {d : Nat} (hdst : o.dst = some d) {nm : Nat} (hn : Fresh s nm) {u : Upd} (hp : (appE P c nm s).pick = some u)
    (hK : ∀ θ' a' w', Rep J Am Mi w0 (u.ap o.dst s) θ' a' w' → K a' w') : o.wpIn (FW r) n P a w K Q := by
  unfold appE at hp
  split at hp
  · rename_i x0 y0 hargs
    have hargs' : c.args = #[x0, y0] := by
      have := congrArg List.toArray hargs
      simpa using this
    split at hp
    · rename_i n' t ks len get ks' m g el sz by_ hx hvec hy hei
      have hlo : s.lo[n']? = some (some (.vec t ks len get)) := by
        rw [hx] at hvec
        simp only [vecOf] at hvec
        split at hvec
        · rename_i hh
          cases hvec
          exact hh
        · cases hvec
      · split at hp
        · rename_i hc0
          simp only [Bool.and_eq_true, decide_eq_true_eq] at hc0
          obtain ⟨⟨hks, hksz, rfl⟩, hone⟩ := hc0
          obtain rfl := SX.K.sames_eq _ _ hks
          obtain ⟨ty, i, z, hat, hu, hi, hz, h1, h2, h3, h4, h5⟩ := elemInfo_inv hei
          simp only [T.pick] at hp
          cases hb : roomB len m by_ with
          | false => simp [hb] at hp
          | true =>
            simp only [hb, cond_true, Option.some.injEq] at hp
            subst hp
            simp only [roomB, decide_eq_true_eq] at hb
            obtain ⟨hm0, hby⟩ := hb
            have hdx := h.ev x0
            rw [hx] at hdx
            obtain ⟨_, hxe, _⟩ := hdx.own_inv
            have hdy := h.ev y0
            rw [hy] at hdy
            obtain ⟨yb, yo, yc, yu, hye, hyc, hyk, hyd⟩ := lst_cells hdy.q_inv hm0
            have hlm : len + m ≤ 140737488355328 := Nat.le_trans (Nat.le_mul_of_pos_right _ h5) hby
            have hlm' : len + m ≤ maxLen := by simp only [maxLen]; omega
            have hnews : ∀ z ∈ flatC yu m sz, z.oneCell' = true := fun z hz => by
              obtain ⟨j, hj⟩ := List.mem_iff_getElem?.1 hz
              obtain ⟨g1, g2, rfl, _⟩ := flatC_get hj
              have g2' : j % sz < ks.length := by rw [hksz]; exact g2
              have hkj := List.getElem?_eq_getElem g2'
              exact den_oneB (hyd _ _ g1 g2') (hyk _ _ _ g1 hkj) (List.all_eq_true.1 hone _ (List.getElem_mem g2'))
            have hold : ∃ xs : List Value, w.ownsRow 0 t sz (θ n').sl len xs ∧ ((θ n').sl = .slice none 0 0 ∨ (θ n').sl.ownBlock = some (θ n').blk ∧ (θ n').sl ≠ .slice none 0 0) ∧
                ∀ i j k, i < len → ks[j]? = some k → KOk k (get i j) ∧ ∃ z, xs[i * sz + j]? = some z ∧ DenQ (Stab Am s.lo θ w) w (get i j) z := by
              rcases h.lo _ _ hlo with ⟨g1, g2⟩ | ⟨vs, cap, g1, g2, g3, g4, g5, g6⟩
              · refine ⟨[], by rw [g1, g2]; exact World.ownsRow_nil w _ t sz, .inl g1, fun i j k hi => by omega⟩
              · have hle : len * sz ≤ vs.length := by rw [g3, hksz]; exact Nat.mul_le_mul_right _ g4.1
                refine ⟨vs.take (len * sz), ⟨by simp [hle], .inr ⟨_, cap, vs.toArray, g1, Nat.zero_le _, g2, g4.1, by simp only [maxLen]; omega, by simp [g3, hksz], by simp⟩⟩, .inr ⟨by rw [g1]; rfl, by rw [g1]; simp⟩, fun i j k hi hk => ?_⟩
                obtain ⟨q1, u, q2, q3⟩ := g6 i j k hi hk
                refine ⟨q1, u, ?_, q3⟩
                have hj : j < sz := by rw [← hksz]; exact (List.getElem?_eq_some_iff.1 hk).1
                rw [List.getElem?_take, if_pos (by
                  have : (i + 1) * sz ≤ len * sz := Nat.mul_le_mul_right _ hi
                  rw [Nat.add_mul] at this
                  omega), ← hksz]
                exact q2
            obtain ⟨xs, hown, hsl, hxs⟩ := hold
            obtain ⟨v', w', hr, hown', hg, _, hat'⟩ := run_append_own_at (P := P) w 0 ty o.type t i z sz by_ hu hi hz h1 h2 h3 h4 (θ n').sl len xs hown ⟨yb, yo, none⟩ m yc (flatC yu m sz) (flatC_length _ _ _) (by rw [← hksz]; exact hyc) hnews hlm' hby (Nat.zero_le _)
            have hxl : xs.length = len * sz := hown.1
            rcases hown'.2 with ⟨_, h0⟩ | ⟨gb, cap', cur, rfl, _, hgc, hnc, hcm, hcs, htake⟩
            · omega
            · have hlt : gb < w'.heap.size := (Array.getElem?_eq_some_iff.1 hgc).1
              have hne : nm ≠ n' := fun e => hn.2 _ (by rw [e]; exact hlo)
              have hblk : uses θ n' (.vec t ks len get) gb ∨ w.heap.size ≤ gb := by
                rcases hat' with e | e
                · rcases hsl with e2 | ⟨e2, e3⟩
                  · rw [e2] at e; cases e
                  · rw [e2] at e; cases e; exact .inl ⟨rfl, e3⟩
                · cases e; exact .inr (Nat.le_refl _)
              have hrun : (execOp a.eval o).run P w = .ok (.value (.slice (some ⟨gb, 0, none⟩) (len + m) cap')) w' := by
                simp [execOp, hop, hcal, hargs', resolve, invoke, builtin, hat, hxe, hye, hr, Result.andThen]
              have hmono : ∀ (S : Nat → Prop), (∀ b, Stab Am s.lo θ w b → S b) → ∀ {q : SX.Q} {z : Value}, DenQ (Stab Am s.lo θ w) w q z → DenQ S w' q z := fun S hS _ _ hq => hq.mono hS (fun b hb => hg.block b hb.1 (fun e => by
                rcases hsl with e2 | ⟨e2, e3⟩
                · rw [e2] at e; cases e
                · rw [e2] at e; cases e; exact hb.2.2 n' _ hlo ⟨rfl, e3⟩))
              have hR := h.change (lo' := ins (ins s.lo n' .gone) nm (.vec t ks (len + m) (catG len get g))) (θ' := fun k => if k = nm then ⟨gb, .slice (some ⟨gb, 0, none⟩) (len + m) cap', []⟩ else θ k) (w' := w') (fun k => k = n' ∨ k = nm) (uses θ n' (.vec t ks len get))
                (fun k x hx hc => by
                  rw [ins_other _ _ _ _ _ (fun e => hc (.inr e)), ins_other _ _ _ _ _ (fun e => hc (.inl e))] at hx
                  exact hx)
                (fun k hk => by
                  obtain ⟨x, hx⟩ := hk
                  have : k ≠ nm := fun e => hn.2 x (by rw [← e]; exact hx)
                  simp [this])
                (fun k hk => by
                  have : k ≠ nm := fun e => by have := hn.1; omega
                  simp [this])
                (fun k hk => by
                  obtain ⟨x, hx⟩ := hk
                  have e1 : k ≠ nm := fun e => hn.2 x (by rw [← e]; exact hx)
                  by_cases e2 : k = n'
                  · subst e2; exact ⟨.gone, by rw [ins_other _ _ _ _ _ e1, ins_same]⟩
                  · exact ⟨x, by rw [ins_other _ _ _ _ _ e1, ins_other _ _ _ _ _ e2]; exact hx⟩)
                (Nat.le_trans (ins_len _ _ _) (ins_len _ _ _))
                (fun k x b hk hx0 hux => by
                  rcases hk with rfl | rfl
                  · rw [ins_other _ _ _ _ _ (fun e => hne e.symm), ins_same] at hx0
                    cases hx0; exact hux.elim
                  · rw [ins_same] at hx0
                    cases hx0
                    simp only [uses, if_true] at hux
                    obtain ⟨rfl, _⟩ := hux
                    exact ⟨hblk, hlt⟩)
                (fun b hb => ⟨n', _, .inl rfl, hlo, hb⟩)
                (fun k k' x x' b hk hk' hx0 hx1 hne' hux hux' => by
                  rcases hk with rfl | rfl <;> rcases hk' with rfl | rfl
                  · exact hne' rfl
                  · rw [ins_other _ _ _ _ _ (fun e => hne e.symm), ins_same] at hx0
                    cases hx0; exact hux.elim
                  · rw [ins_other _ _ _ _ _ (fun e => hne e.symm), ins_same] at hx1
                    cases hx1; exact hux'.elim
                  · exact hne' rfl)
                hg.os hg.tape hg.output hg.size
                (fun b hb hno => hg.block b hb (fun e => by
                  rcases hsl with e2 | ⟨e2, e3⟩
                  · rw [e2] at e; cases e
                  · rw [e2] at e; cases e; exact hno ⟨rfl, e3⟩))
                (fun k go adm hk hx0 => by
                  rcases hk with rfl | rfl
                  · rw [ins_other _ _ _ _ _ (fun e => hne e.symm), ins_same] at hx0; cases hx0
                  · rw [ins_same] at hx0; cases hx0)
                (fun k x hk hx0 => by
                  rcases hk with rfl | rfl
                  · rw [hlo] at hx0; cases hx0
                  · exact hn.2 _ hx0)
                (fun k x hc hx => by
                  rw [ins_other _ _ _ _ _ (fun e => hc (.inr e)), ins_other _ _ _ _ _ (fun e => hc (.inl e))]
                  exact hx)
                (fun k x hk hx0 S hS _ _ => by
                  rcases hk with rfl | rfl
                  · rw [ins_other _ _ _ _ _ (fun e => hne e.symm), ins_same] at hx0
                    cases hx0; trivial
                  · rw [ins_same] at hx0
                    cases hx0
                    refine .inr ⟨cur.toList, cap', by simp, by simp only [if_true]; exact hgc, by simpa [hksz] using hcs, ⟨hnc, by simp only [maxLen] at hcm; omega⟩, by omega, fun i j k hi hk => ?_⟩
                    have hj : j < sz := by rw [← hksz]; exact (List.getElem?_eq_some_iff.1 hk).1
                    have hcell : ∀ t z, (xs ++ flatC yu m sz)[t]? = some z → cur.toList[t]? = some z := fun t z hz => by
                      rw [← htake, List.getElem?_take] at hz
                      split at hz
                      · exact hz
                      · cases hz
                    simp only [catG]
                    by_cases hlt' : i < len
                    · simp only [hlt', decide_true, cond_true]
                      obtain ⟨q1, z, q2, q3⟩ := hxs i j k hlt' hk
                      refine ⟨q1, z, ?_, hmono S hS q3⟩
                      rw [hksz]
                      refine hcell _ _ ?_
                      rw [List.getElem?_append_left (List.getElem?_eq_some_iff.1 q2).1]
                      exact q2
                    · simp only [hlt', decide_false, cond_false]
                      refine ⟨hyk _ j k (by omega) hk, _, ?_, hmono S hS (hyd (i - len) j (by omega) (by rw [hksz]; exact hj))⟩
                      rw [hksz]
                      refine hcell _ _ ?_
                      rw [List.getElem?_append_right (by
                        rw [hxl]
                        have : len * sz ≤ i * sz := Nat.mul_le_mul_right _ (by omega)
                        omega), hxl]
                      have : i * sz + j - len * sz = (i - len) * sz + j := by
                        have e : i * sz = (i - len) * sz + len * sz := by rw [← Nat.add_mul]; congr 1; omega
                        omega
                      rw [this]
                      exact flatC_at (by omega) hj)
              refine wpIn_value (v := .slice (some ⟨gb, 0, none⟩) (len + m) cap') (w' := w') (by simp [hop]) hrun (hK _ _ _ (hR.putO o.dst ?_))
              exact .own nm _ _ _ ⟨_, ins_same _ _ _⟩ (by simp)
        · simp [T.pick] at hp
    · rename_i ks m g el sz by_ hx hy hei
      split at hp
      · rename_i hc0
        simp only [decide_eq_true_eq] at hc0
        obtain ⟨ty, i, z, hat, hu, hi, hz, h1, h2, h3, h4, h5⟩ := elemInfo_inv hei
        simp only [T.pick] at hp
        cases hb : roomB 0 m by_ with
        | false => simp [hb] at hp
        | true =>
          simp only [hb, cond_true, Option.some.injEq] at hp
          subst hp
          simp only [roomB, decide_eq_true_eq] at hb
          obtain ⟨hm0, hby⟩ := hb
          have hdx := h.ev x0
          rw [hx] at hdx
          have hxe : a.eval x0 = .slice none 0 0 := by
            have := hdx.q_inv
            generalize a.eval x0 = z at this
            cases this; rfl
          have hdy := h.ev y0
          rw [hy] at hdy
          obtain ⟨yb, yo, yc, yu, hye, hyc, hyk, hyd⟩ := lst_cells hdy.q_inv hm0
          have hlm : m ≤ 140737488355328 := Nat.le_trans (Nat.le_mul_of_pos_right _ h5) (by simpa using hby)
          obtain ⟨v', w', hr, hown, hg⟩ := run_append_none (P := P) (w := w) o.type ty el i z sz by_ hu hi hz h1 h2 h3 h4 ⟨yb, yo, none⟩ m yc (flatC yu m sz) (flatC_length _ _ _) (by rw [← hc0]; exact hyc) hm0 (by simp only [maxLen]; omega) (by simpa using hby)
          rcases hown.2 with ⟨_, h0⟩ | ⟨gb, cap', cur, rfl, hgb, hgc, hnc, hcm, hcs, htake⟩
          · omega
          · have hlt : gb < w'.heap.size := (Array.getElem?_eq_some_iff.1 hgc).1
            have hbel : Below w.heap.size w w' := ⟨hg.os, hg.tape, hg.output, hg.size, fun k hk => hg.block k hk (by simp)⟩
            have hR := h.gain nm hn (.vec el ks m g) hbel ⟨gb, .slice (some ⟨gb, 0, none⟩) m cap', []⟩ _ rfl (fun _ _ e => by cases e) (fun b hb => by
              simp only [uses, if_true] at hb
              rw [hb.1]
              exact ⟨hgb, hlt⟩) (fun S L hS hL hθ hw => by
              refine .inr ⟨cur.toList, cap', by simp, by simp only [if_true]; exact hgc, by simpa [hc0] using hcs, ⟨hnc, by simp only [maxLen] at hcm; omega⟩, by omega, fun i j k hi hk => ?_⟩
              have hj : j < sz := by rw [← hc0]; exact (List.getElem?_eq_some_iff.1 hk).1
              refine ⟨hyk i j k hi hk, _, ?_, (hyd i j hi (by rw [hc0]; exact hj)).mono hS hw⟩
              rw [hc0]
              have := flatC_at (u := yu) hi hj
              rw [← htake, List.getElem?_take] at this
              split at this
              · exact this
              · cases this)
            refine wpIn_value (v := .slice (some ⟨gb, 0, none⟩) m cap') (w' := w') (by simp [hop]) ?_ (hK _ _ _ (hR.putO o.dst ?_))
            · simp [execOp, hop, hcal, hargs', resolve, invoke, builtin, hat, hxe, hye, hr, Result.andThen]
            · exact .own nm _ _ _ ⟨_, ins_same _ _ _⟩ (by simp)
      · simp [T.pick] at hp
    · simp [T.pick] at hp
  · simp [T.pick] at hp

theorem insX {lo : List (Option Ob)} {n nm : Nat} (l x : Option Ob) :
    (∀ m y, ¬ ((m = n ∧ l.isSome) ∨ (m = nm ∧ x.isSome)) → ((insL (optW n l ++ optW nm x) lo)[m]? = some (some y) ↔ lo[m]? = some (some y))) ∧
    (∀ o, x = some o → (insL (optW n l ++ optW nm x) lo)[nm]? = some (some o)) ∧ (∀ o, l = some o → n ≠ nm → (insL (optW n l ++ optW nm x) lo)[n]? = some (some o)) ∧ lo.length ≤ (insL (optW n l ++ optW nm x) lo).length := by
  cases l <;> cases x
  · exact ⟨fun m y _ => Iff.rfl, fun o h => (by cases h), fun o h => (by cases h), Nat.le_refl _⟩
  · exact ⟨fun m y hm => ins_other _ _ _ _ _ (fun e => hm (.inr ⟨e, rfl⟩)), fun o h => (by cases h; exact ins_same _ _ _), fun o h => (by cases h), ins_len _ _ _⟩
  · exact ⟨fun m y hm => ins_other _ _ _ _ _ (fun e => hm (.inl ⟨e, rfl⟩)), fun o h => (by cases h), fun o h _ => (by cases h; exact ins_same _ _ _), ins_len _ _ _⟩
  · exact ⟨fun m y hm => (ins_other _ _ _ _ _ (fun e => hm (.inr ⟨e, rfl⟩))).trans (ins_other _ _ _ _ _ (fun e => hm (.inl ⟨e, rfl⟩))), fun o h => (by cases h; exact ins_same _ _ _), fun o h hne => (by cases h; exact (ins_other _ _ _ _ _ hne).2 (ins_same _ _ _)), Nat.le_trans (ins_len _ _ _) (ins_len _ _ _)⟩

/-- What may be looked at behind a call: what could before, and what is new, but not what is handed over. -/
def XB (S : Nat → Prop) (w w' : World) (θ' : Th) (x : XOut) (b : Nat) : Prop := (S b ∨ (w.heap.size ≤ b ∧ b < w'.heap.size)) ∧ ∀ o, x.new = some o → ¬ uses θ' 1 o b

theorem ren1_den {S S' L L' : Nat → Prop} {θ θ' : Th} {w : World} {n nm : Nat} {x y : V} {v : Value} (h : Den S L θ w x v) (e : ren1 n nm x = some y) (hS : ∀ b, S b → S' b) (h0 : L 0 → L' n ∧ (θ' n).blk = (θ 0).blk) (h1 : L 1 → L' nm ∧ θ' nm = θ 1) : Den S' L' θ' w y v := by
  have hfree : x.free = true → Den S' L' θ' w x v := fun hf => (den_free (L' := NoL) (θ' := th0) h hf).mono hS (fun _ _ => rfl) (fun _ hf => hf.elim) (fun _ hf => hf.elim)
  unfold ren1 at e
  split at e
  · rename_i off
    cases e
    obtain ⟨rfl, hl⟩ := h.ptr_inv
    obtain ⟨a, b⟩ := h0 hl
    rw [← b]
    exact .ptr _ _ a
  · rename_i off
    cases e
    obtain ⟨rfl, hl⟩ := h.ptr_inv
    obtain ⟨a, b⟩ := h1 hl
    rw [← b]
    exact .ptr _ _ a
  · cases e
    cases h with
    | mp _ hl =>
      obtain ⟨a, b⟩ := h1 hl
      rw [← b]
      exact .mp _ a
  · cases e
    cases h with
    | own _ ad len cap hl hs =>
      obtain ⟨a, b⟩ := h1 hl
      exact .own _ _ _ _ a (by rw [b]; exact hs)
  · split at e
    · rename_i hf
      cases e
      exact hfree hf
    · cases e

theorem renL_den {S S' L L' : Nat → Prop} {θ θ' : Th} {w : World} {n nm : Nat} (hS : ∀ b, S b → S' b) (h0 : L 0 → L' n ∧ (θ' n).blk = (θ 0).blk) (h1 : L 1 → L' nm ∧ θ' nm = θ 1) : ∀ {l r : List V} {vs : List Value}, DenL S L θ w l vs → renL n nm l = some r → DenL S' L' θ' w r vs
  | [], r, _, .nil, e => by cases e; exact .nil
  | x :: l, r, _, .cons _ v _ vs h hl, e => by
    simp only [renL] at e
    split at e
    · rename_i y r' hy hr
      cases e
      exact .cons _ _ _ _ (ren1_den h hy hS h0 h1) (renL_den hS h0 h1 hl hr)
    · cases e

theorem renV_den {S S' L L' : Nat → Prop} {θ θ' : Th} {w : World} {n nm : Nat} {x y : V} {v : Value} (h : Den S L θ w x v) (e : renV n nm x = some y) (hS : ∀ b, S b → S' b) (h0 : L 0 → L' n ∧ (θ' n).blk = (θ 0).blk) (h1 : L 1 → L' nm ∧ θ' nm = θ 1) : Den S' L' θ' w y v := by
  unfold renV at e
  split at e
  · rename_i l
    simp only [Option.map_eq_some_iff] at e
    obtain ⟨r, hr, rfl⟩ := e
    cases h with
    | tup l vs hl => exact .tup _ _ (renL_den hS h0 h1 hl hr)
  · exact ren1_den h e hS h0 h1

theorem x_fin (h : Rep J Am Mi w0 s θ a w) {n nm : Nat} (hn : Fresh s nm) {lend : Bool} (hlo : lend = true → ∃ t cs, s.lo[n]? = some (some (.cells t cs))) {x : XOut} {v : Value} {w' : World} {θ' : Th} (hθ0 : lend = true → (θ' 0).blk = (θ n).blk)
    (hos : w'.os = w.os) (htp : w'.tape = w.tape) (hout : w'.output = w.output) (hsz : w.heap.size ≤ w'.heap.size) (hww : ∀ b, b < w.heap.size → ¬ (lend = true ∧ b = (θ n).blk) → w'.heap[b]? = w.heap[b]?) (hlent : x.lent.isSome = lend)
    (h1 : ∀ o, x.lent = some o → ∃ t cs, o = .cells t cs ∧ Holds (XB (Stab Am s.lo θ w) w w' θ' x) NoL θ' w' 0 o)
    (h2 : ∀ o, x.new = some o → Holds (XB (Stab Am s.lo θ w) w w' θ' x) NoL θ' w' 1 o ∧ (∀ go adm, o ≠ .yl go adm) ∧ ∀ b, uses θ' 1 o b → w.heap.size ≤ b ∧ b < w'.heap.size)
    (h3 : Den (XB (Stab Am s.lo θ w) w w' θ' x) (fun n => (n = 0 ∧ lend = true) ∨ (n = 1 ∧ x.new.isSome)) θ' w' x.r v) {u : Upd} (hu : (xOut n nm x).pick = some u) (d : Option Nat) :
    ∃ θ'', Rep J Am Mi w0 (u.ap d s) θ'' (a.put d v) w' := by
  unfold xOut at hu
  split at hu
  · rename_i y hy
    cases hu
    obtain ⟨i1, i2, i3, i4⟩ := insX (lo := s.lo) (n := n) (nm := nm) x.lent x.new
    generalize hlo' : insL (optW n x.lent ++ optW nm x.new) s.lo = lo' at i1 i2 i3 i4
    have hnn : lend = true → n ≠ nm := fun hl e => by
      obtain ⟨t, cs, hh⟩ := hlo hl
      exact hn.2 _ (by rw [← e]; exact hh)
    have hln : ∀ o, x.lent = some o → lend = true := fun o e => by rw [← hlent, e]; rfl
    have hnew : ∀ m y, s.lo[m]? = some (some y) → m ≠ nm := fun m y hm e => hn.2 y (by rw [← e]; exact hm)
    -- what C holds
    have hC : ∀ m y, ((m = n ∧ x.lent.isSome) ∨ (m = nm ∧ x.new.isSome)) → lo'[m]? = some (some y) → (m = n ∧ x.lent = some y ∧ m ≠ nm) ∨ (m = nm ∧ x.new = some y) := fun m y hc hm => by
      rcases hc with ⟨rfl, hc⟩ | ⟨rfl, hc⟩
      · obtain ⟨o, ho⟩ := Option.isSome_iff_exists.1 hc
        have hne := hnn (hln o ho)
        rw [i3 o ho hne] at hm
        cases hm
        exact .inl ⟨rfl, ho, hne⟩
      · obtain ⟨o, ho⟩ := Option.isSome_iff_exists.1 hc
        rw [i2 o ho] at hm
        cases hm
        exact .inr ⟨rfl, ho⟩
    have hlc : ∀ y, x.lent = some y → ∀ b, uses θ n y b → b = (θ n).blk := fun y hy b hb => by
      obtain ⟨t, cs, rfl, _⟩ := h1 y hy
      exact hb
    have hR := h.change (lo' := lo') (θ' := fun k => if k = nm then θ' 1 else θ k) (w' := w') (fun m => (m = n ∧ x.lent.isSome) ∨ (m = nm ∧ x.new.isSome)) (fun b => lend = true ∧ b = (θ n).blk)
      (fun m y hm hc => (i1 m y hc).1 hm)
      (fun k hk => by
        obtain ⟨y, hy⟩ := hk
        simp [hnew k y hy])
      (fun k hk => by
        have : k ≠ nm := fun e => by have := hn.1; omega
        simp [this])
      (fun k hk => by
        obtain ⟨z, hz⟩ := hk
        have hkn := hnew k z hz
        by_cases hc : (k = n ∧ x.lent.isSome) ∨ (k = nm ∧ x.new.isSome)
        · rcases hc with ⟨rfl, hc⟩ | ⟨rfl, hc⟩
          · obtain ⟨o, ho⟩ := Option.isSome_iff_exists.1 hc
            exact ⟨o, i3 o ho hkn⟩
          · exact absurd rfl hkn
        · exact ⟨z, (i1 k z hc).2 hz⟩)
      i4
      (fun m y b hc hm hux => by
        rcases hC m y hc hm with ⟨rfl, hl, hne⟩ | ⟨rfl, hl⟩
        · rw [uses_ren (θ := θ) (n := m) (by simp [hne])] at hux
          have hb := hlc y hl b hux
          have hlend := hln y hl
          obtain ⟨t, cs, hh⟩ := hlo hlend
          have hlt := (h.lt m _ b hh hb).1
          exact ⟨.inl ⟨hlend, hb⟩, by omega⟩
        · rw [uses_ren (θ := θ') (n := 1) (by simp)] at hux
          obtain ⟨e1, e2⟩ := (h2 y hl).2.2 b hux
          exact ⟨.inr e1, e2⟩)
      (fun b ⟨hl, hb⟩ => by
        obtain ⟨t, cs, hh⟩ := hlo hl
        exact ⟨n, _, .inl ⟨rfl, by rw [hlent]; exact hl⟩, hh, hb⟩)
      (fun m m' y y' b hc hc' hm hm' hne hux hux' => by
        rcases hC m y hc hm with ⟨rfl, hl, hne1⟩ | ⟨rfl, hl⟩ <;> rcases hC m' y' hc' hm' with ⟨rfl, hl', hne2⟩ | ⟨rfl, hl'⟩
        · exact hne rfl
        · rw [uses_ren (θ := θ) (n := m) (by simp [hne1])] at hux
          rw [uses_ren (θ := θ') (n := 1) (by simp)] at hux'
          have hb := hlc y hl b hux
          obtain ⟨t, cs, hh⟩ := hlo (hln y hl)
          have hlt := (h.lt m _ b hh hb).1
          have := ((h2 y' hl').2.2 b hux').1
          omega
        · rw [uses_ren (θ := θ) (n := m') (by simp [hne2])] at hux'
          rw [uses_ren (θ := θ') (n := 1) (by simp)] at hux
          have hb := hlc y' hl' b hux'
          obtain ⟨t, cs, hh⟩ := hlo (hln y' hl')
          have hlt := (h.lt m' _ b hh hb).1
          have := ((h2 y hl).2.2 b hux).1
          omega
        · exact hne rfl)
      hos htp hout hsz hww
      (fun m go adm hc hm => by
        rcases hC m _ hc hm with ⟨rfl, hl, _⟩ | ⟨rfl, hl⟩
        · obtain ⟨t, cs, e, _⟩ := h1 _ hl
          cases e
        · exact (h2 _ hl).2.1 go adm rfl)
      (fun m y hc hm => by
        rcases hc with ⟨rfl, hc⟩ | ⟨rfl, hc⟩
        · obtain ⟨t, cs, hh⟩ := hlo (by rw [← hlent]; exact hc)
          rw [hh] at hm; cases hm
        · exact hn.2 _ hm)
      (fun m y hc hm => (i1 m y hc).2 hm)
      (fun m y hc hm S hS hS' _ => by
        have hXS : ∀ b, XB (Stab Am s.lo θ w) w w' θ' x b → S b := fun b hb => by
          rcases hb.1 with h4 | ⟨h4, h5⟩
          · exact hS b h4
          · refine hS' b h4 h5 fun k z hc' hk hux => ?_
            rcases hC k z hc' hk with ⟨rfl, hl, hne⟩ | ⟨rfl, hl⟩
            · rw [uses_ren (θ := θ) (n := k) (by simp [hne])] at hux
              have hb' := hlc z hl b hux
              obtain ⟨t, cs, hh⟩ := hlo (hln z hl)
              have := (h.lt k _ b hh hb').1
              omega
            · rw [uses_ren (θ := θ') (n := 1) (by simp)] at hux
              exact hb.2 z hl hux
        rcases hC m y hc hm with ⟨rfl, hl, hne⟩ | ⟨rfl, hl⟩
        · obtain ⟨t, cs, rfl, vs, e1, e2⟩ := h1 y hl
          refine ⟨vs, ?_, e2.mono hXS (fun _ _ => rfl) (fun _ hf => hf.elim) (fun _ hf => hf.elim)⟩
          rw [← e1]
          simp only [if_neg hne, hθ0 (hln _ hl)]
        · exact holds_ren hXS (by simp) (h2 y hl).1)
    refine ⟨fun k => if k = nm then θ' 1 else θ k, ?_⟩
    have hap : (Upd.many y (optW n x.lent ++ optW nm x.new)).ap d s = { ({ s with lo := lo' } : St) with tm := putT s.tm d y } := by rw [← hlo']; rfl
    rw [hap]
    refine hR.putO d (renV_den h3 hy (fun b hb => ?_) (fun hl => ?_) (fun hl => ?_))
    · have hnC : ∀ m z, ((m = n ∧ x.lent.isSome) ∨ (m = nm ∧ x.new.isSome)) → lo'[m]? = some (some z) → ∀ b, XB (Stab Am s.lo θ w) w w' θ' x b → ¬ uses (fun k => if k = nm then θ' 1 else θ k) m z b := fun m z hc hm b hb hux => by
        rcases hC m z hc hm with ⟨rfl, hl, hne⟩ | ⟨rfl, hl⟩
        · rw [uses_ren (θ := θ) (n := m) (by simp [hne])] at hux
          have hb' := hlc z hl b hux
          obtain ⟨t, cs, hh⟩ := hlo (hln z hl)
          rcases hb.1 with h4 | ⟨h4, _⟩
          · exact h4.2.2 m _ hh hb'
          · have := (h.lt m _ b hh hb').1
            omega
        · rw [uses_ren (θ := θ') (n := 1) (by simp)] at hux
          exact hb.2 z hl hux
      refine (⟨?_, ?_, fun m z hm hux => ?_⟩ : Stab Am lo' (fun k => if k = nm then θ' 1 else θ k) w' b)
      · rcases hb.1 with h4 | ⟨_, h5⟩
        · exact Nat.lt_of_lt_of_le h4.1 hsz
        · exact h5
      · rcases hb.1 with h4 | ⟨h4, _⟩
        · exact h4.2.1
        · intro ham; have := h.am b ham; omega
      · by_cases hc : (m = n ∧ x.lent.isSome) ∨ (m = nm ∧ x.new.isSome)
        · exact hnC m z hc hm b hb hux
        · have hm' := (i1 m z hc).1 hm
          rw [uses_ren (θ := θ) (n := m) (by simp [hnew m z hm'])] at hux
          rcases hb.1 with h4 | ⟨h4, _⟩
          · exact h4.2.2 m z hm' hux
          · have := (h.lt m z b hm' hux).1
            omega
    · rcases hl with ⟨_, hl⟩ | ⟨e, _⟩
      · obtain ⟨o, ho⟩ := Option.isSome_iff_exists.1 (hlent.trans hl)
        refine ⟨⟨o, i3 o ho (hnn hl)⟩, ?_⟩
        simp only [if_neg (hnn hl), hθ0 hl]
      · cases e
    · rcases hl with ⟨e, _⟩ | ⟨_, hl⟩
      · cases e
      · obtain ⟨o, ho⟩ := Option.isSome_iff_exists.1 hl
        exact ⟨⟨o, i2 o ho⟩, by simp⟩
  · simp [T.pick] at hu

theorem plain_closed {k : SX.K} {q : SX.Q} (h : KOk k q) (e : k.plain = true) : ∃ x, q = .c x := by
  cases h with
  | int k n => exact ⟨_, rfl⟩
  | bool b => exact ⟨_, rfl⟩
  | str s => exact ⟨_, rfl⟩
  | any q => cases e
  | lst ks len get => cases e

theorem denK_plain {S S' : Nat → Prop} {w w' : World} {ks : List SX.K} {qs : List SX.Q} {us : List Value} (h : DenK S w ks qs us) (e : ks.all SX.K.plain = true) : DenK S' w' ks qs us := by
  induction h with
  | nil => exact .nil
  | cons k q u ks qs us hk hd _ ih =>
    simp only [List.all_cons, Bool.and_eq_true] at e
    obtain ⟨x, rfl⟩ := plain_closed hk e.1
    cases hd
    exact .cons _ _ _ _ _ _ hk (.c _) (ih e.2)

theorem ents_plain {S S' : Nat → Prop} {w w' : World} {kk : MK} {ag : Bool} {vk : List SX.K} {es : List (Value × List SX.Q)} {arr : List MapEntry} (h : EntsOK S w kk ag vk es arr) (e : vk.all SX.K.plain = true) : EntsOK S' w' kk ag vk es arr := by
  induction h with
  | nil => exact .nil
  | cons key qs us born es arr hf hd _ ih => exact .cons _ _ _ _ _ _ hf (denK_plain hd e) ih

theorem holds_shut {S S' L L' : Nat → Prop} {θ : Th} {w : World} {n : Nat} {o : Ob} (h : Holds S L θ w n o) (e : shutOb o = true) : Holds S' L' θ w n o := by
  cases o with
  | map kk ag vk es =>
    obtain ⟨arr, clk, h1, h2⟩ := h
    exact ⟨arr, clk, h1, ents_plain h2 e⟩
  | _ => simp [shutOb] at e

theorem shutR1_den {S S' L : Nat → Prop} {θ : Th} {w : World} {x : V} {v : Value} (h : Den S L θ w x v) (e : shutR1 x = true) : Den S' L θ w x v := by
  unfold shutR1 at e
  split at e
  · cases h with
    | mp _ hl => exact .mp _ hl
  · exact den_shut1 h e

theorem shutRs_den {S S' L : Nat → Prop} {θ : Th} {w : World} : ∀ {l : List V} {vs : List Value}, DenL S L θ w l vs → l.all shutR1 = true → DenL S' L θ w l vs
  | _, _, .nil, _ => .nil
  | _, _, .cons x v l vs h hl, e => by
    simp only [List.all_cons, Bool.and_eq_true] at e
    exact .cons _ _ _ _ (shutR1_den h e.1) (shutRs_den hl e.2)

theorem shutR_den {S S' L : Nat → Prop} {θ : Th} {w : World} {x : V} {v : Value} (h : Den S L θ w x v) (e : shutR x = true) : Den S' L θ w x v := by
  unfold shutR at e
  split at e
  · cases h with
    | tup l vs hl => exact .tup _ _ (shutRs_den hl e)
  · exact shutR1_den h e

theorem free1_nol {S L L' : Nat → Prop} {θ θ' : Th} {w : World} {l : List V} {vs : List Value} (h : DenL S L θ w l vs) (e : l.all V.free1 = true) : DenL S L' θ' w l vs := denL_free1 h e

theorem xcall_wp (h : Rep J Am Mi w0 s θ a w) {nm : Nat} (hn : Fresh s nm) {f : Nat} {lend : Bool} {sp : Option Ob → List V → T XOut} (hS : SpecX P f lend sp) {args : List V} {vals : List Value} (hd : DenL (Stab Am s.lo θ w) (Liv s.lo) θ w args vals)
    {u : Upd} (hp : (xcall s nm lend sp args).pick = some u) (d : Option Nat) :
    Calls P f vals.toArray w fun e w' => ∃ v, e = .returned v ∧ ∃ θ'', Rep J Am Mi w0 (u.ap d s) θ'' (a.put d v) w' := by
  unfold xcall at hp
  split at hp
  · rename_i hlend
    subst hlend
    split at hp
    · rename_i n' rest
      split at hp
      · rename_i t cs hlo
        split at hp
        · rename_i hc
          simp only [Bool.and_eq_true] at hc
          rw [T.pick_bind] at hp
          obtain ⟨x, hx, hp⟩ := hp
          obtain ⟨cvs, hv1, hv2⟩ := h.lo _ _ hlo
          cases hd with
          | cons _ v0 _ vr h0 hr =>
            obtain ⟨rfl, _⟩ := h0.ptr_inv
            have hC := hS.2 (Stab Am s.lo θ w) w (fun _ => θ n') (some (.cells t cs)) (.ptr 0 0 :: rest) _ x (fun b hb => hb.1) h.fr.glw h.glS rfl (fun o ho => by
              cases ho
              exact ⟨t, cs, rfl, ⟨cvs, hv1, free1_nol hv2 hc.1⟩, (h.lt _ _ _ hlo rfl).1, fun hb => hb.2.2 _ _ hlo rfl⟩) (.cons _ _ _ _ (.ptr (θ := fun _ => θ n') 0 0 ⟨rfl, rfl⟩) (denL_free hr hc.2)) hx
            refine hC.mono ?_
            rintro e w' ⟨v, θ', rfl, g0, g1, g2, g3, g4, g5, g6, g7, g8, g9⟩
            exact ⟨v, rfl, x_fin h hn (fun _ => ⟨t, cs, hlo⟩) (fun _ => by rw [g0]) g1 g2 g3 g4 g5 g6 g7 g8 g9 hp d⟩
        · simp [T.pick] at hp
      · simp [T.pick] at hp
    · simp [T.pick] at hp
  · rename_i hlend
    have hlend' : lend = false := by simpa using hlend
    subst hlend'
    split at hp
    · rename_i hfree
      rw [T.pick_bind] at hp
      obtain ⟨x, hx, hp⟩ := hp
      have hC := hS.2 (Stab Am s.lo θ w) w th0 none args _ x (fun b hb => hb.1) h.fr.glw h.glS rfl (fun o ho => by cases ho) (denL_free hd hfree) hx
      refine hC.mono ?_
      rintro e w' ⟨v, θ', rfl, g0, g1, g2, g3, g4, g5, g6, g7, g8, g9⟩
      exact ⟨v, rfl, x_fin h hn (fun e => by cases e) (fun e => by cases e) g1 g2 g3 g4 (fun b hb _ => g5 b hb (fun e => by cases e.1)) g6 g7 g8 g9 hp d⟩
    · split at hp
      · rename_i args' hargs
        rw [T.pick_bind] at hp
        obtain ⟨x, hx, hp⟩ := hp
        split at hp
        · rename_i hsh
          simp only [shutX, Bool.and_eq_true] at hsh
          have hd' : DenL (SeeS Am s.lo θ w) NoL th0 w args' vals := letGoL_den h (fun _ _ x => x) (fun b hb => .inl hb) (fun n o b ho hu => .inr ⟨n, o, ho, hu⟩) hd hargs
          have hC := hS.2 (SeeS Am s.lo θ w) w th0 none args' _ x h.see_lt h.fr.glw (fun x hx => .inl (h.glS x hx)) rfl (fun o ho => by cases ho) (hd'.mono (fun _ x => x) (fun _ _ => rfl) (fun _ hf => hf.elim) (fun _ hf => hf.elim)) hx
          refine hC.mono ?_
          rintro e w' ⟨v, θ', rfl, g0, g1, g2, g3, g4, g5, g6, g7, g8, g9⟩
          refine ⟨v, rfl, x_fin h hn (fun e => by cases e) (fun e => by cases e) g1 g2 g3 g4 (fun b hb _ => g5 b hb (fun e => by cases e.1)) g6 (fun o ho => by rw [ho] at g6; cases g6) (fun o ho => ?_) (shutR_den g9 hsh.1) hp d⟩
          obtain ⟨k1, k2, k3⟩ := g8 o ho
          rw [ho] at hsh
          exact ⟨holds_shut k1 hsh.2, k2, k3⟩
        · simp [T.pick] at hp
      · simp [T.pick] at hp

theorem effX_wp (hΓ : GOK P Γ) (h : Rep J Am Mi w0 s θ a w) {nm : Nat} (hn : Fresh s nm) {u : Upd} (hp : (effX P Γ nm o s).pick = some u)
    (hK : ∀ θ' a' w', Rep J Am Mi w0 (u.ap o.dst s) θ' a' w' → K a' w') : o.wpIn (FW r) n P a w K Q := by
  unfold effX at hp
  split at hp
  · rename_i c hop
    split at hp
    · rename_i hcal
      split at hp
      · rename_i d hd
        exact appE_wp h hop hcal hd hn hp hK
      · simp [T.pick] at hp
    · rename_i y hcal
      split at hp
      · rename_i f caps hcv
        split at hp
        · rename_i lend sp hsp
          have hS : SpecX P f lend sp := hΓ _ (look_mem hsp)
          obtain ⟨vs, hev, hcd⟩ := calleeV_den h hcv
          have hd := (den_map h c.args.toList).append hcd
          have hC := xcall_wp h hn hS hd hp o.dst
          have e : (List.map a.eval c.args.toList ++ vs).toArray = Array.map a.eval c.args ++ vs.toArray := by apply Array.ext'; simp
          rw [e] at hC
          refine wpIn_enter (f := f) (args := Array.map a.eval c.args ++ vs.toArray) (w' := w) (by simp [hop]) ?_ (hC.mono ?_)
          · simp only [execOp, hop, resolve, hcal, hev, Deferred.ofValue, Sem.run_bind, Sem.run_pure, Result.andThen_ok, invoke, Array.append_empty, Array.empty_append]
            exact run_enters hS.1 _ w
          · rintro ev' w' ⟨v, rfl, θ'', hR⟩
            exact hK θ'' _ w' hR
        · simp [T.pick] at hp
      · simp [T.pick] at hp
    · simp [T.pick] at hp
  · simp [T.pick] at hp

end
end Go.SX
