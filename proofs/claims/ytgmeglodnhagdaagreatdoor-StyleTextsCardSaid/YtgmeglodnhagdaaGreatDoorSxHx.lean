/- What an operation makes of the symbolic state: to add to a list that is owned; calls that are lent something or hand something over. -/
import Derived.Test.YtgmeglodnhagdaaGreatDoorSxH
import Derived.Maps.AppendAt
namespace Go.SX
open Go.RowKit
set_option linter.unusedVariables false
set_option linter.unusedSimpArgs false
set_option linter.unusedSectionVars false

def putT (tm : List V) (d : Option Nat) (v : V) : List V := match d with
  | some d => tm.set d v
  | none => tm

/-- What one operation turns. -/
inductive Upd where
  | val (v : V)
  | new (n : Nat) (o : Ob)
  | set (n : Nat) (o : Ob)
  | many (v : V) (ws : List (Nat × Ob))
  | yl (v : V) (args : List V)

/-- What names a new resource. -/
def newV (n : Nat) : Ob → V
  | .map .. => .mp n
  | .vec .. => .own n
  | _ => .ptr n 0

def insL : List (Nat × Ob) → List (Option Ob) → List (Option Ob)
  | [], lo => lo
  | (n, o) :: l, lo => insL l (ins lo n o)

def Upd.ap (d : Option Nat) : Upd → St → St
  | .val v, s => { s with tm := putT s.tm d v }
  | .new n o, s => { s with tm := putT s.tm d (newV n o), lo := ins s.lo n o }
  | .set n o, s => { s with lo := s.lo.set n (some o) }
  | .many v ws, s => { s with tm := putT s.tm d v, lo := insL ws s.lo }
  | .yl v args, s => { s with tm := putT s.tm d v, ys := s.ys ++ [args] }

def Upd.wn : Upd → List Nat
  | .val _ => []
  | .new n _ => [n]
  | .set n _ => [n]
  | .many _ ws => ws.map (·.1)
  | .yl _ _ => []

def K.oneB : K → Bool
  | .any => false
  | _ => true

def vecOf (s : St) : V → Option (TypeId × List K × Nat × (Nat → Nat → Q))
  | .own n => match s.lo[n]? with
    | some (some (.vec t ks len get)) => some (t, ks, len, get)
    | _ => none
  | _ => none

/-- To add to a list that is owned: its name is gone, the new one has what it had. -/
def appE (P : Program) (c : Call) (nm : Nat) (s : St) : T Upd := match c.args.toList with
  | [x, y] => match ev s x, vecOf s (ev s x), ev s y, elemInfo P c with
    | .own n, some (t, ks, len, get), .q (.lst ks' m g), some (e, sz, by_) => if K.sames ks ks' && decide (ks.length = sz ∧ t = e) && ks.all K.oneB then .ite (roomB len m by_) (.leaf (.many (.own nm) [(n, .gone), (nm, .vec t ks (len + m) (catG len get g))])) .bad else .bad
    | .q (.c (.slice none 0 0)), _, .q (.lst ks m g), some (e, sz, by_) => if decide (ks.length = sz) then .ite (roomB 0 m by_) (.leaf (.new nm (.vec e ks m g))) .bad else .bad
    | _, _, _, _ => .bad
  | _ => .bad

/-- What a call hands back, under the caller's names. -/
def ren1 (n nm : Nat) : V → Option V
  | .ptr 0 off => some (.ptr n off)
  | .ptr 1 off => some (.ptr nm off)
  | .mp 1 => some (.mp nm)
  | .own 1 => some (.own nm)
  | v => if v.free then some v else none

def renL (n nm : Nat) : List V → Option (List V)
  | [] => some []
  | x :: l => match ren1 n nm x, renL n nm l with
    | some y, some r => some (y :: r)
    | _, _ => none

def renV (n nm : Nat) : V → Option V
  | .tup l => (renL n nm l).map .tup
  | v => ren1 n nm v

def K.plain : K → Bool
  | .int _ | .bool | .str => true
  | _ => false

def shutOb : Ob → Bool
  | .map _ _ vk _ => vk.all K.plain
  | _ => false

def shutR1 : V → Bool
  | .mp 1 => true
  | v => v.shut1

def shutR : V → Bool
  | .tup l => l.all shutR1
  | v => shutR1 v

def shutX (x : XOut) : Bool := shutR x.r && match x.new with
  | some o => shutOb o
  | none => true

def optW (n : Nat) : Option Ob → List (Nat × Ob)
  | some o => [(n, o)]
  | none => []

def xOut (n nm : Nat) (x : XOut) : T Upd := match renV n nm x.r with
  | some v => .leaf (.many v (optW n x.lent ++ optW nm x.new))
  | none => .bad

/-- A call that is lent something, or hands something over. -/
def xcall (s : St) (nm : Nat) (lend : Bool) (sp : Option Ob → List V → T XOut) (args : List V) : T Upd :=
  if lend then match args with
    | .ptr n 0 :: rest => match s.lo[n]? with
      | some (some (.cells t cs)) => if cs.all V.free1 && rest.all V.free then (sp (some (.cells t cs)) (.ptr 0 0 :: rest)).bind (xOut n nm) else .bad
      | _ => .bad
    | _ => .bad
  else if args.all V.free then (sp none args).bind (xOut nm nm)
  else match letGoL s.lo args with
    | some args' => (sp none args').bind fun x => if shutX x then xOut nm nm x else .bad
    | none => .bad

def effX (P : Program) (Γ : Gam) (nm : Nat) (o : Oper) (s : St) : T Upd := match o.op with
  | .call c => match c.callee with
    | .builtin .append => match o.dst with
      | some _ => appE P c nm s
      | none => .bad
    | .value x => match calleeV s x with
      | some (f, caps) => match look Γ f with
        | some (.x lend sp) => xcall s nm lend sp (c.args.toList.map (ev s) ++ caps)
        | _ => .bad
      | none => .bad
    | _ => .bad
  | _ => .bad

section
variable [GW] {P : Program} {J : Jt P} {Am Mi : Nat → Prop} {w0 w : World} {s : St} {θ : Th} {a : Act} {Γ : Gam} {r : Option Nat} {n : Nat} {o : Oper} {K : Act → World → Prop} {Q : Exit → Act → World → Prop}

/-- Some resources (C) are turned, handed on or new; all else is as it was. O: the blocks that C had. -/
theorem Rep.change (h : Rep J Am Mi w0 s θ a w) {lo' : List (Option Ob)} {θ' : Th} {w' : World} (C O : Nat → Prop)
    (hk : ∀ m x, lo'[m]? = some (some x) → ¬ C m → s.lo[m]? = some (some x)) (hθ : ∀ m, Liv s.lo m → θ' m = θ m) (hb : ∀ m, m < s.base → θ' m = θ m) (hL : ∀ m, Liv s.lo m → Liv lo' m) (hlen : s.lo.length ≤ lo'.length)
    (hu : ∀ m x b, C m → lo'[m]? = some (some x) → uses θ' m x b → (O b ∨ w.heap.size ≤ b) ∧ b < w'.heap.size)
    (hO : ∀ b, O b → ∃ m x, C m ∧ s.lo[m]? = some (some x) ∧ uses θ m x b)
    (hinj : ∀ m m' x x' b, C m → C m' → lo'[m]? = some (some x) → lo'[m']? = some (some x') → m ≠ m' → uses θ' m x b → ¬ uses θ' m' x' b)
    (hos : w'.os = w.os) (htp : w'.tape = w.tape) (hout : w'.output = w.output) (hsz : w.heap.size ≤ w'.heap.size) (hww : ∀ b, b < w.heap.size → ¬ O b → w'.heap[b]? = w.heap[b]?)
    (hny : ∀ m go adm, C m → lo'[m]? ≠ some (some (.yl go adm))) (hnr : ∀ m x, C m → s.lo[m]? ≠ some (some (.raw x)))
    (hrk : ∀ m x, ¬ C m → s.lo[m]? = some (some x) → lo'[m]? = some (some x))
    (hH : ∀ m x, C m → lo'[m]? = some (some x) → ∀ S : Nat → Prop, (∀ b, Stab Am s.lo θ w b → S b) → (∀ b, w.heap.size ≤ b → b < w'.heap.size → (∀ m x, C m → lo'[m]? = some (some x) → ¬ uses θ' m x b) → S b) → (∀ b, O b → (∀ m x, C m → lo'[m]? = some (some x) → ¬ uses θ' m x b) → S b) → Holds S (Liv lo') θ' w' m x) :
    Rep J Am Mi w0 { s with lo := lo' } θ' a w' := by
  have hOown : ∀ b, O b → Own s.lo θ b := fun b hb => let ⟨m, x, _, h1, h2⟩ := hO b hb; ⟨m, x, h1, h2⟩
  have old : ∀ m x b, ¬ C m → lo'[m]? = some (some x) → uses θ' m x b → s.lo[m]? = some (some x) ∧ uses θ m x b := fun m x b hc hx hux => by
    have hx' := hk m x hx hc
    exact ⟨hx', (uses_congr (hθ m ⟨x, hx'⟩) x b).1 hux⟩
  have hnO : ∀ m x b, ¬ C m → s.lo[m]? = some (some x) → uses θ m x b → ¬ O b := fun m x b hc hx hux hb => by
    obtain ⟨m', x', hc', hx', hux'⟩ := hO b hb
    exact h.inj m m' x x' b hx hx' (fun e => hc (e ▸ hc')) hux hux'
  have hS : ∀ b, Stab Am s.lo θ w b → Stab Am lo' θ' w' b := fun b hb' => by
    refine ⟨Nat.lt_of_lt_of_le hb'.1 hsz, hb'.2.1, fun m x hx hux => ?_⟩
    by_cases hc : C m
    · rcases (hu m x b hc hx hux).1 with h1 | h1
      · obtain ⟨m', x', _, hx', hux'⟩ := hO b h1
        exact hb'.2.2 m' x' hx' hux'
      · have := hb'.1; omega
    · obtain ⟨h1, h2⟩ := old m x b hc hx hux
      exact hb'.2.2 m x h1 h2
  have hw : ∀ b, Stab Am s.lo θ w b → w'.heap[b]? = w.heap[b]? := fun b hb' => hww b hb'.1 fun ho => by
    obtain ⟨m, x, _, hx, hux⟩ := hO b ho
    exact hb'.2.2 m x hx hux
  refine ⟨h.size, fun i v hv => ?_, fun m x hx => ?_, fun m x b hx hux => ?_, fun m m' x x' b hx hx' hne hux hux' => ?_, h.mine, ?_, fun b hb' => Nat.lt_of_lt_of_le (h.am b hb') hsz, ?_, fun m go adm hx => ?_, h.ga, ⟨h.rr.1, fun l hl => ?_⟩, ⟨h.tt.1, Nat.le_trans h.tt.2.1 hlen, fun m hm => by rw [hb m hm]; exact h.tt.2.2 m hm⟩, ?_, fun d hd m hm => hL m (h.dfl d hd m hm)⟩
  · obtain ⟨u, hu, hd⟩ := h.tm i v hv
    exact ⟨u, hu, hd.mono hS hw hL hθ⟩
  · by_cases hc : C m
    · refine hH m x hc hx _ hS (fun b h1 h2 h3 => ⟨h2, fun ham => ?_, fun m' x' hx' hux' => ?_⟩) (fun b h1 h3 => ?_)
      · have := h.am b ham; omega
      · by_cases hc' : C m'
        · exact h3 m' x' hc' hx' hux'
        · obtain ⟨h4, h5⟩ := old m' x' b hc' hx' hux'
          have := (h.lt m' x' b h4 h5).1
          omega
      · obtain ⟨m0, x0, _, g1, g2⟩ := hO b h1
        obtain ⟨g3, _, g4⟩ := h.lt m0 x0 b g1 g2
        refine ⟨Nat.lt_of_lt_of_le g3 hsz, g4, fun m' x' hx' hux' => ?_⟩
        by_cases hc' : C m'
        · exact h3 m' x' hc' hx' hux'
        · obtain ⟨h4, h5⟩ := old m' x' b hc' hx' hux'
          exact hnO m' x' b hc' h4 h5 h1
    · have hx' := hk m x hx hc
      exact (h.lo m x hx').mono hS hw hL hθ ⟨x, hx'⟩ (fun b hux => hww b (h.lt m x b hx' hux).1 (hnO m x b hc hx' hux))
  · by_cases hc : C m
    · obtain ⟨h1, h2⟩ := hu m x b hc hx hux
      refine ⟨h2, ?_⟩
      rcases h1 with h1 | h1
      · obtain ⟨m', x', _, hx', hux'⟩ := hO b h1
        exact (h.lt m' x' b hx' hux').2
      · exact ⟨h.mine _ (Nat.le_trans h.fr.size h1), fun hh => absurd (h.am _ hh) (by omega)⟩
    · obtain ⟨h1, h2⟩ := old m x b hc hx hux
      exact ⟨Nat.lt_of_lt_of_le (h.lt m x b h1 h2).1 hsz, (h.lt m x b h1 h2).2⟩
  · by_cases hc : C m <;> by_cases hc' : C m'
    · exact hinj m m' x x' b hc hc' hx hx' hne hux hux'
    · obtain ⟨h1, h2⟩ := old m' x' b hc' hx' hux'
      rcases (hu m x b hc hx hux).1 with h3 | h3
      · exact hnO m' x' b hc' h1 h2 h3
      · have := (h.lt m' x' b h1 h2).1; omega
    · obtain ⟨h1, h2⟩ := old m x b hc hx hux
      rcases (hu m' x' b hc' hx' hux').1 with h3 | h3
      · exact hnO m x b hc h1 h2 h3
      · have := (h.lt m x b h1 h2).1; omega
    · obtain ⟨h1, h2⟩ := old m x b hc hx hux
      obtain ⟨h3, h4⟩ := old m' x' b hc' hx' hux'
      exact h.inj m m' x x' b h1 h3 hne h2 h4
  · refine ⟨hos.trans h.fr.os, htp.trans h.fr.tape, hout.trans h.fr.output, Nat.le_trans h.fr.size hsz, fun b hlt hn => ?_, h.fr.gl⟩
    rw [hww b (Nat.lt_of_lt_of_le hlt h.fr.size) (fun ho => by
      obtain ⟨m, x, _, hx, hux⟩ := hO b ho
      exact hn (h.lt m x b hx hux).2.1)]
    exact h.fr.block b hlt hn
  · refine h.jj.step hos htp hout hsz (fun b hlt hno => hww b hlt fun ho => hno (hOown b ho)) (fun b ⟨m, x, hx, hux⟩ => ?_) h.am h.own_am
    by_cases hc : C m
    · obtain ⟨h1, h2⟩ := hu m x b hc hx hux
      exact ⟨h1.imp (hOown b) id, h2⟩
    · obtain ⟨h1, h2⟩ := old m x b hc hx hux
      exact ⟨.inl ⟨m, x, h1, h2⟩, Nat.lt_of_lt_of_le (h.lt m x b h1 h2).1 hsz⟩
  · by_cases hc : C m
    · exact absurd hx (hny m go adm hc)
    · have hx' := hk m _ hx hc
      show J.ok (θ' m).blk go adm
      rw [hθ m ⟨_, hx'⟩]
      exact h.yy m go adm hx'
  · obtain ⟨m, x, hx, hb⟩ := h.rr.2 l hl
    have hc : ¬ C m := fun hc => hnr m _ hc hx
    exact ⟨m, x, hrk m _ hc hx, by rw [hθ m ⟨_, hx⟩]; exact hb⟩
  · rw [h.df]
    exact flatMap_congr' fun d hd => (Df.den_congr d fun m hm => hθ m (h.dfl d hd m hm)).symm

theorem Rep.putO (h : Rep J Am Mi w0 s θ a w) (d : Option Nat) {v : V} {u : Value} (hv : Den (Stab Am s.lo θ w) (Liv s.lo) θ w v u) :
    Rep J Am Mi w0 { s with tm := putT s.tm d v } θ (a.put d u) w := by
  cases d with
  | none => exact h
  | some d => exact h.put d hv

theorem holds_ren {S S' L : Nat → Prop} {θ θ' : Th} {w' : World} {n m : Nat} {o : Ob} (hS : ∀ b, S b → S' b) (hn : θ' m = θ n) (h : Holds S NoL θ w' n o) : Holds S' L θ' w' m o := by
  have hL : ∀ {l : List V} {vs : List Value}, DenL S NoL θ w' l vs → DenL S' L θ' w' l vs := fun hd => hd.mono hS (fun _ _ => rfl) (fun _ hf => hf.elim) (fun _ hf => hf.elim)
  cases o with
  | map kk ag vk es =>
    obtain ⟨arr, clk, h1, h2⟩ := h
    exact ⟨arr, clk, by rw [hn]; exact h1, h2.mono hS (fun _ _ => rfl)⟩
  | cells t cs =>
    obtain ⟨vs, h1, h2⟩ := h
    exact ⟨vs, by rw [hn]; exact h1, hL h2⟩
  | vec t ks len get =>
    rcases h with ⟨h1, h2⟩ | ⟨vs, cap, h1, h2, h3, h4, h5, h6⟩
    · exact .inl ⟨by rw [hn]; exact h1, h2⟩
    · refine .inr ⟨vs, cap, by rw [hn]; exact h1, by rw [hn]; exact h2, h3, h4, h5, fun i j k hi hk => ?_⟩
      obtain ⟨a, u, b, c⟩ := h6 i j k hi hk
      exact ⟨a, u, b, c.mono hS (fun _ _ => rfl)⟩
  | yl go adm => trivial
  | dfr => exact ⟨by rw [hn]; exact h.1, fun b hb => by rw [hn] at hb; exact h.2 b hb⟩
  | deads => trivial
  | raw x => show _ = _; rw [hn]; exact h
  | siter b pos => show _ = _; rw [hn]; exact h
  | dead => trivial
  | gone => trivial
  | held tm =>
    obtain ⟨us, h1, h2⟩ := h
    exact ⟨us, by rw [hn]; exact h1, hL h2⟩

theorem uses_ren {θ θ' : Th} {n m : Nat} (h : θ' m = θ n) (o : Ob) (b : Nat) : uses θ' m o b ↔ uses θ n o b := by
  cases o <;> simp [uses, h]

theorem den_oneB {S : Nat → Prop} {k : SX.K} {q : SX.Q} {u : Value} (h : DenQ S w q u) (hk : KOk k q) (e : k.oneB = true) : u.oneCell' = true := by
  cases hk with
  | int k n => cases h; rfl
  | bool b => cases h; rfl
  | str s => cases h; rfl
  | any q => cases e
  | lst ks len get => cases h <;> rfl

theorem ins_len (lo : List (Option Ob)) (n : Nat) (o : Ob) : lo.length ≤ (ins lo n o).length := by simp [ins]

theorem appE_wp (h : Rep J Am Mi w0 s θ a w) {c : Call} (hop : o.op = .call c) (hcal : c.callee = .builtin .append) {d : Nat} (hdst : o.dst = some d) {nm : Nat} (hn : Fresh s nm) {u : Upd} (hp : (appE P c nm s).pick = some u)
    (hK : ∀ θ' a' w', Rep J Am Mi w0 (u.ap o.dst s) θ' a' w' → K a' w') : o.wpIn (FW r) n P a w K Q := by
  unfold appE at hp
  split at hp
  · rename_i x0 y0 hargs
    have hargs' : c.args = #[x0, y0] := by
      have := congrArg List.toArray hargs
      simpa using this
    split at hp
    · rename_i n' t ks len get ks' m g el sz by_ hx hvec hy hei
      have hlo : s.lo[n']? = some (some (.vec t ks len get)) := by
        rw [hx] at hvec
        simp only [vecOf] at hvec
        split at hvec
        · rename_i hh
          cases hvec
          exact hh
        · cases hvec
      · split at hp
        · rename_i hc0
          simp only [Bool.and_eq_true, decide_eq_true_eq] at hc0
          obtain ⟨⟨hks, hksz, rfl⟩, hone⟩ := hc0
          obtain rfl := SX.K.sames_eq _ _ hks
          obtain ⟨ty, i, z, hat, hu, hi, hz, h1, h2, h3, h4, h5⟩ := elemInfo_inv hei
          simp only [T.pick] at hp
          cases hb : roomB len m by_ with
          | false => simp [hb] at hp
          | true =>
            simp only [hb, cond_true, Option.some.injEq] at hp
            subst hp
            simp only [roomB, decide_eq_true_eq] at hb
            obtain ⟨hm0, hby⟩ := hb
            have hdx := h.ev x0
            rw [hx] at hdx
            obtain ⟨_, hxe, _⟩ := hdx.own_inv
            have hdy := h.ev y0
            rw [hy] at hdy
            obtain ⟨yb, yo, yc, yu, hye, hyc, hyk, hyd⟩ := lst_cells hdy.q_inv hm0
            have hlm : len + m ≤ 140737488355328 := Nat.le_trans (Nat.le_mul_of_pos_right _ h5) hby
            have hlm' : len + m ≤ maxLen := by simp only [maxLen]; omega
            have hnews : ∀ z ∈ flatC yu m sz, z.oneCell' = true := fun z hz => by
              obtain ⟨j, hj⟩ := List.mem_iff_getElem?.1 hz
              obtain ⟨g1, g2, rfl, _⟩ := flatC_get hj
              have g2' : j % sz < ks.length := by rw [hksz]; exact g2
              have hkj := List.getElem?_eq_getElem g2'
              exact den_oneB (hyd _ _ g1 g2') (hyk _ _ _ g1 hkj) (List.all_eq_true.1 hone _ (List.getElem_mem g2'))
            have hold : ∃ xs : List Value, w.ownsRow 0 t sz (θ n').sl len xs ∧ ((θ n').sl = .slice none 0 0 ∨ (θ n').sl.ownBlock = some (θ n').blk ∧ (θ n').sl ≠ .slice none 0 0) ∧
                ∀ i j k, i < len → ks[j]? = some k → KOk k (get i j) ∧ ∃ z, xs[i * sz + j]? = some z ∧ DenQ (Stab Am s.lo θ w) w (get i j) z := by
              rcases h.lo _ _ hlo with ⟨g1, g2⟩ | ⟨vs, cap, g1, g2, g3, g4, g5, g6⟩
              · refine ⟨[], by rw [g1, g2]; exact World.ownsRow_nil w _ t sz, .inl g1, fun i j k hi => by omega⟩
              · have hle : len * sz ≤ vs.length := by rw [g3, hksz]; exact Nat.mul_le_mul_right _ g4.1
                refine ⟨vs.take (len * sz), ⟨by simp [hle], .inr ⟨_, cap, vs.toArray, g1, Nat.zero_le _, g2, g4.1, by simp only [maxLen]; omega, by simp [g3, hksz], by simp⟩⟩, .inr ⟨by rw [g1]; rfl, by rw [g1]; simp⟩, fun i j k hi hk => ?_⟩
                obtain ⟨q1, u, q2, q3⟩ := g6 i j k hi hk
                refine ⟨q1, u, ?_, q3⟩
                have hj : j < sz := by rw [← hksz]; exact (List.getElem?_eq_some_iff.1 hk).1
                rw [List.getElem?_take, if_pos (by
                  have : (i + 1) * sz ≤ len * sz := Nat.mul_le_mul_right _ hi
                  rw [Nat.add_mul] at this
                  omega), ← hksz]
                exact q2
            obtain ⟨xs, hown, hsl, hxs⟩ := hold
            obtain ⟨v', w', hr, hown', hg, _, hat'⟩ := run_append_own_at (P := P) w 0 ty o.type t i z sz by_ hu hi hz h1 h2 h3 h4 (θ n').sl len xs hown ⟨yb, yo, none⟩ m yc (flatC yu m sz) (flatC_length _ _ _) (by rw [← hksz]; exact hyc) hnews hlm' hby (Nat.zero_le _)
            have hxl : xs.length = len * sz := hown.1
            rcases hown'.2 with ⟨_, h0⟩ | ⟨gb, cap', cur, rfl, _, hgc, hnc, hcm, hcs, htake⟩
            · omega
            · have hlt : gb < w'.heap.size := (Array.getElem?_eq_some_iff.1 hgc).1
              have hne : nm ≠ n' := fun e => hn.2 _ (by rw [e]; exact hlo)
              have hblk : uses θ n' (.vec t ks len get) gb ∨ w.heap.size ≤ gb := by
                rcases hat' with e | e
                · rcases hsl with e2 | ⟨e2, e3⟩
                  · rw [e2] at e; cases e
                  · rw [e2] at e; cases e; exact .inl ⟨rfl, e3⟩
                · cases e; exact .inr (Nat.le_refl _)
              have hrun : (execOp a.eval o).run P w = .ok (.value (.slice (some ⟨gb, 0, none⟩) (len + m) cap')) w' := by
                simp [execOp, hop, hcal, hargs', resolve, invoke, builtin, hat, hxe, hye, hr, Result.andThen]
              have hmono : ∀ (S : Nat → Prop), (∀ b, Stab Am s.lo θ w b → S b) → ∀ {q : SX.Q} {z : Value}, DenQ (Stab Am s.lo θ w) w q z → DenQ S w' q z := fun S hS _ _ hq => hq.mono hS (fun b hb => hg.block b hb.1 (fun e => by
                rcases hsl with e2 | ⟨e2, e3⟩
                · rw [e2] at e; cases e
                · rw [e2] at e; cases e; exact hb.2.2 n' _ hlo ⟨rfl, e3⟩))
              have hR := h.change (lo' := ins (ins s.lo n' .gone) nm (.vec t ks (len + m) (catG len get g))) (θ' := fun k => if k = nm then ⟨gb, .slice (some ⟨gb, 0, none⟩) (len + m) cap', []⟩ else θ k) (w' := w') (fun k => k = n' ∨ k = nm) (uses θ n' (.vec t ks len get))
                (fun k x hx hc => by
                  rw [ins_other _ _ _ _ _ (fun e => hc (.inr e)), ins_other _ _ _ _ _ (fun e => hc (.inl e))] at hx
                  exact hx)
                (fun k hk => by
                  obtain ⟨x, hx⟩ := hk
                  have : k ≠ nm := fun e => hn.2 x (by rw [← e]; exact hx)
                  simp [this])
                (fun k hk => by
                  have : k ≠ nm := fun e => by have := hn.1; omega
                  simp [this])
                (fun k hk => by
                  obtain ⟨x, hx⟩ := hk
                  have e1 : k ≠ nm := fun e => hn.2 x (by rw [← e]; exact hx)
                  by_cases e2 : k = n'
                  · subst e2; exact ⟨.gone, by rw [ins_other _ _ _ _ _ e1, ins_same]⟩
                  · exact ⟨x, by rw [ins_other _ _ _ _ _ e1, ins_other _ _ _ _ _ e2]; exact hx⟩)
                (Nat.le_trans (ins_len _ _ _) (ins_len _ _ _))
                (fun k x b hk hx0 hux => by
                  rcases hk with rfl | rfl
                  · rw [ins_other _ _ _ _ _ (fun e => hne e.symm), ins_same] at hx0
                    cases hx0; exact hux.elim
                  · rw [ins_same] at hx0
                    cases hx0
                    simp only [uses, if_true] at hux
                    obtain ⟨rfl, _⟩ := hux
                    exact ⟨hblk, hlt⟩)
                (fun b hb => ⟨n', _, .inl rfl, hlo, hb⟩)
                (fun k k' x x' b hk hk' hx0 hx1 hne' hux hux' => by
                  rcases hk with rfl | rfl <;> rcases hk' with rfl | rfl
                  · exact hne' rfl
                  · rw [ins_other _ _ _ _ _ (fun e => hne e.symm), ins_same] at hx0
                    cases hx0; exact hux.elim
                  · rw [ins_other _ _ _ _ _ (fun e => hne e.symm), ins_same] at hx1
                    cases hx1; exact hux'.elim
                  · exact hne' rfl)
                hg.os hg.tape hg.output hg.size
                (fun b hb hno => hg.block b hb (fun e => by
                  rcases hsl with e2 | ⟨e2, e3⟩
                  · rw [e2] at e; cases e
                  · rw [e2] at e; cases e; exact hno ⟨rfl, e3⟩))
                (fun k go adm hk hx0 => by
                  rcases hk with rfl | rfl
                  · rw [ins_other _ _ _ _ _ (fun e => hne e.symm), ins_same] at hx0; cases hx0
                  · rw [ins_same] at hx0; cases hx0)
                (fun k x hk hx0 => by
                  rcases hk with rfl | rfl
                  · rw [hlo] at hx0; cases hx0
                  · exact hn.2 _ hx0)
                (fun k x hc hx => by
                  rw [ins_other _ _ _ _ _ (fun e => hc (.inr e)), ins_other _ _ _ _ _ (fun e => hc (.inl e))]
                  exact hx)
                (fun k x hk hx0 S hS _ _ => by
                  rcases hk with rfl | rfl
                  · rw [ins_other _ _ _ _ _ (fun e => hne e.symm), ins_same] at hx0
                    cases hx0; trivial
                  · rw [ins_same] at hx0
                    cases hx0
                    refine .inr ⟨cur.toList, cap', by simp, by simp only [if_true]; exact hgc, by simpa [hksz] using hcs, ⟨hnc, by simp only [maxLen] at hcm; omega⟩, by omega, fun i j k hi hk => ?_⟩
                    have hj : j < sz := by rw [← hksz]; exact (List.getElem?_eq_some_iff.1 hk).1
                    have hcell : ∀ t z, (xs ++ flatC yu m sz)[t]? = some z → cur.toList[t]? = some z := fun t z hz => by
                      rw [← htake, List.getElem?_take] at hz
                      split at hz
                      · exact hz
                      · cases hz
                    simp only [catG]
                    by_cases hlt' : i < len
                    · simp only [hlt', decide_true, cond_true]
                      obtain ⟨q1, z, q2, q3⟩ := hxs i j k hlt' hk
                      refine ⟨q1, z, ?_, hmono S hS q3⟩
                      rw [hksz]
                      refine hcell _ _ ?_
                      rw [List.getElem?_append_left (List.getElem?_eq_some_iff.1 q2).1]
                      exact q2
                    · simp only [hlt', decide_false, cond_false]
                      refine ⟨hyk _ j k (by omega) hk, _, ?_, hmono S hS (hyd (i - len) j (by omega) (by rw [hksz]; exact hj))⟩
                      rw [hksz]
                      refine hcell _ _ ?_
                      rw [List.getElem?_append_right (by
                        rw [hxl]
                        have : len * sz ≤ i * sz := Nat.mul_le_mul_right _ (by omega)
                        omega), hxl]
                      have : i * sz + j - len * sz = (i - len) * sz + j := by
                        have e : i * sz = (i - len) * sz + len * sz := by rw [← Nat.add_mul]; congr 1; omega
                        omega
                      rw [this]
                      exact flatC_at (by omega) hj)
              refine wpIn_value (v := .slice (some ⟨gb, 0, none⟩) (len + m) cap') (w' := w') (by simp [hop]) hrun (hK _ _ _ (hR.putO o.dst ?_))
              exact .own nm _ _ _ ⟨_, ins_same _ _ _⟩ (by simp)
        · simp [T.pick] at hp
    · rename_i ks m g el sz by_ hx hy hei
      split at hp
      · rename_i hc0
        simp only [decide_eq_true_eq] at hc0
        obtain ⟨ty, i, z, hat, hu, hi, hz, h1, h2, h3, h4, h5⟩ := elemInfo_inv hei
        simp only [T.pick] at hp
        cases hb : roomB 0 m by_ with
        | false => simp [hb] at hp
        | true =>
          simp only [hb, cond_true, Option.some.injEq] at hp
          subst hp
          simp only [roomB, decide_eq_true_eq] at hb
          obtain ⟨hm0, hby⟩ := hb
          have hdx := h.ev x0
          rw [hx] at hdx
          have hxe : a.eval x0 = .slice none 0 0 := by
            have := hdx.q_inv
            generalize a.eval x0 = z at this
            cases this; rfl
          have hdy := h.ev y0
          rw [hy] at hdy
          obtain ⟨yb, yo, yc, yu, hye, hyc, hyk, hyd⟩ := lst_cells hdy.q_inv hm0
          have hlm : m ≤ 140737488355328 := Nat.le_trans (Nat.le_mul_of_pos_right _ h5) (by simpa using hby)
          obtain ⟨v', w', hr, hown, hg⟩ := run_append_none (P := P) (w := w) o.type ty el i z sz by_ hu hi hz h1 h2 h3 h4 ⟨yb, yo, none⟩ m yc (flatC yu m sz) (flatC_length _ _ _) (by rw [← hc0]; exact hyc) hm0 (by simp only [maxLen]; omega) (by simpa using hby)
          rcases hown.2 with ⟨_, h0⟩ | ⟨gb, cap', cur, rfl, hgb, hgc, hnc, hcm, hcs, htake⟩
          · omega
          · have hlt : gb < w'.heap.size := (Array.getElem?_eq_some_iff.1 hgc).1
            have hbel : Below w.heap.size w w' := ⟨hg.os, hg.tape, hg.output, hg.size, fun k hk => hg.block k hk (by simp)⟩
            have hR := h.gain nm hn (.vec el ks m g) hbel ⟨gb, .slice (some ⟨gb, 0, none⟩) m cap', []⟩ _ rfl (fun _ _ e => by cases e) (fun b hb => by
              simp only [uses, if_true] at hb
              rw [hb.1]
              exact ⟨hgb, hlt⟩) (fun S L hS hL hθ hw => by
              refine .inr ⟨cur.toList, cap', by simp, by simp only [if_true]; exact hgc, by simpa [hc0] using hcs, ⟨hnc, by simp only [maxLen] at hcm; omega⟩, by omega, fun i j k hi hk => ?_⟩
              have hj : j < sz := by rw [← hc0]; exact (List.getElem?_eq_some_iff.1 hk).1
              refine ⟨hyk i j k hi hk, _, ?_, (hyd i j hi (by rw [hc0]; exact hj)).mono hS hw⟩
              rw [hc0]
              have := flatC_at (u := yu) hi hj
              rw [← htake, List.getElem?_take] at this
              split at this
              · exact this
              · cases this)
            refine wpIn_value (v := .slice (some ⟨gb, 0, none⟩) m cap') (w' := w') (by simp [hop]) ?_ (hK _ _ _ (hR.putO o.dst ?_))
            · simp [execOp, hop, hcal, hargs', resolve, invoke, builtin, hat, hxe, hye, hr, Result.andThen]
            · exact .own nm _ _ _ ⟨_, ins_same _ _ _⟩ (by simp)
      · simp [T.pick] at hp
    · simp [T.pick] at hp
  · simp [T.pick] at hp

theorem insX {lo : List (Option Ob)} {n nm : Nat} (l x : Option Ob) :
    (∀ m y, ¬ ((m = n ∧ l.isSome) ∨ (m = nm ∧ x.isSome)) → ((insL (optW n l ++ optW nm x) lo)[m]? = some (some y) ↔ lo[m]? = some (some y))) ∧
    (∀ o, x = some o → (insL (optW n l ++ optW nm x) lo)[nm]? = some (some o)) ∧ (∀ o, l = some o → n ≠ nm → (insL (optW n l ++ optW nm x) lo)[n]? = some (some o)) ∧ lo.length ≤ (insL (optW n l ++ optW nm x) lo).length := by
  cases l <;> cases x
  · exact ⟨fun m y _ => Iff.rfl, fun o h => (by cases h), fun o h => (by cases h), Nat.le_refl _⟩
  · exact ⟨fun m y hm => ins_other _ _ _ _ _ (fun e => hm (.inr ⟨e, rfl⟩)), fun o h => (by cases h; exact ins_same _ _ _), fun o h => (by cases h), ins_len _ _ _⟩
  · exact ⟨fun m y hm => ins_other _ _ _ _ _ (fun e => hm (.inl ⟨e, rfl⟩)), fun o h => (by cases h), fun o h _ => (by cases h; exact ins_same _ _ _), ins_len _ _ _⟩
  · exact ⟨fun m y hm => (ins_other _ _ _ _ _ (fun e => hm (.inr ⟨e, rfl⟩))).trans (ins_other _ _ _ _ _ (fun e => hm (.inl ⟨e, rfl⟩))), fun o h => (by cases h; exact ins_same _ _ _), fun o h hne => (by cases h; exact (ins_other _ _ _ _ _ hne).2 (ins_same _ _ _)), Nat.le_trans (ins_len _ _ _) (ins_len _ _ _)⟩

/-- What may be looked at behind a call: what could before, and what is new, but not what is handed over. -/
def XB (S : Nat → Prop) (w w' : World) (θ' : Th) (x : XOut) (b : Nat) : Prop := (S b ∨ (w.heap.size ≤ b ∧ b < w'.heap.size)) ∧ ∀ o, x.new = some o → ¬ uses θ' 1 o b

theorem ren1_den {S S' L L' : Nat → Prop} {θ θ' : Th} {w : World} {n nm : Nat} {x y : V} {v : Value} (h : Den S L θ w x v) (e : ren1 n nm x = some y) (hS : ∀ b, S b → S' b) (h0 : L 0 → L' n ∧ (θ' n).blk = (θ 0).blk) (h1 : L 1 → L' nm ∧ θ' nm = θ 1) : Den S' L' θ' w y v := by
  have hfree : x.free = true → Den S' L' θ' w x v := fun hf => (den_free (L' := NoL) (θ' := th0) h hf).mono hS (fun _ _ => rfl) (fun _ hf => hf.elim) (fun _ hf => hf.elim)
  unfold ren1 at e
  split at e
  · rename_i off
    cases e
    obtain ⟨rfl, hl⟩ := h.ptr_inv
    obtain ⟨a, b⟩ := h0 hl
    rw [← b]
    exact .ptr _ _ a
  · rename_i off
    cases e
    obtain ⟨rfl, hl⟩ := h.ptr_inv
    obtain ⟨a, b⟩ := h1 hl
    rw [← b]
    exact .ptr _ _ a
  · cases e
    cases h with
    | mp _ hl =>
      obtain ⟨a, b⟩ := h1 hl
      rw [← b]
      exact .mp _ a
  · cases e
    cases h with
    | own _ ad len cap hl hs =>
      obtain ⟨a, b⟩ := h1 hl
      exact .own _ _ _ _ a (by rw [b]; exact hs)
  · split at e
    · rename_i hf
      cases e
      exact hfree hf
    · cases e

theorem renL_den {S S' L L' : Nat → Prop} {θ θ' : Th} {w : World} {n nm : Nat} (hS : ∀ b, S b → S' b) (h0 : L 0 → L' n ∧ (θ' n).blk = (θ 0).blk) (h1 : L 1 → L' nm ∧ θ' nm = θ 1) : ∀ {l r : List V} {vs : List Value}, DenL S L θ w l vs → renL n nm l = some r → DenL S' L' θ' w r vs
  | [], r, _, .nil, e => by cases e; exact .nil
  | x :: l, r, _, .cons _ v _ vs h hl, e => by
    simp only [renL] at e
    split at e
    · rename_i y r' hy hr
      cases e
      exact .cons _ _ _ _ (ren1_den h hy hS h0 h1) (renL_den hS h0 h1 hl hr)
    · cases e

theorem renV_den {S S' L L' : Nat → Prop} {θ θ' : Th} {w : World} {n nm : Nat} {x y : V} {v : Value} (h : Den S L θ w x v) (e : renV n nm x = some y) (hS : ∀ b, S b → S' b) (h0 : L 0 → L' n ∧ (θ' n).blk = (θ 0).blk) (h1 : L 1 → L' nm ∧ θ' nm = θ 1) : Den S' L' θ' w y v := by
  unfold renV at e
  split at e
  · rename_i l
    simp only [Option.map_eq_some_iff] at e
    obtain ⟨r, hr, rfl⟩ := e
    cases h with
    | tup l vs hl => exact .tup _ _ (renL_den hS h0 h1 hl hr)
  · exact ren1_den h e hS h0 h1

theorem x_fin (h : Rep J Am Mi w0 s θ a w) {n nm : Nat} (hn : Fresh s nm) {lend : Bool} (hlo : lend = true → ∃ t cs, s.lo[n]? = some (some (.cells t cs))) {x : XOut} {v : Value} {w' : World} {θ' : Th} (hθ0 : lend = true → (θ' 0).blk = (θ n).blk)
    (hos : w'.os = w.os) (htp : w'.tape = w.tape) (hout : w'.output = w.output) (hsz : w.heap.size ≤ w'.heap.size) (hww : ∀ b, b < w.heap.size → ¬ (lend = true ∧ b = (θ n).blk) → w'.heap[b]? = w.heap[b]?) (hlent : x.lent.isSome = lend)
    (h1 : ∀ o, x.lent = some o → ∃ t cs, o = .cells t cs ∧ Holds (XB (Stab Am s.lo θ w) w w' θ' x) NoL θ' w' 0 o)
    (h2 : ∀ o, x.new = some o → Holds (XB (Stab Am s.lo θ w) w w' θ' x) NoL θ' w' 1 o ∧ (∀ go adm, o ≠ .yl go adm) ∧ ∀ b, uses θ' 1 o b → w.heap.size ≤ b ∧ b < w'.heap.size)
    (h3 : Den (XB (Stab Am s.lo θ w) w w' θ' x) (fun n => (n = 0 ∧ lend = true) ∨ (n = 1 ∧ x.new.isSome)) θ' w' x.r v) {u : Upd} (hu : (xOut n nm x).pick = some u) (d : Option Nat) :
    ∃ θ'', Rep J Am Mi w0 (u.ap d s) θ'' (a.put d v) w' := by
  unfold xOut at hu
  split at hu
  · rename_i y hy
    cases hu
    obtain ⟨i1, i2, i3, i4⟩ := insX (lo := s.lo) (n := n) (nm := nm) x.lent x.new
    generalize hlo' : insL (optW n x.lent ++ optW nm x.new) s.lo = lo' at i1 i2 i3 i4
    have hnn : lend = true → n ≠ nm := fun hl e => by
      obtain ⟨t, cs, hh⟩ := hlo hl
      exact hn.2 _ (by rw [← e]; exact hh)
    have hln : ∀ o, x.lent = some o → lend = true := fun o e => by rw [← hlent, e]; rfl
    have hnew : ∀ m y, s.lo[m]? = some (some y) → m ≠ nm := fun m y hm e => hn.2 y (by rw [← e]; exact hm)
    -- what C holds
    have hC : ∀ m y, ((m = n ∧ x.lent.isSome) ∨ (m = nm ∧ x.new.isSome)) → lo'[m]? = some (some y) → (m = n ∧ x.lent = some y ∧ m ≠ nm) ∨ (m = nm ∧ x.new = some y) := fun m y hc hm => by
      rcases hc with ⟨rfl, hc⟩ | ⟨rfl, hc⟩
      · obtain ⟨o, ho⟩ := Option.isSome_iff_exists.1 hc
        have hne := hnn (hln o ho)
        rw [i3 o ho hne] at hm
        cases hm
        exact .inl ⟨rfl, ho, hne⟩
      · obtain ⟨o, ho⟩ := Option.isSome_iff_exists.1 hc
        rw [i2 o ho] at hm
        cases hm
        exact .inr ⟨rfl, ho⟩
    have hlc : ∀ y, x.lent = some y → ∀ b, uses θ n y b → b = (θ n).blk := fun y hy b hb => by
      obtain ⟨t, cs, rfl, _⟩ := h1 y hy
      exact hb
    have hR := h.change (lo' := lo') (θ' := fun k => if k = nm then θ' 1 else θ k) (w' := w') (fun m => (m = n ∧ x.lent.isSome) ∨ (m = nm ∧ x.new.isSome)) (fun b => lend = true ∧ b = (θ n).blk)
      (fun m y hm hc => (i1 m y hc).1 hm)
      (fun k hk => by
        obtain ⟨y, hy⟩ := hk
        simp [hnew k y hy])
      (fun k hk => by
        have : k ≠ nm := fun e => by have := hn.1; omega
        simp [this])
      (fun k hk => by
        obtain ⟨z, hz⟩ := hk
        have hkn := hnew k z hz
        by_cases hc : (k = n ∧ x.lent.isSome) ∨ (k = nm ∧ x.new.isSome)
        · rcases hc with ⟨rfl, hc⟩ | ⟨rfl, hc⟩
          · obtain ⟨o, ho⟩ := Option.isSome_iff_exists.1 hc
            exact ⟨o, i3 o ho hkn⟩
          · exact absurd rfl hkn
        · exact ⟨z, (i1 k z hc).2 hz⟩)
      i4
      (fun m y b hc hm hux => by
        rcases hC m y hc hm with ⟨rfl, hl, hne⟩ | ⟨rfl, hl⟩
        · rw [uses_ren (θ := θ) (n := m) (by simp [hne])] at hux
          have hb := hlc y hl b hux
          have hlend := hln y hl
          obtain ⟨t, cs, hh⟩ := hlo hlend
          have hlt := (h.lt m _ b hh hb).1
          exact ⟨.inl ⟨hlend, hb⟩, by omega⟩
        · rw [uses_ren (θ := θ') (n := 1) (by simp)] at hux
          obtain ⟨e1, e2⟩ := (h2 y hl).2.2 b hux
          exact ⟨.inr e1, e2⟩)
      (fun b ⟨hl, hb⟩ => by
        obtain ⟨t, cs, hh⟩ := hlo hl
        exact ⟨n, _, .inl ⟨rfl, by rw [hlent]; exact hl⟩, hh, hb⟩)
      (fun m m' y y' b hc hc' hm hm' hne hux hux' => by
        rcases hC m y hc hm with ⟨rfl, hl, hne1⟩ | ⟨rfl, hl⟩ <;> rcases hC m' y' hc' hm' with ⟨rfl, hl', hne2⟩ | ⟨rfl, hl'⟩
        · exact hne rfl
        · rw [uses_ren (θ := θ) (n := m) (by simp [hne1])] at hux
          rw [uses_ren (θ := θ') (n := 1) (by simp)] at hux'
          have hb := hlc y hl b hux
          obtain ⟨t, cs, hh⟩ := hlo (hln y hl)
          have hlt := (h.lt m _ b hh hb).1
          have := ((h2 y' hl').2.2 b hux').1
          omega
        · rw [uses_ren (θ := θ) (n := m') (by simp [hne2])] at hux'
          rw [uses_ren (θ := θ') (n := 1) (by simp)] at hux
          have hb := hlc y' hl' b hux'
          obtain ⟨t, cs, hh⟩ := hlo (hln y' hl')
          have hlt := (h.lt m' _ b hh hb).1
          have := ((h2 y hl).2.2 b hux).1
          omega
        · exact hne rfl)
      hos htp hout hsz hww
      (fun m go adm hc hm => by
        rcases hC m _ hc hm with ⟨rfl, hl, _⟩ | ⟨rfl, hl⟩
        · obtain ⟨t, cs, e, _⟩ := h1 _ hl
          cases e
        · exact (h2 _ hl).2.1 go adm rfl)
      (fun m y hc hm => by
        rcases hc with ⟨rfl, hc⟩ | ⟨rfl, hc⟩
        · obtain ⟨t, cs, hh⟩ := hlo (by rw [← hlent]; exact hc)
          rw [hh] at hm; cases hm
        · exact hn.2 _ hm)
      (fun m y hc hm => (i1 m y hc).2 hm)
      (fun m y hc hm S hS hS' _ => by
        have hXS : ∀ b, XB (Stab Am s.lo θ w) w w' θ' x b → S b := fun b hb => by
          rcases hb.1 with h4 | ⟨h4, h5⟩
          · exact hS b h4
          · refine hS' b h4 h5 fun k z hc' hk hux => ?_
            rcases hC k z hc' hk with ⟨rfl, hl, hne⟩ | ⟨rfl, hl⟩
            · rw [uses_ren (θ := θ) (n := k) (by simp [hne])] at hux
              have hb' := hlc z hl b hux
              obtain ⟨t, cs, hh⟩ := hlo (hln z hl)
              have := (h.lt k _ b hh hb').1
              omega
            · rw [uses_ren (θ := θ') (n := 1) (by simp)] at hux
              exact hb.2 z hl hux
        rcases hC m y hc hm with ⟨rfl, hl, hne⟩ | ⟨rfl, hl⟩
        · obtain ⟨t, cs, rfl, vs, e1, e2⟩ := h1 y hl
          refine ⟨vs, ?_, e2.mono hXS (fun _ _ => rfl) (fun _ hf => hf.elim) (fun _ hf => hf.elim)⟩
          rw [← e1]
          simp only [if_neg hne, hθ0 (hln _ hl)]
        · exact holds_ren hXS (by simp) (h2 y hl).1)
    refine ⟨fun k => if k = nm then θ' 1 else θ k, ?_⟩
    have hap : (Upd.many y (optW n x.lent ++ optW nm x.new)).ap d s = { ({ s with lo := lo' } : St) with tm := putT s.tm d y } := by rw [← hlo']; rfl
    rw [hap]
    refine hR.putO d (renV_den h3 hy (fun b hb => ?_) (fun hl => ?_) (fun hl => ?_))
    · have hnC : ∀ m z, ((m = n ∧ x.lent.isSome) ∨ (m = nm ∧ x.new.isSome)) → lo'[m]? = some (some z) → ∀ b, XB (Stab Am s.lo θ w) w w' θ' x b → ¬ uses (fun k => if k = nm then θ' 1 else θ k) m z b := fun m z hc hm b hb hux => by
        rcases hC m z hc hm with ⟨rfl, hl, hne⟩ | ⟨rfl, hl⟩
        · rw [uses_ren (θ := θ) (n := m) (by simp [hne])] at hux
          have hb' := hlc z hl b hux
          obtain ⟨t, cs, hh⟩ := hlo (hln z hl)
          rcases hb.1 with h4 | ⟨h4, _⟩
          · exact h4.2.2 m _ hh hb'
          · have := (h.lt m _ b hh hb').1
            omega
        · rw [uses_ren (θ := θ') (n := 1) (by simp)] at hux
          exact hb.2 z hl hux
      refine (⟨?_, ?_, fun m z hm hux => ?_⟩ : Stab Am lo' (fun k => if k = nm then θ' 1 else θ k) w' b)
      · rcases hb.1 with h4 | ⟨_, h5⟩
        · exact Nat.lt_of_lt_of_le h4.1 hsz
        · exact h5
      · rcases hb.1 with h4 | ⟨h4, _⟩
        · exact h4.2.1
        · intro ham; have := h.am b ham; omega
      · by_cases hc : (m = n ∧ x.lent.isSome) ∨ (m = nm ∧ x.new.isSome)
        · exact hnC m z hc hm b hb hux
        · have hm' := (i1 m z hc).1 hm
          rw [uses_ren (θ := θ) (n := m) (by simp [hnew m z hm'])] at hux
          rcases hb.1 with h4 | ⟨h4, _⟩
          · exact h4.2.2 m z hm' hux
          · have := (h.lt m z b hm' hux).1
            omega
    · rcases hl with ⟨_, hl⟩ | ⟨e, _⟩
      · obtain ⟨o, ho⟩ := Option.isSome_iff_exists.1 (hlent.trans hl)
        refine ⟨⟨o, i3 o ho (hnn hl)⟩, ?_⟩
        simp only [if_neg (hnn hl), hθ0 hl]
      · cases e
    · rcases hl with ⟨e, _⟩ | ⟨_, hl⟩
      · cases e
      · obtain ⟨o, ho⟩ := Option.isSome_iff_exists.1 hl
        exact ⟨⟨o, i2 o ho⟩, by simp⟩
  · simp [T.pick] at hu

theorem plain_closed {k : SX.K} {q : SX.Q} (h : KOk k q) (e : k.plain = true) : ∃ x, q = .c x := by
  cases h with
  | int k n => exact ⟨_, rfl⟩
  | bool b => exact ⟨_, rfl⟩
  | str s => exact ⟨_, rfl⟩
  | any q => cases e
  | lst ks len get => cases e

theorem denK_plain {S S' : Nat → Prop} {w w' : World} {ks : List SX.K} {qs : List SX.Q} {us : List Value} (h : DenK S w ks qs us) (e : ks.all SX.K.plain = true) : DenK S' w' ks qs us := by
  induction h with
  | nil => exact .nil
  | cons k q u ks qs us hk hd _ ih =>
    simp only [List.all_cons, Bool.and_eq_true] at e
    obtain ⟨x, rfl⟩ := plain_closed hk e.1
    cases hd
    exact .cons _ _ _ _ _ _ hk (.c _) (ih e.2)

theorem ents_plain {S S' : Nat → Prop} {w w' : World} {kk : MK} {ag : Bool} {vk : List SX.K} {es : List (Value × List SX.Q)} {arr : List MapEntry} (h : EntsOK S w kk ag vk es arr) (e : vk.all SX.K.plain = true) : EntsOK S' w' kk ag vk es arr := by
  induction h with
  | nil => exact .nil
  | cons key qs us born es arr hf hd _ ih => exact .cons _ _ _ _ _ _ hf (denK_plain hd e) ih

theorem holds_shut {S S' L L' : Nat → Prop} {θ : Th} {w : World} {n : Nat} {o : Ob} (h : Holds S L θ w n o) (e : shutOb o = true) : Holds S' L' θ w n o := by
  cases o with
  | map kk ag vk es =>
    obtain ⟨arr, clk, h1, h2⟩ := h
    exact ⟨arr, clk, h1, ents_plain h2 e⟩
  | _ => simp [shutOb] at e

theorem shutR1_den {S S' L : Nat → Prop} {θ : Th} {w : World} {x : V} {v : Value} (h : Den S L θ w x v) (e : shutR1 x = true) : Den S' L θ w x v := by
  unfold shutR1 at e
  split at e
  · cases h with
    | mp _ hl => exact .mp _ hl
  · exact den_shut1 h e

theorem shutRs_den {S S' L : Nat → Prop} {θ : Th} {w : World} : ∀ {l : List V} {vs : List Value}, DenL S L θ w l vs → l.all shutR1 = true → DenL S' L θ w l vs
  | _, _, .nil, _ => .nil
  | _, _, .cons x v l vs h hl, e => by
    simp only [List.all_cons, Bool.and_eq_true] at e
    exact .cons _ _ _ _ (shutR1_den h e.1) (shutRs_den hl e.2)

theorem shutR_den {S S' L : Nat → Prop} {θ : Th} {w : World} {x : V} {v : Value} (h : Den S L θ w x v) (e : shutR x = true) : Den S' L θ w x v := by
  unfold shutR at e
  split at e
  · cases h with
    | tup l vs hl => exact .tup _ _ (shutRs_den hl e)
  · exact shutR1_den h e

theorem free1_nol {S L L' : Nat → Prop} {θ θ' : Th} {w : World} {l : List V} {vs : List Value} (h : DenL S L θ w l vs) (e : l.all V.free1 = true) : DenL S L' θ' w l vs := denL_free1 h e

theorem xcall_wp (h : Rep J Am Mi w0 s θ a w) {nm : Nat} (hn : Fresh s nm) {f : Nat} {lend : Bool} {sp : Option Ob → List V → T XOut} (hS : SpecX P f lend sp) {args : List V} {vals : List Value} (hd : DenL (Stab Am s.lo θ w) (Liv s.lo) θ w args vals)
    {u : Upd} (hp : (xcall s nm lend sp args).pick = some u) (d : Option Nat) :
    Calls P f vals.toArray w fun e w' => ∃ v, e = .returned v ∧ ∃ θ'', Rep J Am Mi w0 (u.ap d s) θ'' (a.put d v) w' := by
  unfold xcall at hp
  split at hp
  · rename_i hlend
    subst hlend
    split at hp
    · rename_i n' rest
      split at hp
      · rename_i t cs hlo
        split at hp
        · rename_i hc
          simp only [Bool.and_eq_true] at hc
          rw [T.pick_bind] at hp
          obtain ⟨x, hx, hp⟩ := hp
          obtain ⟨cvs, hv1, hv2⟩ := h.lo _ _ hlo
          cases hd with
          | cons _ v0 _ vr h0 hr =>
            obtain ⟨rfl, _⟩ := h0.ptr_inv
            have hC := hS.2 (Stab Am s.lo θ w) w (fun _ => θ n') (some (.cells t cs)) (.ptr 0 0 :: rest) _ x (fun b hb => hb.1) h.fr.glw h.glS rfl (fun o ho => by
              cases ho
              exact ⟨t, cs, rfl, ⟨cvs, hv1, free1_nol hv2 hc.1⟩, (h.lt _ _ _ hlo rfl).1, fun hb => hb.2.2 _ _ hlo rfl⟩) (.cons _ _ _ _ (.ptr (θ := fun _ => θ n') 0 0 ⟨rfl, rfl⟩) (denL_free hr hc.2)) hx
            refine hC.mono ?_
            rintro e w' ⟨v, θ', rfl, g0, g1, g2, g3, g4, g5, g6, g7, g8, g9⟩
            exact ⟨v, rfl, x_fin h hn (fun _ => ⟨t, cs, hlo⟩) (fun _ => by rw [g0]) g1 g2 g3 g4 g5 g6 g7 g8 g9 hp d⟩
        · simp [T.pick] at hp
      · simp [T.pick] at hp
    · simp [T.pick] at hp
  · rename_i hlend
    have hlend' : lend = false := by simpa using hlend
    subst hlend'
    split at hp
    · rename_i hfree
      rw [T.pick_bind] at hp
      obtain ⟨x, hx, hp⟩ := hp
      have hC := hS.2 (Stab Am s.lo θ w) w th0 none args _ x (fun b hb => hb.1) h.fr.glw h.glS rfl (fun o ho => by cases ho) (denL_free hd hfree) hx
      refine hC.mono ?_
      rintro e w' ⟨v, θ', rfl, g0, g1, g2, g3, g4, g5, g6, g7, g8, g9⟩
      exact ⟨v, rfl, x_fin h hn (fun e => by cases e) (fun e => by cases e) g1 g2 g3 g4 (fun b hb _ => g5 b hb (fun e => by cases e.1)) g6 g7 g8 g9 hp d⟩
    · split at hp
      · rename_i args' hargs
        rw [T.pick_bind] at hp
        obtain ⟨x, hx, hp⟩ := hp
        split at hp
        · rename_i hsh
          simp only [shutX, Bool.and_eq_true] at hsh
          have hd' : DenL (SeeS Am s.lo θ w) NoL th0 w args' vals := letGoL_den h (fun _ _ x => x) (fun b hb => .inl hb) (fun n o b ho hu => .inr ⟨n, o, ho, hu⟩) hd hargs
          have hC := hS.2 (SeeS Am s.lo θ w) w th0 none args' _ x h.see_lt h.fr.glw (fun x hx => .inl (h.glS x hx)) rfl (fun o ho => by cases ho) (hd'.mono (fun _ x => x) (fun _ _ => rfl) (fun _ hf => hf.elim) (fun _ hf => hf.elim)) hx
          refine hC.mono ?_
          rintro e w' ⟨v, θ', rfl, g0, g1, g2, g3, g4, g5, g6, g7, g8, g9⟩
          refine ⟨v, rfl, x_fin h hn (fun e => by cases e) (fun e => by cases e) g1 g2 g3 g4 (fun b hb _ => g5 b hb (fun e => by cases e.1)) g6 (fun o ho => by rw [ho] at g6; cases g6) (fun o ho => ?_) (shutR_den g9 hsh.1) hp d⟩
          obtain ⟨k1, k2, k3⟩ := g8 o ho
          rw [ho] at hsh
          exact ⟨holds_shut k1 hsh.2, k2, k3⟩
        · simp [T.pick] at hp
      · simp [T.pick] at hp

theorem effX_wp (hΓ : GOK P Γ) (h : Rep J Am Mi w0 s θ a w) {nm : Nat} (hn : Fresh s nm) {u : Upd} (hp : (effX P Γ nm o s).pick = some u)
    (hK : ∀ θ' a' w', Rep J Am Mi w0 (u.ap o.dst s) θ' a' w' → K a' w') : o.wpIn (FW r) n P a w K Q := by
  unfold effX at hp
  split at hp
  · rename_i c hop
    split at hp
    · rename_i hcal
      split at hp
      · rename_i d hd
        exact appE_wp h hop hcal hd hn hp hK
      · simp [T.pick] at hp
    · rename_i y hcal
      split at hp
      · rename_i f caps hcv
        split at hp
        · rename_i lend sp hsp
          have hS : SpecX P f lend sp := hΓ _ (look_mem hsp)
          obtain ⟨vs, hev, hcd⟩ := calleeV_den h hcv
          have hd := (den_map h c.args.toList).append hcd
          have hC := xcall_wp h hn hS hd hp o.dst
          have e : (List.map a.eval c.args.toList ++ vs).toArray = Array.map a.eval c.args ++ vs.toArray := by apply Array.ext'; simp
          rw [e] at hC
          refine wpIn_enter (f := f) (args := Array.map a.eval c.args ++ vs.toArray) (w' := w) (by simp [hop]) ?_ (hC.mono ?_)
          · simp only [execOp, hop, resolve, hcal, hev, Deferred.ofValue, Sem.run_bind, Sem.run_pure, Result.andThen_ok, invoke, Array.append_empty, Array.empty_append]
            exact run_enters hS.1 _ w
          · rintro ev' w' ⟨v, rfl, θ'', hR⟩
            exact hK θ'' _ w' hR
        · simp [T.pick] at hp
      · simp [T.pick] at hp
    · simp [T.pick] at hp
  · simp [T.pick] at hp

end
end Go.SX
