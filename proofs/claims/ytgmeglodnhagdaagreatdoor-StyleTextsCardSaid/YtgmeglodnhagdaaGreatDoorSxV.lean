/- Functions that are lent something, or hand something over: their contracts, out of what their bodies come to. -/
import Derived.Test.YtgmeglodnhagdaaGreatDoorSxJ
namespace Go.SX
open Go.RowKit
set_option linter.unusedVariables false
set_option linter.unusedSimpArgs false
set_option linter.unusedSectionVars false

def initX (fn : Func) (ls : Option Ob) (args : List V) : St := { tm := args ++ List.replicate (fn.ntmps - args.length) .any, lo := (optW 0 ls).map fun x => some x.2, base := (optW 0 ls).length }

/-- Which of the results is handed over, with what it names. -/
def newName (ho lend : Bool) : List V → Option Nat
  | [] => none
  | .mp n :: _ => some n
  | .ptr n off :: l => if ho && (!lend || decide (n ≠ 0)) then some n else newName ho lend l
  | .own n :: l => if ho then some n else newName ho lend l
  | _ :: l => newName ho lend l

def maskL (lend : Bool) (hn : Option Nat) (lo : List (Option Ob)) : List (Option Ob) :=
  let lo1 := if lend then lo.set 0 none else lo
  match hn with
  | some n => lo1.set n none
  | none => lo1

def handOb (lo1 : List (Option Ob)) : Ob → Option Ob
  | .map kk ag vk es => some (.map kk ag vk es)
  | .vec t ks len get => some (.vec t ks len get)
  | .cells t cs => (toQs lo1 cs).map (.cells t)
  | _ => none

def outX1 (lend : Bool) (hn : Option Nat) (lo1 : List (Option Ob)) : V → Option V
  | .ptr n off => if lend && decide (n = 0) then some (.ptr 0 off) else if hn = some n then some (.ptr 1 off) else letGo1 lo1 (.ptr n off)
  | .mp n => if hn = some n then some (.mp 1) else letGo1 lo1 (.mp n)
  | .own n => if hn = some n then some (.own 1) else letGo1 lo1 (.own n)
  | v => letGo1 lo1 v

def outXL (lend : Bool) (hn : Option Nat) (lo1 : List (Option Ob)) : List V → Option (List V)
  | [] => some []
  | x :: l => match outX1 lend hn lo1 x, outXL lend hn lo1 l with
    | some y, some r => some (y :: r)
    | _, _ => none

def lentOut (lend : Bool) (lo lo1 : List (Option Ob)) : Option (Option Ob) :=
  if lend then match lo[0]? with
    | some (some (Ob.cells t cs)) => (toQs lo1 cs).map fun cs' => some (Ob.cells t cs')
    | _ => none
  else some none

def newOut (hn : Option Nat) (lo lo1 : List (Option Ob)) : Option (Option Ob) := match hn with
  | some n => match lo[n]? with
    | some (some o) => (handOb lo1 o).map some
    | _ => none
  | none => some none

def tupOf : List V → V
  | [v] => v
  | vs => .tup vs

/-- What is handed back, and what of what was lent. -/
def outX (lend : Bool) (hn : Option Nat) (lo : List (Option Ob)) (vs : List V) : Option XOut :=
  if lend && decide (hn = some 0) then none else
  match lentOut lend lo (maskL lend hn lo), newOut hn lo (maskL lend hn lo), outXL lend hn (maskL lend hn lo) vs with
  | some l, some x, some rs => some ⟨l, x, tupOf rs⟩
  | _, _, _ => none

def leaveX (P : Program) (fn : Func) (ho lend : Bool) (s : St) : T XOut :=
  match dropMarks s.df s.lo with
  | some lo => (resL P { s with lo } fn.results.toList).bind fun vs => .ofOption (outX lend (newName ho lend vs) lo vs)
  | none => .bad

def funX (P : Program) (Γ : Gam) (Λ : Lam) (fn : Func) (c : Code) (ho : Bool) (ls : Option Ob) (args : List V) : T XOut :=
  (sx P Γ Λ [] c (initX fn ls args)).bind fun x => match x.1 with
    | .normal | .ret => leaveX P fn ho ls.isSome x.2
    | _ => .bad

def Jt.fix [GW] (P : Program) (k : Nat) (th : Th) : Jt P := { Jt.none P with hN := k, th }

section
variable [GW] {P : Program} {J : Jt P} {Am Mi : Nat → Prop} {w0 w : World} {s : St} {θ : Th} {a : Act} {Γ : Gam}

theorem maskL_sub {lend : Bool} {hn : Option Nat} {lo : List (Option Ob)} {n : Nat} {o : Ob} (h : (maskL lend hn lo)[n]? = some (some o)) : lo[n]? = some (some o) ∧ (lend = true → n ≠ 0) ∧ hn ≠ some n := by
  have h0 : ∀ {m : Nat} {l : List (Option Ob)}, (l.set m none)[n]? = some (some o) → l[n]? = some (some o) ∧ m ≠ n := fun {m l} h => by
    by_cases e : m = n
    · subst e
      rw [List.getElem?_set] at h
      simp at h
    · rw [List.getElem?_set_ne e] at h
      exact ⟨h, e⟩
  have h1 : ∀ {l : List (Option Ob)}, l = (if lend then lo.set 0 none else lo) → l[n]? = some (some o) → lo[n]? = some (some o) ∧ (lend = true → n ≠ 0) := fun {l} e h => by
    subst e
    cases lend with
    | true => obtain ⟨a, b⟩ := h0 (by simpa using h); exact ⟨a, fun _ e => b e.symm⟩
    | false => exact ⟨by simpa using h, fun e => by cases e⟩
  unfold maskL at h
  cases hn with
  | none =>
    obtain ⟨a, b⟩ := h1 rfl h
    exact ⟨a, b, by simp⟩
  | some m =>
    obtain ⟨a, b⟩ := h0 h
    obtain ⟨c, d⟩ := h1 rfl a
    exact ⟨c, d, fun e => b (Option.some.inj e)⟩

theorem handOb_uses {lo1 : List (Option Ob)} {o o' : Ob} {n : Nat} {b : Nat} (h : handOb lo1 o = some o') : uses θ n o' b ↔ uses θ n o b := by
  cases o with
  | cells t cs =>
    simp only [handOb, Option.map_eq_some_iff] at h
    obtain ⟨r, _, rfl⟩ := h
    exact Iff.rfl
  | map => simp [handOb] at h; subst h; exact Iff.rfl
  | vec => simp [handOb] at h; subst h; exact Iff.rfl
  | _ => simp [handOb] at h

theorem outX_run (h : Rep J Am Mi w0 s θ a w) {lend : Bool} {hn : Option Nat} {vs : List V} {us : List Value} {x : XOut} (e : outX lend hn s.lo vs = some x) (hd : DenL (Stab Am s.lo θ w) (Liv s.lo) θ w vs us) {S' : Nat → Prop}
    (hS : ∀ b, Stab Am s.lo θ w b → S' b) (hO : ∀ (n : Nat) (o : Ob) (b : Nat), s.lo[n]? = some (some o) → (lend = true → n ≠ 0) → hn ≠ some n → uses θ n o b → S' b) (hdis : ∀ n o b, hn = some n → s.lo[n]? = some (some o) → uses θ n o b → ¬ S' b) :
    ∃ θ' : Th, θ' 0 = θ 0 ∧ x.lent.isSome = lend ∧ (∀ o, x.lent = some o → ∃ t cs, o = .cells t cs ∧ Holds S' NoL θ' w 0 o ∧ ∃ cs0, s.lo[0]? = some (some (.cells t cs0))) ∧
      (∀ o, x.new = some o → Holds S' NoL θ' w 1 o ∧ (∀ go adm, o ≠ .yl go adm) ∧ ∃ n o0, hn = some n ∧ s.lo[n]? = some (some o0) ∧ (lend = true → n ≠ 0) ∧ ∀ b, uses θ' 1 o b ↔ uses θ n o0 b) ∧
      Den S' (fun n => (n = 0 ∧ lend = true) ∨ (n = 1 ∧ x.new.isSome)) θ' w x.r (if h : us.length = 1 then us[0] else .tuple us.toArray) := by
  unfold outX at e
  split at e
  · cases e
  rename_i hh0
  split at e
  · rename_i l nw rs h1 h2 h3
    cases e
    simp only
    have hlo1 := fun n o hm => (maskL_sub (lend := lend) (hn := hn) (lo := s.lo) (n := n) (o := o) hm).1
    have hO1 : ∀ (n : Nat) (o : Ob) (b : Nat), (maskL lend hn s.lo)[n]? = some (some o) → uses θ n o b → S' b := fun n o b hm hu => by
      obtain ⟨e1, e2, e3⟩ := maskL_sub hm
      exact hO n o b e1 e2 e3 hu
    have hcells : ∀ {n : Nat} {t : TypeId} {cs cs' : List V}, s.lo[n]? = some (some (.cells t cs)) → toQs (maskL lend hn s.lo) cs = some cs' → ∃ vs : List Value, w.heap[(θ n).blk]? = some (.cells vs.toArray t (0, 0)) ∧ DenL S' NoL th0 w cs' vs := fun hm hq => by
      obtain ⟨vs, g1, g2⟩ := h.lo _ _ hm
      exact ⟨vs, g1, toQs_den h hlo1 hS hO1 g2 hq⟩
    have hθ : ∃ θ' : Th, θ' 0 = θ 0 ∧ ∀ n, hn = some n → θ' 1 = θ n := by
      cases hn with
      | none => exact ⟨θ, rfl, fun n e => by cases e⟩
      | some m => exact ⟨fun k => if k = 1 then θ m else θ k, by simp, fun n e => by cases e; simp⟩
    obtain ⟨θ', t0, t1⟩ := hθ
    have hl : l.isSome = lend := by
      unfold lentOut at h1
      split at h1
      · rename_i hle
        split at h1
        · simp only [Option.map_eq_some_iff] at h1
          obtain ⟨_, _, rfl⟩ := h1
          simp [hle]
        · cases h1
      · rename_i hle
        cases h1
        simp at hle
        simp [hle]
    have hnw : nw.isSome = hn.isSome := by
      unfold newOut at h2
      split at h2
      · split at h2
        · simp only [Option.map_eq_some_iff] at h2
          obtain ⟨_, _, rfl⟩ := h2
          rfl
        · cases h2
      · cases h2; rfl
    have hden1 : ∀ {v y : V} {u : Value}, Den (Stab Am s.lo θ w) (Liv s.lo) θ w v u → outX1 lend hn (maskL lend hn s.lo) v = some y → Den S' (fun n => (n = 0 ∧ lend = true) ∨ (n = 1 ∧ nw.isSome)) θ' w y u := fun {v y u} hv hy => by
      have hgo : ∀ {v y : V} {u : Value}, Den (Stab Am s.lo θ w) (Liv s.lo) θ w v u → letGo1 (maskL lend hn s.lo) v = some y → Den S' (fun n => (n = 0 ∧ lend = true) ∨ (n = 1 ∧ nw.isSome)) θ' w y u := fun hv hy =>
        (letGo1_den h hlo1 hS hO1 hv hy).mono (fun _ x => x) (fun _ _ => rfl) (fun _ hf => hf.elim) (fun _ hf => hf.elim)
      cases v with
      | ptr n off =>
        simp only [outX1] at hy
        split at hy
        · rename_i hc
          simp only [Bool.and_eq_true, decide_eq_true_eq] at hc
          cases hy
          obtain ⟨hle, rfl⟩ := hc
          obtain ⟨rfl, _⟩ := hv.ptr_inv
          rw [← t0]
          exact .ptr 0 off (.inl ⟨rfl, hle⟩)
        · split at hy
          · rename_i hc
            cases hy
            obtain ⟨rfl, _⟩ := hv.ptr_inv
            rw [← t1 n hc]
            exact .ptr 1 off (.inr ⟨rfl, by rw [hnw, hc]; rfl⟩)
          · exact hgo hv hy
      | mp n =>
        simp only [outX1] at hy
        split at hy
        · rename_i hc
          cases hy
          cases hv
          rw [← t1 n hc]
          exact .mp 1 (.inr ⟨rfl, by rw [hnw, hc]; rfl⟩)
        · exact hgo hv hy
      | own n =>
        simp only [outX1] at hy
        split at hy
        · rename_i hc
          cases hy
          cases hv with
          | own _ ad len cap hl hs => exact .own 1 _ _ _ (.inr ⟨rfl, by rw [hnw, hc]; rfl⟩) (by rw [t1 n hc]; exact hs)
        · exact hgo hv hy
      | _ => exact hgo hv hy
    have hdenL : ∀ {vs rs : List V} {us : List Value}, DenL (Stab Am s.lo θ w) (Liv s.lo) θ w vs us → outXL lend hn (maskL lend hn s.lo) vs = some rs → DenL S' (fun n => (n = 0 ∧ lend = true) ∨ (n = 1 ∧ nw.isSome)) θ' w rs us := fun {vs} => by
      induction vs with
      | nil => intro rs us hd he; cases he; cases hd; exact .nil
      | cons v vs ih =>
        intro rs us hd he
        cases hd with
        | cons _ u _ us hv hl =>
          simp only [outXL] at he
          split at he
          · rename_i y r hy hr
            cases he
            exact .cons _ _ _ _ (hden1 hv hy) (ih hl hr)
          · cases he
    have hR := hdenL hd h3
    refine ⟨θ', t0, hl, fun o ho => ?_, fun o ho => ?_, ?_⟩
    · subst ho
      unfold lentOut at h1
      split at h1
      · split at h1
        · rename_i t cs hm
          simp only [Option.map_eq_some_iff] at h1
          obtain ⟨cs', hq, h1⟩ := h1
          cases h1
          obtain ⟨vs', g1, g2⟩ := hcells hm hq
          exact ⟨t, cs', rfl, ⟨vs', by rw [t0]; exact g1, g2.mono (fun _ x => x) (fun _ _ => rfl) (fun _ hf => hf.elim) (fun _ hf => hf.elim)⟩, cs, hm⟩
        · cases h1
      · cases h1
    · subst ho
      unfold newOut at h2
      split at h2
      · rename_i _ n
        split at h2
        · rename_i o0 hm
          simp only [Option.map_eq_some_iff] at h2
          obtain ⟨o', hq, h2⟩ := h2
          cases h2
          have hne : lend = true → n ≠ 0 := fun hle e => hh0 (by simp [hle, e])
          refine ⟨?_, ?_, n, o0, rfl, hm, hne, fun b => ((uses_ren (t1 n rfl) o b).trans (handOb_uses hq))⟩
          · have hH := h.lo _ _ hm
            cases o0 with
            | map kk ag vk es =>
              simp [handOb] at hq
              subst hq
              obtain ⟨arr, clk, g1, g2⟩ := hH
              exact ⟨arr, clk, by rw [t1 n rfl]; exact g1, g2.mono hS (fun _ _ => rfl)⟩
            | vec t ks len get =>
              simp [handOb] at hq
              subst hq
              rcases hH with ⟨g1, g2⟩ | ⟨vs, cap, g1, g2, g3, g4, g5, g6⟩
              · exact .inl ⟨by rw [t1 n rfl]; exact g1, g2⟩
              · refine .inr ⟨vs, cap, by rw [t1 n rfl]; exact g1, by rw [t1 n rfl]; exact g2, g3, g4, g5, fun i j k hi hk => ?_⟩
                obtain ⟨a, u, b, c⟩ := g6 i j k hi hk
                exact ⟨a, u, b, c.mono hS (fun _ _ => rfl)⟩
            | cells t cs =>
              simp only [handOb, Option.map_eq_some_iff] at hq
              obtain ⟨cs', hq, rfl⟩ := hq
              obtain ⟨vs', g1, g2⟩ := hcells hm hq
              exact ⟨vs', by rw [t1 n rfl]; exact g1, g2.mono (fun _ x => x) (fun _ _ => rfl) (fun _ hf => hf.elim) (fun _ hf => hf.elim)⟩
            | _ => simp [handOb] at hq
          · intro go adm e
            subst e
            cases o0 <;> simp [handOb] at hq
        · cases h2
      · cases h2
    · have hlen := hR.length
      cases hR with
      | nil => simpa [tupOf] using Den.tup (S := S') _ _ (DenL.nil (S := S') (L := fun n => (n = 0 ∧ lend = true) ∨ (n = 1 ∧ nw.isSome)) (θ := θ') (w := w))
      | cons y u rs us hy hl =>
        cases hl with
        | nil => simpa [tupOf] using hy
        | cons y2 u2 rs us hy2 hl =>
          have := Den.tup _ _ (DenL.cons _ _ _ _ hy (.cons _ _ _ _ hy2 hl))
          simpa [tupOf] using this
  · cases e

/-- What is known of l is known of l', whatever it names. -/
def WeakG (l l' : List V) : Prop := ∀ (S L : Nat → Prop) (θ : Th) (w : World) (vs : List Value), DenL S L θ w l vs → DenL S L θ w l' vs
theorem WeakG.rfl {l : List V} : WeakG l l := fun _ _ _ _ _ h => h
theorem WeakG.sp {k : Nat} {get get' : Nat → SX.Q} (h : ∀ j, j < k → get j = get' j) {l l' : List V} (hl : WeakG l l') : WeakG (.q (.sp k get) :: l) (.q (.sp k get') :: l') := fun S L θ w vs hd => by
  cases hd with
  | cons x v l vs h1 h2 => exact .cons _ _ _ _ (.q _ _ (den_sp h h1.q_inv)) (hl _ _ _ _ _ h2)
theorem WeakG.cons {x : V} {l l' : List V} (hl : WeakG l l') : WeakG (x :: l) (x :: l') := fun S L θ w vs hd => by
  cases hd with
  | cons x v l vs h1 h2 => exact .cons _ _ _ _ h1 (hl _ _ _ _ _ h2)

/-- A function's contract that is lent something or hands something over, out of what its body comes to. -/
theorem specX_of_bodyW {f : Nat} {fn : Func} {c : Code} {lend ho : Bool} {sp : Option Ob → List V → T XOut} (hΓ : GOK P Γ) (hf : P.funcs[f]? = some fn) (hb : fn.body = some c) (hent : entersB P f = true)
    (hsp : ∀ ls args x, ls.isSome = lend → (∀ y ∈ args, VB y) → (sp ls args).pick = some x → ∃ args' Λ, WeakG args args' ∧ LamOK P c Λ ∧ (funX P Γ Λ fn c ho ls args').pick = some x) : SpecX P f lend sp := by
  refine ⟨hent, fun S w θ ls args0 vals x hSw hgl hSg hlend hls hd0 hr => (callsIn_wide (n := 0)).1 (callsIn_of_wp_marks hf hb trivial ?_ rfl)⟩
  obtain ⟨args, Λ, hwk, hΛ, he⟩ := hsp ls args0 x hlend (fun x hx => let ⟨_, h⟩ := hd0.mem x hx; h.vb) hr
  have hd := hwk _ _ _ _ _ hd0
  unfold funX at he
  rw [T.pick_bind] at he
  obtain ⟨⟨ex, s1⟩, h1, h2⟩ := he
  have hlen := hd.length
  have hlo0 : ∀ n o, (initX fn ls args).lo[n]? = some (some o) → n = 0 ∧ ls = some o := fun n o ho => by
    cases ls with
    | none => simp [initX, optW] at ho
    | some y =>
      simp only [initX, optW, List.map_cons, List.map_nil] at ho
      cases n with
      | zero => simp at ho; exact ⟨rfl, by rw [ho]⟩
      | succ n => simp at ho
  have hlv : ∀ n, (n = 0 ∧ lend = true) → Liv (initX fn ls args).lo n := fun n ⟨hn, hl⟩ => by
    subst hn
    rw [← hlend] at hl
    obtain ⟨o, rfl⟩ := Option.isSome_iff_exists.1 hl
    exact ⟨o, by simp [initX, optW]⟩
  have hblk : ∀ n o b, (initX fn ls args).lo[n]? = some (some o) → uses θ n o b → lend = true ∧ b = (θ 0).blk := fun n o b ho hu => by
    obtain ⟨rfl, e⟩ := hlo0 n o ho
    obtain ⟨t, cs, rfl, _⟩ := hls o e
    exact ⟨by rw [← hlend, e]; rfl, hu⟩
  have hR : Rep (Jt.fix P (optW 0 ls).length θ) (fun b => b < w.heap.size ∧ ¬ S b ∧ ¬ (lend = true ∧ b = (θ 0).blk)) (fun b => w.heap.size ≤ b ∨ (lend = true ∧ b = (θ 0).blk)) w (initX fn ls args) θ { tmps := vals.toArray ++ Array.replicate (fn.ntmps - vals.toArray.size) undef, defers := [] } w := by
    have hnS : lend = true → ¬ S (θ 0).blk ∧ (θ 0).blk < w.heap.size := fun hl => by
      rw [← hlend] at hl
      obtain ⟨o, ho⟩ := Option.isSome_iff_exists.1 hl
      obtain ⟨t, cs, _, _, g1, g2⟩ := hls o ho
      exact ⟨g2, g1⟩
    have hS : ∀ b, S b → Stab (fun b => b < w.heap.size ∧ ¬ S b ∧ ¬ (lend = true ∧ b = (θ 0).blk)) (initX fn ls args).lo θ w b := fun b hb => ⟨hSw b hb, fun hh => hh.2.1 hb, fun n o ho hu => by
      obtain ⟨e1, e2⟩ := hblk n o b ho hu
      exact (hnS e1).1 (by rw [← e2]; exact hb)⟩
    have hd' := hd.mono (L' := Liv (initX fn ls args).lo) hS (fun _ _ => rfl) hlv (fun _ _ => rfl) (θ' := θ) (w' := w)
    refine ⟨by simp [initX, hlen], fun i v hv => ?_, fun n o ho => ?_, fun n o b ho hu => ?_, fun n m o o' b ho ho' hne => ?_, fun b hb => .inl hb, Fr.refl _ _ ⟨fun x hx hh => ?_, hgl⟩, fun b hb => hb.1, ⟨fun _ => False, ⟨fun _ hf => hf.elim, fun _ hf => hf.elim⟩, trivial, fun _ _ hf => hf.elim⟩, fun n go adm ho => ?_, fun x hx hh => hh.2.1 (hSg x hx), ⟨rfl, fun l hl => (by cases hl)⟩, ⟨rfl, ?_, fun n hn => rfl⟩, rfl, fun d hd => by simp [initX] at hd⟩
    · simp only [initX] at hv
      rw [List.getElem?_append] at hv
      split at hv
      · rename_i hi
        obtain ⟨u, hu, hdu⟩ := hd'.get i v hv
        refine ⟨u, ?_, hdu⟩
        rw [Array.getElem?_append]
        have : i < vals.toArray.size := by simp; omega
        rw [if_pos this]
        simpa using hu
      · rename_i hi
        rw [List.getElem?_replicate] at hv
        split at hv
        · rename_i hi2
          cases hv
          refine ⟨undef, ?_, .any _⟩
          rw [Array.getElem?_append]
          have : ¬ i < vals.toArray.size := by simp; omega
          rw [if_neg this, Array.getElem?_replicate, if_pos (by simp; omega)]
        · cases hv
    · obtain ⟨rfl, e⟩ := hlo0 n o ho
      obtain ⟨t, cs, rfl, hH, _⟩ := hls o e
      exact holds_ren hS rfl hH
    · obtain ⟨e1, e2⟩ := hblk n o b ho hu
      refine ⟨by rw [e2]; exact (hnS e1).2, .inr ⟨e1, e2⟩, fun hh => hh.2.2 ⟨e1, e2⟩⟩
    · obtain ⟨rfl, _⟩ := hlo0 n o ho
      obtain ⟨rfl, _⟩ := hlo0 m o' ho'
      exact absurd rfl hne
    · rcases hh with hh | ⟨e1, e2⟩
      · exact absurd (hgl.lt x hx) (by omega)
      · exact (hnS e1).1 (by rw [← e2]; exact hSg x hx)
    · obtain ⟨rfl, e⟩ := hlo0 n _ ho
      obtain ⟨t, cs, e', _⟩ := hls _ e
      cases e'
    · simp [initX]
  refine wpIn_mono (sx_wp hΓ hΛ c [] (initX fn ls args) (ex, s1) rfl h1 0 _ _ _ _ _ _ _ hR) ?_
  rintro e a' w' ⟨hi, Am', θ1, hup, hR'⟩
  simp only at hR'
  have hdone : (leaveX P fn ho ls.isSome s1).pick = some x → LeavesInM (FW none) 0 P fn a'.tmps (fun e w' => ∃ (v : Value) (θ' : Th), e = .returned v ∧ θ' 0 = θ 0 ∧ w'.os = w.os ∧ w'.tape = w.tape ∧ w'.output = w.output ∧ w.heap.size ≤ w'.heap.size ∧
      (∀ b, b < w.heap.size → ¬ (lend = true ∧ b = (θ 0).blk) → w'.heap[b]? = w.heap[b]?) ∧ x.lent.isSome = lend ∧
      (∀ o, x.lent = some o → ∃ t cs, o = .cells t cs ∧ Holds (XS w S w' θ' x) NoL θ' w' 0 o) ∧
      (∀ o, x.new = some o → Holds (XS w S w' θ' x) NoL θ' w' 1 o ∧ (∀ go adm, o ≠ .yl go adm) ∧ ∀ b, uses θ' 1 o b → w.heap.size ≤ b ∧ b < w'.heap.size) ∧
      Den (XS w S w' θ' x) (fun n => (n = 0 ∧ lend = true) ∨ (n = 1 ∧ x.new.isSome)) θ' w' x.r v) a'.defers .returning w' := fun ho' => by
    unfold leaveX at ho'
    rw [hlend] at ho'
    split at ho'
    · rename_i lo hlo
      rw [T.pick_bind] at ho'
      obtain ⟨vs, hvs, ho'⟩ := ho'
      rw [T.pick_ofOption] at ho'
      rw [hR'.df]
      refine marks_leave s1.df hR' hlo fun w2 hR2 => ?_
      obtain ⟨us, hus, hd2⟩ := resL_run hR2 hvs
      -- the lent one is where it was
      have hθ0 : lend = true → θ1 0 = θ 0 := fun hl => by
        have h3 := hR2.tt.2.2 0 (by
          have := hR2.tt.1
          rw [← this]
          show 0 < (optW 0 ls).length
          rw [← hlend] at hl
          obtain ⟨o, rfl⟩ := Option.isSome_iff_exists.1 hl
          simp [optW])
        exact h3
      have hown0 : ∀ {l : Option Ob}, lentOut lend lo (maskL lend (newName ho lend vs) lo) = some l → lend = true → ∃ t cs, lo[0]? = some (some (.cells t cs)) := fun hl he => by
        unfold lentOut at hl
        rw [if_pos he] at hl
        split at hl
        · exact ⟨_, _, by assumption⟩
        · cases hl
      have hlent0 : lend = true → ∃ t cs, lo[0]? = some (some (.cells t cs)) := fun he => by
        unfold outX at ho'
        split at ho'
        · cases ho'
        · split at ho'
          · rename_i h4 _ _
            exact hown0 h4 he
          · cases ho'
      -- what may be looked at behind
      have hnb : ∀ n o b, lo[n]? = some (some o) → (lend = true → n ≠ 0) → uses θ1 n o b → w.heap.size ≤ b ∧ b < w2.heap.size := fun n o b hm hne hu => by
        obtain ⟨g1, g2, _⟩ := hR2.lt n o b hm hu
        rcases g2 with g2 | ⟨e1, e2⟩
        · exact ⟨g2, g1⟩
        · obtain ⟨t, cs, h0⟩ := hlent0 e1
          exact absurd (show uses θ1 0 (.cells t cs) b by rw [e2, ← hθ0 e1]; rfl) (hR2.inj n 0 o _ b hm h0 (hne e1) hu)
      obtain ⟨θ', t0, t1, t2, t3, t4⟩ := outX_run (S' := fun b => (S b ∨ (w.heap.size ≤ b ∧ b < w2.heap.size)) ∧ ∀ n o, newName ho lend vs = some n → lo[n]? = some (some o) → ¬ uses θ1 n o b) hR2 ho' hd2
        (fun b hb => ⟨by
          by_cases hlt : b < w.heap.size
          · left
            refine Classical.byContradiction fun hn => hb.2.1 (hup b ⟨hlt, hn, fun ⟨e1, e2⟩ => ?_⟩)
            obtain ⟨t, cs, h0⟩ := hlent0 e1
            exact hb.2.2 0 _ h0 (by show b = (θ1 0).blk; rw [hθ0 e1]; exact e2)
          · exact .inr ⟨by omega, hb.1⟩, fun n o _ hm hu => hb.2.2 n o hm hu⟩)
        (fun n o b hm hne hnn hu => ⟨.inr (hnb n o b hm hne hu), fun n' o' e hm' hu' => hR2.inj n n' o o' b hm hm' (fun e' => hnn (by rw [e, e'])) hu hu'⟩)
        (fun n o b e hm hu hh => hh.2 n o e hm hu)
      have hXS : ∀ b, ((S b ∨ (w.heap.size ≤ b ∧ b < w2.heap.size)) ∧ ∀ n o, newName ho lend vs = some n → lo[n]? = some (some o) → ¬ uses θ1 n o b) → XS w S w2 (fun m => if m = 0 then θ 0 else θ' m) x b := fun b hb => ⟨hb.1, fun o hx hu => by
        obtain ⟨_, _, n, o0, e, hm, _, hiff⟩ := t3 o hx
        exact hb.2 n o0 e hm ((hiff b).1 ((uses_ren (θ := θ') (n := 1) (by simp) o b).1 hu))⟩
      have hL' : ∀ {v : V} {u : Value}, Den (fun b => (S b ∨ (w.heap.size ≤ b ∧ b < w2.heap.size)) ∧ ∀ n o, newName ho lend vs = some n → lo[n]? = some (some o) → ¬ uses θ1 n o b) (fun n => (n = 0 ∧ lend = true) ∨ (n = 1 ∧ x.new.isSome)) θ' w2 v u →
          Den (XS w S w2 (fun m => if m = 0 then θ 0 else θ' m) x) (fun n => (n = 0 ∧ lend = true) ∨ (n = 1 ∧ x.new.isSome)) (fun m => if m = 0 then θ 0 else θ' m) w2 v u := fun hv => hv.mono hXS (fun _ _ => rfl) (fun _ x => x) (fun n hn => by
        rcases hn with ⟨rfl, hl⟩ | ⟨rfl, _⟩
        · simp only [if_true]; rw [t0, hθ0 hl]
        · simp)
      refine ⟨if h : us.length = 1 then us[0] else .tuple us.toArray, ?_, _, fun m => if m = 0 then θ 0 else θ' m, rfl, by simp, hR2.fr.os, hR2.fr.tape, hR2.fr.output, hR2.fr.size, fun b hb hne => hR2.fr.block b hb (fun hh => by
        rcases hh with hh | hh
        · omega
        · exact hne hh), t1, fun o hx => ?_, fun o hx => ?_, hL' t4⟩
      · have hm : (fn.results.mapM (resOne a'.tmps)).run P w2 = .ok us.toArray w2 := by
          rw [Array.mapM_eq_mapM_toList, Sem.run_map, hus, Result.andThen_ok]
        rw [results_eq, Sem.run_bind, hm, Result.andThen_ok]
        simp
      · obtain ⟨t, cs, rfl, hH, _⟩ := t2 o hx
        have hl : lend = true := by rw [← t1, hx]; rfl
        exact ⟨t, cs, rfl, holds_ren hXS (by simp only [if_true]; rw [t0, hθ0 hl]) hH⟩
      · obtain ⟨hH, hny, n, o0, e, hm, hne, hiff⟩ := t3 o hx
        exact ⟨holds_ren hXS (by simp) hH, hny, fun b hu => hnb n o0 b hm hne ((hiff b).1 ((uses_ren (θ := θ') (n := 1) (by simp) o b).1 hu))⟩
    · simp [T.pick] at ho'
  cases ex <;> cases e <;> simp only [Ex.is] at hi <;> simp only at h2
  · exact hdone h2
  · simp [T.pick] at h2
  · simp [T.pick] at h2
  · exact hdone h2

end
end Go.SX
