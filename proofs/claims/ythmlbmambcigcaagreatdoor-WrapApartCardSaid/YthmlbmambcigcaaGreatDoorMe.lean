/- What the laws' proofs lean on, put together: part 5. -/
import Derived.Test.YthmlbmambcigcaaGreatDoorMd
import Derived.Below
import Derived.OrdersIn
import Derived.TacticsIn
import Derived.Test.YthmlbmambcigcaaGreatDoorProg
import Derived.WalkKit
import Derived.LaidEql
import Derived.Stop.Asserts
import Derived.RowKitTokens
import Derived.KernelRfl
import Derived.Test.YthmlbmambcigcaaGreatDoorRows
import Derived.Test.YthmlbmambcigcaaGreatDoorTie
import Derived.Test.YthmlbmambcigcaaGreatDoorCards
import Derived.LaidLaws
import Derived.LaidHandle
import Derived.Stop.Joined
import Derived.Stop.LaidErr
import Derived.SevenTiedAt

/- The range over a function that is given what its value leads to: its contract, and the rule. -/
namespace Go.SX
open Go.RowKit
set_option linter.unusedVariables false
set_option linter.unusedSimpArgs false
set_option linter.unusedSectionVars false

/-! ### the contract -/
/-- An iterator's contract that is given objects for good. -/
def IterG [GW] (P : Program) (f : Nat) (sp : List (Option Ob) → List V → T (Nat × (Nat → List V))) : Prop :=
  entersB P f = true ∧ ∀ (J : Jt P) (S : Nat → Prop) (w : World) (θ : Th) (lo : List (Option Ob)) (caps : List V) (cvals : List Value) (l : Nat) (go : List (List V) → Bool) (adm : List (List V) → List V → Bool) (n : Nat) (x : Nat → List V),
    (∀ b, S b → b < w.heap.size) → GLw w → (∀ g ∈ GW.gl, S g.1) →
    (∀ n o, lo[n]? = some (some o) → inOb o = true ∧ Holds S (Liv lo) θ w n o ∧ ∀ b, uses θ n o b → b < w.heap.size ∧ ¬ S b) →
    (∀ n m o o' b, lo[n]? = some (some o) → lo[m]? = some (some o') → n ≠ m → uses θ n o b → ¬ uses θ m o' b) → DenL S (Liv lo) θ w caps cvals → (sp lo caps).pick = some (n, x) → J.ok l go adm → J.r = none → J.hN = 0 → (∀ b, J.F0 b ↔ (b < w.heap.size ∧ ¬ S b ∧ ¬ Own lo θ b)) →
    J.J [] (Own lo θ) (fun b => b < w.heap.size ∧ ¬ S b ∧ ¬ Own lo θ b) w → Admits go adm n x →
    Calls P f (#[.func (.yield l) #[] #[]] ++ cvals.toArray) w fun e w' => ∃ v k, e = .returned v ∧ Stops go x n k ∧ ∃ F', J.J (hist x k) (fun _ => False) F' w'

def initG (fn : Func) (lo : List (Option Ob)) (caps : List V) (go : List (List V) → Bool) (adm : List (List V) → List V → Bool) : St :=
  { tm := (.yld lo.length :: caps) ++ List.replicate (fn.ntmps - (caps.length + 1)) .any, lo := lo ++ [some (.yl go adm)] }

/-- What a body yields that is given objects. -/
def itG (P : Program) (Γ : Gam) (Λ : Lam) (fn : Func) (c : Code) (lo : List (Option Ob)) (caps : List V) (go : List (List V) → Bool) (adm : List (List V) → List V → Bool) : T (List (List V)) :=
  (sx P Γ Λ [] c (initG fn lo caps go adm)).bind fun (x : Ex × St) => match x.1 with
    | .normal | .ret => (leaveV P fn x.2).bind fun _ => .leaf x.2.ys
    | _ => .bad

theorem iterG_of_body [GW] {P : Program} {Γ : Gam} {f : Nat} {fn : Func} {c : Code} {sp : List (Option Ob) → List V → T (Nat × (Nat → List V))} (hΓ : GOK P Γ)
    (hf : P.funcs[f]? = some fn) (hb : fn.body = some c) (hent : entersB P f = true)
    (hsp : ∀ lo caps n x go adm, (∀ x ∈ caps, VB x) → (sp lo caps).pick = some (n, x) → Admits go adm n x → ∃ caps' Λ k, WeakG caps caps' ∧ LamOK P c Λ ∧ Stops go x n k ∧ (itG P Γ Λ fn c lo caps' go adm).pick = some (hist x k)) : IterG P f sp := by
  refine ⟨hent, fun J S w θ lo caps0 cvals l go adm n x hSw hgl hSg hlo hinj hd0 hr hok hJr hJN hF0 hj hadm => (callsIn_wide (n := 0)).1 (callsIn_of_wp_marks hf hb trivial ?_ rfl)⟩
  obtain ⟨caps, Λ, k, hwk, hΛ, hst, he⟩ := hsp lo caps0 n x go adm (fun x hx => let ⟨_, h⟩ := hd0.mem x hx; h.vb) hr hadm
  have hd := hwk _ _ _ _ _ hd0
  unfold itG at he
  rw [T.pick_bind] at he
  obtain ⟨⟨ex, s1⟩, h1, h2⟩ := he
  have hlen := hd.length
  let θ' : Th := fun n => if n = lo.length then ⟨l, .tuple #[], []⟩ else θ n
  have hθ' : ∀ n, n < lo.length → θ' n = θ n := fun n hn => by show (if n = lo.length then _ else θ n) = _; rw [if_neg (by omega)]
  have hθl : θ' lo.length = ⟨l, .tuple #[], []⟩ := by show (if lo.length = lo.length then _ else _) = _; rw [if_pos rfl]
  have hget : ∀ (n : Nat) (o : Ob), (lo ++ [some (.yl go adm)])[n]? = some (some o) → (n < lo.length ∧ lo[n]? = some (some o)) ∨ (n = lo.length ∧ o = .yl go adm) := fun n o ho => by
    rw [List.getElem?_append] at ho
    split at ho
    · rename_i hn; exact .inl ⟨hn, ho⟩
    · rename_i hn
      have : n - lo.length = 0 := by
        have := (List.getElem?_eq_some_iff.1 ho).1
        simp at this; omega
      rw [this] at ho
      simp at ho
      exact .inr ⟨by omega, ho.symm⟩
  have hput : ∀ (n : Nat) (o : Ob), lo[n]? = some (some o) → n < lo.length ∧ (lo ++ [some (.yl go adm)])[n]? = some (some o) := fun n o ho => by
    have hn := (List.getElem?_eq_some_iff.1 ho).1
    exact ⟨hn, by rw [List.getElem?_append_left hn]; exact ho⟩
  have huse : ∀ (n : Nat) (o : Ob) (b : Nat), (lo ++ [some (.yl go adm)])[n]? = some (some o) → uses θ' n o b → lo[n]? = some (some o) ∧ uses θ n o b := fun n o b ho hu => by
    rcases hget n o ho with ⟨hn, h⟩ | ⟨_, rfl⟩
    · exact ⟨h, (uses_congr (hθ' n hn) o b).1 hu⟩
    · exact hu.elim
  have hown : ∀ b, Own (lo ++ [some (.yl go adm)]) θ' b → Own lo θ b := fun b ⟨n, o, ho, hu⟩ => by
    obtain ⟨h1, h2⟩ := huse n o b ho hu
    exact ⟨n, o, h1, h2⟩
  have hL : ∀ n, Liv lo n → Liv (lo ++ [some (.yl go adm)]) n := fun n ⟨o, ho⟩ => ⟨o, (hput n o ho).2⟩
  have hLθ : ∀ n, Liv lo n → θ' n = θ n := fun n ⟨o, ho⟩ => hθ' n (hput n o ho).1
  have hR : Rep J (fun b => b < w.heap.size ∧ ¬ S b ∧ ¬ Own lo θ b) (fun b => ¬ S b) w (initG fn lo caps go adm) θ'
      { tmps := (#[.func (.yield l) #[] #[]] ++ cvals.toArray) ++ Array.replicate (fn.ntmps - (#[Value.func (.yield l) #[] #[]] ++ cvals.toArray).size) undef, defers := [] } w := by
    have hS : ∀ b, S b → Stab (fun b => b < w.heap.size ∧ ¬ S b ∧ ¬ Own lo θ b) (initG fn lo caps go adm).lo θ' w b := fun b hb => ⟨hSw b hb, fun hh => hh.2.1 hb, fun n o ho hu => by
      obtain ⟨h1, h2⟩ := huse n o b ho hu
      exact ((hlo n o h1).2.2 b h2).2 hb⟩
    have hd0 := hd.mono (L' := Liv (initG fn lo caps go adm).lo) hS (fun _ _ => rfl) hL hLθ (θ' := θ') (w' := w)
    have hd' : DenL (Stab (fun b => b < w.heap.size ∧ ¬ S b ∧ ¬ Own lo θ b) (initG fn lo caps go adm).lo θ' w) (Liv (initG fn lo caps go adm).lo) θ' w (.yld lo.length :: caps) (.func (.yield l) #[] #[] :: cvals) := by
      refine .cons _ _ _ _ ?_ hd0
      have := Den.yld (S := Stab (fun b => b < w.heap.size ∧ ¬ S b ∧ ¬ Own lo θ b) (initG fn lo caps go adm).lo θ' w) (L := Liv (initG fn lo caps go adm).lo) (θ := θ') (w := w) lo.length ⟨.yl go adm, by simp [initG]⟩
      rwa [hθl] at this
    have hsz : (#[Value.func (.yield l) #[] #[]] ++ cvals.toArray) = (Value.func (.yield l) #[] #[] :: cvals).toArray := by simp
    rw [hsz]
    refine ⟨by simp only [initG, List.length_append, List.length_cons, List.length_replicate, Array.size_append, Array.size_replicate, List.size_toArray]; omega, fun i v hv => ?_, fun n o ho => ?_, fun n o b ho hu => ?_, fun n m o o' b ho ho' hne hu hu' => ?_, fun b hb hs => absurd (hSw b hs) (by omega), Fr.refl _ _ ⟨fun g hg hn => hn (hSg g hg), hgl⟩, fun b hb => hb.1,
      ⟨fun b => b < w.heap.size ∧ ¬ S b ∧ ¬ Own lo θ b, ⟨fun _ h => h, fun b h => (hF0 b).1 h⟩, J.closed _ _ _ _ _ _ hj rfl rfl rfl (Nat.le_refl _) (fun _ _ _ => rfl) (fun b ⟨hnf, hh⟩ => ?_), fun b hb hf => hf.2.1⟩, fun n go' adm' ho => ?_, fun g hg hh => hh.2.1 (hSg g hg), ⟨by rw [hJr]; rfl, fun l hl => (by rw [hJr] at hl; cases hl)⟩, ⟨hJN, Nat.zero_le _, fun n hn => absurd hn (Nat.not_lt_zero _)⟩, rfl, fun d hd => by simp [initG] at hd⟩
    · simp only [initG] at hv
      rw [List.getElem?_append] at hv
      split at hv
      · rename_i hi
        obtain ⟨u, hu, hdu⟩ := hd'.get i v hv
        refine ⟨u, ?_, hdu⟩
        rw [Array.getElem?_append]
        have : i < (Value.func (.yield l) #[] #[] :: cvals).toArray.size := by simp only [List.size_toArray]; rw [← hd'.length]; exact hi
        rw [if_pos this]
        simpa using hu
      · rename_i hi
        rw [List.getElem?_replicate] at hv
        split at hv
        · rename_i hi2
          cases hv
          refine ⟨undef, ?_, .any _⟩
          rw [Array.getElem?_append]
          have hl2 := hd'.length
          have : ¬ i < (Value.func (.yield l) #[] #[] :: cvals).toArray.size := by simp only [List.size_toArray]; omega
          rw [if_neg this, Array.getElem?_replicate, if_pos (by simp only [List.size_toArray, List.length_cons] at *; omega)]
        · cases hv
    · rcases hget n o ho with ⟨hn, h⟩ | ⟨rfl, rfl⟩
      · exact (hlo n o h).2.1.mono hS (fun _ _ => rfl) hL hLθ ⟨o, h⟩ (fun _ _ => rfl)
      · trivial
    · obtain ⟨g1, g2⟩ := huse n o b ho hu
      obtain ⟨g3, g4⟩ := (hlo n o g1).2.2 b g2
      exact ⟨g3, g4, fun hh => hh.2.2 ⟨n, o, g1, g2⟩⟩
    · obtain ⟨g1, g2⟩ := huse n o b ho hu
      obtain ⟨g3, g4⟩ := huse m o' b ho' hu'
      exact hinj n m o o' b g1 g3 hne g2 g4
    · rcases hh with hh | hh
      · have := hown b hh
        obtain ⟨n, o, g1, g2⟩ := this
        exact ⟨.inl ⟨n, o, g1, g2⟩, ((hlo n o g1).2.2 b g2).1⟩
      · exact absurd hh hnf
    · rcases hget n _ ho with ⟨hn, h⟩ | ⟨rfl, e⟩
      · have := (hlo n _ h).1
        simp [inOb] at this
      · cases e
        rw [hθl]; exact hok
  have hwp := sx_wp hΓ hΛ c [] (initG fn lo caps go adm) (ex, s1) rfl h1 0 _ _ _ _ _ _ _ hR
  rw [hJr] at hwp
  refine wpIn_mono hwp ?_
  rintro e a' w' ⟨hi, Am', θ2, hup, hR'⟩
  simp only at hR'
  have hdone : ((leaveV P fn s1).bind fun _ => T.leaf s1.ys).pick = some (hist x k) → LeavesInM (FW none) 0 P fn a'.tmps (fun e w' => ∃ v k, e = .returned v ∧ Stops go x n k ∧ ∃ F', J.J (hist x k) (fun _ => False) F' w') a'.defers .returning w' := fun ho => by
    rw [T.pick_bind] at ho
    obtain ⟨u, ho, hys⟩ := ho
    have hys' : s1.ys = hist x k := Option.some.inj hys
    unfold leaveV at ho
    split at ho
    · rename_i lo1 hlo1
      rw [hR'.df]
      refine marks_leave s1.df hR' hlo1 fun w2 hR2 => ?_
      obtain ⟨v, hv, _⟩ := outV_run (S' := fun _ => True) hR2 (fun _ _ => trivial) (fun _ _ _ _ _ => trivial) ho
      obtain ⟨F2, ⟨hF2, hF20⟩, hj2, hm2⟩ := hR2.jj
      simp only [hys'] at hj2
      exact ⟨v, hv, v, k, rfl, hst, F2, J.closed _ _ _ _ _ _ hj2 rfl rfl rfl (Nat.le_refl _) (fun _ _ _ => rfl) (fun b hb => hb.elim)⟩
    · simp [T.pick] at ho
  cases ex <;> cases e <;> simp only [Ex.is] at hi <;> simp only at h2
  · exact hdone h2
  · simp [T.pick] at h2
  · simp [T.pick] at h2
  · exact hdone h2

/-! ### what is given away -/
def V.gv1 (ns : List Nat) : V → V
  | .own m => if ns.contains m then .any else .own m
  | .ptr m off => if ns.contains m then .any else .ptr m off
  | .ep m sz i j => if ns.contains m then .any else .ep m sz i j
  | .mp m => if ns.contains m then .any else .mp m
  | .yld m => if ns.contains m then .any else .yld m
  | .agg _ => .any
  | .clo _ _ => .any
  | .tup _ => .any
  | v => v
def V.gv (ns : List Nat) : V → V
  | .agg l => .agg (l.map (V.gv1 ns))
  | .clo f l => .clo f (l.map (V.gv1 ns))
  | .tup l => .tup (l.map (V.gv1 ns))
  | v => V.gv1 ns v
def gvOb (ns : List Nat) : Ob → Ob
  | .cells t cs => .cells t (cs.map (V.gv ns))
  | .held tm => .held (tm.map (V.gv ns))
  | o => o
def gvLo (ns : List Nat) : Nat → List (Option Ob) → List (Option Ob)
  | _, [] => []
  | i, o :: l => (if ns.contains i then none else o.map (gvOb ns)) :: gvLo ns (i + 1) l
/-- Without the names ns. -/
def giveS (ns : List Nat) (s : St) : St := { s with tm := s.tm.map (V.gv ns), lo := gvLo ns 0 s.lo }

section
variable {S S' L L' : Nat → Prop} {θ : Th} {w : World} {ns : List Nat}
theorem den_gv1 (hS : ∀ x, S x → S' x) (hL : ∀ m, L m → ns.contains m = false → L' m) {v : V} {u : Value} (h : Den S L θ w v u) : Den S' L' θ w (v.gv1 ns) u := by
  cases h with
  | any v => exact .any _
  | q x v h => exact .q _ _ (h.mono hS (fun _ _ => rfl))
  | kb b => exact .kb b
  | lc ks len get cap a n h => exact .lc _ _ _ _ _ _ (h.mono hS (fun _ _ => rfl))
  | own m ad len cap h e =>
    simp only [V.gv1]
    split
    · exact .any _
    · rename_i e'; exact .own m _ _ _ (hL m h (by simpa using e')) e
  | ptr m off h =>
    simp only [V.gv1]
    split
    · exact .any _
    · rename_i e'; exact .ptr m off (hL m h (by simpa using e'))
  | ep m sz i j h =>
    simp only [V.gv1]
    split
    · exact .any _
    · rename_i e'; exact .ep m sz i j (hL m h (by simpa using e'))
  | mp m h =>
    simp only [V.gv1]
    split
    · exact .any _
    · rename_i e'; exact .mp m (hL m h (by simpa using e'))
  | yld m h =>
    simp only [V.gv1]
    split
    · exact .any _
    · rename_i e'; exact .yld m (hL m h (by simpa using e'))
  | clo f caps vs h => exact .any _
  | agg l vs h => exact .any _
  | tup l vs h => exact .any _
theorem denL_gv1 (hS : ∀ x, S x → S' x) (hL : ∀ m, L m → ns.contains m = false → L' m) : ∀ {l : List V} {us : List Value}, DenL S L θ w l us → DenL S' L' θ w (l.map (V.gv1 ns)) us
  | _, _, .nil => .nil
  | _, _, .cons x v l us h hl => .cons _ _ _ _ (den_gv1 hS hL h) (denL_gv1 hS hL hl)
theorem den_gv (hS : ∀ x, S x → S' x) (hL : ∀ m, L m → ns.contains m = false → L' m) {v : V} {u : Value} (h : Den S L θ w v u) : Den S' L' θ w (v.gv ns) u := by
  cases h with
  | clo f caps vs h => exact .clo _ _ _ (denL_gv1 hS hL h)
  | agg l vs h => exact .agg _ _ (denL_gv1 hS hL h)
  | tup l vs h => exact .tup _ _ (denL_gv1 hS hL h)
  | any v => exact .any _
  | q x v h => exact .q _ _ (h.mono hS (fun _ _ => rfl))
  | kb b => exact .kb b
  | lc ks len get cap a n h => exact .lc _ _ _ _ _ _ (h.mono hS (fun _ _ => rfl))
  | ptr m off h => exact den_gv1 hS hL (.ptr m off h)
  | ep m sz i j h => exact den_gv1 hS hL (.ep m sz i j h)
  | own m ad len cap h e => exact den_gv1 hS hL (.own m ad len cap h e)
  | mp m h => exact den_gv1 hS hL (.mp m h)
  | yld m h => exact den_gv1 hS hL (.yld m h)
theorem denL_gv (hS : ∀ x, S x → S' x) (hL : ∀ m, L m → ns.contains m = false → L' m) : ∀ {l : List V} {us : List Value}, DenL S L θ w l us → DenL S' L' θ w (l.map (V.gv ns)) us
  | _, _, .nil => .nil
  | _, _, .cons x v l us h hl => .cons _ _ _ _ (den_gv hS hL h) (denL_gv hS hL hl)
theorem uses_gv {m : Nat} (o : Ob) (b : Nat) : uses θ m (gvOb ns o) b ↔ uses θ m o b := by cases o <;> exact Iff.rfl
theorem holds_gv (hS : ∀ x, S x → S' x) (hL : ∀ m, L m → ns.contains m = false → L' m) {n : Nat} {o : Ob} (h : Holds S L θ w n o) : Holds S' L' θ w n (gvOb ns o) := by
  cases o with
  | map kk ag vk es =>
    obtain ⟨arr, clk, g1, g2⟩ := h
    exact ⟨arr, clk, g1, g2.mono hS (fun _ _ => rfl)⟩
  | cells t cs =>
    obtain ⟨vs, g1, g2⟩ := h
    exact ⟨vs, g1, denL_gv hS hL g2⟩
  | vec t ks len get =>
    rcases h with g1 | ⟨vs, cap, g1, g2, g3, g4, g5, g6⟩
    · exact .inl g1
    · refine .inr ⟨vs, cap, g1, g2, g3, g4, g5, fun i j q hi hq' => ?_⟩
      obtain ⟨a1, u, a2, a3⟩ := g6 i j q hi hq'
      exact ⟨a1, u, a2, a3.mono hS (fun _ _ => rfl)⟩
  | yl go adm => trivial
  | dfr => exact h
  | deads => trivial
  | raw x => exact h
  | siter b pos => exact h
  | dead => trivial
  | gone => trivial
  | held tm =>
    obtain ⟨us, g1, g2⟩ := h
    exact ⟨us, g1, denL_gv hS hL g2⟩
end
theorem gvLo_len (ns : List Nat) : ∀ (i : Nat) (l : List (Option Ob)), (gvLo ns i l).length = l.length
  | _, [] => rfl
  | i, o :: l => by simp [gvLo, gvLo_len ns (i + 1) l]
theorem gvLo_get (ns : List Nat) : ∀ (l : List (Option Ob)) (i n : Nat) (o : Ob), (gvLo ns i l)[n]? = some (some o) ↔ ns.contains (i + n) = false ∧ ∃ o', l[n]? = some (some o') ∧ o = gvOb ns o'
  | [], i, n, o => by simp [gvLo]
  | x :: l, i, 0, o => by
    simp only [gvLo, List.getElem?_cons_zero, Option.some.injEq, Nat.add_zero]
    cases hc : ns.contains i with
    | true => simp
    | false =>
      cases x with
      | none => simp
      | some y => simp [eq_comm]
  | x :: l, i, n + 1, o => by
    simp only [gvLo, List.getElem?_cons_succ]
    rw [gvLo_get ns l (i + 1) n o, show i + 1 + n = i + (n + 1) by omega]

section
variable [GW] {P : Program} {J : Jt P} {Am Mi : Nat → Prop} {w0 w : World} {s : St} {θ : Th} {a : Act} {ns : List Nat}
/-- The blocks that are given away. -/
def Gvn (s : St) (θ : Th) (ns : List Nat) (b : Nat) : Prop := ∃ n o, ns.contains n = true ∧ s.lo[n]? = some (some o) ∧ uses θ n o b
theorem own_gv (b : Nat) : Own (giveS ns s).lo θ b → Own s.lo θ b := fun ⟨n, o, ho, hu⟩ => by
  obtain ⟨_, o', h1, rfl⟩ := (gvLo_get ns s.lo 0 n o).1 ho
  exact ⟨n, o', h1, (uses_gv o' b).1 hu⟩
theorem AmbF.give {F : Nat → Prop} (h : AmbF J F s.ys s.lo θ Am Mi w0 w) (hlt : ∀ b, Own s.lo θ b → b < w.heap.size) (ham : ∀ b, Am b → b < w.heap.size) (hna : ∀ b, Own s.lo θ b → ¬ Am b) : AmbF J F s.ys (giveS ns s).lo θ (fun b => Am b ∨ Gvn s θ ns b) Mi w0 w where
  am := fun b hf => .inl (h.am b hf)
  f0 := h.f0
  mi := h.mi
  jj := J.closed _ _ _ _ _ _ h.jj rfl rfl rfl (Nat.le_refl _) (fun _ _ _ => rfl) (fun b ⟨hnf, hh⟩ => by
    rcases hh with hh | hh | ⟨n, o, _, ho, hu⟩
    · have := own_gv b hh
      exact ⟨.inl ⟨hnf, .inl this⟩, hlt b this⟩
    · exact ⟨.inl ⟨hnf, .inr hh⟩, ham b hh⟩
    · exact ⟨.inl ⟨hnf, .inl ⟨n, o, ho, hu⟩⟩, hlt b ⟨n, o, ho, hu⟩⟩)
theorem Rep.give (h : Rep J Am Mi w0 s θ a w) (hin : ∀ n, ns.contains n = true → ∃ o, s.lo[n]? = some (some o) ∧ inOb o = true) (hdf : s.df.all (fun d => d.names.all fun m => !(ns.contains m)) = true) :
    Rep J (fun b => Am b ∨ Gvn s θ ns b) Mi w0 (giveS ns s) θ a w := by
  have hget := gvLo_get ns s.lo 0
  have hL : ∀ m, Liv s.lo m → ns.contains m = false → Liv (giveS ns s).lo m := fun m ⟨o, ho⟩ hm => ⟨gvOb ns o, (hget m _).2 ⟨by rw [Nat.zero_add]; exact hm, o, ho, rfl⟩⟩
  have hS : ∀ x, Stab Am s.lo θ w x → Stab (fun b => Am b ∨ Gvn s θ ns b) (giveS ns s).lo θ w x := fun x hx => ⟨hx.1, fun hh => hh.elim hx.2.1 fun ⟨n, o, _, ho, hu⟩ => hx.2.2 n o ho hu, fun m o ho hu => by
    obtain ⟨_, o', h1, rfl⟩ := (hget m o).1 ho
    exact hx.2.2 m o' h1 ((uses_gv o' x).1 hu)⟩
  obtain ⟨F, ⟨hF1, hF2⟩, hj, hmi⟩ := h.jj
  refine ⟨by simp [giveS, h.size], fun i v hv => ?_, fun m o ho => ?_, fun m o x ho hu => ?_, fun m m' o1 o2 x h1 h2 hne hu1 hu2 => ?_, h.mine, h.fr, fun b hb => ?_, (AmbF.give (J := J) (F := F) ⟨hF1, hF2, hj, hmi⟩ (fun b ⟨n, o, ho, hu⟩ => (h.lt n o b ho hu).1) h.am h.own_am).amb, fun m go adm ho => ?_, fun x hx hh => ?_, ⟨h.rr.1, fun l hl => ?_⟩, ⟨h.tt.1, by simp only [giveS, gvLo_len]; exact h.tt.2.1, h.tt.2.2⟩, h.df, fun d hd m hm => ?_⟩
  · simp only [giveS, List.getElem?_map, Option.map_eq_some_iff] at hv
    obtain ⟨x, hx, rfl⟩ := hv
    obtain ⟨u, hu, hd⟩ := h.tm i x hx
    exact ⟨u, hu, den_gv hS hL hd⟩
  · obtain ⟨_, o', h1, rfl⟩ := (hget m o).1 ho
    exact holds_gv hS hL (h.lo m o' h1)
  · obtain ⟨hm, o', h1, rfl⟩ := (hget m o).1 ho
    have hu' := (uses_gv o' x).1 hu
    obtain ⟨g1, g2, g3⟩ := h.lt m o' x h1 hu'
    refine ⟨g1, g2, fun hh => hh.elim g3 fun ⟨n, o2, hn, ho2, hu2⟩ => h.inj n m o2 o' x ho2 h1 (fun e => ?_) hu2 hu'⟩
    subst e
    rw [Nat.zero_add, hn] at hm
    cases hm
  · obtain ⟨_, p1, g1, rfl⟩ := (hget m o1).1 h1
    obtain ⟨_, p2, g2, rfl⟩ := (hget m' o2).1 h2
    exact h.inj m m' p1 p2 x g1 g2 hne ((uses_gv p1 x).1 hu1) ((uses_gv p2 x).1 hu2)
  · exact hb.elim (h.am b) fun ⟨n, o, _, ho, hu⟩ => (h.lt n o b ho hu).1
  · obtain ⟨_, o', h1, e⟩ := (hget m _).1 ho
    have : o' = .yl go adm := by cases o' <;> simp [gvOb] at e; obtain ⟨rfl, rfl⟩ := e; rfl
    subst this
    exact h.yy m go adm h1
  · exact hh.elim (h.ga x hx) fun ⟨n, o, _, ho, hu⟩ => h.fr.gl.1 x hx (h.lt n o _ ho hu).2.1
  · obtain ⟨m, x, hx, hb⟩ := h.rr.2 l hl
    have hm : ns.contains m = false := by
      cases hc : ns.contains m with
      | false => rfl
      | true =>
        obtain ⟨o, ho, hi⟩ := hin m hc
        rw [hx] at ho
        cases ho
        simp [inOb] at hi
    exact ⟨m, x, (hget m _).2 ⟨by rw [Nat.zero_add]; exact hm, _, hx, rfl⟩, hb⟩
  · have := List.all_eq_true.1 (List.all_eq_true.1 hdf d hd) m hm
    exact hL m (h.dfl d hd m hm) (by simpa using this)
end
end Go.SX

/- The range over a function that is given what its value leads to: the rule. -/
namespace Go.SX
open Go.RowKit
set_option linter.unusedVariables false
set_option linter.unusedSimpArgs false
set_option linter.unusedSectionVars false

theorem alloc_below (w : World) (o : Obj) {b : Nat} (h : b < w.heap.size) : (w.alloc o).heap[b]? = w.heap[b]? := by
  show (w.heap.push o)[b]? = _
  rw [Array.getElem?_push, if_neg (by omega)]

section
variable [GW] {P : Program} {Γ : Gam} {Λ : Lam} {root : Code}

theorem range_coreG (hΓ : GOK P Γ) (hΛ : LamOK P root Λ) {p : List Nat} {g : Operand} {ps : Array Nat} {assign body : Code} (hc : codeAt root p = some (.rangeFunc g ps assign body))
    {J : Jt P} {Am Mi : Nat → Prop} {w0 w w1 : World} {s : St} {θ θ1 : Th} {a : Act} {f : Nat} {caps : List V} {los : List (Option Ob)} {ns : List Nat} {sp : List (Option Ob) → List V → T (Nat × (Nat → List V))} {nn : Nat} {x : Nat → List V} {LL : Nat → List (Option Ob)} {YY : Nat → List (List V)} {E : Nat → Ex} {m : Nat} {e : Ex} {d : Option Ob} {rec : Loop} {l : Nat} {mark : List Deferred} {fn : FuncId} {k : Nat}
    (hg : ev s g = .clo f caps) (hlos : lends s.lo (ixOf ns) ns = some los) (hnd : nodupA ns = true) (hit : IterG P f sp) (hsp : (sp los (caps.map (V.rt (ixOf ns)))).pick = some (nn, x))
    (H : Rounds P Γ Λ p assign body ps.toList (giveS ns s) d ((giveS ns s).tm.map fun _ => .any) LL YY x nn E) (hL0 : LL 0 = (giveS ns s).lo) (hY0 : YY 0 = s.ys) (hE : Ends E nn m e) (hk : keepsR (giveS ns s).lo (LL m)) (hlv : ∀ d ∈ s.df, ∀ n ∈ d.names, Liv (LL m) n)
    (hr0 : Rep J Am Mi w0 s θ a w) (h0 : Rep J (fun b => Am b ∨ Gvn s θ ns b) Mi w0 (giveS ns s) θ a w) (h1 : Rep J (fun b => Am b ∨ Gvn s θ ns b) Mi w0 { giveS ns s with lo := (midS (giveS ns s) (giveS ns s).lo s.ys d rec []).lo } θ1 a w1) (hF0 : ∀ b, J.F0 b → Am b)
    (hbl : (θ1 ((giveS ns s).lo.length + 2)).blk = l) (hsl : (θ1 (giveS ns s).lo.length).sl = .tuple a.tmps) (hθ1 : ∀ n, n < (giveS ns s).lo.length → θ1 n = θ n)
    (hown1 : ∀ b, Own (midS (giveS ns s) (giveS ns s).lo s.ys d rec []).lo θ1 b → Own (giveS ns s).lo θ b ∨ w.heap.size ≤ b) (hw1 : w.heap.size ≤ w1.heap.size ∧ ∀ b, b < w.heap.size → w1.heap[b]? = w.heap[b]?)
    (hrec : rec.state = .ready ∧ rec.pending = none ∧ rec.fn = fn ∧ rec.tmps = a.tmps ∧ rec.params = ps ∧ rec.assign = assign ∧ rec.body = body)
    (hd : d = if s.inr then none else some .dfr) (hmark : mark = if s.inr then [] else Df.den θ1 (.mark ((giveS ns s).lo.length + 1))) (hlr : ∀ l', J.r = some l' → l ≠ l')
    (he : (Instr.enterLoop fn a.tmps ps assign body J.r).run P w = .ok (l, mark) w1) :
    ∃ (l : Nat) (mark : List Deferred) (w₁ : World) (d : Deferred) (w₁' : World) (f : FuncId) (args : Array Value) (w₂ : World),
      (Instr.enterLoop fn a.tmps ps assign body J.r).run P w = .ok (l, mark) w₁ ∧
      (resolve a.eval (rangeCall g l) 0).run P w₁ = .ok d w₁' ∧
      (∀ f', Target.leads P w₁' d.target d.args = some f' → (FW J.r).fn f') ∧
      (invoke d.target d.args).run P w₁' = .ok (.enter f args) w₂ ∧
      ((FW J.r).depth.isSome = true → 1 ≤ k) ∧
      CallsIn (FW J.r) (k - 1) P f args w₂ (rangePost (FW J.r) k P l (PostC J Am Mi w0 (e, outS (giveS ns s) (LL m) (YY m))) { a with defers := mark ++ a.defers }) := by
  have hev := hr0.ev g
  rw [hg] at hev
  obtain ⟨cvals, hcv, hden⟩ : ∃ cvals : List Value, a.eval g = .func (.func f) #[] cvals.toArray ∧ DenL (Stab Am s.lo θ w) (Liv s.lo) θ w caps cvals := by
    generalize a.eval g = z at hev
    cases hev with
    | clo f l vs hl => exact ⟨vs, rfl, hl⟩
  refine ⟨l, mark, w1, { target := .fn (.func f) cvals.toArray, args := #[.func (.yield l) #[] #[]] }, w1, f, #[.func (.yield l) #[] #[]] ++ cvals.toArray, w1, he, ?_, fun _ _ => trivial, ?_, fun h => by simp at h, ?_⟩
  · have hr : resolve a.eval (rangeCall g l) 0 = Deferred.ofValue (a.eval g) #[.func (.yield l) #[] #[]] := by
      generalize hz : a.eval g = z
      simp only [resolve, rangeCall, hz]
      simp [Act.eval]
    rw [hr, hcv]
    simp [Deferred.ofValue]
  · simp only [invoke]
    exact run_enters hit.1 _ w1
  obtain ⟨r1, r2, r3, r4, r5, r6, r7⟩ := hrec
  -- what is given, one by one
  obtain ⟨hlen, hget⟩ := lends_get hlos
  have hinjn := nodupA_inj hnd
  have hlo : ∀ (j : Nat) (o : Ob), los[j]? = some (some o) → ∃ n o', ns[j]? = some n ∧ s.lo[n]? = some (some o') ∧ inOb o' = true ∧ o = o'.rt (ixOf ns) := fun j o hj => by
    have hjl : j < ns.length := by rw [← hlen]; exact (List.getElem?_eq_some_iff.1 hj).1
    obtain ⟨o', h1, h2, h3⟩ := hget j _ (List.getElem?_eq_getElem hjl)
    rw [h3] at hj
    cases hj
    exact ⟨_, o', List.getElem?_eq_getElem hjl, h1, h2, rfl⟩
  have hθl : ∀ (j n : Nat), ns[j]? = some n → (fun j => θ (ns.getD j 0)) j = θ n := fun j n hj => by simp [List.getD_eq_getElem?_getD, hj]
  have hρ : ∀ n m, Liv s.lo n → ixOf ns n = some m → Liv los m ∧ (fun j => θ (ns.getD j 0)) m = θ n := fun n m hn hm => by
    have h1 := ixOf_some hm
    obtain ⟨o', h2, h3, h4⟩ := hget m n h1
    exact ⟨⟨_, h4⟩, hθl m n h1⟩
  have huse : ∀ (j n : Nat) (o' : Ob) (b : Nat), ns[j]? = some n → (uses (fun j => θ (ns.getD j 0)) j (o'.rt (ixOf ns)) b ↔ uses θ n o' b) := fun j n o' b hj => uses_rt (hθl j n hj) o' b
  have hG : ∀ b, Own los (fun j => θ (ns.getD j 0)) b → Gvn s θ ns b := fun b ⟨j, o, ho, hu⟩ => by
    obtain ⟨n, o', g1, g2, _, rfl⟩ := hlo j o ho
    exact ⟨n, o', by simpa using List.mem_of_getElem? g1, g2, (huse j n o' b g1).1 hu⟩
  have hGlt : ∀ b, Gvn s θ ns b → b < w.heap.size ∧ Mi b ∧ ¬ Am b := fun b ⟨n, o, _, ho, hu⟩ => hr0.lt n o b ho hu
  have hS1 : ∀ b, Stab Am s.lo θ w b → Stab (fun b => Am b ∨ Gvn s θ ns b) (midS (giveS ns s) (giveS ns s).lo s.ys d rec []).lo θ1 w1 b := fun b hb => ⟨Nat.lt_of_lt_of_le hb.1 hw1.1, fun hh => hh.elim hb.2.1 fun ⟨n, o, _, ho, hu⟩ => hb.2.2 n o ho hu, fun n o ho hu => by
    rcases hown1 b ⟨n, o, ho, hu⟩ with h2 | h2
    · obtain ⟨n', o', g1, g2⟩ := own_gv b h2
      exact hb.2.2 n' o' g1 g2
    · have := hb.1; omega⟩
  have hwS : ∀ b, Stab Am s.lo θ w b → w1.heap[b]? = w.heap[b]? := fun b hb => hw1.2 b hb.1
  have hR1 : Rep (J.at l ((giveS ns s).lo.length + 3) θ1) (fun b => Am b ∨ Gvn s θ ns b) Mi w0 (midS (giveS ns s) (LL 0) (YY 0) d (recs rec E 0) ((giveS ns s).tm.map fun _ => .any)) θ1 { tmps := a.tmps, defers := [] } w1 := by
    rw [hL0, hY0]
    have h2 : Rep J (fun b => Am b ∨ Gvn s θ ns b) Mi w0 { giveS ns s with lo := (midS (giveS ns s) (giveS ns s).lo s.ys d rec []).lo } θ1 a w1 := h1
    refine h2.toRound ⟨(giveS ns s).lo.length + 2, rec, mid_raw (Y := s.ys) (tm := []) (Nat.le_refl _), hbl⟩ (by rw [mid_self]; simp) (by simp [h0.size]) (fun i v hv => ?_)
    simp only [List.getElem?_map, Option.map_eq_some_iff] at hv
    obtain ⟨y, hy, rfl⟩ := hv
    have hi : i < a.tmps.size := by rw [h0.size]; exact (List.getElem?_eq_some_iff.1 hy).1
    exact ⟨a.tmps[i], by simp, .any _⟩
  -- what a yield may turn: nothing that is given
  obtain ⟨F1, ⟨hF1, hF2⟩, hj, hmi⟩ := hR1.jj
  have hFx : ∃ F : Nat → Prop, (∀ b, F b → ¬ Gvn s θ ns b) ∧ AmbF (J.at l ((giveS ns s).lo.length + 3) θ1) F (YY 0) (midS (giveS ns s) (LL 0) (YY 0) d (recs rec E 0) ((giveS ns s).tm.map fun _ => .any)).lo θ1 (fun b => Am b ∨ Gvn s θ ns b) Mi w0 w1 := by
    obtain ⟨F, ⟨gF1, gF2⟩, gj, gmi⟩ := hr0.jj
    refine ⟨F, fun b hf hg => (hGlt b hg).2.2 (gF1 b hf), ⟨fun b hf => .inl (gF1 b hf), gF2, ?_, gmi⟩⟩
    rw [hL0, hY0]
    have hsame : ∀ b, b < w.heap.size → w1.heap[b]? = w.heap[b]? := hw1.2
    refine J.closed _ _ _ _ _ _ gj (h1.fr.os.trans hr0.fr.os.symm) (h1.fr.tape.trans hr0.fr.tape.symm) (h1.fr.output.trans hr0.fr.output.symm) hw1.1 (fun b hlt _ => hsame b hlt) (fun b ⟨hnf, hh⟩ => ?_)
    rcases hh with hh | hh | hh
    · rcases hown1 b hh with h2 | h2
      · exact ⟨.inl ⟨hnf, .inl (own_gv b h2)⟩, by obtain ⟨n, o, ho, hu⟩ := hh; exact (h1.lt n o b ho hu).1⟩
      · exact ⟨.inr h2, by obtain ⟨n, o, ho, hu⟩ := hh; exact (h1.lt n o b ho hu).1⟩
    · exact ⟨.inl ⟨hnf, .inr hh⟩, Nat.lt_of_lt_of_le (hr0.am b hh) hw1.1⟩
    · obtain ⟨n, o, _, ho, hu⟩ := hh
      exact ⟨.inl ⟨hnf, .inl ⟨n, o, ho, hu⟩⟩, Nat.lt_of_lt_of_le (hr0.lt n o b ho hu).1 hw1.1⟩
  clear hF1 hF2 hj hmi F1
  obtain ⟨F, hFG, hF⟩ := hFx
  let S1 : Nat → Prop := Stab (fun b => Am b ∨ Gvn s θ ns b) (midS (giveS ns s) (giveS ns s).lo s.ys d rec []).lo θ1 w1
  let JI : Jt P := {
    J := JP (J.at l ((giveS ns s).lo.length + 3) θ1) (giveS ns s) d ((giveS ns s).tm.map fun _ => .any) LL YY (recs rec E) x nn Am Mi w0 w1.heap.size (Gvn s θ ns)
    closed := JP.closed (fun b hb => Nat.lt_of_lt_of_le (hr0.am b hb) hw1.1) h1.fr.size (fun b hb => (hGlt b hb).2)
    r := none
    F0 := fun b => b < w1.heap.size ∧ ¬ S1 b ∧ ¬ Own los (fun j => θ (ns.getD j 0)) b
    hN := 0
    th := th0
    ok := fun l' go adm => l' = l ∧ go = (fun hh => isNormal (E (hh.length - 1))) ∧ ∀ hh args, adm hh args = true → ∃ k, k < nn ∧ hh = hist x k ∧ args = x k ∧ ∀ j, j < k → isNormal (E j) = true
    yok := fun l' go adm hok => by
      obtain ⟨rfl, rfl, hadm⟩ := hok
      intro h O Fo w args vals hJ hgl had hOF hFs hdn
      have := JP.yok (fn := fn) (tmps0 := a.tmps) (l := l') hΓ hΛ hc rfl rfl hsl hbl H (fun k hn => by
        obtain ⟨q1, q2, q3, q4, q5, q6, q7⟩ := recs_ok rec E r1 r2 k hn
        exact ⟨q1, q2, q3.trans r3, q4.trans r4, q5.trans r5, q6.trans r6, q7.trans r7⟩) (fun k => rfl) h O Fo w args vals hJ hgl (hadm _ _ had) hOF hFs hdn
      simpa using this }
  have hgl1 : ∀ g ∈ GW.gl, S1 g.1 := h1.glS
  have hcall := hit.2 JI S1 w1 (fun j => θ (ns.getD j 0)) los (caps.map (V.rt (ixOf ns))) cvals l (fun hh => isNormal (E (hh.length - 1)))
    (fun hh args => @decide (∃ k, k < nn ∧ hh = hist x k ∧ args = x k ∧ ∀ j, j < k → isNormal (E j) = true) (Classical.propDecidable _)) nn x (fun b hb => hb.1) h1.fr.glw hgl1
    (fun j o hj => by
      obtain ⟨n, o', g1, g2, g3, rfl⟩ := hlo j o hj
      refine ⟨by cases o' <;> simp [inOb, Ob.rt] at g3 ⊢, ?_, fun b hb => ?_⟩
      · have hH := holds_rt (S := Stab Am s.lo θ w) (S' := Stab Am s.lo θ w) (fun _ x => x) hρ (inOut g3) (hθl j n g1) (hr0.lo n o' g2)
        exact hH.mono hS1 hwS (fun _ x => x) (fun _ _ => rfl) ⟨_, hj⟩ (fun b hu => hw1.2 b (hr0.lt n o' b g2 ((huse j n o' b g1).1 hu)).1)
      · have hb' := (huse j n o' b g1).1 hb
        refine ⟨Nat.lt_of_lt_of_le (hr0.lt n o' b g2 hb').1 hw1.1, fun hst => hst.2.1 (.inr ⟨n, o', by simpa using List.mem_of_getElem? g1, g2, hb'⟩)⟩)
    (fun i j o1 o2 b hi hj hne hu1 hu2 => by
      obtain ⟨n1, p1, a1, a2, a3, rfl⟩ := hlo i o1 hi
      obtain ⟨n2, p2, b1, b2, b3, rfl⟩ := hlo j o2 hj
      exact hr0.inj n1 n2 p1 p2 b a2 b2 (fun e => hne (hinjn i j n1 a1 (e ▸ b1))) ((huse i n1 p1 b a1).1 hu1) ((huse j n2 p2 b b1).1 hu2))
    ((denL_rt (fun _ x => x) hρ hden).mono hS1 hwS (fun _ x => x) (fun _ _ => rfl)) hsp
    ⟨rfl, rfl, fun hh args h => by simpa using h⟩ rfl rfl (fun b => Iff.rfl)
    ⟨0, _, F, θ1, _, rfl, Nat.zero_le _, Nat.le_refl _, fun _ h => .inl h, hR1, hF, fun b hb => ⟨.inr (hG b hb), fun hf => hFG b hf (hG b hb), .inr (hG b hb)⟩, fun b hb => ?_, fun g hg hh => hh.2.1 (hgl1 g hg)⟩
    (fun k hk hn => by
      simp only [decide_eq_true_eq]
      exact ⟨k, hk, rfl, rfl, fun j hj => by simpa [hist_length] using hn j hj⟩)
  · refine callsIn_FW (hcall.mono ?_)
    rintro e' w' ⟨v, k', rfl, hst, F', k2, Am', F2, θ', a', hh, hk2, hB, hA, hR', -⟩
    have hkk : k' = k2 := by have := congrArg List.length hh; simpa [hist_length] using this
    subst hkk
    have hkm := ends_stops hE hst
    subst hkm
    have hb' : (θ' ((giveS ns s).lo.length + 2)).blk = l := by rw [hR'.tt.2.2 _ (show (giveS ns s).lo.length + 2 < (giveS ns s).lo.length + 3 by omega)]; exact hbl
    have hrec' : w'.heap[l]? = some (.loop (recs rec E k')) := by
      have := hR'.lo ((giveS ns s).lo.length + 2) (.raw (.loop (recs rec E k'))) (mid_raw (H.len k'))
      simp only [Holds, hb'] at this
      exact this
    have hA1 := h0.exitA hR' (H.len k') hθ1 hsl hk hlv hd hmark
    have hB1 := fun rec' => hA1.exitB (s := giveS ns s) hd (H.len k') hb' hlr rec'
    refine ⟨_, _, run_endLoop hrec' (recs_busy rec E r1 k'), ?_⟩
    have hpost : ∀ (rec' : Loop) x, e.is x → PostC J Am Mi w0 (e, outS (giveS ns s) (LL k') (YY k')) x { a with defers := mark ++ a.defers } (w'.putObj l (.loop rec')) := fun rec' x hx => ⟨hx, Am', θ', hA, hB1 _⟩
    rw [ends_normal hE rec r1 r2]
    cases hx : exCode e with
    | none =>
      cases e <;> simp [exCode] at hx
      exact hpost _ .normal trivial
    | some c => exact goto_wp e hx (hpost _)
  · by_cases ho : Own los (fun j => θ (ns.getD j 0)) b
    · exact .inr ho
    · refine .inl ⟨?_, fun hS => ?_, ho⟩
      · rcases hb with hb | ⟨n, o, ho, hu⟩
        · exact h1.am b hb
        · exact (hR1.lt n o b ho hu).1
      · rcases hb with hb | ⟨n, o, ho, hu⟩
        · exact hS.2.1 hb
        · exact hS.2.2 n o (by rw [hL0, hY0] at ho; exact ho) hu

theorem gvn_in {ns : List Nat} {lo los : List (Option Ob)} (h : lends lo (ixOf ns) ns = some los) : ∀ n, ns.contains n = true → ∃ o, lo[n]? = some (some o) ∧ inOb o = true := fun n hn => by
  obtain ⟨j, hj⟩ := List.mem_iff_getElem?.1 (show n ∈ ns by simpa using hn)
  obtain ⟨o, h1, h2, _⟩ := (lends_get h).2 j n hj
  exact ⟨o, h1, h2⟩

/-- **A range over a function** that is given, for good, what its value leads to. -/
theorem sem_rangeG (hΓ : GOK P Γ) (hΛ : LamOK P root Λ) {p : List Nat} {g : Operand} {ps : Array Nat} {assign body : Code} (hc : codeAt root p = some (.rangeFunc g ps assign body))
    {s : St} {f : Nat} {caps : List V} {los : List (Option Ob)} {ns : List Nat} {sp : List (Option Ob) → List V → T (Nat × (Nat → List V))} {nn : Nat} {x : Nat → List V} {LL : Nat → List (Option Ob)} {YY : Nat → List (List V)} {E : Nat → Ex} {m : Nat} {e : Ex}
    (hg : ev s g = .clo f caps) (hlos : lends s.lo (ixOf ns) ns = some los) (hnd : nodupA ns = true) (hdf : s.df.all (fun d => d.names.all fun m => !(ns.contains m)) = true) (hit : IterG P f sp) (hsp : (sp los (caps.map (V.rt (ixOf ns)))).pick = some (nn, x))
    (H : Rounds P Γ Λ p assign body ps.toList (giveS ns s) (if s.inr then none else some .dfr) ((giveS ns s).tm.map fun _ => .any) LL YY x nn E) (hL0 : LL 0 = (giveS ns s).lo) (hY0 : YY 0 = s.ys) (hE : Ends E nn m e) (hk : keepsR (giveS ns s).lo (LL m)) (hlv : ∀ d ∈ s.df, ∀ n ∈ d.names, Liv (LL m) n) :
    SemC P (.rangeFunc g ps assign body) s (e, outS (giveS ns s) (LL m) (YY m)) := by
  intro k J Am Mi w0 θ a w hr0
  have h0 := hr0.give (ns := ns) (gvn_in hlos) hdf
  have hF0 : ∀ b, J.F0 b → Am b := by
    obtain ⟨F, ⟨h1, h2⟩, _⟩ := hr0.jj
    exact fun b hb => h1 b (h2 b hb)
  refine wpIn_rangeFunc fun fn _ => ?_
  by_cases hi : s.inr = true
  · have hj : J.r.isSome = true := by rw [← hr0.rr.1]; exact hi
    obtain ⟨l0, hl0⟩ := Option.isSome_iff_exists.1 hj
    obtain ⟨n, y, hy, hb⟩ := hr0.rr.2 l0 hl0
    have hrec0 : w.heap[l0]? = some (.loop y) := by
      have := hr0.lo n _ hy
      simp only [Holds, hb] at this
      exact this
    obtain ⟨θ1, e1, e2, e3, e4, hR⟩ := h0.enterI { state := .ready, pending := none, fn, tmps := a.tmps, params := ps, assign, body, defers := y.defers }
    have he := run_enterLoop_inner (P := P) hrec0 fn a.tmps ps assign body
    rw [← hl0] at he
    have hd : (if s.inr = true then (none : Option Ob) else some .dfr) = none := by rw [if_pos hi]
    rw [hd] at H
    exact range_coreG hΓ hΛ hc hg hlos hnd hit hsp H hL0 hY0 hE hk hlv hr0 h0 hR hF0 e1 e2 e3 e4 ⟨by simp, fun b hb => alloc_below _ _ hb⟩ ⟨rfl, rfl, rfl, rfl, rfl, rfl, rfl⟩ hd.symm (by rw [if_pos hi]) (fun l' hl' hh => by
      have h2 := (Array.getElem?_eq_some_iff.1 hrec0).1
      rw [hl0] at hl'
      cases hl'
      omega) he
  · have hi' : s.inr = false := by simpa using hi
    have hj : J.r = none := by
      have := hr0.rr.1
      rw [hi'] at this
      cases hh : J.r with
      | none => rfl
      | some l => rw [hh] at this; cases this
    obtain ⟨θ1, e0, e1, e2, e3, e4, hR⟩ := h0.enterO { state := .ready, pending := none, fn, tmps := a.tmps, params := ps, assign, body, defers := w.heap.size }
    have he := run_enterLoop_outer (P := P) (w := w) fn a.tmps ps assign body
    rw [← hj] at he
    have hd : (if s.inr = true then (none : Option Ob) else some .dfr) = some .dfr := by rw [if_neg hi]
    rw [hd] at H
    exact range_coreG hΓ hΛ hc hg hlos hnd hit hsp H hL0 hY0 hE hk hlv hr0 h0 hR hF0 e1 e2 e3 e4 ⟨by simp; omega, fun b hb => (alloc_below _ _ (by simp; omega)).trans (alloc_below _ _ hb)⟩ ⟨rfl, rfl, rfl, rfl, rfl, rfl, rfl⟩ hd.symm (by rw [if_neg hi]; simp [Df.den, e0]) (fun l' hl' hh => by rw [hj] at hl'; cases hl') he
end
end Go.SX

/- errors.As at wrap's own kind (its number, and what is beneath) of error: what told says of it. -/
namespace Go.Proofs.YthmlbmambcigcaaGreatDoor.AsWrap
open Go Go.RowKit Go.Extern.Stop Go.Stop Go.Extern
set_option linter.unusedVariables false
set_option linter.unusedSimpArgs false

abbrev R : Nat := 193
abbrev E : Nat := 114
abbrev PE : Nat := 116
abbrev VT : Nat := 147
abbrev ER : Nat := 70
abbrev hd (t : Nat) : Value := .pointer (some ⟨3, t, none⟩)

theorem valueOfP (t : Addr) (w : World) : (ReflectliteValue.unpack (.iface PE (.pointer (some t)))).run Tryz.prog w
    = .ok (.agg #[hd PE, .pointer (some ⟨w.heap.size, 0, none⟩), .int .u64 150]) (w.alloc (.cells #[.pointer (some t)] PE)) := by kernel_rfl
theorem typeP (a : Addr) (w : World) : (ReflectliteValue.methodAny (ReflectliteValue.valueError "reflectlite.Value.Type" 0) (fun t _ _ _ => ReflectliteType.toType t) #[.agg #[hd PE, .pointer (some a), .int .u64 150]]).run Tryz.prog w
    = .ok (.iface R (.agg #[hd PE])) w := by kernel_rfl
theorem methodKind (d : Nat) (h : Value) (w : World) : (Go.method (d + 60) R (.agg #[h]) "Kind").run Tryz.prog w = .ok (149, h) w := by kernel_rfl
theorem kindP (w : World) : ((ReflectliteType.abiMethod fun t => (fun a : Nat => Value.int IntKind.u8 (a : Int)) <$> Rtype.kind t) #[hd PE]).run Tryz.prog w = .ok (.int .u8 22) w := by kernel_rfl
theorem kindE (w : World) : ((ReflectliteType.abiMethod fun t => (fun a : Nat => Value.int IntKind.u8 (a : Int)) <$> Rtype.kind t) #[hd E]).run Tryz.prog w = .ok (.int .u8 25) w := by kernel_rfl
theorem rlm (z : Sem Value) (f : TypeId → Addr → Nat → Nat → Sem Value) (v : Value) :
    ReflectliteValue.method z f #[v] = (do match ← ReflectliteValue.parts v with | none => z | some (t, a, fl) => f t a fl (fl % 32)) := rfl
theorem partsP (a : Addr) (w : World) : (ReflectliteValue.parts (.agg #[hd PE, .pointer (some a), .int .u64 150])).run Tryz.prog w = .ok (some (PE, a, 150)) w := by kernel_rfl
theorem undP : Tryz.prog.underlying PE = some (.pointer E) := by kernel_rfl
theorem isNilP (a p : Addr) (W : World) (ha : W.cell? a = some (.pointer (some p))) :
    (ReflectliteValue.method (ReflectliteValue.valueError "reflectlite.Value.IsNil" 0) ReflectliteValue.isNil #[.agg #[hd PE, .pointer (some a), .int .u64 150]]).run Tryz.prog W = .ok (.bool false) W := by
  rw [rlm]
  simp only [Sem.run_bind, partsP, Result.andThen]
  simp [ReflectliteValue.isNil, loadVar, isAgg, underlying, undP, ha, Result.andThen]
theorem methodElem (d : Nat) (h : Value) (w : World) : (Go.method (d + 60) R (.agg #[h]) "Elem").run Tryz.prog w = .ok (163, .agg #[h]) w := by kernel_rfl
theorem methodImplements (d : Nat) (h : Value) (w : World) : (Go.method (d + 60) R (.agg #[h]) "Implements").run Tryz.prog w = .ok (164, .agg #[h]) w := by kernel_rfl
theorem methodAssignableTo (d : Nat) (h : Value) (w : World) : (Go.method (d + 60) R (.agg #[h]) "AssignableTo").run Tryz.prog w = .ok (161, .agg #[h]) w := by kernel_rfl
theorem elemT (w : World) : (ReflectliteType.method ReflectliteType.elem #[.agg #[hd PE]]).run Tryz.prog w = .ok (.iface R (.agg #[hd E])) w := by kernel_rfl
theorem implE (w : World) : (ReflectliteType.relation "Implements" ReflectliteType.implements_ #[.agg #[hd E], .iface R (.agg #[hd ER])]).run Tryz.prog w = .ok (.bool true) w := by kernel_rfl
theorem typeOfE (v : Value) (w : World) : (ReflectliteType.typeOf #[.iface E v]).run Tryz.prog w = .ok (.iface R (.agg #[hd E])) w := by kernel_rfl
theorem assignE (w : World) : (ReflectliteType.relation "AssignableTo" ReflectliteType.assignableTo #[.agg #[hd E], .iface R (.agg #[hd E])]).run Tryz.prog w = .ok (.bool true) w := by kernel_rfl
abbrev und (p : Addr) : Value := .iface 236 (.pointer (some p))
theorem valueOfE (e : Int) (p : Addr) (w : World) : (ReflectliteValue.unpack (.iface E (.agg #[.int .i64 e, und p]))).run Tryz.prog w
    = .ok (.agg #[hd E, .pointer (some ⟨w.heap.size, 0, none⟩), .int .u64 153]) (w.alloc (.cells #[.int .i64 e, und p] E)) := by kernel_rfl
theorem elemOfP (w : World) : (Rtype.elem? PE).run Tryz.prog w = .ok (some E) w := by kernel_rfl
theorem mkE (p : Addr) (w : World) : (ReflectliteValue.mk E p ReflectliteValue.flagAddr).run Tryz.prog w = .ok (.agg #[hd E, .pointer (some p), .int .u64 409]) w := by kernel_rfl
theorem elemV (a p : Addr) (W : World) (ha : W.cell? a = some (.pointer (some p))) :
    (ReflectliteValue.method (ReflectliteValue.valueError "reflectlite.Value.Elem" 0) ReflectliteValue.elem #[.agg #[hd PE, .pointer (some a), .int .u64 150]]).run Tryz.prog W
      = .ok (.agg #[hd E, .pointer (some p), .int .u64 409]) W := by
  rw [rlm]
  simp only [Sem.run_bind, partsP, Result.andThen]
  simp [ReflectliteValue.elem, loadVar, isAgg, underlying, undP, ha, Result.andThen, elemOfP, mkE]
theorem rls (v x : Value) : ReflectliteValue.set #[v, x] = (do
    let (some (dst, a, fl), some (src, b, _)) := (← ReflectliteValue.parts v, ← ReflectliteValue.parts x)
      | unsupported (.noEntry "extern/(internal/reflectlite.Value).Set.zeroValue")
    if fl / ReflectliteValue.flagAddr % 2 == 0 then unsupported (.noEntry "extern/(internal/reflectlite.Value).Set.unaddressable")
    let val ← loadVar src b
    if ← Rtype.directlyAssignable dst src then storeVar dst a val
    else if ← Rtype.implements dst src then
      if (← Rtype.kind src) == 20 then
        match val with
        | .nilIface => unsupported (.noEntry "extern/reflectlite: a nil value of one interface type handed on as a value of another")
        | _ => storeVar dst a val
      else storeVar dst a (.iface src val)
    else panicString ("reflectlite.Set: value of type " ++ (← Rtype.spelt src) ++ " is not assignable to type " ++ (← Rtype.spelt dst))
    pure (.tuple #[])) := rfl
theorem partsEa (a : Addr) (w : World) : (ReflectliteValue.parts (.agg #[hd E, .pointer (some a), .int .u64 409])).run Tryz.prog w = .ok (some (E, a, 409)) w := by kernel_rfl
theorem partsE (a : Addr) (w : World) : (ReflectliteValue.parts (.agg #[hd E, .pointer (some a), .int .u64 153])).run Tryz.prog w = .ok (some (E, a, 153)) w := by kernel_rfl
theorem directE (w : World) : (Rtype.directlyAssignable E E).run Tryz.prog w = .ok true w := by kernel_rfl
theorem sizeE (w : World) : (sizeOf E).run Tryz.prog w = .ok 2 w := by kernel_rfl
theorem undE : (Tryz.prog.underlying E).map (fun d => match d with | .struct _ => true | _ => false) = some true := by kernel_rfl
theorem isAggE (w : World) : (isAgg E).run Tryz.prog w = .ok true w := by kernel_rfl
theorem loadE (b : Nat) (e : Int) (p : Addr) (W : World) (hb : W.cell? ⟨b, 0, none⟩ = some (.int .i64 e)) (hb1 : W.cell? ⟨b, 1, none⟩ = some (und p)) : (loadVar E ⟨b, 0, none⟩).run Tryz.prog W = .ok (.agg #[.int .i64 e, und p]) W := by
  simp [loadVar, isAggE, sizeE, Result.andThen, loadCells, loadCellsFrom, Addr.add, hb, hb1]
/-- (Value).Set: the variable at 'ta' gets what the Value's own variable 'b' holds. -/
theorem setE (ta b : Nat) (e : Int) (p : Addr) (old old1 : Value) (W : World) (hb : W.cell? ⟨b, 0, none⟩ = some (.int .i64 e)) (hb1 : W.cell? ⟨b, 1, none⟩ = some (und p)) (ht : W.cell? ⟨ta, 0, none⟩ = some old) (ht1 : W.cell? ⟨ta, 1, none⟩ = some old1) (hf : W.frozen? ⟨ta, 0, none⟩ = false) (hf1 : W.frozen? ⟨ta, 1, none⟩ = false) :
    (ReflectliteValue.set #[.agg #[hd E, .pointer (some ⟨ta, 0, none⟩), .int .u64 409], .agg #[hd E, .pointer (some ⟨b, 0, none⟩), .int .u64 153]]).run Tryz.prog W
      = .ok (.tuple #[]) ((W.setCell ⟨ta, 0, none⟩ (.int .i64 e)).setCell ⟨ta, 1, none⟩ (und p)) := by
  rw [rls]
  simp only [Sem.run_bind, partsEa, partsE, Result.andThen]
  have h1 : (W.setCell ⟨ta, 0, none⟩ (.int .i64 e)).cell? ⟨ta, 1, none⟩ = some old1 := by
    simp only [World.cell?, World.setCell, Array.getElem?_modify] at ht1 ⊢
    split at ht1 <;> simp_all
  have h2 : (W.setCell ⟨ta, 0, none⟩ (.int .i64 e)).frozen? ⟨ta, 1, none⟩ = false := by
    cases hh : W.heap[ta]? with
    | none => simp [World.frozen?, World.setCell, Array.getElem?_modify, hh]
    | some o => cases o <;> simp_all [World.frozen?, World.setCell, Array.getElem?_modify]
  simp [ReflectliteValue.flagAddr, loadE _ _ _ _ hb hb1, Result.andThen, directE, storeVar, Value.cells, storeCells, Addr.add, sizeE]
  rw [run_store Tryz.prog W ⟨ta, 0, none⟩ _ _ (by rfl)]
  simp [ht, hf]
  rw [run_store Tryz.prog _ ⟨ta, 1, none⟩ _ _ (by rfl)]
  simp [h1, h2]

theorem as_nil (t : Value) (w : World) :
    Calls Tryz.prog 54 #[.nilIface, t] w fun e w' => e = .returned (.bool false) ∧ w' = w := by
  go_enter Tryz.func54, Tryz.ntmps54
  go_wp2
  go_ret
  exact ⟨rfl, rfl⟩

set_option maxHeartbeats 4000000 in
theorem as_hit (e : Int) (p : Addr) (tb : Nat) (old old1 : Value) (w : World) (hg : w.cell? ⟨2, 0, none⟩ = some (.iface R (.agg #[hd ER]))) (ht0 : w.cell? ⟨tb, 0, none⟩ = some old) (ht1 : w.cell? ⟨tb, 1, none⟩ = some old1) (hf0 : w.frozen? ⟨tb, 0, none⟩ = false) (hf1 : w.frozen? ⟨tb, 1, none⟩ = false) :
    Calls Tryz.prog 54 #[.iface E (.agg #[.int .i64 e, und p]), .iface PE (.pointer (some ⟨tb, 0, none⟩))] w fun ev w' => ev = .returned (.bool true) ∧ w' = (((((w.alloc (.cells #[.pointer (some ⟨tb, 0, none⟩)] PE)).alloc (.cells #[hd PE, .pointer (some ⟨w.heap.size, 0, none⟩), .int .u64 150] VT)).alloc (.cells #[hd PE, .pointer (some ⟨w.heap.size, 0, none⟩), .int .u64 150] VT)).alloc (.cells #[.int .i64 e, und p] E)).setCell ⟨tb, 0, none⟩ (.int .i64 e)).setCell ⟨tb, 1, none⟩ (und p) := by
  have h6 := @run_callFunc_extern Tryz.prog 75 _ (fun args => ReflectliteValue.unpack (args.getD 0 (.tuple #[]))) Tryz.func75 (by kernel_rfl) (by kernel_rfl) (by kernel_rfl) (by kernel_rfl)
  have h7 := @run_callFunc_extern Tryz.prog 76 _ (ReflectliteValue.methodAny (ReflectliteValue.valueError "reflectlite.Value.Type" 0) (fun t _ _ _ => ReflectliteType.toType t)) Tryz.func76 (by kernel_rfl) (by kernel_rfl) (by kernel_rfl) (by kernel_rfl)
  have h8 := @run_callFunc_extern Tryz.prog 77 _ (ReflectliteValue.method (ReflectliteValue.valueError "reflectlite.Value.IsNil" 0) ReflectliteValue.isNil) Tryz.func77 (by kernel_rfl) (by kernel_rfl) (by kernel_rfl) (by kernel_rfl)
  have h27 := @run_callFunc_extern Tryz.prog 149 _ (ReflectliteType.abiMethod fun t => do pure (.int .u8 (← Rtype.kind t))) Tryz.func149 (by kernel_rfl) (by kernel_rfl) (by kernel_rfl) (by kernel_rfl)
  have h37 := @run_callFunc_extern Tryz.prog 163 _ (ReflectliteType.method ReflectliteType.elem) Tryz.func163 (by kernel_rfl) (by kernel_rfl) (by kernel_rfl) (by kernel_rfl)
  have h38 := @run_callFunc_extern Tryz.prog 164 _ (ReflectliteType.relation "Implements" ReflectliteType.implements_) Tryz.func164 (by kernel_rfl) (by kernel_rfl) (by kernel_rfl) (by kernel_rfl)
  have h10 := @run_callFunc_extern Tryz.prog 93 _ ReflectliteType.typeOf Tryz.func93 (by kernel_rfl) (by kernel_rfl) (by kernel_rfl) (by kernel_rfl)
  have h35 := @run_callFunc_extern Tryz.prog 161 _ (ReflectliteType.relation "AssignableTo" ReflectliteType.assignableTo) Tryz.func161 (by kernel_rfl) (by kernel_rfl) (by kernel_rfl) (by kernel_rfl)
  have h11 := @run_callFunc_extern Tryz.prog 98 _ (ReflectliteValue.method (ReflectliteValue.valueError "reflectlite.Value.Elem" 0) ReflectliteValue.elem) Tryz.func98 (by kernel_rfl) (by kernel_rfl) (by kernel_rfl) (by kernel_rfl)
  have h12 := @run_callFunc_extern Tryz.prog 99 _ ReflectliteValue.set Tryz.func99 (by kernel_rfl) (by kernel_rfl) (by kernel_rfl) (by kernel_rfl)
  have tO := typeOfE
  have mA := methodAssignableTo
  have a25 := assignE
  have v25 := valueOfE
  have f6 := valueOfP
  have f7 := typeP
  have mK := methodKind
  have mE := methodElem
  have mI := methodImplements
  have k27 := kindP
  have k25 := kindE
  have e27 := elemT
  have i25 := implE
  simp only [E, PE, R, VT, ER, hd, und] at *
  have n8 := isNilP ⟨w.heap.size, 0, none⟩ ⟨tb, 0, none⟩ ((w.alloc (.cells #[.pointer (some ⟨tb, 0, none⟩)] PE)).alloc (.cells #[hd PE, .pointer (some ⟨w.heap.size, 0, none⟩), .int .u64 150] VT)) (by simp)
  have hlt : 2 < w.heap.size := by
    rcases Nat.lt_or_ge 2 w.heap.size with h | h
    · exact h
    · simp [World.cell?, Array.getElem?_eq_none h] at hg
  have hg2 : ((w.alloc (.cells #[.pointer (some ⟨tb, 0, none⟩)] PE)).alloc (.cells #[hd PE, .pointer (some ⟨w.heap.size, 0, none⟩), .int .u64 150] VT)).cell? ⟨2, 0, none⟩ = some (.iface R (.agg #[hd ER])) := by
    rw [World.cell?_alloc_lt _ _ ⟨2, 0, none⟩ (by simp only [World.size_alloc]; omega), World.cell?_alloc_lt _ _ ⟨2, 0, none⟩ hlt]; exact hg
  have htl : tb < w.heap.size := by
    rcases Nat.lt_or_ge tb w.heap.size with h | h
    · exact h
    · simp [World.cell?, Array.getElem?_eq_none h] at ht0
  have el := elemV ⟨w.heap.size, 0, none⟩ ⟨tb, 0, none⟩ (((w.alloc (.cells #[.pointer (some ⟨tb, 0, none⟩)] PE)).alloc (.cells #[hd PE, .pointer (some ⟨w.heap.size, 0, none⟩), .int .u64 150] VT)).alloc (.cells #[hd PE, .pointer (some ⟨w.heap.size, 0, none⟩), .int .u64 150] VT)) (by rw [World.cell?_alloc_lt _ _ ⟨w.heap.size, 0, none⟩ (by simp only [World.size_alloc]; omega)]; simp)
  have st := setE tb (w.heap.size + 1 + 1 + 1) e p old old1 ((((w.alloc (.cells #[.pointer (some ⟨tb, 0, none⟩)] PE)).alloc (.cells #[hd PE, .pointer (some ⟨w.heap.size, 0, none⟩), .int .u64 150] VT)).alloc (.cells #[hd PE, .pointer (some ⟨w.heap.size, 0, none⟩), .int .u64 150] VT)).alloc (.cells #[.int .i64 e, und p] E))
    (by have := World.cell?_alloc_new (((w.alloc (.cells #[.pointer (some ⟨tb, 0, none⟩)] PE)).alloc (.cells #[hd PE, .pointer (some ⟨w.heap.size, 0, none⟩), .int .u64 150] VT)).alloc (.cells #[hd PE, .pointer (some ⟨w.heap.size, 0, none⟩), .int .u64 150] VT)) #[.int .i64 e, und p] E 0; simpa using this)
    (by have := World.cell?_alloc_new (((w.alloc (.cells #[.pointer (some ⟨tb, 0, none⟩)] PE)).alloc (.cells #[hd PE, .pointer (some ⟨w.heap.size, 0, none⟩), .int .u64 150] VT)).alloc (.cells #[hd PE, .pointer (some ⟨w.heap.size, 0, none⟩), .int .u64 150] VT)) #[.int .i64 e, und p] E 1; simpa using this)
    (by rw [World.cell?_alloc_lt _ _ ⟨tb, 0, none⟩ (by simp only [World.size_alloc]; omega), World.cell?_alloc_lt _ _ ⟨tb, 0, none⟩ (by simp only [World.size_alloc]; omega), World.cell?_alloc_lt _ _ ⟨tb, 0, none⟩ (by simp only [World.size_alloc]; omega), World.cell?_alloc_lt _ _ ⟨tb, 0, none⟩ htl]; exact ht0)
    (by rw [World.cell?_alloc_lt _ _ ⟨tb, 1, none⟩ (by simp only [World.size_alloc]; omega), World.cell?_alloc_lt _ _ ⟨tb, 1, none⟩ (by simp only [World.size_alloc]; omega), World.cell?_alloc_lt _ _ ⟨tb, 1, none⟩ (by simp only [World.size_alloc]; omega), World.cell?_alloc_lt _ _ ⟨tb, 1, none⟩ htl]; exact ht1)
    (by rw [World.frozen?_alloc_old _ _ ⟨tb, 0, none⟩ (by simp only [World.size_alloc]; omega), World.frozen?_alloc_old _ _ ⟨tb, 0, none⟩ (by simp only [World.size_alloc]; omega), World.frozen?_alloc_old _ _ ⟨tb, 0, none⟩ (by simp only [World.size_alloc]; omega), World.frozen?_alloc_old _ _ ⟨tb, 0, none⟩ (Nat.ne_of_lt htl)]; exact hf0)
    (by rw [World.frozen?_alloc_old _ _ ⟨tb, 1, none⟩ (by simp only [World.size_alloc]; omega), World.frozen?_alloc_old _ _ ⟨tb, 1, none⟩ (by simp only [World.size_alloc]; omega), World.frozen?_alloc_old _ _ ⟨tb, 1, none⟩ (by simp only [World.size_alloc]; omega), World.frozen?_alloc_old _ _ ⟨tb, 1, none⟩ (Nat.ne_of_lt htl)]; exact hf1)
  simp only [E, PE, R, VT, ER, hd, und] at *
  go_enter Tryz.func54, Tryz.ntmps54
  go_wp2
  refine wp_loop_rounds 1 ?_
  rw [rounds_succ]
  go_wp2
  go_ret
  exact ⟨rfl, rfl⟩

end Go.Proofs.YthmlbmambcigcaaGreatDoor.AsWrap

/- What wrap's told says of an error, as a contract. -/
namespace Go.Proofs.YthmlbmambcigcaaGreatDoor.AsWrap
open Go Go.SX Go.RowKit Go.Extern.Stop Go.Stop Go.Extern
variable [EA]
set_option linter.unusedVariables false
set_option linter.unusedSectionVars false
set_option linter.unusedSimpArgs false

/-- told at a refusal: its reason. -/
theorem told_hit (e : Int) (p : Addr) (w : World) (hg : w.cell? ⟨2, 0, none⟩ = some (.iface R (.agg #[hd ER]))) :
    Calls Tryz.prog 33 #[.iface E (.agg #[.int .i64 e, und p])] w fun ev w' => ev = .returned (.int .i64 e) ∧ Below w.heap.size w w' := by
  have hlt : 2 < w.heap.size := by
    rcases Nat.lt_or_ge 2 w.heap.size with h | h
    · exact h
    · simp [World.cell?, Array.getElem?_eq_none h] at hg
  have hgA : (w.alloc (.cells #[.int .i64 0, .nilIface] E)).cell? ⟨2, 0, none⟩ = some (.iface R (.agg #[hd ER])) := by
    rw [World.cell?_alloc_lt _ _ ⟨2, 0, none⟩ hlt]; exact hg
  have htA : (w.alloc (.cells #[.int .i64 0, .nilIface] E)).cell? ⟨w.heap.size, 0, none⟩ = some (.int .i64 0) := by simp
  have htB : (w.alloc (.cells #[.int .i64 0, .nilIface] E)).cell? ⟨w.heap.size, 1, none⟩ = some .nilIface := by simp
  have hfB : (w.alloc (.cells #[.int .i64 0, .nilIface] E)).frozen? ⟨w.heap.size, 1, none⟩ = false := by simp
  have hfA : (w.alloc (.cells #[.int .i64 0, .nilIface] E)).frozen? ⟨w.heap.size, 0, none⟩ = false := by simp
  have hB : Below w.heap.size w (((((w.alloc (.cells #[.int .i64 e, und p] E)).alloc (.cells #[.pointer (some ⟨w.heap.size, 0, none⟩)] PE)).alloc (.cells #[hd PE, .pointer (some ⟨w.heap.size + 1, 0, none⟩), .int .u64 150] VT)).alloc (.cells #[hd PE, .pointer (some ⟨w.heap.size + 1, 0, none⟩), .int .u64 150] VT)).alloc (.cells #[.int .i64 e, und p] E)) :=
    (((((Below.refl _ _).alloc (by simp) _).alloc (by simp) _).alloc (by simp only [World.size_alloc]; omega) _).alloc (by simp only [World.size_alloc]; omega) _).alloc (by simp only [World.size_alloc]; omega) _
  go_enter Tryz.func33, Tryz.ntmps33
  go_wp2_with (first | (go_at_call 54; refine (as_hit e p _ (.int .i64 0) .nilIface _ hgA htA htB hfA hfB).mono ?_; rintro e w' ⟨rfl, rfl⟩))
  go_ret
  exact ⟨rfl, hB⟩

theorem told_nil (w : World) : Calls Tryz.prog 33 #[.nilIface] w fun ev w' => ev = .returned (.int .i64 0) ∧ Below w.heap.size w w' := by
  have hB : Below w.heap.size w (w.alloc (.cells #[.int .i64 0, .nilIface] E)) := (Below.refl _ _).alloc (Nat.le_refl _) _
  go_enter Tryz.func33, Tryz.ntmps33
  go_wp2_with (first | (go_at_call 54; refine (as_nil _ _).mono ?_; rintro e w' ⟨rfl, rfl⟩))
  go_ret
  exact ⟨rfl, hB⟩

/-- The reason that an error tells. -/
def errOf : Value → Option Int
  | .nilIface => some 0
  | .iface t v => if t = E then match v with
    | .agg a => match a.toList with
      | [.int .i64 e, .iface t (.pointer (some p))] => if t = 236 then some e else none
      | _ => none
    | _ => none
    else none
  | _ => none

def told.s : List V → T V
  | [.q (.c v)] => match errOf v with
    | some e => .leaf (V.i e)
    | none => .bad
  | _ => .bad

theorem told.ok : SpecOK Tryz.prog 33 told.s := by
  refine ⟨by kernel_rfl, fun S w args vals r hS hg _ hd hr => ?_⟩
  unfold told.s at hr
  split at hr
  · rename_i v0
    cases hd with
    | cons x v l us hx hl =>
      cases hl
      cases hx with
      | q _ _ hq =>
        cases hq
        unfold errOf at hr
        split at hr
        · rename_i e he
          cases hr
          split at he
          · cases he
            exact (told_nil w).mono fun ev w' ⟨h1, h2⟩ => ⟨_, h1, h2, .q _ _ (.c _)⟩
          · split at he
            · rename_i ht
              subst ht
              split at he
              · rename_i arr
                split at he
                · rename_i arr2 e' t' p' ha
                  have : arr = #[.int .i64 e', .iface t' (.pointer (some p'))] := Array.ext' ha
                  subst this
                  split at he
                  rotate_left
                  · cases he
                  rename_i ht
                  subst ht
                  cases he
                  refine (told_hit _ p' w ?_).mono fun ev w' ⟨h1, h2⟩ => ⟨_, h1, h2, .q _ _ (.c _)⟩
                  exact hg _ gl_et
                · cases he
              · cases he
            · cases he
          · cases he
        · cases hr
  · cases hr
end Go.Proofs.YthmlbmambcigcaaGreatDoor.AsWrap

/- Lines beside floats, one by one: placed lines; which are the same; their rectangles; is a float beside? -/
namespace Go.Proofs.YthmlbmambcigcaaGreatDoor
open Go Go.SX Go.Proofs
set_option maxRecDepth 100000
variable [EA]
set_option linter.unusedVariables false
set_option linter.unusedSectionVars false
set_option linter.unusedSimpArgs false

/-! ### placed lines -/
abbrev ksPl : List K := [.int .i64, .int .i64, .int .i64, .int .i64, .int .i64]
/-- A line, placed. -/
structure Pl where
  a : Int
  z : Int
  w : Int
  x : Int
  y : Int
abbrev gPl (g : Nat → Nat → Q) (i : Nat) : Pl := ⟨qInt (g i 0), qInt (g i 1), qInt (g i 2), qInt (g i 3), qInt (g i 4)⟩
abbrev lPl (n : Nat) (g : Nat → Nat → Q) : V := .q (.lst ksPl n g)
abbrev plV (p : Pl) : V := .agg [V.i p.a, V.i p.z, V.i p.w, V.i p.x, V.i p.y]
abbrev plQ (p : Pl) : List Q := [.c (.int .i64 p.a), .c (.int .i64 p.z), .c (.int .i64 p.w), .c (.int .i64 p.x), .c (.int .i64 p.y)]
abbrev Pl.l (p : Pl) : Ln := ⟨p.a, p.z, p.w⟩
def plEq (p q : Pl) : Bool := bif lnEq p.l q.l then (bif p.x == q.x then (bif p.y == q.y then true else false) else false) else false
theorem plEq_self (p : Pl) : plEq p p = true := by simp [plEq, lnEq]
theorem gPl_of {l : List Pl} {i : Nat} (h : i < l.length) : gPl (gOf plQ l) i = l[i] := by
  have e : ∀ j, gOf plQ l i j = (plQ l[i]).getD j default := fun j => congrFun (gOf_at plQ l h) j
  show (⟨qInt (gOf plQ l i 0), qInt (gOf plQ l i 1), qInt (gOf plQ l i 2), qInt (gOf plQ l i 3), qInt (gOf plQ l i 4)⟩ : Pl) = l[i]
  rw [e, e, e, e, e]; rfl

/-! ### Same -/
def SPa (n : Nat) (g : Nat → Nat → Q) (m : Nat) (h : Nat → Nat → Q) (i : Int) : St := mkS 26 [(0, lPl n g), (1, lPl m h), (5, V.i i)] [] [] false [] 0
noncomputable abbrev bodyPa : Code := loopAt Tryz.f18 [0, 1, 0, 1, 1]
def livePa : Ex → List Nat | .normal => [0, 1, 5] | .ret => [4] | _ => []
noncomputable abbrev treePa (s : St) : T (Ex × St × Bool) := ltree Tryz.prog [] [] [0, 1, 0, 1, 1] bodyPa 26 0 livePa poN s
def SPb (n : Nat) (g : Nat → Nat → Q) (m : Nat) (h : Nat → Nat → Q) (i : Int) : St := mkS 26 [(1, lPl m h), (12, lPl n g), (13, V.i n), (14, V.i i)] [] [] false [] 0
noncomputable abbrev bodyPb : Code := loopAt Tryz.f26 [0, 1, 0, 1, 1]
def livePb : Ex → List Nat | .normal => [1, 12, 13, 14] | .ret => [4] | _ => []
noncomputable abbrev treePb (s : St) : T (Ex × St × Bool) := ltree Tryz.prog [] [] [0, 1, 0, 1, 1] bodyPb 26 0 livePb poN s
def pSameB (n : Nat) (g : Nat → Nat → Q) (m : Nat) (h : Nat → Nat → Q) : Bool := bif (n : Int) != m then false else allN n fun i => plEq (gPl g i) (gPl h i)
def pSame.s : List V → T V
  | [.q (.lst [.int .i64, .int .i64, .int .i64, .int .i64, .int .i64] n g), .q (.lst [.int .i64, .int .i64, .int .i64, .int .i64, .int .i64] m h)] => .leaf (V.b (pSameB n g m h))
  | _ => .bad
theorem pSameB_self (n : Nat) (g : Nat → Nat → Q) : pSameB n g n g = true := by
  unfold pSameB
  rw [allN_true fun i _ => plEq_self (gPl g i)]
  simp
theorem stepPa (n : Nat) (g : Nat → Nat → Q) (m : Nat) (h : Nat → Nat → Q) (i : Nat) : treePa (SPa n g m h i) =
    .ite (decide ((i : Int) < n)) (.ite (inI i n) (.ite (inI i m) (.ite (!(plEq (gPl g i) (gPl h i))) (.leaf (.ret, mkS 26 [(4, V.b false)] [] [] false [] 0, true)) (.leaf (.normal, SPa n g m h (w64 (i + 1)), true))) .bad) .bad) (.leaf (.exit 0, mkS 26 [] [] [] false [] 0, true)) := by kernel_rfl
theorem loopPa (n : Nat) (g : Nat → Nat → Q) (m : Nat) (h : Nat → Nat → Q) (hn : n ≤ 9223372036854775807) (hm : n = m) : ∀ x, (T.ite (allN n fun i => plEq (gPl g i) (gPl h i)) (.leaf (Ex.exit 0, mkS 26 [] [] [] false [] 0)) (.leaf (.ret, mkS 26 [(4, V.b false)] [] [] false [] 0))).pick = some x → SemC Tryz.prog (.loop bodyPa) (SPa n g m h (0 : Nat)) x := by
  subst hm
  refine loopAll (GOK.nil _) (root := cod Tryz.f18) (p := [0, 1, 0, 1, 1]) (by kernel_rfl) hn (fun i => SPa n g n h i) (fun i => plEq (gPl g i) (gPl h i)) _ _ 26 0 livePa poN poN_ok (fun i hlt hq => ?_) (fun i hlt hq => ?_) ?_
  · exact (congrArg T.pick (stepPa n g n h i)).trans (by rw [c_lt hlt, c_inI hlt, hq]; rfl)
  · exact (congrArg T.pick (stepPa n g n h i)).trans (by rw [c_lt hlt, c_inI hlt, hq]; rfl)
  · exact (congrArg T.pick (stepPa n g n h n)).trans (by rw [c_ge (Nat.le_refl _)]; rfl)
theorem rPSame.ok : SpecOK Tryz.prog 18 pSame.s := by
  refine okF (GOK.nil _) Tryz.func18 (by kernel_rfl) (by kernel_rfl) fun args r hb hr => ?_
  unfold pSame.s at hr
  split at hr
  · rename_i n g m h
    have hn : n ≤ 9223372036854775807 := (hb (lPl n g) (by simp)).1
    cases hc : ((n : Int) != m) with
    | true =>
      refine ⟨[], LamOK.nil _ _, ?_⟩
      have e : T.pathL (funV Tryz.prog [] [] Tryz.f18 (cod Tryz.f18) [lPl n g, lPl m h]) [true] = .leaf (V.b false) := by kernel_rfl
      have e0 : T.pathC (funV Tryz.prog [] [] Tryz.f18 (cod Tryz.f18) [lPl n g, lPl m h]) [true] = [(n : Int) != m] := by kernel_rfl
      rw [pSameB, hc] at hr
      exact (T.pick_at [true] _ e0 (by rw [hc]) e).trans hr
    | false =>
      have hm : n = m := Int.ofNat_inj.1 (by simpa using hc)
      refine ⟨_, LamOK.orc (p := [0, 1, 0, 1, 1]) (mk := false) (nn := 26) (k := 0) (live := livePa .normal) (c := .loop bodyPa) (by kernel_rfl) (loopPa n g m h hn hm) (LamOK.nil _ _), ?_⟩
      have e : ∀ a, funV Tryz.prog [] [([0, 1, 0, 1, 1], orc false 26 0 (livePa .normal) (SPa n g m h (0 : Nat)) (.ite a (.leaf (Ex.exit 0, mkS 26 [] [] [] false [] 0)) (.leaf (.ret, mkS 26 [(4, V.b false)] [] [] false [] 0))))] Tryz.f18 (cod Tryz.f18) [lPl n g, lPl m h] =
          .ite ((n : Int) != m) (.leaf (V.b false)) (.ite (@decide (SPa n g m h (0 : Nat) = SPa n g m h (0 : Nat)) (Classical.propDecidable _)) (.ite a (.leaf (V.b true)) (.leaf (V.b false))) .bad) := fun a => by kernel_rfl
      rw [e, ← hr, hc]
      refine (pick_same _ _).trans ?_
      rw [pSameB, hc]
      cases (allN n fun i => plEq (gPl g i) (gPl h i)) <;> rfl
  · cases hr
theorem stepPb (n : Nat) (g : Nat → Nat → Q) (m : Nat) (h : Nat → Nat → Q) (i : Nat) : treePb (SPb n g m h i) =
    .ite (decide ((i : Int) < n)) (.ite (inI i n) (.ite (inI i m) (.ite (!(plEq (gPl g i) (gPl h i))) (.leaf (.ret, mkS 26 [(4, V.b false)] [] [] false [] 0, true)) (.leaf (.normal, SPb n g m h (w64 (i + 1)), true))) .bad) .bad) (.leaf (.exit 0, mkS 26 [] [] [] false [] 0, true)) := by kernel_rfl
theorem loopPb (n : Nat) (g : Nat → Nat → Q) (m : Nat) (h : Nat → Nat → Q) (hn : n ≤ 9223372036854775807) (hm : n = m) : ∀ x, (T.ite (allN n fun i => plEq (gPl g i) (gPl h i)) (.leaf (Ex.exit 0, mkS 26 [] [] [] false [] 0)) (.leaf (.ret, mkS 26 [(4, V.b false)] [] [] false [] 0))).pick = some x → SemC Tryz.prog (.loop bodyPb) (SPb n g m h (0 : Nat)) x := by
  subst hm
  refine loopAll (GOK.nil _) (root := cod Tryz.f26) (p := [0, 1, 0, 1, 1]) (by kernel_rfl) hn (fun i => SPb n g n h i) (fun i => plEq (gPl g i) (gPl h i)) _ _ 26 0 livePb poN poN_ok (fun i hlt hq => ?_) (fun i hlt hq => ?_) ?_
  · exact (congrArg T.pick (stepPb n g n h i)).trans (by rw [c_lt hlt, c_inI hlt, hq]; rfl)
  · exact (congrArg T.pick (stepPb n g n h i)).trans (by rw [c_lt hlt, c_inI hlt, hq]; rfl)
  · exact (congrArg T.pick (stepPb n g n h n)).trans (by rw [c_ge (Nat.le_refl _)]; rfl)
theorem wPSame.ok : SpecOK Tryz.prog 26 pSame.s := by
  refine okF (GOK.nil _) Tryz.func26 (by kernel_rfl) (by kernel_rfl) fun args r hb hr => ?_
  unfold pSame.s at hr
  split at hr
  · rename_i n g m h
    have hn : n ≤ 9223372036854775807 := (hb (lPl n g) (by simp)).1
    cases hc : ((n : Int) != m) with
    | true =>
      refine ⟨[], LamOK.nil _ _, ?_⟩
      have e : T.pathL (funV Tryz.prog [] [] Tryz.f26 (cod Tryz.f26) [lPl n g, lPl m h]) [true] = .leaf (V.b false) := by kernel_rfl
      have e0 : T.pathC (funV Tryz.prog [] [] Tryz.f26 (cod Tryz.f26) [lPl n g, lPl m h]) [true] = [(n : Int) != m] := by kernel_rfl
      rw [pSameB, hc] at hr
      exact (T.pick_at [true] _ e0 (by rw [hc]) e).trans hr
    | false =>
      have hm : n = m := Int.ofNat_inj.1 (by simpa using hc)
      refine ⟨_, LamOK.orc (p := [0, 1, 0, 1, 1]) (mk := false) (nn := 26) (k := 0) (live := livePb .normal) (c := .loop bodyPb) (by kernel_rfl) (loopPb n g m h hn hm) (LamOK.nil _ _), ?_⟩
      have e : ∀ a, funV Tryz.prog [] [([0, 1, 0, 1, 1], orc false 26 0 (livePb .normal) (SPb n g m h (0 : Nat)) (.ite a (.leaf (Ex.exit 0, mkS 26 [] [] [] false [] 0)) (.leaf (.ret, mkS 26 [(4, V.b false)] [] [] false [] 0))))] Tryz.f26 (cod Tryz.f26) [lPl n g, lPl m h] =
          .ite ((n : Int) != m) (.leaf (V.b false)) (.ite (@decide (SPb n g m h (0 : Nat) = SPb n g m h (0 : Nat)) (Classical.propDecidable _)) (.ite a (.leaf (V.b true)) (.leaf (V.b false))) .bad) := fun a => by kernel_rfl
      rw [e, ← hr, hc]
      refine (pick_same _ _).trans ?_
      rw [pSameB, hc]
      cases (allN n fun i => plEq (gPl g i) (gPl h i)) <;> rfl
  · cases hr

/-! ### Rects -/
abbrev rcQ (r : Rc) : List Q := qs4 r
abbrev rcOf (h : Int) (p : Pl) : Rc := ⟨p.x, p.y, p.w, h⟩
/-- The rectangles of the first i lines. -/
def rcL (g : Nat → Nat → Q) (h : Int) (i : Nat) : List Rc := (List.range i).map fun k => rcOf h (gPl g k)
theorem rcL_len (g : Nat → Nat → Q) (h : Int) (i : Nat) : (rcL g h i).length = i := by simp [rcL]
theorem rcL_suc (g : Nat → Nat → Q) (h : Int) (i : Nat) : rcL g h (i + 1) = rcL g h i ++ [rcOf h (gPl g i)] := by simp [rcL, List.range_succ]
def SRc (n : Nat) (g : Nat → Nat → Q) (h : Int) (m : Nat) (k : Nat → Nat → Q) (i : Int) : St := mkS 35 [(0, lPl n g), (1, V.i h), (5, .own 0), (6, V.i i)] [some (.vec 52 ks4 m k)] [] false [] 0
def liveRc : Ex → List Nat | .normal => [0, 1, 5, 6] | _ => [5]
noncomputable abbrev bodyRc : Code := loopAt Tryz.f28 [0, 1, 0, 1, 1]
noncomputable abbrev treeRc (s : St) : T (Ex × St × Bool) := ltree Tryz.prog [] [] [0, 1, 0, 1, 1] bodyRc 35 1 liveRc (poM [(21, 0)]) s
def SRd (n : Nat) (g : Nat → Nat → Q) (h : Int) (m : Nat) (k : Nat → Nat → Q) (i : Int) : St := mkS 28 [(0, V.i h), (5, .own 0), (8, lPl n g), (9, V.i n), (10, V.i i)] [some (.vec 52 ks4 m k)] [] false [] 0
def liveRd : Ex → List Nat | .normal => [0, 5, 8, 9, 10] | _ => [5]
noncomputable abbrev bodyRd : Code := loopAt Tryz.f45 [0, 1, 0, 1, 1]
noncomputable abbrev treeRd (s : St) : T (Ex × St × Bool) := ltree Tryz.prog [] [] [0, 1, 0, 1, 1] bodyRd 28 1 liveRd (poM [(2, 0)]) s
theorem stepRc (n : Nat) (g : Nat → Nat → Q) (h : Int) (m : Nat) (k : Nat → Nat → Q) (i : Nat) : treeRc (SRc n g h m k i) =
    .ite (decide ((i : Int) < n)) (.ite (inI i n) (.ite (inI i n) (.ite (inI i n) (.ite (roomB m 1 32) (.leaf (.normal, SRc n g h (m + 1) (catG m k (rows [rcQ (rcOf h (gPl g i))])) (w64 (i + 1)), true)) .bad) .bad) .bad) .bad)
      (.leaf (.exit 0, mkS 35 [(5, .own 0)] [some (.vec 52 ks4 m k)] [] false [] 0, true)) := by kernel_rfl
theorem stepRd (n : Nat) (g : Nat → Nat → Q) (h : Int) (m : Nat) (k : Nat → Nat → Q) (i : Nat) : treeRd (SRd n g h m k i) =
    .ite (decide ((i : Int) < n)) (.ite (inI i n) (.ite (roomB m 1 32) (.leaf (.normal, SRd n g h (m + 1) (catG m k (rows [rcQ (rcOf h (gPl g i))])) (w64 (i + 1)), true)) .bad) .bad)
      (.leaf (.exit 0, mkS 28 [(5, .own 0)] [some (.vec 52 ks4 m k)] [] false [] 0, true)) := by kernel_rfl
end Go.Proofs.YthmlbmambcigcaaGreatDoor

/- Lines beside floats, one by one: rectangles; is a float beside? -/
namespace Go.Proofs.YthmlbmambcigcaaGreatDoor
open Go Go.SX Go.Proofs
set_option maxRecDepth 100000
variable [EA]
set_option linter.unusedVariables false
set_option linter.unusedSectionVars false
set_option linter.unusedSimpArgs false

theorem loopRc (n : Nat) (g : Nat → Nat → Q) (h : Int) (hn : n ≤ 1000000) : ∀ x, (T.leaf (Ex.exit 0, mkS 35 [(5, .own 0)] [some (.vec 52 ks4 (rcL g h n).length (gOf rcQ (rcL g h n)))] [] false [] 0)).pick = some x → SemC Tryz.prog (.loop bodyRc) (SRc n g h (rcL g h 0).length (gOf rcQ (rcL g h 0)) (0 : Nat)) x := by
  refine loopFold (GOK.nil _) (root := cod Tryz.f28) (p := [0, 1, 0, 1, 1]) (by kernel_rfl) (show n ≤ _ by omega) (fun (l : List Rc) i => SRc n g h l.length (gOf rcQ l) i) (rcL g h) (.exit 0) (by simp) _ 35 1 liveRc (poM [(21, 0)]) (poM_ok _) (fun i hlt => ⟨[], LamOK.nil _ _, ?_⟩) ?_
  · refine (congrArg T.pick (stepRc n g h _ _ i)).trans ?_
    rw [c_lt hlt, c_inI hlt, catG_of rcQ, show roomB (rcL g h i).length 1 32 = true by rw [rcL_len]; simp [roomB]; omega, ← rcL_suc]
    simp only [pick_ite, cond_true, pick_leaf, rcL_len]
  · exact (congrArg T.pick (stepRc n g h _ _ n)).trans (by rw [c_ge (Nat.le_refl _)]; rfl)
theorem loopRd (n : Nat) (g : Nat → Nat → Q) (h : Int) (hn : n ≤ 1000000) : ∀ x, (T.leaf (Ex.exit 0, mkS 28 [(5, .own 0)] [some (.vec 52 ks4 (rcL g h n).length (gOf rcQ (rcL g h n)))] [] false [] 0)).pick = some x → SemC Tryz.prog (.loop bodyRd) (SRd n g h (rcL g h 0).length (gOf rcQ (rcL g h 0)) (0 : Nat)) x := by
  refine loopFold (GOK.nil _) (root := cod Tryz.f45) (p := [0, 1, 0, 1, 1]) (by kernel_rfl) (show n ≤ _ by omega) (fun (l : List Rc) i => SRd n g h l.length (gOf rcQ l) i) (rcL g h) (.exit 0) (by simp) _ 28 1 liveRd (poM [(2, 0)]) (poM_ok _) (fun i hlt => ⟨[], LamOK.nil _ _, ?_⟩) ?_
  · refine (congrArg T.pick (stepRd n g h _ _ i)).trans ?_
    rw [c_lt hlt, c_inI hlt, catG_of rcQ, show roomB (rcL g h i).length 1 32 = true by rw [rcL_len]; simp [roomB]; omega, ← rcL_suc]
    simp only [pick_ite, cond_true, pick_leaf, rcL_len]
  · exact (congrArg T.pick (stepRd n g h _ _ n)).trans (by rw [c_ge (Nat.le_refl _)]; rfl)
def pRects.s : List V → T V
  | [.q (.lst [.int .i64, .int .i64, .int .i64, .int .i64, .int .i64] n g), .q (.c (.int .i64 h))] => .ite (decide (n ≤ 1000000)) (.leaf (vOf ks4 rcQ (rcL g h n))) .bad
  | _ => .bad
def wrects.s : List V → T V
  | [.q (.c (.int .i64 h)), .q (.lst [.int .i64, .int .i64, .int .i64, .int .i64, .int .i64] n g)] => .ite (decide (n ≤ 1000000)) (.leaf (vOf ks4 rcQ (rcL g h n))) .bad
  | _ => .bad
theorem rRects.ok : SpecOK Tryz.prog 28 pRects.s := by
  refine okF (GOK.nil _) Tryz.func28 (by kernel_rfl) (by kernel_rfl) fun args r hb hr => ?_
  unfold pRects.s at hr
  split at hr
  · rename_i n g h
    by_cases hn : n ≤ 1000000
    · refine ⟨_, LamOK.orcP (pre := nilV 5 0 52 ks4) (fun s => sub_nilV _ _ _ _ s) (p := [0, 1, 0, 1, 1]) (mk := false) (nn := 35) (k := 1) (live := liveRc .normal) (c := .loop bodyRc) (by kernel_rfl) (loopRc n g h hn) (LamOK.nil _ _), ?_⟩
      have e : ∀ m k, funV Tryz.prog [] [([0, 1, 0, 1, 1], orcP (nilV 5 0 52 ks4) false 35 1 (liveRc .normal) (SRc n g h (rcL g h 0).length (gOf rcQ (rcL g h 0)) (0 : Nat)) (.leaf (Ex.exit 0, mkS 35 [(5, .own 0)] [some (.vec 52 ks4 m k)] [] false [] 0)))] Tryz.f28 (cod Tryz.f28) [lPl n g, V.i h] =
          .ite (@decide (SRc n g h (rcL g h 0).length (gOf rcQ (rcL g h 0)) (0 : Nat) = SRc n g h (rcL g h 0).length (gOf rcQ (rcL g h 0)) (0 : Nat)) (Classical.propDecidable _)) (.leaf (lst4 m k)) .bad := fun m k => by kernel_rfl
      rw [e, ← hr, decide_eq_true hn]
      exact pick_same _ _
    · rw [decide_eq_false hn] at hr; cases hr
  · cases hr
theorem wrects.ok : SpecOK Tryz.prog 45 wrects.s := by
  refine okF (GOK.nil _) Tryz.func45 (by kernel_rfl) (by kernel_rfl) fun args r hb hr => ?_
  unfold wrects.s at hr
  split at hr
  · rename_i h n g
    by_cases hn : n ≤ 1000000
    · refine ⟨_, LamOK.orcP (pre := nilV 5 0 52 ks4) (fun s => sub_nilV _ _ _ _ s) (p := [0, 1, 0, 1, 1]) (mk := false) (nn := 28) (k := 1) (live := liveRd .normal) (c := .loop bodyRd) (by kernel_rfl) (loopRd n g h hn) (LamOK.nil _ _), ?_⟩
      have e : ∀ m k, funV Tryz.prog [] [([0, 1, 0, 1, 1], orcP (nilV 5 0 52 ks4) false 28 1 (liveRd .normal) (SRd n g h (rcL g h 0).length (gOf rcQ (rcL g h 0)) (0 : Nat)) (.leaf (Ex.exit 0, mkS 28 [(5, .own 0)] [some (.vec 52 ks4 m k)] [] false [] 0)))] Tryz.f45 (cod Tryz.f45) [V.i h, lPl n g] =
          .ite (@decide (SRd n g h (rcL g h 0).length (gOf rcQ (rcL g h 0)) (0 : Nat) = SRd n g h (rcL g h 0).length (gOf rcQ (rcL g h 0)) (0 : Nat)) (Classical.propDecidable _)) (.leaf (lst4 m k)) .bad := fun m k => by kernel_rfl
      rw [e, ← hr, decide_eq_true hn]
      exact pick_same _ _
    · rw [decide_eq_false hn] at hr; cases hr
  · cases hr
abbrev ΓRd : Gam := [(45, wrects.s)]
theorem ΓRd.ok : GOK Tryz.prog ΓRd := .cons wrects.ok (GOK.nil _)
theorem wRects.ok : SpecOK Tryz.prog 24 pRects.s := by
  refine okF ΓRd.ok Tryz.func24 (by kernel_rfl) (by kernel_rfl) fun args r hb hr => ?_
  unfold pRects.s at hr
  split at hr
  · rename_i n g h
    have e : funV Tryz.prog ΓRd [] Tryz.f24 (cod Tryz.f24) [lPl n g, V.i h] = .ite (decide (n ≤ 1000000)) (.leaf (vOf ks4 rcQ (rcL g h n))) .bad := by kernel_rfl
    exact ⟨[], LamOK.nil _ _, by rw [e]; exact hr⟩
  · cases hr

/-! ### beside -/
/-- Does it lie at some lengths? -/
def besR (r : Rc) (y h : Int) : Bool := bif decide (r.w > 0) then (bif decide (r.h > 0) then (bif decide (r.y < w64 (y + h)) then decide (y < w64 (r.y + r.h)) else false) else false) else false
def anyN (n : Nat) (p : Nat → Bool) : Bool := !(allN n fun i => !(p i))
def SBe (n : Nat) (g : Nat → Nat → Q) (y h i : Int) : St := mkS 54 [(0, lst4 n g), (1, V.i y), (2, V.i h), (7, V.i i)] [] [] false [] 0
def liveBe : Ex → List Nat | .normal => [0, 1, 2, 7] | .ret => [6] | _ => []
noncomputable abbrev bodyBe : Code := loopAt Tryz.f84 [0, 1, 0, 1]
noncomputable abbrev treeBe (s : St) : T (Ex × St × Bool) := ltree Tryz.prog [] [] [0, 1, 0, 1] bodyBe 54 0 liveBe poN s
def okBe (b : Bool) (r : Rc) (y h : Int) : Bool := bif b then (bif decide (r.w > 0) then (bif b then (bif decide (r.h > 0) then (bif b then (bif decide (r.y < w64 (y + h)) then (bif b then (bif b then true else false) else false) else true) else false) else true) else false) else true) else false
theorem okBe_true (r : Rc) (y h : Int) : okBe true r y h = true := by
  unfold okBe
  cases decide (r.w > 0) <;> cases decide (r.h > 0) <;> cases decide (r.y < w64 (y + h)) <;> rfl
theorem stepBe (n : Nat) (g : Nat → Nat → Q) (y h : Int) (i : Nat) : treeBe (SBe n g y h i) =
    .ite (decide ((i : Int) < n)) (.ite (okBe (inI i n) (gRc g i) y h) (.ite (besR (gRc g i) y h) (.leaf (.ret, mkS 54 [(6, V.b true)] [] [] false [] 0, true)) (.leaf (.normal, SBe n g y h (w64 (i + 1)), true))) .bad) (.leaf (.exit 0, mkS 54 [] [] [] false [] 0, true)) := by kernel_rfl
/-- Does one of them lie at some lengths? -/
def besA (n : Nat) (g : Nat → Nat → Q) (y h : Int) : Bool := anyN n fun i => besR (gRc g i) y h
theorem loopBe (n : Nat) (g : Nat → Nat → Q) (y h : Int) (hn : n ≤ 9223372036854775807) : ∀ x, (T.ite (allN n fun i => !(besR (gRc g i) y h)) (.leaf (Ex.exit 0, mkS 54 [] [] [] false [] 0)) (.leaf (.ret, mkS 54 [(6, V.b true)] [] [] false [] 0))).pick = some x → SemC Tryz.prog (.loop bodyBe) (SBe n g y h (0 : Nat)) x := by
  refine loopAll (GOK.nil _) (root := cod Tryz.f84) (p := [0, 1, 0, 1]) (by kernel_rfl) hn (fun i => SBe n g y h i) (fun i => !(besR (gRc g i) y h)) _ _ 54 0 liveBe poN poN_ok (fun i hlt hq => ?_) (fun i hlt hq => ?_) ?_
  · exact (congrArg T.pick (stepBe n g y h i)).trans (by rw [c_lt hlt, c_inI hlt, okBe_true, show besR (gRc g i) y h = false by simpa using hq]; rfl)
  · exact (congrArg T.pick (stepBe n g y h i)).trans (by rw [c_lt hlt, c_inI hlt, okBe_true, show besR (gRc g i) y h = true by simpa using hq]; rfl)
  · exact (congrArg T.pick (stepBe n g y h n)).trans (by rw [c_ge (Nat.le_refl _)]; rfl)
def rBes.s : List V → T V
  | [.q (.lst [.int .i64, .int .i64, .int .i64, .int .i64] n g), .q (.c (.int .i64 y)), .q (.c (.int .i64 h))] => .leaf (V.b (besA n g y h))
  | _ => .bad
theorem rBes.ok : SpecOK Tryz.prog 84 rBes.s := by
  refine okF (GOK.nil _) Tryz.func84 (by kernel_rfl) (by kernel_rfl) fun args r hb hr => ?_
  unfold rBes.s at hr
  split at hr
  · rename_i n g y h
    have hn : n ≤ 9223372036854775807 := (hb (lst4 n g) (by simp)).1
    refine ⟨_, LamOK.orc (p := [0, 1, 0, 1]) (mk := false) (nn := 54) (k := 0) (live := liveBe .normal) (c := .loop bodyBe) (by kernel_rfl) (loopBe n g y h hn) (LamOK.nil _ _), ?_⟩
    have e : ∀ a, funV Tryz.prog [] [([0, 1, 0, 1], orc false 54 0 (liveBe .normal) (SBe n g y h (0 : Nat)) (.ite a (.leaf (Ex.exit 0, mkS 54 [] [] [] false [] 0)) (.leaf (.ret, mkS 54 [(6, V.b true)] [] [] false [] 0))))] Tryz.f84 (cod Tryz.f84) [lst4 n g, V.i y, V.i h] =
        .ite (@decide (SBe n g y h (0 : Nat) = SBe n g y h (0 : Nat)) (Classical.propDecidable _)) (.ite a (.leaf (V.b false)) (.leaf (V.b true))) .bad := fun a => by kernel_rfl
    rw [e, ← hr]
    refine (pick_same _ _).trans ?_
    unfold besA anyN
    cases (allN n fun i => !(besR (gRc g i) y h)) <;> rfl
  · cases hr
end Go.Proofs.YthmlbmambcigcaaGreatDoor

/- Lines beside floats, one by one: isBeside; what places lines, made. -/
namespace Go.Proofs.YthmlbmambcigcaaGreatDoor
open Go Go.SX Go.Proofs
set_option maxRecDepth 100000
variable [EA]
set_option linter.unusedVariables false
set_option linter.unusedSectionVars false
set_option linter.unusedSimpArgs false

/-! ### isBeside -/
abbrev ksRm : List K := [.int .i64, .int .i64, .bool]
abbrev MpE := List (Value × List Q)
abbrev obMp (es : MpE) : Option Ob := some (.map (.one (.int .i64)) true ksRm es)
/-- What places lines: words, floats, width, height; the map of what is known. -/
structure Wr where
  n : Nat
  g : Nat → Nat → Q
  m : Nat
  f : Nat → Nat → Q
  w : Int
  h : Int
abbrev obWr (c : Wr) (k : Nat) : Option Ob := some (.cells 110 [lWd c.n c.g, lstF c.m c.f, V.i c.w, V.i c.h, .mp k])
abbrev loWr (c : Wr) (es : MpE) : List (Option Ob) := [obWr c 1, obMp es]
def SIb (c : Wr) (es : MpE) (y : Int) (n : Nat) (g : Nat → Nat → Q) (i : Int) : St := mkS 71 [(0, .ptr 0 0), (1, V.i y), (22, lst4 n g), (23, V.i n), (24, V.i i)] (loWr c es) [] false [] 2
def liveIb : Ex → List Nat | .normal => [0, 1, 22, 23, 24] | .ret => [4] | _ => []
abbrev pIb : List Nat := [0, 1, 0, 1, 1]
noncomputable abbrev bodyIb : Code := loopAt Tryz.f80 pIb
noncomputable abbrev treeIb (s : St) : T (Ex × St × Bool) := ltree Tryz.prog [] [] pIb bodyIb 71 2 liveIb poN s
def selfB (r : Rc) : Bool := bif (r.x == r.x) then (bif (r.y == r.y) then (bif (r.w == r.w) then (bif (r.h == r.h) then true else false) else false) else false) else false
def besI (r : Rc) (y h : Int) : Bool := bif (bif decide (r.w > 0) then (bif decide (r.h > 0) then (bif selfB r then (bif decide (r.y < w64 (y + h)) then decide (y < w64 (r.y + r.h)) else false) else false) else false) else false) then true else false
theorem stepIb (c : Wr) (es : MpE) (y : Int) (n : Nat) (g : Nat → Nat → Q) (i : Nat) : treeIb (SIb c es y n g i) =
    .ite (decide ((i : Int) < n)) (.ite (inI i n) (.ite (bif decide ((gRc g i).w > 0) then (bif decide ((gRc g i).h > 0) then (bif selfB (gRc g i) then (bif decide ((gRc g i).y < w64 (y + c.h)) then decide (y < w64 ((gRc g i).y + (gRc g i).h)) else false) else false) else false) else false) (.leaf (.ret, mkS 71 [(4, V.b true)] (loWr c es) [] false [] 2, true)) (.leaf (.normal, SIb c es y n g (w64 (i + 1)), true))) .bad) (.leaf (.exit 0, mkS 71 [] (loWr c es) [] false [] 2, true)) := by kernel_rfl
theorem selfB_true (r : Rc) : selfB r = true := by simp [selfB]
theorem besI_eq (r : Rc) (y h : Int) : (bif decide (r.w > 0) then (bif decide (r.h > 0) then (bif selfB r then (bif decide (r.y < w64 (y + h)) then decide (y < w64 (r.y + r.h)) else false) else false) else false) else false) = besR r y h := by
  rw [selfB_true]; rfl
theorem loopIb (c : Wr) (es : MpE) (y : Int) (n : Nat) (g : Nat → Nat → Q) (hn : n ≤ 9223372036854775807) : ∀ x, (T.ite (allN n fun i => !(besR (gRc g i) y c.h)) (.leaf (Ex.exit 0, mkS 71 [] (loWr c es) [] false [] 2)) (.leaf (.ret, mkS 71 [(4, V.b true)] (loWr c es) [] false [] 2))).pick = some x → SemC Tryz.prog (.loop bodyIb) (SIb c es y n g (0 : Nat)) x := by
  refine loopAll (GOK.nil _) (root := cod Tryz.f80) (p := pIb) (by kernel_rfl) hn (fun i => SIb c es y n g i) (fun i => !(besR (gRc g i) y c.h)) _ _ 71 2 liveIb poN poN_ok (fun i hlt hq => ?_) (fun i hlt hq => ?_) ?_
  · exact (congrArg T.pick (stepIb c es y n g i)).trans (by rw [c_lt hlt, c_inI hlt, besI_eq, show besR (gRc g i) y c.h = false by simpa using hq]; rfl)
  · exact (congrArg T.pick (stepIb c es y n g i)).trans (by rw [c_lt hlt, c_inI hlt, besI_eq, show besR (gRc g i) y c.h = true by simpa using hq]; rfl)
  · exact (congrArg T.pick (stepIb c es y n g n)).trans (by rw [c_ge (Nat.le_refl _)]; rfl)
/-- What is done with what places lines, if that is what is lent. -/
noncomputable def onWr (lo : List (Option Ob)) (F : Wr → MpE → T MOut) : T MOut := match lo with
  | [some (.cells t [.q (.lst [.str, .int .i64, .int .i64, .int .i64] n g), .q (.lst [.int .i64, .int .i64, .bool, .bool] m f), .q (.c (.int .i64 w)), .q (.c (.int .i64 h)), .mp 1]), some (.map (.one (.int .i64)) true [.int .i64, .int .i64, .bool] es)] =>
      if t = 110 then F ⟨n, g, m, f, w, h⟩ es else .bad
  | _ => .bad
theorem onWr_pick {lo : List (Option Ob)} {F : Wr → MpE → T MOut} {x : MOut} (h : (onWr lo F).pick = some x) : ∃ c es, lo = loWr c es ∧ (F c es).pick = some x := by
  unfold onWr at h
  split at h
  · rename_i t n g m f w h' es
    split at h
    · rename_i ht
      subst ht
      exact ⟨⟨n, g, m, f, w, h'⟩, es, rfl, h⟩
    · cases h
  · cases h
/-- Does a float lie at a Y? -/
noncomputable def Wr.bes (c : Wr) (y : Int) : Bool := besA (plN c.m c.f c.w) (gR c.f c.w c.m) y c.h
theorem pl_le (c : Wr) : plN c.m c.f c.w ≤ 20 := by
  cases hr : rightF c.m c.f c.w with
  | false => simp [plN, hr]
  | true =>
    simp only [plN, hr, cond_true]
    have h1 : decide ((c.m : Int) ≤ 20) = true := by
      unfold rightF at hr
      cases h : decide ((c.m : Int) ≤ 20) with
      | true => rfl
      | false => rw [h] at hr; revert hr; cases allF c.m c.f <;> cases decide (c.w ≥ 0) <;> cases decide (c.w ≤ 1048576) <;> simp
    have := of_decide_eq_true h1
    omega
noncomputable def isB.s (lo : List (Option Ob)) (args : List V) : T MOut := match args with
  | [.ptr 0 0, .q (.c (.int .i64 y))] => onWr lo fun c es => .leaf ⟨loWr c es, V.b (c.bes y)⟩
  | _ => .bad
noncomputable abbrev ΓIb : Gam := [(23, fPlace.s)]
theorem ΓIb.ok : GOK Tryz.prog ΓIb := .cons fPlace.ok (GOK.nil _)
noncomputable abbrev orcIb (c : Wr) (es : MpE) (y : Int) (a : Bool) : St → Out := orc false 71 2 (liveIb .normal) (SIb c es y (plN c.m c.f c.w) (gR c.f c.w c.m) (0 : Nat)) (.ite a (.leaf (Ex.exit 0, mkS 71 [] (loWr c es) [] false [] 2)) (.leaf (.ret, mkS 71 [(4, V.b true)] (loWr c es) [] false [] 2)))
theorem isB.eq (c : Wr) (es : MpE) (y : Int) (a : Bool) : funM Tryz.prog ΓIb [(pIb, orcIb c es y a)] Tryz.f80 (cod Tryz.f80) (fun s => canP 71 2 [4] s) (loWr c es) [.ptr 0 0, V.i y] =
    .ite (@decide (SIb c es y (plN c.m c.f c.w) (gR c.f c.w c.m) (0 : Nat) = SIb c es y (plN c.m c.f c.w) (gR c.f c.w c.m) (0 : Nat)) (Classical.propDecidable _)) (.ite a (.leaf ⟨loWr c es, V.b false⟩) (.leaf ⟨loWr c es, V.b true⟩)) .bad := by kernel_rfl
theorem isB.ok : SpecM Tryz.prog 80 isB.s := by
  refine specM_of_body ΓIb.ok Tryz.func80 (isBody _ (by kernel_rfl)) (by kernel_rfl) fun lo args x hb he => ?_
  unfold isB.s at he
  split at he
  · rename_i y
    obtain ⟨c, es, rfl, he2⟩ := onWr_pick he
    replace he := he2
    have hn : plN c.m c.f c.w ≤ 9223372036854775807 := Nat.le_trans (pl_le c) (by omega)
    refine ⟨_, _, fun s => canP 71 2 [4] s, .rfl, LamOK.orc (p := pIb) (mk := false) (nn := 71) (k := 2) (live := liveIb .normal) (c := .loop bodyIb) (by kernel_rfl) (loopIb c es y _ _ hn) (LamOK.nil _ _), fun s => sub_canP _ _ _ _, (congrArg T.pick (isB.eq c es y _)).trans ?_⟩
    cases he
    refine (pick_same _ _).trans ?_
    unfold Wr.bes besA anyN
    cases (allN (plN c.m c.f c.w) fun i => !(besR (gRc (gR c.f c.w c.m) i) y c.h)) <;> rfl
  · cases he
end Go.Proofs.YthmlbmambcigcaaGreatDoor

/- Lines beside floats, one by one: what is free at a Y. -/
namespace Go.Proofs.YthmlbmambcigcaaGreatDoor
open Go Go.SX Go.Proofs
set_option maxRecDepth 100000
variable [EA]
set_option linter.unusedVariables false
set_option linter.unusedSectionVars false
set_option linter.unusedSimpArgs false

/-! ### room -/
noncomputable def Wr.ra (c : Wr) (y : Int) : Int := bif okYH c.m c.f c.w y c.h then rI (gR c.f c.w c.m) c.f c.w y c.h false c.m else 0
noncomputable def Wr.rb (c : Wr) (y : Int) : Int := bif okYH c.m c.f c.w y c.h then rI (gR c.f c.w c.m) c.f c.w y c.h true c.m else 0
noncomputable def Wr.rw (c : Wr) (y : Int) : Int := mx2 (w64 (w64 (c.w - c.ra y) - c.rb y)) 0
abbrev rmQ (a w : Int) (b : Bool) : List Q := [.c (.int .i64 a), .c (.int .i64 w), .c (.bool b)]
noncomputable abbrev Wr.rq (c : Wr) (y : Int) : List Q := rmQ (c.ra y) (c.rw y) (!(c.bes y))
abbrev zRm : List Q := rmQ 0 0 false
noncomputable abbrev Wr.rv (c : Wr) (y : Int) : List V := [V.i (c.ra y), V.i (c.rw y), V.b (!(c.bes y))]
/-- What is known is what is so. -/
def Wr.good (c : Wr) (es : MpE) : Prop := ∀ y q, findE (.int .i64 y) es = some q → q = c.rq y
noncomputable def Wr.upd (c : Wr) (es : MpE) (y : Int) : MpE := bif (findE (.int .i64 y) es).isSome then es else putE (.int .i64 y) (c.rq y) es
abbrev obRm (vs : List V) : Option Ob := some (.cells 119 vs)
noncomputable def room.s (lo : List (Option Ob)) (args : List V) : T MOut := match args with
  | [.ptr 0 0, .q (.c (.int .i64 y))] => onWr lo fun c es => .ite (@decide (c.good es) (Classical.propDecidable _)) (.leaf ⟨loWr c (c.upd es y) ++ [obRm (c.rv y)], .agg (c.rv y)⟩) .bad
  | _ => .bad
noncomputable abbrev ΓRm : Gam := [(79, fInsets.s), (80, .m isB.s)]
theorem ΓRm.ok : GOK Tryz.prog ΓRm := .cons fInsets.ok (.consM isB.ok (GOK.nil _))
abbrev fdE (es : MpE) (y : Int) : Option (List Q) := findE (.int .i64 y) es
abbrev fdV (es : MpE) (y : Int) : List V := nrmL ksRm ((fdE es y).getD zRm)
theorem room.eq (c : Wr) (es : MpE) (y : Int) : funM Tryz.prog ΓRm [] Tryz.f56 (cod Tryz.f56) (fun s => canP 63 3 [4] s) (loWr c es) [.ptr 0 0, V.i y] =
    .ite (fdE es y).isSome (.leaf ⟨loWr c es ++ [obRm (fdV es y)], .agg (fdV es y)⟩) (.leaf ⟨loWr c (putE (.int .i64 y) (c.rq y) es) ++ [obRm (c.rv y)], .agg (c.rv y)⟩) := by kernel_rfl
theorem keq_int {a b : Int} : keq (.int .i64 a) (.int .i64 b) = true ↔ a = b := by
  simp [keq, keq1]
theorem findE_put {y : Int} {q r : List Q} {z : Int} : ∀ {es : MpE}, findE (.int .i64 z) (putE (.int .i64 y) q es) = some r → (z = y ∧ r = q) ∨ findE (.int .i64 z) es = some r
  | [], h => by
    simp only [putE, findE] at h
    cases hk : keq (.int .i64 z) (.int .i64 y) with
    | true => rw [hk] at h; cases h; exact .inl ⟨keq_int.1 hk, rfl⟩
    | false => rw [hk] at h; cases h
  | (k, q') :: es, h => by
    simp only [putE] at h
    cases hk : keq (.int .i64 y) k with
    | true =>
      rw [hk] at h
      simp only [cond_true, findE] at h
      cases hz : keq (.int .i64 z) (.int .i64 y) with
      | true => rw [hz] at h; cases h; exact .inl ⟨keq_int.1 hz, rfl⟩
      | false =>
        rw [hz] at h
        refine .inr ?_
        simp only [findE]
        cases hzk : keq (.int .i64 z) k with
        | false => exact h
        | true => cases k <;> simp_all [keq, keq1]
    | false =>
      rw [hk] at h
      simp only [cond_false, findE] at h
      cases hzk : keq (.int .i64 z) k with
      | true => rw [hzk] at h; exact .inr (by simp only [findE, hzk]; exact h)
      | false =>
        rw [hzk] at h
        rcases findE_put h with h | h
        · exact .inl h
        · exact .inr (by simp only [findE, hzk]; exact h)
theorem Wr.upd_good {c : Wr} {es : MpE} (h : c.good es) (y : Int) : c.good (c.upd es y) := fun z q hq => by
  unfold Wr.upd at hq
  cases hi : (findE (.int .i64 y) es).isSome with
  | true => rw [hi] at hq; exact h z q hq
  | false =>
    rw [hi] at hq
    rcases findE_put hq with ⟨rfl, rfl⟩ | hq
    · rfl
    · exact h z q hq
theorem room.ok : SpecM Tryz.prog 56 room.s := by
  refine specM_of_body ΓRm.ok Tryz.func56 (isBody _ (by kernel_rfl)) (by kernel_rfl) fun lo args x hb he => ?_
  unfold room.s at he
  split at he
  · rename_i y
    obtain ⟨c, es, rfl, he2⟩ := onWr_pick he
    replace he := he2
    rw [pick_ite] at he
    by_cases hg : c.good es
    · rw [@decide_eq_true _ (Classical.propDecidable _) hg] at he
      cases he
      refine ⟨_, [], fun s => canP 63 3 [4] s, .rfl, LamOK.nil _ _, fun s => sub_canP _ _ _ _, (congrArg T.pick (room.eq c es y)).trans ?_⟩
      rw [pick_ite, Wr.upd]
      cases hf : fdE es y with
      | none => rw [show findE (.int .i64 y) es = none from hf]; rfl
      | some q =>
        rw [show findE (.int .i64 y) es = some q from hf]
        have := hg y q hf
        subst this
        simp only [fdV, hf]
        rfl
    · rw [@decide_eq_false _ (Classical.propDecidable _) hg] at he; cases he
  · cases he
end Go.Proofs.YthmlbmambcigcaaGreatDoor

/- Lines beside floats, one by one: the line that begins with a word, tried from a Y on. -/
namespace Go.Proofs.YthmlbmambcigcaaGreatDoor
open Go Go.SX Go.Proofs
set_option maxRecDepth 100000
variable [EA]
set_option linter.unusedVariables false
set_option linter.unusedSectionVars false
set_option linter.unusedSimpArgs false

/-! ### the first that stops -/
def fstN (p : Nat → Bool) : Nat → Nat
  | 0 => 0
  | n + 1 => bif p (fstN p n) then fstN p n else n + 1
theorem fstN_le (p : Nat → Bool) : ∀ n, fstN p n ≤ n
  | 0 => Nat.le_refl _
  | n + 1 => by
    have := fstN_le p n
    simp only [fstN]
    cases p (fstN p n)
    · exact Nat.le_refl _
    · exact Nat.le_succ_of_le this
theorem fstN_stop (p : Nat → Bool) : ∀ n, fstN p n < n → p (fstN p n) = true
  | 0, h => by cases h
  | n + 1, h => by
    simp only [fstN] at h ⊢
    cases hp : p (fstN p n) with
    | true => simp only [cond_true]; exact hp
    | false => rw [hp] at h; simp only [cond_false] at h; omega
theorem fstN_before (p : Nat → Bool) : ∀ n j, j < fstN p n → p j = false
  | 0, j, h => by cases h
  | n + 1, j, h => by
    simp only [fstN] at h
    cases hp : p (fstN p n) with
    | true => rw [hp] at h; exact fstN_before p n j h
    | false =>
      rw [hp] at h
      have h1 := fstN_le p n
      rcases Nat.lt_or_ge j (fstN p n) with hlt | hge
      · exact fstN_before p n j hlt
      · rcases Nat.lt_or_ge (fstN p n) n with hln | hln
        · exact absurd hp (by rw [fstN_stop p n hln]; simp)
        · simp only [cond_false] at h
          rw [show j = fstN p n by omega]; exact hp
theorem fstN_spec (p : Nat → Bool) {n : Nat} (h : ∃ j, j ≤ n ∧ p j = true) : p (fstN p n) = true := by
  obtain ⟨j, hj, hp⟩ := h
  have h1 := fstN_le p n
  rcases Nat.lt_or_ge (fstN p n) n with hlt | hge
  · exact fstN_stop p n hlt
  · rcases Nat.lt_or_ge j (fstN p n) with h2 | h2
    · rw [fstN_before p n j h2] at hp; cases hp
    · rw [show fstN p n = j by omega]; exact hp
theorem anyN_true {n : Nat} {p : Nat → Bool} (h : anyN n p = true) : ∃ i, i < n ∧ p i = true := by
  refine Classical.byContradiction fun hc => ?_
  have : allN n (fun i => !(p i)) = true := allN_true fun i hi => by
    cases hp : p i with
    | true => exact absurd ⟨i, hi, hp⟩ hc
    | false => rfl
  simp [anyN, this] at h

/-! ### from Y to Y -/
/-- Where it is tried next. -/
noncomputable def Wr.nxt (c : Wr) (y : Int) : Int := bif rightF c.m c.f c.w then (rEb (gR c.f c.w c.m) y c.m).1 else 0
noncomputable def Wr.low (c : Wr) : Int := bif rightF c.m c.f c.w then lowS (gR c.f c.w c.m) c.m else 0
theorem Wr.nxt_gt {c : Wr} {y : Int} (h : c.bes y = true) : y < c.nxt y ∧ y < c.low := by
  unfold Wr.bes besA at h
  obtain ⟨i, hi, hb⟩ := anyN_true h
  cases hr : rightF c.m c.f c.w with
  | false => simp [plN, hr] at hi
  | true =>
    simp only [plN, hr, cond_true] at hi
    have hlt : y < lowE (gRc (gR c.f c.w c.m) i) := by
      unfold besR at hb
      revert hb
      cases decide ((gRc (gR c.f c.w c.m) i).w > 0) <;> cases decide ((gRc (gR c.f c.w c.m) i).h > 0) <;> cases decide ((gRc (gR c.f c.w c.m) i).y < w64 (y + c.h)) <;> simp only [cond_true, cond_false] <;> intro hb
      all_goals first | (cases hb; done) | exact of_decide_eq_true hb
    obtain ⟨hp, hl⟩ := lowS_ge (g := gR c.f c.w c.m) c.m
    have hE := ends_eq y hl c.m (Nat.le_refl _)
    have h4 := hE.h4 i hi hlt
    refine ⟨?_, ?_⟩
    · simp only [Wr.nxt, hr, cond_true]; exact (hE.h2 h4.1).1
    · simp only [Wr.low, hr, cond_true]; exact Int.lt_of_lt_of_le hlt (hl i hi)
/-- Is it tried further on? -/
noncomputable def Wr.go (c : Wr) (i : Nat) (y : Int) : Bool := bif decide ((gWd c.g i).w > c.rw y) then !(!(c.bes y)) else false
noncomputable def Wr.yk (c : Wr) (y : Int) : Nat → Int
  | 0 => y
  | k + 1 => c.nxt (c.yk y k)
noncomputable def Wr.ek (c : Wr) (es : MpE) (y : Int) : Nat → MpE
  | 0 => c.upd es y
  | k + 1 => c.upd (c.ek es y k) (c.yk y (k + 1))
noncomputable def Wr.kn (c : Wr) (i : Nat) (y : Int) : Nat := fstN (fun k => !(c.go i (c.yk y k))) (c.low - y).toNat
noncomputable def Wr.yz (c : Wr) (i : Nat) (y : Int) : Int := c.yk y (c.kn i y)
theorem Wr.go_bes {c : Wr} {i : Nat} {y : Int} (h : c.go i y = true) : c.bes y = true := by
  unfold Wr.go at h
  revert h
  cases decide ((gWd c.g i).w > c.rw y) <;> cases c.bes y <;> simp
theorem Wr.yk_ge {c : Wr} {i : Nat} {y : Int} : ∀ k, (∀ j, j < k → c.go i (c.yk y j) = true) → y + k ≤ c.yk y k
  | 0, _ => by simp [Wr.yk]
  | k + 1, h => by
    have h1 := Wr.yk_ge k fun j hj => h j (by omega)
    have h2 := (Wr.nxt_gt (Wr.go_bes (h k (by omega)))).1
    simp only [Wr.yk]
    omega
theorem Wr.kn_stop (c : Wr) (i : Nat) (y : Int) : c.go i (c.yz i y) = false := by
  have : (!(c.go i (c.yk y (c.kn i y)))) = true := by
    refine fstN_spec (fun k => !(c.go i (c.yk y k))) ?_
    refine Classical.byContradiction fun hc => ?_
    have ha : ∀ j, j ≤ (c.low - y).toNat → c.go i (c.yk y j) = true := fun j hj => by
      cases hg : c.go i (c.yk y j) with
      | true => rfl
      | false => exact absurd ⟨j, hj, by rw [hg]; rfl⟩ hc
    have h1 := Wr.yk_ge (c := c) (i := i) (y := y) (c.low - y).toNat fun j hj => ha j (by omega)
    have h2 := (Wr.nxt_gt (Wr.go_bes (ha _ (Nat.le_refl _)))).2
    omega
  simpa [Wr.yz] using this
theorem Wr.kn_go (c : Wr) (i : Nat) (y : Int) {j : Nat} (h : j < c.kn i y) : c.go i (c.yk y j) = true := by
  have := fstN_before (fun k => !(c.go i (c.yk y k))) _ j h
  simpa using this
theorem Wr.ek_good {c : Wr} {es : MpE} (h : c.good es) (y : Int) : ∀ k, c.good (c.ek es y k)
  | 0 => Wr.upd_good h y
  | k + 1 => Wr.upd_good (Wr.ek_good h y k) _

/-! ### from -/
abbrev obPl (vs : List V) : Option Ob := some (.cells 39 vs)
abbrev zPl : List V := [V.i 0, V.i 0, V.i 0, V.i 0, V.i 0]
noncomputable def SFr (c : Wr) (es : MpE) (i : Nat) (y : Int) : St := mkS 64 [(0, .ptr 0 0), (1, V.i i), (2, V.i y), (6, .ptr 2 0), (7, .ptr 3 0)] [obWr c 1, obMp es, obPl zPl, obRm (c.rv y)] [] false [] 2
def liveFr : Ex → List Nat := fun _ => [0, 1, 2, 6, 7]
abbrev pFr : List Nat := [0, 0, 1, 1]
noncomputable abbrev bodyFr : Code := loopAt Tryz.f57 pFr
noncomputable abbrev ΓFr : Gam := [(56, .m room.s), (81, fNext.s), (21, lNext.s)]
theorem ΓFr.ok : GOK Tryz.prog ΓFr := .consM room.ok (.cons fNext.ok (.cons lNext.ok (GOK.nil _)))
noncomputable abbrev treeFr (s : St) : T (Ex × St × Bool) := ltree Tryz.prog ΓFr [] pFr bodyFr 64 4 liveFr poN s
theorem stepFr (c : Wr) (es : MpE) (i : Nat) (y : Int) : treeFr (SFr c es i y) =
    .ite (bif inI i c.n then true else false) (.ite (c.go i y) (.ite (@decide (c.good es) (Classical.propDecidable _)) (.leaf (.normal, SFr c (c.upd es (c.nxt y)) i (c.nxt y), true)) .bad) (.leaf (.exit 0, SFr c es i y, true))) .bad := by kernel_rfl
theorem loopFr (c : Wr) (es : MpE) (i : Nat) (y : Int) (hi : i < c.n) (hg : c.good es) : ∀ x, (T.leaf (Ex.exit 0, SFr c (c.ek es y (c.kn i y)) i (c.yz i y))).pick = some x → SemC Tryz.prog (.loop bodyFr) (SFr c (c.upd es y) i y) x :=
  loop_nat ΓFr.ok (root := cod Tryz.f57) (p := pFr) (by kernel_rfl) (c.kn i y) (fun _ => True) (fun j => SFr c (c.ek es y j) i (c.yk y j)) (.leaf (.exit 0, SFr c (c.ek es y (c.kn i y)) i (c.yz i y))) 64 4 liveFr poN poN_ok (fun j hj _ => by
    have e := stepFr c (c.ek es y j) i (c.yk y j)
    rcases Nat.lt_or_ge j (c.kn i y) with hlt | hge
    · refine ⟨[], .normal, SFr c (c.ek es y (j + 1)) i (c.yk y (j + 1)), LamOK.nil _ _, (congrArg T.pick e).trans ?_, .inl ⟨rfl, hlt, trivial, rfl⟩⟩
      rw [c_inI hi, Wr.kn_go c i y hlt]
      simp only [pick_ite, cond_true]
      rw [@decide_eq_true _ (Classical.propDecidable _) (Wr.ek_good hg y j)]
      rfl
    · have h : j = c.kn i y := by omega
      subst h
      refine ⟨[], .exit 0, _, LamOK.nil _ _, (congrArg T.pick e).trans ?_, .inr ⟨by simp, rfl⟩⟩
      rw [c_inI hi, show c.go i (c.yk y (c.kn i y)) = false from Wr.kn_stop c i y]
      rfl) trivial
/-- The line that begins with a word, placed. -/
noncomputable def Wr.fr (c : Wr) (i : Nat) (y : Int) : Pl := ⟨(nextR c.n c.g i (c.rw (c.yz i y))).1.a, (nextR c.n c.g i (c.rw (c.yz i y))).1.z, (nextR c.n c.g i (c.rw (c.yz i y))).1.w, c.ra (c.yz i y), c.yz i y⟩
abbrev plL (p : Pl) : List V := [V.i p.a, V.i p.z, V.i p.w, V.i p.x, V.i p.y]
noncomputable def frP (c : Wr) (i : Nat) (y : Int) : Pl := ⟨(nextR c.n c.g i (c.rw y)).1.a, (nextR c.n c.g i (c.rw y)).1.z, (nextR c.n c.g i (c.rw y)).1.w, c.ra y, y⟩
noncomputable def from.s (lo : List (Option Ob)) (args : List V) : T MOut := match args with
  | [.ptr 0 0, .q (.c (.int .i64 i)), .q (.c (.int .i64 y))] => onWr lo fun c es => .ite (decide (0 ≤ i ∧ i < (c.n : Int))) (.ite (@decide (c.good es) (Classical.propDecidable _)) (.ite (allN c.n (szW c.g))
      (.leaf ⟨loWr c (c.ek es y (c.kn i.toNat y)) ++ [obPl (plL (c.fr i.toNat y))], .agg (plL (c.fr i.toNat y))⟩) .bad) .bad) .bad
  | _ => .bad
theorem from.eq (c : Wr) (es es2 : MpE) (i : Nat) (y y2 : Int) : funM Tryz.prog ΓFr [(pFr, orcP (mvL [(4, 3)]) false 64 4 (liveFr .normal) (SFr c (c.upd es y) i y) (.leaf (Ex.exit 0, SFr c es2 i y2)))] Tryz.f57 (cod Tryz.f57) (fun s => canP 64 3 [6] s) (loWr c es) [.ptr 0 0, V.i i, V.i y] =
    .ite (@decide (c.good es) (Classical.propDecidable _)) (.ite (@decide (SFr c (c.upd es y) i y = SFr c (c.upd es y) i y) (Classical.propDecidable _)) (.ite (allN c.n (szW c.g)) (.leaf ⟨loWr c es2 ++ [obPl (plL (frP c i y2))], .agg (plL (frP c i y2))⟩) .bad) .bad) .bad := by kernel_rfl
theorem from.ok : SpecM Tryz.prog 57 from.s := by
  refine specM_of_body ΓFr.ok Tryz.func57 (isBody _ (by kernel_rfl)) (by kernel_rfl) fun lo args x hb he => ?_
  unfold from.s at he
  split at he
  · rename_i i y
    obtain ⟨c, es, rfl, he2⟩ := onWr_pick he
    replace he := he2
    by_cases hi : 0 ≤ i ∧ i < (c.n : Int)
    · rw [decide_eq_true hi, pick_ite, cond_true, pick_ite] at he
      obtain ⟨k, rfl⟩ := Int.eq_ofNat_of_zero_le hi.1
      by_cases hg : c.good es
      · rw [@decide_eq_true _ (Classical.propDecidable _) hg, cond_true] at he
        refine ⟨_, _, fun s => canP 64 3 [6] s, .rfl, LamOK.orcP (pre := mvL [(4, 3)]) (fun s => sub_mvL _ s) (p := pFr) (mk := false) (nn := 64) (k := 4) (live := liveFr .normal) (c := .loop bodyFr) (by kernel_rfl) (loopFr c es k y (by omega) hg) (LamOK.nil _ _), fun s => sub_canP _ _ _ _, (congrArg T.pick (from.eq c es _ k y _)).trans ?_⟩
        rw [pick_ite, @decide_eq_true _ (Classical.propDecidable _) hg, cond_true]
        exact (pick_same _ _).trans he
      · rw [@decide_eq_false _ (Classical.propDecidable _) hg] at he; cases he
    · rw [decide_eq_false hi] at he; cases he
  · cases he
end Go.Proofs.YthmlbmambcigcaaGreatDoor

/- Lines beside floats, one by one: those that lines goes through. -/
namespace Go.Proofs.YthmlbmambcigcaaGreatDoor
open Go Go.SX Go.Proofs
set_option maxRecDepth 100000
variable [EA]
set_option linter.unusedVariables false
set_option linter.unusedSectionVars false
set_option linter.unusedSimpArgs false

abbrev boxWr (k : Nat) : Option Ob := some (.cells 68 [.ptr k 0])
abbrev loWl (c : Wr) (es : MpE) (go : Go) (adm : Ad) : List (Option Ob) := [boxWr 1, obWr c 2, obMp es, some (.yl go adm)]
abbrev pWi : List Nat := [0, 1, 0, 1, 0, 1, 0, 0, 1, 1, 1, 0]
abbrev pWo : List Nat := [0, 1, 1, 1, 0]
noncomputable abbrev bodyWi : Code := loopAt Tryz.f55 pWi
noncomputable abbrev bodyWo : Code := loopAt Tryz.f55 pWo
def SWi (go : Go) (adm : Ad) (c : Wr) (es : MpE) (ys : List (List V)) (i : Nat) (y n j : Int) : St := mkS 67 [(0, .yld 3), (1, .ptr 0 0), (3, V.i y), (4, V.i i), (27, V.i n), (28, V.i j)] (loWl c es go adm) [] false ys 0
def SWo (go : Go) (adm : Ad) (c : Wr) (es : MpE) (ys : List (List V)) (i : Int) (y : Int) : St := mkS 67 [(0, .yld 3), (1, .ptr 0 0), (3, V.i y), (4, V.i i)] (loWl c es go adm) [] false ys 0
def FWi (go : Go) (adm : Ad) (ys : List (List V)) : St := mkS 67 [] [some .dead, some .dead, some .dead, some (.yl go adm)] [] false ys 0
def liveWi : Ex → List Nat | .normal => [0, 1, 3, 4, 27, 28] | .exit 2 => [0, 1, 3, 4] | _ => []
def liveWo : Ex → List Nat | .normal => [0, 1, 3, 4] | _ => []
def poD : Ex → St → St
  | .exit 0, s => deadS [0, 1, 2] s
  | _, s => s
noncomputable abbrev ΓWl : Gam := [(56, .m room.s), (57, .m from.s)]
theorem ΓWl.ok : GOK Tryz.prog ΓWl := .consM room.ok (.consM from.ok (GOK.nil _))
noncomputable abbrev treeWi' (s : St) : T (Ex × St × Bool) := ltree Tryz.prog ΓWl [] pWi bodyWi 67 4 liveWi poD s
abbrev xp (p : Pl) : List V := [plV p]
noncomputable abbrev Wr.nil (c : Wr) (i : Nat) (y : Int) : Pl := ⟨i, i, 0, c.ra y, y⟩
theorem stepWi' (go : Go) (adm : Ad) (c : Wr) (es : MpE) (ys : List (List V)) (i : Nat) (y n : Int) (j : Nat) : treeWi' (SWi go adm c es ys i y n j) =
    .ite (decide ((j : Int) < n)) (.ite (@decide (c.good es) (Classical.propDecidable _)) (.ite (adm ys (xp (c.nil i y))) (.ite (!(go (ys ++ [xp (c.nil i y)]))) (.leaf (.exit 0, FWi go adm (ys ++ [xp (c.nil i y)]), true))
      (.leaf (.normal, SWi go adm c (c.upd es y) (ys ++ [xp (c.nil i y)]) i (w64 (y + c.h)) n (w64 (j + 1)), true))) .bad) .bad) (.leaf (.exit 2, SWo go adm c es ys i y, true)) := by kernel_rfl
abbrev emW (g : Nat → Nat → Q) (i : Nat) : Int := w64 ((gWd g i).h - (if 1 < (i : Int) then 1 else (i : Int)))
theorem poD_ok (e : Ex) (s : St) : Sub Tryz.prog s (poD e s) := by
  unfold poD
  split
  · exact sub_dead _ _
  · exact Sub.refl s
noncomputable abbrev orWi (go : Go) (adm : Ad) (c : Wr) (es : MpE) (ys : List (List V)) (i : Nat) (y n : Int) (b : Bool) (es' : MpE) (ys' : List (List V)) (y' : Int) (ysK : List (List V)) : Lam :=
  [(pWi, orc false 67 4 [0, 1, 3, 4, 27, 28] (SWi go adm c es ys i y n (0 : Nat)) (.ite b (.leaf (.exit 2, SWo go adm c es' ys' i y')) (.leaf (.exit 0, FWi go adm ysK))))]
noncomputable abbrev treeWo (Λ : Lam) (s : St) : T (Ex × St × Bool) := ltree Tryz.prog ΓWl Λ pWo bodyWo 67 4 liveWo poD s
theorem stepWo (go : Go) (adm : Ad) (c : Wr) (es : MpE) (ys : List (List V)) (i : Nat) (y : Int) (b : Bool) (es' : MpE) (ys' : List (List V)) (y' : Int) (ysK : List (List V)) : treeWo (orWi go adm c es ys i y (emW c.g i) b es' ys' y' ysK) (SWo go adm c es ys i y) =
    .ite (decide ((i : Int) < c.n)) (.ite (inI i c.n) (.ite (@decide (SWi go adm c es ys i y (emW c.g i) (0 : Nat) = SWi go adm c es ys i y (emW c.g i) (0 : Nat)) (Classical.propDecidable _)) (.ite b
      (.ite (inI i c.n) (.ite (@decide (c.good es') (Classical.propDecidable _)) (.ite (allN c.n (szW c.g)) (.ite (adm ys' (xp (c.fr i y'))) (.ite (!(go (ys' ++ [xp (c.fr i y')]))) (.leaf (.exit 0, FWi go adm (ys' ++ [xp (c.fr i y')]), true))
        (.leaf (.normal, SWo go adm c (c.ek es' y' (c.kn i y')) (ys' ++ [xp (c.fr i y')]) (c.fr i y').z (w64 ((c.fr i y').y + c.h)), true))) .bad) .bad) .bad) .bad)
      (.leaf (.exit 0, FWi go adm ysK, true))) .bad) .bad) (.leaf (.exit 0, FWi go adm ys, true)) := by kernel_rfl
end Go.Proofs.YthmlbmambcigcaaGreatDoor

/- Lines beside floats, one by one: the iterator that goes through them. -/
namespace Go.Proofs.YthmlbmambcigcaaGreatDoor
open Go Go.SX Go.Proofs
set_option maxRecDepth 100000
variable [EA]
set_option linter.unusedVariables false
set_option linter.unusedSectionVars false
set_option linter.unusedSimpArgs false

/-! ### what is placed -/
noncomputable def Wr.y1 (c : Wr) (y : Int) : Nat → Int
  | 0 => y
  | j + 1 => w64 (c.y1 y j + c.h)
noncomputable def Wr.e1 (c : Wr) (es : MpE) (y : Int) : Nat → MpE
  | 0 => es
  | j + 1 => c.upd (c.e1 es y j) (c.y1 y j)
theorem Wr.e1_good {c : Wr} {es : MpE} (h : c.good es) (y : Int) : ∀ j, c.good (c.e1 es y j)
  | 0 => h
  | j + 1 => Wr.upd_good (Wr.e1_good h y j) _
noncomputable def Wr.nils (c : Wr) (i k : Nat) (y : Int) : List Pl := (List.range k).map fun j => c.nil i (c.y1 y j)
noncomputable def Wr.zN (c : Wr) (i : Nat) (y : Int) : Nat := nextZ c.n c.g (c.rw (c.yz i y)) i
noncomputable def Wr.plF (c : Wr) : Nat → Nat → Int → List Pl
  | 0, _, _ => []
  | f + 1, i, y => if i < c.n then c.nils i (emptyN c.g i) y ++ c.fr i (c.y1 y (emptyN c.g i)) :: c.plF f (c.zN i (c.y1 y (emptyN c.g i))) (w64 ((c.fr i (c.y1 y (emptyN c.g i))).y + c.h)) else []
/-- All lines, placed. -/
noncomputable def Wr.pls (c : Wr) : List Pl := c.plF c.n 0 0
theorem Wr.plF_end (c : Wr) (f i : Nat) (y : Int) (h : c.n ≤ i) : c.plF f i y = [] := by
  cases f with
  | zero => rfl
  | succ f => rw [Wr.plF, if_neg (by omega)]
/-- All is right. -/
structure Wr.ok (c : Wr) : Prop where
  rw_ : rightW c.n c.g = true
  rf : rightF c.m c.f c.w = true
  h1 : 1 ≤ c.h
  h2 : c.h ≤ MS
theorem Wr.nils_suc (c : Wr) (i j : Nat) (y : Int) : c.nils i (j + 1) y = c.nils i j y ++ [c.nil i (c.y1 y j)] := by
  simp [Wr.nils, List.range_succ]
theorem Wr.nils_len (c : Wr) (i k : Nat) (y : Int) : (c.nils i k y).length = k := by simp [Wr.nils]
theorem Wr.nils_at (c : Wr) (i k j : Nat) (y : Int) (h : j < k) : ∃ r, c.nils i k y = c.nils i j y ++ c.nil i (c.y1 y j) :: r := by
  refine ⟨(c.nils i k y).drop (j + 1), ?_⟩
  have h1 : (c.nils i k y).take j = c.nils i j y := by
    simp only [Wr.nils, ← List.map_take, List.take_range]
    rw [Nat.min_eq_left (by omega)]
  have h2 : (c.nils i k y)[j]'(by rw [Wr.nils_len]; exact h) = c.nil i (c.y1 y j) := by simp [Wr.nils]
  rw [← h1, ← h2, ← List.drop_eq_getElem_cons, List.take_append_drop]
theorem Wr.rw_rng {c : Wr} (h : c.ok) (y : Int) : 0 ≤ c.rw y ∧ c.rw y ≤ MS := by
  have hF := fl_right_ok.1 h.rf
  have hg := (gR_all hF c.m (Nat.le_refl _)).ok
  have ha : ∀ b, 0 ≤ (bif okYH c.m c.f c.w y c.h then rI (gR c.f c.w c.m) c.f c.w y c.h b c.m else 0) ∧ (bif okYH c.m c.f c.w y c.h then rI (gR c.f c.w c.m) c.f c.w y c.h b c.m else 0) ≤ MS := fun b => by
    cases ho : okYH c.m c.f c.w y c.h with
    | false => exact ⟨Int.le_refl _, by simp only [MS, cond_false]; omega⟩
    | true =>
      simp only [okYH, h.rf, cond_true] at ho
      have hb : bad4 y c.h = false := by simpa using ho
      have := rI_all (f := c.f) hg (yh_of hb) hF.h0 hF.h1 b c.m (Nat.le_refl _)
      exact ⟨this.1, this.2.1⟩
  have h1 := ha false
  have h2 := ha true
  have h3 := hF.h0
  have h4 := hF.h1
  unfold Wr.rw Wr.ra Wr.rb
  revert h1 h2
  generalize (bif okYH c.m c.f c.w y c.h then rI (gR c.f c.w c.m) c.f c.w y c.h false c.m else 0) = a
  generalize (bif okYH c.m c.f c.w y c.h then rI (gR c.f c.w c.m) c.f c.w y c.h true c.m else 0) = b
  intro h1 h2
  simp only [MS] at *
  rw [w64_id (show -9223372036854775808 ≤ c.w - a by omega) (by omega), w64_id (show -9223372036854775808 ≤ c.w - a - b by omega) (by omega)]
  unfold mx2
  omega
theorem Wr.chk {c : Wr} (h : c.ok) (y : Int) : chkW c.n c.g (c.rw y) = 0 := by
  have := Wr.rw_rng h y
  simp only [MS] at this
  unfold chkW badI
  rw [h.rw_, decide_eq_false (show ¬ c.rw y < 0 by omega), decide_eq_false (show ¬ c.rw y > 1048576 by omega)]
  rfl
theorem Wr.next {c : Wr} (h : c.ok) (y : Int) {i : Nat} (hi : i < c.n) : nextR c.n c.g i (c.rw y) = (nextL c.n c.g (c.rw y) i, 0) := by
  unfold nextR
  rw [Wr.chk h y, decide_eq_true (show 0 ≤ (i : Int) ∧ (i : Int) < c.n by omega)]
  rfl
theorem Wr.fr_z {c : Wr} (h : c.ok) (y : Int) {i : Nat} (hi : i < c.n) : (c.fr i y).z = (c.zN i y : Nat) := by
  unfold Wr.fr
  rw [Wr.next h _ hi]; rfl
theorem Wr.fr_l {c : Wr} (h : c.ok) (y : Int) {i : Nat} (hi : i < c.n) : (c.fr i y).l = nextL c.n c.g (c.rw (c.yz i y)) i := by
  unfold Wr.fr Pl.l
  rw [Wr.next h _ hi]
/-! ### the loops -/
abbrev xPl (L : List Pl) (k : Nat) : List V := xp (L.getD k ⟨0, 0, 0, 0, 0⟩)
theorem xPl_at {L pre suf : List Pl} {x : Pl} (h : L = pre ++ x :: suf) : xPl L pre.length = xp x := by
  subst h
  simp [xPl, List.getD_eq_getElem?_getD]
theorem pl_lt {L pre suf : List Pl} {x : Pl} (h : L = pre ++ x :: suf) : pre.length < L.length := by
  subst h
  simp
theorem loopWi (go : Go) (adm : Ad) (c : Wr) (es : MpE) (hg : c.good es) (L pre suf : List Pl) (i : Nat) (y n : Int) (hL : L = pre ++ (c.nils i n.toNat y ++ suf)) (hc : n ≤ 1000000) (hadm : Admits go adm L.length (xPl L)) (K : Nat) (hK : Stops go (xPl L) L.length K)
    (hm : okM go (xPl L) pre.length) (b : Bool) (hb : b = true ↔ okM go (xPl L) (pre.length + n.toNat)) :
    ∀ x, (T.ite b (.leaf (Ex.exit 2, SWo go adm c (c.e1 es y n.toNat) (hist (xPl L) (pre.length + n.toNat)) i (c.y1 y n.toNat))) (.leaf (.exit 0, FWi go adm (hist (xPl L) K)))).pick = some x → SemC Tryz.prog (.loop bodyWi) (SWi go adm c es (hist (xPl L) pre.length) i y n (0 : Nat)) x := by
  refine loop_nat ΓWl.ok (root := cod Tryz.f55) (p := pWi) (by kernel_rfl) n.toNat (fun j => okM go (xPl L) (pre.length + j)) (fun j => SWi go adm c (c.e1 es y j) (hist (xPl L) (pre.length + j)) i (c.y1 y j) n j) _ 67 4 liveWi poD poD_ok (fun j hj hok => ?_) hm
  have e := stepWi' go adm c (c.e1 es y j) (hist (xPl L) (pre.length + j)) i (c.y1 y j) n j
  rcases Nat.lt_or_ge j n.toNat with hlt | hge
  · obtain ⟨r, hr⟩ := Wr.nils_at c i n.toNat j y hlt
    have hL' : L = (pre ++ c.nils i j y) ++ c.nil i (c.y1 y j) :: (r ++ suf) := by rw [hL, hr]; simp
    have hlen : (pre ++ c.nils i j y).length = pre.length + j := by rw [List.length_append, Wr.nils_len]
    have hx := xPl_at hL'
    have hl := pl_lt hL'
    rw [hlen] at hx hl
    have hc1 : decide ((j : Int) < n) = true := decide_eq_true (by omega)
    have ha : adm (hist (xPl L) (pre.length + j)) (xp (c.nil i (c.y1 y j))) = true := by rw [← hx]; exact hadm _ hl hok
    have hs : hist (xPl L) (pre.length + j) ++ [xp (c.nil i (c.y1 y j))] = hist (xPl L) (pre.length + (j + 1)) := by rw [← hx, ← hist_succ]; rfl
    have hw : w64 ((j : Int) + 1) = ((j + 1 : Nat) : Int) := w64_suc (show j < 1000001 by omega) (by omega)
    rw [hc1, @decide_eq_true _ (Classical.propDecidable _) (Wr.e1_good hg y j), ha, hs, hw] at e
    cases hgo : go (hist (xPl L) (pre.length + (j + 1))) with
    | true => exact ⟨[], .normal, _, LamOK.nil _ _, (congrArg T.pick e).trans (by rw [hgo]; rfl), .inl ⟨rfl, hlt, okM_suc hok hgo, rfl⟩⟩
    | false =>
      have hk := stops_at hK hl hok hgo
      have hbf : b = false := by
        cases hbb : b with
        | false => rfl
        | true =>
          have := (hb.1 hbb) (pre.length + j) (by omega)
          rw [show pre.length + j + 1 = pre.length + (j + 1) by omega, hgo] at this
          cases this
      refine ⟨[], .exit 0, _, LamOK.nil _ _, (congrArg T.pick e).trans (by rw [hgo]; rfl), .inr ⟨by simp, ?_⟩⟩
      rw [hbf, hk]; rfl
  · have h : j = n.toNat := by omega
    subst h
    have hc1 : decide (((n.toNat : Nat) : Int) < n) = false := decide_eq_false (by omega)
    rw [hc1] at e
    exact ⟨[], .exit 2, _, LamOK.nil _ _, (congrArg T.pick e).trans rfl, .inr ⟨by simp, by rw [hb.2 hok]; rfl⟩⟩
theorem emW_eq {n : Nat} {g : Nat → Nat → Q} (h : okH n g) {i : Nat} (hi : i < n) : (emW g i).toNat = emptyN g i ∧ emW g i ≤ 400 := by
  have hh := h.2 i hi
  rcases Nat.lt_or_ge 1 i with h1 | h1
  · have e : emW g i = emptyI g i := by
      show w64 ((gWd g i).h - (if 1 < (i : Int) then 1 else (i : Int))) = _
      rw [if_pos (by omega), emptyI, decide_eq_true (show (i : Int) > 0 by omega)]; rfl
    rw [e]; exact emptyI_eq h hi
  · have e : emW g i = emptyI g i := by
      show w64 ((gWd g i).h - (if 1 < (i : Int) then 1 else (i : Int))) = _
      rw [if_neg (by omega), emptyI]
      rcases (show i = 0 ∨ i = 1 by omega) with rfl | rfl
      · show w64 ((gWd g 0).h - 0) = (gWd g 0).h
        rw [Int.sub_zero]; exact w64_id (by omega) (by omega)
      · rfl
    rw [e]; exact emptyI_eq h hi
theorem endWo (go : Go) (adm : Ad) (c : Wr) (es : MpE) (ys : List (List V)) (i : Nat) (y : Int) (hi : c.n ≤ i) : (treeWo [] (SWo go adm c es ys i y)).pick = some (.exit 0, FWi go adm ys, true) :=
  T.pick_at [false] [decide ((i : Int) < c.n)] (by kernel_rfl) (by rw [c_ge hi]) (by kernel_rfl)
theorem loopWo (go : Go) (adm : Ad) (c : Wr) (es : MpE) (hg : c.good es) (hok : c.ok) (hsz : allN c.n (szW c.g) = true) (hadm : Admits go adm c.pls.length (xPl c.pls)) (K : Nat) (hK : Stops go (xPl c.pls) c.pls.length K) :
    ∀ x, (T.leaf (Ex.exit 0, FWi go adm (hist (xPl c.pls) K))).pick = some x → SemC Tryz.prog (.loop bodyWo) (SWo go adm c es [] (0 : Nat) 0) x := by
  have hH := right_ok hok.rw_
  refine loop_treeP ΓWl.ok (root := cod Tryz.f55) (p := pWo) (by kernel_rfl) (ι := List Pl × Nat × Nat × Int × MpE) (fun z => z.2.1 ≤ c.n ∧ c.n ≤ z.2.2.1 + z.2.1 ∧ c.pls = z.1 ++ c.plF z.2.2.1 z.2.1 z.2.2.2.1 ∧ okM go (xPl c.pls) z.1.length ∧ c.good z.2.2.2.2)
    (fun z => SWo go adm c z.2.2.2.2 (hist (xPl c.pls) z.1.length) z.2.1 z.2.2.2.1) (fun z => c.n - z.2.1) _ 67 4 liveWo (fun _ => []) poD poD_ok (fun z hz => ?_) ([], 0, c.n, 0, es) ⟨Nat.zero_le _, by simp, rfl, fun j hj => absurd hj (by simp), hg⟩
  obtain ⟨pre, i, f, y, es⟩ := z
  obtain ⟨h1, h2, h3, h4, h5⟩ := hz
  replace h1 : i ≤ c.n := h1
  replace h2 : c.n ≤ f + i := h2
  replace h3 : c.pls = pre ++ c.plF f i y := h3
  replace h4 : okM go (xPl c.pls) pre.length := h4
  replace h5 : c.good es := h5
  rcases Nat.lt_or_ge i c.n with hlt | hge
  · obtain ⟨f, rfl⟩ : ∃ f', f = f' + 1 := ⟨f - 1, by omega⟩
    rw [Wr.plF, if_pos hlt] at h3
    obtain ⟨he1, he2⟩ := emW_eq hH hlt
    rw [← he1] at h3
    generalize hn : emW c.g i = n at h3 he1 he2
    have hz1 : i < c.zN i (c.y1 y n.toNat) := nextZ_gt c.n c.g _ i
    have hz2 : c.zN i (c.y1 y n.toNat) ≤ c.n := nextZ_le hlt
    have hin := loopWi go adm c es h5 c.pls pre (c.fr i (c.y1 y n.toNat) :: c.plF f (c.zN i (c.y1 y n.toNat)) (w64 ((c.fr i (c.y1 y n.toNat)).y + c.h))) i y n h3 (by omega) hadm K hK h4 (@decide (okM go (xPl c.pls) (pre.length + n.toNat)) (Classical.propDecidable _)) (by simp)
    have e := stepWo go adm c es (hist (xPl c.pls) pre.length) i y (@decide (okM go (xPl c.pls) (pre.length + n.toNat)) (Classical.propDecidable _)) (c.e1 es y n.toNat) (hist (xPl c.pls) (pre.length + n.toNat)) (c.y1 y n.toNat) (hist (xPl c.pls) K)
    rw [hn, c_lt hlt, c_inI hlt, @decide_eq_true _ (Classical.propDecidable _) (Wr.e1_good h5 y n.toNat), hsz, Wr.fr_z hok _ hlt] at e
    have hΛ := LamOK.orc (P := Tryz.prog) (root := cod Tryz.f55) (p := pWi) (mk := false) (nn := 67) (k := 4) (live := [0, 1, 3, 4, 27, 28]) (c := .loop bodyWi) (by kernel_rfl) hin (LamOK.nil _ _)
    by_cases hok' : okM go (xPl c.pls) (pre.length + n.toNat)
    · have hL' : c.pls = (pre ++ c.nils i n.toNat y) ++ c.fr i (c.y1 y n.toNat) :: c.plF f (c.zN i (c.y1 y n.toNat)) (w64 ((c.fr i (c.y1 y n.toNat)).y + c.h)) := by rw [h3, List.append_assoc]
      have hlen : (pre ++ c.nils i n.toNat y).length = pre.length + n.toNat := by rw [List.length_append, Wr.nils_len]
      have hx := xPl_at hL'
      have hl := pl_lt hL'
      rw [hlen] at hx hl
      have ha : adm (hist (xPl c.pls) (pre.length + n.toNat)) (xp (c.fr i (c.y1 y n.toNat))) = true := by rw [← hx]; exact hadm _ hl hok'
      have hs : hist (xPl c.pls) (pre.length + n.toNat) ++ [xp (c.fr i (c.y1 y n.toNat))] = hist (xPl c.pls) (pre.length + n.toNat + 1) := by rw [← hx, ← hist_succ]
      rw [@decide_eq_true _ (Classical.propDecidable _) hok', ha, hs] at e
      rw [@decide_eq_true _ (Classical.propDecidable _) hok'] at hΛ
      cases hgo : go (hist (xPl c.pls) (pre.length + n.toNat + 1)) with
      | true =>
        refine ⟨_, .normal, _, hΛ, (congrArg T.pick e).trans (by rw [hgo]; simp only [pick_ite, cond_true, decide_true, Bool.not_true, cond_false, pick_leaf]; rfl), .inl ⟨rfl, (pre ++ c.nils i n.toNat y ++ [c.fr i (c.y1 y n.toNat)], c.zN i (c.y1 y n.toNat), f, w64 ((c.fr i (c.y1 y n.toNat)).y + c.h), c.ek (c.e1 es y n.toNat) (c.y1 y n.toNat) (c.kn i (c.y1 y n.toNat))), ⟨hz2, show c.n ≤ f + c.zN i (c.y1 y n.toNat) by omega, ?_, ?_, Wr.ek_good (Wr.e1_good h5 y _) _ _⟩, show c.n - c.zN i (c.y1 y n.toNat) < c.n - i by omega, ?_⟩⟩
        · show c.pls = _
          rw [List.append_assoc]
          exact hL'
        · show okM go _ (pre ++ c.nils i n.toNat y ++ [c.fr i (c.y1 y n.toNat)]).length
          rw [List.length_append, hlen]
          exact okM_suc hok' hgo
        · show _ = SWo go adm c _ (hist _ (pre ++ c.nils i n.toNat y ++ [c.fr i (c.y1 y n.toNat)]).length) (c.zN i (c.y1 y n.toNat) : Nat) _
          rw [List.length_append, hlen]; rfl
      | false =>
        have hk := stops_at hK hl hok' hgo
        exact ⟨_, .exit 0, _, hΛ, (congrArg T.pick e).trans (by rw [hgo]; simp only [pick_ite, cond_true, decide_true, Bool.not_false, pick_leaf]; rfl), .inr ⟨by simp, by rw [hk]; rfl⟩⟩
    · rw [@decide_eq_false _ (Classical.propDecidable _) hok'] at e hΛ
      exact ⟨_, .exit 0, _, hΛ, (congrArg T.pick e).trans (by simp only [pick_ite, cond_true, decide_true, cond_false, pick_leaf]), .inr ⟨by simp, rfl⟩⟩
  · rw [Wr.plF_end c f i y hge, List.append_nil] at h3
    have hk : K = c.pls.length := stops_end hK (by rw [h3] at h4 ⊢; exact h4)
    refine ⟨[], .exit 0, _, LamOK.nil _ _, endWo go adm c es _ i y hge, .inr ⟨by simp, ?_⟩⟩
    rw [hk]
    show some (Ex.exit 0, FWi go adm (hist _ c.pls.length)) = some (Ex.exit 0, FWi go adm (hist _ pre.length))
    rw [show c.pls.length = pre.length from congrArg List.length h3]
abbrev loWb (c : Wr) (es : MpE) : List (Option Ob) := [boxWr 1, obWr c 2, obMp es]
/-- What lines goes through. -/
noncomputable def linesW.s (lo : List (Option Ob)) (caps : List V) : T (Nat × (Nat → List V)) := match caps with
  | [.ptr 0 0] => match lo with
    | [some (.cells tb [.ptr 1 0]), some (.cells t [.q (.lst [.str, .int .i64, .int .i64, .int .i64] n g), .q (.lst [.int .i64, .int .i64, .bool, .bool] m f), .q (.c (.int .i64 w)), .q (.c (.int .i64 h)), .mp 2]), some (.map (.one (.int .i64)) true [.int .i64, .int .i64, .bool] es)] =>
        if tb = 68 ∧ t = 110 then .ite (@decide ((Wr.mk n g m f w h).good es ∧ (Wr.mk n g m f w h).ok) (Classical.propDecidable _)) (.ite (allN n (szW g)) (.leaf ((Wr.mk n g m f w h).pls.length, xPl (Wr.mk n g m f w h).pls)) .bad) .bad else .bad
    | _ => .bad
  | _ => .bad
theorem linesW.at (c : Wr) (es : MpE) : linesW.s (loWb c es) [.ptr 0 0] = .ite (@decide (c.good es ∧ c.ok) (Classical.propDecidable _)) (.ite (allN c.n (szW c.g)) (.leaf (c.pls.length, xPl c.pls)) .bad) .bad := by kernel_rfl
theorem linesW.inv {lo : List (Option Ob)} {caps : List V} {N : Nat} {x : Nat → List V} (h : (linesW.s lo caps).pick = some (N, x)) : caps = [.ptr 0 0] ∧ ∃ c es, lo = loWb c es ∧ c.good es ∧ c.ok ∧ allN c.n (szW c.g) = true ∧ N = c.pls.length ∧ x = xPl c.pls := by
  unfold linesW.s at h
  split at h
  · split at h
    · rename_i tb t n g m f w h' es
      split at h
      · rename_i ht
        obtain ⟨rfl, rfl⟩ := ht
        rw [pick_ite] at h
        by_cases hg : (Wr.mk n g m f w h').good es ∧ (Wr.mk n g m f w h').ok
        · rw [@decide_eq_true _ (Classical.propDecidable _) hg, cond_true, pick_ite] at h
          cases ha : allN n (szW g) with
          | false => rw [ha] at h; cases h
          | true =>
            rw [ha] at h
            cases h
            exact ⟨rfl, ⟨n, g, m, f, w, h'⟩, es, rfl, hg.1, hg.2, ha, rfl, rfl⟩
        · rw [@decide_eq_false _ (Classical.propDecidable _) hg] at h; cases h
      · cases h
    · cases h
  · cases h
theorem linesW.eq (go : Go) (adm : Ad) (c : Wr) (es : MpE) (Y : List (List V)) : itG Tryz.prog ΓWl [(pWo, orc false 67 4 [0, 1, 3, 4] (SWo go adm c es [] (0 : Nat) 0) (.leaf (Ex.exit 0, FWi go adm Y)))] Tryz.f55 (cod Tryz.f55) (loWb c es) [.ptr 0 0] go adm =
    .ite (@decide (SWo go adm c es [] (0 : Nat) 0 = SWo go adm c es [] (0 : Nat) 0) (Classical.propDecidable _)) (.leaf Y) .bad := by kernel_rfl
theorem linesW.ok : IterG Tryz.prog 55 linesW.s := by
  refine iterG_of_body (Γ := ΓWl) ΓWl.ok Tryz.func55 (isBody _ (by kernel_rfl)) (by kernel_rfl) fun lo caps N x go adm hb he hadm => ?_
  obtain ⟨rfl, c, es, rfl, hg, hok, hsz, rfl, rfl⟩ := linesW.inv he
  obtain ⟨K, hK⟩ := exists_stops go (xPl c.pls) c.pls.length
  exact ⟨_, _, K, .rfl, LamOK.orc (p := pWo) (mk := false) (nn := 67) (k := 4) (live := [0, 1, 3, 4]) (c := .loop bodyWo) (by kernel_rfl) (loopWo go adm c es hg hok hsz hadm K hK) (LamOK.nil _ _), hK, (congrArg T.pick (linesW.eq go adm c es _)).trans (pick_same _ _)⟩

/-! ### lines -/
noncomputable def wlines.s (lo : List (Option Ob)) (args : List V) : T MOut := match args with
  | [.ptr 0 0] => onWr lo fun c es => .leaf ⟨loWr c es ++ [boxWr 0], .clo 55 [.ptr 2 0]⟩
  | _ => .bad
theorem wlines.ok : SpecM Tryz.prog 34 wlines.s := by
  refine specM_of_body (GOK.nil _) Tryz.func34 (isBody _ (by kernel_rfl)) (by kernel_rfl) fun lo args x hb he => ?_
  unfold wlines.s at he
  split at he
  · obtain ⟨c, es, rfl, he2⟩ := onWr_pick he
    exact ⟨_, [], fun s => s, .rfl, LamOK.nil _ _, fun s => Sub.refl s, (congrArg T.pick (show funM Tryz.prog [] [] Tryz.f34 (cod Tryz.f34) (fun s => s) (loWr c es) [.ptr 0 0] = .leaf ⟨loWr c es ++ [boxWr 0], .clo 55 [.ptr 2 0]⟩ by kernel_rfl)).trans he2⟩
  · cases he
end Go.Proofs.YthmlbmambcigcaaGreatDoor

/- Lines beside floats, one by one: Place, High. -/
namespace Go.Proofs.YthmlbmambcigcaaGreatDoor
open Go Go.SX Go.Proofs
set_option maxRecDepth 100000
variable [EA]
set_option linter.unusedVariables false
set_option linter.unusedSectionVars false
set_option linter.unusedSimpArgs false

/-! ### open -/
def badH (h : Int) : Bool := bif decide (h < 1) then true else decide (h > 1048576)
/-- What is wrong. -/
noncomputable def Wr.cod (c : Wr) : Int := bif !rightW c.n c.g then 70 else bif !rightF c.m c.f c.w then 110 else bif badH c.h then 80 else 0
theorem Wr.ok_of {c : Wr} (h : (c.cod != 0) = false) : c.ok := by
  unfold Wr.cod at h
  cases h1 : rightW c.n c.g with
  | false => rw [h1] at h; exact absurd h (by simp)
  | true =>
    cases h2 : rightF c.m c.f c.w with
    | false => rw [h1, h2] at h; exact absurd h (by simp)
    | true =>
      cases h3 : badH c.h with
      | true => rw [h1, h2, h3] at h; exact absurd h (by simp)
      | false =>
        unfold badH at h3
        refine ⟨h1, h2, ?_, ?_⟩
        · by_cases hh : c.h < 1
          · simp [hh] at h3
          · omega
        · by_cases hh : c.h > 1048576
          · simp [hh] at h3
          · simp only [MS]; omega
noncomputable abbrev wrErr (e : Int) : V := .q (.c (.iface 114 (.agg #[.int .i64 e, errP 1])))
abbrev loOp (c : Wr) : List (Option Ob) := [obMp [], obWr c 0]
noncomputable def wopen.s (lo : List (Option Ob)) (args : List V) : T MOut := match lo with
  | [] => match args with
    | [.q (.lst [.str, .int .i64, .int .i64, .int .i64] n g), .q (.lst [.int .i64, .int .i64, .bool, .bool] m f), .q (.c (.int .i64 w)), .q (.c (.int .i64 h))] =>
      .ite (allN n (szW g)) (.ite ((Wr.mk n g m f w h).cod != 0) (.leaf ⟨loOp ⟨n, g, m, f, w, h⟩, .tup [nilP, wrErr (Wr.mk n g m f w h).cod]⟩) (.leaf ⟨loOp ⟨n, g, m, f, w, h⟩, .tup [.ptr 1 0, nilE]⟩)) .bad
    | _ => .bad
  | _ => .bad
noncomputable abbrev ΓWo : Gam := [(52, wRight.s), (53, fRight.s), (0 + 1048576, .g (errP 1))]
theorem ΓWo.ok : GOK Tryz.prog ΓWo := .cons wRight.ok (.cons fRight.ok (.consG gl_wrap (GOK.nil _)))
theorem wopen.eq (n : Nat) (g : Nat → Nat → Q) (m : Nat) (f : Nat → Nat → Q) (w h : Int) : funM Tryz.prog ΓWo [] Tryz.f32 (cod Tryz.f32) (fun s => canP 43 2 [8, 9] s) [] [lWd n g, lstF m f, V.i w, V.i h] =
    .ite (decide (0 ≤ (0 : Int) ∧ (0 : Int) ≤ (n : Int) ∧ (n : Int) ≤ n ∧ (n : Int) ≤ n)) (.ite (allN n (szW g)) (.ite (!rightW n g) (.leaf ⟨loOp ⟨n, gz g, m, f, w, h⟩, .tup [nilP, wrErr 70]⟩) (.ite (!rightF m f w) (.leaf ⟨loOp ⟨n, gz g, m, f, w, h⟩, .tup [nilP, wrErr 110]⟩)
      (.ite (badH h) (.leaf ⟨loOp ⟨n, gz g, m, f, w, h⟩, .tup [nilP, wrErr 80]⟩) (.leaf ⟨loOp ⟨n, gz g, m, f, w, h⟩, .tup [.ptr 1 0, nilE]⟩)))) .bad) .bad := by kernel_rfl
theorem wopen.ok : SpecM Tryz.prog 32 wopen.s := by
  refine specM_of_body ΓWo.ok Tryz.func32 (isBody _ (by kernel_rfl)) (by kernel_rfl) fun lo args x hb he => ?_
  unfold wopen.s at he
  split at he
  · split at he
    · rename_i n g m f w h
      have h0 : decide (0 ≤ (0 : Int) ∧ (0 : Int) ≤ (n : Int) ∧ (n : Int) ≤ n ∧ (n : Int) ≤ n) = true := decide_eq_true (by omega)
      refine ⟨_, [], fun s => canP 43 2 [8, 9] s, .rfl, LamOK.nil _ _, fun s => sub_canP _ _ _ _, (congrArg T.pick (wopen.eq n g m f w h)).trans ?_⟩
      rw [← he, h0, gz_id, Wr.cod]
      cases allN n (szW g) with
      | false => rfl
      | true =>
        cases rightW n g with
        | false => rfl
        | true =>
          cases rightF m f w with
          | false => rfl
          | true => cases badH h <;> rfl
    · cases he
  · cases he

/-! ### Place -/
abbrev pPc : List Nat := [0, 1, 0, 1, 1, 1, 1]
noncomputable abbrev rfPc : Code × Code := rfAt Tryz.f14 pPc
abbrev cOutP (x : V) : Option Ob := some (.cells 27 [x])
abbrev vecP (l : List Pl) : Option Ob := some (.vec 39 ksPl l.length (gOf plQ l))
abbrev loPc (l : List Pl) : Nat → List (Option Ob)
  | 0 => [none, none, cOutP (.q (.c (.slice none 0 0))), none]
  | _ + 1 => [none, none, cOutP (.own 7), none, vecP l]
def SPw (c : Wr) : St := mkS 34 [(12, .ptr 2 0), (27, .clo 55 [.ptr 3 0])] [obMp [], obWr c 0, cOutP (.q (.c (.slice none 0 0))), boxWr 1] [] false [] 0
def SPg : St := mkS 34 [(12, .ptr 2 0), (27, .clo 55 [.any])] (loPc [] 0) [] false [] 0
theorem give_SPw (c : Wr) : giveS [3, 1, 0] (SPw c) = SPg := rfl
abbrev anyPc : List V := List.replicate 34 .any
def postPc : Nat → St → St
  | 0, s => mvL [(8, 7)] s
  | _ + 1, s => mvL [(9, 7)] s
theorem postPc_ok (k : Nat) (s : St) : Sub Tryz.prog s (postPc k s) := by
  cases k with
  | zero => exact sub_mvL _ _
  | succ k => exact sub_mvL _ _
noncomputable abbrev roundPc (k : Nat) (L : List (Option Ob)) (x : Pl) (rec rec' : Loop) : T (Ex × St × Bool) :=
  roundP (postPc k) Tryz.prog [] [] pPc rfPc.1 rfPc.2 [28] SPg (some .dfr) 8 L [] (xp x) rec rec'
theorem roundPc0 (x : Pl) (rec rec' : Loop) : roundPc 0 (loPc [] 0) x rec rec' =
    .ite (@decide ((some (some (Ob.raw (.loop rec))) : Option (Option Ob)) = some (some (.raw (.loop rec)))) (Classical.propDecidable _))
      (.ite (roomB 0 1 40) (.leaf (.normal, midS SPg (loPc [x] 1) [] (some .dfr) rec' anyPc, true)) .bad) .bad := by kernel_rfl
theorem roundPc1 (k : Nat) (l : List Pl) (x : Pl) (rec rec' : Loop) : roundPc (k + 1) (loPc l (k + 1)) x rec rec' =
    .ite (@decide ((some (some (Ob.raw (.loop rec))) : Option (Option Ob)) = some (some (.raw (.loop rec)))) (Classical.propDecidable _))
      (.ite (roomB l.length 1 40) (.leaf (.normal, midS SPg [none, none, cOutP (.own 7), none, some (.vec 39 ksPl (l.length + 1) (catG l.length (gOf plQ l) (rows [plQ x])))] [] (some .dfr) rec' anyPc, true)) .bad) .bad := by kernel_rfl
theorem Wr.plF_len (c : Wr) (hH : okH c.n c.g) : ∀ f i y, i ≤ c.n → (c.plF f i y).length ≤ 401 * (c.n - i)
  | 0, i, y, _ => Nat.zero_le _
  | f + 1, i, y, hi => by
    rw [Wr.plF]
    split
    · rename_i hlt
      have h1 : i < c.zN i (c.y1 y (emptyN c.g i)) := nextZ_gt c.n c.g _ i
      have h2 : c.zN i (c.y1 y (emptyN c.g i)) ≤ c.n := nextZ_le hlt
      have h3 := Wr.plF_len c hH f _ (w64 ((c.fr i (c.y1 y (emptyN c.g i))).y + c.h)) h2
      have h4 := hH.2 i hlt
      have hk : 0 ≤ kBo i := by unfold kBo; cases decide ((i : Int) > 0) <;> simp
      have h5 : emptyN c.g i ≤ 400 := by show ((gWd c.g i).h - kBo i).toNat ≤ 400; omega
      rw [List.length_append, List.length_cons, Wr.nils_len]
      generalize c.zN i (c.y1 y (emptyN c.g i)) = z at h1 h2 h3 ⊢
      have h6 : 401 * (c.n - z) + 401 ≤ 401 * (c.n - i) := by omega
      omega
    · exact Nat.zero_le _
theorem Wr.pls_len (c : Wr) (hH : okH c.n c.g) : c.pls.length ≤ 1000000 := by
  have h1 := Wr.plF_len c hH c.n 0 0 (Nat.zero_le _)
  have h2 := hH.1
  show (c.plF c.n 0 0).length ≤ _
  omega
theorem takeP {L : List Pl} {k : Nat} (hk : k < L.length) : L.take (k + 1) = L.take k ++ [L.getD k ⟨0, 0, 0, 0, 0⟩] := by
  rw [List.take_add_one, List.getElem?_eq_getElem hk]
  simp [List.getD_eq_getElem?_getD, hk]
theorem good_nil (c : Wr) : c.good [] := fun y q h => by simp [findE] at h
theorem rangePc (c : Wr) (hok : c.ok) (hsz : allN c.n (szW c.g) = true) : ∀ x, (T.leaf (Ex.normal, outS SPg (loPc c.pls c.pls.length) [])).pick = some x → SemC Tryz.prog (.rangeFunc (.tmp 27) #[28] rfPc.1 rfPc.2) (SPw c) x := by
  intro x hx
  have hlen := Wr.pls_len c (right_ok hok.rw_)
  have H : Rounds Tryz.prog [] [] pPc rfPc.1 rfPc.2 (#[28] : Array Nat).toList (giveS [3, 1, 0] (SPw c)) (if (SPw c).inr then none else some .dfr) ((giveS [3, 1, 0] (SPw c)).tm.map fun _ => .any)
      (fun k => loPc (c.pls.take k) k) (fun _ => []) (xPl c.pls) c.pls.length (fun _ => .normal) := by
    refine rounds_ofP postPc postPc_ok (fun _ => 8) (fun k => ?_) (fun k _ => rfl) fun k hk hn rec rec' => ?_
    · cases k <;> simp [give_SPw, SPg, mkS]
    · cases k with
      | zero =>
        refine (congrArg T.pick (roundPc0 (c.pls.getD 0 ⟨0, 0, 0, 0, 0⟩) rec rec')).trans ?_
        rw [pick_same]
        show some _ = some _
        rw [takeP hk]; rfl
      | succ k =>
        have hl : (c.pls.take (k + 1)).length = k + 1 := by rw [List.length_take]; omega
        refine (congrArg T.pick (roundPc1 k (c.pls.take (k + 1)) (c.pls.getD (k + 1) ⟨0, 0, 0, 0, 0⟩) rec rec')).trans ?_
        have hr : roomB (c.pls.take (k + 1)).length 1 40 = true := by rw [hl]; simp [roomB]; omega
        rw [pick_same, hr, catG_of plQ, ← takeP hk]
        show some _ = some _
        have : (c.pls.take (k + 1)).length + 1 = (c.pls.take (k + 1 + 1)).length := by rw [hl, List.length_take]; omega
        rw [this]; rfl
  have hc : codeAt (cod Tryz.f14) pPc = some (.rangeFunc (.tmp 27) #[28] rfPc.1 rfPc.2) := by kernel_rfl
  have hsp : (linesW.s (loWb c []) (([.ptr 3 0] : List V).map (V.rt (ixOf [3, 1, 0])))).pick = some (c.pls.length, xPl c.pls) := by
    have : ([.ptr 3 0] : List V).map (V.rt (ixOf [3, 1, 0])) = [.ptr 0 0] := rfl
    rw [this, linesW.at, pick_ite, @decide_eq_true _ (Classical.propDecidable _) ⟨good_nil c, hok⟩, hsz]; rfl
  cases hx
  have := sem_rangeG (GOK.nil _) (LamOK.nil _ _) hc (f := 55) (caps := [.ptr 3 0]) (ns := [3, 1, 0]) (los := loWb c []) rfl rfl rfl rfl linesW.ok hsp H rfl rfl (m := c.pls.length) (e := .normal) ⟨Nat.le_refl _, .inl ⟨rfl, rfl, fun j _ => rfl⟩⟩ (by cases c.pls.length <;> trivial) (fun d hd => by simp [SPw, mkS] at hd)
  rw [List.take_length] at this
  exact this
noncomputable abbrev ΓWp : Gam := [(32, .m wopen.s), (33, AsWrap.told.s), (34, .m wlines.s)]
theorem ΓWp.ok : GOK Tryz.prog ΓWp := .consM wopen.ok (.cons AsWrap.told.ok (.consM wlines.ok (GOK.nil _)))
noncomputable abbrev orPc (c : Wr) (lo : List (Option Ob)) : Lam := [(pPc, orc false 34 4 [12, 27] (SPw c) (.leaf (Ex.normal, outS SPg lo [])))]
theorem eqPc0 (c : Wr) : funV Tryz.prog ΓWp (orPc c (loPc [] 0)) Tryz.f14 (cod Tryz.f14) [lWd c.n c.g, lstF c.m c.f, V.i c.w, V.i c.h] =
    .ite (allN c.n (szW c.g)) (.ite (c.cod != 0) (.ite true (.leaf (nilT0 c.cod)) .bad) (.ite false (.leaf (nilT0 0)) (.ite (@decide (SPw c = SPw c) (Classical.propDecidable _)) (.leaf (nilT0 0)) .bad))) .bad := by kernel_rfl
theorem eqPc1 (c : Wr) (m : Nat) (k : Nat → Nat → Q) : funV Tryz.prog ΓWp (orPc c [none, none, cOutP (.own 7), none, some (.vec 39 ksPl m k)]) Tryz.f14 (cod Tryz.f14) [lWd c.n c.g, lstF c.m c.f, V.i c.w, V.i c.h] =
    .ite (allN c.n (szW c.g)) (.ite (c.cod != 0) (.ite true (.leaf (nilT0 c.cod)) .bad) (.ite false (.leaf (nilT0 0)) (.ite (@decide (SPw c = SPw c) (Classical.propDecidable _)) (.leaf (.tup [lPl m k, V.i 0])) .bad))) .bad := by kernel_rfl
def argsW (F : Wr → T V) : List V → T V
  | [.q (.lst [.str, .int .i64, .int .i64, .int .i64] n g), .q (.lst [.int .i64, .int .i64, .bool, .bool] m f), .q (.c (.int .i64 w)), .q (.c (.int .i64 h))] => F ⟨n, g, m, f, w, h⟩
  | _ => .bad
theorem argsW_pick {F : Wr → T V} {args : List V} {r : V} (h : (argsW F args).pick = some r) : ∃ c, args = [lWd c.n c.g, lstF c.m c.f, V.i c.w, V.i c.h] ∧ (F c).pick = some r := by
  unfold argsW at h
  split at h
  · rename_i n g m f w h'
    exact ⟨⟨n, g, m, f, w, h'⟩, rfl, h⟩
  · cases h
noncomputable abbrev wPlace.s : List V → T V := argsW fun c => .ite (allN c.n (szW c.g)) (.ite (c.cod != 0) (.leaf (.tup [emptyL ksPl, V.i c.cod])) (.leaf (.tup [vOf ksPl plQ c.pls, V.i 0]))) .bad
noncomputable abbrev wPlace.t : List V → T V := argsW fun c => .ite (allN c.n (szW c.g)) (.ite (c.cod != 0) (.leaf (nilT0 c.cod)) (.ite (decide (c.pls.length = 0)) (.leaf (nilT0 0)) (.leaf (.tup [vOf ksPl plQ c.pls, V.i 0])))) .bad
theorem wPlace.ok : SpecOK Tryz.prog 14 wPlace.s := by
  refine SpecOK.res (sp' := wPlace.t) ?_ fun args r hb hr => ?_
  · refine okF ΓWp.ok Tryz.func14 (by kernel_rfl) (by kernel_rfl) fun args r hb hr => ?_
    obtain ⟨c, rfl, hr2⟩ := argsW_pick hr
    replace hr := hr2
    cases ha : allN c.n (szW c.g) with
    | false => rw [ha] at hr; cases hr
    | true =>
      rw [ha] at hr
      cases hc : c.cod != 0 with
      | true =>
        rw [hc] at hr
        refine ⟨[], LamOK.nil _ _, ?_⟩
        have e0 : T.pathC (funV Tryz.prog ΓWp [] Tryz.f14 (cod Tryz.f14) [lWd c.n c.g, lstF c.m c.f, V.i c.w, V.i c.h]) [true, true] = [allN c.n (szW c.g), c.cod != 0] := by kernel_rfl
        have e : T.pathL (funV Tryz.prog ΓWp [] Tryz.f14 (cod Tryz.f14) [lWd c.n c.g, lstF c.m c.f, V.i c.w, V.i c.h]) [true, true] = .ite true (.leaf (nilT0 c.cod)) .bad := by kernel_rfl
        rw [T.pick_path [true, true] _ (e0.trans (by rw [ha, hc])), e, ← hr]
        rfl
      | false =>
        have hok := Wr.ok_of hc
        rw [hc] at hr
        have hrg := rangePc c hok ha
        cases hN : c.pls.length with
        | zero =>
          rw [hN] at hrg hr
          refine ⟨_, LamOK.orc (p := pPc) (mk := false) (nn := 34) (k := 4) (live := [12, 27]) (c := .rangeFunc (.tmp 27) #[28] rfPc.1 rfPc.2) (by kernel_rfl) hrg (LamOK.nil _ _), ?_⟩
          refine (congrArg T.pick (eqPc0 c)).trans ?_
          rw [ha, hc, ← hr]
          exact pick_same _ _
        | succ N =>
          rw [hN] at hrg
          rw [decide_eq_false (by omega)] at hr
          refine ⟨_, LamOK.orc (p := pPc) (mk := false) (nn := 34) (k := 4) (live := [12, 27]) (c := .rangeFunc (.tmp 27) #[28] rfPc.1 rfPc.2) (by kernel_rfl) hrg (LamOK.nil _ _), ?_⟩
          refine (congrArg T.pick (eqPc1 c c.pls.length (gOf plQ c.pls))).trans ?_
          rw [ha, hc, ← hr]
          exact pick_same _ _
  · obtain ⟨c, rfl, hr2⟩ := argsW_pick hr
    replace hr := hr2
    cases ha : allN c.n (szW c.g) with
    | false => rw [ha] at hr; cases hr
    | true =>
      rw [ha] at hr
      show ∃ r', (T.ite (allN c.n (szW c.g)) (.ite (c.cod != 0) (.leaf (nilT0 c.cod)) (.ite (decide (c.pls.length = 0)) (.leaf (nilT0 0)) (.leaf (.tup [vOf ksPl plQ c.pls, V.i 0])))) .bad).pick = some r' ∧ _
      cases hc : c.cod != 0 with
      | true => rw [hc] at hr; cases hr; rw [ha]; exact ⟨_, rfl, fun S w v h => den_tnil h⟩
      | false =>
        rw [hc] at hr
        cases hr
        rw [ha]
        by_cases h0 : c.pls.length = 0
        · rw [decide_eq_true h0]; exact ⟨_, rfl, fun S w v h => den_tnil' h0 h⟩
        · rw [decide_eq_false h0]; exact ⟨_, rfl, fun S w v h => h⟩
end Go.Proofs.YthmlbmambcigcaaGreatDoor

/- Lines beside floats, one by one: High. -/
namespace Go.Proofs.YthmlbmambcigcaaGreatDoor
open Go Go.SX Go.Proofs
set_option maxRecDepth 100000
variable [EA]
set_option linter.unusedVariables false
set_option linter.unusedSectionVars false
set_option linter.unusedSimpArgs false

abbrev pHi : List Nat := [0, 1, 0, 1, 1, 1, 1]
noncomputable abbrev rfHi : Code × Code := rfAt Tryz.f16 pHi
abbrev cI (x : Int) : Option Ob := some (.cells 2 [V.i x])
abbrev loHi (h v : Int) : List (Option Ob) := [cI h, none, none, cI v, none]
def SHi (c : Wr) (v : Int) : St := mkS 43 [(7, .ptr 0 0), (12, .ptr 3 0), (34, .clo 55 [.ptr 4 0])] [cI c.h, obMp [], obWr c 1, cI v, boxWr 2] [] false [] 0
def SHg (h v : Int) : St := mkS 43 [(7, .ptr 0 0), (12, .ptr 3 0), (34, .clo 55 [.any])] (loHi h v) [] false [] 0
theorem give_SHi (c : Wr) (v : Int) : giveS [4, 2, 1] (SHi c v) = SHg c.h v := rfl
abbrev anyHi : List V := List.replicate 43 .any
noncomputable abbrev roundHi (h v u : Int) (x : Pl) (rec rec' : Loop) : T (Ex × St × Bool) :=
  roundP (fun s => s) Tryz.prog [] [] pHi rfHi.1 rfHi.2 [35] (SHg h v) (some .dfr) 8 (loHi h u) [] (xp x) rec rec'
theorem roundHi.eq (h v u : Int) (x : Pl) (rec rec' : Loop) : roundHi h v u x rec rec' =
    .ite (@decide ((some (some (Ob.raw (.loop rec))) : Option (Option Ob)) = some (some (.raw (.loop rec)))) (Classical.propDecidable _))
      (.leaf (.normal, midS (SHg h v) (loHi h (mx2 u (w64 (x.y + h)))) [] (some .dfr) rec' anyHi, true)) .bad := by kernel_rfl
/-- How high it is with some lines. -/
def hiL (h v : Int) (L : List Pl) : Int := L.foldl (fun n p => mx2 n (w64 (p.y + h))) v
theorem rangeHi (c : Wr) (v : Int) (hok : c.ok) (hsz : allN c.n (szW c.g) = true) : ∀ x, (T.leaf (Ex.normal, outS (SHg c.h v) (loHi c.h (hiL c.h v c.pls)) [])).pick = some x → SemC Tryz.prog (.rangeFunc (.tmp 34) #[35] rfHi.1 rfHi.2) (SHi c v) x := by
  intro x hx
  have H : Rounds Tryz.prog [] [] pHi rfHi.1 rfHi.2 (#[35] : Array Nat).toList (giveS [4, 2, 1] (SHi c v)) (if (SHi c v).inr then none else some .dfr) ((giveS [4, 2, 1] (SHi c v)).tm.map fun _ => .any)
      (fun k => loHi c.h (hiL c.h v (c.pls.take k))) (fun _ => []) (xPl c.pls) c.pls.length (fun _ => .normal) := by
    refine rounds_ofP (fun _ s => s) (fun _ s => Sub.refl s) (fun _ => 8) (fun k => ?_) (fun k _ => rfl) fun k hk hn rec rec' => ?_
    · simp [give_SHi, SHg, mkS]
    · refine (congrArg T.pick (roundHi.eq c.h v (hiL c.h v (c.pls.take k)) (c.pls.getD k ⟨0, 0, 0, 0, 0⟩) rec rec')).trans ?_
      rw [pick_same]
      show some _ = some _
      rw [takeP hk, hiL, hiL, List.foldl_append]; rfl
  have hc : codeAt (cod Tryz.f16) pHi = some (.rangeFunc (.tmp 34) #[35] rfHi.1 rfHi.2) := by kernel_rfl
  have hsp : (linesW.s (loWb c []) (([.ptr 4 0] : List V).map (V.rt (ixOf [4, 2, 1])))).pick = some (c.pls.length, xPl c.pls) := by
    have : ([.ptr 4 0] : List V).map (V.rt (ixOf [4, 2, 1])) = [.ptr 0 0] := rfl
    rw [this, linesW.at, pick_ite, @decide_eq_true _ (Classical.propDecidable _) ⟨good_nil c, hok⟩, hsz]; rfl
  cases hx
  have := sem_rangeG (GOK.nil _) (LamOK.nil _ _) hc (f := 55) (caps := [.ptr 4 0]) (ns := [4, 2, 1]) (los := loWb c []) rfl rfl rfl rfl linesW.ok hsp H rfl rfl (m := c.pls.length) (e := .normal) ⟨Nat.le_refl _, .inl ⟨rfl, rfl, fun j _ => rfl⟩⟩ (by trivial) (fun d hd => by simp [SHi, mkS] at hd)
  rw [List.take_length] at this
  exact this
noncomputable abbrev ΓHi : Gam := [(32, .m wopen.s), (33, AsWrap.told.s), (20, fLow.s), (34, .m wlines.s)]
theorem ΓHi.ok : GOK Tryz.prog ΓHi := .consM wopen.ok (.cons AsWrap.told.ok (.cons fLow.ok (.consM wlines.ok (GOK.nil _))))
noncomputable abbrev orHi (c : Wr) (v : Int) : Lam := [(pHi, orc false 43 5 [7, 12, 34] (SHi c c.low) (.leaf (Ex.normal, outS (SHg c.h c.low) (loHi c.h v) [])))]
theorem eqHi (c : Wr) (v : Int) : funV Tryz.prog ΓHi (orHi c v) Tryz.f16 (cod Tryz.f16) [lWd c.n c.g, lstF c.m c.f, V.i c.w, V.i c.h] =
    .ite (allN c.n (szW c.g)) (.ite (c.cod != 0) (.ite true (.leaf (.tup [V.i 0, V.i c.cod])) .bad) (.ite false (.leaf (.tup [V.i 0, V.i 0])) (.ite (@decide (SHi c c.low = SHi c c.low) (Classical.propDecidable _)) (.leaf (.tup [V.i v, V.i 0])) .bad))) .bad := by kernel_rfl
noncomputable abbrev wHigh.s : List V → T V := argsW fun c => .ite (allN c.n (szW c.g)) (.ite (c.cod != 0) (.leaf (.tup [V.i 0, V.i c.cod])) (.leaf (.tup [V.i (hiL c.h c.low c.pls), V.i 0]))) .bad
theorem wHigh.ok : SpecOK Tryz.prog 16 wHigh.s := by
  refine okF ΓHi.ok Tryz.func16 (by kernel_rfl) (by kernel_rfl) fun args r hb hr => ?_
  obtain ⟨c, rfl, hr2⟩ := argsW_pick hr
  replace hr := hr2
  cases ha : allN c.n (szW c.g) with
  | false => rw [ha] at hr; cases hr
  | true =>
    rw [ha] at hr
    cases hc : c.cod != 0 with
    | true =>
      rw [hc] at hr
      refine ⟨[], LamOK.nil _ _, ?_⟩
      have e0 : T.pathC (funV Tryz.prog ΓHi [] Tryz.f16 (cod Tryz.f16) [lWd c.n c.g, lstF c.m c.f, V.i c.w, V.i c.h]) [true, true] = [allN c.n (szW c.g), c.cod != 0] := by kernel_rfl
      have e : T.pathL (funV Tryz.prog ΓHi [] Tryz.f16 (cod Tryz.f16) [lWd c.n c.g, lstF c.m c.f, V.i c.w, V.i c.h]) [true, true] = .ite true (.leaf (.tup [V.i 0, V.i c.cod])) .bad := by kernel_rfl
      rw [T.pick_path [true, true] _ (e0.trans (by rw [ha, hc])), e, ← hr]
      rfl
    | false =>
      have hok := Wr.ok_of hc
      rw [hc] at hr
      refine ⟨_, LamOK.orc (p := pHi) (mk := false) (nn := 43) (k := 5) (live := [7, 12, 34]) (c := .rangeFunc (.tmp 34) #[35] rfHi.1 rfHi.2) (by kernel_rfl) (rangeHi c c.low hok ha) (LamOK.nil _ _), ?_⟩
      refine (congrArg T.pick (eqHi c _)).trans ?_
      rw [ha, hc, ← hr]
      exact pick_same _ _
end Go.Proofs.YthmlbmambcigcaaGreatDoor

/- Lines beside floats, one by one: the document's own: one, place. -/
namespace Go.Proofs.YthmlbmambcigcaaGreatDoor
open Go Go.SX Go.Proofs
set_option maxRecDepth 100000
variable [EA]
set_option linter.unusedVariables false
set_option linter.unusedSectionVars false
set_option linter.unusedSimpArgs false

/-! ### one -/
noncomputable abbrev ΓOn : Gam := [(61, fInsets.s), (84, rBes.s), (85, rNext.s), (86, fNext.s)]
theorem ΓOn.ok : GOK Tryz.prog ΓOn := .cons rInsets.ok (.cons rBes.ok (.cons rNext.ok (.cons fl_rNext.ok (GOK.nil _))))
noncomputable def SOn (c : Wr) (i : Nat) (y : Int) : St := mkS 69 [(0, lWd c.n c.g), (1, lstF c.m c.f), (2, lst4 (plN c.m c.f c.w) (gR c.f c.w c.m)), (3, V.i c.w), (4, V.i c.h), (5, V.i i), (6, V.i y), (14, .ptr 0 0)] [obPl zPl] [] false [] 0
def FOn (p : Pl) : St := mkS 69 [(14, .ptr 0 0)] [obPl (plL p)] [] false [] 0
def liveOn : Ex → List Nat | .normal => [0, 1, 2, 3, 4, 5, 6, 14] | _ => [14]
noncomputable abbrev bodyOn : Code := loopAt Tryz.f62 [0, 1]
noncomputable abbrev treeOn (s : St) : T (Ex × St × Bool) := ltree Tryz.prog ΓOn [] [0, 1] bodyOn 69 1 liveOn poN s
noncomputable def Wr.st (c : Wr) (i : Nat) (y : Int) : Bool := bif decide ((gWd c.g i).w ≤ c.rw y) then true else !(c.bes y)
theorem Wr.st_go (c : Wr) (i : Nat) (y : Int) : c.st i y = !(c.go i y) := by
  unfold Wr.st Wr.go
  by_cases h : (gWd c.g i).w ≤ c.rw y
  · rw [decide_eq_true h, decide_eq_false (show ¬ (gWd c.g i).w > c.rw y by omega)]; rfl
  · rw [decide_eq_false h, decide_eq_true (show (gWd c.g i).w > c.rw y by omega)]
    cases c.bes y <;> rfl
theorem stepOn (c : Wr) (i : Nat) (y : Int) : treeOn (SOn c i y) = .ite (inI i c.n) (.ite (c.st i y) (.leaf (.ret, FOn (frP c i y), true)) (.leaf (.normal, SOn c i (c.nxt y), true))) .bad := by kernel_rfl
theorem loopOn (c : Wr) (i : Nat) (y : Int) (hi : i < c.n) : ∀ x, (T.leaf (Ex.ret, FOn (c.fr i y))).pick = some x → SemC Tryz.prog (.loop bodyOn) (SOn c i y) x :=
  loop_nat ΓOn.ok (root := cod Tryz.f62) (p := [0, 1]) (by kernel_rfl) (c.kn i y) (fun _ => True) (fun j => SOn c i (c.yk y j)) (.leaf (.ret, FOn (c.fr i y))) 69 1 liveOn poN poN_ok (fun j hj _ => by
    have e := stepOn c i (c.yk y j)
    rw [c_inI hi, Wr.st_go] at e
    rcases Nat.lt_or_ge j (c.kn i y) with hlt | hge
    · exact ⟨[], .normal, SOn c i (c.yk y (j + 1)), LamOK.nil _ _, (congrArg T.pick e).trans (by rw [Wr.kn_go c i y hlt]; rfl), .inl ⟨rfl, hlt, trivial, rfl⟩⟩
    · have h : j = c.kn i y := by omega
      subst h
      exact ⟨[], .ret, _, LamOK.nil _ _, (congrArg T.pick e).trans (by rw [show c.go i (c.yk y (c.kn i y)) = false from Wr.kn_stop c i y]; rfl), .inr ⟨by simp, rfl⟩⟩) trivial
noncomputable def one.s : List V → T V
  | [.q (.lst [.str, .int .i64, .int .i64, .int .i64] n g), .q (.lst [.int .i64, .int .i64, .bool, .bool] m f), p, .q (.c (.int .i64 w)), .q (.c (.int .i64 h)), .q (.c (.int .i64 i)), .q (.c (.int .i64 y))] =>
      .ite (decide (0 ≤ i ∧ i < (n : Int))) (.ite (@decide (p = lst4 (plN m f w) (gR f w m)) (Classical.propDecidable _)) (.leaf (plV ((Wr.mk n g m f w h).fr i.toNat y))) .bad) .bad
  | _ => .bad
theorem one.eq (c : Wr) (i : Nat) (y : Int) (p : Pl) : funV Tryz.prog ΓOn [([0, 1], orc false 69 1 (liveOn .normal) (SOn c i y) (.leaf (Ex.ret, FOn p)))] Tryz.f62 (cod Tryz.f62) [lWd c.n c.g, lstF c.m c.f, lst4 (plN c.m c.f c.w) (gR c.f c.w c.m), V.i c.w, V.i c.h, V.i i, V.i y] =
    .ite (@decide (SOn c i y = SOn c i y) (Classical.propDecidable _)) (.leaf (plV p)) .bad := by kernel_rfl
theorem one.ok : SpecOK Tryz.prog 62 one.s := by
  refine okF ΓOn.ok Tryz.func62 (by kernel_rfl) (by kernel_rfl) fun args r hb hr => ?_
  unfold one.s at hr
  split at hr
  · rename_i n g m f p w h i y
    by_cases hi : 0 ≤ i ∧ i < (n : Int)
    · rw [decide_eq_true hi, pick_ite, cond_true, pick_ite] at hr
      obtain ⟨k, rfl⟩ := Int.eq_ofNat_of_zero_le hi.1
      by_cases hp : p = lst4 (plN m f w) (gR f w m)
      · subst hp
        rw [@decide_eq_true _ (Classical.propDecidable _) rfl, cond_true] at hr
        exact ⟨_, LamOK.orc (p := [0, 1]) (mk := false) (nn := 69) (k := 1) (live := liveOn .normal) (c := .loop bodyOn) (by kernel_rfl) (loopOn ⟨n, g, m, f, w, h⟩ k y (show k < n by omega)) (LamOK.nil _ _), (congrArg T.pick (one.eq ⟨n, g, m, f, w, h⟩ k y _)).trans ((pick_same _ _).trans hr)⟩
      · rw [@decide_eq_false _ (Classical.propDecidable _) hp] at hr; cases hr
    · rw [decide_eq_false hi] at hr; cases hr
  · cases hr
end Go.Proofs.YthmlbmambcigcaaGreatDoor

/- Lines beside floats, one by one: the document's own: place. -/
namespace Go.Proofs.YthmlbmambcigcaaGreatDoor
open Go Go.SX Go.Proofs
set_option maxRecDepth 100000
variable [EA]
set_option linter.unusedVariables false
set_option linter.unusedSectionVars false
set_option linter.unusedSimpArgs false

/-! ### place -/
noncomputable abbrev ΓWk : Gam := [(60, fPlace.s), (61, fInsets.s), (62, one.s)]
theorem ΓWk.ok : GOK Tryz.prog ΓWk := .cons rPlace.ok (.cons rInsets.ok (.cons one.ok (GOK.nil _)))
abbrev vecQ (m : Nat) (G : Nat → Nat → Q) : Option Ob := some (.vec 39 ksPl m G)
noncomputable def SKi (c : Wr) (i : Nat) (y : Int) (m : Nat) (G : Nat → Nat → Q) (k : Int) : St := mkS 81 [(0, lWd c.n c.g), (1, lstF c.m c.f), (2, V.i c.w), (3, V.i c.h), (9, lst4 (plN c.m c.f c.w) (gR c.f c.w c.m)), (11, .own 0), (12, V.i y), (13, V.i i), (14, V.i k)] [vecQ m G] [] false [] 0
noncomputable def SKo (c : Wr) (i : Int) (y : Int) (m : Nat) (G : Nat → Nat → Q) : St := mkS 81 [(0, lWd c.n c.g), (1, lstF c.m c.f), (2, V.i c.w), (3, V.i c.h), (9, lst4 (plN c.m c.f c.w) (gR c.f c.w c.m)), (11, .own 0), (12, V.i y), (13, V.i i)] [vecQ m G] [] false [] 0
def FKo (m : Nat) (G : Nat → Nat → Q) : St := mkS 81 [(11, .own 0)] [vecQ m G] [] false [] 0
def liveKi : Ex → List Nat | .normal => [0, 1, 2, 3, 9, 11, 12, 13, 14] | _ => [0, 1, 2, 3, 9, 11, 12, 13]
def liveKo : Ex → List Nat | .normal => [0, 1, 2, 3, 9, 11, 12, 13] | _ => [11]
abbrev pKi : List Nat := [0, 0, 1, 1, 0, 1, 0, 0, 1, 0, 1, 1, 1, 1]
abbrev pKo : List Nat := [0, 1, 0, 1, 1, 1, 1]
noncomputable abbrev bodyKi : Code := loopAt Tryz.f36 pKi
noncomputable abbrev bodyKo : Code := loopAt Tryz.f36 pKo
noncomputable abbrev treeKi (s : St) : T (Ex × St × Bool) := ltree Tryz.prog ΓWk [] pKi bodyKi 81 1 liveKi (poM [(1, 0)]) s
theorem stepKi (c : Wr) (i : Nat) (y : Int) (m : Nat) (G : Nat → Nat → Q) (k : Int) : treeKi (SKi c i y m G k) =
    .ite (inI i c.n) (.ite (decide (k < (gWd c.g i).h)) (.ite (roomB m 1 40) (.leaf (.normal, SKi c i (w64 (y + c.h)) (m + 1) (catG m G (rows [plQ (c.nil i y)])) (w64 (k + 1)), true)) .bad) (.leaf (.exit 2, SKo c i y m G, true))) .bad := by kernel_rfl
noncomputable abbrev orKi (c : Wr) (i : Nat) (y : Int) (m : Nat) (G : Nat → Nat → Q) (k : Int) (y' : Int) (m' : Nat) (G' : Nat → Nat → Q) : Lam := [(pKi, orc false 81 1 [0, 1, 2, 3, 9, 11, 12, 13, 14] (SKi c i y m G k) (.leaf (.exit 2, SKo c i y' m' G')))]
noncomputable abbrev treeKo (Λ : Lam) (s : St) : T (Ex × St × Bool) := ltree Tryz.prog ΓWk Λ pKo bodyKo 81 1 liveKo (poM [(2, 0)]) s
noncomputable abbrev restKo (c : Wr) (i : Nat) (y' : Int) (m' : Nat) (G' : Nat → Nat → Q) : T (Ex × St × Bool) :=
  .ite (inI i c.n) (.ite (@decide (lst4 (plN c.m c.f c.w) (gR c.f c.w c.m) = lst4 (plN c.m c.f c.w) (gR c.f c.w c.m)) (Classical.propDecidable _)) (.ite (roomB m' 1 40) (.leaf (.normal, SKo c (c.fr i y').z (w64 ((c.fr i y').y + c.h)) (m' + 1) (catG m' G' (rows [plQ (c.fr i y')])), true)) .bad) .bad) .bad
theorem stepKo (c : Wr) (i : Nat) (y : Int) (m : Nat) (G : Nat → Nat → Q) (k y' : Int) (m' : Nat) (G' : Nat → Nat → Q) : treeKo (orKi c i y m G k y' m' G') (SKo c i y m G) =
    .ite (decide ((i : Int) < c.n)) (.ite (decide ((i : Int) > 0)) (.ite (@decide (SKi c i y m G 1 = SKi c i y m G k) (Classical.propDecidable _)) (restKo c i y' m' G') .bad) (.ite (@decide (SKi c i y m G 0 = SKi c i y m G k) (Classical.propDecidable _)) (restKo c i y' m' G') .bad)) (.leaf (.exit 0, FKo m G, true)) := by kernel_rfl
theorem loopKi (c : Wr) (i : Nat) (hi : i < c.n) (hH : okH c.n c.g) (y : Int) (l : List Pl) (hl : l.length ≤ 1000000) : ∀ x, (T.leaf (Ex.exit 2, SKo c i (c.y1 y (emptyN c.g i)) (l ++ c.nils i (emptyN c.g i) y).length (gOf plQ (l ++ c.nils i (emptyN c.g i) y)))).pick = some x → SemC Tryz.prog (.loop bodyKi) (SKi c i y l.length (gOf plQ l) (kBo i)) x := by
  have hh := hH.2 i hi
  have hk : 0 ≤ kBo i ∧ kBo i ≤ 1 := by unfold kBo; cases decide ((i : Int) > 0) <;> simp
  have h0 : SKi c i y l.length (gOf plQ l) (kBo i) = SKi c i (c.y1 y 0) (l ++ c.nils i 0 y).length (gOf plQ (l ++ c.nils i 0 y)) (kBo i + (0 : Nat)) := by
    rw [show c.nils i 0 y = [] from rfl, List.append_nil]; simp [Wr.y1]
  rw [h0]
  refine loop_nat ΓWk.ok (root := cod Tryz.f36) (p := pKi) (by kernel_rfl) (emptyN c.g i) (fun _ => True) (fun j => SKi c i (c.y1 y j) (l ++ c.nils i j y).length (gOf plQ (l ++ c.nils i j y)) (kBo i + j)) _ 81 1 liveKi (poM [(1, 0)]) (poM_ok _) (fun j hj _ => ?_) trivial
  have e := stepKi c i (c.y1 y j) (l ++ c.nils i j y).length (gOf plQ (l ++ c.nils i j y)) (kBo i + j)
  have hE : ((emptyN c.g i : Nat) : Int) = max 0 ((gWd c.g i).h - kBo i) := by show (((gWd c.g i).h - kBo i).toNat : Int) = _; omega
  have hll : (l ++ c.nils i j y).length = l.length + j := by rw [List.length_append, Wr.nils_len]
  have hr : roomB (l ++ c.nils i j y).length 1 40 = true := by rw [hll]; simp [roomB]; omega
  rw [c_inI hi, hr, catG_of plQ] at e
  rcases Nat.lt_or_ge j (emptyN c.g i) with hlt | hge
  · refine ⟨[], .normal, _, LamOK.nil _ _, (congrArg T.pick e).trans ?_, .inl ⟨rfl, hlt, trivial, rfl⟩⟩
    rw [decide_eq_true (show kBo i + (j : Int) < (gWd c.g i).h by omega), w64_id (show -9223372036854775808 ≤ kBo i + (j : Int) + 1 by omega) (by omega)]
    simp only [pick_ite, cond_true, pick_leaf]
    have h1 : (l ++ c.nils i j y ++ [c.nil i (c.y1 y j)]) = l ++ c.nils i (j + 1) y := by rw [Wr.nils_suc, List.append_assoc]
    have h2 : (l ++ c.nils i j y).length + 1 = (l ++ c.nils i (j + 1) y).length := by rw [← h1]; simp only [List.length_append, List.length_singleton]
    rw [h1, h2, show kBo i + (j : Int) + 1 = kBo i + ((j + 1 : Nat) : Int) by omega]
    rfl
  · have h : j = emptyN c.g i := by omega
    subst h
    refine ⟨[], .exit 2, _, LamOK.nil _ _, (congrArg T.pick e).trans ?_, .inr ⟨by simp, rfl⟩⟩
    rw [decide_eq_false (show ¬ kBo i + ((emptyN c.g i : Nat) : Int) < (gWd c.g i).h by omega)]
    rfl
theorem endKo (c : Wr) (i : Nat) (y : Int) (m : Nat) (G : Nat → Nat → Q) (hi : c.n ≤ i) : (treeKo [] (SKo c i y m G)).pick = some (.exit 0, FKo m G, true) :=
  T.pick_at [false] [decide ((i : Int) < c.n)] (by kernel_rfl) (by rw [c_ge hi]) (by kernel_rfl)
theorem loopKo (c : Wr) (hok : c.ok) : ∀ x, (T.leaf (Ex.exit 0, FKo c.pls.length (gOf plQ c.pls))).pick = some x → SemC Tryz.prog (.loop bodyKo) (SKo c (0 : Nat) 0 ([] : List Pl).length (gOf plQ [])) x := by
  have hH := right_ok hok.rw_
  have hlen := Wr.pls_len c hH
  refine loop_treeP ΓWk.ok (root := cod Tryz.f36) (p := pKo) (by kernel_rfl) (ι := List Pl × Nat × Nat × Int) (fun z => z.2.1 ≤ c.n ∧ c.n ≤ z.2.2.1 + z.2.1 ∧ c.pls = z.1 ++ c.plF z.2.2.1 z.2.1 z.2.2.2)
    (fun z => SKo c z.2.1 z.2.2.2 z.1.length (gOf plQ z.1)) (fun z => c.n - z.2.1) _ 81 1 liveKo (fun _ => []) (poM [(2, 0)]) (poM_ok _) (fun z hz => ?_) ([], 0, c.n, 0) ⟨Nat.zero_le _, by simp, rfl⟩
  obtain ⟨pre, i, f, y⟩ := z
  obtain ⟨h1, h2, h3⟩ := hz
  replace h1 : i ≤ c.n := h1
  replace h2 : c.n ≤ f + i := h2
  replace h3 : c.pls = pre ++ c.plF f i y := h3
  rcases Nat.lt_or_ge i c.n with hlt | hge
  · obtain ⟨f, rfl⟩ : ∃ f', f = f' + 1 := ⟨f - 1, by omega⟩
    rw [Wr.plF, if_pos hlt] at h3
    have hl1 : pre.length + (c.nils i (emptyN c.g i) y).length + 1 ≤ c.pls.length := by
      rw [h3, List.length_append, List.length_append, List.length_cons]; omega
    have hin := loopKi c i hlt hH y pre (by omega)
    have hz1 : i < c.zN i (c.y1 y (emptyN c.g i)) := nextZ_gt c.n c.g _ i
    have hz2 : c.zN i (c.y1 y (emptyN c.g i)) ≤ c.n := nextZ_le hlt
    have e := stepKo c i y pre.length (gOf plQ pre) (kBo i) (c.y1 y (emptyN c.g i)) (pre ++ c.nils i (emptyN c.g i) y).length (gOf plQ (pre ++ c.nils i (emptyN c.g i) y))
    have hr : roomB (pre ++ c.nils i (emptyN c.g i) y).length 1 40 = true := by rw [List.length_append]; simp [roomB]; omega
    have hrest : (restKo c i (c.y1 y (emptyN c.g i)) (pre ++ c.nils i (emptyN c.g i) y).length (gOf plQ (pre ++ c.nils i (emptyN c.g i) y))).pick = some (.normal, SKo c (c.zN i (c.y1 y (emptyN c.g i)) : Nat) (w64 ((c.fr i (c.y1 y (emptyN c.g i))).y + c.h)) (pre ++ c.nils i (emptyN c.g i) y ++ [c.fr i (c.y1 y (emptyN c.g i))]).length (gOf plQ (pre ++ c.nils i (emptyN c.g i) y ++ [c.fr i (c.y1 y (emptyN c.g i))])), true) := by
      unfold restKo
      rw [c_inI hlt, hr, catG_of plQ, pick_ite, cond_true, pick_same, pick_ite, cond_true, pick_leaf, Wr.fr_z hok _ hlt]
      simp only [List.length_append, List.length_singleton]
    have hΛ := LamOK.orc (P := Tryz.prog) (root := cod Tryz.f36) (p := pKi) (mk := false) (nn := 81) (k := 1) (live := [0, 1, 2, 3, 9, 11, 12, 13, 14]) (c := .loop bodyKi) (by kernel_rfl) hin (LamOK.nil _ _)
    refine ⟨_, .normal, _, hΛ, (congrArg T.pick e).trans (?_ : _ = some (Ex.normal, _, true)), .inl ⟨rfl, (pre ++ c.nils i (emptyN c.g i) y ++ [c.fr i (c.y1 y (emptyN c.g i))], c.zN i (c.y1 y (emptyN c.g i)), f, w64 ((c.fr i (c.y1 y (emptyN c.g i))).y + c.h)), ⟨hz2, show c.n ≤ f + c.zN i (c.y1 y (emptyN c.g i)) by omega, ?_⟩, show c.n - c.zN i (c.y1 y (emptyN c.g i)) < c.n - i by omega, rfl⟩⟩
    · rw [c_lt hlt, pick_ite, cond_true, pick_ite]
      by_cases h0 : (i : Int) > 0
      · have hk : kBo i = 1 := by unfold kBo; rw [decide_eq_true h0]; rfl
        rw [decide_eq_true h0, cond_true, hk]
        exact (pick_same _ _).trans hrest
      · have hk : kBo i = 0 := by unfold kBo; rw [decide_eq_false h0]; rfl
        rw [decide_eq_false h0, cond_false, hk]
        exact (pick_same _ _).trans hrest
    · show c.pls = _
      rw [h3]; simp
  · rw [Wr.plF_end c f i y hge, List.append_nil] at h3
    refine ⟨[], .exit 0, _, LamOK.nil _ _, endKo c i y _ _ hge, .inr ⟨by simp, ?_⟩⟩
    rw [h3]; rfl
noncomputable abbrev rwplace.s : List V → T V := argsW fun c => .ite (@decide c.ok (Classical.propDecidable _)) (.leaf (vOf ksPl plQ c.pls)) .bad
theorem rwplace.eq (c : Wr) (m : Nat) (G : Nat → Nat → Q) : funV Tryz.prog ΓWk [(pKo, orcP (nilV 11 0 39 ksPl) false 81 1 (liveKo .normal) (SKo c (0 : Nat) 0 ([] : List Pl).length (gOf plQ [])) (.leaf (Ex.exit 0, FKo m G)))] Tryz.f36 (cod Tryz.f36) [lWd c.n c.g, lstF c.m c.f, V.i c.w, V.i c.h] =
    .ite (@decide (SKo c (0 : Nat) 0 ([] : List Pl).length (gOf plQ []) = SKo c (0 : Nat) 0 ([] : List Pl).length (gOf plQ [])) (Classical.propDecidable _)) (.leaf (lPl m G)) .bad := by kernel_rfl
theorem rwplace.ok : SpecOK Tryz.prog 36 rwplace.s := by
  refine okF ΓWk.ok Tryz.func36 (by kernel_rfl) (by kernel_rfl) fun args r hb hr => ?_
  obtain ⟨c, rfl, hr2⟩ := argsW_pick hr
  replace hr := hr2
  rw [pick_ite] at hr
  by_cases hok : c.ok
  · rw [@decide_eq_true _ (Classical.propDecidable _) hok] at hr
    exact ⟨_, LamOK.orcP (pre := nilV 11 0 39 ksPl) (fun s => sub_nilV _ _ _ _ s) (p := pKo) (mk := false) (nn := 81) (k := 1) (live := liveKo .normal) (c := .loop bodyKo) (by kernel_rfl) (loopKo c hok) (LamOK.nil _ _), (congrArg T.pick (rwplace.eq c _ _)).trans ((pick_same _ _).trans hr)⟩
  · rw [@decide_eq_false _ (Classical.propDecidable _) hok] at hr; cases hr

/-! ### checked, Place, High -/
abbrev ΓWck : Gam := [(58, rRight.s), (59, fl_rRight.s)]
theorem ΓWck.ok : GOK Tryz.prog ΓWck := .cons rRight.ok (.cons fl_rRight.ok (GOK.nil _))
noncomputable abbrev chk.s : List V → T V := argsW fun c => .leaf (V.i c.cod)
theorem chk.eq (c : Wr) : funV Tryz.prog ΓWck [] Tryz.f35 (cod Tryz.f35) [lWd c.n c.g, lstF c.m c.f, V.i c.w, V.i c.h] =
    .ite (!rightW c.n c.g) (.leaf (V.i 70)) (.ite (!rightS c.m c.f c.w) (.leaf (V.i 110)) (.ite (badH c.h) (.leaf (V.i 80)) (.leaf (V.i 0)))) := by kernel_rfl
theorem chk.ok : SpecOK Tryz.prog 35 chk.s := by
  refine okF ΓWck.ok Tryz.func35 (by kernel_rfl) (by kernel_rfl) fun args r hb hr => ?_
  obtain ⟨c, rfl, hr2⟩ := argsW_pick hr
  refine ⟨[], LamOK.nil _ _, (congrArg T.pick (chk.eq c)).trans (Eq.trans ?_ hr2)⟩
  unfold Wr.cod
  rw [right_eq]
  cases rightW c.n c.g with
  | false => rfl
  | true =>
    cases rightS c.m c.f c.w with
    | false => rfl
    | true => cases badH c.h <;> rfl
noncomputable abbrev ΓWr2 : Gam := [(35, chk.s), (36, rwplace.s), (37, fLow.s)]
theorem ΓWr2.ok : GOK Tryz.prog ΓWr2 := .cons chk.ok (.cons rwplace.ok (.cons rLow.ok (GOK.nil _)))
noncomputable abbrev dOk (c : Wr) : Bool := @decide c.ok (Classical.propDecidable _)
theorem dOk_of {c : Wr} (h : (c.cod != 0) = false) : dOk c = true := @decide_eq_true _ (Classical.propDecidable _) (Wr.ok_of h)
noncomputable abbrev rWp.s : List V → T V := argsW fun c => .ite (c.cod != 0) (.leaf (.tup [emptyL ksPl, V.i c.cod])) (.leaf (.tup [vOf ksPl plQ c.pls, V.i 0]))
noncomputable abbrev rWp.t : List V → T V := argsW fun c => .ite (c.cod != 0) (.leaf (nilT0 c.cod)) (.leaf (.tup [vOf ksPl plQ c.pls, V.i 0]))
theorem rWp.eq (c : Wr) : funV Tryz.prog ΓWr2 [] Tryz.f15 (cod Tryz.f15) [lWd c.n c.g, lstF c.m c.f, V.i c.w, V.i c.h] =
    .ite (c.cod != 0) (.leaf (nilT0 c.cod)) (.ite (dOk c) (.leaf (.tup [vOf ksPl plQ c.pls, V.i 0])) .bad) := by kernel_rfl
theorem rWp.ok : SpecOK Tryz.prog 15 rWp.s := by
  refine SpecOK.res (sp' := rWp.t) ?_ fun args r hb hr => ?_
  · refine okF ΓWr2.ok Tryz.func15 (by kernel_rfl) (by kernel_rfl) fun args r hb hr => ?_
    obtain ⟨c, rfl, hr2⟩ := argsW_pick hr
    refine ⟨[], LamOK.nil _ _, (congrArg T.pick (rWp.eq c)).trans (Eq.trans ?_ hr2)⟩
    cases hc : c.cod != 0 with
    | true => rfl
    | false => rw [dOk_of hc]; rfl
  · obtain ⟨c, rfl, hr2⟩ := argsW_pick hr
    show ∃ r', (T.ite (c.cod != 0) (.leaf (nilT0 c.cod)) (.leaf (.tup [vOf ksPl plQ c.pls, V.i 0]))).pick = some r' ∧ _
    cases hc : c.cod != 0 with
    | true => rw [hc] at hr2; cases hr2; exact ⟨_, rfl, fun S w v h => den_tnil h⟩
    | false => rw [hc] at hr2; cases hr2; exact ⟨_, rfl, fun S w v h => h⟩
/-- How high all is, by the last line. -/
noncomputable def Wr.hiR (c : Wr) : Int := bif decide ((c.pls.length : Int) > 0) then mx2 c.low (w64 ((gPl (gOf plQ c.pls) (w64 ((c.pls.length : Int) - 1)).toNat).y + c.h)) else c.low
noncomputable abbrev rWh.s : List V → T V := argsW fun c => .ite (c.cod != 0) (.leaf (.tup [V.i 0, V.i c.cod])) (.leaf (.tup [V.i c.hiR, V.i 0]))
theorem rWh.eq (c : Wr) : funV Tryz.prog ΓWr2 [] Tryz.f17 (cod Tryz.f17) [lWd c.n c.g, lstF c.m c.f, V.i c.w, V.i c.h] =
    .ite (c.cod != 0) (.leaf (.tup [V.i 0, V.i c.cod])) (.ite (dOk c) (.ite (decide ((c.pls.length : Int) > 0)) (.ite (decide (0 ≤ w64 ((c.pls.length : Int) - 1) ∧ w64 ((c.pls.length : Int) - 1) < (c.pls.length : Int))) (.leaf (.tup [V.i (mx2 c.low (w64 ((gPl (gOf plQ c.pls) (w64 ((c.pls.length : Int) - 1)).toNat).y + c.h))), V.i 0])) .bad) (.leaf (.tup [V.i c.low, V.i 0]))) .bad) := by kernel_rfl
theorem rWh.ok : SpecOK Tryz.prog 17 rWh.s := by
  refine okF ΓWr2.ok Tryz.func17 (by kernel_rfl) (by kernel_rfl) fun args r hb hr => ?_
  obtain ⟨c, rfl, hr2⟩ := argsW_pick hr
  refine ⟨[], LamOK.nil _ _, (congrArg T.pick (rWh.eq c)).trans (Eq.trans ?_ hr2)⟩
  cases hc : c.cod != 0 with
  | true => rfl
  | false =>
    have hl := Wr.pls_len c (right_ok (Wr.ok_of hc).rw_)
    rw [dOk_of hc, Wr.hiR]
    by_cases h0 : (c.pls.length : Int) > 0
    · rw [decide_eq_true h0, decide_eq_true (show 0 ≤ w64 ((c.pls.length : Int) - 1) ∧ w64 ((c.pls.length : Int) - 1) < (c.pls.length : Int) by rw [w64_id (by omega) (by omega)]; omega)]; rfl
    · rw [decide_eq_false h0]; rfl
end Go.Proofs.YthmlbmambcigcaaGreatDoor

/- Lines beside floats, one by one: the first eight floats, sixty words; what all laws show first. -/
namespace Go.Proofs.YthmlbmambcigcaaGreatDoor
open Go Go.SX Go.Proofs
set_option maxRecDepth 100000
variable [EA]
set_option linter.unusedVariables false
set_option linter.unusedSectionVars false
set_option linter.unusedSimpArgs false

/-! ### few, words -/
abbrev few8 (m : Nat) : Nat := (mn2 (m : Int) 8).toNat - (0 : Int).toNat
theorem few8_le (m : Nat) : few8 m ≤ 8 ∧ few8 m ≤ m := by simp only [few8, mn2_eq]; omega
def wfew.s : List V → T V
  | [.q (.lst [.int .i64, .int .i64, .bool, .bool] m f)] => .leaf (lstF (few8 m) f)
  | _ => .bad
theorem wfew.ok : SpecOK Tryz.prog 13 wfew.s := by
  refine okF (GOK.nil _) Tryz.func13 (by kernel_rfl) (by kernel_rfl) fun args r hb hr => ?_
  unfold wfew.s at hr
  split at hr
  · rename_i m f
    have e : funV Tryz.prog [] [] Tryz.f13 (cod Tryz.f13) [lstF m f] =
        .ite (decide ((0 : Int) ≤ 0 ∧ (0 : Int) ≤ mn2 (m : Int) 8 ∧ mn2 (m : Int) 8 ≤ (m : Int))) (.leaf (lstF (few8 m) (gz f))) .bad := by kernel_rfl
    have c1 : decide ((0 : Int) ≤ 0 ∧ (0 : Int) ≤ mn2 (m : Int) 8 ∧ mn2 (m : Int) 8 ≤ (m : Int)) = true := by
      simp only [mn2]; split <;> simp <;> omega
    exact ⟨[], LamOK.nil _ _, by rw [e, c1, gz_id]; exact hr⟩
  · cases hr
/-- The text's first bytes; its first sixty words. -/
abbrev t400 (b : ByteArray) : ByteArray := b.extract (0 : Int).toNat (mn2 (b.size : Int) 400).toNat
abbrev w60 (b : ByteArray) : Nat := (mn2 ((words (t400 b)).length : Int) 60).toNat - (0 : Int).toNat
abbrev wG (b : ByteArray) : Nat → Nat → Q := gOf wdQ (words (t400 b))
def wwords.s : List V → T V
  | [.q (.c (.string b))] => .leaf (lWd (w60 b) (wG b))
  | _ => .bad
abbrev ΓWw : Gam := [(30, rWords.s)]
theorem ΓWw.ok : GOK Tryz.prog ΓWw := .cons rWords.ok (GOK.nil _)
theorem wwords.c (b : ByteArray) : (funV Tryz.prog ΓWw [] Tryz.f19 (cod Tryz.f19) [V.s b]).pathC [true, false, true] = [decide ((0 : Int) ≤ 0 ∧ (0 : Int) ≤ mn2 (b.size : Int) 400 ∧ mn2 (b.size : Int) 400 ≤ (b.size : Int)), decide (((t400 b).size : Int) > 400), decide ((0 : Int) ≤ 0 ∧ (0 : Int) ≤ mn2 ((words (t400 b)).length : Int) 60 ∧ mn2 ((words (t400 b)).length : Int) 60 ≤ ((words (t400 b)).length : Int))] := by kernel_rfl
theorem wwords.l (b : ByteArray) : (funV Tryz.prog ΓWw [] Tryz.f19 (cod Tryz.f19) [V.s b]).pathL [true, false, true] = .leaf (lWd (w60 b) (gz (wG b))) := by kernel_rfl
theorem wwords.ok : SpecOK Tryz.prog 19 wwords.s := by
  refine okF ΓWw.ok Tryz.func19 (by kernel_rfl) (by kernel_rfl) fun args r hb hr => ?_
  unfold wwords.s at hr
  split at hr
  · rename_i b
    have c1 : decide ((0 : Int) ≤ 0 ∧ (0 : Int) ≤ mn2 (b.size : Int) 400 ∧ mn2 (b.size : Int) 400 ≤ (b.size : Int)) = true := by
      simp only [mn2]; split <;> simp <;> omega
    have c2 : decide (((t400 b).size : Int) > 400) = false := by
      refine decide_eq_false ?_
      rw [ByteArray.size_extract]
      simp only [mn2]; split <;> omega
    have c3 : decide ((0 : Int) ≤ 0 ∧ (0 : Int) ≤ mn2 ((words (t400 b)).length : Int) 60 ∧ mn2 ((words (t400 b)).length : Int) 60 ≤ ((words (t400 b)).length : Int)) = true := by
      simp only [mn2]; split <;> simp <;> omega
    refine ⟨[], LamOK.nil _ _, (T.pick_path [true, false, true] _ ((wwords.c b).trans (by rw [c1, c2, c3]))).trans ?_⟩
    rw [wwords.l, gz_id]; exact hr
  · cases hr

/-! ### shown -/
noncomputable abbrev ΓS12 : Gam := [(30, rWords.s), (14, wPlace.s), (16, wHigh.s)]
theorem ΓS12.ok : GOK Tryz.prog ΓS12 := .cons rWords.ok (.cons wPlace.ok (.cons wHigh.ok (GOK.nil _)))
abbrev tEx : ByteArray := ⟨#[97, 97, 32, 98, 98]⟩
abbrev fE12 : Nat → Nat → Q := rows [[.c (.int .i64 1000), .c (.int .i64 50), .c (.bool false), .c (.bool false)]]
abbrev gwEx : Nat → Nat → Q := gOf wdQ (words tEx)
abbrev cEx : Wr := ⟨(words tEx).length, gwEx, 1, fE12, 2000, 100⟩
noncomputable abbrev shF : T V := funV Tryz.prog ΓS12 [] Tryz.f11 (cod Tryz.f11) []
abbrev shP : List Bool := [false, true, false, true, false, true, true, true, true, true, true, true, true, true, true]
theorem shF_c : shF.pathC shP = [false, true, false, true, false, true, true, (cEx.pls.length : Int) == 2, decide ((0 : Int) ≤ 0 ∧ (0 : Int) < cEx.pls.length), plEq (gPl (gOf plQ cEx.pls) 0) ⟨0, 1, 768, 1000, 0⟩, decide ((0 : Int) ≤ 1 ∧ (1 : Int) < cEx.pls.length), plEq (gPl (gOf plQ cEx.pls) 1) ⟨1, 2, 768, 0, 100⟩, true, hiL 100 cEx.low cEx.pls == 200, true] := by kernel_rfl
theorem shF_l : shF.pathL shP = .leaf (V.b true) := by kernel_rfl
theorem exW0 : rplR 0 (gR fE12 2000 0) fE12 2000 (gFl fE12 0) = ⟨0, 0, 1000, 50⟩ := by
  have hs : fitsB 0 (gR fE12 2000 0) fE12 2000 (gFl fE12 0) (ryK 0 (gR fE12 2000 0) 0 0) = true := by kernel_rfl
  have hk : lastR 0 (gR fE12 2000 0) fE12 2000 (gFl fE12 0) 0 = 0 := lastR_is hs fun j hj => by omega
  have hY : rplY 0 (gR fE12 2000 0) fE12 2000 (gFl fE12 0) = 0 := by
    show ryK 0 (gR fE12 2000 0) 0 (lastR 0 (gR fE12 2000 0) fE12 2000 (gFl fE12 0) 0) = 0
    rw [hk]; rfl
  have e : (⟨rAt 0 (gR fE12 2000 0) fE12 2000 (gFl fE12 0) 0, 0, (gFl fE12 0).w, (gFl fE12 0).h⟩ : Rc) = ⟨0, 0, 1000, 50⟩ := by kernel_rfl
  rw [← e]
  show (⟨rAt 0 (gR fE12 2000 0) fE12 2000 (gFl fE12 0) (rplY 0 (gR fE12 2000 0) fE12 2000 (gFl fE12 0)), rplY 0 (gR fE12 2000 0) fE12 2000 (gFl fE12 0), (gFl fE12 0).w, (gFl fE12 0).h⟩ : Rc) = _
  rw [hY]
abbrev G12 : Nat → Nat → Q := catG 0 (fun _ _ => default) (one1 ⟨0, 0, 1000, 50⟩)
theorem exW : gR fE12 2000 1 = G12 := by
  show catG 0 (gR fE12 2000 0) (one1 (rplR 0 (gR fE12 2000 0) fE12 2000 (gFl fE12 0))) = _
  rw [exW0]; rfl
theorem cEx_ra (y : Int) : cEx.ra y = bif okYH 1 fE12 2000 y 100 then rI G12 fE12 2000 y 100 false 1 else 0 := by
  show (bif okYH 1 fE12 2000 y 100 then rI (gR fE12 2000 1) fE12 2000 y 100 false 1 else 0) = _
  rw [exW]
theorem cEx_rb (y : Int) : cEx.rb y = bif okYH 1 fE12 2000 y 100 then rI G12 fE12 2000 y 100 true 1 else 0 := by
  show (bif okYH 1 fE12 2000 y 100 then rI (gR fE12 2000 1) fE12 2000 y 100 true 1 else 0) = _
  rw [exW]
theorem cEx_low : cEx.low = 50 := by
  show (bif rightF 1 fE12 2000 then lowS (gR fE12 2000 1) 1 else 0) = 50
  rw [exW]; kernel_rfl
theorem Wr.kn0 {c : Wr} {i : Nat} {y : Int} (h : c.go i y = false) : c.kn i y = 0 := by
  have : ∀ n, fstN (fun k => !(c.go i (c.yk y k))) n = 0 := fun n => by
    induction n with
    | zero => rfl
    | succ n ih =>
      simp only [fstN, ih]
      rw [show c.go i (c.yk y 0) = false from h]; rfl
  exact this _
theorem Wr.yz0 {c : Wr} {i : Nat} {y : Int} (h : c.go i y = false) : c.yz i y = y := by
  unfold Wr.yz
  rw [Wr.kn0 h]; rfl
theorem cEx_rw0 : cEx.rw 0 = 1000 := by
  unfold Wr.rw
  rw [cEx_ra, cEx_rb]; kernel_rfl
theorem cEx_rw1 : cEx.rw 100 = 2000 := by
  unfold Wr.rw
  rw [cEx_ra, cEx_rb]; kernel_rfl
theorem cEx_go0 : cEx.go 0 0 = false := by
  unfold Wr.go
  rw [cEx_rw0, show decide ((gWd cEx.g 0).w > 1000) = false by kernel_rfl]; rfl
theorem cEx_go1 : cEx.go 1 100 = false := by
  unfold Wr.go
  rw [cEx_rw1, show decide ((gWd cEx.g 1).w > 2000) = false by kernel_rfl]; rfl
theorem cEx_fr0 : cEx.fr 0 0 = ⟨0, 1, 768, 1000, 0⟩ := by
  unfold Wr.fr
  rw [Wr.yz0 cEx_go0, cEx_rw0, cEx_ra]; kernel_rfl
theorem cEx_fr1 : cEx.fr 1 100 = ⟨1, 2, 768, 0, 100⟩ := by
  unfold Wr.fr
  rw [Wr.yz0 cEx_go1, cEx_rw1, cEx_ra]; kernel_rfl
theorem cEx_z0 : cEx.zN 0 0 = 1 := by
  unfold Wr.zN
  rw [Wr.yz0 cEx_go0, cEx_rw0]; kernel_rfl
theorem cEx_pls : cEx.pls = [⟨0, 1, 768, 1000, 0⟩, ⟨1, 2, 768, 0, 100⟩] := by
  have hn : cEx.n = 2 := by kernel_rfl
  have e0 : emptyN cEx.g 0 = 0 := by kernel_rfl
  have e1 : emptyN cEx.g 1 = 0 := by kernel_rfl
  have hw : w64 ((0 : Int) + cEx.h) = 100 := by kernel_rfl
  unfold Wr.pls
  rw [hn, Wr.plF, if_pos (by rw [hn]; omega), e0]
  show [] ++ cEx.fr 0 0 :: cEx.plF 1 (cEx.zN 0 0) (w64 ((cEx.fr 0 0).y + cEx.h)) = _
  rw [cEx_fr0, cEx_z0, hw, Wr.plF, if_pos (by rw [hn]; omega), e1]
  show [] ++ _ :: ([] ++ cEx.fr 1 100 :: []) = _
  rw [cEx_fr1]; rfl
def wshown.s : List V → T V
  | [] => .leaf (V.b true)
  | _ => .bad
theorem wshown.ok : SpecOK Tryz.prog 11 wshown.s := by
  refine okF ΓS12.ok Tryz.func11 (by kernel_rfl) (by kernel_rfl) fun args r hb h => ?_
  unfold wshown.s at h
  split at h
  · refine ⟨[], LamOK.nil _ _, (T.pick_path shP shF (shF_c.trans ?_)).trans ((congrArg T.pick shF_l).trans h)⟩
    rw [cEx_low, cEx_pls]; kernel_rfl
  · cases h
end Go.Proofs.YthmlbmambcigcaaGreatDoor

/- What all rows of this seat need: the laid variables; the arguments' shapes. -/
namespace Go.Proofs.YthmlbmambcigcaaGreatDoor
open Go Go.SX Go.Proofs Go.RowKit Go.ChangeShapes
set_option maxRecDepth 100000
set_option linter.unusedVariables false
set_option linter.unusedSectionVars false
set_option linter.unusedSimpArgs false

abbrev laidL : List (String × DataW Unit) := [("errors.errorType", Rows.laid_errors_errorType), ("gutter/float.errFloat", Rows.laid_gutter_float_errFloat), ("gutter/wrap.errWrap", Rows.laid_gutter_wrap_errWrap)]

theorem es_star : "*" ++ "errors.errorString" = "*errors.errorString" := by decide
theorem es_row (u : TypeId) (h : Tryz.prog.typeName? 3 u = some "*errors.errorString") : u = 236 :=
  typeName_ptr_named (nm := "errors.errorString") (by rw [es_star]; kernel_rfl) (by kernel_rfl) (by decide) u (by rw [es_star]; exact h)

theorem glw_of_laid {W : World} (h : laidMetH Tryz.prog laidL W) : ∃ e : EA, @GLw (@gw e) W := by
  have h' : laidMet Tryz.prog [("gutter/float.errFloat", Rows.laid_gutter_float_errFloat), ("gutter/wrap.errWrap", Rows.laid_gutter_wrap_errWrap)] W ∧ handlesMet Tryz.prog [("errors.errorType", Rows.laid_errors_errorType)] W := h
  obtain ⟨name, u, ty, e1, e2, e3, e4, e5⟩ := h'.2 _ (List.mem_singleton.2 rfl)
  have en : name = [101, 114, 114, 111, 114] := (Option.some.inj e1).symm
  subst en
  have hrt : (Tryz.prog.cutTypes.find? (·.1 == "internal/reflectlite.rtype")).map (·.2) = some 193 := by kernel_rfl
  obtain rfl := Option.some.inj (hrt.symm.trans e2)
  have hone : ((List.range Tryz.prog.types.size).filter fun t => Tryz.prog.rowNamed t [101, 114, 114, 111, 114]) = [70] := by kernel_rfl
  have hm : ty ∈ (List.range Tryz.prog.types.size).filter fun t => Tryz.prog.rowNamed t [101, 114, 114, 111, 114] := List.mem_filter.2 ⟨List.mem_range.2 e3, e4⟩
  rw [hone] at hm
  obtain rfl := List.mem_singleton.1 hm
  have hh : typeHandle Tryz.prog 70 = .pointer (some ⟨3, 70, none⟩) := by kernel_rfl
  rw [hh] at e5
  have het : Tryz.prog.globalNamed "errors.errorType" = some 2 := by kernel_rfl
  have hef : Tryz.prog.globalNamed "gutter/float.errFloat" = some 1 := by kernel_rfl
  have hu := h'.1
  obtain ⟨a, s, hv, _, _, _⟩ := laid_sentinel (ti := 70) (te := 258) (ts := 9) hu hef (by kernel_rfl) Tryz.underlying70 es_row Tryz.underlying236 Tryz.underlying258 rfl rfl Tryz.underlying9 (by kernel_rfl) (by kernel_rfl)
  have hew : Tryz.prog.globalNamed "gutter/wrap.errWrap" = some 0 := by kernel_rfl
  obtain ⟨b, _, hvb, _, _, _⟩ := laid_sentinel (ti := 70) (te := 258) (ts := 9) hu.tail hew (by kernel_rfl) Tryz.underlying70 es_row Tryz.underlying236 Tryz.underlying258 rfl rfl Tryz.underlying9 (by kernel_rfl) (by kernel_rfl)
  refine ⟨⟨fun i => if i = 0 then a else b⟩, fun x hx => ?_⟩
  have hx' : x = (2, 0, .iface 193 (.agg #[.pointer (some ⟨3, 70, none⟩)])) ∨ x = (1, 0, .iface 236 (.pointer (some a))) ∨ x = (0, 0, .iface 236 (.pointer (some b))) := by
    have : x ∈ ([(2, 0, etV)] ++ [(1, 0, .iface 236 (.pointer (some a)))]) ++ [(0, 0, .iface 236 (.pointer (some b)))] := hx
    simpa using this
  rcases hx' with rfl | rfl | rfl
  · simpa using World.var?_cell het e5 0
  · simpa using World.var?_cell hef hv 0
  · simpa using World.var?_cell hew hvb 0

/-- A world that meets the condition. -/
noncomputable def lowW : Nat := (World.holding Tryz.prog default ⟨#[], #[], []⟩).heap.size
noncomputable def laidWorld (os : Os) : World :=
  let w0 := World.holding Tryz.prog os ⟨#[.cells #[.string ⟨#[110, 111, 32, 102, 108, 111, 97, 116]⟩] 258, .cells #[.string ⟨#[110, 111, 116, 32, 112, 108, 97, 99, 101, 100]⟩] 258], #[], []⟩
  { w0 with heap := ((w0.heap.modify 2 fun
      | .cells _ t frozen => .cells #[.iface 193 (.agg #[.pointer (some ⟨3, 70, none⟩)])] t frozen
      | o => o).modify 1 fun
      | .cells _ t frozen => .cells #[.iface 236 (.pointer (some ⟨lowW, 0, none⟩))] t frozen
      | o => o).modify 0 fun
      | .cells _ t frozen => .cells #[.iface 236 (.pointer (some ⟨lowW + 1, 0, none⟩))] t frozen
      | o => o }
theorem laidWorld_met (os : Os) (args : Array Value) : laidMetH Tryz.prog laidL ((laidWorld os).forCall (fun _ _ => 0) ⟨#[], args, []⟩).memory :=
  laidMetH_of_parts (laidMet_of_run (ps := [.cell 1 0, .cell lowW 0, .cell 0 0, .cell (lowW + 1) 0]) 8 (by kernel_rfl) (by kernel_rfl) (by kernel_rfl)) (by kernel_rfl)
theorem own : ownKnob Tryz.prog.godebug = none := by kernel_rfl

/-- **A law's contract gives what its row asks**, with the laid variables. -/
theorem row_of {f : Nat} {fn : Func} {sp : List V → T V} {s : ChangeSpec} {shs : List (Bool × List K)} {rt : TypeId} {apart : Bool} (H : Type) (enc : TypeId × Value → H) (os : Os) (started : os.Started)
    (hs : ∀ e : EA, @SpecOK (@gw e) Tryz.prog f sp) (hfn : Tryz.prog.funcs[f]? = some fn) (hrt : fn.resultTypes = #[rt]) (hu : Tryz.prog.underlying rt = some .bool) (hvars : s.vars = []) (hf : ∀ (ds : List (DataW H)), ds.length = fn.params.size → s.fn H ds = { results := [.lit (.bool true)], args := ds })
    (hpar : parTs Tryz.prog fn.params.toList = some shs) (hlaw : ∀ xs, PVs shs xs → (sp xs).pick = some (V.b true)) (hno : Tryz.checked.prog.inits.idxOf? f = none)
    (hw : ∃ (w : World) (tape : Tape) (i : Input), w.os = os ∧ (w.forCall tape i).Shaped Tryz.checked.prog ∧ i.vars = [] ∧ Input.okWide Tryz.checked.prog (w.forCall tape i) .any w.heap.size f i ∧
      ((s.pre enc Tryz.checked.prog fn [] apart (w.forCall tape i).memory i.args ∧ laidMetH Tryz.prog laidL (w.forCall tape i).memory) ∧ sizedMet enc Tryz.checked.prog fn (OpenSpec.ofChange s) apart (w.forCall tape i).memory i.args) ∧ ({} : Assume).holds Tryz.checked.prog (lone (Frame.enter Tryz.checked.prog f i.args .normal) [] (w.forCall tape i))) :
    ReturnsInHanded {} Tryz.checked os f .any (fun w args => (s.pre enc Tryz.prog fn [] apart w args ∧ laidMetH Tryz.prog laidL w) ∧ sizedMet enc Tryz.prog fn (OpenSpec.ofChange s) apart w args) (s.post enc Tryz.prog fn apart true false false) := by
  refine returnsInHanded_of_change_and (C := Tryz.checked) (X := fun w _ => laidMetH Tryz.prog laidL w) (fun _ _ _ hh h => h.of_heap hh) own started hno hfn hw ?_
  intro W base args ds gs before hval hW _ _ hL _
  obtain ⟨e, hg⟩ := glw_of_laid hL
  letI : EA := e
  exact contract_of (hs e) hrt hu hvars hf hpar hlaw hval hW hg

/-! ### the arguments' shapes -/
theorem pvs_nil {xs : List V} (h : PVs [] xs) : xs = [] := by cases h; rfl
theorem pvs_cons {p : Bool × List K} {ps : List (Bool × List K)} {xs : List V} (h : PVs (p :: ps) xs) : ∃ x l, xs = x :: l ∧ PV p x ∧ PVs ps l := by
  cases h with
  | cons _ x _ l h1 h2 => exact ⟨x, l, rfl, h1, h2⟩
def Wf (n : Int) : Prop := -9223372036854775808 ≤ n ∧ n ≤ 9223372036854775807
theorem kw_int {v : Value} (h : KW (.int .i64) v) : ∃ n, v = .int .i64 n ∧ Wf n := by
  cases h with
  | int _ n hw =>
    refine ⟨n, rfl, ?_⟩
    simp only [Lit.wf, Bool.and_eq_true, decide_eq_true_eq] at hw
    exact hw
theorem pv_int {x : V} (h : PV (false, [.int .i64]) x) : ∃ n, x = V.i n ∧ Wf n := by
  cases h with
  | one _ q hq =>
    cases hq with
    | val _ v hv => obtain ⟨n, rfl, hw⟩ := kw_int hv; exact ⟨n, rfl, hw⟩
theorem pv_floats {x : V} (h : PV (false, [.lst ksF]) x) : ∃ n g, x = lstF n g ∧ n ≤ 9223372036854775807 := by
  cases h with
  | one _ q hq =>
    cases hq with
    | val _ v hv => cases hv
    | lst _ n g hn hg => exact ⟨n, g, rfl, hn⟩
theorem qks_cons {k : K} {ks : List K} {l : List V} (h : QKs (k :: ks) l) : ∃ q r, l = .q q :: r ∧ QK k q ∧ QKs ks r := by
  cases h with
  | cons _ q _ r h1 h2 => exact ⟨q, r, rfl, h1, h2⟩
theorem qk_int {q : Q} (h : QK (.int .i64) q) : ∃ n, q = .c (.int .i64 n) ∧ Wf n := by
  cases h with
  | val _ v hv => obtain ⟨n, rfl, hw⟩ := kw_int hv; exact ⟨n, rfl, hw⟩
theorem qk_str {q : Q} (h : QK .str q) : ∃ b : ByteArray, q = .c (.string b) ∧ b.size ≤ maxLen := by
  cases h with
  | val _ v hv => cases hv with | str b hb => exact ⟨_, rfl, hb⟩
theorem pv_text {x : V} (h : PV (false, [.str]) x) : ∃ b : ByteArray, x = V.s b ∧ b.size ≤ maxLen := by
  cases h with
  | one _ q hq => obtain ⟨b, rfl, hb⟩ := qk_str hq; exact ⟨b, rfl, hb⟩
theorem pv_words {x : V} (h : PV (false, [.lst ksWd]) x) : ∃ n g, x = lWd n g ∧ n ≤ 9223372036854775807 := by
  cases h with
  | one _ q hq =>
    cases hq with
    | val _ v hv => cases hv
    | lst _ n g hn hg => exact ⟨n, g, rfl, hn⟩
theorem pv_placed {x : V} (h : PV (false, [.lst ksPl]) x) : ∃ n g, x = lPl n g ∧ n ≤ 9223372036854775807 := by
  cases h with
  | one _ q hq =>
    cases hq with
    | val _ v hv => cases hv
    | lst _ n g hn hg => exact ⟨n, g, rfl, hn⟩
variable [EA]
/-! ### the words that a law takes -/
abbrev fN (g : Nat → Nat → Q) (n : Nat) : Nat := (lFw g (min n 60)).length
abbrev fG (g : Nat → Nat → Q) (n : Nat) : Nat → Nat → Q := gOf wdQ (lFw g (min n 60))
theorem fN_le (g : Nat → Nat → Q) (n : Nat) : fN g n ≤ 60 := by
  show (lFw g (min n 60)).length ≤ 60
  rw [lFw_len]; omega
theorem cutB_size (b : ByteArray) : (cutB b).size ≤ 410 := by
  show (b.extract (0 : Int).toNat (ln_cutN b).toNat).size ≤ 410
  rw [ByteArray.size_extract]
  unfold ln_cutN
  split <;> omega
theorem fG_at (g : Nat → Nat → Q) (n : Nat) {i : Nat} (hi : i < fN g n) : gWd (fG g n) i = cutX (gWd g i) := by
  rw [gWd_of hi]
  simp [lFw]
theorem fSz (g : Nat → Nat → Q) (n : Nat) : allN (fN g n) (szW (fG g n)) = true := allN_true fun i hi => by
  have h := cutB_size (gWd g i).t
  show decide ((gWd (fG g n) i).t.size ≤ 9223372036854775807) = true
  rw [fG_at g n hi]
  exact decide_eq_true (by show (cutB (gWd g i).t).size ≤ _; omega)
end Go.Proofs.YthmlbmambcigcaaGreatDoor

/- Lines beside floats, one by one: plain facts of placed lines: they lie one below the other. -/
namespace Go.Proofs.YthmlbmambcigcaaGreatDoor
open Go Go.SX Go.Proofs
set_option maxRecDepth 100000
variable [EA]
set_option linter.unusedVariables false
set_option linter.unusedSectionVars false
set_option linter.unusedSimpArgs false

theorem Wr.nxt_le {c : Wr} {y : Int} (h : c.bes y = true) : c.nxt y ≤ c.low := by
  have hgt := Wr.nxt_gt h
  cases hr : rightF c.m c.f c.w with
  | false => simp only [Wr.nxt, Wr.low, hr, cond_false]; omega
  | true =>
    obtain ⟨hp, hl⟩ := lowS_ge (g := gR c.f c.w c.m) c.m
    have hE := ends_eq y hl c.m (Nat.le_refl _)
    simp only [Wr.nxt, Wr.low, hr, cond_true] at hgt ⊢
    cases hb : (rEb (gR c.f c.w c.m) y c.m).2 with
    | true => exact hE.h6 hb
    | false => rw [hE.h3 hb]; exact hp
theorem Wr.yk_le {c : Wr} {i : Nat} {y : Int} : ∀ k, (∀ j, j < k → c.go i (c.yk y j) = true) → c.yk y k ≤ max y c.low
  | 0, _ => by simp only [Wr.yk]; omega
  | k + 1, h => by
    have := Wr.nxt_le (Wr.go_bes (h k (by omega)))
    simp only [Wr.yk]
    omega
theorem Wr.yz_rng (c : Wr) (i : Nat) (y : Int) : y ≤ c.yz i y ∧ c.yz i y ≤ max y c.low := by
  have h1 := Wr.yk_ge (c := c) (i := i) (y := y) (c.kn i y) fun j hj => Wr.kn_go c i y hj
  have h2 := Wr.yk_le (c := c) (i := i) (y := y) (c.kn i y) fun j hj => Wr.kn_go c i y hj
  exact ⟨by unfold Wr.yz; omega, h2⟩
theorem Wr.low_rng {c : Wr} (h : c.ok) : 0 ≤ c.low ∧ c.low ≤ 20971520 := by
  have hF := fl_right_ok.1 h.rf
  have hg := (gR_all hF c.m (Nat.le_refl _)).ok
  simp only [Wr.low, h.rf, cond_true]
  refine ⟨(lowS_ge c.m).1, ?_⟩
  have : ∀ k, k ≤ c.m → lowS (gR c.f c.w c.m) k ≤ 20971520 := fun k hk => by
    induction k with
    | zero => simp only [lowS]; omega
    | succ k ih =>
      have h1 := ih (by omega)
      have rb := hg.rb (show k < c.m by omega)
      have h2 : lowE (gRc (gR c.f c.w c.m) k) = (gRc (gR c.f c.w c.m) k).y + (gRc (gR c.f c.w c.m) k).h := lowE_eq rb.y rb.h (by have := rb.yh; omega)
      have h3 := rb.yh
      simp only [lowS]
      unfold mx2
      split <;> omega
  exact this c.m (Nat.le_refl _)
theorem Wr.y1_eq {c : Wr} (h : c.ok) (y : Int) (h0 : 0 ≤ y) (h1 : y ≤ 4000000000000000000) : ∀ j, j ≤ 1000 → c.y1 y j = y + j * c.h ∧ (j : Int) * c.h ≤ 1048576000
  | 0, _ => by simp [Wr.y1]
  | j + 1, hj => by
    obtain ⟨e, hb⟩ := Wr.y1_eq h y h0 h1 j (by omega)
    have a1 := h.h1
    have a2 := h.h2
    simp only [MS] at a2
    have hm : ((j + 1 : Nat) : Int) * c.h = (j : Int) * c.h + c.h := by
      rw [show ((j + 1 : Nat) : Int) = (j : Int) + 1 by omega, Int.add_mul, Int.one_mul]
    have hp : 0 ≤ (j : Int) * c.h := Int.mul_nonneg (by omega) (by omega)
    have hb2 : (j : Int) * c.h ≤ (j : Int) * 1048576 := Int.mul_le_mul_of_nonneg_left a2 (by omega)
    simp only [Wr.y1]
    rw [e, w64_id (by omega) (by omega), hm]
    omega
/-- One below the other, from a Y on. -/
def Asc (h : Int) : Int → List Pl → Prop
  | _, [] => True
  | y, p :: L => y ≤ p.y ∧ p.y ≤ 1000000000000 ∧ Asc h (p.y + h) L
theorem Asc.le {h y z : Int} {L : List Pl} (hA : Asc h z L) (hz : y ≤ z) : Asc h y L := by
  cases L with
  | nil => trivial
  | cons p L => exact ⟨Int.le_trans hz hA.1, hA.2⟩
theorem Wr.plF_asc {c : Wr} (h : c.ok) : ∀ f i y, i ≤ c.n → 0 ≤ y → y ≤ 20971520 + 421527552 * (i : Int) → Asc c.h y (c.plF f i y)
  | 0, i, y, _, _, _ => trivial
  | f + 1, i, y, hi, h0, h1 => by
    have hH := right_ok h.rw_
    rw [Wr.plF]
    split
    · rename_i hlt
      have hn := hH.1
      have a1 := h.h1
      have a2 := h.h2
      simp only [MS] at a2
      have h4 := hH.2 i hlt
      have hk : 0 ≤ kBo i := by unfold kBo; cases decide ((i : Int) > 0) <;> simp
      have h5 : emptyN c.g i ≤ 400 := by show ((gWd c.g i).h - kBo i).toNat ≤ 400; omega
      have hz1 : i < c.zN i (c.y1 y (emptyN c.g i)) := nextZ_gt c.n c.g _ i
      have hz2 : c.zN i (c.y1 y (emptyN c.g i)) ≤ c.n := nextZ_le hlt
      have hl := Wr.low_rng h
      have hy1 := fun j hj => Wr.y1_eq h y h0 (by omega) j hj
      have hr := Wr.yz_rng c i (c.y1 y (emptyN c.g i))
      obtain ⟨e1, e2⟩ := hy1 (emptyN c.g i) (by omega)
      have hfy : (c.fr i (c.y1 y (emptyN c.g i))).y = c.yz i (c.y1 y (emptyN c.g i)) := rfl
      have e3 : ((emptyN c.g i : Nat) : Int) * c.h ≤ 400 * 1048576 := by
        have b1 : ((emptyN c.g i : Nat) : Int) * c.h ≤ ((emptyN c.g i : Nat) : Int) * 1048576 := Int.mul_le_mul_of_nonneg_left a2 (by omega)
        omega
      have e4 : 0 ≤ ((emptyN c.g i : Nat) : Int) * c.h := Int.mul_nonneg (by omega) (by omega)
      generalize hY : c.yz i (c.y1 y (emptyN c.g i)) = Y at hr hfy
      generalize hZ : c.zN i (c.y1 y (emptyN c.g i)) = z at hz1 hz2
      have hrest := Wr.plF_asc h f z (w64 (Y + c.h)) hz2 (by rw [w64_id (by omega) (by omega)]; omega) (by rw [w64_id (by omega) (by omega)]; omega)
      rw [w64_id (by omega) (by omega)] at hrest
      have hlast : Asc c.h (y + ((emptyN c.g i : Nat) : Int) * c.h) (c.fr i (c.y1 y (emptyN c.g i)) :: c.plF f z (w64 ((c.fr i (c.y1 y (emptyN c.g i))).y + c.h))) := by
        refine ⟨by rw [hfy]; omega, by rw [hfy]; omega, ?_⟩
        rw [hfy, w64_id (by omega) (by omega)]; exact hrest
      have key : ∀ (k : Nat) (T : List Pl), k ≤ emptyN c.g i → Asc c.h (y + (k : Int) * c.h) T → Asc c.h y (c.nils i k y ++ T) := fun k => by
        induction k with
        | zero => intro T _ hT; simpa [Wr.nils] using hT
        | succ k ih =>
          intro T hk' hT
          rw [Wr.nils_suc, List.append_assoc]
          refine ih _ (by omega) ?_
          obtain ⟨q1, q2⟩ := hy1 k (by omega)
          have hm : ((k + 1 : Nat) : Int) * c.h = (k : Int) * c.h + c.h := by
            rw [show ((k + 1 : Nat) : Int) = (k : Int) + 1 by omega, Int.add_mul, Int.one_mul]
          refine ⟨by show _ ≤ c.y1 y k; omega, by show c.y1 y k ≤ _; omega, ?_⟩
          show Asc c.h (c.y1 y k + c.h) T
          rw [q1]
          rw [hm] at hT
          exact hT.le (by omega)
      exact key (emptyN c.g i) _ (Nat.le_refl _) hlast
    · trivial
theorem Wr.pls_asc {c : Wr} (h : c.ok) : Asc c.h 0 c.pls := Wr.plF_asc h c.n 0 0 (Nat.zero_le _) (Int.le_refl _) (by omega)
theorem hiL_asc {h : Int} (h0 : 0 ≤ h) (h1 : h ≤ MS) : ∀ (L : List Pl) (y v : Int) (p : Pl), 0 ≤ y → Asc h y (L ++ [p]) → hiL h v (L ++ [p]) = mx2 v (p.y + h) ∧ y ≤ p.y ∧ p.y ≤ 1000000000000
  | [], y, v, p, hy, hA => by
    obtain ⟨a, b, _⟩ := hA
    refine ⟨?_, a, b⟩
    simp only [MS] at h1
    show mx2 v (w64 (p.y + h)) = _
    rw [w64_id (by omega) (by omega)]
  | q :: L, y, v, p, hy, hA => by
    obtain ⟨a, b, hA⟩ := hA
    simp only [MS] at h1
    obtain ⟨e1, e2, e3⟩ := hiL_asc h0 (by simp only [MS]; omega) L (q.y + h) (mx2 v (w64 (q.y + h))) p (by omega) hA
    refine ⟨?_, by omega, e3⟩
    show hiL h (mx2 v (w64 (q.y + h))) (L ++ [p]) = _
    rw [e1, w64_id (by omega) (by omega)]
    simp only [mx2_eq]
    omega
theorem Wr.hi_eq {c : Wr} (h : c.ok) : hiL c.h c.low c.pls = c.hiR := by
  have hA := Wr.pls_asc h
  have hlen := Wr.pls_len c (right_ok h.rw_)
  unfold Wr.hiR
  rcases List.eq_nil_or_concat c.pls with he | ⟨L, p, he⟩
  · rw [he]; rfl
  · rw [he] at hA hlen ⊢
    rw [List.concat_eq_append] at hA hlen ⊢
    have hl : (L ++ [p]).length = L.length + 1 := by simp
    rw [decide_eq_true (show (((L ++ [p]).length : Nat) : Int) > 0 by omega), cond_true]
    have hi : (w64 ((((L ++ [p]).length : Nat) : Int) - 1)).toNat = L.length := by rw [w64_id (by omega) (by omega)]; omega
    obtain ⟨e1, e2, e3⟩ := hiL_asc (by have := h.h1; omega) h.h2 L 0 c.low p (Int.le_refl _) hA
    have hh := h.h2
    have hh1 := h.h1
    simp only [MS] at hh
    rw [hi, gPl_of (show L.length < (L ++ [p]).length by omega), e1, List.getElem_concat_length rfl, w64_id (by omega) (by omega)]
end Go.Proofs.YthmlbmambcigcaaGreatDoor
