/- Iterators: their contract, and how it is got from the body. -/
import Derived.Test.YtgmeglodnhagdaaGreatDoorSxN
namespace Go.SX
open Go.RowKit
set_option linter.unusedVariables false
set_option linter.unusedSimpArgs false
set_option linter.unusedSectionVars false

def hist (x : Nat → List V) (k : Nat) : List (List V) := (List.range k).map x

theorem hist_succ (x : Nat → List V) (k : Nat) : hist x (k + 1) = hist x k ++ [x k] := by simp [hist, List.range_succ]

/-- After k yields there is no more: told to stop, or at the end. -/
structure Stops (go : List (List V) → Bool) (x : Nat → List V) (n k : Nat) : Prop where
  le : k ≤ n
  before : ∀ j, j + 1 < k → go (hist x (j + 1)) = true
  fin : (0 < k ∧ go (hist x k) = false) ∨ (k = n ∧ (0 < k → go (hist x k) = true))

/-- The yields that an iterator may ask for are let in. -/
def Admits (go : List (List V) → Bool) (adm : List (List V) → List V → Bool) (n : Nat) (x : Nat → List V) : Prop :=
  ∀ k, k < n → (∀ j, j < k → go (hist x (j + 1)) = true) → adm (hist x k) (x k) = true

/-- An iterator's contract: at what it has captured it yields x 0, x 1 .. x (n - 1), until it is told to stop. -/
def IterOK [GW] (P : Program) (f : Nat) (sp : List V → T (Nat × (Nat → List V))) : Prop :=
  entersB P f = true ∧ ∀ (J : Jt P) (S : Nat → Prop) (w : World) (caps : List V) (cvals : List Value) (l : Nat) (go : List (List V) → Bool) (adm : List (List V) → List V → Bool) (n : Nat) (x : Nat → List V),
    (∀ b, S b → b < w.heap.size) → GLw w → (∀ g ∈ GW.gl, S g.1) → DenL S NoL th0 w caps cvals → (sp caps).pick = some (n, x) → J.ok l go adm → J.r = none → J.hN = 0 → (∀ b, J.F0 b ↔ (b < w.heap.size ∧ ¬ S b)) →
    J.J [] (fun _ => False) (fun b => b < w.heap.size ∧ ¬ S b) w → Admits go adm n x →
    Calls P f (#[.func (.yield l) #[] #[]] ++ cvals.toArray) w fun e w' => ∃ v k, e = .returned v ∧ Stops go x n k ∧ ∃ F', After (fun b => b < w.heap.size ∧ ¬ S b) F' w w' ∧ J.J (hist x k) (fun _ => False) F' w'

def initI (fn : Func) (caps : List V) (go : List (List V) → Bool) (adm : List (List V) → List V → Bool) : St :=
  { tm := (.yld 0 :: caps) ++ List.replicate (fn.ntmps - (caps.length + 1)) .any, lo := [some (.yl go adm)] }

/-- What a body yields. -/
def itV (P : Program) (Γ : Gam) (Λ : Lam) (fn : Func) (c : Code) (caps : List V) (go : List (List V) → Bool) (adm : List (List V) → List V → Bool) : T (List (List V)) :=
  (sx P Γ Λ [] c (initI fn caps go adm)).bind fun (x : Ex × St) => match x.1 with
    | .normal | .ret => match x.2.lo[0]? with
      | some (some (Ob.yl _ _)) => (leaveV P fn x.2).bind fun _ => .leaf x.2.ys
      | _ => .bad
    | _ => .bad

theorem dropMarks_yl : ∀ (ds : List Df) {lo lo' : List (Option Ob)}, dropMarks ds lo = some lo' → ∀ (n : Nat) (go : List (List V) → Bool) (adm : List (List V) → List V → Bool), lo[n]? = some (some (Ob.yl go adm)) → lo'[n]? = some (some (Ob.yl go adm))
  | [], lo, lo', h, n, go, adm, e => by cases h; exact e
  | .mark m :: ds, lo, lo', h, n, go, adm, e => by
    simp only [dropMarks] at h
    split at h
    · rename_i hm
      refine dropMarks_yl ds h n go adm ?_
      have : m ≠ n := fun x => by rw [x, e] at hm; cases hm
      simp only [List.getElem?_set_ne this]
      exact e
    · cases h
  | .clo _ _ :: ds, lo, lo', h, n, go, adm, e => by simp [dropMarks] at h

theorem iterOK_of_body [GW] {P : Program} {Γ : Gam} {f : Nat} {fn : Func} {c : Code} {sp : List V → T (Nat × (Nat → List V))} (hΓ : GOK P Γ)
    (hf : P.funcs[f]? = some fn) (hb : fn.body = some c) (hent : entersB P f = true)
    (hsp : ∀ caps n x go adm, (∀ x ∈ caps, VB x) → (sp caps).pick = some (n, x) → Admits go adm n x → ∃ caps' Λ k, Weak caps caps' ∧ LamOK P c Λ ∧ Stops go x n k ∧ (itV P Γ Λ fn c caps' go adm).pick = some (hist x k)) : IterOK P f sp := by
  refine ⟨hent, fun J S w caps0 cvals l go adm n x hSw hgl hSg hd0 hr hok hJr hJN hF0 hj hadm => (callsIn_wide (n := 0)).1 (callsIn_of_wp_marks hf hb trivial ?_ rfl)⟩
  obtain ⟨caps, Λ, k, hwk, hΛ, hst, he⟩ := hsp caps0 n x go adm (fun x hx => let ⟨_, h⟩ := hd0.mem x hx; h.vb) hr hadm
  have hd := hwk _ _ _ hd0
  unfold itV at he
  rw [T.pick_bind] at he
  obtain ⟨⟨ex, s1⟩, h1, h2⟩ := he
  have hlen := hd.length
  have hR : Rep J (fun b => b < w.heap.size ∧ ¬ S b) (fun b => ¬ S b) w (initI fn caps go adm) (fun _ => ⟨l, .tuple #[], []⟩)
      { tmps := (#[.func (.yield l) #[] #[]] ++ cvals.toArray) ++ Array.replicate (fn.ntmps - (#[Value.func (.yield l) #[] #[]] ++ cvals.toArray).size) undef, defers := [] } w := by
    have hlo : ∀ (n : Nat) (o : Ob), (initI fn caps go adm).lo[n]? = some (some o) → n = 0 ∧ o = .yl go adm := fun n o ho => by
      cases n with
      | zero => simp [initI] at ho; exact ⟨rfl, ho.symm⟩
      | succ n => simp [initI] at ho
    have hS : ∀ b, S b → Stab (fun b => b < w.heap.size ∧ ¬ S b) (initI fn caps go adm).lo (fun _ => ⟨l, .tuple #[], []⟩) w b := fun b hb => ⟨hSw b hb, fun hh => hh.2 hb, fun n o ho hu => by
      obtain ⟨_, rfl⟩ := hlo n o ho
      exact hu⟩
    have hd0 := hd.mono (L' := Liv (initI fn caps go adm).lo) hS (fun _ _ => rfl) (fun _ hf => hf.elim) (fun _ hf => hf.elim) (θ' := (fun _ => ⟨l, .tuple #[], []⟩)) (w' := w)
    have hd' : DenL (Stab (fun b => b < w.heap.size ∧ ¬ S b) (initI fn caps go adm).lo (fun _ => ⟨l, .tuple #[], []⟩) w) (Liv (initI fn caps go adm).lo) (fun _ => ⟨l, .tuple #[], []⟩) w (.yld 0 :: caps) (.func (.yield l) #[] #[] :: cvals) :=
      .cons _ _ _ _ (.yld 0 ⟨_, rfl⟩) hd0
    have hsz : (#[Value.func (.yield l) #[] #[]] ++ cvals.toArray) = (Value.func (.yield l) #[] #[] :: cvals).toArray := by simp
    rw [hsz]
    refine ⟨by simp only [initI, List.length_append, List.length_cons, List.length_replicate, Array.size_append, Array.size_replicate, List.size_toArray]; omega, fun i v hv => ?_, fun n o ho => ?_, fun n o b ho hu => ?_, fun n m o o' b ho ho' hne hu => ?_, fun b hb hs => absurd (hSw b hs) (by omega), Fr.refl _ _ ⟨fun g hg hn => hn (hSg g hg), hgl⟩, fun b hb => hb.1,
      ⟨fun b => b < w.heap.size ∧ ¬ S b, ⟨fun _ h => h, fun b h => (hF0 b).1 h⟩, J.closed _ _ _ _ _ _ hj rfl rfl rfl (Nat.le_refl _) (fun _ _ _ => rfl) (fun b ⟨hnf, hh⟩ => hh.elim (fun ⟨n, o, ho, hu⟩ => by obtain ⟨_, rfl⟩ := hlo n o ho; exact hu.elim) fun hh => absurd hh hnf), fun b hb hf => hf.2⟩, fun n go' adm' ho => ?_, fun g hg hh => hh.2 (hSg g hg), ⟨by rw [hJr]; rfl, fun l hl => (by rw [hJr] at hl; cases hl)⟩, ⟨hJN, Nat.zero_le _, fun n hn => absurd hn (Nat.not_lt_zero _)⟩, rfl, fun d hd => by simp [initI] at hd⟩
    · simp only [initI] at hv
      rw [List.getElem?_append] at hv
      split at hv
      · rename_i hi
        obtain ⟨u, hu, hdu⟩ := hd'.get i v hv
        refine ⟨u, ?_, hdu⟩
        rw [Array.getElem?_append]
        have : i < (Value.func (.yield l) #[] #[] :: cvals).toArray.size := by simp only [List.size_toArray]; rw [← hd'.length]; exact hi
        rw [if_pos this]
        simpa using hu
      · rename_i hi
        rw [List.getElem?_replicate] at hv
        split at hv
        · rename_i hi2
          cases hv
          refine ⟨undef, ?_, .any _⟩
          rw [Array.getElem?_append]
          have hl2 := hd'.length
          have : ¬ i < (Value.func (.yield l) #[] #[] :: cvals).toArray.size := by simp only [List.size_toArray]; omega
          rw [if_neg this, Array.getElem?_replicate, if_pos (by simp only [List.size_toArray, List.length_cons] at *; omega)]
        · cases hv
    · obtain ⟨_, rfl⟩ := hlo n o ho; trivial
    · obtain ⟨_, rfl⟩ := hlo n o ho; exact hu.elim
    · obtain ⟨_, rfl⟩ := hlo n o ho; exact hu.elim
    · obtain ⟨rfl, e⟩ := hlo n _ ho
      cases e
      exact hok
  have hwp := sx_wp hΓ hΛ c [] (initI fn caps go adm) (ex, s1) rfl h1 0 _ _ _ _ _ _ _ hR
  rw [hJr] at hwp
  refine wpIn_mono hwp ?_
  rintro e a' w' ⟨hi, Am', θ', hup, hR'⟩
  simp only at hR'
  have hdone : (match s1.lo[0]? with
      | some (some (Ob.yl _ _)) => (leaveV P fn s1).bind fun _ => T.leaf s1.ys
      | _ => .bad).pick = some (hist x k) → LeavesInM (FW none) 0 P fn a'.tmps (fun e w' => ∃ v k, e = .returned v ∧ Stops go x n k ∧ ∃ F', After (fun b => b < w.heap.size ∧ ¬ S b) F' w w' ∧ J.J (hist x k) (fun _ => False) F' w') a'.defers .returning w' := fun ho => by
    split at ho
    · rename_i go' adm' hyl
      obtain ⟨F2', ⟨_, _⟩, _, hyy⟩ := hR'.jj
      clear hyy
      rw [T.pick_bind] at ho
      obtain ⟨u, ho, hys⟩ := ho
      have hys' : s1.ys = hist x k := Option.some.inj hys
      unfold leaveV at ho
      split at ho
      · rename_i lo hlo
        rw [hR'.df]
        refine marks_leave s1.df hR' hlo fun w2 hR2 => ?_
        obtain ⟨v, hv, _⟩ := outV_run (S' := fun _ => True) hR2 (fun _ _ => trivial) (fun _ _ _ _ _ => trivial) ho
        obtain ⟨F2, ⟨hF2, hF20⟩, hj2, hm2⟩ := hR2.jj
        simp only [hys'] at hj2
        exact ⟨v, hv, v, k, rfl, hst, F2, ⟨hR2.fr.os, hR2.fr.tape, hR2.fr.output, hR2.fr.size, fun b hb hn => hR2.fr.block b hb (fun hs => hn ⟨hb, hs⟩), fun b hb => hF20 b ((hF0 b).2 hb), fun b hb => ⟨by
            by_cases hlt : b < w.heap.size
            · exact .inl ⟨hlt, hm2 b hlt hb⟩
            · exact .inr (by omega), hR2.am b (hF2 b hb)⟩⟩, J.closed _ _ _ _ _ _ hj2 rfl rfl rfl (Nat.le_refl _) (fun _ _ _ => rfl) (fun b hb => hb.elim)⟩
      · simp [T.pick] at ho
    · simp [T.pick] at ho
  cases ex <;> cases e <;> simp only [Ex.is] at hi <;> simp only at h2
  · exact hdone h2
  · simp [T.pick] at h2
  · simp [T.pick] at h2
  · exact hdone h2

end Go.SX
