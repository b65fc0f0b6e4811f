/- Functions that are lent several things: their contracts, out of what their bodies come to. -/
import Derived.Test.YtgmeglodnhagdaaGreatDoorSxV
import Derived.Test.YtgmeglodnhagdaaGreatDoorSxN
namespace Go.SX
open Go.RowKit
set_option linter.unusedVariables false
set_option linter.unusedSimpArgs false
set_option linter.unusedSectionVars false

def initM (fn : Func) (lo : List (Option Ob)) (args : List V) : St := { tm := args ++ List.replicate (fn.ntmps - args.length) .any, lo := lo, base := lo.length }

/-- What was lent is there still. -/
def livesB : List (Option Ob) → List (Option Ob) → Bool
  | [], _ => true
  | none :: l, l' => livesB l l'.tail
  | some _ :: l, l' => (match l' with
    | some _ :: _ => true
    | _ => false) && livesB l l'.tail

def outLo (lo : List (Option Ob)) : Bool := lo.all fun o => match o with
  | some o => outOb o
  | none => true

def leaveM (P : Program) (fn : Func) (lo0 : List (Option Ob)) (s : St) : T MOut :=
  match dropMarks s.df s.lo with
  | some lo => if livesB lo0 lo && outLo lo then (resL P { s with lo } fn.results.toList).bind fun vs => .leaf ⟨lo, tupOf vs⟩ else .bad
  | none => .bad

/-- What a function comes to that is lent several things; post: what is let go, or put under another name, at the end. -/
def funM (P : Program) (Γ : Gam) (Λ : Lam) (fn : Func) (c : Code) (post : St → St) (lo : List (Option Ob)) (args : List V) : T MOut :=
  (sx P Γ Λ [] c (initM fn lo args)).bind fun x => match x.1 with
    | .normal | .ret => leaveM P fn lo (post x.2)
    | _ => .bad

theorem livesB_get : ∀ {l l' : List (Option Ob)}, livesB l l' = true → ∀ n, Liv l n → Liv l' n
  | [], _, _, n, ⟨o, h⟩ => by simp at h
  | none :: l, l', h, n, ⟨o, ho⟩ => by
    cases n with
    | zero => simp at ho
    | succ n =>
      obtain ⟨o', ho'⟩ := livesB_get (l := l) (l' := l'.tail) h n ⟨o, by simpa using ho⟩
      exact ⟨o', by simpa using ho'⟩
  | some x :: l, l', h, n, ⟨o, ho⟩ => by
    simp only [livesB, Bool.and_eq_true] at h
    obtain ⟨h1, h2⟩ := h
    split at h1
    · rename_i y r
      cases n with
      | zero => exact ⟨y, rfl⟩
      | succ n =>
        obtain ⟨o', ho'⟩ := livesB_get (l := l) (l' := r) h2 n ⟨o, by simpa using ho⟩
        exact ⟨o', by simpa using ho'⟩
    · cases h1

section
variable [GW] {P : Program} {J : Jt P} {Am Mi : Nat → Prop} {w0 w : World} {s : St} {θ : Th} {a : Act} {Γ : Gam}

theorem den_tupOf {S L : Nat → Prop} {vs : List V} {us : List Value} (h : DenL S L θ w vs us) : Den S L θ w (tupOf vs) (if h : us.length = 1 then us[0] else .tuple us.toArray) := by
  cases h with
  | nil => simpa [tupOf] using Den.tup (S := S) _ _ (DenL.nil (S := S) (L := L) (θ := θ) (w := w))
  | cons y u rs us hy hl =>
    cases hl with
    | nil => simpa [tupOf] using hy
    | cons y2 u2 rs us hy2 hl =>
      have := Den.tup _ _ (DenL.cons _ _ _ _ hy (.cons _ _ _ _ hy2 hl))
      simpa [tupOf] using this

theorem specM_of_body {f : Nat} {fn : Func} {c : Code} {sp : List (Option Ob) → List V → T MOut} (hΓ : GOK P Γ) (hf : P.funcs[f]? = some fn) (hb : fn.body = some c) (hent : entersB P f = true)
    (hsp : ∀ lo args x, (∀ y ∈ args, VB y) → (sp lo args).pick = some x → ∃ args' Λ post, WeakG args args' ∧ LamOK P c Λ ∧ (∀ s, Sub P s (post s)) ∧ (funM P Γ Λ fn c post lo args').pick = some x) : SpecM P f sp := by
  refine ⟨hent, fun S w θ lo args0 vals x hSw hgl hSg hlo hinj hd0 hr => (callsIn_wide (n := 0)).1 (callsIn_of_wp_marks hf hb trivial ?_ rfl)⟩
  obtain ⟨args, Λ, post, hwk, hΛ, hpost, he⟩ := hsp lo args0 x (fun x hx => let ⟨_, h⟩ := hd0.mem x hx; h.vb) hr
  have hd := hwk _ _ _ _ _ hd0
  unfold funM at he
  rw [T.pick_bind] at he
  obtain ⟨⟨ex, s1⟩, h1, h2⟩ := he
  have hlen := hd.length
  have hR : Rep (Jt.fix P lo.length θ) (fun b => b < w.heap.size ∧ ¬ S b ∧ ∀ n o, lo[n]? = some (some o) → ¬ uses θ n o b) (fun b => w.heap.size ≤ b ∨ ∃ n o, lo[n]? = some (some o) ∧ uses θ n o b) w (initM fn lo args) θ { tmps := vals.toArray ++ Array.replicate (fn.ntmps - vals.toArray.size) undef, defers := [] } w := by
    have hS : ∀ b, S b → Stab (fun b => b < w.heap.size ∧ ¬ S b ∧ ∀ n o, lo[n]? = some (some o) → ¬ uses θ n o b) (initM fn lo args).lo θ w b := fun b hb => ⟨hSw b hb, fun hh => hh.2.1 hb, fun n o ho hu => ((hlo n o ho).2.2 b hu).2 hb⟩
    have hd' := hd.mono (L' := Liv (initM fn lo args).lo) hS (fun _ _ => rfl) (fun _ h => h) (fun _ _ => rfl) (θ' := θ) (w' := w)
    refine ⟨by simp [initM, hlen], fun i v hv => ?_, fun n o ho => ?_, fun n o b ho hu => ?_, hinj, fun b hb => .inl hb, Fr.refl _ _ ⟨fun x hx hh => ?_, hgl⟩, fun b hb => hb.1, ⟨fun _ => False, ⟨fun _ hf => hf.elim, fun _ hf => hf.elim⟩, trivial, fun _ _ hf => hf.elim⟩, fun n go adm ho => ?_, fun x hx hh => hh.2.1 (hSg x hx), ⟨rfl, fun l hl => (by cases hl)⟩, ⟨rfl, Nat.le_refl _, fun n hn => rfl⟩, rfl, fun d hd => by simp [initM] at hd⟩
    · simp only [initM] at hv
      rw [List.getElem?_append] at hv
      split at hv
      · rename_i hi
        obtain ⟨u, hu, hdu⟩ := hd'.get i v hv
        refine ⟨u, ?_, hdu⟩
        rw [Array.getElem?_append]
        have : i < vals.toArray.size := by simp; omega
        rw [if_pos this]
        simpa using hu
      · rename_i hi
        rw [List.getElem?_replicate] at hv
        split at hv
        · rename_i hi2
          cases hv
          refine ⟨undef, ?_, .any _⟩
          rw [Array.getElem?_append]
          have : ¬ i < vals.toArray.size := by simp; omega
          rw [if_neg this, Array.getElem?_replicate, if_pos (by simp; omega)]
        · cases hv
    · exact (hlo n o ho).2.1.monoG hS (fun _ _ => rfl) (fun _ h => h) (fun _ _ => ⟨rfl, rfl⟩) rfl (fun _ _ => rfl)
    · exact ⟨((hlo n o ho).2.2 b hu).1, .inr ⟨n, o, ho, hu⟩, fun hh => hh.2.2 n o ho hu⟩
    · rcases hh with hh | ⟨n, o, ho, hu⟩
      · exact absurd (hgl.lt x hx) (by omega)
      · exact ((hlo n o ho).2.2 _ hu).2 (hSg x hx)
    · have := (hlo n _ ho).1
      simp [inOb] at this
  refine wpIn_mono (sx_wp hΓ hΛ c [] (initM fn lo args) (ex, s1) rfl h1 0 _ _ _ _ _ _ _ hR) ?_
  rintro e a' w' ⟨hi, Am', θ1, hup, hR1⟩
  simp only at hR1
  obtain ⟨θ2, hR'⟩ := hpost s1 _ _ _ _ _ _ _ hR1
  have hdone : (leaveM P fn lo (post s1)).pick = some x → LeavesInM (FW none) 0 P fn a'.tmps (fun e w' => ∃ (v : Value) (θ' : Th), e = .returned v ∧ (∀ n, n < lo.length → θ' n = θ n) ∧ w'.os = w.os ∧ w'.tape = w.tape ∧ w'.output = w.output ∧ w.heap.size ≤ w'.heap.size ∧
      (∀ b, b < w.heap.size → (∀ n o, lo[n]? = some (some o) → ¬ uses θ n o b) → w'.heap[b]? = w.heap[b]?) ∧ (∀ n, Liv lo n → Liv x.lo n) ∧
      (∀ n o, x.lo[n]? = some (some o) → outOb o = true ∧ Holds (XM w S lo θ w' θ' x.lo) (Liv x.lo) θ' w' n o ∧ ∀ b, uses θ' n o b → ((∃ m o', lo[m]? = some (some o') ∧ uses θ m o' b) ∨ w.heap.size ≤ b) ∧ b < w'.heap.size) ∧
      (∀ n m o o' b, x.lo[n]? = some (some o) → x.lo[m]? = some (some o') → n ≠ m → uses θ' n o b → ¬ uses θ' m o' b) ∧ Den (XM w S lo θ w' θ' x.lo) (Liv x.lo) θ' w' x.r v) a'.defers .returning w' := fun ho' => by
    unfold leaveM at ho'
    split at ho'
    · rename_i lo1 hlo1
      split at ho'
      · rename_i hc
        simp only [Bool.and_eq_true] at hc
        obtain ⟨hliv, hout⟩ := hc
        rw [T.pick_bind] at ho'
        obtain ⟨vs, hvs, ho'⟩ := ho'
        cases ho'
        rw [hR'.df]
        refine marks_leave (post s1).df hR' hlo1 fun w2 hR2 => ?_
        obtain ⟨us, hus, hd2⟩ := resL_run hR2 hvs
        have hm : (fn.results.mapM (resOne a'.tmps)).run P w2 = .ok us.toArray w2 := by
          rw [Array.mapM_eq_mapM_toList, Sem.run_map, hus, Result.andThen_ok]
        have hXM : ∀ b, Stab Am' lo1 θ2 w2 b → XM w S lo θ w2 θ2 lo1 b := fun b hb => ⟨by
          by_cases hlt : b < w.heap.size
          · refine Classical.byContradiction fun hn => hb.2.1 (hup b ⟨hlt, fun hs => hn (.inl (.inl hs)), fun n o ho hu => hn (.inr ⟨n, o, ho, hu⟩)⟩)
          · exact .inl (.inr ⟨by omega, hb.1⟩), hb.2.2⟩
        refine ⟨if h : us.length = 1 then us[0] else .tuple us.toArray, ?_, _, θ2, rfl, fun n hn => hR2.tt.2.2 n (by
            have h3 := hR2.tt.1
            have h4 : (Jt.fix P lo.length θ).hN = lo.length := rfl
            rw [← h3, h4]; exact hn), hR2.fr.os, hR2.fr.tape, hR2.fr.output, hR2.fr.size, fun b hb hnu => hR2.fr.block b hb (fun hh => hh.elim (fun h => by omega) fun ⟨n, o, ho, hu⟩ => hnu n o ho hu),
          livesB_get hliv, fun n o ho => ⟨?_, (hR2.lo n o ho).monoG hXM (fun _ _ => rfl) (fun _ h => h) (fun _ _ => ⟨rfl, rfl⟩) rfl (fun _ _ => rfl), fun b hu => ?_⟩, hR2.inj, (den_tupOf hd2).mono hXM (fun _ _ => rfl) (fun _ h => h) (fun _ _ => rfl)⟩
        · rw [results_eq, Sem.run_bind, hm, Result.andThen_ok]
          simp
        · have := List.all_eq_true.1 hout (some o) (List.mem_of_getElem? ho)
          simpa using this
        · obtain ⟨g1, g2, _⟩ := hR2.lt n o b ho hu
          exact ⟨g2.elim .inr .inl, g1⟩
      · simp [T.pick] at ho'
    · simp [T.pick] at ho'
  cases ex <;> cases e <;> simp only [Ex.is] at hi <;> simp only at h2 <;> first | exact hdone h2 | (simp [T.pick] at h2; done) | skip
end
end Go.SX
