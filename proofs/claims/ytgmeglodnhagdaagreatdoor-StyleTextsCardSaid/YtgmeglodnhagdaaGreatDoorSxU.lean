/- The range over a function: the yield's law. -/
import Derived.Test.YtgmeglodnhagdaaGreatDoorSxS
namespace Go.SX
open Go.RowKit
set_option linter.unusedVariables false
set_option linter.unusedSimpArgs false
set_option linter.unusedSectionVars false

section
variable [GW] {P : Program} {Γ : Gam} {Λ : Lam} {root : Code} {Mi Am0 : Nat → Prop} {w0 : World} {s : St}

theorem JP.yok (hΓ : GOK P Γ) (hΛ : LamOK P root Λ) {p : List Nat} {g : Operand} {ps : Array Nat} {assign body : Code} (hc : codeAt root p = some (.rangeFunc g ps assign body))
    {J1 : Jt P} {l : Nat} {d : Option Ob} {any : List V} {tmps0 : Array Value} {fn : FuncId} {LL : Nat → List (Option Ob)} {YY : Nat → List (List V)} {rc : Nat → Loop} {x : Nat → List V} {n : Nat} {E : Nat → Ex} {B : Nat} {G : Nat → Prop}
    (hJr : J1.r = some l) (hJN : J1.hN = s.lo.length + 3) (hsl : (J1.th s.lo.length).sl = .tuple tmps0) (hblk : (J1.th (s.lo.length + 2)).blk = l)
    (H : Rounds P Γ Λ p assign body ps.toList s d any LL YY x n E)
    (hrc : ∀ k, (∀ j, j < k → isNormal (E j) = true) → (rc k).state = .ready ∧ (rc k).pending = none ∧ (rc k).fn = fn ∧ (rc k).tmps = tmps0 ∧ (rc k).params = ps ∧ (rc k).assign = assign ∧ (rc k).body = body)
    (hrs : ∀ k, recOf (rc k) (E k) = rc (k + 1)) :
    ∀ (h : List (List V)) (O F : Nat → Prop) (w : World) (args : List V) (vals : List Value), JP J1 s d any LL YY rc x n Am0 Mi w0 B G h O F w → GLw w →
      (∃ k, k < n ∧ h = hist x k ∧ args = x k ∧ ∀ j, j < k → isNormal (E j) = true) → (∀ b, O b → b < w.heap.size ∧ ¬ F b) → (∀ b, F b → b < w.heap.size) →
      DenL (fun b => b < w.heap.size ∧ ¬ F b ∧ ¬ O b) (fun _ => False) th0 w args vals →
      ∃ fn tmps assign body, (Instr.yield l vals.toArray).run P w = .ok (.round l fn tmps assign body) w ∧
        RoundIn (FW none) 0 P l fn tmps assign body w (fun e w' => e = .returned (.bool (isNormal (E h.length))) ∧ ∃ F', After F F' w w' ∧ JP J1 s d any LL YY rc x n Am0 Mi w0 B G (h ++ [args]) O F' w') := by
  rintro h O Fo w args vals ⟨k, Am, F, θ, a, rfl, hk, hB, hA0, hR, hF, hO, hcov, hgl⟩ hglw ⟨k', hk', hh, rfl, hnorm⟩ hOF hFs hd
  have hkk : k = k' := by have := congrArg List.length hh; simpa [hist_length] using this
  subst hkk
  obtain ⟨ta, da⟩ := a
  obtain rfl : da = [] := hR.df
  obtain ⟨r1, r2, r3, r4, r5, r6, r7⟩ := hrc k hnorm
  obtain ⟨s1, s2, e1, e2, e3, e4⟩ := H.round k hk' hnorm (rc k)
  have hbl : (θ (s.lo.length + 2)).blk = l := by rw [hR.tt.2.2 _ (show s.lo.length + 2 < s.lo.length + 3 by omega), hblk]
  have hrec : w.heap[l]? = some (.loop (rc k)) := by
    have := hR.lo (s.lo.length + 2) (.raw (.loop (rc k))) (mid_raw (H.len k))
    simp only [Holds, hbl] at this
    exact this
  have hvl : vals.toArray.size = (rc k).params.size := by
    have h1 := hd.length
    have h2 := H.args k hk'
    rw [r5]
    simp only [List.size_toArray]
    rw [← h1, h2]; simp
  have hy := run_yield (P := P) hrec hvl
  rw [r3, r4, r5, r6, r7] at hy
  refine ⟨_, _, _, _, hy, ?_⟩
  have hRb := hR.rebaseF hF
  have hsub := e4 { rc k with state := .busy }
  have hargs := hd.mono (S' := Stab Am (midS s (LL k) (YY k) d (rc k) any).lo θ w) (L' := Liv (midS s (LL k) (YY k) d (rc k) any).lo) (θ' := θ) (w' := w) (fun b hb => ⟨hb.1, fun hh => (hcov b (.inl hh)).elim hb.2.1 hb.2.2, fun n o ho hu => (hcov b (.inr ⟨n, o, ho, hu⟩)).elim hb.2.1 hb.2.2⟩) (fun _ _ => rfl) (fun _ hf => hf.elim) (fun _ hf => hf.elim)
  refine round_wp hΓ hΛ hc hJr hJN hsl hblk (H.len k) (H.len (k + 1)) r1 r2 hRb hargs e1 e2 (e3 _) hsub ?_
  intro Am' θ' a' w' hup hR'
  rw [hrs] at hR'
  have hcov' : ∀ b, Mir w (midS s (LL k) (YY k) d (rc k) any).lo θ F b → w.heap.size ≤ b ∨ Fo b ∨ O b := fun b hb => hb.imp id fun hh => hh.elim (fun h1 => hcov b (.inr h1)) fun h1 => hcov b (.inl (hF.am b h1))
  have hBk := hR.back hF.mi hR'
  obtain ⟨F', ⟨hF1, hF2⟩, hj, hmi⟩ := hR'.jj
  have hFF : AmbF J1 F' (YY (k + 1)) (midS s (LL (k + 1)) (YY (k + 1)) d (rc (k + 1)) any).lo θ' Am' Mi w0 w' :=
    ⟨hF1, hF2, hj, fun b hb hf => hR.mir_mi hF.mi b (hmi b (Nat.lt_of_lt_of_le hb hR.fr.size) hf)⟩
  have hsz := hR'.fr.size
  have hF2' := hFF.lessAm (Am' := fun b => Am' b ∧ (Am b ∨ w.heap.size ≤ b ∨ Own (midS s (LL k) (YY k) d (rc k) any).lo θ b)) (fun b hb => hb.1) (fun b hf => ⟨hF1 b hf, by
    by_cases hlt : b < w.heap.size
    · rcases hmi b hlt hf with h1 | h1 | h1
      · exact .inr (.inl h1)
      · exact .inr (.inr h1)
      · exact .inl (hF.am b h1)
    · exact .inr (.inl (by omega))⟩) (fun b ⟨n, o, ho, hu⟩ => (hBk.lt n o b ho hu).1) hBk.am
  have hR2 := hBk.lessAm (fun b hb => hb.1) hF2'.amb
  refine ⟨by rw [hist_length], fun b => Fo b ∨ (w.heap.size ≤ b ∧ b < w'.heap.size), ⟨hR'.fr.os, hR'.fr.tape, hR'.fr.output, hsz, fun b hb hn => hR'.fr.block b hb fun hm => ?_, fun b hb => .inl hb, fun b hb => ?_⟩,
    k + 1, _, F', θ', a', (hist_succ x k).symm, hk', Nat.le_trans hB hsz, fun b hb => ⟨hup b (hA0 b hb), .inl (hA0 b hb)⟩, hR2, hF2', fun b hb => ⟨⟨hup b (hO b hb).1, .inl (hO b hb).1⟩, fun hf => ?_, (hO b hb).2.2⟩, fun b hb => ?_, fun g hg hh => ?_⟩
  · rcases hm with hm | hm | hm
    · omega
    · exact (hcov b (.inr hm)).elim hn fun ho => hR.own_am b hm (hO b ho).1
    · exact (hcov b (.inl (hF.am b hm))).elim hn fun ho => (hO b ho).2.1 hm
  · exact hb.elim (fun h1 => ⟨.inl h1, Nat.lt_of_lt_of_le (hFs b h1) hsz⟩) fun h1 => ⟨.inr h1.1, h1.2⟩
  · rcases hmi b (hOF b hb).1 hf with h1 | h1 | h1
    · have := (hOF b hb).1; omega
    · exact hR.own_am b h1 (hO b hb).1
    · exact (hO b hb).2.1 h1
  · rcases hb with ⟨h1, h2 | h2 | h2⟩ | h1
    · exact (hcov b (.inl h2)).imp .inl id
    · exact .inl (.inr ⟨h2, hBk.am b h1⟩)
    · exact (hcov b (.inr h2)).imp .inl id
    · obtain ⟨n, o, ho, hu⟩ := h1
      rcases hcov' b (hR'.lt n o b ho hu).2.1 with h2 | h2 | h2
      · exact .inl (.inr ⟨h2, (hR'.lt n o b ho hu).1⟩)
      · exact .inl (.inl h2)
      · exact .inr h2
  · rcases hh with hh | hh
    · exact hgl g hg hh
    · have := hglw.lt g hg; omega
end
end Go.SX
