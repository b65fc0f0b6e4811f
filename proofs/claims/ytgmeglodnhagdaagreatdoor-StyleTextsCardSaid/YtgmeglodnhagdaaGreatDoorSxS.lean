/- The range over a function: what goes on beside the iterator. -/
import Derived.Test.YtgmeglodnhagdaaGreatDoorSxR
namespace Go.SX
open Go.RowKit
set_option linter.unusedVariables false
set_option linter.unusedSimpArgs false
set_option linter.unusedSectionVars false

section
variable [GW] {P : Program} {J : Jt P} {Am Am' Mi : Nat → Prop} {w0 w w' : World} {s s' : St} {θ θ' : Th} {a a' : Act}

theorem Rep.lessAm (h : Rep J Am Mi w0 s θ a w) (hA : ∀ b, Am' b → Am b) (hj : Amb J s.ys s.lo θ Am' Mi w0 w) : Rep J Am' Mi w0 s θ a w := by
  have hS : ∀ b, Stab Am s.lo θ w b → Stab Am' s.lo θ w b := fun b hb => ⟨hb.1, fun hh => hb.2.1 (hA b hh), hb.2.2⟩
  refine ⟨h.size, fun i v hv => ?_, fun n o ho => ?_, fun n o b ho hu => ⟨(h.lt n o b ho hu).1, (h.lt n o b ho hu).2.1, fun hh => (h.lt n o b ho hu).2.2 (hA b hh)⟩, h.inj, h.mine, h.fr, fun b hb => h.am b (hA b hb), hj, h.yy, fun x hx hh => h.ga x hx (hA _ hh), h.rr, h.tt, h.df, h.dfl⟩
  · obtain ⟨u, hu, hd⟩ := h.tm i v hv
    exact ⟨u, hu, hd.mono hS (fun _ _ => rfl) (fun _ x => x) (fun _ _ => rfl)⟩
  · exact (h.lo n o ho).mono hS (fun _ _ => rfl) (fun _ x => x) (fun _ _ => rfl) ⟨o, ho⟩ (fun _ _ => rfl)

theorem AmbF.lessAm {F : Nat → Prop} {ys : List (List V)} {lo : List (Option Ob)} (h : AmbF J F ys lo θ Am Mi w0 w) (hA : ∀ b, Am' b → Am b) (hF : ∀ b, F b → Am' b)
    (hown : ∀ b, Own lo θ b → b < w.heap.size) (ham : ∀ b, Am b → b < w.heap.size) : AmbF J F ys lo θ Am' Mi w0 w where
  am := hF
  f0 := h.f0
  mi := h.mi
  jj := J.closed _ _ _ _ _ _ h.jj rfl rfl rfl (Nat.le_refl _) (fun _ _ _ => rfl) (fun b ⟨hnf, hh⟩ => by
    rcases hh with hh | hh
    · exact ⟨.inl ⟨hnf, .inl hh⟩, hown b hh⟩
    · exact ⟨.inl ⟨hnf, .inr (hA b hh)⟩, ham b (hA b hh)⟩)

theorem Rep.rebaseF (h : Rep J Am Mi w0 s θ a w) {F : Nat → Prop} (hF : AmbF J F s.ys s.lo θ Am Mi w0 w) : Rep J Am (Mir w s.lo θ F) w s θ a w := by
  refine ⟨h.size, h.tm, h.lo, fun n o b ho hu => ⟨(h.lt n o b ho hu).1, .inr (.inl ⟨n, o, ho, hu⟩), (h.lt n o b ho hu).2.2⟩, h.inj, fun b hb => .inl hb,
    Fr.refl _ _ ⟨fun x hx hm => ?_, h.fr.glw⟩, h.am, ⟨F, ⟨hF.am, hF.f0⟩, hF.jj, fun b _ hf => .inr (.inr hf)⟩, h.yy, h.ga, h.rr, h.tt, h.df, h.dfl⟩
  rcases hm with hm | ⟨n, o, ho, hu⟩ | hm
  · exact absurd (h.fr.glw.lt x hx) (by omega)
  · exact h.fr.gl.1 x hx (h.lt n o _ ho hu).2.1
  · exact h.ga x hx (hF.am _ hm)

/-- What goes on beside an iterator that a range statement runs: the caller's activation, k rounds on. -/
def JP (J1 : Jt P) (s : St) (d : Option Ob) (any : List V) (LL : Nat → List (Option Ob)) (YY : Nat → List (List V)) (rc : Nat → Loop) (x : Nat → List V) (n : Nat) (Am0 Mi : Nat → Prop) (w0 : World) (B : Nat) (G : Nat → Prop)
    (hh : List (List V)) (O Fo : Nat → Prop) (w : World) : Prop :=
  ∃ (k : Nat) (Am F : Nat → Prop) (θ : Th) (a : Act), hh = hist x k ∧ k ≤ n ∧ B ≤ w.heap.size ∧ (∀ b, Am0 b → Am b) ∧ Rep J1 Am Mi w0 (midS s (LL k) (YY k) d (rc k) any) θ a w ∧
    AmbF J1 F (YY k) (midS s (LL k) (YY k) d (rc k) any).lo θ Am Mi w0 w ∧ (∀ b, O b → Am b ∧ ¬ F b ∧ (B ≤ b ∨ G b)) ∧ (∀ b, (Am b ∨ Own (midS s (LL k) (YY k) d (rc k) any).lo θ b) → Fo b ∨ O b) ∧ (∀ g ∈ GW.gl, ¬ Fo g.1)

theorem JP.closed {J1 : Jt P} {d : Option Ob} {any : List V} {LL : Nat → List (Option Ob)} {YY : Nat → List (List V)} {rc : Nat → Loop} {x : Nat → List V} {n : Nat} {Am0 : Nat → Prop} {B : Nat} {G : Nat → Prop} (hB0 : ∀ b, Am0 b → b < B) (hBw : w0.heap.size ≤ B) (hG : ∀ b, G b → Mi b ∧ ¬ Am0 b) :
    ∀ (h : List (List V)) (O O' F : Nat → Prop) (w w' : World), JP J1 s d any LL YY rc x n Am0 Mi w0 B G h O F w → w'.os = w.os → w'.tape = w.tape → w'.output = w.output → w.heap.size ≤ w'.heap.size →
    (∀ b, b < w.heap.size → ¬ O b → w'.heap[b]? = w.heap[b]?) → (∀ b, O' b → (O b ∨ w.heap.size ≤ b) ∧ b < w'.heap.size) → JP J1 s d any LL YY rc x n Am0 Mi w0 B G h O' F w' := by
  rintro h O O' Fo w w' ⟨k, Am, F, θ, a, hh, hk, hB, hA0, hR, hF, hO, hcov, hgl⟩ hos htp hout hsz hb hO'
  have hown : ∀ b, Own (midS s (LL k) (YY k) d (rc k) any).lo θ b → b < w.heap.size := fun b ⟨n, o, ho, hu⟩ => (hR.lt n o b ho hu).1
  have hF1 := hF.others (O := O') (O0 := O) hsz hos htp hout (fun b h => ⟨(hO b h).1, (hO b h).2.1⟩) hb hO' hown hR.am
  have hR1 := hR.others (O := O') (O0 := O) hsz hos htp hout (fun b h => (hO b h).1) hb hO' hF1.amb (fun b hlt h => (hO b h).2.2.elim (fun h1 => absurd h1 (by omega)) fun h1 => (hG b h1).1)
  have hle : ∀ b, ((Am b ∧ ¬ (O b ∧ ¬ O' b)) ∨ O' b) → (Am b ∨ O' b) := fun b hb => hb.imp (·.1) id
  have hF2 := hF1.lessAm (Am' := fun b => (Am b ∧ ¬ (O b ∧ ¬ O' b)) ∨ O' b) hle (fun b hf => .inl ⟨hF.am b hf, fun hh => (hO b hh.1).2.1 hf⟩) (fun b hb => Nat.lt_of_lt_of_le (hown b hb) hsz) hR1.am
  have hR2 := hR1.lessAm hle hF2.amb
  refine ⟨k, _, F, θ, a, hh, hk, Nat.le_trans hB hsz, fun b hb0 => .inl ⟨hA0 b hb0, fun hh => (hO b hh.1).2.2.elim (fun h1 => by have := hB0 b hb0; omega) fun h1 => (hG b h1).2 hb0⟩, hR2, hF2, fun b hb' => ⟨.inr hb', ?_, ?_⟩, fun b hb' => ?_, hgl⟩
  · intro hf
    rcases (hO' b hb').1 with h1 | h1
    · exact (hO b h1).2.1 hf
    · exact absurd (hR.am b (hF.am b hf)) (by omega)
  · rcases (hO' b hb').1 with h1 | h1
    · exact (hO b h1).2.2
    · exact .inl (by omega)
  · rcases hb' with (⟨h1, h2⟩ | h1) | h1
    · rcases hcov b (.inl h1) with h3 | h3
      · exact .inl h3
      · exact .inr (Classical.byContradiction fun hn => h2 ⟨h3, hn⟩)
    · exact .inr h1
    · rcases hcov b (.inr h1) with h3 | h3
      · exact .inl h3
      · exact absurd (hO b h3).1 (hR.own_am b h1)

theorem hist_length (x : Nat → List V) (k : Nat) : (hist x k).length = k := by simp [hist]

/-- What the user shows of the rounds. -/
structure Rounds [GW] (P : Program) (Γ : Gam) (Λ : Lam) (p : List Nat) (assign body : Code) (ps : List Nat) (s : St) (d : Option Ob) (any : List V) (LL : Nat → List (Option Ob)) (YY : Nat → List (List V)) (x : Nat → List V) (n : Nat) (E : Nat → Ex) : Prop where
  len : ∀ k, s.lo.length ≤ (LL k).length
  args : ∀ k, k < n → (x k).length = ps.length
  round : ∀ k, k < n → (∀ j, j < k → isNormal (E j) = true) → ∀ rec : Loop, ∃ (s1 : St) (s2 : Loop → St), (sx P Γ Λ (0 :: p) assign (midS s (LL k) (YY k) d rec (setPs s.tm ps (x k)))).pick = some (.normal, s1) ∧
    s1.lo[s.lo.length + 2]? = some (some (.raw (.loop rec))) ∧
    (∀ rec' : Loop, (sx P Γ Λ (1 :: p) body { s1 with lo := s1.lo.set (s.lo.length + 2) (some (.raw (.loop rec'))) }).pick = some (E k, s2 rec')) ∧
    ∀ (rec' : Loop), Sub P (s2 rec') (midS s (LL (k + 1)) (YY (k + 1)) d rec' any)

end
end Go.SX
