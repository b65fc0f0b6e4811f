/- The range over a function: the caller's side. -/
import Derived.Test.YtgmeglodnhagdaaGreatDoorSxO
namespace Go.SX
open Go.RowKit
set_option linter.unusedVariables false
set_option linter.unusedSimpArgs false
set_option linter.unusedSectionVars false

section
variable [GW] {P : Program} {J : Jt P} {Am Am' Mi : Nat → Prop} {w0 w w' : World} {s s' : St} {θ θ' : Th} {a a' : Act}

/-- What may turn from here on. -/
def Mir (w : World) (lo : List (Option Ob)) (θ : Th) (FJ : Nat → Prop) (b : Nat) : Prop := w.heap.size ≤ b ∨ Own lo θ b ∨ FJ b

/-- The frame is taken anew. -/
theorem Rep.rebase (h : Rep J Am Mi w0 s θ a w) : ∃ FJ : Nat → Prop, (∀ b, FJ b → Am b) ∧ (∀ b, b < w0.heap.size → FJ b → Mi b) ∧ Rep J Am (Mir w s.lo θ FJ) w s θ a w := by
  obtain ⟨F, ⟨h1, h1'⟩, h2, h3⟩ := h.jj
  refine ⟨F, h1, h3, h.size, h.tm, h.lo, fun n o b ho hu => ⟨(h.lt n o b ho hu).1, .inr (.inl ⟨n, o, ho, hu⟩), (h.lt n o b ho hu).2.2⟩, h.inj, fun b hb => .inl hb,
    Fr.refl _ _ ⟨fun x hx hm => ?_, h.fr.glw⟩, h.am, ⟨F, ⟨h1, h1'⟩, h2, fun b _ hf => .inr (.inr hf)⟩, h.yy, h.ga, h.rr, h.tt, h.df, h.dfl⟩
  rcases hm with hm | ⟨n, o, ho, hu⟩ | hm
  · exact absurd (h.fr.glw.lt x hx) (by omega)
  · exact h.fr.gl.1 x hx (h.lt n o _ ho hu).2.1
  · exact h.ga x hx (h1 _ hm)

theorem Rep.mir_mi (h : Rep J Am Mi w0 s θ a w) {FJ : Nat → Prop} (hF : ∀ b, b < w0.heap.size → FJ b → Mi b) : ∀ b, Mir w s.lo θ FJ b → Mi b := fun b hb => by
  rcases hb with hb | ⟨n, o, ho, hu⟩ | hb
  · exact h.mine b (Nat.le_trans h.fr.size hb)
  · exact (h.lt n o b ho hu).2.1
  · by_cases hlt : b < w0.heap.size
    · exact hF b hlt hb
    · exact h.mine b (by omega)

/-- .. and is given back. -/
theorem Rep.back (h : Rep J Am Mi w0 s θ a w) {FJ : Nat → Prop} (hF : ∀ b, b < w0.heap.size → FJ b → Mi b) {J' : Jt P} (h' : Rep J' Am' (Mir w s.lo θ FJ) w s' θ' a' w') : Rep J' Am' Mi w0 s' θ' a' w' := by
  have hm := h.mir_mi hF
  obtain ⟨F, ⟨h1, h1'⟩, h2, h3⟩ := h'.jj
  refine ⟨h'.size, h'.tm, h'.lo, fun n o b ho hu => ⟨(h'.lt n o b ho hu).1, hm b (h'.lt n o b ho hu).2.1, (h'.lt n o b ho hu).2.2⟩, h'.inj, h.mine,
    ⟨h'.fr.os.trans h.fr.os, h'.fr.tape.trans h.fr.tape, h'.fr.output.trans h.fr.output, Nat.le_trans h.fr.size h'.fr.size, fun b hb hn => (h'.fr.block b (Nat.lt_of_lt_of_le hb h.fr.size) (fun hh => hn (hm b hh))).trans (h.fr.block b hb hn), h.fr.gl⟩,
    h'.am, ⟨F, ⟨h1, h1'⟩, h2, fun b hb hf => hm b (h3 b (Nat.lt_of_lt_of_le hb h.fr.size) hf)⟩, h'.yy, h'.ga, h'.rr, h'.tt, h'.df, h'.dfl⟩

/-- What goes on beside, with F named. -/
structure AmbF (J : Jt P) (F : Nat → Prop) (ys : List (List V)) (lo : List (Option Ob)) (θ : Th) (Am Mi : Nat → Prop) (w0 w : World) : Prop where
  am : ∀ b, F b → Am b
  f0 : ∀ b, J.F0 b → F b
  jj : J.J ys (fun b => ¬ F b ∧ (Own lo θ b ∨ Am b)) F w
  mi : ∀ b, b < w0.heap.size → F b → Mi b

theorem AmbF.amb {F : Nat → Prop} {ys : List (List V)} {lo : List (Option Ob)} (h : AmbF J F ys lo θ Am Mi w0 w) : Amb J ys lo θ Am Mi w0 w := ⟨F, ⟨h.am, h.f0⟩, h.jj, h.mi⟩

theorem AmbF.others {F : Nat → Prop} {ys : List (List V)} {lo : List (Option Ob)} (h : AmbF J F ys lo θ Am Mi w0 w) {O O0 : Nat → Prop} (hsz : w.heap.size ≤ w'.heap.size) (hos : w'.os = w.os) (htp : w'.tape = w.tape) (hout : w'.output = w.output)
    (hO0 : ∀ b, O0 b → Am b ∧ ¬ F b) (hb : ∀ b, b < w.heap.size → ¬ O0 b → w'.heap[b]? = w.heap[b]?) (hO : ∀ b, O b → (O0 b ∨ w.heap.size ≤ b) ∧ b < w'.heap.size)
    (hown : ∀ b, Own lo θ b → b < w.heap.size) (ham : ∀ b, Am b → b < w.heap.size) : AmbF J F ys lo θ (fun b => Am b ∨ O b) Mi w0 w' where
  am := fun b hf => .inl (h.am b hf)
  f0 := h.f0
  mi := h.mi
  jj := J.closed _ _ _ _ _ _ h.jj hos htp hout hsz (fun b hlt hn => hb b hlt fun h0 => hn ⟨(hO0 b h0).2, .inr (hO0 b h0).1⟩) (fun b ⟨hnf, hh⟩ => by
    rcases hh with hh | hh | hh
    · exact ⟨.inl ⟨hnf, .inl hh⟩, Nat.lt_of_lt_of_le (hown b hh) hsz⟩
    · exact ⟨.inl ⟨hnf, .inr hh⟩, Nat.lt_of_lt_of_le (ham b hh) hsz⟩
    · exact ⟨(hO b hh).1.imp (fun h0 => ⟨hnf, .inr (hO0 b h0).1⟩) id, (hO b hh).2⟩)

/-- The blocks O are another's from now on (new ones, or such as are let alone already). -/
theorem Rep.others (h : Rep J Am Mi w0 s θ a w) {O : Nat → Prop} (hsz : w.heap.size ≤ w'.heap.size) (hos : w'.os = w.os) (htp : w'.tape = w.tape) (hout : w'.output = w.output)
    {O0 : Nat → Prop} (hO0 : ∀ b, O0 b → Am b) (hb : ∀ b, b < w.heap.size → ¬ O0 b → w'.heap[b]? = w.heap[b]?) (hO : ∀ b, O b → (O0 b ∨ w.heap.size ≤ b) ∧ b < w'.heap.size)
    (hj : Amb J s.ys s.lo θ (fun b => Am b ∨ O b) Mi w0 w') (hm0 : ∀ b, b < w0.heap.size → O0 b → Mi b) : Rep J (fun b => Am b ∨ O b) Mi w0 s θ a w' := by
  have hno : ∀ b, b < w.heap.size → ¬ Am b → ¬ (Am b ∨ O b) := fun b hlt hn hh => by
    rcases hh with hh | hh
    · exact hn hh
    · rcases (hO b hh).1 with h1 | h1
      · exact hn (hO0 b h1)
      · omega
  have hS : ∀ b, Stab Am s.lo θ w b → Stab (fun b => Am b ∨ O b) s.lo θ w' b := fun b hb' => ⟨Nat.lt_of_lt_of_le hb'.1 hsz, hno b hb'.1 hb'.2.1, hb'.2.2⟩
  have hw : ∀ b, Stab Am s.lo θ w b → w'.heap[b]? = w.heap[b]? := fun b hb' => hb b hb'.1 (fun h0 => hb'.2.1 (hO0 b h0))
  refine ⟨h.size, fun i v hv => ?_, fun n o ho => ?_, fun n o b ho hu => ?_, h.inj, h.mine, ?_, fun b hb' => ?_, hj, h.yy, fun x hx hh => ?_, h.rr, h.tt, h.df, h.dfl⟩
  · obtain ⟨u, hu, hd⟩ := h.tm i v hv
    exact ⟨u, hu, hd.mono hS hw (fun _ x => x) (fun _ _ => rfl)⟩
  · exact (h.lo n o ho).mono hS hw (fun _ x => x) (fun _ _ => rfl) ⟨o, ho⟩ (fun b hu => hb b (h.lt n o b ho hu).1 (fun h0 => (h.lt n o b ho hu).2.2 (hO0 b h0)))
  · obtain ⟨h1, h2, h3⟩ := h.lt n o b ho hu
    exact ⟨Nat.lt_of_lt_of_le h1 hsz, h2, hno b h1 h3⟩
  · exact ⟨hos.trans h.fr.os, htp.trans h.fr.tape, hout.trans h.fr.output, Nat.le_trans h.fr.size hsz, fun b hlt hn => (hb b (Nat.lt_of_lt_of_le hlt h.fr.size) (fun h0 => hn (hm0 b hlt h0))).trans (h.fr.block b hlt hn), h.fr.gl⟩
  · rcases hb' with hb' | hb'
    · exact Nat.lt_of_lt_of_le (h.am b hb') hsz
    · exact (hO b hb').2
  · rcases hh with hh | hh
    · exact h.ga x hx hh
    · rcases (hO _ hh).1 with h1 | h1
      · exact h.ga x hx (hO0 _ h1)
      · have := h.fr.glw.lt x hx; omega

/-- The ambient part of a round's activation. -/
def Jt.at (J : Jt P) (l N : Nat) (th : Th) : Jt P := { J with r := some l, hN := N, th }

theorem Rep.toRound (h : Rep J Am Mi w0 s θ a w) {l N : Nat} (hraw : ∃ n x, s.lo[n]? = some (some (.raw (.loop x))) ∧ (θ n).blk = l) (hN : N ≤ s.lo.length) {tm : List V} {tmps : Array Value} (hsz : tmps.size = tm.length)
    (htm : ∀ (i : Nat) (v : V), tm[i]? = some v → ∃ u, tmps[i]? = some u ∧ Den (Stab Am s.lo θ w) (Liv s.lo) θ w v u) :
    Rep (J.at l N θ) Am Mi w0 { s with tm, df := [], inr := true, base := N } θ { tmps, defers := [] } w :=
  ⟨hsz, htm, h.lo, h.lt, h.inj, h.mine, h.fr, h.am, h.jj, h.yy, h.ga, ⟨rfl, fun l' hl' => by cases hl'; exact hraw⟩, ⟨rfl, hN, fun _ _ => rfl⟩, rfl, fun d hd => by cases hd⟩

theorem ins_end (lo : List (Option Ob)) (o : Ob) : ins lo lo.length o = lo ++ [some o] := by
  apply List.ext_getElem?
  intro i
  simp only [ins, List.getElem?_set, List.getElem?_append, List.length_append, List.length_replicate]
  by_cases hi : lo.length = i
  · subst hi; simp
  · rw [if_neg hi]
    by_cases hlt : i < lo.length
    · simp [hlt]
    · have h1 : 1 ≤ i - lo.length := by omega
      simp only [hlt, if_false]
      rw [List.getElem?_replicate, if_neg (by omega), List.getElem?_eq_none (by simp; omega)]

def midS (s : St) (L : List (Option Ob)) (Y : List (List V)) (d : Option Ob) (rec : Loop) (tm : List V) : St :=
  { tm, lo := L.take s.lo.length ++ ([some (.held s.tm), d, some (.raw (.loop rec))] ++ L.drop s.lo.length), df := [], inr := true, base := s.lo.length + 3, ys := Y }
theorem mid_self (s : St) (Y : List (List V)) (d : Option Ob) (rec : Loop) (tm : List V) : (midS s s.lo Y d rec tm).lo = s.lo ++ [some (.held s.tm), d, some (.raw (.loop rec))] := by simp [midS]
theorem mid_lt {s : St} {L : List (Option Ob)} {Y : List (List V)} {d : Option Ob} {rec : Loop} {tm : List V} (hL : s.lo.length ≤ L.length) {n : Nat} (h : n < s.lo.length) : (midS s L Y d rec tm).lo[n]? = L[n]? := by
  simp only [midS]
  rw [List.getElem?_append_left (by rw [List.length_take]; omega), List.getElem?_take_of_lt h]
theorem mid_at {s : St} {L : List (Option Ob)} {Y : List (List V)} {d : Option Ob} {rec : Loop} {tm : List V} (hL : s.lo.length ≤ L.length) {i : Nat} (hi : i < 3) : (midS s L Y d rec tm).lo[s.lo.length + i]? = [some (Ob.held s.tm), d, some (.raw (.loop rec))][i]? := by
  have hl : (L.take s.lo.length).length = s.lo.length := by rw [List.length_take]; omega
  simp only [midS]
  rw [List.getElem?_append_right (by omega), hl, show s.lo.length + i - s.lo.length = i by omega, List.getElem?_append_left (by simpa using hi)]
theorem mid_held {s : St} {L : List (Option Ob)} {Y : List (List V)} {d : Option Ob} {rec : Loop} {tm : List V} (hL : s.lo.length ≤ L.length) : (midS s L Y d rec tm).lo[s.lo.length]? = some (some (.held s.tm)) := mid_at (i := 0) hL (by omega)
theorem mid_raw {s : St} {L : List (Option Ob)} {Y : List (List V)} {d : Option Ob} {rec : Loop} {tm : List V} (hL : s.lo.length ≤ L.length) : (midS s L Y d rec tm).lo[s.lo.length + 2]? = some (some (.raw (.loop rec))) := mid_at (i := 2) hL (by omega)
theorem mid_set {s : St} {L : List (Option Ob)} {Y : List (List V)} {d : Option Ob} {rec : Loop} {tm : List V} (hL : s.lo.length ≤ L.length) (o : Option Ob) : (midS s L Y d rec tm).lo.set (s.lo.length + 2) o = L.take s.lo.length ++ ([some (.held s.tm), d, o] ++ L.drop s.lo.length) := by
  have hl : (L.take s.lo.length).length = s.lo.length := by rw [List.length_take]; omega
  simp only [midS]
  rw [List.set_append_right _ _ (by omega), hl, show s.lo.length + 2 - s.lo.length = 2 by omega]
  rfl
theorem mid_len {s : St} {L : List (Option Ob)} {Y : List (List V)} {d : Option Ob} {rec : Loop} {tm : List V} (hL : s.lo.length ≤ L.length) : (midS s L Y d rec tm).lo.length = L.length + 3 := by
  simp only [midS, List.length_append, List.length_take, List.length_drop, List.length_cons, List.length_nil]
  omega

theorem denL_mk {S L : Nat → Prop} : ∀ {l : List V} {us : List Value}, l.length = us.length → (∀ (i : Nat) (v : V), l[i]? = some v → ∃ u, us[i]? = some u ∧ Den S L θ w v u) → DenL S L θ w l us
  | [], [], _, _ => .nil
  | v :: l, u :: us, hl, h => by
    obtain ⟨u', hu', hd⟩ := h 0 v rfl
    cases hu'
    exact .cons _ _ _ _ hd (denL_mk (by simpa using hl) fun i v hv => h (i + 1) v (by simpa using hv))
  | [], _ :: _, hl, _ => by simp at hl
  | _ :: _, [], hl, _ => by simp at hl

theorem Rep.held (h : Rep J Am Mi w0 s θ a w) : DenL (Stab Am s.lo θ w) (Liv s.lo) θ w s.tm a.tmps.toList :=
  denL_mk (by simp [h.size]) fun i v hv => by
    obtain ⟨u, hu, hd⟩ := h.tm i v hv
    exact ⟨u, by simpa using hu, hd⟩

theorem fresh_end (h : Rep J Am Mi w0 s θ a w) : Fresh s s.lo.length := ⟨h.tt.2.1, fun o ho => by simp at ho⟩

/-- The statement is entered where no round is on. -/
theorem Rep.enterO (h : Rep J Am Mi w0 s θ a w) (rec : Loop) : ∃ θ1 : Th, (θ1 (s.lo.length + 1)).bs = [w.heap.size] ∧ (θ1 (s.lo.length + 2)).blk = w.heap.size + 1 ∧ (θ1 s.lo.length).sl = .tuple a.tmps ∧ (∀ n, n < s.lo.length → θ1 n = θ n) ∧
    (∀ b, Own (midS s s.lo s.ys (some .dfr) rec []).lo θ1 b → Own s.lo θ b ∨ w.heap.size ≤ b) ∧
    Rep J Am Mi w0 { s with lo := (midS s s.lo s.ys (some .dfr) rec []).lo } θ1 a ((w.alloc (.deferred (some []))).alloc (.loop rec)) := by
  simp only [mid_self]
  have g1 := h.gain s.lo.length (fresh_end h) (.held s.tm) (Below.refl _ _) ⟨0, .tuple a.tmps, []⟩ _ rfl (fun _ _ e => by cases e) (fun b hu => hu.elim) (fun S L hS hL hθ hw => ⟨a.tmps.toList, by simp, h.held.mono hS hw hL hθ⟩)
  rw [ins_end] at g1
  have g2 := g1.new _ (fresh_end g1) .dfr (.deferred (some [])) ⟨0, .tuple #[], [w.heap.size]⟩ _ rfl (fun _ _ e => by cases e) (fun b hu => by simpa [uses] using hu) (fun S L hS hL hθ hw => by
    refine ⟨by simp, fun b hb => ?_⟩
    simp only [if_true, List.mem_singleton] at hb
    subst hb
    exact World.alloc_heap_new w _)
  rw [ins_end] at g2
  have g3 := g2.new _ (fresh_end g2) (.raw (.loop rec)) (.loop rec) ⟨w.heap.size + 1, .tuple #[], []⟩ _ rfl (fun _ _ e => by cases e) (fun b hu => by simpa [uses] using hu) (fun S L hS hL hθ hw => by
    show _ = _
    simp only [if_true]
    have := World.alloc_heap_new (w.alloc (.deferred (some []))) (.loop rec)
    rwa [World.size_alloc] at this)
  rw [ins_end] at g3
  simp only [List.append_assoc, List.cons_append, List.nil_append, List.length_append, List.length_cons, List.length_nil] at g3
  refine ⟨_, ?_, ?_, ?_, fun n hn => ?_, fun b hb => ?_, g3⟩
  · simp
  · simp
  · simp
  · rw [if_neg (by omega), if_neg (by omega), if_neg (by omega)]
  · have := g3.lt
    obtain ⟨n, o, ho, hu⟩ := hb
    by_cases hlt : n < s.lo.length
    · left
      refine ⟨n, o, by simpa [midS, List.getElem?_append, hlt] using ho, ?_⟩
      rw [uses_congr (θ := θ) (by rw [if_neg (by omega), if_neg (by omega), if_neg (by omega)])] at hu
      exact hu
    · right
      have hn : n = s.lo.length ∨ n = s.lo.length + 1 ∨ n = s.lo.length + 2 := by
        have := (List.getElem?_eq_some_iff.1 ho).1
        simp [midS] at this
        omega
      rcases hn with rfl | rfl | rfl
      · simp [midS, List.getElem?_append] at ho
        subst ho
        exact hu.elim
      · simp [midS, List.getElem?_append] at ho
        subst ho
        simp [uses] at hu
        omega
      · simp [midS, List.getElem?_append] at ho
        subst ho
        simp [uses] at hu
        omega

theorem ins_two (lo : List (Option Ob)) (o : Ob) : ins lo (lo.length + 1) o = lo ++ [none, some o] := by
  apply List.ext_getElem?
  intro i
  simp only [ins, List.getElem?_set, List.getElem?_append, List.length_append, List.length_replicate]
  by_cases hi : lo.length + 1 = i
  · subst hi
    rw [if_pos rfl, if_pos (by omega), if_neg (by omega), show lo.length + 1 - lo.length = 1 by omega]
    rfl
  · rw [if_neg hi]
    by_cases hlt : i < lo.length
    · simp [hlt]
    · simp only [hlt, if_false]
      by_cases h0 : i = lo.length
      · subst h0
        rw [List.getElem?_replicate, if_pos (by omega)]
        simp
      · rw [List.getElem?_replicate, if_neg (by omega), List.getElem?_eq_none (by simp; omega)]

/-- The statement is entered within a round. -/
theorem Rep.enterI (h : Rep J Am Mi w0 s θ a w) (rec : Loop) : ∃ θ1 : Th, (θ1 (s.lo.length + 2)).blk = w.heap.size ∧ (θ1 s.lo.length).sl = .tuple a.tmps ∧ (∀ n, n < s.lo.length → θ1 n = θ n) ∧
    (∀ b, Own (midS s s.lo s.ys none rec []).lo θ1 b → Own s.lo θ b ∨ w.heap.size ≤ b) ∧
    Rep J Am Mi w0 { s with lo := (midS s s.lo s.ys none rec []).lo } θ1 a (w.alloc (.loop rec)) := by
  simp only [mid_self]
  have g1 := h.gain s.lo.length (fresh_end h) (.held s.tm) (Below.refl _ _) ⟨0, .tuple a.tmps, []⟩ _ rfl (fun _ _ e => by cases e) (fun b hu => hu.elim) (fun S L hS hL hθ hw => ⟨a.tmps.toList, by simp, h.held.mono hS hw hL hθ⟩)
  rw [ins_end] at g1
  have g3 := g1.new ((s.lo ++ [some (Ob.held s.tm)]).length + 1) ⟨Nat.le_trans g1.tt.2.1 (Nat.le_succ _), fun o ho => by simp at ho⟩ (.raw (.loop rec)) (.loop rec) ⟨w.heap.size, .tuple #[], []⟩ _ rfl (fun _ _ e => by cases e) (fun b hu => by simpa [uses] using hu) (fun S L hS hL hθ hw => by
    show _ = _
    simp only [if_true]
    exact World.alloc_heap_new w _)
  rw [ins_two] at g3
  simp only [List.append_assoc, List.cons_append, List.nil_append, List.length_append, List.length_cons, List.length_nil] at g3
  refine ⟨_, ?_, ?_, fun n hn => ?_, fun b hb => ?_, g3⟩
  · simp
  · rw [if_neg (by omega), if_pos rfl]
  · rw [if_neg (by omega), if_neg (by omega)]
  · obtain ⟨n, o, ho, hu⟩ := hb
    by_cases hlt : n < s.lo.length
    · left
      refine ⟨n, o, by simpa [midS, List.getElem?_append, hlt] using ho, ?_⟩
      rw [uses_congr (θ := θ) (by rw [if_neg (by omega), if_neg (by omega)])] at hu
      exact hu
    · right
      have hn : n = s.lo.length ∨ n = s.lo.length + 1 ∨ n = s.lo.length + 2 := by
        have := (List.getElem?_eq_some_iff.1 ho).1
        simp [midS] at this
        omega
      rcases hn with rfl | rfl | rfl
      · simp [midS, List.getElem?_append] at ho
        subst ho
        exact hu.elim
      · simp [midS, List.getElem?_append] at ho
      · simp [midS, List.getElem?_append] at ho
        subst ho
        simp [uses] at hu
        omega

/-- Other temporaries, in the same world. -/
theorem Rep.withTm (h : Rep J Am Mi w0 s θ a w) {tm : List V} {tmps : Array Value} (hd : DenL (Stab Am s.lo θ w) (Liv s.lo) θ w tm tmps.toList) :
    Rep J Am Mi w0 { s with tm } θ { a with tmps } w :=
  ⟨by have := hd.length; simpa using this.symm, fun i v hv => by
      obtain ⟨u, hu, hdu⟩ := hd.get i v hv
      exact ⟨u, by simpa using hu, hdu⟩, h.lo, h.lt, h.inj, h.mine, h.fr, h.am, h.jj, h.yy, h.ga, h.rr, h.tt, h.df, h.dfl⟩

def setPs : List V → List Nat → List V → List V
  | tm, p :: ps, v :: vs => setPs (tm.set p v) ps vs
  | tm, _, _ => tm

theorem setPs_den {S L : Nat → Prop} : ∀ (ps : List Nat) {tm vs : List V} {us xs : List Value}, DenL S L θ w tm us → DenL S L θ w vs xs → DenL S L θ w (setPs tm ps vs) (((ps.zip xs).foldl (fun t x => t.setIfInBounds x.1 x.2) us.toArray).toList)
  | [], tm, vs, us, xs, h, hv => by simpa [setPs] using h
  | p :: ps, tm, [], us, xs, h, hv => by cases hv; simpa [setPs] using h
  | p :: ps, tm, v :: vs, us, xs, h, hv => by
    cases hv with
    | cons _ x _ xs hx hxs =>
      simp only [setPs, List.zip_cons_cons, List.foldl_cons]
      have hset : DenL S L θ w (tm.set p v) (us.set p x) := by
        refine denL_mk (by simp [h.length]) fun i y hy => ?_
        rw [List.getElem?_set] at hy
        split at hy
        · rename_i e
          subst e
          split at hy
          · rename_i hl
            cases hy
            exact ⟨x, by rw [List.getElem?_set, if_pos rfl, if_pos (by rw [← h.length]; exact hl)], hx⟩
          · cases hy
        · rename_i e
          obtain ⟨u, hu, hd⟩ := h.get i y hy
          exact ⟨u, by rw [List.getElem?_set, if_neg e]; exact hu, hd⟩
      have := setPs_den ps hset hxs
      simpa using this

end
end Go.SX
