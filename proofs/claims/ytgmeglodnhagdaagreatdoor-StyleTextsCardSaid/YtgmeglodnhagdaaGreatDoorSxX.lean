/- The range over a function: its law. -/
import Derived.Test.YtgmeglodnhagdaaGreatDoorSxU
namespace Go.SX
open Go.RowKit
set_option linter.unusedVariables false
set_option linter.unusedSimpArgs false
set_option linter.unusedSectionVars false

/-- The state behind a range statement. -/
def outS (s : St) (L : List (Option Ob)) (Y : List (List V)) : St :=
  { s with lo := L.take s.lo.length ++ ([some (.held s.tm), if s.inr then none else some .dfr, some .dead] ++ L.drop s.lo.length), df := if s.inr then s.df else .mark (s.lo.length + 1) :: s.df, ys := Y }

section
variable [GW] {P : Program} {J : Jt P} {Am Am' Mi : Nat → Prop} {w0 w w' : World} {s : St} {θ θ' : Th} {a a' : Act}

/-- What holds of the resources that a statement's end leans on: they lie as they were. -/
def keepsR : List (Option Ob) → List (Option Ob) → Prop
  | some (.raw x) :: l, o :: l' => o = some (.raw x) ∧ keepsR l l'
  | some (.raw _) :: _, [] => False
  | some .dfr :: l, o :: l' => o = some .dfr ∧ keepsR l l'
  | some .dfr :: _, [] => False
  | _ :: l, _ :: l' => keepsR l l'
  | _ :: _, [] => True
  | [], _ => True

theorem keepsR_raw : ∀ {l l' : List (Option Ob)}, l.length ≤ l'.length → keepsR l l' → ∀ (n : Nat) (x : Obj), l[n]? = some (some (.raw x)) → l'[n]? = some (some (.raw x))
  | [], _, _, _, n, x, h => by simp at h
  | o :: l, [], hl, _, n, x, h => by simp at hl
  | o :: l, o' :: l', hl, hk, n, x, h => by
    have hl' : l.length ≤ l'.length := by simpa using hl
    have hk' : keepsR l l' ∧ ∀ y, o = some (.raw y) → o' = some (.raw y) := by
      cases o with
      | none => exact ⟨hk, fun _ e => by cases e⟩
      | some o =>
        cases o with
        | raw y => exact ⟨hk.2, fun z e => by rw [← e]; exact hk.1⟩
        | dfr => exact ⟨hk.2, fun _ e => by cases e⟩
        | _ => exact ⟨hk, fun _ e => by cases e⟩
    cases n with
    | zero => simp at h; simp [hk'.2 x h]
    | succ n => simpa using keepsR_raw hl' hk'.1 n x (by simpa using h)

/-- The statement is left: the activation goes on where it was. -/
theorem Rep.exitA {Am0 : Nat → Prop} {θ0 θ1 : Th} {a0 a2 : Act} {w00 : World} (h0 : Rep J Am0 Mi w0 s θ0 a0 w00) {l : Nat} {L : List (Option Ob)} {Y : List (List V)} {d : Option Ob} {rec : Loop} {any : List V} {mark : List Deferred}
    (hR : Rep (J.at l (s.lo.length + 3) θ1) Am Mi w0 (midS s L Y d rec any) θ a2 w) (hL : s.lo.length ≤ L.length) (hθ1 : ∀ n, n < s.lo.length → θ1 n = θ0 n) (hsl : (θ1 s.lo.length).sl = .tuple a0.tmps)
    (hk : keepsR s.lo L) (hlv : ∀ d ∈ s.df, ∀ n ∈ d.names, Liv L n) (hd : d = if s.inr then none else some .dfr) (hmark : mark = if s.inr then [] else Df.den θ1 (.mark (s.lo.length + 1))) :
    Rep J Am Mi w0 { s with lo := (midS s L Y d rec any).lo, df := if s.inr then s.df else .mark (s.lo.length + 1) :: s.df, ys := Y } θ { tmps := a0.tmps, defers := mark ++ a0.defers } w := by
  have hth : ∀ n, n < s.lo.length + 3 → θ n = θ1 n := fun n hn => hR.tt.2.2 n hn
  have hth0 : ∀ n, n < s.lo.length → θ n = θ0 n := fun n hn => (hth n (by omega)).trans (hθ1 n hn)
  obtain ⟨us, hus, hden⟩ := hR.lo s.lo.length (.held s.tm) (mid_held hL)
  have hus' : us.toArray = a0.tmps := by
    rw [hth _ (by omega), hsl] at hus
    exact (Value.tuple.inj hus).symm
  have hgetL : ∀ (n : Nat) (o : Ob), n < s.lo.length → L[n]? = some (some o) → (midS s L Y d rec any).lo[n]? = some (some o) := fun n o hn ho => (mid_lt hL hn).trans ho
  refine ⟨h0.size, fun i v hv => ?_, hR.lo, hR.lt, hR.inj, hR.mine, hR.fr, hR.am, hR.jj, hR.yy, hR.ga, ⟨h0.rr.1, fun l' hl' => ?_⟩, ⟨h0.tt.1, ?_, fun n hn => ?_⟩, ?_, fun df hdf n hn => ?_⟩
  · obtain ⟨u, hu, hdu⟩ := hden.get i v hv
    exact ⟨u, by simp only; rw [← hus']; simpa using hu, hdu⟩
  · obtain ⟨n, x, hx, hb⟩ := h0.rr.2 l' hl'
    exact ⟨n, x, hgetL _ _ (List.getElem?_eq_some_iff.1 hx).1 (keepsR_raw hL hk n _ hx), by rw [hth0 n (List.getElem?_eq_some_iff.1 hx).1]; exact hb⟩
  · have := h0.tt.2.1
    rw [mid_len hL]
    show s.base ≤ _
    omega
  · have h1 : n < s.base := hn
    rw [hth0 n (Nat.lt_of_lt_of_le h1 h0.tt.2.1)]
    exact h0.tt.2.2 n h1
  · have e1 : List.flatMap (Df.den θ0) s.df = List.flatMap (Df.den θ) s.df := flatMap_congr' fun d hd => (Df.den_congr d fun m hm => by
      obtain ⟨o, ho⟩ := h0.dfl d hd m hm
      exact hth0 m (List.getElem?_eq_some_iff.1 ho).1).symm
    simp only [hmark, h0.df, e1]
    split
    · rfl
    · rw [List.flatMap_cons]
      simp only [Df.den, hth (s.lo.length + 1) (by omega)]
  · have hlv' : ∀ n, n < s.lo.length → Liv L n → Liv (midS s L Y d rec any).lo n := fun n hn ⟨o, ho⟩ => ⟨o, hgetL n o hn ho⟩
    have hlt : ∀ df ∈ s.df, ∀ n ∈ df.names, n < s.lo.length := fun df hm n hn => by
      obtain ⟨o, ho⟩ := h0.dfl df hm n hn
      exact (List.getElem?_eq_some_iff.1 ho).1
    simp only at hdf
    split at hdf
    · exact hlv' n (hlt df hdf n hn) (hlv df hdf n hn)
    · rename_i hi
      rcases List.mem_cons.1 hdf with rfl | hm
      · simp only [Df.names, List.mem_singleton] at hn
        subst hn
        refine ⟨.dfr, ?_⟩
        have := mid_at (s := s) (L := L) (Y := Y) (d := d) (rec := rec) (tm := any) (i := 1) hL (by omega)
        rw [hd, if_neg hi] at this
        rw [hd, if_neg hi]
        exact this
      · exact hlv' n (hlt df hm n hn) (hlv df hm n hn)

/-- .. and the statement's record is done with. -/
theorem Rep.exitB {L : List (Option Ob)} {Y : List (List V)} {d : Option Ob} {rec : Loop} {any : List V} {l : Nat} (hd : d = if s.inr then none else some .dfr)
    (hR : Rep J Am Mi w0 { s with lo := (midS s L Y d rec any).lo, df := if s.inr then s.df else .mark (s.lo.length + 1) :: s.df, ys := Y } θ a w) (hL : s.lo.length ≤ L.length) (hbl : (θ (s.lo.length + 2)).blk = l)
    (hr : ∀ l', J.r = some l' → l ≠ l') (rec' : Loop) : Rep J Am Mi w0 (outS s L Y) θ a (w.putObj l (.loop rec')) := by
  have hraw : (midS s L Y d rec any).lo[s.lo.length + 2]? = some (some (.raw (.loop rec))) := mid_raw hL
  have ht := hR.turnG (s.lo.length + 2) _ .dead hraw (fun b hb => hb) (fun _ _ e => by cases e) (.inr fun l' hl' x _ => by rw [hbl]; exact hr l' hl') (w' := w.putObj l (.loop rec')) rfl rfl rfl (by simp)
    (fun b hb => World.putObj_heap_other (fun e => hb (by simp only [uses, hbl]; exact e))) trivial
  have e : (midS s L Y d rec any).lo.set (s.lo.length + 2) (some .dead) = (outS s L Y).lo := by
    rw [mid_set hL, outS, hd]
  have e2 : (outS s L Y) = { s with lo := (midS s L Y d rec any).lo.set (s.lo.length + 2) (some .dead), df := if s.inr then s.df else .mark (s.lo.length + 1) :: s.df, ys := Y } := by
    rw [e]; rfl
  rw [e2]
  exact ht

/-- The record, k rounds on. -/
def recs (rec : Loop) (E : Nat → Ex) : Nat → Loop
  | 0 => rec
  | k + 1 => recOf (recs rec E k) (E k)

theorem recs_ok (rec : Loop) (E : Nat → Ex) (hs : rec.state = .ready) (hp : rec.pending = none) : ∀ k, (∀ j, j < k → isNormal (E j) = true) →
    (recs rec E k).state = .ready ∧ (recs rec E k).pending = none ∧ (recs rec E k).fn = rec.fn ∧ (recs rec E k).tmps = rec.tmps ∧ (recs rec E k).params = rec.params ∧ (recs rec E k).assign = rec.assign ∧ (recs rec E k).body = rec.body
  | 0, _ => ⟨hs, hp, rfl, rfl, rfl, rfl, rfl⟩
  | k + 1, h => by
    obtain ⟨h1, h2, h3⟩ := recs_ok rec E hs hp k fun j hj => h j (by omega)
    have he := h k (by omega)
    refine ⟨by simp [recs, recOf, he], ?_, h3⟩
    simp only [recs, recOf]
    cases hE : E k <;> rw [hE] at he <;> simp [isNormal] at he
    rfl

theorem recs_busy (rec : Loop) (E : Nat → Ex) (hs : rec.state = .ready) : ∀ k, (recs rec E k).state ≠ .busy
  | 0 => by simp [recs, hs]
  | k + 1 => by simp only [recs, recOf]; split <;> simp

end
end Go.SX
