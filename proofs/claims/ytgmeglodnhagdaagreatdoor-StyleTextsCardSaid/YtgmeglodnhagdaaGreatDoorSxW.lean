/- A law's statement, out of the law's contract: what its arguments are. -/
import Derived.Test.YtgmeglodnhagdaaGreatDoorSxZ
import Derived.ChangeSame
import Derived.ChangeArms
import Derived.ChangeReads
import Derived.ChangeOld
import Derived.DataReads
import Derived.ChangeShapes
import Derived.JoinedOf
import Derived.RowKit
import Derived.RowKitTokens
import Derived.Handed
namespace Go.SX
open Go.RowKit Go.ChangeShapes
set_option linter.unusedVariables false
set_option linter.unusedSimpArgs false
set_option linter.unusedSectionVars false

mutual
/-- The kinds of the cells of a type of plain data; none: it is another type. -/
def flatT (P : Program) : Nat → TypeId → Option (List K)
  | 0, _ => none
  | n + 1, t => match P.underlying t with
    | some (.int k) => some [.int k]
    | some .bool => some [.bool]
    | some .string => some [.str]
    | some (.struct fs) => match flatFs P n fs.toList 0 with
      | some ks => if ks.length = P.cellsOf t then some ks else none
      | none => none
    | _ => none
def flatFs (P : Program) : Nat → List Field → Nat → Option (List K)
  | _, [], _ => some []
  | 0, _ :: _, _ => none
  | n + 1, f :: fs, off => if f.offset = off then match flatT P n f.type with
      | some ks => if ks.length = P.cellsOf f.type then match flatFs P n fs (off + ks.length) with
          | some r => some (ks ++ r)
          | none => none
        else none
      | none => none
    else none
end

/-- A value of a kind, as an argument may hold it. -/
inductive KW : K → Value → Prop
  | int (k : IntKind) (n : Int) (h : (Lit.int k n).wf = true) : KW (.int k) (.int k n)
  | bool (b : Bool) : KW .bool (.bool b)
  | str (s : ByteArray) (h : s.size ≤ maxLen) : KW .str (.string s)

inductive FitW : List K → List Value → Prop
  | nil : FitW [] []
  | cons (k : K) (v : Value) (ks : List K) (vs : List Value) (h : KW k v) (hl : FitW ks vs) : FitW (k :: ks) (v :: vs)

theorem FitW.append {ks ks' : List K} {vs vs' : List Value} (h : FitW ks vs) (h' : FitW ks' vs') : FitW (ks ++ ks') (vs ++ vs') := by
  induction h with
  | nil => exact h'
  | cons k v ks vs hk _ ih => exact .cons _ _ _ _ hk ih

theorem FitW.length {ks : List K} {vs : List Value} (h : FitW ks vs) : ks.length = vs.length := by
  induction h with
  | nil => rfl
  | cons _ _ _ _ _ _ ih => simp [ih]

theorem FitW.get {ks : List K} {vs : List Value} (h : FitW ks vs) : ∀ (j : Nat) (k : K), ks[j]? = some k → ∃ v, vs[j]? = some v ∧ KW k v := by
  induction h with
  | nil => intro j k hj; simp at hj
  | cons k v ks vs hk _ ih =>
    intro j k' hj
    cases j with
    | zero => simp at hj; subst hj; exact ⟨v, rfl, hk⟩
    | succ j => exact ih j k' (by simpa using hj)

section
variable {H : Type} {enc : TypeId × Value → H} {P : Program} {w : World} {base : Nat} {sp : Nat → Bool} {held : Bool}

theorem mapM_of_get {α β : Type} {f : α → Option β} : ∀ {l : List α} {xs : List β}, xs.length = l.length → (∀ (i : Nat) (a : α), l[i]? = some a → f a = xs[i]?) → l.mapM f = some xs
  | [], xs, hl, _ => by
    have : xs = [] := List.length_eq_zero_iff.1 (by simpa using hl)
    subst this; rfl
  | a :: l, [], hl, _ => by simp at hl
  | a :: l, x :: xs, hl, h => by
    have h0 := h 0 a rfl
    have ih := mapM_of_get (f := f) (l := l) (xs := xs) (by simpa using hl) fun i b hb => by simpa using h (i + 1) b (by simpa using hb)
    rw [List.mapM_cons, h0, ih]
    rfl

mutual
theorem flat_trod : ∀ (n : Nat) (t : TypeId) (ks : List K) (m : Nat) (cs : List Value) (x : DataW H × List MemPlace), flatT P n t = some ks → DataW.trod enc P w base sp held m t cs = some x →
    FitW ks cs ∧ x.2 = [] ∧ ∀ (w' : World) (base' : Nat) (sp' : Nat → Bool) (held' : Bool), DataW.trod enc P w' base' sp' held' m t cs = some x
  | 0, t, ks, m, cs, x, hf, h => by simp [flatT] at hf
  | n + 1, t, ks, m, cs, x, hf, h => by
    unfold flatT at hf
    split at hf
    · rename_i k hu
      cases hf
      obtain ⟨v, rfl, rfl, hw⟩ := DataW.trod_int hu h
      refine ⟨.cons _ _ _ _ (.int k v hw) .nil, rfl, fun w' base' sp' held' => ?_⟩
      cases m with
      | zero => simp [DataW.trod] at h
      | succ m => exact trod_int_mk m hu hw
    · rename_i hu
      cases hf
      obtain ⟨v, rfl, rfl⟩ := DataW.trod_bool hu h
      refine ⟨.cons _ _ _ _ (.bool v) .nil, rfl, fun w' base' sp' held' => ?_⟩
      cases m with
      | zero => simp [DataW.trod] at h
      | succ m => simp [DataW.trod, hu]
    · rename_i hu
      cases hf
      obtain ⟨v, rfl, rfl, hw⟩ := DataW.trod_string hu h
      refine ⟨.cons _ _ _ _ (.str v hw) .nil, rfl, fun w' base' sp' held' => ?_⟩
      cases m with
      | zero => simp [DataW.trod] at h
      | succ m => simp [DataW.trod, hu, hw]
    · rename_i fs hu
      split at hf
      · rename_i ks' hfs
        split at hf
        · rename_i hlen
          cases hf
          obtain ⟨xs, m', rfl, rfl, hcl, hxl, hx⟩ := DataW.trod_struct hu h
          have hx' : ∀ (i : Nat) (f : Field), fs.toList[i]? = some f → DataW.trod enc P w base sp held m' f.type ((cs.drop f.offset).take (P.cellsOf f.type)) = xs[i]? := fun i f hi => hx i f (by simpa using hi)
          obtain ⟨h1, h2, h3⟩ := flat_fields n fs.toList 0 ks m' cs xs hfs (by simpa using hxl) hx' (by omega)
          refine ⟨by simpa using h1, h2, fun w' base' sp' held' => ?_⟩
          exact trod_struct_mk hu hcl (mapM_of_get (by simpa using hxl) fun i f hi => h3 w' base' sp' held' i f hi)
        · cases hf
      · cases hf
    · cases hf
theorem flat_fields : ∀ (n : Nat) (fs : List Field) (off : Nat) (ks : List K) (m : Nat) (cs : List Value) (xs : List (DataW H × List MemPlace)), flatFs P n fs off = some ks → xs.length = fs.length →
    (∀ (i : Nat) (f : Field), fs[i]? = some f → DataW.trod enc P w base sp held m f.type ((cs.drop f.offset).take (P.cellsOf f.type)) = xs[i]?) → off + ks.length = cs.length →
    FitW ks (cs.drop off) ∧ xs.flatMap (·.2) = [] ∧ ∀ (w' : World) (base' : Nat) (sp' : Nat → Bool) (held' : Bool) (i : Nat) (f : Field), fs[i]? = some f → DataW.trod enc P w' base' sp' held' m f.type ((cs.drop f.offset).take (P.cellsOf f.type)) = xs[i]?
  | n, [], off, ks, m, cs, xs, hf, hxl, hx, hlen => by
    have hks : ks = [] := by cases n <;> simpa [flatFs] using hf.symm
    subst hks
    have : xs = [] := List.length_eq_zero_iff.1 (by simpa using hxl)
    subst this
    have hd : cs.drop off = [] := List.drop_eq_nil_iff.2 (by simp at hlen; omega)
    rw [hd]
    exact ⟨.nil, rfl, fun _ _ _ _ i f hi => by simp at hi⟩
  | 0, f :: fs, off, ks, m, cs, xs, hf, hxl, hx, hlen => by simp [flatFs] at hf
  | n + 1, f :: fs, off, ks, m, cs, xs, hf, hxl, hx, hlen => by
    unfold flatFs at hf
    split at hf
    · rename_i hoff
      split at hf
      · rename_i k1 hk1
        split at hf
        · rename_i hkl
          split at hf
          · rename_i r hr
            cases hf
            cases xs with
            | nil => simp at hxl
            | cons y ys =>
              have h0 := hx 0 f rfl
              simp only [List.getElem?_cons_zero] at h0
              obtain ⟨a1, a2, a3⟩ := flat_trod n f.type k1 m _ y hk1 h0
              obtain ⟨b1, b2, b3⟩ := flat_fields n fs (off + k1.length) r m cs ys hr (by simpa using hxl) (fun i g hi => by simpa using hx (i + 1) g (by simpa using hi)) (by simp only [List.length_append] at hlen; omega)
              rw [hoff] at a1 a3
              refine ⟨?_, by simp [a2, b2], fun w' base' sp' held' i g hi => ?_⟩
              · have := a1.append b1
                rwa [← hkl, ← List.drop_drop, List.take_append_drop] at this
              · cases i with
                | zero =>
                  simp only [List.getElem?_cons_zero, Option.some.injEq] at hi ⊢
                  subst hi
                  rw [hoff]
                  exact a3 w' base' sp' held'
                | succ i => simpa using b3 w' base' sp' held' i g (by simpa using hi)
          · cases hf
        · cases hf
      · cases hf
    · cases hf
end

/-! ### parameters -/
/-- A stable value of a kind, as an argument may hold it. -/
inductive QK : K → Q → Prop
  | val (k : K) (v : Value) (h : KW k v) : QK k (.c v)
  | lst (ks : List K) (n : Nat) (g : Nat → Nat → Q) (hn : n ≤ 9223372036854775807) (h : ∀ i j k, i < n → ks[j]? = some k → ∃ v, g i j = .c v ∧ KW k v) : QK (.lst ks) (.lst ks n g)

theorem KW.ok {k : K} {v : Value} (h : KW k v) : KOk k (.c v) := by
  cases h
  · exact .int _ _
  · exact .bool _
  · exact .str _

/-- A parameter's type: whether a struct; the kinds of its cells. -/
def parT (P : Program) (t : TypeId) : Option (Bool × List K) := match P.underlying t with
  | some (.slice e) => match flatT P 24 e with
    | some ks => if ks.length = P.cellsOf e ∧ 0 < ks.length then some (false, [.lst ks]) else none
    | none => none
  | some (.struct _) => (flatT P 24 t).map fun ks => (true, ks)
  | _ => (flatT P 24 t).map fun ks => (false, ks)

inductive QKs : List K → List V → Prop
  | nil : QKs [] []
  | cons (k : K) (q : Q) (ks : List K) (l : List V) (h : QK k q) (hl : QKs ks l) : QKs (k :: ks) (.q q :: l)

inductive PV : Bool × List K → V → Prop
  | one (k : K) (q : Q) (h : QK k q) : PV (false, [k]) (.q q)
  | agg (ks : List K) (l : List V) (h : QKs ks l) : PV (true, ks) (.agg l)

inductive PVs : List (Bool × List K) → List V → Prop
  | nil : PVs [] []
  | cons (p : Bool × List K) (x : V) (ps : List (Bool × List K)) (xs : List V) (h : PV p x) (hl : PVs ps xs) : PVs (p :: ps) (x :: xs)

theorem fitW_den {S L : Nat → Prop} {θ : Th} {ks : List K} {vs : List Value} (h : FitW ks vs) : QKs ks (vs.map fun v => .q (.c v)) ∧ DenL S L θ w (vs.map fun v => .q (.c v)) vs := by
  induction h with
  | nil => exact ⟨.nil, .nil⟩
  | cons k v ks vs hk _ ih => exact ⟨.cons _ _ _ _ (.val _ _ hk) ih.1, .cons _ _ _ _ (.q _ _ (.c _)) ih.2⟩

/-- What a parameter of plain data, or a list of such, denotes; that it is read behind the call as it was. -/
theorem par_den [GW] {t : TypeId} {p : Bool × List K} {v : Value} {d : DataW H} {ps : List MemPlace} {b0 : Nat} (hp : parT P t = some p) (hok : Value.okWide P w .any b0 t v) (h : DataW.Trod enc P w 0 (fun _ => true) true t v d ps) :
    (∃ x, PV p x ∧ Den (fun b => b < w.heap.size) NoL th0 w x v) ∧ ∀ w', Below w.heap.size w w' → DataW.Trod enc P w' 0 (fun b => decide (b < w.heap.size)) true t v d ps := by
  obtain ⟨m, hm⟩ := h
  unfold parT at hp
  split at hp
  · rename_i e hu
    split at hp
    · rename_i ks hks
      split at hp
      · rename_i hc
        obtain ⟨hcl, hpos⟩ := hc
        cases hp
        simp only [Value.okWide, hu, Cell.okWide, Cell.ok] at hok
        have hv : v = .slice none 0 0 ∨ ∃ a len cap, v = .slice (some a) len cap ∧ w.has P .any b0 a e cap := by
          split at hok
          all_goals first
            | (simp_all; done)
            | (simp_all; exact ⟨_, _, _, ⟨rfl, rfl, rfl⟩, hok.2.2⟩)
        rcases hv with rfl | ⟨a, len, cap, rfl, hhas⟩
        · refine ⟨⟨.q (.lst ks 0 fun _ _ => default), .one _ _ (.lst _ _ _ (Nat.zero_le _) fun i j k hi => absurd hi (Nat.not_lt_zero _)), .q _ _ (.nil _ _ _ rfl)⟩, fun w' hb => ?_⟩
          have hx : (d, ps) = (.nil, []) := by
            rcases DataW.trod_slice hu hm with ⟨_, hx⟩ | ⟨a, len, cap, elems, rest, n, _, hcs, _⟩
            · exact hx
            · simp [Value.cells] at hcs
          cases hx
          exact shut_slice_nil hu
        · obtain ⟨_, hspot, row, cells, hshape, _⟩ := hhas
          obtain ⟨b, off, spot⟩ := a
          simp only at hspot
          subst hspot
          have hblt : b < w.heap.size := by
            rcases Nat.lt_or_ge b w.heap.size with h1 | h1
            · exact h1
            · simp [World.shape?, Array.getElem?_eq_none h1] at hshape
          rcases DataW.trod_slice hu hm with ⟨hcs, _⟩ | ⟨a, len', cap', elems, rest, n, hfu, hcs, hx, _, hle, hcap, hel, he, hr1, hr2⟩
          · simp [Value.cells] at hcs
          · simp only [Value.cells, List.cons.injEq, Value.slice.injEq, Option.some.injEq, and_true] at hcs
            obtain ⟨rfl, rfl, rfl⟩ := hcs
            have key : ∀ i, i < len → ∃ cs, w.cells? 0 ⟨b, off + i * ks.length, none⟩ ks.length = some cs ∧ FitW ks cs ∧ ∃ y, elems[i]? = some y := fun i hi => by
              have h1 := he i hi
              rw [← hcl, addr_add] at h1
              obtain ⟨y, hy⟩ : ∃ y, elems[i]? = some y := ⟨elems[i], List.getElem?_eq_getElem (by omega)⟩
              rw [hy] at h1
              simp only [Option.bind_eq_some_iff] at h1
              obtain ⟨cs, h2, h3⟩ := h1
              exact ⟨cs, h2, (flat_trod 24 e ks n cs y hks h3).1, y, hy⟩
            have hcell : ∀ i j k, i < len → ks[j]? = some k → ∃ u, w.cell? ⟨b, off + i * ks.length + j, none⟩ = some u ∧ KW k u := fun i j k hi hk => by
              obtain ⟨cs, h2, h3, _⟩ := key i hi
              obtain ⟨_, hl, hc⟩ := World.cells?_some h2
              obtain ⟨u, hu1, hu2⟩ := h3.get j k hk
              have hj : j < ks.length := (List.getElem?_eq_some_iff.1 hk).1
              have := hc j hj
              rw [addr_add, hu1] at this
              exact ⟨u, this, hu2⟩
            refine ⟨⟨.q (.lst ks len fun i j => .c ((w.cell? ⟨b, off + i * ks.length + j, none⟩).getD undef)), .one _ _ (.lst _ _ _ ?_ fun i j k hi hk => ?_), .q _ _ (.lst _ _ _ b off cap (fun i j => (w.cell? ⟨b, off + i * ks.length + j, none⟩).getD undef) hblt ⟨hle, ?_⟩ (fun i j hi hj => ?_) (fun i j k hi hk => ?_) (fun i j hi hj => .c _))⟩, fun w' hb => ?_⟩
            · have : maxLen = 9223372036854775807 := by rfl
              omega
            · obtain ⟨u, h1, h2⟩ := hcell i j k hi hk
              exact ⟨u, by rw [h1]; rfl, h2⟩
            · have : maxLen = 9223372036854775807 := by rfl
              omega
            · obtain ⟨u, h1, _⟩ := hcell i j _ hi (List.getElem?_eq_getElem hj)
              rw [h1]; rfl
            · obtain ⟨u, h1, h2⟩ := hcell i j k hi hk
              rw [h1]; exact h2.ok
            · have hlt := DataW.trod_lt m t _ _ hm
              have h1 := DataW.trod_carry m t _ _ hm (fun p hp => hb.same (hlt p hp))
              refine ⟨m, ?_⟩
              subst hfu
              have hsp : decide (b < w.heap.size) = true := by simpa using hblt
              unfold DataW.trod at h1 ⊢
              rw [hu] at h1 ⊢
              simp only [Value.cells] at h1 ⊢
              have e1 : ∀ z cs, DataW.trod enc P w' 0 (fun _ => true) true n e cs = some z → DataW.trod enc P w' 0 (fun b => decide (b < w.heap.size)) true n e cs = some z := fun z cs hz => (flat_trod 24 e ks n cs z hks hz).2.2 _ _ _ _
              split at h1
              · rename_i hcnd
                rw [if_pos hcnd]
                simp only [Option.bind_eq_some_iff, Option.map_eq_some_iff, if_true] at h1 ⊢
                obtain ⟨els, g1, rst, g2, g3⟩ := h1
                refine ⟨els, mapM_carry g1 fun x y hx hy hxy => ?_, rst, ?_, g3⟩
                · obtain ⟨cs, k1, k2⟩ := Option.bind_eq_some_iff.1 hxy
                  exact Option.bind_eq_some_iff.2 ⟨cs, k1, e1 _ _ k2⟩
                · rw [if_pos hsp]
                  exact mapM_carry g2 fun x y hx hy hxy => by
                    obtain ⟨cs, k1, k2⟩ := Option.bind_eq_some_iff.1 hxy
                    exact Option.bind_eq_some_iff.2 ⟨cs, k1, e1 _ _ k2⟩
              · cases h1
      · cases hp
    · cases hp
  · rename_i fs hu
    simp only [Option.map_eq_some_iff] at hp
    obtain ⟨ks, hks, rfl⟩ := hp
    obtain ⟨h1, h2, h3⟩ := flat_trod 24 t ks m _ _ hks hm
    simp only [Value.okWide, hu] at hok
    obtain ⟨cs, rfl, _, _⟩ := hok
    obtain ⟨d1, d2⟩ := fitW_den (S := fun b => b < w.heap.size) (L := NoL) (θ := th0) (w := w) h1
    exact ⟨⟨.agg _, .agg _ _ d1, by simpa [Value.cells] using Den.agg _ _ d2⟩, fun w' _ => ⟨m, h3 _ _ _ _⟩⟩
  · rename_i hns hnt
    simp only [Option.map_eq_some_iff] at hp
    obtain ⟨ks, hks, rfl⟩ := hp
    obtain ⟨h1, h2, h3⟩ := flat_trod 24 t ks m _ _ hks hm
    refine ⟨?_, fun w' _ => ⟨m, h3 _ _ _ _⟩⟩
    unfold flatT at hks
    split at hks
    · rename_i k hu
      cases hks
      obtain ⟨n, rfl⟩ : ∃ n, v = .int k n := by
        simp only [Value.okWide, hu, Cell.okWide, Cell.ok] at hok
        split at hok <;> simp_all
      cases h1 with
      | cons _ _ _ _ hk _ => exact ⟨.q (.c (.int k n)), .one _ _ (.val _ _ hk), .q _ _ (.c _)⟩
    · rename_i hu
      cases hks
      obtain ⟨n, rfl⟩ : ∃ n, v = .bool n := by
        simp only [Value.okWide, hu, Cell.okWide, Cell.ok] at hok
        split at hok <;> simp_all
      cases h1 with
      | cons _ _ _ _ hk _ => exact ⟨.q (.c (.bool n)), .one _ _ (.val _ _ hk), .q _ _ (.c _)⟩
    · rename_i hu
      cases hks
      obtain ⟨n, rfl⟩ : ∃ n, v = .string n := by
        simp only [Value.okWide, hu, Cell.okWide, Cell.ok] at hok
        split at hok <;> simp_all
      cases h1 with
      | cons _ _ _ _ hk _ => exact ⟨.q (.c (.string n)), .one _ _ (.val _ _ hk), .q _ _ (.c _)⟩
    · rename_i fs hu
      exact absurd hu (hnt fs)
    · cases hks


def parTs (P : Program) : List TypeId → Option (List (Bool × List K))
  | [] => some []
  | t :: ts => match parT P t, parTs P ts with
    | some p, some r => some (p :: r)
    | _, _ => none

theorem pars_den [GW] : ∀ {ts : List TypeId} {shs : List (Bool × List K)} {vs : List Value} {ds : List (DataW H)} {ps : List MemPlace} {b0 : Nat}, parTs P ts = some shs → (∀ (j : Nat) t v, ts[j]? = some t → vs[j]? = some v → Value.okWide P w .any b0 t v) →
    DataW.TrodAll enc P w 0 (fun _ => true) true ts vs ds ps →
    (∃ xs, PVs shs xs ∧ DenL (fun b => b < w.heap.size) NoL th0 w xs vs) ∧ ds.length = ts.length ∧ ∀ w', Below w.heap.size w w' → DataW.TrodAll enc P w' 0 (fun b => decide (b < w.heap.size)) true ts vs ds ps
  | [], shs, vs, ds, ps, b0, hp, hok, h => by
    obtain ⟨rfl, rfl, rfl⟩ := trodAll_nil h
    cases hp
    exact ⟨⟨[], .nil, .nil⟩, rfl, fun _ _ => trodAll_mk0⟩
  | t :: ts, shs, vs, ds, ps, b0, hp, hok, h => by
    obtain ⟨v, vs', d, ds', p, q, rfl, rfl, rfl, h1, h2⟩ := trodAll_cons h
    simp only [parTs] at hp
    split at hp
    · rename_i sh r hsh hr
      cases hp
      obtain ⟨⟨x, a1, a2⟩, a3⟩ := par_den hsh (hok 0 t v rfl rfl) h1
      obtain ⟨⟨xs, b1, b2⟩, b3, b4⟩ := pars_den hr (fun j t' v' ht hv => hok (j + 1) t' v' (by simpa using ht) (by simpa using hv)) h2
      exact ⟨⟨x :: xs, .cons _ _ _ _ a1 b1, .cons _ _ _ _ a2 b2⟩, by simp [b3], fun w' hb => ⟨p, q, a3 w' hb, b4 w' hb, rfl⟩⟩
    · cases hp

/-- **A law's contract gives what its row asks.** -/
theorem contract_of [GW] {f : Nat} {fn : Func} {sp : List V → T V} {s : ChangeSpec} {shs : List (Bool × List K)} {rt : TypeId} {apart fresh handsOn : Bool} (hs : SpecOK P f sp) (hrt : fn.resultTypes = #[rt]) (hu : P.underlying rt = some .bool) (hvars : s.vars = [])
    (hfn : ∀ (ds : List (DataW H)), ds.length = fn.params.size → s.fn H ds = { results := [.lit (.bool true)], args := ds }) (hpar : parTs P fn.params.toList = some shs) (hlaw : ∀ xs, PVs shs xs → (sp xs).pick = some (V.b true))
    {args : Array Value} {ds gs : List (DataW H)} {before : List MemPlace} {b0 : Nat} (hval : ∀ (j : Nat) t v, fn.params[j]? = some t → args[j]? = some v → Value.okWide P w .any b0 t v)
    (hW : DataW.Whole enc P fn.params.toList s.vars apart w args.toList ds gs before) (hgl : GLw w) :
    Calls P f args w fun e W' => ∃ v, e = .returned v ∧ s.post enc P fn apart fresh handsOn false w args v W' := by
  have hW' := hW
  obtain ⟨p, q, hA, hV, rfl, hfz, hnd⟩ := hW
  rw [hvars] at hV
  obtain ⟨rfl, rfl⟩ : gs = [] ∧ q = [] := by
    cases gs with
    | nil => exact ⟨rfl, hV⟩
    | cons g r => exact absurd hV (by intro h; cases h)
  obtain ⟨⟨xs, hx1, hx2⟩, hlen, hback⟩ := pars_den hpar (fun j t v ht hv => hval j t v (by simpa using ht) (by simpa using hv)) hA
  have hc := hs.2 (fun b => b < w.heap.size) w xs args.toList (V.b true) (fun _ h => h) hgl (fun x hx => hgl.lt x hx) hx2 (hlaw xs hx1)
  simp only [Array.toArray_toList] at hc
  refine hc.mono ?_
  rintro e W' ⟨v, rfl, hb, hd⟩
  have hv : v = .bool true := den_bool hd rfl
  subst hv
  have e1 : s.fn H (ds ++ []) = { results := [.lit (.bool true)], args := ds } := by rw [List.append_nil]; exact hfn ds (by rw [hlen]; simp)
  refine ⟨_, rfl, ds, [], p ++ [], [], p, [], hW', ?_, ?_, ?_, hb.frame _, fun h => by cases h⟩
  · rw [e1, hrt]
    exact trodAll_mk1 (shut_bool hu true)
  · rw [e1]
    exact hback W' hb
  · rw [e1, hvars]; rfl

end
end Go.SX
