/- What an operation makes of the symbolic state: reading memory, comparing, calling. -/
import Derived.Test.YtgmeglodnhagdaaGreatDoorSxC
import Derived.Laws.StructEq
import Derived.Laws.CopyRow
import Derived.Laws.Rows
namespace Go.SX
open Go.RowKit
set_option linter.unusedVariables false
set_option linter.unusedSimpArgs false
set_option linter.unusedSectionVars false

def look {α : Type} : List (Nat × α) → Nat → Option α
  | [], _ => none
  | (k, x) :: l, n => if k == n then some x else look l n

theorem look_mem {α : Type} : ∀ {l : List (Nat × α)} {n : Nat} {x : α}, look l n = some x → (n, x) ∈ l
  | [], _, _, h => by simp [look] at h
  | (k, y) :: l, n, x, h => by
    simp only [look] at h
    split at h
    · rename_i e
      cases h
      have : k = n := by simpa using e
      subst this
      exact List.mem_cons_self
    · exact List.mem_cons_of_mem _ (look_mem h)

/-! ### equality -/
def eqFs (P : Program) (eq1 : TypeId → Value → Value → Option Bool) (xs ys : Array Value) : List Field → Option Bool
  | [] => some true
  | f :: fs =>
    if f.name ≠ "_" then
      match run0 P (part f.type xs f.offset), run0 P (part f.type ys f.offset) with
      | some a, some b => match eq1 f.type a b, eqFs P eq1 xs ys fs with
        | some r, some q => some (bif r then q else false)
        | _, _ => none
      | _, _ => none
    else eqFs P eq1 xs ys fs

def eqIn (P : Program) : Nat → TypeId → Value → Value → Option Bool
  | 0, _, _, _ => none
  | d + 1, t, x, y =>
    match P.underlying t, x, y with
    | some .bool, .bool a, .bool b => some (a == b)
    | some (.int _), .int k a, .int k' b => if k = k' then some (a == b) else none
    | some .string, .string a, .string b => some (a == b)
    | some (.struct fs), .agg xs, .agg ys => if P.stoodInHeld t then none else eqFs P (eqIn P d) xs ys fs.toList
    | _, _, _ => none

theorem underlying_fields {P : Program} {t : TypeId} {fs : Array Field} (h : P.underlying t = some (.struct fs)) : P.fieldsOf t = fs := by simp [Program.fieldsOf, h]

theorem eqFs_run {P : Program} (w : World) (eq1 : TypeId → Value → Value → Option Bool) (D : Nat) (h1 : ∀ t x y r, eq1 t x y = some r → (Op.equalIn D t x y).run P w = .ok r w) (xs ys : Array Value) :
    ∀ (fs : List Field) (r : Bool), eqFs P eq1 xs ys fs = some r → (Op.eqFields D xs ys fs).run P w = .ok r w
  | [], _, h => by simp [eqFs] at h; subst h; rfl
  | f :: fs, r, h => by
    simp only [eqFs] at h
    simp only [Op.eqFields]
    split at h
    · rename_i hn
      rw [if_pos hn]
      split at h
      · rename_i a b ha hb
        split at h
        · rename_i r1 q h2 h3
          cases h
          have e1 := h1 f.type a b r1 h2
          have e2 := eqFs_run w eq1 D h1 xs ys fs q h3
          simp only [Sem.run_bind, run0_run _ w ha, run0_run _ w hb, Result.andThen_ok, e1]
          cases r1 <;> simp [e2]
        · cases h
      · cases h
    · rename_i hn
      rw [if_neg hn]
      exact eqFs_run w eq1 D h1 xs ys fs r h

theorem eqIn_run {P : Program} (w : World) : ∀ (d D : Nat) (t : TypeId) (x y : Value) (r : Bool), d ≤ D → eqIn P d t x y = some r → (Op.equalIn D t x y).run P w = .ok r w
  | 0, _, _, _, _, _, _, h => by simp [eqIn] at h
  | d + 1, D, t, x, y, r, hD, h => by
    obtain ⟨D, rfl⟩ : ∃ m, D = m + 1 := ⟨D - 1, by omega⟩
    simp only [eqIn] at h
    split at h
    · rename_i hu; cases h; simp [Op.equalIn, run_underlying hu]
    · rename_i hu
      split at h
      · rename_i hk; subst hk; cases h; simp [Op.equalIn, run_underlying hu]
      · cases h
    · rename_i hu; cases h; simp [Op.equalIn, run_underlying hu]
    · rename_i fs xs ys hu
      split at h
      · cases h
      · rename_i hs
        rw [run_equalIn_struct w D t xs ys (by rw [underlying_fields hu]; exact hu) (by simpa using hs), underlying_fields hu]
        exact eqFs_run w (eqIn P d) D (fun t x y r => eqIn_run w d D t x y r (by omega)) xs ys fs.toList r h
    · cases h

def eqOp (P : Program) (op : BinOp) (t : TypeId) (x y : V) : Option V :=
  match x.val?, y.val? with
  | some (.agg xs), some (.agg ys) =>
    if P.eqGuardType P.depth t then none else
    match op with
    | .eql => (eqIn P 12 t (.agg xs) (.agg ys)).map fun r => V.b r
    | .neq => (eqIn P 12 t (.agg xs) (.agg ys)).map fun r => V.b (!r)
    | _ => none
  | _, _ => none

/-- An interface value that is not nil, held against nil. -/
def eqNil (P : Program) (op : BinOp) (t : TypeId) (x y : V) : Option V := match P.underlying t, op, x, y with
  | some (.interface _), .eql, .q .nn, .q (.c .nilIface) => some (V.b false)
  | some (.interface _), .neq, .q .nn, .q (.c .nilIface) => some (V.b true)
  | _, _, _, _ => none

/-! ### reading -/
def ptrs (get : Nat → Q) : Nat → Nat → List V
  | _, 0 => []
  | i, k + 1 => .q (get i) :: ptrs get (i + 1) k

theorem ptrs_length (get : Nat → Q) : ∀ k i, (ptrs get i k).length = k
  | 0, _ => rfl
  | k + 1, i => by simp [ptrs, ptrs_length get k (i + 1)]

def readV (P : Program) (t : TypeId) (s : St) (v : V) : T V :=
  match run0 P (isAgg t) with
  | some false => match v with
    | .ptr n off => match s.lo[n]? with
      | some (some (.cells _ cs)) => T.ofOption cs[off]?
      | _ => .bad
    | .q (.sp k get) => if 0 < k then .leaf (.q (get 0)) else .bad
    | .ep n sz i j => match s.lo[n]? with
      | some (some (.vec _ ks len get)) => if j < ks.length && sz == ks.length then .ite (decide (i < len)) (.leaf (.q (nrmG ks (get i) j))) .bad else .bad
      | _ => .bad
    | _ => .bad
  | some true => match run0 P (sizeOf t) with
    | some m => match v with
      | .ptr n off => match s.lo[n]? with
        | some (some (.cells _ cs)) => if off + m ≤ cs.length then .leaf (.agg ((cs.drop off).take m)) else .bad
        | _ => .bad
      | .q (.sp k get) => if m ≤ k then .leaf (.agg (ptrs get 0 m)) else .bad
      | .ep n sz i j => match s.lo[n]? with
        | some (some (.vec _ ks len get)) => if j + m ≤ ks.length && sz == ks.length then .ite (decide (i < len)) (.leaf (.agg (ptrs (nrmG ks (get i)) j m))) .bad else .bad
        | _ => .bad
      | _ => .bad
    | none => .bad
  | none => .bad

section
variable [GW] {P : Program} {J : Jt P} {Am Mi : Nat → Prop} {w0 w : World} {s : St} {θ : Th} {a : Act}

theorem addr_add (b off n : Nat) : (⟨b, off, none⟩ : Addr).add n = ⟨b, off + n, none⟩ := by unfold Addr.add; split <;> simp_all

theorem run_isAgg {t : TypeId} {b : Bool} (h : run0 P (isAgg t) = some b) (w : World) : (isAgg t).run P w = .ok b w := run0_run _ w h

theorem run_loadVar_one {t : TypeId} (h : run0 P (isAgg t) = some false) {x : Addr} {v : Value} (hc : w.cell? x = some v) : (loadVar t x).run P w = .ok v w := by
  simp [loadVar, run0_run _ w h, hc]

theorem run_loadVar_many {t : TypeId} (h : run0 P (isAgg t) = some true) {m : Nat} (hm : run0 P (sizeOf t) = some m) {b off : Nat} {vs : List Value} (hl : vs.length = m)
    (hc : ∀ (j : Nat) v, vs[j]? = some v → w.cell? ⟨b, off + j, none⟩ = some v) : (loadVar t ⟨b, off, none⟩).run P w = .ok (.agg vs.toArray) w := by
  have := run_loadCells_list (P := P) w ⟨b, off, none⟩ vs (fun j v hv => by rw [addr_add]; exact hc j v hv)
  rw [hl] at this
  simp [loadVar, run0_run _ w h, run0_run _ w hm, this]

theorem denL_ptrs {S L : Nat → Prop} {θ : Th} {w : World} (get : Nat → Q) (u : Nat → Value) : ∀ (k i : Nat), (∀ j, i ≤ j → j < i + k → DenQ S w (get j) (u j)) → DenL S L θ w (ptrs get i k) ((List.range k).map fun j => u (i + j))
  | 0, _, _ => .nil
  | k + 1, i, h => by
    rw [List.range_succ_eq_map, List.map_cons, List.map_map]
    refine .cons _ _ _ _ (.q _ _ (h i (Nat.le_refl _) (by omega))) ?_
    have := denL_ptrs (S := S) (L := L) (θ := θ) (w := w) get u k (i + 1) (fun j h1 h2 => h j (by omega) (by omega))
    simpa [ptrs, Function.comp_def, Nat.add_assoc, Nat.add_comm 1] using this

theorem readV_run (h : Rep J Am Mi w0 s θ a w) {t : TypeId} {v x : V} {u : Value} (hu : Den (Stab Am s.lo θ w) (Liv s.lo) θ w v u) (e : (readV P t s v).pick = some x) :
    ∃ y, (Instr.loadAt t u).run P w = .ok y w ∧ Den (Stab Am s.lo θ w) (Liv s.lo) θ w x y := by
  have cells : ∀ n ty cs, s.lo[n]? = some (some (.cells ty cs)) → ∃ vs : List Value, DenL (Stab Am s.lo θ w) (Liv s.lo) θ w cs vs ∧ ∀ (j : Nat) z, vs[j]? = some z → w.cell? ⟨(θ n).blk, j, none⟩ = some z := fun n ty cs hn => by
    obtain ⟨vs, h1, h2⟩ := h.lo n _ hn
    exact ⟨vs, h2, fun j z hz => by rw [cell_of_row w _ j _ _ _ h1]; simpa using hz⟩
  unfold readV at e
  split at e
  · rename_i hag
    split at e
    · rename_i n off
      split at e
      · rename_i ty cs hn
        rw [T.pick_ofOption] at e
        obtain ⟨vs, hd, hc⟩ := cells n ty cs hn
        obtain ⟨z, hz, hdz⟩ := hd.get off x e
        cases hu
        exact ⟨z, by simp [Instr.loadAt, Instr.sureAddr, run_loadVar_one hag (hc off z hz)], hdz⟩
      · simp [T.pick] at e
    · rename_i k get
      split at e
      · rename_i hk
        simp [T.pick] at e
        subst e
        cases hu with
        | q y z hq =>
          cases hq with
          | sp k get b off u' hS hc hd =>
            exact ⟨u' 0, by simp [Instr.loadAt, Instr.sureAddr, run_loadVar_one hag (show w.cell? ⟨b, off, none⟩ = some (u' 0) from by simpa using hc 0 hk)], .q _ _ (hd 0 hk)⟩
      · simp [T.pick] at e
    · rename_i n sz i j
      split at e
      · rename_i ty ks len get hn
        split at e
        · rename_i hc
          simp only [Bool.and_eq_true, decide_eq_true_eq, beq_iff_eq] at hc
          obtain ⟨hj, rfl⟩ := hc
          simp only [T.pick] at e
          by_cases hi : i < len
          · simp [hi] at e
            subst e
            rcases h.lo n _ hn with ⟨_, h0⟩ | ⟨vs, cap, h1, h2, h3, h4, h5, h6⟩
            · omega
            · obtain ⟨_, z, hz, hd⟩ := h6 i j (ks[j]) hi (by simp [hj])
              have hd := hd.nrmG hj (fun k hk => (h6 i j k hi hk).1)
              cases hu
              have hcell : w.cell? ⟨(θ n).blk, i * ks.length + j, none⟩ = some z := by rw [cell_of_row w _ _ _ _ _ h2]; simpa using hz
              exact ⟨z, by simp [Instr.loadAt, Instr.sureAddr, run_loadVar_one hag hcell], .q _ _ hd⟩
          · simp [hi] at e
        · simp [T.pick] at e
      · simp [T.pick] at e
    · simp [T.pick] at e
  · rename_i hag
    split at e
    · rename_i m hm
      split at e
      · rename_i n off
        split at e
        · rename_i ty cs hn
          split at e
          · rename_i hle
            simp [T.pick] at e
            subst e
            obtain ⟨vs, hd, hc⟩ := cells n ty cs hn
            have hlen := hd.length
            cases hu
            refine ⟨_, ?_, .agg _ _ ((hd.drop off).take m)⟩
            have := run_loadVar_many (P := P) (w := w) hag hm (b := (θ n).blk) (off := off) (vs := (vs.drop off).take m) (by simp; omega) (fun j z hz => by
              refine hc (off + j) z ?_
              simp only [List.getElem?_take, List.getElem?_drop] at hz
              split at hz
              · exact hz
              · cases hz)
            simp only [Instr.loadAt, Instr.sureAddr, Sem.run_bind, Sem.run_pure, Result.andThen_ok]
            exact this
          · simp [T.pick] at e
        · simp [T.pick] at e
      · rename_i k get
        split at e
        · rename_i hk
          simp [T.pick] at e
          subst e
          cases hu with
          | q y z hq =>
            cases hq with
            | sp k get b off u' hS hc hd =>
              refine ⟨_, ?_, .agg _ _ (denL_ptrs get u' m 0 (fun j _ hj => hd j (by omega)))⟩
              have := run_loadVar_many (P := P) (w := w) hag hm (b := b) (off := off) (vs := (List.range m).map fun j => u' (0 + j)) (by simp) (fun j z hz => by
                simp only [List.getElem?_map, List.getElem?_range, Option.map_eq_some_iff] at hz
                obtain ⟨j', hj', rfl⟩ := hz
                have hlt : j < m := by
                  by_cases hlt : j < m
                  · exact hlt
                  · simp [hlt] at hj'
                simp [hlt] at hj'
                subst hj'
                simpa using hc j (by omega))
              simp only [Instr.loadAt, Instr.sureAddr, Sem.run_bind, Sem.run_pure, Result.andThen_ok]
              exact this
        · simp [T.pick] at e
      · rename_i n sz i j
        split at e
        · rename_i ty ks len get hn
          split at e
          · rename_i hc
            simp only [Bool.and_eq_true, decide_eq_true_eq, beq_iff_eq] at hc
            obtain ⟨hj, rfl⟩ := hc
            simp only [T.pick] at e
            by_cases hi : i < len
            · simp [hi] at e
              subst e
              rcases h.lo n _ hn with ⟨_, h0⟩ | ⟨vs, cap, h1, h2, h3, h4, h5, h6⟩
              · omega
              · have hex : ∀ j', j' < ks.length → ∃ z, vs[i * ks.length + j']? = some z ∧ DenQ (Stab Am s.lo θ w) w (get i j') z := fun j' hj' => (h6 i j' (ks[j']) hi (by simp [hj'])).2
                have hvs : ∀ j', j' < ks.length → vs[i * ks.length + j']? = some (vs.getD (i * ks.length + j') undef) ∧ DenQ (Stab Am s.lo θ w) w (nrmG ks (get i) j') (vs.getD (i * ks.length + j') undef) := fun j' hj' => by
                  obtain ⟨z, hz, hd⟩ := hex j' hj'
                  have hd := hd.nrmG hj' (fun k hk => (h6 i j' k hi hk).1)
                  simp only [List.getD_eq_getElem?_getD, hz, Option.getD_some]
                  exact ⟨trivial, hd⟩
                cases hu
                refine ⟨_, ?_, .agg _ _ (denL_ptrs (nrmG ks (get i)) (fun j' => vs.getD (i * ks.length + j') undef) m j (fun j' h1' h2' => (hvs j' (by omega)).2))⟩
                have := run_loadVar_many (P := P) (w := w) hag hm (b := (θ n).blk) (off := i * ks.length + j) (vs := (List.range m).map fun j' => vs.getD (i * ks.length + (j + j')) undef) (by simp) (fun j' z hz => by
                  simp only [List.getElem?_map, List.getElem?_range, Option.map_eq_some_iff] at hz
                  obtain ⟨j'', hj'', rfl⟩ := hz
                  have hlt : j' < m := by
                    by_cases hlt : j' < m
                    · exact hlt
                    · simp [hlt] at hj''
                  simp [hlt] at hj''
                  subst hj''
                  rw [Nat.add_assoc, cell_of_row w _ _ _ _ _ h2]
                  simpa using (hvs (j + j') (by omega)).1)
                simp only [Instr.loadAt, Instr.sureAddr, Sem.run_bind, Sem.run_pure, Result.andThen_ok]
                exact this
            · simp [hi] at e
          · simp [T.pick] at e
        · simp [T.pick] at e
      · simp [T.pick] at e
    · simp [T.pick] at e
  · simp [T.pick] at e

end
end Go.SX
