/- What an operation makes of the symbolic state: calls; what makes and writes memory; one step. -/
import Derived.Test.YtgmeglodnhagdaaGreatDoorSxG
import Derived.Great.FillDense
import Derived.ArgAppend
import Derived.Laws.AppendOwn
import Derived.RangeFuncLeaves
import Derived.RangeFuncRecord
import Derived.Laws.IdiomStrings
namespace Go.SX
open Go.RowKit
set_option linter.unusedVariables false
set_option linter.unusedSimpArgs false
set_option linter.unusedSectionVars false

section
variable [GW] {P : Program} {J : Jt P} {Am Mi : Nat → Prop} {w0 w : World} {s : St} {θ : Th} {a : Act} {Γ : Gam} {r : Option Nat} {n : Nat} {o : Oper} {K : Act → World → Prop} {Q : Exit → Act → World → Prop}

theorem Rep.stab_ext (h : Rep J Am Mi w0 s θ a w) {w' : World} (hb : Below w.heap.size w w') (b : Nat) (hS : Stab Am s.lo θ w b ∨ (w.heap.size ≤ b ∧ b < w'.heap.size)) : Stab Am s.lo θ w' b := by
  rcases hS with hS | ⟨h1, h2⟩
  · exact ⟨Nat.lt_of_lt_of_le hS.1 hb.size, hS.2⟩
  · refine ⟨h2, fun ham => ?_, fun m o ho hu => ?_⟩
    · have := h.am b ham
      omega
    · have := (h.lt m o b ho hu).1
      omega

theorem Rep.glS (h : Rep J Am Mi w0 s θ a w) : ∀ x ∈ GW.gl, Stab Am s.lo θ w x.1 := fun x hx =>
  ⟨h.fr.glw.lt x hx, h.ga x hx, fun n o ho hu => h.fr.gl.1 x hx (h.lt n o _ ho hu).2.1⟩

theorem denL_qs {S L : Nat → Prop} : ∀ {caps : List SX.Q} {u : Nat → Value}, (∀ (j : Nat) (q : SX.Q), caps[j]? = some q → DenQ S w q (u j)) → DenL S L θ w (caps.map .q) ((List.range caps.length).map u)
  | [], u, h => .nil
  | q :: caps, u, h => by
    rw [List.length_cons, List.range_succ_eq_map, List.map_cons, List.map_cons, List.map_map]
    exact .cons _ _ _ _ (.q _ _ (h 0 q rfl)) (denL_qs (u := u ∘ Nat.succ) fun j q' hq => h (j + 1) q' (by simpa using hq))

theorem calleeV_den (h : Rep J Am Mi w0 s θ a w) {x : Operand} {f : Nat} {caps : List V} (e : calleeV s x = some (f, caps)) : ∃ vs : List Value, a.eval x = .func (.func f) #[] vs.toArray ∧ DenL (Stab Am s.lo θ w) (Liv s.lo) θ w caps vs := by
  unfold calleeV at e
  split at e
  · cases e
    exact ⟨[], rfl, .nil⟩
  · split at e
    · rename_i f' caps' hev
      cases e
      have hd := h.ev x
      rw [hev] at hd
      generalize a.eval x = u at hd
      cases hd with
      | clo _ _ vs hl => exact ⟨vs, rfl, hl⟩
    · rename_i f' caps' hev
      cases e
      have hd := h.ev x
      rw [hev] at hd
      obtain ⟨u, hu, hq⟩ := hd.q_inv.clo_inv
      refine ⟨(List.range caps'.length).map u, hu, denL_qs (fun j q hj => hq j q hj)⟩
    · rename_i f' a b hev
      split at e
      · rename_i ha hb
        cases e
        have hd := h.ev x
        rw [hev] at hd
        have ha' : a = #[] := by simpa using ha
        have hb' : b = #[] := by simpa using hb
        subst ha' hb'
        refine ⟨[], ?_, .nil⟩
        generalize Act.eval _ x = u at hd
        cases hd with
        | q _ _ hq => cases hq; rfl
      · cases e
    · cases e

/-- All blocks that may be looked at. -/
def SeeS (Am : Nat → Prop) (lo : List (Option Ob)) (θ : Th) (w : World) (b : Nat) : Prop := Stab Am lo θ w b ∨ ∃ n o, lo[n]? = some (some o) ∧ uses θ n o b

theorem Rep.see_lt (h : Rep J Am Mi w0 s θ a w) : ∀ b, SeeS Am s.lo θ w b → b < w.heap.size := fun b hb => by
  rcases hb with hb | ⟨n, o, ho, hu⟩
  · exact hb.1
  · exact (h.lt n o b ho hu).1

theorem callT_calls (h : Rep J Am Mi w0 s θ a w) {f : Nat} {sp : List V → T V} (hS : SpecOK P f sp) {args : List V} {vals : List Value} (hd : DenL (Stab Am s.lo θ w) (Liv s.lo) θ w args vals) {x : V} (hp : (callT s sp args).pick = some x) :
    Calls P f vals.toArray w fun e w' => ∃ v, e = .returned v ∧ Below w.heap.size w w' ∧ Den (Stab Am s.lo θ w') (Liv s.lo) θ w' x v := by
  unfold callT at hp
  split at hp
  · rename_i hfree
    refine (hS.2 _ w _ _ x (fun b hb => hb.1) h.fr.glw h.glS (denL_free hd hfree) hp).mono ?_
    rintro ev' w' ⟨v, rfl, hb, hr⟩
    exact ⟨v, rfl, hb, hr.mono (fun b hS => h.stab_ext hb b hS) (fun _ _ => rfl) (fun _ hf => hf.elim) (fun _ hf => hf.elim)⟩
  · split at hp
    · rename_i args' hargs
      rw [T.pick_bind] at hp
      obtain ⟨y, hy, hp⟩ := hp
      split at hp
      · rename_i hsh
        cases hp
        have hd' : DenL (SeeS Am s.lo θ w) NoL th0 w args' vals := letGoL_den h (fun _ _ x => x) (fun b hb => .inl hb) (fun n o b ho hu => .inr ⟨n, o, ho, hu⟩) hd hargs
        refine (hS.2 _ w _ _ _ h.see_lt h.fr.glw (fun x hx => .inl (h.glS x hx)) hd' hy).mono ?_
        rintro ev' w' ⟨v, rfl, hb, hr⟩
        exact ⟨v, rfl, hb, den_shut hr hsh⟩
      · simp [T.pick] at hp
    · simp [T.pick] at hp

theorem execV_call (hΓ : GOK P Γ) (h : Rep J Am Mi w0 s θ a w) {t : T V} {x : V} {c : Call} {y : Operand} (hop : o.op = .call c) (hcal : c.callee = .value y) (he : execV P Γ o s = some t) (hp : t.pick = some x)
    (hK : ∀ v w', Below w.heap.size w w' → Den (Stab Am s.lo θ w') (Liv s.lo) θ w' x v → K (a.put o.dst v) w') : o.wpIn (FW r) n P a w K Q := by
  simp only [execV, hop, execC, hcal] at he
  split at he
  · rename_i f caps hcv
    split at he
    · rename_i sp hsp
      cases he
      have hS : SpecOK P f sp := hΓ _ (look_mem hsp)
      obtain ⟨vs, hev, hcd⟩ := calleeV_den h hcv
      have hd := (den_map h c.args.toList).append hcd
      have hC := callT_calls h hS hd hp
      have e : (List.map a.eval c.args.toList ++ vs).toArray = Array.map a.eval c.args ++ vs.toArray := by apply Array.ext'; simp
      rw [e] at hC
      refine wpIn_enter (f := f) (args := Array.map a.eval c.args ++ vs.toArray) (w' := w) (by simp [hop]) ?_ (hC.mono ?_)
      · simp only [execOp, hop, resolve, hcal, hev, Deferred.ofValue, Sem.run_bind, Sem.run_pure, Result.andThen_ok, invoke, Array.append_empty, Array.empty_append]
        exact run_enters hS.1 _ w
      · rintro ev' w' ⟨v, rfl, hb, hr⟩
        exact hK v w' hb hr
    · cases he
  · cases he

/-! ### to add to a list -/

/-- The cells of a list, one behind the other. -/
def flatC (u : Nat → Nat → Value) (n sz : Nat) : List Value := (List.range (n * sz)).map fun t => u (t / sz) (t % sz)

theorem flatC_length (u : Nat → Nat → Value) (n sz : Nat) : (flatC u n sz).length = n * sz := by simp [flatC]

theorem flatC_get {u : Nat → Nat → Value} {n sz t : Nat} {v : Value} (h : (flatC u n sz)[t]? = some v) : t / sz < n ∧ t % sz < sz ∧ v = u (t / sz) (t % sz) ∧ t < n * sz := by
  simp only [flatC, List.getElem?_map, Option.map_eq_some_iff] at h
  obtain ⟨t', h1, rfl⟩ := h
  obtain ⟨h2, h3⟩ := List.getElem?_eq_some_iff.1 h1
  simp at h3 h2
  subst h3
  have hpos : 0 < sz := Nat.pos_of_ne_zero fun e => by subst e; simp at h2
  exact ⟨Nat.div_lt_of_lt_mul (by rw [Nat.mul_comm]; exact h2), Nat.mod_lt _ hpos, rfl, h2⟩

theorem flatC_at {u : Nat → Nat → Value} {n sz i j : Nat} (hi : i < n) (hj : j < sz) : (flatC u n sz)[i * sz + j]? = some (u i j) := by
  have hlt : i * sz + j < n * sz := by
    have : (i + 1) * sz ≤ n * sz := Nat.mul_le_mul_right _ hi
    rw [Nat.add_mul] at this
    omega
  have hpos : 0 < sz := by omega
  have e1 : (i * sz + j) / sz = i := by rw [Nat.mul_comm, Nat.mul_add_div hpos, Nat.div_eq_of_lt hj, Nat.add_zero]
  have e2 : (i * sz + j) % sz = j := by rw [Nat.mul_comm, Nat.mul_add_mod, Nat.mod_eq_of_lt hj]
  simp [flatC, hlt, e1, e2]

theorem elemInfo_inv {c : Call} {e : TypeId} {sz by_ : Nat} (h : elemInfo P c = some (e, sz, by_)) : ∃ t i z, c.argTypes = #[t, t] ∧ P.underlying t = some (.slice e) ∧ P.info? e = some i ∧ i.zero = some z ∧ i.size = sz ∧ i.bytes = by_ ∧ z.cells.size = sz ∧ 0 < sz ∧ 1 ≤ by_ := by
  unfold elemInfo at h
  split at h
  · rename_i t t' hty
    split at h
    · rename_i htt
      subst htt
      split at h
      · rename_i e' hu
        split at h
        · rename_i i hi
          split at h
          · rename_i z hz
            split at h
            · rename_i hc
              cases h
              refine ⟨t, i, z, ?_, hu, hi, hz, rfl, rfl, hc.1, hc.2.1, hc.2.2⟩
              apply Array.ext'
              rw [hty]
            · cases h
          · cases h
        · cases h
      · cases h
    · cases h
  · cases h

/-- The list that is added, out of what it stands for. -/
theorem lst_cells {S : Nat → Prop} {ks : List SX.K} {m : Nat} {g : Nat → Nat → SX.Q} {v : Value} (h : DenQ S w (.lst ks m g) v) (hm : 0 < m) :
    ∃ (b off cap : Nat) (u : Nat → Nat → Value), v = .slice (some ⟨b, off, none⟩) m cap ∧ (∀ (j : Nat) z, (flatC u m ks.length)[j]? = some z → w.cell? ((⟨b, off, none⟩ : Addr).add j) = some z) ∧
      (∀ i j k, i < m → ks[j]? = some k → KOk k (g i j)) ∧ (∀ i j, i < m → j < ks.length → DenQ S w (g i j) (u i j)) := by
  rcases h.lst_inv with ⟨_, h0⟩ | ⟨b, off, cap, u, rfl, _, _, hc, hk, hd⟩
  · omega
  · refine ⟨b, off, cap, u, rfl, fun j z hz => ?_, hk, hd⟩
    obtain ⟨h1, h2, rfl, h3⟩ := flatC_get hz
    rw [addr_add, ← hc _ _ h1 h2]
    congr 2
    have hpos : 0 < ks.length := by omega
    rw [Nat.add_assoc, Nat.mul_comm, Nat.div_add_mod]

/-- To add to nothing. -/
theorem run_append_none (ty t e : TypeId) (i : TypeInfo) (z : Value) (size bytes : Nat) (ht : P.underlying t = some (.slice e)) (hi : P.info? e = some i) (hz : i.zero = some z) (hsize : i.size = size) (hby : i.bytes = bytes) (hzs : z.cells.size = size) (hsz : 0 < size)
    (a : Addr) (m c : Nat) (news : List Value) (hl : news.length = m * size) (hnews : ∀ j u, news[j]? = some u → w.cell? (a.add j) = some u) (hm : 0 < m) (h63 : m ≤ maxLen) (hbytes : m * bytes ≤ 140737488355328) :
    ∃ v' w', (Builtin.append_ #[t, t] ty #[.slice none 0 0, .slice (some a) m c]).run P w = .ok v' w' ∧ w'.ownsRow w.heap.size e size v' m news ∧ w.grownBy w' none := by
  subst hsize
  subst hby
  have hsmall : m ≤ 9223372036854775807 := by simp only [maxLen] at h63; omega
  have hr := run_append_nil (P := P) w t ty e i z ht hi hz a m c news hl hnews hm (by omega) (by omega)
  have hge := grownCap_ge w m 0 e
  have hcm : grownCap w m 0 e ≤ maxLen := grownCap_le_maxLen w m 0 e h63
  refine ⟨_, _, hr, ⟨hl, .inr ⟨w.heap.size, _, _, rfl, Nat.le_refl _, heap_alloc_new w.drew _, hge, hcm, ?_, ?_⟩⟩, ⟨rfl, rfl, rfl, by simp, fun k hk _ => heap_alloc_old w.drew _ k hk⟩⟩
  · simp only [Array.size_append, List.size_toArray, size_zeroCells, hzs, hl, ← Nat.add_mul]
    congr 1
    omega
  · simp only [Array.toList_append]
    rw [← hl]
    exact List.take_left

theorem ap_wp (h : Rep J Am Mi w0 s θ a w) {c : Call} (hop : o.op = .call c) (hcal : c.callee = .builtin .append) {t : T V} {x : V} (ht : apV P c s = some t) (hp : t.pick = some x)
    (hK : ∀ v w', Below w.heap.size w w' → Den (Stab Am s.lo θ w') (Liv s.lo) θ w' x v → K (a.put o.dst v) w') : o.wpIn (FW r) n P a w K Q := by
  unfold apV at ht
  split at ht
  · rename_i x0 y0 hargs
    split at ht
    · rename_i ks len get cap ks' m g el sz by_ hx hy hei
      split at ht
      · rename_i hc0
        cases ht
        simp only [Bool.and_eq_true, decide_eq_true_eq] at hc0
        obtain ⟨hks, hksz⟩ := hc0
        obtain rfl := SX.K.sames_eq _ _ hks
        obtain ⟨ty, i, z, hat, hu, hi, hz, h1, h2, h3, h4, h5⟩ := elemInfo_inv hei
        simp only [T.pick] at hp
        cases hb : (decide (cap < len + m) && roomB len m by_) with
        | false => simp [hb] at hp
        | true =>
          simp only [hb, cond_true, Option.some.injEq] at hp
          subst hp
          simp only [roomB, Bool.and_eq_true, decide_eq_true_eq] at hb
          obtain ⟨hgr, hm0, hby⟩ := hb
          have hargs' : c.args = #[x0, y0] := by
            have := congrArg List.toArray hargs
            simpa using this
          have hdx := h.evr x0
          rw [hx] at hdx
          obtain ⟨ad, n0, hxe, hdx⟩ := hdx.lc_inv
          have hdy := h.ev y0
          rw [hy] at hdy
          obtain ⟨yb, yo, yc, yu, hye, hyc, hyk, hyd⟩ := lst_cells hdy.q_inv hm0
          have hlm : len + m ≤ 140737488355328 := Nat.le_trans (Nat.le_mul_of_pos_right _ h5) hby
          have hlm' : len + m ≤ maxLen := by simp only [maxLen]; omega
          -- what is left behind
          have fin : ∀ (xu : Nat → Nat → Value) (v' : Value) (w' : World), (∀ i j k, i < len → ks[j]? = some k → KOk k (get i j)) → (∀ i j, i < len → j < ks.length → DenQ (Stab Am s.lo θ w) w (get i j) (xu i j)) →
              (execOp a.eval o).run P w = .ok (.value v') w' → w'.ownsRow w.heap.size el sz v' (len + m) (flatC xu len sz ++ flatC yu m sz) → w.grownBy w' none → o.wpIn (FW r) n P a w K Q := by
            intro xu v' w' hxk hxd hr hown hg
            have hbel : Below w.heap.size w w' := ⟨hg.os, hg.tape, hg.output, hg.size, fun k hk => hg.block k hk (by simp)⟩
            refine wpIn_value (v := v') (w' := w') (by simp [hop]) hr (hK _ _ hbel (.q _ _ ?_))
            rcases hown.2 with ⟨_, h0⟩ | ⟨gb, cap', cur, rfl, hgb, hgc, hnc, hcm, hcs, htake⟩
            · omega
            · have hlt : gb < w'.heap.size := (Array.getElem?_eq_some_iff.1 hgc).1
              have hcell : ∀ t z, (flatC xu len sz ++ flatC yu m sz)[t]? = some z → w'.cell? ⟨gb, 0 + t, none⟩ = some z := fun t z hz => by
                rw [Nat.zero_add, cell_of_row w' _ _ _ _ _ hgc, ← Array.getElem?_toList]
                rw [← htake] at hz
                rw [List.getElem?_take] at hz
                split at hz
                · exact hz
                · cases hz
              have hmono : ∀ {q : SX.Q} {z : Value}, DenQ (Stab Am s.lo θ w) w q z → DenQ (Stab Am s.lo θ w') w' q z := fun hq => hq.mono (fun b hb => h.stab_ext hbel b (.inl hb)) (fun b hb => hg.block b hb.1 (by simp))
              refine .lst _ _ _ gb 0 cap' (fun i j => if i < len then xu i j else yu (i - len) j) (h.stab_ext hbel _ (.inr ⟨hgb, hlt⟩)) ⟨hnc, by simp only [maxLen] at hlm'; omega⟩ (fun i j hi hj => ?_) (fun i j k hi hk => ?_) (fun i j hi hj => ?_)
              · rw [hksz] at hj ⊢
                rw [Nat.add_assoc]
                refine hcell _ _ ?_
                by_cases hlt : i < len
                · rw [if_pos hlt, List.getElem?_append_left (by
                    rw [flatC_length]
                    have : (i + 1) * sz ≤ len * sz := Nat.mul_le_mul_right _ hlt
                    rw [Nat.add_mul] at this
                    omega)]
                  exact flatC_at hlt hj
                · rw [if_neg hlt, List.getElem?_append_right (by
                    rw [flatC_length]
                    have : len * sz ≤ i * sz := Nat.mul_le_mul_right _ (by omega)
                    omega), flatC_length]
                  have : i * sz + j - len * sz = (i - len) * sz + j := by
                    have e : i * sz = (i - len) * sz + len * sz := by rw [← Nat.add_mul]; congr 1; omega
                    omega
                  rw [this]
                  exact flatC_at (by omega) hj
              · simp only [catG]
                by_cases hlt : i < len
                · simp only [hlt, decide_true, cond_true]; exact hxk i j k hlt hk
                · simp only [hlt, decide_false, cond_false]; exact hyk _ j k (by omega) hk
              · simp only [catG]
                by_cases hlt : i < len
                · simp only [hlt, decide_true, cond_true, if_true]; exact hmono (hxd i j hlt hj)
                · simp only [hlt, decide_false, cond_false, if_false]; exact hmono (hyd _ j (by omega) hj)
          rcases hdx.lst_inv with ⟨hnil, h0⟩ | ⟨b, off, cap0, u, hsl, _, _, hcx, hkx, hddx⟩
          · rw [hnil] at hxe
            subst h0
            obtain ⟨v', w', hr, hown, hg⟩ := run_append_none (P := P) (w := w) o.type ty el i z sz by_ hu hi hz h1 h2 h3 h4 ⟨yb, yo, none⟩ m yc (flatC yu m sz) (flatC_length _ _ _) (by rw [← hksz]; exact hyc) hm0 (by omega) (by simpa using hby)
            refine fin (fun _ _ => undef) v' w' (fun i j k hi => absurd hi (Nat.not_lt_zero _)) (fun i j hi => absurd hi (Nat.not_lt_zero _)) ?_ (by simpa [flatC] using hown) hg
            simp [execOp, hop, hcal, hargs', resolve, invoke, builtin, hat, hnil, hye, hr, Result.andThen]
          · rw [hsl] at hxe
            cases hxe
            have hold : ∀ (j : Nat) v, (flatC u len sz)[j]? = some v → w.cell? ((⟨b, off, none⟩ : Addr).add j) = some v := fun j v hv => by
              obtain ⟨g1, g2, rfl, g3⟩ := flatC_get hv
              rw [addr_add, ← hcx _ _ g1 (by rw [hksz]; exact g2)]
              congr 2
              rw [hksz, Nat.add_assoc, Nat.mul_comm, Nat.div_add_mod]
            obtain ⟨v', w', hr, hown, hg⟩ := run_append_arg_grows (P := P) w ty o.type el i z sz by_ hu hi hz h1 h2 h3 h4 ⟨b, off, none⟩ len cap (flatC u len sz) (flatC_length _ _ _) hold ⟨yb, yo, none⟩ m yc (flatC yu m sz) (flatC_length _ _ _) (by rw [← hksz]; exact hyc) hgr hlm' hby
            refine fin u v' w' hkx hddx ?_ hown hg
            simp [execOp, hop, hcal, hargs', resolve, invoke, builtin, hat, hsl, hye, hr, Result.andThen]
      · cases ht
    · cases ht
  · cases ht

/-! ### what makes and writes memory -/

def V.one : V → Bool
  | .q (.c x) => x.oneCell'
  | .agg _ | .tup _ | .any => false
  | _ => true

theorem bsRows_den (h : Rep J Am Mi w0 s θ a w) {ks : List SX.K} : ∀ (l : List (Nat × Operand)) (i : Nat) (rows : List (List SX.Q)), bsRows ks (ev s) i l = some rows →
    (l.map fun x => (x.1, a.eval x.2)) = (((l.map fun x => a.eval x.2).zipIdx i).map fun x => (x.2, x.1)) ∧ rows.length = l.length ∧
    ∀ (k : Nat) row, rows[k]? = some row → ∃ u, (l.map fun x => a.eval x.2)[k]? = some u ∧ u.cells.size = ks.length ∧ kOks ks row = true ∧ ∀ (j : Nat) q, row[j]? = some q → ∃ c, u.cells[j]? = some c ∧ DenQ (Stab Am s.lo θ w) w q c
  | [], i, rows, e => by cases e; exact ⟨rfl, rfl, fun k row h => by simp at h⟩
  | (j, x) :: l, i, rows, e => by
    simp only [bsRows] at e
    split at e
    · rename_i hij
      subst hij
      split at e
      · rename_i cs hcs
        split at e
        · rename_i qs hqs
          split at e
          · rename_i hk
            simp only [Option.map_eq_some_iff] at e
            obtain ⟨r, hr, rfl⟩ := e
            obtain ⟨h1, h2, h3⟩ := bsRows_den h l (j + 1) r hr
            refine ⟨by simp [h1], by simp [h2], fun k row hrow => ?_⟩
            cases k with
            | zero =>
              simp at hrow
              subst hrow
              obtain ⟨g1, g2⟩ := qsOf_den (den_cells (h.ev x) hcs) hqs
              refine ⟨_, rfl, ?_, hk, fun j q hq => ?_⟩
              · rw [(kOks_len hk).1, g1]; simp
              · obtain ⟨u, hu, hd⟩ := g2 j q hq
                exact ⟨u, by simpa using hu, hd⟩
            | succ k => exact h3 k row (by simpa using hrow)
          · cases e
        · cases e
      · cases e
    · cases e

theorem bsT_run {t : TypeId} {z : Nat} (h : bsT P t = some z) (w : World) : ∃ e zv, P.underlying t = some (.slice e) ∧ (sizeOf e).run P w = .ok z w ∧ (zeroValue e).run P w = .ok zv w := by
  unfold bsT at h
  cases hu : P.underlying t with
  | none => simp [underlying, program, run0, hu, stuck, Bind.bind, Sem.bind, Pure.pure] at h
  | some d =>
    cases d <;> simp only [underlying, program, run0, hu, stuck, Bind.bind, Sem.bind, Pure.pure] at h <;> first | cases h | skip
    rename_i e
    split at h
    · rename_i zv hz
      exact ⟨e, zv, rfl, run0_run _ w h, run0_run _ w hz⟩
    · cases h

theorem bs_wp (h : Rep J Am Mi w0 s θ a w) {t : TypeId} {m : Nat} {parts : Array (Nat × Operand)} (hop : o.op = .buildSlice t m parts) {x : V} (hp : (bsV P t m parts.toList (ev s)).pick = some x)
    (hK : ∀ v w', Below w.heap.size w w' → Den (Stab Am s.lo θ w') (Liv s.lo) θ w' x v → K (a.put o.dst v) w') : o.wpIn (FW r) n P a w K Q := by
  unfold bsV at hp
  split at hp
  · rename_i sz hsz
    split at hp
    · rename_i rows hrows
      split at hp
      · rename_i hc
        cases hp
        simp only [Bool.and_eq_true, decide_eq_true_eq] at hc
        obtain ⟨⟨⟨hks, hpos⟩, hlen⟩, hbig⟩ := hc
        generalize hks' : bsKs (ev s) sz parts.toList = ks at *
        obtain ⟨el, zv, hu, hs, hz⟩ := bsT_run hsz w
        obtain ⟨h1, h2, h3⟩ := bsRows_den h parts.toList 0 rows hrows
        have hvl : (parts.toList.map fun x => a.eval x.2).length = m := by simpa using hlen
        have hsize : ∀ v ∈ (parts.toList.map fun x => a.eval x.2), v.cells.size = sz := fun v hv => by
          obtain ⟨k, hk, rfl⟩ := List.mem_iff_getElem.1 hv
          have hk' : k < rows.length := by rw [h2]; simpa using hk
          obtain ⟨u, hu1, hu2, _⟩ := h3 k _ (List.getElem?_eq_getElem hk')
          rw [List.getElem?_eq_getElem hk] at hu1
          cases hu1
          rw [hu2, hks]
        have hfill := Great.fill_whole hpos (parts.toList.map fun x => a.eval x.2) ((Array.range (m * sz)).map (zv.cells[· % zv.cells.size]!)) hsize (by simp; rw [← hlen]; simp)
        have hw : ∀ b, b < w.heap.size → (w.alloc (.cells ((parts.toList.map fun x => a.eval x.2).flatMap fun v => v.cells.toList).toArray el)).heap[b]? = w.heap[b]? := fun b hb => Below.heap_alloc _ _ _ hb
        have hbel : Below w.heap.size w (w.alloc (.cells ((parts.toList.map fun x => a.eval x.2).flatMap fun v => v.cells.toList).toArray el)) := (Below.refl _ _).alloc (Nat.le_refl _) _
        refine wpIn_value (v := .slice (some ⟨w.heap.size, 0, none⟩) m m) (w' := w.alloc (.cells ((parts.toList.map fun x => a.eval x.2).flatMap fun v => v.cells.toList).toArray el)) (by simp [hop]) ?_ (hK _ _ hbel (.q _ _ ?_))
        · have e1 : (parts.map fun x => (x.1, a.eval x.2)).toList = (parts.toList.map fun x => (x.1, a.eval x.2)) := by simp
          have hund : (underlying t).run P w = .ok (.slice el) w := by simp [underlying, hu]
          have n1 : ¬ m * sz > 2 ^ 24 := by omega
          have n2 : ¬ m * sz = 0 := Nat.ne_of_gt (Nat.mul_pos (by omega) hpos)
          simp only [execOp, hop, Instr.buildSlice, Sem.run_bind, hund, Result.andThen_ok, hs, if_neg n1, if_neg n2, hz, Sem.run_pure, e1, h1, hfill]
          rfl
        · have hget : ∀ i j, i < m → j < ks.length → ∃ q c, (rows.getD i []).getD j default = q ∧ ((parts.toList.map fun x => a.eval x.2).flatMap fun v => v.cells.toList)[i * ks.length + j]? = some c ∧ DenQ (Stab Am s.lo θ w) w q c ∧ ∀ k, ks[j]? = some k → KOk k q := fun i j hi hj => by
            have hi' : i < rows.length := by rw [h2, hlen]; exact hi
            obtain ⟨u, hu1, hu2, hu3, hu4⟩ := h3 i _ (List.getElem?_eq_getElem hi')
            obtain ⟨g1, g2⟩ := kOks_len hu3
            obtain ⟨q, hq, hkq⟩ := g2 j _ (List.getElem?_eq_getElem hj)
            obtain ⟨c, hc1, hc2⟩ := hu4 j q hq
            refine ⟨q, c, ?_, ?_, hc2, fun k hk => ?_⟩
            · simp [List.getD_eq_getElem?_getD, List.getElem?_eq_getElem hi', hq]
            · rw [hks, Great.flat_get hpos _ hsize]
              have e1 : (i * sz + j) / sz = i := by rw [Nat.mul_comm, Nat.mul_add_div hpos, Nat.div_eq_of_lt (by omega), Nat.add_zero]
              have e2 : (i * sz + j) % sz = j := by rw [Nat.mul_comm, Nat.mul_add_mod, Nat.mod_eq_of_lt (by omega)]
              rw [e1, e2, hu1]
              exact hc1
            · rw [List.getElem?_eq_getElem hj] at hk; cases hk; exact hkq
          refine .lst _ _ _ w.heap.size 0 m (fun i j => (((parts.toList.map fun x => a.eval x.2).flatMap fun v => v.cells.toList)[i * ks.length + j]?).getD undef) (h.stab_ext hbel _ (.inr ⟨Nat.le_refl _, by simp⟩)) ⟨Nat.le_refl _, by
            have h9 : m * 1 ≤ m * sz := Nat.mul_le_mul_left m hpos
            omega⟩ (fun i j hi hj => ?_) (fun i j k hi hk => ?_) (fun i j hi hj => ?_)
          · obtain ⟨q, c, _, hc, _⟩ := hget i j hi hj
            rw [hc]
            have := World.cell?_alloc_new w ((parts.toList.map fun x => a.eval x.2).flatMap fun v => v.cells.toList).toArray el (0 + i * ks.length + j)
            rw [this]
            simpa using hc
          · have hj : j < ks.length := (List.getElem?_eq_some_iff.1 hk).1
            obtain ⟨q, c, hq, _, _, hkq⟩ := hget i j hi hj
            rw [hq]
            exact hkq k hk
          · obtain ⟨q, c, hq, hc, hd, _⟩ := hget i j hi hj
            rw [hq, hc]
            exact hd.mono (fun b hb => h.stab_ext hbel b (.inl hb)) (fun b hb => hw b hb.1)
      · cases hp
    · cases hp
  · cases hp

theorem foldl_push_bytes : ∀ (ns : List Int) (r : ByteArray), ns.foldl (fun r n => r.push (UInt8.ofNat n.toNat)) r = ⟨r.data ++ (ns.map fun n => UInt8.ofNat n.toNat).toArray⟩
  | [], r => by simp
  | n :: ns, r => by
    simp only [List.map_cons, List.foldl_cons]
    rw [foldl_push_bytes ns]
    simp [ByteArray.push]
theorem run_string_of {P : Program} (w : World) (src dst e : TypeId) (b off n cap : Nat) (f : Nat → Int) (hs : P.underlying src = some (.slice e)) (he : P.underlying e = some (.int .u8)) (hd : P.underlying dst = some .string)
    (hc : ∀ j, j < n → w.cell? ⟨b, off + j, none⟩ = some (.int .u8 (f j))) :
    (convert src dst (.slice (some ⟨b, off, none⟩) n cap)).run P w = .ok (.string ⟨((List.range n).map fun j => UInt8.ofNat (f j).toNat).toArray⟩) w := by
  rw [run_convert_bytes_string w src dst e (some ⟨b, off, none⟩) n cap hs he hd]
  have hl := run_loadCells_list (P := P) w ⟨b, off, none⟩ (((List.range n).map f).map (Value.int .u8)) (fun j v hj => by
    have hj' : j < n := by
      have := (List.getElem?_eq_some_iff.1 hj).1
      simpa using this
    rw [show (⟨b, off, none⟩ : Addr).add j = ⟨b, off + j, none⟩ by simp [Addr.add], hc j hj']
    simp [hj'] at hj
    rw [← hj])
  simp only [List.length_map, List.length_range] at hl
  rw [run_bytesToString w ⟨b, off, none⟩ n cap _ hl, foldl_push_bytes]
  have he0 : ByteArray.empty.data = #[] := rfl
  rw [he0, List.map_map]
  simp
/-- A text's bytes. -/
theorem cv_wp (h : Rep J Am Mi w0 s θ a w) {src dst : TypeId} {y : Operand} (hop : o.op = .convert src dst y) {x : V} (hp : (convV P src dst (ev s y)).pick = some x)
    (hK : ∀ v w', Below w.heap.size w w' → Den (Stab Am s.lo θ w') (Liv s.lo) θ w' x v → K (a.put o.dst v) w') : o.wpIn (FW r) n P a w K Q := by
  unfold convV at hp
  split at hp
  · rename_i b hy
    split at hp
    · rename_i hc
      simp only [Bool.and_eq_true] at hc
      obtain ⟨h1, h2⟩ := hc
      have hs := isStr_underlying h1
      unfold isBytes at h2
      split at h2
      · rename_i e hd
        split at h2
        · rename_i he
          simp only [T.pick] at hp
          cases hb : decide (b.size ≤ 9223372036854775807) with
          | false => simp [hb] at hp
          | true =>
            simp only [hb, cond_true, Option.some.injEq] at hp
            subst hp
            have hsz : b.size ≤ 9223372036854775807 := of_decide_eq_true hb
            have hye := h.ev y
            rw [hy] at hye
            have hyv : a.eval y = .string b := by
              have := hye.q_inv
              generalize a.eval y = z at this
              cases this
              rfl
            have hr := run_bytes_of_string (P := P) w src dst e b hs hd he
            have hge : b.size ≤ grownCap w b.size 0 e := grownCap_ge w b.size 0 e
            generalize grownCap w b.size 0 e = cap at hr hge
            generalize hX : (Obj.cells (bytesRow b cap) e ((bytesRow b cap).size, (bytesRow b cap).size + 1)) = X at hr
            have hbel : Below w.heap.size w (w.drew.alloc X) := ((Below.refl w.heap.size w).drew).alloc (Nat.le_refl _) _
            have hheap : (w.drew.alloc X).heap[w.heap.size]? = some X := by
              show (w.heap.push X)[w.heap.size]? = _
              simp
            refine wpIn_value (v := .slice (some ⟨w.heap.size, 0, none⟩) b.size cap) (w' := w.drew.alloc X) (by simp [hop]) ?_ (hK _ _ hbel (.q _ _ ?_))
            · simp [execOp, hop, hyv, hr, Result.andThen_ok]
            · refine .lst _ _ _ w.heap.size 0 cap (fun i _ => .int .u8 ((b.get! i).toNat : Nat)) (h.stab_ext hbel _ (.inr ⟨Nat.le_refl _, by show w.heap.size < (w.heap.push X).size; simp⟩)) ⟨hge, hsz⟩ (fun i j hi hj => ?_) (fun i j k hi hk => ?_) (fun i j hi hj => .c _)
              · have hj0 : j = 0 := by simpa using hj
                subst hj0
                have hi' : i < b.data.size := hi
                have e1 : (bytesRow b cap)[i]? = some (Value.int .u8 ((b.get! i).toNat : Nat)) := by
                  unfold bytesRow
                  rw [Array.getElem?_append_left (by simpa using hi')]
                  have e2 : b.get! i = b.data[i] := by
                    show b.data[i]! = _
                    exact getElem!_pos b.data i hi'
                  rw [Array.getElem?_map, Array.getElem?_eq_getElem hi', e2]
                  rfl
                have e3 : (w.drew.alloc X).cell? ⟨w.heap.size, i, none⟩ = (bytesRow b cap)[i]? := by
                  unfold World.cell?
                  simp only [hheap]
                  rw [← hX]
                  rfl
                rw [← e1, ← e3]
                congr 2
                simp
              · have hj : j = 0 := by
                  have := (List.getElem?_eq_some_iff.1 hk).1
                  simpa using this
                subst hj
                simp at hk
                subst hk
                exact .int _ _
        · cases h2
      · cases h2
    · cases hp
  · rename_i m g hy
    split at hp
    · rename_i hc
      simp only [Bool.and_eq_true] at hc
      obtain ⟨h1, h2⟩ := hc
      have hs := isStr_underlying h2
      unfold isBytes at h1
      split at h1
      · rename_i e hd
        split at h1
        · rename_i he
          simp only [T.pick] at hp
          cases hb : decide (0 < m) with
          | false => simp [hb] at hp
          | true =>
            simp only [hb, cond_true, Option.some.injEq] at hp
            subst hp
            have hm : 0 < m := of_decide_eq_true hb
            have hye := h.ev y
            rw [hy] at hye
            rcases hye.q_inv.lst_inv with ⟨_, h0⟩ | ⟨b, off, cap, u, hu, hS, hcap, hcell, hk, hdd⟩
            · omega
            · have hcj : ∀ j, j < m → w.cell? ⟨b, off + j, none⟩ = some (.int .u8 (qInt (g j 0))) := fun j hj => by
                have c1 := hcell j 0 hj (by simp)
                have k1 := hk j 0 (.int .u8) hj rfl
                have d1 := hdd j 0 hj (by simp)
                rw [← nrm_eq k1] at d1
                have d2 : DenQ _ _ (.c (.int .u8 (qInt (g j 0)))) (u j 0) := d1
                have e1 : u j 0 = .int .u8 (qInt (g j 0)) := by
                  generalize u j 0 = z at d2
                  cases d2; rfl
                rw [e1] at c1
                simpa using c1
              have hr := run_string_of (P := P) w src dst e b off m cap (fun j => qInt (g j 0)) hd he hs hcj
              refine wpIn_value (v := .string ⟨((List.range m).map fun i => UInt8.ofNat (qInt (g i 0)).toNat).toArray⟩) (w' := w) (by simp [hop]) ?_ (hK _ _ (Below.refl _ _) (.q _ _ (.c _)))
              simp [execOp, hop, hu, hr, Result.andThen_ok]
        · cases h1
      · cases h1
    · cases hp
  · cases hp

/-- The operations that yield a value. -/
theorem execV_wp (hΓ : GOK P Γ) (h : Rep J Am Mi w0 s θ a w) {t : T V} {x : V} (he : execV P Γ o s = some t) (hp : t.pick = some x)
    (hK : ∀ v w', Below w.heap.size w w' → Den (Stab Am s.lo θ w') (Liv s.lo) θ w' x v → K (a.put o.dst v) w') : o.wpIn (FW r) n P a w K Q := by
  cases hc : isCallF o with
  | true =>
    cases hop : o.op with
    | buildSlice t m parts =>
      simp only [execV, hop] at he
      cases he
      exact bs_wp h hop hp hK
    | convert src dst y =>
      simp only [execV, hop] at he
      cases he
      split at hp
      · rename_i v hv
        cases hp
        obtain ⟨u, hu, hd⟩ := pureOp_run h o hv
        exact wpIn_value (by simp [hop]) hu (hK u w (Below.refl _ _) hd)
      · exact cv_wp h hop hp hK
    | call c =>
      cases hcal : c.callee with
      | value y => exact execV_call hΓ h hop hcal he hp hK
      | builtin b =>
        cases b with
        | append => simp only [execV, hop, execC, hcal] at he; exact ap_wp h hop hcal he hp hK
        | _ => simp [isCallF, hop, hcal] at hc
      | _ => simp [isCallF, hop, hcal] at hc
    | load t y =>
      cases y with
      | global g =>
        simp only [execV, hop] at he
        cases he
        unfold globV at hp
        split at hp
        · rename_i v hl ha
          cases hp
          obtain ⟨g', e1, e2, e4⟩ : ∃ g', g + 1048576 = g' + 1048576 ∧ (g', 0, v) ∈ GW.gl ∧ isTup v = false := hΓ _ (look_mem hl)
          have e3 : g = g' := by omega
          subst e3
          have hcell := laidAt_cell (h.fr.glw _ e2) e4
          have hr := run_loadVar_one (P := P) ha hcell
          refine wpIn_value (v := v) (w' := w) (by simp [hop]) ?_ (hK _ _ (Below.refl _ _) (.q _ _ (.c _)))
          simp [execOp, hop, Act.eval, Instr.loadAt, Instr.sureAddr, hr, Result.andThen_ok]
        · simp [T.pick] at hp
      | _ => simp [isCallF, hop] at hc
    | _ => simp [isCallF, hop] at hc
  | false =>
    obtain ⟨hdef, v, hv, hd⟩ := execV_val h hc he hp
    exact wpIn_value hdef hv (hK v w (Below.refl _ _) hd)

theorem den_one {S L : Nat → Prop} {x : V} {u : Value} (h : Den S L θ w x u) (e : x.one = true) : u.oneCell' = true := by
  cases h with
  | any v => simp [V.one] at e
  | q y v hq => cases hq <;> first | rfl | simpa [V.one] using e
  | agg l vs h => simp [V.one] at e
  | tup l vs h => simp [V.one] at e
  | _ => rfl

theorem denL_one {S L : Nat → Prop} : ∀ {l : List V} {us : List Value}, DenL S L θ w l us → l.all V.one = true → ∀ v ∈ us, v.oneCell' = true
  | _, _, .nil, _ => by simp
  | _, _, .cons x v l us h hl, e => by
    simp only [List.all_cons, Bool.and_eq_true] at e
    intro y hy
    cases hy with
    | head => exact den_one h e.1
    | tail _ hm => exact denL_one hl e.2 y hm

/-- A value for a map: whether it is a struct's; its cells. -/
def updQ : V → Option (Bool × List SX.Q)
  | .agg l => (qsOf l).map fun qs => (true, qs)
  | .q (.c (.agg _)) => none
  | .q x => some (false, [x])
  | .kb b => some (false, [.c (.bool b)])
  | .clo f l => (qsOf l).map fun qs => (false, [.clo f qs])
  | _ => none

theorem updQ_den {S L : Nat → Prop} {v : V} {u : Value} {ag : Bool} {qs : List SX.Q} (h : Den S L θ w v u) (e : updQ v = some (ag, qs)) : ∃ us : List Value, u = valOf ag us ∧ qs.length = us.length ∧ ∀ (j : Nat) (q : SX.Q), qs[j]? = some q → ∃ z, us[j]? = some z ∧ DenQ S w q z := by
  unfold updQ at e
  split at e
  · rename_i l
    simp only [Option.map_eq_some_iff, Prod.mk.injEq] at e
    obtain ⟨qs', h1, rfl, rfl⟩ := e
    cases h with
    | agg l vs hl =>
      obtain ⟨h2, h3⟩ := qsOf_den hl h1
      exact ⟨vs, rfl, h2, h3⟩
  · cases e
  · rename_i x _
    cases e
    exact ⟨[u], rfl, rfl, fun j q hq => by
      cases j with
      | zero => simp at hq; subst hq; exact ⟨u, rfl, h.q_inv⟩
      | succ j => simp at hq⟩
  · rename_i b
    cases e
    cases h
    exact ⟨[.bool b], rfl, rfl, fun j q hq => by
      cases j with
      | zero => simp at hq; subst hq; exact ⟨.bool b, rfl, .c _⟩
      | succ j => simp at hq⟩
  · rename_i f l
    simp only [Option.map_eq_some_iff, Prod.mk.injEq] at e
    obtain ⟨qs', h1, rfl, rfl⟩ := e
    cases h with
    | clo f l vs hl =>
      obtain ⟨h2, h3⟩ := qsOf_den hl h1
      refine ⟨[.func (.func f) #[] vs.toArray], rfl, rfl, fun j q hq => ?_⟩
      cases j with
      | zero =>
        simp at hq
        subst hq
        refine ⟨_, rfl, ?_⟩
        have ev : vs = (List.range qs'.length).map fun j => vs.getD j undef := by
          refine List.ext_getElem (by simp; omega) fun j h1 h2 => ?_
          simp [List.getD_eq_getElem?_getD, h1]
        rw [ev]
        refine .clo _ _ _ fun j q hq => ?_
        obtain ⟨z, hz, hdz⟩ := h3 j q hq
        have e1 : vs.getD j undef = z := by rw [List.getD_eq_getElem?_getD, hz]; rfl
        rw [e1]
        exact hdz
      | succ j => simp at hq
  · cases e

theorem denK_of {S : Nat → Prop} : ∀ {ks : List SX.K} {qs : List SX.Q} {us : List Value}, kOks ks qs = true → qs.length = us.length → (∀ (j : Nat) (q : SX.Q), qs[j]? = some q → ∃ z, us[j]? = some z ∧ DenQ S w q z) → DenK S w ks qs us
  | [], [], [], _, _, _ => .nil
  | [], _ :: _, _, h, _, _ => by simp [kOks] at h
  | _ :: _, [], _, h, _, _ => by simp [kOks] at h
  | [], [], _ :: _, _, h, _ => by simp at h
  | _ :: _, _ :: _, [], _, h, _ => by simp at h
  | k :: ks, q :: qs, u :: us, h, hl, hd => by
    simp only [kOks, Bool.and_eq_true] at h
    obtain ⟨z, hz, hdz⟩ := hd 0 q rfl
    cases hz
    exact .cons _ _ _ _ _ _ (kOk_ok h.1) hdz (denK_of h.2 (by simpa using hl) fun j q hq => by simpa using hd (j + 1) q (by simpa using hq))

/-- An entry is put into a map that is owned. -/
def mapU (P : Program) (t : TypeId) (m k v : Operand) (dst : Option Nat) (s : St) : Option St :=
  match P.underlying t, ev s m, (ev s k).val?, dst with
    | some (.map kt et), .mp n, some kv, none => match mkOf P kt, s.lo[n]?, updQ (ev s v) with
      | some kk, some (some (.map kk' ag vk es)), some (ag', qs) => if MK.same kk kk' && kk.fit kv && kOks vk qs && (ag == ag') then some { s with lo := s.lo.set n (some (.map kk' ag vk (putE kv qs es))) } else none
      | _, _, _ => none
    | _, _, _, _ => none

/-- What makes or writes memory; nm: the name of what is made. -/
def execM (P : Program) (o : Oper) (nm : Nat) (s : St) : Option St :=
  match o.op with
  | .alloc t => match run0 P (zeroValue t), o.dst with
    | some z, some d => some { s with tm := s.tm.set d (.ptr nm 0), lo := ins s.lo nm (.cells t (z.cells.toList.map fun x => .q (.c x))) }
    | _, _ => none
  | .box t x => match (ev s x).cells?, o.dst with
    | some cs, some d => some { s with tm := s.tm.set d (.ptr nm 0), lo := ins s.lo nm (.cells t cs) }
    | _, _ => none
  | .store t x y => match ev s x, (ev s y).cells?, run0 P (sizeOf t), o.dst with
    | .ptr n off, some vs, some m, none => match s.lo[n]? with
      | some (some (.cells ty cs)) => if vs.length = m && off + m ≤ cs.length && vs.all V.one then some { s with lo := s.lo.set n (some (.cells ty (over cs off vs))) } else none
      | _ => none
    | _, _, _, _ => none
  | .makeMap t none => match P.underlying t, o.dst with
    | some (.map kt et), some d => match mkOf P kt, run0 P (isAgg et) with
      | some kk, some ag => if ag || decide ((kindsT P 12 et).length = 1) then some { s with tm := s.tm.set d (.mp nm), lo := ins s.lo nm (.map kk ag (kindsT P 12 et) []) } else none
      | _, _ => none
    | _, _ => none
  | .mapUpdate t m k v => mapU P t m k v o.dst s
  | .insert t m k v => mapU P t m k v o.dst s
  | .range t x => match ev s x, o.dst with
    | .q (.c (.string b)), some d => if isStr P t then some { s with tm := s.tm.set d (.ptr nm 0), lo := ins s.lo nm (.siter b 0) } else none
    | _, _ => none
  | _ => none

theorem over_eq {α : Type} (l : List α) (off : Nat) (vs : List α) (h : off + vs.length ≤ l.length) : over l off vs = l.take off ++ vs ++ l.drop (off + vs.length) := by
  induction l generalizing off vs with
  | nil =>
    have : vs = [] := by
      cases vs with
      | nil => rfl
      | cons v vs => simp at h
    subst this
    simp [over]
  | cons x l ih =>
    cases vs with
    | nil => simp [over_nil]
    | cons v vs =>
      cases off with
      | zero =>
        simp only [over]
        rw [ih 0 vs (by simp at h ⊢; omega)]
        simp [Nat.add_comm 1]
      | succ off =>
        simp only [over]
        rw [ih off (v :: vs) (by simp at h ⊢; omega)]
        simp [Nat.add_right_comm off 1]

theorem setRow_putCells (w : World) (g : Nat) (cur : Array Value) (t : TypeId) (vs : List Value) (hg : w.heap[g]? = some (.cells cur t (0, 0))) : w.setRow g vs.toArray = World.putCells w g vs t := by
  unfold World.setRow World.putCells
  congr 1
  apply Array.ext_getElem?
  intro i
  rw [Array.getElem?_modify]
  by_cases hi : g = i
  · subst hi
    have hlt := (Array.getElem?_eq_some_iff.1 hg).1
    rw [hg]
    simp [hlt]
  · rw [Array.getElem?_setIfInBounds_ne hi]
    simp [hi]

theorem mapU_wp (h : Rep J Am Mi w0 s θ a w) {t : TypeId} {m k v : Operand} (hdef : ∀ c, o.op ≠ .defer c) (hop : ∀ w' : World, (Instr.mapUpdate t (a.eval m) (a.eval k) (a.eval v)).run P w = .ok () w' → (execOp a.eval o).run P w = .ok .skip w') {s' : St} (he : mapU P t m k v o.dst s = some s')
    (hK : ∀ θ' a' w', Rep J Am Mi w0 s' θ' a' w' → K a' w') (hK' : ∀ a w, K a w → K (a.put none undef) w) : o.wpIn (FW r) n P a w K Q := by
  unfold mapU at he
  split at he
  · rename_i kt et n' kv hu hm hkv hdst
    split at he
    · rename_i kk kk' ag vk es ag' qs hmk hlo hupd
      split at he
      · rename_i hc
        cases he
        simp only [Bool.and_eq_true, beq_iff_eq] at hc
        obtain ⟨⟨⟨hsame, hfit⟩, hks⟩, hag⟩ := hc
        subst hag
        obtain rfl := MK.same_eq hsame
        have hme := h.ev m
        rw [hm] at hme
        obtain ⟨hmv, _⟩ : a.eval m = .map (some (θ n').blk) ∧ Liv s.lo n' := by
          generalize a.eval m = z at hme
          cases hme with
          | mp _ hl => exact ⟨rfl, hl⟩
        have hke := den_val (h.ev k) hkv
        obtain ⟨us, hus, hlen, hdq⟩ := updQ_den (h.ev v) hupd
        have hdk := denK_of hks hlen hdq
        obtain ⟨arr, clk, h1, h2⟩ := h.lo n' _ hlo
        have hlt := (h.lt n' _ _ hlo rfl).1
        have hg : (getObj (θ n').blk).run P w = .ok (.map arr.toArray clk) w := by simp [getObj, Sem.run, h1]
        have hck := fun em => check_run hmk hfit w em
        have hf := find_run hmk hfit w arr (ents_fit h2)
        have hset : ∀ o', (setObj (θ n').blk o').run P w = .ok () (w.putObj (θ n').blk o') := fun o' => by simp [setObj, Sem.run, World.putObj, h1]
        have fin : ∀ (arr' : List MapEntry) (clk' : Nat), EntsOK (Stab Am s.lo θ w) w kk ag vk (putE kv qs es) arr' → (Instr.mapUpdate t (a.eval m) (a.eval k) (a.eval v)).run P w = .ok () (w.putObj (θ n').blk (.map arr'.toArray clk')) → o.wpIn (FW r) n P a w K Q := fun arr' clk' hE hr => by
          have ht := h.turn n' _ (.map kk ag vk (putE kv qs es)) hlo (fun b hb => hb) (fun _ _ e => by cases e) (.inr fun _ e => by cases e) (w' := w.putObj (θ n').blk (.map arr'.toArray clk')) rfl rfl rfl (by simp) (fun b hb => World.putObj_heap_other (fun e => hb e)) ⟨arr', clk', World.putObj_heap_same hlt, hE.mono (fun _ x => x) (fun b hb => World.putObj_heap_other (fun e => hb.2.2 n' _ hlo e))⟩
          refine wpIn_skip' (w' := w.putObj (θ n').blk (.map arr'.toArray clk')) hdef (hop _ hr) ?_
          rw [hdst]
          exact hK' _ _ (hK θ _ _ ht)
        rcases ents_put (ag := ag) hfit hdk clk h2 0 with ⟨e1, e2⟩ | ⟨j, v', e, e1, e2, e3, e4⟩
        · rw [e1] at hf
          refine fin _ (clk + 1) e2 ?_
          simp [Instr.mapUpdate, run_underlying hu, hmv, hke, hus, hg, hck, hf, Result.andThen, hset]
        · rw [e1] at hf
          refine fin _ clk e4 ?_
          have hst := stays_run (P := P) hfit w
          simp [Instr.mapUpdate, run_underlying hu, hmv, hke, hus, hg, hck, hf, Result.andThen, hset, e2, e3, hst]
      · cases he
    · cases he
  · cases he

theorem execM_wp (h : Rep J Am Mi w0 s θ a w) {nm : Nat} (hn : Fresh s nm) {s' : St} (he : execM P o nm s = some s')
    (hK : ∀ θ' a' w', Rep J Am Mi w0 s' θ' a' w' → K a' w') (hK' : ∀ a w, K a w → K (a.put none undef) w) : o.wpIn (FW r) n P a w K Q := by
  unfold execM at he
  split at he
  · rename_i t hop
    split at he
    · rename_i z d hz hdst
      cases he
      obtain ⟨θ', hb, hR⟩ := h.alloc nm hn t (z.cells.toList.map fun x => .q (.c x)) z.cells.toList (denL_closed _)
      refine wpIn_value (v := .pointer (some ⟨w.heap.size, 0, none⟩)) (w' := w.alloc (.cells z.cells.toList.toArray t)) (by simp [hop]) ?_ (hK θ' _ _ ?_)
      · simp [execOp, hop, Instr.alloc, run0_run _ w hz, Result.andThen_ok, newVar, newRow]
      · rw [hdst]
        exact hR.put d (by rw [← hb]; exact .ptr nm 0 ⟨_, ins_same _ _ _⟩)
    · cases he
  · rename_i t x hop
    split at he
    · rename_i cs d hcs hdst
      cases he
      obtain ⟨θ', hb, hR⟩ := h.alloc nm hn t cs (a.eval x).cells.toList (den_cells (h.ev x) hcs)
      refine wpIn_value (v := .pointer (some ⟨w.heap.size, 0, none⟩)) (w' := w.alloc (.cells (a.eval x).cells.toList.toArray t)) (by simp [hop]) ?_ (hK θ' _ _ ?_)
      · simp [execOp, hop, Instr.box, Result.andThen_ok, newVar, newRow]
      · rw [hdst]
        exact hR.put d (by rw [← hb]; exact .ptr nm 0 ⟨_, ins_same _ _ _⟩)
    · cases he
  · rename_i t x y hop
    split at he
    · rename_i n' off vs m hx hvs hm hdst
      split at he
      · rename_i ty cs hcs
        split at he
        · rename_i hc
          cases he
          simp only [Bool.and_eq_true, decide_eq_true_eq] at hc
          obtain ⟨⟨h1, h2⟩, h3⟩ := hc
          have hxe := h.ev x
          rw [hx] at hxe
          obtain ⟨hptr, _⟩ := hxe.ptr_inv
          have hvd := den_cells (h.ev y) hvs
          obtain ⟨us, hu1, hu2⟩ := h.lo _ _ hcs
          have hl := hu2.length
          have hvl := hvd.length
          have hst := run_storeCells_at (P := P) (θ n').blk off ty (a.eval y).cells.toList 0 us.toArray w hu1 (by simp only [List.size_toArray]; omega) (denL_one hvd h3)
          have hov : over us off (a.eval y).cells.toList = (us.toArray.toList.take (off + 0) ++ (a.eval y).cells.toList ++ us.toArray.toList.drop (off + 0 + (a.eval y).cells.toList.length)) := by
            simpa using over_eq us off (a.eval y).cells.toList (by omega)
          rw [← hov, setRow_putCells _ _ _ _ _ hu1] at hst
          have hsz : (a.eval y).cells.size = m := by rw [← h1, hvl]; simp
          refine wpIn_skip' (w' := World.putCells w (θ n').blk (over us off (a.eval y).cells.toList) ty) (by simp [hop]) ?_ ?_
          · simp [execOp, hop, hptr, Instr.storeAt, Instr.sureAddr, storeVar, run0_run _ w hm, Result.andThen_ok, hsz, hst]
          · rw [hdst]
            exact hK' _ _ (hK θ _ _ (h.write n' ty cs _ _ hcs (hu2.over off hvd)))
        · cases he
      · cases he
    · cases he
  · rename_i t hop
    split at he
    · rename_i kt et d hu hdst
      split at he
      · rename_i kk ag hkk hag
        split at he
        · cases he
          have hR := h.new nm hn (.map kk ag (kindsT P 12 et) []) (.map #[] 0) ⟨w.heap.size, .tuple #[], []⟩ _ rfl (fun _ _ e => by cases e) (fun b hb => by simpa [uses] using hb) (fun S L hS hL hθ hw => ⟨[], 0, by
            simp only [if_true]
            exact World.alloc_heap_new w _, .nil⟩)
          refine wpIn_value (v := .map (some w.heap.size)) (w' := w.alloc (.map #[] 0)) (by simp [hop]) ?_ (hK (fun m => if m = nm then ⟨w.heap.size, .tuple #[], []⟩ else θ m) _ _ ?_)
          · simp [execOp, hop, Instr.makeMap, Result.andThen_ok, run_newObj_alloc]
          · rw [hdst]
            refine hR.put d ?_
            have := Den.mp (S := Stab Am (ins s.lo nm (.map kk ag (kindsT P 12 et) [])) (fun m => if m = nm then ⟨w.heap.size, .tuple #[], []⟩ else θ m) (w.alloc (.map #[] 0))) (L := Liv (ins s.lo nm (.map kk ag (kindsT P 12 et) []))) (θ := fun m => if m = nm then ⟨w.heap.size, .tuple #[], []⟩ else θ m) (w := w.alloc (.map #[] 0)) nm ⟨_, ins_same _ _ _⟩
            simpa using this
        · cases he
      · cases he
    · cases he
  · rename_i t m k v hop
    exact mapU_wp h (by simp [hop]) (fun w' hr => by simp [execOp, hop, hr, Result.andThen_ok]) he hK hK'
  · rename_i t m k v hop
    exact mapU_wp h (by simp [hop]) (fun w' hr => by simp [execOp, hop, hr, Result.andThen_ok]) he hK hK'
  · rename_i t x hop
    split at he
    · rename_i b d hx hdst
      split at he
      · rename_i hstr
        cases he
        have hu := isStr_underlying hstr
        have hye := h.ev x
        rw [hx] at hye
        have hyv : a.eval x = .string b := by
          have := hye.q_inv
          generalize a.eval x = z at this
          cases this
          rfl
        have hR := h.new nm hn (.siter b 0) (.stringIter b 0) ⟨w.heap.size, .tuple #[], []⟩ _ rfl (fun _ _ e => by cases e) (fun c hc => by simpa [uses] using hc) (fun S L hS hL hθ hw => by
          show (w.alloc (.stringIter b 0)).heap[_]? = _
          simp only [if_true]
          exact World.alloc_heap_new w _)
        refine wpIn_value (v := .pointer (some ⟨w.heap.size, 0, none⟩)) (w' := w.alloc (.stringIter b 0)) (by simp [hop]) ?_ (hK (fun m => if m = nm then ⟨w.heap.size, .tuple #[], []⟩ else θ m) _ _ ?_)
        · simp [execOp, hop, hyv, Instr.range, run_underlying hu, Result.andThen_ok, run_newObj_alloc]
        · rw [hdst]
          refine hR.put d ?_
          have := Den.ptr (S := Stab Am (ins s.lo nm (.siter b 0)) (fun m => if m = nm then ⟨w.heap.size, .tuple #[], []⟩ else θ m) (w.alloc (.stringIter b 0))) (L := Liv (ins s.lo nm (.siter b 0))) (θ := fun m => if m = nm then ⟨w.heap.size, .tuple #[], []⟩ else θ m) (w := w.alloc (.stringIter b 0)) nm 0 ⟨_, ins_same _ _ _⟩
          simpa using this
      · cases he
    · cases he
  · cases he

end
end Go.SX
