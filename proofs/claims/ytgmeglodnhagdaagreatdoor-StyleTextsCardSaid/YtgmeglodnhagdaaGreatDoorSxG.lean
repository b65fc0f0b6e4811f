/- What an operation makes of the symbolic state: that 'execV' is right, all cases. -/
import Derived.Test.YtgmeglodnhagdaaGreatDoorSxF
namespace Go.SX
open Go.RowKit
set_option linter.unusedVariables false
set_option linter.unusedSimpArgs false
set_option linter.unusedSectionVars false

section
variable [GW] {P : Program} {J : Jt P} {Am Mi : Nat → Prop} {w0 w : World} {s : St} {θ : Th} {a : Act} {Γ : Gam} {r : Option Nat} {n : Nat} {o : Oper} {K : Act → World → Prop} {Q : Exit → Act → World → Prop}

theorem isStr_underlying {t : TypeId} (h : isStr P t = true) : P.underlying t = some .string := by
  unfold isStr at h
  split at h
  · assumption
  · cases h

theorem den_map (h : Rep J Am Mi w0 s θ a w) : ∀ (l : List Operand), DenL (Stab Am s.lo θ w) (Liv s.lo) θ w (l.map (ev s)) (l.map a.eval)
  | [] => .nil
  | x :: l => .cons _ _ _ _ (h.ev x) (den_map h l)

theorem pureOp_val (h : Rep J Am Mi w0 s θ a w) {x : V} (e : pureOp P o s = some x) : ValRun P o a w (Den (Stab Am s.lo θ w) (Liv s.lo) θ w x) := pureOp_run h o e

/-- What 'execV' says, of one operation that is no call of a function. -/
def isCallF (o : Oper) : Bool := match o.op with
  | .call c => match c.callee with
    | .value _ => true
    | .builtin .append => true
    | _ => false
  | .buildSlice .. => true
  | .convert .. => true
  | .load _ (.global _) => true
  | _ => false

theorem over_fold : ∀ (l : List Value) (k : Nat) (arr : Array Value) (off : Nat), ((l.zipIdx k).foldl (fun cs (p : Value × Nat) => cs.setIfInBounds (off + p.2) p.1) arr).toList = over arr.toList (off + k) l
  | [], k, arr, off => by simp [over_nil]
  | x :: l, k, arr, off => by
    rw [List.zipIdx_cons, List.foldl_cons, over_fold l (k + 1), over_cons]
    simp only [Array.toList_setIfInBounds]
    rw [show off + (k + 1) = off + k + 1 by omega]

theorem bFill_den (h : Rep J Am Mi w0 s θ a w) (places : Array (Nat × Nat)) : ∀ (parts : List (Nat × Operand)) (cs r : List V) (arr : Array Value), bFill places (ev s) parts cs = some r → DenL (Stab Am s.lo θ w) (Liv s.lo) θ w cs arr.toList →
    ∃ arr' : Array Value, Instr.fill (fun i => places[i]?) arr (parts.map fun p => (p.1, a.eval p.2)) = some arr' ∧ DenL (Stab Am s.lo θ w) (Liv s.lo) θ w r arr'.toList
  | [], cs, r, arr, he, hd => by cases he; exact ⟨arr, rfl, hd⟩
  | (i, x) :: parts, cs, r, arr, he, hd => by
    simp only [bFill] at he
    split at he
    · rename_i off size vs hp hvs
      split at he
      · rename_i hc
        have hx := den_cells (h.ev x) hvs
        have hl := hx.length
        have hl2 := hd.length
        simp only [Array.length_toList] at hl hl2
        have hov := hd.over off hx
        have hf := over_fold (a.eval x).cells.toList 0 arr off
        obtain ⟨arr', h1, h2⟩ := bFill_den h places parts _ r (((a.eval x).cells.toList.zipIdx 0).foldl (fun cs (p : Value × Nat) => cs.setIfInBounds (off + p.2) p.1) arr) he (by rw [hf]; exact hov)
        refine ⟨arr', ?_, h2⟩
        simp only [List.map_cons, Instr.fill, hp]
        rw [if_neg (by simp; omega)]
        rw [← h1]
        congr 1
        rw [← Array.foldl_toList]
        simp
      · cases he
    · cases he

theorem buildV_val (h : Rep J Am Mi w0 s θ a w) {t : TypeId} {parts : Array (Nat × Operand)} {x : V} (e : buildV P t parts.toList (ev s) = some x) :
    ∃ v, (Instr.build t (parts.map fun p => (p.1, a.eval p.2))).run P w = .ok v w ∧ Den (Stab Am s.lo θ w) (Liv s.lo) θ w x v := by
  unfold buildV at e
  split at e
  · rename_i fs hu
    split at e
    · rename_i z places hz hp
      simp only [Option.map_eq_some_iff] at e
      obtain ⟨r, hr, rfl⟩ := e
      obtain ⟨arr', h1, h2⟩ := bFill_den h places parts.toList _ r z.cells hr (denL_closed _)
      refine ⟨.agg arr', ?_, by simpa using Den.agg _ _ h2⟩
      have hpl : (fs.mapM fun f => (do pure (f.offset, ← sizeOf f.type) : Sem (Nat × Nat))).run P w = .ok places w := run0_run (placesOf fs) w hp
      have h1' : Instr.fill (fun i => places[i]?) z.cells (parts.map fun p => (p.1, a.eval p.2)).toList = some arr' := by simpa using h1
      simp only [Instr.build, Sem.run_bind, run0_run _ w hz, Result.andThen_ok, run_underlying hu, hpl, Sem.run_pure]
      rw [h1']
      rfl
    · cases e
  · cases e

set_option maxHeartbeats 1000000 in
theorem run_eql_iface_nil_right (w : World) {ti : TypeId} {ms : Array (String × TypeId)} (tp : TypeId) (v : Value) (hi : P.underlying ti = some (.interface ms)) :
    (binOp .eql ti (.iface tp v) .nilIface).run P w = .ok (.bool false) w := by
  have h : ∀ d : Nat, (Op.equalIn (d + 1) ti (.iface tp v) .nilIface).run P w = .ok false w := fun d => by simp [Op.equalIn, run_underlying hi]
  simp only [binOp]
  simp [Op.equal, Op.maxDepth, h 9999]
theorem run_neq_iface_nil_right (w : World) {ti : TypeId} {ms : Array (String × TypeId)} (tp : TypeId) (v : Value) (hi : P.underlying ti = some (.interface ms)) :
    (binOp .neq ti (.iface tp v) .nilIface).run P w = .ok (.bool true) w := by
  have h : ∀ d : Nat, (Op.equalIn (d + 1) ti (.iface tp v) .nilIface).run P w = .ok false w := fun d => by simp [Op.equalIn, run_underlying hi]
  simp only [binOp]
  simp [Op.equal, Op.maxDepth, h 9999]

theorem execV_val (h : Rep J Am Mi w0 s θ a w) {t : T V} {x : V} (hc : isCallF o = false) (he : execV P Γ o s = some t) (hp : t.pick = some x) :
    (∀ c, o.op ≠ .defer c) ∧ ValRun P o a w (Den (Stab Am s.lo θ w) (Liv s.lo) θ w x) := by
  unfold execV at he
  split at he
  · rename_i y hop
    cases he; cases hp
    exact ⟨by simp [hop], a.eval y, by simp [execOp, hop], h.ev y⟩
  · rename_i y hop
    cases he; cases hp
    exact ⟨by simp [hop], a.eval y, by simp [execOp, hop], h.ev y⟩
  · rename_i c y z hop
    cases he
    rw [T.pick_ofOption] at hp
    obtain ⟨b, hb, hd⟩ := pickV_den (h.ev c) (h.ev y) (h.ev z) hp
    exact ⟨by simp [hop], if b = true then a.eval y else a.eval z, by simp [execOp, hop, hb, asBool], hd⟩
  · rename_i ty g hop
    simp [isCallF, hop] at hc
  · rename_i ty y _ hop
    cases he
    obtain ⟨v, hv, hd⟩ := readV_run h (h.ev y) hp
    exact ⟨by simp [hop], v, by simp [execOp, hop, hv, Result.andThen_ok], hd⟩
  · rename_i ty m k ok hop
    cases he
    obtain ⟨v, hv, hd⟩ := lookV_run h (h.ev m) (h.ev k) hp
    exact ⟨by simp [hop], v, by simp [execOp, hop, hv, Result.andThen_ok], hd⟩
  · rename_i y i hop
    cases he
    refine ⟨by simp [hop], ?_⟩
    split at hp
    · rename_i l hl
      rw [T.pick_ofOption] at hp
      have hd := h.ev y
      rw [hl] at hd
      cases hev : a.eval y <;> rw [hev] at hd <;> cases hd
      rename_i vs hd
      obtain ⟨u, hu, hd'⟩ := hd.get i x hp
      exact ⟨u, by simp [execOp, hop, hev, Instr.extract, hu], hd'⟩
    · simp [T.pick] at hp
  · rename_i y hop
    cases he
    refine ⟨by simp [hop], ?_⟩
    have hd := h.ev y
    split at hp
    · rename_i n off hl
      rw [hl] at hd
      simp [T.pick] at hp
      subst hp
      obtain ⟨p, hev⟩ : ∃ p, a.eval y = .pointer (some p) := by
        cases hev : a.eval y <;> rw [hev] at hd <;> cases hd
        exact ⟨_, rfl⟩
      exact ⟨a.eval y, by simp [execOp, hop, hev], hd⟩
    · rename_i k get hl
      rw [hl] at hd
      simp [T.pick] at hp
      subst hp
      obtain ⟨b, off, u, hev, _⟩ := hd.q_inv.sp_inv
      exact ⟨a.eval y, by simp [execOp, hop, hev], hd⟩
    · rename_i f caps hl
      rw [hl] at hd
      simp [T.pick] at hp
      subst hp
      obtain ⟨g, vs, hev⟩ : ∃ g vs, a.eval y = .func (.func g) #[] vs := by
        cases hev : a.eval y <;> rw [hev] at hd <;> cases hd
        exact ⟨_, _, rfl⟩
      exact ⟨a.eval y, by simp [execOp, hop, hev], hd⟩
    · rename_i f caps hl
      rw [hl] at hd
      simp [T.pick] at hp
      subst hp
      obtain ⟨u, hev, _⟩ := hd.q_inv.clo_inv
      exact ⟨a.eval y, by simp [execOp, hop, hev], hd⟩
    · rename_i n hl
      rw [hl] at hd
      simp [T.pick] at hp
      subst hp
      obtain ⟨g, hev⟩ : ∃ g, a.eval y = .func (.yield g) #[] #[] := by
        cases hev : a.eval y <;> rw [hev] at hd <;> cases hd
        exact ⟨_, rfl⟩
      exact ⟨a.eval y, by simp [execOp, hop, hev], hd⟩
    · simp [T.pick] at hp
  · rename_i ty y f hop
    cases he
    refine ⟨by simp [hop], ?_⟩
    have hd := h.ev y
    split at hp
    · rename_i n off d hl hf
      rw [hl] at hd
      simp [T.pick] at hp
      subst hp
      cases hev : a.eval y <;> rw [hev] at hd <;> cases hd
      rename_i hL
      exact ⟨.pointer (some ⟨(θ n).blk, off + d, none⟩), by simp [execOp, hop, hev, fieldOff_run hf, Result.andThen_ok], .ptr _ _ hL⟩
    · rename_i n sz i j d hl hf
      rw [hl] at hd
      simp [T.pick] at hp
      subst hp
      cases hev : a.eval y <;> rw [hev] at hd <;> cases hd
      rename_i hL
      exact ⟨.pointer (some ⟨(θ n).blk, i * sz + (j + d), none⟩), by simp [execOp, hop, hev, fieldOff_run hf, Result.andThen_ok, Nat.add_assoc], .ep _ _ _ _ hL⟩
    · rename_i k get d hl hf
      rw [hl] at hd
      simp [T.pick] at hp
      subst hp
      obtain ⟨b, off, u, hev, hS, hc', hdd⟩ := hd.q_inv.sp_inv
      exact ⟨.pointer (some ⟨b, off + d, none⟩), by simp [execOp, hop, hev, fieldOff_run hf, Result.andThen_ok], .q _ _ (.sp _ _ _ _ (fun j => u (d + j)) hS (fun j hj => by rw [Nat.add_assoc]; exact hc' _ (by omega)) (fun j hj => hdd _ (by omega)))⟩
    · simp [T.pick] at hp
  · rename_i ty y ix hop
    cases he
    refine ⟨by simp [hop], ?_⟩
    have hd := h.ev y
    split at hp
    · rename_i ks len get k i hl hi
      rw [hl] at hd
      have hix := den_int (h.ev ix) hi
      split at hp
      · rename_i hz
        obtain ⟨e, hu, hsz⟩ := elemSize_run hz w
        simp only [T.pick] at hp
        by_cases hlt : 0 ≤ i ∧ i < (len : Int)
        · simp [hlt] at hp
          subst hp
          rcases hd.q_inv.lst_inv with ⟨_, h0⟩ | ⟨b, off, cap, u, hev, hS, hcap, hc', hk, hdd⟩
          · omega
          · refine ⟨_, ?_, .q _ _ (.sp _ _ b (off + i.toNat * ks.length) (fun j => u i.toNat j) hS (fun j hj => hc' _ _ (by omega) hj) (fun j hj => (hdd i.toNat j (by omega) hj).nrmG hj (fun k hk' => hk i.toNat j k (by omega) hk')))⟩
            simp [execOp, hop, hev, hix, Instr.indexAt, asIntOf, run_underlying hu, hlt, hsz, Result.andThen_ok, addr_add]
        · simp [hlt] at hp
      · simp [T.pick] at hp
    · rename_i n' k i hl hi
      rw [hl] at hd
      have hix := den_int (h.ev ix) hi
      split at hp
      · rename_i ty' ks len get hn
        split at hp
        · rename_i hz
          obtain ⟨e, hu, hsz⟩ := elemSize_run hz w
          simp only [T.pick] at hp
          by_cases hlt : 0 ≤ i ∧ i < (len : Int)
          · simp [hlt] at hp
            subst hp
            rcases h.lo _ _ hn with ⟨_, h0⟩ | ⟨vs, cap, h1, h2, h3, h4, h5, h6⟩
            · omega
            · cases hev : a.eval y <;> rw [hev] at hd <;> cases hd
              rename_i hL hsl
              rw [h1] at hsl
              cases hsl
              refine ⟨_, ?_, .ep _ ks.length i.toNat 0 hL⟩
              simp [execOp, hop, hev, hix, Instr.indexAt, asIntOf, run_underlying hu, hlt, hsz, Result.andThen_ok, addr_add]
          · simp [hlt] at hp
        · simp [T.pick] at hp
      · simp [T.pick] at hp
    · simp [T.pick] at hp
  · rename_i ty y ix hop
    cases he
    refine ⟨by simp [hop], ?_⟩
    have hd := h.ev y
    split at hp
    · rename_i b k i hl hi
      rw [hl] at hd
      have hix := den_int (h.ev ix) hi
      split at hp
      · rename_i hs
        have hu := isStr_underlying hs
        simp only [T.pick] at hp
        by_cases hlt : 0 ≤ i ∧ i < (b.size : Int)
        · simp [hlt] at hp
          subst hp
          have hev : a.eval y = .string b := den_val hd rfl
          · have hget : b[i.toNat]? = some (b.get! i.toNat) := by
              have hlt' : i.toNat < b.size := by omega
              rw [getElem?_pos b i.toNat hlt']
              congr 1
              simp only [ByteArray.get!]
              rw [getElem!_pos b.data i.toNat hlt']
              rfl
            refine ⟨_, ?_, .q _ _ (.c _)⟩
            have hlt' : i.toNat < b.size := by omega
            rw [getElem?_pos b i.toNat hlt'] at hget
            simp [execOp, hop, hev, hix, Instr.index, asIntOf, run_underlying hu, hlt]
            rw [Option.some.inj hget]
        · simp [hlt] at hp
      · simp [T.pick] at hp
    · rw [T.pick_ofOption] at hp
      exact pureOp_val h hp
  · rename_i ty y lo hi mx hop
    cases he
    obtain ⟨v, hv, hd⟩ := cutV_run h hp
    exact ⟨by simp [hop], v, by simp [execOp, hop, hv, Result.andThen_ok], hd⟩
  · rename_i op ty y z yt hop
    cases he
    refine ⟨by simp [hop], ?_⟩
    split at hp
    · rename_i v hv
      cases hp
      unfold eqNil at hv
      split at hv
      · rename_i ms hu hx hy
        cases hv
        have h1 := h.ev y
        have h2 := h.ev z
        rw [hx] at h1
        rw [hy] at h2
        generalize h1v : a.eval y = u1 at h1
        generalize h2v : a.eval z = u2 at h2
        cases h1 with
        | q _ _ h1 =>
          cases h1 with
          | nn t' v' =>
            cases h2 with
            | q _ _ h2 =>
              cases h2
              exact ⟨.bool false, by simp [execOp, hop, h1v, h2v, eqGuard, run_eql_iface_nil_right w t' v' hu, Result.andThen_ok], .q _ _ (.c _)⟩
      · rename_i ms hu hx hy
        cases hv
        have h1 := h.ev y
        have h2 := h.ev z
        rw [hx] at h1
        rw [hy] at h2
        generalize h1v : a.eval y = u1 at h1
        generalize h2v : a.eval z = u2 at h2
        cases h1 with
        | q _ _ h1 =>
          cases h1 with
          | nn t' v' =>
            cases h2 with
            | q _ _ h2 =>
              cases h2
              exact ⟨.bool true, by simp [execOp, hop, h1v, h2v, eqGuard, run_neq_iface_nil_right w t' v' hu, Result.andThen_ok], .q _ _ (.c _)⟩
      · cases hv
    split at hp
    · rename_i v hv
      cases hp
      unfold eqOp at hv
      split at hv
      · rename_i xs ys hxs hys
        have h1 := den_val (h.ev y) hxs
        have h2 := den_val (h.ev z) hys
        split at hv
        · cases hv
        · rename_i hg
          split at hv
          · simp only [Option.map_eq_some_iff] at hv
            obtain ⟨b, hb, rfl⟩ := hv
            have := eqIn_run w 12 10000 ty _ _ b (by omega) hb
            exact ⟨.bool b, by simp [execOp, hop, h1, h2, run_eqGuard_agg w .eql ty y z xs ys (by simpa using hg), run_eql_struct, this, Result.andThen_ok], .q _ _ (.c _)⟩
          · simp only [Option.map_eq_some_iff] at hv
            obtain ⟨b, hb, rfl⟩ := hv
            have := eqIn_run w 12 10000 ty _ _ b (by omega) hb
            exact ⟨.bool (!b), by simp [execOp, hop, h1, h2, run_eqGuard_agg w .neq ty y z xs ys (by simpa using hg), run_neq_struct, this, Result.andThen_ok], .q _ _ (.c _)⟩
          · cases hv
      · cases hv
    · split at hp
      · rename_i tc htc
        unfold catS at htc
        split at htc
        · rename_i b c hxb hyc hnn hn2
          cases htc
          have h1 := den_val (h.ev y) (by rw [hxb]; rfl)
          have h2 := den_val (h.ev z) (by rw [hyc]; rfl)
          simp only [T.pick] at hp
          by_cases hle : b.size + c.size ≤ 9223372036854775807
          · rw [decide_eq_true hle] at hp
            cases hp
            have hg : ¬ (9223372036854775807 : Int) < (b.size : Int) + c.size := by omega
            exact ⟨.string (b ++ c), by simp only [execOp, hop, h1, h2]; simp [eqGuard, binOp, Op.stringOp, hg], .q _ _ (.c _)⟩
          · rw [decide_eq_false hle] at hp; cases hp
        · cases htc
      · rw [T.pick_ofOption] at hp
        exact pureOp_val h hp
  · rename_i fn first caps hop
    split at he
    · rename_i f hf
      cases he; cases hp
      have hf' : first = #[] := by simpa using hf
      subst hf'
      refine ⟨by simp [hop], .func (.func f) #[] (caps.map a.eval), by simp [execOp, hop, Instr.makeFunc], ?_⟩
      have := Den.clo (S := Stab Am s.lo θ w) (L := Liv s.lo) (θ := θ) (w := w) f _ _ (den_map h caps.toList)
      have e : (List.map a.eval caps.toList).toArray = Array.map a.eval caps := by apply Array.ext'; simp
      rw [e] at this
      exact this
    · cases he
  · rename_i c hop
    refine ⟨by simp [hop], ?_⟩
    unfold execC at he
    split at he
    · rename_i hcal
      split at he
      · rename_i y hargs
        cases he
        have hargs' : c.args = #[y] := by
          have := congrArg List.toArray hargs
          simpa using this
        have hd := h.ev y
        split at hp
        · rename_i hsl0
          have hrun : ∀ ad len cap, a.eval y = .slice ad len cap → (execOp a.eval o).run P w = .ok (.value (.int .i64 len)) w := fun ad len cap hev => by
            unfold isSl at hsl0
            split at hsl0
            · rename_i ty hty
              split at hsl0
              · rename_i el hu
                simp [execOp, hop, hcal, hargs', hev, resolve, invoke, builtin, Builtin.len_, hty, run_underlying hu, goInt]
              · cases hsl0
            · cases hsl0
          unfold lenV at hp
          split at hp
          · rename_i ks len get hl
            rw [hl] at hd
            simp [T.pick] at hp
            subst hp
            rcases hd.q_inv.lst_inv with ⟨hev, h0⟩ | ⟨b, off, cap, u, hev, _⟩
            · exact ⟨_, hrun _ _ _ hev, by rw [h0]; exact .q _ _ (.c _)⟩
            · exact ⟨_, hrun _ _ _ hev, .q _ _ (.c _)⟩
          · rename_i n' hl
            rw [hl] at hd
            split at hp
            · rename_i ty' ks len get hn
              simp [T.pick] at hp
              subst hp
              cases hev : a.eval y <;> rw [hev] at hd <;> cases hd
              rename_i hL hsl
              rcases h.lo _ _ hn with ⟨h1, h0⟩ | ⟨vs, cap, h1, h2, h3, h4, h5, h6⟩
              · rw [h1] at hsl
                cases hsl
                exact ⟨_, hrun _ _ _ hev, by rw [h0]; exact .q _ _ (.c _)⟩
              · rw [h1] at hsl
                cases hsl
                exact ⟨_, hrun _ _ _ hev, .q _ _ (.c _)⟩
            · simp [T.pick] at hp
          · rw [T.pick_ofOption] at hp
            exact pureOp_val h hp
        · split at hp
          · rename_i hmp0
            unfold lenM at hp
            split at hp
            · rename_i kk ag vk es hen
              simp only [T.pick, Option.some.injEq] at hp
              subst hp
              obtain ⟨b, arr, clk, hev, h1, h2⟩ := entsOf_den h hd hen
              have hlen : arr.length = es.length := by
                obtain ⟨_, h3, _⟩ := ents_fun h2
                exact h3
              refine ⟨.int .i64 es.length, ?_, .q _ _ (.c _)⟩
              unfold isMp at hmp0
              split at hmp0
              · rename_i ty hty
                split at hmp0
                · rename_i k1 e1 hu
                  have hg : (getObj b).run P w = .ok (.map arr.toArray clk) w := by simp [getObj, Sem.run, h1]
                  simp [execOp, hop, hcal, hargs', hev, resolve, invoke, builtin, Builtin.len_, hty, run_underlying hu, goInt, hg, hlen]
                · cases hmp0
              · cases hmp0
            · rw [T.pick_ofOption] at hp
              exact pureOp_val h hp
          · rw [T.pick_ofOption] at hp
            exact pureOp_val h hp
      · cases he
    · rename_i hcal
      simp [isCallF, hop, hcal] at hc
    · cases he
      rw [T.pick_ofOption] at hp
      exact pureOp_val h hp
    · cases he
      rw [T.pick_ofOption] at hp
      exact pureOp_val h hp
    · rename_i hcal
      simp [isCallF, hop, hcal] at hc
    · cases he
  · rename_i hop
    simp [isCallF, hop] at hc
  · rename_i t' parts hop
    cases he
    refine ⟨by simp [hop], ?_⟩
    split at hp
    · rename_i v hv
      cases hp
      exact pureOp_val h hv
    · rw [T.pick_ofOption] at hp
      obtain ⟨v, hv, hd⟩ := buildV_val h hp
      exact ⟨v, by simp [execOp, hop, hv, Result.andThen_ok], hd⟩
  · rename_i hop
    simp [isCallF, hop] at hc
  · rename_i hop
    cases he
    rw [T.pick_ofOption] at hp
    exact ⟨by simp [hop], pureOp_val h hp⟩
  · rename_i hop
    cases he
    rw [T.pick_ofOption] at hp
    exact ⟨by simp [hop], pureOp_val h hp⟩
  · rename_i hop
    cases he
    rw [T.pick_ofOption] at hp
    exact ⟨by simp [hop], pureOp_val h hp⟩
  · cases he

end
end Go.SX
