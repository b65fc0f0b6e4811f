/- What an operation makes of the symbolic state: that 'execV' is right. -/
import Derived.Test.YtgmeglodnhagdaaGreatDoorSxE
namespace Go.SX
open Go.RowKit
set_option linter.unusedVariables false
set_option linter.unusedSimpArgs false
set_option linter.unusedSectionVars false

section
variable [GW] {P : Program} {J : Jt P} {Am Mi : Nat → Prop} {w0 w : World} {s : St} {θ : Th} {a : Act} {Γ : Gam} {r : Option Nat} {n : Nat} {o : Oper} {K : Act → World → Prop} {Q : Exit → Act → World → Prop}

theorem wpIn_value (hd : ∀ c, o.op ≠ .defer c) {v : Value} {w' : World} (hr : (execOp a.eval o).run P w = .ok (.value v) w') (hk : K (a.put o.dst v) w') : o.wpIn (FW r) n P a w K Q := by
  refine ⟨fun _ _ => trivial, ?_⟩
  rw [Oper.semAt_eq _ _ _ hd, hr]
  exact hk

theorem wpIn_skip' (hd : ∀ c, o.op ≠ .defer c) {w' : World} (hr : (execOp a.eval o).run P w = .ok .skip w') (hk : K (a.put o.dst undef) w') : o.wpIn (FW r) n P a w K Q := by
  refine ⟨fun _ _ => trivial, ?_⟩
  rw [Oper.semAt_eq _ _ _ hd, hr]
  exact hk

theorem wpIn_enter (hd : ∀ c, o.op ≠ .defer c) {f : FuncId} {args : Array Value} {w' : World} (hr : (execOp a.eval o).run P w = .ok (.enter f args) w')
    (hk : Calls P f args w' fun
      | .returned v, w'' => K (a.put o.dst v) w''
      | _, _ => False) : o.wpIn (FW r) n P a w K Q := by
  refine ⟨fun _ _ => trivial, ?_⟩
  rw [Oper.semAt_eq _ _ _ hd, hr]
  refine ⟨(fun h => by cases h), callsIn_FW (hk.mono fun e w'' he => ?_)⟩
  cases e with
  | returned v => exact he
  | panicked c => exact he.elim
  | outgrown => exact he.elim

def ValRun (P : Program) (o : Oper) (a : Act) (w : World) (D : Value → Prop) : Prop := ∃ v, (execOp a.eval o).run P w = .ok (.value v) w ∧ D v

theorem cutV_run (h : Rep J Am Mi w0 s θ a w) {t : TypeId} {xo : Operand} {lo hi mx : Option Operand} {x : V} (e : (cutV P t (ev s xo) lo hi mx s).pick = some x) :
    ∃ v, (Instr.sliceAt t (a.eval xo) (lo.map a.eval) (hi.map a.eval) (mx.map a.eval)).run P w = .ok v w ∧ Den (Stab Am s.lo θ w) (Liv s.lo) θ w x v := by
  have hb : ∀ (d : Int) (q : Option Operand) (l : Int), bnd s d q = some l → (q = none ∧ l = d) ∨ ∃ y k, q = some y ∧ a.eval y = .int k l := fun d q l hq => by
    cases q with
    | none => simp [bnd] at hq; exact .inl ⟨rfl, hq.symm⟩
    | some y =>
      simp only [bnd, Option.map_eq_some_iff] at hq
      obtain ⟨⟨k, n⟩, hi, rfl⟩ := hq
      exact .inr ⟨y, k, rfl, den_int (h.ev y) hi⟩
  have hsb : ∀ (v : Value) (k : IntKind) (i : Int) (y : Nat) (c : BoundsCode), v = .int k i → 0 ≤ i → i ≤ y → (Instr.sliceBound v y c).run P w = .ok i.toNat w := fun v k i y c hv h0 h1 => by
    subst hv
    simp [Instr.sliceBound, asIntOf, h0, h1]
  generalize hx : ev s xo = X at e
  have hd := h.ev xo
  rw [hx] at hd
  generalize a.eval xo = u at hd
  unfold cutV at e
  split at e
  · rename_i ks len get
    split at e
    · rename_i l hh hl hhi
      have hlo := hb _ _ _ hl
      have hhi' := hb _ _ _ hhi
      -- the list's own shape
      have key : ∀ (m : Nat), l ≤ hh → 0 ≤ l → hh ≤ (len : Int) → ∀ z, elemSize P t = some z → z = ks.length → ∀ (cap : Nat) (ad : Option Addr), u = .slice ad len cap → l.toNat ≤ m → m ≤ cap → hh.toNat ≤ m →
          Den (Stab Am s.lo θ w) (Liv s.lo) θ w (.q (.lst ks (hh.toNat - l.toNat) fun i => get (l.toNat + i))) (.slice (if m = l.toNat then ad else ad.map (·.add (l.toNat * z))) (hh.toNat - l.toNat) (m - l.toNat)) := by
        intro m h1 h0 h2 z hz hzk cap ad hu hml hmc hhm
        subst hzk
        subst hu
        refine .q _ _ ?_
        cases hd with
        | q y v hq =>
          cases hq with
          | nil _ _ _ h0' =>
            have e1 : hh.toNat = 0 := by omega
            have e2 : l.toNat = 0 := by omega
            have hm0 : m = 0 := by omega
            rw [e1, e2, hm0]
            exact .nil _ _ _ rfl
          | lst ks' len' get' b off cap' u' hS hcap hc hk hdd =>
            by_cases hml' : m = l.toNat
            · have hlen : hh.toNat - l.toNat = 0 := by omega
              rw [if_pos hml', hlen]
              exact .lst _ _ _ b off _ (fun i j => u' (l.toNat + i) j) hS (by omega) (fun i j hi => by omega) (fun i j k hi => by omega) (fun i j hi => by omega)
            · rw [if_neg hml', Option.map_some, addr_add]
              refine .lst _ _ _ b _ _ (fun i j => u' (l.toNat + i) j) hS (by omega) (fun i j hi hj => ?_) (fun i j k hi hj => hk _ _ _ (by omega) hj) (fun i j hi hj => hdd _ _ (by omega) hj)
              have := hc (l.toNat + i) j (by omega) hj
              rw [← this]
              congr 2
              rw [Nat.add_mul]; omega
      have shape : ∃ ad cap, u = .slice ad len cap ∧ len ≤ cap := by
        cases hd with
        | q y v hq =>
          cases hq with
          | nil _ _ _ h0' => exact ⟨none, 0, by rw [h0'], by omega⟩
          | lst ks' len' get' b off cap' u' hS hcap hc hk hdd => exact ⟨_, _, rfl, hcap.1⟩
      obtain ⟨ad, cap, rfl, hcap⟩ := shape
      split at e
      · -- two indexes
        split at e
        · rename_i hz
          simp only [T.pick] at e
          by_cases hc : 0 ≤ l ∧ l ≤ hh ∧ hh ≤ (len : Int)
          · simp only [hc, and_self, decide_true, cond_true, Option.some.injEq] at e
            subst e
            obtain ⟨ty, hu, hsz⟩ := elemSize_run hz w
            have hD := key cap hc.2.1 hc.1 hc.2.2 _ hz rfl cap ad rfl (by omega) (Nat.le_refl _) (by omega)
            refine ⟨_, ?_, hD⟩
            rcases hlo with ⟨rfl, rfl⟩ | ⟨yl, kl, rfl, hyl⟩ <;> rcases hhi' with ⟨rfl, rfl⟩ | ⟨yh, kh, rfl, hyh⟩
            · simp [Instr.sliceAt, Instr.slice, Instr.sliceBounds, run_underlying hu, hsz, Result.andThen_ok]
            · simp [Instr.sliceAt, Instr.slice, Instr.sliceBounds, run_underlying hu, hsz, Result.andThen_ok, hsb _ _ _ cap .sliceAcap hyh (by omega) (by omega)]
            · simp [Instr.sliceAt, Instr.slice, Instr.sliceBounds, run_underlying hu, hsz, Result.andThen_ok, hsb _ _ _ len .sliceB hyl (by omega) (by omega)]
            · have e1 := hsb _ _ _ cap .sliceAcap hyh (by omega) (by omega)
              have e2 := hsb _ _ _ hh.toNat .sliceB hyl (by omega) (by omega)
              simp [Instr.sliceAt, Instr.slice, Instr.sliceBounds, run_underlying hu, hsz, Result.andThen_ok, e1, e2]
          · simp [hc] at e
        · simp [T.pick] at e
      · -- three
        rename_i ym
        split at e
        · rename_i _ m' yhv hm
          split at e
          · rename_i hz
            simp only [T.pick] at e
            by_cases hc : 0 ≤ l ∧ l ≤ hh ∧ hh ≤ m' ∧ m' ≤ (len : Int)
            · simp only [hc, and_self, decide_true, cond_true, Option.some.injEq] at e
              subst e
              obtain ⟨ty, hu, hsz⟩ := elemSize_run hz w
              have hD := key m'.toNat hc.2.1 hc.1 (by omega) _ hz rfl cap ad rfl (by omega) (by omega) (by omega)
              refine ⟨_, ?_, .lc _ _ _ _ _ _ hD.q_inv⟩
              rcases hb _ _ _ hm with ⟨h0, _⟩ | ⟨ym', km, hym, hvm⟩
              · cases h0
              cases hym
              rcases hhi' with ⟨h0, _⟩ | ⟨yh, kh, hyh', hvh⟩
              · cases h0
              cases hyh'
              have e1 := hsb _ _ _ cap .slice3Acap hvm (by omega) (by omega)
              have e2 := hsb _ _ _ m'.toNat .slice3B hvh (by omega) (by omega)
              rcases hlo with ⟨rfl, rfl⟩ | ⟨yl, kl, rfl, hyl⟩
              · simp [Instr.sliceAt, Instr.slice, Instr.sliceBounds, run_underlying hu, hsz, Result.andThen_ok, e1, e2]
              · have e3 := hsb _ _ _ hh.toNat .slice3C hyl (by omega) (by omega)
                simp [Instr.sliceAt, Instr.slice, Instr.sliceBounds, run_underlying hu, hsz, Result.andThen_ok, e1, e2, e3]
            · simp [hc] at e
          · simp [T.pick] at e
        · simp [T.pick] at e
    · simp [T.pick] at e
  · rename_i b
    split at e
    · rename_i l hh hl hhi
      split at e
      · rename_i hstr
        simp only [T.pick] at e
        have hu : P.underlying t = some .string := by
          unfold isStr at hstr
          split at hstr
          · assumption
          · cases hstr
        by_cases hc : 0 ≤ l ∧ l ≤ hh ∧ hh ≤ (b.size : Int)
        · simp only [hc, and_self, decide_true, cond_true, Option.some.injEq] at e
          subst e
          cases hd with
          | q y v hq =>
            cases hq
            refine ⟨_, ?_, .q _ _ (.c _)⟩
            rcases hb _ _ _ hl with ⟨rfl, rfl⟩ | ⟨yl, kl, rfl, hyl⟩ <;> rcases hb _ _ _ hhi with ⟨rfl, rfl⟩ | ⟨yh, kh, rfl, hyh⟩
            · simp [Instr.sliceAt, Instr.slice, Instr.sliceBounds, run_underlying hu]
            · have e1 := hsb _ _ _ b.size .sliceAlen hyh (by omega) (by omega)
              simp [Instr.sliceAt, Instr.slice, Instr.sliceBounds, run_underlying hu, e1]
            · have e2 := hsb _ _ _ b.size .sliceB hyl (by omega) (by omega)
              simp [Instr.sliceAt, Instr.slice, Instr.sliceBounds, run_underlying hu, e2]
            · have e1 := hsb _ _ _ b.size .sliceAlen hyh (by omega) (by omega)
              have e2 := hsb _ _ _ hh.toNat .sliceB hyl (by omega) (by omega)
              simp [Instr.sliceAt, Instr.slice, Instr.sliceBounds, run_underlying hu, e1, e2]
        · simp [hc] at e
      · simp [T.pick] at e
    · simp [T.pick] at e
  · simp [T.pick] at e

end
end Go.SX
