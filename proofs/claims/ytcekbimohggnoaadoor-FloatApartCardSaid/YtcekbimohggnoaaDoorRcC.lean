/- The functions of rect, one by one: are all apart. -/
import Derived.Test.YtcekbimohggnoaaDoorRcB
namespace Go.Proofs.YtcekbimohggnoaaDoor
open Go Go.SX Go.Proofs
set_option maxRecDepth 100000
variable [EA]
set_option linter.unusedVariables false
set_option linter.unusedSectionVars false
set_option linter.unusedSimpArgs false

abbrev kvR (r : Rc) : Value := .agg #[.int .i64 r.x, .int .i64 r.y, .int .i64 r.w, .int .i64 r.h]
/-- What has been seen. -/
def esA (g : Nat → Nat → Q) : Nat → List (Value × List Q)
  | 0 => []
  | i + 1 => putE (kvR (gRc g i)) [.c (.bool true)] (esA g i)
def seenB (g : Nat → Nat → Q) (i : Nat) : Bool := qBool (((findE (kvR (gRc g i)) (esA g i)).getD [.c (.bool false)]).headD default)
def c30 (g : Nat → Nat → Q) (i : Nat) : Bool := bif seenB g i then (bif decide ((gRc g i).w > 0) then decide ((gRc g i).h > 0) else false) else false
abbrev cutN (i : Nat) : Nat := (i : Int).toNat - (0 : Int).toNat
abbrev gz (g : Nat → Nat → Q) : Nat → Nat → Q := fun j => g ((0 : Int).toNat + j)
def stopP (g : Nat → Nat → Q) (i k : Nat) : Bool := decide ((meetR (gRc g i) (gRc (gz g) k)).w > 0)
def anyM (g : Nat → Nat → Q) (i : Nat) : Bool := (List.range i).any fun k => stopP g i k

abbrev mapO' (es : List (Value × List Q)) : Option Ob := some (.map (.many ks4) false [.bool] es)
abbrev celB (v : V) : Option Ob := some (.cells 4 [v])
def SP (n : Nat) (g : Nat → Nat → Q) (i : Nat) : St :=
  mkS 45 [(0, lst4 n g), (2, .ptr 0 0), (3, .mp 1), (11, lst4 n g), (12, V.i n), (13, V.i i)] [celB (V.b false), mapO' (esA g i), some .dfr] [.mark 2] false [] 0
def Sr (n : Nat) (g : Nat → Nat → Q) (i : Nat) : St :=
  mkS 45 [(0, lst4 n g), (2, .ptr 0 0), (3, .mp 1), (11, lst4 n g), (12, V.i n), (13, V.i i), (39, .clo 43 [spR5 (gRc g i) (cutN i) (gz g)])] [celB (V.b false), mapO' (esA g (i + 1)), some .dfr] [.mark 2] false [] 0
abbrev loF (g : Nat → Nat → Q) (i : Nat) (v : V) : List (Option Ob) := [celB v, mapO' (esA g (i + 1)), some .dfr]
def Rr (n : Nat) (g : Nat → Nat → Q) (i : Nat) : Out := .ite (anyM g i) (.leaf (.ret, outS (Sr n g i) (loF g i (.kb false)) [])) (.leaf (.normal, outS (Sr n g i) (loF g i (V.b false)) []))

noncomputable abbrev rfAt (fn : Func) (p : List Nat) : Code × Code := (match codeAt (cod fn) p with
  | some (.rangeFunc _ _ a b) => (a, b)
  | _ => (.skip, .skip))
abbrev pR : List Nat := [0, 1, 1, 1, 1, 0, 0, 1, 1, 0, 0, 1, 0, 1, 1, 1]
noncomputable abbrev rfP : Code × Code := rfAt Tryd.f23 pR
noncomputable abbrev bodyP : Code := loopAt Tryd.f23 [0, 1, 0, 1, 1, 1]
abbrev ΓP : Gam := [(34, rect_areRight.s), (35, rect_meets.s)]
theorem ΓP.ok : GOK Tryd.prog ΓP := .cons rect_areRight.ok (.cons rect_meets.ok (GOK.nil _))

theorem roundP (n : Nat) (g : Nat → Nat → Q) (i k : Nat) (rec rec' : Loop) :
    roundT Tryd.prog ΓP [] pR rfP.1 rfP.2 [40] (Sr n g i) (some .dfr) (loF g i (V.b false)) [] (mx (gRc g i) (gz g) k) rec rec' =
      .ite (@decide ((some (some (Ob.raw (.loop rec))) : Option (Option Ob)) = some (some (.raw (.loop rec)))) (Classical.propDecidable _))
        (.ite (stopP g i k) (.leaf (.ret, midS (Sr n g i) (loF g i (.kb false)) [] (some .dfr) rec' ((Sr n g i).tm.map fun _ => .any), true))
          (.leaf (.normal, midS (Sr n g i) (loF g i (V.b false)) [] (some .dfr) rec' ((Sr n g i).tm.map fun _ => .any), true))) .bad := by kernel_rfl

def ddP : Ex → List Nat | .normal => [] | _ => [1]
def liveP : Ex → List Nat | .normal => [0, 2, 3, 11, 12, 13] | _ => [2]
def FP (e : Ex) (v : V) : Ex × St := (e, mkS 45 [(2, .ptr 0 0)] [celB v, some .dead, some .dfr] [.mark 2] false [] 0)

theorem stepP (n : Nat) (g : Nat → Nat → Q) (i : Nat) :
    (sx Tryd.prog ΓP [(pR, orc false 45 3 [0, 2, 3, 11, 12, 13, 39] (Sr n g i) (Rr n g i))] [0, 0, 1, 0, 1, 1, 1] bodyP (SP n g i)).bind (fun x => T.leaf (x.1, deadS (ddP x.1) (canS 45 3 (liveP x.1) x.2), chkM 45 3 x.2))
     = .ite (decide ((i : Int) < n))
        (.ite (decide (0 ≤ (i : Int) ∧ (i : Int) < n))
          (.ite (c30 g i) (.leaf ((FP .ret (.kb false)).1, (FP .ret (.kb false)).2, true))
            (.ite (decide ((0 : Int) ≤ 0 ∧ (0 : Int) ≤ (i : Int) ∧ (i : Int) ≤ (i : Int) ∧ (i : Int) ≤ (n : Int)))
              (.ite (@decide (Sr n g i = Sr n g i) (Classical.propDecidable _)) (.ite (anyM g i) (.leaf ((FP .ret (.kb false)).1, (FP .ret (.kb false)).2, true)) (.leaf (.normal,
                mkS 45 [(0, lst4 n g), (2, .ptr 0 0), (3, .mp 1), (11, lst4 n g), (12, V.i n), (13, V.i (w64 (i + 1)))] [celB (V.b false), mapO' (esA g (i + 1)), some .dfr] [.mark 2] false [] 0, true))) .bad) .bad)) .bad)
        (.leaf ((FP (.exit 0) (V.b false)).1, (FP (.exit 0) (V.b false)).2, true)) := by kernel_rfl

/-! ### the range within -/
def eP (g : Nat → Nat → Q) (i k : Nat) : Ex := bif stopP g i k then .ret else .normal
def llP (g : Nat → Nat → Q) (i : Nat) : Nat → List (Option Ob)
  | 0 => loF g i (V.b false)
  | k + 1 => bif stopP g i k then loF g i (.kb false) else loF g i (V.b false)

theorem eP_norm {g : Nat → Nat → Q} {i k : Nat} : isNormal (eP g i k) = true ↔ stopP g i k = false := by
  unfold eP; cases stopP g i k <;> simp [isNormal]

theorem llP_norm {g : Nat → Nat → Q} {i k : Nat} (h : ∀ j, j < k → isNormal (eP g i j) = true) : llP g i k = loF g i (V.b false) := by
  cases k with
  | zero => rfl
  | succ k => simp only [llP, eP_norm.1 (h k (by omega)), cond_false]

theorem least_stop (p : Nat → Bool) (n : Nat) : (∀ j, j < n → p j = false) ∨ ∃ k, k < n ∧ p k = true ∧ ∀ j, j < k → p j = false := by
  by_cases h : ∃ k, k < n ∧ p k = true
  · obtain ⟨m, ⟨h1, h2⟩, h3⟩ := exists_least (fun k => k < n ∧ p k = true) h.choose h.choose_spec
    refine .inr ⟨m, h1, h2, fun j hj => ?_⟩
    cases hp : p j with
    | false => rfl
    | true => have := h3 j ⟨by omega, hp⟩; omega
  · refine .inl fun j hj => ?_
    cases hp : p j with
    | false => rfl
    | true => exact absurd ⟨j, hj, hp⟩ h

theorem cutN_eq (i : Nat) : cutN i = i := by simp [cutN]

theorem rangeP (n : Nat) (g : Nat → Nat → Q) (i : Nat) : ∀ x, (Rr n g i).pick = some x → SemC Tryd.prog (.rangeFunc (.tmp 39) #[40] rfP.1 rfP.2) (Sr n g i) x := by
  intro x hx
  have H : Rounds Tryd.prog ΓP [] pR rfP.1 rfP.2 (#[40] : Array Nat).toList (Sr n g i) (if (Sr n g i).inr then none else some .dfr) ((Sr n g i).tm.map fun _ => .any) (llP g i) (fun _ => []) (mx (gRc g i) (gz g)) (cutN i) (eP g i) := by
    refine rounds_of (fun k => ?_) (fun k _ => rfl) fun k hk hn rec rec' => ?_
    · cases k with
      | zero => rfl
      | succ k => simp only [llP]; cases stopP g i k <;> rfl
    · rw [llP_norm hn]
      refine (congrArg T.pick (roundP n g i k rec rec')).trans ?_
      rw [pick_same]
      unfold eP
      simp only [llP]
      cases stopP g i k <;> rfl
  have hc : codeAt (cod Tryd.f23) pR = some (.rangeFunc (.tmp 39) #[40] rfP.1 rfP.2) := by kernel_rfl
  have fin : ∀ m e, Go.SX.Ends (eP g i) (cutN i) m e → x = (e, outS (Sr n g i) (llP g i m) []) → (llP g i m = loF g i (V.b false) ∨ llP g i m = loF g i (.kb false)) → SemC Tryd.prog (.rangeFunc (.tmp 39) #[40] rfP.1 rfP.2) (Sr n g i) x := fun m e hE hx hL => by
    rw [hx]
    refine sem_range ΓP.ok (LamOK.nil _ _) hc (f := 43) (caps := [spR5 (gRc g i) (cutN i) (gz g)]) rfl rfl meets1.ok rfl H rfl rfl hE ?_ (fun d hd n hn => ?_)
    · rcases hL with hL | hL <;> rw [hL] <;> exact ⟨rfl, trivial⟩
    · have : d = .mark 2 := by simpa [Sr, mkS] using hd
      subst this
      simp only [Df.names, List.mem_singleton] at hn
      subst hn
      rcases hL with hL | hL <;> rw [hL] <;> exact ⟨_, rfl⟩
  rcases least_stop (stopP g i) i with hall | ⟨k, hk, hs, hall⟩
  · have ha : anyM g i = false := by
      rw [anyM, List.any_eq_false]
      exact fun j hj => by rw [hall j (List.mem_range.1 hj)]; simp
    have hn : ∀ j, j < cutN i → isNormal (eP g i j) = true := fun j hj => eP_norm.2 (hall j (by rw [cutN_eq] at hj; exact hj))
    have hL := llP_norm hn
    refine fin (cutN i) .normal ⟨Nat.le_refl _, .inl ⟨rfl, rfl, hn⟩⟩ ?_ (.inl hL)
    rw [hL]
    simp only [Rr, ha, T.pick, cond_false, Option.some.injEq] at hx
    exact hx.symm
  · have ha : anyM g i = true := by
      rw [anyM, List.any_eq_true]
      exact ⟨k, List.mem_range.2 hk, hs⟩
    have hL : llP g i (k + 1) = loF g i (.kb false) := by simp only [llP, hs, cond_true]
    refine fin (k + 1) .ret ⟨by rw [cutN_eq]; exact hk, .inr ⟨k, rfl, by rw [eP, hs]; rfl, by rw [eP, hs]; rfl, fun j hj => eP_norm.2 (hall j hj)⟩⟩ ?_ (.inr hL)
    rw [hL]
    simp only [Rr, ha, T.pick, cond_true, Option.some.injEq] at hx
    exact hx.symm

/-! ### the loop -/
def badP (g : Nat → Nat → Q) (i : Nat) : Bool := bif c30 g i then true else anyM g i
def apartA (n : Nat) (g : Nat → Nat → Q) : Bool := (List.range n).all fun i => !badP g i
def RP (n : Nat) (g : Nat → Nat → Q) : Out := .ite (apartA n g) (.leaf (FP (.exit 0) (V.b false))) (.leaf (FP .ret (.kb false)))

theorem apartA_false {n : Nat} {g : Nat → Nat → Q} {i : Nat} (hi : i < n) (h : badP g i = true) : apartA n g = false := by
  rw [apartA, List.all_eq_false]
  exact ⟨i, List.mem_range.2 hi, by rw [h]; simp⟩
theorem apartA_true {n : Nat} {g : Nat → Nat → Q} (h : ∀ i, i < n → badP g i = false) : apartA n g = true := by
  rw [apartA, List.all_eq_true]
  exact fun i hi => by rw [h i (List.mem_range.1 hi)]; rfl

theorem loopP (n : Nat) (g : Nat → Nat → Q) (hn : n ≤ 9223372036854775807) : ∀ x, (RP n g).pick = some x → SemC Tryd.prog (.loop bodyP) (SP n g 0) x := by
  refine loop_tree ΓP.ok (root := cod Tryd.f23) (p := [0, 1, 0, 1, 1, 1]) (by kernel_rfl) (fun i => i ≤ n ∧ ∀ j, j < i → badP g j = false) (SP n g) (fun i => n - i) (RP n g) 45 3 liveP ddP (fun i hi => ?_) 0 ⟨Nat.zero_le _, fun j hj => absurd hj (Nat.not_lt_zero _)⟩
  obtain ⟨hi, hall⟩ := hi
  have e := stepP n g i
  have hΛ : LamOK Tryd.prog (cod Tryd.f23) [(pR, orc false 45 3 [0, 2, 3, 11, 12, 13, 39] (Sr n g i) (Rr n g i))] := LamOK.orc (c := .rangeFunc (.tmp 39) #[40] rfP.1 rfP.2) (by kernel_rfl) (rangeP n g i) (LamOK.nil _ _)
  rcases Nat.lt_or_ge i n with hlt | hge
  · have hcut : decide ((0 : Int) ≤ 0 ∧ (0 : Int) ≤ (i : Int) ∧ (i : Int) ≤ (i : Int) ∧ (i : Int) ≤ (n : Int)) = true := by simp; omega
    cases hb : badP g i with
    | true =>
      refine ⟨_, .ret, _, hΛ, ?_, .inr ⟨by simp, by rw [RP, apartA_false hlt hb]; rfl⟩⟩
      rw [e, c_lt hlt, c_in hlt, hcut]
      unfold badP at hb
      cases h1 : c30 g i with
      | true => rfl
      | false =>
        rw [h1] at hb
        simp only [cond_false] at hb
        rw [hb]
        simp only [pick_ite, cond_true, cond_false, pick_leaf, decide_true]
        rfl
    | false =>
      refine ⟨_, .normal, SP n g (i + 1), hΛ, ?_, .inl ⟨rfl, i + 1, ⟨hlt, fun j hj => ?_⟩, by omega, rfl⟩⟩
      · rw [e, c_lt hlt, c_in hlt, hcut, w64_suc hlt hn]
        unfold badP at hb
        cases h1 : c30 g i with
        | true => rw [h1] at hb; simp at hb
        | false =>
          rw [h1] at hb
          simp only [cond_false] at hb
          rw [hb]
          simp only [pick_ite, cond_true, cond_false, pick_leaf, decide_true]
          rfl
      · rcases Nat.lt_or_ge j i with h | h
        · exact hall j h
        · rw [show j = i by omega]; exact hb
  · refine ⟨_, .exit 0, _, hΛ, by rw [e, c_ge hge]; rfl, .inr ⟨by simp, by rw [RP, apartA_true fun j hj => hall j (by omega)]; rfl⟩⟩

/-- Are all apart? -/
def apartB (n : Nat) (g : Nat → Nat → Q) : Bool := bif allR n g then apartA n g else false
abbrev rect_Apart.s := spL fun n g => .leaf (V.b (apartB n g))
theorem rect_Apart.ok : SpecOK Tryd.prog 23 rect_Apart.s := by
  refine okL (Γ := ΓP) ΓP.ok Tryd.func23 (by kernel_rfl) (by kernel_rfl) fun n g v hb hv => ?_
  refine ⟨[([0, 1, 0, 1, 1, 1], orc true 45 2 [0, 2, 3, 11, 12, 13] (SP n g 0) (RP n g))], LamOK.orc (c := .loop bodyP) (by kernel_rfl) (loopP n g hb.1) (LamOK.nil _ _), ?_⟩
  have e : funV Tryd.prog ΓP [([0, 1, 0, 1, 1, 1], orc true 45 2 [0, 2, 3, 11, 12, 13] (SP n g 0) (RP n g))] Tryd.f23 (cod Tryd.f23) [lst4 n g] =
      .ite (allR n g) (.ite false (.leaf (V.b false)) (.ite (@decide (SP n g 0 = SP n g 0) (Classical.propDecidable _)) (.ite (apartA n g) (.leaf (V.b true)) (.leaf (V.b false))) .bad))
        (.ite true (.leaf (V.b false)) (.ite (@decide (SP n g 0 = SP n g 0) (Classical.propDecidable _)) (.ite (apartA n g) (.leaf (V.b true)) (.leaf (V.b false))) .bad)) := by kernel_rfl
  rw [e, ← hv]
  simp only [pick_ite, pick_leaf, cond_true, cond_false, decide_true]
  unfold apartB
  cases allR n g <;> cases apartA n g <;> rfl

end Go.Proofs.YtcekbimohggnoaaDoor
