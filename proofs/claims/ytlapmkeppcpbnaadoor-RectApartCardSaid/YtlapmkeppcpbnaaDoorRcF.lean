/- The functions of the document's answer that have loops; what all laws begin with. -/
import Derived.Test.YtlapmkeppcpbnaaDoorRcE
namespace Go.Proofs.YtlapmkeppcpbnaaDoor
open Go Go.SX Go.Proofs
set_option maxRecDepth 100000
set_option linter.unusedVariables false

/-! ### the hull, by the document -/
def stJ (c r : Rc) : Rc := ⟨mn2 c.x r.x, mn2 c.y r.y, w64 (mx2 (w64 (c.x + c.w)) (w64 (r.x + r.w)) - mn2 c.x r.x), w64 (mx2 (w64 (c.y + c.h)) (w64 (r.y + r.h)) - mn2 c.y r.y)⟩
def jS (g : Nat → Nat → Q) : Nat → Rc
  | 0 => gRc g 0
  | i + 1 => stJ (jS g i) (gRc g i)
def itn {α : Type} : Nat → Bool → T α → T α
  | 0, _, t => t
  | k + 1, c, t => .ite c (itn k c t) .bad
theorem itn_true {α : Type} (k : Nat) (t : T α) : (itn k true t).pick = t.pick := by
  induction k with
  | zero => rfl
  | succ k ih => simpa [itn, T.pick] using ih

def SJ (n : Nat) (g : Nat → Nat → Q) (c : Rc) (i : Nat) : St := mkS 86 [(0, lst4 n g), (2, .ptr 0 0), (4, .ptr 1 0), (5, V.i i)] [celR z0, celR c] [] false [] 0
def XJ (c : Rc) : Ex × St := (.exit 0, mkS 86 [(2, .ptr 0 0), (4, .ptr 1 0)] [celR z0, celR c] [] false [] 0)
def EJ : Ex × St := (.ret, mkS 86 [(2, .ptr 0 0), (3, V.i 20)] [celR z0, some .dead] [] false [] 0)
def RJ (n : Nat) (g : Nat → Nat → Q) : Out := .ite (allR n g) (.leaf (XJ (jS g n))) (.leaf EJ)
noncomputable abbrev bodyJ : Code := loopAt Tryd.f15 [0, 1, 0, 1, 1, 1]
def liveJ : Ex → List Nat | .normal => [0, 2, 4, 5] | .ret => [2, 3] | _ => [2, 4]
def ddJ : Ex → List Nat | .ret => [1] | _ => []

theorem stepJ (n : Nat) (g : Nat → Nat → Q) (c : Rc) (i : Nat) :
    (sx Tryd.prog ΓE [] [0, 0, 1, 0, 1, 1, 1] bodyJ (SJ n g c i)).bind (fun x => T.leaf (x.1, deadS (ddJ x.1) (canS 86 2 (liveJ x.1) x.2), chkM 86 2 x.2))
     = .ite (decide ((i : Int) < n))
        (.ite (decide (0 ≤ (i : Int) ∧ (i : Int) < n)) (.ite (!(rightR (gRc g i))) (.leaf (EJ.1, EJ.2, true))
          (itn 6 (decide (0 ≤ (i : Int) ∧ (i : Int) < n)) (.leaf (.normal, mkS 86 [(0, lst4 n g), (2, .ptr 0 0), (4, .ptr 1 0), (5, V.i (w64 (i + 1)))] [celR z0, celR (stJ c (gRc g i))] [] false [] 0, true)))) .bad)
        (.leaf ((XJ c).1, (XJ c).2, true)) := by kernel_rfl

theorem loopJ (n : Nat) (g : Nat → Nat → Q) (hn : n ≤ 9223372036854775807) : ∀ x, (RJ n g).pick = some x → SemC Tryd.prog (.loop bodyJ) (SJ n g (gRc g 0) 0) x := by
  refine loop_tree ΓE.ok (root := cod Tryd.f15) (p := [0, 1, 0, 1, 1, 1]) (by kernel_rfl) (fun i => i ≤ n ∧ ∀ j, j < i → rightR (gRc g j) = true) (fun i => SJ n g (jS g i) i) (fun i => n - i) (RJ n g) 86 2 liveJ ddJ (fun i hi => ?_) 0 ⟨Nat.zero_le _, fun j hj => absurd hj (Nat.not_lt_zero _)⟩
  obtain ⟨hi, hall⟩ := hi
  have e := stepJ n g (jS g i) i
  rcases Nat.lt_or_ge i n with hlt | hge
  · cases hr : rightR (gRc g i) with
    | false => exact ⟨[], .ret, _, LamOK.nil _ _, by rw [e, c_lt hlt, c_in hlt, hr]; rfl, .inr ⟨by simp, by rw [RJ, allR_false hlt hr]; rfl⟩⟩
    | true =>
      refine ⟨[], .normal, SJ n g (jS g (i + 1)) (i + 1), LamOK.nil _ _, by rw [e, c_lt hlt, c_in hlt, hr, w64_suc hlt hn]; rfl, .inl ⟨rfl, i + 1, ⟨hlt, fun j hj => ?_⟩, by omega, rfl⟩⟩
      rcases Nat.lt_or_ge j i with h | h
      · exact hall j h
      · rw [show j = i by omega]; exact hr
  · exact ⟨[], .exit 0, _, LamOK.nil _ _, by rw [e, c_ge hge]; rfl, .inr ⟨by simp, by rw [RJ, allR_true fun j hj => hall j (by omega), show n = i by omega]; rfl⟩⟩

abbrev refHull.s := spL fun n g => .leaf (rx (bR (hOK n g) (jS g n) z0) (bif hOK n g then 0 else 20))
theorem refHull.ok : SpecOK Tryd.prog 15 refHull.s := by
  refine okL (Γ := ΓE) ΓE.ok Tryd.func15 (by kernel_rfl) (by kernel_rfl) fun n g v hb hv => ?_
  refine ⟨[([0, 1, 0, 1, 1, 1], orc false 86 2 [0, 2, 4, 5] (SJ n g (gRc g 0) 0) (RJ n g))], LamOK.orc (c := .loop bodyJ) (by kernel_rfl) (loopJ n g hb.1) (LamOK.nil _ _), ?_⟩
  have e : funV Tryd.prog ΓE [([0, 1, 0, 1, 1, 1], orc false 86 2 [0, 2, 4, 5] (SJ n g (gRc g 0) 0) (RJ n g))] Tryd.f15 (cod Tryd.f15) [lst4 n g] =
      .ite ((n : Int) == 0) (.leaf (rx z0 20)) (.ite (decide ((0 : Int) ≤ 0 ∧ (0 : Int) < (n : Int))) (.ite (@decide (SJ n g (gRc g 0) 0 = SJ n g (gRc g 0) 0) (Classical.propDecidable _)) (.ite (allR n g) (.leaf (rx (jS g n) 0)) (.leaf (rx z0 20))) .bad) .bad) := by kernel_rfl
  rw [e, ← hv]
  unfold hOK bR
  cases h2 : ((n : Int) == 0) with
  | true => cases allR n g <;> rfl
  | false =>
    have h3 : n ≠ 0 := fun h => by subst h; simp at h2
    have c1 : decide ((0 : Int) ≤ 0 ∧ (0 : Int) < (n : Int)) = true := by simp; omega
    simp only [pick_ite, pick_leaf, cond_true, cond_false, decide_true, c1]
    cases allR n g <;> rfl

/-! ### are all apart, by the document -/
def stopO (g : Nat → Nat → Q) (i k : Nat) : Bool := decide ((bR (okA (gRc g i) (gRc g k)) (meetR (gRc g i) (gRc g k)) z0).w > 0)
def anyO (g : Nat → Nat → Q) (i : Nat) : Bool := (List.range i).any fun k => stopO g i k
def SI (n : Nat) (g : Nat → Nat → Q) (i k : Nat) : St := mkS 39 [(0, lst4 n g), (3, V.i i), (4, V.i k)] [] [] false [] 0
def XI (n : Nat) (g : Nat → Nat → Q) (i : Nat) : Ex × St := (.exit 2, mkS 39 [(0, lst4 n g), (3, V.i i)] [] [] false [] 0)
def EI : Ex × St := (.ret, mkS 39 [(2, V.b false)] [] [] false [] 0)
def RI (n : Nat) (g : Nat → Nat → Q) (i : Nat) : Out := .ite (anyO g i) (.leaf EI) (.leaf (XI n g i))
abbrev pI : List Nat := [0, 1, 1, 0, 0, 1, 0, 0, 1, 0, 1]
noncomputable abbrev bodyI : Code := loopAt Tryd.f25 pI
noncomputable abbrev bodyO : Code := loopAt Tryd.f25 [0, 1, 0, 1]
def liveI : Ex → List Nat | .normal => [0, 3, 4] | .ret => [2] | _ => [0, 3]
abbrev ΓI : Gam := (13, rect_Meet.s) :: ΓE
theorem ΓI.ok : GOK Tryd.prog ΓI := .cons ref_Meet.ok ΓE.ok

theorem stepI (n : Nat) (g : Nat → Nat → Q) (i k : Nat) :
    (sx Tryd.prog ΓI [] (0 :: pI) bodyI (SI n g i k)).bind (fun x => T.leaf (x.1, deadS [] (canS 39 0 (liveI x.1) x.2), chkM 39 0 x.2))
     = .ite (decide ((k : Int) < i))
        (.ite (decide (0 ≤ (i : Int) ∧ (i : Int) < n)) (.ite (decide (0 ≤ (k : Int) ∧ (k : Int) < n)) (.ite (stopO g i k) (.leaf (EI.1, EI.2, true))
          (.leaf (.normal, mkS 39 [(0, lst4 n g), (3, V.i i), (4, V.i (w64 (k + 1)))] [] [] false [] 0, true))) .bad) .bad)
        (.leaf ((XI n g i).1, (XI n g i).2, true)) := by kernel_rfl

theorem loopI (n : Nat) (g : Nat → Nat → Q) (i : Nat) (hi : i < n) (hn : n ≤ 9223372036854775807) : ∀ x, (RI n g i).pick = some x → SemC Tryd.prog (.loop bodyI) (SI n g i 0) x := by
  refine loop_tree ΓI.ok (root := cod Tryd.f25) (p := pI) (by kernel_rfl) (fun k => k ≤ i ∧ ∀ j, j < k → stopO g i j = false) (SI n g i) (fun k => i - k) (RI n g i) 39 0 liveI (fun _ => []) (fun k hk => ?_) 0 ⟨Nat.zero_le _, fun j hj => absurd hj (Nat.not_lt_zero _)⟩
  obtain ⟨hk, hall⟩ := hk
  have e := stepI n g i k
  rcases Nat.lt_or_ge k i with hlt | hge
  · have hkn : k < n := by omega
    cases hr : stopO g i k with
    | true => exact ⟨[], .ret, _, LamOK.nil _ _, by rw [e, c_lt hlt, c_in hi, c_in hkn, hr]; rfl, .inr ⟨by simp, by
        have : anyO g i = true := by rw [anyO, List.any_eq_true]; exact ⟨k, List.mem_range.2 hlt, hr⟩
        rw [RI, this]; rfl⟩⟩
    | false =>
      refine ⟨[], .normal, SI n g i (k + 1), LamOK.nil _ _, by rw [e, c_lt hlt, c_in hi, c_in hkn, hr, w64_suc hkn hn]; rfl, .inl ⟨rfl, k + 1, ⟨hlt, fun j hj => ?_⟩, by omega, rfl⟩⟩
      rcases Nat.lt_or_ge j k with h | h
      · exact hall j h
      · rw [show j = k by omega]; exact hr
  · exact ⟨[], .exit 2, _, LamOK.nil _ _, by rw [e, c_ge hge]; rfl, .inr ⟨by simp, by
      have : anyO g i = false := by rw [anyO, List.any_eq_false]; exact fun j hj => by rw [hall j (by have := List.mem_range.1 hj; omega)]; simp
      rw [RI, this]; rfl⟩⟩

def SO (n : Nat) (g : Nat → Nat → Q) (i : Nat) : St := mkS 39 [(0, lst4 n g), (3, V.i i)] [] [] false [] 0
def XO : Ex × St := (.exit 0, mkS 39 [] [] [] false [] 0)
def badO (g : Nat → Nat → Q) (i : Nat) : Bool := bif !(rightR (gRc g i)) then true else anyO g i
def apartD (n : Nat) (g : Nat → Nat → Q) : Bool := (List.range n).all fun i => !badO g i
def RO (n : Nat) (g : Nat → Nat → Q) : Out := .ite (apartD n g) (.leaf XO) (.leaf EI)
def liveO : Ex → List Nat | .normal => [0, 3] | .ret => [2] | _ => []

theorem stepO (n : Nat) (g : Nat → Nat → Q) (i : Nat) :
    (sx Tryd.prog ΓI [(pI, orc false 39 0 [0, 3, 4] (SI n g i 0) (RI n g i))] [0, 0, 1, 0, 1] bodyO (SO n g i)).bind (fun x => T.leaf (x.1, deadS [] (canS 39 0 (liveO x.1) x.2), chkM 39 0 x.2))
     = .ite (decide ((i : Int) < n))
        (.ite (decide (0 ≤ (i : Int) ∧ (i : Int) < n)) (.ite (!(rightR (gRc g i))) (.leaf (EI.1, EI.2, true))
          (.ite (@decide (SI n g i 0 = SI n g i 0) (Classical.propDecidable _)) (.ite (anyO g i) (.leaf (EI.1, EI.2, true)) (.leaf (.normal, mkS 39 [(0, lst4 n g), (3, V.i (w64 (i + 1)))] [] [] false [] 0, true))) .bad)) .bad)
        (.leaf (XO.1, XO.2, true)) := by kernel_rfl

theorem stepOx (n : Nat) (g : Nat → Nat → Q) (i : Nat) :
    (sx Tryd.prog ΓI [] [0, 0, 1, 0, 1] bodyO (SO n g i)).bind (fun x => T.leaf (x.1, deadS [] (canS 39 0 (liveO x.1) x.2), chkM 39 0 x.2))
     = .ite (decide ((i : Int) < n)) (.ite (decide (0 ≤ (i : Int) ∧ (i : Int) < n)) (.ite (!(rightR (gRc g i))) (.leaf (EI.1, EI.2, true)) .bad) .bad)
        (.leaf (XO.1, XO.2, true)) := by kernel_rfl

theorem loopO (n : Nat) (g : Nat → Nat → Q) (hn : n ≤ 9223372036854775807) : ∀ x, (RO n g).pick = some x → SemC Tryd.prog (.loop bodyO) (SO n g 0) x := by
  refine loop_tree ΓI.ok (root := cod Tryd.f25) (p := [0, 1, 0, 1]) (by kernel_rfl) (fun i => i ≤ n ∧ ∀ j, j < i → badO g j = false) (SO n g) (fun i => n - i) (RO n g) 39 0 liveO (fun _ => []) (fun i hi => ?_) 0 ⟨Nat.zero_le _, fun j hj => absurd hj (Nat.not_lt_zero _)⟩
  obtain ⟨hi, hall⟩ := hi
  have e := stepO n g i
  rcases Nat.lt_or_ge i n with hlt | hge
  · have hΛ : LamOK Tryd.prog (cod Tryd.f25) [(pI, orc false 39 0 [0, 3, 4] (SI n g i 0) (RI n g i))] := LamOK.orc (c := .loop bodyI) (by kernel_rfl) (loopI n g i hlt hn) (LamOK.nil _ _)
    cases hb : badO g i with
    | true =>
      refine ⟨_, .ret, _, hΛ, ?_, .inr ⟨by simp, by
        have : apartD n g = false := by rw [apartD, List.all_eq_false]; exact ⟨i, List.mem_range.2 hlt, by rw [hb]; simp⟩
        rw [RO, this]; rfl⟩⟩
      rw [e, c_lt hlt, c_in hlt]
      unfold badO at hb
      cases h1 : rightR (gRc g i) with
      | false => rfl
      | true =>
        rw [h1] at hb
        simp only [Bool.not_true, cond_false] at hb
        rw [hb]
        simp only [pick_ite, cond_true, cond_false, pick_leaf, decide_true, Bool.not_true]
        rfl
    | false =>
      refine ⟨_, .normal, SO n g (i + 1), hΛ, ?_, .inl ⟨rfl, i + 1, ⟨hlt, fun j hj => ?_⟩, by omega, rfl⟩⟩
      · rw [e, c_lt hlt, c_in hlt, w64_suc hlt hn]
        unfold badO at hb
        cases h1 : rightR (gRc g i) with
        | false => rw [h1] at hb; simp at hb
        | true =>
          rw [h1] at hb
          simp only [Bool.not_true, cond_false] at hb
          rw [hb]
          simp only [pick_ite, cond_true, cond_false, pick_leaf, decide_true, Bool.not_true]
          rfl
      · rcases Nat.lt_or_ge j i with h | h
        · exact hall j h
        · rw [show j = i by omega]; exact hb
  · exact ⟨[], .exit 0, _, LamOK.nil _ _, by rw [stepOx n g i, c_ge hge]; rfl, .inr ⟨by simp, by
      have : apartD n g = true := by rw [apartD, List.all_eq_true]; exact fun j hj => by rw [hall j (by have := List.mem_range.1 hj; omega)]; rfl
      rw [RO, this]; rfl⟩⟩

abbrev refApart.s := spL fun n g => .leaf (V.b (apartD n g))
theorem refApart.ok : SpecOK Tryd.prog 25 refApart.s := by
  refine okL (Γ := ΓI) ΓI.ok Tryd.func25 (by kernel_rfl) (by kernel_rfl) fun n g v hb hv => ?_
  refine ⟨[([0, 1, 0, 1], orc false 39 0 [0, 3] (SO n g 0) (RO n g))], LamOK.orc (c := .loop bodyO) (by kernel_rfl) (loopO n g hb.1) (LamOK.nil _ _), ?_⟩
  have e : funV Tryd.prog ΓI [([0, 1, 0, 1], orc false 39 0 [0, 3] (SO n g 0) (RO n g))] Tryd.f25 (cod Tryd.f25) [lst4 n g] =
      .ite (@decide (SO n g 0 = SO n g 0) (Classical.propDecidable _)) (.ite (apartD n g) (.leaf (V.b true)) (.leaf (V.b false))) .bad := by kernel_rfl
  rw [e, pick_same, ← hv]
  cases apartD n g <;> rfl

/-! ### what all laws begin with -/
abbrev fewN (n : Nat) : Nat := (mn2 (n : Int) 30).toNat - (0 : Int).toNat
abbrev few.s := spL fun n g => .leaf (lst4 (fewN n) (gz g))
theorem few.ok : SpecOK Tryd.prog 11 few.s := by
  refine okL (Γ := []) (GOK.nil _) Tryd.func11 (by kernel_rfl) (by kernel_rfl) fun n g v hb hv => ⟨[], LamOK.nil _ _, ?_⟩
  have e : funV Tryd.prog [] [] Tryd.f11 (cod Tryd.f11) [lst4 n g] =
      .ite (decide ((0 : Int) ≤ 0 ∧ (0 : Int) ≤ mn2 (n : Int) 30 ∧ mn2 (n : Int) 30 ≤ (n : Int))) (.leaf (lst4 (fewN n) (gz g))) .bad := by kernel_rfl
  have c1 : decide ((0 : Int) ≤ 0 ∧ (0 : Int) ≤ mn2 (n : Int) 30 ∧ mn2 (n : Int) 30 ≤ (n : Int)) = true := by
    simp only [mn2]; split <;> simp <;> omega
  rw [e, c1]; exact hv

abbrev ΓS : Gam := [(12, rect_Meet.s), (14, rect_Hull.s), (16, rect_Move.s), (19, rect_Right.s), (21, rect_Apart.s)]
theorem ΓS.ok : GOK Tryd.prog ΓS := .cons rect_Meet.ok (.cons rect_Hull.ok (.cons rect_Move.ok (.cons rect_Right.ok (.cons rect_Apart.ok (GOK.nil _)))))
def shown.s : List V → T V
  | [] => .leaf (V.b true)
  | _ => .bad
theorem shown.ok : SpecOK Tryd.prog 10 shown.s := by
  refine specOK_of_body ΓS.ok (LamOK.nil _ _) Tryd.func10 (isBody _ (by kernel_rfl)) (by kernel_rfl) fun args r h => ?_
  unfold shown.s at h
  split at h
  · have e : (funV Tryd.prog ΓS [] Tryd.f10 (cod Tryd.f10) []).pick = some (V.b true) := by kernel_rfl
    rw [e]; exact h
  · cases h
end Go.Proofs.YtlapmkeppcpbnaaDoor
