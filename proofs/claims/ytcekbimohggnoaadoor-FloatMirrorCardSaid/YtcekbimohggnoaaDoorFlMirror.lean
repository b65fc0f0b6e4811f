/- The card of FloatMirror: with all sides turned about, floats are placed as in a mirror, if none is wider than the width. -/
import Derived.Test.YtcekbimohggnoaaDoorFlO
namespace Go.Proofs.YtcekbimohggnoaaDoor
open Go Go.SX Go.Proofs Go.RowKit Go.ChangeShapes
set_option maxRecDepth 100000
set_option linter.unusedVariables false
set_option linter.unusedSectionVars false
set_option linter.unusedSimpArgs false

section
variable [EA]
/-! ### in plain numbers -/
abbrev mirR (w : Int) (r : Rc) : Rc := ⟨w - r.x - r.w, r.y, r.w, r.h⟩
def Mir (n : Nat) (g g' : Nat → Nat → Q) (w : Int) : Prop := ∀ k, k < n → gRc g' k = mirR w (gRc g k)
structure Turn (m : Nat) (f f' : Nat → Nat → Q) : Prop where
  t : ∀ k, k < m → gFl f' k = ⟨(gFl f k).w, (gFl f k).h, !(gFl f k).r, (gFl f k).c⟩
theorem mir_low {n : Nat} {g g' : Nat → Nat → Q} {w : Int} (h : Mir n g g' w) : ∀ k, k ≤ n → lowS g' k = lowS g k
  | 0, _ => rfl
  | k + 1, hk => by simp only [lowS]; rw [mir_low h k (by omega), h k (by omega)]
theorem mir_lE {n : Nat} {g g' : Nat → Nat → Q} {w y : Int} (h : Mir n g g' w) : ∀ k, k ≤ n → lE g' y k = lE g y k
  | 0, _ => rfl
  | k + 1, hk => by simp only [lE]; rw [mir_lE h k (by omega), h k (by omega)]
theorem mir_yB {n : Nat} {g g' : Nat → Nat → Q} {w : Int} (hn : n ≤ 20) (h : Mir n g g' w) : yB n g' = yB n g := by
  rcases Nat.eq_zero_or_pos n with h0 | hpos
  · have g1 : decide ((n : Int) > 0) = false := by simp [h0]
    simp only [yB, g1, cond_false]
  · simp only [yB]
    rw [yL_eq hpos hn, yL_eq hpos hn, h (n - 1) (by omega)]
theorem mir_ends {n : Nat} {g g' : Nat → Nat → Q} {w y : Int} (h : Mir n g g' w) : ∀ k, k ≤ n → rEb g' y k = rEb g y k
  | 0, _ => rfl
  | k + 1, hk => by simp only [rEb]; rw [mir_ends h k (by omega), h k (by omega)]
theorem mir_any {n : Nat} {g g' : Nat → Nat → Q} {w y hh : Int} (h : Mir n g g' w) : anyBes n g' y hh = anyBes n g y hh := by
  unfold anyBes
  have : ∀ l : List Nat, (∀ k ∈ l, k < n) → (l.any fun i => besB (gRc g' i) y hh) = l.any fun i => besB (gRc g i) y hh := by
    intro l
    induction l with
    | nil => intro _; rfl
    | cons k l ih =>
      intro hk
      rw [List.any_cons, List.any_cons, ih fun j hj => hk j (List.mem_cons_of_mem _ hj), h k (hk k List.mem_cons_self)]
      rfl
  exact this _ fun k hk => List.mem_range.1 hk
theorem mir_ins {n m : Nat} {g g' f f' : Nat → Nat → Q} {w y hh : Int} (h : Mir n g g' w) (t : Turn m f f') (hnm : n ≤ m) (b : Bool) : ∀ k, k ≤ n → rI g' f' w y hh (!b) k = rI g f w y hh b k
  | 0, _ => rfl
  | k + 1, hk => by
    have ih := mir_ins (y := y) (hh := hh) h t hnm b k (by omega)
    have hg := h k (by omega)
    have hf := t.t k (by omega)
    simp only [rI]
    have e1 : skipB (gRc g' k) y hh = skipB (gRc g k) y hh := by rw [hg]; rfl
    have e2 : ((gFl f' k).r == !b) = ((gFl f k).r == b) := by
      rw [hf]
      cases (gFl f k).r <;> cases b <;> rfl
    have e3 : insN w (gRc g' k) (!b) = insN w (gRc g k) b := by
      rw [hg]
      cases b with
      | false => show w64 (w - (w - (gRc g k).x - (gRc g k).w)) = w64 ((gRc g k).x + (gRc g k).w); congr 1; omega
      | true => show w64 (w - (gRc g k).x - (gRc g k).w + (gRc g k).w) = w64 (w - (gRc g k).x); congr 1; omega
    rw [ih, e1, e2, e3]

theorem mir_fits {n m : Nat} {g g' f f' : Nat → Nat → Q} {w y : Int} {x x' : Fl} (h : Mir n g g' w) (t : Turn m f f') (hnm : n ≤ m) (hx : x' = ⟨x.w, x.h, !x.r, x.c⟩) : fitsB n g' f' w x' y = fitsB n g f w x y := by
  subst hx
  unfold fitsB
  have e1 := mir_ins (y := y) (hh := x.h) h t hnm true n (Nat.le_refl _)
  have e2 := mir_ins (y := y) (hh := x.h) h t hnm false n (Nat.le_refl _)
  simp only [Bool.not_true, Bool.not_false] at e1 e2
  simp only [e1, e2, mir_any h]
  rw [Int.add_comm (rI g f w y x.h true n)]
theorem mir_ry {n : Nat} {g g' : Nat → Nat → Q} {w y : Int} (h : Mir n g g' w) : ∀ k, ryK n g' y k = ryK n g y k
  | 0 => rfl
  | k + 1 => by simp only [ryK]; rw [mir_ry h k, mir_ends h n (Nat.le_refl _)]

theorem mir_one {n m : Nat} {g g' f f' : Nat → Nat → Q} {w : Int} {x x' : Fl} (hg : All n g f w) (hg' : All n g' f' w) (kx : XOK x w) (kx' : XOK x' w) (hw : x.w ≤ w) (h : Mir n g g' w) (t : Turn m f f') (hnm : n ≤ m) (hx : x' = ⟨x.w, x.h, !x.r, x.c⟩) :
    rplR n g' f' w x' = mirR w (rplR n g f w x) := by
  obtain ⟨_, _, p, hex, hfit⟩ := pl_one (f := f) hg.ok kx
  obtain ⟨_, _, p', hex', _⟩ := pl_one (f := f') hg'.ok kx'
  have ey : leY n g' x' (yB n g') = leY n g x (yB n g) := by
    rw [hx]
    unfold leY
    rw [mir_yB hg.ok.hn h, mir_lE h n (Nat.le_refl _)]
  have hl : lastR n g' f' w x' (leY n g x (yB n g)) = lastR n g f w x (leY n g x (yB n g)) := by
    refine lastR_is ?_ fun j hj => ?_
    · show fitsB n g' f' w x' (ryK n g' _ _) = true
      rw [mir_fits h t hnm hx, mir_ry h]
      exact lastR_spec hex
    · rw [mir_fits h t hnm hx, mir_ry h]
      exact lastR_before hex hj
  have hY : rplY n g' f' w x' = rplY n g f w x := by
    show ryK n g' (leY n g' x' (yB n g')) (lastR n g' f' w x' (leY n g' x' (yB n g'))) = ryK n g (leY n g x (yB n g)) (lastR n g f w x (leY n g x (yB n g)))
    rw [ey, hl, mir_ry h]
  have hb := nMS hg.ok.hn
  have q : YH (rplY n g f w x) x.h := ⟨p.y0, by have : rplY n g f w x ≤ (n : Int) * MS := p.y1; omega, kx.h0, kx.h1⟩
  have q' : YH (rplY n g f w x) x'.h := by rw [hx]; exact q
  have a1 := rAt_eq (f := f) hg.ok kx q
  have a2 := rAt_eq (f := f') hg'.ok kx' q'
  have i1 := mir_ins (y := rplY n g f w x) (hh := x.h) h t hnm true n (Nat.le_refl _)
  have i2 := mir_ins (y := rplY n g f w x) (hh := x.h) h t hnm false n (Nat.le_refl _)
  simp only [Bool.not_true, Bool.not_false] at i1 i2
  have s1 : rAt n g f w x (rplY n g f w x) + x.w ≤ w := by
    have : rAt n g f w x (rplY n g f w x) + x.w ≤ w ∨ (w < x.w ∧ rAt n g f w x (rplY n g f w x) = 0) := p.xw
    omega
  have s2 : rAt n g' f' w x' (rplY n g f w x) + x'.w ≤ w := by
    have : rAt n g' f' w x' (rplY n g' f' w x') + x'.w ≤ w ∨ (w < x'.w ∧ rAt n g' f' w x' (rplY n g' f' w x') = 0) := p'.xw
    rw [hY] at this
    have e : x'.w = x.w := by rw [hx]
    omega
  have eX : rAt n g' f' w x' (rplY n g f w x) = w - rAt n g f w x (rplY n g f w x) - x.w := by
    have e1 : x'.w = x.w := by rw [hx]
    have e2 : x'.h = x.h := by rw [hx]
    have e3 : x'.r = !x.r := by rw [hx]
    rw [e1, e2, e3, i1, i2] at a2
    rw [a2] at s2
    rw [a1] at s1
    rw [a1, a2]
    cases hr : x.r with
    | false => simp only [hr, Bool.not_false, if_true, Bool.false_eq_true, if_false] at s1 s2 ⊢; omega
    | true => simp only [hr, Bool.not_true, if_true, Bool.false_eq_true, if_false] at s1 s2 ⊢; omega
  show (⟨rAt n g' f' w x' (rplY n g' f' w x'), rplY n g' f' w x', x'.w, x'.h⟩ : Rc) = ⟨w - rAt n g f w x (rplY n g f w x) - x.w, rplY n g f w x, x.w, x.h⟩
  rw [hY, eX, hx]

theorem Turn.fok {m : Nat} {f f' : Nat → Nat → Q} {w : Int} (t : Turn m f f') (h : FOK m f w) : FOK m f' w := ⟨h.hm, h.h0, h.h1, fun i hi => by rw [t.t i hi]; exact h.hf i hi⟩
theorem mir_all {m : Nat} {f f' : Nat → Nat → Q} {w : Int} (hF : FOK m f w) (t : Turn m f f') (hw : ∀ i, i < m → (gFl f i).w ≤ w) : ∀ i, i ≤ m → Mir i (gR f w i) (gR f' w i) w
  | 0, _ => fun k hk => by omega
  | i + 1, hi => fun k hk => by
    have ih := mir_all hF t hw i (by omega)
    show gRc (catG i (gR f' w i) (one1 (rplR i (gR f' w i) f' w (gFl f' i)))) k = mirR w (gRc (catG i (gR f w i) (one1 (rplR i (gR f w i) f w (gFl f i)))) k)
    rcases Nat.lt_or_ge k i with hlt | hge
    · rw [cat_lt hlt, cat_lt hlt]; exact ih k hlt
    · obtain rfl : k = i := by omega
      rw [cat_at, cat_at]
      exact mir_one (gR_all hF k (by omega)) (gR_all (t.fok hF) k (by omega)) (hF.xok hi) ((t.fok hF).xok hi) (hw k hi) ih t (by omega) (t.t k hi)
theorem Turn.right {m : Nat} {f f' : Nat → Nat → Q} {w : Int} (t : Turn m f f') : rightF m f' w = rightF m f w := by
  cases hr : rightF m f w with
  | true => exact right_ok.2 (t.fok (right_ok.1 hr))
  | false =>
    cases hr' : rightF m f' w with
    | false => rfl
    | true =>
      have t' : Turn m f' f := ⟨fun k hk => by rw [t.t k hk, Bool.not_not]⟩
      rw [right_ok.2 (t'.fok (right_ok.1 hr'))] at hr; cases hr

/-! ### all sides turned about -/
noncomputable abbrev ΓL6 : Gam := [(10, shown.s), (11, few.s), (16, fPlace.s)]
theorem ΓL6.ok : GOK Tryd.prog ΓL6 := .cons shown.ok (.cons few.ok (.cons fPlace.ok (GOK.nil _)))
abbrev turn1 (x : Fl) : Nat → Nat → Q := rows [[.c (.int .i64 x.w), .c (.int .i64 x.h), .c (.bool (!x.r)), .c (.bool x.c)]]
def fM (f : Nat → Nat → Q) : Nat → Nat → Nat → Q
  | 0 => fun _ _ => default
  | i + 1 => catG i (fM f i) (turn1 (gFl f i))
theorem fM_at (f : Nat → Nat → Q) {k : Nat} : ∀ i, k < i → gFl (fM f i) k = ⟨(gFl f k).w, (gFl f k).h, !(gFl f k).r, (gFl f k).c⟩
  | 0, h => by omega
  | i + 1, h => by
    rcases Nat.lt_or_ge k i with hlt | hge
    · rw [← fM_at f i hlt]
      simp only [fM, gFl, catG, decide_eq_true hlt, cond_true]
    · obtain rfl : k = i := by omega
      have : decide (k < k) = false := by simp
      simp only [fM, gFl, catG, this, cond_false, Nat.sub_self]
      rfl
theorem fM_turn (f : Nat → Nat → Q) (m : Nat) : Turn m f (fM f m) := ⟨fun k hk => fM_at f m hk⟩
abbrev vecF (n : Nat) (g : Nat → Nat → Q) : Option Ob := some (.vec 37 ksF n g)
def SMi (n : Nat) (gm : Nat → Nat → Q) (m : Nat) (f : Nat → Nat → Q) (w i : Int) : St := mkS 130 [(0, lstF m f), (1, V.i w), (5, V.b true), (6, .own 0), (7, V.i i)] [vecF n gm] [] false [] 0
def SMz (gm : Nat → Nat → Q) (m : Nat) (f : Nat → Nat → Q) (w : Int) : St := mkS 130 [(0, lstF m f), (1, V.i w), (5, V.b true), (6, lstF m gm)] [none] [] false [] 0
def retM : St := mkS 130 [(4, V.b true)] [none] [] false [] 0
def liveM1 : Ex → List Nat | .normal => [0, 1, 5, 6, 7] | .ret => [4] | _ => [0, 1, 5, 6]
def poM1 : Ex → St → St
  | .normal, s => mvL [(25, 0)] s
  | _, s => fzS 0 s
theorem poM1_ok (e : Ex) (s : St) : Sub Tryd.prog s (poM1 e s) := by
  unfold poM1
  split
  · exact sub_mvL _ _
  · exact sub_fz 0 _
abbrev pM1 : List Nat := [0, 1, 0, 1, 1, 1, 1]
noncomputable abbrev bodyM1 : Code := loopAt Tryd.f5 pM1
noncomputable abbrev treeM1 (n : Nat) (gm : Nat → Nat → Q) (m : Nat) (f : Nat → Nat → Q) (w : Int) (i : Nat) : T (Ex × St × Bool) :=
  (sx Tryd.prog ΓL6 [] (0 :: pM1) bodyM1 (SMi n gm m f w i)).bind (fun x => T.leaf (x.1, deadS [] (canS 130 1 (liveM1 x.1) (poM1 x.1 x.2)), chkM 130 1 (poM1 x.1 x.2)))
theorem stepM1 (n : Nat) (gm : Nat → Nat → Q) (m : Nat) (f : Nat → Nat → Q) (w : Int) (i : Nat) : treeM1 n gm m f w i =
    .ite (decide ((i : Int) < m)) (.ite (inI i m) (.ite (decide ((gFl f i).w > w)) (.leaf (.ret, retM, true))
      (.ite (inI i m) (.ite (inI i m) (.ite (inI i m) (.ite (inI i m) (.ite (roomB n 1 24) (.leaf (.normal, SMi (n + 1) (catG n gm (turn1 (gFl f i))) m f w (w64 (i + 1)), true)) .bad) .bad) .bad) .bad) .bad)) .bad)
      (.leaf (.exit 0, mkS 130 [(0, lstF m f), (1, V.i w), (5, V.b true), (6, lstF n gm)] [none] [] false [] 0, true)) := by kernel_rfl
abbrev wideB (m : Nat) (f : Nat → Nat → Q) (w : Int) : Bool := (List.range m).any fun i => decide ((gFl f i).w > w)
def RM1 (m : Nat) (f : Nat → Nat → Q) (w : Int) (gm : Nat → Nat → Q) : Out := .ite (wideB m f w) (.leaf (.ret, retM)) (.leaf (.exit 0, SMz gm m f w))
theorem loopM1 (m : Nat) (f : Nat → Nat → Q) (w : Int) (hm : m ≤ 1000000) : ∀ x, (RM1 m f w (fM f m)).pick = some x → SemC Tryd.prog (.loop bodyM1) (SMi 0 (fM f 0) m f w 0) x := by
  refine loop_treeP ΓL6.ok (root := cod Tryd.f5) (p := pM1) (by kernel_rfl) (fun i => i ≤ m ∧ ∀ j, j < i → (gFl f j).w ≤ w) (fun i => SMi i (fM f i) m f w i) (fun i => m - i) (RM1 m f w (fM f m)) 130 1 liveM1 (fun _ => []) poM1 poM1_ok (fun i hi => ?_) 0 ⟨Nat.zero_le _, fun j hj => by omega⟩
  obtain ⟨hi, hall⟩ := hi
  have e := stepM1 i (fM f i) m f w i
  rcases Nat.lt_or_ge i m with hlt | hge
  · rw [c_lt hlt, inI, c_in hlt] at e
    cases hw : decide ((gFl f i).w > w) with
    | true =>
      refine ⟨[], .ret, _, LamOK.nil _ _, (congrArg T.pick e).trans (by rw [hw]; rfl), .inr ⟨by simp, ?_⟩⟩
      have : wideB m f w = true := List.any_eq_true.2 ⟨i, List.mem_range.2 hlt, hw⟩
      rw [RM1, pick_ite, this]; rfl
    | false =>
      have hr : roomB i 1 24 = true := by simp [roomB]; omega
      refine ⟨[], .normal, SMi (i + 1) (fM f (i + 1)) m f w (i + 1 : Nat), LamOK.nil _ _, (congrArg T.pick e).trans (by rw [hw, hr, w64_suc hlt (by omega)]; rfl), .inl ⟨rfl, i + 1, ⟨hlt, fun j hj => ?_⟩, by omega, rfl⟩⟩
      rcases Nat.lt_or_ge j i with h | h
      · exact hall j h
      · rw [show j = i by omega]
        rw [decide_eq_false_iff_not] at hw
        omega
  · have hin : i = m := by omega
    subst hin
    refine ⟨[], .exit 0, _, LamOK.nil _ _, (congrArg T.pick e).trans (by rw [c_ge hge]; rfl), .inr ⟨by simp, ?_⟩⟩
    have : wideB i f w = false := by
      rw [wideB, List.any_eq_false]
      intro j hj
      have := hall j (List.mem_range.1 hj)
      simp; omega
    rw [RM1, pick_ite, this]; rfl

/-! ### both compared -/
def SN2 (n : Nat) (g : Nat → Nat → Q) (n' : Nat) (g' : Nat → Nat → Q) (w i : Int) : St := mkS 130 [(1, V.i w), (5, V.b true), (8, lst4 n g), (10, lst4 n' g'), (12, V.i i)] [] [] false [] 0
def FN2 : Ex × St := (.exit 2, mkS 130 [(5, V.b true)] [] [] false [] 0)
def liveM2 : Ex → List Nat | .normal => [1, 5, 8, 10, 12] | .ret => [4] | _ => [5]
abbrev pM2 : List Nat := [0, 1, 0, 1, 1, 1, 1, 1, 1, 1, 1, 1]
noncomputable abbrev bodyM2 : Code := loopAt Tryd.f5 pM2
noncomputable abbrev treeM2 (n : Nat) (g : Nat → Nat → Q) (n' : Nat) (g' : Nat → Nat → Q) (w : Int) (i : Nat) : T (Ex × St × Bool) :=
  (sx Tryd.prog ΓL6 [] (0 :: pM2) bodyM2 (SN2 n g n' g' w i)).bind (fun x => T.leaf (x.1, deadS [] (canS 130 0 (liveM2 x.1) x.2), chkM 130 0 x.2))
abbrev neY (g g' : Nat → Nat → Q) (i : Nat) : Bool := !((gRc g i).y == (gRc g' i).y)
abbrev neS (g g' : Nat → Nat → Q) (w : Int) (i : Nat) : Bool := !(w64 (w64 ((gRc g i).x + (gRc g i).w) + (gRc g' i).x) == w)
def okM2 (g : Nat → Nat → Q) (n : Nat) (g' : Nat → Nat → Q) (n' : Nat) (i : Nat) : Bool := bif inI i n then (bif inI i n' then (bif neY g g' i then true else (bif inI i n then (bif inI i n then (bif inI i n' then true else false) else false) else false)) else false) else false
theorem stepM2 (n : Nat) (g : Nat → Nat → Q) (n' : Nat) (g' : Nat → Nat → Q) (w : Int) (i : Nat) : (treeM2 n g n' g' w i).pathC [true, true, false] = [decide ((i : Int) < n), okM2 g n g' n' i, bif neY g g' i then true else neS g g' w i] := by kernel_rfl
theorem stepM2' (n : Nat) (g : Nat → Nat → Q) (n' : Nat) (g' : Nat → Nat → Q) (w : Int) (i : Nat) : (treeM2 n g n' g' w i).pathL [true, true, false] = .leaf (.normal, SN2 n g n' g' w (w64 (i + 1)), true) := by kernel_rfl
theorem stepM2x (n : Nat) (g : Nat → Nat → Q) (n' : Nat) (g' : Nat → Nat → Q) (w : Int) (i : Nat) : (treeM2 n g n' g' w i).pathC [false] = [decide ((i : Int) < n)] := by kernel_rfl
theorem stepM2x' (n : Nat) (g : Nat → Nat → Q) (n' : Nat) (g' : Nat → Nat → Q) (w : Int) (i : Nat) : (treeM2 n g n' g' w i).pathL [false] = .leaf (FN2.1, FN2.2, true) := by kernel_rfl
theorem loopM2 (n : Nat) (g : Nat → Nat → Q) (n' : Nat) (g' : Nat → Nat → Q) (w : Int) (hn : n ≤ 9223372036854775807) (hnn : n = n') (hy : ∀ i, i < n → neY g g' i = false) (hs : ∀ i, i < n → neS g g' w i = false) : ∀ x, (T.leaf FN2).pick = some x → SemC Tryd.prog (.loop bodyM2) (SN2 n g n' g' w 0) x := by
  refine loop_tree ΓL6.ok (root := cod Tryd.f5) (p := pM2) (by kernel_rfl) (fun i => i ≤ n) (fun i => SN2 n g n' g' w i) (fun i => n - i) (.leaf FN2) 130 0 liveM2 (fun _ => []) (fun i hi => ?_) 0 (Nat.zero_le _)
  rcases Nat.lt_or_ge i n with hlt | hge
  · refine ⟨[], .normal, SN2 n g n' g' w (i + 1 : Nat), LamOK.nil _ _, T.pick_at [true, true, false] _ (stepM2 n g n' g' w i) ?_ ((stepM2' n g n' g' w i).trans (by rw [w64_suc hlt hn])), .inl ⟨rfl, i + 1, hlt, by omega, rfl⟩⟩
    rw [c_lt hlt, okM2, inI, inI, c_in hlt, c_in (show i < n' by omega), hy i hlt, hs i hlt]; rfl
  · exact ⟨[], .exit 2, _, LamOK.nil _ _, T.pick_at [false] _ (stepM2x n g n' g' w i) (by rw [c_ge hge]) (stepM2x' n g n' g' w i), .inr ⟨by simp, rfl⟩⟩

theorem mir_ne {n : Nat} {g g' : Nat → Nat → Q} {w : Int} (hg : GOKr n g) (h : Mir n g g' w) (w0 : 0 ≤ w) (w1 : w ≤ MS) {i : Nat} (hi : i < n) : neY g g' i = false ∧ neS g g' w i = false := by
  obtain ⟨b1, b2, b3, _⟩ := hg.at hi
  have e := h i hi
  unfold neY neS
  rw [e]
  generalize gRc g i = r at b1 b2 b3
  obtain ⟨x, y, v, k⟩ := r
  simp only [MS] at b1 b2 b3 w1
  refine ⟨by rw [beq_self_eq_true]; rfl, ?_⟩
  show (!(w64 (w64 (x + v) + (w - x - v)) == w)) = false
  rw [w64_id (n := x + v) (by omega) (by omega), w64_id (by omega) (by omega)]
  have : x + v + (w - x - v) = w := by omega
  rw [this, beq_self_eq_true]; rfl

/-! ### the law -/
noncomputable abbrev orcM1 (m : Nat) (f : Nat → Nat → Q) (w : Int) (gm : Nat → Nat → Q) : St → Out := orcP (nilV 6 0 37 ksF) false 130 1 [0, 1, 5, 6, 7] (SMi 0 (fM f 0) m f w 0) (RM1 m f w gm)
noncomputable abbrev SN20 (m : Nat) (f : Nat → Nat → Q) (w : Int) (gm : Nat → Nat → Q) : St := SN2 (plN m f w) (gR f w m) (plN m gm w) (gR gm w m) w 0
noncomputable abbrev orcM2 (m : Nat) (f : Nat → Nat → Q) (w : Int) (gm : Nat → Nat → Q) : St → Out := orc false 130 0 [1, 5, 8, 10, 12] (SN20 m f w gm) (.leaf FN2)
noncomputable abbrev mirT1 (m : Nat) (f : Nat → Nat → Q) (w : Int) (gm : Nat → Nat → Q) : T V := funV Tryd.prog ΓL6 [(pM1, orcM1 (fewN m) (gz f) w gm)] Tryd.f5 (cod Tryd.f5) [lstF m f, V.i w]
noncomputable abbrev mirT2 (m : Nat) (f : Nat → Nat → Q) (w : Int) (gm : Nat → Nat → Q) : T V := funV Tryd.prog ΓL6 [(pM1, orcM1 (fewN m) (gz f) w gm), (pM2, orcM2 (fewN m) (gz f) w gm)] Tryd.f5 (cod Tryd.f5) [lstF m f, V.i w]
noncomputable abbrev dSM (m : Nat) (f : Nat → Nat → Q) (w : Int) : Bool := @decide (SMi 0 (fM f 0) m f w 0 = SMi 0 (fM f 0) m f w 0) (Classical.propDecidable _)
theorem dSM_true (m : Nat) (f : Nat → Nat → Q) (w : Int) : dSM m f w = true := @decide_eq_true _ (Classical.propDecidable _) rfl
noncomputable abbrev dSN (m : Nat) (f : Nat → Nat → Q) (w : Int) (gm : Nat → Nat → Q) : Bool := @decide (SN20 m f w gm = SN20 m f w gm) (Classical.propDecidable _)
theorem dSN_true (m : Nat) (f : Nat → Nat → Q) (w : Int) (gm : Nat → Nat → Q) : dSN m f w gm = true := @decide_eq_true _ (Classical.propDecidable _) rfl
theorem mir.w (m : Nat) (f : Nat → Nat → Q) (w : Int) (gm : Nat → Nat → Q) : (mirT1 m f w gm).pathC [true, true] = [dSM (fewN m) (gz f) w, wideB (fewN m) (gz f) w] := by kernel_rfl
theorem mir.w' (m : Nat) (f : Nat → Nat → Q) (w : Int) (gm : Nat → Nat → Q) : (mirT1 m f w gm).pathL [true, true] = .leaf (V.b true) := by kernel_rfl
theorem mir.e (m : Nat) (f : Nat → Nat → Q) (w : Int) (gm : Nat → Nat → Q) : (mirT1 m f w gm).pathC [true, false, true] = [dSM (fewN m) (gz f) w, wideB (fewN m) (gz f) w, !(codF (fewN m) (gz f) w == 0)] := by kernel_rfl
theorem mir.e' (m : Nat) (f : Nat → Nat → Q) (w : Int) (gm : Nat → Nat → Q) : (mirT1 m f w gm).pathL [true, false, true] = .leaf (V.b (andN [true, codF (fewN m) gm w == codF (fewN m) (gz f) w])) := by kernel_rfl
noncomputable abbrev neC (m : Nat) (f : Nat → Nat → Q) (w : Int) (gm : Nat → Nat → Q) : Bool := bif !(codF m gm w == 0) then true else (bif !((plN m f w : Int) == (plN m gm w : Int)) then true else !((plN m f w : Int) == (m : Int)))
theorem mir.r (m : Nat) (f : Nat → Nat → Q) (w : Int) (gm : Nat → Nat → Q) : (mirT2 m f w gm).pathC [true, false, false, false, true] = [dSM (fewN m) (gz f) w, wideB (fewN m) (gz f) w, !(codF (fewN m) (gz f) w == 0), neC (fewN m) (gz f) w gm, dSN (fewN m) (gz f) w gm] := by kernel_rfl
theorem mir.r' (m : Nat) (f : Nat → Nat → Q) (w : Int) (gm : Nat → Nat → Q) : (mirT2 m f w gm).pathL [true, false, false, false, true] = .leaf (V.b true) := by kernel_rfl

def mirror.s : List V → T V
  | [.q (.lst [.int .i64, .int .i64, .bool, .bool] m f), .q (.c (.int .i64 w))] => .leaf (V.b true)
  | _ => .bad
theorem mirror.ok : SpecOK Tryd.prog 5 mirror.s := by
  refine specOK_of_bodyW ΓL6.ok Tryd.func5 (isBody _ (by kernel_rfl)) (by kernel_rfl) fun args r hb h => ?_
  unfold mirror.s at h
  split at h
  · rename_i m f w
    cases h
    have hm22 := (fewN_le m).1
    have t := fM_turn (gz f) (fewN m)
    have L1 : ∀ Λ, LamOK Tryd.prog (cod Tryd.f5) Λ → LamOK Tryd.prog (cod Tryd.f5) ((pM1, orcM1 (fewN m) (gz f) w (fM (gz f) (fewN m))) :: Λ) := fun Λ h =>
      LamOK.orcP (fun s => sub_nilV _ _ _ _ s) (c := .loop bodyM1) (by kernel_rfl) (loopM1 (fewN m) (gz f) w (by omega)) h
    cases hw : wideB (fewN m) (gz f) w with
    | true => exact ⟨_, _, fun _ _ _ x => x, L1 _ (LamOK.nil _ _), T.pick_at [true, true] _ (mir.w m f w _) (by rw [dSM_true, hw]) (mir.w' m f w _)⟩
    | false =>
      cases hr : rightF (fewN m) (gz f) w with
      | false =>
        refine ⟨_, _, fun _ _ _ x => x, L1 _ (LamOK.nil _ _), T.pick_at [true, false, true] _ (mir.e m f w _) (by rw [dSM_true, hw]; simp only [codF, hr, cond_false]; rfl) ((mir.e' m f w _).trans ?_)⟩
        simp only [codF, t.right, hr, cond_false]; rfl
      | true =>
        have hF := right_ok.1 hr
        have hr' : rightF (fewN m) (fM (gz f) (fewN m)) w = true := by rw [t.right]; exact hr
        have hww : ∀ i, i < fewN m → (gFl (gz f) i).w ≤ w := fun i hi => by
          have h2 := (List.any_eq_false.1 hw) i (List.mem_range.2 hi)
          simp at h2; omega
        have hM := mir_all hF t hww (fewN m) (Nat.le_refl _)
        have hA := gR_all hF (fewN m) (Nat.le_refl _)
        have hpl : plN (fewN m) (gz f) w = fewN m := by simp only [plN, hr, cond_true]
        have hpl' : plN (fewN m) (fM (gz f) (fewN m)) w = fewN m := by simp only [plN, hr', cond_true]
        refine ⟨_, _, fun _ _ _ x => x, L1 _ (LamOK.orc (p := pM2) (mk := false) (nn := 130) (k := 0) (live := [1, 5, 8, 10, 12]) (c := .loop bodyM2) (by kernel_rfl) (loopM2 (plN (fewN m) (gz f) w) (gR (gz f) w (fewN m)) (plN (fewN m) (fM (gz f) (fewN m)) w) (gR (fM (gz f) (fewN m)) w (fewN m)) w (by omega) (by omega) (fun i hi => ?_) (fun i hi => ?_)) (LamOK.nil _ _)),
          T.pick_at [true, false, false, false, true] _ (mir.r m f w _) ?_ (mir.r' m f w _)⟩
        · exact (mir_ne hA.ok hM hF.h0 hF.h1 (show i < fewN m by omega)).1
        · exact (mir_ne hA.ok hM hF.h0 hF.h1 (show i < fewN m by omega)).2
        · rw [dSM_true, hw, dSN_true]
          unfold neC
          rw [hpl, hpl']
          simp only [codF, hr, hr', cond_true, beq_self_eq_true]; rfl
  · cases h
end
theorem mirror.all (n : Nat) (g : Nat → Nat → Q) (w : Int) (_ : n ≤ 9223372036854775807) (_ : Wf w) : (mirror.s [lstF n g, V.i w]).pick = some (V.b true) := rfl

theorem mirror_lifted (os : Os) (started : os.Started) (H : Type) (enc : TypeId × Value → H) :
    ReturnsInHanded {} Tryd.checked os 5 .any (fun w args => (Rows.floatMirrorSpec.pre enc Tryd.prog Tryd.f5 [] false w args ∧ laidMetH Tryd.prog laidL w) ∧ sizedMet enc Tryd.prog Tryd.f5 (OpenSpec.ofChange Rows.floatMirrorSpec) false w args)
      (Rows.floatMirrorSpec.post enc Tryd.prog Tryd.f5 false true false false) :=
  row_of (rt := 4) (shs := [(false, [.lst ksF]), (false, [.int .i64])]) H enc os started (fun e => @mirror.ok e) Tryd.func5 (by kernel_rfl) (by kernel_rfl) rfl
    (fun ds hl => by
      have hl' : ds.length = 2 := hl
      match ds, hl' with
      | [d1, d2], _ => rfl)
    (by kernel_rfl)
    (fun xs h => by
      obtain ⟨x1, l, rfl, p1, h⟩ := pvs_cons h
      obtain ⟨x2, l, rfl, p2, h⟩ := pvs_cons h
      obtain rfl := pvs_nil h
      obtain ⟨n1, g1, rfl, hn1⟩ := pv_floats p1
      obtain ⟨n2, rfl, w2⟩ := pv_int p2
      exact mirror.all n1 g1 n2 hn1 w2)
    (by kernel_rfl)
    (ChangeSpec.witness_at (enc := enc) (C := Tryd.checked) (os := os) (X := fun w _ => laidMetH Tryd.prog laidL w) false (laidWorld os) #[.slice none 0 0, .int .i64 0] 8 rfl (by kernel_rfl) (by kernel_rfl) (by kernel_rfl) (by kernel_rfl) (by kernel_rfl) (laidWorld_met os _))

theorem mirror_row : Rows.FloatMirrorSaid :=
  OpenClaim.holds_of_wide 5 Tryd.f5 rfl rfl rfl rfl rfl rfl rfl ⟨rfl, rfl, rfl, rfl, rfl⟩ rfl rfl rfl rfl rfl (by kernel_rfl) Tryd.func5 (by kernel_rfl)
    (of_decide_eq_true (by kernel_rfl)) (by unfold Func.isWrapper; rw [if_neg (of_decide_eq_false (by kernel_rfl))]; exact ⟨rfl, rfl⟩)
    (fun os started H enc _ => mirror_lifted os started H enc)

theorem mirror_holds : Rows.FloatMirrorCardSaid :=
  Claim7.holds_tied_plain_at .later [] [.handle, .sentinel] true Rows.floatMirrorCard.stood.harness true
    mirror_row (fun _ h => by cases h) (by kernel_rfl) (fun _ h => by cases h) floatMirror_row_tie rfl ⟨rfl, rfl⟩ (by kernel_rfl) rfl
    (fun f fn hf hfn => by
      obtain rfl : f = 5 := Option.some.inj ((show Tryd.prog.funcNamed "gutter/gutterlaw11.FloatMirror" = some 5 by kernel_rfl).symm.trans hf) |>.symm
      obtain rfl : fn = Tryd.f5 := (Option.some.inj (Tryd.func5.symm.trans hfn)).symm
      exact ⟨by kernel_rfl, fun j t ht => by
        have e : Tryd.f5.params.all (fun t => !(Tryd.pinned.checked.prog.wantsStandIn t)) = true := by kernel_rfl
        have := Array.all_eq_true_iff_forall_mem.1 e t (Array.mem_of_getElem? ht)
        simpa using this⟩)
    (by kernel_rfl)
#print axioms mirror_holds
end Go.Proofs.YtcekbimohggnoaaDoor
