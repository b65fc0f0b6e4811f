/- The functions of float, one by one: those beside some lengths. -/
import Derived.Test.YtcekbimohggnoaaDoorFlA
namespace Go.Proofs.YtcekbimohggnoaaDoor
open Go Go.SX Go.Proofs
set_option maxRecDepth 100000
variable [EA]
set_option linter.unusedVariables false
set_option linter.unusedSectionVars false
set_option linter.unusedSimpArgs false

abbrev bx (r : Rc) (y h : Int) : Rc := ⟨r.x, y, r.w, mx2 h 1⟩
/-- Does one lie at some lengths? -/
def hitR (r : Rc) (y h : Int) : Bool := decide ((bR (okA r (bx r y h)) (meetR r (bx r y h)) z0).w > 0)
/-- Those of the first i that do. -/
def hits (g : Nat → Nat → Q) (y h : Int) (i : Nat) : List Nat := (List.range i).filter fun k => hitR (gRc g k) y h
abbrev xb (g f : Nat → Nat → Q) (k : Nat) : List V := [V.b (gFl f k).r, rv (gRc g k)]
def xB (g f : Nat → Nat → Q) (y h : Int) (n k : Nat) : List V := xb g f ((hits g y h n).getD k 0)

theorem hits_succ (g : Nat → Nat → Q) (y h : Int) (i : Nat) : hits g y h (i + 1) = hits g y h i ++ (if hitR (gRc g i) y h then [i] else []) := by
  unfold hits
  rw [List.range_succ, List.filter_append]
  congr 1
  by_cases hh : hitR (gRc g i) y h = true
  · rw [if_pos hh]; simp [hh]
  · rw [if_neg hh]; simp [hh]

theorem hits_prefix (g : Nat → Nat → Q) (y h : Int) {i n : Nat} (hi : i ≤ n) : ∃ l, hits g y h n = hits g y h i ++ l := by
  induction n with
  | zero => exact ⟨[], by rw [show i = 0 by omega]; simp⟩
  | succ n ih =>
    by_cases e : i = n + 1
    · exact ⟨[], by rw [e]; simp⟩
    · obtain ⟨l, hl⟩ := ih (by omega)
      exact ⟨l ++ (if hitR (gRc g n) y h then [n] else []), by rw [hits_succ, hl, List.append_assoc]⟩

theorem xB_at {g f : Nat → Nat → Q} {y h : Int} {i n : Nat} (hi : i < n) (hh : hitR (gRc g i) y h = true) : xB g f y h n (hits g y h i).length = xb g f i := by
  obtain ⟨l, hl⟩ := hits_prefix g y h (show i + 1 ≤ n from hi)
  unfold xB
  rw [hl, hits_succ, if_pos hh]
  simp [List.getD_eq_getElem?_getD]

theorem hits_lt {g : Nat → Nat → Q} {y h : Int} {i n : Nat} (hi : i < n) (hh : hitR (gRc g i) y h = true) : (hits g y h i).length < (hits g y h n).length := by
  obtain ⟨l, hl⟩ := hits_prefix g y h (show i + 1 ≤ n from hi)
  rw [hl, hits_succ, if_pos hh]
  simp

def SB (go : List (List V) → Bool) (adm : List (List V) → List V → Bool) (n : Nat) (g : Nat → Nat → Q) (m : Nat) (f : Nat → Nat → Q) (w y h : Int) (ys : List (List V)) (i : Int) : St :=
  mkS 51 [(0, .yld 0), (1, sp1 (row3 n g m f w)), (2, sp1 (.c (.int .i64 y))), (3, sp1 (.c (.int .i64 h))), (13, lst4 n g), (14, V.i n), (15, V.i i)] [some (.yl go adm)] [] false ys 0
def FB (go : List (List V) → Bool) (adm : List (List V) → List V → Bool) (ys : List (List V)) : Ex × St := (.exit 0, mkS 51 [] [some (.yl go adm)] [] false ys 0)
noncomputable abbrev bodyB : Code := loopAt Tryd.f48 [0, 1, 1, 0]
def liveB : Ex → List Nat | .normal => [0, 1, 2, 3, 13, 14, 15] | _ => []
abbrev ΓB : Gam := [(49, rect_Meet.s)]
theorem ΓB.ok : GOK Tryd.prog ΓB := .cons rect_Meet.ok (GOK.nil _)

theorem stepB (go : List (List V) → Bool) (adm : List (List V) → List V → Bool) (n : Nat) (g : Nat → Nat → Q) (m : Nat) (f : Nat → Nat → Q) (w y h : Int) (ys : List (List V)) (i : Nat) :
    (sx Tryd.prog ΓB [] [0, 0, 1, 1, 0] bodyB (SB go adm n g m f w y h ys i)).bind (fun x => T.leaf (x.1, deadS [] (canS 51 1 (liveB x.1) x.2), chkM 51 1 x.2))
     = .ite (decide ((i : Int) < n))
        (.ite (decide (0 ≤ (i : Int) ∧ (i : Int) < n))
          (.ite (hitR (gRc g i) y h)
            (.ite (decide (0 ≤ (i : Int) ∧ (i : Int) < m))
              (.ite (adm ys (xb g f i)) (.ite (!(go (ys ++ [xb g f i]))) (.leaf (.exit 0, mkS 51 [] [some (.yl go adm)] [] false (ys ++ [xb g f i]) 0, true)) (.leaf (.normal, SB go adm n g m f w y h (ys ++ [xb g f i]) (w64 (i + 1)), true))) .bad) .bad)
            (.leaf (.normal, SB go adm n g m f w y h ys (w64 (i + 1)), true))) .bad)
        (.leaf (.exit 0, mkS 51 [] [some (.yl go adm)] [] false ys 0, true)) := by kernel_rfl

theorem loopB (go : List (List V) → Bool) (adm : List (List V) → List V → Bool) (n : Nat) (g : Nat → Nat → Q) (m : Nat) (f : Nat → Nat → Q) (w y h : Int) (hn : n ≤ 9223372036854775807) (hnm : n ≤ m) (hadm : Admits go adm (hits g y h n).length (xB g f y h n)) (K : Nat)
    (hK : Stops go (xB g f y h n) (hits g y h n).length K) :
    ∀ x, (T.leaf (FB go adm (hist (xB g f y h n) K))).pick = some x → SemC Tryd.prog (.loop bodyB) (SB go adm n g m f w y h [] 0) x := by
  refine loop_tree (Γ := ΓB) ΓB.ok (root := cod Tryd.f48) (p := [0, 1, 1, 0]) (by kernel_rfl) (fun i => i ≤ n ∧ ∀ j, j < (hits g y h i).length → go (hist (xB g f y h n) (j + 1)) = true)
    (fun i => SB go adm n g m f w y h (hist (xB g f y h n) (hits g y h i).length) i) (fun i => n - i) (.leaf (FB go adm (hist (xB g f y h n) K))) 51 1 liveB (fun _ => []) (fun i hi => ?_) 0 ⟨Nat.zero_le _, fun j hj => absurd hj (by simp [hits])⟩
  obtain ⟨hi, hall⟩ := hi
  have e := stepB go adm n g m f w y h (hist (xB g f y h n) (hits g y h i).length) i
  rcases Nat.lt_or_ge i n with hlt | hge
  · cases hh : hitR (gRc g i) y h with
    | false =>
      have e2 : hits g y h (i + 1) = hits g y h i := by rw [hits_succ, hh]; simp
      exact ⟨[], .normal, SB go adm n g m f w y h (hist (xB g f y h n) (hits g y h (i + 1)).length) (i + 1 : Nat), LamOK.nil _ _, by rw [e, c_lt hlt, c_in hlt, hh, e2, w64_suc hlt hn]; rfl, .inl ⟨rfl, i + 1, ⟨hlt, by rw [e2]; exact hall⟩, by omega, rfl⟩⟩
    | true =>
      have e2 : (hits g y h (i + 1)).length = (hits g y h i).length + 1 := by rw [hits_succ, hh]; simp
      have e3 := xB_at (f := f) hlt hh
      have hl := hits_lt hlt hh
      have ha := hadm _ hl hall
      rw [← e3, ← hist_succ] at e
      cases hr : go (hist (xB g f y h n) ((hits g y h i).length + 1)) with
      | false => exact ⟨[], .exit 0, _, LamOK.nil _ _, by rw [e, c_lt hlt, c_in hlt, c_in (show i < m by omega), hh, ha, hr]; rfl, .inr ⟨by simp, by rw [stops_at hK hl hall hr]; rfl⟩⟩
      | true =>
        refine ⟨[], .normal, SB go adm n g m f w y h (hist (xB g f y h n) (hits g y h (i + 1)).length) (i + 1 : Nat), LamOK.nil _ _, by rw [e, c_lt hlt, c_in hlt, c_in (show i < m by omega), hh, ha, hr, e2, w64_suc hlt hn]; rfl, .inl ⟨rfl, i + 1, ⟨hlt, fun j hj => ?_⟩, by omega, rfl⟩⟩
        rw [e2] at hj
        rcases Nat.lt_or_ge j (hits g y h i).length with hj' | hj'
        · exact hall j hj'
        · rw [show j = (hits g y h i).length by omega]; exact hr
  · have hin : i = n := by omega
    subst hin
    exact ⟨[], .exit 0, _, LamOK.nil _ _, by rw [e, c_ge hge]; rfl, .inr ⟨by simp, by rw [stops_end hK hall]; rfl⟩⟩

/-- What beside goes through. -/
def besideI.s : List V → T (Nat × (Nat → List V))
  | [.q (.sp 1 a), .q (.sp 1 b), .q (.sp 1 c)] => match a 0, b 0, c 0 with
    | .sp 3 get, .c (.int .i64 y), .c (.int .i64 h) => match get 0, get 1, get 2 with
      | .lst [.int .i64, .int .i64, .int .i64, .int .i64] n g, .lst [.int .i64, .int .i64, .bool, .bool] m f, .c (.int .i64 w) => .ite (decide (n ≤ m)) (.leaf ((hits g y h n).length, xB g f y h n)) .bad
      | _, _, _ => .bad
    | _, _, _ => .bad
  | _ => .bad

theorem den_sp1 {S : Nat → Prop} {w : World} {q q' : Q} (hq : ∀ v, DenQ S w q v → DenQ S w q' v) {get : Nat → Q} (h0 : get 0 = q) {v : Value} (hd : DenQ S w (.sp 1 get) v) : DenQ S w (.sp 1 fun j => [q'].getD j default) v := by
  obtain ⟨b, off, u, rfl, h1, h2, h3⟩ := hd.sp_inv
  refine .sp _ _ b off u h1 h2 fun j hj => ?_
  have : j = 0 := by omega
  subst this
  have := h3 0 hj
  rw [h0] at this
  exact hq _ this

theorem besideI.ok : IterOK Tryd.prog 48 besideI.s := by
  refine iterOK_of_body (Γ := ΓB) ΓB.ok Tryd.func48 (isBody _ (by kernel_rfl)) (by kernel_rfl) fun caps N x go adm hb he hadm => ?_
  unfold besideI.s at he
  split at he
  · rename_i a b c
    split at he
    · rename_i get y h ha hbb hc
      split at he
      · rename_i n g m f w g0 g1 g2
        simp only [T.pick] at he
        cases hnm : decide (n ≤ m) with
        | false => rw [hnm] at he; cases he
        | true =>
          rw [hnm] at he
          cases he
          have hnm' : n ≤ m := by simpa using hnm
          obtain ⟨K, hK⟩ := exists_stops go (xB g f y h n) (hits g y h n).length
          have hq : QB (a 0) := hb (.q (.sp 1 a)) (by simp) 0 (by omega)
          rw [ha] at hq
          have hq : QB (get 0) := hq 0 (by omega)
          rw [g0] at hq
          refine ⟨[sp1 (row3 n g m f w), sp1 (.c (.int .i64 y)), sp1 (.c (.int .i64 h))], [([0, 1, 1, 0], orc false 51 1 [0, 1, 2, 3, 13, 14, 15] (SB go adm n g m f w y h [] 0) (.leaf (FB go adm (hist (xB g f y h n) K))))], K, ?_,
            LamOK.orc (c := .loop bodyB) (by kernel_rfl) (loopB go adm n g m f w y h hq.1 hnm' hadm K hK) (LamOK.nil _ _), hK, ?_⟩
          · intro S w' vs hd
            cases hd with
            | cons _ v1 _ l1 d1 hd =>
              cases hd with
              | cons _ v2 _ l2 d2 hd =>
                cases hd with
                | cons _ v3 _ l3 d3 hd =>
                  refine .cons _ _ _ _ (.q _ _ (den_sp1 (fun v hv => ?_) ha d1.q_inv)) (.cons _ _ _ _ (.q _ _ (den_sp1 (fun v hv => hv) hbb d2.q_inv)) (.cons _ _ _ _ (.q _ _ (den_sp1 (fun v hv => hv) hc d3.q_inv)) hd))
                  exact den_sp (fun j hj => by
                    rcases (show j = 0 ∨ j = 1 ∨ j = 2 by omega) with rfl | rfl | rfl
                    · exact g0
                    · exact g1
                    · exact g2) hv
          · have e : itV Tryd.prog ΓB [([0, 1, 1, 0], orc false 51 1 [0, 1, 2, 3, 13, 14, 15] (SB go adm n g m f w y h [] 0) (.leaf (FB go adm (hist (xB g f y h n) K))))] Tryd.f48 (cod Tryd.f48) [sp1 (row3 n g m f w), sp1 (.c (.int .i64 y)), sp1 (.c (.int .i64 h))] go adm =
                .ite (@decide (SB go adm n g m f w y h [] 0 = SB go adm n g m f w y h [] 0) (Classical.propDecidable _)) (.leaf (hist (xB g f y h n) K)) .bad := by kernel_rfl
            rw [e, pick_same]; rfl
      · cases he
    · cases he
  · cases he
end Go.Proofs.YtcekbimohggnoaaDoor
