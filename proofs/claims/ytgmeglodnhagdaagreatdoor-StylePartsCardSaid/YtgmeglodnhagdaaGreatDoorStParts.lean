/- StyleParts. -/
import Derived.Test.YtgmeglodnhagdaaGreatDoorStP
import Derived.Test.YtgmeglodnhagdaaGreatDoorStV
namespace Go.Proofs.YtgmeglodnhagdaaGreatDoor
open Go Go.SX Go.Proofs Go.RowKit Go.ChangeShapes
set_option maxRecDepth 100000
set_option linter.unusedVariables false
section
variable [EA]
set_option linter.unusedSectionVars false
abbrev pPa2 : List Nat := [0, 1, 0, 1, 1, 1, 1, 1, 1, 1]
noncomputable abbrev bodyP2 : Code := loopAt Tryz.f8 pPa2
/-- The round's state: how many parts are done, where the next one begins, the byte. -/
def SP2 (a : Sty) (t : ByteArray) (e : Int) (l : List ByteArray) (n from' i : Int) : St := mkS 104 [(1, .ptr 0 0), (3, V.b true), (4, V.s t), (5, V.i e), (6, vStr l), (7, V.i n), (8, V.i from'), (9, V.i i)] [celS a] [] false [] 0
def liveP2 : Ex → List Nat | .normal => [1, 3, 4, 5, 6, 7, 8, 9] | .ret => [2] | _ => [3, 6, 7]
noncomputable abbrev treeP2 (F : Lw) (s : St) : T (Ex × St × Bool) := ltree Tryz.prog (ΓLw F) [] pPa2 bodyP2 104 1 liveP2 poN s
abbrev xP2 (t : ByteArray) (f i : Int) : ByteArray := t.extract f.toNat i.toNat
abbrev mP2 (F : Lw) (t : ByteArray) (f i : Int) : List ByteArray := F.D (F.R (xP2 t f i)) plainS
abbrev okP2 (F : Lw) (t : ByteArray) (l : List ByteArray) (n f i : Int) : Bool := bif F.E (xP2 t f i) != 0 then true else bif decide (n ≥ (l.length : Int)) then true else bif ((mP2 F t f i).length : Int) != 1 then true else bif decide ((0 : Int) ≤ 0 ∧ (0 : Int) < ((mP2 F t f i).length : Int)) then (bif decide (0 ≤ n ∧ n < (l.length : Int)) then true else false) else false
abbrev badP2 (F : Lw) (t : ByteArray) (l : List ByteArray) (n f i : Int) : Bool := bif F.E (xP2 t f i) != 0 then true else bif decide (n ≥ (l.length : Int)) then true else bif ((mP2 F t f i).length : Int) != 1 then true else !(seqB (qStr (gOf strQ (mP2 F t f i) (0 : Int).toNat 0)) (qStr (gOf strQ l n.toNat 0)))
abbrev nxP2 (t : ByteArray) (i : Int) : Int := if (t.size : Int) < w64 (i + 2) then (t.size : Int) else w64 (i + 2)
theorem p2_cS (F : Lw) (a : Sty) (t : ByteArray) (e : Int) (l : List ByteArray) (n f i : Int) : (treeP2 F (SP2 a t e l n f i)).pathC [true, true, true, true] = [decide (i ≤ (t.size : Int)), decide (i < (t.size : Int)), decide (0 ≤ i ∧ i < (t.size : Int)), !(((t.get! i.toNat).toNat : Int) == 59)] := by kernel_rfl
theorem p2_lS (F : Lw) (a : Sty) (t : ByteArray) (e : Int) (l : List ByteArray) (n f i : Int) : (treeP2 F (SP2 a t e l n f i)).pathL [true, true, true, true] = .leaf (.normal, SP2 a t e l n f (w64 (i + 1)), true) := by kernel_rfl
theorem p2_cB (F : Lw) (a : Sty) (t : ByteArray) (e : Int) (l : List ByteArray) (n f i : Int) : (treeP2 F (SP2 a t e l n f i)).pathC [true, true, true, false, true, true, true, false] = [decide (i ≤ (t.size : Int)), decide (i < (t.size : Int)), decide (0 ≤ i ∧ i < (t.size : Int)), !(((t.get! i.toNat).toNat : Int) == 59),
    decide (0 ≤ f ∧ f ≤ i ∧ i ≤ (t.size : Int)), decide ((xP2 t f i).size < 1000000), okP2 F t l n f i, badP2 F t l n f i] := by kernel_rfl
theorem p2_lB (F : Lw) (a : Sty) (t : ByteArray) (e : Int) (l : List ByteArray) (n f i : Int) : (treeP2 F (SP2 a t e l n f i)).pathL [true, true, true, false, true, true, true, false] = .leaf (.normal, SP2 a t e l (w64 (n + 1)) (nxP2 t i) (w64 (i + 1)), true) := by kernel_rfl
theorem p2_cE (F : Lw) (a : Sty) (t : ByteArray) (e : Int) (l : List ByteArray) (n f i : Int) : (treeP2 F (SP2 a t e l n f i)).pathC [true, false, true, true, true, false] = [decide (i ≤ (t.size : Int)), decide (i < (t.size : Int)),
    decide (0 ≤ f ∧ f ≤ i ∧ i ≤ (t.size : Int)), decide ((xP2 t f i).size < 1000000), okP2 F t l n f i, badP2 F t l n f i] := by kernel_rfl
theorem p2_lE (F : Lw) (a : Sty) (t : ByteArray) (e : Int) (l : List ByteArray) (n f i : Int) : (treeP2 F (SP2 a t e l n f i)).pathL [true, false, true, true, true, false] = .leaf (.normal, SP2 a t e l (w64 (n + 1)) (nxP2 t i) (w64 (i + 1)), true) := by kernel_rfl
abbrev finP2 (a : Sty) (t : ByteArray) (e : Int) (l : List ByteArray) (n f : Int) : St := mkS 104 [(3, V.b true), (6, vStr l), (7, V.i n)] [celS a] [] false [] 0
theorem p2_cX (F : Lw) (a : Sty) (t : ByteArray) (e : Int) (l : List ByteArray) (n f i : Int) : (treeP2 F (SP2 a t e l n f i)).pathC [false] = [decide (i ≤ (t.size : Int))] := by kernel_rfl
theorem p2_lX (F : Lw) (a : Sty) (t : ByteArray) (e : Int) (l : List ByteArray) (n f i : Int) : (treeP2 F (SP2 a t e l n f i)).pathL [false] = .leaf (.exit 0, finP2 a t e l n f, true) := by kernel_rfl
noncomputable abbrev orP2 (F : Lw) (a : Sty) : Lam := [(pPa2, orc false 104 1 (liveP2 .normal) (SP2 a (F.T a) (F.P a) (F.D a plainS) 0 0 0) (.leaf (Ex.exit 0, finP2 a (F.T a) (F.P a) (F.D a plainS) ((F.D a plainS).length : Nat) 0)))]
noncomputable abbrev trP2 (F : Lw) (a : Sty) : T V := funV Tryz.prog (ΓLw F) (orP2 F a) Tryz.f8 (cod Tryz.f8) [styV a]
/-! ### where parts lie -/
def aL (L : List (List UInt8)) : Nat → List UInt8
  | 0 => []
  | j + 1 => aL L j ++ (L.getD j [] ++ [59, 32])
abbrev stJ (L : List (List UInt8)) (j : Nat) : Nat := (aL L j).length
abbrev enJ (L : List (List UInt8)) (j : Nat) : Nat := stJ L j + (L.getD j []).length
theorem join_at (L : List (List UInt8)) : ∀ j, j < L.length → Lib.join L [59, 32] = aL L j ++ (L.getD j [] ++ Lib.joinTail [59, 32] (L.drop (j + 1)))
  | 0, h => by
    cases L with
    | nil => cases h
    | cons x r => rw [Lib.join_cons]; rfl
  | j + 1, h => by
    rw [join_at L j (by omega)]
    have e : L.drop (j + 1) = L.getD (j + 1) [] :: L.drop (j + 2) := by
      rw [List.drop_eq_getElem_cons h, List.getD_eq_getElem?_getD, List.getElem?_eq_getElem h]; rfl
    rw [e, aL]
    simp [Lib.joinTail]
theorem stJ_suc (L : List (List UInt8)) (j : Nat) : stJ L (j + 1) = enJ L j + 2 := by
  have q1 : enJ L j = (aL L j).length + (L.getD j []).length := rfl
  have q2 : stJ L j = (aL L j).length := rfl
  show (aL L j ++ (L.getD j [] ++ [59, 32])).length = _
  simp only [List.length_append, List.length_cons, List.length_nil]; omega
theorem enJ_le {L : List (List UInt8)} {j : Nat} (h : j < L.length) : enJ L j ≤ (Lib.join L [59, 32]).length := by
  have q1 : enJ L j = (aL L j).length + (L.getD j []).length := rfl
  have q2 : stJ L j = (aL L j).length := rfl
  rw [join_at L j h]
  simp only [List.length_append]; omega
/-- The byte behind a part. -/
theorem join_sep {L : List (List UInt8)} {j : Nat} (h : j + 1 < L.length) : (Lib.join L [59, 32])[enJ L j]? = some 59 := by
  have q1 : enJ L j = (aL L j).length + (L.getD j []).length := rfl
  have e : L.drop (j + 1) = L[j + 1] :: L.drop (j + 2) := List.drop_eq_getElem_cons h
  rw [join_at L j (by omega), e, List.getElem?_append_right (by omega), List.getElem?_append_right (by omega), show enJ L j - (aL L j).length - (L.getD j []).length = 0 by omega]
  rfl
theorem join_last {L : List (List UInt8)} {j : Nat} (h : j + 1 = L.length) : (Lib.join L [59, 32]).length = enJ L j := by
  have q1 : enJ L j = (aL L j).length + (L.getD j []).length := rfl
  have q2 : stJ L j = (aL L j).length := rfl
  rw [join_at L j (by omega), h, List.drop_length]
  simp [Lib.joinTail]
/-- A byte in a part, or the blank ahead of it. -/
theorem join_in {L : List (List UInt8)} {j i : Nat} (h : j < L.length) (h59 : ∀ y ∈ L, (59 : UInt8) ∉ y) (h1 : stJ L j ≤ i ∨ (0 < j ∧ stJ L j = i + 1)) (h2 : i < enJ L j) : ∃ c, (Lib.join L [59, 32])[i]? = some c ∧ c ≠ 59 := by
  have q1 : enJ L j = (aL L j).length + (L.getD j []).length := rfl
  have q2 : stJ L j = (aL L j).length := rfl
  rw [join_at L j h]
  rcases h1 with h1 | ⟨h0, h1⟩
  · rw [List.getElem?_append_right h1, List.getElem?_append_left (by omega)]
    have hi : i - (aL L j).length < (L.getD j []).length := by omega
    refine ⟨_, List.getElem?_eq_getElem hi, fun e => ?_⟩
    have hm := List.getElem_mem hi
    rw [e] at hm
    refine h59 (L.getD j []) ?_ hm
    rw [List.getD_eq_getElem?_getD, List.getElem?_eq_getElem h]
    exact List.getElem_mem h
  · obtain ⟨j, rfl⟩ : ∃ j', j = j' + 1 := ⟨j - 1, by omega⟩
    have q3 : enJ L j = (aL L j).length + (L.getD j []).length := rfl
    refine ⟨32, ?_, by decide⟩
    rw [List.getElem?_append_left (by omega)]
    show (aL L j ++ (L.getD j [] ++ [59, 32]))[i]? = _
    have hi : i = (aL L j).length + (L.getD j []).length + 1 := by
      have e := stJ_suc L j
      rw [e] at h1
      omega
    rw [hi, List.getElem?_append_right (by omega), List.getElem?_append_right (by omega), show (aL L j).length + (L.getD j []).length + 1 - (aL L j).length - (L.getD j []).length = 1 by omega]
    rfl
theorem join_part {L : List (List UInt8)} {j : Nat} (h : j < L.length) : ((Lib.join L [59, 32]).drop (stJ L j)).take (enJ L j - stJ L j) = L.getD j [] := by
  have q1 : enJ L j = (aL L j).length + (L.getD j []).length := rfl
  have q2 : stJ L j = (aL L j).length := rfl
  rw [join_at L j h, List.drop_left, show enJ L j - stJ L j = (L.getD j []).length by omega, List.take_left]
theorem get_at {t : ByteArray} {i : Nat} {c : UInt8} (h : (bL t)[i]? = some c) : (t.get! i).toNat = c.toNat ∧ i < t.size := by
  obtain ⟨hi, hc⟩ := List.getElem?_eq_some_iff.1 h
  refine ⟨?_, hi⟩
  have hb : bAt t i = ((bL t)[i]).toNat := bAt_bT (l := bL t) hi
  rw [hc] at hb
  exact hb
/-! ### the loop -/
abbrev LP (a : Sty) : List (List UInt8) := (prtP a).map bL
theorem LP_len (a : Sty) : (LP a).length = (prtP a).length := by simp [LP]
theorem sTxt_b (a : Sty) : bL (sTxt a) = Lib.join (LP a) [59, 32] := bL_bT _
abbrev ix (a : Sty) (j : Nat) : Nat := (dfs a plainS 16).getD j 0
theorem LP_at {a : Sty} {j : Nat} (h : j < (prtP a).length) : (LP a).getD j [] = bL (elB a (ix a j)) := by
  have h2 : j < (dfs a plainS 16).length := by rw [prtP_len] at h; exact h
  simp [LP, prtP, ix, List.getD_eq_getElem?_getD, h2]
theorem nmD_at {a : Sty} {j : Nat} (h : j < (prtP a).length) : qStr (gOf strQ (nmD a plainS) j 0) = nmB (ix a j) := by
  have h2 : j < (dfs a plainS 16).length := by rw [prtP_len] at h; exact h
  have h3 : j < (nmD a plainS).length := by rw [nmD_len]; exact h2
  rw [gOf_at strQ (nmD a plainS) h3]
  show (nmD a plainS)[j] = _
  simp [nmD, ix, List.getD_eq_getElem?_getD, h2]
theorem part_x {a : Sty} {j : Nat} (h : j < (prtP a).length) : xP2 (sTxt a) (stJ (LP a) j : Nat) (enJ (LP a) j : Nat) = elB a (ix a j) := by
  apply bL_inj
  rw [← LP_at h, ← join_part (L := LP a) (j := j) (by rw [LP_len]; exact h), ← sTxt_b]
  exact Lib.extract_data _ _ _
theorem ix_lt {a : Sty} {j : Nat} (h : j < (prtP a).length) : ix a j < 16 ∧ fv a (ix a j) ≠ fv plainS (ix a j) := by
  have h2 : j < (dfs a plainS 16).length := by rw [prtP_len] at h; exact h
  have hm : (dfs a plainS 16)[j] ∈ dfs a plainS 16 := List.getElem_mem h2
  have e : ix a j = (dfs a plainS 16)[j] := by simp [ix, List.getD_eq_getElem?_getD, h2]
  rw [e]
  have h3 := List.mem_filter.1 hm
  have h4 := List.mem_range.1 h3.1
  exact ⟨h4, (difB_iff h4).1 h3.2⟩
theorem okP2_of {a : Sty} (hs : RightS a) {j : Nat} (h : j < (prtP a).length) : okP2 lw (sTxt a) (nmD a plainS) (j : Nat) (stJ (LP a) j : Nat) (enJ (LP a) j : Nat) = true ∧ badP2 lw (sTxt a) (nmD a plainS) (j : Nat) (stJ (LP a) j : Nat) (enJ (LP a) j : Nat) = false := by
  obtain ⟨h1, h2⟩ := ix_lt h
  obtain ⟨p1, p2, p3⟩ := parse_part hs h1 h2
  have hx := part_x h
  have hm : mP2 lw (sTxt a) (stJ (LP a) j : Nat) (enJ (LP a) j : Nat) = [nmB (ix a j)] := by
    show nmD (psR (xP2 _ _ _)) plainS = _
    rw [hx, nmD, p3]; rfl
  have hE : lw.E (xP2 (sTxt a) (stJ (LP a) j : Nat) (enJ (LP a) j : Nat)) = 0 := by
    show psE (xP2 _ _ _) = 0
    rw [hx]; exact p1
  have hl : (nmD a plainS).length = (prtP a).length := by rw [nmD_len, prtP_len]
  have hn : decide (((j : Nat) : Int) ≥ ((nmD a plainS).length : Int)) = false := decide_eq_false (by omega)
  have hj : decide (0 ≤ ((j : Nat) : Int) ∧ ((j : Nat) : Int) < ((nmD a plainS).length : Int)) = true := decide_eq_true (by omega)
  have hq : qStr (gOf strQ [nmB (ix a j)] (0 : Int).toNat 0) = nmB (ix a j) := rfl
  constructor
  · unfold okP2
    rw [hE, hm, hn, hj]; rfl
  · unfold badP2
    rw [hE, hm, hn, hq, Int.toNat_natCast, nmD_at h, seqB_iff.2 rfl]; rfl
theorem loopP2 {a : Sty} (hs : RightS a) (hne : prtP a ≠ []) (e : Int) : ∀ y, (T.leaf (Ex.exit 0, finP2 a (sTxt a) e (nmD a plainS) ((nmD a plainS).length : Nat) 0)).pick = some y → SemC Tryz.prog (.loop bodyP2) (SP2 a (sTxt a) e (nmD a plainS) 0 0 0) y := by
  have hk : 0 < (prtP a).length := List.length_pos_iff.2 hne
  have hT := pTx_size a
  rw [show pTx a = sTxt a by unfold pTx; rw [rightS_iff.2 hs]; rfl] at hT
  have hsz : (sTxt a).size = (Lib.join (LP a) [59, 32]).length := by rw [← sTxt_b]; rfl
  have hLL := LP_len a
  have hl : (nmD a plainS).length = (prtP a).length := by rw [nmD_len, prtP_len]
  have h59 : ∀ y ∈ LP a, (59 : UInt8) ∉ y := fun y hy => by
    obtain ⟨x, hx, rfl⟩ := List.mem_map.1 hy
    exact no59_prt hs x hx
  intro x hx
  have h0 : SP2 a (sTxt a) e (nmD a plainS) 0 0 0 = (fun y : Nat × Nat => SP2 a (sTxt a) e (nmD a plainS) (y.1 : Nat) ((if y.1 < (prtP a).length then stJ (LP a) y.1 else (sTxt a).size : Nat) : Int) (y.2 : Nat)) (0, 0) := by
    show _ = SP2 a (sTxt a) e (nmD a plainS) ((0 : Nat) : Int) ((if 0 < (prtP a).length then stJ (LP a) 0 else (sTxt a).size : Nat) : Int) ((0 : Nat) : Int)
    rw [if_pos hk]; rfl
  rw [h0]
  refine loop_treeP (ΓLw.ok) (root := cod Tryz.f8) (p := pPa2) (by kernel_rfl)
    (fun y : Nat × Nat => (y.1 < (prtP a).length ∧ (stJ (LP a) y.1 ≤ y.2 ∨ (0 < y.1 ∧ stJ (LP a) y.1 = y.2 + 1)) ∧ y.2 ≤ enJ (LP a) y.1) ∨ (y.1 = (prtP a).length ∧ y.2 = (sTxt a).size + 1))
    (fun y => SP2 a (sTxt a) e (nmD a plainS) (y.1 : Nat) ((if y.1 < (prtP a).length then stJ (LP a) y.1 else (sTxt a).size : Nat) : Int) (y.2 : Nat)) (fun y => (sTxt a).size + 2 - y.2) _ 104 1 liveP2 (fun _ => []) poN poN_ok (fun y hy => ?_) (0, 0) (.inl ⟨hk, .inl (Nat.le_refl _), Nat.zero_le _⟩) x hx
  obtain ⟨j, i⟩ := y
  simp only at hy
  show ∃ Λ e1 s', _ ∧ (treeP2 lw (SP2 a (sTxt a) e (nmD a plainS) (j : Nat) ((if j < (prtP a).length then stJ (LP a) j else (sTxt a).size : Nat) : Int) (i : Nat))).pick = _ ∧ _
  rcases hy with ⟨h1, h2, h3⟩ | ⟨rfl, rfl⟩
  · rw [if_pos h1]
    have hen := enJ_le (L := LP a) (j := j) (by omega)
    have hi : i ≤ (sTxt a).size := by omega
    have hw : w64 (((i : Nat) : Int) + 1) = ((i + 1 : Nat) : Int) := by rw [w64_id (by omega) (by omega)]; omega
    rcases Nat.lt_or_ge i (enJ (LP a) j) with hlt | hge
    · obtain ⟨c, hc, hc2⟩ := join_in (by omega) h59 h2 hlt
      rw [← sTxt_b] at hc
      obtain ⟨g1, g2⟩ := get_at hc
      have hb : (!((((sTxt a).get! ((i : Nat) : Int).toNat).toNat : Int) == 59)) = true := by
        rw [Int.toNat_natCast, g1]
        have : c.toNat ≠ 59 := fun h => hc2 (UInt8.toNat_inj.1 h)
        simp; omega
      have hp := p2_cS lw a (sTxt a) e (nmD a plainS) (j : Nat) (stJ (LP a) j : Nat) (i : Nat)
      rw [hb, decide_eq_true (show ((i : Nat) : Int) ≤ ((sTxt a).size : Int) by omega), decide_eq_true (show ((i : Nat) : Int) < ((sTxt a).size : Int) by omega), decide_eq_true (show 0 ≤ ((i : Nat) : Int) ∧ ((i : Nat) : Int) < ((sTxt a).size : Int) by omega)] at hp
      refine ⟨[], .normal, _, LamOK.nil _ _, (T.pick_path _ _ hp).trans (congrArg T.pick (p2_lS lw a (sTxt a) e (nmD a plainS) (j : Nat) (stJ (LP a) j : Nat) (i : Nat))), .inl ⟨rfl, (j, i + 1), .inl ⟨h1, ?_, hlt⟩, ?_, ?_⟩⟩
      · show stJ (LP a) j ≤ i + 1 ∨ _
        rcases h2 with h2 | ⟨_, h2⟩
        · exact .inl (Nat.le_succ_of_le h2)
        · exact .inl (Nat.le_of_eq h2)
      · show (sTxt a).size + 2 - (i + 1) < (sTxt a).size + 2 - i
        omega
      · simp only
        rw [if_pos h1, hw]
    · obtain rfl : i = enJ (LP a) j := by omega
      obtain ⟨o1, o2⟩ := okP2_of hs h1
      have hx : decide ((xP2 (sTxt a) (stJ (LP a) j : Nat) (enJ (LP a) j : Nat)).size < 1000000) = true := decide_eq_true (by
        rw [ByteArray.size_extract, Int.toNat_natCast, Int.toNat_natCast]; omega)
      have hwj : w64 (((j : Nat) : Int) + 1) = ((j + 1 : Nat) : Int) := by
        have := dfs_len a plainS
        have := prtP_len a
        rw [w64_id (by omega) (by omega)]; omega
      have hw2 : w64 (((enJ (LP a) j : Nat) : Int) + 2) = ((enJ (LP a) j + 2 : Nat) : Int) := by rw [w64_id (by omega) (by omega)]; omega
      have hss := stJ_suc (LP a) j
      have hnext : ∃ q, (q = (j + 1, enJ (LP a) j + 1)) ∧ ((q.1 < (prtP a).length ∧ (stJ (LP a) q.1 ≤ q.2 ∨ (0 < q.1 ∧ stJ (LP a) q.1 = q.2 + 1)) ∧ q.2 ≤ enJ (LP a) q.1) ∨ (q.1 = (prtP a).length ∧ q.2 = (sTxt a).size + 1)) ∧
          nxP2 (sTxt a) (enJ (LP a) j : Nat) = ((if q.1 < (prtP a).length then stJ (LP a) q.1 else (sTxt a).size : Nat) : Int) := by
        refine ⟨_, rfl, ?_, ?_⟩
        · rcases Nat.lt_or_ge (j + 1) (prtP a).length with hj | hj
          · exact .inl ⟨hj, .inr ⟨Nat.succ_pos _, hss⟩, by show enJ (LP a) j + 1 ≤ stJ (LP a) (j + 1) + _; omega⟩
          · refine .inr ⟨by show j + 1 = _; omega, ?_⟩
            show enJ (LP a) j + 1 = _
            rw [hsz, join_last (L := LP a) (j := j) (by omega)]
        · show (if ((sTxt a).size : Int) < w64 (((enJ (LP a) j : Nat) : Int) + 2) then ((sTxt a).size : Int) else w64 (((enJ (LP a) j : Nat) : Int) + 2)) = ((if j + 1 < (prtP a).length then stJ (LP a) (j + 1) else (sTxt a).size : Nat) : Int)
          rw [hw2]
          rcases Nat.lt_or_ge (j + 1) (prtP a).length with hj | hj
          · have := enJ_le (L := LP a) (j := j + 1) (by omega)
            have : stJ (LP a) (j + 1) ≤ enJ (LP a) (j + 1) := Nat.le_add_right _ _
            rw [if_pos hj, if_neg (by omega), hss]
          · have := join_last (L := LP a) (j := j) (by omega)
            rw [if_pos (by omega), if_neg (by omega)]
      obtain ⟨q, hq, hq2, hq3⟩ := hnext
      subst hq
      have hfin : SP2 a (sTxt a) e (nmD a plainS) (w64 (((j : Nat) : Int) + 1)) (nxP2 (sTxt a) (enJ (LP a) j : Nat)) (w64 (((enJ (LP a) j : Nat) : Int) + 1)) = SP2 a (sTxt a) e (nmD a plainS) ((j + 1, enJ (LP a) j + 1).1 : Nat) ((if (j + 1, enJ (LP a) j + 1).1 < (prtP a).length then stJ (LP a) (j + 1, enJ (LP a) j + 1).1 else (sTxt a).size : Nat) : Int) ((j + 1, enJ (LP a) j + 1).2 : Nat) := by
        rw [← hq3, hwj, hw]
      have hmu : (sTxt a).size + 2 - (j + 1, enJ (LP a) j + 1).2 < (sTxt a).size + 2 - enJ (LP a) j := by show (sTxt a).size + 2 - (enJ (LP a) j + 1) < (sTxt a).size + 2 - enJ (LP a) j; omega
      have hse : stJ (LP a) j ≤ enJ (LP a) j := Nat.le_add_right _ _
      have hc1 : decide (((enJ (LP a) j : Nat) : Int) ≤ ((sTxt a).size : Int)) = true := decide_eq_true (by omega)
      have hc2 : decide (0 ≤ ((stJ (LP a) j : Nat) : Int) ∧ ((stJ (LP a) j : Nat) : Int) ≤ ((enJ (LP a) j : Nat) : Int) ∧ ((enJ (LP a) j : Nat) : Int) ≤ ((sTxt a).size : Int)) = true := decide_eq_true (by omega)
      rcases Nat.lt_or_ge (j + 1) (prtP a).length with hj | hj
      · have hc := join_sep (L := LP a) (j := j) (by omega)
        rw [← sTxt_b] at hc
        obtain ⟨g1, g2⟩ := get_at hc
        have hb : (!((((sTxt a).get! ((enJ (LP a) j : Nat) : Int).toNat).toNat : Int) == 59)) = false := by
          rw [Int.toNat_natCast, g1]; rfl
        have hp := p2_cB lw a (sTxt a) e (nmD a plainS) (j : Nat) (stJ (LP a) j : Nat) (enJ (LP a) j : Nat)
        rw [hb, o1, o2, hx, hc1, hc2, decide_eq_true (show ((enJ (LP a) j : Nat) : Int) < ((sTxt a).size : Int) by omega), decide_eq_true (show 0 ≤ ((enJ (LP a) j : Nat) : Int) ∧ ((enJ (LP a) j : Nat) : Int) < ((sTxt a).size : Int) by omega)] at hp
        exact ⟨[], .normal, _, LamOK.nil _ _, (T.pick_path _ _ hp).trans (congrArg T.pick (p2_lB lw a (sTxt a) e (nmD a plainS) (j : Nat) (stJ (LP a) j : Nat) (enJ (LP a) j : Nat))), .inl ⟨rfl, _, hq2, hmu, hfin⟩⟩
      · have hlast := join_last (L := LP a) (j := j) (by omega)
        have hp := p2_cE lw a (sTxt a) e (nmD a plainS) (j : Nat) (stJ (LP a) j : Nat) (enJ (LP a) j : Nat)
        rw [o1, o2, hx, hc1, hc2, decide_eq_false (show ¬ ((enJ (LP a) j : Nat) : Int) < ((sTxt a).size : Int) by omega)] at hp
        exact ⟨[], .normal, _, LamOK.nil _ _, (T.pick_path _ _ hp).trans (congrArg T.pick (p2_lE lw a (sTxt a) e (nmD a plainS) (j : Nat) (stJ (LP a) j : Nat) (enJ (LP a) j : Nat))), .inl ⟨rfl, _, hq2, hmu, hfin⟩⟩
  · have hp := p2_cX lw a (sTxt a) e (nmD a plainS) ((prtP a).length : Nat) ((if (prtP a).length < (prtP a).length then stJ (LP a) (prtP a).length else (sTxt a).size : Nat) : Int) (((sTxt a).size + 1 : Nat) : Int)
    rw [decide_eq_false (show ¬ (((sTxt a).size + 1 : Nat) : Int) ≤ ((sTxt a).size : Int) by omega)] at hp
    refine ⟨[], .exit 0, _, LamOK.nil _ _, (T.pick_path _ _ hp).trans (congrArg T.pick (p2_lX lw a (sTxt a) e (nmD a plainS) ((prtP a).length : Nat) _ (((sTxt a).size + 1 : Nat) : Int))), .inr ⟨by simp, ?_⟩⟩
    rw [hl]; rfl
/-! ### the law -/
abbrev cP2 (F : Lw) (a : Sty) : Bool := bif F.P a != 0 then true else seqB (F.T a) (bT [])
noncomputable abbrev sameP2 (F : Lw) (a : Sty) : Bool := @decide (SP2 a (F.T a) (F.P a) (F.D a plainS) 0 0 0 = SP2 a (F.T a) (F.P a) (F.D a plainS) 0 0 0) (Classical.propDecidable _)
theorem p2_ca (F : Lw) (a : Sty) : (trP2 F a).pathC [false, true] = [cP2 F a, sameP2 F a] := by kernel_rfl
theorem p2_la (F : Lw) (a : Sty) : (trP2 F a).pathL [false, true] = .leaf (V.b ((((F.D a plainS).length : Nat) : Int) == ((F.D a plainS).length : Int))) := by kernel_rfl
noncomputable abbrev tr0 (F : Lw) (a : Sty) : T V := funV Tryz.prog (ΓLw F) [] Tryz.f8 (cod Tryz.f8) [styV a]
theorem p2_c0 (F : Lw) (a : Sty) : (tr0 F a).pathC [true] = [cP2 F a] := by kernel_rfl
theorem p2_l0 (F : Lw) (a : Sty) : (tr0 F a).pathL [true] = .leaf (V.b (bif F.P a != 0 then true else ((F.D a plainS).length : Int) == 0)) := by kernel_rfl
abbrev partsL.s := sty1 fun _ => .leaf (V.b true)
theorem partsL.ok : SpecOK Tryz.prog 8 partsL.s := by
  refine okF (ΓLw.ok) Tryz.func8 (by kernel_rfl) (by kernel_rfl) fun args r hb hr => ?_
  obtain ⟨a, rfl, hr2⟩ := sty1_inv hr
  cases hR : rightS a with
  | false =>
    have hP : pEr a = 40 := by unfold pEr; rw [hR]; rfl
    have e : (tr0 lw a).pathC [true] = [true] := (p2_c0 lw a).trans (by
      show [bif pEr a != 0 then true else _] = _
      rw [hP]; rfl)
    refine ⟨[], LamOK.nil _ _, ((T.pick_path _ _ e).trans (congrArg T.pick (p2_l0 lw a))).trans ?_⟩
    show some (V.b (bif pEr a != 0 then true else _)) = _
    rw [hP]; exact hr2
  | true =>
    have hs := rightS_of hR
    have hP : pEr a = 0 := by unfold pEr; rw [hR]; rfl
    have hT : pTx a = sTxt a := by unfold pTx; rw [hR]; rfl
    by_cases hne : prtP a = []
    · have hl : (nmD a plainS).length = 0 := by rw [nmD_len, ← prtP_len, hne]; rfl
      have e : (tr0 lw a).pathC [true] = [true] := (p2_c0 lw a).trans (by
        show [bif pEr a != 0 then true else seqB (pTx a) (bT [])] = _
        rw [hP, hT, show sTxt a = bT [] by show joinB (prtP a) semiB = _; rw [hne]; rfl, seqB_iff.2 rfl]; rfl)
      refine ⟨[], LamOK.nil _ _, ((T.pick_path _ _ e).trans (congrArg T.pick (p2_l0 lw a))).trans ?_⟩
      show some (V.b (bif pEr a != 0 then true else ((nmD a plainS).length : Int) == 0)) = _
      rw [hP, hl]; exact hr2
    · have hx : seqB (sTxt a) (bT []) = false := by have := sTxt_ne hne []; rwa [List.append_nil] at this
      refine ⟨orP2 lw a, LamOK.orc (c := .loop bodyP2) (by kernel_rfl) (by
        show ∀ y, (T.leaf (Ex.exit 0, finP2 a (pTx a) (pEr a) (nmD a plainS) ((nmD a plainS).length : Nat) 0)).pick = some y → SemC Tryz.prog (.loop bodyP2) (SP2 a (pTx a) (pEr a) (nmD a plainS) 0 0 0) y
        rw [hT, hP]
        exact loopP2 hs hne 0) (LamOK.nil _ _), ?_⟩
      have e : (trP2 lw a).pathC [false, true] = [false, true] := (p2_ca lw a).trans (by
        show [bif pEr a != 0 then true else seqB (pTx a) (bT []), _] = _
        rw [hP, hT, hx, show sameP2 lw a = true from @decide_eq_true _ (Classical.propDecidable _) rfl]; rfl)
      refine ((T.pick_path _ _ e).trans (congrArg T.pick (p2_la lw a))).trans ?_
      show some (V.b ((((nmD a plainS).length : Nat) : Int) == ((nmD a plainS).length : Int))) = _
      rw [beq_self_eq_true]; exact hr2
end
theorem partsL.all (a : Sty) (_ : True) : (partsL.s [styV a]).pick = some (V.b true) := rfl

theorem partsL_lifted (os : Os) (started : os.Started) (H : Type) (enc : TypeId × Value → H) :
    ReturnsInHanded {} Tryz.checked os 8 .any (fun w args => (Rows.stylePartsSpec.pre enc Tryz.prog Tryz.f8 [] false w args ∧ laidMetH Tryz.prog laidL w) ∧ sizedMet enc Tryz.prog Tryz.f8 (OpenSpec.ofChange Rows.stylePartsSpec) false w args)
      (Rows.stylePartsSpec.post enc Tryz.prog Tryz.f8 false true false false) :=
  row_of (rt := 4) (shs := [(true, ksSt)]) H enc os started (fun e => @partsL.ok e) Tryz.func8 (by kernel_rfl) (by kernel_rfl) rfl
    (fun ds hl => by
      have hl' : ds.length = 1 := hl
      match ds, hl' with
      | [d1], _ => rfl)
    (by kernel_rfl)
    (fun xs h => by
      obtain ⟨x1, l, rfl, p1, h⟩ := pvs_cons h
      obtain rfl := pvs_nil h
      obtain ⟨r1, rfl, w1⟩ := pv_style p1
      exact partsL.all r1 w1)
    (by kernel_rfl)
    (ChangeSpec.witness_at (enc := enc) (C := Tryz.checked) (os := os) (X := fun w _ => laidMetH Tryz.prog laidL w) false (laidWorld os) #[.agg #[.int .i64 0, .int .i64 0, .int .i64 0, .int .i64 0, .bool false, .int .i64 0, .int .i64 0, .int .i64 0, .bool false, .int .i64 0, .int .i64 0, .bool false, .int .i64 0, .bool false, .int .i64 0, .int .i64 0]] 8 rfl (by kernel_rfl) (by kernel_rfl) (by kernel_rfl) (by kernel_rfl) (by kernel_rfl) (laidWorld_met os _))

theorem partsL_row : Rows.StylePartsSaid :=
  OpenClaim.holds_of_wide 8 Tryz.f8 rfl rfl rfl rfl rfl rfl rfl ⟨rfl, rfl, rfl, rfl, rfl⟩ rfl rfl rfl rfl rfl (by kernel_rfl) Tryz.func8 (by kernel_rfl)
    (of_decide_eq_true (by kernel_rfl)) (by unfold Func.isWrapper; rw [if_neg (of_decide_eq_false (by kernel_rfl))]; exact ⟨rfl, rfl⟩)
    (fun os started H enc _ => partsL_lifted os started H enc)

theorem partsL_holds : Rows.StylePartsCardSaid :=
  Claim7.holds_tied_plain_at .later [] [.data, .data, .data, .data, .handle, .sentinel, .sentinel, .sentinel, .sentinel, .sentinel, .sentinel, .pinned] true Rows.stylePartsCard.stood.harness true
    partsL_row (fun _ h => by cases h) (by kernel_rfl) (fun _ h => by cases h) styleParts_row_tie rfl ⟨rfl, rfl⟩ (by kernel_rfl) rfl
    (fun f fn hf hfn => by
      obtain rfl : f = 8 := Option.some.inj ((show Tryz.prog.funcNamed "gutter/gutterlaw04.StyleParts" = some 8 by kernel_rfl).symm.trans hf) |>.symm
      obtain rfl : fn = Tryz.f8 := (Option.some.inj (Tryz.func8.symm.trans hfn)).symm
      exact ⟨by kernel_rfl, fun j t ht => by
        have e : Tryz.f8.params.all (fun t => !(Tryz.pinned.checked.prog.wantsStandIn t)) = true := by kernel_rfl
        have := Array.all_eq_true_iff_forall_mem.1 e t (Array.mem_of_getElem? ht)
        simpa using this⟩)
    (by kernel_rfl)
#print axioms partsL_holds
end Go.Proofs.YtgmeglodnhagdaaGreatDoor
