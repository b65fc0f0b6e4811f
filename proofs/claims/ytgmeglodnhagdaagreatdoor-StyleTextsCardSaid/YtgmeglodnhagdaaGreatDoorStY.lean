/- Style: the library's functions; styles; lengths. -/
import Derived.Test.YtgmeglodnhagdaaGreatDoorShSt
import Derived.Test.YtgmeglodnhagdaaGreatDoorToldSt
import Derived.Test.YtgmeglodnhagdaaGreatDoorBm
import Derived.Lib.SmallJoins

/-! ## StA -/
namespace Go.Proofs.YtgmeglodnhagdaaGreatDoor
open Go Go.SX Go.Proofs Go.RowKit
set_option maxRecDepth 100000
variable [EA]
set_option linter.unusedVariables false
set_option linter.unusedSectionVars false
set_option linter.unusedSimpArgs false

abbrev bL (b : ByteArray) : List UInt8 := b.data.toList
abbrev bT (l : List UInt8) : ByteArray := ⟨l.toArray⟩
theorem bT_bL (b : ByteArray) : bT (bL b) = b := rfl
theorem bL_bT (l : List UInt8) : bL (bT l) = l := by simp [bL, bT]
theorem bL_len (b : ByteArray) : (bL b).length = b.size := rfl
theorem bL_inj {a b : ByteArray} (h : bL a = bL b) : a = b := by rw [← bT_bL a, ← bT_bL b, h]
abbrev lStr (n : Nat) (g : Nat → Nat → Q) : V := .q (.lst [.str] n g)
theorem below_drewN (w : World) (n : Nat) : Below w.heap.size w (w.drewN n) := ⟨rfl, rfl, rfl, Nat.le_refl _, fun _ _ => rfl⟩
theorem below_grow {w a : World} (h : Below w.heap.size w a) (os : Array Obj) : Below w.heap.size w (Sort.grow a os) :=
  ⟨h.os, h.tape, h.output, by have := h.size; simp only [Sort.grow, Array.size_append]; omega, fun k hk => by
    rw [← h.block k hk]
    have := h.size
    simp only [Sort.grow]
    rw [Array.getElem?_append, if_pos (by omega)]⟩
theorem denc' {S : Nat → Prop} {w : World} {x v : Value} (h : DenQ S w (.c x) v) : v = x := by cases h; rfl

/-! ### Cut, CutPrefix -/
abbrev cutS (s sep : ByteArray) : List UInt8 × List UInt8 × Bool := Lib.cut (bL s) (bL sep)
abbrev cutR (s sep : ByteArray) : V := .tup [V.s (bT (cutS s sep).1), V.s (bT (cutS s sep).2.1), V.b (cutS s sep).2.2]
def cut.s : List V → T V
  | [.q (.c (.string s)), .q (.c (.string sep))] => .ite (decide (s.size < 4294967281)) (.leaf (cutR s sep)) .bad
  | _ => .bad
theorem cut.ok : SpecOK Tryz.prog 66 cut.s := by
  refine ⟨by kernel_rfl, fun S w args vals r hS hg _ hd hr => ?_⟩
  unfold cut.s at hr
  split at hr
  · rename_i s sep
    rw [pick_ite] at hr
    by_cases hs : s.size < 4294967281
    · rw [decide_eq_true hs] at hr
      cases hr
      cases hd with
      | cons _ v _ us hx hl =>
        cases hl with
        | cons _ v2 _ us hx2 hl =>
          cases hl
          have e1 := denc' hx.q_inv
          have e2 := denc' hx2.q_inv
          subst e1 e2
          exact (Tryz.strings_Cut s sep _ w hs (laidAt_cell (hg _ gl_ml) rfl)).mono fun e w' ⟨he, n, hw⟩ => ⟨_, he, hw ▸ below_drewN w n, .tup _ [_, _, _] (.cons _ _ _ _ (.q _ _ (.c _)) (.cons _ _ _ _ (.q _ _ (.c _)) (.cons _ _ _ _ (.q _ _ (.c _)) .nil)))⟩
    · rw [decide_eq_false hs] at hr; cases hr
  · cases hr
def cutP.s : List V → T V
  | [.q (.c (.string s)), .q (.c (.string p))] => .leaf (.tup [V.s (bT (Lib.trimPrefix (bL s) (bL p))), V.b (Lib.hasPrefix (bL s) (bL p))])
  | _ => .bad
theorem cutP.ok : SpecOK Tryz.prog 126 cutP.s := by
  refine ⟨by kernel_rfl, fun S w args vals r hS hg _ hd hr => ?_⟩
  unfold cutP.s at hr
  split at hr
  · rename_i s p
    cases hr
    cases hd with
    | cons _ v _ us hx hl =>
      cases hl with
      | cons _ v2 _ us hx2 hl =>
        cases hl
        have e1 := denc' hx.q_inv
        have e2 := denc' hx2.q_inv
        subst e1 e2
        exact (Tryz.strings_CutPrefix s p w).mono fun e w' ⟨he, hw⟩ => ⟨_, he, hw ▸ Below.refl _ _, .tup _ [_, _] (.cons _ _ _ _ (.q _ _ (.c _)) (.cons _ _ _ _ (.q _ _ (.c _)) .nil))⟩
  · cases hr

/-! ### Itoa, Atoi -/
def itoa.s : List V → T V
  | [.q (.c (.int .i64 n))] => .ite (decide (-9223372036854775808 ≤ n ∧ n ≤ 9223372036854775807)) (.leaf (V.s (bT (Lib.itoa n)))) .bad
  | _ => .bad
theorem p10_tab {w : World} (hg : GLw w) : Lib.TabIs Tryz.prog w "internal/strconv.uint64pow10" .u64 Lib.pow10Tab := by
  obtain ⟨t, fz, h⟩ := hg _ gl_p10
  have hn : Tryz.prog.globalNamed "internal/strconv.uint64pow10" = some 10 := by kernel_rfl
  unfold Lib.TabIs World.var?
  rw [hn]
  show (match w.heap[10]? with | some (.cells cs _ _) => some cs | _ => none) = _
  rw [h]
theorem itoa.ok : SpecOK Tryz.prog 94 itoa.s := by
  refine ⟨by kernel_rfl, fun S w args vals r hS hg _ hd hr => ?_⟩
  unfold itoa.s at hr
  split at hr
  · rename_i n
    rw [pick_ite] at hr
    by_cases hs : -9223372036854775808 ≤ n ∧ n ≤ 9223372036854775807
    · rw [decide_eq_true hs] at hr
      cases hr
      cases hd with
      | cons _ v _ us hx hl =>
        cases hl
        have e1 := denc' hx.q_inv
        subst e1
        exact (Tryz.strconv_Itoa n hs.1 hs.2 w (p10_tab hg)).mono fun e w' ⟨he, k, os, hw⟩ => ⟨_, he, hw ▸ below_grow (below_drewN w k) os, .q _ _ (.c _)⟩
    · rw [decide_eq_false hs] at hr; cases hr
  · cases hr
def atoiN (b : ByteArray) : Int := match Lib.atoiAll (bL b) with
  | .ok v => v
  | .range => Lib.atoiSat (bL b)
  | _ => 0
def atoiE (b : ByteArray) : Bool := match Lib.atoiAll (bL b) with
  | .ok _ => true
  | _ => false
def atoi.s : List V → T V
  | [.q (.c (.string s))] => .ite (decide (s.size ≤ 1000000)) (.ite (atoiE s) (.leaf (.tup [V.i (atoiN s), nilE])) (.leaf (.tup [V.i (atoiN s), .q .nn]))) .bad
  | _ => .bad
theorem atoi.ok : SpecOK Tryz.prog 96 atoi.s := by
  refine ⟨by kernel_rfl, fun S w args vals r hS hg _ hd hr => ?_⟩
  unfold atoi.s at hr
  split at hr
  · rename_i s
    rw [pick_ite] at hr
    by_cases hs : s.size ≤ 1000000
    · rw [decide_eq_true hs, cond_true, pick_ite] at hr
      cases hd with
      | cons _ v _ us hx hl =>
        cases hl
        have e1 := denc' hx.q_inv
        subst e1
        have hex : ∀ (i : Nat), errP i = .nilIface ∨ ∃ te pe, errP i = .iface te pe := fun i => .inr ⟨_, _, rfl⟩
        cases hA : Lib.atoiAll (bL s) with
        | ok v =>
          rw [show atoiE s = true by unfold atoiE; rw [hA], show atoiN s = v by unfold atoiN; rw [hA]] at hr
          cases hr
          refine (Tryz.strconv_Atoi_ok s (by omega) v hA w).mono fun e w' ⟨he, hw⟩ => ⟨_, he, ?_, .tup _ [_, _] (.cons _ _ _ _ (.q _ _ (.c _)) (.cons _ _ _ _ (.q _ _ (.c _)) .nil))⟩
          rcases hw with rfl | ⟨t, rfl⟩
          · exact Below.refl _ _
          · exact Joins.below_bytesWorld _ w _ t (Nat.le_refl _)
        | range =>
          rw [show atoiE s = false by unfold atoiE; rw [hA], show atoiN s = Lib.atoiSat (bL s) by unfold atoiN; rw [hA]] at hr
          cases hr
          exact (Tryz.strconv_Atoi_range s (by omega) hA _ w (laidAt_cell (hg _ gl_rng) rfl) (hex 5)).mono fun e w' ⟨N, he, _, _, hw⟩ => ⟨_, he, hw, .tup _ [_, _] (.cons _ _ _ _ (.q _ _ (.c _)) (.cons _ _ _ _ (.q _ _ (.nn _ _)) .nil))⟩
        | _ =>
          rw [show atoiE s = false by unfold atoiE; rw [hA], show atoiN s = 0 by unfold atoiN; rw [hA]] at hr
          cases hr
          exact (Tryz.strconv_Atoi_syntax s (by omega) hA _ w (laidAt_cell (hg _ gl_syn) rfl) (hex 4)).mono fun e w' ⟨N, he, _, _, hw⟩ => ⟨_, he, hw, .tup _ [_, _] (.cons _ _ _ _ (.q _ _ (.c _)) (.cons _ _ _ _ (.q _ _ (.nn _ _)) .nil))⟩
    · rw [decide_eq_false hs] at hr; cases hr
  · cases hr

/-! ### Split, Join -/
abbrev strQ (b : ByteArray) : List Q := [.c (.string b)]
abbrev vStr (l : List ByteArray) : V := vOf [.str] strQ l
theorem str_kok (b : ByteArray) (j : Nat) (k : K) (h : ([K.str] : List K)[j]? = some k) : KOk k ((strQ b).getD j default) := by
  cases j with
  | zero => simp at h; subst h; exact .str b
  | succ j => simp at h
def split.s : List V → T V
  | [.q (.c (.string s)), .q (.c (.string sep))] => .ite (decide (s.size < 1000000 ∧ 1 ≤ sep.size)) (.leaf (vStr (Lib.splitB sep 0 (Lib.countB s sep) s))) .bad
  | _ => .bad
theorem split.ok : SpecOK Tryz.prog 29 split.s := by
  refine ⟨by kernel_rfl, fun S w args vals r hS hg _ hd hr => ?_⟩
  unfold split.s at hr
  split at hr
  · rename_i s sep
    rw [pick_ite] at hr
    by_cases hs : s.size < 1000000 ∧ 1 ≤ sep.size
    · rw [decide_eq_true hs] at hr
      cases hr
      cases hd with
      | cons _ v _ us hx hl =>
        cases hl with
        | cons _ v2 _ us hx2 hl =>
          cases hl
          have e1 := denc' hx.q_inv
          have e2 := denc' hx2.q_inv
          subst e1 e2
          refine (Tryz.strings_Split s sep _ w (by omega) (laidAt_cell (hg _ gl_ml) rfl) hs.2).mono fun e w' ⟨he, hw⟩ => ⟨_, he, hw ▸ (Below.refl _ _).alloc (Nat.le_refl _) _, ?_⟩
          have hlen := Lib.splitB_all sep hs.2 0 _ s rfl
          have hle := Lib.countB_le sep hs.2 s.size s (Nat.le_refl _)
          generalize Lib.splitB sep 0 (Lib.countB s sep) s = L at *
          rw [← hlen, hw]
          refine .q _ _ (.lst _ _ _ w.heap.size 0 _ (fun i _ => .string (L.getD i ByteArray.empty)) (.inr ⟨Nat.le_refl _, by simp⟩) ⟨by omega, by omega⟩ (fun i j hi hj => ?_) (fun i j k hi hk => ?_) (fun i j hi hj => ?_))
          · have hj0 : j = 0 := by simpa using hj
            subst hj0
            have := World.cell?_alloc_new w (L.map Value.string).toArray 9 i
            simp only [List.length_singleton, Nat.mul_one, Nat.add_zero, Nat.zero_add] at this ⊢
            rw [this]
            simp [List.getD_eq_getElem?_getD, hi]
          · rw [gOf_at strQ L hi]
            exact str_kok _ j k hk
          · have hj0 : j = 0 := by simpa using hj
            subst hj0
            rw [gOf_at strQ L hi, List.getD_eq_getElem?_getD, List.getElem?_eq_getElem hi]
            exact .c _
    · rw [decide_eq_false hs] at hr; cases hr
  · cases hr
/-- Texts, as a list. -/
abbrev strsL (n : Nat) (g : Nat → Nat → Q) : List ByteArray := (List.range n).map fun i => qStr (g i 0)
abbrev joinB (l : List ByteArray) (sep : ByteArray) : ByteArray := bT (Lib.join (l.map bL) (bL sep))
def join.s : List V → T V
  | [.q (.lst [.str] n g), .q (.c (.string sep))] => .ite (decide (n ≤ 1000000 ∧ (Lib.join ((strsL n g).map bL) (bL sep)).length ≤ 140737488355328)) (.leaf (V.s (joinB (strsL n g) sep))) .bad
  | _ => .bad
theorem join.ok : SpecOK Tryz.prog 25 join.s := by
  refine ⟨by kernel_rfl, fun S w args vals r hS hg _ hd hr => ?_⟩
  unfold join.s at hr
  split at hr
  · rename_i n g sep
    rw [pick_ite] at hr
    by_cases hs : n ≤ 1000000 ∧ (Lib.join ((strsL n g).map bL) (bL sep)).length ≤ 140737488355328
    · rw [decide_eq_true hs] at hr
      cases hr
      cases hd with
      | cons _ v _ us hx hl =>
        cases hl with
        | cons _ v2 _ us hx2 hl =>
          cases hl
          have e2 := denc' hx2.q_inv
          subst e2
          have hq := hx.q_inv
          rcases hq.lst_inv with ⟨rfl, h0⟩ | ⟨b, off, cap, u, rfl, hSb, hcap, hc, hk, hdd⟩
          · subst h0
            exact (Any.strings_Join_none Tryz.lays156 Tryz.Builder_Extra_156 none 0 sep w).mono fun e w' ⟨he, hw⟩ => ⟨_, he, hw ▸ Below.refl _ _, .q _ _ (.c _)⟩
          · have hlen : (strsL n g).length = n := by simp
            have key : ∀ (j : Nat) x, (strsL n g)[j]? = some x → w.cell? ⟨b, off + j, none⟩ = some (.string x) := fun j x hj => by
              have hjn : j < n := by
                have := (List.getElem?_eq_some_iff.1 hj).1
                rwa [hlen] at this
              have hx : x = qStr (g j 0) := by
                simp [strsL, hjn] at hj
                exact hj.symm
              have k0 := hdd j 0 hjn (by simp)
              rw [← nrm_eq (hk j 0 .str hjn rfl)] at k0
              have v0 : u j 0 = .string (qStr (g j 0)) := denc' k0
              have := hc j 0 hjn (by simp)
              simp only [List.length_singleton, Nat.mul_one, Nat.add_zero] at this
              rw [this, v0, hx]
            have := Tryz.strings_Join b off cap (strsL n g) sep w key (hS b hSb) (by rw [hlen]; omega) (by rw [hlen]; exact hcap.1) hs.2
            rw [hlen] at this
            exact this.mono fun e w' ⟨he, hw⟩ => ⟨_, he, hw, .q _ _ (.c _)⟩
    · rw [decide_eq_false hs] at hr; cases hr
  · cases hr
end Go.Proofs.YtgmeglodnhagdaaGreatDoor

/-! ## StB -/
namespace Go.Proofs.YtgmeglodnhagdaaGreatDoor
open Go Go.SX Go.Proofs
set_option maxRecDepth 100000
variable [EA]
set_option linter.unusedVariables false
set_option linter.unusedSectionVars false
set_option linter.unusedSimpArgs false

/-- A style. -/
structure Sty where
  c : Int
  w : Int
  g : Int
  r : Int
  a : Bool
  h : Int
  o : Int
  wi : Int
  k : Bool
  b : Int
  af : Int
  sp : Bool
  si : Int
  cl : Bool
  t : Int
  bo : Int
  deriving DecidableEq
abbrev styL (s : Sty) : List V := [V.i s.c, V.i s.w, V.i s.g, V.i s.r, V.b s.a, V.i s.h, V.i s.o, V.i s.wi, V.b s.k, V.i s.b, V.i s.af, V.b s.sp, V.i s.si, V.b s.cl, V.i s.t, V.i s.bo]
abbrev styV (s : Sty) : V := .agg (styL s)
def onSt {α : Type} (x : V) (F : Sty → T α) : T α := match x with
  | .agg [.q (.c (.int .i64 c)), .q (.c (.int .i64 w)), .q (.c (.int .i64 g)), .q (.c (.int .i64 r)), .q (.c (.bool a)), .q (.c (.int .i64 h)), .q (.c (.int .i64 o)), .q (.c (.int .i64 wi)), .q (.c (.bool k)), .q (.c (.int .i64 b)), .q (.c (.int .i64 af)), .q (.c (.bool sp)), .q (.c (.int .i64 si)), .q (.c (.bool cl)), .q (.c (.int .i64 t)), .q (.c (.int .i64 bo))] => F ⟨c, w, g, r, a, h, o, wi, k, b, af, sp, si, cl, t, bo⟩
  | _ => .bad
theorem onSt_pick {α : Type} {x : V} {F : Sty → T α} {r : α} (h : (onSt x F).pick = some r) : ∃ s, x = styV s ∧ (F s).pick = some r := by
  unfold onSt at h
  split at h
  · exact ⟨_, rfl, h⟩
  · cases h
abbrev lI (n : Nat) (g : Nat → Nat → Q) : V := .q (.lst [.int .i64] n g)

/-! ### isWithin -/
def outB (a b x : Int) : Bool := bif decide (x < a) then true else decide (x > b)
noncomputable abbrev bodyIw : Code := loopAt Tryz.f36 [0, 1, 0, 1]
def SIw (a b : Int) (n : Nat) (g : Nat → Nat → Q) (i : Int) : St := mkS 24 [(0, V.i a), (1, V.i b), (9, lI n g), (10, V.i n), (11, V.i i)] [] [] false [] 0
def liveIw : Ex → List Nat | .normal => [0, 1, 9, 10, 11] | .ret => [6] | _ => []
noncomputable abbrev treeIw (s : St) : T (Ex × St × Bool) := ltree Tryz.prog [] [] [0, 1, 0, 1] bodyIw 24 0 liveIw poN s
theorem stepIw (a b : Int) (n : Nat) (g : Nat → Nat → Q) (i : Nat) : treeIw (SIw a b n g i) =
    .ite (decide ((i : Int) < n)) (.ite (inI i n) (.ite (outB a b (qInt (g i 0))) (.leaf (.ret, mkS 24 [(6, V.b false)] [] [] false [] 0, true)) (.leaf (.normal, SIw a b n g (w64 (i + 1)), true))) .bad) (.leaf (.exit 0, mkS 24 [] [] [] false [] 0, true)) := by kernel_rfl
theorem loopIw (a b : Int) (n : Nat) (g : Nat → Nat → Q) (hn : n ≤ 9223372036854775807) : ∀ x, (T.ite (allN n fun i => !(outB a b (qInt (g i 0)))) (.leaf (Ex.exit 0, mkS 24 [] [] [] false [] 0)) (.leaf (.ret, mkS 24 [(6, V.b false)] [] [] false [] 0))).pick = some x → SemC Tryz.prog (.loop bodyIw) (SIw a b n g (0 : Nat)) x := by
  refine loopAll (GOK.nil _) (root := cod Tryz.f36) (p := [0, 1, 0, 1]) (by kernel_rfl) hn (fun i => SIw a b n g i) (fun i => !(outB a b (qInt (g i 0)))) _ _ 24 0 liveIw poN poN_ok (fun i hlt hq => ?_) (fun i hlt hq => ?_) ?_
  · exact (congrArg T.pick (stepIw a b n g i)).trans (by rw [c_lt hlt, c_inI hlt, show outB a b (qInt (g i 0)) = false by simpa using hq]; rfl)
  · exact (congrArg T.pick (stepIw a b n g i)).trans (by rw [c_lt hlt, c_inI hlt, show outB a b (qInt (g i 0)) = true by simpa using hq]; rfl)
  · exact (congrArg T.pick (stepIw a b n g n)).trans (by rw [c_ge (Nat.le_refl _)]; rfl)
def allIn (a b : Int) (n : Nat) (g : Nat → Nat → Q) : Bool := allN n fun i => !(outB a b (qInt (g i 0)))
def isWithin.s : List V → T V
  | [.q (.c (.int .i64 a)), .q (.c (.int .i64 b)), .q (.lst [.int .i64] n g)] => .leaf (V.b (allIn a b n g))
  | _ => .bad
theorem isWithin.ok : SpecOK Tryz.prog 36 isWithin.s := by
  refine okF (GOK.nil _) Tryz.func36 (by kernel_rfl) (by kernel_rfl) fun args r hb hr => ?_
  unfold isWithin.s at hr
  split at hr
  · rename_i a b n g
    have hn : n ≤ 9223372036854775807 := (hb (lI n g) (by simp)).1
    refine ⟨_, LamOK.orc (p := [0, 1, 0, 1]) (mk := false) (nn := 24) (k := 0) (live := liveIw .normal) (c := .loop bodyIw) (by kernel_rfl) (loopIw a b n g hn) (LamOK.nil _ _), ?_⟩
    have e : ∀ q, funV Tryz.prog [] [([0, 1, 0, 1], orc false 24 0 (liveIw .normal) (SIw a b n g (0 : Nat)) (.ite q (.leaf (Ex.exit 0, mkS 24 [] [] [] false [] 0)) (.leaf (.ret, mkS 24 [(6, V.b false)] [] [] false [] 0))))] Tryz.f36 (cod Tryz.f36) [V.i a, V.i b, lI n g] =
        .ite (@decide (SIw a b n g (0 : Nat) = SIw a b n g (0 : Nat)) (Classical.propDecidable _)) (.ite q (.leaf (V.b true)) (.leaf (V.b false))) .bad := fun q => by kernel_rfl
    rw [e, ← hr]
    refine (pick_same _ _).trans ?_
    rw [allIn]
    cases (allN n fun i => !(outB a b (qInt (g i 0)))) <;> rfl
  · cases hr

/-! ### Right, IsMulti, Plain -/
abbrev iL (l : List Int) : Nat → Nat → Q := gOf intQ l
def rightS (s : Sty) : Bool := bif allIn 0 50 1 (iL [s.c]) then (bif allIn 0 1048576 4 (iL [s.w, s.g, s.r, s.h]) then (bif allIn (-1048576) 1048576 2 (iL [s.t, s.bo]) then (bif allIn 1 20 2 (iL [s.o, s.wi]) then (bif allIn 0 2 2 (iL [s.b, s.af]) then allIn 0 2 1 (iL [s.si]) else false) else false) else false) else false) else false
def sty1 (F : Sty → T V) : List V → T V
  | [x] => onSt x F
  | _ => .bad
theorem ok1 {f : Nat} {fn : Func} {F : Sty → T V} {Γ : Gam} (hΓ : GOK Tryz.prog Γ) (hf : Tryz.prog.funcs[f]? = some fn) (hb : fn.body.isSome = true) (hent : entersB Tryz.prog f = true) (h : ∀ s, funV Tryz.prog Γ [] fn (cod fn) [styV s] = F s) : SpecOK Tryz.prog f (sty1 F) := by
  refine okF hΓ hf hb hent fun args r hb hr => ?_
  unfold sty1 at hr
  split at hr
  · obtain ⟨s, rfl, hr⟩ := onSt_pick hr
    exact ⟨[], LamOK.nil _ _, (congrArg T.pick (h s)).trans hr⟩
  · cases hr
abbrev right.s := sty1 fun s => .leaf (V.b (rightS s))
theorem right.ok : SpecOK Tryz.prog 15 right.s := ok1 (.cons isWithin.ok (GOK.nil _)) Tryz.func15 (by kernel_rfl) (by kernel_rfl) fun s => by kernel_rfl
def multiS (s : Sty) : Bool := bif decide (s.c > 0) then true else decide (s.w > 0)
abbrev multi.s := sty1 fun s => .leaf (V.b (multiS s))
theorem multi.ok : SpecOK Tryz.prog 19 multi.s := ok1 (GOK.nil _) Tryz.func19 (by kernel_rfl) (by kernel_rfl) fun s => by kernel_rfl
theorem rMulti.ok : SpecOK Tryz.prog 20 multi.s := ok1 (GOK.nil _) Tryz.func20 (by kernel_rfl) (by kernel_rfl) fun s => by kernel_rfl
/-- The plain style. -/
def plainS : Sty := ⟨0, 0, 0, 0, false, 0, 1, 1, false, 0, 0, false, 0, false, 0, 0⟩
def plain.s : List V → T V
  | [] => .leaf (styV plainS)
  | _ => .bad
theorem plain.ok : SpecOK Tryz.prog 16 plain.s := by
  refine okF (GOK.nil _) Tryz.func16 (by kernel_rfl) (by kernel_rfl) fun args r hb hr => ?_
  unfold plain.s at hr
  split at hr
  · exact ⟨[], LamOK.nil _ _, (congrArg T.pick (show funV Tryz.prog [] [] Tryz.f16 (cod Tryz.f16) [] = .leaf (styV plainS) by kernel_rfl)).trans hr⟩
  · cases hr
theorem rPlain.ok : SpecOK Tryz.prog 17 plain.s := by
  refine okF (GOK.nil _) Tryz.func17 (by kernel_rfl) (by kernel_rfl) fun args r hb hr => ?_
  unfold plain.s at hr
  split at hr
  · exact ⟨[], LamOK.nil _ _, (congrArg T.pick (show funV Tryz.prog [] [] Tryz.f17 (cod Tryz.f17) [] = .leaf (styV plainS) by kernel_rfl)).trans hr⟩
  · cases hr

/-! ### a field's place; what alone is kept -/
/-- What a style lies in: alone, or a reader's, its list behind. -/
def onCell {α : Type} (x : List V) (F : Sty → Option Q → T α) : T α := match x with
  | [.q (.c (.int .i64 c)), .q (.c (.int .i64 w)), .q (.c (.int .i64 g)), .q (.c (.int .i64 r)), .q (.c (.bool a)), .q (.c (.int .i64 h)), .q (.c (.int .i64 o)), .q (.c (.int .i64 wi)), .q (.c (.bool k)), .q (.c (.int .i64 b)), .q (.c (.int .i64 af)), .q (.c (.bool sp)), .q (.c (.int .i64 si)), .q (.c (.bool cl)), .q (.c (.int .i64 t)), .q (.c (.int .i64 bo))] => F ⟨c, w, g, r, a, h, o, wi, k, b, af, sp, si, cl, t, bo⟩ none
  | [.q (.c (.int .i64 c)), .q (.c (.int .i64 w)), .q (.c (.int .i64 g)), .q (.c (.int .i64 r)), .q (.c (.bool a)), .q (.c (.int .i64 h)), .q (.c (.int .i64 o)), .q (.c (.int .i64 wi)), .q (.c (.bool k)), .q (.c (.int .i64 b)), .q (.c (.int .i64 af)), .q (.c (.bool sp)), .q (.c (.int .i64 si)), .q (.c (.bool cl)), .q (.c (.int .i64 t)), .q (.c (.int .i64 bo)), .q l] => F ⟨c, w, g, r, a, h, o, wi, k, b, af, sp, si, cl, t, bo⟩ (some l)
  | _ => .bad
abbrev celL (s : Sty) : Option Q → List V
  | none => styL s
  | some l => styL s ++ [.q l]
theorem onCell_pick {α : Type} {x : List V} {F : Sty → Option Q → T α} {r : α} (h : (onCell x F).pick = some r) : ∃ s l, x = celL s l ∧ (F s l).pick = some r := by
  unfold onCell at h
  split at h
  · exact ⟨_, none, rfl, h⟩
  · exact ⟨_, some _, rfl, h⟩
  · cases h
def atS (off : Nat) : Option Ob → List V → T XOut
  | some (.cells t cs), [.ptr 0 0] => onCell cs fun s l => .leaf ⟨some (.cells t (celL s l)), none, .ptr 0 off⟩
  | _, _ => .bad
theorem atX {f : Nat} {fn : Func} {off : Nat} (hf : Tryz.prog.funcs[f]? = some fn) (hb : fn.body.isSome = true) (hent : entersB Tryz.prog f = true) (h : ∀ t s, funX Tryz.prog [] [] fn (cod fn) false (some (.cells t (celL s none))) [.ptr 0 0] = .leaf ⟨some (.cells t (celL s none)), none, .ptr 0 off⟩)
    (h2 : ∀ t s l, funX Tryz.prog [] [] fn (cod fn) false (some (.cells t (celL s (some l)))) [.ptr 0 0] = .leaf ⟨some (.cells t (celL s (some l))), none, .ptr 0 off⟩) : SpecX Tryz.prog f true (atS off) := by
  refine specX_of_bodyW (ho := false) (GOK.nil _) hf (isBody _ hb) hent fun ls args x hl hb he => ?_
  unfold atS at he
  split at he
  · rename_i t cs
    obtain ⟨s, l, rfl, he⟩ := onCell_pick he
    cases l with
    | none => exact ⟨_, [], .rfl, LamOK.nil _ _, (congrArg T.pick (h t s)).trans he⟩
    | some l => exact ⟨_, [], .rfl, LamOK.nil _ _, (congrArg T.pick (h2 t s l)).trans he⟩
  · cases he
theorem at0.ok : SpecX Tryz.prog 46 true (atS 0) := atX Tryz.func46 (by kernel_rfl) (by kernel_rfl) (fun t s => by kernel_rfl) fun t s l => by kernel_rfl
theorem at1.ok : SpecX Tryz.prog 48 true (atS 1) := atX Tryz.func48 (by kernel_rfl) (by kernel_rfl) (fun t s => by kernel_rfl) fun t s l => by kernel_rfl
theorem at2.ok : SpecX Tryz.prog 49 true (atS 2) := atX Tryz.func49 (by kernel_rfl) (by kernel_rfl) (fun t s => by kernel_rfl) fun t s l => by kernel_rfl
theorem at3.ok : SpecX Tryz.prog 50 true (atS 3) := atX Tryz.func50 (by kernel_rfl) (by kernel_rfl) (fun t s => by kernel_rfl) fun t s l => by kernel_rfl
theorem at4.ok : SpecX Tryz.prog 52 true (atS 4) := atX Tryz.func52 (by kernel_rfl) (by kernel_rfl) (fun t s => by kernel_rfl) fun t s l => by kernel_rfl
theorem at5.ok : SpecX Tryz.prog 53 true (atS 5) := atX Tryz.func53 (by kernel_rfl) (by kernel_rfl) (fun t s => by kernel_rfl) fun t s l => by kernel_rfl
theorem at6.ok : SpecX Tryz.prog 54 true (atS 6) := atX Tryz.func54 (by kernel_rfl) (by kernel_rfl) (fun t s => by kernel_rfl) fun t s l => by kernel_rfl
theorem at7.ok : SpecX Tryz.prog 55 true (atS 7) := atX Tryz.func55 (by kernel_rfl) (by kernel_rfl) (fun t s => by kernel_rfl) fun t s l => by kernel_rfl
theorem at8.ok : SpecX Tryz.prog 56 true (atS 8) := atX Tryz.func56 (by kernel_rfl) (by kernel_rfl) (fun t s => by kernel_rfl) fun t s l => by kernel_rfl
theorem at9.ok : SpecX Tryz.prog 58 true (atS 9) := atX Tryz.func58 (by kernel_rfl) (by kernel_rfl) (fun t s => by kernel_rfl) fun t s l => by kernel_rfl
theorem at10.ok : SpecX Tryz.prog 59 true (atS 10) := atX Tryz.func59 (by kernel_rfl) (by kernel_rfl) (fun t s => by kernel_rfl) fun t s l => by kernel_rfl
theorem at11.ok : SpecX Tryz.prog 60 true (atS 11) := atX Tryz.func60 (by kernel_rfl) (by kernel_rfl) (fun t s => by kernel_rfl) fun t s l => by kernel_rfl
theorem at12.ok : SpecX Tryz.prog 61 true (atS 12) := atX Tryz.func61 (by kernel_rfl) (by kernel_rfl) (fun t s => by kernel_rfl) fun t s l => by kernel_rfl
theorem at13.ok : SpecX Tryz.prog 62 true (atS 13) := atX Tryz.func62 (by kernel_rfl) (by kernel_rfl) (fun t s => by kernel_rfl) fun t s l => by kernel_rfl
theorem at14.ok : SpecX Tryz.prog 63 true (atS 14) := atX Tryz.func63 (by kernel_rfl) (by kernel_rfl) (fun t s => by kernel_rfl) fun t s l => by kernel_rfl
theorem at15.ok : SpecX Tryz.prog 64 true (atS 15) := atX Tryz.func64 (by kernel_rfl) (by kernel_rfl) (fun t s => by kernel_rfl) fun t s l => by kernel_rfl
/-- The style a, but for one field of b's. -/
def setF (a b : Sty) : Nat → Sty
  | 0 => { a with c := b.c }
  | 1 => { a with w := b.w }
  | 2 => { a with g := b.g }
  | 3 => { a with r := b.r }
  | 4 => { a with a := b.a }
  | 5 => { a with h := b.h }
  | 6 => { a with o := b.o }
  | 7 => { a with wi := b.wi }
  | 8 => { a with k := b.k }
  | 9 => { a with b := b.b }
  | 10 => { a with af := b.af }
  | 11 => { a with sp := b.sp }
  | 12 => { a with si := b.si }
  | 13 => { a with cl := b.cl }
  | 14 => { a with t := b.t }
  | 15 => { a with bo := b.bo }
  | _ => a
def keepS (i : Nat) : Option Ob → List V → T XOut
  | some (.cells t cs), [.ptr 0 0, x] => onSt (.agg cs) fun a => onSt x fun b => .leaf ⟨some (.cells t (styL (setF a b i))), none, .tup []⟩
  | _, _ => .bad
theorem keepX {f : Nat} {fn : Func} {i : Nat} (hf : Tryz.prog.funcs[f]? = some fn) (hb : fn.body.isSome = true) (hent : entersB Tryz.prog f = true) (h : ∀ t a b, funX Tryz.prog [] [] fn (cod fn) false (some (.cells t (styL a))) [.ptr 0 0, styV b] = .leaf ⟨some (.cells t (styL (setF a b i))), none, .tup []⟩) : SpecX Tryz.prog f true (keepS i) := by
  refine specX_of_bodyW (ho := false) (GOK.nil _) hf (isBody _ hb) hent fun ls args x hl hb he => ?_
  unfold keepS at he
  split at he
  · rename_i t cs x
    obtain ⟨a, ha, he⟩ := onSt_pick he
    obtain ⟨b, rfl, he⟩ := onSt_pick he
    cases ha
    exact ⟨_, [], .rfl, LamOK.nil _ _, (congrArg T.pick (h t a b)).trans he⟩
  · cases he
theorem keep0.ok : SpecX Tryz.prog 74 true (keepS 0) := keepX Tryz.func74 (by kernel_rfl) (by kernel_rfl) fun t a b => by kernel_rfl
theorem keep1.ok : SpecX Tryz.prog 75 true (keepS 1) := keepX Tryz.func75 (by kernel_rfl) (by kernel_rfl) fun t a b => by kernel_rfl
theorem keep2.ok : SpecX Tryz.prog 76 true (keepS 2) := keepX Tryz.func76 (by kernel_rfl) (by kernel_rfl) fun t a b => by kernel_rfl
theorem keep3.ok : SpecX Tryz.prog 77 true (keepS 3) := keepX Tryz.func77 (by kernel_rfl) (by kernel_rfl) fun t a b => by kernel_rfl
theorem keep4.ok : SpecX Tryz.prog 78 true (keepS 4) := keepX Tryz.func78 (by kernel_rfl) (by kernel_rfl) fun t a b => by kernel_rfl
theorem keep5.ok : SpecX Tryz.prog 79 true (keepS 5) := keepX Tryz.func79 (by kernel_rfl) (by kernel_rfl) fun t a b => by kernel_rfl
theorem keep6.ok : SpecX Tryz.prog 80 true (keepS 6) := keepX Tryz.func80 (by kernel_rfl) (by kernel_rfl) fun t a b => by kernel_rfl
theorem keep7.ok : SpecX Tryz.prog 81 true (keepS 7) := keepX Tryz.func81 (by kernel_rfl) (by kernel_rfl) fun t a b => by kernel_rfl
theorem keep8.ok : SpecX Tryz.prog 82 true (keepS 8) := keepX Tryz.func82 (by kernel_rfl) (by kernel_rfl) fun t a b => by kernel_rfl
theorem keep9.ok : SpecX Tryz.prog 83 true (keepS 9) := keepX Tryz.func83 (by kernel_rfl) (by kernel_rfl) fun t a b => by kernel_rfl
theorem keep10.ok : SpecX Tryz.prog 84 true (keepS 10) := keepX Tryz.func84 (by kernel_rfl) (by kernel_rfl) fun t a b => by kernel_rfl
theorem keep11.ok : SpecX Tryz.prog 85 true (keepS 11) := keepX Tryz.func85 (by kernel_rfl) (by kernel_rfl) fun t a b => by kernel_rfl
theorem keep12.ok : SpecX Tryz.prog 86 true (keepS 12) := keepX Tryz.func86 (by kernel_rfl) (by kernel_rfl) fun t a b => by kernel_rfl
theorem keep13.ok : SpecX Tryz.prog 87 true (keepS 13) := keepX Tryz.func87 (by kernel_rfl) (by kernel_rfl) fun t a b => by kernel_rfl
theorem keep14.ok : SpecX Tryz.prog 88 true (keepS 14) := keepX Tryz.func88 (by kernel_rfl) (by kernel_rfl) fun t a b => by kernel_rfl
theorem keep15.ok : SpecX Tryz.prog 89 true (keepS 15) := keepX Tryz.func89 (by kernel_rfl) (by kernel_rfl) fun t a b => by kernel_rfl
end Go.Proofs.YtgmeglodnhagdaaGreatDoor

/-! ## StU -/
namespace Go.Proofs.YtgmeglodnhagdaaGreatDoor
open Go Go.SX Go.Proofs
set_option maxRecDepth 100000
variable [EA]
set_option linter.unusedVariables false
set_option linter.unusedSectionVars false
set_option linter.unusedSimpArgs false

abbrev V.u (n : Int) : V := V.int .u64 n
abbrev u64 (n : Int) : Int := IntKind.u64.wrap n
theorem u64_id {n : Int} (h1 : 0 ≤ n) (h2 : n ≤ 18446744073709551615) : u64 n = n := by
  show IntKind.wrap .u64 n = n
  simp only [IntKind.wrap, IntKind.signed, IntKind.bits]
  simp
  omega

/-! ### digits -/
/-- A number's digits. -/
def digF : Nat → Nat → List UInt8
  | 0, u => [UInt8.ofNat (48 + u)]
  | f + 1, u => bif decide (u < 10) then [UInt8.ofNat (48 + u)] else digF f (u / 10) ++ [UInt8.ofNat (48 + u % 10)]
theorem digF_len : ∀ f u, (digF f u).length ≤ f + 1
  | 0, u => Nat.le_refl _
  | f + 1, u => by
    have := digF_len f (u / 10)
    rw [digF]
    cases decide (u < 10) <;> simp <;> omega
theorem digF_more : ∀ f g u, u < 10 ^ (f + 1) → u < 10 ^ (g + 1) → digF f u = digF g u
  | 0, 0, u, _, _ => rfl
  | 0, g + 1, u, h, _ => by
    rw [digF, digF, decide_eq_true (show u < 10 by simpa using h)]; rfl
  | f + 1, 0, u, _, h => by
    rw [digF, digF, decide_eq_true (show u < 10 by simpa using h)]; rfl
  | f + 1, g + 1, u, h1, h2 => by
    rw [digF, digF, digF_more f g (u / 10) (by rw [Nat.div_lt_iff_lt_mul (by omega)]; rwa [Nat.pow_succ] at h1) (by rw [Nat.div_lt_iff_lt_mul (by omega)]; rwa [Nat.pow_succ] at h2)]
abbrev digL (u : Nat) : List UInt8 := digF 19 u
abbrev digT (n : Int) : ByteArray := bT (digL n.toNat)
theorem digL_small {u : Nat} (h : u < 10) : digL u = [UInt8.ofNat (48 + u)] := by
  show digF 19 u = _
  rw [digF, decide_eq_true h]; rfl
theorem digL_big {u : Nat} (h : ¬ u < 10) (hu : u < 10000000000000000000) : digL u = digL (u / 10) ++ [UInt8.ofNat (48 + u % 10)] := by
  show digF 19 u = digF 19 (u / 10) ++ _
  rw [digF, decide_eq_false h, digF_more 18 19 (u / 10) (by omega) (by omega)]; rfl
theorem digT_size (n : Int) : (digT n).size ≤ 20 := by
  have := digF_len 19 n.toNat
  rw [← bL_len, bL_bT]; omega
theorem enc_all : (List.range 10).all (fun k => decide (Utf8.encode (IntKind.i32.wrap (u64 (48 + (k : Nat)))) = bT [UInt8.ofNat (48 + k)])) = true := by kernel_rfl
theorem enc_dig {k : Nat} (h : k < 10) : Utf8.encode (IntKind.i32.wrap (u64 (48 + (k : Nat)))) = bT [UInt8.ofNat (48 + k)] :=
  of_decide_eq_true (List.all_eq_true.1 enc_all k (List.mem_range.2 h))
/-- The digits of a number less than 10 ^ (d + 1). -/
def digits.d (d : Nat) : List V → T V
  | [.q (.c (.int .u64 n))] => .ite (decide (0 ≤ n ∧ n.toNat < 10 ^ d ∧ d ≤ 19)) (.leaf (V.s (digT n))) .bad
  | _ => .bad
theorem digits.eq (d : Nat) (n : Int) : funV Tryz.prog [(124, digits.d d)] [] Tryz.f124 (cod Tryz.f124) [V.u n] =
    .ite (decide (n < 10)) (.leaf (V.s (Utf8.encode (IntKind.i32.wrap (u64 (48 + n))))))
      (.ite (decide (0 ≤ u64 (n.tdiv 10) ∧ (u64 (n.tdiv 10)).toNat < 10 ^ d ∧ d ≤ 19)) (.ite (decide (0 ≤ n.tmod 10 ∧ (n.tmod 10).toNat < 10 ^ d ∧ d ≤ 19)) (.ite (decide ((digT (u64 (n.tdiv 10))).size + (digT (n.tmod 10)).size ≤ 9223372036854775807)) (.leaf (V.s (digT (u64 (n.tdiv 10)) ++ digT (n.tmod 10)))) .bad) .bad) .bad) := by kernel_rfl
theorem bT_app (a b : List UInt8) : bT a ++ bT b = bT (a ++ b) := by
  apply bL_inj
  rw [bL_bT]
  show (bT a ++ bT b).data.toList = a ++ b
  rw [ByteArray.data_append, Array.toList_append]
theorem digits.okd : ∀ d, SpecOK Tryz.prog 124 (digits.d d)
  | 0 => by
    refine okF (GOK.nil _) Tryz.func124 (by kernel_rfl) (by kernel_rfl) fun args r hb hr => ?_
    unfold digits.d at hr
    split at hr
    · rename_i n
      rw [pick_ite] at hr
      by_cases h : 0 ≤ n ∧ n.toNat < 10 ^ 0 ∧ 0 ≤ 19
      · rw [decide_eq_true h] at hr
        obtain rfl : n = 0 := by simp at h; omega
        refine ⟨[], LamOK.nil _ _, (congrArg T.pick (show funV Tryz.prog [] [] Tryz.f124 (cod Tryz.f124) [V.u 0] = .ite true (.leaf (V.s (Utf8.encode (IntKind.i32.wrap (u64 (48 + 0)))))) .bad by kernel_rfl)).trans ?_⟩
        have := enc_dig (show 0 < 10 by omega)
        rw [← hr]
        show some (V.s (Utf8.encode (IntKind.i32.wrap (u64 (48 + 0))))) = some (V.s (digT 0))
        rw [show (48 : Int) + 0 = 48 + ((0 : Nat) : Int) by rfl, this]
        rfl
      · rw [decide_eq_false h] at hr; cases hr
    · cases hr
  | d + 1 => by
    refine okF (.cons (digits.okd d) (GOK.nil _)) Tryz.func124 (by kernel_rfl) (by kernel_rfl) fun args r hb hr => ?_
    unfold digits.d at hr
    split at hr
    · rename_i n
      rw [pick_ite] at hr
      by_cases h : 0 ≤ n ∧ n.toNat < 10 ^ (d + 1) ∧ d + 1 ≤ 19
      · rw [decide_eq_true h] at hr
        obtain ⟨h0, h1, h2⟩ := h
        refine ⟨[], LamOK.nil _ _, (congrArg T.pick (digits.eq d n)).trans ?_⟩
        obtain ⟨k, rfl⟩ := Int.eq_ofNat_of_zero_le h0
        rw [← hr]
        by_cases hk : k < 10
        · rw [decide_eq_true (show (k : Int) < 10 by omega)]
          simp only [pick_ite, cond_true, pick_leaf, enc_dig hk]
          rw [digT, show ((k : Nat) : Int).toNat = k by omega, digL_small hk]
        · have hp : 10 ^ (d + 1) ≤ 10000000000000000000 := Nat.le_trans (Nat.pow_le_pow_right (by omega) h2) (by decide)
          simp only [Int.toNat_natCast] at h1
          have e1 : ((k : Int)).tdiv 10 = ((k / 10 : Nat) : Int) := by rw [Int.tdiv_eq_ediv_of_nonneg (by omega)]; omega
          have e2 : ((k : Int)).tmod 10 = ((k % 10 : Nat) : Int) := by rw [Int.tmod_eq_emod_of_nonneg (by omega)]; omega
          have e3 : u64 ((k / 10 : Nat) : Int) = ((k / 10 : Nat) : Int) := u64_id (by omega) (by omega)
          have hd : k / 10 < 10 ^ d := by rw [Nat.div_lt_iff_lt_mul (by omega)]; rwa [Nat.pow_succ] at h1
          have hd1 : 1 ≤ d := by
            rcases Nat.eq_zero_or_pos d with rfl | hh
            · simp at hd; omega
            · exact hh
          have hm : k % 10 < 10 ^ d := Nat.lt_of_lt_of_le (Nat.mod_lt _ (by omega)) (by have := Nat.pow_le_pow_right (n := 10) (by omega) hd1; simpa using this)
          have s1 := digT_size ((k / 10 : Nat) : Int)
          have s2 := digT_size ((k % 10 : Nat) : Int)
          rw [e1, e2, e3, decide_eq_false (show ¬ (k : Int) < 10 by omega), decide_eq_true (show 0 ≤ ((k / 10 : Nat) : Int) ∧ (((k / 10 : Nat) : Int)).toNat < 10 ^ d ∧ d ≤ 19 from ⟨by omega, by rw [Int.toNat_natCast]; exact hd, by omega⟩),
            decide_eq_true (show 0 ≤ ((k % 10 : Nat) : Int) ∧ (((k % 10 : Nat) : Int)).toNat < 10 ^ d ∧ d ≤ 19 from ⟨by omega, by rw [Int.toNat_natCast]; exact hm, by omega⟩), decide_eq_true (show (digT ((k / 10 : Nat) : Int)).size + (digT ((k % 10 : Nat) : Int)).size ≤ 9223372036854775807 by omega)]
          simp only [pick_ite, cond_true, cond_false, pick_leaf]
          rw [bT_app]
          simp only [digT, Int.toNat_natCast]
          rw [digL_small (Nat.mod_lt k (by omega)), ← digL_big hk (by omega)]
      · rw [decide_eq_false h] at hr; cases hr
    · cases hr
abbrev digits.s : List V → T V := digits.d 19
theorem digits.ok : SpecOK Tryz.prog 124 digits.s := digits.okd 19

/-! ### rest -/
abbrev and63 (x : Int) : Int := u64 ↑(BitVec.ofInt 64 x &&& BitVec.ofInt 64 63).toNat
theorem and63_eq {k : Nat} (h : k < 18446744073709551616) : and63 (k : Int) = ((k % 64 : Nat) : Int) := by
  have e1 : (BitVec.ofInt 64 (k : Int)).toNat = k := by simp [BitVec.toNat_ofInt]; omega
  have e2 : (BitVec.ofInt 64 63).toNat = 63 := by rfl
  show u64 _ = _
  rw [BitVec.toNat_and, e1, e2, Nat.and_two_pow_sub_one_eq_mod k 6]
  exact u64_id (by omega) (by omega)
/-- A pixel's parts: their digits. -/
def restF : Nat → Nat → List UInt8
  | 0, _ => []
  | f + 1, m => bif m == 0 then [] else digL (m * 10 / 64) ++ restF f (m * 10 % 64)
abbrev restL (m : Nat) : List UInt8 := 46 :: restF 6 m
noncomputable abbrev bodyRs : Code := loopAt Tryz.f125 [0, 1, 0, 1, 1]
def SRs (n : Int) (b : ByteArray) : St := mkS 18 [(0, V.u n), (3, V.s b)] [] [] false [] 0
def liveRs : Ex → List Nat | .normal => [0, 3] | _ => [3]
abbrev ΓRs : Gam := [(124, digits.s)]
theorem ΓRs.ok : GOK Tryz.prog ΓRs := .cons digits.ok (GOK.nil _)
noncomputable abbrev treeRs (s : St) : T (Ex × St × Bool) := ltree Tryz.prog ΓRs [] [0, 1, 0, 1, 1] bodyRs 18 0 liveRs poN s
abbrev shr6 (n : Int) : Int := (u64 (n * 10)).fdiv (2 ^ 6)
theorem stepRs (n : Int) (b : ByteArray) : treeRs (SRs n b) =
    .ite (n != 0) (.ite (decide (0 ≤ shr6 n ∧ (shr6 n).toNat < 10 ^ 19 ∧ 19 ≤ 19)) (.ite (decide (b.size + (digT (shr6 n)).size ≤ 9223372036854775807)) (.leaf (.normal, SRs (and63 (u64 (n * 10))) (b ++ digT (shr6 n)), true)) .bad) .bad)
      (.leaf (.exit 0, mkS 18 [(3, V.s b)] [] [] false [] 0, true)) := by kernel_rfl
theorem rest_end : (List.range 64).all (fun m => decide ((((((m * 10 % 64) * 10 % 64) * 10 % 64) * 10 % 64) * 10 % 64) * 10 % 64 = 0)) = true := by kernel_rfl
/-- What is left behind k digits; what stands then. -/
def rsN (m : Nat) : Nat → Nat
  | 0 => m
  | k + 1 => rsN m k * 10 % 64
def rsB (m : Nat) : Nat → List UInt8
  | 0 => [46]
  | k + 1 => rsB m k ++ digL (rsN m k * 10 / 64)
theorem rsN_lt {m : Nat} (h : m < 64) : ∀ k, rsN m k < 64
  | 0 => h
  | k + 1 => Nat.mod_lt _ (by omega)
theorem rsB_rest {m : Nat} : ∀ j k, restF (k + j) (rsN m 0) = restF (k + j) (rsN m 0) := fun _ _ => rfl
theorem rsN6 {m : Nat} (h : m < 64) : rsN m 6 = 0 := by
  have := of_decide_eq_true (List.all_eq_true.1 rest_end m (List.mem_range.2 h))
  exact this
theorem rsB_size {m : Nat} : ∀ k, (rsB m k).length ≤ 1 + 20 * k
  | 0 => Nat.le_refl _
  | k + 1 => by
    have h1 := rsB_size (m := m) k
    have h2 := digF_len 19 (rsN m k * 10 / 64)
    rw [rsB, List.length_append]
    show _ + (digF 19 _).length ≤ _
    omega
/-- How many digits there are. -/
def rsK (m : Nat) : Nat → Nat → Nat
  | 0, k => k
  | f + 1, k => bif rsN m k == 0 then k else rsK m f (k + 1)
theorem rsK_spec {m : Nat} (h : m < 64) : ∀ f k, k + f = 6 → rsN m (rsK m f k) = 0 ∧ k ≤ rsK m f k ∧ rsK m f k ≤ 6 ∧ (∀ j, k ≤ j → j < rsK m f k → rsN m j ≠ 0) ∧ rsB m (rsK m f k) = rsB m k ++ restF f (rsN m k)
  | 0, k, e => by
    obtain rfl : k = 6 := by omega
    exact ⟨rsN6 h, Nat.le_refl _, Nat.le_refl _, fun j h1 h2 => by simp only [rsK] at h2; omega, by simp [rsK, restF]⟩
  | f + 1, k, e => by
    rw [rsK]
    by_cases h0 : rsN m k = 0
    · rw [beq_iff_eq.2 h0, cond_true]
      exact ⟨h0, Nat.le_refl _, by omega, fun j h1 h2 => by omega, by rw [restF, h0]; simp⟩
    · have hb : (rsN m k == 0) = false := by simpa using h0
      rw [hb, cond_false]
      obtain ⟨a1, a2, a3, a4, a5⟩ := rsK_spec h f (k + 1) (by omega)
      refine ⟨a1, by omega, a3, fun j h1 h2 => ?_, ?_⟩
      · rcases Nat.lt_or_ge k j with hh | hh
        · exact a4 j hh h2
        · rwa [show j = k by omega]
      · rw [a5, restF, hb, cond_false, rsB, List.append_assoc]; rfl
theorem loopRs (m : Nat) (h : m < 64) : ∀ x, (T.leaf (Ex.exit 0, mkS 18 [(3, V.s (bT (restL m)))] [] [] false [] 0)).pick = some x → SemC Tryz.prog (.loop bodyRs) (SRs ((m : Nat) : Int) (bT [46])) x := by
  obtain ⟨a1, _, a3, a4, a5⟩ := rsK_spec h 6 0 rfl
  refine loop_nat ΓRs.ok (root := cod Tryz.f125) (p := [0, 1, 0, 1, 1]) (by kernel_rfl) (rsK m 6 0) (fun _ => True) (fun k => SRs ((rsN m k : Nat) : Int) (bT (rsB m k))) _ 18 0 liveRs poN poN_ok (fun k hk _ => ?_) trivial
  have e := stepRs ((rsN m k : Nat) : Int) (bT (rsB m k))
  have hl := rsN_lt h k
  rcases Nat.lt_or_ge k (rsK m 6 0) with hlt | hge
  · have h0 := a4 k (Nat.zero_le _) hlt
    have e1 : u64 (((rsN m k : Nat) : Int) * 10) = ((rsN m k * 10 : Nat) : Int) := by rw [u64_id (by omega) (by omega)]; omega
    have e2 : shr6 ((rsN m k : Nat) : Int) = ((rsN m k * 10 / 64 : Nat) : Int) := by
      show (u64 _).fdiv _ = _
      rw [e1, Int.fdiv_eq_ediv_of_nonneg _ (by omega)]
      omega
    have s1 := digT_size ((rsN m k * 10 / 64 : Nat) : Int)
    have s2 := rsB_size (m := m) k
    have s3 : (bT (rsB m k)).size ≤ 1 + 20 * k := by rw [← bL_len, bL_bT]; exact s2
    rw [e1, e2, and63_eq (by omega), show (((rsN m k : Nat) : Int) != 0) = true by simp; omega, decide_eq_true (show 0 ≤ ((rsN m k * 10 / 64 : Nat) : Int) ∧ (((rsN m k * 10 / 64 : Nat) : Int)).toNat < 10 ^ 19 ∧ 19 ≤ 19 from ⟨by omega, by simp; omega, Nat.le_refl _⟩),
      decide_eq_true (show (bT (rsB m k)).size + (digT ((rsN m k * 10 / 64 : Nat) : Int)).size ≤ 9223372036854775807 by omega), bT_app] at e
    exact ⟨[], .normal, _, LamOK.nil _ _, (congrArg T.pick e).trans rfl, .inl ⟨rfl, hlt, trivial, by simp only [rsN, rsB, Int.toNat_natCast]⟩⟩
  · obtain rfl : k = rsK m 6 0 := by omega
    rw [a1] at e
    refine ⟨[], .exit 0, _, LamOK.nil _ _, (by rw [a1]; exact (congrArg T.pick e).trans rfl), .inr ⟨by simp, ?_⟩⟩
    rw [a5]
    rfl
def rest.s : List V → T V
  | [.q (.c (.int .u64 n))] => .ite (decide (0 ≤ n ∧ n ≤ 18446744073709551615)) (.leaf (V.s (bT (restL (n.toNat % 64))))) .bad
  | _ => .bad
theorem rest.ok : SpecOK Tryz.prog 125 rest.s := by
  refine okF ΓRs.ok Tryz.func125 (by kernel_rfl) (by kernel_rfl) fun args r hb hr => ?_
  unfold rest.s at hr
  split at hr
  · rename_i n
    rw [pick_ite] at hr
    by_cases h : 0 ≤ n ∧ n ≤ 18446744073709551615
    · rw [decide_eq_true h] at hr
      obtain ⟨k, rfl⟩ := Int.eq_ofNat_of_zero_le h.1
      refine ⟨_, LamOK.orc (p := [0, 1, 0, 1, 1]) (mk := false) (nn := 18) (k := 0) (live := [0, 3]) (c := .loop bodyRs) (by kernel_rfl) (loopRs (k % 64) (Nat.mod_lt _ (by omega))) (LamOK.nil _ _), ?_⟩
      have e : ∀ m b, funV Tryz.prog ΓRs [([0, 1, 0, 1, 1], orc false 18 0 [0, 3] (SRs m (bT [46])) (.leaf (Ex.exit 0, mkS 18 [(3, V.s b)] [] [] false [] 0)))] Tryz.f125 (cod Tryz.f125) [V.u k] =
          .ite (@decide (SRs (and63 k) (bT [46]) = SRs m (bT [46])) (Classical.propDecidable _)) (.leaf (V.s b)) .bad := fun m b => by kernel_rfl
      rw [e, and63_eq (by omega), ← hr]
      exact pick_same _ _
    · rw [decide_eq_false h] at hr; cases hr
  · cases hr

/-! ### Right, Print -/
def rightU (a : Int) : Bool := bif decide (a ≥ -1073741824) then decide (a ≤ 1073741824) else false
def uRight.s : List V → T V
  | [.q (.c (.int .i64 a))] => .leaf (V.b (rightU a))
  | _ => .bad
theorem uRight.ok : SpecOK Tryz.prog 122 uRight.s := by
  refine okF (GOK.nil _) Tryz.func122 (by kernel_rfl) (by kernel_rfl) fun args r hb hr => ?_
  unfold uRight.s at hr
  split at hr
  · rename_i a
    exact ⟨[], LamOK.nil _ _, (congrArg T.pick (show funV Tryz.prog [] [] Tryz.f122 (cod Tryz.f122) [V.i a] = .leaf (V.b (rightU a)) by kernel_rfl)).trans hr⟩
  · cases hr
theorem rightU_iff {a : Int} : rightU a = true ↔ -1073741824 ≤ a ∧ a ≤ 1073741824 := by
  unfold rightU
  rw [cond_and, decide_eq_true_iff]
/-- A length's text. -/
def printL (a : Int) : List UInt8 := (bif decide (a < 0) then [45] else []) ++ (digL (a.natAbs / 64) ++ (bif a.natAbs % 64 == 0 then [] else restL (a.natAbs % 64)))
abbrev printT (a : Int) : ByteArray := bif rightU a then bT (printL a) else bT []
def uPrint.s : List V → T V
  | [.q (.c (.int .i64 a))] => .ite (rightU a) (.leaf (.tup [V.s (bT (printL a)), V.i 0])) (.leaf (.tup [V.s (bT []), V.i 10]))
  | _ => .bad
noncomputable abbrev ΓPr : Gam := [(122, uRight.s), (124, digits.s), (125, rest.s), (123, AsStyle.utold.s), (2 + 1048576, .g (errP 1))]
theorem ΓPr.ok : GOK Tryz.prog ΓPr := .cons uRight.ok (.cons digits.ok (.cons rest.ok (.cons AsStyle.utold.ok (.consG gl_over (GOK.nil _)))))
noncomputable def prT (n : Int) (sg : ByteArray) : T V := .ite (decide (0 ≤ n.fdiv (2 ^ 6) ∧ (n.fdiv (2 ^ 6)).toNat < 10 ^ 19 ∧ 19 ≤ 19)) (.ite (decide (sg.size + (digT (n.fdiv (2 ^ 6))).size ≤ 9223372036854775807)) (.ite (and63 n != 0)
    (.ite (decide (0 ≤ n ∧ n ≤ 18446744073709551615)) (.ite (decide ((sg ++ digT (n.fdiv (2 ^ 6))).size + (bT (restL (n.toNat % 64))).size ≤ 9223372036854775807)) (.leaf (.tup [V.s (sg ++ digT (n.fdiv (2 ^ 6)) ++ bT (restL (n.toNat % 64))), V.i 0])) .bad) .bad)
    (.leaf (.tup [V.s (sg ++ digT (n.fdiv (2 ^ 6))), V.i 0]))) .bad) .bad
theorem uPrint.eq (a : Int) : funV Tryz.prog ΓPr [] Tryz.f98 (cod Tryz.f98) [V.i a] =
    .ite (!(rightU a)) (.ite (@decide (EA.ea 1 = EA.ea 1) (Classical.propDecidable _)) (.leaf (.tup [V.s (bT []), V.i 10])) (.ite (@decide (EA.ea 1 = EA.ea 3) (Classical.propDecidable _)) (.leaf (.tup [V.s (bT []), V.i 12])) .bad))
      (.ite (decide (a < 0)) (prT (u64 (w64 (0 - a))) (bT [45])) (prT (u64 a) (bT []))) := by kernel_rfl
theorem restF_len : ∀ f m, (restF f m).length ≤ 20 * f
  | 0, m => Nat.le_refl _
  | f + 1, m => by
    have h1 := restF_len f (m * 10 % 64)
    have h2 := digF_len 19 (m * 10 / 64)
    rw [restF]
    cases m == 0
    · rw [cond_false, List.length_append]; show (digF 19 _).length + _ ≤ _; omega
    · simp
theorem prT_pick (k : Nat) (hk : k ≤ 1073741824) (sg : List UInt8) (hs : sg.length ≤ 1) : (prT ((k : Nat) : Int) (bT sg)).pick = some (.tup [V.s (bT (sg ++ (digL (k / 64) ++ (bif k % 64 == 0 then [] else restL (k % 64))))), V.i 0]) := by
  have e1 : ((k : Nat) : Int).fdiv (2 ^ 6) = ((k / 64 : Nat) : Int) := by rw [Int.fdiv_eq_ediv_of_nonneg _ (by omega)]; omega
  have s1 := digT_size ((k / 64 : Nat) : Int)
  have s0 : (bT sg).size ≤ 1 := by rw [← bL_len, bL_bT]; exact hs
  have s2 : (bT (restL (k % 64))).size ≤ 121 := by
    rw [← bL_len, bL_bT]
    have := restF_len 6 (k % 64)
    show (46 :: restF 6 (k % 64)).length ≤ _
    rw [List.length_cons]; omega
  have s3 : (bT sg ++ digT ((k / 64 : Nat) : Int)).size ≤ 21 := by
    rw [ByteArray.size_append]; omega
  unfold prT
  rw [e1, and63_eq (by omega), decide_eq_true (show 0 ≤ ((k / 64 : Nat) : Int) ∧ (((k / 64 : Nat) : Int)).toNat < 10 ^ 19 ∧ 19 ≤ 19 from ⟨by omega, by rw [Int.toNat_natCast]; omega, Nat.le_refl _⟩),
    decide_eq_true (show (bT sg).size + (digT ((k / 64 : Nat) : Int)).size ≤ 9223372036854775807 by omega), decide_eq_true (show 0 ≤ ((k : Nat) : Int) ∧ ((k : Nat) : Int) ≤ 18446744073709551615 by omega)]
  simp only [Int.toNat_natCast, pick_ite, cond_true]
  rw [decide_eq_true (show (bT sg ++ digT ((k / 64 : Nat) : Int)).size + (bT (restL (k % 64))).size ≤ 9223372036854775807 by omega)]
  have e5 : digT ((k / 64 : Nat) : Int) = bT (digL (k / 64)) := by simp only [digT, Int.toNat_natCast]
  rw [e5]
  by_cases h0 : k % 64 = 0
  · rw [show (((k % 64 : Nat) : Int) != 0) = false by rw [h0]; rfl, show (k % 64 == 0) = true by rw [h0]; rfl]
    simp only [cond_false, cond_true, pick_leaf, bT_app, List.append_nil]
  · rw [show (((k % 64 : Nat) : Int) != 0) = true by simp; omega, show (k % 64 == 0) = false by simp; omega]
    simp only [cond_false, cond_true, pick_leaf, bT_app, List.append_assoc]
theorem uPrint.ok : SpecOK Tryz.prog 98 uPrint.s := by
  refine okF ΓPr.ok Tryz.func98 (by kernel_rfl) (by kernel_rfl) fun args r hb hr => ?_
  unfold uPrint.s at hr
  split at hr
  · rename_i a
    refine ⟨[], LamOK.nil _ _, (congrArg T.pick (uPrint.eq a)).trans ?_⟩
    rw [← hr]
    cases hR : rightU a with
    | false =>
      rw [pick_ite, Bool.not_false, cond_true]
      exact (pick_same _ _).trans rfl
    | true =>
      have hb := rightU_iff.1 hR
      rw [pick_ite, Bool.not_true, cond_false, pick_ite, pick_ite, cond_true, pick_leaf]
      by_cases ha : a < 0
      · obtain ⟨k, hk⟩ : ∃ k : Nat, -a = k := ⟨(-a).toNat, by omega⟩
        have e : u64 (w64 (0 - a)) = ((k : Nat) : Int) := by rw [w64_id (by omega) (by omega), u64_id (by omega) (by omega)]; omega
        rw [decide_eq_true ha, cond_true, e, prT_pick k (by omega) [45] (by simp), printL, decide_eq_true ha, cond_true, show a.natAbs = k by omega]
      · obtain ⟨k, rfl⟩ := Int.eq_ofNat_of_zero_le (show 0 ≤ a by omega)
        have e : u64 ((k : Nat) : Int) = ((k : Nat) : Int) := u64_id (by omega) (by omega)
        rw [decide_eq_false ha, cond_false, e, prT_pick k (by omega) [] (by simp), printL, decide_eq_false ha, cond_false, Int.natAbs_natCast]
  · cases hr
end Go.Proofs.YtgmeglodnhagdaaGreatDoor

/-! ## StV -/
namespace Go.Proofs.YtgmeglodnhagdaaGreatDoor
open Go Go.SX Go.Proofs
set_option maxRecDepth 100000
variable [EA]
set_option linter.unusedVariables false
set_option linter.unusedSectionVars false
set_option linter.unusedSimpArgs false

/-! ### whole -/
theorem dec_low {b : ByteArray} {i : Nat} (h : (b.get! i).toNat < 128) : Utf8.decode b i = ((b.get! i).toNat, 1) := by
  unfold Utf8.decode
  simp only [Nat.add_zero]
  rw [if_pos h]
theorem dec_high {b : ByteArray} {i : Nat} (h : ¬ (b.get! i).toNat < 128) : 128 ≤ (Utf8.decode b i).1 := by
  unfold Utf8.decode
  simp only [Nat.add_zero]
  rw [if_neg h]
  repeat' split
  all_goals simp [Utf8.runeError] at *
  all_goals omega
abbrev bAt (b : ByteArray) (i : Nat) : Nat := (b.get! i).toNat
def isDig (c : Nat) : Bool := decide (48 ≤ c ∧ c ≤ 57)
/-- The number of k digits. -/
def whN (b : ByteArray) : Nat → Int
  | 0 => 0
  | k + 1 => whN b k * 10 + ((bAt b k : Int) - 48)
/-- Is it so far one? -/
def whOk (b : ByteArray) (k : Nat) : Bool := bif isDig (bAt b k) then decide (whN b k ≤ 1073741824) else false
def badW (b : ByteArray) (pos : Nat) (n : Int) : Bool := bif decide (((Utf8.decode b pos).1 : Int) < 48) then true else (bif decide (((Utf8.decode b pos).1 : Int) > 57) then true else decide (n > 1073741824))
noncomputable abbrev bodyWh : Code := loopAt Tryz.f127 [0, 1, 0, 1, 1]
def SWh (b : ByteArray) (pos : Nat) (n : Int) : St := mkS 29 [(4, V.i n), (8, .ptr 0 0)] [some (.siter b pos)] [] false [] 0
def liveWh : Ex → List Nat | .normal => [4, 8] | .ret => [2, 3] | _ => [4]
def poWh : Ex → St → St
  | .normal, s => s
  | .ret, s => canP 29 0 [2, 3] s
  | _, s => canP 29 0 [4] s
theorem poWh_ok (e : Ex) (s : St) : Sub Tryz.prog s (poWh e s) := by
  unfold poWh
  split
  · exact Sub.refl s
  · exact sub_canP _ _ _ _
  · exact sub_canP _ _ _ _
noncomputable abbrev treeWh (s : St) : T (Ex × St × Bool) := ltree Tryz.prog [] [] [0, 1, 0, 1, 1] bodyWh 29 1 liveWh poWh s
theorem stepWh (b : ByteArray) (pos : Nat) (n : Int) : treeWh (SWh b pos n) =
    .ite (decide (pos < b.size)) (.ite (badW b pos n) (.leaf (.ret, mkS 29 [(2, V.i 0), (3, V.b false)] [] [] false [] 0, true))
      (.leaf (.normal, SWh b (pos + (Utf8.decode b pos).2) (w64 (w64 (n * 10) + w64 (IntKind.i32.wrap (((Utf8.decode b pos).1 : Int) - 48)))), true)))
      (.leaf (.exit 0, mkS 29 [(4, V.i n)] [] [] false [] 0, true)) := by kernel_rfl
theorem whN_rng {b : ByteArray} : ∀ k, (∀ j, j < k → whOk b j = true) → 0 ≤ whN b k ∧ whN b k ≤ 10737418249
  | 0, _ => by simp [whN]
  | k + 1, h => by
    have h1 := whN_rng k fun j hj => h j (by omega)
    have h2 := h k (by omega)
    unfold whOk isDig at h2
    rw [cond_and, decide_eq_true_iff] at h2
    rw [whN]; omega
/-- Are all so? -/
def whA (b : ByteArray) : Bool := allN b.size (whOk b)
theorem loopWh (b : ByteArray) (hb : b.size ≤ 9223372036854775807) : ∀ x, (T.ite (whA b) (.leaf (Ex.exit 0, mkS 29 [(4, V.i (whN b b.size))] [] [] false [] 0)) (.leaf (.ret, mkS 29 [(2, V.i 0), (3, V.b false)] [] [] false [] 0))).pick = some x → SemC Tryz.prog (.loop bodyWh) (SWh b 0 0) x := by
  refine loop_nat (GOK.nil _) (root := cod Tryz.f127) (p := [0, 1, 0, 1, 1]) (by kernel_rfl) b.size (fun k => ∀ j, j < k → whOk b j = true) (fun k => SWh b k (whN b k)) _ 29 1 liveWh poWh poWh_ok (fun k hk hok => ?_) (fun j hj => by omega)
  have e := stepWh b k (whN b k)
  have hr := whN_rng k hok
  rcases Nat.lt_or_ge k b.size with hlt | hge
  · rw [decide_eq_true hlt] at e
    cases hw : whOk b k with
    | true =>
      have hw2 := hw
      unfold whOk isDig at hw2
      rw [cond_and, decide_eq_true_iff] at hw2
      have hd := dec_low (b := b) (i := k) (by show bAt b k < 128; omega)
      have hbad : badW b k (whN b k) = false := by
        unfold badW
        rw [hd, decide_eq_false (show ¬ (((b.get! k).toNat : Nat) : Int) < 48 by show ¬ ((bAt b k : Nat) : Int) < 48; omega), decide_eq_false (show ¬ (((b.get! k).toNat : Nat) : Int) > 57 by show ¬ ((bAt b k : Nat) : Int) > 57; omega), decide_eq_false (show ¬ whN b k > 1073741824 by omega)]; rfl
      have e1 : IntKind.i32.wrap (((bAt b k : Nat) : Int) - 48) = ((bAt b k : Nat) : Int) - 48 := by
        simp only [IntKind.wrap, IntKind.signed, IntKind.bits]
        simp
        omega
      rw [hbad, hd] at e
      simp only at e
      rw [e1, w64_id (n := ((bAt b k : Nat) : Int) - 48) (by omega) (by omega), w64_id (n := whN b k * 10) (by omega) (by omega), w64_id (by omega) (by omega)] at e
      exact ⟨[], .normal, _, LamOK.nil _ _, (congrArg T.pick e).trans rfl, .inl ⟨rfl, hlt, fun j hj => by
        rcases Nat.lt_or_ge j k with hh | hh
        · exact hok j hh
        · rwa [show j = k by omega], rfl⟩⟩
    | false =>
      have hbad : badW b k (whN b k) = true := by
        unfold whOk isDig at hw
        rw [cond_and, decide_eq_false_iff_not] at hw
        unfold badW
        by_cases hlow : bAt b k < 128
        · rw [dec_low hlow]
          by_cases h1 : ((bAt b k : Nat) : Int) < 48
          · rw [decide_eq_true (show (((b.get! k).toNat : Nat) : Int) < 48 from h1)]; rfl
          · rw [decide_eq_false (show ¬ (((b.get! k).toNat : Nat) : Int) < 48 from h1)]
            by_cases h2 : ((bAt b k : Nat) : Int) > 57
            · rw [decide_eq_true (show (((b.get! k).toNat : Nat) : Int) > 57 from h2)]; rfl
            · rw [decide_eq_false (show ¬ (((b.get! k).toNat : Nat) : Int) > 57 from h2), decide_eq_true (show whN b k > 1073741824 by omega)]; rfl
        · have := dec_high hlow
          rw [decide_eq_false (show ¬ ((Utf8.decode b k).1 : Int) < 48 by omega), decide_eq_true (show ((Utf8.decode b k).1 : Int) > 57 by omega)]; rfl
      rw [hbad] at e
      refine ⟨[], .ret, _, LamOK.nil _ _, (congrArg T.pick e).trans rfl, .inr ⟨by simp, ?_⟩⟩
      rw [show whA b = false from allN_false hlt hw]; rfl
  · obtain rfl : k = b.size := by omega
    rw [decide_eq_false (Nat.lt_irrefl _)] at e
    refine ⟨[], .exit 0, _, LamOK.nil _ _, (congrArg T.pick e).trans rfl, .inr ⟨by simp, ?_⟩⟩
    rw [show whA b = true from allN_true hok]; rfl
def whole.s : List V → T V
  | [.q (.c (.string b))] => .ite (decide (b.size ≤ 1000000)) (.ite (whA b) (.leaf (.tup [V.i (whN b b.size), V.b true])) (.leaf (.tup [V.i 0, V.b false]))) .bad
  | _ => .bad
theorem whole.ok : SpecOK Tryz.prog 127 whole.s := by
  refine okF (GOK.nil _) Tryz.func127 (by kernel_rfl) (by kernel_rfl) fun args r hb hr => ?_
  unfold whole.s at hr
  split at hr
  · rename_i b
    rw [pick_ite] at hr
    by_cases h : b.size ≤ 1000000
    · rw [decide_eq_true h] at hr
      refine ⟨_, LamOK.orc (p := [0, 1, 0, 1, 1]) (mk := false) (nn := 29) (k := 1) (live := [4, 8]) (c := .loop bodyWh) (by kernel_rfl) (loopWh b (by omega)) (LamOK.nil _ _), ?_⟩
      have e : ∀ q m, funV Tryz.prog [] [([0, 1, 0, 1, 1], orc false 29 1 [4, 8] (SWh b 0 0) (.ite q (.leaf (Ex.exit 0, mkS 29 [(4, V.i m)] [] [] false [] 0)) (.leaf (.ret, mkS 29 [(2, V.i 0), (3, V.b false)] [] [] false [] 0))))] Tryz.f127 (cod Tryz.f127) [V.s b] =
          .ite (@decide (SWh b 0 0 = SWh b 0 0) (Classical.propDecidable _)) (.ite q (.leaf (.tup [V.i m, V.b true])) (.leaf (.tup [V.i 0, V.b false]))) .bad := fun q m => by kernel_rfl
      rw [e, ← hr]
      exact pick_same _ _
    · rw [decide_eq_false h] at hr; cases hr
  · cases hr
def bit.s : List V → T V
  | [.q (.c (.bool b))] => .ite b (.leaf (V.i 1)) (.leaf (V.i 0))
  | _ => .bad
theorem bit.ok : SpecOK Tryz.prog 128 bit.s := by
  refine okF (GOK.nil _) Tryz.func128 (by kernel_rfl) (by kernel_rfl) fun args r hb hr => ?_
  unfold bit.s at hr
  split at hr
  · rename_i b
    exact ⟨[], LamOK.nil _ _, (congrArg T.pick (show funV Tryz.prog [] [] Tryz.f128 (cod Tryz.f128) [V.b b] = .ite b (.leaf (V.i 1)) (.leaf (V.i 0)) by kernel_rfl)).trans hr⟩
  · cases hr
end Go.Proofs.YtgmeglodnhagdaaGreatDoor

/-! ## StW -/
namespace Go.Proofs.YtgmeglodnhagdaaGreatDoor
open Go Go.SX Go.Proofs
set_option maxRecDepth 100000
variable [EA]
set_option linter.unusedVariables false
set_option linter.unusedSectionVars false
set_option linter.unusedSimpArgs false

def bit2.s : List V → T V
  | [.q (.c (.bool b))] => .leaf (V.i (bif b then 1 else 0))
  | _ => .bad
theorem bit2.ok : SpecOK Tryz.prog 128 bit2.s := bit.ok.imp fun args r hv h => by
  unfold bit2.s at h
  split at h
  · rename_i b; cases b <;> exact h
  · cases h
def uPrint2.s : List V → T V
  | [.q (.c (.int .i64 a))] => .leaf (.tup [V.s (printT a), V.i (bif rightU a then 0 else 10)])
  | _ => .bad
theorem uPrint2.ok : SpecOK Tryz.prog 98 uPrint2.s := uPrint.ok.imp fun args r hv h => by
  unfold uPrint2.s at h
  split at h
  · rename_i a
    unfold uPrint.s
    unfold printT at h
    cases hr : rightU a <;> rw [hr] at h <;> simpa [T.pick, hr] using h
  · cases h
abbrev kvP (p b : Int) : Value := .agg #[.int .i64 p, .int .i64 b]
abbrev orV (n p : Int) : Int := w64 ↑(BitVec.ofInt 64 (w64 (n * 2 ^ 6)) ||| BitVec.ofInt 64 p).toNat
abbrev obS (es : List (Value × List Q)) : Option Ob := some (.map (.many [.int .i64, .int .i64]) false [.int .i64] es)
abbrev pPa : List Nat := [0, 1, 0, 1, 1, 1, 1, 1, 1]
abbrev pPb : List Nat := [0, 1, 0, 1, 1, 1, 1, 1, 1, 1]
noncomputable abbrev bodyPa : Code := loopAt Tryz.f100 pPa
noncomputable abbrev bodyPb : Code := loopAt Tryz.f100 pPb
def SPa (s : ByteArray) (neg : Bool) (tail : ByteArray) (n : Int) (es : List (Value × List Q)) (p : Int) : St := mkS 91 [(0, V.s s), (5, V.b neg), (7, V.s tail), (9, V.i n), (11, .mp 0), (39, V.i p)] [obS es] [] false [] 0
def livePa : Ex → List Nat | .normal => [0, 5, 7, 9, 11, 39] | _ => [0, 5, 7, 11]
noncomputable abbrev treePa (s : St) : T (Ex × St × Bool) := ltree Tryz.prog [] [] pPa bodyPa 91 1 livePa poN s
theorem stepPa (s : ByteArray) (neg : Bool) (tail : ByteArray) (n : Int) (es : List (Value × List Q)) (p : Int) : treePa (SPa s neg tail n es p) =
    .ite (decide (p < 64)) (.leaf (.normal, SPa s neg tail n (putE (kvP p 1) [.c (.int .i64 (w64 (0 - orV n p)))] (putE (kvP p 0) [.c (.int .i64 (orV n p))] es)) (w64 (p + 1)), true))
      (.leaf (.exit 0, mkS 91 [(0, V.s s), (5, V.b neg), (7, V.s tail), (11, .mp 0)] [obS es] [] false [] 0, true)) := by kernel_rfl
def SPb (s : ByteArray) (neg : Bool) (tail : ByteArray) (es : List (Value × List Q)) (p : Int) : St := mkS 91 [(0, V.s s), (5, V.b neg), (7, V.s tail), (11, .mp 0), (56, V.i p)] [obS es] [] false [] 0
def livePb : Ex → List Nat | .normal => [0, 5, 7, 11, 56] | .ret => [2, 3] | _ => []
noncomputable abbrev ΓPb : Gam := [(128, bit2.s), (125, rest.s), (98, uPrint2.s)]
theorem ΓPb.ok : GOK Tryz.prog ΓPb := .cons bit2.ok (.cons rest.ok (.cons uPrint2.ok (GOK.nil _)))
noncomputable abbrev treePb (s : St) : T (Ex × St × Bool) := ltree Tryz.prog ΓPb [] pPb bodyPb 91 1 livePb (poK 91 0 livePb) s
/-- Two texts, one. -/
abbrev seqB (a b : ByteArray) : Bool := a.toList == b.toList
abbrev elP (es : List (Value × List Q)) (p b : Int) : Int := qInt (((findE (kvP p b) es).getD [.c (.int .i64 0)]).headD default)
abbrev hitP (s : ByteArray) (a : Int) : Bool := bif (bif rightU a then (0 : Int) else 10) == 0 then seqB (printT a) s else false
abbrev nextPb (s : ByteArray) (neg : Bool) (tail : ByteArray) (es : List (Value × List Q)) (p : Int) : T (Ex × St × Bool) := .leaf (.normal, SPb s neg tail es (w64 (p + 1)), true)
abbrev tryPb (s : ByteArray) (neg : Bool) (tail : ByteArray) (es : List (Value × List Q)) (p : Int) : T (Ex × St × Bool) :=
  .ite (hitP s (elP es p (bif neg then 1 else 0))) (.leaf (.ret, mkS 91 [(2, V.i (elP es p (bif neg then 1 else 0))), (3, V.i 0)] [] [] false [] 0, true)) (nextPb s neg tail es p)
theorem stepPb (s : ByteArray) (neg : Bool) (tail : ByteArray) (es : List (Value × List Q)) (p : Int) : treePb (SPb s neg tail es p) =
    .ite (decide (p < 64)) (.ite (decide (p > 0)) (.ite (decide (0 ≤ u64 p ∧ u64 p ≤ 18446744073709551615)) (.ite (decide (1 + tail.size ≤ 9223372036854775807))
      (.ite (!(seqB (bT (restL ((u64 p).toNat % 64))) (bT [46] ++ tail))) (nextPb s neg tail es p) (tryPb s neg tail es p)) .bad) .bad) (tryPb s neg tail es p))
      (.leaf (.exit 2, mkS 91 [] [] [] false [] 0, true)) := by kernel_rfl
end Go.Proofs.YtgmeglodnhagdaaGreatDoor

/-! ## StX -/
namespace Go.Proofs.YtgmeglodnhagdaaGreatDoor
open Go Go.SX Go.Proofs Go.RowKit
set_option maxRecDepth 100000
variable [EA]
set_option linter.unusedVariables false
set_option linter.unusedSectionVars false
set_option linter.unusedSimpArgs false

/-! ### told(errText) -/
noncomputable def utoldT.s : List V → T V
  | [.q (.c (.iface t (.pointer (some p))))] => if t = AsStyle.ES then .ite (@decide (p = EA.ea 3) (Classical.propDecidable _)) (.leaf (V.i 12)) .bad else .bad
  | _ => .bad
theorem utoldT.ok : SpecOK Tryz.prog 123 utoldT.s := by
  refine ⟨by kernel_rfl, fun S w args vals r hS hg _ hd hr => ?_⟩
  have fin : ∀ {a : Int} {ev : Ending} {w' : World}, ev = .returned (.int .i64 a) ∧ w' = w → ∃ v, ev = .returned v ∧ Below w.heap.size w w' ∧ Den (fun b => S b ∨ (w.heap.size ≤ b ∧ b < w'.heap.size)) NoL th0 w' (V.i a) v := fun h => ⟨_, h.1, h.2 ▸ Below.refl _ _, .q _ _ (.c _)⟩
  unfold utoldT.s at hr
  split at hr
  · rename_i t p
    split at hr
    · rename_i ht
      subst ht
      cases hd with
      | cons _ v _ us hx hl =>
        cases hl
        cases hx with
        | q _ _ hq =>
          cases hq
          by_cases hp3 : p = EA.ea 3
          · simp only [T.pick, @decide_eq_true _ (Classical.propDecidable _) hp3, cond_true, cond_false, Option.some.injEq] at hr
            subst hp3 hr
            exact (AsStyle.utold_text _ _ _ w (laidAt_cell (hg _ gl_over) rfl) (laidAt_cell (hg _ gl_zero) rfl) (laidAt_cell (hg _ gl_text) rfl) (AsStyle.ea_ne (hg _ gl_text1) (hg _ gl_over1) (by decide)) (AsStyle.ea_ne (hg _ gl_text1) (hg _ gl_zero1) (by decide)) (hg _ gl_over2) (hg _ gl_zero2) (hg _ gl_text2)).mono fun ev w' h => fin h
          · simp [T.pick, @decide_eq_false _ (Classical.propDecidable _) hp3] at hr
    · cases hr
  · cases hr

/-! ### the map -/
theorem keq_kvP {p b p' b' : Int} : keq (kvP p b) (kvP p' b') = true ↔ p = p' ∧ b = b' := by
  simp [keq, keqL, keq1]
theorem findE_hit {k : Value} {q : List Q} : ∀ {a b : List (Value × List Q)}, findE k a = some q → findE k (a ++ b) = some q
  | (k', q') :: a, b, h => by
    simp only [findE, List.cons_append] at h ⊢
    cases hk : keq k k' with
    | true => rw [hk] at h; exact h
    | false => rw [hk] at h; exact findE_hit h
theorem findE_miss {k : Value} : ∀ {a b : List (Value × List Q)}, (∀ e ∈ a, keq k e.1 = false) → findE k (a ++ b) = findE k b
  | [], b, h => rfl
  | (k', q') :: a, b, h => by
    simp only [findE, List.cons_append]
    rw [h _ (List.mem_cons_self ..), cond_false]
    exact findE_miss fun e he => h e (List.mem_cons_of_mem _ he)
theorem putE_new {k : Value} {q : List Q} : ∀ {a : List (Value × List Q)}, (∀ e ∈ a, keq k e.1 = false) → putE k q a = a ++ [(k, q)]
  | [], h => rfl
  | (k', q') :: a, h => by
    simp only [putE, List.cons_append]
    rw [h _ (List.mem_cons_self ..), cond_false, putE_new fun e he => h e (List.mem_cons_of_mem _ he)]
abbrev qI (n : Int) : List Q := [.c (.int .i64 n)]
def esP (n : Int) : Nat → List (Value × List Q)
  | 0 => []
  | k + 1 => esP n k ++ [(kvP (k : Nat) 0, qI (orV n (k : Nat))), (kvP (k : Nat) 1, qI (w64 (0 - orV n (k : Nat))))]
theorem esP_keys {n : Int} : ∀ k, ∀ e ∈ esP n k, ∃ (p : Nat) (b : Int), p < k ∧ e.1 = kvP p b
  | 0, e, h => by cases h
  | k + 1, e, h => by
    simp only [esP, List.mem_append, List.mem_cons, List.not_mem_nil, or_false] at h
    rcases h with h | rfl | rfl
    · obtain ⟨p, b, h1, h2⟩ := esP_keys k e h
      exact ⟨p, b, by omega, h2⟩
    · exact ⟨k, 0, by omega, rfl⟩
    · exact ⟨k, 1, by omega, rfl⟩
theorem esP_new {n : Int} {k : Nat} {b : Int} : ∀ e ∈ esP n k, keq (kvP (k : Nat) b) e.1 = false := fun e he => by
  obtain ⟨p, b', h1, h2⟩ := esP_keys k e he
  rw [h2]
  cases hk : keq (kvP (k : Nat) b) (kvP (p : Nat) b') with
  | false => rfl
  | true => have := (keq_kvP.1 hk).1; omega
theorem kv01 (p p' : Int) : keq (kvP p 1) (kvP p' 0) = false ∧ keq (kvP p 0) (kvP p' 1) = false := by
  constructor
  · cases hk : keq (kvP p 1) (kvP p' 0) with
    | false => rfl
    | true => exact absurd (keq_kvP.1 hk).2 (by decide)
  · cases hk : keq (kvP p 0) (kvP p' 1) with
    | false => rfl
    | true => exact absurd (keq_kvP.1 hk).2 (by decide)
theorem esP_step (n : Int) (k : Nat) : putE (kvP (k : Nat) 1) (qI (w64 (0 - orV n (k : Nat)))) (putE (kvP (k : Nat) 0) (qI (orV n (k : Nat))) (esP n k)) = esP n (k + 1) := by
  rw [putE_new esP_new, putE_new, esP, List.append_assoc]
  · rfl
  · intro e he
    rcases List.mem_append.1 he with h | h
    · exact esP_new e h
    · obtain rfl : e = _ := by simpa using h
      exact (kv01 _ _).1
theorem esP_find {n : Int} {p : Nat} (neg : Bool) : ∀ k, p < k → findE (kvP (p : Nat) (bif neg then 1 else 0)) (esP n k) = some (qI (bif neg then w64 (0 - orV n (p : Nat)) else orV n (p : Nat)))
  | k + 1, h => by
    rw [esP]
    rcases Nat.lt_or_ge p k with hh | hh
    · exact findE_hit (esP_find neg k hh)
    · obtain rfl : p = k := by omega
      rw [findE_miss esP_new]
      have r1 : ∀ b, keq (kvP (p : Nat) b) (kvP (p : Nat) b) = true := fun b => keq_kvP.2 ⟨rfl, rfl⟩
      cases neg with
      | false => simp only [cond_false, findE, r1, cond_true]
      | true => simp only [cond_true, findE, r1, (kv01 _ _).1, cond_false]
theorem orV_eq {n : Int} {p : Nat} (h0 : 0 ≤ n) (h1 : n ≤ 10737418249) (hp : p < 64) : orV n (p : Nat) = n * 64 + p := by
  obtain ⟨m, rfl⟩ := Int.eq_ofNat_of_zero_le h0
  have e0 : w64 ((m : Nat) * 2 ^ 6 : Int) = ((m * 64 : Nat) : Int) := by rw [show ((m : Nat) * 2 ^ 6 : Int) = ((m * 64 : Nat) : Int) by omega, w64_id (by omega) (by omega)]
  show w64 ↑(BitVec.ofInt 64 (w64 ((m : Nat) * 2 ^ 6 : Int)) ||| BitVec.ofInt 64 (p : Int)).toNat = _
  rw [e0]
  have e1 : (BitVec.ofInt 64 ((m * 64 : Nat) : Int)).toNat = m * 64 := by simp [BitVec.toNat_ofInt]; omega
  have e2 : (BitVec.ofInt 64 ((p : Nat) : Int)).toNat = p := by simp [BitVec.toNat_ofInt]; omega
  have e3 : m * 64 ||| p = m * 64 + p := by
    rw [show m * 64 = 2 ^ 6 * m by omega, Nat.two_pow_add_eq_or_of_lt (by omega : p < 2 ^ 6)]
  rw [BitVec.toNat_or, e1, e2, e3, w64_id (by omega) (by omega)]
  omega
/-- The length that a part may come to. -/
def aP (n : Int) (neg : Bool) (p : Nat) : Int := bif neg then 0 - (n * 64 + p) else n * 64 + p
theorem elP_eq {n : Int} {p : Nat} (neg : Bool) (h0 : 0 ≤ n) (h1 : n ≤ 10737418249) (hp : p < 64) : elP (esP n 64) (p : Nat) (bif neg then 1 else 0) = aP n neg p := by
  show qInt (((findE _ _).getD _).headD default) = _
  rw [esP_find neg 64 hp, aP, orV_eq h0 h1 hp]
  cases neg with
  | false => rfl
  | true => show w64 _ = _; rw [w64_id (by omega) (by omega)]; rfl
theorem loopPa (s : ByteArray) (neg : Bool) (tail : ByteArray) (n : Int) : ∀ x, (T.leaf (Ex.exit 0, mkS 91 [(0, V.s s), (5, V.b neg), (7, V.s tail), (11, .mp 0)] [obS (esP n 64)] [] false [] 0)).pick = some x → SemC Tryz.prog (.loop bodyPa) (SPa s neg tail n [] (0 : Nat)) x := by
  refine loop_nat (GOK.nil _) (root := cod Tryz.f100) (p := pPa) (by kernel_rfl) 64 (fun _ => True) (fun k => SPa s neg tail n (esP n k) (k : Nat)) _ 91 1 livePa poN poN_ok (fun k hk _ => ?_) trivial
  have e := stepPa s neg tail n (esP n k) (k : Nat)
  rcases Nat.lt_or_ge k 64 with hlt | hge
  · rw [decide_eq_true (show ((k : Nat) : Int) < 64 by omega)] at e
    refine ⟨[], .normal, _, LamOK.nil _ _, (congrArg T.pick e).trans rfl, .inl ⟨rfl, hlt, trivial, ?_⟩⟩
    rw [← esP_step, show w64 ((k : Nat) + 1) = ((k + 1 : Nat) : Int) by rw [w64_id (by omega) (by omega)]; omega]
  · obtain rfl : k = 64 := by omega
    exact ⟨[], .exit 0, _, LamOK.nil _ _, (congrArg T.pick e).trans rfl, .inr ⟨by simp, rfl⟩⟩

/-! ### the way through the parts -/
def hitU (s : ByteArray) (neg : Bool) (tail : ByteArray) (n : Int) (p : Nat) : Bool := bif (bif p == 0 then true else seqB (bT (restL p)) (bT [46] ++ tail)) then hitP s (aP n neg p) else false
def fndU (s : ByteArray) (neg : Bool) (tail : ByteArray) (n : Int) : Option Nat := (List.range 64).find? (hitU s neg tail n)
def outPb (o : Option Nat) (n : Int) (neg : Bool) : Out := .ite o.isSome (.leaf (.ret, mkS 91 [(2, V.i (aP n neg (o.getD 0))), (3, V.i 0)] [] [] false [] 0)) (.leaf (.exit 2, mkS 91 [] [] [] false [] 0))
theorem loopPb (s : ByteArray) (neg : Bool) (tail : ByteArray) (n : Int) (h0 : 0 ≤ n) (h1 : n ≤ 10737418249) (ht : tail.size ≤ 1000000) : ∀ x, (outPb (fndU s neg tail n) n neg).pick = some x → SemC Tryz.prog (.loop bodyPb) (SPb s neg tail (esP n 64) (0 : Nat)) x := by
  refine loop_nat ΓPb.ok (root := cod Tryz.f100) (p := pPb) (by kernel_rfl) 64 (fun k => ∀ j, j < k → hitU s neg tail n j = false) (fun k => SPb s neg tail (esP n 64) (k : Nat)) _ 91 1 livePb (poK 91 0 livePb) (poK_ok _ _ _) (fun k hk hok => ?_) (fun j hj => by omega)
  have e := stepPb s neg tail (esP n 64) (k : Nat)
  rcases Nat.lt_or_ge k 64 with hlt | hge
  · have hw : w64 ((k : Nat) + 1) = ((k + 1 : Nat) : Int) := by rw [w64_id (by omega) (by omega)]; omega
    have hu : u64 ((k : Nat) : Int) = ((k : Nat) : Int) := u64_id (by omega) (by omega)
    have el := elP_eq (n := n) (p := k) neg h0 h1 hlt
    have e2 : (treePb (SPb s neg tail (esP n 64) (k : Nat))).pick = (T.ite (hitU s neg tail n k) (.leaf (.ret, mkS 91 [(2, V.i (aP n neg k)), (3, V.i 0)] [] [] false [] 0, true)) (nextPb s neg tail (esP n 64) (k : Nat))).pick := by
      refine (congrArg T.pick e).trans ?_
      rw [decide_eq_true (show ((k : Nat) : Int) < 64 by omega), hu, decide_eq_true (show 0 ≤ ((k : Nat) : Int) ∧ ((k : Nat) : Int) ≤ 18446744073709551615 by omega), decide_eq_true (show 1 + tail.size ≤ 9223372036854775807 by omega), show ((k : Nat) : Int).toNat % 64 = k by omega]
      unfold tryPb
      rw [el]
      simp only [pick_ite, cond_true]
      by_cases hk0 : k = 0
      · subst hk0
        rw [decide_eq_false (show ¬ (((0 : Nat) : Int) > 0) by omega)]
        simp only [cond_false, hitU, BEq.rfl, cond_true]
      · rw [decide_eq_true (show (((k : Nat) : Int) > 0) by omega)]
        simp only [cond_true, hitU, show (k == 0) = false by simpa using hk0, cond_false]
        cases seqB (bT (restL k)) (bT [46] ++ tail) <;> rfl
    cases hh : hitU s neg tail n k with
    | true =>
      rw [hh] at e2
      refine ⟨[], .ret, _, LamOK.nil _ _, e2.trans rfl, .inr ⟨by simp, ?_⟩⟩
      have hf : fndU s neg tail n = some k := by
        rw [fndU, List.find?_range_eq_some]
        exact ⟨hh, List.mem_range.2 hlt, fun j hj => by rw [hok j hj]; rfl⟩
      rw [hf]; rfl
    | false =>
      rw [hh] at e2
      refine ⟨[], .normal, _, LamOK.nil _ _, e2.trans rfl, .inl ⟨rfl, hlt, fun j hj => ?_, by rw [hw]⟩⟩
      rcases Nat.lt_or_ge j k with h | h
      · exact hok j h
      · rwa [show j = k by omega]
  · obtain rfl : k = 64 := by omega
    refine ⟨[], .exit 2, _, LamOK.nil _ _, (congrArg T.pick e).trans rfl, .inr ⟨by simp, ?_⟩⟩
    have hf : fndU s neg tail n = none := by
      rw [fndU, List.find?_range_eq_none]
      exact fun j hj => by rw [hok j hj]; rfl
    rw [hf]; rfl
end Go.Proofs.YtgmeglodnhagdaaGreatDoor

/-! ## StY -/
namespace Go.Proofs.YtgmeglodnhagdaaGreatDoor
open Go Go.SX Go.Proofs Go.RowKit
set_option maxRecDepth 100000
variable [EA]
set_option linter.unusedVariables false
set_option linter.unusedSectionVars false
set_option linter.unusedSimpArgs false

abbrev upT (s : ByteArray) : ByteArray := bT (Lib.trimPrefix (bL s) (bL (bT [45])))
abbrev upN (s : ByteArray) : Bool := Lib.hasPrefix (bL s) (bL (bT [45]))
abbrev upH (s : ByteArray) : ByteArray := bT (cutS (upT s) (bT [46])).1
abbrev upR (s : ByteArray) : ByteArray := bT (cutS (upT s) (bT [46])).2.1
abbrev whV (b : ByteArray) : Int := bif whA b then whN b b.size else 0
abbrev upV (s : ByteArray) : Int := whV (upH s)
abbrev upF (s : ByteArray) : Option Nat := fndU s (upN s) (upR s) (upV s)
/-- The length of a text. -/
def parO (s : ByteArray) : Option Int := bif whA (upH s) then (upF s).map (aP (upV s) (upN s)) else none
theorem cut_le (s sep : List UInt8) : (Lib.cut s sep).1.length ≤ s.length ∧ (Lib.cut s sep).2.1.length ≤ s.length := by
  unfold Lib.cut
  split <;> simp <;> omega
theorem upT_size (s : ByteArray) : (upT s).size ≤ s.size := by
  rw [← bL_len, ← bL_len, bL_bT]
  exact Lib.trimPrefix_le _ _
theorem upH_size (s : ByteArray) : (upH s).size ≤ s.size := by
  have h1 := (cut_le (bL (upT s)) (bL (bT [46]))).1
  have h2 := upT_size s
  rw [← bL_len, bL_bT]
  rw [← bL_len] at h2
  exact Nat.le_trans h1 h2
theorem upR_size (s : ByteArray) : (upR s).size ≤ s.size := by
  have h1 := (cut_le (bL (upT s)) (bL (bT [46]))).2
  have h2 := upT_size s
  rw [← bL_len, bL_bT]
  rw [← bL_len] at h2
  exact Nat.le_trans h1 h2
def whole2.s : List V → T V
  | [.q (.c (.string b))] => .ite (decide (b.size ≤ 1000000)) (.leaf (.tup [V.i (whV b), V.b (whA b)])) .bad
  | _ => .bad
theorem whole2.ok : SpecOK Tryz.prog 127 whole2.s := whole.ok.imp fun args r hv h => by
  unfold whole2.s at h
  split at h
  · rename_i b
    unfold whole.s
    unfold whV at h
    cases hr : whA b <;> rw [hr] at h <;> simpa [T.pick, hr] using h
  · cases h
noncomputable abbrev ΓUp : Gam := [(126, cutP.s), (66, cut.s), (127, whole2.s), (123, utoldT.s), (3 + 1048576, .g (errP 3))]
theorem ΓUp.ok : GOK Tryz.prog ΓUp := .cons cutP.ok (.cons cut.ok (.cons whole2.ok (.cons utoldT.ok (.consG gl_text (GOK.nil _)))))
abbrev rUp (o : Option Int) : V := .tup [V.i (o.getD 0), V.i (bif o.isSome then 0 else 12)]
noncomputable abbrev laP (s : ByteArray) (neg : Bool) (tl : ByteArray) (n : Int) (es : List (Value × List Q)) : List Nat × (St → Out) := (pPa, orc false 91 1 (livePa .normal) (SPa s neg tl n [] (0 : Nat)) (.leaf (Ex.exit 0, mkS 91 [(0, V.s s), (5, V.b neg), (7, V.s tl), (11, .mp 0)] [obS es] [] false [] 0)))
noncomputable abbrev laQ (s : ByteArray) (neg : Bool) (tl : ByteArray) (n : Int) (es : List (Value × List Q)) (b : Bool) (a : Int) : List Nat × (St → Out) := (pPb, orc false 91 1 (livePb .normal) (SPb s neg tl es (0 : Nat)) (.ite b (.leaf (.ret, mkS 91 [(2, V.i a), (3, V.i 0)] [] [] false [] 0)) (.leaf (.exit 2, mkS 91 [] [] [] false [] 0))))
noncomputable abbrev badUp : T V := .ite (@decide (EA.ea 3 = EA.ea 3) (Classical.propDecidable _)) (.leaf (.tup [V.i 0, V.i 12])) .bad
noncomputable abbrev trUp (s : ByteArray) (x : T V) : T V := .ite (decide ((upT s).size < 4294967281)) (.ite (decide ((upH s).size ≤ 1000000)) (.ite (!(whA (upH s))) badUp x) .bad) .bad
theorem uParse.eq (s : ByteArray) (es : List (Value × List Q)) (b : Bool) (a : Int) : funV Tryz.prog ΓUp [laP s (upN s) (upR s) (upV s) es, laQ s (upN s) (upR s) (upV s) es b a] Tryz.f100 (cod Tryz.f100) [V.s s] =
    trUp s (.ite (@decide (SPa s (upN s) (upR s) (upV s) [] (0 : Nat) = SPa s (upN s) (upR s) (upV s) [] (0 : Nat)) (Classical.propDecidable _))
      (.ite (@decide (SPb s (upN s) (upR s) es (0 : Nat) = SPb s (upN s) (upR s) es (0 : Nat)) (Classical.propDecidable _)) (.ite b (.leaf (.tup [V.i a, V.i 0])) badUp) .bad) .bad) := by kernel_rfl
theorem uParse.eq0 (s : ByteArray) : funV Tryz.prog ΓUp [] Tryz.f100 (cod Tryz.f100) [V.s s] = trUp s .bad := by kernel_rfl
theorem badUp_pick : badUp.pick = some (.tup [V.i 0, V.i 12]) := (pick_same _ _).trans rfl
theorem trUp_pick (s : ByteArray) (h : s.size ≤ 1000000) (x : T V) : (trUp s x).pick = bif whA (upH s) then x.pick else some (.tup [V.i 0, V.i 12]) := by
  have h1 := upT_size s
  have h2 := upH_size s
  unfold trUp
  rw [decide_eq_true (show (upT s).size < 4294967281 by omega), decide_eq_true (show (upH s).size ≤ 1000000 by omega), pick_ite, cond_true, pick_ite, cond_true, pick_ite, badUp_pick]
  cases whA (upH s) <;> rfl
def uParse.s : List V → T V
  | [.q (.c (.string s))] => .ite (decide (s.size ≤ 1000000)) (.leaf (rUp (parO s))) .bad
  | _ => .bad
theorem uParse.ok : SpecOK Tryz.prog 100 uParse.s := by
  refine okF ΓUp.ok Tryz.func100 (by kernel_rfl) (by kernel_rfl) fun args r hb hr => ?_
  unfold uParse.s at hr
  split at hr
  · rename_i s
    rw [pick_ite] at hr
    by_cases h : s.size ≤ 1000000
    · rw [decide_eq_true h] at hr
      have h1 := upT_size s
      have h2 := upH_size s
      have h3 := upR_size s
      cases hw : whA (upH s) with
      | true =>
        have hv : upV s = whN (upH s) (upH s).size := by show (bif whA (upH s) then _ else _) = _; rw [hw]; rfl
        have hn := whN_rng (b := upH s) (upH s).size (fun j hj => allN_at hw hj)
        rw [← hv] at hn
        refine ⟨_, LamOK.orc (p := pPa) (mk := false) (nn := 91) (k := 1) (live := livePa .normal) (c := .loop bodyPa) (by kernel_rfl) (loopPa s (upN s) (upR s) (upV s)) (LamOK.orc (p := pPb) (mk := false) (nn := 91) (k := 1) (live := livePb .normal) (c := .loop bodyPb) (by kernel_rfl) (loopPb s (upN s) (upR s) (upV s) hn.1 hn.2 (by omega)) (LamOK.nil _ _)), (congrArg T.pick (uParse.eq s (esP (upV s) 64) (upF s).isSome (aP (upV s) (upN s) ((upF s).getD 0)))).trans ?_⟩
        rw [trUp_pick s h, hw, cond_true, ← hr]
        refine (pick_same _ _).trans ((pick_same _ _).trans ?_)
        rw [pick_ite, badUp_pick, rUp, parO, hw, cond_true]
        cases upF s <;> rfl
      | false =>
        refine ⟨[], LamOK.nil _ _, (congrArg T.pick (uParse.eq0 s)).trans ?_⟩
        rw [trUp_pick s h, hw, cond_false, ← hr, rUp, parO, hw, cond_false]
        rfl
    · rw [decide_eq_false h] at hr; cases hr
  · cases hr
end Go.Proofs.YtgmeglodnhagdaaGreatDoor
