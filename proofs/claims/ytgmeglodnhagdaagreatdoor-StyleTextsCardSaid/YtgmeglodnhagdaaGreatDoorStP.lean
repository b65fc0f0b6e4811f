/- What all rows of this seat need: the laid variables; the arguments' shapes. -/
import Derived.Test.YtgmeglodnhagdaaGreatDoorStO
import Derived.Test.YtgmeglodnhagdaaGreatDoorSxW
import Derived.Test.YtgmeglodnhagdaaGreatDoorRows
import Derived.Test.YtgmeglodnhagdaaGreatDoorTie
import Derived.Test.YtgmeglodnhagdaaGreatDoorCards
import Derived.LaidLaws
import Derived.LaidHandle
import Derived.Lib.LaidTab
import Derived.Shelf.Vars
import Derived.Stop.Joined
import Derived.Stop.LaidErr
import Derived.SevenTiedAt
namespace Go.Proofs.YtgmeglodnhagdaaGreatDoor
open Go Go.SX Go.Proofs Go.RowKit Go.ChangeShapes
set_option maxRecDepth 100000
set_option linter.unusedVariables false
set_option linter.unusedSectionVars false
set_option linter.unusedSimpArgs false

abbrev plainL : List (String × DataW Unit) := [("math/bits.deBruijn32tab", Rows.laid_math_bits_deBruijn32tab), ("math/bits.deBruijn64tab", Rows.laid_math_bits_deBruijn64tab), ("internal/strconv.uint64pow10", Rows.laid_internal_strconv_uint64pow10), ("unicode/utf8.acceptRanges", Rows.laid_unicode_utf8_acceptRanges)]
abbrev errL : List (String × DataW Unit) := [("strconv.ErrRange", Rows.laid_strconv_ErrRange), ("strconv.ErrSyntax", Rows.laid_strconv_ErrSyntax), ("gutter/unit.errOver", Rows.laid_gutter_unit_errOver), ("gutter/unit.errZero", Rows.laid_gutter_unit_errZero), ("gutter/unit.errText", Rows.laid_gutter_unit_errText), ("gutter/style.errValue", Rows.laid_gutter_style_errValue), ("unicode/utf8.first", Rows.laid_unicode_utf8_first)]
abbrev laidL : List (String × DataW Unit) := plainL ++ ("errors.errorType", Rows.laid_errors_errorType) :: errL

/-- A sentinel, and that its cells are not frozen. -/
theorem laid_sent {P : Program} {n nm : String} {text : List UInt8} {r : List (String × DataW Unit)} {W : World} {g : Nat} {ti tp te ts : TypeId} {ms : Array (String × TypeId)} {f : Field}
    (h : laidMet P ((n, .iface nm (.ptr (.agg [.lit (.string text)]))) :: r) W)
    (hg : P.globalNamed n = some g) (ht : (P.globals[g]?).map (·.type) = some ti) (hi : P.underlying ti = some (.interface ms)) (hrow : ∀ u, P.typeName? 3 u = some nm → u = tp)
    (hp : P.underlying tp = some (.pointer te)) (he : P.underlying te = some (.struct #[f])) (hft : f.type = ts) (hfo : f.offset = 0) (hs : P.underlying ts = some .string) (hc : P.cellsOf te = 1) (hcs : P.cellsOf ts = 1) :
    ∃ (a : Addr), W.cell? ⟨g, 0, none⟩ = some (.iface tp (.pointer (some a))) ∧ W.cell? ⟨a.block, a.off, none⟩ = some (.string ⟨text.toArray⟩) ∧ ∃ (c : Array Value) (t : TypeId), W.heap[a.block]? = some (.cells c t (0, 0)) := by
  obtain ⟨ps, ⟨g0, t0, cs0, f0, p0, q0, hg0, ht0, hv0, hd0, hq, e0⟩, hnd, hrows⟩ := h
  obtain rfl := Option.some.inj (hg.symm.trans hg0)
  obtain rfl := Option.some.inj (ht.symm.trans ht0)
  subst e0
  obtain ⟨l0⟩ := cs0
  have ok0 : ∀ u v, l0 = [.iface u v] → Value.okWide P W .any 0 u v := fun u v e => by
    subst e
    exact (hrows g 0 (by simp [MemPlace.row])).2 u v (by simpa using World.var?_cell hg0 hv0 0)
  obtain ⟨a0, s0, rfl, hc0, hs0, hz0, rfl⟩ := errorString_of_trod hi hrow hp he hft hfo hs hc hcs hd0 ok0
  obtain ⟨c0, t0, hb0⟩ := (hrows a0.block a0.off (by simp [MemPlace.row])).1
  refine ⟨a0, by simpa using World.var?_cell hg0 hv0 0, ?_, c0, t0, hb0⟩
  have : s0 = ⟨text.toArray⟩ := by rw [← hs0]
  rw [← this]
  unfold World.cell? at hc0 ⊢
  rw [hb0] at hc0 ⊢
  obtain ⟨b, o, sp⟩ := a0
  cases sp with
  | none => exact hc0
  | some x => simp at hc0
theorem es_star : "*" ++ "errors.errorString" = "*errors.errorString" := by decide
theorem es_row (u : TypeId) (h : Tryz.prog.typeName? 3 u = some "*errors.errorString") : u = 188 :=
  typeName_ptr_named (nm := "errors.errorString") (by rw [es_star]; kernel_rfl) (by kernel_rfl) (by decide) u (by rw [es_star]; exact h)
theorem glw_of_laid {W : World} (h : laidMetH Tryz.prog laidL W) (hs : W.ShapedOpen Tryz.prog) : ∃ e : EA, @GLw (@gw e) W := by
  have h' : laidMet Tryz.prog (plainL ++ errL) W ∧ handlesMet Tryz.prog [("errors.errorType", Rows.laid_errors_errorType)] W := h
  obtain ⟨name, u, ty, e1, e2, e3, e4, e5⟩ := h'.2 _ (List.mem_singleton.2 rfl)
  have en : name = [101, 114, 114, 111, 114] := (Option.some.inj e1).symm
  subst en
  have hrt : (Tryz.prog.cutTypes.find? (·.1 == "internal/reflectlite.rtype")).map (·.2) = some 141 := by kernel_rfl
  obtain rfl := Option.some.inj (hrt.symm.trans e2)
  have hone : ((List.range Tryz.prog.types.size).filter fun t => Tryz.prog.rowNamed t [101, 114, 114, 111, 114]) = [56] := by kernel_rfl
  have hm : ty ∈ (List.range Tryz.prog.types.size).filter fun t => Tryz.prog.rowNamed t [101, 114, 114, 111, 114] := List.mem_filter.2 ⟨List.mem_range.2 e3, e4⟩
  rw [hone] at hm
  obtain rfl := List.mem_singleton.1 hm
  have hh : typeHandle Tryz.prog 56 = .pointer (some ⟨13, 56, none⟩) := by kernel_rfl
  rw [hh] at e5
  have het : Tryz.prog.globalNamed "errors.errorType" = some 1 := by kernel_rfl
  have hu : laidMet Tryz.prog (("math/bits.deBruijn32tab", Rows.laid_math_bits_deBruijn32tab) :: ("math/bits.deBruijn64tab", Rows.laid_math_bits_deBruijn64tab) :: ("internal/strconv.uint64pow10", Rows.laid_internal_strconv_uint64pow10) :: ("unicode/utf8.acceptRanges", Rows.laid_unicode_utf8_acceptRanges) :: errL) W := h'.1
  have h3 := hu.tail.tail
  have h5 := h3.tail.tail
  have htab := Lib.tabIs_of_head (k := .u64) (zs := Lib.pow10Tab) (name := "internal/strconv.uint64pow10") (n := 20) (t := 183) (e := 127) (show Tryz.prog.globalNamed "internal/strconv.uint64pow10" = some 10 by kernel_rfl) (by kernel_rfl) (by kernel_rfl) (by kernel_rfl) (by kernel_rfl) (by kernel_rfl) h3
  obtain ⟨cr, hcr, _, _⟩ := laid_sent (ti := 56) (te := 190) (ts := 9) h5 (show Tryz.prog.globalNamed "strconv.ErrRange" = some 7 by kernel_rfl) (by kernel_rfl) Tryz.underlying56 es_row Tryz.underlying188 Tryz.underlying190 rfl rfl Tryz.underlying9 (by kernel_rfl) (by kernel_rfl)
  obtain ⟨cs, hcs, _, _⟩ := laid_sent (ti := 56) (te := 190) (ts := 9) h5.tail (show Tryz.prog.globalNamed "strconv.ErrSyntax" = some 6 by kernel_rfl) (by kernel_rfl) Tryz.underlying56 es_row Tryz.underlying188 Tryz.underlying190 rfl rfl Tryz.underlying9 (by kernel_rfl) (by kernel_rfl)
  obtain ⟨co, hco, ho1, ho2⟩ := laid_sent (ti := 56) (te := 190) (ts := 9) h5.tail.tail (show Tryz.prog.globalNamed "gutter/unit.errOver" = some 2 by kernel_rfl) (by kernel_rfl) Tryz.underlying56 es_row Tryz.underlying188 Tryz.underlying190 rfl rfl Tryz.underlying9 (by kernel_rfl) (by kernel_rfl)
  obtain ⟨cz, hcz, hz1, hz2⟩ := laid_sent (ti := 56) (te := 190) (ts := 9) h5.tail.tail.tail (show Tryz.prog.globalNamed "gutter/unit.errZero" = some 5 by kernel_rfl) (by kernel_rfl) Tryz.underlying56 es_row Tryz.underlying188 Tryz.underlying190 rfl rfl Tryz.underlying9 (by kernel_rfl) (by kernel_rfl)
  obtain ⟨ct, hct, ht1, ht2⟩ := laid_sent (ti := 56) (te := 190) (ts := 9) h5.tail.tail.tail.tail (show Tryz.prog.globalNamed "gutter/unit.errText" = some 3 by kernel_rfl) (by kernel_rfl) Tryz.underlying56 es_row Tryz.underlying188 Tryz.underlying190 rfl rfl Tryz.underlying9 (by kernel_rfl) (by kernel_rfl)
  obtain ⟨cv, hcv, _, _⟩ := laid_sent (ti := 56) (te := 190) (ts := 9) h5.tail.tail.tail.tail.tail (show Tryz.prog.globalNamed "gutter/style.errValue" = some 0 by kernel_rfl) (by kernel_rfl) Tryz.underlying56 es_row Tryz.underlying188 Tryz.underlying190 rfl rfl Tryz.underlying9 (by kernel_rfl) (by kernel_rfl)
  obtain ⟨ml, hml⟩ := cell_of_shapedOpen_int (g := 4) (t := 3) (zero := #[.int .i64 0]) (k := .i64) hs (of_decide_eq_true (by kernel_rfl)) (by kernel_rfl) (by rfl) (by kernel_rfl) (by kernel_rfl) (by kernel_rfl)
  have htb : ∃ t fz, W.heap[10]? = some (.cells (Lib.pow10Tab.map fun z => Value.int .u64 z).toArray t fz) := by
    have hn : Tryz.prog.globalNamed "internal/strconv.uint64pow10" = some 10 := by kernel_rfl
    unfold Lib.TabIs World.var? at htab
    rw [hn] at htab
    have htab2 : (match W.heap[10]? with | some (Obj.cells cs _ _) => some cs | _ => none) = some (Lib.pow10Tab.map fun z => Value.int .u64 z).toArray := htab
    split at htab2
    · rename_i c t fz hc
      cases htab2
      exact ⟨t, fz, hc⟩
    · cases htab2
  refine ⟨⟨fun i => if i = 0 then cv else if i = 1 then co else if i = 2 then cz else if i = 3 then ct else if i = 4 then cs else cr, ml⟩, fun x hx => ?_⟩
  letI : EA := ⟨fun i => if i = 0 then cv else if i = 1 then co else if i = 2 then cz else if i = 3 then ct else if i = 4 then cs else cr, ml⟩
  have hx' : x ∈ gl0 := hx
  simp only [gl0, List.mem_append, List.mem_cons, List.not_mem_nil, or_false] at hx'
  rcases hx' with (((((rfl | rfl) | (rfl | rfl | rfl)) | (rfl | rfl | rfl)) | (rfl | rfl | rfl)) | (rfl | rfl | rfl | rfl))
  · have h1 : W.cell? ⟨1, 0, none⟩ = some etV := by simpa using World.var?_cell het e5 0
    exact h1
  · exact hcv
  · exact hco
  · exact ho1
  · exact ho2
  · exact hcz
  · exact hz1
  · exact hz2
  · exact hct
  · exact ht1
  · exact ht2
  · exact hcs
  · exact hcr
  · exact hml
  · exact htb

/-- A world that meets the condition. -/
noncomputable def lowW : Nat := (World.holding Tryz.prog default ⟨#[], #[], []⟩).heap.size
def litV : DataW Unit → List Value
  | .lit (.int k n) => [.int k n]
  | _ => []
def rowV1 : DataW Unit → List Value
  | .agg l => l.flatMap litV
  | x => litV x
def tabV : DataW Unit → Array Value
  | .agg l => (l.flatMap rowV1).toArray
  | _ => #[]
def putC (cs : Array Value) : Obj → Obj
  | .cells _ t frozen => .cells cs t frozen
  | o => o
def errO (t : List UInt8) : Obj := .cells #[.string ⟨t.toArray⟩] 190 (0, 0)
noncomputable def errC (i : Nat) : Array Value := #[.iface 188 (.pointer (some ⟨lowW + i, 0, none⟩))]
noncomputable def laidWorld (os : Os) : World :=
  let w0 := World.holding Tryz.prog os ⟨#[errO [118, 97, 108, 117, 101, 32, 111, 117, 116, 32, 111, 102, 32, 114, 97, 110, 103, 101], errO [105, 110, 118, 97, 108, 105, 100, 32, 115, 121, 110, 116, 97, 120], errO [116, 111, 111, 32, 103, 114, 101, 97, 116], errO [98, 121, 32, 110, 111, 116, 104, 105, 110, 103], errO [110, 111, 32, 108, 101, 110, 103, 116, 104], errO [110, 111, 32, 118, 97, 108, 117, 101]], #[], []⟩
  { w0 with heap := (((((((((((w0.heap.modify 1 (putC #[etV])).modify 11 (putC (tabV Rows.laid_math_bits_deBruijn32tab))).modify 12 (putC (tabV Rows.laid_math_bits_deBruijn64tab))).modify 10 (putC (tabV Rows.laid_internal_strconv_uint64pow10))).modify 9 (putC (tabV Rows.laid_unicode_utf8_acceptRanges))).modify 8 (putC (tabV Rows.laid_unicode_utf8_first))).modify
      7 (putC (errC 0))).modify 6 (putC (errC 1))).modify 2 (putC (errC 2))).modify 5 (putC (errC 3))).modify 3 (putC (errC 4))).modify 0 (putC (errC 5)) }
theorem laidWorld_met (os : Os) (args : Array Value) : laidMetH Tryz.prog laidL ((laidWorld os).forCall (fun _ _ => 0) ⟨#[], args, []⟩).memory :=
  laidMetH_of_parts (laidMet_of_run' 8 (by kernel_rfl) (by kernel_rfl)) (by kernel_rfl)
theorem own : ownKnob Tryz.prog.godebug = none := by kernel_rfl

/-- The wrap, the laid variables and the world's shape kept. -/
theorem handed_and_shaped {H : Type} {enc : TypeId × Value → H} {a : Assume} {C : Checked} {os : Os} {f : FuncId} {fn : Func} {s : ChangeSpec} {conds : List PathCond} {apart fresh handsOn again : Bool} {X : World → Array Value → Prop}
    (hX : ∀ (w w' : World) (args : Array Value), w.heap = w'.heap → X w args → X w' args)
    (own : ownKnob C.prog.godebug = none) (started : os.Started) (noInit : C.prog.inits.idxOf? f = none) (hfn : C.prog.funcs[f]? = some fn)
    (witness : ∃ (w : World) (tape : Tape) (i : Input), w.os = os ∧ (w.forCall tape i).Shaped C.prog ∧ i.vars = [] ∧ Input.okWide C.prog (w.forCall tape i) .any w.heap.size f i ∧
      ((s.pre enc C.prog fn conds apart (w.forCall tape i).memory i.args ∧ X (w.forCall tape i).memory i.args) ∧ sizedMet enc C.prog fn (OpenSpec.ofChange s) apart (w.forCall tape i).memory i.args) ∧ a.holds C.prog (lone (Frame.enter C.prog f i.args .normal) [] (w.forCall tape i)))
    (contract : ∀ (W : World) (base : Nat) (args : Array Value) (ds gs : List (DataW H)) (before : List MemPlace),
      (∀ (j : Nat) t v, fn.params[j]? = some t → args[j]? = some v → Value.okWide C.prog W .any base t v) →
      DataW.Whole enc C.prog fn.params.toList s.vars apart W args.toList ds gs before → X W args → W.ShapedOpen C.prog →
      Calls C.prog f args W fun e W' => ∃ v, e = .returned v ∧ s.post enc C.prog fn apart fresh handsOn again W args v W') :
    ReturnsInHanded a C os f .any (fun w args => (s.pre enc C.prog fn conds apart w args ∧ X w args) ∧ sizedMet enc C.prog fn (OpenSpec.ofChange s) apart w args) (s.post enc C.prog fn apart fresh handsOn again) := by
  refine returnsInHanded_of_calls own started noInit witness ?_
  intro w tape i _ hsh _ hok hpre hholds
  obtain ⟨_, _, _, fn', hfn', _, _, _, _, hval⟩ := hok
  have e : fn' = fn := Option.some.inj (hfn'.symm.trans hfn)
  subst e
  obtain ⟨⟨⟨ds, gs, before, hw, hc⟩, hx⟩, hz⟩ := hpre
  have hw' := DataW.Whole.of_heap (w' := w.forCall tape i) (by rfl) hw
  refine (contract (w.forCall tape i) w.heap.size i.args ds gs before hval hw' (hX _ _ _ (by rfl) hx) hsh).mono fun e W' ⟨v, he, hp⟩ => ?_
  subst he
  exact ChangeSpec.post_blind hp

/-- **A law's contract gives what its row asks**, with the laid variables. -/
theorem row_of {f : Nat} {fn : Func} {sp : List V → T V} {s : ChangeSpec} {shs : List (Bool × List K)} {rt : TypeId} {apart : Bool} (H : Type) (enc : TypeId × Value → H) (os : Os) (started : os.Started)
    (hs : ∀ e : EA, @SpecOK (@gw e) Tryz.prog f sp) (hfn : Tryz.prog.funcs[f]? = some fn) (hrt : fn.resultTypes = #[rt]) (hu : Tryz.prog.underlying rt = some .bool) (hvars : s.vars = []) (hf : ∀ (ds : List (DataW H)), ds.length = fn.params.size → s.fn H ds = { results := [.lit (.bool true)], args := ds })
    (hpar : parTs Tryz.prog fn.params.toList = some shs) (hlaw : ∀ xs, PVs shs xs → (sp xs).pick = some (V.b true)) (hno : Tryz.checked.prog.inits.idxOf? f = none)
    (hw : ∃ (w : World) (tape : Tape) (i : Input), w.os = os ∧ (w.forCall tape i).Shaped Tryz.checked.prog ∧ i.vars = [] ∧ Input.okWide Tryz.checked.prog (w.forCall tape i) .any w.heap.size f i ∧
      ((s.pre enc Tryz.checked.prog fn [] apart (w.forCall tape i).memory i.args ∧ laidMetH Tryz.prog laidL (w.forCall tape i).memory) ∧ sizedMet enc Tryz.checked.prog fn (OpenSpec.ofChange s) apart (w.forCall tape i).memory i.args) ∧ ({} : Assume).holds Tryz.checked.prog (lone (Frame.enter Tryz.checked.prog f i.args .normal) [] (w.forCall tape i))) :
    ReturnsInHanded {} Tryz.checked os f .any (fun w args => (s.pre enc Tryz.prog fn [] apart w args ∧ laidMetH Tryz.prog laidL w) ∧ sizedMet enc Tryz.prog fn (OpenSpec.ofChange s) apart w args) (s.post enc Tryz.prog fn apart true false false) := by
  refine handed_and_shaped (C := Tryz.checked) (X := fun w _ => laidMetH Tryz.prog laidL w) (fun _ _ _ hh h => h.of_heap hh) own started hno hfn hw ?_
  intro W base args ds gs before hval hW hL hsh
  obtain ⟨e, hg⟩ := glw_of_laid hL hsh
  letI : EA := e
  exact contract_of (hs e) hrt hu hvars hf hpar hlaw hval hW hg

/-! ### the arguments' shapes -/
theorem pvs_nil {xs : List V} (h : PVs [] xs) : xs = [] := by cases h; rfl
theorem pvs_cons {p : Bool × List K} {ps : List (Bool × List K)} {xs : List V} (h : PVs (p :: ps) xs) : ∃ x l, xs = x :: l ∧ PV p x ∧ PVs ps l := by
  cases h with
  | cons _ x _ l h1 h2 => exact ⟨x, l, rfl, h1, h2⟩
theorem qks_cons {k : K} {ks : List K} {l : List V} (h : QKs (k :: ks) l) : ∃ q r, l = .q q :: r ∧ QK k q ∧ QKs ks r := by
  cases h with
  | cons _ q _ r h1 h2 => exact ⟨q, r, rfl, h1, h2⟩
theorem qk_int {q : Q} (h : QK (.int .i64) q) : ∃ n, q = .c (.int .i64 n) := by
  cases h with
  | val _ v hv => cases hv; exact ⟨_, rfl⟩
theorem qk_bool {q : Q} (h : QK .bool q) : ∃ n, q = .c (.bool n) := by
  cases h with
  | val _ v hv => cases hv; exact ⟨_, rfl⟩
theorem qk_str {q : Q} (h : QK .str q) : ∃ b : ByteArray, q = .c (.string b) ∧ b.size ≤ maxLen := by
  cases h with
  | val _ v hv => cases hv with | str b hb => exact ⟨_, rfl, hb⟩
theorem pv_text {x : V} (h : PV (false, [.str]) x) : ∃ b : ByteArray, x = V.s b ∧ b.size ≤ maxLen := by
  cases h with
  | one _ q hq => obtain ⟨b, rfl, hb⟩ := qk_str hq; exact ⟨b, rfl, hb⟩
abbrev ksSt : List K := [.int .i64, .int .i64, .int .i64, .int .i64, .bool, .int .i64, .int .i64, .int .i64, .bool, .int .i64, .int .i64, .bool, .int .i64, .bool, .int .i64, .int .i64]
theorem pv_style {x : V} (h : PV (true, ksSt) x) : ∃ s : Sty, x = styV s ∧ True := by
  cases h with
  | agg _ l hl =>
    obtain ⟨q0, l0, rfl, h0, hl⟩ := qks_cons hl
    obtain ⟨q1, l1, rfl, h1, hl⟩ := qks_cons hl
    obtain ⟨q2, l2, rfl, h2, hl⟩ := qks_cons hl
    obtain ⟨q3, l3, rfl, h3, hl⟩ := qks_cons hl
    obtain ⟨q4, l4, rfl, h4, hl⟩ := qks_cons hl
    obtain ⟨q5, l5, rfl, h5, hl⟩ := qks_cons hl
    obtain ⟨q6, l6, rfl, h6, hl⟩ := qks_cons hl
    obtain ⟨q7, l7, rfl, h7, hl⟩ := qks_cons hl
    obtain ⟨q8, l8, rfl, h8, hl⟩ := qks_cons hl
    obtain ⟨q9, l9, rfl, h9, hl⟩ := qks_cons hl
    obtain ⟨q10, l10, rfl, h10, hl⟩ := qks_cons hl
    obtain ⟨q11, l11, rfl, h11, hl⟩ := qks_cons hl
    obtain ⟨q12, l12, rfl, h12, hl⟩ := qks_cons hl
    obtain ⟨q13, l13, rfl, h13, hl⟩ := qks_cons hl
    obtain ⟨q14, l14, rfl, h14, hl⟩ := qks_cons hl
    obtain ⟨q15, l15, rfl, h15, hl⟩ := qks_cons hl
    cases hl
    obtain ⟨a0, rfl⟩ := qk_int h0
    obtain ⟨a1, rfl⟩ := qk_int h1
    obtain ⟨a2, rfl⟩ := qk_int h2
    obtain ⟨a3, rfl⟩ := qk_int h3
    obtain ⟨a4, rfl⟩ := qk_bool h4
    obtain ⟨a5, rfl⟩ := qk_int h5
    obtain ⟨a6, rfl⟩ := qk_int h6
    obtain ⟨a7, rfl⟩ := qk_int h7
    obtain ⟨a8, rfl⟩ := qk_bool h8
    obtain ⟨a9, rfl⟩ := qk_int h9
    obtain ⟨a10, rfl⟩ := qk_int h10
    obtain ⟨a11, rfl⟩ := qk_bool h11
    obtain ⟨a12, rfl⟩ := qk_int h12
    obtain ⟨a13, rfl⟩ := qk_bool h13
    obtain ⟨a14, rfl⟩ := qk_int h14
    obtain ⟨a15, rfl⟩ := qk_int h15
    exact ⟨⟨a0, a1, a2, a3, a4, a5, a6, a7, a8, a9, a10, a11, a12, a13, a14, a15⟩, rfl, trivial⟩
end Go.Proofs.YtgmeglodnhagdaaGreatDoor
