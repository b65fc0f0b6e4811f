/- What the laws' proofs lean on, put together: part 4. -/
import Derived.Test.YthohngmafdagoaaDoorMc
import Derived.Below
import Derived.OrdersIn
import Derived.TacticsIn
import Derived.Test.YthohngmafdagoaaDoorProg
import Derived.WalkKit
import Derived.LaidEql
import Derived.Stop.Asserts
import Derived.RowKitTokens
import Derived.KernelRfl
import Derived.Shelf.Strings.BuilderK
import Derived.BigCall
import Derived.Test.YthohngmafdagoaaDoorRows
import Derived.Test.YthohngmafdagoaaDoorTie
import Derived.Test.YthohngmafdagoaaDoorCards
import Derived.LaidLaws
import Derived.LaidHandle
import Derived.Stop.Joined
import Derived.SevenTiedAt

/- errors.As at line's own kind of error: what told says of it. -/
namespace Go.Proofs.YthohngmafdagoaaDoor.AsLine
open Go Go.RowKit Go.Extern.Stop Go.Stop Go.Extern
set_option linter.unusedVariables false
set_option linter.unusedSimpArgs false

abbrev R : Nat := 121
abbrev E : Nat := 76
abbrev PE : Nat := 78
abbrev VT : Nat := 94
abbrev ER : Nat := 56
abbrev hd (t : Nat) : Value := .pointer (some ⟨1, t, none⟩)

theorem valueOfP (t : Addr) (w : World) : (ReflectliteValue.unpack (.iface PE (.pointer (some t)))).run Tryd.prog w
    = .ok (.agg #[hd PE, .pointer (some ⟨w.heap.size, 0, none⟩), .int .u64 150]) (w.alloc (.cells #[.pointer (some t)] PE)) := by kernel_rfl
theorem typeP (a : Addr) (w : World) : (ReflectliteValue.methodAny (ReflectliteValue.valueError "reflectlite.Value.Type" 0) (fun t _ _ _ => ReflectliteType.toType t) #[.agg #[hd PE, .pointer (some a), .int .u64 150]]).run Tryd.prog w
    = .ok (.iface R (.agg #[hd PE])) w := by kernel_rfl
theorem methodKind (d : Nat) (h : Value) (w : World) : (Go.method (d + 60) R (.agg #[h]) "Kind").run Tryd.prog w = .ok (105, h) w := by kernel_rfl
theorem kindP (w : World) : ((ReflectliteType.abiMethod fun t => (fun a : Nat => Value.int IntKind.u8 (a : Int)) <$> Rtype.kind t) #[hd PE]).run Tryd.prog w = .ok (.int .u8 22) w := by kernel_rfl
theorem kindE (w : World) : ((ReflectliteType.abiMethod fun t => (fun a : Nat => Value.int IntKind.u8 (a : Int)) <$> Rtype.kind t) #[hd E]).run Tryd.prog w = .ok (.int .u8 25) w := by kernel_rfl
theorem rlm (z : Sem Value) (f : TypeId → Addr → Nat → Nat → Sem Value) (v : Value) :
    ReflectliteValue.method z f #[v] = (do match ← ReflectliteValue.parts v with | none => z | some (t, a, fl) => f t a fl (fl % 32)) := rfl
theorem partsP (a : Addr) (w : World) : (ReflectliteValue.parts (.agg #[hd PE, .pointer (some a), .int .u64 150])).run Tryd.prog w = .ok (some (PE, a, 150)) w := by kernel_rfl
theorem undP : Tryd.prog.underlying PE = some (.pointer E) := by kernel_rfl
theorem isNilP (a p : Addr) (W : World) (ha : W.cell? a = some (.pointer (some p))) :
    (ReflectliteValue.method (ReflectliteValue.valueError "reflectlite.Value.IsNil" 0) ReflectliteValue.isNil #[.agg #[hd PE, .pointer (some a), .int .u64 150]]).run Tryd.prog W = .ok (.bool false) W := by
  rw [rlm]
  simp only [Sem.run_bind, partsP, Result.andThen]
  simp [ReflectliteValue.isNil, loadVar, isAgg, underlying, undP, ha, Result.andThen]
theorem methodElem (d : Nat) (h : Value) (w : World) : (Go.method (d + 60) R (.agg #[h]) "Elem").run Tryd.prog w = .ok (116, .agg #[h]) w := by kernel_rfl
theorem methodImplements (d : Nat) (h : Value) (w : World) : (Go.method (d + 60) R (.agg #[h]) "Implements").run Tryd.prog w = .ok (117, .agg #[h]) w := by kernel_rfl
theorem methodAssignableTo (d : Nat) (h : Value) (w : World) : (Go.method (d + 60) R (.agg #[h]) "AssignableTo").run Tryd.prog w = .ok (114, .agg #[h]) w := by kernel_rfl
theorem elemT (w : World) : (ReflectliteType.method ReflectliteType.elem #[.agg #[hd PE]]).run Tryd.prog w = .ok (.iface R (.agg #[hd E])) w := by kernel_rfl
theorem implE (w : World) : (ReflectliteType.relation "Implements" ReflectliteType.implements_ #[.agg #[hd E], .iface R (.agg #[hd ER])]).run Tryd.prog w = .ok (.bool true) w := by kernel_rfl
theorem typeOfE (v : Value) (w : World) : (ReflectliteType.typeOf #[.iface E v]).run Tryd.prog w = .ok (.iface R (.agg #[hd E])) w := by kernel_rfl
theorem assignE (w : World) : (ReflectliteType.relation "AssignableTo" ReflectliteType.assignableTo #[.agg #[hd E], .iface R (.agg #[hd E])]).run Tryd.prog w = .ok (.bool true) w := by kernel_rfl
theorem valueOfE (e : Int) (w : World) : (ReflectliteValue.unpack (.iface E (.agg #[.int .i64 e]))).run Tryd.prog w
    = .ok (.agg #[hd E, .pointer (some ⟨w.heap.size, 0, none⟩), .int .u64 153]) (w.alloc (.cells #[.int .i64 e] E)) := by kernel_rfl
theorem elemOfP (w : World) : (Rtype.elem? PE).run Tryd.prog w = .ok (some E) w := by kernel_rfl
theorem mkE (p : Addr) (w : World) : (ReflectliteValue.mk E p ReflectliteValue.flagAddr).run Tryd.prog w = .ok (.agg #[hd E, .pointer (some p), .int .u64 409]) w := by kernel_rfl
theorem elemV (a p : Addr) (W : World) (ha : W.cell? a = some (.pointer (some p))) :
    (ReflectliteValue.method (ReflectliteValue.valueError "reflectlite.Value.Elem" 0) ReflectliteValue.elem #[.agg #[hd PE, .pointer (some a), .int .u64 150]]).run Tryd.prog W
      = .ok (.agg #[hd E, .pointer (some p), .int .u64 409]) W := by
  rw [rlm]
  simp only [Sem.run_bind, partsP, Result.andThen]
  simp [ReflectliteValue.elem, loadVar, isAgg, underlying, undP, ha, Result.andThen, elemOfP, mkE]
theorem rls (v x : Value) : ReflectliteValue.set #[v, x] = (do
    let (some (dst, a, fl), some (src, b, _)) := (← ReflectliteValue.parts v, ← ReflectliteValue.parts x)
      | unsupported (.noEntry "extern/(internal/reflectlite.Value).Set.zeroValue")
    if fl / ReflectliteValue.flagAddr % 2 == 0 then unsupported (.noEntry "extern/(internal/reflectlite.Value).Set.unaddressable")
    let val ← loadVar src b
    if ← Rtype.directlyAssignable dst src then storeVar dst a val
    else if ← Rtype.implements dst src then
      if (← Rtype.kind src) == 20 then
        match val with
        | .nilIface => unsupported (.noEntry "extern/reflectlite: a nil value of one interface type handed on as a value of another")
        | _ => storeVar dst a val
      else storeVar dst a (.iface src val)
    else panicString ("reflectlite.Set: value of type " ++ (← Rtype.spelt src) ++ " is not assignable to type " ++ (← Rtype.spelt dst))
    pure (.tuple #[])) := rfl
theorem partsEa (a : Addr) (w : World) : (ReflectliteValue.parts (.agg #[hd E, .pointer (some a), .int .u64 409])).run Tryd.prog w = .ok (some (E, a, 409)) w := by kernel_rfl
theorem partsE (a : Addr) (w : World) : (ReflectliteValue.parts (.agg #[hd E, .pointer (some a), .int .u64 153])).run Tryd.prog w = .ok (some (E, a, 153)) w := by kernel_rfl
theorem directE (w : World) : (Rtype.directlyAssignable E E).run Tryd.prog w = .ok true w := by kernel_rfl
theorem sizeE (w : World) : (sizeOf E).run Tryd.prog w = .ok 1 w := by kernel_rfl
theorem undE : (Tryd.prog.underlying E).map (fun d => match d with | .struct _ => true | _ => false) = some true := by kernel_rfl
theorem isAggE (w : World) : (isAgg E).run Tryd.prog w = .ok true w := by kernel_rfl
theorem loadE (b : Nat) (e : Int) (W : World) (hb : W.cell? ⟨b, 0, none⟩ = some (.int .i64 e)) : (loadVar E ⟨b, 0, none⟩).run Tryd.prog W = .ok (.agg #[.int .i64 e]) W := by
  simp [loadVar, isAggE, sizeE, Result.andThen, loadCells, loadCellsFrom, Addr.add, hb]
/-- (Value).Set: the variable at 'ta' gets what the Value's own variable 'b' holds. -/
theorem setE (ta b : Nat) (e : Int) (old : Value) (W : World) (hb : W.cell? ⟨b, 0, none⟩ = some (.int .i64 e)) (ht : W.cell? ⟨ta, 0, none⟩ = some old) (hf : W.frozen? ⟨ta, 0, none⟩ = false) :
    (ReflectliteValue.set #[.agg #[hd E, .pointer (some ⟨ta, 0, none⟩), .int .u64 409], .agg #[hd E, .pointer (some ⟨b, 0, none⟩), .int .u64 153]]).run Tryd.prog W
      = .ok (.tuple #[]) (W.setCell ⟨ta, 0, none⟩ (.int .i64 e)) := by
  rw [rls]
  simp only [Sem.run_bind, partsEa, partsE, Result.andThen]
  simp [ReflectliteValue.flagAddr, loadE _ _ _ hb, Result.andThen, directE, storeVar, Value.cells, storeCells, Addr.add, sizeE]
  rw [run_store Tryd.prog W ⟨ta, 0, none⟩ _ _ (by rfl)]
  simp [ht, hf]

theorem as_nil (t : Value) (w : World) :
    Calls Tryd.prog 43 #[.nilIface, t] w fun e w' => e = .returned (.bool false) ∧ w' = w := by
  go_enter Tryd.func43, Tryd.ntmps43
  go_wp2
  go_ret
  exact ⟨rfl, rfl⟩

set_option maxHeartbeats 4000000 in
theorem as_hit (e : Int) (tb : Nat) (old : Value) (w : World) (hg : w.cell? ⟨0, 0, none⟩ = some (.iface R (.agg #[hd ER]))) (ht0 : w.cell? ⟨tb, 0, none⟩ = some old) (hf0 : w.frozen? ⟨tb, 0, none⟩ = false) :
    Calls Tryd.prog 43 #[.iface E (.agg #[.int .i64 e]), .iface PE (.pointer (some ⟨tb, 0, none⟩))] w fun ev w' => ev = .returned (.bool true) ∧ w' = ((((w.alloc (.cells #[.pointer (some ⟨tb, 0, none⟩)] PE)).alloc (.cells #[hd PE, .pointer (some ⟨w.heap.size, 0, none⟩), .int .u64 150] VT)).alloc (.cells #[hd PE, .pointer (some ⟨w.heap.size, 0, none⟩), .int .u64 150] VT)).alloc (.cells #[.int .i64 e] E)).setCell ⟨tb, 0, none⟩ (.int .i64 e) := by
  have h6 := @run_callFunc_extern Tryd.prog 52 _ (fun args => ReflectliteValue.unpack (args.getD 0 (.tuple #[]))) Tryd.func52 (by kernel_rfl) (by kernel_rfl) (by kernel_rfl) (by kernel_rfl)
  have h7 := @run_callFunc_extern Tryd.prog 53 _ (ReflectliteValue.methodAny (ReflectliteValue.valueError "reflectlite.Value.Type" 0) (fun t _ _ _ => ReflectliteType.toType t)) Tryd.func53 (by kernel_rfl) (by kernel_rfl) (by kernel_rfl) (by kernel_rfl)
  have h8 := @run_callFunc_extern Tryd.prog 54 _ (ReflectliteValue.method (ReflectliteValue.valueError "reflectlite.Value.IsNil" 0) ReflectliteValue.isNil) Tryd.func54 (by kernel_rfl) (by kernel_rfl) (by kernel_rfl) (by kernel_rfl)
  have h27 := @run_callFunc_extern Tryd.prog 105 _ (ReflectliteType.abiMethod fun t => do pure (.int .u8 (← Rtype.kind t))) Tryd.func105 (by kernel_rfl) (by kernel_rfl) (by kernel_rfl) (by kernel_rfl)
  have h37 := @run_callFunc_extern Tryd.prog 116 _ (ReflectliteType.method ReflectliteType.elem) Tryd.func116 (by kernel_rfl) (by kernel_rfl) (by kernel_rfl) (by kernel_rfl)
  have h38 := @run_callFunc_extern Tryd.prog 117 _ (ReflectliteType.relation "Implements" ReflectliteType.implements_) Tryd.func117 (by kernel_rfl) (by kernel_rfl) (by kernel_rfl) (by kernel_rfl)
  have h10 := @run_callFunc_extern Tryd.prog 58 _ ReflectliteType.typeOf Tryd.func58 (by kernel_rfl) (by kernel_rfl) (by kernel_rfl) (by kernel_rfl)
  have h35 := @run_callFunc_extern Tryd.prog 114 _ (ReflectliteType.relation "AssignableTo" ReflectliteType.assignableTo) Tryd.func114 (by kernel_rfl) (by kernel_rfl) (by kernel_rfl) (by kernel_rfl)
  have h11 := @run_callFunc_extern Tryd.prog 59 _ (ReflectliteValue.method (ReflectliteValue.valueError "reflectlite.Value.Elem" 0) ReflectliteValue.elem) Tryd.func59 (by kernel_rfl) (by kernel_rfl) (by kernel_rfl) (by kernel_rfl)
  have h12 := @run_callFunc_extern Tryd.prog 60 _ ReflectliteValue.set Tryd.func60 (by kernel_rfl) (by kernel_rfl) (by kernel_rfl) (by kernel_rfl)
  have tO := typeOfE
  have mA := methodAssignableTo
  have a25 := assignE
  have v25 := valueOfE
  have f6 := valueOfP
  have f7 := typeP
  have mK := methodKind
  have mE := methodElem
  have mI := methodImplements
  have k27 := kindP
  have k25 := kindE
  have e27 := elemT
  have i25 := implE
  simp only [E, PE, R, VT, ER, hd] at *
  have n8 := isNilP ⟨w.heap.size, 0, none⟩ ⟨tb, 0, none⟩ ((w.alloc (.cells #[.pointer (some ⟨tb, 0, none⟩)] PE)).alloc (.cells #[hd PE, .pointer (some ⟨w.heap.size, 0, none⟩), .int .u64 150] VT)) (by simp)
  have hlt : 0 < w.heap.size := by
    rcases Nat.lt_or_ge 0 w.heap.size with h | h
    · exact h
    · simp [World.cell?, Array.getElem?_eq_none h] at hg
  have hg2 : ((w.alloc (.cells #[.pointer (some ⟨tb, 0, none⟩)] PE)).alloc (.cells #[hd PE, .pointer (some ⟨w.heap.size, 0, none⟩), .int .u64 150] VT)).cell? ⟨0, 0, none⟩ = some (.iface R (.agg #[hd ER])) := by
    rw [World.cell?_alloc_lt _ _ ⟨0, 0, none⟩ (by simp only [World.size_alloc]; omega), World.cell?_alloc_lt _ _ ⟨0, 0, none⟩ hlt]; exact hg
  have htl : tb < w.heap.size := by
    rcases Nat.lt_or_ge tb w.heap.size with h | h
    · exact h
    · simp [World.cell?, Array.getElem?_eq_none h] at ht0
  have el := elemV ⟨w.heap.size, 0, none⟩ ⟨tb, 0, none⟩ (((w.alloc (.cells #[.pointer (some ⟨tb, 0, none⟩)] PE)).alloc (.cells #[hd PE, .pointer (some ⟨w.heap.size, 0, none⟩), .int .u64 150] VT)).alloc (.cells #[hd PE, .pointer (some ⟨w.heap.size, 0, none⟩), .int .u64 150] VT)) (by rw [World.cell?_alloc_lt _ _ ⟨w.heap.size, 0, none⟩ (by simp only [World.size_alloc]; omega)]; simp)
  have st := setE tb (w.heap.size + 1 + 1 + 1) e old ((((w.alloc (.cells #[.pointer (some ⟨tb, 0, none⟩)] PE)).alloc (.cells #[hd PE, .pointer (some ⟨w.heap.size, 0, none⟩), .int .u64 150] VT)).alloc (.cells #[hd PE, .pointer (some ⟨w.heap.size, 0, none⟩), .int .u64 150] VT)).alloc (.cells #[.int .i64 e] E))
    (by have := World.cell?_alloc_new (((w.alloc (.cells #[.pointer (some ⟨tb, 0, none⟩)] PE)).alloc (.cells #[hd PE, .pointer (some ⟨w.heap.size, 0, none⟩), .int .u64 150] VT)).alloc (.cells #[hd PE, .pointer (some ⟨w.heap.size, 0, none⟩), .int .u64 150] VT)) #[.int .i64 e] E 0; simpa using this)
    (by rw [World.cell?_alloc_lt _ _ ⟨tb, 0, none⟩ (by simp only [World.size_alloc]; omega), World.cell?_alloc_lt _ _ ⟨tb, 0, none⟩ (by simp only [World.size_alloc]; omega), World.cell?_alloc_lt _ _ ⟨tb, 0, none⟩ (by simp only [World.size_alloc]; omega), World.cell?_alloc_lt _ _ ⟨tb, 0, none⟩ htl]; exact ht0)
    (by rw [World.frozen?_alloc_old _ _ ⟨tb, 0, none⟩ (by simp only [World.size_alloc]; omega), World.frozen?_alloc_old _ _ ⟨tb, 0, none⟩ (by simp only [World.size_alloc]; omega), World.frozen?_alloc_old _ _ ⟨tb, 0, none⟩ (by simp only [World.size_alloc]; omega), World.frozen?_alloc_old _ _ ⟨tb, 0, none⟩ (Nat.ne_of_lt htl)]; exact hf0)
  simp only [E, PE, R, VT, ER, hd] at *
  go_enter Tryd.func43, Tryd.ntmps43
  go_wp2
  refine wp_loop_rounds 1 ?_
  rw [rounds_succ]
  go_wp2
  go_ret
  exact ⟨rfl, rfl⟩

end Go.Proofs.YthohngmafdagoaaDoor.AsLine

/- What line's told says of an error, as a contract. -/
namespace Go.Proofs.YthohngmafdagoaaDoor.AsLine
open Go Go.SX Go.RowKit Go.Extern.Stop Go.Stop Go.Extern

set_option linter.unusedVariables false
set_option linter.unusedSectionVars false
set_option linter.unusedSimpArgs false

/-- told at a refusal: its reason. -/
theorem told_hit (e : Int) (w : World) (hg : w.cell? ⟨0, 0, none⟩ = some (.iface R (.agg #[hd ER]))) :
    Calls Tryd.prog 32 #[.iface E (.agg #[.int .i64 e])] w fun ev w' => ev = .returned (.int .i64 e) ∧ Below w.heap.size w w' := by
  have hlt : 0 < w.heap.size := by
    rcases Nat.lt_or_ge 0 w.heap.size with h | h
    · exact h
    · simp [World.cell?, Array.getElem?_eq_none h] at hg
  have hgA : (w.alloc (.cells #[.int .i64 0] E)).cell? ⟨0, 0, none⟩ = some (.iface R (.agg #[hd ER])) := by
    rw [World.cell?_alloc_lt _ _ ⟨0, 0, none⟩ hlt]; exact hg
  have htA : (w.alloc (.cells #[.int .i64 0] E)).cell? ⟨w.heap.size, 0, none⟩ = some (.int .i64 0) := by simp
  have hfA : (w.alloc (.cells #[.int .i64 0] E)).frozen? ⟨w.heap.size, 0, none⟩ = false := by simp
  have hB : Below w.heap.size w (((((w.alloc (.cells #[.int .i64 e] E)).alloc (.cells #[.pointer (some ⟨w.heap.size, 0, none⟩)] PE)).alloc (.cells #[hd PE, .pointer (some ⟨w.heap.size + 1, 0, none⟩), .int .u64 150] VT)).alloc (.cells #[hd PE, .pointer (some ⟨w.heap.size + 1, 0, none⟩), .int .u64 150] VT)).alloc (.cells #[.int .i64 e] E)) :=
    (((((Below.refl _ _).alloc (by simp) _).alloc (by simp) _).alloc (by simp only [World.size_alloc]; omega) _).alloc (by simp only [World.size_alloc]; omega) _).alloc (by simp only [World.size_alloc]; omega) _
  go_enter Tryd.func32, Tryd.ntmps32
  go_wp2_with (first | (go_at_call 43; refine (as_hit e _ (.int .i64 0) _ hgA htA hfA).mono ?_; rintro e w' ⟨rfl, rfl⟩))
  go_ret
  exact ⟨rfl, hB⟩

theorem told_nil (w : World) : Calls Tryd.prog 32 #[.nilIface] w fun ev w' => ev = .returned (.int .i64 0) ∧ Below w.heap.size w w' := by
  have hB : Below w.heap.size w (w.alloc (.cells #[.int .i64 0] E)) := (Below.refl _ _).alloc (Nat.le_refl _) _
  go_enter Tryd.func32, Tryd.ntmps32
  go_wp2_with (first | (go_at_call 43; refine (as_nil _ _).mono ?_; rintro e w' ⟨rfl, rfl⟩))
  go_ret
  exact ⟨rfl, hB⟩

/-- The reason that an error tells. -/
def errOf : Value → Option Int
  | .nilIface => some 0
  | .iface t v => if t = E then match v with
    | .agg a => match a.toList with
      | [.int .i64 e] => some e
      | _ => none
    | _ => none
    else none
  | _ => none

def told.s : List V → T V
  | [.q (.c v)] => match errOf v with
    | some e => .leaf (V.i e)
    | none => .bad
  | _ => .bad

theorem told.ok : SpecOK Tryd.prog 32 told.s := by
  refine ⟨by kernel_rfl, fun S w args vals r hS hg _ hd hr => ?_⟩
  unfold told.s at hr
  split at hr
  · rename_i v0
    cases hd with
    | cons x v l us hx hl =>
      cases hl
      cases hx with
      | q _ _ hq =>
        cases hq
        unfold errOf at hr
        split at hr
        · rename_i e he
          cases hr
          split at he
          · cases he
            exact (told_nil w).mono fun ev w' ⟨h1, h2⟩ => ⟨_, h1, h2, .q _ _ (.c _)⟩
          · split at he
            · rename_i ht
              subst ht
              split at he
              · rename_i arr
                split at he
                · rename_i arr2 e' ha
                  have : arr = #[.int .i64 e'] := Array.ext' ha
                  subst this
                  cases he
                  refine (told_hit _ w ?_).mono fun ev w' ⟨h1, h2⟩ => ⟨_, h1, h2, .q _ _ (.c _)⟩
                  exact hg _ gl_et
                · cases he
              · cases he
            · cases he
          · cases he
        · cases hr
  · cases hr
end Go.Proofs.YthohngmafdagoaaDoor.AsLine

/- Lines, one by one: Next, what opens, what is checked. -/
namespace Go.Proofs.YthohngmafdagoaaDoor
open Go Go.SX Go.Proofs
set_option maxRecDepth 100000

set_option linter.unusedVariables false
set_option linter.unusedSectionVars false
set_option linter.unusedSimpArgs false

/-! ### checked -/
abbrev ΓCk : Gam := [(35, rRight.s)]
theorem ΓCk.ok : GOK Tryd.prog ΓCk := .cons rRight.ok (GOK.nil _)
abbrev badI (w : Int) : Bool := bif decide (w < 0) then true else decide (w > 1048576)
/-- What is wrong with words, and a width. -/
def chkW (n : Nat) (g : Nat → Nat → Q) (w : Int) : Int := bif !rightW n g then 70 else bif badI w then 60 else 0
def checked.s : List V → T V
  | [.q (.lst [.str, .int .i64, .int .i64, .int .i64] n g), .q (.c (.int .i64 w))] => .leaf (V.i (chkW n g w))
  | _ => .bad
theorem checked.ok : SpecOK Tryd.prog 38 checked.s := by
  refine okF ΓCk.ok Tryd.func38 (by kernel_rfl) (by kernel_rfl) fun args r hb hr => ?_
  unfold checked.s at hr
  split at hr
  · rename_i n g w
    have e : funV Tryd.prog ΓCk [] Tryd.f38 (cod Tryd.f38) [lWd n g, V.i w] = .ite (!rightW n g) (.leaf (V.i 70)) (.ite (badI w) (.leaf (V.i 60)) (.leaf (V.i 0))) := by kernel_rfl
    refine ⟨[], LamOK.nil _ _, ?_⟩
    rw [e, ← hr, chkW]
    cases rightW n g <;> cases badI w <;> rfl
  · cases hr
abbrev ΓOp : Gam := [(42, wRight.s)]
theorem ΓOp.ok : GOK Tryd.prog ΓOp := .cons wRight.ok (GOK.nil _)
abbrev errV (n : Int) : V := .q (.c (.iface 76 (.agg #[.int .i64 n])))
abbrev nilP : V := .q (.c (.pointer none))
def treeOp (n : Nat) (g : Nat → Nat → Q) (w : Int) : T V := .ite (!rightW n g) (.leaf (.tup [nilP, errV 70])) (.ite (badI w) (.leaf (.tup [nilP, errV 60])) (.leaf (.tup [brV n g w, nilE])))
def open_.s : List V → T V
  | [.q (.lst [.str, .int .i64, .int .i64, .int .i64] n g), .q (.c (.int .i64 w))] => .ite (allN n (szW g)) (treeOp n g w) .bad
  | _ => .bad
theorem open_.ok : SpecOK Tryd.prog 31 open_.s := by
  refine okF ΓOp.ok Tryd.func31 (by kernel_rfl) (by kernel_rfl) fun args r hb hr => ?_
  unfold open_.s at hr
  split at hr
  · rename_i n g w
    have e : funV Tryd.prog ΓOp [] Tryd.f31 (cod Tryd.f31) [lWd n g, V.i w] = .ite (decide (0 ≤ (0 : Int) ∧ (0 : Int) ≤ (n : Int) ∧ (n : Int) ≤ n ∧ (n : Int) ≤ n)) (.ite (allN n (szW g)) (.ite (!rightW n g) (.leaf (.tup [nilP, errV 70])) (.ite (badI w) (.leaf (.tup [nilP, errV 60])) (.leaf (.tup [brV n (gz g) w, nilE])))) .bad) .bad := by kernel_rfl
    have h : decide (0 ≤ (0 : Int) ∧ (0 : Int) ≤ (n : Int) ∧ (n : Int) ≤ n ∧ (n : Int) ≤ n) = true := decide_eq_true (by omega)
    refine ⟨[], LamOK.nil _ _, ?_⟩
    rw [e, ← hr, h, gz_id]; rfl
  · cases hr

/-! ### Next -/
/-- The line that begins with a word, and what is wrong. -/
def nextR (n : Nat) (g : Nat → Nat → Q) (i w : Int) : Ln × Int := bif chkW n g w != 0 then (⟨0, 0, 0⟩, chkW n g w) else bif decide (0 ≤ i ∧ i < n) then (nextL n g w i.toNat, 0) else (⟨0, 0, 0⟩, 80)
def rNext.s : List V → T V
  | [.q (.lst [.str, .int .i64, .int .i64, .int .i64] n g), .q (.c (.int .i64 i)), .q (.c (.int .i64 w))] => .leaf (.tup [lnV (nextR n g i w).1, V.i (nextR n g i w).2])
  | _ => .bad
def lNext.s : List V → T V
  | [.q (.lst [.str, .int .i64, .int .i64, .int .i64] n g), .q (.c (.int .i64 i)), .q (.c (.int .i64 w))] => .ite (allN n (szW g)) (.leaf (.tup [lnV (nextR n g i w).1, V.i (nextR n g i w).2])) .bad
  | _ => .bad
abbrev ΓRn : Gam := [(38, checked.s), (39, rnext.s)]
theorem ΓRn.ok : GOK Tryd.prog ΓRn := .cons checked.ok (.cons rnext.ok (GOK.nil _))
abbrev ΓLn : Gam := [(31, open_.s), (32, AsLine.told.s), (40, has.s), (41, next.s)]
theorem ΓLn.ok : GOK Tryd.prog ΓLn := .cons open_.ok (.cons AsLine.told.ok (.cons has.ok (.cons next.ok (GOK.nil _))))
theorem rNext.ok : SpecOK Tryd.prog 22 rNext.s := by
  refine okF ΓRn.ok Tryd.func22 (by kernel_rfl) (by kernel_rfl) fun args r hb hr => ?_
  unfold rNext.s at hr
  split at hr
  · rename_i n g i w
    have e : funV Tryd.prog ΓRn [] Tryd.f22 (cod Tryd.f22) [lWd n g, V.i i, V.i w] = .ite (chkW n g w != 0) (.leaf (.tup [lnV ⟨0, 0, 0⟩, V.i (chkW n g w)]))
        (.ite (bif decide (i < 0) then true else decide (i ≥ n)) (.leaf (.tup [lnV ⟨0, 0, 0⟩, V.i 80])) (.ite (decide (0 ≤ i ∧ i < n)) (.leaf (.tup [lnV ⟨i.toNat, (nextL n g w i.toNat).z, (nextL n g w i.toNat).w⟩, V.i 0])) .bad)) := by kernel_rfl
    refine ⟨[], LamOK.nil _ _, ?_⟩
    rw [e, ← hr, nextR]
    cases chkW n g w != 0 with
    | true => rfl
    | false =>
      by_cases hi : 0 ≤ i ∧ i < n
      · rw [decide_eq_true hi, decide_eq_false (show ¬ i < 0 by omega), decide_eq_false (show ¬ i ≥ n by omega)]; rfl
      · have : (bif decide (i < 0) then true else decide (i ≥ (n : Int))) = true := by
          rw [cond_or]; exact decide_eq_true (by omega)
        rw [decide_eq_false hi, this]; rfl
  · cases hr
theorem lNext.ok : SpecOK Tryd.prog 21 lNext.s := by
  refine okF ΓLn.ok Tryd.func21 (by kernel_rfl) (by kernel_rfl) fun args r hb hr => ?_
  unfold lNext.s at hr
  split at hr
  · rename_i n g i w
    have e : funV Tryd.prog ΓLn [] Tryd.f21 (cod Tryd.f21) [lWd n g, V.i i, V.i w] = .ite (allN n (szW g)) (.ite (!rightW n g) (.ite true (.leaf (.tup [lnV ⟨0, 0, 0⟩, V.i 70])) .bad) (.ite (badI w) (.ite true (.leaf (.tup [lnV ⟨0, 0, 0⟩, V.i 60])) .bad)
        (.ite false (.leaf (.tup [lnV ⟨0, 0, 0⟩, V.i 0])) (.ite (!(bif decide (i ≥ 0) then decide (i < n) else false)) (.leaf (.tup [lnV ⟨0, 0, 0⟩, V.i 80])) (.ite (decide (0 ≤ i ∧ i < n)) (.leaf (.tup [lnV ⟨i.toNat, (nextL n g w i.toNat).z, (nextL n g w i.toNat).w⟩, V.i 0])) .bad))))) .bad := by kernel_rfl
    refine ⟨[], LamOK.nil _ _, ?_⟩
    rw [e, ← hr, nextR, chkW]
    cases allN n (szW g) with
    | false => rfl
    | true =>
      cases rightW n g with
      | false => rfl
      | true =>
        cases badI w with
        | true => rfl
        | false =>
          by_cases hi : 0 ≤ i ∧ i < n
          · rw [decide_eq_true hi, decide_eq_true (show i ≥ 0 by omega), decide_eq_true hi.2]; rfl
          · have : (bif decide (i ≥ 0) then decide (i < (n : Int)) else false) = false := by
              rw [cond_and]; exact decide_eq_false (by omega)
            rw [decide_eq_false hi, this]; rfl
  · cases hr
end Go.Proofs.YthohngmafdagoaaDoor

/- Lines, one by one: Break, as the document tells it. -/
namespace Go.Proofs.YthohngmafdagoaaDoor
open Go Go.SX Go.Proofs
set_option maxRecDepth 100000

set_option linter.unusedVariables false
set_option linter.unusedSectionVars false
set_option linter.unusedSimpArgs false

abbrev pBi : List Nat := [0, 0, 1, 1, 0, 1, 0, 0, 1, 0, 1, 1, 1, 1]
abbrev pBo : List Nat := [0, 1, 0, 1, 1, 1, 1]
abbrev vLn (m : Nat) (h : Nat → Nat → Q) : Option Ob := some (.vec 30 ksLn m h)
def SBi (n : Nat) (g : Nat → Nat → Q) (w : Int) (m : Nat) (h : Nat → Nat → Q) (i k : Int) : St := mkS 49 [(0, lWd n g), (1, V.i w), (7, .own 0), (8, V.i i), (9, V.i k)] [vLn m h] [] false [] 0
def FBi (n : Nat) (g : Nat → Nat → Q) (w : Int) (m : Nat) (h : Nat → Nat → Q) (i : Int) : Ex × St := (.exit 2, mkS 49 [(0, lWd n g), (1, V.i w), (7, .own 0), (8, V.i i)] [vLn m h] [] false [] 0)
def liveBi : Ex → List Nat | .normal => [0, 1, 7, 8, 9] | _ => [0, 1, 7, 8]
noncomputable abbrev bodyBi : Code := loopAt Tryd.f20 pBi
noncomputable abbrev treeBi (s : St) : T (Ex × St × Bool) := ltree Tryd.prog [] [] pBi bodyBi 49 1 liveBi (poM [(1, 0)]) s
def SBo (n : Nat) (g : Nat → Nat → Q) (w : Int) (m : Nat) (h : Nat → Nat → Q) (i : Int) : St := mkS 49 [(0, lWd n g), (1, V.i w), (7, .own 0), (8, V.i i)] [vLn m h] [] false [] 0
def liveBo : Ex → List Nat | .normal => [0, 1, 7, 8] | _ => [7]
noncomputable abbrev bodyBo : Code := loopAt Tryd.f20 pBo
abbrev ΓBr : Gam := [(39, rnext.s)]
theorem ΓBr.ok : GOK Tryd.prog ΓBr := .cons rnext.ok (GOK.nil _)
noncomputable abbrev orBi (n : Nat) (g : Nat → Nat → Q) (w : Int) (m : Nat) (h : Nat → Nat → Q) (i k : Int) (m' : Nat) (h' : Nat → Nat → Q) : Lam := [(pBi, orc false 49 1 [0, 1, 7, 8, 9] (SBi n g w m h i k) (.leaf (FBi n g w m' h' i)))]
noncomputable abbrev treeBo (Λ : Lam) (s : St) : T (Ex × St × Bool) := ltree Tryd.prog ΓBr Λ pBo bodyBo 49 1 liveBo (poM [(2, 0)]) s
theorem stepBi (n : Nat) (g : Nat → Nat → Q) (w : Int) (m : Nat) (h : Nat → Nat → Q) (i : Nat) (k : Int) : treeBi (SBi n g w m h i k) =
    .ite (inI i n) (.ite (decide (k < (gWd g i).h)) (.ite (roomB m 1 24) (.leaf (.normal, SBi n g w (m + 1) (catG m h (rows [lnQ ⟨i, i, 0⟩])) i (w64 (k + 1)), true)) .bad) (.leaf ((FBi n g w m h i).1, (FBi n g w m h i).2, true))) .bad := by kernel_rfl
/-- Lines of nothing. -/
abbrev nils (i : Nat) (c : Nat) : List Ln := List.replicate c ⟨i, i, 0⟩
theorem loopBi (n : Nat) (g : Nat → Nat → Q) (w : Int) (i : Nat) (hi : i < n) (l : List Ln) (k : Int) (hk : 0 ≤ k) (hh : (gWd g i).h ≤ 1000000) (hl : l.length + ((gWd g i).h - k).toNat ≤ 1000000) :
    ∀ x, (T.leaf (FBi n g w (l ++ nils i ((gWd g i).h - k).toNat).length (gOf lnQ (l ++ nils i ((gWd g i).h - k).toNat)) i)).pick = some x → SemC Tryd.prog (.loop bodyBi) (SBi n g w l.length (gOf lnQ l) i k) x := by
  refine loop_treeP (GOK.nil _) (root := cod Tryd.f20) (p := pBi) (by kernel_rfl) (ι := List Ln × Int) (fun y => 0 ≤ y.2 ∧ y.1.length + ((gWd g i).h - y.2).toNat ≤ 1000000 ∧ y.1 ++ nils i ((gWd g i).h - y.2).toNat = l ++ nils i ((gWd g i).h - k).toNat)
    (fun y => SBi n g w y.1.length (gOf lnQ y.1) i y.2) (fun y => ((gWd g i).h - y.2).toNat) _ 49 1 liveBi (fun _ => []) (poM [(1, 0)]) (poM_ok _) (fun y hy => ?_) (l, k) ⟨hk, hl, rfl⟩
  obtain ⟨l', k'⟩ := y
  obtain ⟨h1, h2, h3⟩ := hy
  replace h1 : 0 ≤ k' := h1
  replace h2 : l'.length + ((gWd g i).h - k').toNat ≤ 1000000 := h2
  replace h3 : l' ++ nils i ((gWd g i).h - k').toNat = l ++ nils i ((gWd g i).h - k).toNat := h3
  have e := stepBi n g w l'.length (gOf lnQ l') i k'
  rw [c_inI hi] at e
  by_cases hlt : k' < (gWd g i).h
  · obtain ⟨c, hc⟩ : ∃ c, ((gWd g i).h - k').toNat = c + 1 := ⟨((gWd g i).h - k').toNat - 1, by omega⟩
    have hc' : ((gWd g i).h - (k' + 1)).toNat = c := by omega
    have hr : roomB l'.length 1 24 = true := by simp [roomB]; omega
    have hw : w64 (k' + 1) = k' + 1 := w64_id (by omega) (by omega)
    rw [decide_eq_true hlt, hr, hw, catG_of lnQ l'] at e
    refine ⟨[], .normal, _, LamOK.nil _ _, (congrArg T.pick e).trans rfl, .inl ⟨rfl, (l' ++ [⟨i, i, 0⟩], k' + 1), ⟨show 0 ≤ k' + 1 by omega, ?_, ?_⟩, show ((gWd g i).h - (k' + 1)).toNat < ((gWd g i).h - k').toNat by omega, ?_⟩⟩
    · show (l' ++ [(⟨i, i, 0⟩ : Ln)]).length + ((gWd g i).h - (k' + 1)).toNat ≤ 1000000
      rw [List.length_append, show [(⟨i, i, 0⟩ : Ln)].length = 1 from rfl]; omega
    · show (l' ++ [(⟨i, i, 0⟩ : Ln)]) ++ nils i ((gWd g i).h - (k' + 1)).toNat = _
      rw [hc', ← h3, hc, List.append_assoc]
      rfl
    · show _ = SBi n g w (l' ++ [(⟨i, i, 0⟩ : Ln)]).length _ i (k' + 1)
      rw [List.length_append]; rfl
  · have hc : ((gWd g i).h - k').toNat = 0 := by omega
    rw [hc] at h3
    have h3' : l' = l ++ nils i ((gWd g i).h - k).toNat := by rw [← h3]; simp
    rw [decide_eq_false hlt] at e
    exact ⟨[], .exit 2, _, LamOK.nil _ _, (congrArg T.pick e).trans rfl, .inr ⟨by simp [FBi], by rw [h3']; rfl⟩⟩

abbrev tailBo (n : Nat) (g : Nat → Nat → Q) (w : Int) (i : Nat) (m : Nat) (h : Nat → Nat → Q) : T (Ex × St × Bool) :=
  .ite (inI i n) (.ite (roomB m 1 24) (.leaf (.normal, SBo n g w (m + 1) (catG m h (rows [lnQ (nextL n g w i)])) (nextL n g w i).z, true)) .bad) .bad
theorem stepBo (n : Nat) (g : Nat → Nat → Q) (w : Int) (m : Nat) (h : Nat → Nat → Q) (i : Nat) (k : Int) (m' : Nat) (h' : Nat → Nat → Q) : treeBo (orBi n g w m h i k m' h') (SBo n g w m h i) =
    .ite (decide ((i : Int) < n)) (.ite (decide ((i : Int) > 0))
      (.ite (@decide (SBi n g w m h i 1 = SBi n g w m h i k) (Classical.propDecidable _)) (.ite (inI i n) (.ite (roomB m' 1 24) (.leaf (.normal, SBo n g w (m' + 1) (catG m' h' (rows [lnQ (nextL n g w i)])) (nextL n g w i).z, true)) .bad) .bad) .bad)
      (.ite (@decide (SBi n g w m h i 0 = SBi n g w m h i k) (Classical.propDecidable _)) (.ite (inI i n) (.ite (roomB m' 1 24) (.leaf (.normal, SBo n g w (m' + 1) (catG m' h' (rows [lnQ (nextL n g w i)])) (nextL n g w i).z, true)) .bad) .bad) .bad))
      (.leaf (.exit 0, mkS 49 [(7, .own 0)] [vLn m h] [] false [] 0, true)) := by kernel_rfl
theorem endBo (n : Nat) (g : Nat → Nat → Q) (w : Int) (m : Nat) (h : Nat → Nat → Q) (i : Nat) (hi : n ≤ i) : (treeBo [] (SBo n g w m h i)).pick = some (.exit 0, mkS 49 [(7, .own 0)] [vLn m h] [] false [] 0, true) :=
  T.pick_at [false] [decide ((i : Int) < n)] (by kernel_rfl) (by rw [c_ge hi]) (by kernel_rfl)
/-- How many lines of nothing are ahead of a word. -/
abbrev kBo (i : Nat) : Int := bif decide ((i : Int) > 0) then 1 else 0
abbrev emptyN (g : Nat → Nat → Q) (i : Nat) : Nat := ((gWd g i).h - kBo i).toNat
abbrev nextZ (n : Nat) (g : Nat → Nat → Q) (w : Int) (i : Nat) : Nat := (tkF g w (n - (i + 1)) (i + 1) (gWd g i).w).1
/-- The lines from a word on. -/
def linesF (n : Nat) (g : Nat → Nat → Q) (w : Int) : Nat → Nat → List Ln
  | 0, _ => []
  | f + 1, i => if i < n then nils i (emptyN g i) ++ nextL n g w i :: linesF n g w f (nextZ n g w i) else []
abbrev breakL (n : Nat) (g : Nat → Nat → Q) (w : Int) : List Ln := linesF n g w n 0
theorem nextZ_gt (n : Nat) (g : Nat → Nat → Q) (w : Int) (i : Nat) : i < nextZ n g w i := tkF_ge g w (n - (i + 1)) (i + 1) _
theorem nextZ_le {n : Nat} {g : Nat → Nat → Q} {w : Int} {i : Nat} (hi : i < n) : nextZ n g w i ≤ n := by
  have := tkF_le g w (n - (i + 1)) (i + 1) (gWd g i).w
  show (tkF g w (n - (i + 1)) (i + 1) (gWd g i).w).1 ≤ n
  omega
theorem linesF_end (n : Nat) (g : Nat → Nat → Q) (w : Int) {f i : Nat} (h : n ≤ i) : linesF n g w f i = [] := by
  cases f with
  | zero => rfl
  | succ f => rw [linesF, if_neg (by omega)]
/-- Words that are not too many, none of them behind too many line ends. -/
def fewH (n : Nat) (g : Nat → Nat → Q) : Prop := n ≤ 500 ∧ ∀ i, i < n → (gWd g i).h ≤ 400
theorem loopBo (n : Nat) (g : Nat → Nat → Q) (w : Int) (hf : fewH n g) : ∀ x, (T.leaf (Ex.exit 0, mkS 49 [(7, .own 0)] [vLn (breakL n g w).length (gOf lnQ (breakL n g w))] [] false [] 0)).pick = some x → SemC Tryd.prog (.loop bodyBo) (SBo n g w ([] : List Ln).length (gOf lnQ ([] : List Ln)) (0 : Nat)) x := by
  refine loop_treeP ΓBr.ok (root := cod Tryd.f20) (p := pBo) (by kernel_rfl) (ι := List Ln × Nat × Nat) (fun y => y.2.1 ≤ n ∧ n ≤ y.2.2 + y.2.1 ∧ y.1.length ≤ 401 * y.2.1 ∧ y.1 ++ linesF n g w y.2.2 y.2.1 = breakL n g w)
    (fun y => SBo n g w y.1.length (gOf lnQ y.1) y.2.1) (fun y => n - y.2.1) _ 49 1 liveBo (fun _ => []) (poM [(2, 0)]) (poM_ok _) (fun y hy => ?_) ([], 0, n) ⟨Nat.zero_le _, by simp, Nat.zero_le _, rfl⟩
  obtain ⟨l, i, f⟩ := y
  obtain ⟨h1, h2, h3, h4⟩ := hy
  replace h1 : i ≤ n := h1
  replace h2 : n ≤ f + i := h2
  replace h3 : l.length ≤ 401 * i := h3
  replace h4 : l ++ linesF n g w f i = breakL n g w := h4
  rcases Nat.lt_or_ge i n with hlt | hge
  · obtain ⟨f, rfl⟩ : ∃ f', f = f' + 1 := ⟨f - 1, by omega⟩
    rw [linesF, if_pos hlt] at h4
    have hh := hf.2 i hlt
    have hn := hf.1
    have hk0 : 0 ≤ kBo i := by unfold kBo; cases decide ((i : Int) > 0) <;> simp
    have hc : emptyN g i ≤ 400 := by show ((gWd g i).h - kBo i).toNat ≤ 400; omega
    have hz1 := nextZ_gt n g w i
    have hz2 := nextZ_le (g := g) (w := w) hlt
    have hlen : (l ++ nils i (emptyN g i)).length = l.length + emptyN g i := by rw [List.length_append, List.length_replicate]
    have e := stepBo n g w l.length (gOf lnQ l) i (kBo i) (l ++ nils i (emptyN g i)).length (gOf lnQ (l ++ nils i (emptyN g i)))
    have hr : roomB (l ++ nils i (emptyN g i)).length 1 24 = true := by rw [hlen]; simp [roomB]; omega
    rw [c_lt hlt, c_inI hlt, hr, catG_of lnQ] at e
    refine ⟨_, .normal, _, LamOK.orc (c := .loop bodyBi) (by kernel_rfl) (loopBi n g w i hlt l (kBo i) hk0 (by omega) (by show l.length + emptyN g i ≤ 1000000; omega)) (LamOK.nil _ _), (congrArg T.pick e).trans ?_, .inl ⟨rfl, (l ++ nils i (emptyN g i) ++ [nextL n g w i], nextZ n g w i, f), ⟨hz2, show n ≤ f + nextZ n g w i by omega, ?_, ?_⟩, show n - nextZ n g w i < n - i by omega, rfl⟩⟩
    · have hlast : ∀ m, SBo n g w ((l ++ nils i (emptyN g i)).length + 1) m (nextL n g w i).z = SBo n g w (l ++ nils i (emptyN g i) ++ [nextL n g w i]).length m (nextZ n g w i : Nat) := fun m => by
        rw [show (l ++ nils i (emptyN g i) ++ [nextL n g w i]).length = (l ++ nils i (emptyN g i)).length + 1 from List.length_append]; rfl
      simp only [pick_ite, cond_true]
      cases hd : decide ((i : Int) > 0) with
      | true =>
        rw [show kBo i = 1 by unfold kBo; rw [hd]; rfl]
        simp only [cond_true, decide_true]
        rw [← hlast]; rfl
      | false =>
        rw [show kBo i = 0 by unfold kBo; rw [hd]; rfl]
        simp only [cond_false, cond_true, decide_true]
        rw [← hlast]; rfl
    · show (l ++ nils i (emptyN g i) ++ [nextL n g w i]).length ≤ 401 * nextZ n g w i
      rw [List.length_append, hlen, show [nextL n g w i].length = 1 from rfl]
      have : 401 * (i + 1) ≤ 401 * nextZ n g w i := Nat.mul_le_mul_left _ hz1
      omega
    · show l ++ nils i (emptyN g i) ++ [nextL n g w i] ++ linesF n g w f (nextZ n g w i) = _
      rw [← h4]; simp
  · rw [linesF_end n g w hge, List.append_nil] at h4
    refine ⟨[], .exit 0, _, LamOK.nil _ _, endBo n g w l.length (gOf lnQ l) i hge, .inr ⟨by simp, by rw [← h4]; rfl⟩⟩
theorem good_h {x : Wd} (h : badR x = false) : x.h ≤ 400 ∧ 0 ≤ x.h := by
  unfold badR at h
  cases h1 : x.t.toList == (ByteArray.mk #[]).toList <;> rw [h1] at h <;> simp only [cond_true, cond_false] at h
  · cases h2 : decide ((x.t.size : Int) > 400) <;> rw [h2] at h <;> simp only [cond_true, cond_false] at h
    · cases h3 : x.w != wsum x.t x.t.size <;> rw [h3] at h <;> simp only [cond_true, cond_false] at h
      · have h6 : ∀ b : Bool, (bif decide (x.h < 0) then true else decide (x.h > 400)) = false → x.h ≤ 400 ∧ 0 ≤ x.h := fun _ h => by
          rw [cond_or] at h
          have := of_decide_eq_false h
          omega
        cases h4 : x.s != 0 <;> rw [h4] at h <;> simp only [cond_true, cond_false] at h
        · exact h6 true h
        · cases h5 : x.s != 256 <;> rw [h5] at h <;> simp only [cond_true, cond_false] at h
          · exact h6 true h
          · cases h
      · cases h
    · cases h
  · cases h
theorem right_few {n : Nat} {g : Nat → Nat → Q} (h : rightW n g = true) : fewH n g := by
  unfold rightW at h
  cases ha : (allN n fun i => !badW (gWd g i)) with
  | false => rw [ha] at h; cases h
  | true =>
    rw [ha] at h
    refine ⟨by have := of_decide_eq_true (show decide ((n : Int) ≤ 500) = true from h); omega, fun i hi => ?_⟩
    have := allN_at ha hi
    exact (good_h (x := gWd g i) (by rw [badR_eq]; simpa using this)).1
theorem chk_right {n : Nat} {g : Nat → Nat → Q} {w : Int} (h : (chkW n g w != 0) = false) : rightW n g = true ∧ badI w = false := by
  unfold chkW at h
  cases hr : rightW n g with
  | false => rw [hr] at h; simp at h
  | true =>
    rw [hr] at h
    cases hw : badI w with
    | true => rw [hw] at h; simp at h
    | false => exact ⟨rfl, rfl⟩
def rBreak.s : List V → T V
  | [.q (.lst [.str, .int .i64, .int .i64, .int .i64] n g), .q (.c (.int .i64 w))] => .ite (chkW n g w != 0) (.leaf (.tup [emptyL ksLn, V.i (chkW n g w)])) (.leaf (.tup [vOf ksLn lnQ (breakL n g w), V.i 0]))
  | _ => .bad
def rBreak.t : List V → T V
  | [.q (.lst [.str, .int .i64, .int .i64, .int .i64] n g), .q (.c (.int .i64 w))] => .ite (chkW n g w != 0) (.leaf (.tup [.q (.c (.slice none 0 0)), V.i (chkW n g w)])) (.leaf (.tup [vOf ksLn lnQ (breakL n g w), V.i 0]))
  | _ => .bad
theorem brk_res {P : Program} {f : Nat} (h : SpecOK P f rBreak.t) : SpecOK P f rBreak.s := by
  refine SpecOK.res h fun args r hb hr => ?_
  unfold rBreak.s at hr
  unfold rBreak.t
  split at hr
  · rename_i n g w
    cases hc : chkW n g w != 0 with
    | true => rw [hc] at hr; cases hr; exact ⟨_, rfl, fun S w v h => den_tnil h⟩
    | false => rw [hc] at hr; cases hr; exact ⟨_, rfl, fun S w v h => h⟩
  · cases hr
abbrev ΓBk : Gam := [(38, checked.s)]
theorem ΓBk.ok : GOK Tryd.prog ΓBk := .cons checked.ok (GOK.nil _)
theorem rBreak.ok : SpecOK Tryd.prog 20 rBreak.s := by
  refine brk_res ?_
  refine okF ΓBk.ok Tryd.func20 (by kernel_rfl) (by kernel_rfl) fun args r hb hr => ?_
  unfold rBreak.t at hr
  split at hr
  · rename_i n g w
    cases hc : chkW n g w != 0 with
    | true =>
      rw [hc] at hr
      have e : T.pathL (funV Tryd.prog ΓBk [] Tryd.f20 (cod Tryd.f20) [lWd n g, V.i w]) [true] = .leaf (V.tup [.q (.c (.slice none 0 0)), V.i (chkW n g w)]) := by kernel_rfl
      have e0 : T.pathC (funV Tryd.prog ΓBk [] Tryd.f20 (cod Tryd.f20) [lWd n g, V.i w]) [true] = [chkW n g w != 0] := by kernel_rfl
      exact ⟨[], LamOK.nil _ _, (T.pick_at [true] _ e0 (by rw [hc]) e).trans hr⟩
    | false =>
      rw [hc] at hr
      refine ⟨_, LamOK.orcP (pre := nilV 7 0 30 ksLn) (fun s => sub_nilV _ _ _ _ s) (p := pBo) (mk := false) (nn := 49) (k := 1) (live := [0, 1, 7, 8]) (c := .loop bodyBo) (by kernel_rfl) (loopBo n g w (right_few (chk_right hc).1)) (LamOK.nil _ _), ?_⟩
      have e : ∀ m h, funV Tryd.prog ΓBk [(pBo, orcP (nilV 7 0 30 ksLn) false 49 1 [0, 1, 7, 8] (SBo n g w ([] : List Ln).length (gOf lnQ ([] : List Ln)) (0 : Nat)) (.leaf (Ex.exit 0, mkS 49 [(7, .own 0)] [vLn m h] [] false [] 0)))] Tryd.f20 (cod Tryd.f20) [lWd n g, V.i w] =
          .ite (chkW n g w != 0) (.leaf (.tup [.q (.c (.slice none 0 0)), V.i (chkW n g w)])) (.ite (@decide (SBo n g w ([] : List Ln).length (gOf lnQ ([] : List Ln)) (0 : Nat) = SBo n g w ([] : List Ln).length (gOf lnQ ([] : List Ln)) (0 : Nat)) (Classical.propDecidable _)) (.leaf (.tup [lLn m h, V.i 0])) .bad) := fun m h => by kernel_rfl
      rw [e, ← hr, hc]
      exact pick_same _ _
  · cases hr
end Go.Proofs.YthohngmafdagoaaDoor

/- Lines, one by one: those that lines goes through. -/
namespace Go.Proofs.YthohngmafdagoaaDoor
open Go Go.SX Go.Proofs
set_option maxRecDepth 100000

set_option linter.unusedVariables false
set_option linter.unusedSectionVars false
set_option linter.unusedSimpArgs false

abbrev Go := List (List V) → Bool
abbrev Ad := List (List V) → List V → Bool
abbrev sp1B (n : Nat) (g : Nat → Nat → Q) (w : Int) : V := .q (.sp 1 fun j => [brG n g w].getD j default)
abbrev ylO (go : Go) (adm : Ad) : List (Option Ob) := [some (.yl go adm)]
abbrev pLi : List Nat := [0, 1, 0, 0, 1, 0, 0, 1, 1, 0]
abbrev pLo : List Nat := [0, 1, 1, 0]
def SLi (go : Go) (adm : Ad) (n : Nat) (g : Nat → Nat → Q) (w : Int) (ys : List (List V)) (i c j : Int) : St := mkS 32 [(0, .yld 0), (1, sp1B n g w), (3, V.i i), (13, V.i c), (14, V.i j)] (ylO go adm) [] false ys 0
def SLo (go : Go) (adm : Ad) (n : Nat) (g : Nat → Nat → Q) (w : Int) (ys : List (List V)) (i : Int) : St := mkS 32 [(0, .yld 0), (1, sp1B n g w), (3, V.i i)] (ylO go adm) [] false ys 0
def FLi (go : Go) (adm : Ad) (ys : List (List V)) : St := mkS 32 [] (ylO go adm) [] false ys 0
def liveLi : Ex → List Nat | .normal => [0, 1, 3, 13, 14] | .exit 2 => [0, 1, 3] | _ => []
def liveLo : Ex → List Nat | .normal => [0, 1, 3] | _ => []
noncomputable abbrev bodyLi : Code := loopAt Tryd.f44 pLi
noncomputable abbrev bodyLo : Code := loopAt Tryd.f44 pLo
noncomputable abbrev treeLi (s : St) : T (Ex × St × Bool) := ltree Tryd.prog [] [] pLi bodyLi 32 1 liveLi poN s
abbrev ΓLs : Gam := [(40, has.s), (45, empty.s), (41, next.s)]
theorem ΓLs.ok : GOK Tryd.prog ΓLs := .cons has.ok (.cons empty.ok (.cons next.ok (GOK.nil _)))
noncomputable abbrev orLi (go : Go) (adm : Ad) (n : Nat) (g : Nat → Nat → Q) (w : Int) (ys : List (List V)) (i c : Int) (b : Bool) (ys' ysK : List (List V)) : Lam :=
  [(pLi, orc false 32 1 [0, 1, 3, 13, 14] (SLi go adm n g w ys i c (0 : Nat)) (.ite b (.leaf (.exit 2, SLo go adm n g w ys' i)) (.leaf (.exit 0, FLi go adm ysK))))]
noncomputable abbrev treeLo (Λ : Lam) (s : St) : T (Ex × St × Bool) := ltree Tryd.prog ΓLs Λ pLo bodyLo 32 1 liveLo poN s
abbrev xl (x : Ln) : List V := [lnV x]
theorem stepLi (go : Go) (adm : Ad) (n : Nat) (g : Nat → Nat → Q) (w : Int) (ys : List (List V)) (i c : Int) (j : Nat) : treeLi (SLi go adm n g w ys i c j) =
    .ite (decide ((j : Int) < c)) (.ite (adm ys (xl ⟨i, i, 0⟩)) (.ite (!(go (ys ++ [xl ⟨i, i, 0⟩]))) (.leaf (.exit 0, FLi go adm (ys ++ [xl ⟨i, i, 0⟩]), true)) (.leaf (.normal, SLi go adm n g w (ys ++ [xl ⟨i, i, 0⟩]) i c (w64 (j + 1)), true))) .bad) (.leaf (.exit 2, SLo go adm n g w ys i, true)) := by kernel_rfl
theorem stepLo (go : Go) (adm : Ad) (n : Nat) (g : Nat → Nat → Q) (w : Int) (ys : List (List V)) (i : Nat) (b : Bool) (ys' ysK : List (List V)) : treeLo (orLi go adm n g w ys i (emptyI g i) b ys' ysK) (SLo go adm n g w ys i) =
    .ite (decide ((i : Int) < n)) (.ite (inI i n) (.ite (@decide (SLi go adm n g w ys i (emptyI g i) (0 : Nat) = SLi go adm n g w ys i (emptyI g i) (0 : Nat)) (Classical.propDecidable _)) (.ite b
      (.ite (inI i n) (.ite (adm ys' (xl (nextL n g w i))) (.ite (!(go (ys' ++ [xl (nextL n g w i)]))) (.leaf (.exit 0, FLi go adm (ys' ++ [xl (nextL n g w i)]), true)) (.leaf (.normal, SLo go adm n g w (ys' ++ [xl (nextL n g w i)]) (nextL n g w i).z, true))) .bad) .bad)
      (.leaf (.exit 0, FLi go adm ysK, true))) .bad) .bad) (.leaf (.exit 0, FLi go adm ys, true)) := by kernel_rfl
theorem endLo (go : Go) (adm : Ad) (n : Nat) (g : Nat → Nat → Q) (w : Int) (ys : List (List V)) (i : Nat) (hi : n ≤ i) : (treeLo [] (SLo go adm n g w ys i)).pick = some (.exit 0, FLi go adm ys, true) :=
  T.pick_at [false] [decide ((i : Int) < n)] (by kernel_rfl) (by rw [c_ge hi]) (by kernel_rfl)
/-- What is yielded. -/
abbrev xLn (L : List Ln) (k : Nat) : List V := xl (L.getD k ⟨0, 0, 0⟩)
theorem xLn_at {L pre suf : List Ln} {x : Ln} (h : L = pre ++ x :: suf) : xLn L pre.length = xl x := by
  subst h
  simp [xLn, List.getD_eq_getElem?_getD]
theorem xLn_lt {L pre suf : List Ln} {x : Ln} (h : L = pre ++ x :: suf) : pre.length < L.length := by
  subst h
  simp
/-- None of the first m has told it to stop. -/
abbrev okM (go : Go) (x : Nat → List V) (m : Nat) : Prop := ∀ j, j < m → go (hist x (j + 1)) = true
theorem okM_suc {go : Go} {x : Nat → List V} {m : Nat} (h : okM go x m) (h1 : go (hist x (m + 1)) = true) : okM go x (m + 1) := fun j hj => by
  rcases Nat.lt_or_ge j m with h2 | h2
  · exact h j h2
  · rw [show j = m by omega]; exact h1
theorem loopLi (go : Go) (adm : Ad) (n : Nat) (g : Nat → Nat → Q) (w : Int) (L pre suf : List Ln) (i : Nat) (c : Int) (hL : L = pre ++ (nils i c.toNat ++ suf)) (hc : c ≤ 1000000) (hadm : Admits go adm L.length (xLn L)) (K : Nat) (hK : Stops go (xLn L) L.length K)
    (hm : okM go (xLn L) pre.length) (b : Bool) (hb : b = true ↔ okM go (xLn L) (pre.length + c.toNat)) :
    ∀ x, (T.ite b (.leaf (Ex.exit 2, SLo go adm n g w (hist (xLn L) (pre.length + c.toNat)) i)) (.leaf (.exit 0, FLi go adm (hist (xLn L) K)))).pick = some x → SemC Tryd.prog (.loop bodyLi) (SLi go adm n g w (hist (xLn L) pre.length) i c (0 : Nat)) x := by
  refine loop_nat (GOK.nil _) (root := cod Tryd.f44) (p := pLi) (by kernel_rfl) c.toNat (fun j => okM go (xLn L) (pre.length + j)) (fun j => SLi go adm n g w (hist (xLn L) (pre.length + j)) i c j) _ 32 1 liveLi poN poN_ok (fun j hj hok => ?_) hm
  have e := stepLi go adm n g w (hist (xLn L) (pre.length + j)) i c j
  rcases Nat.lt_or_ge j c.toNat with hlt | hge
  · have hL' : L = (pre ++ nils i j) ++ (⟨i, i, 0⟩ : Ln) :: (nils i (c.toNat - j - 1) ++ suf) := by
      have hr : nils i c.toNat = nils i j ++ (⟨i, i, 0⟩ : Ln) :: nils i (c.toNat - j - 1) := by
        rw [← List.replicate_succ, List.replicate_append_replicate]
        congr 1
        omega
      rw [hL, hr]
      simp
    have hlen : (pre ++ nils i j).length = pre.length + j := by simp
    have hx := xLn_at hL'
    have hl := xLn_lt hL'
    rw [hlen] at hx hl
    have hc1 : decide ((j : Int) < c) = true := decide_eq_true (by omega)
    have ha : adm (hist (xLn L) (pre.length + j)) (xl ⟨i, i, 0⟩) = true := by rw [← hx]; exact hadm _ hl hok
    have hs : hist (xLn L) (pre.length + j) ++ [xl ⟨i, i, 0⟩] = hist (xLn L) (pre.length + (j + 1)) := by rw [← hx, ← hist_succ]; rfl
    have hw : w64 ((j : Int) + 1) = ((j + 1 : Nat) : Int) := w64_suc (show j < 1000001 by omega) (by omega)
    rw [hc1, ha, hs, hw] at e
    cases hg : go (hist (xLn L) (pre.length + (j + 1))) with
    | true => exact ⟨[], .normal, _, LamOK.nil _ _, (congrArg T.pick e).trans (by rw [hg]; rfl), .inl ⟨rfl, hlt, okM_suc hok hg, rfl⟩⟩
    | false =>
      have hk := stops_at hK hl hok hg
      have hbf : b = false := by
        cases hbb : b with
        | false => rfl
        | true =>
          have := (hb.1 hbb) (pre.length + j) (by omega)
          rw [show pre.length + j + 1 = pre.length + (j + 1) by omega, hg] at this
          cases this
      refine ⟨[], .exit 0, _, LamOK.nil _ _, (congrArg T.pick e).trans (by rw [hg]; rfl), .inr ⟨by simp, ?_⟩⟩
      rw [hbf, hk]; rfl
  · have h : j = c.toNat := by omega
    subst h
    have hc1 : decide (((c.toNat : Nat) : Int) < c) = false := decide_eq_false (by omega)
    rw [hc1] at e
    exact ⟨[], .exit 2, _, LamOK.nil _ _, (congrArg T.pick e).trans rfl, .inr ⟨by simp, by rw [hb.2 hok]; rfl⟩⟩
def okH (n : Nat) (g : Nat → Nat → Q) : Prop := n ≤ 500 ∧ ∀ i, i < n → (gWd g i).h ≤ 400 ∧ 0 ≤ (gWd g i).h
theorem emptyI_eq {n : Nat} {g : Nat → Nat → Q} (h : okH n g) {i : Nat} (hi : i < n) : (emptyI g i).toNat = emptyN g i ∧ emptyI g i ≤ 400 := by
  have := h.2 i hi
  unfold emptyI emptyN kBo
  have hw : w64 ((gWd g i).h - 1) = (gWd g i).h - 1 := w64_id (by omega) (by omega)
  cases decide ((i : Int) > 0)
  · exact ⟨by show ((gWd g i).h).toNat = ((gWd g i).h - 0).toNat; rw [Int.sub_zero], this.1⟩
  · exact ⟨by show (w64 ((gWd g i).h - 1)).toNat = ((gWd g i).h - 1).toNat; rw [hw], by show w64 ((gWd g i).h - 1) ≤ 400; rw [hw]; omega⟩
theorem loopLo (go : Go) (adm : Ad) (n : Nat) (g : Nat → Nat → Q) (w : Int) (hH : okH n g) (hadm : Admits go adm (breakL n g w).length (xLn (breakL n g w))) (K : Nat) (hK : Stops go (xLn (breakL n g w)) (breakL n g w).length K) :
    ∀ x, (T.leaf (Ex.exit 0, FLi go adm (hist (xLn (breakL n g w)) K))).pick = some x → SemC Tryd.prog (.loop bodyLo) (SLo go adm n g w [] (0 : Nat)) x := by
  refine loop_treeP ΓLs.ok (root := cod Tryd.f44) (p := pLo) (by kernel_rfl) (ι := List Ln × Nat × Nat) (fun y => y.2.1 ≤ n ∧ n ≤ y.2.2 + y.2.1 ∧ breakL n g w = y.1 ++ linesF n g w y.2.2 y.2.1 ∧ okM go (xLn (breakL n g w)) y.1.length)
    (fun y => SLo go adm n g w (hist (xLn (breakL n g w)) y.1.length) y.2.1) (fun y => n - y.2.1) _ 32 1 liveLo (fun _ => []) poN poN_ok (fun y hy => ?_) ([], 0, n) ⟨Nat.zero_le _, by simp, rfl, fun j hj => absurd hj (by simp)⟩
  obtain ⟨pre, i, f⟩ := y
  obtain ⟨h1, h2, h3, h4⟩ := hy
  replace h1 : i ≤ n := h1
  replace h2 : n ≤ f + i := h2
  replace h3 : breakL n g w = pre ++ linesF n g w f i := h3
  replace h4 : okM go (xLn (breakL n g w)) pre.length := h4
  rcases Nat.lt_or_ge i n with hlt | hge
  · obtain ⟨f, rfl⟩ : ∃ f', f = f' + 1 := ⟨f - 1, by omega⟩
    rw [linesF, if_pos hlt] at h3
    obtain ⟨he1, he2⟩ := emptyI_eq hH hlt
    have hz1 := nextZ_gt n g w i
    have hz2 := nextZ_le (g := g) (w := w) hlt
    rw [← he1] at h3
    have hin := loopLi go adm n g w (breakL n g w) pre (nextL n g w i :: linesF n g w f (nextZ n g w i)) i (emptyI g i) h3 (by omega) hadm K hK h4 (@decide (okM go (xLn (breakL n g w)) (pre.length + (emptyI g i).toNat)) (Classical.propDecidable _)) (by simp)
    have e := stepLo go adm n g w (hist (xLn (breakL n g w)) pre.length) i (@decide (okM go (xLn (breakL n g w)) (pre.length + (emptyI g i).toNat)) (Classical.propDecidable _)) (hist (xLn (breakL n g w)) (pre.length + (emptyI g i).toNat)) (hist (xLn (breakL n g w)) K)
    rw [c_lt hlt, c_inI hlt] at e
    have hΛ := LamOK.orc (P := Tryd.prog) (root := cod Tryd.f44) (p := pLi) (mk := false) (nn := 32) (k := 1) (live := [0, 1, 3, 13, 14]) (c := .loop bodyLi) (by kernel_rfl) hin (LamOK.nil _ _)
    by_cases hok : okM go (xLn (breakL n g w)) (pre.length + (emptyI g i).toNat)
    · have hL' : breakL n g w = (pre ++ nils i (emptyI g i).toNat) ++ nextL n g w i :: linesF n g w f (nextZ n g w i) := by rw [h3, List.append_assoc]
      have hlen : (pre ++ nils i (emptyI g i).toNat).length = pre.length + (emptyI g i).toNat := by simp
      have hx := xLn_at hL'
      have hl := xLn_lt hL'
      rw [hlen] at hx hl
      have ha : adm (hist (xLn (breakL n g w)) (pre.length + (emptyI g i).toNat)) (xl (nextL n g w i)) = true := by rw [← hx]; exact hadm _ hl hok
      have hs : hist (xLn (breakL n g w)) (pre.length + (emptyI g i).toNat) ++ [xl (nextL n g w i)] = hist (xLn (breakL n g w)) (pre.length + (emptyI g i).toNat + 1) := by rw [← hx, ← hist_succ]
      rw [@decide_eq_true _ (Classical.propDecidable _) hok, ha, hs] at e
      rw [@decide_eq_true _ (Classical.propDecidable _) hok] at hΛ
      cases hg : go (hist (xLn (breakL n g w)) (pre.length + (emptyI g i).toNat + 1)) with
      | true =>
        refine ⟨_, .normal, _, hΛ, (congrArg T.pick e).trans (by rw [hg]; simp only [pick_ite, cond_true, decide_true, Bool.not_true, cond_false, pick_leaf]; rfl), .inl ⟨rfl, (pre ++ nils i (emptyI g i).toNat ++ [nextL n g w i], nextZ n g w i, f), ⟨hz2, show n ≤ f + nextZ n g w i by omega, ?_, ?_⟩, show n - nextZ n g w i < n - i by omega, ?_⟩⟩
        · show breakL n g w = _
          rw [hL']; simp
        · show okM go _ (pre ++ nils i (emptyI g i).toNat ++ [nextL n g w i]).length
          rw [List.length_append, hlen]
          exact okM_suc hok hg
        · show _ = SLo go adm n g w (hist _ (pre ++ nils i (emptyI g i).toNat ++ [nextL n g w i]).length) (nextZ n g w i : Nat)
          rw [List.length_append, hlen]; rfl
      | false =>
        have hk := stops_at hK hl hok hg
        exact ⟨_, .exit 0, _, hΛ, (congrArg T.pick e).trans (by rw [hg]; simp only [pick_ite, cond_true, decide_true, Bool.not_false, pick_leaf]; rfl), .inr ⟨by simp, by rw [hk]; rfl⟩⟩
    · rw [@decide_eq_false _ (Classical.propDecidable _) hok] at e hΛ
      exact ⟨_, .exit 0, _, hΛ, (congrArg T.pick e).trans (by simp only [pick_ite, cond_true, decide_true, cond_false, pick_leaf]), .inr ⟨by simp, rfl⟩⟩
  · rw [linesF_end n g w hge, List.append_nil] at h3
    have hk : K = (breakL n g w).length := stops_end hK (by rw [h3] at h4 ⊢; exact h4)
    refine ⟨[], .exit 0, _, LamOK.nil _ _, endLo go adm n g w _ i hge, .inr ⟨by simp, ?_⟩⟩
    rw [hk]
    show some (Ex.exit 0, FLi go adm (hist _ (breakL n g w).length)) = some (Ex.exit 0, FLi go adm (hist _ pre.length))
    rw [show (breakL n g w).length = pre.length from congrArg List.length h3]
/-- What lines goes through. -/
noncomputable def linesI.s : List V → T (Nat × (Nat → List V))
  | [.q (.sp 1 a)] => match a 0 with
    | .sp 2 get => match get 0, get 1 with
      | .lst [.str, .int .i64, .int .i64, .int .i64] n g, .c (.int .i64 w) => .ite (@decide (okH n g) (Classical.propDecidable _)) (.leaf ((breakL n g w).length, xLn (breakL n g w))) .bad
      | _, _ => .bad
    | _ => .bad
  | _ => .bad
theorem linesI.ok : IterOK Tryd.prog 44 linesI.s := by
  refine iterOK_of_body (Γ := ΓLs) ΓLs.ok Tryd.func44 (isBody _ (by kernel_rfl)) (by kernel_rfl) fun caps N x go adm hb he hadm => ?_
  unfold linesI.s at he
  split at he
  · rename_i a
    split at he
    · rename_i get ha
      split at he
      · rename_i n g w g0 g1
        by_cases hH : okH n g
        · rw [pick_ite, @decide_eq_true _ (Classical.propDecidable _) hH] at he
          cases he
          obtain ⟨K, hK⟩ := exists_stops go (xLn (breakL n g w)) (breakL n g w).length
          refine ⟨[sp1B n g w], _, K, ?_, LamOK.orc (p := pLo) (mk := false) (nn := 32) (k := 1) (live := [0, 1, 3]) (c := .loop bodyLo) (by kernel_rfl) (loopLo go adm n g w hH hadm K hK) (LamOK.nil _ _), hK, ?_⟩
          · intro S w' vs hd
            cases hd with
            | cons _ v1 _ l1 d1 hd =>
              refine .cons _ _ _ _ (.q _ _ ?_) hd
              obtain ⟨b, off, u, rfl, h1, h2, h3⟩ := d1.q_inv.sp_inv
              refine .sp _ _ b off u h1 h2 fun j hj => ?_
              have : j = 0 := by omega
              subst this
              have h4 := h3 0 hj
              rw [ha] at h4
              exact den_sp (fun j hj => by
                rcases (show j = 0 ∨ j = 1 by omega) with rfl | rfl
                · exact g0
                · exact g1) h4
          · have e : ∀ Y, itV Tryd.prog ΓLs [(pLo, orc false 32 1 [0, 1, 3] (SLo go adm n g w [] (0 : Nat)) (.leaf (Ex.exit 0, FLi go adm Y)))] Tryd.f44 (cod Tryd.f44) [sp1B n g w] go adm =
                .ite (@decide (SLo go adm n g w [] (0 : Nat) = SLo go adm n g w [] (0 : Nat)) (Classical.propDecidable _)) (.leaf Y) .bad := fun Y => by kernel_rfl
            rw [e]; exact pick_same _ _
        · rw [pick_ite, @decide_eq_false _ (Classical.propDecidable _) hH] at he; cases he
      · cases he
    · cases he
  · cases he
def lines.s : List V → T V
  | [.q (.sp 2 get)] => .leaf (.clo 44 [.q (.sp 1 fun j => [Q.sp 2 get].getD j default)])
  | _ => .bad
theorem lines.ok : SpecOK Tryd.prog 33 lines.s := by
  refine okF (GOK.nil _) Tryd.func33 (by kernel_rfl) (by kernel_rfl) fun args r hb hr => ?_
  unfold lines.s at hr
  split at hr
  · rename_i get
    exact ⟨[], LamOK.nil _ _, (congrArg T.pick (show funV Tryd.prog [] [] Tryd.f33 (cod Tryd.f33) [.q (.sp 2 get)] = .leaf (.clo 44 [.q (.sp 1 fun j => [Q.sp 2 get].getD j default)]) by kernel_rfl)).trans hr⟩
  · cases hr
end Go.Proofs.YthohngmafdagoaaDoor

/- Lines, one by one: Break. -/
namespace Go.Proofs.YthohngmafdagoaaDoor
open Go Go.SX Go.Proofs
set_option maxRecDepth 100000

set_option linter.unusedVariables false
set_option linter.unusedSectionVars false
set_option linter.unusedSimpArgs false

abbrev pBk : List Nat := [0, 1, 0, 1, 1, 1, 1]
noncomputable abbrev rfBk : Code × Code := rfAt Tryd.f12 pBk
/-- The cell of the list, and the list: none before the first round. -/
abbrev cOut (x : V) : Option Ob := some (.cells 25 [x])
abbrev loBk (l : List Ln) : Nat → List (Option Ob)
  | 0 => [cOut (.q (.c (.slice none 0 0)))]
  | _ + 1 => [cOut (.own 4), some (.vec 30 ksLn l.length (gOf lnQ l))]
def SBk (n : Nat) (g : Nat → Nat → Q) (w : Int) : St := mkS 28 [(8, .ptr 0 0), (21, .clo 44 [sp1B n g w])] (loBk [] 0) [] false [] 0
abbrev anyBk : List V := List.replicate 28 .any
def postBk : Nat → St → St
  | 0, s => mvL [(5, 4)] s
  | _ + 1, s => mvL [(6, 4)] s
theorem postBk_ok (k : Nat) (s : St) : Sub Tryd.prog s (postBk k s) := by
  cases k with
  | zero => exact sub_mvL _ _
  | succ k => exact sub_mvL _ _
noncomputable abbrev roundBk (n : Nat) (g : Nat → Nat → Q) (w : Int) (k : Nat) (L : List (Option Ob)) (x : Ln) (rec rec' : Loop) : T (Ex × St × Bool) :=
  roundP (postBk k) Tryd.prog [] [] pBk rfBk.1 rfBk.2 [22] (SBk n g w) (some .dfr) 5 L [] (xl x) rec rec'
theorem round0 (n : Nat) (g : Nat → Nat → Q) (w : Int) (x : Ln) (rec rec' : Loop) : roundBk n g w 0 (loBk [] 0) x rec rec' =
    .ite (@decide ((some (some (Ob.raw (.loop rec))) : Option (Option Ob)) = some (some (.raw (.loop rec)))) (Classical.propDecidable _))
      (.ite (roomB 0 1 24) (.leaf (.normal, midS (SBk n g w) (loBk [x] 1) [] (some .dfr) rec' anyBk, true)) .bad) .bad := by kernel_rfl
theorem round1 (n : Nat) (g : Nat → Nat → Q) (w : Int) (k : Nat) (l : List Ln) (x : Ln) (rec rec' : Loop) : roundBk n g w (k + 1) (loBk l (k + 1)) x rec rec' =
    .ite (@decide ((some (some (Ob.raw (.loop rec))) : Option (Option Ob)) = some (some (.raw (.loop rec)))) (Classical.propDecidable _))
      (.ite (roomB l.length 1 24) (.leaf (.normal, midS (SBk n g w) [cOut (.own 4), some (.vec 30 ksLn (l.length + 1) (catG l.length (gOf lnQ l) (rows [lnQ x])))] [] (some .dfr) rec' anyBk, true)) .bad) .bad := by kernel_rfl
theorem take_suc {L : List Ln} {k : Nat} (hk : k < L.length) : L.take (k + 1) = L.take k ++ [L.getD k ⟨0, 0, 0⟩] := by
  rw [List.take_add_one, List.getElem?_eq_getElem hk]
  simp [List.getD_eq_getElem?_getD, hk]
theorem linesF_len (n : Nat) (g : Nat → Nat → Q) (w : Int) (hH : okH n g) : ∀ f i, i ≤ n → (linesF n g w f i).length ≤ 401 * (n - i)
  | 0, i, _ => Nat.zero_le _
  | f + 1, i, hi => by
    rw [linesF]
    split
    · rename_i hlt
      have h1 := nextZ_gt n g w i
      have h2 := nextZ_le (g := g) (w := w) hlt
      have h3 := linesF_len n g w hH f (nextZ n g w i) h2
      have h4 := hH.2 i hlt
      have hk : 0 ≤ kBo i := by unfold kBo; cases decide ((i : Int) > 0) <;> simp
      have h5 : emptyN g i ≤ 400 := by show ((gWd g i).h - kBo i).toNat ≤ 400; omega
      rw [List.length_append, List.length_cons, List.length_replicate]
      have h6 : 401 * (n - nextZ n g w i) + 401 ≤ 401 * (n - i) := by omega
      omega
    · exact Nat.zero_le _
theorem breakL_len {n : Nat} {g : Nat → Nat → Q} (w : Int) (hH : okH n g) : (breakL n g w).length ≤ 1000000 := by
  have h1 := linesF_len n g w hH n 0 (Nat.zero_le _)
  have h2 := hH.1
  show (linesF n g w n 0).length ≤ _
  omega
theorem rangeBk (n : Nat) (g : Nat → Nat → Q) (w : Int) (hH : okH n g) : ∀ x, (T.leaf (Ex.normal, outS (SBk n g w) (loBk (breakL n g w) (breakL n g w).length) [])).pick = some x → SemC Tryd.prog (.rangeFunc (.tmp 21) #[22] rfBk.1 rfBk.2) (SBk n g w) x := by
  intro x hx
  have hlen := breakL_len w hH
  have H : Rounds Tryd.prog [] [] pBk rfBk.1 rfBk.2 (#[22] : Array Nat).toList (SBk n g w) (if (SBk n g w).inr then none else some .dfr) ((SBk n g w).tm.map fun _ => .any)
      (fun k => loBk ((breakL n g w).take k) k) (fun _ => []) (xLn (breakL n g w)) (breakL n g w).length (fun _ => .normal) := by
    refine rounds_ofP postBk postBk_ok (fun _ => 5) (fun k => ?_) (fun k _ => rfl) fun k hk hn rec rec' => ?_
    · cases k <;> simp [SBk, mkS]
    · cases k with
      | zero =>
        refine (congrArg T.pick (round0 n g w ((breakL n g w).getD 0 ⟨0, 0, 0⟩) rec rec')).trans ?_
        rw [pick_same]
        show some _ = some _
        rw [take_suc hk]; rfl
      | succ k =>
        have hl : ((breakL n g w).take (k + 1)).length = k + 1 := by rw [List.length_take]; omega
        refine (congrArg T.pick (round1 n g w k ((breakL n g w).take (k + 1)) ((breakL n g w).getD (k + 1) ⟨0, 0, 0⟩) rec rec')).trans ?_
        have hr : roomB ((breakL n g w).take (k + 1)).length 1 24 = true := by rw [hl]; simp [roomB]; omega
        rw [pick_same, hr, catG_of lnQ, ← take_suc hk]
        show some _ = some _
        have : ((breakL n g w).take (k + 1)).length + 1 = ((breakL n g w).take (k + 1 + 1)).length := by rw [hl, List.length_take]; omega
        rw [this]; rfl
  have hc : codeAt (cod Tryd.f12) pBk = some (.rangeFunc (.tmp 21) #[22] rfBk.1 rfBk.2) := by kernel_rfl
  have hsp : (linesI.s [sp1B n g w]).pick = some ((breakL n g w).length, xLn (breakL n g w)) := by
    show (T.ite (@decide (okH n g) (Classical.propDecidable _)) (T.leaf ((breakL n g w).length, xLn (breakL n g w))) .bad).pick = _
    rw [pick_ite, @decide_eq_true _ (Classical.propDecidable _) hH]; rfl
  cases hx
  have := sem_range (GOK.nil _) (LamOK.nil _ _) hc (f := 44) (caps := [sp1B n g w]) rfl rfl linesI.ok hsp H rfl rfl (m := (breakL n g w).length) (e := .normal) ⟨Nat.le_refl _, .inl ⟨rfl, rfl, fun j _ => rfl⟩⟩ (by cases (breakL n g w).length <;> trivial) (fun d hd => by simp [SBk, mkS] at hd)
  rw [List.take_length] at this
  exact this
abbrev ΓLb : Gam := [(31, open_.s), (32, AsLine.told.s), (33, lines.s)]
theorem ΓLb.ok : GOK Tryd.prog ΓLb := .cons open_.ok (.cons AsLine.told.ok (.cons lines.ok (GOK.nil _)))
theorem right_ok {n : Nat} {g : Nat → Nat → Q} (h : rightW n g = true) : okH n g := by
  unfold rightW at h
  cases ha : (allN n fun i => !badW (gWd g i)) with
  | false => rw [ha] at h; cases h
  | true =>
    rw [ha] at h
    refine ⟨by have := of_decide_eq_true (show decide ((n : Int) ≤ 500) = true from h); omega, fun i hi => ?_⟩
    have := allN_at ha hi
    exact good_h (x := gWd g i) (by rw [badR_eq]; simpa using this)
def lBreak.s : List V → T V
  | [.q (.lst [.str, .int .i64, .int .i64, .int .i64] n g), .q (.c (.int .i64 w))] => .ite (allN n (szW g)) (.ite (chkW n g w != 0) (.leaf (.tup [emptyL ksLn, V.i (chkW n g w)])) (.leaf (.tup [vOf ksLn lnQ (breakL n g w), V.i 0]))) .bad
  | _ => .bad
abbrev nilT0 (k : Int) : V := .tup [.q (.c (.slice none 0 0)), V.i k]
def lBreak.t : List V → T V
  | [.q (.lst [.str, .int .i64, .int .i64, .int .i64] n g), .q (.c (.int .i64 w))] => .ite (allN n (szW g)) (.ite (chkW n g w != 0) (.leaf (nilT0 (chkW n g w))) (.ite (decide ((breakL n g w).length = 0)) (.leaf (nilT0 0)) (.leaf (.tup [vOf ksLn lnQ (breakL n g w), V.i 0])))) .bad
  | _ => .bad
theorem den_tnil' {S L : Nat → Prop} {θ : Th} {w : World} {ks : List K} {m : Nat} {g : Nat → Nat → Q} {y : V} {v : Value} (hm : m = 0) (h : Den S L θ w (.tup [.q (.c (.slice none 0 0)), y]) v) : Den S L θ w (.tup [.q (.lst ks m g), y]) v := by
  subst hm; exact den_tnil h
noncomputable abbrev orBk (n : Nat) (g : Nat → Nat → Q) (w : Int) (lo : List (Option Ob)) : Lam := [(pBk, orc false 28 1 [8, 21] (SBk n g w) (.leaf (Ex.normal, outS (SBk n g w) lo [])))]
theorem eqBk1 (n : Nat) (g : Nat → Nat → Q) (w : Int) (m : Nat) (h : Nat → Nat → Q) : funV Tryd.prog ΓLb (orBk n g w [cOut (.own 4), some (.vec 30 ksLn m h)]) Tryd.f12 (cod Tryd.f12) [lWd n g, V.i w] =
    .ite (allN n (szW g)) (.ite (!rightW n g) (.ite true (.leaf (nilT0 70)) .bad) (.ite (badI w) (.ite true (.leaf (nilT0 60)) .bad) (.ite false (.leaf (nilT0 0))
      (.ite (@decide (SBk n g w = SBk n g w) (Classical.propDecidable _)) (.leaf (.tup [lLn m h, V.i 0])) .bad)))) .bad := by kernel_rfl
theorem eqBk0 (n : Nat) (g : Nat → Nat → Q) (w : Int) : funV Tryd.prog ΓLb (orBk n g w [cOut (.q (.c (.slice none 0 0)))]) Tryd.f12 (cod Tryd.f12) [lWd n g, V.i w] =
    .ite (allN n (szW g)) (.ite (!rightW n g) (.ite true (.leaf (nilT0 70)) .bad) (.ite (badI w) (.ite true (.leaf (nilT0 60)) .bad) (.ite false (.leaf (nilT0 0))
      (.ite (@decide (SBk n g w = SBk n g w) (Classical.propDecidable _)) (.leaf (nilT0 0)) .bad)))) .bad := by kernel_rfl
theorem lBreak.ok : SpecOK Tryd.prog 12 lBreak.s := by
  refine SpecOK.res (sp' := lBreak.t) ?_ fun args r hb hr => ?_
  · refine okF ΓLb.ok Tryd.func12 (by kernel_rfl) (by kernel_rfl) fun args r hb hr => ?_
    unfold lBreak.t at hr
    split at hr
    · rename_i n g w
      cases ha : allN n (szW g) with
      | false => rw [ha] at hr; cases hr
      | true =>
        rw [ha] at hr
        cases hc : chkW n g w != 0 with
        | true =>
          rw [hc] at hr
          refine ⟨[], LamOK.nil _ _, ?_⟩
          have e : T.pathL (funV Tryd.prog ΓLb [] Tryd.f12 (cod Tryd.f12) [lWd n g, V.i w]) [true] = .ite (!rightW n g) (.ite true (.leaf (nilT0 70)) .bad) (.ite (badI w) (.ite true (.leaf (nilT0 60)) .bad) (.ite false (.leaf (nilT0 0)) .bad)) := by kernel_rfl
          have e0 : T.pathC (funV Tryd.prog ΓLb [] Tryd.f12 (cod Tryd.f12) [lWd n g, V.i w]) [true] = [allN n (szW g)] := by kernel_rfl
          rw [T.pick_path [true] _ (e0.trans (by rw [ha])), e, ← hr]
          unfold chkW at hc ⊢
          cases hrr : rightW n g with
          | false => rfl
          | true =>
            rw [hrr] at hc
            cases hw : badI w with
            | true => rfl
            | false => rw [hw] at hc; cases hc
        | false =>
          obtain ⟨h1, h2⟩ := chk_right hc
          rw [hc] at hr
          have hrg := rangeBk n g w (right_ok h1)
          cases hN : (breakL n g w).length with
          | zero =>
            rw [hN] at hrg hr
            refine ⟨_, LamOK.orc (p := pBk) (mk := false) (nn := 28) (k := 1) (live := [8, 21]) (c := .rangeFunc (.tmp 21) #[22] rfBk.1 rfBk.2) (by kernel_rfl) hrg (LamOK.nil _ _), ?_⟩
            refine (congrArg T.pick (eqBk0 n g w)).trans ?_
            rw [ha, h1, h2, ← hr]
            exact pick_same _ _
          | succ N =>
            rw [hN] at hrg
            rw [decide_eq_false (by omega)] at hr
            refine ⟨_, LamOK.orc (p := pBk) (mk := false) (nn := 28) (k := 1) (live := [8, 21]) (c := .rangeFunc (.tmp 21) #[22] rfBk.1 rfBk.2) (by kernel_rfl) hrg (LamOK.nil _ _), ?_⟩
            refine (congrArg T.pick (eqBk1 n g w (breakL n g w).length (gOf lnQ (breakL n g w)))).trans ?_
            rw [ha, h1, h2, ← hr]
            exact pick_same _ _
    · cases hr
  · unfold lBreak.s at hr
    unfold lBreak.t
    split at hr
    · rename_i n g w
      cases ha : allN n (szW g) with
      | false => rw [ha] at hr; cases hr
      | true =>
        rw [ha] at hr
        cases hc : chkW n g w != 0 with
        | true => rw [hc] at hr; cases hr; exact ⟨_, rfl, fun S w v h => den_tnil h⟩
        | false =>
          rw [hc] at hr
          cases hr
          by_cases h0 : (breakL n g w).length = 0
          · rw [decide_eq_true h0]; exact ⟨_, rfl, fun S w v h => den_tnil' h0 h⟩
          · rw [decide_eq_false h0]; exact ⟨_, rfl, fun S w v h => h⟩
    · cases hr
end Go.Proofs.YthohngmafdagoaaDoor

/- Lines, one by one: a line's text, as the document tells it. -/
namespace Go.Proofs.YthohngmafdagoaaDoor
open Go Go.SX Go.Proofs
set_option maxRecDepth 100000

set_option linter.unusedVariables false
set_option linter.unusedSectionVars false
set_option linter.unusedSimpArgs false

abbrev pTx : List Nat := [0, 1, 0, 1, 1, 1, 1]
def STx (n : Nat) (g : Nat → Nat → Q) (x : Ln) (b : ByteArray) (i : Int) : St := mkS 58 [(0, lWd n g), (3, .ptr 0 0), (6, V.s b), (7, V.i i)] [cLn x] [] false [] 0
def FTx (x : Ln) (b : ByteArray) : Ex × St := (.exit 0, mkS 58 [(6, V.s b)] [cLn x] [] false [] 0)
def liveTx : Ex → List Nat | .normal => [0, 3, 6, 7] | _ => [6]
noncomputable abbrev bodyTx : Code := loopAt Tryd.f25 pTx
noncomputable abbrev treeTx (s : St) : T (Ex × St × Bool) := ltree Tryd.prog [] [] pTx bodyTx 58 1 liveTx poN s
abbrev noT : ByteArray := ⟨#[]⟩
abbrev blank : ByteArray := ⟨#[32]⟩
abbrev szOK (b c : ByteArray) : Bool := decide (b.size + c.size ≤ 9223372036854775807)
def goTx (n : Nat) (g : Nat → Nat → Q) (x : Ln) (b : ByteArray) (i : Nat) : T (Ex × St × Bool) :=
  .ite (inI i n) (.ite (szOK b (gWd g i).t) (.leaf (.normal, STx n g x (b ++ (gWd g i).t) (w64 (i + 1)), true)) .bad) .bad
theorem stepTx (n : Nat) (g : Nat → Nat → Q) (x : Ln) (b : ByteArray) (i : Nat) : treeTx (STx n g x b i) =
    .ite (decide ((i : Int) < x.z)) (.ite (decide ((i : Int) > x.a)) (.ite (inI i n) (.ite ((gWd g i).s != 0) (.ite (szOK b blank) (goTx n g x (b ++ blank) i) .bad) (goTx n g x b i)) .bad) (goTx n g x b i)) (.leaf ((FTx x b).1, (FTx x b).2, true)) := by kernel_rfl
/-- A word's text behind a text: a blank ahead, if there is one. -/
def putT (b : ByteArray) (fst : Bool) (x : Wd) : ByteArray := (bif fst then b else bif x.s != 0 then b ++ blank else b) ++ x.t
/-- The text of k words from a on. -/
def txF (g : Nat → Nat → Q) (a : Nat) : Nat → ByteArray
  | 0 => noT
  | k + 1 => putT (txF g a k) (decide (k = 0)) (gWd g (a + k))
theorem size_app (a b : ByteArray) : (a ++ b).size = a.size + b.size := ByteArray.size_append
theorem putT_size (b : ByteArray) (f : Bool) (x : Wd) : (putT b f x).size ≤ b.size + 1 + x.t.size := by
  unfold putT
  rw [size_app]
  cases f with
  | true => show b.size + _ ≤ _; omega
  | false =>
    cases x.s != 0 with
    | true => show (b ++ blank).size + _ ≤ _; rw [size_app]; exact Nat.le_refl _
    | false => show b.size + _ ≤ _; omega
theorem txF_size (g : Nat → Nat → Q) (a : Nat) : ∀ k, (∀ j, j < k → (gWd g (a + j)).t.size ≤ 400) → (txF g a k).size ≤ 401 * k
  | 0, _ => Nat.le_refl _
  | k + 1, h => by
    have h1 := txF_size g a k fun j hj => h j (by omega)
    have h2 := h k (by omega)
    have h3 := putT_size (txF g a k) (decide (k = 0)) (gWd g (a + k))
    show (putT _ _ _).size ≤ _
    omega
theorem good_t {x : Wd} (h : badW x = false) : x.t.size ≤ 400 := by
  rw [← badR_eq] at h
  unfold badR at h
  cases h1 : x.t.toList == (ByteArray.mk #[]).toList with
  | true => rw [h1] at h; cases h
  | false =>
    rw [h1] at h
    by_cases h2 : (x.t.size : Int) > 400
    · rw [decide_eq_true h2] at h; cases h
    · omega
theorem right_t {n : Nat} {g : Nat → Nat → Q} (h : rightW n g = true) : n ≤ 500 ∧ ∀ i, i < n → (gWd g i).t.size ≤ 400 := by
  unfold rightW at h
  cases ha : (allN n fun i => !badW (gWd g i)) with
  | false => rw [ha] at h; cases h
  | true =>
    rw [ha] at h
    refine ⟨by have := of_decide_eq_true (show decide ((n : Int) ≤ 500) = true from h); omega, fun i hi => ?_⟩
    have := allN_at ha hi
    exact good_t (by simpa using this)
theorem loopTx (n : Nat) (g : Nat → Nat → Q) (w : Int) (a m : Nat) (hz : a + m ≤ n) (hn : n ≤ 500) (ht : ∀ i, i < n → (gWd g i).t.size ≤ 400) :
    ∀ x, (T.leaf (FTx ⟨a, (a + m : Nat), w⟩ (txF g a m))).pick = some x → SemC Tryd.prog (.loop bodyTx) (STx n g ⟨a, (a + m : Nat), w⟩ noT a) x := by
  refine loop_nat (GOK.nil _) (root := cod Tryd.f25) (p := pTx) (by kernel_rfl) m (fun _ => True) (fun k => STx n g ⟨a, (a + m : Nat), w⟩ (txF g a k) (a + k : Nat)) (.leaf (FTx ⟨a, (a + m : Nat), w⟩ (txF g a m))) 58 1 liveTx poN poN_ok (fun k hk _ => ?_) trivial
  have e := stepTx n g ⟨a, (a + m : Nat), w⟩ (txF g a k) (a + k)
  rcases Nat.lt_or_ge k m with hlt | hge
  · have h1 := txF_size g a k fun j hj => ht _ (by omega)
    have h2 := ht (a + k) (by omega)
    have hi : inI (a + k) n = true := c_inI (by omega)
    have hgo : ∀ b : ByteArray, b.size ≤ 401 * 500 + 1 → (goTx n g ⟨a, (a + m : Nat), w⟩ b (a + k)).pick = some (.normal, STx n g ⟨a, (a + m : Nat), w⟩ (b ++ (gWd g (a + k)).t) ((a + (k + 1) : Nat)), true) := fun b hb => by
      unfold goTx
      rw [hi, pick_ite, cond_true, pick_ite, show szOK b (gWd g (a + k)).t = true from decide_eq_true (by omega), cond_true, w64_suc (i := a + k) (n := n) (by omega) (by omega)]; rfl
    refine ⟨[], .normal, _, LamOK.nil _ _, (congrArg T.pick e).trans ?_, .inl ⟨rfl, hlt, trivial, rfl⟩⟩
    rw [pick_ite, show decide (((a + k : Nat) : Int) < ((a + m : Nat) : Int)) = true from decide_eq_true (by omega), cond_true, pick_ite]
    rw [txF, putT]
    by_cases h0 : k = 0
    · subst h0
      rw [show decide (((a + 0 : Nat) : Int) > (a : Int)) = false from decide_eq_false (by omega), cond_false, hgo _ (by omega)]; rfl
    · rw [show decide (((a + k : Nat) : Int) > (a : Int)) = true from decide_eq_true (by omega), cond_true, pick_ite, hi, cond_true, decide_eq_false h0, cond_false, pick_ite]
      cases hs : (gWd g (a + k)).s != 0 with
      | true => rw [cond_true, cond_true, pick_ite, show szOK (txF g a k) blank = true from decide_eq_true (by show _ + 1 ≤ _; omega), cond_true, hgo _ (by rw [size_app]; show _ + 1 ≤ _; omega)]
      | false => rw [cond_false, cond_false, hgo _ (by omega)]
  · have h : k = m := by omega
    subst h
    refine ⟨[], .exit 0, _, LamOK.nil _ _, (congrArg T.pick e).trans ?_, .inr ⟨by simp, rfl⟩⟩
    rw [pick_ite, show decide (((a + k : Nat) : Int) < ((a + k : Nat) : Int)) = false from decide_eq_false (by omega)]; rfl
/-- Is a line none of n words'? -/
abbrev outL (n : Nat) (a z : Int) : Bool := bif decide (a < 0) then true else bif decide (a > z) then true else decide (z > n)
/-- A line's text, and what is wrong. -/
def textR (n : Nat) (g : Nat → Nat → Q) (a z : Int) : ByteArray × Int := bif !rightW n g then (noT, 70) else bif outL n a z then (noT, 80) else (txF g a.toNat (z - a).toNat, 0)
def rText.s : List V → T V
  | [.q (.lst [.str, .int .i64, .int .i64, .int .i64] n g), .agg [.q (.c (.int .i64 a)), .q (.c (.int .i64 z)), .q (.c (.int .i64 w))]] => .leaf (.tup [V.s (textR n g a z).1, V.i (textR n g a z).2])
  | _ => .bad
abbrev ΓRt : Gam := [(35, rRight.s)]
theorem ΓRt.ok : GOK Tryd.prog ΓRt := .cons rRight.ok (GOK.nil _)
theorem eqTx (n : Nat) (g : Nat → Nat → Q) (a z w : Int) (b : ByteArray) : funV Tryd.prog ΓRt [(pTx, orc false 58 1 [0, 3, 6, 7] (STx n g ⟨a, z, w⟩ noT a) (.leaf (FTx ⟨a, z, w⟩ b)))] Tryd.f25 (cod Tryd.f25) [lWd n g, lnV ⟨a, z, w⟩] =
    .ite (!rightW n g) (.leaf (.tup [V.s noT, V.i 70])) (.ite (outL n a z) (.leaf (.tup [V.s noT, V.i 80])) (.ite (@decide (STx n g ⟨a, z, w⟩ noT a = STx n g ⟨a, z, w⟩ noT a) (Classical.propDecidable _)) (.leaf (.tup [V.s b, V.i 0])) .bad)) := by kernel_rfl
theorem outL_false {n : Nat} {a z : Int} (h : outL n a z = false) : 0 ≤ a ∧ a ≤ z ∧ z ≤ n := by
  unfold outL at h
  rw [cond_or, cond_or] at h
  have := of_decide_eq_false h
  omega
theorem rText.ok : SpecOK Tryd.prog 25 rText.s := by
  refine okF ΓRt.ok Tryd.func25 (by kernel_rfl) (by kernel_rfl) fun args r hb hr => ?_
  unfold rText.s at hr
  split at hr
  · rename_i n g a z w
    cases hR : rightW n g with
    | false =>
      refine ⟨[], LamOK.nil _ _, ?_⟩
      rw [← hr, T.pick_at [true] [!rightW n g] (by kernel_rfl) (by rw [hR]; rfl) (x := .tup [V.s noT, V.i 70]) (by kernel_rfl), textR, hR]; rfl
    | true =>
      cases hO : outL n a z with
      | true =>
        refine ⟨[], LamOK.nil _ _, ?_⟩
        rw [← hr, T.pick_at [false, true] [!rightW n g, outL n a z] (by kernel_rfl) (by rw [hR, hO]; rfl) (x := .tup [V.s noT, V.i 80]) (by kernel_rfl), textR, hR, hO]; rfl
      | false =>
        obtain ⟨h1, h2, h3⟩ := outL_false hO
        obtain ⟨hn, ht⟩ := right_t hR
        obtain ⟨a, rfl⟩ : ∃ k : Nat, a = k := ⟨a.toNat, by omega⟩
        obtain ⟨m, rfl⟩ : ∃ m : Nat, z = (a + m : Nat) := ⟨(z - a).toNat, by omega⟩
        refine ⟨_, LamOK.orc (p := pTx) (mk := false) (nn := 58) (k := 1) (live := [0, 3, 6, 7]) (c := .loop bodyTx) (by kernel_rfl) (loopTx n g w a m (by omega) hn ht) (LamOK.nil _ _), ?_⟩
        rw [eqTx, hR, hO, ← hr, textR, hR, hO]
        refine (pick_same _ _).trans ?_
        have e1 : (a : Int).toNat = a := Int.toNat_natCast a
        have e2 : (((a + m : Nat) : Int) - (a : Int)).toNat = m := by omega
        show some _ = some (V.tup [V.s (txF g (a : Int).toNat (((a + m : Nat) : Int) - (a : Int)).toNat), V.i 0])
        rw [e1, e2]
  · cases hr
end Go.Proofs.YthohngmafdagoaaDoor

/- strings.Builder at this program: what its methods do, one by one. -/
namespace Go.Proofs.YthohngmafdagoaaDoor
open Go Go.Proofs Go.RowKit
set_option maxRecDepth 100000
set_option linter.unusedVariables false
set_option linter.unusedSimpArgs false

namespace Bld
theorem sizeB : (Tryd.prog.info? 85).map (·.size) = some 2 := by kernel_rfl
theorem liesB : liesAt Tryd.prog Tryd.prog.depth 85 (2 / Tryd.prog.cellsOf 85) 0 85 1 = true := by kernel_rfl
theorem byteI : ∃ i, Tryd.prog.info? 5 = some i ∧ i.zero = some (.int .u8 0) ∧ i.size = 1 ∧ i.bytes = 1 := by
  have h : (Tryd.prog.info? 5).map (fun i => (i.zero, i.size, i.bytes)) = some (some (.int .u8 0), 1, 1) := by kernel_rfl
  obtain ⟨i, hi, h2⟩ := Option.map_eq_some_iff.1 h
  simp only [Prod.mk.injEq] at h2
  exact ⟨i, hi, h2.1, h2.2.1, h2.2.2⟩

set_option maxHeartbeats 1000000 in
theorem check_used (b : Nat) (w : World) (h0 : w.cell? ⟨b, 0, none⟩ = some (.pointer (some ⟨b, 0, none⟩))) :
    Calls Tryd.prog 56 #[.pointer (some ⟨b, 0, none⟩)] w fun e w' => e = .returned (.tuple #[]) ∧ w' = w := by
  obtain ⟨j, hj, _⟩ := Option.map_eq_some_iff.1 sizeB
  go_enter Tryd.func56, Tryd.ntmps56
  go_wp2
  rw [Lib.run_neq_ptr_same w _ Tryd.underlying82 hj]
  go_wp2
  go_end0
  exact ⟨rfl, rfl⟩

set_option maxHeartbeats 1000000 in
theorem check_fresh (b : Nat) (w : World) (h0 : w.cell? ⟨b, 0, none⟩ = some (.pointer none)) (hsh : w.shape? b = some (85, 2)) (hfz : w.frozen? ⟨b, 0, none⟩ = false) :
    Calls Tryd.prog 56 #[.pointer (some ⟨b, 0, none⟩)] w fun e w' => e = .returned (.tuple #[]) ∧ w' = w.setCell ⟨b, 0, none⟩ (.pointer (some ⟨b, 0, none⟩)) := by
  obtain ⟨j, hj, hjs⟩ := Option.map_eq_some_iff.1 sizeB
  go_enter Tryd.func56, Tryd.ntmps56
  go_wp2
  rw [Lib.run_to_unsafe w ⟨b, 0, none⟩ Tryd.underlying82 Tryd.underlying91 hj (by rw [hjs]; decide) hsh (Nat.zero_lt_succ 1)]
  simp only [Result.andThen]
  rw [Oper.upon_value]
  go_wp2
  rw [run_callFunc_extern Tryd.func61 (by kernel_rfl) (by kernel_rfl) (by kernel_rfl) (e := Extern.AbiNoEscape.same) (by kernel_rfl)]
  rw [Lib.run_noEscape]
  simp only [Result.andThen]
  rw [Oper.upon_value]
  go_wp2
  rw [Lib.run_from_unsafe w ⟨b, 0, none⟩ Tryd.underlying91 Tryd.underlying82 hj hsh liesB]
  simp only [Result.andThen]
  rw [Oper.upon_value]
  go_wp2
  go_end0
  exact ⟨rfl, rfl⟩

abbrev Is (B b : Nat) (bs : List Value) (w : World) : Prop := Lib.IsBuilderF 85 5 B b bs w
abbrev At (B b : Nat) (bs : List Value) (w : World) : Prop := Lib.BuilderAtF 85 5 B b (.pointer (some ⟨b, 0, none⟩)) bs w
abbrev Kept (b : Nat) (w w' : World) : Prop := Lib.OthersKept 5 (some b) w w'

theorem check (B b : Nat) (bs : List Value) (w : World) (h : Is B b bs w) :
    Calls Tryd.prog 56 #[.pointer (some ⟨b, 0, none⟩)] w fun e w' => e = .returned (.tuple #[]) ∧ (At B b bs w' ∧ Below B w w' ∧ Kept b w w') := by
  rcases h with h | h
  · refine (check_fresh b w h.cell0 h.shape h.frozen0).mono ?_
    rintro e w' ⟨rfl, rfl⟩
    exact ⟨rfl, h.used _, (Below.refl B w).setCell (p := ⟨b, 0, none⟩) h.1 _, (Lib.OthersKept.refl _ _ w).setCell ⟨b, 0, none⟩ rfl _⟩
  · refine (check_used b w h.cell0).mono ?_
    rintro e w' ⟨rfl, rfl⟩
    exact ⟨rfl, h, Below.refl B _, Lib.OthersKept.refl _ _ _⟩

set_option maxHeartbeats 2000000 in
theorem byte (B b : Nat) (bs : List Value) (c : Int) (w : World) (h : Is B b bs w) (hlen : bs.length + 1 ≤ 140737488355328) (hBw : B ≤ w.heap.size) :
    Calls Tryd.prog 47 #[.pointer (some ⟨b, 0, none⟩), .int .u8 c] w fun e w' => e = .returned .nilIface ∧ (At B b (bs ++ [.int .u8 c]) w' ∧ Below B w w' ∧ Kept b w w') := by
  obtain ⟨i0, hi, hz0, hz1, hz2⟩ := byteI
  go_enter Tryd.func47, Tryd.ntmps47
  go_wp2_with (go_at_call 56; refine (check B b bs _ h).mono ?_)
  rintro e w1 ⟨rfl, h1, hb1, hk1⟩
  obtain ⟨hB, v, hbk, hown, hne⟩ := h1
  have c0 : w1.cell? ⟨b, 0, none⟩ = some (.pointer (some ⟨b, 0, none⟩)) := by rw [Lib.cell_of_heap hbk]; rfl
  have c1 : w1.cell? ⟨b, 1, none⟩ = some v := by rw [Lib.cell_of_heap hbk]; rfl
  go_wp2_with (at_builtin; refine wpList_append_ownF _ rfl _ _ 83 rfl B 5 i0 (.int .u8 0) 1 1 Tryd.underlying83 hi hz0 hz1 hz2 rfl (by decide) _ _ _ rfl (hown.alloc _) ⟨w1.heap.size, 0, none⟩ 1 1 [.int .u8 c] rfl rfl ?c1 ?c2 ?c3 ?c4 ?c5 ?_)
  case c1 =>
    intro j u hj
    match j, hj with
    | 0, hj => simp at hj; subst hj; simp [Addr.add]
  case c2 => intro u hu; simp at hu; subst hu; rfl
  case c3 => unfold maxLen; omega
  case c4 => omega
  case c5 => have := hb1.size; simp; omega
  intro v' w2 hown' hgrow _
  have hlt : b < w1.heap.size := by
    rcases Nat.lt_or_ge b w1.heap.size with h' | h'
    · exact h'
    · simp [Array.getElem?_eq_none h'] at hbk
  have hb2 : w2.heap[b]? = some (.cells #[.pointer (some ⟨b, 0, none⟩), v] 85 (0, 0)) := by
    rw [hgrow.block b (by simp; omega) (fun e => hne e.symm), Lib.alloc_old w1 _ b hlt]
    exact hbk
  have d0 : w2.cell? ⟨b, 0, none⟩ = some (.pointer (some ⟨b, 0, none⟩)) := by rw [Lib.cell_of_heap hb2]; rfl
  have d1 : w2.cell? ⟨b, 1, none⟩ = some v := by rw [Lib.cell_of_heap hb2]; rfl
  have f1 : w2.frozen? ⟨b, 1, none⟩ = false := Lib.frozen_of_heap hb2 1
  obtain ⟨g, cap, rfl⟩ : ∃ g cap, v' = .slice (some ⟨g, 0, none⟩) (bs.length + 1) cap := by
    rcases hown'.2 with ⟨_, h0⟩ | ⟨g, cap, cur, fz, hv, _⟩
    · omega
    · exact ⟨g, cap, hv⟩
  go_wp2
  go_ret
  refine ⟨rfl, ?_, ?_, ((hk1.alloc _).grown hgrow (Lib.ownsRowF_kind (hown.alloc _))).setCell ⟨b, 1, none⟩ rfl _⟩
  · exact Lib.BuilderAtF.put (T := 85) (e := 5) hB hb2 (bs' := bs ++ [.int .u8 c]) (by simpa using hown') (by decide)
  · exact ((hb1.alloc (by have := hb1.size; omega) _).grown hgrow (by have := hb1.size; simp; omega) (fun k hk => (hown.lt k hk).1)).setCell (p := ⟨b, 1, none⟩) hB _

set_option maxHeartbeats 2000000 in
theorem text (B b : Nat) (bs : List Value) (s : ByteArray) (w : World) (h : Is B b bs w) (hlen : bs.length + s.size ≤ 140737488355328) (hBw : B ≤ w.heap.size) :
    Calls Tryd.prog 48 #[.pointer (some ⟨b, 0, none⟩), .string s] w fun e w' => e = .returned (.tuple #[.int .i64 s.size, .nilIface]) ∧ (At B b (bs ++ Lib.strCells s) w' ∧ Below B w w' ∧ Kept b w w') := by
  obtain ⟨i0, hi, hz0, hz1, hz2⟩ := byteI
  go_enter Tryd.func48, Tryd.ntmps48
  go_wp2_with (go_at_call 56; refine (check B b bs _ h).mono ?_)
  rintro e w1 ⟨rfl, h1, hb1, hk1⟩
  obtain ⟨hB, v, hbk, hown, hne⟩ := h1
  have c0 : w1.cell? ⟨b, 0, none⟩ = some (.pointer (some ⟨b, 0, none⟩)) := by rw [Lib.cell_of_heap hbk]; rfl
  have c1 : w1.cell? ⟨b, 1, none⟩ = some v := by rw [Lib.cell_of_heap hbk]; rfl
  go_wp2_with (at_builtin; refine Lib.wpList_append_own_stringF _ rfl _ _ 83 9 rfl B 5 i0 Tryd.underlying83 Tryd.underlying9 hi hz0 hz1 hz2 _ _ _ rfl hown s rfl ?c3 ?c4 ?c5 ?_)
  case c3 => unfold maxLen; omega
  case c4 => omega
  case c5 => have := hb1.size; omega
  intro v' w2 hown' hgrow _
  have hlt : b < w1.heap.size := by
    rcases Nat.lt_or_ge b w1.heap.size with h' | h'
    · exact h'
    · simp [Array.getElem?_eq_none h'] at hbk
  have hb2 : w2.heap[b]? = some (.cells #[.pointer (some ⟨b, 0, none⟩), v] 85 (0, 0)) := by
    rw [hgrow.block b hlt (fun e => hne e.symm)]
    exact hbk
  have d0 : w2.cell? ⟨b, 0, none⟩ = some (.pointer (some ⟨b, 0, none⟩)) := by rw [Lib.cell_of_heap hb2]; rfl
  have d1 : w2.cell? ⟨b, 1, none⟩ = some v := by rw [Lib.cell_of_heap hb2]; rfl
  have f1 : w2.frozen? ⟨b, 1, none⟩ = false := Lib.frozen_of_heap hb2 1
  obtain ⟨ao, n', cap, rfl⟩ : ∃ ao n' cap, v' = .slice ao n' cap := by
    rcases hown'.2 with ⟨hv, _⟩ | ⟨g, cap, cur, fz, hv, _⟩
    · exact ⟨_, _, _, hv⟩
    · exact ⟨_, _, _, hv⟩
  go_wp2
  go_ret2
  refine ⟨rfl, ?_, ?_, (hk1.grown hgrow (Lib.ownsRowF_kind hown)).setCell ⟨b, 1, none⟩ rfl _⟩
  · exact Lib.BuilderAtF.put (T := 85) (e := 5) hB hb2 (bs' := bs ++ Lib.strCells s) (by simpa [Lib.strCells_length] using hown') (by decide)
  · exact (hb1.grown hgrow (by have := hb1.size; omega) (fun k hk => (hown.lt k hk).1)).setCell (p := ⟨b, 1, none⟩) hB _
def ren : Go.Shelf.Ren := ⟨fun | 169 => 49 | n => n, fun | 70 => 82 | 9 => 9 | 0 => 0 | 72 => 85 | 37 => 83 | 127 => 103 | 3 => 3 | 5 => 5 | n => n, fun | n => n⟩
theorem lays : Go.Proofs.Lays.n169 Tryd.prog ren := {
  mixed := by kernel_rfl
  f169 := Tryd.func49.trans (congrArg some (by kernel_rfl))
  t0 := Tryd.underlying0
  a0 := Tryd.isAgg0
  z0 := Tryd.sizeOf0
  v0 := Tryd.zeroValue0
  t3 := Tryd.underlying3
  a3 := Tryd.isAgg3
  z3 := Tryd.sizeOf3
  v3 := Tryd.zeroValue3
  t9 := Tryd.underlying9
  a9 := Tryd.isAgg9
  z9 := Tryd.sizeOf9
  v9 := Tryd.zeroValue9
  t37 := Tryd.underlying83
  a37 := Tryd.isAgg83
  z37 := Tryd.sizeOf83
  v37 := Tryd.zeroValue83
  t70 := Tryd.underlying82
  a70 := Tryd.isAgg82
  z70 := Tryd.sizeOf82
  v70 := Tryd.zeroValue82
  t72 := Tryd.underlying85
  a72 := Tryd.isAgg85
  z72 := Tryd.sizeOf85
  v72 := Tryd.zeroValue85
  t127 := Tryd.underlying103
  a127 := Tryd.isAgg103
  z127 := Tryd.sizeOf103
  v127 := Tryd.zeroValue103 }
theorem extra : Go.Proofs.Builder.Extra Tryd.prog ren := {
  sizeBuilder := by kernel_rfl
  liesBuilder := by kernel_rfl
  t5 := Tryd.underlying5
  a5 := Tryd.isAgg5
  z5 := Tryd.sizeOf5
  v5 := Tryd.zeroValue5
  infoByte := by kernel_rfl
  cellsByte := by kernel_rfl
  sizeByte := by kernel_rfl
  neB5 := by decide }
theorem string (B b : Nat) (l : List UInt8) (w : World) (h : Is B b (Lib.byteCells l) w) (hBw : B ≤ w.heap.size) :
    Calls Tryd.prog 49 #[.pointer (some ⟨b, 0, none⟩)] w fun e w' => e = .returned (.string ⟨l.toArray⟩) ∧ (Is B b (Lib.byteCells l) w' ∧ Below B w w' ∧ Kept b w w') := Any.Builder_String_any_k lays extra B b l w h hBw
end Bld
end Go.Proofs.YthohngmafdagoaaDoor

/- Lines, one by one: the text of some words, by strings.Builder. -/
namespace Go.Proofs.YthohngmafdagoaaDoor
open Go Go.SX Go.Proofs Go.RowKit
set_option maxRecDepth 100000

set_option linter.unusedVariables false
set_option linter.unusedSectionVars false
set_option linter.unusedSimpArgs false

namespace Bld
abbrev bl (b : ByteArray) : List Value := Lib.byteCells b.data.toList
theorem bl_app (a b : ByteArray) : bl (a ++ b) = bl a ++ Lib.strCells b := by
  show Lib.byteCells (a ++ b).data.toList = _
  rw [ByteArray.data_append, Array.toList_append, Lib.byteCells_append]
  rfl
theorem bl_len (b : ByteArray) : (bl b).length = b.size := by
  rw [Lib.byteCells_length]; rfl
theorem bl_blank (a : ByteArray) : bl a ++ [.int .u8 32] = bl (a ++ blank) := by rw [bl_app]; rfl
theorem new (w : World) (o : Obj) : (w.alloc o).heap[w.heap.size]? = some o := by simp only [World.alloc, Array.getElem?_push_size]
end Bld
theorem text_walk (n : Nat) (b off cap : Nat) (g : Nat → Nat → SX.Q) (w : World) (hb : b < w.heap.size) (hn : n ≤ 500) (ht : ∀ i, i < n → (gWd g i).t.size ≤ 400)
    (c0 : ∀ i, i < n → w.cell? ⟨b, off + i * 4, none⟩ = some (.string (gWd g i).t)) (c1 : ∀ i, i < n → w.cell? ⟨b, off + i * 4 + 1, none⟩ = some (.int .i64 (gWd g i).w)) (c2 : ∀ i, i < n → w.cell? ⟨b, off + i * 4 + 2, none⟩ = some (.int .i64 (gWd g i).s)) (c3 : ∀ i, i < n → w.cell? ⟨b, off + i * 4 + 3, none⟩ = some (.int .i64 (gWd g i).h)) :
    Calls Tryd.prog 36 #[.slice (some ⟨b, off, none⟩) n cap] w fun e w' => e = .returned (.string (txF g 0 n)) ∧ Below w.heap.size w w' := by
  go_enter Tryd.func36, Tryd.ntmps36
  go_wp2
  go_loopw [8] (fun i wr => ∃ k : Nat, i = .int .i64 k ∧ k ≤ n ∧ Bld.Is w.heap.size w.heap.size (Bld.bl (txF g 0 k)) wr ∧ Below w.heap.size w wr) (fun i _ => n - (Lib.intOf i).toNat)
  case atStart =>
    exact ⟨0, rfl, Nat.zero_le _, Lib.IsBuilderF.of (Lib.fresh_isBuilder _ _ w), (Below.refl _ w).alloc (Nat.le_refl _) _⟩
  case round =>
    obtain ⟨k, rfl, hk, hI, hbw⟩ := hrel
    by_cases hlt : k < n
    · have e0 := (hbw.cell hb).trans (c0 k hlt)
      have e1 := (hbw.cell hb).trans (c1 k hlt)
      have e2 := (hbw.cell hb).trans (c2 k hlt)
      have e3 := (hbw.cell hb).trans (c3 k hlt)
      have hsz := txF_size g 0 k fun j hj => ht (0 + j) (by omega)
      have hs1 : (gWd g k).t.size ≤ 400 := ht k hlt
      have hs0 := hbw.size
      have hw1 : w.heap.size < wr.heap.size := by
        rcases hI with h | h <;> exact h.lt
      have hsuc : txF g 0 (k + 1) = putT (txF g 0 k) (decide (k = 0)) (gWd g k) := by rw [txF, Nat.zero_add]
      by_cases hc : k = 0 ∨ (gWd g k).s = 0
      · have hput : txF g 0 (k + 1) = txF g 0 k ++ (gWd g k).t := by
          rw [hsuc, putT]
          rcases hc with h | h
          · rw [decide_eq_true h]; rfl
          · rw [h]; cases decide (k = 0) <;> rfl
        go_wp2_with (first
          | (go_at_call 47; exfalso; rcases hc with h | h <;> first | omega | (simp_all; done))
          | (go_at_call 48; refine (Bld.text w.heap.size w.heap.size _ (gWd g k).t _ (hI.alloc _) (by rw [Bld.bl_len]; omega) (by simp; omega)).mono ?_; rintro e W1 ⟨rfl, h1, b1, k1⟩))
        all_goals
          refine ⟨⟨k + 1, by simp, by omega, by rw [hput, Bld.bl_app]; exact .inr h1, (hbw.alloc (by omega) _).trans b1⟩, by simp [Lib.intOf]; omega⟩
      · have hk0 : ¬ k = 0 := fun h => hc (.inl h)
        have hs : ¬ (gWd g k).s = 0 := fun h => hc (.inr h)
        have hput : txF g 0 (k + 1) = txF g 0 k ++ blank ++ (gWd g k).t := by
          rw [hsuc, putT, decide_eq_false hk0, show ((gWd g k).s != 0) = true by simp [hs]]; rfl
        go_wp2_with (first
          | (go_at_call 47; refine (Bld.byte w.heap.size w.heap.size _ 32 _ (hI.alloc _) (by rw [Bld.bl_len]; omega) (by simp; omega)).mono ?_; rintro e W1 ⟨rfl, h1, b1, k1⟩; have g1 := k1 wr.heap.size _ (Bld.new _ _) (by simp; omega) (by intro c fz e; cases e); have g0 : W1.cell? ⟨wr.heap.size, 0, none⟩ = some (.string (gWd g k).t) := by (rw [Lib.cell_of_heap g1]; rfl))
          | (go_at_call 48; refine (Bld.text w.heap.size w.heap.size _ (gWd g k).t _ (.inr h1) (by simp only [List.length_append, Bld.bl_len, List.length_singleton]; omega) (by have := b1.size; simp at this; omega)).mono ?_; rintro e W2 ⟨rfl, h2, b2, k2⟩)
          | (go_at_call 48; exfalso; first | omega | (simp_all; done)))
        all_goals
          refine ⟨⟨k + 1, by simp, by omega, by rw [hput, Bld.bl_app, ← Bld.bl_blank]; exact .inr h2, ((hbw.alloc (by omega) _).trans b1).trans b2⟩, by simp [Lib.intOf]; omega⟩
    · have hkn : k = n := by omega
      subst hkn
      go_wp2_with (go_at_call 49; refine (Bld.string w.heap.size w.heap.size _ _ hI hbw.size).mono ?_; rintro e W1 ⟨rfl, h1, b1, k1⟩)
      go_wp2
      go_ret
      exact ⟨rfl, hbw.trans b1⟩

theorem text_none (cap : Nat) (w : World) :
    Calls Tryd.prog 36 #[.slice none 0 cap] w fun e w' => e = .returned (.string noT) ∧ Below w.heap.size w w' := by
  go_enter Tryd.func36, Tryd.ntmps36
  go_wp2
  go_loopw [8] (fun i wr => i = .int .i64 0 ∧ Bld.Is w.heap.size w.heap.size (Bld.bl noT) wr ∧ Below w.heap.size w wr) (fun _ _ => 0)
  case atStart =>
    exact ⟨rfl, Lib.IsBuilderF.of (Lib.fresh_isBuilder _ _ w), (Below.refl _ w).alloc (Nat.le_refl _) _⟩
  case round =>
    obtain ⟨rfl, hI, hbw⟩ := hrel
    go_wp2_with (go_at_call 49; refine (Bld.string w.heap.size w.heap.size _ _ hI hbw.size).mono ?_; rintro e W1 ⟨rfl, h1, b1, k1⟩)
    go_wp2
    go_ret
    exact ⟨rfl, hbw.trans b1⟩

theorem denc {S : Nat → Prop} {w : World} {x v : Value} (h : DenQ S w (.c x) v) : v = x := by cases h; rfl
def lTxt.s : List V → T V
  | [.q (.lst [.str, .int .i64, .int .i64, .int .i64] n g)] => .ite (decide (n ≤ 500)) (.ite (allN n fun i => decide ((gWd g i).t.size ≤ 400)) (.leaf (V.s (txF g 0 n))) .bad) .bad
  | _ => .bad
theorem lTxt.ok : SpecOK Tryd.prog 36 lTxt.s := by
  refine ⟨by kernel_rfl, fun S w args vals r hSw hgl hSg hd he => ?_⟩
  unfold lTxt.s at he
  split at he
  · rename_i n g
    rw [pick_ite] at he
    by_cases hn : n ≤ 500
    · rw [decide_eq_true hn, cond_true, pick_ite] at he
      cases ha : (allN n fun i => decide ((gWd g i).t.size ≤ 400)) with
      | false => rw [ha] at he; cases he
      | true =>
        rw [ha] at he
        cases he
        have ht : ∀ i, i < n → (gWd g i).t.size ≤ 400 := fun i hi => of_decide_eq_true (allN_at ha hi)
        cases hd with
        | cons _ u _ us h1 h2 =>
          cases h2
          have hq := h1.q_inv
          have hfin : ∀ {e : Ending} {w' : World}, e = .returned (.string (txF g 0 n)) ∧ Below w.heap.size w w' → ∃ v, e = .returned v ∧ Below w.heap.size w w' ∧ Den (fun b => S b ∨ (w.heap.size ≤ b ∧ b < w'.heap.size)) NoL th0 w' (V.s (txF g 0 n)) v := fun h => ⟨_, h.1, h.2, .q _ _ (.c _)⟩
          rcases hq.lst_inv with ⟨rfl, h0⟩ | ⟨b, off, cap, u, rfl, hS, hcap, hc, hk, hdd⟩
          · subst h0
            exact (text_none 0 w).mono fun _ _ h => hfin h
          · have key : ∀ (i : Nat), i < n → w.cell? ⟨b, off + i * 4, none⟩ = some (.string (gWd g i).t) ∧ w.cell? ⟨b, off + i * 4 + 1, none⟩ = some (.int .i64 (gWd g i).w) ∧ w.cell? ⟨b, off + i * 4 + 2, none⟩ = some (.int .i64 (gWd g i).s) ∧ w.cell? ⟨b, off + i * 4 + 3, none⟩ = some (.int .i64 (gWd g i).h) := fun i hi => by
              have k0 := hdd i 0 hi (by simp)
              have k1 := hdd i 1 hi (by simp)
              have k2 := hdd i 2 hi (by simp)
              have k3 := hdd i 3 hi (by simp)
              have o0 := hk i 0 .str hi rfl
              have o1 := hk i 1 (.int .i64) hi rfl
              have o2 := hk i 2 (.int .i64) hi rfl
              have o3 := hk i 3 (.int .i64) hi rfl
              rw [← nrm_eq o0] at k0
              rw [← nrm_eq o1] at k1
              rw [← nrm_eq o2] at k2
              rw [← nrm_eq o3] at k3
              have v0 : u i 0 = .string (gWd g i).t := denc k0
              have v1 : u i 1 = .int .i64 (gWd g i).w := denc k1
              have v2 : u i 2 = .int .i64 (gWd g i).s := denc k2
              have v3 : u i 3 = .int .i64 (gWd g i).h := denc k3
              exact ⟨v0 ▸ hc i 0 hi (by simp), v1 ▸ hc i 1 hi (by simp), v2 ▸ hc i 2 hi (by simp), v3 ▸ hc i 3 hi (by simp)⟩
            exact (text_walk n b off cap g w (hSw b hS) hn ht (fun i hi => (key i hi).1) (fun i hi => (key i hi).2.1) (fun i hi => (key i hi).2.2.1) (fun i hi => (key i hi).2.2.2)).mono fun _ _ h => hfin h
    · rw [decide_eq_false hn] at he; cases he
  · cases he
end Go.Proofs.YthohngmafdagoaaDoor

/- Lines, one by one: a line's text. -/
namespace Go.Proofs.YthohngmafdagoaaDoor
open Go Go.SX Go.Proofs
set_option maxRecDepth 100000

set_option linter.unusedVariables false
set_option linter.unusedSectionVars false
set_option linter.unusedSimpArgs false

theorem txF_shift (g : Nat → Nat → Q) (a : Nat) : ∀ k, txF (fun i => g (a + i)) 0 k = txF g a k
  | 0 => rfl
  | k + 1 => by
    show putT (txF (fun i => g (a + i)) 0 k) (decide (k = 0)) (gWd (fun i => g (a + i)) (0 + k)) = putT (txF g a k) (decide (k = 0)) (gWd g (a + k))
    rw [txF_shift g a k, Nat.zero_add]
def lText.s : List V → T V
  | [.q (.lst [.str, .int .i64, .int .i64, .int .i64] n g), .agg [.q (.c (.int .i64 a)), .q (.c (.int .i64 z)), .q (.c (.int .i64 w))]] => .ite (allN n (szW g)) (.leaf (.tup [V.s (textR n g a z).1, V.i (textR n g a z).2])) .bad
  | _ => .bad
abbrev ΓLt : Gam := [(31, open_.s), (32, AsLine.told.s), (36, lTxt.s)]
theorem ΓLt.ok : GOK Tryd.prog ΓLt := .cons open_.ok (.cons AsLine.told.ok (.cons lTxt.ok (GOK.nil _)))
noncomputable abbrev fLt (n : Nat) (g : Nat → Nat → Q) (a z w : Int) : T V := funV Tryd.prog ΓLt [] Tryd.f16 (cod Tryd.f16) [lWd n g, lnV ⟨a, z, w⟩]
theorem fLt_end (n : Nat) (g : Nat → Nat → Q) (a z w : Int) : (fLt n g a z w).pathL [true, false, false, false] =
    .ite (outL n a z) (.leaf (.tup [V.s noT, V.i 80])) (.ite (decide (0 ≤ a ∧ a ≤ z ∧ z ≤ (n : Int))) (.ite (decide (z.toNat - a.toNat ≤ 500)) (.ite (allN (z.toNat - a.toNat) fun i => decide ((gWd (fun i => g (a.toNat + i)) i).t.size ≤ 400)) (.leaf (.tup [V.s (txF (fun i => g (a.toNat + i)) 0 (z.toNat - a.toNat)), V.i 0])) .bad) .bad) .bad) := by kernel_rfl
theorem lText.ok : SpecOK Tryd.prog 16 lText.s := by
  refine okF ΓLt.ok Tryd.func16 (by kernel_rfl) (by kernel_rfl) fun args r hb hr => ?_
  unfold lText.s at hr
  split at hr
  · rename_i n g a z w
    cases ha : allN n (szW g) with
    | false => rw [ha] at hr; cases hr
    | true =>
      rw [ha] at hr
      refine ⟨[], LamOK.nil _ _, ?_⟩
      cases hR : rightW n g with
      | false =>
        rw [← hr, T.pick_at [true, true, true] [allN n (szW g), !rightW n g, true] (by kernel_rfl) (by rw [ha, hR]; rfl) (x := .tup [V.s noT, V.i 70]) (by kernel_rfl), textR, hR]; rfl
      | true =>
        have hp : (fLt n g a z w).pathC [true, false, false, false] = [allN n (szW g), !rightW n g, false, false] := by kernel_rfl
        refine (T.pick_path [true, false, false, false] (fLt n g a z w) (by rw [hp, ha, hR]; rfl)).trans ?_
        rw [fLt_end, ← hr, textR, hR]
        cases hO : outL n a z with
        | true => rfl
        | false =>
          obtain ⟨h1, h2, h3⟩ := outL_false hO
          obtain ⟨hn, ht⟩ := right_t hR
          have e1 : decide (0 ≤ a ∧ a ≤ z ∧ z ≤ (n : Int)) = true := decide_eq_true ⟨h1, h2, h3⟩
          have e2 : decide (z.toNat - a.toNat ≤ 500) = true := decide_eq_true (by omega)
          have e3 : (allN (z.toNat - a.toNat) fun i => decide ((gWd (fun i => g (a.toNat + i)) i).t.size ≤ 400)) = true := allN_true fun i hi => decide_eq_true (ht (a.toNat + i) (by omega))
          rw [e1, e2, e3, txF_shift, show (z - a).toNat = z.toNat - a.toNat by omega]; rfl
  · cases hr
end Go.Proofs.YthohngmafdagoaaDoor

/- Lines, one by one: the first sixty; what all laws show first. -/
namespace Go.Proofs.YthohngmafdagoaaDoor
open Go Go.SX Go.Proofs
set_option maxRecDepth 100000

set_option linter.unusedVariables false
set_option linter.unusedSectionVars false
set_option linter.unusedSimpArgs false

abbrev fewLn (n : Nat) : Nat := (mn2 (n : Int) 60).toNat - (0 : Int).toNat
def fewL.s : List V → T V
  | [.q (.lst [.int .i64, .int .i64, .int .i64] n g)] => .leaf (lLn (fewLn n) g)
  | _ => .bad
theorem fewL.ok : SpecOK Tryd.prog 24 fewL.s := by
  refine okF (GOK.nil _) Tryd.func24 (by kernel_rfl) (by kernel_rfl) fun args r hb hr => ?_
  unfold fewL.s at hr
  split at hr
  · rename_i n g
    have e : funV Tryd.prog [] [] Tryd.f24 (cod Tryd.f24) [lLn n g] =
        .ite (decide ((0 : Int) ≤ 0 ∧ (0 : Int) ≤ mn2 (n : Int) 60 ∧ mn2 (n : Int) 60 ≤ (n : Int))) (.leaf (lLn (fewLn n) (gz g))) .bad := by kernel_rfl
    have c1 : decide ((0 : Int) ≤ 0 ∧ (0 : Int) ≤ mn2 (n : Int) 60 ∧ mn2 (n : Int) 60 ≤ (n : Int)) = true := by
      simp only [mn2]; split <;> simp <;> omega
    exact ⟨[], LamOK.nil _ _, by rw [e, c1, gz_id]; exact hr⟩
  · cases hr

abbrev ΓS8 : Gam := [(13, rWords.s), (12, lBreak.s), (16, lText.s), (15, widest.s)]
theorem ΓS8.ok : GOK Tryd.prog ΓS8 := .cons rWords.ok (.cons lBreak.ok (.cons lText.ok (.cons lWidest.ok (GOK.nil _))))
def shown.s : List V → T V
  | [] => .leaf (V.b true)
  | _ => .bad
theorem shown.ok : SpecOK Tryd.prog 10 shown.s := by
  refine okF ΓS8.ok Tryd.func10 (by kernel_rfl) (by kernel_rfl) fun args r hb h => ?_
  unfold shown.s at h
  split at h
  · have e : (funV Tryd.prog ΓS8 [] Tryd.f10 (cod Tryd.f10) []).pick = some (V.b true) := by kernel_rfl
    exact ⟨[], LamOK.nil _ _, by rw [e]; exact h⟩
  · cases h
end Go.Proofs.YthohngmafdagoaaDoor

/- What all rows of this seat need: the laid variable; the arguments' shapes. -/
namespace Go.Proofs.YthohngmafdagoaaDoor
open Go Go.SX Go.Proofs Go.RowKit Go.ChangeShapes
set_option maxRecDepth 100000

set_option linter.unusedVariables false
set_option linter.unusedSectionVars false
set_option linter.unusedSimpArgs false

abbrev laidL : List (String × DataW Unit) := [("errors.errorType", Rows.laid_errors_errorType)]

theorem glw_of_laid {W : World} (h : laidMetH Tryd.prog laidL W) : GLw W := by
  have h' : laidMet Tryd.prog [] W ∧ handlesMet Tryd.prog laidL W := h
  obtain ⟨name, u, ty, e1, e2, e3, e4, e5⟩ := h'.2 _ (List.mem_singleton.2 rfl)
  have en : name = [101, 114, 114, 111, 114] := (Option.some.inj e1).symm
  subst en
  have hrt : (Tryd.prog.cutTypes.find? (·.1 == "internal/reflectlite.rtype")).map (·.2) = some 121 := by kernel_rfl
  obtain rfl := Option.some.inj (hrt.symm.trans e2)
  have hone : ((List.range Tryd.prog.types.size).filter fun t => Tryd.prog.rowNamed t [101, 114, 114, 111, 114]) = [56] := by kernel_rfl
  have hm : ty ∈ (List.range Tryd.prog.types.size).filter fun t => Tryd.prog.rowNamed t [101, 114, 114, 111, 114] := List.mem_filter.2 ⟨List.mem_range.2 e3, e4⟩
  rw [hone] at hm
  obtain rfl := List.mem_singleton.1 hm
  have hh : typeHandle Tryd.prog 56 = .pointer (some ⟨1, 56, none⟩) := by kernel_rfl
  rw [hh] at e5
  have het : Tryd.prog.globalNamed "errors.errorType" = some 0 := by kernel_rfl
  intro x hx
  have : x = (0, 0, .iface 121 (.agg #[.pointer (some ⟨1, 56, none⟩)])) := List.mem_singleton.1 hx
  subst this
  simpa using World.var?_cell het e5 0

/-- A world that meets the condition. -/
noncomputable def laidWorld (os : Os) : World :=
  let w0 := World.holding Tryd.prog os ⟨#[], #[], []⟩
  { w0 with heap := w0.heap.modify 0 fun
      | .cells _ t frozen => .cells #[.iface 121 (.agg #[.pointer (some ⟨1, 56, none⟩)])] t frozen
      | o => o }
theorem laidWorld_met (os : Os) (args : Array Value) : laidMetH Tryd.prog laidL ((laidWorld os).forCall (fun _ _ => 0) ⟨#[], args, []⟩).memory :=
  laidMetH_of_parts (laidMet_nil _ _) (by kernel_rfl)
theorem own : ownKnob Tryd.prog.godebug = none := by kernel_rfl

/-- **A law's contract gives what its row asks**, with the laid variable. -/
theorem row_of {f : Nat} {fn : Func} {sp : List V → T V} {s : ChangeSpec} {shs : List (Bool × List K)} {rt : TypeId} {apart : Bool} (H : Type) (enc : TypeId × Value → H) (os : Os) (started : os.Started)
    (hs : SpecOK Tryd.prog f sp) (hfn : Tryd.prog.funcs[f]? = some fn) (hrt : fn.resultTypes = #[rt]) (hu : Tryd.prog.underlying rt = some .bool) (hvars : s.vars = []) (hf : ∀ (ds : List (DataW H)), ds.length = fn.params.size → s.fn H ds = { results := [.lit (.bool true)], args := ds })
    (hpar : parTs Tryd.prog fn.params.toList = some shs) (hlaw : ∀ xs, PVs shs xs → (sp xs).pick = some (V.b true)) (hno : Tryd.checked.prog.inits.idxOf? f = none)
    (hw : ∃ (w : World) (tape : Tape) (i : Input), w.os = os ∧ (w.forCall tape i).Shaped Tryd.checked.prog ∧ i.vars = [] ∧ Input.okWide Tryd.checked.prog (w.forCall tape i) .any w.heap.size f i ∧
      ((s.pre enc Tryd.checked.prog fn [] apart (w.forCall tape i).memory i.args ∧ laidMetH Tryd.prog laidL (w.forCall tape i).memory) ∧ sizedMet enc Tryd.checked.prog fn (OpenSpec.ofChange s) apart (w.forCall tape i).memory i.args) ∧ ({} : Assume).holds Tryd.checked.prog (lone (Frame.enter Tryd.checked.prog f i.args .normal) [] (w.forCall tape i))) :
    ReturnsInHanded {} Tryd.checked os f .any (fun w args => (s.pre enc Tryd.prog fn [] apart w args ∧ laidMetH Tryd.prog laidL w) ∧ sizedMet enc Tryd.prog fn (OpenSpec.ofChange s) apart w args) (s.post enc Tryd.prog fn apart true false false) := by
  refine returnsInHanded_of_change_and (C := Tryd.checked) (X := fun w _ => laidMetH Tryd.prog laidL w) (fun _ _ _ hh h => h.of_heap hh) own started hno hfn hw ?_
  intro W base args ds gs before hval hW _ _ hL _
  exact contract_of hs hrt hu hvars hf hpar hlaw hval hW (glw_of_laid hL)

/-! ### the arguments' shapes -/
theorem pvs_nil {xs : List V} (h : PVs [] xs) : xs = [] := by cases h; rfl
theorem pvs_cons {p : Bool × List K} {ps : List (Bool × List K)} {xs : List V} (h : PVs (p :: ps) xs) : ∃ x l, xs = x :: l ∧ PV p x ∧ PVs ps l := by
  cases h with
  | cons _ x _ l h1 h2 => exact ⟨x, l, rfl, h1, h2⟩
def Wf (n : Int) : Prop := -9223372036854775808 ≤ n ∧ n ≤ 9223372036854775807
theorem kw_int {v : Value} (h : KW (.int .i64) v) : ∃ n, v = .int .i64 n ∧ Wf n := by
  cases h with
  | int _ n hw =>
    refine ⟨n, rfl, ?_⟩
    simp only [Lit.wf, Bool.and_eq_true, decide_eq_true_eq] at hw
    exact hw
theorem pv_int {x : V} (h : PV (false, [.int .i64]) x) : ∃ n, x = V.i n ∧ Wf n := by
  cases h with
  | one _ q hq =>
    cases hq with
    | val _ v hv => obtain ⟨n, rfl, hw⟩ := kw_int hv; exact ⟨n, rfl, hw⟩
theorem qks_cons {k : K} {ks : List K} {l : List V} (h : QKs (k :: ks) l) : ∃ q r, l = .q q :: r ∧ QK k q ∧ QKs ks r := by
  cases h with
  | cons _ q _ r h1 h2 => exact ⟨q, r, rfl, h1, h2⟩
theorem qk_int {q : Q} (h : QK (.int .i64) q) : ∃ n, q = .c (.int .i64 n) ∧ Wf n := by
  cases h with
  | val _ v hv => obtain ⟨n, rfl, hw⟩ := kw_int hv; exact ⟨n, rfl, hw⟩
theorem qk_str {q : Q} (h : QK .str q) : ∃ b : ByteArray, q = .c (.string b) ∧ b.size ≤ maxLen := by
  cases h with
  | val _ v hv => cases hv with | str b hb => exact ⟨_, rfl, hb⟩
theorem pv_text {x : V} (h : PV (false, [.str]) x) : ∃ b : ByteArray, x = V.s b ∧ b.size ≤ maxLen := by
  cases h with
  | one _ q hq => obtain ⟨b, rfl, hb⟩ := qk_str hq; exact ⟨b, rfl, hb⟩
def WfL (x : Ln) : Prop := Wf x.a ∧ Wf x.z ∧ Wf x.w
theorem pv_line {x : V} (h : PV (true, ksLn) x) : ∃ r : Ln, x = lnV r ∧ WfL r := by
  cases h with
  | agg _ l hl =>
    obtain ⟨q1, l1, rfl, h1, hl⟩ := qks_cons hl
    obtain ⟨q2, l2, rfl, h2, hl⟩ := qks_cons hl
    obtain ⟨q3, l3, rfl, h3, hl⟩ := qks_cons hl
    cases hl
    obtain ⟨a, rfl, w1⟩ := qk_int h1
    obtain ⟨b, rfl, w2⟩ := qk_int h2
    obtain ⟨c, rfl, w3⟩ := qk_int h3
    exact ⟨⟨a, b, c⟩, rfl, w1, w2, w3⟩
theorem pv_words {x : V} (h : PV (false, [.lst ksWd]) x) : ∃ n g, x = lWd n g ∧ n ≤ 9223372036854775807 := by
  cases h with
  | one _ q hq =>
    cases hq with
    | val _ v hv => cases hv
    | lst _ n g hn hg => exact ⟨n, g, rfl, hn⟩
theorem pv_lines {x : V} (h : PV (false, [.lst ksLn]) x) : ∃ n g, x = lLn n g ∧ n ≤ 9223372036854775807 := by
  cases h with
  | one _ q hq =>
    cases hq with
    | val _ v hv => cases hv
    | lst _ n g hn hg => exact ⟨n, g, rfl, hn⟩

/-! ### the words that a law takes -/
abbrev fN (g : Nat → Nat → Q) (n : Nat) : Nat := (lFw g (min n 60)).length
abbrev fG (g : Nat → Nat → Q) (n : Nat) : Nat → Nat → Q := gOf wdQ (lFw g (min n 60))
theorem fN_le (g : Nat → Nat → Q) (n : Nat) : fN g n ≤ 60 := by
  show (lFw g (min n 60)).length ≤ 60
  rw [lFw_len]; omega
theorem cutB_size (b : ByteArray) : (cutB b).size ≤ 410 := by
  show (b.extract (0 : Int).toNat (cutN b).toNat).size ≤ 410
  rw [ByteArray.size_extract]
  unfold cutN
  split <;> omega
theorem fG_at (g : Nat → Nat → Q) (n : Nat) {i : Nat} (hi : i < fN g n) : gWd (fG g n) i = cutX (gWd g i) := by
  rw [gWd_of hi]
  simp [lFw]
theorem fSz (g : Nat → Nat → Q) (n : Nat) : allN (fN g n) (szW (fG g n)) = true := allN_true fun i hi => by
  have h := cutB_size (gWd g i).t
  show decide ((gWd (fG g n) i).t.size ≤ 9223372036854775807) = true
  rw [fG_at g n hi]
  exact decide_eq_true (by show (cutB (gWd g i).t).size ≤ _; omega)
end Go.Proofs.YthohngmafdagoaaDoor
