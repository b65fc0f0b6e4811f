/- errors.As at rect's own kind of error: what told says of it. -/
import Derived.Below
import Derived.OrdersIn
import Derived.TacticsIn
import Derived.Test.YtcekbimohggnoaaDoorProg
import Derived.WalkKit
import Derived.LaidEql
import Derived.Stop.Asserts
import Derived.RowKitTokens
import Derived.KernelRfl
namespace Go.Proofs.YtcekbimohggnoaaDoor.AsRect
open Go Go.RowKit Go.Extern.Stop Go.Stop Go.Extern
set_option linter.unusedVariables false
set_option linter.unusedSimpArgs false

abbrev R : Nat := 100
abbrev E : Nat := 85
abbrev PE : Nat := 111
abbrev VT : Nat := 115
abbrev ER : Nat := 47
abbrev hd (t : Nat) : Value := .pointer (some ⟨2, t, none⟩)

theorem valueOfP (t : Addr) (w : World) : (ReflectliteValue.unpack (.iface PE (.pointer (some t)))).run Tryd.prog w
    = .ok (.agg #[hd PE, .pointer (some ⟨w.heap.size, 0, none⟩), .int .u64 150]) (w.alloc (.cells #[.pointer (some t)] PE)) := by kernel_rfl
theorem typeP (a : Addr) (w : World) : (ReflectliteValue.methodAny (ReflectliteValue.valueError "reflectlite.Value.Type" 0) (fun t _ _ _ => ReflectliteType.toType t) #[.agg #[hd PE, .pointer (some a), .int .u64 150]]).run Tryd.prog w
    = .ok (.iface R (.agg #[hd PE])) w := by kernel_rfl
theorem methodKind (d : Nat) (h : Value) (w : World) : (Go.method (d + 60) R (.agg #[h]) "Kind").run Tryd.prog w = .ok (76, h) w := by kernel_rfl
theorem kindP (w : World) : ((ReflectliteType.abiMethod fun t => (fun a : Nat => Value.int IntKind.u8 (a : Int)) <$> Rtype.kind t) #[hd PE]).run Tryd.prog w = .ok (.int .u8 22) w := by kernel_rfl
theorem kindE (w : World) : ((ReflectliteType.abiMethod fun t => (fun a : Nat => Value.int IntKind.u8 (a : Int)) <$> Rtype.kind t) #[hd E]).run Tryd.prog w = .ok (.int .u8 25) w := by kernel_rfl
theorem rlm (z : Sem Value) (f : TypeId → Addr → Nat → Nat → Sem Value) (v : Value) :
    ReflectliteValue.method z f #[v] = (do match ← ReflectliteValue.parts v with | none => z | some (t, a, fl) => f t a fl (fl % 32)) := rfl
theorem partsP (a : Addr) (w : World) : (ReflectliteValue.parts (.agg #[hd PE, .pointer (some a), .int .u64 150])).run Tryd.prog w = .ok (some (PE, a, 150)) w := by kernel_rfl
theorem undP : Tryd.prog.underlying PE = some (.pointer E) := by kernel_rfl
theorem isNilP (a p : Addr) (W : World) (ha : W.cell? a = some (.pointer (some p))) :
    (ReflectliteValue.method (ReflectliteValue.valueError "reflectlite.Value.IsNil" 0) ReflectliteValue.isNil #[.agg #[hd PE, .pointer (some a), .int .u64 150]]).run Tryd.prog W = .ok (.bool false) W := by
  rw [rlm]
  simp only [Sem.run_bind, partsP, Result.andThen]
  simp [ReflectliteValue.isNil, loadVar, isAgg, underlying, undP, ha, Result.andThen]
theorem methodElem (d : Nat) (h : Value) (w : World) : (Go.method (d + 60) R (.agg #[h]) "Elem").run Tryd.prog w = .ok (83, .agg #[h]) w := by kernel_rfl
theorem methodImplements (d : Nat) (h : Value) (w : World) : (Go.method (d + 60) R (.agg #[h]) "Implements").run Tryd.prog w = .ok (84, .agg #[h]) w := by kernel_rfl
theorem methodAssignableTo (d : Nat) (h : Value) (w : World) : (Go.method (d + 60) R (.agg #[h]) "AssignableTo").run Tryd.prog w = .ok (81, .agg #[h]) w := by kernel_rfl
theorem elemT (w : World) : (ReflectliteType.method ReflectliteType.elem #[.agg #[hd PE]]).run Tryd.prog w = .ok (.iface R (.agg #[hd E])) w := by kernel_rfl
theorem implE (w : World) : (ReflectliteType.relation "Implements" ReflectliteType.implements_ #[.agg #[hd E], .iface R (.agg #[hd ER])]).run Tryd.prog w = .ok (.bool true) w := by kernel_rfl
theorem typeOfE (v : Value) (w : World) : (ReflectliteType.typeOf #[.iface E v]).run Tryd.prog w = .ok (.iface R (.agg #[hd E])) w := by kernel_rfl
theorem assignE (w : World) : (ReflectliteType.relation "AssignableTo" ReflectliteType.assignableTo #[.agg #[hd E], .iface R (.agg #[hd E])]).run Tryd.prog w = .ok (.bool true) w := by kernel_rfl
theorem valueOfE (e : Int) (w : World) : (ReflectliteValue.unpack (.iface E (.agg #[.int .i64 e]))).run Tryd.prog w
    = .ok (.agg #[hd E, .pointer (some ⟨w.heap.size, 0, none⟩), .int .u64 153]) (w.alloc (.cells #[.int .i64 e] E)) := by kernel_rfl
theorem elemOfP (w : World) : (Rtype.elem? PE).run Tryd.prog w = .ok (some E) w := by kernel_rfl
theorem mkE (p : Addr) (w : World) : (ReflectliteValue.mk E p ReflectliteValue.flagAddr).run Tryd.prog w = .ok (.agg #[hd E, .pointer (some p), .int .u64 409]) w := by kernel_rfl
theorem elemV (a p : Addr) (W : World) (ha : W.cell? a = some (.pointer (some p))) :
    (ReflectliteValue.method (ReflectliteValue.valueError "reflectlite.Value.Elem" 0) ReflectliteValue.elem #[.agg #[hd PE, .pointer (some a), .int .u64 150]]).run Tryd.prog W
      = .ok (.agg #[hd E, .pointer (some p), .int .u64 409]) W := by
  rw [rlm]
  simp only [Sem.run_bind, partsP, Result.andThen]
  simp [ReflectliteValue.elem, loadVar, isAgg, underlying, undP, ha, Result.andThen, elemOfP, mkE]
theorem rls (v x : Value) : ReflectliteValue.set #[v, x] = (do
    let (some (dst, a, fl), some (src, b, _)) := (← ReflectliteValue.parts v, ← ReflectliteValue.parts x)
      | unsupported (.noEntry "extern/(internal/reflectlite.Value).Set.zeroValue")
    if fl / ReflectliteValue.flagAddr % 2 == 0 then unsupported (.noEntry "extern/(internal/reflectlite.Value).Set.unaddressable")
    let val ← loadVar src b
    if ← Rtype.directlyAssignable dst src then storeVar dst a val
    else if ← Rtype.implements dst src then
      if (← Rtype.kind src) == 20 then
        match val with
        | .nilIface => unsupported (.noEntry "extern/reflectlite: a nil value of one interface type handed on as a value of another")
        | _ => storeVar dst a val
      else storeVar dst a (.iface src val)
    else panicString ("reflectlite.Set: value of type " ++ (← Rtype.spelt src) ++ " is not assignable to type " ++ (← Rtype.spelt dst))
    pure (.tuple #[])) := rfl
theorem partsEa (a : Addr) (w : World) : (ReflectliteValue.parts (.agg #[hd E, .pointer (some a), .int .u64 409])).run Tryd.prog w = .ok (some (E, a, 409)) w := by kernel_rfl
theorem partsE (a : Addr) (w : World) : (ReflectliteValue.parts (.agg #[hd E, .pointer (some a), .int .u64 153])).run Tryd.prog w = .ok (some (E, a, 153)) w := by kernel_rfl
theorem directE (w : World) : (Rtype.directlyAssignable E E).run Tryd.prog w = .ok true w := by kernel_rfl
theorem sizeE (w : World) : (sizeOf E).run Tryd.prog w = .ok 1 w := by kernel_rfl
theorem undE : (Tryd.prog.underlying E).map (fun d => match d with | .struct _ => true | _ => false) = some true := by kernel_rfl
theorem isAggE (w : World) : (isAgg E).run Tryd.prog w = .ok true w := by kernel_rfl
theorem loadE (b : Nat) (e : Int) (W : World) (hb : W.cell? ⟨b, 0, none⟩ = some (.int .i64 e)) : (loadVar E ⟨b, 0, none⟩).run Tryd.prog W = .ok (.agg #[.int .i64 e]) W := by
  simp [loadVar, isAggE, sizeE, Result.andThen, loadCells, loadCellsFrom, Addr.add, hb]
/-- (Value).Set: the variable at 'ta' gets what the Value's own variable 'b' holds. -/
theorem setE (ta b : Nat) (e : Int) (old : Value) (W : World) (hb : W.cell? ⟨b, 0, none⟩ = some (.int .i64 e)) (ht : W.cell? ⟨ta, 0, none⟩ = some old) (hf : W.frozen? ⟨ta, 0, none⟩ = false) :
    (ReflectliteValue.set #[.agg #[hd E, .pointer (some ⟨ta, 0, none⟩), .int .u64 409], .agg #[hd E, .pointer (some ⟨b, 0, none⟩), .int .u64 153]]).run Tryd.prog W
      = .ok (.tuple #[]) (W.setCell ⟨ta, 0, none⟩ (.int .i64 e)) := by
  rw [rls]
  simp only [Sem.run_bind, partsEa, partsE, Result.andThen]
  simp [ReflectliteValue.flagAddr, loadE _ _ _ hb, Result.andThen, directE, storeVar, Value.cells, storeCells, Addr.add, sizeE]
  rw [run_store Tryd.prog W ⟨ta, 0, none⟩ _ _ (by rfl)]
  simp [ht, hf]

theorem as_nil (t : Value) (w : World) :
    Calls Tryd.prog 55 #[.nilIface, t] w fun e w' => e = .returned (.bool false) ∧ w' = w := by
  go_enter Tryd.func55, Tryd.ntmps55
  go_wp2
  go_ret
  exact ⟨rfl, rfl⟩

set_option maxHeartbeats 4000000 in
theorem as_hit (e : Int) (tb : Nat) (old : Value) (w : World) (hg : w.cell? ⟨1, 0, none⟩ = some (.iface R (.agg #[hd ER]))) (ht0 : w.cell? ⟨tb, 0, none⟩ = some old) (hf0 : w.frozen? ⟨tb, 0, none⟩ = false) :
    Calls Tryd.prog 55 #[.iface E (.agg #[.int .i64 e]), .iface PE (.pointer (some ⟨tb, 0, none⟩))] w fun ev w' => ev = .returned (.bool true) ∧ w' = ((((w.alloc (.cells #[.pointer (some ⟨tb, 0, none⟩)] PE)).alloc (.cells #[hd PE, .pointer (some ⟨w.heap.size, 0, none⟩), .int .u64 150] VT)).alloc (.cells #[hd PE, .pointer (some ⟨w.heap.size, 0, none⟩), .int .u64 150] VT)).alloc (.cells #[.int .i64 e] E)).setCell ⟨tb, 0, none⟩ (.int .i64 e) := by
  have h6 := @run_callFunc_extern Tryd.prog 56 _ (fun args => ReflectliteValue.unpack (args.getD 0 (.tuple #[]))) Tryd.func56 (by kernel_rfl) (by kernel_rfl) (by kernel_rfl) (by kernel_rfl)
  have h7 := @run_callFunc_extern Tryd.prog 57 _ (ReflectliteValue.methodAny (ReflectliteValue.valueError "reflectlite.Value.Type" 0) (fun t _ _ _ => ReflectliteType.toType t)) Tryd.func57 (by kernel_rfl) (by kernel_rfl) (by kernel_rfl) (by kernel_rfl)
  have h8 := @run_callFunc_extern Tryd.prog 58 _ (ReflectliteValue.method (ReflectliteValue.valueError "reflectlite.Value.IsNil" 0) ReflectliteValue.isNil) Tryd.func58 (by kernel_rfl) (by kernel_rfl) (by kernel_rfl) (by kernel_rfl)
  have h27 := @run_callFunc_extern Tryd.prog 76 _ (ReflectliteType.abiMethod fun t => do pure (.int .u8 (← Rtype.kind t))) Tryd.func76 (by kernel_rfl) (by kernel_rfl) (by kernel_rfl) (by kernel_rfl)
  have h37 := @run_callFunc_extern Tryd.prog 83 _ (ReflectliteType.method ReflectliteType.elem) Tryd.func83 (by kernel_rfl) (by kernel_rfl) (by kernel_rfl) (by kernel_rfl)
  have h38 := @run_callFunc_extern Tryd.prog 84 _ (ReflectliteType.relation "Implements" ReflectliteType.implements_) Tryd.func84 (by kernel_rfl) (by kernel_rfl) (by kernel_rfl) (by kernel_rfl)
  have h10 := @run_callFunc_extern Tryd.prog 46 _ ReflectliteType.typeOf Tryd.func46 (by kernel_rfl) (by kernel_rfl) (by kernel_rfl) (by kernel_rfl)
  have h35 := @run_callFunc_extern Tryd.prog 81 _ (ReflectliteType.relation "AssignableTo" ReflectliteType.assignableTo) Tryd.func81 (by kernel_rfl) (by kernel_rfl) (by kernel_rfl) (by kernel_rfl)
  have h11 := @run_callFunc_extern Tryd.prog 60 _ (ReflectliteValue.method (ReflectliteValue.valueError "reflectlite.Value.Elem" 0) ReflectliteValue.elem) Tryd.func60 (by kernel_rfl) (by kernel_rfl) (by kernel_rfl) (by kernel_rfl)
  have h12 := @run_callFunc_extern Tryd.prog 61 _ ReflectliteValue.set Tryd.func61 (by kernel_rfl) (by kernel_rfl) (by kernel_rfl) (by kernel_rfl)
  have tO := typeOfE
  have mA := methodAssignableTo
  have a25 := assignE
  have v25 := valueOfE
  have f6 := valueOfP
  have f7 := typeP
  have mK := methodKind
  have mE := methodElem
  have mI := methodImplements
  have k27 := kindP
  have k25 := kindE
  have e27 := elemT
  have i25 := implE
  simp only [E, PE, R, VT, ER, hd] at *
  have n8 := isNilP ⟨w.heap.size, 0, none⟩ ⟨tb, 0, none⟩ ((w.alloc (.cells #[.pointer (some ⟨tb, 0, none⟩)] PE)).alloc (.cells #[hd PE, .pointer (some ⟨w.heap.size, 0, none⟩), .int .u64 150] VT)) (by simp)
  have hlt : 1 < w.heap.size := by
    rcases Nat.lt_or_ge 1 w.heap.size with h | h
    · exact h
    · simp [World.cell?, Array.getElem?_eq_none h] at hg
  have hg2 : ((w.alloc (.cells #[.pointer (some ⟨tb, 0, none⟩)] PE)).alloc (.cells #[hd PE, .pointer (some ⟨w.heap.size, 0, none⟩), .int .u64 150] VT)).cell? ⟨1, 0, none⟩ = some (.iface R (.agg #[hd ER])) := by
    rw [World.cell?_alloc_lt _ _ ⟨1, 0, none⟩ (by simp only [World.size_alloc]; omega), World.cell?_alloc_lt _ _ ⟨1, 0, none⟩ hlt]; exact hg
  have htl : tb < w.heap.size := by
    rcases Nat.lt_or_ge tb w.heap.size with h | h
    · exact h
    · simp [World.cell?, Array.getElem?_eq_none h] at ht0
  have el := elemV ⟨w.heap.size, 0, none⟩ ⟨tb, 0, none⟩ (((w.alloc (.cells #[.pointer (some ⟨tb, 0, none⟩)] PE)).alloc (.cells #[hd PE, .pointer (some ⟨w.heap.size, 0, none⟩), .int .u64 150] VT)).alloc (.cells #[hd PE, .pointer (some ⟨w.heap.size, 0, none⟩), .int .u64 150] VT)) (by rw [World.cell?_alloc_lt _ _ ⟨w.heap.size, 0, none⟩ (by simp only [World.size_alloc]; omega)]; simp)
  have st := setE tb (w.heap.size + 1 + 1 + 1) e old ((((w.alloc (.cells #[.pointer (some ⟨tb, 0, none⟩)] PE)).alloc (.cells #[hd PE, .pointer (some ⟨w.heap.size, 0, none⟩), .int .u64 150] VT)).alloc (.cells #[hd PE, .pointer (some ⟨w.heap.size, 0, none⟩), .int .u64 150] VT)).alloc (.cells #[.int .i64 e] E))
    (by have := World.cell?_alloc_new (((w.alloc (.cells #[.pointer (some ⟨tb, 0, none⟩)] PE)).alloc (.cells #[hd PE, .pointer (some ⟨w.heap.size, 0, none⟩), .int .u64 150] VT)).alloc (.cells #[hd PE, .pointer (some ⟨w.heap.size, 0, none⟩), .int .u64 150] VT)) #[.int .i64 e] E 0; simpa using this)
    (by rw [World.cell?_alloc_lt _ _ ⟨tb, 0, none⟩ (by simp only [World.size_alloc]; omega), World.cell?_alloc_lt _ _ ⟨tb, 0, none⟩ (by simp only [World.size_alloc]; omega), World.cell?_alloc_lt _ _ ⟨tb, 0, none⟩ (by simp only [World.size_alloc]; omega), World.cell?_alloc_lt _ _ ⟨tb, 0, none⟩ htl]; exact ht0)
    (by rw [World.frozen?_alloc_old _ _ ⟨tb, 0, none⟩ (by simp only [World.size_alloc]; omega), World.frozen?_alloc_old _ _ ⟨tb, 0, none⟩ (by simp only [World.size_alloc]; omega), World.frozen?_alloc_old _ _ ⟨tb, 0, none⟩ (by simp only [World.size_alloc]; omega), World.frozen?_alloc_old _ _ ⟨tb, 0, none⟩ (Nat.ne_of_lt htl)]; exact hf0)
  simp only [E, PE, R, VT, ER, hd] at *
  go_enter Tryd.func55, Tryd.ntmps55
  go_wp2
  refine wp_loop_rounds 1 ?_
  rw [rounds_succ]
  go_wp2
  go_ret
  exact ⟨rfl, rfl⟩

end Go.Proofs.YtcekbimohggnoaaDoor.AsRect
