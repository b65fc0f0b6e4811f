/- errors.Is at a sentinel: the sentinel itself, another one, style's own kind of error. -/
import Derived.Test.YtgmeglodnhagdaaGreatDoorAsStyle
import Derived.WalkKit
import Derived.LaidEql
import Derived.Stop.Asserts
import Derived.RowKitTokens
namespace Go.Proofs.YtgmeglodnhagdaaGreatDoor.AsStyle
open Go Go.RowKit Go.Extern.Stop Go.Stop Go.Extern
set_option linter.unusedVariables false
set_option linter.unusedSimpArgs false

abbrev ES : Nat := 188
theorem isTypeOf (v : Value) (w : World) : (Extern.ReflectliteType.typeOf #[.iface ES v]).run Tryz.prog w = .ok (.iface R (.agg #[.pointer (some ⟨13, ES, none⟩)])) w := by kernel_rfl
theorem isComparable (w : World) : ((Extern.ReflectliteType.method fun t => do Go.Extern.Rtype.noPackHeld "Comparable" t; pure (.bool (← typeInfo t).comparable)) #[.agg #[.pointer (some ⟨13, ES, none⟩)]]).run Tryz.prog w = .ok (.bool true) w := by kernel_rfl
theorem callComparable (w : World) : (callFunc 191 #[.agg #[.pointer (some ⟨13, ES, none⟩)]]).run Tryz.prog w = .ok (.value (.bool true)) w := by
  have h32 := @run_callFunc_extern Tryz.prog 191 _ (Extern.ReflectliteType.method fun t => do Go.Extern.Rtype.noPackHeld "Comparable" t; pure (.bool (← typeInfo t).comparable)) Tryz.func191 (by kernel_rfl) (by kernel_rfl) (by kernel_rfl) (by kernel_rfl)
  rw [h32, isComparable]
  rfl
theorem isMethodComparable (d : Nat) (v : Value) (w : World) : (Go.method (d + 60) R v "Comparable").run Tryz.prog w = .ok (191, v) w := by kernel_rfl
theorem isComp : (Tryz.prog.info? ES).map (·.comparable) = some true := by kernel_rfl
theorem isSize : (Tryz.prog.info? 190).map (·.size) = some 1 := by kernel_rfl
theorem noIsE (v : Value) (xT : TypeId) (w : World) : (Instr.typeAssert (.iface ES v) xT 153 true).run Tryz.prog w = .ok (.tuple #[.nilIface, .bool false]) w := run_typeAssert_lacksB Tryz.underlying153 (by kernel_rfl) (by kernel_rfl) v xT w
theorem noUnwrapE (v : Value) (xT : TypeId) (w : World) : (Instr.typeAssert (.iface ES v) xT 148 true).run Tryz.prog w = .ok (.tuple #[.nilIface, .bool false]) w := run_typeAssert_lacksB Tryz.underlying148 (by kernel_rfl) (by kernel_rfl) v xT w
theorem noUnwrapsE (v : Value) (xT : TypeId) (w : World) : (Instr.typeAssert (.iface ES v) xT 150 true).run Tryz.prog w = .ok (.tuple #[.nilIface, .bool false]) w := run_typeAssert_lacksB Tryz.underlying150 (by kernel_rfl) (by kernel_rfl) v xT w
theorem noIsW (v : Value) (xT : TypeId) (w : World) : (Instr.typeAssert (.iface E v) xT 153 true).run Tryz.prog w = .ok (.tuple #[.nilIface, .bool false]) w := run_typeAssert_lacksB Tryz.underlying153 (by kernel_rfl) (by kernel_rfl) v xT w
theorem hasUnwrapW (v : Value) (xT : TypeId) (w : World) : (Instr.typeAssert (.iface E v) xT 148 true).run Tryz.prog w = .ok (.tuple #[.iface E v, .bool true]) w := run_typeAssert_hasB Tryz.underlying148 (by kernel_rfl) v xT w
theorem methodUnwrap (d : Nat) (v : Value) (w : World) : (Go.method (d + 60) E v "Unwrap").run Tryz.prog w = .ok (185, v) w := by kernel_rfl

/-- errors.Is(x, x), x a pointer to an errors.errorString. -/
theorem is_same (a : Addr) (w : World) :
    Calls Tryz.prog 70 #[.iface ES (.pointer (some a)), .iface ES (.pointer (some a))] w fun e w' => e = .returned (.bool true) ∧ w' = w := by
  obtain ⟨i, hi, hcmp⟩ := Option.map_eq_some_iff.1 isComp
  obtain ⟨j, hj, hjs⟩ := Option.map_eq_some_iff.1 isSize
  have h8 := @run_callFunc_extern Tryz.prog 114 _ Extern.ReflectliteType.typeOf Tryz.func114 (by kernel_rfl) (by kernel_rfl) (by kernel_rfl) (by kernel_rfl)
  have h32 := callComparable
  have tT := isTypeOf
  have mR := isMethodComparable
  have heq := run_eql_iface_ptr_same (P := Tryz.prog) w a Tryz.underlying56 Tryz.underlying188 hi hcmp hj
  simp only [ES, R] at *
  go_enter Tryz.func70, Tryz.ntmps70
  go_wp2
  refine wp_loop_rounds 1 ?_
  rw [rounds_succ]
  go_wp2
  go_ret
  exact ⟨rfl, rfl⟩

/-- errors.Is(x, y), two different pointers to errors.errorString: neither has Is nor Unwrap: false. -/
theorem is_other (a b : Addr) (ca cb : Array Value) (ta tb : TypeId) (w : World) (hne : a ≠ b) (ha : w.heap[a.block]? = some (.cells ca ta (0, 0))) (hb : w.heap[b.block]? = some (.cells cb tb (0, 0))) :
    Calls Tryz.prog 70 #[.iface ES (.pointer (some a)), .iface ES (.pointer (some b))] w fun e w' => e = .returned (.bool false) ∧ w' = w := by
  obtain ⟨i, hi, hcmp⟩ := Option.map_eq_some_iff.1 isComp
  obtain ⟨j, hj, hjs⟩ := Option.map_eq_some_iff.1 isSize
  have h8 := @run_callFunc_extern Tryz.prog 114 _ Extern.ReflectliteType.typeOf Tryz.func114 (by kernel_rfl) (by kernel_rfl) (by kernel_rfl) (by kernel_rfl)
  have h32 := callComparable
  have tT := isTypeOf
  have mR := isMethodComparable
  have nE := noIsE
  have uE := noUnwrapE
  have vE := noUnwrapsE
  have heq := run_eql_iface_ptr_other (P := Tryz.prog) w Tryz.underlying56 Tryz.underlying188 hi hcmp hj (by rw [hjs]; decide) hne ha hb
  simp only [ES, R] at *
  go_enter Tryz.func70, Tryz.ntmps70
  go_wp2
  refine wp_loop_rounds 1 ?_
  rw [rounds_succ]
  go_wp2
  go_ret
  exact ⟨rfl, rfl⟩

/-- errors.Is(e, x), e of style's own kind, that bears x itself, or nothing. -/
theorem is_wrap_same (n : Int) (b : Addr) (w : World) :
    Calls Tryz.prog 70 #[.iface E (.agg #[.int .i64 n, .iface ES (.pointer (some b))]), .iface ES (.pointer (some b))] w fun e w' => e = .returned (.bool true) ∧ Below w.heap.size w w' := by
  obtain ⟨i, hi, hcmp⟩ := Option.map_eq_some_iff.1 isComp
  obtain ⟨j, hj, hjs⟩ := Option.map_eq_some_iff.1 isSize
  have h8 := @run_callFunc_extern Tryz.prog 114 _ Extern.ReflectliteType.typeOf Tryz.func114 (by kernel_rfl) (by kernel_rfl) (by kernel_rfl) (by kernel_rfl)
  have h32 := callComparable
  have tT := isTypeOf
  have mR := isMethodComparable
  have nW := noIsW
  have uW := hasUnwrapW
  have mU := methodUnwrap
  have heq := fun w => run_eql_iface_ptr_same (P := Tryz.prog) w b Tryz.underlying56 Tryz.underlying188 hi hcmp hj
  have hty := run_eql_iface_types (P := Tryz.prog) E ES (.agg #[.int .i64 n, .iface ES (.pointer (some b))]) (.pointer (some b)) Tryz.underlying56 (by decide)
  simp only [ES, R, E] at *
  go_enter Tryz.func70, Tryz.ntmps70
  go_wp2
  refine wp_loop_rounds 2 ?_
  rw [rounds_succ]
  go_wp2
  rw [rounds_succ]
  go_wp2
  go_ret
  exact ⟨rfl, by first | exact Below.refl _ _ | exact (Below.refl _ _).alloc (Nat.le_refl _) _⟩
theorem is_wrap_nil (n : Int) (b : Addr) (w : World) :
    Calls Tryz.prog 70 #[.iface E (.agg #[.int .i64 n, .nilIface]), .iface ES (.pointer (some b))] w fun e w' => e = .returned (.bool false) ∧ Below w.heap.size w w' := by
  have h8 := @run_callFunc_extern Tryz.prog 114 _ Extern.ReflectliteType.typeOf Tryz.func114 (by kernel_rfl) (by kernel_rfl) (by kernel_rfl) (by kernel_rfl)
  have h32 := callComparable
  have tT := isTypeOf
  have mR := isMethodComparable
  have nW := noIsW
  have uW := hasUnwrapW
  have mU := methodUnwrap
  have hty := run_eql_iface_types (P := Tryz.prog) E ES (.agg #[.int .i64 n, .nilIface]) (.pointer (some b)) Tryz.underlying56 (by decide)
  simp only [ES, R, E] at *
  go_enter Tryz.func70, Tryz.ntmps70
  go_wp2
  refine wp_loop_rounds 2 ?_
  rw [rounds_succ]
  go_wp2
  go_ret
  exact ⟨rfl, by first | exact Below.refl _ _ | exact (Below.refl _ _).alloc (Nat.le_refl _) _⟩
end Go.Proofs.YtgmeglodnhagdaaGreatDoor.AsStyle
