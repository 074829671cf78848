/- errors.Is over this program's own error that wraps one of errors.New's make: Go's own text, walked. No conditions. -/
import Derived.Test.YtenndgooepdmiaaGreatDoorAMJ4
import Derived.Test.YtenndgooepdmiaaGreatDoorChecked
import Derived.KernelRfl
import Derived.WalkKit
import Derived.LaidEql
import Derived.Stop.Asserts
import Derived.RowKitTokens
import Derived.Shelf.Abstract
set_option maxRecDepth 20000
namespace Go.Proofs.YtenndgooepdmiaaGreatDoor
open Go Go.AM Go.Proofs Go.RowKit Go.Extern.Stop Go.Stop Go.Extern Go.Shelf
theorem eTypeOf (v : Value) (w : World) : (Extern.ReflectliteType.typeOf #[.iface 161 v]).run Tryz.prog w = .ok (.iface 137 (.agg #[.pointer (some ⟨3, 161, none⟩)])) w := by kernel_rfl
/-- What the model has of a type's Comparable. -/
def cmpX : Array Value → Sem Value := Extern.ReflectliteType.method fun t => do Go.Extern.Rtype.noPackHeld "Comparable" t; pure (.bool (← typeInfo t).comparable)
theorem eComparable (w : World) : (cmpX #[.agg #[.pointer (some ⟨3, 161, none⟩)]]).run Tryz.prog w = .ok (.bool true) w := by kernel_rfl
theorem eMethodComparable (v : Value) (w : World) : (Go.method 294 137 v "Comparable").run Tryz.prog w = .ok (122, v) w := by kernel_rfl
theorem eComp : (Tryz.prog.info? 161).map (·.comparable) = some true := by kernel_rfl
theorem eSize : (Tryz.prog.info? 183).map (·.size) = some 1 := by kernel_rfl
theorem eNoIsW (v : Value) (xT : TypeId) (w : World) : (Instr.typeAssert (.iface 86 v) xT 139 true).run Tryz.prog w = .ok (.tuple #[.nilIface, .bool false]) w := run_typeAssert_lacksB Tryz.underlying139 (by kernel_rfl) (by kernel_rfl) v xT w
theorem eHasUnwrapW (v : Value) (xT : TypeId) (w : World) : (Instr.typeAssert (.iface 86 v) xT 142 true).run Tryz.prog w = .ok (.tuple #[.iface 86 v, .bool true]) w := run_typeAssert_hasB Tryz.underlying142 (by kernel_rfl) v xT w
theorem eNoIsE (v : Value) (xT : TypeId) (w : World) : (Instr.typeAssert (.iface 161 v) xT 139 true).run Tryz.prog w = .ok (.tuple #[.nilIface, .bool false]) w := run_typeAssert_lacksB Tryz.underlying139 (by kernel_rfl) (by kernel_rfl) v xT w
theorem eNoUnwrapE (v : Value) (xT : TypeId) (w : World) : (Instr.typeAssert (.iface 161 v) xT 142 true).run Tryz.prog w = .ok (.tuple #[.nilIface, .bool false]) w := run_typeAssert_lacksB Tryz.underlying142 (by kernel_rfl) (by kernel_rfl) v xT w
theorem eNoUnwrapsE (v : Value) (xT : TypeId) (w : World) : (Instr.typeAssert (.iface 161 v) xT 144 true).run Tryz.prog w = .ok (.tuple #[.nilIface, .bool false]) w := run_typeAssert_lacksB Tryz.underlying144 (by kernel_rfl) (by kernel_rfl) v xT w
theorem eMethodUnwrap (v : Value) (w : World) : (Go.method 294 86 v "Unwrap").run Tryz.prog w = .ok (118, v) w := by kernel_rfl
theorem is_wrap_same (pb : Nat) (b : Addr) (w : World) (h1 : w.cell? ⟨pb, 1, none⟩ = some (.iface 161 (.pointer (some b)))) :
    Calls Tryz.prog 46 #[.iface 86 (.pointer (some ⟨pb, 0, none⟩)), .iface 161 (.pointer (some b))] w fun e w' => e = .returned (.bool true) ∧ w' = w := by
  obtain ⟨i, hi, hcmp⟩ := Option.map_eq_some_iff.1 eComp
  obtain ⟨j, hj, hjs⟩ := Option.map_eq_some_iff.1 eSize
  have h8 := @run_callFunc_extern Tryz.prog 65 _ Extern.ReflectliteType.typeOf Tryz.func65 (by kernel_rfl) (by kernel_rfl) (by kernel_rfl) (by kernel_rfl)
  have h32 := @run_callFunc_extern Tryz.prog 122 _ cmpX Tryz.func122 (by kernel_rfl) (by kernel_rfl) (by kernel_rfl) (by kernel_rfl)
  have tT := eTypeOf
  have cT := eComparable
  have mR := eMethodComparable
  have nW := eNoIsW
  have uW := eHasUnwrapW
  have mU := eMethodUnwrap
  have heq := run_eql_iface_ptr_same (P := Tryz.prog) w b Tryz.underlying52 Tryz.underlying161 hi hcmp hj
  have hty := run_eql_iface_types (P := Tryz.prog) 86 161 (.pointer (some ⟨pb, 0, none⟩)) (.pointer (some b)) Tryz.underlying52 (by decide) w
  go_enter Tryz.func46, Tryz.ntmps46
  go_wp2
  refine wp_loop_rounds 2 ?_
  rw [rounds_succ]
  go_wp2
  rw [rounds_succ]
  go_wp2
  go_ret
  exact ⟨rfl, rfl⟩
theorem is_wrap_other (pb : Nat) (b a : Addr) (ca cb : Array Value) (ta tb : TypeId) (w : World) (h1 : w.cell? ⟨pb, 1, none⟩ = some (.iface 161 (.pointer (some a)))) (hne : a ≠ b) (ha : w.heap[a.block]? = some (.cells ca ta (0, 0))) (hb : w.heap[b.block]? = some (.cells cb tb (0, 0))) :
    Calls Tryz.prog 46 #[.iface 86 (.pointer (some ⟨pb, 0, none⟩)), .iface 161 (.pointer (some b))] w fun e w' => e = .returned (.bool false) ∧ w' = w := by
  obtain ⟨i, hi, hcmp⟩ := Option.map_eq_some_iff.1 eComp
  obtain ⟨j, hj, hjs⟩ := Option.map_eq_some_iff.1 eSize
  have h8 := @run_callFunc_extern Tryz.prog 65 _ Extern.ReflectliteType.typeOf Tryz.func65 (by kernel_rfl) (by kernel_rfl) (by kernel_rfl) (by kernel_rfl)
  have h32 := @run_callFunc_extern Tryz.prog 122 _ cmpX Tryz.func122 (by kernel_rfl) (by kernel_rfl) (by kernel_rfl) (by kernel_rfl)
  have tT := eTypeOf
  have cT := eComparable
  have mR := eMethodComparable
  have nE := eNoIsE
  have uE := eNoUnwrapE
  have vE := eNoUnwrapsE
  have nW := eNoIsW
  have uW := eHasUnwrapW
  have mU := eMethodUnwrap
  have heq := run_eql_iface_ptr_other (P := Tryz.prog) w Tryz.underlying52 Tryz.underlying161 hi hcmp hj (by rw [hjs]; decide) hne ha hb
  have hty := run_eql_iface_types (P := Tryz.prog) 86 161 (.pointer (some ⟨pb, 0, none⟩)) (.pointer (some b)) Tryz.underlying52 (by decide) w
  go_enter Tryz.func46, Tryz.ntmps46
  go_wp2
  refine wp_loop_rounds 2 ?_
  rw [rounds_succ]
  go_wp2
  rw [rounds_succ]
  go_wp2
  go_ret
  exact ⟨rfl, rfl⟩
theorem isC : IsC Tryz.prog 46 86 161 where
  ent := enters_of Tryz.func46 (by kernel_rfl) rfl
  same := is_wrap_same
  other := is_wrap_other
end Go.Proofs.YtenndgooepdmiaaGreatDoor
