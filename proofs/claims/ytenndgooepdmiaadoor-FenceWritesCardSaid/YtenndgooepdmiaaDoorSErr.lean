/- errors.Is over this program's own error that wraps one of errors.New's make: Go's own text, walked. No conditions. -/
import Derived.Test.YtenndgooepdmiaaDoorAMJ4
import Derived.Test.YtenndgooepdmiaaDoorChecked
import Derived.KernelRfl
import Derived.WalkKit
import Derived.LaidEql
import Derived.Stop.Asserts
import Derived.RowKitTokens
import Derived.Shelf.Abstract
set_option maxRecDepth 20000
namespace Go.Proofs.YtenndgooepdmiaaDoor
open Go Go.AM Go.Proofs Go.RowKit Go.Extern.Stop Go.Stop Go.Extern Go.Shelf
theorem eTypeOf (v : Value) (w : World) : (Extern.ReflectliteType.typeOf #[.iface 157 v]).run Tryd.prog w = .ok (.iface 121 (.agg #[.pointer (some ⟨3, 157, none⟩)])) w := by kernel_rfl
/-- What the model has of a type's Comparable. -/
def cmpX : Array Value → Sem Value := Extern.ReflectliteType.method fun t => do Go.Extern.Rtype.noPackHeld "Comparable" t; pure (.bool (← typeInfo t).comparable)
theorem eComparable (w : World) : (cmpX #[.agg #[.pointer (some ⟨3, 157, none⟩)]]).run Tryd.prog w = .ok (.bool true) w := by kernel_rfl
theorem eMethodComparable (v : Value) (w : World) : (Go.method 290 121 v "Comparable").run Tryd.prog w = .ok (109, v) w := by kernel_rfl
theorem eComp : (Tryd.prog.info? 157).map (·.comparable) = some true := by kernel_rfl
theorem eSize : (Tryd.prog.info? 179).map (·.size) = some 1 := by kernel_rfl
theorem eNoIsW (v : Value) (xT : TypeId) (w : World) : (Instr.typeAssert (.iface 76 v) xT 123 true).run Tryd.prog w = .ok (.tuple #[.nilIface, .bool false]) w := run_typeAssert_lacksB Tryd.underlying123 (by kernel_rfl) (by kernel_rfl) v xT w
theorem eHasUnwrapW (v : Value) (xT : TypeId) (w : World) : (Instr.typeAssert (.iface 76 v) xT 126 true).run Tryd.prog w = .ok (.tuple #[.iface 76 v, .bool true]) w := run_typeAssert_hasB Tryd.underlying126 (by kernel_rfl) v xT w
theorem eNoIsE (v : Value) (xT : TypeId) (w : World) : (Instr.typeAssert (.iface 157 v) xT 123 true).run Tryd.prog w = .ok (.tuple #[.nilIface, .bool false]) w := run_typeAssert_lacksB Tryd.underlying123 (by kernel_rfl) (by kernel_rfl) v xT w
theorem eNoUnwrapE (v : Value) (xT : TypeId) (w : World) : (Instr.typeAssert (.iface 157 v) xT 126 true).run Tryd.prog w = .ok (.tuple #[.nilIface, .bool false]) w := run_typeAssert_lacksB Tryd.underlying126 (by kernel_rfl) (by kernel_rfl) v xT w
theorem eNoUnwrapsE (v : Value) (xT : TypeId) (w : World) : (Instr.typeAssert (.iface 157 v) xT 128 true).run Tryd.prog w = .ok (.tuple #[.nilIface, .bool false]) w := run_typeAssert_lacksB Tryd.underlying128 (by kernel_rfl) (by kernel_rfl) v xT w
theorem eMethodUnwrap (v : Value) (w : World) : (Go.method 290 76 v "Unwrap").run Tryd.prog w = .ok (105, v) w := by kernel_rfl
theorem is_wrap_same (pb : Nat) (b : Addr) (w : World) (h1 : w.cell? ⟨pb, 1, none⟩ = some (.iface 157 (.pointer (some b)))) :
    Calls Tryd.prog 33 #[.iface 76 (.pointer (some ⟨pb, 0, none⟩)), .iface 157 (.pointer (some b))] w fun e w' => e = .returned (.bool true) ∧ w' = w := by
  obtain ⟨i, hi, hcmp⟩ := Option.map_eq_some_iff.1 eComp
  obtain ⟨j, hj, hjs⟩ := Option.map_eq_some_iff.1 eSize
  have h8 := @run_callFunc_extern Tryd.prog 53 _ Extern.ReflectliteType.typeOf Tryd.func53 (by kernel_rfl) (by kernel_rfl) (by kernel_rfl) (by kernel_rfl)
  have h32 := @run_callFunc_extern Tryd.prog 109 _ cmpX Tryd.func109 (by kernel_rfl) (by kernel_rfl) (by kernel_rfl) (by kernel_rfl)
  have tT := eTypeOf
  have cT := eComparable
  have mR := eMethodComparable
  have nW := eNoIsW
  have uW := eHasUnwrapW
  have mU := eMethodUnwrap
  have heq := run_eql_iface_ptr_same (P := Tryd.prog) w b Tryd.underlying54 Tryd.underlying157 hi hcmp hj
  have hty := run_eql_iface_types (P := Tryd.prog) 76 157 (.pointer (some ⟨pb, 0, none⟩)) (.pointer (some b)) Tryd.underlying54 (by decide) w
  go_enter Tryd.func33, Tryd.ntmps33
  go_wp2
  refine wp_loop_rounds 2 ?_
  rw [rounds_succ]
  go_wp2
  rw [rounds_succ]
  go_wp2
  go_ret
  exact ⟨rfl, rfl⟩
theorem is_wrap_other (pb : Nat) (b a : Addr) (ca cb : Array Value) (ta tb : TypeId) (w : World) (h1 : w.cell? ⟨pb, 1, none⟩ = some (.iface 157 (.pointer (some a)))) (hne : a ≠ b) (ha : w.heap[a.block]? = some (.cells ca ta (0, 0))) (hb : w.heap[b.block]? = some (.cells cb tb (0, 0))) :
    Calls Tryd.prog 33 #[.iface 76 (.pointer (some ⟨pb, 0, none⟩)), .iface 157 (.pointer (some b))] w fun e w' => e = .returned (.bool false) ∧ w' = w := by
  obtain ⟨i, hi, hcmp⟩ := Option.map_eq_some_iff.1 eComp
  obtain ⟨j, hj, hjs⟩ := Option.map_eq_some_iff.1 eSize
  have h8 := @run_callFunc_extern Tryd.prog 53 _ Extern.ReflectliteType.typeOf Tryd.func53 (by kernel_rfl) (by kernel_rfl) (by kernel_rfl) (by kernel_rfl)
  have h32 := @run_callFunc_extern Tryd.prog 109 _ cmpX Tryd.func109 (by kernel_rfl) (by kernel_rfl) (by kernel_rfl) (by kernel_rfl)
  have tT := eTypeOf
  have cT := eComparable
  have mR := eMethodComparable
  have nE := eNoIsE
  have uE := eNoUnwrapE
  have vE := eNoUnwrapsE
  have nW := eNoIsW
  have uW := eHasUnwrapW
  have mU := eMethodUnwrap
  have heq := run_eql_iface_ptr_other (P := Tryd.prog) w Tryd.underlying54 Tryd.underlying157 hi hcmp hj (by rw [hjs]; decide) hne ha hb
  have hty := run_eql_iface_types (P := Tryd.prog) 76 157 (.pointer (some ⟨pb, 0, none⟩)) (.pointer (some b)) Tryd.underlying54 (by decide) w
  go_enter Tryd.func33, Tryd.ntmps33
  go_wp2
  refine wp_loop_rounds 2 ?_
  rw [rounds_succ]
  go_wp2
  rw [rounds_succ]
  go_wp2
  go_ret
  exact ⟨rfl, rfl⟩
theorem isC : IsC Tryd.prog 33 76 157 where
  ent := enters_of Tryd.func33 (by kernel_rfl) rfl
  same := is_wrap_same
  other := is_wrap_other
end Go.Proofs.YtenndgooepdmiaaDoor
