/- Closed facts of Go's errors.As and errors.Is at this program's types: printed by a program of ours. Conditions: none but those that each theorem states. -/
import Derived.Test.YtfaaeeabiikhbaaGreatDoorProg
import Derived.WalkKit
import Derived.LaidEql
import Derived.Stop.Asserts
import Derived.RowKitTokens
import Derived.Deep.LoopGhost
import Derived.Below
import Derived.Test.YtfaaeeabiikhbaaGreatDoorErrT
namespace Go.Proofs
open Go.RowKit Go.Extern.Stop Go.Stop Go.Extern Go.Tr
set_option maxRecDepth 100000
set_option linter.unusedVariables false
set_option linter.unusedSimpArgs false
theorem tO46 (v : Value) (w : World) : (ReflectliteType.typeOf #[.iface 46 v]).run Tryz.prog w = .ok (.iface 162 (.agg #[.pointer (some ⟨14, 46, none⟩)])) w := by kernel_rfl
theorem asg46_46 (w : World) : (ReflectliteType.relation "AssignableTo" ReflectliteType.assignableTo #[.agg #[.pointer (some ⟨14, 46, none⟩)], .iface 162 (.agg #[.pointer (some ⟨14, 46, none⟩)])]).run Tryz.prog w = .ok (.bool true) w := by kernel_rfl
theorem asg46_56 (w : World) : (ReflectliteType.relation "AssignableTo" ReflectliteType.assignableTo #[.agg #[.pointer (some ⟨14, 46, none⟩)], .iface 162 (.agg #[.pointer (some ⟨14, 56, none⟩)])]).run Tryz.prog w = .ok (.bool false) w := by kernel_rfl
theorem asAs46 (v : Value) (xT : TypeId) (w : World) : (Instr.typeAssert (.iface 46 v) xT 166 true).run Tryz.prog w = .ok (.tuple #[.nilIface, .bool false]) w := run_typeAssert_lacksB Tryz.underlying166 (by kernel_rfl) (by kernel_rfl) v xT w
theorem asUn46 (v : Value) (xT : TypeId) (w : World) : (Instr.typeAssert (.iface 46 v) xT 169 true).run Tryz.prog w = .ok (.tuple #[.nilIface, .bool false]) w := run_typeAssert_lacksB Tryz.underlying169 (by kernel_rfl) (by kernel_rfl) v xT w
theorem asUs46 (v : Value) (xT : TypeId) (w : World) : (Instr.typeAssert (.iface 46 v) xT 171 true).run Tryz.prog w = .ok (.tuple #[.nilIface, .bool false]) w := run_typeAssert_lacksB Tryz.underlying171 (by kernel_rfl) (by kernel_rfl) v xT w
theorem asIs46 (v : Value) (xT : TypeId) (w : World) : (Instr.typeAssert (.iface 46 v) xT 174 true).run Tryz.prog w = .ok (.tuple #[.nilIface, .bool false]) w := run_typeAssert_lacksB Tryz.underlying174 (by kernel_rfl) (by kernel_rfl) v xT w
theorem tO56 (v : Value) (w : World) : (ReflectliteType.typeOf #[.iface 56 v]).run Tryz.prog w = .ok (.iface 162 (.agg #[.pointer (some ⟨14, 56, none⟩)])) w := by kernel_rfl
theorem asg56_46 (w : World) : (ReflectliteType.relation "AssignableTo" ReflectliteType.assignableTo #[.agg #[.pointer (some ⟨14, 56, none⟩)], .iface 162 (.agg #[.pointer (some ⟨14, 46, none⟩)])]).run Tryz.prog w = .ok (.bool false) w := by kernel_rfl
theorem asg56_56 (w : World) : (ReflectliteType.relation "AssignableTo" ReflectliteType.assignableTo #[.agg #[.pointer (some ⟨14, 56, none⟩)], .iface 162 (.agg #[.pointer (some ⟨14, 56, none⟩)])]).run Tryz.prog w = .ok (.bool true) w := by kernel_rfl
theorem asAs56 (v : Value) (xT : TypeId) (w : World) : (Instr.typeAssert (.iface 56 v) xT 166 true).run Tryz.prog w = .ok (.tuple #[.nilIface, .bool false]) w := run_typeAssert_lacksB Tryz.underlying166 (by kernel_rfl) (by kernel_rfl) v xT w
theorem asUn56 (v : Value) (xT : TypeId) (w : World) : (Instr.typeAssert (.iface 56 v) xT 169 true).run Tryz.prog w = .ok (.tuple #[.iface 56 v, .bool true]) w := run_typeAssert_hasB Tryz.underlying169 (by kernel_rfl) v xT w
theorem asUs56 (v : Value) (xT : TypeId) (w : World) : (Instr.typeAssert (.iface 56 v) xT 171 true).run Tryz.prog w = .ok (.tuple #[.nilIface, .bool false]) w := run_typeAssert_lacksB Tryz.underlying171 (by kernel_rfl) (by kernel_rfl) v xT w
theorem asIs56 (v : Value) (xT : TypeId) (w : World) : (Instr.typeAssert (.iface 56 v) xT 174 true).run Tryz.prog w = .ok (.tuple #[.nilIface, .bool false]) w := run_typeAssert_lacksB Tryz.underlying174 (by kernel_rfl) (by kernel_rfl) v xT w
theorem tO89 (v : Value) (w : World) : (ReflectliteType.typeOf #[.iface 89 v]).run Tryz.prog w = .ok (.iface 162 (.agg #[.pointer (some ⟨14, 89, none⟩)])) w := by kernel_rfl
theorem asg89_46 (w : World) : (ReflectliteType.relation "AssignableTo" ReflectliteType.assignableTo #[.agg #[.pointer (some ⟨14, 89, none⟩)], .iface 162 (.agg #[.pointer (some ⟨14, 46, none⟩)])]).run Tryz.prog w = .ok (.bool false) w := by kernel_rfl
theorem asg89_56 (w : World) : (ReflectliteType.relation "AssignableTo" ReflectliteType.assignableTo #[.agg #[.pointer (some ⟨14, 89, none⟩)], .iface 162 (.agg #[.pointer (some ⟨14, 56, none⟩)])]).run Tryz.prog w = .ok (.bool false) w := by kernel_rfl
theorem asAs89 (v : Value) (xT : TypeId) (w : World) : (Instr.typeAssert (.iface 89 v) xT 166 true).run Tryz.prog w = .ok (.tuple #[.nilIface, .bool false]) w := run_typeAssert_lacksB Tryz.underlying166 (by kernel_rfl) (by kernel_rfl) v xT w
theorem asUn89 (v : Value) (xT : TypeId) (w : World) : (Instr.typeAssert (.iface 89 v) xT 169 true).run Tryz.prog w = .ok (.tuple #[.iface 89 v, .bool true]) w := run_typeAssert_hasB Tryz.underlying169 (by kernel_rfl) v xT w
theorem asUs89 (v : Value) (xT : TypeId) (w : World) : (Instr.typeAssert (.iface 89 v) xT 171 true).run Tryz.prog w = .ok (.tuple #[.nilIface, .bool false]) w := run_typeAssert_lacksB Tryz.underlying171 (by kernel_rfl) (by kernel_rfl) v xT w
theorem asIs89 (v : Value) (xT : TypeId) (w : World) : (Instr.typeAssert (.iface 89 v) xT 174 true).run Tryz.prog w = .ok (.tuple #[.nilIface, .bool false]) w := run_typeAssert_lacksB Tryz.underlying174 (by kernel_rfl) (by kernel_rfl) v xT w
theorem tO147 (v : Value) (w : World) : (ReflectliteType.typeOf #[.iface 147 v]).run Tryz.prog w = .ok (.iface 162 (.agg #[.pointer (some ⟨14, 147, none⟩)])) w := by kernel_rfl
theorem asg147_46 (w : World) : (ReflectliteType.relation "AssignableTo" ReflectliteType.assignableTo #[.agg #[.pointer (some ⟨14, 147, none⟩)], .iface 162 (.agg #[.pointer (some ⟨14, 46, none⟩)])]).run Tryz.prog w = .ok (.bool false) w := by kernel_rfl
theorem asg147_56 (w : World) : (ReflectliteType.relation "AssignableTo" ReflectliteType.assignableTo #[.agg #[.pointer (some ⟨14, 147, none⟩)], .iface 162 (.agg #[.pointer (some ⟨14, 56, none⟩)])]).run Tryz.prog w = .ok (.bool false) w := by kernel_rfl
theorem asAs147 (v : Value) (xT : TypeId) (w : World) : (Instr.typeAssert (.iface 147 v) xT 166 true).run Tryz.prog w = .ok (.tuple #[.nilIface, .bool false]) w := run_typeAssert_lacksB Tryz.underlying166 (by kernel_rfl) (by kernel_rfl) v xT w
theorem asUn147 (v : Value) (xT : TypeId) (w : World) : (Instr.typeAssert (.iface 147 v) xT 169 true).run Tryz.prog w = .ok (.tuple #[.iface 147 v, .bool true]) w := run_typeAssert_hasB Tryz.underlying169 (by kernel_rfl) v xT w
theorem asUs147 (v : Value) (xT : TypeId) (w : World) : (Instr.typeAssert (.iface 147 v) xT 171 true).run Tryz.prog w = .ok (.tuple #[.nilIface, .bool false]) w := run_typeAssert_lacksB Tryz.underlying171 (by kernel_rfl) (by kernel_rfl) v xT w
theorem asIs147 (v : Value) (xT : TypeId) (w : World) : (Instr.typeAssert (.iface 147 v) xT 174 true).run Tryz.prog w = .ok (.tuple #[.nilIface, .bool false]) w := run_typeAssert_lacksB Tryz.underlying174 (by kernel_rfl) (by kernel_rfl) v xT w
theorem tO113 (v : Value) (w : World) : (ReflectliteType.typeOf #[.iface 113 v]).run Tryz.prog w = .ok (.iface 162 (.agg #[.pointer (some ⟨14, 113, none⟩)])) w := by kernel_rfl
theorem asg113_46 (w : World) : (ReflectliteType.relation "AssignableTo" ReflectliteType.assignableTo #[.agg #[.pointer (some ⟨14, 113, none⟩)], .iface 162 (.agg #[.pointer (some ⟨14, 46, none⟩)])]).run Tryz.prog w = .ok (.bool false) w := by kernel_rfl
theorem asg113_56 (w : World) : (ReflectliteType.relation "AssignableTo" ReflectliteType.assignableTo #[.agg #[.pointer (some ⟨14, 113, none⟩)], .iface 162 (.agg #[.pointer (some ⟨14, 56, none⟩)])]).run Tryz.prog w = .ok (.bool false) w := by kernel_rfl
theorem asAs113 (v : Value) (xT : TypeId) (w : World) : (Instr.typeAssert (.iface 113 v) xT 166 true).run Tryz.prog w = .ok (.tuple #[.nilIface, .bool false]) w := run_typeAssert_lacksB Tryz.underlying166 (by kernel_rfl) (by kernel_rfl) v xT w
theorem asUn113 (v : Value) (xT : TypeId) (w : World) : (Instr.typeAssert (.iface 113 v) xT 169 true).run Tryz.prog w = .ok (.tuple #[.nilIface, .bool false]) w := run_typeAssert_lacksB Tryz.underlying169 (by kernel_rfl) (by kernel_rfl) v xT w
theorem asUs113 (v : Value) (xT : TypeId) (w : World) : (Instr.typeAssert (.iface 113 v) xT 171 true).run Tryz.prog w = .ok (.tuple #[.nilIface, .bool false]) w := run_typeAssert_lacksB Tryz.underlying171 (by kernel_rfl) (by kernel_rfl) v xT w
theorem asIs113 (v : Value) (xT : TypeId) (w : World) : (Instr.typeAssert (.iface 113 v) xT 174 true).run Tryz.prog w = .ok (.tuple #[.nilIface, .bool false]) w := run_typeAssert_lacksB Tryz.underlying174 (by kernel_rfl) (by kernel_rfl) v xT w
theorem vO106 (t : Addr) (w : World) : (ReflectliteValue.unpack (.iface 106 (.pointer (some t)))).run Tryz.prog w
    = .ok (.agg #[.pointer (some ⟨14, 106, none⟩), .pointer (some ⟨w.heap.size, 0, none⟩), .int .u64 150]) (w.alloc (.cells #[.pointer (some t)] 106)) := by kernel_rfl
theorem ty106 (a : Addr) (w : World) : (ReflectliteValue.methodAny (ReflectliteValue.valueError "reflectlite.Value.Type" 0) (fun t _ _ _ => ReflectliteType.toType t) #[.agg #[.pointer (some ⟨14, 106, none⟩), .pointer (some a), .int .u64 150]]).run Tryz.prog w
    = .ok (.iface 162 (.agg #[.pointer (some ⟨14, 106, none⟩)])) w := by kernel_rfl
theorem kd106 (w : World) : ((ReflectliteType.abiMethod fun t => (fun a : Nat => Value.int IntKind.u8 (a : Int)) <$> Rtype.kind t) #[.pointer (some ⟨14, 106, none⟩)]).run Tryz.prog w = .ok (.int .u8 22) w := by kernel_rfl
theorem el106 (w : World) : (ReflectliteType.method ReflectliteType.elem #[.agg #[.pointer (some ⟨14, 106, none⟩)]]).run Tryz.prog w = .ok (.iface 162 (.agg #[.pointer (some ⟨14, 46, none⟩)])) w := by kernel_rfl
theorem im46 (w : World) : (ReflectliteType.relation "Implements" ReflectliteType.implements_ #[.agg #[.pointer (some ⟨14, 46, none⟩)], .iface 162 (.agg #[.pointer (some ⟨14, 43, none⟩)])]).run Tryz.prog w = .ok (.bool true) w := by kernel_rfl
theorem eO106 (w : World) : (Rtype.elem? 106).run Tryz.prog w = .ok (some 46) w := by kernel_rfl
theorem pt106 (a : Addr) (w : World) : (ReflectliteValue.parts (.agg #[.pointer (some ⟨14, 106, none⟩), .pointer (some a), .int .u64 150])).run Tryz.prog w = .ok (some (106, a, 150)) w := by kernel_rfl
theorem mk46 (p : Addr) (w : World) : (ReflectliteValue.mk 46 p ReflectliteValue.flagAddr).run Tryz.prog w = .ok (.agg #[.pointer (some ⟨14, 46, none⟩), .pointer (some p), .int .u64 386]) w := by kernel_rfl
theorem pa46 (a : Addr) (w : World) : (ReflectliteValue.parts (.agg #[.pointer (some ⟨14, 46, none⟩), .pointer (some a), .int .u64 386])).run Tryz.prog w = .ok (some (46, a, 386)) w := by kernel_rfl
theorem pv46 (a : Addr) (w : World) : (ReflectliteValue.parts (.agg #[.pointer (some ⟨14, 46, none⟩), .pointer (some a), .int .u64 130])).run Tryz.prog w = .ok (some (46, a, 130)) w := by kernel_rfl
theorem dr46 (w : World) : (Rtype.directlyAssignable 46 46).run Tryz.prog w = .ok true w := by kernel_rfl
theorem vO107 (t : Addr) (w : World) : (ReflectliteValue.unpack (.iface 107 (.pointer (some t)))).run Tryz.prog w
    = .ok (.agg #[.pointer (some ⟨14, 107, none⟩), .pointer (some ⟨w.heap.size, 0, none⟩), .int .u64 150]) (w.alloc (.cells #[.pointer (some t)] 107)) := by kernel_rfl
theorem ty107 (a : Addr) (w : World) : (ReflectliteValue.methodAny (ReflectliteValue.valueError "reflectlite.Value.Type" 0) (fun t _ _ _ => ReflectliteType.toType t) #[.agg #[.pointer (some ⟨14, 107, none⟩), .pointer (some a), .int .u64 150]]).run Tryz.prog w
    = .ok (.iface 162 (.agg #[.pointer (some ⟨14, 107, none⟩)])) w := by kernel_rfl
theorem kd107 (w : World) : ((ReflectliteType.abiMethod fun t => (fun a : Nat => Value.int IntKind.u8 (a : Int)) <$> Rtype.kind t) #[.pointer (some ⟨14, 107, none⟩)]).run Tryz.prog w = .ok (.int .u8 22) w := by kernel_rfl
theorem el107 (w : World) : (ReflectliteType.method ReflectliteType.elem #[.agg #[.pointer (some ⟨14, 107, none⟩)]]).run Tryz.prog w = .ok (.iface 162 (.agg #[.pointer (some ⟨14, 56, none⟩)])) w := by kernel_rfl
theorem im56 (w : World) : (ReflectliteType.relation "Implements" ReflectliteType.implements_ #[.agg #[.pointer (some ⟨14, 56, none⟩)], .iface 162 (.agg #[.pointer (some ⟨14, 43, none⟩)])]).run Tryz.prog w = .ok (.bool true) w := by kernel_rfl
theorem eO107 (w : World) : (Rtype.elem? 107).run Tryz.prog w = .ok (some 56) w := by kernel_rfl
theorem pt107 (a : Addr) (w : World) : (ReflectliteValue.parts (.agg #[.pointer (some ⟨14, 107, none⟩), .pointer (some a), .int .u64 150])).run Tryz.prog w = .ok (some (107, a, 150)) w := by kernel_rfl
theorem mk56 (p : Addr) (w : World) : (ReflectliteValue.mk 56 p ReflectliteValue.flagAddr).run Tryz.prog w = .ok (.agg #[.pointer (some ⟨14, 56, none⟩), .pointer (some p), .int .u64 406]) w := by kernel_rfl
theorem pa56 (a : Addr) (w : World) : (ReflectliteValue.parts (.agg #[.pointer (some ⟨14, 56, none⟩), .pointer (some a), .int .u64 406])).run Tryz.prog w = .ok (some (56, a, 406)) w := by kernel_rfl
theorem pv56 (a : Addr) (w : World) : (ReflectliteValue.parts (.agg #[.pointer (some ⟨14, 56, none⟩), .pointer (some a), .int .u64 150])).run Tryz.prog w = .ok (some (56, a, 150)) w := by kernel_rfl
theorem dr56 (w : World) : (Rtype.directlyAssignable 56 56).run Tryz.prog w = .ok true w := by kernel_rfl
theorem vO46 (n : Int) (w : World) : (ReflectliteValue.unpack (.iface 46 (.int .i64 n))).run Tryz.prog w = .ok (.agg #[.pointer (some ⟨14, 46, none⟩), .pointer (some ⟨w.heap.size, 0, none⟩), .int .u64 130]) (w.alloc (.cells #[.int .i64 n] 46)) := by kernel_rfl
theorem vO56 (e : Addr) (w : World) : (ReflectliteValue.unpack (.iface 56 (.pointer (some e)))).run Tryz.prog w = .ok (.agg #[.pointer (some ⟨14, 56, none⟩), .pointer (some ⟨w.heap.size, 0, none⟩), .int .u64 150]) (w.alloc (.cells #[.pointer (some e)] 56)) := by kernel_rfl
theorem kd56 (w : World) : ((ReflectliteType.abiMethod fun t => (fun a : Nat => Value.int IntKind.u8 (a : Int)) <$> Rtype.kind t) #[.pointer (some ⟨14, 56, none⟩)]).run Tryz.prog w = .ok (.int .u8 22) w := by kernel_rfl
theorem kd46 (w : World) : ((ReflectliteType.abiMethod fun t => (fun a : Nat => Value.int IntKind.u8 (a : Int)) <$> Rtype.kind t) #[.pointer (some ⟨14, 46, none⟩)]).run Tryz.prog w = .ok (.int .u8 2) w := by kernel_rfl
theorem mtElem (h : Value) (w : World) : (Go.method 350 162 (.agg #[h]) "Elem").run Tryz.prog w = .ok (163, .agg #[h]) w := by kernel_rfl
theorem mtImplements (h : Value) (w : World) : (Go.method 350 162 (.agg #[h]) "Implements").run Tryz.prog w = .ok (164, .agg #[h]) w := by kernel_rfl
theorem mtAssignableTo (h : Value) (w : World) : (Go.method 350 162 (.agg #[h]) "AssignableTo").run Tryz.prog w = .ok (161, .agg #[h]) w := by kernel_rfl
theorem mtComparable (h : Value) (w : World) : (Go.method 350 162 (.agg #[h]) "Comparable").run Tryz.prog w = .ok (162, .agg #[h]) w := by kernel_rfl
def cmpE : Array Value → Sem Value := ReflectliteType.method fun t => do Rtype.noPackHeld "Comparable" t; pure (.bool (← typeInfo t).comparable)
theorem cmp46 (w : World) : (cmpE #[.agg #[.pointer (some ⟨14, 46, none⟩)]]).run Tryz.prog w = .ok (.bool true) w := by kernel_rfl
theorem eqN (n m : Int) (w : World) : (binOp .eql 43 (.iface 46 (.int .i64 n)) (.iface 46 (.int .i64 m))).run Tryz.prog w = .ok (.bool (n == m)) w := by kernel_rfl
theorem eqNil (m : Int) (w : World) : (binOp .eql 43 .nilIface (.iface 46 (.int .i64 m))).run Tryz.prog w = .ok (.bool false) w := by kernel_rfl
theorem eq56 (v x : Value) (w : World) : (binOp .eql 43 (.iface 56 v) (.iface 46 x)).run Tryz.prog w = .ok (.bool false) w := run_eql_iface_types 56 46 v x Tryz.underlying43 (by decide) w
theorem eq89 (v x : Value) (w : World) : (binOp .eql 43 (.iface 89 v) (.iface 46 x)).run Tryz.prog w = .ok (.bool false) w := run_eql_iface_types 89 46 v x Tryz.underlying43 (by decide) w
theorem eq147 (v x : Value) (w : World) : (binOp .eql 43 (.iface 147 v) (.iface 46 x)).run Tryz.prog w = .ok (.bool false) w := run_eql_iface_types 147 46 v x Tryz.underlying43 (by decide) w
theorem eq113 (v x : Value) (w : World) : (binOp .eql 43 (.iface 113 v) (.iface 46 x)).run Tryz.prog w = .ok (.bool false) w := run_eql_iface_types 113 46 v x Tryz.underlying43 (by decide) w
theorem mtKind (h : Value) (w : World) : (Go.method 350 162 (.agg #[h]) "Kind").run Tryz.prog w = .ok (145, h) w := by kernel_rfl
theorem mU56 (b : Nat) (w : World) : (Go.method 350 56 (.pointer (some ⟨b, 0, none⟩)) "Unwrap").run Tryz.prog w = .ok (150, .pointer (some ⟨b, 0, none⟩)) w := by kernel_rfl
theorem cU56 (b : Nat) (x : Value) (w : World) (h : w.cell? ⟨b, 1, none⟩ = some x) : Calls Tryz.prog 150 #[.pointer (some ⟨b, 0, none⟩)] w fun e w' => e = .returned x ∧ w' = w := by
  go_enter Tryz.func150, Tryz.ntmps150
  go_wp2
  go_ret
  exact ⟨rfl, rfl⟩
theorem mU89 (b : Nat) (w : World) : (Go.method 350 89 (.pointer (some ⟨b, 0, none⟩)) "Unwrap").run Tryz.prog w = .ok (152, .pointer (some ⟨b, 0, none⟩)) w := by kernel_rfl
theorem cU89 (b : Nat) (x : Value) (w : World) (h : w.cell? ⟨b, 1, none⟩ = some x) : Calls Tryz.prog 152 #[.pointer (some ⟨b, 0, none⟩)] w fun e w' => e = .returned x ∧ w' = w := by
  go_enter Tryz.func152, Tryz.ntmps152
  go_wp2
  go_ret
  exact ⟨rfl, rfl⟩
theorem mU147 (b : Nat) (w : World) : (Go.method 350 147 (.pointer (some ⟨b, 0, none⟩)) "Unwrap").run Tryz.prog w = .ok (158, .pointer (some ⟨b, 0, none⟩)) w := by kernel_rfl
theorem cU147 (b : Nat) (x : Value) (w : World) (h : w.cell? ⟨b, 1, none⟩ = some x) : Calls Tryz.prog 158 #[.pointer (some ⟨b, 0, none⟩)] w fun e w' => e = .returned x ∧ w' = w := by
  go_enter Tryz.func158, Tryz.ntmps158
  go_wp2
  go_ret
  exact ⟨rfl, rfl⟩
theorem rlm (z : Sem Value) (f : TypeId → Addr → Nat → Nat → Sem Value) (v : Value) :
    ReflectliteValue.method z f #[v] = (do match ← ReflectliteValue.parts v with | none => z | some (t, a, fl) => f t a fl (fl % 32)) := rfl
theorem rls (v x : Value) : ReflectliteValue.set #[v, x] = (do
    let (some (dst, a, fl), some (src, b, _)) := (← ReflectliteValue.parts v, ← ReflectliteValue.parts x)
      | unsupported (.noEntry "extern/(internal/reflectlite.Value).Set.zeroValue")
    if fl / ReflectliteValue.flagAddr % 2 == 0 then unsupported (.noEntry "extern/(internal/reflectlite.Value).Set.unaddressable")
    let val ← loadVar src b
    if ← Rtype.directlyAssignable dst src then storeVar dst a val
    else if ← Rtype.implements dst src then
      if (← Rtype.kind src) == 20 then
        match val with
        | .nilIface => unsupported (.noEntry "extern/reflectlite: a nil value of one interface type handed on as a value of another")
        | _ => storeVar dst a val
      else storeVar dst a (.iface src val)
    else panicString ("reflectlite.Set: value of type " ++ (← Rtype.spelt src) ++ " is not assignable to type " ++ (← Rtype.spelt dst))
    pure (.tuple #[])) := rfl
theorem nilV106 (a q : Addr) (W : World) (ha : W.cell? a = some (.pointer (some q))) :
    (ReflectliteValue.method (ReflectliteValue.valueError "reflectlite.Value.IsNil" 0) ReflectliteValue.isNil #[.agg #[.pointer (some ⟨14, 106, none⟩), .pointer (some a), .int .u64 150]]).run Tryz.prog W = .ok (.bool false) W := by
  rw [rlm]
  simp only [Sem.run_bind, pt106, Result.andThen]
  simp [ReflectliteValue.isNil, loadVar, isAgg, underlying, Tryz.underlying106, ha, Result.andThen]
theorem elV106 (a q : Addr) (W : World) (ha : W.cell? a = some (.pointer (some q))) :
    (ReflectliteValue.method (ReflectliteValue.valueError "reflectlite.Value.Elem" 0) ReflectliteValue.elem #[.agg #[.pointer (some ⟨14, 106, none⟩), .pointer (some a), .int .u64 150]]).run Tryz.prog W
      = .ok (.agg #[.pointer (some ⟨14, 46, none⟩), .pointer (some q), .int .u64 386]) W := by
  rw [rlm]
  simp only [Sem.run_bind, pt106, Result.andThen]
  simp [ReflectliteValue.elem, loadVar, isAgg, underlying, Tryz.underlying106, ha, Result.andThen, eO106, mk46]
theorem set46 (ta b : Addr) (n : Int) (old : Value) (W : World) (hb : W.cell? b = some (.int .i64 n)) (ht : W.cell? ta = some old) (hf : W.frozen? ta = false) :
    (ReflectliteValue.set #[.agg #[.pointer (some ⟨14, 46, none⟩), .pointer (some ta), .int .u64 386], .agg #[.pointer (some ⟨14, 46, none⟩), .pointer (some b), .int .u64 130]]).run Tryz.prog W
      = .ok (.tuple #[]) (W.setCell ta (.int .i64 n)) := by
  rw [rls]
  simp only [Sem.run_bind, pa46, pv46, Result.andThen]
  simp [ReflectliteValue.flagAddr, loadVar, isAgg, underlying, Tryz.underlying46, hb, Result.andThen, dr46, storeVar, Value.cells, storeCells, Addr.add]
  rw [run_store Tryz.prog W ta _ _ (by rfl)]
  simp [ht, hf]
theorem nilV107 (a q : Addr) (W : World) (ha : W.cell? a = some (.pointer (some q))) :
    (ReflectliteValue.method (ReflectliteValue.valueError "reflectlite.Value.IsNil" 0) ReflectliteValue.isNil #[.agg #[.pointer (some ⟨14, 107, none⟩), .pointer (some a), .int .u64 150]]).run Tryz.prog W = .ok (.bool false) W := by
  rw [rlm]
  simp only [Sem.run_bind, pt107, Result.andThen]
  simp [ReflectliteValue.isNil, loadVar, isAgg, underlying, Tryz.underlying107, ha, Result.andThen]
theorem elV107 (a q : Addr) (W : World) (ha : W.cell? a = some (.pointer (some q))) :
    (ReflectliteValue.method (ReflectliteValue.valueError "reflectlite.Value.Elem" 0) ReflectliteValue.elem #[.agg #[.pointer (some ⟨14, 107, none⟩), .pointer (some a), .int .u64 150]]).run Tryz.prog W
      = .ok (.agg #[.pointer (some ⟨14, 56, none⟩), .pointer (some q), .int .u64 406]) W := by
  rw [rlm]
  simp only [Sem.run_bind, pt107, Result.andThen]
  simp [ReflectliteValue.elem, loadVar, isAgg, underlying, Tryz.underlying107, ha, Result.andThen, eO107, mk56]
theorem set56 (ta b : Addr) (e : Addr) (old : Value) (W : World) (hb : W.cell? b = some (.pointer (some e))) (ht : W.cell? ta = some old) (hf : W.frozen? ta = false) :
    (ReflectliteValue.set #[.agg #[.pointer (some ⟨14, 56, none⟩), .pointer (some ta), .int .u64 406], .agg #[.pointer (some ⟨14, 56, none⟩), .pointer (some b), .int .u64 150]]).run Tryz.prog W
      = .ok (.tuple #[]) (W.setCell ta (.pointer (some e))) := by
  rw [rls]
  simp only [Sem.run_bind, pa56, pv56, Result.andThen]
  simp [ReflectliteValue.flagAddr, loadVar, isAgg, underlying, Tryz.underlying56, hb, Result.andThen, dr56, storeVar, Value.cells, storeCells, Addr.add]
  rw [run_store Tryz.prog W ta _ _ (by rfl)]
  simp [ht, hf]
end Go.Proofs
