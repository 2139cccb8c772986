/- errors.As, errors.Is, errors.Unwrap at the program's own errors: closed facts on the model's entries, and contracts at an Errno and at a Fault. No condition but that errors.errorType holds its handle. -/
import Derived.Test.YtlgjaoijgkdmiaaDoorRead
import Derived.LaidEql
import Derived.Stop.Asserts
import Derived.RowKitTokens
set_option linter.unusedSimpArgs false
set_option linter.unusedVariables false
namespace Go.Proofs.YtlgjaoijgkdmiaaDoor
open Go.RowKit Go.Maps Go.Extern.Stop Go.Stop Go.Extern

/-- errors.errorType holds the handle of 'error'. -/
def ErrT (w : World) : Prop := w.cell? ⟨0, 0, none⟩ = some (.iface 162 (.agg #[.pointer (some ⟨1, 45, none⟩)]))
theorem ErrT.below {w w' : World} (h : ErrT w) (b : Below w.heap.size w w') : ErrT w' := grown_cell b h

def hnd (t : Nat) : Value := .agg #[.pointer (some ⟨1, t, none⟩)]

/-! closed facts -/
theorem valueOf_pf (t : Addr) (w : World) : (ReflectliteValue.unpack (.iface 142 (.pointer (some t)))).run Tryd.prog w
    = .ok (.agg #[.pointer (some ⟨1, 142, none⟩), .pointer (some ⟨w.heap.size, 0, none⟩), .int .u64 150]) (w.alloc (.cells #[.pointer (some t)] 142)) := by kernel_rfl
theorem valueOf_pe (t : Addr) (w : World) : (ReflectliteValue.unpack (.iface 143 (.pointer (some t)))).run Tryd.prog w
    = .ok (.agg #[.pointer (some ⟨1, 143, none⟩), .pointer (some ⟨w.heap.size, 0, none⟩), .int .u64 150]) (w.alloc (.cells #[.pointer (some t)] 143)) := by kernel_rfl
theorem type_pf (a : Addr) (w : World) : (ReflectliteValue.methodAny (ReflectliteValue.valueError "reflectlite.Value.Type" 0) (fun t _ _ _ => ReflectliteType.toType t) #[.agg #[.pointer (some ⟨1, 142, none⟩), .pointer (some a), .int .u64 150]]).run Tryd.prog w
    = .ok (.iface 162 (.agg #[.pointer (some ⟨1, 142, none⟩)])) w := by kernel_rfl
theorem type_pe (a : Addr) (w : World) : (ReflectliteValue.methodAny (ReflectliteValue.valueError "reflectlite.Value.Type" 0) (fun t _ _ _ => ReflectliteType.toType t) #[.agg #[.pointer (some ⟨1, 143, none⟩), .pointer (some a), .int .u64 150]]).run Tryd.prog w
    = .ok (.iface 162 (.agg #[.pointer (some ⟨1, 143, none⟩)])) w := by kernel_rfl
theorem method_Kind (h : Value) (w : World) : (Go.method 304 162 (.agg #[h]) "Kind").run Tryd.prog w = .ok (84, h) w := by kernel_rfl
theorem kind_pf (w : World) : ((ReflectliteType.abiMethod fun t => (fun a : Nat => Value.int IntKind.u8 (a : Int)) <$> Rtype.kind t) #[.pointer (some ⟨1, 142, none⟩)]).run Tryd.prog w = .ok (.int .u8 22) w := by kernel_rfl
theorem kind_pe (w : World) : ((ReflectliteType.abiMethod fun t => (fun a : Nat => Value.int IntKind.u8 (a : Int)) <$> Rtype.kind t) #[.pointer (some ⟨1, 143, none⟩)]).run Tryd.prog w = .ok (.int .u8 22) w := by kernel_rfl
theorem kind_f (w : World) : ((ReflectliteType.abiMethod fun t => (fun a : Nat => Value.int IntKind.u8 (a : Int)) <$> Rtype.kind t) #[.pointer (some ⟨1, 106, none⟩)]).run Tryd.prog w = .ok (.int .u8 22) w := by kernel_rfl
theorem kind_e (w : World) : ((ReflectliteType.abiMethod fun t => (fun a : Nat => Value.int IntKind.u8 (a : Int)) <$> Rtype.kind t) #[.pointer (some ⟨1, 53, none⟩)]).run Tryd.prog w = .ok (.int .u8 2) w := by kernel_rfl
theorem method_Elem (h : Value) (w : World) : (Go.method 304 162 (.agg #[h]) "Elem").run Tryd.prog w = .ok (99, .agg #[h]) w := by kernel_rfl
theorem method_Implements (h : Value) (w : World) : (Go.method 304 162 (.agg #[h]) "Implements").run Tryd.prog w = .ok (100, .agg #[h]) w := by kernel_rfl
theorem method_AssignableTo (h : Value) (w : World) : (Go.method 304 162 (.agg #[h]) "AssignableTo").run Tryd.prog w = .ok (97, .agg #[h]) w := by kernel_rfl
theorem method_Comparable (h : Value) (w : World) : (Go.method 304 162 (.agg #[h]) "Comparable").run Tryd.prog w = .ok (98, .agg #[h]) w := by kernel_rfl
theorem elem_pf (w : World) : (ReflectliteType.method ReflectliteType.elem #[.agg #[.pointer (some ⟨1, 142, none⟩)]]).run Tryd.prog w = .ok (.iface 162 (.agg #[.pointer (some ⟨1, 106, none⟩)])) w := by kernel_rfl
theorem elem_pe (w : World) : (ReflectliteType.method ReflectliteType.elem #[.agg #[.pointer (some ⟨1, 143, none⟩)]]).run Tryd.prog w = .ok (.iface 162 (.agg #[.pointer (some ⟨1, 53, none⟩)])) w := by kernel_rfl
theorem implements_f (w : World) : (ReflectliteType.relation "Implements" ReflectliteType.implements_ #[.agg #[.pointer (some ⟨1, 106, none⟩)], .iface 162 (.agg #[.pointer (some ⟨1, 45, none⟩)])]).run Tryd.prog w = .ok (.bool true) w := by kernel_rfl
theorem implements_e (w : World) : (ReflectliteType.relation "Implements" ReflectliteType.implements_ #[.agg #[.pointer (some ⟨1, 53, none⟩)], .iface 162 (.agg #[.pointer (some ⟨1, 45, none⟩)])]).run Tryd.prog w = .ok (.bool true) w := by kernel_rfl
theorem typeOf_f (v : Value) (w : World) : (ReflectliteType.typeOf #[.iface 106 v]).run Tryd.prog w = .ok (.iface 162 (.agg #[.pointer (some ⟨1, 106, none⟩)])) w := by kernel_rfl
theorem typeOf_e (v : Value) (w : World) : (ReflectliteType.typeOf #[.iface 53 v]).run Tryd.prog w = .ok (.iface 162 (.agg #[.pointer (some ⟨1, 53, none⟩)])) w := by kernel_rfl
theorem comparable_e (w : World) : ((ReflectliteType.method fun t => do Rtype.noPackHeld "Comparable" t; pure (.bool (← typeInfo t).comparable)) #[.agg #[.pointer (some ⟨1, 53, none⟩)]]).run Tryd.prog w = .ok (.bool true) w := by kernel_rfl
theorem assign_ff (w : World) : (ReflectliteType.relation "AssignableTo" ReflectliteType.assignableTo #[.agg #[.pointer (some ⟨1, 106, none⟩)], .iface 162 (.agg #[.pointer (some ⟨1, 106, none⟩)])]).run Tryd.prog w = .ok (.bool true) w := by kernel_rfl
theorem assign_ef (w : World) : (ReflectliteType.relation "AssignableTo" ReflectliteType.assignableTo #[.agg #[.pointer (some ⟨1, 53, none⟩)], .iface 162 (.agg #[.pointer (some ⟨1, 106, none⟩)])]).run Tryd.prog w = .ok (.bool false) w := by kernel_rfl
theorem assign_ee (w : World) : (ReflectliteType.relation "AssignableTo" ReflectliteType.assignableTo #[.agg #[.pointer (some ⟨1, 53, none⟩)], .iface 162 (.agg #[.pointer (some ⟨1, 53, none⟩)])]).run Tryd.prog w = .ok (.bool true) w := by kernel_rfl
theorem valueOf_f (e : Addr) (w : World) : (ReflectliteValue.unpack (.iface 106 (.pointer (some e)))).run Tryd.prog w
    = .ok (.agg #[.pointer (some ⟨1, 106, none⟩), .pointer (some ⟨w.heap.size, 0, none⟩), .int .u64 150]) (w.alloc (.cells #[.pointer (some e)] 106)) := by kernel_rfl
theorem valueOf_e (n : Int) (w : World) : (ReflectliteValue.unpack (.iface 53 (.int .i64 n))).run Tryd.prog w
    = .ok (.agg #[.pointer (some ⟨1, 53, none⟩), .pointer (some ⟨w.heap.size, 0, none⟩), .int .u64 130]) (w.alloc (.cells #[.int .i64 n] 53)) := by kernel_rfl

/-! the entries that read or write memory -/
theorem rlm (z : Sem Value) (f : TypeId → Addr → Nat → Nat → Sem Value) (v : Value) :
    ReflectliteValue.method z f #[v] = (do match ← ReflectliteValue.parts v with | none => z | some (t, a, fl) => f t a fl (fl % 32)) := rfl
theorem parts_pf (a : Addr) (w : World) : (ReflectliteValue.parts (.agg #[.pointer (some ⟨1, 142, none⟩), .pointer (some a), .int .u64 150])).run Tryd.prog w = .ok (some (142, a, 150)) w := by kernel_rfl
theorem parts_pe (a : Addr) (w : World) : (ReflectliteValue.parts (.agg #[.pointer (some ⟨1, 143, none⟩), .pointer (some a), .int .u64 150])).run Tryd.prog w = .ok (some (143, a, 150)) w := by kernel_rfl
theorem isNil_pf (a p : Addr) (W : World) (ha : W.cell? a = some (.pointer (some p))) :
    (ReflectliteValue.method (ReflectliteValue.valueError "reflectlite.Value.IsNil" 0) ReflectliteValue.isNil #[.agg #[.pointer (some ⟨1, 142, none⟩), .pointer (some a), .int .u64 150]]).run Tryd.prog W = .ok (.bool false) W := by
  rw [rlm]
  simp only [Sem.run_bind, parts_pf, Result.andThen]
  simp [ReflectliteValue.isNil, loadVar, isAgg, underlying, Tryd.underlying142, ha, Result.andThen]
theorem isNil_pe (a p : Addr) (W : World) (ha : W.cell? a = some (.pointer (some p))) :
    (ReflectliteValue.method (ReflectliteValue.valueError "reflectlite.Value.IsNil" 0) ReflectliteValue.isNil #[.agg #[.pointer (some ⟨1, 143, none⟩), .pointer (some a), .int .u64 150]]).run Tryd.prog W = .ok (.bool false) W := by
  rw [rlm]
  simp only [Sem.run_bind, parts_pe, Result.andThen]
  simp [ReflectliteValue.isNil, loadVar, isAgg, underlying, Tryd.underlying143, ha, Result.andThen]
theorem elemOf_pf (w : World) : (Rtype.elem? 142).run Tryd.prog w = .ok (some 106) w := by kernel_rfl
theorem elemOf_pe (w : World) : (Rtype.elem? 143).run Tryd.prog w = .ok (some 53) w := by kernel_rfl
theorem mk_f (p : Addr) (w : World) : (ReflectliteValue.mk 106 p ReflectliteValue.flagAddr).run Tryd.prog w = .ok (.agg #[.pointer (some ⟨1, 106, none⟩), .pointer (some p), .int .u64 406]) w := by kernel_rfl
theorem mk_e (p : Addr) (w : World) : (ReflectliteValue.mk 53 p ReflectliteValue.flagAddr).run Tryd.prog w = .ok (.agg #[.pointer (some ⟨1, 53, none⟩), .pointer (some p), .int .u64 386]) w := by kernel_rfl
theorem elemV_pf (a p : Addr) (W : World) (ha : W.cell? a = some (.pointer (some p))) :
    (ReflectliteValue.method (ReflectliteValue.valueError "reflectlite.Value.Elem" 0) ReflectliteValue.elem #[.agg #[.pointer (some ⟨1, 142, none⟩), .pointer (some a), .int .u64 150]]).run Tryd.prog W
      = .ok (.agg #[.pointer (some ⟨1, 106, none⟩), .pointer (some p), .int .u64 406]) W := by
  rw [rlm]
  simp only [Sem.run_bind, parts_pf, Result.andThen]
  simp [ReflectliteValue.elem, loadVar, isAgg, underlying, Tryd.underlying142, ha, Result.andThen, elemOf_pf, mk_f]
theorem elemV_pe (a p : Addr) (W : World) (ha : W.cell? a = some (.pointer (some p))) :
    (ReflectliteValue.method (ReflectliteValue.valueError "reflectlite.Value.Elem" 0) ReflectliteValue.elem #[.agg #[.pointer (some ⟨1, 143, none⟩), .pointer (some a), .int .u64 150]]).run Tryd.prog W
      = .ok (.agg #[.pointer (some ⟨1, 53, none⟩), .pointer (some p), .int .u64 386]) W := by
  rw [rlm]
  simp only [Sem.run_bind, parts_pe, Result.andThen]
  simp [ReflectliteValue.elem, loadVar, isAgg, underlying, Tryd.underlying143, ha, Result.andThen, elemOf_pe, mk_e]
theorem rls (v x : Value) : ReflectliteValue.set #[v, x] = (do
    let (some (dst, a, fl), some (src, b, _)) := (← ReflectliteValue.parts v, ← ReflectliteValue.parts x)
      | unsupported (.noEntry "extern/(internal/reflectlite.Value).Set.zeroValue")
    if fl / ReflectliteValue.flagAddr % 2 == 0 then unsupported (.noEntry "extern/(internal/reflectlite.Value).Set.unaddressable")
    let val ← loadVar src b
    if ← Rtype.directlyAssignable dst src then storeVar dst a val
    else if ← Rtype.implements dst src then
      if (← Rtype.kind src) == 20 then
        match val with
        | .nilIface => unsupported (.noEntry "extern/reflectlite: a nil value of one interface type handed on as a value of another")
        | _ => storeVar dst a val
      else storeVar dst a (.iface src val)
    else panicString ("reflectlite.Set: value of type " ++ (← Rtype.spelt src) ++ " is not assignable to type " ++ (← Rtype.spelt dst))
    pure (.tuple #[])) := rfl
theorem parts_fa (a : Addr) (w : World) : (ReflectliteValue.parts (.agg #[.pointer (some ⟨1, 106, none⟩), .pointer (some a), .int .u64 406])).run Tryd.prog w = .ok (some (106, a, 406)) w := by kernel_rfl
theorem parts_f (a : Addr) (w : World) : (ReflectliteValue.parts (.agg #[.pointer (some ⟨1, 106, none⟩), .pointer (some a), .int .u64 150])).run Tryd.prog w = .ok (some (106, a, 150)) w := by kernel_rfl
theorem parts_ea (a : Addr) (w : World) : (ReflectliteValue.parts (.agg #[.pointer (some ⟨1, 53, none⟩), .pointer (some a), .int .u64 386])).run Tryd.prog w = .ok (some (53, a, 386)) w := by kernel_rfl
theorem parts_e (a : Addr) (w : World) : (ReflectliteValue.parts (.agg #[.pointer (some ⟨1, 53, none⟩), .pointer (some a), .int .u64 130])).run Tryd.prog w = .ok (some (53, a, 130)) w := by kernel_rfl
theorem direct_f (w : World) : (Rtype.directlyAssignable 106 106).run Tryd.prog w = .ok true w := by kernel_rfl
theorem direct_e (w : World) : (Rtype.directlyAssignable 53 53).run Tryd.prog w = .ok true w := by kernel_rfl
theorem set_f (ta b e : Addr) (old : Value) (W : World) (hb : W.cell? b = some (.pointer (some e))) (ht : W.cell? ta = some old) (hf : W.frozen? ta = false) :
    (ReflectliteValue.set #[.agg #[.pointer (some ⟨1, 106, none⟩), .pointer (some ta), .int .u64 406], .agg #[.pointer (some ⟨1, 106, none⟩), .pointer (some b), .int .u64 150]]).run Tryd.prog W
      = .ok (.tuple #[]) (W.setCell ta (.pointer (some e))) := by
  rw [rls]
  simp only [Sem.run_bind, parts_fa, parts_f, Result.andThen]
  simp [ReflectliteValue.flagAddr, loadVar, isAgg, underlying, Tryd.underlying106, hb, Result.andThen, direct_f, storeVar, Value.cells, storeCells, Addr.add]
  rw [run_store Tryd.prog W ta _ _ (by rfl)]
  simp [ht, hf]
theorem set_e (ta b : Addr) (n : Int) (old : Value) (W : World) (hb : W.cell? b = some (.int .i64 n)) (ht : W.cell? ta = some old) (hf : W.frozen? ta = false) :
    (ReflectliteValue.set #[.agg #[.pointer (some ⟨1, 53, none⟩), .pointer (some ta), .int .u64 386], .agg #[.pointer (some ⟨1, 53, none⟩), .pointer (some b), .int .u64 130]]).run Tryd.prog W
      = .ok (.tuple #[]) (W.setCell ta (.int .i64 n)) := by
  rw [rls]
  simp only [Sem.run_bind, parts_ea, parts_e, Result.andThen]
  simp [ReflectliteValue.flagAddr, loadVar, isAgg, underlying, Tryd.underlying53, hb, Result.andThen, direct_e, storeVar, Value.cells, storeCells, Addr.add]
  rw [run_store Tryd.prog W ta _ _ (by rfl)]
  simp [ht, hf]

/-! the assertions of errors.As, errors.Is, errors.Unwrap -/
theorem noAs_f (v : Value) (xT : TypeId) (w : World) : (Instr.typeAssert (.iface 106 v) xT 172 true).run Tryd.prog w = .ok (.tuple #[.nilIface, .bool false]) w := run_typeAssert_lacksB Tryd.underlying172 (by kernel_rfl) (by kernel_rfl) v xT w
theorem noAs_e (v : Value) (xT : TypeId) (w : World) : (Instr.typeAssert (.iface 53 v) xT 172 true).run Tryd.prog w = .ok (.tuple #[.nilIface, .bool false]) w := run_typeAssert_lacksB Tryd.underlying172 (by kernel_rfl) (by kernel_rfl) v xT w
theorem hasIs_f (v : Value) (xT : TypeId) (w : World) : (Instr.typeAssert (.iface 106 v) xT 164 true).run Tryd.prog w = .ok (.tuple #[.iface 106 v, .bool true]) w := run_typeAssert_hasB Tryd.underlying164 (by kernel_rfl) v xT w
theorem noIs_e (v : Value) (xT : TypeId) (w : World) : (Instr.typeAssert (.iface 53 v) xT 164 true).run Tryd.prog w = .ok (.tuple #[.nilIface, .bool false]) w := run_typeAssert_lacksB Tryd.underlying164 (by kernel_rfl) (by kernel_rfl) v xT w
theorem hasUn_f (v : Value) (xT : TypeId) (w : World) : (Instr.typeAssert (.iface 106 v) xT 144 true).run Tryd.prog w = .ok (.tuple #[.iface 106 v, .bool true]) w := run_typeAssert_hasB Tryd.underlying144 (by kernel_rfl) v xT w
theorem noUn_e (v : Value) (xT : TypeId) (w : World) : (Instr.typeAssert (.iface 53 v) xT 144 true).run Tryd.prog w = .ok (.tuple #[.nilIface, .bool false]) w := run_typeAssert_lacksB Tryd.underlying144 (by kernel_rfl) (by kernel_rfl) v xT w
theorem noUns_e (v : Value) (xT : TypeId) (w : World) : (Instr.typeAssert (.iface 53 v) xT 167 true).run Tryd.prog w = .ok (.tuple #[.nilIface, .bool false]) w := run_typeAssert_lacksB Tryd.underlying167 (by kernel_rfl) (by kernel_rfl) v xT w
theorem method_Unwrap (v : Value) (w : World) : (Go.method 304 106 v "Unwrap").run Tryd.prog w = .ok (92, v) w := by kernel_rfl
theorem method_Is (v : Value) (w : World) : (Go.method 304 106 v "Is").run Tryd.prog w = .ok (91, v) w := by kernel_rfl
theorem eql_fe (v x : Value) (w : World) : (binOp .eql 45 (.iface 106 v) (.iface 53 x)).run Tryd.prog w = .ok (.bool false) w := run_eql_iface_types (P := Tryd.prog) _ _ _ _ Tryd.underlying45 (by decide) w
theorem eql_ee (a b : Int) (w : World) : (binOp .eql 45 (.iface 53 (.int .i64 a)) (.iface 53 (.int .i64 b))).run Tryd.prog w = .ok (.bool (a == b)) w := by kernel_rfl
end Go.Proofs.YtlgjaoijgkdmiaaDoor
