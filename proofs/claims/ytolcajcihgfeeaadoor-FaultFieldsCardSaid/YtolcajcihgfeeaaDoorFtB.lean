/- errors.As by contract, its target a *Fault or a Code: on a chain of faults, on a code, on nothing. -/
import Derived.Test.YtolcajcihgfeeaaDoorFtA
import Derived.LaidEql
namespace Go.Proofs.YtolcajcihgfeeaaDoor
open Go.RowKit Go.Extern.Stop Go.Stop Go.Extern

theorem fmethodKind (h : Value) (w : World) : (Go.method 145 73 (.agg #[h]) "Kind").run Tryd.prog w = .ok (65, h) w := by kernel_rfl
theorem fmethodElem (h : Value) (w : World) : (Go.method 145 73 (.agg #[h]) "Elem").run Tryd.prog w = .ok (72, .agg #[h]) w := by kernel_rfl
theorem fmethodImplements (h : Value) (w : World) : (Go.method 145 73 (.agg #[h]) "Implements").run Tryd.prog w = .ok (73, .agg #[h]) w := by kernel_rfl
theorem fmethodAssignableTo (h : Value) (w : World) : (Go.method 145 73 (.agg #[h]) "AssignableTo").run Tryd.prog w = .ok (70, .agg #[h]) w := by kernel_rfl
theorem fmethodUnwrap (g : Nat) (w : World) : (Go.method 145 48 (.pointer (some ⟨g, 0, none⟩)) "Unwrap").run Tryd.prog w = .ok (20, .pointer (some ⟨g, 0, none⟩)) w := by kernel_rfl
theorem fnilUnwrap (g : Nat) (w : World) : (nilAhead 145 48 (.pointer (some ⟨g, 0, none⟩)) "Unwrap").run Tryd.prog w = .ok (some false) w := by kernel_rfl
theorem frlm (z : Sem Value) (f : TypeId → Addr → Nat → Nat → Sem Value) (v : Value) :
    ReflectliteValue.method z f #[v] = (do match ← ReflectliteValue.parts v with | none => z | some (t, a, fl) => f t a fl (fl % 32)) := rfl
theorem frls (v x : Value) : ReflectliteValue.set #[v, x] = (do
    let (some (dst, a, fl), some (src, b, _)) := (← ReflectliteValue.parts v, ← ReflectliteValue.parts x)
      | unsupported (.noEntry "extern/(internal/reflectlite.Value).Set.zeroValue")
    if fl / ReflectliteValue.flagAddr % 2 == 0 then unsupported (.noEntry "extern/(internal/reflectlite.Value).Set.unaddressable")
    let val ← loadVar src b
    if ← Rtype.directlyAssignable dst src then storeVar dst a val
    else if ← Rtype.implements dst src then
      if (← Rtype.kind src) == 20 then
        match val with
        | .nilIface => unsupported (.noEntry "extern/reflectlite: a nil value of one interface type handed on as a value of another")
        | _ => storeVar dst a val
      else storeVar dst a (.iface src val)
    else panicString ("reflectlite.Set: value of type " ++ (← Rtype.spelt src) ++ " is not assignable to type " ++ (← Rtype.spelt dst))
    pure (.tuple #[])) := rfl

/-! ## The model's entries at the target's type F -/
theorem fF_valueOf (t : Addr) (w : World) : (ReflectliteValue.unpack (.iface 65 (.pointer (some t)))).run Tryd.prog w
    = .ok (.agg #[.pointer (some ⟨4, 65, none⟩), .pointer (some ⟨w.heap.size, 0, none⟩), .int .u64 150]) (w.alloc (.cells #[.pointer (some t)] 65)) := by kernel_rfl
theorem fF_type (a : Addr) (w : World) : (ReflectliteValue.methodAny (ReflectliteValue.valueError "reflectlite.Value.Type" 0) (fun t _ _ _ => ReflectliteType.toType t) #[.agg #[.pointer (some ⟨4, 65, none⟩), .pointer (some a), .int .u64 150]]).run Tryd.prog w
    = .ok (.iface 73 (.agg #[.pointer (some ⟨4, 65, none⟩)])) w := by kernel_rfl
theorem fF_kindT (w : World) : ((ReflectliteType.abiMethod fun t => (fun a : Nat => Value.int IntKind.u8 (a : Int)) <$> Rtype.kind t) #[.pointer (some ⟨4, 65, none⟩)]).run Tryd.prog w = .ok (.int .u8 22) w := by kernel_rfl
theorem fF_kindE (w : World) : ((ReflectliteType.abiMethod fun t => (fun a : Nat => Value.int IntKind.u8 (a : Int)) <$> Rtype.kind t) #[.pointer (some ⟨4, 48, none⟩)]).run Tryd.prog w = .ok (.int .u8 22) w := by kernel_rfl
theorem fF_partsT (a : Addr) (w : World) : (ReflectliteValue.parts (.agg #[.pointer (some ⟨4, 65, none⟩), .pointer (some a), .int .u64 150])).run Tryd.prog w = .ok (some (65, a, 150)) w := by kernel_rfl
theorem fF_isNil (a p : Addr) (W : World) (ha : W.cell? a = some (.pointer (some p))) :
    (ReflectliteValue.method (ReflectliteValue.valueError "reflectlite.Value.IsNil" 0) ReflectliteValue.isNil #[.agg #[.pointer (some ⟨4, 65, none⟩), .pointer (some a), .int .u64 150]]).run Tryd.prog W = .ok (.bool false) W := by
  rw [frlm]
  simp only [Sem.run_bind, fF_partsT, Result.andThen]
  simp [ReflectliteValue.isNil, loadVar, isAgg, underlying, Tryd.underlying65, ha, Result.andThen]
theorem fF_elem (w : World) : (ReflectliteType.method ReflectliteType.elem #[.agg #[.pointer (some ⟨4, 65, none⟩)]]).run Tryd.prog w = .ok (.iface 73 (.agg #[.pointer (some ⟨4, 48, none⟩)])) w := by kernel_rfl
theorem fF_implements (w : World) : (ReflectliteType.relation "Implements" ReflectliteType.implements_ #[.agg #[.pointer (some ⟨4, 48, none⟩)], .iface 73 (.agg #[.pointer (some ⟨4, 28, none⟩)])]).run Tryd.prog w = .ok (.bool true) w := by kernel_rfl
theorem fF_typeOf (v : Value) (w : World) : (ReflectliteType.typeOf #[.iface 48 v]).run Tryd.prog w = .ok (.iface 73 (.agg #[.pointer (some ⟨4, 48, none⟩)])) w := by kernel_rfl
theorem fF_valueOfE (e : Nat) (w : World) : (ReflectliteValue.unpack (.iface 48 (.pointer (some ⟨e, 0, none⟩)))).run Tryd.prog w
    = .ok (.agg #[.pointer (some ⟨4, 48, none⟩), .pointer (some ⟨w.heap.size, 0, none⟩), .int .u64 150]) (w.alloc (.cells #[(.pointer (some ⟨e, 0, none⟩))] 48)) := by kernel_rfl
theorem fF_elemOf (w : World) : (Rtype.elem? 65).run Tryd.prog w = .ok (some 48) w := by kernel_rfl
theorem fF_mk (p : Addr) (w : World) : (ReflectliteValue.mk 48 p ReflectliteValue.flagAddr).run Tryd.prog w = .ok (.agg #[.pointer (some ⟨4, 48, none⟩), .pointer (some p), .int .u64 406]) w := by kernel_rfl
theorem fF_elemV (a p : Addr) (W : World) (ha : W.cell? a = some (.pointer (some p))) :
    (ReflectliteValue.method (ReflectliteValue.valueError "reflectlite.Value.Elem" 0) ReflectliteValue.elem #[.agg #[.pointer (some ⟨4, 65, none⟩), .pointer (some a), .int .u64 150]]).run Tryd.prog W = .ok (.agg #[.pointer (some ⟨4, 48, none⟩), .pointer (some p), .int .u64 406]) W := by
  rw [frlm]
  simp only [Sem.run_bind, fF_partsT, Result.andThen]
  simp [ReflectliteValue.elem, loadVar, isAgg, underlying, Tryd.underlying65, ha, Result.andThen, fF_elemOf, fF_mk]
theorem fF_partsA (p : Addr) (w : World) : (ReflectliteValue.parts (.agg #[.pointer (some ⟨4, 48, none⟩), .pointer (some p), .int .u64 406])).run Tryd.prog w = .ok (some (48, p, 406)) w := by kernel_rfl
theorem fF_partsE (a : Addr) (w : World) : (ReflectliteValue.parts (.agg #[.pointer (some ⟨4, 48, none⟩), .pointer (some a), .int .u64 150])).run Tryd.prog w = .ok (some (48, a, 150)) w := by kernel_rfl
theorem fF_direct (w : World) : (Rtype.directlyAssignable 48 48).run Tryd.prog w = .ok true w := by kernel_rfl
theorem fF_size (w : World) : (sizeOf 48).run Tryd.prog w = .ok 1 w := by kernel_rfl
theorem fF_set (p a : Addr) (e : Nat) (old : Value) (W : World) (hb : W.cell? a = some (.pointer (some ⟨e, 0, none⟩))) (ht : W.cell? p = some old) (hf : W.frozen? p = false) :
    (ReflectliteValue.set #[.agg #[.pointer (some ⟨4, 48, none⟩), .pointer (some p), .int .u64 406], .agg #[.pointer (some ⟨4, 48, none⟩), .pointer (some a), .int .u64 150]]).run Tryd.prog W = .ok (.tuple #[]) (W.setCell p (.pointer (some ⟨e, 0, none⟩))) := by
  rw [frls]
  simp only [Sem.run_bind, fF_partsA, fF_partsE, Result.andThen]
  simp [ReflectliteValue.flagAddr, loadVar, isAgg, underlying, Tryd.underlying48, hb, Result.andThen, fF_direct, storeVar, Value.cells, storeCells, Addr.add]
  rw [run_store Tryd.prog W p _ _ (by rfl)]
  simp [ht, hf]

/-! ## The model's entries at the target's type C -/
theorem fC_valueOf (t : Addr) (w : World) : (ReflectliteValue.unpack (.iface 66 (.pointer (some t)))).run Tryd.prog w
    = .ok (.agg #[.pointer (some ⟨4, 66, none⟩), .pointer (some ⟨w.heap.size, 0, none⟩), .int .u64 150]) (w.alloc (.cells #[.pointer (some t)] 66)) := by kernel_rfl
theorem fC_type (a : Addr) (w : World) : (ReflectliteValue.methodAny (ReflectliteValue.valueError "reflectlite.Value.Type" 0) (fun t _ _ _ => ReflectliteType.toType t) #[.agg #[.pointer (some ⟨4, 66, none⟩), .pointer (some a), .int .u64 150]]).run Tryd.prog w
    = .ok (.iface 73 (.agg #[.pointer (some ⟨4, 66, none⟩)])) w := by kernel_rfl
theorem fC_kindT (w : World) : ((ReflectliteType.abiMethod fun t => (fun a : Nat => Value.int IntKind.u8 (a : Int)) <$> Rtype.kind t) #[.pointer (some ⟨4, 66, none⟩)]).run Tryd.prog w = .ok (.int .u8 22) w := by kernel_rfl
theorem fC_kindE (w : World) : ((ReflectliteType.abiMethod fun t => (fun a : Nat => Value.int IntKind.u8 (a : Int)) <$> Rtype.kind t) #[.pointer (some ⟨4, 31, none⟩)]).run Tryd.prog w = .ok (.int .u8 2) w := by kernel_rfl
theorem fC_partsT (a : Addr) (w : World) : (ReflectliteValue.parts (.agg #[.pointer (some ⟨4, 66, none⟩), .pointer (some a), .int .u64 150])).run Tryd.prog w = .ok (some (66, a, 150)) w := by kernel_rfl
theorem fC_isNil (a p : Addr) (W : World) (ha : W.cell? a = some (.pointer (some p))) :
    (ReflectliteValue.method (ReflectliteValue.valueError "reflectlite.Value.IsNil" 0) ReflectliteValue.isNil #[.agg #[.pointer (some ⟨4, 66, none⟩), .pointer (some a), .int .u64 150]]).run Tryd.prog W = .ok (.bool false) W := by
  rw [frlm]
  simp only [Sem.run_bind, fC_partsT, Result.andThen]
  simp [ReflectliteValue.isNil, loadVar, isAgg, underlying, Tryd.underlying66, ha, Result.andThen]
theorem fC_elem (w : World) : (ReflectliteType.method ReflectliteType.elem #[.agg #[.pointer (some ⟨4, 66, none⟩)]]).run Tryd.prog w = .ok (.iface 73 (.agg #[.pointer (some ⟨4, 31, none⟩)])) w := by kernel_rfl
theorem fC_implements (w : World) : (ReflectliteType.relation "Implements" ReflectliteType.implements_ #[.agg #[.pointer (some ⟨4, 31, none⟩)], .iface 73 (.agg #[.pointer (some ⟨4, 28, none⟩)])]).run Tryd.prog w = .ok (.bool true) w := by kernel_rfl
theorem fC_typeOf (v : Value) (w : World) : (ReflectliteType.typeOf #[.iface 31 v]).run Tryd.prog w = .ok (.iface 73 (.agg #[.pointer (some ⟨4, 31, none⟩)])) w := by kernel_rfl
theorem fC_valueOfE (e : Int) (w : World) : (ReflectliteValue.unpack (.iface 31 (.int .i64 e))).run Tryd.prog w
    = .ok (.agg #[.pointer (some ⟨4, 31, none⟩), .pointer (some ⟨w.heap.size, 0, none⟩), .int .u64 130]) (w.alloc (.cells #[(.int .i64 e)] 31)) := by kernel_rfl
theorem fC_elemOf (w : World) : (Rtype.elem? 66).run Tryd.prog w = .ok (some 31) w := by kernel_rfl
theorem fC_mk (p : Addr) (w : World) : (ReflectliteValue.mk 31 p ReflectliteValue.flagAddr).run Tryd.prog w = .ok (.agg #[.pointer (some ⟨4, 31, none⟩), .pointer (some p), .int .u64 386]) w := by kernel_rfl
theorem fC_elemV (a p : Addr) (W : World) (ha : W.cell? a = some (.pointer (some p))) :
    (ReflectliteValue.method (ReflectliteValue.valueError "reflectlite.Value.Elem" 0) ReflectliteValue.elem #[.agg #[.pointer (some ⟨4, 66, none⟩), .pointer (some a), .int .u64 150]]).run Tryd.prog W = .ok (.agg #[.pointer (some ⟨4, 31, none⟩), .pointer (some p), .int .u64 386]) W := by
  rw [frlm]
  simp only [Sem.run_bind, fC_partsT, Result.andThen]
  simp [ReflectliteValue.elem, loadVar, isAgg, underlying, Tryd.underlying66, ha, Result.andThen, fC_elemOf, fC_mk]
theorem fC_partsA (p : Addr) (w : World) : (ReflectliteValue.parts (.agg #[.pointer (some ⟨4, 31, none⟩), .pointer (some p), .int .u64 386])).run Tryd.prog w = .ok (some (31, p, 386)) w := by kernel_rfl
theorem fC_partsE (a : Addr) (w : World) : (ReflectliteValue.parts (.agg #[.pointer (some ⟨4, 31, none⟩), .pointer (some a), .int .u64 130])).run Tryd.prog w = .ok (some (31, a, 130)) w := by kernel_rfl
theorem fC_direct (w : World) : (Rtype.directlyAssignable 31 31).run Tryd.prog w = .ok true w := by kernel_rfl
theorem fC_size (w : World) : (sizeOf 31).run Tryd.prog w = .ok 1 w := by kernel_rfl
theorem fC_set (p a : Addr) (e : Int) (old : Value) (W : World) (hb : W.cell? a = some (.int .i64 e)) (ht : W.cell? p = some old) (hf : W.frozen? p = false) :
    (ReflectliteValue.set #[.agg #[.pointer (some ⟨4, 31, none⟩), .pointer (some p), .int .u64 386], .agg #[.pointer (some ⟨4, 31, none⟩), .pointer (some a), .int .u64 130]]).run Tryd.prog W = .ok (.tuple #[]) (W.setCell p (.int .i64 e)) := by
  rw [frls]
  simp only [Sem.run_bind, fC_partsA, fC_partsE, Result.andThen]
  simp [ReflectliteValue.flagAddr, loadVar, isAgg, underlying, Tryd.underlying31, hb, Result.andThen, fC_direct, storeVar, Value.cells, storeCells, Addr.add]
  rw [run_store Tryd.prog W p _ _ (by rfl)]
  simp [ht, hf]

theorem fassignFF (w : World) : (ReflectliteType.relation "AssignableTo" ReflectliteType.assignableTo #[.agg #[.pointer (some ⟨4, 48, none⟩)], .iface 73 (.agg #[.pointer (some ⟨4, 48, none⟩)])]).run Tryd.prog w = .ok (.bool true) w := by kernel_rfl
theorem fassignFC (w : World) : (ReflectliteType.relation "AssignableTo" ReflectliteType.assignableTo #[.agg #[.pointer (some ⟨4, 48, none⟩)], .iface 73 (.agg #[.pointer (some ⟨4, 31, none⟩)])]).run Tryd.prog w = .ok (.bool false) w := by kernel_rfl
theorem fassignCF (w : World) : (ReflectliteType.relation "AssignableTo" ReflectliteType.assignableTo #[.agg #[.pointer (some ⟨4, 31, none⟩)], .iface 73 (.agg #[.pointer (some ⟨4, 48, none⟩)])]).run Tryd.prog w = .ok (.bool false) w := by kernel_rfl
theorem fassignCC (w : World) : (ReflectliteType.relation "AssignableTo" ReflectliteType.assignableTo #[.agg #[.pointer (some ⟨4, 31, none⟩)], .iface 73 (.agg #[.pointer (some ⟨4, 31, none⟩)])]).run Tryd.prog w = .ok (.bool true) w := by kernel_rfl
theorem fF_noAs (v : Value) (xT : TypeId) (w : World) : (Instr.typeAssert (.iface 48 v) xT 95 true).run Tryd.prog w = .ok (.tuple #[.nilIface, .bool false]) w := run_typeAssert_lacksB Tryd.underlying95 (by kernel_rfl) (by kernel_rfl) v xT w
theorem fF_noIs (v : Value) (xT : TypeId) (w : World) : (Instr.typeAssert (.iface 48 v) xT 75 true).run Tryd.prog w = .ok (.tuple #[.nilIface, .bool false]) w := run_typeAssert_lacksB Tryd.underlying75 (by kernel_rfl) (by kernel_rfl) v xT w
theorem fF_noUnwraps (v : Value) (xT : TypeId) (w : World) : (Instr.typeAssert (.iface 48 v) xT 78 true).run Tryd.prog w = .ok (.tuple #[.nilIface, .bool false]) w := run_typeAssert_lacksB Tryd.underlying78 (by kernel_rfl) (by kernel_rfl) v xT w
theorem fC_noAs (v : Value) (xT : TypeId) (w : World) : (Instr.typeAssert (.iface 31 v) xT 95 true).run Tryd.prog w = .ok (.tuple #[.nilIface, .bool false]) w := run_typeAssert_lacksB Tryd.underlying95 (by kernel_rfl) (by kernel_rfl) v xT w
theorem fC_noIs (v : Value) (xT : TypeId) (w : World) : (Instr.typeAssert (.iface 31 v) xT 75 true).run Tryd.prog w = .ok (.tuple #[.nilIface, .bool false]) w := run_typeAssert_lacksB Tryd.underlying75 (by kernel_rfl) (by kernel_rfl) v xT w
theorem fC_noUnwraps (v : Value) (xT : TypeId) (w : World) : (Instr.typeAssert (.iface 31 v) xT 78 true).run Tryd.prog w = .ok (.tuple #[.nilIface, .bool false]) w := run_typeAssert_lacksB Tryd.underlying78 (by kernel_rfl) (by kernel_rfl) v xT w
theorem fC_noUnwrap (v : Value) (xT : TypeId) (w : World) : (Instr.typeAssert (.iface 31 v) xT 69 true).run Tryd.prog w = .ok (.tuple #[.nilIface, .bool false]) w := run_typeAssert_lacksB Tryd.underlying69 (by kernel_rfl) (by kernel_rfl) v xT w
theorem fF_hasUnwrap (v : Value) (xT : TypeId) (w : World) : (Instr.typeAssert (.iface 48 v) xT 69 true).run Tryd.prog w = .ok (.tuple #[.iface 48 v, .bool true]) w := run_typeAssert_hasB Tryd.underlying69 (by kernel_rfl) v xT w
end Go.Proofs.YtolcajcihgfeeaaDoor
