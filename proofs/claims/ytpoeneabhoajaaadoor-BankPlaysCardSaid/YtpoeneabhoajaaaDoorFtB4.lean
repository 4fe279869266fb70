/- errors.As by contract, its target a *Fault or a Code: on a chain of faults, on a code, on nothing. -/
import Derived.Test.YtpoeneabhoajaaaDoorFtA5
import Derived.LaidEql
namespace Go.Proofs.YtpoeneabhoajaaaDoor
open Go.RowKit Go.Extern.Stop Go.Stop Go.Extern

theorem fmethodKind (h : Value) (w : World) : (Go.method 172 126 (.agg #[h]) "Kind").run Tryd.prog w = .ok (97, h) w := by kernel_rfl
theorem fmethodElem (h : Value) (w : World) : (Go.method 172 126 (.agg #[h]) "Elem").run Tryd.prog w = .ok (109, .agg #[h]) w := by kernel_rfl
theorem fmethodImplements (h : Value) (w : World) : (Go.method 172 126 (.agg #[h]) "Implements").run Tryd.prog w = .ok (110, .agg #[h]) w := by kernel_rfl
theorem fmethodAssignableTo (h : Value) (w : World) : (Go.method 172 126 (.agg #[h]) "AssignableTo").run Tryd.prog w = .ok (107, .agg #[h]) w := by kernel_rfl
theorem fmethodUnwrap (g : Nat) (w : World) : (Go.method 172 86 (.pointer (some ⟨g, 0, none⟩)) "Unwrap").run Tryd.prog w = .ok (102, .pointer (some ⟨g, 0, none⟩)) w := by kernel_rfl
theorem fnilUnwrap (g : Nat) (w : World) : (nilAhead 172 86 (.pointer (some ⟨g, 0, none⟩)) "Unwrap").run Tryd.prog w = .ok (some false) w := by kernel_rfl
theorem frlm (z : Sem Value) (f : TypeId → Addr → Nat → Nat → Sem Value) (v : Value) :
    ReflectliteValue.method z f #[v] = (do match ← ReflectliteValue.parts v with | none => z | some (t, a, fl) => f t a fl (fl % 32)) := rfl
theorem frls (v x : Value) : ReflectliteValue.set #[v, x] = (do
    let (some (dst, a, fl), some (src, b, _)) := (← ReflectliteValue.parts v, ← ReflectliteValue.parts x)
      | unsupported (.noEntry "extern/(internal/reflectlite.Value).Set.zeroValue")
    if fl / ReflectliteValue.flagAddr % 2 == 0 then unsupported (.noEntry "extern/(internal/reflectlite.Value).Set.unaddressable")
    let val ← loadVar src b
    if ← Rtype.directlyAssignable dst src then storeVar dst a val
    else if ← Rtype.implements dst src then
      if (← Rtype.kind src) == 20 then
        match val with
        | .nilIface => unsupported (.noEntry "extern/reflectlite: a nil value of one interface type handed on as a value of another")
        | _ => storeVar dst a val
      else storeVar dst a (.iface src val)
    else panicString ("reflectlite.Set: value of type " ++ (← Rtype.spelt src) ++ " is not assignable to type " ++ (← Rtype.spelt dst))
    pure (.tuple #[])) := rfl

/-! ## The model's entries at the target's type F -/
theorem fF_valueOf (t : Addr) (w : World) : (ReflectliteValue.unpack (.iface 94 (.pointer (some t)))).run Tryd.prog w
    = .ok (.agg #[.pointer (some ⟨1, 94, none⟩), .pointer (some ⟨w.heap.size, 0, none⟩), .int .u64 150]) (w.alloc (.cells #[.pointer (some t)] 94)) := by kernel_rfl
theorem fF_type (a : Addr) (w : World) : (ReflectliteValue.methodAny (ReflectliteValue.valueError "reflectlite.Value.Type" 0) (fun t _ _ _ => ReflectliteType.toType t) #[.agg #[.pointer (some ⟨1, 94, none⟩), .pointer (some a), .int .u64 150]]).run Tryd.prog w
    = .ok (.iface 126 (.agg #[.pointer (some ⟨1, 94, none⟩)])) w := by kernel_rfl
theorem fF_kindT (w : World) : ((ReflectliteType.abiMethod fun t => (fun a : Nat => Value.int IntKind.u8 (a : Int)) <$> Rtype.kind t) #[.pointer (some ⟨1, 94, none⟩)]).run Tryd.prog w = .ok (.int .u8 22) w := by kernel_rfl
theorem fF_kindE (w : World) : ((ReflectliteType.abiMethod fun t => (fun a : Nat => Value.int IntKind.u8 (a : Int)) <$> Rtype.kind t) #[.pointer (some ⟨1, 86, none⟩)]).run Tryd.prog w = .ok (.int .u8 22) w := by kernel_rfl
theorem fF_partsT (a : Addr) (w : World) : (ReflectliteValue.parts (.agg #[.pointer (some ⟨1, 94, none⟩), .pointer (some a), .int .u64 150])).run Tryd.prog w = .ok (some (94, a, 150)) w := by kernel_rfl
theorem fF_isNil (a p : Addr) (W : World) (ha : W.cell? a = some (.pointer (some p))) :
    (ReflectliteValue.method (ReflectliteValue.valueError "reflectlite.Value.IsNil" 0) ReflectliteValue.isNil #[.agg #[.pointer (some ⟨1, 94, none⟩), .pointer (some a), .int .u64 150]]).run Tryd.prog W = .ok (.bool false) W := by
  rw [frlm]
  simp only [Sem.run_bind, fF_partsT, Result.andThen]
  simp [ReflectliteValue.isNil, loadVar, isAgg, underlying, Tryd.underlying94, ha, Result.andThen]
theorem fF_elem (w : World) : (ReflectliteType.method ReflectliteType.elem #[.agg #[.pointer (some ⟨1, 94, none⟩)]]).run Tryd.prog w = .ok (.iface 126 (.agg #[.pointer (some ⟨1, 86, none⟩)])) w := by kernel_rfl
theorem fF_implements (w : World) : (ReflectliteType.relation "Implements" ReflectliteType.implements_ #[.agg #[.pointer (some ⟨1, 86, none⟩)], .iface 126 (.agg #[.pointer (some ⟨1, 27, none⟩)])]).run Tryd.prog w = .ok (.bool true) w := by kernel_rfl
theorem fF_typeOf (v : Value) (w : World) : (ReflectliteType.typeOf #[.iface 86 v]).run Tryd.prog w = .ok (.iface 126 (.agg #[.pointer (some ⟨1, 86, none⟩)])) w := by kernel_rfl
theorem fF_valueOfE (e : Nat) (w : World) : (ReflectliteValue.unpack (.iface 86 (.pointer (some ⟨e, 0, none⟩)))).run Tryd.prog w
    = .ok (.agg #[.pointer (some ⟨1, 86, none⟩), .pointer (some ⟨w.heap.size, 0, none⟩), .int .u64 150]) (w.alloc (.cells #[(.pointer (some ⟨e, 0, none⟩))] 86)) := by kernel_rfl
theorem fF_elemOf (w : World) : (Rtype.elem? 94).run Tryd.prog w = .ok (some 86) w := by kernel_rfl
theorem fF_mk (p : Addr) (w : World) : (ReflectliteValue.mk 86 p ReflectliteValue.flagAddr).run Tryd.prog w = .ok (.agg #[.pointer (some ⟨1, 86, none⟩), .pointer (some p), .int .u64 406]) w := by kernel_rfl
theorem fF_elemV (a p : Addr) (W : World) (ha : W.cell? a = some (.pointer (some p))) :
    (ReflectliteValue.method (ReflectliteValue.valueError "reflectlite.Value.Elem" 0) ReflectliteValue.elem #[.agg #[.pointer (some ⟨1, 94, none⟩), .pointer (some a), .int .u64 150]]).run Tryd.prog W = .ok (.agg #[.pointer (some ⟨1, 86, none⟩), .pointer (some p), .int .u64 406]) W := by
  rw [frlm]
  simp only [Sem.run_bind, fF_partsT, Result.andThen]
  simp [ReflectliteValue.elem, loadVar, isAgg, underlying, Tryd.underlying94, ha, Result.andThen, fF_elemOf, fF_mk]
theorem fF_partsA (p : Addr) (w : World) : (ReflectliteValue.parts (.agg #[.pointer (some ⟨1, 86, none⟩), .pointer (some p), .int .u64 406])).run Tryd.prog w = .ok (some (86, p, 406)) w := by kernel_rfl
theorem fF_partsE (a : Addr) (w : World) : (ReflectliteValue.parts (.agg #[.pointer (some ⟨1, 86, none⟩), .pointer (some a), .int .u64 150])).run Tryd.prog w = .ok (some (86, a, 150)) w := by kernel_rfl
theorem fF_direct (w : World) : (Rtype.directlyAssignable 86 86).run Tryd.prog w = .ok true w := by kernel_rfl
theorem fF_size (w : World) : (sizeOf 86).run Tryd.prog w = .ok 1 w := by kernel_rfl
theorem fF_set (p a : Addr) (e : Nat) (old : Value) (W : World) (hb : W.cell? a = some (.pointer (some ⟨e, 0, none⟩))) (ht : W.cell? p = some old) (hf : W.frozen? p = false) :
    (ReflectliteValue.set #[.agg #[.pointer (some ⟨1, 86, none⟩), .pointer (some p), .int .u64 406], .agg #[.pointer (some ⟨1, 86, none⟩), .pointer (some a), .int .u64 150]]).run Tryd.prog W = .ok (.tuple #[]) (W.setCell p (.pointer (some ⟨e, 0, none⟩))) := by
  rw [frls]
  simp only [Sem.run_bind, fF_partsA, fF_partsE, Result.andThen]
  simp [ReflectliteValue.flagAddr, loadVar, isAgg, underlying, Tryd.underlying86, hb, Result.andThen, fF_direct, storeVar, Value.cells, storeCells, Addr.add]
  rw [run_store Tryd.prog W p _ _ (by rfl)]
  simp [ht, hf]

/-! ## The model's entries at the target's type C -/
theorem fC_typeOf (v : Value) (w : World) : (ReflectliteType.typeOf #[.iface 54 v]).run Tryd.prog w = .ok (.iface 126 (.agg #[.pointer (some ⟨1, 54, none⟩)])) w := by kernel_rfl
theorem fC_valueOfE (e : Int) (w : World) : (ReflectliteValue.unpack (.iface 54 (.int .i64 e))).run Tryd.prog w
    = .ok (.agg #[.pointer (some ⟨1, 54, none⟩), .pointer (some ⟨w.heap.size, 0, none⟩), .int .u64 130]) (w.alloc (.cells #[(.int .i64 e)] 54)) := by kernel_rfl

theorem fassignFF (w : World) : (ReflectliteType.relation "AssignableTo" ReflectliteType.assignableTo #[.agg #[.pointer (some ⟨1, 86, none⟩)], .iface 126 (.agg #[.pointer (some ⟨1, 86, none⟩)])]).run Tryd.prog w = .ok (.bool true) w := by kernel_rfl
theorem fassignCF (w : World) : (ReflectliteType.relation "AssignableTo" ReflectliteType.assignableTo #[.agg #[.pointer (some ⟨1, 54, none⟩)], .iface 126 (.agg #[.pointer (some ⟨1, 86, none⟩)])]).run Tryd.prog w = .ok (.bool false) w := by kernel_rfl
theorem fF_noAs (v : Value) (xT : TypeId) (w : World) : (Instr.typeAssert (.iface 86 v) xT 139 true).run Tryd.prog w = .ok (.tuple #[.nilIface, .bool false]) w := run_typeAssert_lacksB Tryd.underlying139 (by kernel_rfl) (by kernel_rfl) v xT w
theorem fF_noIs (v : Value) (xT : TypeId) (w : World) : (Instr.typeAssert (.iface 86 v) xT 128 true).run Tryd.prog w = .ok (.tuple #[.nilIface, .bool false]) w := run_typeAssert_lacksB Tryd.underlying128 (by kernel_rfl) (by kernel_rfl) v xT w
theorem fF_noUnwraps (v : Value) (xT : TypeId) (w : World) : (Instr.typeAssert (.iface 86 v) xT 132 true).run Tryd.prog w = .ok (.tuple #[.nilIface, .bool false]) w := run_typeAssert_lacksB Tryd.underlying132 (by kernel_rfl) (by kernel_rfl) v xT w
theorem fC_noAs (v : Value) (xT : TypeId) (w : World) : (Instr.typeAssert (.iface 54 v) xT 139 true).run Tryd.prog w = .ok (.tuple #[.nilIface, .bool false]) w := run_typeAssert_lacksB Tryd.underlying139 (by kernel_rfl) (by kernel_rfl) v xT w
theorem fC_noIs (v : Value) (xT : TypeId) (w : World) : (Instr.typeAssert (.iface 54 v) xT 128 true).run Tryd.prog w = .ok (.tuple #[.nilIface, .bool false]) w := run_typeAssert_lacksB Tryd.underlying128 (by kernel_rfl) (by kernel_rfl) v xT w
theorem fC_noUnwraps (v : Value) (xT : TypeId) (w : World) : (Instr.typeAssert (.iface 54 v) xT 132 true).run Tryd.prog w = .ok (.tuple #[.nilIface, .bool false]) w := run_typeAssert_lacksB Tryd.underlying132 (by kernel_rfl) (by kernel_rfl) v xT w
theorem fC_noUnwrap (v : Value) (xT : TypeId) (w : World) : (Instr.typeAssert (.iface 54 v) xT 131 true).run Tryd.prog w = .ok (.tuple #[.nilIface, .bool false]) w := run_typeAssert_lacksB Tryd.underlying131 (by kernel_rfl) (by kernel_rfl) v xT w
theorem fF_hasUnwrap (v : Value) (xT : TypeId) (w : World) : (Instr.typeAssert (.iface 86 v) xT 131 true).run Tryd.prog w = .ok (.tuple #[.iface 86 v, .bool true]) w := run_typeAssert_hasB Tryd.underlying131 (by kernel_rfl) v xT w
end Go.Proofs.YtpoeneabhoajaaaDoor
