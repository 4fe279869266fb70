/- errors.As by contract, its target a *Fault or a Code. -/
import Derived.Test.YtolcajcihgfeeaaDoorFtD
namespace Go.Proofs.YtolcajcihgfeeaaDoor
open Go.RowKit Go.Extern.Stop Go.Stop Go.Extern

/-- errors' own variable holds the type 'error'. -/
def ErrT (w : World) : Prop := w.cell? ⟨0, 0, none⟩ = some (.iface 73 (.agg #[.pointer (some ⟨4, 28, none⟩)]))
theorem ErrT.lt {w : World} (h : ErrT w) : 0 < w.heap.size := block_lt_of_cell h
theorem ErrT.below {w w' : World} (h : ErrT w) (hb : Below w.heap.size w w') : ErrT w' := (hb.cell (p := ⟨0, 0, none⟩) h.lt).trans h
theorem ErrT.but {t : Nat} {w w' : World} (h : ErrT w) (hb : But t w w') (ht : t ≠ 0) : ErrT w' := (World.cell?_of_block (w := w) (hb.block _ h.lt (Ne.symm ht))).trans h

/-- errors.As of nothing. -/
theorem As_nil (t : Value) (w : World) : Calls Tryd.prog 27 #[.nilIface, t] w fun e w' => e = .returned (.bool false) ∧ w = w' := by
  go_enter Tryd.func27, Tryd.ntmps27
  go_wp2
  go_ret
  exact ⟨rfl, rfl⟩


set_option maxHeartbeats 4000000 in
theorem AsF_hit (e : Nat) (t : Nat) (old : Value) (w : World) (hE : ErrT w) (ht : Var1 w t 48 old) :
    Calls Tryd.prog 27 #[faultV e, .iface 65 (.pointer (some ⟨t, 0, none⟩))] w fun ev w' => ev = .returned (.bool true) ∧ Var1 w' t 48 (.pointer (some ⟨e, 0, none⟩)) ∧ But t w w' := by
  have hValueOf := @run_callFunc_extern Tryd.prog 32 _ (fun args => ReflectliteValue.unpack (args.getD 0 (.tuple #[]))) Tryd.func32 (by kernel_rfl) (by kernel_rfl) (by kernel_rfl) (by kernel_rfl)
  have hType := @run_callFunc_extern Tryd.prog 33 _ (ReflectliteValue.methodAny (ReflectliteValue.valueError "reflectlite.Value.Type" 0) (fun t _ _ _ => ReflectliteType.toType t)) Tryd.func33 (by kernel_rfl) (by kernel_rfl) (by kernel_rfl) (by kernel_rfl)
  have hIsNil := @run_callFunc_extern Tryd.prog 34 _ (ReflectliteValue.method (ReflectliteValue.valueError "reflectlite.Value.IsNil" 0) ReflectliteValue.isNil) Tryd.func34 (by kernel_rfl) (by kernel_rfl) (by kernel_rfl) (by kernel_rfl)
  have hKind := @run_callFunc_extern Tryd.prog 65 _ (ReflectliteType.abiMethod fun t => do pure (.int .u8 (← Rtype.kind t))) Tryd.func65 (by kernel_rfl) (by kernel_rfl) (by kernel_rfl) (by kernel_rfl)
  have hElem := @run_callFunc_extern Tryd.prog 72 _ (ReflectliteType.method ReflectliteType.elem) Tryd.func72 (by kernel_rfl) (by kernel_rfl) (by kernel_rfl) (by kernel_rfl)
  have hImplements := @run_callFunc_extern Tryd.prog 73 _ (ReflectliteType.relation "Implements" ReflectliteType.implements_) Tryd.func73 (by kernel_rfl) (by kernel_rfl) (by kernel_rfl) (by kernel_rfl)
  have f6 := fF_valueOf
  have f7 := fF_type
  have mK := fmethodKind
  have mE := fmethodElem
  have mI := fmethodImplements
  have kT := fF_kindT
  have kE := fF_kindE
  have eT := fF_elem
  have iE := fF_implements
  have HB := mkHid (show Below w.heap.size w ((w.alloc (.cells #[.pointer (some ⟨t, 0, none⟩)] 65)).alloc (.cells #[.pointer (some ⟨4, 65, none⟩), .pointer (some ⟨w.heap.size, 0, none⟩), .int .u64 150] 85)) from (below_alF _).alloc (by simp) _)
  have HBT := mkHid (show But t w ((w.alloc (.cells #[.pointer (some ⟨t, 0, none⟩)] 65)).alloc (.cells #[.pointer (some ⟨4, 65, none⟩), .pointer (some ⟨w.heap.size, 0, none⟩), .int .u64 150] 85)) from .of_below HB.out)
  have n8 := fF_isNil ⟨w.heap.size, 0, none⟩ ⟨t, 0, none⟩ ((w.alloc (.cells #[.pointer (some ⟨t, 0, none⟩)] 65)).alloc (.cells #[.pointer (some ⟨4, 65, none⟩), .pointer (some ⟨w.heap.size, 0, none⟩), .int .u64 150] 85)) (by simp)
  have hg2 : ((w.alloc (.cells #[.pointer (some ⟨t, 0, none⟩)] 65)).alloc (.cells #[.pointer (some ⟨4, 65, none⟩), .pointer (some ⟨w.heap.size, 0, none⟩), .int .u64 150] 85)).cell? ⟨0, 0, none⟩ = some (.iface 73 (.agg #[.pointer (some ⟨4, 28, none⟩)])) := hE.below HB.out
  have HT2 := mkHid (ht.keep HB.out)
  have HCA := mkHid (show ((w.alloc (.cells #[.pointer (some ⟨t, 0, none⟩)] 65)).alloc (.cells #[.pointer (some ⟨4, 65, none⟩), .pointer (some ⟨w.heap.size, 0, none⟩), .int .u64 150] 85)).cell? ⟨w.heap.size, 0, none⟩ = some (.pointer (some ⟨t, 0, none⟩)) by simp)
  clear hE ht
  go_enter Tryd.func27, Tryd.ntmps27
  go_wp2_with (go_at_call 35; refine (asF_hit e t w.heap.size old _ HCA.out HT2.out).mono ?_; rintro e w' ⟨rfl, hv, hb⟩)
  go_ret
  exact ⟨rfl, hv, HBT.out.trans hb⟩


set_option maxHeartbeats 4000000 in
theorem AsF_miss (c : Int) (t : Nat) (old : Value) (w : World) (hE : ErrT w) (ht : Var1 w t 48 old) :
    Calls Tryd.prog 27 #[codeV c, .iface 65 (.pointer (some ⟨t, 0, none⟩))] w fun ev w' => ev = .returned (.bool false) ∧ Below w.heap.size w w' := by
  have hValueOf := @run_callFunc_extern Tryd.prog 32 _ (fun args => ReflectliteValue.unpack (args.getD 0 (.tuple #[]))) Tryd.func32 (by kernel_rfl) (by kernel_rfl) (by kernel_rfl) (by kernel_rfl)
  have hType := @run_callFunc_extern Tryd.prog 33 _ (ReflectliteValue.methodAny (ReflectliteValue.valueError "reflectlite.Value.Type" 0) (fun t _ _ _ => ReflectliteType.toType t)) Tryd.func33 (by kernel_rfl) (by kernel_rfl) (by kernel_rfl) (by kernel_rfl)
  have hIsNil := @run_callFunc_extern Tryd.prog 34 _ (ReflectliteValue.method (ReflectliteValue.valueError "reflectlite.Value.IsNil" 0) ReflectliteValue.isNil) Tryd.func34 (by kernel_rfl) (by kernel_rfl) (by kernel_rfl) (by kernel_rfl)
  have hKind := @run_callFunc_extern Tryd.prog 65 _ (ReflectliteType.abiMethod fun t => do pure (.int .u8 (← Rtype.kind t))) Tryd.func65 (by kernel_rfl) (by kernel_rfl) (by kernel_rfl) (by kernel_rfl)
  have hElem := @run_callFunc_extern Tryd.prog 72 _ (ReflectliteType.method ReflectliteType.elem) Tryd.func72 (by kernel_rfl) (by kernel_rfl) (by kernel_rfl) (by kernel_rfl)
  have hImplements := @run_callFunc_extern Tryd.prog 73 _ (ReflectliteType.relation "Implements" ReflectliteType.implements_) Tryd.func73 (by kernel_rfl) (by kernel_rfl) (by kernel_rfl) (by kernel_rfl)
  have f6 := fF_valueOf
  have f7 := fF_type
  have mK := fmethodKind
  have mE := fmethodElem
  have mI := fmethodImplements
  have kT := fF_kindT
  have kE := fF_kindE
  have eT := fF_elem
  have iE := fF_implements
  have HB := mkHid (show Below w.heap.size w ((w.alloc (.cells #[.pointer (some ⟨t, 0, none⟩)] 65)).alloc (.cells #[.pointer (some ⟨4, 65, none⟩), .pointer (some ⟨w.heap.size, 0, none⟩), .int .u64 150] 85)) from (below_alF _).alloc (by simp) _)
  have HBT := mkHid (show But t w ((w.alloc (.cells #[.pointer (some ⟨t, 0, none⟩)] 65)).alloc (.cells #[.pointer (some ⟨4, 65, none⟩), .pointer (some ⟨w.heap.size, 0, none⟩), .int .u64 150] 85)) from .of_below HB.out)
  have n8 := fF_isNil ⟨w.heap.size, 0, none⟩ ⟨t, 0, none⟩ ((w.alloc (.cells #[.pointer (some ⟨t, 0, none⟩)] 65)).alloc (.cells #[.pointer (some ⟨4, 65, none⟩), .pointer (some ⟨w.heap.size, 0, none⟩), .int .u64 150] 85)) (by simp)
  have hg2 : ((w.alloc (.cells #[.pointer (some ⟨t, 0, none⟩)] 65)).alloc (.cells #[.pointer (some ⟨4, 65, none⟩), .pointer (some ⟨w.heap.size, 0, none⟩), .int .u64 150] 85)).cell? ⟨0, 0, none⟩ = some (.iface 73 (.agg #[.pointer (some ⟨4, 28, none⟩)])) := hE.below HB.out
  have HT2 := mkHid (ht.keep HB.out)
  have HCA := mkHid (show ((w.alloc (.cells #[.pointer (some ⟨t, 0, none⟩)] 65)).alloc (.cells #[.pointer (some ⟨4, 65, none⟩), .pointer (some ⟨w.heap.size, 0, none⟩), .int .u64 150] 85)).cell? ⟨w.heap.size, 0, none⟩ = some (.pointer (some ⟨t, 0, none⟩)) by simp)
  clear hE ht
  go_enter Tryd.func27, Tryd.ntmps27
  go_wp2_with (go_at_call 35; refine (asF_miss c _ w.heap.size _).mono ?_; rintro e w' ⟨rfl, hb⟩)
  go_ret
  exact ⟨rfl, HB.out.trans (hb.mono HB.out.size)⟩


set_option maxHeartbeats 4000000 in
theorem AsC_any (l : List Lk) (B : Nat) (c : Option Int) (T : TypeId) (x : Value) (t : Nat) (old : Value) (w : World) (hE : ErrT w) (h : Ch w B l c (.iface T x)) (hB : B ≤ w.heap.size) (ht : Var1 w t 31 old) :
    Calls Tryd.prog 27 #[.iface T x, .iface 66 (.pointer (some ⟨t, 0, none⟩))] w fun ev w' => ev = .returned (.bool c.isSome) ∧ Var1 w' t 31 (gotC c old) ∧ But t w w' := by
  have hValueOf := @run_callFunc_extern Tryd.prog 32 _ (fun args => ReflectliteValue.unpack (args.getD 0 (.tuple #[]))) Tryd.func32 (by kernel_rfl) (by kernel_rfl) (by kernel_rfl) (by kernel_rfl)
  have hType := @run_callFunc_extern Tryd.prog 33 _ (ReflectliteValue.methodAny (ReflectliteValue.valueError "reflectlite.Value.Type" 0) (fun t _ _ _ => ReflectliteType.toType t)) Tryd.func33 (by kernel_rfl) (by kernel_rfl) (by kernel_rfl) (by kernel_rfl)
  have hIsNil := @run_callFunc_extern Tryd.prog 34 _ (ReflectliteValue.method (ReflectliteValue.valueError "reflectlite.Value.IsNil" 0) ReflectliteValue.isNil) Tryd.func34 (by kernel_rfl) (by kernel_rfl) (by kernel_rfl) (by kernel_rfl)
  have hKind := @run_callFunc_extern Tryd.prog 65 _ (ReflectliteType.abiMethod fun t => do pure (.int .u8 (← Rtype.kind t))) Tryd.func65 (by kernel_rfl) (by kernel_rfl) (by kernel_rfl) (by kernel_rfl)
  have hElem := @run_callFunc_extern Tryd.prog 72 _ (ReflectliteType.method ReflectliteType.elem) Tryd.func72 (by kernel_rfl) (by kernel_rfl) (by kernel_rfl) (by kernel_rfl)
  have hImplements := @run_callFunc_extern Tryd.prog 73 _ (ReflectliteType.relation "Implements" ReflectliteType.implements_) Tryd.func73 (by kernel_rfl) (by kernel_rfl) (by kernel_rfl) (by kernel_rfl)
  have f6 := fC_valueOf
  have f7 := fC_type
  have mK := fmethodKind
  have mE := fmethodElem
  have mI := fmethodImplements
  have kT := fC_kindT
  have kE := fC_kindE
  have eT := fC_elem
  have iE := fC_implements
  have HB := mkHid (show Below w.heap.size w ((w.alloc (.cells #[.pointer (some ⟨t, 0, none⟩)] 66)).alloc (.cells #[.pointer (some ⟨4, 66, none⟩), .pointer (some ⟨w.heap.size, 0, none⟩), .int .u64 150] 85)) from (below_alF _).alloc (by simp) _)
  have HBT := mkHid (show But t w ((w.alloc (.cells #[.pointer (some ⟨t, 0, none⟩)] 66)).alloc (.cells #[.pointer (some ⟨4, 66, none⟩), .pointer (some ⟨w.heap.size, 0, none⟩), .int .u64 150] 85)) from .of_below HB.out)
  have n8 := fC_isNil ⟨w.heap.size, 0, none⟩ ⟨t, 0, none⟩ ((w.alloc (.cells #[.pointer (some ⟨t, 0, none⟩)] 66)).alloc (.cells #[.pointer (some ⟨4, 66, none⟩), .pointer (some ⟨w.heap.size, 0, none⟩), .int .u64 150] 85)) (by simp)
  have hg2 : ((w.alloc (.cells #[.pointer (some ⟨t, 0, none⟩)] 66)).alloc (.cells #[.pointer (some ⟨4, 66, none⟩), .pointer (some ⟨w.heap.size, 0, none⟩), .int .u64 150] 85)).cell? ⟨0, 0, none⟩ = some (.iface 73 (.agg #[.pointer (some ⟨4, 28, none⟩)])) := hE.below HB.out
  have HT2 := mkHid (ht.keep HB.out)
  have HCA := mkHid (show ((w.alloc (.cells #[.pointer (some ⟨t, 0, none⟩)] 66)).alloc (.cells #[.pointer (some ⟨4, 66, none⟩), .pointer (some ⟨w.heap.size, 0, none⟩), .int .u64 150] 85)).cell? ⟨w.heap.size, 0, none⟩ = some (.pointer (some ⟨t, 0, none⟩)) by simp)
  have HCH := mkHid (h.keep fun b hb => HB.out.block b (Nat.lt_of_lt_of_le hb hB) : Ch ((w.alloc (.cells #[.pointer (some ⟨t, 0, none⟩)] 66)).alloc (.cells #[.pointer (some ⟨4, 66, none⟩), .pointer (some ⟨w.heap.size, 0, none⟩), .int .u64 150] 85)) B l c (.iface T x))
  have HBW := mkHid hB
  clear h hB
  clear hE ht
  go_enter Tryd.func27, Tryd.ntmps27
  go_wp2_with (go_at_call 35; refine (asC_any l B c (.iface T x) t w.heap.size old _ HCH.out (Nat.le_trans HBW.out HB.out.size) (by simp) HCA.out HT2.out).mono ?_; rintro e w' ⟨rfl, hv, hb⟩)
  go_ret
  exact ⟨rfl, hv, HBT.out.trans hb⟩

end Go.Proofs.YtolcajcihgfeeaaDoor
