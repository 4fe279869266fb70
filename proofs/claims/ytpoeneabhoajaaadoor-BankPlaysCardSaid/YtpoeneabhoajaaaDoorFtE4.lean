/- errors.As by contract, its target a *Fault or a Code. -/
import Derived.Test.YtpoeneabhoajaaaDoorFtC4
namespace Go.Proofs.YtpoeneabhoajaaaDoor
open Go.RowKit Go.Extern.Stop Go.Stop Go.Extern

/-- errors' own variable holds the type 'error'. -/
def ErrT (w : World) : Prop := w.cell? ⟨0, 0, none⟩ = some (.iface 126 (.agg #[.pointer (some ⟨1, 27, none⟩)]))
theorem ErrT.lt {w : World} (h : ErrT w) : 0 < w.heap.size := block_lt_of_cell h
theorem ErrT.below {w w' : World} (h : ErrT w) (hb : Below w.heap.size w w') : ErrT w' := (hb.cell (p := ⟨0, 0, none⟩) h.lt).trans h
theorem ErrT.but {t : Nat} {w w' : World} (h : ErrT w) (hb : But t w w') (ht : t ≠ 0) : ErrT w' := (World.cell?_of_block (w := w) (hb.block _ h.lt (Ne.symm ht))).trans h

/-- errors.As of nothing. -/
theorem As_nil (t : Value) (w : World) : Calls Tryd.prog 46 #[.nilIface, t] w fun e w' => e = .returned (.bool false) ∧ w = w' := by
  go_enter Tryd.func46, Tryd.ntmps46
  go_wp2
  go_ret
  exact ⟨rfl, rfl⟩


set_option maxHeartbeats 4000000 in
theorem AsF_hit (e : Nat) (t : Nat) (old : Value) (w : World) (hE : ErrT w) (ht : Var1 w t 86 old) :
    Calls Tryd.prog 46 #[faultV e, .iface 94 (.pointer (some ⟨t, 0, none⟩))] w fun ev w' => ev = .returned (.bool true) ∧ Var1 w' t 86 (.pointer (some ⟨e, 0, none⟩)) ∧ But t w w' := by
  have hValueOf := @run_callFunc_extern Tryd.prog 71 _ (fun args => ReflectliteValue.unpack (args.getD 0 (.tuple #[]))) Tryd.func71 (by kernel_rfl) (by kernel_rfl) (by kernel_rfl) (by kernel_rfl)
  have hType := @run_callFunc_extern Tryd.prog 72 _ (ReflectliteValue.methodAny (ReflectliteValue.valueError "reflectlite.Value.Type" 0) (fun t _ _ _ => ReflectliteType.toType t)) Tryd.func72 (by kernel_rfl) (by kernel_rfl) (by kernel_rfl) (by kernel_rfl)
  have hIsNil := @run_callFunc_extern Tryd.prog 73 _ (ReflectliteValue.method (ReflectliteValue.valueError "reflectlite.Value.IsNil" 0) ReflectliteValue.isNil) Tryd.func73 (by kernel_rfl) (by kernel_rfl) (by kernel_rfl) (by kernel_rfl)
  have hKind := @run_callFunc_extern Tryd.prog 97 _ (ReflectliteType.abiMethod fun t => do pure (.int .u8 (← Rtype.kind t))) Tryd.func97 (by kernel_rfl) (by kernel_rfl) (by kernel_rfl) (by kernel_rfl)
  have hElem := @run_callFunc_extern Tryd.prog 109 _ (ReflectliteType.method ReflectliteType.elem) Tryd.func109 (by kernel_rfl) (by kernel_rfl) (by kernel_rfl) (by kernel_rfl)
  have hImplements := @run_callFunc_extern Tryd.prog 110 _ (ReflectliteType.relation "Implements" ReflectliteType.implements_) Tryd.func110 (by kernel_rfl) (by kernel_rfl) (by kernel_rfl) (by kernel_rfl)
  have f6 := fF_valueOf
  have f7 := fF_type
  have mK := fmethodKind
  have mE := fmethodElem
  have mI := fmethodImplements
  have kT := fF_kindT
  have kE := fF_kindE
  have eT := fF_elem
  have iE := fF_implements
  have HB := mkHid (show Below w.heap.size w ((w.alloc (.cells #[.pointer (some ⟨t, 0, none⟩)] 94)).alloc (.cells #[.pointer (some ⟨1, 94, none⟩), .pointer (some ⟨w.heap.size, 0, none⟩), .int .u64 150] 118)) from (below_alF _).alloc (by simp) _)
  have HBT := mkHid (show But t w ((w.alloc (.cells #[.pointer (some ⟨t, 0, none⟩)] 94)).alloc (.cells #[.pointer (some ⟨1, 94, none⟩), .pointer (some ⟨w.heap.size, 0, none⟩), .int .u64 150] 118)) from .of_below HB.out)
  have n8 := fF_isNil ⟨w.heap.size, 0, none⟩ ⟨t, 0, none⟩ ((w.alloc (.cells #[.pointer (some ⟨t, 0, none⟩)] 94)).alloc (.cells #[.pointer (some ⟨1, 94, none⟩), .pointer (some ⟨w.heap.size, 0, none⟩), .int .u64 150] 118)) (by simp)
  have hg2 : ((w.alloc (.cells #[.pointer (some ⟨t, 0, none⟩)] 94)).alloc (.cells #[.pointer (some ⟨1, 94, none⟩), .pointer (some ⟨w.heap.size, 0, none⟩), .int .u64 150] 118)).cell? ⟨0, 0, none⟩ = some (.iface 126 (.agg #[.pointer (some ⟨1, 27, none⟩)])) := hE.below HB.out
  have HT2 := mkHid (ht.keep HB.out)
  have HCA := mkHid (show ((w.alloc (.cells #[.pointer (some ⟨t, 0, none⟩)] 94)).alloc (.cells #[.pointer (some ⟨1, 94, none⟩), .pointer (some ⟨w.heap.size, 0, none⟩), .int .u64 150] 118)).cell? ⟨w.heap.size, 0, none⟩ = some (.pointer (some ⟨t, 0, none⟩)) by simp)
  clear hE ht
  go_enter Tryd.func46, Tryd.ntmps46
  go_wp2_with (go_at_call 74; refine (asF_hit e t w.heap.size old _ HCA.out HT2.out).mono ?_; rintro e w' ⟨rfl, hv, hb⟩)
  go_ret
  exact ⟨rfl, hv, HBT.out.trans hb⟩


set_option maxHeartbeats 4000000 in
theorem AsF_miss (c : Int) (t : Nat) (old : Value) (w : World) (hE : ErrT w) (ht : Var1 w t 86 old) :
    Calls Tryd.prog 46 #[codeV c, .iface 94 (.pointer (some ⟨t, 0, none⟩))] w fun ev w' => ev = .returned (.bool false) ∧ Below w.heap.size w w' := by
  have hValueOf := @run_callFunc_extern Tryd.prog 71 _ (fun args => ReflectliteValue.unpack (args.getD 0 (.tuple #[]))) Tryd.func71 (by kernel_rfl) (by kernel_rfl) (by kernel_rfl) (by kernel_rfl)
  have hType := @run_callFunc_extern Tryd.prog 72 _ (ReflectliteValue.methodAny (ReflectliteValue.valueError "reflectlite.Value.Type" 0) (fun t _ _ _ => ReflectliteType.toType t)) Tryd.func72 (by kernel_rfl) (by kernel_rfl) (by kernel_rfl) (by kernel_rfl)
  have hIsNil := @run_callFunc_extern Tryd.prog 73 _ (ReflectliteValue.method (ReflectliteValue.valueError "reflectlite.Value.IsNil" 0) ReflectliteValue.isNil) Tryd.func73 (by kernel_rfl) (by kernel_rfl) (by kernel_rfl) (by kernel_rfl)
  have hKind := @run_callFunc_extern Tryd.prog 97 _ (ReflectliteType.abiMethod fun t => do pure (.int .u8 (← Rtype.kind t))) Tryd.func97 (by kernel_rfl) (by kernel_rfl) (by kernel_rfl) (by kernel_rfl)
  have hElem := @run_callFunc_extern Tryd.prog 109 _ (ReflectliteType.method ReflectliteType.elem) Tryd.func109 (by kernel_rfl) (by kernel_rfl) (by kernel_rfl) (by kernel_rfl)
  have hImplements := @run_callFunc_extern Tryd.prog 110 _ (ReflectliteType.relation "Implements" ReflectliteType.implements_) Tryd.func110 (by kernel_rfl) (by kernel_rfl) (by kernel_rfl) (by kernel_rfl)
  have f6 := fF_valueOf
  have f7 := fF_type
  have mK := fmethodKind
  have mE := fmethodElem
  have mI := fmethodImplements
  have kT := fF_kindT
  have kE := fF_kindE
  have eT := fF_elem
  have iE := fF_implements
  have HB := mkHid (show Below w.heap.size w ((w.alloc (.cells #[.pointer (some ⟨t, 0, none⟩)] 94)).alloc (.cells #[.pointer (some ⟨1, 94, none⟩), .pointer (some ⟨w.heap.size, 0, none⟩), .int .u64 150] 118)) from (below_alF _).alloc (by simp) _)
  have HBT := mkHid (show But t w ((w.alloc (.cells #[.pointer (some ⟨t, 0, none⟩)] 94)).alloc (.cells #[.pointer (some ⟨1, 94, none⟩), .pointer (some ⟨w.heap.size, 0, none⟩), .int .u64 150] 118)) from .of_below HB.out)
  have n8 := fF_isNil ⟨w.heap.size, 0, none⟩ ⟨t, 0, none⟩ ((w.alloc (.cells #[.pointer (some ⟨t, 0, none⟩)] 94)).alloc (.cells #[.pointer (some ⟨1, 94, none⟩), .pointer (some ⟨w.heap.size, 0, none⟩), .int .u64 150] 118)) (by simp)
  have hg2 : ((w.alloc (.cells #[.pointer (some ⟨t, 0, none⟩)] 94)).alloc (.cells #[.pointer (some ⟨1, 94, none⟩), .pointer (some ⟨w.heap.size, 0, none⟩), .int .u64 150] 118)).cell? ⟨0, 0, none⟩ = some (.iface 126 (.agg #[.pointer (some ⟨1, 27, none⟩)])) := hE.below HB.out
  have HT2 := mkHid (ht.keep HB.out)
  have HCA := mkHid (show ((w.alloc (.cells #[.pointer (some ⟨t, 0, none⟩)] 94)).alloc (.cells #[.pointer (some ⟨1, 94, none⟩), .pointer (some ⟨w.heap.size, 0, none⟩), .int .u64 150] 118)).cell? ⟨w.heap.size, 0, none⟩ = some (.pointer (some ⟨t, 0, none⟩)) by simp)
  clear hE ht
  go_enter Tryd.func46, Tryd.ntmps46
  go_wp2_with (go_at_call 74; refine (asF_miss c _ w.heap.size _).mono ?_; rintro e w' ⟨rfl, hb⟩)
  go_ret
  exact ⟨rfl, HB.out.trans (hb.mono HB.out.size)⟩



end Go.Proofs.YtpoeneabhoajaaaDoor
