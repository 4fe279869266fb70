/- errors.As by contract, its target a *Fault or a Code. -/
import Derived.Test.YtpoeneabhoajaaaDoorFtB4
namespace Go.Proofs.YtpoeneabhoajaaaDoor
open Go.RowKit Go.Extern.Stop Go.Stop Go.Extern

/-- w' is w with new blocks, and block t turned. -/
structure But (t : Nat) (w w' : World) : Prop where
  os : w'.os = w.os
  tape : w'.tape = w.tape
  output : w'.output = w.output
  size : w.heap.size ≤ w'.heap.size
  block : ∀ k, k < w.heap.size → k ≠ t → w'.heap[k]? = w.heap[k]?
theorem But.refl (t : Nat) (w : World) : But t w w := ⟨rfl, rfl, rfl, Nat.le_refl _, fun _ _ _ => rfl⟩
theorem But.trans {t : Nat} {a b c : World} (h : But t a b) (k : But t b c) : But t a c :=
  ⟨k.os.trans h.os, k.tape.trans h.tape, k.output.trans h.output, Nat.le_trans h.size k.size, fun i h1 h2 => (k.block i (Nat.lt_of_lt_of_le h1 h.size) h2).trans (h.block i h1 h2)⟩
theorem But.of_below {t : Nat} {w w' : World} (h : Below w.heap.size w w') : But t w w' := ⟨h.os, h.tape, h.output, h.size, fun k hk _ => h.block k hk⟩
theorem But.set (w : World) (t o : Nat) (v : Value) : But t w (w.setCell ⟨t, o, none⟩ v) := ⟨rfl, rfl, rfl, by simp, fun k _ hk => Below.heap_setCell w ⟨t, o, none⟩ v k hk⟩
theorem But.below {t B : Nat} {w0 w w' : World} (h : But t w w') (hb : Below B w0 w) (hB : B ≤ w.heap.size) (ht : B ≤ t) : Below B w0 w' :=
  hb.trans ⟨h.os, h.tape, h.output, h.size, fun k hk => h.block k (by omega) (by omega)⟩
theorem below_alF {w : World} (o : Obj) : Below w.heap.size w (w.alloc o) := (Below.refl _ _).alloc (Nat.le_refl _) _
/-- Block t is the variable of one cell that holds v. -/
def Var1 (w : World) (t : Nat) (T : TypeId) (v : Value) : Prop := w.heap[t]? = some (.cells #[v] T (0, 0))
theorem Var1.lt {w : World} {t : Nat} {T : TypeId} {v : Value} (h : Var1 w t T v) : t < w.heap.size := (Array.getElem?_eq_some_iff.1 h).1
theorem Var1.cell {w : World} {t : Nat} {T : TypeId} {v : Value} (h : Var1 w t T v) : w.cell? ⟨t, 0, none⟩ = some v := cell_of_row w t 0 _ _ _ h
theorem Var1.free {w : World} {t : Nat} {T : TypeId} {v : Value} (h : Var1 w t T v) : w.frozen? ⟨t, 0, none⟩ = false := frozen_of_row _ _ _ _ _ h
theorem Var1.keep {w w' : World} {t : Nat} {T : TypeId} {v : Value} (h : Var1 w t T v) (hb : Below w.heap.size w w') : Var1 w' t T v := (hb.block t h.lt).trans h
theorem Var1.set {w : World} {t : Nat} {T : TypeId} {v : Value} (h : Var1 w t T v) (u : Value) : Var1 (w.setCell ⟨t, 0, none⟩ u) t T u := heap_setCell_same _ _ _ _ _ _ h


set_option maxHeartbeats 4000000 in
/-- errors.as: the error itself fits. -/
theorem asF_hit (e : Nat) (t a : Nat) (old : Value) (w : World) (ha : w.cell? ⟨a, 0, none⟩ = some (.pointer (some ⟨t, 0, none⟩))) (ht : Var1 w t 86 old) :
    Calls Tryd.prog 74 #[(faultV e), .iface 94 (.pointer (some ⟨t, 0, none⟩)), .agg #[.pointer (some ⟨1, 94, none⟩), .pointer (some ⟨a, 0, none⟩), .int .u64 150], .iface 126 (.agg #[.pointer (some ⟨1, 86, none⟩)])] w fun ev w' => ev = .returned (.bool true) ∧ Var1 w' t 86 (.pointer (some ⟨e, 0, none⟩)) ∧ But t w w' := by
  have hTypeOf := @run_callFunc_extern Tryd.prog 48 _ ReflectliteType.typeOf Tryd.func48 (by kernel_rfl) (by kernel_rfl) (by kernel_rfl) (by kernel_rfl)
  have hAssignableTo := @run_callFunc_extern Tryd.prog 107 _ (ReflectliteType.relation "AssignableTo" ReflectliteType.assignableTo) Tryd.func107 (by kernel_rfl) (by kernel_rfl) (by kernel_rfl) (by kernel_rfl)
  have hElemV := @run_callFunc_extern Tryd.prog 81 _ (ReflectliteValue.method (ReflectliteValue.valueError "reflectlite.Value.Elem" 0) ReflectliteValue.elem) Tryd.func81 (by kernel_rfl) (by kernel_rfl) (by kernel_rfl) (by kernel_rfl)
  have hValueOf := @run_callFunc_extern Tryd.prog 71 _ (fun args => ReflectliteValue.unpack (args.getD 0 (.tuple #[]))) Tryd.func71 (by kernel_rfl) (by kernel_rfl) (by kernel_rfl) (by kernel_rfl)
  have hSet := @run_callFunc_extern Tryd.prog 82 _ ReflectliteValue.set Tryd.func82 (by kernel_rfl) (by kernel_rfl) (by kernel_rfl) (by kernel_rfl)
  have tO := fF_typeOf
  have mA := fmethodAssignableTo
  have aE := fassignFF
  have vE := fF_valueOfE
  have hal : Below w.heap.size w (w.alloc (.cells #[.pointer (some ⟨1, 94, none⟩), .pointer (some ⟨a, 0, none⟩), .int .u64 150] 118)) := below_alF _
  have alt : a < w.heap.size := block_lt_of_cell ha
  have el := fF_elemV ⟨a, 0, none⟩ ⟨t, 0, none⟩ (w.alloc (.cells #[.pointer (some ⟨1, 94, none⟩), .pointer (some ⟨a, 0, none⟩), .int .u64 150] 118)) ((hal.cell (p := ⟨a, 0, none⟩) alt).trans ha)
  have ht2 : Var1 ((w.alloc (.cells #[.pointer (some ⟨1, 94, none⟩), .pointer (some ⟨a, 0, none⟩), .int .u64 150] 118)).alloc (.cells #[(.pointer (some ⟨e, 0, none⟩))] 86)) t 86 old := (ht.keep hal).keep (below_alF _)
  have st := fF_set ⟨t, 0, none⟩ ⟨w.heap.size + 1, 0, none⟩ e old ((w.alloc (.cells #[.pointer (some ⟨1, 94, none⟩), .pointer (some ⟨a, 0, none⟩), .int .u64 150] 118)).alloc (.cells #[(.pointer (some ⟨e, 0, none⟩))] 86)) (by rw [World.cell?_alloc_at _ _ _ _ (by simp)]; rfl) ht2.cell ht2.free
  have HT := mkHid ht2
  clear ha ht ht2 hal alt
  go_enter Tryd.func74, Tryd.ntmps74
  go_wp2
  refine wp_loop_rounds 1 ?_
  rw [rounds_succ]
  go_wp2
  go_ret
  exact ⟨rfl, HT.out.set _, (But.of_below ((Below.refl _ _).alloc (Nat.le_refl _) _)).trans ((But.of_below (below_alF _)).trans (But.set _ _ _ _))⟩




set_option maxHeartbeats 4000000 in
/-- errors.as: a code is no fault. -/
theorem asF_miss (c : Int) (p : Value) (a : Nat) (w : World) :
    Calls Tryd.prog 74 #[codeV c, p, .agg #[.pointer (some ⟨1, 94, none⟩), .pointer (some ⟨a, 0, none⟩), .int .u64 150], .iface 126 (.agg #[.pointer (some ⟨1, 86, none⟩)])] w fun ev w' => ev = .returned (.bool false) ∧ Below w.heap.size w w' := by
  have hTypeOf := @run_callFunc_extern Tryd.prog 48 _ ReflectliteType.typeOf Tryd.func48 (by kernel_rfl) (by kernel_rfl) (by kernel_rfl) (by kernel_rfl)
  have hAssignableTo := @run_callFunc_extern Tryd.prog 107 _ (ReflectliteType.relation "AssignableTo" ReflectliteType.assignableTo) Tryd.func107 (by kernel_rfl) (by kernel_rfl) (by kernel_rfl) (by kernel_rfl)
  have tO := fC_typeOf
  have mA := fmethodAssignableTo
  have aE := fassignCF
  have n1 := fC_noAs
  have n2 := fC_noUnwrap
  have n3 := fC_noUnwraps
  go_enter Tryd.func74, Tryd.ntmps74
  go_wp2
  refine wp_loop_rounds 1 ?_
  rw [rounds_succ]
  go_wp2
  go_ret
  exact ⟨rfl, below_alF _⟩

end Go.Proofs.YtpoeneabhoajaaaDoor
