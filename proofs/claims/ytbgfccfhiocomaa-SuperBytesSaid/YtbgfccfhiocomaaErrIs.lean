/- errors.Is and the law's own 'is' by contract, on nil and on codes: two codes are one just if their numbers are. -/
import Derived.Test.YtbgfccfhiocomaaRows
import Derived.Test.YtbgfccfhiocomaaMem
import Derived.Stop.Asserts
import Derived.RowKitTokens
namespace Go.Proofs.Ytbgfccfhiocomaa
open Go.RowKit Go.Extern.Stop Go.Stop Go.Extern

/-- A code as an error's value. -/
abbrev codeV (a : Int) : Value := .iface 78 (.int .i64 a)

theorem isTypeOf (v : Value) (w : World) : (Extern.ReflectliteType.typeOf #[.iface 78 v]).run Try.prog w = .ok (.iface 157 (.agg #[.pointer (some ⟨0, 78, none⟩)])) w := by kernel_rfl
theorem isComparable (w : World) : ((Extern.ReflectliteType.method fun t => do Go.Extern.Rtype.noPackHeld "Comparable" t; (fun a => Value.bool a.comparable) <$> typeInfo t) #[.agg #[.pointer (some ⟨0, 78, none⟩)]]).run Try.prog w = .ok (.bool true) w := by kernel_rfl
theorem isMethodComparable (v : Value) (w : World) : (Go.method 212 157 v "Comparable").run Try.prog w = .ok (131, v) w := by kernel_rfl
theorem isComp : (Try.prog.info? 78).map (·.comparable) = some true := by kernel_rfl
theorem noIsC (v : Value) (xT : TypeId) (w : World) : (Instr.typeAssert (.iface 78 v) xT 159 true).run Try.prog w = .ok (.tuple #[.nilIface, .bool false]) w := run_typeAssert_lacksB Try.underlying159 (by kernel_rfl) (by kernel_rfl) v xT w
theorem noUnwrapC (v : Value) (xT : TypeId) (w : World) : (Instr.typeAssert (.iface 78 v) xT 162 true).run Try.prog w = .ok (.tuple #[.nilIface, .bool false]) w := run_typeAssert_lacksB Try.underlying162 (by kernel_rfl) (by kernel_rfl) v xT w
theorem noUnwrapsC (v : Value) (xT : TypeId) (w : World) : (Instr.typeAssert (.iface 78 v) xT 163 true).run Try.prog w = .ok (.tuple #[.nilIface, .bool false]) w := run_typeAssert_lacksB Try.underlying163 (by kernel_rfl) (by kernel_rfl) v xT w

theorem equalIn_iface_int {P : Program} (w : World) (d : Nat) {ti tn : TypeId} {ms : Array (String × TypeId)} {i : TypeInfo} {k : IntKind} (a b : Int)
    (hi : P.underlying ti = some (.interface ms)) (hn : P.underlying tn = some (.int k)) (hinfo : P.info? tn = some i) (hcomp : i.comparable = true) :
    (Op.equalIn (d + 2) ti (.iface tn (.int k a)) (.iface tn (.int k b))).run P w = .ok (a == b) w := by
  simp [Op.equalIn, run_underlying hi, run_underlying hn, typeInfo, hinfo, hcomp]
/-- '==' of two codes is '==' of their numbers. -/
theorem eql_codes (a b : Int) (w : World) : (binOp .eql 29 (codeV a) (codeV b)).run Try.prog w = .ok (.bool (a == b)) w := by
  obtain ⟨i, hi, hcmp⟩ := Option.map_eq_some_iff.1 isComp
  simp only [binOp]
  simp [Op.equal, Op.maxDepth, equalIn_iface_int w 9998 a b Try.underlying29 Try.underlying78 hi hcmp]

set_option maxRecDepth 20000 in
set_option maxHeartbeats 400000 in
theorem eis_code (a b : Int) (w : World) : Calls Try.prog 37 #[codeV a, codeV b] w fun e w' => e = .returned (.bool (a == b)) ∧ w = w' := by
  have h8 := @run_callFunc_extern Try.prog 75 _ Extern.ReflectliteType.typeOf Try.func75 (by kernel_rfl) (by kernel_rfl) (by kernel_rfl) (by kernel_rfl)
  have h32 := @run_callFunc_extern Try.prog 131 _ (Extern.ReflectliteType.method fun t => do Go.Extern.Rtype.noPackHeld "Comparable" t; pure (.bool (← typeInfo t).comparable)) Try.func131 (by kernel_rfl) (by kernel_rfl) (by kernel_rfl) (by kernel_rfl)
  have tT := isTypeOf
  have cT := isComparable
  have mR := isMethodComparable
  have nE := noIsC
  have uE := noUnwrapC
  have vE := noUnwrapsC
  have heq := eql_codes a b w
  by_cases hab : a = b
  · subst hab
    rw [beq_self_eq_true] at heq
    go_enter Try.func37, Try.ntmps37
    go_wp2
    refine wp_loop_rounds 1 ?_
    rw [rounds_succ]
    go_wp2
    go_ret
    exact ⟨by simp, rfl⟩
  · have hf : (a == b) = false := by simp [hab]
    rw [hf] at heq
    have HF := mkHid hf
    clear hab hf
    go_enter Try.func37, Try.ntmps37
    go_wp2
    refine wp_loop_rounds 1 ?_
    rw [rounds_succ]
    go_wp2
    go_ret
    exact ⟨by rw [HF.out]; rfl, rfl⟩

set_option maxRecDepth 20000 in
set_option maxHeartbeats 400000 in
/-- The law's own 'is', of a code. -/
theorem is_code (a b : Int) (w : World) : Calls Try.prog 11 #[codeV a, .int .i64 b] w fun e w' => e = .returned (.bool (b != 0 && a == b)) ∧ w = w' := by
  by_cases hb : b = 0
  · subst hb
    go_enter Try.func11, Try.ntmps11
    go_wp2_with fail
    go_ret
    exact ⟨rfl, rfl⟩
  · have hf : (b == 0) = false := by simp [hb]
    have HF := mkHid (show (b != 0) = true by simp [hb])
    clear hb
    go_enter Try.func11, Try.ntmps11
    go_wp2_with (go_at_call 37; refine (eis_code _ _ _).mono ?_; rintro e w' ⟨rfl, rfl⟩)
    go_ret
    exact ⟨by rw [HF.out]; rfl, rfl⟩
set_option maxRecDepth 20000 in
set_option maxHeartbeats 400000 in
/-- The law's own 'is', of nothing. -/
theorem is_nil (b : Int) (w : World) : Calls Try.prog 11 #[.nilIface, .int .i64 b] w fun e w' => e = .returned (.bool (b == 0)) ∧ w = w' := by
  by_cases hb : b = 0
  · subst hb
    go_enter Try.func11, Try.ntmps11
    go_wp2_with fail
    go_ret
    exact ⟨rfl, rfl⟩
  · have hf : (b == 0) = false := by simp [hb]
    have HF := mkHid hf
    clear hb
    go_enter Try.func11, Try.ntmps11
    go_wp2_with fail
    go_ret
    exact ⟨by rw [HF.out]; rfl, rfl⟩

end Go.Proofs.Ytbgfccfhiocomaa
