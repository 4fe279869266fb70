/- What the row's condition on the library's table of powers gives a walk; a world in which all four variables are laid; a struct of a link and a code opened. -/
import Derived.Test.YtolcajcihgfeeaaDoorLaidErr
import Derived.Test.YtolcajcihgfeeaaDoorFtK
import Derived.LaidLaws
namespace Go.Proofs.YtolcajcihgfeeaaDoor
open Go.ChangeShapes Go.WideShapes Go.ChangeAt Go.RowKit Go.Deep

theorem laid_pow_tab : (Rows.laid_internal_strconv_uint64pow10 : DataW Unit) = Lib.tabData .u64 Lib.pow10Tab := by rfl
theorem powT_of_laid {W : World} {l : List (String × DataW Unit)} (h : laidMetH Tryd.prog l W) (hm : ((l.filter fun x => x.2.handleName?.isNone).filter fun x => x.1 == "internal/strconv.uint64pow10") = [("internal/strconv.uint64pow10", (Rows.laid_internal_strconv_uint64pow10 : DataW Unit))]) : PowT W := by
  have h1 := (laidMetH_iff.1 h).1.filter fun x => x.1 == "internal/strconv.uint64pow10"
  rw [hm, laid_pow_tab] at h1
  exact Lib.tabIs_of_head (P := Tryd.prog) (t := 107) (e := 100) (n := 20) (g := 1) (by kernel_rfl) (by kernel_rfl) Tryd.underlying107 Tryd.underlying100 (by kernel_rfl) (by kernel_rfl) h1

/-- A datum of numbers as cells. -/
def numCells : DataW Unit → Array Value
  | .agg l => (l.map fun | .lit (.int k z) => Value.int k z | _ => .nilIface).toArray
  | _ => #[]
def layCells (cs : Array Value) : Obj → Obj
  | .cells _ t frozen => .cells cs t frozen
  | o => o
/-- A world that meets the condition: the settled one, the four variables' cells laid. -/
noncomputable def laidWorld4 (os : Os) : World :=
  let w0 := World.holding Tryd.prog os ⟨#[], #[], []⟩
  { w0 with heap := (((w0.heap.modify 0 (layCells #[.iface 73 (.agg #[.pointer (some ⟨4, 28, none⟩)])])).modify 1 (layCells (numCells Rows.laid_internal_strconv_uint64pow10))).modify 2 (layCells (numCells Rows.laid_math_bits_deBruijn32tab))).modify 3 (layCells (numCells Rows.laid_math_bits_deBruijn64tab)) }
theorem laidWorld4_met (os : Os) (args : Array Value) : laidMetH Tryd.prog [("math/bits.deBruijn32tab", (Rows.laid_math_bits_deBruijn32tab : DataW Unit)), ("math/bits.deBruijn64tab", Rows.laid_math_bits_deBruijn64tab), ("internal/strconv.uint64pow10", Rows.laid_internal_strconv_uint64pow10), ("errors.errorType", Rows.laid_errors_errorType)] ((laidWorld4 os).forCall (fun _ _ => 0) ⟨#[], args, []⟩).memory :=
  laidMetH_of_parts (laidMet_of_run' 8 (by kernel_rfl) (by kernel_rfl)) (by kernel_rfl)

section
variable {H : Type} {enc : TypeId × Value → H} {P : Program} {w : World}
theorem open_alone {r : Reach} {b0 : Nat} {t lk i st : TypeId} {f0 f1 g0 g1 g2 : Field} {v : Value} {d : DataW H} {p : List MemPlace} (hs : P.underlying t = some (.struct #[f0, f1])) (hl : P.underlying lk = some (.struct #[g0, g1, g2]))
    (t0 : f0.type = lk) (t1 : f1.type = i) (o0 : f0.offset = 0) (o1 : f1.offset = 3) (u0 : g0.type = st) (u1 : g1.type = i) (u2 : g2.type = i) (e0 : g0.offset = 0) (e1 : g1.offset = 1) (e2 : g2.offset = 2)
    (hi : P.underlying i = some (.int .i64)) (hst : P.underlying st = some .string) (ci : P.cellsOf i = 1) (cst : P.cellsOf st = 1) (cl : P.cellsOf lk = 3) (ct : P.cellsOf t = 4)
    (hv : Value.okWide P w r b0 t v) (h : DataW.Trod enc P w 0 (fun _ => true) true t v d p) :
    ∃ (x : Lk) (c : Int), v = .agg #[.string x.op, .int .i64 x.dev, .int .i64 x.place, .int .i64 c] ∧ I64 x.dev ∧ I64 x.place ∧ I64 c := by
  obtain ⟨cs, rfl, hsz⟩ := okWide_struct hs hv
  rw [ct] at hsz
  obtain ⟨fuel, hf⟩ := h
  have hf' : DataW.trod enc P w 0 (fun _ => true) true fuel t cs.toList = some (d, p) := hf
  obtain ⟨xs, n, hx, hn, hlen, hxl, hfl⟩ := DataW.trod_struct hs hf'
  obtain ⟨cs⟩ := cs
  simp only at hsz hfl
  match cs, hsz, xs, hxl with
  | [v0, v1, v2, v3], _, [y0, y1], _ =>
    have k0 := hfl 0 f0 rfl
    have k1 := hfl 1 f1 rfl
    rw [t0, o0, cl] at k0
    rw [t1, o1, ci] at k1
    obtain ⟨z, hz, hz1, hz2⟩ := read_link hl u0 u1 u2 e0 e1 e2 hi hst ci cst cl _ [v0, v1, v2] y0 (by simpa using k0)
    obtain ⟨c, hc, hc1⟩ := fd_int (v := v3) (x := y1) (by simpa using k1) hi
    injection hz with a0 hz
    injection hz with a1 hz
    injection hz with a2 hz
    subst a0 a1 a2 hc
    exact ⟨z, c, rfl, hz1, hz2, hc1⟩
end
end Go.Proofs.YtolcajcihgfeeaaDoor
