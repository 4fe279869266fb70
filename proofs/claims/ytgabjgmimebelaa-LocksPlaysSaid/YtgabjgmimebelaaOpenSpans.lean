/- Arguments that are slices of spans, opened. -/
import Derived.Test.YtgabjgmimebelaaOpenRows
import Derived.Test.YtgabjgmimebelaaTabA
namespace Go.Proofs.Ytgabjgmimebelaa
open Go.ChangeShapes Go.WideShapes Go.ChangeAt Go.RowKit Go.Deep
section
variable {H : Type} {enc : TypeId × Value → H} {P : Program} {w : World}
theorem read_span {s i b : TypeId} {f0 f1 f2 f3 : Field} (hs : P.underlying s = some (.struct #[f0, f1, f2, f3])) (t0 : f0.type = i) (t1 : f1.type = i) (t2 : f2.type = i) (t3 : f3.type = b) (o0 : f0.offset = 0) (o1 : f1.offset = 1) (o2 : f2.offset = 2) (o3 : f3.offset = 3)
    (hi : P.underlying i = some (.int .i64)) (hb : P.underlying b = some .bool) (ci : P.cellsOf i = 1) (cb : P.cellsOf b = 1) (cs4 : P.cellsOf s = 4)
    (fu : Nat) (cs : List Value) (y : DataW H × List MemPlace) (h : DataW.trod enc P w 0 (fun _ => true) true fu s cs = some y) : ∃ z, RSp cs z := by
  obtain ⟨xs, n, rfl, rfl, hl, hxl, hf⟩ := DataW.trod_struct hs h
  rw [cs4] at hl
  match cs, hl, xs, hxl with
  | [v0, v1, v2, v3], _, [y0, y1, y2, y3], _ =>
    have g0 := hf 0 f0 rfl
    have g1 := hf 1 f1 rfl
    have g2 := hf 2 f2 rfl
    have g3 := hf 3 f3 rfl
    rw [t0, o0, ci] at g0
    rw [t1, o1, ci] at g1
    rw [t2, o2, ci] at g2
    rw [t3, o3, cb] at g3
    obtain ⟨x0, e0, k0⟩ := fd_int (v := v0) (x := y0) (by simpa using g0) hi
    obtain ⟨x1, e1, k1⟩ := fd_int (v := v1) (x := y1) (by simpa using g1) hi
    obtain ⟨x2, e2, k2⟩ := fd_int (v := v2) (x := y2) (by simpa using g2) hi
    obtain ⟨x3, e3⟩ := fd_bool (v := v3) (x := y3) (by simpa using g3) hb
    subst e0
    subst e1
    subst e2
    subst e3
    exact ⟨⟨x0, x1, x2, x3⟩, rfl, k0, k1, k2⟩
theorem fd_spans {t s i b : TypeId} {f0 f1 f2 f3 : Field} {fuel : Nat} {v : Value} {x : DataW H × List MemPlace} (h : DataW.trod enc P w 0 (fun _ => true) true fuel t [v] = some x) (ht : P.underlying t = some (.slice s)) (hs : P.underlying s = some (.struct #[f0, f1, f2, f3]))
    (t0 : f0.type = i) (t1 : f1.type = i) (t2 : f2.type = i) (t3 : f3.type = b) (o0 : f0.offset = 0) (o1 : f1.offset = 1) (o2 : f2.offset = 2) (o3 : f3.offset = 3)
    (hi : P.underlying i = some (.int .i64)) (hb : P.underlying b = some .bool) (ci : P.cellsOf i = 1) (cb : P.cellsOf b = 1) (cs4 : P.cellsOf s = 4) (hby : P.bytesOf s = 32) (hsz : ∀ q ∈ x.1.weights P t, q ≤ reachBytes) :
    ∃ a n c l, v = .slice a n c ∧ n ≤ c ∧ c * 32 ≤ 140737488351232 ∧ SS w (· < w.heap.size) a n l := by
  obtain ⟨a, n, c, l, h1, h2, _, h3, h4⟩ := open_rs ht cs4 (by omega) hby (fun fu cs y hh _ => read_span hs t0 t1 t2 t3 o0 o1 o2 o3 hi hb ci cb cs4 fu cs y hh) h hsz
  exact ⟨a, n, c, l, by simpa using h1, h2, h3, h4.spans⟩
end
end Go.Proofs.Ytgabjgmimebelaa
