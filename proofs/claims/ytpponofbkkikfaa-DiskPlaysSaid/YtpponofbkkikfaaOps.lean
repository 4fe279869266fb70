/- The law's list of calls: a slice of Op read; opened out of an argument. -/
import Derived.Test.YtpponofbkkikfaaOpenRows
namespace Go.Proofs.Ytpponofbkkikfaa
open Go.ChangeShapes Go.WideShapes Go.ChangeAt Go.RowKit Go.Deep

/-- A call. -/
structure Op where
  kind : Int
  i : Int
  n : Int
  data : List Int
  picks : List Int
/-- A call's cells: three numbers, a slice of bytes, one of numbers, both below B. -/
def ROp (w : World) (B : Nat) (cs : List Value) (o : Op) : Prop :=
  ∃ a m c a' m' c', cs = [.int .i64 o.kind, .int .i64 o.i, .int .i64 o.n, .slice a m c, .slice a' m' c'] ∧ I64 o.kind ∧ I64 o.i ∧ I64 o.n ∧ CapOk m c ∧ BS w B a m o.data ∧ CapOk m' c' ∧ IS w B a' m' o.picks
def OPS (w : World) (B : Nat) (a : Option Addr) (n : Nat) (xs : List Op) : Prop := RS (ROp w B) 5 w B a n xs
theorem OPS.below {w w' : World} {B n : Nat} {a : Option Addr} {xs : List Op} (h : OPS w B a n xs) (hb : Below B w w') : OPS w' B a n xs :=
  h.keep (fun b hh => hb.block b hh) fun _ _ ⟨a1, m, c, a2, m', c', h0, h1, h2, h3, h4, h5, h6, h7⟩ => ⟨a1, m, c, a2, m', c', h0, h1, h2, h3, h4, h5.below hb, h6, h7.below hb⟩
/-- One call, written out. -/
theorem OPS.at_ {w : World} {B n : Nat} {a : Option Addr} {xs : List Op} (h : OPS w B a n xs) {j : Nat} (hj : j < n) : ∃ b o x a1 m c a2 m' c', a = some ⟨b, o, none⟩ ∧ b < B ∧ xs[j]? = some x ∧ I64 x.kind ∧ I64 x.i ∧ I64 x.n ∧ CapOk m c ∧ BS w B a1 m x.data ∧ CapOk m' c' ∧ IS w B a2 m' x.picks ∧
    w.cell? ⟨b, o + j * 5, none⟩ = some (.int .i64 x.kind) ∧ w.cell? ⟨b, o + j * 5 + 1, none⟩ = some (.int .i64 x.i) ∧ w.cell? ⟨b, o + j * 5 + 2, none⟩ = some (.int .i64 x.n) ∧ w.cell? ⟨b, o + j * 5 + 3, none⟩ = some (.slice a1 m c) ∧ w.cell? ⟨b, o + j * 5 + 4, none⟩ = some (.slice a2 m' c') := by
  obtain ⟨b, o, cs, x, ha, hb, _, hc, hx, a1, m, c, a2, m', c', rfl, h1, h2, h3, h4, h5, h6, h7⟩ := h.2 j hj
  exact ⟨b, o, x, a1, m, c, a2, m', c', ha, hb, hx, h1, h2, h3, h4, h5, h6, h7, hc 0 _ rfl, hc 1 _ rfl, hc 2 _ rfl, hc 3 _ rfl, hc 4 _ rfl⟩

section
variable {H : Type} {enc : TypeId × Value → H} {P : Program} {w : World}
theorem read_op {s i bs u8t is : TypeId} {f0 f1 f2 f3 f4 : Field} (hs : P.underlying s = some (.struct #[f0, f1, f2, f3, f4])) (t0 : f0.type = i) (t1 : f1.type = i) (t2 : f2.type = i) (t3 : f3.type = bs) (t4 : f4.type = is) (o0 : f0.offset = 0) (o1 : f1.offset = 1) (o2 : f2.offset = 2) (o3 : f3.offset = 3) (o4 : f4.offset = 4)
    (hi : P.underlying i = some (.int .i64)) (hbs : P.underlying bs = some (.slice u8t)) (hu : P.underlying u8t = some (.int .u8)) (his : P.underlying is = some (.slice i)) (ci : P.cellsOf i = 1) (cb : P.cellsOf bs = 1) (cu : P.cellsOf u8t = 1) (cis : P.cellsOf is = 1) (cs5 : P.cellsOf s = 5) (bi : P.bytesOf i = 8) (bu : P.bytesOf u8t = 1)
    (fu : Nat) (cs : List Value) (y : DataW H × List MemPlace) (h : DataW.trod enc P w 0 (fun _ => true) true fu s cs = some y) (hsz : ∀ q ∈ y.1.weights P s, q ≤ reachBytes) : ∃ z, ROp w w.heap.size cs z := by
  obtain ⟨xs, n, rfl, rfl, hl, hxl, hf⟩ := DataW.trod_struct hs h
  rw [cs5] at hl
  match cs, hl, xs, hxl with
  | [v0, v1, v2, v3, v4], _, [y0, y1, y2, y3, y4], _ =>
    have g0 := hf 0 f0 rfl
    have g1 := hf 1 f1 rfl
    have g2 := hf 2 f2 rfl
    have g3 := hf 3 f3 rfl
    have g4 := hf 4 f4 rfl
    rw [t0, o0, ci] at g0
    rw [t1, o1, ci] at g1
    rw [t2, o2, ci] at g2
    rw [t3, o3, cb] at g3
    rw [t4, o4, cis] at g4
    obtain ⟨x0, e0, k0⟩ := fd_int (v := v0) (x := y0) (by simpa using g0) hi
    obtain ⟨x1, e1, k1⟩ := fd_int (v := v1) (x := y1) (by simpa using g1) hi
    obtain ⟨x2, e2, k2⟩ := fd_int (v := v2) (x := y2) (by simpa using g2) hi
    obtain ⟨a1, m, c, l, e3, k3, k3', k3''⟩ := fd_bytes (v := v3) (x := y3) (by simpa using g3) hbs hu cu bu (fun q hq => hsz q (weights_field (j := 3) (f := f3) (parts := [y0.1, y1.1, y2.1, y3.1, y4.1]) hs rfl rfl (by rw [t3]; exact hq)))
    obtain ⟨a2, m', c', l', e4, k4, k4', k4''⟩ := fd_ints (v := v4) (x := y4) (by simpa using g4) his hi ci bi (fun q hq => hsz q (weights_field (j := 4) (f := f4) (parts := [y0.1, y1.1, y2.1, y3.1, y4.1]) hs rfl rfl (by rw [t4]; exact hq)))
    subst e0
    subst e1
    subst e2
    subst e3
    subst e4
    exact ⟨⟨x0, x1, x2, l, l'⟩, a1, m, c, a2, m', c', rfl, k0, k1, k2, ⟨k3, by unfold maxLen; omega, by omega⟩, k3'', ⟨k4, by unfold maxLen; omega, by omega⟩, k4''⟩
theorem fd_ops {t s i bs u8t is : TypeId} {f0 f1 f2 f3 f4 : Field} {fuel by_ : Nat} {v : Value} {x : DataW H × List MemPlace} (h : DataW.trod enc P w 0 (fun _ => true) true fuel t [v] = some x) (ht : P.underlying t = some (.slice s)) (hs : P.underlying s = some (.struct #[f0, f1, f2, f3, f4])) (t0 : f0.type = i) (t1 : f1.type = i) (t2 : f2.type = i) (t3 : f3.type = bs) (t4 : f4.type = is) (o0 : f0.offset = 0) (o1 : f1.offset = 1) (o2 : f2.offset = 2) (o3 : f3.offset = 3) (o4 : f4.offset = 4)
    (hi : P.underlying i = some (.int .i64)) (hbs : P.underlying bs = some (.slice u8t)) (hu : P.underlying u8t = some (.int .u8)) (his : P.underlying is = some (.slice i)) (ci : P.cellsOf i = 1) (cb : P.cellsOf bs = 1) (cu : P.cellsOf u8t = 1) (cis : P.cellsOf is = 1) (cs5 : P.cellsOf s = 5) (bi : P.bytesOf i = 8) (bu : P.bytesOf u8t = 1) (hby : P.bytesOf s = by_) (hby0 : 0 < by_)
    (hsz : ∀ q ∈ x.1.weights P t, q ≤ reachBytes) : ∃ a n c l, v = .slice a n c ∧ n ≤ c ∧ c ≤ 140737488351232 ∧ OPS w w.heap.size a n l := by
  obtain ⟨a, n, c, l, h1, h2, _, h3, h4⟩ := open_rs ht cs5 (by omega) hby (fun fu cs y hh hy => read_op hs t0 t1 t2 t3 t4 o0 o1 o2 o3 o4 hi hbs hu his ci cb cu cis cs5 bi bu fu cs y hh hy) h hsz
  exact ⟨a, n, c, l, by simpa using h1, h2, by have := Nat.le_mul_of_pos_right c hby0; omega, h4⟩
end
end Go.Proofs.Ytpponofbkkikfaa
