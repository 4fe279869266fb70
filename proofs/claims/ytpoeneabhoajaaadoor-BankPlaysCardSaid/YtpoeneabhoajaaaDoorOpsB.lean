/- The law's list of calls: a slice of Op read; opened out of an argument. -/
import Derived.Test.YtpoeneabhoajaaaDoorOpenRows
namespace Go.Proofs.YtpoeneabhoajaaaDoor
open Go.ChangeShapes Go.WideShapes Go.ChangeAt Go.RowKit Go.Deep

/-- A call. -/
structure Op where
  kind : Int
  dev : Int
  sec : Int
  n : Int
  data : List Int
  list : List Int
/-- A call's cells: four numbers, a slice of bytes, one of numbers, both below B. -/
def ROp (w : World) (B : Nat) (cs : List Value) (o : Op) : Prop :=
  ∃ a m c a' m' c', cs = [.int .i64 o.kind, .int .i64 o.dev, .int .i64 o.sec, .int .i64 o.n, .slice a m c, .slice a' m' c'] ∧ I64 o.kind ∧ I64 o.dev ∧ I64 o.sec ∧ I64 o.n ∧ CapOk m c ∧ BS w B a m o.data ∧ CapOk m' c' ∧ IS w B a' m' o.list
def OPS (w : World) (B : Nat) (a : Option Addr) (n : Nat) (xs : List Op) : Prop := RS (ROp w B) 6 w B a n xs
theorem OPS.below {w w' : World} {B n : Nat} {a : Option Addr} {xs : List Op} (h : OPS w B a n xs) (hb : Below B w w') : OPS w' B a n xs :=
  h.keep (fun b hh => hb.block b hh) fun _ _ ⟨a1, m, c, a2, m', c', h0, h1, h2, h3, h3', h4, h5, h6, h7⟩ => ⟨a1, m, c, a2, m', c', h0, h1, h2, h3, h3', h4, h5.below hb, h6, h7.below hb⟩
/-- One call, written out. -/
theorem OPS.at_ {w : World} {B n : Nat} {a : Option Addr} {xs : List Op} (h : OPS w B a n xs) {j : Nat} (hj : j < n) : ∃ b o x a1 m c a2 m' c', a = some ⟨b, o, none⟩ ∧ b < B ∧ xs[j]? = some x ∧ I64 x.kind ∧ I64 x.dev ∧ I64 x.sec ∧ I64 x.n ∧ CapOk m c ∧ BS w B a1 m x.data ∧ CapOk m' c' ∧ IS w B a2 m' x.list ∧
    w.cell? ⟨b, o + j * 6, none⟩ = some (.int .i64 x.kind) ∧ w.cell? ⟨b, o + j * 6 + 1, none⟩ = some (.int .i64 x.dev) ∧ w.cell? ⟨b, o + j * 6 + 2, none⟩ = some (.int .i64 x.sec) ∧ w.cell? ⟨b, o + j * 6 + 3, none⟩ = some (.int .i64 x.n) ∧ w.cell? ⟨b, o + j * 6 + 4, none⟩ = some (.slice a1 m c) ∧ w.cell? ⟨b, o + j * 6 + 5, none⟩ = some (.slice a2 m' c') := by
  obtain ⟨b, o, cs, x, ha, hb, _, hc, hx, a1, m, c, a2, m', c', rfl, h1, h2, h3, h3', h4, h5, h6, h7⟩ := h.2 j hj
  exact ⟨b, o, x, a1, m, c, a2, m', c', ha, hb, hx, h1, h2, h3, h3', h4, h5, h6, h7, hc 0 _ rfl, hc 1 _ rfl, hc 2 _ rfl, hc 3 _ rfl, hc 4 _ rfl, hc 5 _ rfl⟩

section
variable {H : Type} {enc : TypeId × Value → H} {P : Program} {w : World}
theorem read_op {s i bs u8t is : TypeId} {f0 f1 f2 f3 f4 f5 : Field} (hs : P.underlying s = some (.struct #[f0, f1, f2, f3, f4, f5])) (t0 : f0.type = i) (t1 : f1.type = i) (t2 : f2.type = i) (t3 : f3.type = i) (t4 : f4.type = bs) (t5 : f5.type = is) (o0 : f0.offset = 0) (o1 : f1.offset = 1) (o2 : f2.offset = 2) (o3 : f3.offset = 3) (o4 : f4.offset = 4) (o5 : f5.offset = 5)
    (hi : P.underlying i = some (.int .i64)) (hbs : P.underlying bs = some (.slice u8t)) (hu : P.underlying u8t = some (.int .u8)) (his : P.underlying is = some (.slice i)) (ci : P.cellsOf i = 1) (cb : P.cellsOf bs = 1) (cu : P.cellsOf u8t = 1) (cis : P.cellsOf is = 1) (cs5 : P.cellsOf s = 6) (bi : P.bytesOf i = 8) (bu : P.bytesOf u8t = 1)
    (fu : Nat) (cs : List Value) (y : DataW H × List MemPlace) (h : DataW.trod enc P w 0 (fun _ => true) true fu s cs = some y) (hsz : ∀ q ∈ y.1.weights P s, q ≤ reachBytes) : ∃ z, ROp w w.heap.size cs z := by
  obtain ⟨xs, n, rfl, rfl, hl, hxl, hf⟩ := DataW.trod_struct hs h
  rw [cs5] at hl
  match cs, hl, xs, hxl with
  | [v0, v1, v2, v3, v4, v5], _, [y0, y1, y2, y3, y4, y5], _ =>
    have g0 := hf 0 f0 rfl
    have g1 := hf 1 f1 rfl
    have g2 := hf 2 f2 rfl
    have g3 := hf 3 f3 rfl
    have g4 := hf 4 f4 rfl
    have g5 := hf 5 f5 rfl
    rw [t0, o0, ci] at g0
    rw [t1, o1, ci] at g1
    rw [t2, o2, ci] at g2
    rw [t3, o3, ci] at g3
    rw [t4, o4, cb] at g4
    rw [t5, o5, cis] at g5
    obtain ⟨x0, e0, k0⟩ := fd_int (v := v0) (x := y0) (by simpa using g0) hi
    obtain ⟨x1, e1, k1⟩ := fd_int (v := v1) (x := y1) (by simpa using g1) hi
    obtain ⟨x2, e2, k2⟩ := fd_int (v := v2) (x := y2) (by simpa using g2) hi
    obtain ⟨x3, e3, k3⟩ := fd_int (v := v3) (x := y3) (by simpa using g3) hi
    obtain ⟨a1, m, c, l, e4, k4, k4', k4''⟩ := fd_bytes (v := v4) (x := y4) (by simpa using g4) hbs hu cu bu (fun q hq => hsz q (weights_field (j := 4) (f := f4) (parts := [y0.1, y1.1, y2.1, y3.1, y4.1, y5.1]) hs rfl rfl (by rw [t4]; exact hq)))
    obtain ⟨a2, m', c', l', e5, k5, k5', k5''⟩ := fd_ints (v := v5) (x := y5) (by simpa using g5) his hi ci bi (fun q hq => hsz q (weights_field (j := 5) (f := f5) (parts := [y0.1, y1.1, y2.1, y3.1, y4.1, y5.1]) hs rfl rfl (by rw [t5]; exact hq)))
    subst e0
    subst e1
    subst e2
    subst e3
    subst e4
    subst e5
    exact ⟨⟨x0, x1, x2, x3, l, l'⟩, a1, m, c, a2, m', c', rfl, k0, k1, k2, k3, ⟨k4, by unfold maxLen; omega, by omega⟩, k4'', ⟨k5, by unfold maxLen; omega, by omega⟩, k5''⟩
theorem fd_ops {t s i bs u8t is : TypeId} {f0 f1 f2 f3 f4 f5 : Field} {fuel by_ : Nat} {v : Value} {x : DataW H × List MemPlace} (h : DataW.trod enc P w 0 (fun _ => true) true fuel t [v] = some x) (ht : P.underlying t = some (.slice s)) (hs : P.underlying s = some (.struct #[f0, f1, f2, f3, f4, f5])) (t0 : f0.type = i) (t1 : f1.type = i) (t2 : f2.type = i) (t3 : f3.type = i) (t4 : f4.type = bs) (t5 : f5.type = is) (o0 : f0.offset = 0) (o1 : f1.offset = 1) (o2 : f2.offset = 2) (o3 : f3.offset = 3) (o4 : f4.offset = 4) (o5 : f5.offset = 5)
    (hi : P.underlying i = some (.int .i64)) (hbs : P.underlying bs = some (.slice u8t)) (hu : P.underlying u8t = some (.int .u8)) (his : P.underlying is = some (.slice i)) (ci : P.cellsOf i = 1) (cb : P.cellsOf bs = 1) (cu : P.cellsOf u8t = 1) (cis : P.cellsOf is = 1) (cs5 : P.cellsOf s = 6) (bi : P.bytesOf i = 8) (bu : P.bytesOf u8t = 1) (hby : P.bytesOf s = by_) (hby0 : 0 < by_)
    (hsz : ∀ q ∈ x.1.weights P t, q ≤ reachBytes) : ∃ a n c l, v = .slice a n c ∧ n ≤ c ∧ c ≤ 140737488351232 ∧ OPS w w.heap.size a n l := by
  obtain ⟨a, n, c, l, h1, h2, _, h3, h4⟩ := open_rs ht cs5 (by omega) hby (fun fu cs y hh hy => read_op hs t0 t1 t2 t3 t4 t5 o0 o1 o2 o3 o4 o5 hi hbs hu his ci cb cu cis cs5 bi bu fu cs y hh hy) h hsz
  exact ⟨a, n, c, l, by simpa using h1, h2, by have := Nat.le_mul_of_pos_right c hby0; omega, h4⟩
end
end Go.Proofs.YtpoeneabhoajaaaDoor
