/- A slice of links opened out of an argument; errors' own variable out of the row's condition. -/
import Derived.Test.YtolcajcihgfeeaaDoorFtA
import Derived.Test.YtolcajcihgfeeaaDoorOpenRows
import Derived.ChangeArms
namespace Go.Proofs.YtolcajcihgfeeaaDoor
open Go.ChangeShapes Go.WideShapes Go.ChangeAt Go.RowKit Go.Deep

/-- A link's cells. -/
def RLk (cs : List Value) (x : Lk) : Prop := cs = [.string x.op, .int .i64 x.dev, .int .i64 x.place] ∧ I64 x.dev ∧ I64 x.place
theorem links_of {w : World} {B n : Nat} {a : Option Addr} {xs : List Lk} (h : RS RLk 3 w B a n xs) : LS w B a n xs :=
  ⟨h.1, fun j hj => by
    obtain ⟨b, o, cs, x, ha, hb, _, hc, hx, rfl, _⟩ := h.2 j hj
    exact ⟨b, o, x, ha, hb, hx, hc 0 _ rfl, hc 1 _ rfl, hc 2 _ rfl⟩⟩
section
variable {H : Type} {enc : TypeId × Value → H} {P : Program} {w : World}
theorem fd_str {t : TypeId} {fuel : Nat} {v : Value} {x : DataW H × List MemPlace} (h : DataW.trod enc P w 0 (fun _ => true) true fuel t [v] = some x) (ht : P.underlying t = some .string) : ∃ s : ByteArray, v = .string s ∧ s.size ≤ maxLen := by
  obtain ⟨s, h1, _, h2⟩ := DataW.trod_string ht h
  exact ⟨s, by simpa using h1, h2⟩
theorem read_link {s i st : TypeId} {f0 f1 f2 : Field} (hs : P.underlying s = some (.struct #[f0, f1, f2])) (t0 : f0.type = st) (t1 : f1.type = i) (t2 : f2.type = i) (o0 : f0.offset = 0) (o1 : f1.offset = 1) (o2 : f2.offset = 2) (hi : P.underlying i = some (.int .i64)) (hst : P.underlying st = some .string) (ci : P.cellsOf i = 1) (cst : P.cellsOf st = 1) (cs3 : P.cellsOf s = 3)
    (fu : Nat) (cs : List Value) (y : DataW H × List MemPlace) (h : DataW.trod enc P w 0 (fun _ => true) true fu s cs = some y) : ∃ z, RLk cs z := by
  obtain ⟨xs, n, rfl, rfl, hl, hxl, hf⟩ := DataW.trod_struct hs h
  rw [cs3] at hl
  match cs, hl, xs, hxl with
  | [v0, v1, v2], _, [y0, y1, y2], _ =>
    have g0 := hf 0 f0 rfl
    have g1 := hf 1 f1 rfl
    have g2 := hf 2 f2 rfl
    rw [t0, o0, cst] at g0
    rw [t1, o1, ci] at g1
    rw [t2, o2, ci] at g2
    obtain ⟨x0, e0, _⟩ := fd_str (v := v0) (x := y0) (by simpa using g0) hst
    obtain ⟨x1, e1, k1⟩ := fd_int (v := v1) (x := y1) (by simpa using g1) hi
    obtain ⟨x2, e2, k2⟩ := fd_int (v := v2) (x := y2) (by simpa using g2) hi
    subst e0
    subst e1
    subst e2
    exact ⟨⟨x0, x1, x2⟩, rfl, k1, k2⟩
theorem fd_links {t s i st : TypeId} {f0 f1 f2 : Field} {fuel : Nat} {v : Value} {x : DataW H × List MemPlace} (h : DataW.trod enc P w 0 (fun _ => true) true fuel t [v] = some x) (ht : P.underlying t = some (.slice s)) (hs : P.underlying s = some (.struct #[f0, f1, f2]))
    (t0 : f0.type = st) (t1 : f1.type = i) (t2 : f2.type = i) (o0 : f0.offset = 0) (o1 : f1.offset = 1) (o2 : f2.offset = 2) (hi : P.underlying i = some (.int .i64)) (hst : P.underlying st = some .string) (ci : P.cellsOf i = 1) (cst : P.cellsOf st = 1) (cs3 : P.cellsOf s = 3) (hby : P.bytesOf s = 32) (hsz : ∀ q ∈ x.1.weights P t, q ≤ reachBytes) :
    ∃ a n c l, v = .slice a n c ∧ n ≤ c ∧ c * 32 ≤ 140737488351232 ∧ RS RLk 3 w w.heap.size a n l := by
  obtain ⟨a, n, c, l, h1, h2, _, h3, h4⟩ := open_rs ht cs3 (by omega) hby (fun fu cs y hh _ => read_link hs t0 t1 t2 o0 o1 o2 hi hst ci cst cs3 fu cs y hh) h hsz
  exact ⟨a, n, c, l, by simpa using h1, h2, h3, h4⟩
end
end Go.Proofs.YtolcajcihgfeeaaDoor
