/- A slice of slices of spans, and an argument that is one, opened. -/
import Derived.Test.YtgabjgmimebelaaOpenSpans
import Derived.Test.YtgabjgmimebelaaTabB
namespace Go.Proofs.Ytgabjgmimebelaa
open Go.ChangeShapes Go.WideShapes Go.ChangeAt Go.RowKit Go.Deep

/-- The slice (a, n) of slices of spans reads as the list of lists; all of it lies below B. -/
def LS (w : World) (B : Nat) (a : Option Addr) (n : Nat) (ls : List (List Sp)) : Prop :=
  ls.length = n ∧ ∀ j, j < n → ∃ b o p m k xs, a = some ⟨b, o, none⟩ ∧ b < B ∧ ls[j]? = some xs ∧ w.cell? ⟨b, o + j, none⟩ = some (.slice p m k) ∧ CapOk m k ∧ SS w (· < B) p m xs
theorem LS.below {w w' : World} {B n : Nat} {a : Option Addr} {ls : List (List Sp)} (h : LS w B a n ls) (hb : Below B w w') : LS w' B a n ls :=
  ⟨h.1, fun j hj => by
    obtain ⟨b, o, p, m, k, xs, e, hlt, hx, hc, hk, hs⟩ := h.2 j hj
    exact ⟨b, o, p, m, k, xs, e, hlt, hx, (World.cell?_of_block (w := w) (hb.block b hlt)).trans hc, hk, hs.below hb⟩⟩

section
variable {H : Type} {enc : TypeId × Value → H} {P : Program} {w : World}
theorem fd_lists {t u s i b : TypeId} {f0 f1 f2 f3 : Field} {fuel : Nat} {v : Value} {x : DataW H × List MemPlace} (h : DataW.trod enc P w 0 (fun _ => true) true fuel t [v] = some x) (ht : P.underlying t = some (.slice u)) (hu : P.underlying u = some (.slice s)) (hs : P.underlying s = some (.struct #[f0, f1, f2, f3]))
    (t0 : f0.type = i) (t1 : f1.type = i) (t2 : f2.type = i) (t3 : f3.type = b) (o0 : f0.offset = 0) (o1 : f1.offset = 1) (o2 : f2.offset = 2) (o3 : f3.offset = 3)
    (hi : P.underlying i = some (.int .i64)) (hb : P.underlying b = some .bool) (ci : P.cellsOf i = 1) (cb : P.cellsOf b = 1) (cs4 : P.cellsOf s = 4) (hby : P.bytesOf s = 32) (cu : P.cellsOf u = 1) (bu : P.bytesOf u = 24) (hsz : ∀ q ∈ x.1.weights P t, q ≤ reachBytes) :
    ∃ a n c l, v = .slice a n c ∧ n ≤ c ∧ c * 24 ≤ 140737488351232 ∧ LS w w.heap.size a n l := by
  obtain ⟨a, n, c, l, h1, h2, _, h3, h4⟩ := open_rs (R := fun cs (xs : List Sp) => ∃ p m k, cs = [.slice p m k] ∧ CapOk m k ∧ SS w (· < w.heap.size) p m xs) ht cu (by omega) bu (fun fu cs y hh hq => by
    obtain ⟨a, n, c, l, h1, h2, _, h3, h4⟩ := open_rs hu cs4 (by omega) hby (fun fu cs y hh _ => read_span hs t0 t1 t2 t3 o0 o1 o2 o3 hi hb ci cb cs4 fu cs y hh) hh hq
    exact ⟨l, a, n, c, h1, ⟨h2, by unfold maxLen; omega, by omega⟩, h4.spans⟩) h hsz
  refine ⟨a, n, c, l, by simpa using h1, h2, h3, h4.1, fun j hj => ?_⟩
  obtain ⟨b, o, cs, xs, e, hlt, _, hc, hx, p, m, k, rfl, hk, hS⟩ := h4.2 j hj
  exact ⟨b, o, p, m, k, xs, e, hlt, hx, by simpa using hc 0 _ rfl, hk, hS⟩
end
end Go.Proofs.Ytgabjgmimebelaa
