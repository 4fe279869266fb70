/- portagelaw15.LocksClash answers true. -/
import Derived.Test.YtgabjgmimebelaaAwake15
namespace Go.Proofs.Ytgabjgmimebelaa
open Go.RowKit Go.Shelf

theorem clash_comm (a b : Sp) : clashOf a b = clashOf b a := by
  rw [← clash_eq, ← clash_eq]
  unfold rclashOf
  have e1 : (rightOf a = false ∨ rightOf b = false ∨ (a.wr = false ∧ b.wr = false)) = (rightOf b = false ∨ rightOf a = false ∨ (b.wr = false ∧ a.wr = false)) := by
    apply propext
    constructor
    · rintro (h | h | h)
      · exact .inr (.inl h)
      · exact .inl h
      · exact .inr (.inr ⟨h.2, h.1⟩)
    · rintro (h | h | h)
      · exact .inr (.inl h)
      · exact .inl h
      · exact .inr (.inr ⟨h.2, h.1⟩)
  have e2 : (a.vol = 0 ∨ b.vol = 0) = (b.vol = 0 ∨ a.vol = 0) := propext or_comm
  have e3 : (decide (a.vol = b.vol) && (decide (a.len = 0) || decide (b.len = 0))) = (decide (b.vol = a.vol) && (decide (b.len = 0) || decide (a.len = 0))) := by
    rw [Bool.or_comm]
    congr 1
    rw [Bool.eq_iff_iff, decide_eq_true_iff, decide_eq_true_iff]
    exact eq_comm
  rw [Bool.or_comm (hasOf a b.vol b.frm), e3]
  simp only [e1, e2]

set_option maxRecDepth 20000 in
set_option maxHeartbeats 1000000 in
theorem locksClash_any (x y : Sp) (w : World) (hx : SpOk x) (hy : SpOk y) : Calls Try.prog 3 #[spV x, spV y] w fun e w' => e = .returned (.bool true) ∧ Below w.heap.size w w' := by
  have HXY := mkHid (fun W => clash_any x y W hx hy)
  have HYX := mkHid (fun W => clash_any y x W hy hx)
  have HR := mkHid (fun W => rclash_any x y W hx hy)
  rw [← clash_comm x y] at HYX
  generalize clashOf x y = cl at HXY HYX HR
  obtain ⟨v, f, n, b⟩ := x
  obtain ⟨v', f', n', b'⟩ := y
  clear hx hy
  unfold spV at HXY HYX HR ⊢
  simp only at HXY HYX HR ⊢
  go_enter Try.func3, Try.ntmps3
  go_wp2_with fail
  refine (HXY.out _).mono ?_
  rintro e w1 ⟨rfl, hb1⟩
  have HB1 := mkHid ((((Below.refl w.heap.size w).alloc (Nat.le_refl _) (.cells #[.int .i64 v, .int .i64 f, .int .i64 n, .bool b] 23)).alloc (by simp) (.cells #[.int .i64 v', .int .i64 f', .int .i64 n', .bool b'] 23)).trans (hb1.mono (by simp; omega)))
  have h0 : w1.heap[w.heap.size]? = some (.cells #[.int .i64 v, .int .i64 f, .int .i64 n, .bool b] 23 (0, 0)) := (hb1.block _ (by simp; omega)).trans ((Below.heap_alloc _ _ _ (by simp)).trans (heap_alloc_new w _))
  have h1 : w1.heap[w.heap.size + 1]? = some (.cells #[.int .i64 v', .int .i64 f', .int .i64 n', .bool b'] 23 (0, 0)) := (hb1.block _ (by simp)).trans (by have := heap_alloc_new (w.alloc (.cells #[.int .i64 v, .int .i64 f, .int .i64 n, .bool b] 23)) (.cells #[.int .i64 v', .int .i64 f', .int .i64 n', .bool b'] 23); simpa using this)
  obtain ⟨c00, c01, c02, c03⟩ := facts4 h0
  obtain ⟨c10, c11, c12, c13⟩ := facts4 h1
  have hlt1 : w.heap.size + 1 < w1.heap.size := (Array.getElem?_eq_some_iff.1 h1).1
  clear hb1
  go_wp2_with fail
  refine (HR.out _).mono ?_
  rintro e w2 ⟨rfl, hb2⟩
  have HB2 := mkHid (HB1.out.trans (hb2.mono (by omega)))
  have g0 := (hb2.block _ (by omega)).trans h0
  have g1 := (hb2.block _ (by omega)).trans h1
  clear c00 c01 c02 c03 c10 c11 c12 c13 h0 h1 hb2
  obtain ⟨c00, c01, c02, c03⟩ := facts4 g0
  obtain ⟨c10, c11, c12, c13⟩ := facts4 g1
  have hcl : (cl == cl) = true := by simp
  go_wp2_with fail
  refine (HYX.out _).mono ?_
  rintro e w3 ⟨rfl, hb3⟩
  have HB3 := mkHid (HB2.out.trans (hb3.mono HB2.out.size))
  clear hb3
  go_wp2_with fail
  refine (awake_any _).mono ?_
  rintro e w4 ⟨rfl, hb4⟩
  have HB4 := mkHid (HB3.out.trans (hb4.mono HB3.out.size))
  clear hb4
  go_wp2_with fail
  go_ret
  exact ⟨rfl, HB4.out⟩

end Go.Proofs.Ytgabjgmimebelaa
