/- portagelaw15.LocksBlocks answers true where its guard does not let in. -/
import Derived.Test.YtgabjgmimebelaaLocksBlocks
namespace Go.Proofs.Ytgabjgmimebelaa
open Go.RowKit Go.Shelf

theorem blocks_fin (v f n v' f' n' : Int) (b b' : Bool) (w : World) : ∀ W, W = (w.alloc (.cells #[.int .i64 v, .int .i64 f, .int .i64 n, .bool b] 23)).alloc (.cells #[.int .i64 v', .int .i64 f', .int .i64 n', .bool b'] 23) → Calls Try.prog 11 #[] W fun e w' => e = .returned (.bool true) ∧ Below w.heap.size w w' := fun W hW => (awake_any W).mono fun e w' h => ⟨h.1, by
    have hb : Below w.heap.size w W := hW ▸ ((Below.refl _ _).alloc (Nat.le_refl _) _).alloc (by simp) _
    exact hb.trans (h.2.mono hb.size)⟩

set_option maxRecDepth 20000 in
set_option maxHeartbeats 2000000 in
theorem blocks_no0 (v f n v' f' n' : Int) (b b' : Bool) (w : World)  (h0 : v < 1) : Calls Try.prog 4 #[spV ⟨v, f, n, b⟩, spV ⟨v', f', n', b'⟩] w fun e w' => e = .returned (.bool true) ∧ Below w.heap.size w w' := by
  have FIN := mkHid (blocks_fin v f n v' f' n' b b' w)
  unfold spV
  simp only
  go_enter Try.func4, Try.ntmps4
  go_wp2_with fail
  refine (FIN.out _ rfl).mono ?_
  rintro e w1 ⟨rfl, hb1⟩
  go_wp2_with fail
  go_ret
  exact ⟨rfl, hb1⟩

set_option maxRecDepth 20000 in
set_option maxHeartbeats 2000000 in
theorem blocks_no1 (v f n v' f' n' : Int) (b b' : Bool) (w : World) (h0 : 1 ≤ v) (h1 : v ≠ v') : Calls Try.prog 4 #[spV ⟨v, f, n, b⟩, spV ⟨v', f', n', b'⟩] w fun e w' => e = .returned (.bool true) ∧ Below w.heap.size w w' := by
  have FIN := mkHid (blocks_fin v f n v' f' n' b b' w)
  have hvv : (v != v') = true := by simpa using h1
  unfold spV
  simp only
  go_enter Try.func4, Try.ntmps4
  go_wp2_with fail
  refine (FIN.out _ rfl).mono ?_
  rintro e w1 ⟨rfl, hb1⟩
  go_wp2_with fail
  go_ret
  exact ⟨rfl, hb1⟩

set_option maxRecDepth 20000 in
set_option maxHeartbeats 2000000 in
theorem blocks_no2 (v f n v' f' n' : Int) (b b' : Bool) (w : World) (h0 : 1 ≤ v) (h1 : v = v') (h2 : n < 1) : Calls Try.prog 4 #[spV ⟨v, f, n, b⟩, spV ⟨v', f', n', b'⟩] w fun e w' => e = .returned (.bool true) ∧ Below w.heap.size w w' := by
  have FIN := mkHid (blocks_fin v f n v' f' n' b b' w)
  subst h1
  have hvv : (v != v) = false := by simp
  unfold spV
  simp only
  go_enter Try.func4, Try.ntmps4
  go_wp2_with fail
  refine (FIN.out _ rfl).mono ?_
  rintro e w1 ⟨rfl, hb1⟩
  go_wp2_with fail
  go_ret
  exact ⟨rfl, hb1⟩

set_option maxRecDepth 20000 in
set_option maxHeartbeats 2000000 in
theorem blocks_no3 (v f n v' f' n' : Int) (b b' : Bool) (w : World) (h0 : 1 ≤ v) (h1 : v = v') (h2 : 1 ≤ n) (h3 : n' < 1) : Calls Try.prog 4 #[spV ⟨v, f, n, b⟩, spV ⟨v', f', n', b'⟩] w fun e w' => e = .returned (.bool true) ∧ Below w.heap.size w w' := by
  have FIN := mkHid (blocks_fin v f n v' f' n' b b' w)
  subst h1
  have hvv : (v != v) = false := by simp
  unfold spV
  simp only
  go_enter Try.func4, Try.ntmps4
  go_wp2_with fail
  refine (FIN.out _ rfl).mono ?_
  rintro e w1 ⟨rfl, hb1⟩
  go_wp2_with fail
  go_ret
  exact ⟨rfl, hb1⟩

set_option maxRecDepth 20000 in
set_option maxHeartbeats 2000000 in
theorem blocks_no4 (v f n v' f' n' : Int) (b b' : Bool) (w : World) (h0 : 1 ≤ v) (h1 : v = v') (h2 : 1 ≤ n) (h3 : 1 ≤ n') (h4 : 300 < n) : Calls Try.prog 4 #[spV ⟨v, f, n, b⟩, spV ⟨v', f', n', b'⟩] w fun e w' => e = .returned (.bool true) ∧ Below w.heap.size w w' := by
  have FIN := mkHid (blocks_fin v f n v' f' n' b b' w)
  subst h1
  have hvv : (v != v) = false := by simp
  unfold spV
  simp only
  go_enter Try.func4, Try.ntmps4
  go_wp2_with fail
  refine (FIN.out _ rfl).mono ?_
  rintro e w1 ⟨rfl, hb1⟩
  go_wp2_with fail
  go_ret
  exact ⟨rfl, hb1⟩

set_option maxRecDepth 20000 in
set_option maxHeartbeats 2000000 in
theorem blocks_no5 (v f n v' f' n' : Int) (b b' : Bool) (w : World) (h0 : 1 ≤ v) (h1 : v = v') (h2 : 1 ≤ n) (h3 : 1 ≤ n') (h4 : n ≤ 300) (h5 : 300 < n') : Calls Try.prog 4 #[spV ⟨v, f, n, b⟩, spV ⟨v', f', n', b'⟩] w fun e w' => e = .returned (.bool true) ∧ Below w.heap.size w w' := by
  have FIN := mkHid (blocks_fin v f n v' f' n' b b' w)
  subst h1
  have hvv : (v != v) = false := by simp
  unfold spV
  simp only
  go_enter Try.func4, Try.ntmps4
  go_wp2_with fail
  refine (FIN.out _ rfl).mono ?_
  rintro e w1 ⟨rfl, hb1⟩
  go_wp2_with fail
  go_ret
  exact ⟨rfl, hb1⟩

set_option maxRecDepth 20000 in
set_option maxHeartbeats 2000000 in
theorem blocks_no6 (v f n v' f' n' : Int) (b b' : Bool) (w : World) (h0 : 1 ≤ v) (h1 : v = v') (h2 : 1 ≤ n) (h3 : 1 ≤ n') (h4 : n ≤ 300) (h5 : n' ≤ 300) (h6 : f < 0) : Calls Try.prog 4 #[spV ⟨v, f, n, b⟩, spV ⟨v', f', n', b'⟩] w fun e w' => e = .returned (.bool true) ∧ Below w.heap.size w w' := by
  have FIN := mkHid (blocks_fin v f n v' f' n' b b' w)
  subst h1
  have hvv : (v != v) = false := by simp
  unfold spV
  simp only
  go_enter Try.func4, Try.ntmps4
  go_wp2_with fail
  refine (FIN.out _ rfl).mono ?_
  rintro e w1 ⟨rfl, hb1⟩
  go_wp2_with fail
  go_ret
  exact ⟨rfl, hb1⟩

set_option maxRecDepth 20000 in
set_option maxHeartbeats 2000000 in
theorem blocks_no7 (v f n v' f' n' : Int) (b b' : Bool) (w : World) (h0 : 1 ≤ v) (h1 : v = v') (h2 : 1 ≤ n) (h3 : 1 ≤ n') (h4 : n ≤ 300) (h5 : n' ≤ 300) (h6 : 0 ≤ f) (h7 : f' < 0) : Calls Try.prog 4 #[spV ⟨v, f, n, b⟩, spV ⟨v', f', n', b'⟩] w fun e w' => e = .returned (.bool true) ∧ Below w.heap.size w w' := by
  have FIN := mkHid (blocks_fin v f n v' f' n' b b' w)
  subst h1
  have hvv : (v != v) = false := by simp
  unfold spV
  simp only
  go_enter Try.func4, Try.ntmps4
  go_wp2_with fail
  refine (FIN.out _ rfl).mono ?_
  rintro e w1 ⟨rfl, hb1⟩
  go_wp2_with fail
  go_ret
  exact ⟨rfl, hb1⟩

theorem locksBlocks_any (x y : Sp) (w : World) (hx : SpOk x) (hy : SpOk y) : Calls Try.prog 4 #[spV x, spV y] w fun e w' => e = .returned (.bool true) ∧ Below w.heap.size w w' := by
  obtain ⟨v, f, n, b⟩ := x
  obtain ⟨v', f', n', b'⟩ := y
  obtain ⟨⟨v0, v1⟩, ⟨f0, f1⟩, ⟨n0, n1⟩⟩ := hx
  obtain ⟨⟨v0', v1'⟩, ⟨f0', f1'⟩, ⟨n0', n1'⟩⟩ := hy
  simp only at v0 v1 f0 f1 n0 n1 v0' v1' f0' f1' n0' n1'
  by_cases g0 : v < 1
  · exact blocks_no0 v f n v' f' n' b b' w  g0
  by_cases g1 : v ≠ v'
  · exact blocks_no1 v f n v' f' n' b b' w (by omega) g1
  by_cases g2 : n < 1
  · exact blocks_no2 v f n v' f' n' b b' w (by omega) (by omega) g2
  by_cases g3 : n' < 1
  · exact blocks_no3 v f n v' f' n' b b' w (by omega) (by omega) (by omega) g3
  by_cases g4 : 300 < n
  · exact blocks_no4 v f n v' f' n' b b' w (by omega) (by omega) (by omega) (by omega) g4
  by_cases g5 : 300 < n'
  · exact blocks_no5 v f n v' f' n' b b' w (by omega) (by omega) (by omega) (by omega) (by omega) g5
  by_cases g6 : f < 0
  · exact blocks_no6 v f n v' f' n' b b' w (by omega) (by omega) (by omega) (by omega) (by omega) (by omega) g6
  by_cases g7 : f' < 0
  · exact blocks_no7 v f n v' f' n' b b' w (by omega) (by omega) (by omega) (by omega) (by omega) (by omega) (by omega) g7
  obtain rfl : v = v' := by omega
  exact blocks_ok v f n f' n' b b' w (by omega) v1 (by omega) (by omega) (by omega) (by omega) (by omega) (by omega) f1 f1'

end Go.Proofs.Ytgabjgmimebelaa
