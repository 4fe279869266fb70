/- portagelaw10.awake by contract. -/
import Derived.Test.YtilepjkdfbhgcaaNdO
namespace Go.Proofs.Ytilepjkdfbhgcaa
open Go.RowKit Go.Shelf

theorem IS.of_block {w : World} {g n : Nat} {e : TypeId} {l : List Int} (hg : w.heap[g]? = some (.cells (l.map i64v).toArray e (0, 0))) (hn : l.length = n) (hI : ∀ x ∈ l, I64 x) : IS w w.heap.size (some ⟨g, 0, none⟩) n l := by
  refine ⟨?_, hI⟩
  have h := SL.of_block (s := 1) (m := n) (B := w.heap.size) hg (by simp [hn]) (Array.getElem?_eq_some_iff.1 hg).1
  simpa using h

set_option maxRecDepth 20000 in
set_option maxHeartbeats 1000000 in
theorem awake_any (w : World) : Calls Try.prog 13 #[] w fun e w' => e = .returned (.bool true) ∧ Below w.heap.size w w' := by
  obtain ⟨W, hW⟩ : ∃ W, ((w.alloc (.cells #[.int .i64 1, .int .i64 5, .int .i64 9] 3)).alloc (.cells #[.int .i64 2, .int .i64 2, .int .i64 2] 3)).alloc (.cells #[.int .i64 0, .slice (some ⟨w.heap.size, 0, none⟩) 3 3, .slice (some ⟨w.heap.size + 1, 0, none⟩) 3 3] 32) = W := ⟨_, rfl⟩
  have HAL := mkHid (show Below w.heap.size w W by rw [← hW]; exact below_al (below_al (below_al (Below.refl _ _) _) _) _)
  have h0 : W.heap[w.heap.size]? = some (.cells #[.int .i64 1, .int .i64 5, .int .i64 9] 3) := by rw [← hW]; exact (Below.heap_alloc _ _ _ (by simp; omega)).trans ((Below.heap_alloc _ _ _ (by simp)).trans (heap_alloc_new _ _))
  have h1 : W.heap[w.heap.size + 1]? = some (.cells #[.int .i64 2, .int .i64 2, .int .i64 2] 3) := by rw [← hW]; exact (Below.heap_alloc _ _ _ (by simp)).trans (heap_two _ _ _)
  have h2 : W.heap[w.heap.size + 2]? = some (.cells #[.int .i64 0, .slice (some ⟨w.heap.size, 0, none⟩) 3 3, .slice (some ⟨w.heap.size + 1, 0, none⟩) 3 3] 32) := by
    rw [← hW]
    have h := heap_alloc_new ((w.alloc (.cells #[.int .i64 1, .int .i64 5, .int .i64 9] 3)).alloc (.cells #[.int .i64 2, .int .i64 2, .int .i64 2] 3)) (.cells #[.int .i64 0, .slice (some ⟨w.heap.size, 0, none⟩) 3 3, .slice (some ⟨w.heap.size + 1, 0, none⟩) 3 3] 32)
    rwa [show ((w.alloc (.cells #[.int .i64 1, .int .i64 5, .int .i64 9] 3)).alloc (.cells #[.int .i64 2, .int .i64 2, .int .i64 2] 3)).heap.size = w.heap.size + 2 by simp] at h
  have HKS := mkHid (show IS W W.heap.size (some ⟨w.heap.size, 0, none⟩) 3 [1, 5, 9] from IS.of_block h0 rfl (by intro x hx; simp at hx; unfold I64; omega))
  have HVS := mkHid (show IS W W.heap.size (some ⟨w.heap.size + 1, 0, none⟩) 3 [2, 2, 2] from IS.of_block h1 rfl (by intro x hx; simp at hx; unfold I64; omega))
  have H2 := mkHid h2
  have c0 := cell_of_row W (w.heap.size + 2) 0 _ _ _ h2
  have c1 := cell_of_row W (w.heap.size + 2) 1 _ _ _ h2
  have c2 := cell_of_row W (w.heap.size + 2) 2 _ _ _ h2
  simp at c0 c1 c2
  clear h0 h1 h2
  go_enter Try.func13, Try.ntmps13
  go_wp2_with fail
  clear hW
  refine (put_any 0 (some ⟨w.heap.size, 0, none⟩) (some ⟨w.heap.size + 1, 0, none⟩) 3 3 3 3 [1, 5, 9] [2, 2, 2] 6 3 W HKS.out HVS.out).mono ?_
  rintro e w2 ⟨A, C, rfl, hle, hns, hb⟩
  rw [show putOf 0 [1, 5, 9] [2, 2, 2] 6 3 = (0, [(0, [1, 5, 6, 9], [2, 2, 3, 2])]) by decide] at hle hns ⊢
  simp only [List.length_cons, List.length_nil, Nat.zero_add] at hle hns ⊢
  obtain ⟨b, o, K, k, D, K', m, D', rfl, hb0, q0, q1, q2, i1, i2, _, _⟩ := hns.2 0 _ rfl
  simp only [Nat.zero_mul, Nat.add_zero] at q0 q1 q2
  have hk4 : k = 4 := i1.len.symm
  subst hk4
  obtain ⟨b', o', rfl, _, r2, _, _⟩ := i1.at_ (j := 2) (by omega)
  simp at r2
  have c1' := (hb.cell (p := ⟨w.heap.size + 2, 1, none⟩) (Array.getElem?_eq_some_iff.1 H2.out).1).trans c1
  have HB := mkHid (HAL.out.trans (hb.mono HAL.out.size))
  rw [errV_no]
  clear c0 c1 c2 i1 i2 hns hb
  go_wp2_with fail
  go_ret
  exact ⟨rfl, HB.out⟩

end Go.Proofs.Ytilepjkdfbhgcaa
