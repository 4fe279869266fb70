/- The law's awake. -/
import Derived.Test.YtbgfccfhiocomaaSaI
namespace Go.Proofs.Ytbgfccfhiocomaa
open Go.RowKit Go.Shelf

/-- A right superblock is read back. -/
theorem parsS_back {g r : Int} {xs : List (Int × Int)} (h : rightS g r xs = true) : parsS (frameOf 1 (superB g r xs)) = (0, g, r, xs) := by
  obtain ⟨⟨hg0, hg1, hr0, hr1⟩, hrl, _⟩ := rightS_ok h
  have h8 := rightL_8 hrl
  have hget : getOf 1 (frameOf 1 (superB g r xs)) = (0, superB g r xs) := get_frame (by rw [superB_len]; omega)
  have e0 : superB g r xs = nb 8 g ++ (nb 8 r ++ rosBytes xs) := by unfold superB; rw [List.append_assoc]
  have d8 : (superB g r xs).drop 8 = nb 8 r ++ rosBytes xs := by rw [e0, List.drop_left' (nb_len _ _)]
  have d16 : (superB g r xs).drop 16 = rosBytes xs := by
    rw [show (16 : Nat) = 8 + 8 from rfl, ← List.drop_drop, d8, List.drop_left' (nb_len _ _)]
  have r1 : readOf 8 (superB g r xs) = (g, true) := by rw [e0]; exact read_nb (fits_8 (by omega) hg1) _ ((nb_ok _ 8).append (rosBytes_ok xs))
  have r2 : readOf 8 ((superB g r xs).drop 8) = (r, true) := by rw [d8]; exact read_nb (fits_8 hr0 hr1) _ (rosBytes_ok xs)
  have hp := parse_back hrl []
  rw [List.append_nil] at hp
  have hgb : goodB (rosBytes xs) = true := by
    cases hb : goodB (rosBytes xs) with
    | true => rfl
    | false => unfold parseOf at hp; rw [hb, if_neg (by decide)] at hp; exact absurd (show (14 : Int) = 0 from congrArg Prod.fst hp) (by decide)
  unfold parseOf at hp
  rw [if_pos hgb] at hp
  have h1 : 1 + 3 * hdOf (rosBytes xs) = 1 + 3 * (xs.length : Int) := congrArg (fun t => t.2.1) hp
  have h2 : enAll (rosBytes xs) = xs := congrArg (fun t => t.2.2) hp
  have e1 : supG (superB g r xs) = g := by unfold supG; rw [r1]
  have e2 : supR (superB g r xs) = r := by unfold supR; rw [r2]
  have e3 : supL (superB g r xs) = xs := by unfold supL; rw [d16, h2]
  have hok : okSD (superB g r xs) = true := by
    unfold okSD
    rw [e1, e2, e3, r1, r2, d16, hgb, h1, superB_len, h]
    simp only [Bool.true_and, Bool.and_true, Bool.and_eq_true, decide_eq_true_eq]
    omega
  rw [parsS_yes hget hok, e1, e2, e3]

set_option maxRecDepth 20000 in
set_option maxHeartbeats 2000000 in
theorem awake_any (w : World) : Calls Try.prog 7 #[] w fun e w' => e = .returned (.bool true) ∧ Below w.heap.size w w' := by
  have hr : rightS 1 0 [(1, 10)] = true := by decide
  obtain ⟨W, hW⟩ : ∃ W, (w.alloc (.cells #[.int .i64 1, .int .i64 10] 74)).alloc (.cells #[.int .i64 1, .int .i64 0, .slice (some ⟨w.heap.size, 0, none⟩) 1 1] 35) = W := ⟨_, rfl⟩
  have HAL := mkHid (show Below w.heap.size w W by rw [← hW]; exact ((Below.refl _ _).alloc (Nat.le_refl _) _).alloc (by simp) _)
  have hsz : W.heap.size = w.heap.size + 2 := by rw [← hW]; simp
  have hQ0 : W.heap[w.heap.size]? = some (.cells #[.int .i64 1, .int .i64 10] 74) := by rw [← hW]; exact (Below.heap_alloc _ _ _ (by simp)).trans (heap_alloc_new _ _)
  have hQ : W.heap[w.heap.size + 1]? = some (.cells #[.int .i64 1, .int .i64 0, .slice (some ⟨w.heap.size, 0, none⟩) 1 1] 35) := by
    rw [← hW]
    have := heap_alloc_new (w.alloc (.cells #[.int .i64 1, .int .i64 10] 74)) (.cells #[.int .i64 1, .int .i64 0, .slice (some ⟨w.heap.size, 0, none⟩) 1 1] 35)
    simpa using this
  have HES := mkHid (show ES W W.heap.size (some ⟨w.heap.size, 0, none⟩) 1 [(1, 10)] from ⟨SL.of_block (cur := #[.int .i64 1, .int .i64 10]) hQ0 rfl (by omega), by intro x hx; obtain rfl := List.mem_singleton.1 hx; exact ⟨⟨by decide, by decide⟩, by decide, by decide⟩⟩)
  have HC := mkHid (show CapOk 1 1 from ⟨by omega, by unfold maxLen; omega, by omega⟩)
  have HK := mkHid (show ∀ Z, Below W.heap.size W Z → (Z.cell? ⟨w.heap.size + 1, 0, none⟩ = some (.int .i64 1) ∧ Z.cell? ⟨w.heap.size + 1, 1, none⟩ = some (.int .i64 0) ∧ Z.cell? ⟨w.heap.size + 1, 2, none⟩ = some (.slice (some ⟨w.heap.size, 0, none⟩) 1 1)) from fun Z hZ =>
    have h := (hZ.block _ (Array.getElem?_eq_some_iff.1 hQ).1).trans hQ
    ⟨cell_of_row Z (w.heap.size + 1) 0 _ _ _ h, cell_of_row Z (w.heap.size + 1) 1 _ _ _ h, cell_of_row Z (w.heap.size + 1) 2 _ _ _ h⟩)
  obtain ⟨k0, k1, k2⟩ := HK.out W (Below.refl _ _)
  have HR := mkHid hr
  clear hQ hQ0 hsz hr
  go_enter Try.func7, Try.ntmps7
  go_wp2_with fail
  (try rw [hW])
  refine (sbytes_yes 1 0 (some ⟨w.heap.size, 0, none⟩) 1 1 [(1, 10)] W HES.out HC.out HR.out).mono ?_
  rintro e w1 ⟨A1, C1, rfl, ho1, hb1⟩
  have HB1 := mkHid hb1
  have HX1 := mkHid (show BS w1 w1.heap.size A1 128 (frameOf 1 (superB 1 0 [(1, 10)])) from ⟨SL.of_own ho1, super_frame_ok HR.out⟩)
  have hc1 := own_cap ho1
  have HPB := mkHid (parsS_back HR.out)
  clear hW ho1 hb1 k0 k1 k2
  go_wp2_with fail
  refine (sparse_any A1 128 C1 _ w1 HX1.out ⟨hc1.1, hc1.2, by omega⟩).mono ?_
  rintro e w2 ⟨A2, n2, C2, rfl, hes2, hc2, _, hb2⟩
  rw [HPB.out] at hes2 ⊢
  simp only at hes2 ⊢
  rw [errV_0]
  obtain ⟨W3, hW3⟩ : ∃ W3, w2.alloc (.cells #[.int .i64 1, .int .i64 0, .slice A2 n2 C2] 35) = W3 := ⟨_, rfl⟩
  have hal3 : Below w2.heap.size w2 W3 := by rw [← hW3]; exact (Below.refl _ _).alloc (Nat.le_refl _) _
  have hX3 : W3.heap[w2.heap.size]? = some (.cells #[.int .i64 1, .int .i64 0, .slice A2 n2 C2] 35 (0, 0)) := by rw [← hW3]; exact heap_alloc_new _ _
  have x0 := cell_of_row W3 w2.heap.size 0 _ _ _ hX3
  have x1 := cell_of_row W3 w2.heap.size 1 _ _ _ hX3
  have x2 := cell_of_row W3 w2.heap.size 2 _ _ _ hX3
  simp at x0 x1 x2
  have HB3 := mkHid (below_next (below_next HB1.out hb2) hal3)
  have HES3 := mkHid ((hes2.below hal3).more hal3.size)
  have HC2 := mkHid hc2
  obtain ⟨k0, k1, k2⟩ := HK.out W3 HB3.out
  clear hes2 hb2 hal3 hX3 hc2
  go_wp2_with fail
  clear hW3
  refine (ssame_any 1 0 A2 n2 C2 [(1, 10)] 1 0 (some ⟨w.heap.size, 0, none⟩) 1 1 [(1, 10)] W3 HES3.out HC2.out ((HES.out.below HB3.out).more HB3.out.size) HC.out).mono ?_
  rintro e w4 ⟨rfl, hb4⟩
  have HB4 := mkHid (HAL.out.trans ((below_next HB3.out hb4).mono HAL.out.size))
  rw [HR.out, show sameS 1 0 [(1, 10)] 1 0 [(1, 10)] = true from by decide]
  clear hb4
  go_wp2_with fail
  go_ret
  exact ⟨rfl, HB4.out⟩

end Go.Proofs.Ytbgfccfhiocomaa
