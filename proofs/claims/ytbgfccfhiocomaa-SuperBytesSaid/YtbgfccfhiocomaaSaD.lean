/- A superblock's sector as the document has it: portageref06.Bytes. -/
import Derived.Test.YtbgfccfhiocomaaSaC
namespace Go.Proofs.Ytbgfccfhiocomaa
open Go.RowKit Go.Shelf

set_option maxRecDepth 20000 in
set_option maxHeartbeats 2000000 in
theorem rsbytes_any (g r : Int) (a : Option Addr) (n c : Nat) (xs : List (Int × Int)) (w : World) (hs : ES w w.heap.size a n xs) (hc : CapOk n c) (hr : rightS g r xs = true) :
    Calls Try.prog 14 #[.agg #[.int .i64 g, .int .i64 r, .slice a n c]] w (RetB w (frameOf 1 (superB g r xs))) := by
  obtain ⟨⟨hg0, hg1, hr0, hr1⟩, hrl, _⟩ := rightS_ok hr
  have HRL := mkHid hrl
  have HL := mkHid hs.len
  have hn8 : n ≤ 8 := by have := rightL_8 hrl; rw [hs.len] at this; exact this
  have HNG := mkHid (show ∀ Z, Calls Try.prog 38 #[.int .i64 g, .int .i64 8] Z (RetB Z (nb 8 g)) from fun Z => number_any g 8 Z ⟨by omega, by omega⟩ (by omega))
  have HNR := mkHid (show ∀ Z, Calls Try.prog 38 #[.int .i64 r, .int .i64 8] Z (RetB Z (nb 8 r)) from fun Z => number_any r 8 Z ⟨by omega, by omega⟩ (by omega))
  clear hr hrl
  obtain ⟨W, hW⟩ : ∃ W, w.alloc (.cells #[.int .i64 g, .int .i64 r, .slice a n c] 24) = W := ⟨_, rfl⟩
  have HAL := mkHid (show Below w.heap.size w W by rw [← hW]; exact (Below.refl _ _).alloc (Nat.le_refl _) _)
  have HES := mkHid ((hs.below HAL.out).more HAL.out.size)
  have hQ : W.heap[w.heap.size]? = some (.cells #[.int .i64 g, .int .i64 r, .slice a n c] 24) := by rw [← hW]; exact heap_alloc_new _ _
  have HK := mkHid (show ∀ Z, Below W.heap.size W Z → (Z.cell? ⟨w.heap.size, 0, none⟩ = some (.int .i64 g) ∧ Z.cell? ⟨w.heap.size, 1, none⟩ = some (.int .i64 r) ∧ Z.cell? ⟨w.heap.size, 2, none⟩ = some (.slice a n c)) from fun Z hZ =>
    have h := (hZ.block _ (Array.getElem?_eq_some_iff.1 hQ).1).trans hQ
    ⟨cell_of_row Z w.heap.size 0 _ _ _ h, cell_of_row Z w.heap.size 1 _ _ _ h, cell_of_row Z w.heap.size 2 _ _ _ h⟩)
  obtain ⟨k0, k1, k2⟩ := HK.out W (Below.refl _ _)
  have HC := mkHid hc
  clear hs hQ hc
  have hk0' : W.cell? ⟨w.heap.size, 0, none⟩ = some (.int .i64 g) ∧ W.cell? ⟨w.heap.size, 1, none⟩ = some (.int .i64 r) ∧ W.cell? ⟨w.heap.size, 2, none⟩ = some (.slice a n c) := ⟨k0, k1, k2⟩
  go_enter Try.func14, Try.ntmps14
  go_wp2_with fail
  clear hW k0 k1 k2
  go_region_held3 (fun Z => Z.cell? ⟨w.heap.size, 0, none⟩ = some (.int .i64 g) ∧ Z.cell? ⟨w.heap.size, 1, none⟩ = some (.int .i64 r) ∧ Z.cell? ⟨w.heap.size, 2, none⟩ = some (.slice a n c)) (first | exact hky | exact HK.out _ (by first | exact HBY.out | exact HBY.out.drew | exact (Below.refl _ _).drew | exact Below.refl _ _)) (first
    | (go_at_call 38; (with_reducible refine (HNG.out _).mono ?_); rintro e w1 ⟨A1, n1, C1, rfl, ho1, hb1⟩; obtain rfl : n1 = 8 := (by have h := ho1.1; rw [List.length_map, nb_len] at h; omega); have HBY := mkHid (below_next (show Below W.heap.size W _ from (by first | exact HBY.out | exact HBY.out.drew | exact (Below.refl _ _).drew | exact Below.refl _ _)) hb1); have hky := HK.out _ HBY.out; have HO1 := mkHid (own_less ho1 (show W.heap.size ≤ _ from (show Below W.heap.size W _ from (by first | exact (Below.refl _ _).drew | exact Below.refl _ _)).size)); clear ho1 hb1)
    | (go_at_call 38; (with_reducible refine (HNR.out _).mono ?_); rintro e w2 ⟨A2, n2, C2, rfl, ho2, hb2⟩; obtain rfl : n2 = 8 := (by have h := ho2.1; rw [List.length_map, nb_len] at h; omega); have HBZ := mkHid (below_next (show Below w1.heap.size w1 _ from (by first | exact (Below.refl _ _).drew | exact Below.refl _ _)) hb2); have HBY := mkHid (below_next HBY.out HBZ.out); have hky := HK.out _ HBY.out; have HO2 := mkHid (SL.of_own ho2); have HO1 := mkHid (own_below HO1.out HBZ.out); clear ho2 hb2)
    | (refine step_app _ rfl (.tmp 6) (.tmp 9) _ rfl W.heap.size el_u8 A1 8 C1 _ rfl HO1.out w2.heap.size A2 8 C2 ((nb 8 r).map u8) rfl HO2.out (u8_cells _) (by unfold maxLen; omega) (by omega) HBY.out.size ?_; intro A3 C3 w3 ho3 hg3 hd3; have HO3 := mkHid ho3; have HBX := mkHid (HBY.out.grown hg3 HBY.out.size (fun k hk => (HO1.out.lt k hk).1)); have HBY := mkHid HBX.out; have hky := HK.out _ HBY.out; obtain ⟨e0, e1, e2⟩ := HK.out _ HBY.out; clear ho3 hg3 hd3))
  all_goals
    (try go_wp2_with fail)
    refine (rbytes_any a n c xs w3 ((HES.out.below HBY.out).more HBY.out.size) HC.out HRL.out).mono ?_
    rintro e w4 ⟨A4, n4, C4, rfl, ho4, hb4⟩
    have hn4 : n4 = 1 + 3 * n := by have h := ho4.1; rw [List.length_map, rosBytes_len, HL.out] at h; omega
    subst hn4
    have HB4 := mkHid (below_next HBY.out hb4)
    have HO5 := mkHid (own_below HO3.out hb4)
    have HX4 := mkHid (SL.of_own ho4)
    have hcap := own_cap HO5.out
    clear ho4 hb4
    go_wp2_with (at_builtin; refine wpList_app _ rfl (.tmp 11) (.tmp 14) _ rfl W.heap.size el_u8 A3 (8 + 8) C3 _ rfl HO5.out w4.heap.size A4 (1 + 3 * n) C4 ((rosBytes xs).map u8) rfl HX4.out (u8_cells _) (by unfold maxLen; omega) (by omega) HB4.out.size ?_; intro A6 C6 w6 ho6 hg6 hat6; have HO6 := mkHid ho6; have HB6 := mkHid (HB4.out.grown hg6 HB4.out.size (fun k hk => (HO5.out.lt k hk).1)); clear ho6 hg6 hat6)
    have HX6 := mkHid (show BS w6 w6.heap.size A6 (8 + 8 + (1 + 3 * n)) (superB g r xs) from ⟨by have h := SL.of_own HO6.out; rw [← List.map_append, ← List.map_append] at h; exact h, superB_ok g r xs⟩)
    refine (rput_any 1 A6 (8 + 8 + (1 + 3 * n)) C6 (superB g r xs) w6 ⟨by omega, by omega⟩ HX6.out (by omega)).mono ?_
    rintro e w7 ⟨A7, n7, C7, rfl, ho7, hb7⟩
    have HO7 := mkHid ho7
    have HB7 := mkHid (below_next HB6.out hb7)
    clear ho7 hb7
    go_wp2_with fail
    go_ret
    have hs1 := HAL.out.size
    have hs3 := HB6.out.size
    exact ⟨A7, n7, C7, rfl, own_less HO7.out (by omega), HAL.out.trans (HB7.out.mono HAL.out.size)⟩

end Go.Proofs.Ytbgfccfhiocomaa
