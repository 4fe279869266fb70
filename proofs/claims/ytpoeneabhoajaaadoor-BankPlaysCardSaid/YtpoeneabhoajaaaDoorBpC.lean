/- portagelaw04.step by contract: Add, Read, Flush, Arm, Crash, all others. -/
import Derived.Test.YtpoeneabhoajaaaDoorBpB
namespace Go.Proofs.YtpoeneabhoajaaaDoor
open Go.RowKit

set_option maxRecDepth 20000 in
set_option maxHeartbeats 4000000 in
theorem step4_add (F1 F2 : Nat → Prop) (g1 g2 q : Nat) (s : Bst) (xi xs xn : Int) (a1 : Option Addr) (m c1 : Nat) (xd : List Int) (a2 : Option Addr) (m' c2 : Nat) (xp : List Int) (w wp : World) (h : SI w wp F1 F2 g1 g2 q s xi xs xn a1 m xd a2 m' c2 xp) :
    Calls Tryd.prog 13 #[.pointer (some ⟨g1, 0, none⟩), .pointer (some ⟨g2, 0, none⟩), .agg #[.int .i64 1, .int .i64 xi, .int .i64 xs, .int .i64 xn, .slice a1 m c1, .slice a2 m' c2]] wp (Stepped4 w g1 g2 (q + 1)) := by
  have HH := mkHid h
  obtain ⟨W0, hW0⟩ : ∃ W0, wp.alloc (.cells #[.int .i64 1, .int .i64 xi, .int .i64 xs, .int .i64 xn, .slice a1 m c1, .slice a2 m' c2] 39) = W0 := ⟨_, rfl⟩
  have HB0 := mkHid (show BB w W0 F1 F2 g1 g2 s s by rw [← hW0]; exact h.b.below ((Below.refl _ _).alloc (Nat.le_refl _) _))
  have hs0 : W0.heap.size = wp.heap.size + 1 := by rw [← hW0]; simp
  have hbl : W0.heap[wp.heap.size]? = some (.cells #[.int .i64 1, .int .i64 xi, .int .i64 xs, .int .i64 xn, .slice a1 m c1, .slice a2 m' c2] 39 (0, 0)) := by rw [← hW0]; exact heap_alloc_new _ _
  have HPC := mkHid (show ∀ Z : World, Z.heap[wp.heap.size]? = W0.heap[wp.heap.size]? → Z.cell? ⟨wp.heap.size, 1, none⟩ = some (.int .i64 xi) ∧ Z.cell? ⟨wp.heap.size, 2, none⟩ = some (.int .i64 xs) ∧ Z.cell? ⟨wp.heap.size, 3, none⟩ = some (.int .i64 xn) ∧ Z.cell? ⟨wp.heap.size, 4, none⟩ = some (.slice a1 m c1) ∧ Z.cell? ⟨wp.heap.size, 5, none⟩ = some (.slice a2 m' c2) from fun Z hZ => ⟨cell_of_row Z _ 1 _ _ _ (hZ.trans hbl), cell_of_row Z _ 2 _ _ _ (hZ.trans hbl), cell_of_row Z _ 3 _ _ _ (hZ.trans hbl), cell_of_row Z _ 4 _ _ _ (hZ.trans hbl), cell_of_row Z _ 5 _ _ _ (hZ.trans hbl)⟩)
  have HF1 := mkHid h.b.a.lt
  have HF2 := mkHid h.b.b.lt
  have hm := h.m
  have hm' := h.m'
  have hc1' := h.c.1
  have hc2' := h.c.2
  have HK0 := mkHid (show ∀ Z : World, Z.heap[wp.heap.size]? = W0.heap[wp.heap.size]? → Z.cell? ⟨wp.heap.size, 0, none⟩ = some (.int .i64 1) from fun Z hZ => cell_of_row Z _ 0 _ _ _ (hZ.trans hbl))
  obtain ⟨y1, y2, y3, y4, y5⟩ := HPC.out W0 rfl
  have HX0 := mkHid ((h.x.below HB0.out.bel).more HB0.out.bel.size)
  clear h hbl
  go_enter Tryd.func13, Tryd.ntmps13
  go_wp2_with fail
  clear hW0 y1 y2 y3 y4 y5
  refine (copy_any a1 m c1 xd W0 HX0.out (by omega)).mono ?_
  rintro e w1 ⟨CB, cb, rfl, hco, hb1⟩
  rw [HX0.out.len] at hco ⊢
  have hk1 : w1.heap[wp.heap.size]? = W0.heap[wp.heap.size]? := hb1.block _ (by omega)
  have gk1 := HPC.out w1 hk1
  obtain ⟨y1, y2, y3, y4, y5⟩ := gk1
  have gk1 := HPC.out w1 hk1
  have y0 := HK0.out w1 hk1
  have HK1 := mkHid hk1
  have HCO := mkHid hco
  have HCB := mkHid (show BS w1 w1.heap.size CB m xd from ⟨SL.of_own hco, HX0.out.2⟩)
  have HB1 := mkHid (HB0.out.below hb1)
  have hs1 := hb1.size
  have HBA := mkHid (show ∀ Z : World, Z.heap = w1.heap → BO Z F1 g1 s from fun Z hZ => HB1.out.a.keep (by rw [hZ]; exact Nat.le_refl _) fun _ _ => by rw [hZ])
  have HE1 := mkHid (HH.out.e.below HB1.out.bel)
  clear hco hb1 hk1
  obtain ⟨A, n, c, ps, Fs, hbk⟩ := HB1.out.b
  have c0 := cell_of_row w1 g2 0 _ _ _ hbk.blk
  have hn8 := hbk.n8
  have HLEN := mkHid hbk.len
  simp at c0
  clear hbk
  go_wp2_with fail
  refine (add_any F1 g1 s xn w1 HB1.out.a HH.out.n).mono ?_
  rintro e w5 ⟨i5, v, rfl, hi1, hi2, hv5, ht5, F3, hd5, hF5⟩
  have hk5 : w5.heap[wp.heap.size]? = W0.heap[wp.heap.size]? := (ht5.block _ (show wp.heap.size < w1.heap.size by omega) (fun hf => by have := HF1.out _ hf; omega)).trans HK1.out
  have HK5 := mkHid hk5
  have hz5 : wp.heap.size < w5.heap.size := Nat.lt_of_lt_of_le (show wp.heap.size < w1.heap.size by omega) ht5.size
  have HB5 := mkHid (HB1.out.stepA ht5 hd5 hF5)
  have HV5 := mkHid hv5
  have HI1 := mkHid hi1
  have HI2 := mkHid hi2
  obtain ⟨y1, y2, y3, y4, y5⟩ := HPC.out w5 hk5
  clear ht5 hd5 hF5 hk5 hv5 hi1 hi2 c0 y0
  go_wp2_with fail
  refine (radd_any F2 g2 s xn w5 HB5.out.b HH.out.n).mono ?_
  rintro e w6 ⟨i6, rfl, hj1, hj2, ht6, F4, hd6, hF6⟩
  have HB6 := mkHid (HB5.out.stepB ht6 hd6 hF6)
  have HV6 := mkHid (HV5.out.turn ht6 (fun b hb => by have := HF2.out _ hb; omega))
  have HE6 := mkHid (HH.out.e.below HB6.out.bel)
  obtain rfl : i5 = i6 := by
    by_cases h0 : s.addE xn = 0
    · rw [HI1.out h0, hj1 h0]
    · rw [HI2.out h0, hj2 h0]
  have hii : (i5 == i5) = true := by simp
  rw [HLEN.out] at HV6
  clear ht6 hd6 hF6 hj1 hj2 HI1 HI2
  go_wp2_with fail
  refine (told_any v opAdd n 0 (s.addE xn) w6 HE6.out HV6.out).mono ?_
  rintro e w7 ⟨rfl, hb7⟩
  have HB7 := mkHid (HB6.out.below hb7)
  clear hb7
  go_wp2_with fail
  go_ret
  exact ⟨rfl, F3, F4, _, HB7.out, inv_added HH.out.v xn⟩

set_option maxRecDepth 20000 in
set_option maxHeartbeats 4000000 in
theorem step4_read (F1 F2 : Nat → Prop) (g1 g2 q : Nat) (s : Bst) (xi xs xn : Int) (a1 : Option Addr) (m c1 : Nat) (xd : List Int) (a2 : Option Addr) (m' c2 : Nat) (xp : List Int) (w wp : World) (h : SI w wp F1 F2 g1 g2 q s xi xs xn a1 m xd a2 m' c2 xp) :
    Calls Tryd.prog 13 #[.pointer (some ⟨g1, 0, none⟩), .pointer (some ⟨g2, 0, none⟩), .agg #[.int .i64 4, .int .i64 xi, .int .i64 xs, .int .i64 xn, .slice a1 m c1, .slice a2 m' c2]] wp fun e w' => e = .returned (.bool true) ∧ Below wp.heap.size wp w' := by
  have HH := mkHid h
  obtain ⟨W0, hW0⟩ : ∃ W0, wp.alloc (.cells #[.int .i64 4, .int .i64 xi, .int .i64 xs, .int .i64 xn, .slice a1 m c1, .slice a2 m' c2] 39) = W0 := ⟨_, rfl⟩
  have HBW := mkHid (show Below wp.heap.size wp W0 by rw [← hW0]; exact (Below.refl _ _).alloc (Nat.le_refl _) _)
  have HB0 := mkHid (show BB w W0 F1 F2 g1 g2 s s by rw [← hW0]; exact h.b.below ((Below.refl _ _).alloc (Nat.le_refl _) _))
  have hs0 : W0.heap.size = wp.heap.size + 1 := by rw [← hW0]; simp
  have hbl : W0.heap[wp.heap.size]? = some (.cells #[.int .i64 4, .int .i64 xi, .int .i64 xs, .int .i64 xn, .slice a1 m c1, .slice a2 m' c2] 39 (0, 0)) := by rw [← hW0]; exact heap_alloc_new _ _
  have HPC := mkHid (show ∀ Z : World, Z.heap[wp.heap.size]? = W0.heap[wp.heap.size]? → Z.cell? ⟨wp.heap.size, 1, none⟩ = some (.int .i64 xi) ∧ Z.cell? ⟨wp.heap.size, 2, none⟩ = some (.int .i64 xs) ∧ Z.cell? ⟨wp.heap.size, 3, none⟩ = some (.int .i64 xn) ∧ Z.cell? ⟨wp.heap.size, 4, none⟩ = some (.slice a1 m c1) ∧ Z.cell? ⟨wp.heap.size, 5, none⟩ = some (.slice a2 m' c2) from fun Z hZ => ⟨cell_of_row Z _ 1 _ _ _ (hZ.trans hbl), cell_of_row Z _ 2 _ _ _ (hZ.trans hbl), cell_of_row Z _ 3 _ _ _ (hZ.trans hbl), cell_of_row Z _ 4 _ _ _ (hZ.trans hbl), cell_of_row Z _ 5 _ _ _ (hZ.trans hbl)⟩)
  have HF1 := mkHid h.b.a.lt
  have HF2 := mkHid h.b.b.lt
  have hm := h.m
  have hm' := h.m'
  have hc1' := h.c.1
  have hc2' := h.c.2
  have HK0 := mkHid (show ∀ Z : World, Z.heap[wp.heap.size]? = W0.heap[wp.heap.size]? → Z.cell? ⟨wp.heap.size, 0, none⟩ = some (.int .i64 4) from fun Z hZ => cell_of_row Z _ 0 _ _ _ (hZ.trans hbl))
  obtain ⟨y1, y2, y3, y4, y5⟩ := HPC.out W0 rfl
  have HX0 := mkHid ((h.x.below HB0.out.bel).more HB0.out.bel.size)
  clear h hbl
  go_enter Tryd.func13, Tryd.ntmps13
  go_wp2_with fail
  clear hW0 y1 y2 y3 y4 y5
  refine (copy_any a1 m c1 xd W0 HX0.out (by omega)).mono ?_
  rintro e w1 ⟨CB, cb, rfl, hco, hb1⟩
  rw [HX0.out.len] at hco ⊢
  have hk1 : w1.heap[wp.heap.size]? = W0.heap[wp.heap.size]? := hb1.block _ (by omega)
  have gk1 := HPC.out w1 hk1
  obtain ⟨y1, y2, y3, y4, y5⟩ := gk1
  have gk1 := HPC.out w1 hk1
  have y0 := HK0.out w1 hk1
  have HK1 := mkHid hk1
  have HCO := mkHid hco
  have HCB := mkHid (show BS w1 w1.heap.size CB m xd from ⟨SL.of_own hco, HX0.out.2⟩)
  have HB1 := mkHid (HB0.out.below hb1)
  have hs1 := hb1.size
  have HB1W := mkHid (HBW.out.trans (hb1.mono (by omega)))
  have HBA := mkHid (show ∀ Z : World, Z.heap = w1.heap → BO Z F1 g1 s from fun Z hZ => HB1.out.a.keep (by rw [hZ]; exact Nat.le_refl _) fun _ _ => by rw [hZ])
  have HE1 := mkHid (HH.out.e.below HB1.out.bel)
  clear hco hb1 hk1
  go_wp2_with fail
  refine (bread_any F1 g1 s xi xs w1 HB1.out.a HH.out.i HH.out.s).mono ?_
  rintro e w5 ⟨A5, m5, c5, v, rfl, rfl, _, hbs5, hv5, hb5⟩
  have hk5 : w5.heap[wp.heap.size]? = W0.heap[wp.heap.size]? := (hb5.block _ (by omega)).trans HK1.out
  have HK5 := mkHid hk5
  have HB5 := mkHid (HB1.out.below hb5)
  have HB5W := mkHid (HB1W.out.trans (hb5.mono (by omega)))
  have hz5 := hb5.size
  have HV5 := mkHid hv5
  have HBS5 := mkHid hbs5
  obtain ⟨y1, y2, y3, y4, y5⟩ := HPC.out w5 hk5
  clear hk5 hv5 hbs5 hb5 y0
  go_wp2_with fail
  refine (rbread_any F2 g2 s xi xs w5 HB5.out.b HH.out.i HH.out.s).mono ?_
  rintro e w6 ⟨A6, m6, c6, rfl, rfl, hbs6, hb6⟩
  have hk6 : w6.heap[wp.heap.size]? = W0.heap[wp.heap.size]? := (hb6.block _ (by omega)).trans HK5.out
  have HB6 := mkHid (HB5.out.below hb6)
  have HB6W := mkHid (HB5W.out.trans (hb6.mono (by omega)))
  have HE6 := mkHid (HH.out.e.below HB6.out.bel)
  have HV6 := mkHid (HV5.out.below hb6)
  have HSM := mkHid (same_any A5 A6 _ _ c5 c6 _ _ _ _ w6 (HBS5.out.below hb6) hbs6)
  rw [decide_eq_true rfl] at HSM
  have hz6 := hb6.size
  obtain ⟨y1, y2, y3, y4, y5⟩ := HPC.out w6 hk6
  clear hk6 hbs6 hb6
  go_wp2_with fail
  refine HSM.out.mono ?_
  rintro e w7 ⟨rfl, rfl⟩
  go_wp2_with fail
  refine (told_any v opRead xi xs (s.rdE xi xs) w6 HE6.out HV6.out).mono ?_
  rintro e w7 ⟨rfl, hb7⟩
  have HB7W := mkHid (HB6W.out.trans (hb7.mono (by omega)))
  clear hb7
  go_wp2_with fail
  go_ret
  exact ⟨rfl, HB7W.out⟩

set_option maxRecDepth 20000 in
set_option maxHeartbeats 4000000 in
theorem step4_flush (F1 F2 : Nat → Prop) (g1 g2 q : Nat) (s : Bst) (xi xs xn : Int) (a1 : Option Addr) (m c1 : Nat) (xd : List Int) (a2 : Option Addr) (m' c2 : Nat) (xp : List Int) (w wp : World) (h : SI w wp F1 F2 g1 g2 q s xi xs xn a1 m xd a2 m' c2 xp) :
    Calls Tryd.prog 13 #[.pointer (some ⟨g1, 0, none⟩), .pointer (some ⟨g2, 0, none⟩), .agg #[.int .i64 6, .int .i64 xi, .int .i64 xs, .int .i64 xn, .slice a1 m c1, .slice a2 m' c2]] wp (Stepped4 w g1 g2 (q + 1)) := by
  have HH := mkHid h
  obtain ⟨W0, hW0⟩ : ∃ W0, wp.alloc (.cells #[.int .i64 6, .int .i64 xi, .int .i64 xs, .int .i64 xn, .slice a1 m c1, .slice a2 m' c2] 39) = W0 := ⟨_, rfl⟩
  have HB0 := mkHid (show BB w W0 F1 F2 g1 g2 s s by rw [← hW0]; exact h.b.below ((Below.refl _ _).alloc (Nat.le_refl _) _))
  have hs0 : W0.heap.size = wp.heap.size + 1 := by rw [← hW0]; simp
  have hbl : W0.heap[wp.heap.size]? = some (.cells #[.int .i64 6, .int .i64 xi, .int .i64 xs, .int .i64 xn, .slice a1 m c1, .slice a2 m' c2] 39 (0, 0)) := by rw [← hW0]; exact heap_alloc_new _ _
  have HPC := mkHid (show ∀ Z : World, Z.heap[wp.heap.size]? = W0.heap[wp.heap.size]? → Z.cell? ⟨wp.heap.size, 1, none⟩ = some (.int .i64 xi) ∧ Z.cell? ⟨wp.heap.size, 2, none⟩ = some (.int .i64 xs) ∧ Z.cell? ⟨wp.heap.size, 3, none⟩ = some (.int .i64 xn) ∧ Z.cell? ⟨wp.heap.size, 4, none⟩ = some (.slice a1 m c1) ∧ Z.cell? ⟨wp.heap.size, 5, none⟩ = some (.slice a2 m' c2) from fun Z hZ => ⟨cell_of_row Z _ 1 _ _ _ (hZ.trans hbl), cell_of_row Z _ 2 _ _ _ (hZ.trans hbl), cell_of_row Z _ 3 _ _ _ (hZ.trans hbl), cell_of_row Z _ 4 _ _ _ (hZ.trans hbl), cell_of_row Z _ 5 _ _ _ (hZ.trans hbl)⟩)
  have HF1 := mkHid h.b.a.lt
  have HF2 := mkHid h.b.b.lt
  have hm := h.m
  have hm' := h.m'
  have hc1' := h.c.1
  have hc2' := h.c.2
  have HK0 := mkHid (show ∀ Z : World, Z.heap[wp.heap.size]? = W0.heap[wp.heap.size]? → Z.cell? ⟨wp.heap.size, 0, none⟩ = some (.int .i64 6) from fun Z hZ => cell_of_row Z _ 0 _ _ _ (hZ.trans hbl))
  obtain ⟨y1, y2, y3, y4, y5⟩ := HPC.out W0 rfl
  have HX0 := mkHid ((h.x.below HB0.out.bel).more HB0.out.bel.size)
  clear h hbl
  go_enter Tryd.func13, Tryd.ntmps13
  go_wp2_with fail
  clear hW0 y1 y2 y3 y4 y5
  refine (copy_any a1 m c1 xd W0 HX0.out (by omega)).mono ?_
  rintro e w1 ⟨CB, cb, rfl, hco, hb1⟩
  rw [HX0.out.len] at hco ⊢
  have hk1 : w1.heap[wp.heap.size]? = W0.heap[wp.heap.size]? := hb1.block _ (by omega)
  have gk1 := HPC.out w1 hk1
  obtain ⟨y1, y2, y3, y4, y5⟩ := gk1
  have gk1 := HPC.out w1 hk1
  have y0 := HK0.out w1 hk1
  have HK1 := mkHid hk1
  have HCO := mkHid hco
  have HCB := mkHid (show BS w1 w1.heap.size CB m xd from ⟨SL.of_own hco, HX0.out.2⟩)
  have HB1 := mkHid (HB0.out.below hb1)
  have hs1 := hb1.size
  have HBA := mkHid (show ∀ Z : World, Z.heap = w1.heap → BO Z F1 g1 s from fun Z hZ => HB1.out.a.keep (by rw [hZ]; exact Nat.le_refl _) fun _ _ => by rw [hZ])
  have HE1 := mkHid (HH.out.e.below HB1.out.bel)
  clear hco hb1 hk1
  have HX1 := mkHid ((HH.out.p.below HB1.out.bel).more HB1.out.bel.size)
  have HOU2 := mkHid (show 0 < m' → ∀ ad : Addr, a2 = some ad → ¬ F2 ad.block from fun h0 ad had hf => by
    obtain ⟨b, o, ha, hb, _⟩ := HH.out.p.at_ (j := 0) h0
    rw [had] at ha
    injection ha with ha
    subst ha
    have := HB0.out.lb _ hf
    simp only at this
    omega)
  have HDN := mkHid (show 0 ≤ s.done ∧ s.done ≤ 1000000 from ⟨HH.out.v.2.1, by have := HH.out.v.2.2; have := HH.out.q; omega⟩)
  go_wp2_with fail
  refine (rbflush_any F2 g2 s a2 m' c2 xp w1 HB1.out.b HX1.out HOU2.out HDN.out (by omega)).mono ?_
  rintro e w5 ⟨rfl, ht5, F4, hd5, hF5⟩
  have hk5 : w5.heap[wp.heap.size]? = W0.heap[wp.heap.size]? := (ht5.block _ (show wp.heap.size < w1.heap.size by omega) (fun hf => by have := HF2.out _ hf; omega)).trans HK1.out
  have HK5 := mkHid hk5
  have HB5 := mkHid (HB1.out.stepB ht5 hd5 hF5)
  have HX5 := mkHid ((HH.out.p.below HB5.out.bel).more HB5.out.bel.size)
  have hz5 := ht5.size
  have hlt5 : wp.heap.size < w5.heap.size := by omega
  obtain ⟨y1, y2, y3, y4, y5⟩ := HPC.out w5 hk5
  clear ht5 hd5 hF5 hk5 y0
  go_wp2_with (at_builtin; refine wpList_app _ rfl (.tmp 148) (.tmp 150) _ rfl w5.heap.size el_int (some ⟨w5.heap.size, 0, none⟩) 0 0 [] rfl (World.ownsRow_made w5 #[] 0 (Nat.le_refl _) (Nat.zero_le _) rfl) w5.heap.size a2 m' c2 _ rfl (HX5.out.1.alloc (Nat.le_refl _) _) (i64_cells _) (by unfold maxLen; omega) (by omega) (by simp) ?_; intro A' c' w6 hown hg hat; have HG6 := mkHid hg; have HO6 := mkHid hown; clear hown hg hat)
  have hg6 := HG6.out
  have HB6 := mkHid (HB5.out.below (((Below.refl _ _).alloc (Nat.le_refl _) _).grown hg6 (by simp) (fun k hk => by simp [Value.ownBlock] at hk; omega)))
  have ho := HO6.out
  simp only [Nat.zero_add, List.nil_append] at ho ⊢
  have HO6' := mkHid ho
  have HIN := mkHid (inv_flushA HH.out.v xp (by have := HH.out.p.len; omega))
  clear ho hg6
  refine (bflush_any F1 g1 s A' m' c' xp w6 HB6.out.a ⟨SL.of_own HO6'.out, HH.out.p.2⟩ (own_out HO6'.out HB5.out.a.lt) HDN.out (by omega)).mono ?_
  rintro e w7 ⟨v, rfl, hv7, ht7, F3, hd7, hF7⟩
  have HB7 := mkHid (HB6.out.stepA ht7 hd7 hF7)
  have HE7 := mkHid (HH.out.e.below HB7.out.bel)
  have HV7 := mkHid hv7
  clear ht7 hd7 hF7 hv7
  go_wp2_with fail
  refine (told_any v opFlush _ 0 _ w7 HE7.out HV7.out).mono ?_
  rintro e w8 ⟨rfl, hb8⟩
  have HB8 := mkHid (HB7.out.below hb8)
  clear hb8
  go_wp2_with fail
  go_ret
  exact ⟨rfl, F3, F4, _, HB8.out, HIN.out⟩

set_option maxRecDepth 20000 in
set_option maxHeartbeats 4000000 in
theorem step4_crash (F1 F2 : Nat → Prop) (g1 g2 q : Nat) (s : Bst) (xi xs xn : Int) (a1 : Option Addr) (m c1 : Nat) (xd : List Int) (a2 : Option Addr) (m' c2 : Nat) (xp : List Int) (w wp : World) (h : SI w wp F1 F2 g1 g2 q s xi xs xn a1 m xd a2 m' c2 xp) :
    Calls Tryd.prog 13 #[.pointer (some ⟨g1, 0, none⟩), .pointer (some ⟨g2, 0, none⟩), .agg #[.int .i64 8, .int .i64 xi, .int .i64 xs, .int .i64 xn, .slice a1 m c1, .slice a2 m' c2]] wp (Stepped4 w g1 g2 (q + 1)) := by
  have HH := mkHid h
  obtain ⟨W0, hW0⟩ : ∃ W0, wp.alloc (.cells #[.int .i64 8, .int .i64 xi, .int .i64 xs, .int .i64 xn, .slice a1 m c1, .slice a2 m' c2] 39) = W0 := ⟨_, rfl⟩
  have HB0 := mkHid (show BB w W0 F1 F2 g1 g2 s s by rw [← hW0]; exact h.b.below ((Below.refl _ _).alloc (Nat.le_refl _) _))
  have hs0 : W0.heap.size = wp.heap.size + 1 := by rw [← hW0]; simp
  have hbl : W0.heap[wp.heap.size]? = some (.cells #[.int .i64 8, .int .i64 xi, .int .i64 xs, .int .i64 xn, .slice a1 m c1, .slice a2 m' c2] 39 (0, 0)) := by rw [← hW0]; exact heap_alloc_new _ _
  have HPC := mkHid (show ∀ Z : World, Z.heap[wp.heap.size]? = W0.heap[wp.heap.size]? → Z.cell? ⟨wp.heap.size, 1, none⟩ = some (.int .i64 xi) ∧ Z.cell? ⟨wp.heap.size, 2, none⟩ = some (.int .i64 xs) ∧ Z.cell? ⟨wp.heap.size, 3, none⟩ = some (.int .i64 xn) ∧ Z.cell? ⟨wp.heap.size, 4, none⟩ = some (.slice a1 m c1) ∧ Z.cell? ⟨wp.heap.size, 5, none⟩ = some (.slice a2 m' c2) from fun Z hZ => ⟨cell_of_row Z _ 1 _ _ _ (hZ.trans hbl), cell_of_row Z _ 2 _ _ _ (hZ.trans hbl), cell_of_row Z _ 3 _ _ _ (hZ.trans hbl), cell_of_row Z _ 4 _ _ _ (hZ.trans hbl), cell_of_row Z _ 5 _ _ _ (hZ.trans hbl)⟩)
  have HF1 := mkHid h.b.a.lt
  have HF2 := mkHid h.b.b.lt
  have hm := h.m
  have hm' := h.m'
  have hc1' := h.c.1
  have hc2' := h.c.2
  have HK0 := mkHid (show ∀ Z : World, Z.heap[wp.heap.size]? = W0.heap[wp.heap.size]? → Z.cell? ⟨wp.heap.size, 0, none⟩ = some (.int .i64 8) from fun Z hZ => cell_of_row Z _ 0 _ _ _ (hZ.trans hbl))
  obtain ⟨y1, y2, y3, y4, y5⟩ := HPC.out W0 rfl
  have HX0 := mkHid ((h.x.below HB0.out.bel).more HB0.out.bel.size)
  clear h hbl
  go_enter Tryd.func13, Tryd.ntmps13
  go_wp2_with fail
  clear hW0 y1 y2 y3 y4 y5
  refine (copy_any a1 m c1 xd W0 HX0.out (by omega)).mono ?_
  rintro e w1 ⟨CB, cb, rfl, hco, hb1⟩
  rw [HX0.out.len] at hco ⊢
  have hk1 : w1.heap[wp.heap.size]? = W0.heap[wp.heap.size]? := hb1.block _ (by omega)
  have gk1 := HPC.out w1 hk1
  obtain ⟨y1, y2, y3, y4, y5⟩ := gk1
  have gk1 := HPC.out w1 hk1
  have y0 := HK0.out w1 hk1
  have HK1 := mkHid hk1
  have HCO := mkHid hco
  have HCB := mkHid (show BS w1 w1.heap.size CB m xd from ⟨SL.of_own hco, HX0.out.2⟩)
  have HB1 := mkHid (HB0.out.below hb1)
  have hs1 := hb1.size
  have HBA := mkHid (show ∀ Z : World, Z.heap = w1.heap → BO Z F1 g1 s from fun Z hZ => HB1.out.a.keep (by rw [hZ]; exact Nat.le_refl _) fun _ _ => by rw [hZ])
  have HE1 := mkHid (HH.out.e.below HB1.out.bel)
  clear hco hb1 hk1
  have HX1 := mkHid ((HH.out.p.below HB1.out.bel).more HB1.out.bel.size)
  have HOU2 := mkHid (show 0 < m' → ∀ ad : Addr, a2 = some ad → ¬ F2 ad.block from fun h0 ad had hf => by
    obtain ⟨b, o, ha, hb, _⟩ := HH.out.p.at_ (j := 0) h0
    rw [had] at ha
    injection ha with ha
    subst ha
    have := HB0.out.lb _ hf
    simp only at this
    omega)
  go_wp2_with fail
  refine (rbcrash_any F2 g2 s a2 m' c2 xp w1 HB1.out.b HX1.out HOU2.out (by omega)).mono ?_
  rintro e w5 ⟨rfl, ht5, F4, hd5, hF5⟩
  have hk5 : w5.heap[wp.heap.size]? = W0.heap[wp.heap.size]? := (ht5.block _ (show wp.heap.size < w1.heap.size by omega) (fun hf => by have := HF2.out _ hf; omega)).trans HK1.out
  have HK5 := mkHid hk5
  have HB5 := mkHid (HB1.out.stepB ht5 hd5 hF5)
  have HX5 := mkHid ((HH.out.p.below HB5.out.bel).more HB5.out.bel.size)
  have hz5 := ht5.size
  have hlt5 : wp.heap.size < w5.heap.size := by omega
  obtain ⟨y1, y2, y3, y4, y5⟩ := HPC.out w5 hk5
  clear ht5 hd5 hF5 hk5 y0
  go_wp2_with (at_builtin; refine wpList_app _ rfl (.tmp 175) (.tmp 177) _ rfl w5.heap.size el_int (some ⟨w5.heap.size, 0, none⟩) 0 0 [] rfl (World.ownsRow_made w5 #[] 0 (Nat.le_refl _) (Nat.zero_le _) rfl) w5.heap.size a2 m' c2 _ rfl (HX5.out.1.alloc (Nat.le_refl _) _) (i64_cells _) (by unfold maxLen; omega) (by omega) (by simp) ?_; intro A' c' w6 hown hg hat; have HG6 := mkHid hg; have HO6 := mkHid hown; clear hown hg hat)
  have hg6 := HG6.out
  have HB6 := mkHid (HB5.out.below (((Below.refl _ _).alloc (Nat.le_refl _) _).grown hg6 (by simp) (fun k hk => by simp [Value.ownBlock] at hk; omega)))
  have ho := HO6.out
  simp only [Nat.zero_add, List.nil_append] at ho ⊢
  have HO6' := mkHid ho
  have hcap := own_cap ho
  have hcm : c' ≤ 9223372036854775807 := by have := hcap.2; unfold maxLen at this; omega
  clear ho hg6
  refine (bcrash_any F1 g1 s A' m' c' xp w6 HB6.out.a ⟨SL.of_own HO6'.out, HH.out.p.2⟩ (PK.of_own HO6'.out HB5.out.a.lt) ⟨hcap.1, hcm⟩).mono ?_
  rintro e w7 ⟨rfl, ht7, F3, hd7, hF7⟩
  have HB7 := mkHid (HB6.out.stepA ht7 hd7 hF7)
  clear ht7 hd7 hF7 hcap
  go_wp2_with fail
  go_ret
  exact ⟨rfl, F3, F4, _, HB7.out, inv_crashed HH.out.v xp⟩

/-- The document's bank is armed. -/
theorem RBO.arm {w : World} {F : Nat → Prop} {g : Nat} {s : Bst} {k M : Int} (h : RBO w F g s) (hk : I64 k) (hM : (if 0 ≤ k then k else -1) = M) :
    (∃ A n c, w.heap[g]? = some (.cells (rbankC A n c s) 44 (0, 0))) ∧ Turn F w (w.setCell ⟨g, 1, none⟩ (.int .i64 M)) ∧ RBO (w.setCell ⟨g, 1, none⟩ (.int .i64 M)) F g { s with armed := decide (0 ≤ k), left := k } := by
  obtain ⟨A, n, c, ps, Fs, h⟩ := h
  have hb := h.blk
  have hk' : ∀ b, b ≠ g → (w.setCell ⟨g, 1, none⟩ (.int .i64 M)).heap[b]? = w.heap[b]? := fun b hb => heap_setCell_other _ _ _ _ hb
  have hz : (w.setCell ⟨g, 1, none⟩ (.int .i64 M)).heap.size = w.heap.size := by simp [World.setCell]
  refine ⟨⟨A, n, c, hb⟩, turn_only h.fg hk' ⟨rfl, rfl, rfl, hz⟩, A, n, c, ps, Fs, h.fields rfl ⟨fun e => of_decide_eq_true e, hk⟩ ?_ hk' hz⟩
  have h1 := set_at w g 1 (.int .i64 M) hb
  rw [show rbankC A n c { s with armed := decide (0 ≤ k), left := k } = #[.slice A n c, .int .i64 M, .bool s.down, .int .i64 s.done] by
    rw [← hM]
    by_cases h0 : 0 ≤ k
    · simp [rbankC, Bst.rleft, h0]
    · simp [rbankC, Bst.rleft, h0]]
  exact h1

set_option maxRecDepth 20000 in
set_option maxHeartbeats 4000000 in
theorem step4_arm0 (F1 F2 : Nat → Prop) (g1 g2 q : Nat) (s : Bst) (xi xs xn : Int) (a1 : Option Addr) (m c1 : Nat) (xd : List Int) (a2 : Option Addr) (m' c2 : Nat) (xp : List Int) (w wp : World) (h0 : 0 ≤ xn) (h : SI w wp F1 F2 g1 g2 q s xi xs xn a1 m xd a2 m' c2 xp) :
    Calls Tryd.prog 13 #[.pointer (some ⟨g1, 0, none⟩), .pointer (some ⟨g2, 0, none⟩), .agg #[.int .i64 7, .int .i64 xi, .int .i64 xs, .int .i64 xn, .slice a1 m c1, .slice a2 m' c2]] wp (Stepped4 w g1 g2 (q + 1)) := by
  have HH := mkHid h
  obtain ⟨W0, hW0⟩ : ∃ W0, wp.alloc (.cells #[.int .i64 7, .int .i64 xi, .int .i64 xs, .int .i64 xn, .slice a1 m c1, .slice a2 m' c2] 39) = W0 := ⟨_, rfl⟩
  have HB0 := mkHid (show BB w W0 F1 F2 g1 g2 s s by rw [← hW0]; exact h.b.below ((Below.refl _ _).alloc (Nat.le_refl _) _))
  have hs0 : W0.heap.size = wp.heap.size + 1 := by rw [← hW0]; simp
  have hbl : W0.heap[wp.heap.size]? = some (.cells #[.int .i64 7, .int .i64 xi, .int .i64 xs, .int .i64 xn, .slice a1 m c1, .slice a2 m' c2] 39 (0, 0)) := by rw [← hW0]; exact heap_alloc_new _ _
  have HPC := mkHid (show ∀ Z : World, Z.heap[wp.heap.size]? = W0.heap[wp.heap.size]? → Z.cell? ⟨wp.heap.size, 1, none⟩ = some (.int .i64 xi) ∧ Z.cell? ⟨wp.heap.size, 2, none⟩ = some (.int .i64 xs) ∧ Z.cell? ⟨wp.heap.size, 3, none⟩ = some (.int .i64 xn) ∧ Z.cell? ⟨wp.heap.size, 4, none⟩ = some (.slice a1 m c1) ∧ Z.cell? ⟨wp.heap.size, 5, none⟩ = some (.slice a2 m' c2) from fun Z hZ => ⟨cell_of_row Z _ 1 _ _ _ (hZ.trans hbl), cell_of_row Z _ 2 _ _ _ (hZ.trans hbl), cell_of_row Z _ 3 _ _ _ (hZ.trans hbl), cell_of_row Z _ 4 _ _ _ (hZ.trans hbl), cell_of_row Z _ 5 _ _ _ (hZ.trans hbl)⟩)
  have HF1 := mkHid h.b.a.lt
  have HF2 := mkHid h.b.b.lt
  have hm := h.m
  have hm' := h.m'
  have hc1' := h.c.1
  have hc2' := h.c.2
  have HK0 := mkHid (show ∀ Z : World, Z.heap[wp.heap.size]? = W0.heap[wp.heap.size]? → Z.cell? ⟨wp.heap.size, 0, none⟩ = some (.int .i64 7) from fun Z hZ => cell_of_row Z _ 0 _ _ _ (hZ.trans hbl))
  obtain ⟨y1, y2, y3, y4, y5⟩ := HPC.out W0 rfl
  have HX0 := mkHid ((h.x.below HB0.out.bel).more HB0.out.bel.size)
  clear h hbl
  go_enter Tryd.func13, Tryd.ntmps13
  go_wp2_with fail
  clear hW0 y1 y2 y3 y4 y5
  refine (copy_any a1 m c1 xd W0 HX0.out (by omega)).mono ?_
  rintro e w1 ⟨CB, cb, rfl, hco, hb1⟩
  rw [HX0.out.len] at hco ⊢
  have hk1 : w1.heap[wp.heap.size]? = W0.heap[wp.heap.size]? := hb1.block _ (by omega)
  have gk1 := HPC.out w1 hk1
  obtain ⟨y1, y2, y3, y4, y5⟩ := gk1
  have gk1 := HPC.out w1 hk1
  have y0 := HK0.out w1 hk1
  have HK1 := mkHid hk1
  have HCO := mkHid hco
  have HCB := mkHid (show BS w1 w1.heap.size CB m xd from ⟨SL.of_own hco, HX0.out.2⟩)
  have HB1 := mkHid (HB0.out.below hb1)
  have hs1 := hb1.size
  have HBA := mkHid (show ∀ Z : World, Z.heap = w1.heap → BO Z F1 g1 s from fun Z hZ => HB1.out.a.keep (by rw [hZ]; exact Nat.le_refl _) fun _ _ => by rw [hZ])
  have HE1 := mkHid (HH.out.e.below HB1.out.bel)
  clear hco hb1 hk1
  have hlt : ¬ xn < -1 := by omega
  have hlt2 : ¬ xn ≤ -1 := by omega
  obtain ⟨⟨A, n, c, hbk⟩, ht5, hd5⟩ := HB1.out.b.arm (k := xn) (M := xn) HH.out.n (by rw [if_pos (by omega)])
  have c1 := cell_of_row w1 g2 1 _ _ _ hbk
  have f1 := frozen_of_row w1 g2 1 _ _ hbk
  simp at c1
  have HB5 := mkHid (HB1.out.stepB ht5 hd5 fun b hb => .inl hb)
  obtain ⟨w5, hw5⟩ : ∃ w5, w1.setCell ⟨g2, 1, none⟩ (.int .i64 xn) = w5 := ⟨_, rfl⟩
  rw [hw5] at HB5 ht5
  have hk5 : w5.heap[wp.heap.size]? = W0.heap[wp.heap.size]? := (ht5.block _ (show wp.heap.size < w1.heap.size by omega) (fun hf => by have := HF2.out _ hf; omega)).trans HK1.out
  have gk5 := HPC.out w5 hk5
  clear hbk ht5 hd5 hk5
  go_wp2_with fail
  clear hw5 y1 y2 y3 y4 y5
  obtain ⟨y1, y2, y3, y4, y5⟩ := gk5
  go_wp2_with fail
  refine (arm_any F1 g1 s xn w5 HB5.out.a HH.out.n).mono ?_
  rintro e w6 ⟨rfl, ht6, hd6⟩
  have HB6 := mkHid (HB5.out.stepA ht6 hd6 fun b hb => .inl hb)
  clear ht6 hd6
  go_wp2_with fail
  go_ret
  exact ⟨rfl, F1, F2, _, HB6.out, inv_armed HH.out.v xn⟩

set_option maxRecDepth 20000 in
set_option maxHeartbeats 4000000 in
theorem step4_arm1 (F1 F2 : Nat → Prop) (g1 g2 q : Nat) (s : Bst) (xi xs xn : Int) (a1 : Option Addr) (m c1 : Nat) (xd : List Int) (a2 : Option Addr) (m' c2 : Nat) (xp : List Int) (w wp : World) (h0 : xn < 0) (h : SI w wp F1 F2 g1 g2 q s xi xs xn a1 m xd a2 m' c2 xp) :
    Calls Tryd.prog 13 #[.pointer (some ⟨g1, 0, none⟩), .pointer (some ⟨g2, 0, none⟩), .agg #[.int .i64 7, .int .i64 xi, .int .i64 xs, .int .i64 xn, .slice a1 m c1, .slice a2 m' c2]] wp (Stepped4 w g1 g2 (q + 1)) := by
  have HH := mkHid h
  obtain ⟨W0, hW0⟩ : ∃ W0, wp.alloc (.cells #[.int .i64 7, .int .i64 xi, .int .i64 xs, .int .i64 xn, .slice a1 m c1, .slice a2 m' c2] 39) = W0 := ⟨_, rfl⟩
  have HB0 := mkHid (show BB w W0 F1 F2 g1 g2 s s by rw [← hW0]; exact h.b.below ((Below.refl _ _).alloc (Nat.le_refl _) _))
  have hs0 : W0.heap.size = wp.heap.size + 1 := by rw [← hW0]; simp
  have hbl : W0.heap[wp.heap.size]? = some (.cells #[.int .i64 7, .int .i64 xi, .int .i64 xs, .int .i64 xn, .slice a1 m c1, .slice a2 m' c2] 39 (0, 0)) := by rw [← hW0]; exact heap_alloc_new _ _
  have HPC := mkHid (show ∀ Z : World, Z.heap[wp.heap.size]? = W0.heap[wp.heap.size]? → Z.cell? ⟨wp.heap.size, 1, none⟩ = some (.int .i64 xi) ∧ Z.cell? ⟨wp.heap.size, 2, none⟩ = some (.int .i64 xs) ∧ Z.cell? ⟨wp.heap.size, 3, none⟩ = some (.int .i64 xn) ∧ Z.cell? ⟨wp.heap.size, 4, none⟩ = some (.slice a1 m c1) ∧ Z.cell? ⟨wp.heap.size, 5, none⟩ = some (.slice a2 m' c2) from fun Z hZ => ⟨cell_of_row Z _ 1 _ _ _ (hZ.trans hbl), cell_of_row Z _ 2 _ _ _ (hZ.trans hbl), cell_of_row Z _ 3 _ _ _ (hZ.trans hbl), cell_of_row Z _ 4 _ _ _ (hZ.trans hbl), cell_of_row Z _ 5 _ _ _ (hZ.trans hbl)⟩)
  have HF1 := mkHid h.b.a.lt
  have HF2 := mkHid h.b.b.lt
  have hm := h.m
  have hm' := h.m'
  have hc1' := h.c.1
  have hc2' := h.c.2
  have HK0 := mkHid (show ∀ Z : World, Z.heap[wp.heap.size]? = W0.heap[wp.heap.size]? → Z.cell? ⟨wp.heap.size, 0, none⟩ = some (.int .i64 7) from fun Z hZ => cell_of_row Z _ 0 _ _ _ (hZ.trans hbl))
  obtain ⟨y1, y2, y3, y4, y5⟩ := HPC.out W0 rfl
  have HX0 := mkHid ((h.x.below HB0.out.bel).more HB0.out.bel.size)
  clear h hbl
  go_enter Tryd.func13, Tryd.ntmps13
  go_wp2_with fail
  clear hW0 y1 y2 y3 y4 y5
  refine (copy_any a1 m c1 xd W0 HX0.out (by omega)).mono ?_
  rintro e w1 ⟨CB, cb, rfl, hco, hb1⟩
  rw [HX0.out.len] at hco ⊢
  have hk1 : w1.heap[wp.heap.size]? = W0.heap[wp.heap.size]? := hb1.block _ (by omega)
  have gk1 := HPC.out w1 hk1
  obtain ⟨y1, y2, y3, y4, y5⟩ := gk1
  have gk1 := HPC.out w1 hk1
  have y0 := HK0.out w1 hk1
  have HK1 := mkHid hk1
  have HCO := mkHid hco
  have HCB := mkHid (show BS w1 w1.heap.size CB m xd from ⟨SL.of_own hco, HX0.out.2⟩)
  have HB1 := mkHid (HB0.out.below hb1)
  have hs1 := hb1.size
  have HBA := mkHid (show ∀ Z : World, Z.heap = w1.heap → BO Z F1 g1 s from fun Z hZ => HB1.out.a.keep (by rw [hZ]; exact Nat.le_refl _) fun _ _ => by rw [hZ])
  have HE1 := mkHid (HH.out.e.below HB1.out.bel)
  clear hco hb1 hk1
  have hm1 : (if xn < -1 then (-1 : Int) else xn) = -1 := by split <;> omega
  obtain ⟨⟨A, n, c, hbk⟩, ht5, hd5⟩ := HB1.out.b.arm (k := xn) (M := (-1)) HH.out.n (by rw [if_neg (by omega)])
  have c1 := cell_of_row w1 g2 1 _ _ _ hbk
  have f1 := frozen_of_row w1 g2 1 _ _ hbk
  simp at c1
  have HB5 := mkHid (HB1.out.stepB ht5 hd5 fun b hb => .inl hb)
  obtain ⟨w5, hw5⟩ : ∃ w5, w1.setCell ⟨g2, 1, none⟩ (.int .i64 (-1)) = w5 := ⟨_, rfl⟩
  rw [hw5] at HB5 ht5
  have hk5 : w5.heap[wp.heap.size]? = W0.heap[wp.heap.size]? := (ht5.block _ (show wp.heap.size < w1.heap.size by omega) (fun hf => by have := HF2.out _ hf; omega)).trans HK1.out
  have gk5 := HPC.out w5 hk5
  clear hbk ht5 hd5 hk5
  go_wp2_with fail
  clear hw5 y1 y2 y3 y4 y5
  obtain ⟨y1, y2, y3, y4, y5⟩ := gk5
  go_wp2_with fail
  refine (arm_any F1 g1 s xn w5 HB5.out.a HH.out.n).mono ?_
  rintro e w6 ⟨rfl, ht6, hd6⟩
  have HB6 := mkHid (HB5.out.stepA ht6 hd6 fun b hb => .inl hb)
  clear ht6 hd6
  go_wp2_with fail
  go_ret
  exact ⟨rfl, F1, F2, _, HB6.out, inv_armed HH.out.v xn⟩

set_option maxRecDepth 20000 in
set_option maxHeartbeats 4000000 in
theorem step4_other (F1 F2 : Nat → Prop) (g1 g2 q : Nat) (s : Bst) (xi xs xn : Int) (a1 : Option Addr) (m c1 : Nat) (xd : List Int) (a2 : Option Addr) (m' c2 : Nat) (xp : List Int) (w wp : World) (xk : Int) (h : SI w wp F1 F2 g1 g2 q s xi xs xn a1 m xd a2 m' c2 xp) (h1 : (xk == 1) = false) (h2 : (xk == 2) = false) (h3 : (xk == 3) = false) (h4 : (xk == 4) = false) (h5 : (xk == 5) = false) (h6 : (xk == 6) = false) (h7 : (xk == 7) = false) (h8 : (xk == 8) = false) (h9 : (xk == 9) = false) (h10 : (xk == 10) = false) :
    Calls Tryd.prog 13 #[.pointer (some ⟨g1, 0, none⟩), .pointer (some ⟨g2, 0, none⟩), .agg #[.int .i64 xk, .int .i64 xi, .int .i64 xs, .int .i64 xn, .slice a1 m c1, .slice a2 m' c2]] wp (Stepped4 w g1 g2 (q + 1)) := by
  have HH := mkHid h
  obtain ⟨W0, hW0⟩ : ∃ W0, wp.alloc (.cells #[.int .i64 xk, .int .i64 xi, .int .i64 xs, .int .i64 xn, .slice a1 m c1, .slice a2 m' c2] 39) = W0 := ⟨_, rfl⟩
  have HB0 := mkHid (show BB w W0 F1 F2 g1 g2 s s by rw [← hW0]; exact h.b.below ((Below.refl _ _).alloc (Nat.le_refl _) _))
  have hs0 : W0.heap.size = wp.heap.size + 1 := by rw [← hW0]; simp
  have hbl : W0.heap[wp.heap.size]? = some (.cells #[.int .i64 xk, .int .i64 xi, .int .i64 xs, .int .i64 xn, .slice a1 m c1, .slice a2 m' c2] 39 (0, 0)) := by rw [← hW0]; exact heap_alloc_new _ _
  have HPC := mkHid (show ∀ Z : World, Z.heap[wp.heap.size]? = W0.heap[wp.heap.size]? → Z.cell? ⟨wp.heap.size, 1, none⟩ = some (.int .i64 xi) ∧ Z.cell? ⟨wp.heap.size, 2, none⟩ = some (.int .i64 xs) ∧ Z.cell? ⟨wp.heap.size, 3, none⟩ = some (.int .i64 xn) ∧ Z.cell? ⟨wp.heap.size, 4, none⟩ = some (.slice a1 m c1) ∧ Z.cell? ⟨wp.heap.size, 5, none⟩ = some (.slice a2 m' c2) from fun Z hZ => ⟨cell_of_row Z _ 1 _ _ _ (hZ.trans hbl), cell_of_row Z _ 2 _ _ _ (hZ.trans hbl), cell_of_row Z _ 3 _ _ _ (hZ.trans hbl), cell_of_row Z _ 4 _ _ _ (hZ.trans hbl), cell_of_row Z _ 5 _ _ _ (hZ.trans hbl)⟩)
  have HF1 := mkHid h.b.a.lt
  have HF2 := mkHid h.b.b.lt
  have hm := h.m
  have hm' := h.m'
  have hc1' := h.c.1
  have hc2' := h.c.2
  have HK0 := mkHid (show ∀ Z : World, Z.heap[wp.heap.size]? = W0.heap[wp.heap.size]? → Z.cell? ⟨wp.heap.size, 0, none⟩ = some (.int .i64 xk) from fun Z hZ => cell_of_row Z _ 0 _ _ _ (hZ.trans hbl))
  obtain ⟨y1, y2, y3, y4, y5⟩ := HPC.out W0 rfl
  have HX0 := mkHid ((h.x.below HB0.out.bel).more HB0.out.bel.size)
  clear h hbl
  go_enter Tryd.func13, Tryd.ntmps13
  go_wp2_with fail
  clear hW0 y1 y2 y3 y4 y5
  refine (copy_any a1 m c1 xd W0 HX0.out (by omega)).mono ?_
  rintro e w1 ⟨CB, cb, rfl, hco, hb1⟩
  rw [HX0.out.len] at hco ⊢
  have hk1 : w1.heap[wp.heap.size]? = W0.heap[wp.heap.size]? := hb1.block _ (by omega)
  have gk1 := HPC.out w1 hk1
  obtain ⟨y1, y2, y3, y4, y5⟩ := gk1
  have gk1 := HPC.out w1 hk1
  have y0 := HK0.out w1 hk1
  have HK1 := mkHid hk1
  have HCO := mkHid hco
  have HCB := mkHid (show BS w1 w1.heap.size CB m xd from ⟨SL.of_own hco, HX0.out.2⟩)
  have HB1 := mkHid (HB0.out.below hb1)
  have hs1 := hb1.size
  have HBA := mkHid (show ∀ Z : World, Z.heap = w1.heap → BO Z F1 g1 s from fun Z hZ => HB1.out.a.keep (by rw [hZ]; exact Nat.le_refl _) fun _ _ => by rw [hZ])
  have HE1 := mkHid (HH.out.e.below HB1.out.bel)
  clear hco hb1 hk1
  go_wp2_with fail
  go_ret
  exact ⟨rfl, F1, F2, s, HB1.out, HH.out.v.more⟩

/-- One call of any kind. -/
theorem step4_any (F1 F2 : Nat → Prop) (g1 g2 q : Nat) (s : Bst) (xi xs xn : Int) (a1 : Option Addr) (m c1 : Nat) (xd : List Int) (a2 : Option Addr) (m' c2 : Nat) (xp : List Int) (w wp : World) (xk : Int) (h : SI w wp F1 F2 g1 g2 q s xi xs xn a1 m xd a2 m' c2 xp) :
    Calls Tryd.prog 13 #[.pointer (some ⟨g1, 0, none⟩), .pointer (some ⟨g2, 0, none⟩), .agg #[.int .i64 xk, .int .i64 xi, .int .i64 xs, .int .i64 xn, .slice a1 m c1, .slice a2 m' c2]] wp (Stepped4 w g1 g2 (q + 1)) := by
  by_cases h1 : xk = 1
  · subst h1; exact step4_add F1 F2 g1 g2 q s xi xs xn a1 m c1 xd a2 m' c2 xp w wp h
  by_cases h2 : xk = 2
  · subst h2; exact step4_grow F1 F2 g1 g2 q s xi xs xn a1 m c1 xd a2 m' c2 xp w wp h
  by_cases h3 : xk = 3
  · subst h3; exact step4_detach F1 F2 g1 g2 q s xi xs xn a1 m c1 xd a2 m' c2 xp w wp h
  by_cases h4 : xk = 4
  · subst h4
    refine (step4_read F1 F2 g1 g2 q s xi xs xn a1 m c1 xd a2 m' c2 xp w wp h).mono ?_
    rintro e w' ⟨rfl, hb⟩
    exact ⟨rfl, F1, F2, s, h.b.below hb, h.v.more⟩
  by_cases h5 : xk = 5
  · subst h5; exact step4_write F1 F2 g1 g2 q s xi xs xn a1 m c1 xd a2 m' c2 xp w wp h
  by_cases h6 : xk = 6
  · subst h6; exact step4_flush F1 F2 g1 g2 q s xi xs xn a1 m c1 xd a2 m' c2 xp w wp h
  by_cases h7 : xk = 7
  · subst h7
    by_cases h0 : 0 ≤ xn
    · exact step4_arm0 F1 F2 g1 g2 q s xi xs xn a1 m c1 xd a2 m' c2 xp w wp h0 h
    · exact step4_arm1 F1 F2 g1 g2 q s xi xs xn a1 m c1 xd a2 m' c2 xp w wp (by omega) h
  by_cases h8 : xk = 8
  · subst h8; exact step4_crash F1 F2 g1 g2 q s xi xs xn a1 m c1 xd a2 m' c2 xp w wp h
  by_cases h9 : xk = 9
  · subst h9; exact step4_bad F1 F2 g1 g2 q s xi xs xn a1 m c1 xd a2 m' c2 xp w wp h
  by_cases h10 : xk = 10
  · subst h10; exact step4_fill F1 F2 g1 g2 q s xi xs xn a1 m c1 xd a2 m' c2 xp w wp h
  exact step4_other F1 F2 g1 g2 q s xi xs xn a1 m c1 xd a2 m' c2 xp w wp xk h (by simpa using h1) (by simpa using h2) (by simpa using h3) (by simpa using h4) (by simpa using h5) (by simpa using h6) (by simpa using h7) (by simpa using h8) (by simpa using h9) (by simpa using h10)

end Go.Proofs.YtpoeneabhoajaaaDoor
