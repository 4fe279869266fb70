/- portagelaw04.step by contract: Grow, Detach, Bad, Fill, Write. -/
import Derived.Test.YtpoeneabhoajaaaDoorBpA
namespace Go.Proofs.YtpoeneabhoajaaaDoor
open Go.RowKit

/-- What a step is asked with. -/
structure SI (w wp : World) (F1 F2 : Nat → Prop) (g1 g2 q : Nat) (s : Bst) (xi xs xn : Int) (a1 : Option Addr) (m : Nat) (xd : List Int) (a2 : Option Addr) (m' c2 : Nat) (xp : List Int) : Prop where
  e : ErrT w
  b : BB w wp F1 F2 g1 g2 s s
  v : Inv q s
  q : q ≤ 2000
  i : I64 xi
  s : I64 xs
  n : I64 xn
  x : BS w w.heap.size a1 m xd
  m : m ≤ 1000
  p : IS w w.heap.size a2 m' xp
  c : m' ≤ c2 ∧ c2 ≤ 9223372036854775807
  m' : m' ≤ 300

set_option maxRecDepth 20000 in
set_option maxHeartbeats 4000000 in
theorem step4_grow (F1 F2 : Nat → Prop) (g1 g2 q : Nat) (s : Bst) (xi xs xn : Int) (a1 : Option Addr) (m c1 : Nat) (xd : List Int) (a2 : Option Addr) (m' c2 : Nat) (xp : List Int) (w wp : World) (h : SI w wp F1 F2 g1 g2 q s xi xs xn a1 m xd a2 m' c2 xp) :
    Calls Tryd.prog 13 #[.pointer (some ⟨g1, 0, none⟩), .pointer (some ⟨g2, 0, none⟩), .agg #[.int .i64 2, .int .i64 xi, .int .i64 xs, .int .i64 xn, .slice a1 m c1, .slice a2 m' c2]] wp (Stepped4 w g1 g2 (q + 1)) := by
  have HH := mkHid h
  obtain ⟨W0, hW0⟩ : ∃ W0, wp.alloc (.cells #[.int .i64 2, .int .i64 xi, .int .i64 xs, .int .i64 xn, .slice a1 m c1, .slice a2 m' c2] 39) = W0 := ⟨_, rfl⟩
  have HB0 := mkHid (show BB w W0 F1 F2 g1 g2 s s by rw [← hW0]; exact h.b.below ((Below.refl _ _).alloc (Nat.le_refl _) _))
  have hs0 : W0.heap.size = wp.heap.size + 1 := by rw [← hW0]; simp
  have hbl : W0.heap[wp.heap.size]? = some (.cells #[.int .i64 2, .int .i64 xi, .int .i64 xs, .int .i64 xn, .slice a1 m c1, .slice a2 m' c2] 39 (0, 0)) := by rw [← hW0]; exact heap_alloc_new _ _
  have HPC := mkHid (show ∀ Z : World, Z.heap[wp.heap.size]? = W0.heap[wp.heap.size]? → Z.cell? ⟨wp.heap.size, 1, none⟩ = some (.int .i64 xi) ∧ Z.cell? ⟨wp.heap.size, 2, none⟩ = some (.int .i64 xs) ∧ Z.cell? ⟨wp.heap.size, 3, none⟩ = some (.int .i64 xn) ∧ Z.cell? ⟨wp.heap.size, 4, none⟩ = some (.slice a1 m c1) ∧ Z.cell? ⟨wp.heap.size, 5, none⟩ = some (.slice a2 m' c2) from fun Z hZ => ⟨cell_of_row Z _ 1 _ _ _ (hZ.trans hbl), cell_of_row Z _ 2 _ _ _ (hZ.trans hbl), cell_of_row Z _ 3 _ _ _ (hZ.trans hbl), cell_of_row Z _ 4 _ _ _ (hZ.trans hbl), cell_of_row Z _ 5 _ _ _ (hZ.trans hbl)⟩)
  have HF1 := mkHid h.b.a.lt
  have HF2 := mkHid h.b.b.lt
  have hm := h.m
  have hm' := h.m'
  have hc1' := h.c.1
  have hc2' := h.c.2
  have HK0 := mkHid (show ∀ Z : World, Z.heap[wp.heap.size]? = W0.heap[wp.heap.size]? → Z.cell? ⟨wp.heap.size, 0, none⟩ = some (.int .i64 2) from fun Z hZ => cell_of_row Z _ 0 _ _ _ (hZ.trans hbl))
  obtain ⟨y1, y2, y3, y4, y5⟩ := HPC.out W0 rfl
  have HX0 := mkHid ((h.x.below HB0.out.bel).more HB0.out.bel.size)
  clear h hbl
  go_enter Tryd.func13, Tryd.ntmps13
  go_wp2_with fail
  clear hW0 y1 y2 y3 y4 y5
  refine (copy_any a1 m c1 xd W0 HX0.out (by omega)).mono ?_
  rintro e w1 ⟨CB, cb, rfl, hco, hb1⟩
  rw [HX0.out.len] at hco ⊢
  have hk1 : w1.heap[wp.heap.size]? = W0.heap[wp.heap.size]? := hb1.block _ (by omega)
  have gk1 := HPC.out w1 hk1
  obtain ⟨y1, y2, y3, y4, y5⟩ := gk1
  have gk1 := HPC.out w1 hk1
  have y0 := HK0.out w1 hk1
  have HK1 := mkHid hk1
  have HCO := mkHid hco
  have HCB := mkHid (show BS w1 w1.heap.size CB m xd from ⟨SL.of_own hco, HX0.out.2⟩)
  have HB1 := mkHid (HB0.out.below hb1)
  have hs1 := hb1.size
  have HBA := mkHid (show ∀ Z : World, Z.heap = w1.heap → BO Z F1 g1 s from fun Z hZ => HB1.out.a.keep (by rw [hZ]; exact Nat.le_refl _) fun _ _ => by rw [hZ])
  have HE1 := mkHid (HH.out.e.below HB1.out.bel)
  clear hco hb1 hk1
  go_wp2_with fail
  go_region_held3 (fun Z => Z.cell? ⟨wp.heap.size, 1, none⟩ = some (.int .i64 xi) ∧ Z.cell? ⟨wp.heap.size, 2, none⟩ = some (.int .i64 xs) ∧ Z.cell? ⟨wp.heap.size, 3, none⟩ = some (.int .i64 xn) ∧ Z.cell? ⟨wp.heap.size, 4, none⟩ = some (.slice a1 m c1) ∧ Z.cell? ⟨wp.heap.size, 5, none⟩ = some (.slice a2 m' c2)) (first | exact gk7 | exact gk6 | exact gk5 | exact gk1) (first
    | (go_at_call 8; (with_reducible refine (told_any v opGrow xi 0 (s.growE xi xn) w6 HE6.out HV6.out).mono ?_); rintro e w7 ⟨rfl, hb7⟩; have gk7 := HPC.out w7 ((hb7.block _ hz6).trans HK6.out); have HB7 := mkHid (HB6.out.below hb7); clear hb7)
    | (go_at_call 25; (with_reducible refine (rbgrow_any F2 g2 s xi xn w5 HB5.out.b HH.out.i HH.out.n).mono ?_); rintro e w6 ⟨rfl, ht6, F4, hd6, hF6⟩; have hk6 : w6.heap[wp.heap.size]? = W0.heap[wp.heap.size]? := (ht6.block _ hz5 (fun hf => by have := HF2.out _ hf; omega)).trans HK5.out; have gk6 := HPC.out w6 hk6; have HK6 := mkHid hk6; have hz6 : wp.heap.size < w6.heap.size := Nat.lt_of_lt_of_le hz5 ht6.size; have HB6 := mkHid (HB5.out.stepB ht6 hd6 hF6); have HV6 := mkHid (HV5.out.turn ht6 (fun b hb => by have := HF2.out _ hb; omega)); have HE6 := mkHid (HH.out.e.below HB6.out.bel); clear ht6 hd6 hF6 hk6)
    | (go_at_call 24; refine (bgrow_any F1 g1 s xi xn _ (HBA.out _ (by rfl)) HH.out.i HH.out.n).mono ?_; rintro e w5 ⟨v, rfl, hv5, ht5, F3, hd5, hF5⟩; have ht5 : Turn F1 w1 w5 := Turn.mk ht5.os ht5.tape ht5.output ht5.size ht5.block; have hk5 : w5.heap[wp.heap.size]? = W0.heap[wp.heap.size]? := (ht5.block _ (show wp.heap.size < w1.heap.size by omega) (fun hf => by have := HF1.out _ hf; omega)).trans HK1.out; have gk5 := HPC.out w5 hk5; have HK5 := mkHid hk5; have hz5 : wp.heap.size < w5.heap.size := Nat.lt_of_lt_of_le (show wp.heap.size < w1.heap.size by omega) ht5.size; have HB5 := mkHid (HB1.out.stepA ht5 hd5 hF5); have HV5 := mkHid (EV.base hv5 (Nat.le_refl w1.heap.size)); clear ht5 hd5 hF5 hk5 hv5))
  go_wp2_with fail
  go_ret
  exact ⟨rfl, F3, F4, _, HB7.out.below (by first | exact Below.refl _ _ | exact (Below.refl _ _).drew | exact (Below.refl _ _).drew.drew), inv_grown HH.out.v xi xn⟩

set_option maxRecDepth 20000 in
set_option maxHeartbeats 4000000 in
theorem step4_detach (F1 F2 : Nat → Prop) (g1 g2 q : Nat) (s : Bst) (xi xs xn : Int) (a1 : Option Addr) (m c1 : Nat) (xd : List Int) (a2 : Option Addr) (m' c2 : Nat) (xp : List Int) (w wp : World) (h : SI w wp F1 F2 g1 g2 q s xi xs xn a1 m xd a2 m' c2 xp) :
    Calls Tryd.prog 13 #[.pointer (some ⟨g1, 0, none⟩), .pointer (some ⟨g2, 0, none⟩), .agg #[.int .i64 3, .int .i64 xi, .int .i64 xs, .int .i64 xn, .slice a1 m c1, .slice a2 m' c2]] wp (Stepped4 w g1 g2 (q + 1)) := by
  have HH := mkHid h
  obtain ⟨W0, hW0⟩ : ∃ W0, wp.alloc (.cells #[.int .i64 3, .int .i64 xi, .int .i64 xs, .int .i64 xn, .slice a1 m c1, .slice a2 m' c2] 39) = W0 := ⟨_, rfl⟩
  have HB0 := mkHid (show BB w W0 F1 F2 g1 g2 s s by rw [← hW0]; exact h.b.below ((Below.refl _ _).alloc (Nat.le_refl _) _))
  have hs0 : W0.heap.size = wp.heap.size + 1 := by rw [← hW0]; simp
  have hbl : W0.heap[wp.heap.size]? = some (.cells #[.int .i64 3, .int .i64 xi, .int .i64 xs, .int .i64 xn, .slice a1 m c1, .slice a2 m' c2] 39 (0, 0)) := by rw [← hW0]; exact heap_alloc_new _ _
  have HPC := mkHid (show ∀ Z : World, Z.heap[wp.heap.size]? = W0.heap[wp.heap.size]? → Z.cell? ⟨wp.heap.size, 1, none⟩ = some (.int .i64 xi) ∧ Z.cell? ⟨wp.heap.size, 2, none⟩ = some (.int .i64 xs) ∧ Z.cell? ⟨wp.heap.size, 3, none⟩ = some (.int .i64 xn) ∧ Z.cell? ⟨wp.heap.size, 4, none⟩ = some (.slice a1 m c1) ∧ Z.cell? ⟨wp.heap.size, 5, none⟩ = some (.slice a2 m' c2) from fun Z hZ => ⟨cell_of_row Z _ 1 _ _ _ (hZ.trans hbl), cell_of_row Z _ 2 _ _ _ (hZ.trans hbl), cell_of_row Z _ 3 _ _ _ (hZ.trans hbl), cell_of_row Z _ 4 _ _ _ (hZ.trans hbl), cell_of_row Z _ 5 _ _ _ (hZ.trans hbl)⟩)
  have HF1 := mkHid h.b.a.lt
  have HF2 := mkHid h.b.b.lt
  have hm := h.m
  have hm' := h.m'
  have hc1' := h.c.1
  have hc2' := h.c.2
  have HK0 := mkHid (show ∀ Z : World, Z.heap[wp.heap.size]? = W0.heap[wp.heap.size]? → Z.cell? ⟨wp.heap.size, 0, none⟩ = some (.int .i64 3) from fun Z hZ => cell_of_row Z _ 0 _ _ _ (hZ.trans hbl))
  obtain ⟨y1, y2, y3, y4, y5⟩ := HPC.out W0 rfl
  have HX0 := mkHid ((h.x.below HB0.out.bel).more HB0.out.bel.size)
  clear h hbl
  go_enter Tryd.func13, Tryd.ntmps13
  go_wp2_with fail
  clear hW0 y1 y2 y3 y4 y5
  refine (copy_any a1 m c1 xd W0 HX0.out (by omega)).mono ?_
  rintro e w1 ⟨CB, cb, rfl, hco, hb1⟩
  rw [HX0.out.len] at hco ⊢
  have hk1 : w1.heap[wp.heap.size]? = W0.heap[wp.heap.size]? := hb1.block _ (by omega)
  have gk1 := HPC.out w1 hk1
  obtain ⟨y1, y2, y3, y4, y5⟩ := gk1
  have gk1 := HPC.out w1 hk1
  have y0 := HK0.out w1 hk1
  have HK1 := mkHid hk1
  have HCO := mkHid hco
  have HCB := mkHid (show BS w1 w1.heap.size CB m xd from ⟨SL.of_own hco, HX0.out.2⟩)
  have HB1 := mkHid (HB0.out.below hb1)
  have hs1 := hb1.size
  have HBA := mkHid (show ∀ Z : World, Z.heap = w1.heap → BO Z F1 g1 s from fun Z hZ => HB1.out.a.keep (by rw [hZ]; exact Nat.le_refl _) fun _ _ => by rw [hZ])
  have HE1 := mkHid (HH.out.e.below HB1.out.bel)
  clear hco hb1 hk1
  go_wp2_with fail
  go_region_held3 (fun Z => Z.cell? ⟨wp.heap.size, 1, none⟩ = some (.int .i64 xi) ∧ Z.cell? ⟨wp.heap.size, 2, none⟩ = some (.int .i64 xs) ∧ Z.cell? ⟨wp.heap.size, 3, none⟩ = some (.int .i64 xn) ∧ Z.cell? ⟨wp.heap.size, 4, none⟩ = some (.slice a1 m c1) ∧ Z.cell? ⟨wp.heap.size, 5, none⟩ = some (.slice a2 m' c2)) (first | exact gk7 | exact gk6 | exact gk5 | exact gk1) (first
    | (go_at_call 8; (with_reducible refine (told_any v opDetach xi 0 (s.liveE xi) w6 HE6.out HV6.out).mono ?_); rintro e w7 ⟨rfl, hb7⟩; have gk7 := HPC.out w7 ((hb7.block _ hz6).trans HK6.out); have HB7 := mkHid (HB6.out.below hb7); clear hb7)
    | (go_at_call 26; (with_reducible refine (rdetach_any F2 g2 s xi w5 HB5.out.b HH.out.i).mono ?_); rintro e w6 ⟨rfl, ht6, F4, hd6, hF6⟩; have hk6 : w6.heap[wp.heap.size]? = W0.heap[wp.heap.size]? := (ht6.block _ hz5 (fun hf => by have := HF2.out _ hf; omega)).trans HK5.out; have gk6 := HPC.out w6 hk6; have HK6 := mkHid hk6; have hz6 : wp.heap.size < w6.heap.size := Nat.lt_of_lt_of_le hz5 ht6.size; have HB6 := mkHid (HB5.out.stepB ht6 hd6 hF6); have HV6 := mkHid (HV5.out.turn ht6 (fun b hb => by have := HF2.out _ hb; omega)); have HE6 := mkHid (HH.out.e.below HB6.out.bel); clear ht6 hd6 hF6 hk6)
    | (go_at_call 9; refine (detach_any F1 g1 s xi _ (HBA.out _ (by rfl)) HH.out.i).mono ?_; rintro e w5 ⟨v, rfl, hv5, ht5, F3, hd5, hF5⟩; have ht5 : Turn F1 w1 w5 := Turn.mk ht5.os ht5.tape ht5.output ht5.size ht5.block; have hk5 : w5.heap[wp.heap.size]? = W0.heap[wp.heap.size]? := (ht5.block _ (show wp.heap.size < w1.heap.size by omega) (fun hf => by have := HF1.out _ hf; omega)).trans HK1.out; have gk5 := HPC.out w5 hk5; have HK5 := mkHid hk5; have hz5 : wp.heap.size < w5.heap.size := Nat.lt_of_lt_of_le (show wp.heap.size < w1.heap.size by omega) ht5.size; have HB5 := mkHid (HB1.out.stepA ht5 hd5 hF5); have HV5 := mkHid (EV.base hv5 (Nat.le_refl w1.heap.size)); clear ht5 hd5 hF5 hk5 hv5))
  go_wp2_with fail
  go_ret
  exact ⟨rfl, F3, F4, _, HB7.out.below (by first | exact Below.refl _ _ | exact (Below.refl _ _).drew | exact (Below.refl _ _).drew.drew), inv_detached HH.out.v xi⟩

set_option maxRecDepth 20000 in
set_option maxHeartbeats 4000000 in
theorem step4_bad (F1 F2 : Nat → Prop) (g1 g2 q : Nat) (s : Bst) (xi xs xn : Int) (a1 : Option Addr) (m c1 : Nat) (xd : List Int) (a2 : Option Addr) (m' c2 : Nat) (xp : List Int) (w wp : World) (h : SI w wp F1 F2 g1 g2 q s xi xs xn a1 m xd a2 m' c2 xp) :
    Calls Tryd.prog 13 #[.pointer (some ⟨g1, 0, none⟩), .pointer (some ⟨g2, 0, none⟩), .agg #[.int .i64 9, .int .i64 xi, .int .i64 xs, .int .i64 xn, .slice a1 m c1, .slice a2 m' c2]] wp (Stepped4 w g1 g2 (q + 1)) := by
  have HH := mkHid h
  obtain ⟨W0, hW0⟩ : ∃ W0, wp.alloc (.cells #[.int .i64 9, .int .i64 xi, .int .i64 xs, .int .i64 xn, .slice a1 m c1, .slice a2 m' c2] 39) = W0 := ⟨_, rfl⟩
  have HB0 := mkHid (show BB w W0 F1 F2 g1 g2 s s by rw [← hW0]; exact h.b.below ((Below.refl _ _).alloc (Nat.le_refl _) _))
  have hs0 : W0.heap.size = wp.heap.size + 1 := by rw [← hW0]; simp
  have hbl : W0.heap[wp.heap.size]? = some (.cells #[.int .i64 9, .int .i64 xi, .int .i64 xs, .int .i64 xn, .slice a1 m c1, .slice a2 m' c2] 39 (0, 0)) := by rw [← hW0]; exact heap_alloc_new _ _
  have HPC := mkHid (show ∀ Z : World, Z.heap[wp.heap.size]? = W0.heap[wp.heap.size]? → Z.cell? ⟨wp.heap.size, 1, none⟩ = some (.int .i64 xi) ∧ Z.cell? ⟨wp.heap.size, 2, none⟩ = some (.int .i64 xs) ∧ Z.cell? ⟨wp.heap.size, 3, none⟩ = some (.int .i64 xn) ∧ Z.cell? ⟨wp.heap.size, 4, none⟩ = some (.slice a1 m c1) ∧ Z.cell? ⟨wp.heap.size, 5, none⟩ = some (.slice a2 m' c2) from fun Z hZ => ⟨cell_of_row Z _ 1 _ _ _ (hZ.trans hbl), cell_of_row Z _ 2 _ _ _ (hZ.trans hbl), cell_of_row Z _ 3 _ _ _ (hZ.trans hbl), cell_of_row Z _ 4 _ _ _ (hZ.trans hbl), cell_of_row Z _ 5 _ _ _ (hZ.trans hbl)⟩)
  have HF1 := mkHid h.b.a.lt
  have HF2 := mkHid h.b.b.lt
  have hm := h.m
  have hm' := h.m'
  have hc1' := h.c.1
  have hc2' := h.c.2
  have HK0 := mkHid (show ∀ Z : World, Z.heap[wp.heap.size]? = W0.heap[wp.heap.size]? → Z.cell? ⟨wp.heap.size, 0, none⟩ = some (.int .i64 9) from fun Z hZ => cell_of_row Z _ 0 _ _ _ (hZ.trans hbl))
  obtain ⟨y1, y2, y3, y4, y5⟩ := HPC.out W0 rfl
  have HX0 := mkHid ((h.x.below HB0.out.bel).more HB0.out.bel.size)
  clear h hbl
  go_enter Tryd.func13, Tryd.ntmps13
  go_wp2_with fail
  clear hW0 y1 y2 y3 y4 y5
  refine (copy_any a1 m c1 xd W0 HX0.out (by omega)).mono ?_
  rintro e w1 ⟨CB, cb, rfl, hco, hb1⟩
  rw [HX0.out.len] at hco ⊢
  have hk1 : w1.heap[wp.heap.size]? = W0.heap[wp.heap.size]? := hb1.block _ (by omega)
  have gk1 := HPC.out w1 hk1
  obtain ⟨y1, y2, y3, y4, y5⟩ := gk1
  have gk1 := HPC.out w1 hk1
  have y0 := HK0.out w1 hk1
  have HK1 := mkHid hk1
  have HCO := mkHid hco
  have HCB := mkHid (show BS w1 w1.heap.size CB m xd from ⟨SL.of_own hco, HX0.out.2⟩)
  have HB1 := mkHid (HB0.out.below hb1)
  have hs1 := hb1.size
  have HBA := mkHid (show ∀ Z : World, Z.heap = w1.heap → BO Z F1 g1 s from fun Z hZ => HB1.out.a.keep (by rw [hZ]; exact Nat.le_refl _) fun _ _ => by rw [hZ])
  have HE1 := mkHid (HH.out.e.below HB1.out.bel)
  clear hco hb1 hk1
  obtain ⟨on, hon⟩ : ∃ b, decide (0 < xn) = b := ⟨_, rfl⟩
  go_wp2_with fail
  go_region_held3 (fun Z => Z.cell? ⟨wp.heap.size, 1, none⟩ = some (.int .i64 xi) ∧ Z.cell? ⟨wp.heap.size, 2, none⟩ = some (.int .i64 xs) ∧ Z.cell? ⟨wp.heap.size, 3, none⟩ = some (.int .i64 xn) ∧ Z.cell? ⟨wp.heap.size, 4, none⟩ = some (.slice a1 m c1) ∧ Z.cell? ⟨wp.heap.size, 5, none⟩ = some (.slice a2 m' c2)) (first | exact gk7 | exact gk6 | exact gk5 | exact gk1) (first
    | (go_at_call 8; (with_reducible refine (told_any v opBad xi xs (s.badE xi xs) w6 HE6.out HV6.out).mono ?_); rintro e w7 ⟨rfl, hb7⟩; have gk7 := HPC.out w7 ((hb7.block _ hz6).trans HK6.out); have HB7 := mkHid (HB6.out.below hb7); clear hb7)
    | (go_at_call 38; (with_reducible refine (rbbad_any F2 g2 s xi xs on w5 HB5.out.b HH.out.i HH.out.s).mono ?_); rintro e w6 ⟨rfl, ht6, F4, hd6, hF6⟩; have hk6 : w6.heap[wp.heap.size]? = W0.heap[wp.heap.size]? := (ht6.block _ hz5 (fun hf => by have := HF2.out _ hf; omega)).trans HK5.out; have gk6 := HPC.out w6 hk6; have HK6 := mkHid hk6; have hz6 : wp.heap.size < w6.heap.size := Nat.lt_of_lt_of_le hz5 ht6.size; have HB6 := mkHid (HB5.out.stepB ht6 hd6 hF6); have HV6 := mkHid (HV5.out.turn ht6 (fun b hb => by have := HF2.out _ hb; omega)); have HE6 := mkHid (HH.out.e.below HB6.out.bel); clear ht6 hd6 hF6 hk6)
    | (go_at_call 37; refine (bbad_any F1 g1 s xi xs on _ (HBA.out _ (by rfl)) HH.out.i HH.out.s).mono ?_; rintro e w5 ⟨v, rfl, hv5, ht5, F3, hd5, hF5⟩; have ht5 : Turn F1 w1 w5 := Turn.mk ht5.os ht5.tape ht5.output ht5.size ht5.block; have hk5 : w5.heap[wp.heap.size]? = W0.heap[wp.heap.size]? := (ht5.block _ (show wp.heap.size < w1.heap.size by omega) (fun hf => by have := HF1.out _ hf; omega)).trans HK1.out; have gk5 := HPC.out w5 hk5; have HK5 := mkHid hk5; have hz5 : wp.heap.size < w5.heap.size := Nat.lt_of_lt_of_le (show wp.heap.size < w1.heap.size by omega) ht5.size; have HB5 := mkHid (HB1.out.stepA ht5 hd5 hF5); have HV5 := mkHid (EV.base hv5 (Nat.le_refl w1.heap.size)); clear ht5 hd5 hF5 hk5 hv5))
  go_wp2_with fail
  go_ret
  exact ⟨rfl, F3, F4, _, HB7.out.below (by first | exact Below.refl _ _ | exact (Below.refl _ _).drew | exact (Below.refl _ _).drew.drew), inv_badded HH.out.v xi xs on⟩

set_option maxRecDepth 20000 in
set_option maxHeartbeats 4000000 in
theorem step4_fill (F1 F2 : Nat → Prop) (g1 g2 q : Nat) (s : Bst) (xi xs xn : Int) (a1 : Option Addr) (m c1 : Nat) (xd : List Int) (a2 : Option Addr) (m' c2 : Nat) (xp : List Int) (w wp : World) (h : SI w wp F1 F2 g1 g2 q s xi xs xn a1 m xd a2 m' c2 xp) :
    Calls Tryd.prog 13 #[.pointer (some ⟨g1, 0, none⟩), .pointer (some ⟨g2, 0, none⟩), .agg #[.int .i64 10, .int .i64 xi, .int .i64 xs, .int .i64 xn, .slice a1 m c1, .slice a2 m' c2]] wp (Stepped4 w g1 g2 (q + 1)) := by
  have HH := mkHid h
  obtain ⟨W0, hW0⟩ : ∃ W0, wp.alloc (.cells #[.int .i64 10, .int .i64 xi, .int .i64 xs, .int .i64 xn, .slice a1 m c1, .slice a2 m' c2] 39) = W0 := ⟨_, rfl⟩
  have HB0 := mkHid (show BB w W0 F1 F2 g1 g2 s s by rw [← hW0]; exact h.b.below ((Below.refl _ _).alloc (Nat.le_refl _) _))
  have hs0 : W0.heap.size = wp.heap.size + 1 := by rw [← hW0]; simp
  have hbl : W0.heap[wp.heap.size]? = some (.cells #[.int .i64 10, .int .i64 xi, .int .i64 xs, .int .i64 xn, .slice a1 m c1, .slice a2 m' c2] 39 (0, 0)) := by rw [← hW0]; exact heap_alloc_new _ _
  have HPC := mkHid (show ∀ Z : World, Z.heap[wp.heap.size]? = W0.heap[wp.heap.size]? → Z.cell? ⟨wp.heap.size, 1, none⟩ = some (.int .i64 xi) ∧ Z.cell? ⟨wp.heap.size, 2, none⟩ = some (.int .i64 xs) ∧ Z.cell? ⟨wp.heap.size, 3, none⟩ = some (.int .i64 xn) ∧ Z.cell? ⟨wp.heap.size, 4, none⟩ = some (.slice a1 m c1) ∧ Z.cell? ⟨wp.heap.size, 5, none⟩ = some (.slice a2 m' c2) from fun Z hZ => ⟨cell_of_row Z _ 1 _ _ _ (hZ.trans hbl), cell_of_row Z _ 2 _ _ _ (hZ.trans hbl), cell_of_row Z _ 3 _ _ _ (hZ.trans hbl), cell_of_row Z _ 4 _ _ _ (hZ.trans hbl), cell_of_row Z _ 5 _ _ _ (hZ.trans hbl)⟩)
  have HF1 := mkHid h.b.a.lt
  have HF2 := mkHid h.b.b.lt
  have hm := h.m
  have hm' := h.m'
  have hc1' := h.c.1
  have hc2' := h.c.2
  have HK0 := mkHid (show ∀ Z : World, Z.heap[wp.heap.size]? = W0.heap[wp.heap.size]? → Z.cell? ⟨wp.heap.size, 0, none⟩ = some (.int .i64 10) from fun Z hZ => cell_of_row Z _ 0 _ _ _ (hZ.trans hbl))
  obtain ⟨y1, y2, y3, y4, y5⟩ := HPC.out W0 rfl
  have HX0 := mkHid ((h.x.below HB0.out.bel).more HB0.out.bel.size)
  clear h hbl
  go_enter Tryd.func13, Tryd.ntmps13
  go_wp2_with fail
  clear hW0 y1 y2 y3 y4 y5
  refine (copy_any a1 m c1 xd W0 HX0.out (by omega)).mono ?_
  rintro e w1 ⟨CB, cb, rfl, hco, hb1⟩
  rw [HX0.out.len] at hco ⊢
  have hk1 : w1.heap[wp.heap.size]? = W0.heap[wp.heap.size]? := hb1.block _ (by omega)
  have gk1 := HPC.out w1 hk1
  obtain ⟨y1, y2, y3, y4, y5⟩ := gk1
  have gk1 := HPC.out w1 hk1
  have y0 := HK0.out w1 hk1
  have HK1 := mkHid hk1
  have HCO := mkHid hco
  have HCB := mkHid (show BS w1 w1.heap.size CB m xd from ⟨SL.of_own hco, HX0.out.2⟩)
  have HB1 := mkHid (HB0.out.below hb1)
  have hs1 := hb1.size
  have HBA := mkHid (show ∀ Z : World, Z.heap = w1.heap → BO Z F1 g1 s from fun Z hZ => HB1.out.a.keep (by rw [hZ]; exact Nat.le_refl _) fun _ _ => by rw [hZ])
  have HE1 := mkHid (HH.out.e.below HB1.out.bel)
  clear hco hb1 hk1
  have hcap := own_cap HCO.out
  have hcm : cb ≤ 9223372036854775807 := by have := hcap.2; unfold maxLen at this; omega
  have HOUT := mkHid (own_out (F := F1) HCO.out fun b hb => by have := HF1.out b hb; omega)
  have HBSZ := mkHid (show ∀ Z : World, Z.heap = w1.heap → BS Z Z.heap.size CB m xd from fun Z hZ => (HCB.out.keep (w' := Z) fun b _ => by rw [hZ]).more (by rw [hZ]; exact Nat.le_refl _))
  go_wp2_with fail
  go_region_held3 (fun Z => Z.cell? ⟨wp.heap.size, 1, none⟩ = some (.int .i64 xi) ∧ Z.cell? ⟨wp.heap.size, 2, none⟩ = some (.int .i64 xs) ∧ Z.cell? ⟨wp.heap.size, 3, none⟩ = some (.int .i64 xn) ∧ Z.cell? ⟨wp.heap.size, 4, none⟩ = some (.slice a1 m c1) ∧ Z.cell? ⟨wp.heap.size, 5, none⟩ = some (.slice a2 m' c2)) (first | exact gk7 | exact gk6 | exact gk5 | exact gk1) (first
    | (go_at_call 8; (with_reducible refine (told_any v opFill xi 0 (s.devE xi) w6 HE6.out HV6.out).mono ?_); rintro e w7 ⟨rfl, hb7⟩; have gk7 := HPC.out w7 ((hb7.block _ hz6).trans HK6.out); have HB7 := mkHid (HB6.out.below hb7); clear hb7)
    | (go_at_call 40; (with_reducible refine (rbfill_any F2 g2 s xi a1 m c1 xd w5 HB5.out.b HH.out.i HX5.out (by omega)).mono ?_); rintro e w6 ⟨rfl, ht6, F4, hd6, hF6⟩; have hk6 : w6.heap[wp.heap.size]? = W0.heap[wp.heap.size]? := (ht6.block _ hz5 (fun hf => by have := HF2.out _ hf; omega)).trans HK5.out; have gk6 := HPC.out w6 hk6; have HK6 := mkHid hk6; have hz6 : wp.heap.size < w6.heap.size := Nat.lt_of_lt_of_le hz5 ht6.size; have HB6 := mkHid (HB5.out.stepB ht6 hd6 hF6); have HV6 := mkHid (HV5.out.turn ht6 (fun b hb => by have := HF2.out _ hb; omega)); have HE6 := mkHid (HH.out.e.below HB6.out.bel); clear ht6 hd6 hF6 hk6)
    | (go_at_call 39; refine (bfill_any F1 g1 s xi CB m cb xd _ (HBA.out _ (by rfl)) HH.out.i (HBSZ.out _ (by rfl)) HOUT.out ⟨hcap.1, hcm⟩ (by omega)).mono ?_; rintro e w5 ⟨v, rfl, hv5, ht5, F3, hd5, hF5⟩; have ht5 : Turn F1 w1 w5 := Turn.mk ht5.os ht5.tape ht5.output ht5.size ht5.block; have hk5 : w5.heap[wp.heap.size]? = W0.heap[wp.heap.size]? := (ht5.block _ (show wp.heap.size < w1.heap.size by omega) (fun hf => by have := HF1.out _ hf; omega)).trans HK1.out; have gk5 := HPC.out w5 hk5; have HK5 := mkHid hk5; have hz5 : wp.heap.size < w5.heap.size := Nat.lt_of_lt_of_le (show wp.heap.size < w1.heap.size by omega) ht5.size; have HB5 := mkHid (HB1.out.stepA ht5 hd5 hF5); have HV5 := mkHid (EV.base hv5 (Nat.le_refl w1.heap.size)); have HX5 := mkHid ((HH.out.x.below HB5.out.bel).more HB5.out.bel.size); clear ht5 hd5 hF5 hk5 hv5))
  go_wp2_with fail
  go_ret
  exact ⟨rfl, F3, F4, _, HB7.out.below (by first | exact Below.refl _ _ | exact (Below.refl _ _).drew | exact (Below.refl _ _).drew.drew), inv_filled HH.out.v xi xd⟩

set_option maxRecDepth 20000 in
set_option maxHeartbeats 4000000 in
theorem step4_write (F1 F2 : Nat → Prop) (g1 g2 q : Nat) (s : Bst) (xi xs xn : Int) (a1 : Option Addr) (m c1 : Nat) (xd : List Int) (a2 : Option Addr) (m' c2 : Nat) (xp : List Int) (w wp : World) (h : SI w wp F1 F2 g1 g2 q s xi xs xn a1 m xd a2 m' c2 xp) :
    Calls Tryd.prog 13 #[.pointer (some ⟨g1, 0, none⟩), .pointer (some ⟨g2, 0, none⟩), .agg #[.int .i64 5, .int .i64 xi, .int .i64 xs, .int .i64 xn, .slice a1 m c1, .slice a2 m' c2]] wp (Stepped4 w g1 g2 (q + 1)) := by
  have HH := mkHid h
  obtain ⟨W0, hW0⟩ : ∃ W0, wp.alloc (.cells #[.int .i64 5, .int .i64 xi, .int .i64 xs, .int .i64 xn, .slice a1 m c1, .slice a2 m' c2] 39) = W0 := ⟨_, rfl⟩
  have HB0 := mkHid (show BB w W0 F1 F2 g1 g2 s s by rw [← hW0]; exact h.b.below ((Below.refl _ _).alloc (Nat.le_refl _) _))
  have hs0 : W0.heap.size = wp.heap.size + 1 := by rw [← hW0]; simp
  have hbl : W0.heap[wp.heap.size]? = some (.cells #[.int .i64 5, .int .i64 xi, .int .i64 xs, .int .i64 xn, .slice a1 m c1, .slice a2 m' c2] 39 (0, 0)) := by rw [← hW0]; exact heap_alloc_new _ _
  have HPC := mkHid (show ∀ Z : World, Z.heap[wp.heap.size]? = W0.heap[wp.heap.size]? → Z.cell? ⟨wp.heap.size, 1, none⟩ = some (.int .i64 xi) ∧ Z.cell? ⟨wp.heap.size, 2, none⟩ = some (.int .i64 xs) ∧ Z.cell? ⟨wp.heap.size, 3, none⟩ = some (.int .i64 xn) ∧ Z.cell? ⟨wp.heap.size, 4, none⟩ = some (.slice a1 m c1) ∧ Z.cell? ⟨wp.heap.size, 5, none⟩ = some (.slice a2 m' c2) from fun Z hZ => ⟨cell_of_row Z _ 1 _ _ _ (hZ.trans hbl), cell_of_row Z _ 2 _ _ _ (hZ.trans hbl), cell_of_row Z _ 3 _ _ _ (hZ.trans hbl), cell_of_row Z _ 4 _ _ _ (hZ.trans hbl), cell_of_row Z _ 5 _ _ _ (hZ.trans hbl)⟩)
  have HF1 := mkHid h.b.a.lt
  have HF2 := mkHid h.b.b.lt
  have hm := h.m
  have hm' := h.m'
  have hc1' := h.c.1
  have hc2' := h.c.2
  have HK0 := mkHid (show ∀ Z : World, Z.heap[wp.heap.size]? = W0.heap[wp.heap.size]? → Z.cell? ⟨wp.heap.size, 0, none⟩ = some (.int .i64 5) from fun Z hZ => cell_of_row Z _ 0 _ _ _ (hZ.trans hbl))
  obtain ⟨y1, y2, y3, y4, y5⟩ := HPC.out W0 rfl
  have HX0 := mkHid ((h.x.below HB0.out.bel).more HB0.out.bel.size)
  clear h hbl
  go_enter Tryd.func13, Tryd.ntmps13
  go_wp2_with fail
  clear hW0 y1 y2 y3 y4 y5
  refine (copy_any a1 m c1 xd W0 HX0.out (by omega)).mono ?_
  rintro e w1 ⟨CB, cb, rfl, hco, hb1⟩
  rw [HX0.out.len] at hco ⊢
  have hk1 : w1.heap[wp.heap.size]? = W0.heap[wp.heap.size]? := hb1.block _ (by omega)
  have gk1 := HPC.out w1 hk1
  obtain ⟨y1, y2, y3, y4, y5⟩ := gk1
  have gk1 := HPC.out w1 hk1
  have y0 := HK0.out w1 hk1
  have HK1 := mkHid hk1
  have HCO := mkHid hco
  have HCB := mkHid (show BS w1 w1.heap.size CB m xd from ⟨SL.of_own hco, HX0.out.2⟩)
  have HB1 := mkHid (HB0.out.below hb1)
  have hs1 := hb1.size
  have HBA := mkHid (show ∀ Z : World, Z.heap = w1.heap → BO Z F1 g1 s from fun Z hZ => HB1.out.a.keep (by rw [hZ]; exact Nat.le_refl _) fun _ _ => by rw [hZ])
  have HE1 := mkHid (HH.out.e.below HB1.out.bel)
  clear hco hb1 hk1
  have HOUT := mkHid (fun (_ : 0 < m) => own_out (F := F1) HCO.out fun b hb => by have := HF1.out b hb; omega)
  have HOU2 := mkHid (show 0 < m → ∀ ad : Addr, a1 = some ad → ¬ F2 ad.block from fun h0 ad had hf => by
    obtain ⟨b, o, ha, hb, _⟩ := HH.out.x.at_ (j := 0) h0
    rw [had] at ha
    injection ha with ha
    subst ha
    have := HB0.out.lb _ hf
    simp only at this
    omega)
  have HDN := mkHid (show 0 ≤ s.done ∧ s.done ≤ 1000000000 from ⟨HH.out.v.2.1, by have := HH.out.v.2.2; have := HH.out.q; omega⟩)
  have HFW := mkHid (show s.few 999999 from few_more HH.out.v.1 (by have := HH.out.q; omega))
  have HBSZ := mkHid (show ∀ Z : World, Z.heap = w1.heap → BS Z Z.heap.size CB m xd from fun Z hZ => (HCB.out.keep (w' := Z) fun b _ => by rw [hZ]).more (by rw [hZ]; exact Nat.le_refl _))
  go_wp2_with fail
  go_region_held3 (fun Z => Z.cell? ⟨wp.heap.size, 1, none⟩ = some (.int .i64 xi) ∧ Z.cell? ⟨wp.heap.size, 2, none⟩ = some (.int .i64 xs) ∧ Z.cell? ⟨wp.heap.size, 3, none⟩ = some (.int .i64 xn) ∧ Z.cell? ⟨wp.heap.size, 4, none⟩ = some (.slice a1 m c1) ∧ Z.cell? ⟨wp.heap.size, 5, none⟩ = some (.slice a2 m' c2)) (first | exact gk7 | exact gk6 | exact gk5 | exact gk1) (first
    | (go_at_call 8; (with_reducible refine (told_any v opWrite xi xs (s.wrE xi xs m) w6 HE6.out HV6.out).mono ?_); rintro e w7 ⟨rfl, hb7⟩; have gk7 := HPC.out w7 ((hb7.block _ hz6).trans HK6.out); have HB7 := mkHid (HB6.out.below hb7); clear hb7)
    | (go_at_call 31; (with_reducible refine (rbwrite_any F2 g2 s xi xs a1 m c1 xd w5 HB5.out.b HH.out.i HH.out.s HX5.out HOU2.out HDN.out HFW.out).mono ?_); rintro e w6 ⟨rfl, ht6, F4, hd6, hF6⟩; have hk6 : w6.heap[wp.heap.size]? = W0.heap[wp.heap.size]? := (ht6.block _ hz5 (fun hf => by have := HF2.out _ hf; omega)).trans HK5.out; have gk6 := HPC.out w6 hk6; have HK6 := mkHid hk6; have hz6 : wp.heap.size < w6.heap.size := Nat.lt_of_lt_of_le hz5 ht6.size; have HB6 := mkHid (HB5.out.stepB ht6 hd6 hF6); have HV6 := mkHid (HV5.out.turn ht6 (fun b hb => by have := HF2.out _ hb; omega)); have HE6 := mkHid (HH.out.e.below HB6.out.bel); clear ht6 hd6 hF6 hk6)
    | (go_at_call 30; refine (bwrite_any F1 g1 s xi xs CB m cb xd _ (HBA.out _ (by rfl)) HH.out.i HH.out.s (HBSZ.out _ (by rfl)) HOUT.out HDN.out HFW.out).mono ?_; rintro e w5 ⟨v, rfl, hv5, ht5, F3, hd5, hF5⟩; have ht5 : Turn F1 w1 w5 := Turn.mk ht5.os ht5.tape ht5.output ht5.size ht5.block; have hk5 : w5.heap[wp.heap.size]? = W0.heap[wp.heap.size]? := (ht5.block _ (show wp.heap.size < w1.heap.size by omega) (fun hf => by have := HF1.out _ hf; omega)).trans HK1.out; have gk5 := HPC.out w5 hk5; have HK5 := mkHid hk5; have hz5 : wp.heap.size < w5.heap.size := Nat.lt_of_lt_of_le (show wp.heap.size < w1.heap.size by omega) ht5.size; have HB5 := mkHid (HB1.out.stepA ht5 hd5 hF5); have HV5 := mkHid (EV.base hv5 (Nat.le_refl w1.heap.size)); have HX5 := mkHid ((HH.out.x.below HB5.out.bel).more HB5.out.bel.size); clear ht5 hd5 hF5 hk5 hv5))
  go_wp2_with fail
  go_ret
  exact ⟨rfl, F3, F4, _, HB7.out.below (by first | exact Below.refl _ _ | exact (Below.refl _ _).drew | exact (Below.refl _ _).drew.drew), inv_wrote HH.out.v xi xs xd⟩

end Go.Proofs.YtpoeneabhoajaaaDoor
