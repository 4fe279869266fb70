/- portagelaw03.step by contract: Flush, Grow, Bad. -/
import Derived.Test.YtpponofbkkikfaaDpB
namespace Go.Proofs.Ytpponofbkkikfaa
open Go.RowKit

set_option maxRecDepth 20000 in
set_option maxHeartbeats 4000000 in
theorem step_flush (F1 F2 : Nat → Prop) (g1 g2 q : Nat) (ss : List Sec) (xi xn : Int) (a1 : Option Addr) (m c1 : Nat) (a2 : Option Addr) (m' c2 : Nat) (w wp : World) (h : TD w wp F1 F2 g1 g2 q ss ss) :
    Calls Try.prog 26 #[.pointer (some ⟨g1, 0, none⟩), .pointer (some ⟨g2, 0, none⟩), .agg #[.int .i64 3, .int .i64 xi, .int .i64 xn, .slice a1 m c1, .slice a2 m' c2]] wp (Stepped F1 F2 wp w g1 g2 (q + 1)) := by
  obtain ⟨W0, hW0⟩ : ∃ W0, wp.alloc (.cells #[.int .i64 3, .int .i64 xi, .int .i64 xn, .slice a1 m c1, .slice a2 m' c2] 32) = W0 := ⟨_, rfl⟩
  have HT0 := mkHid (show TE (fun b => F1 b ∨ F2 b) wp w W0 F1 F2 g1 g2 q ss ss by rw [← hW0]; exact (TE.of h).below ((Below.refl _ _).alloc (Nat.le_refl _) _))
  have hbl : W0.heap[wp.heap.size]? = some (.cells #[.int .i64 3, .int .i64 xi, .int .i64 xn, .slice a1 m c1, .slice a2 m' c2] 32 (0, 0)) := by rw [← hW0]; exact heap_alloc_new _ _
  have y0 : W0.cell? ⟨wp.heap.size, 0, none⟩ = some (.int .i64 3) := cell_of_row W0 _ 0 _ _ _ hbl
  have hpp : (((pend ss).length : Int) == ((pend ss).length : Int)) = true := by simp
  clear h hbl
  go_enter Try.func26, Try.ntmps26
  go_wp2_with fail
  clear hW0 y0
  refine (flush_any F1 g1 ss W0 HT0.out.a).mono ?_
  rintro e w1 ⟨rfl, ht1, hd1⟩
  have HT1 := mkHid (HT0.out.stepA ht1 hd1 (fun _ hb => .inl hb) (flushed_wait (q := q)) (Nat.le_refl _))
  clear ht1 hd1
  go_wp2_with fail
  refine (rflush_any F2 g2 ss w1 HT1.out.b).mono ?_
  rintro e w2 ⟨rfl, ht2, F3, hd2, hF2⟩
  have HT2 := mkHid (HT1.out.stepB ht2 hd2 hF2 (flushed_wait (q := q + 1)) (Nat.le_succ q))
  clear ht2 hd2 hF2
  go_wp2_with fail
  go_ret
  exact ⟨rfl, F1, F3, _, HT2.out⟩

set_option maxRecDepth 20000 in
set_option maxHeartbeats 4000000 in
theorem step_grow (F1 F2 : Nat → Prop) (g1 g2 q : Nat) (ss : List Sec) (xi xn : Int) (a1 : Option Addr) (m c1 : Nat) (a2 : Option Addr) (m' c2 : Nat) (w wp : World) (h : TD w wp F1 F2 g1 g2 q ss ss) (hn : I64 xn) :
    Calls Try.prog 26 #[.pointer (some ⟨g1, 0, none⟩), .pointer (some ⟨g2, 0, none⟩), .agg #[.int .i64 4, .int .i64 xi, .int .i64 xn, .slice a1 m c1, .slice a2 m' c2]] wp (Stepped F1 F2 wp w g1 g2 (q + 1)) := by
  have HI := mkHid hn
  obtain ⟨W0, hW0⟩ : ∃ W0, wp.alloc (.cells #[.int .i64 4, .int .i64 xi, .int .i64 xn, .slice a1 m c1, .slice a2 m' c2] 32) = W0 := ⟨_, rfl⟩
  have HT0 := mkHid (show TE (fun b => F1 b ∨ F2 b) wp w W0 F1 F2 g1 g2 q ss ss by rw [← hW0]; exact (TE.of h).below ((Below.refl _ _).alloc (Nat.le_refl _) _))
  have hs0 : W0.heap.size = wp.heap.size + 1 := by rw [← hW0]; simp
  have hbl : W0.heap[wp.heap.size]? = some (.cells #[.int .i64 4, .int .i64 xi, .int .i64 xn, .slice a1 m c1, .slice a2 m' c2] 32 (0, 0)) := by rw [← hW0]; exact heap_alloc_new _ _
  have HF1 := mkHid h.a.lt
  have HF2 := mkHid h.b.lt
  have HPC := mkHid (show ∀ Z : World, Z.heap[wp.heap.size]? = W0.heap[wp.heap.size]? → Z.cell? ⟨wp.heap.size, 2, none⟩ = some (.int .i64 xn) from fun Z hZ => cell_of_row Z _ 2 _ _ _ (hZ.trans hbl))
  have y0 : W0.cell? ⟨wp.heap.size, 0, none⟩ = some (.int .i64 4) := cell_of_row W0 _ 0 _ _ _ hbl
  have y2 := HPC.out W0 rfl
  have HDK := mkHid (show ∀ Z : World, Z.heap = W0.heap → DK Z F1 g1 ss from fun Z hZ => HT0.out.a.keep (by rw [hZ]; exact Nat.le_refl _) fun b _ => by rw [hZ])
  clear h hbl hn
  go_enter Try.func26, Try.ntmps26
  go_wp2_with fail
  clear hW0 y0
  go_region_held3 (fun s => s.cell? ⟨wp.heap.size, 2, none⟩ = some (.int .i64 xn)) (first | assumption) (first
    | (go_at_call 20; (with_reducible refine (is_g ss.length xn w6).mono ?_); rintro e w7 ⟨rfl, rfl⟩)
    | (go_at_call 38; (with_reducible refine (rgrow_all F2 g2 ss xn w5 HT5.out.b HI.out).mono ?_); rintro e w6 ⟨rfl, ht6, F4, hd6, hF6⟩; have hpc6 := HPC.out w6 ((ht6.block _ (by omega) (fun hf => by have := HF2.out _ hf; omega)).trans HK5.out); have HT6 := mkHid (HT5.out.stepB ht6 hd6 hF6 (gnext_wait HT0.out.wb) (Nat.le_refl _)); clear ht6 hd6 hF6)
    | (go_at_call 22; refine (grow_all F1 g1 ss xn _ (HDK.out _ (by rfl)) HI.out).mono ?_; rintro e w5 ⟨rfl, ht5, F3, hd5, hF5⟩; have hk5 : w5.heap[wp.heap.size]? = W0.heap[wp.heap.size]? := ht5.block _ (show wp.heap.size < W0.heap.size by omega) (fun hf => by have := HF1.out _ hf; omega); have hpc5 := HPC.out w5 hk5; have HK5 := mkHid hk5; have hs5 : W0.heap.size ≤ w5.heap.size := ht5.size; have HT5 := mkHid (HT0.out.stepA (Turn.mk ht5.os ht5.tape ht5.output ht5.size ht5.block) hd5 hF5 (gnext_wait HT0.out.wa) (Nat.le_refl _)); clear ht5 hd5 hF5 hk5))
  go_wp2_with fail
  go_ret
  exact ⟨rfl, F3, F4, _, (HT6.out.more (Nat.le_succ q)).below (by first | exact Below.refl _ _ | exact (Below.refl _ _).drew | exact (Below.refl _ _).drew.drew)⟩

set_option maxRecDepth 20000 in
set_option maxHeartbeats 4000000 in
theorem step_bad (F1 F2 : Nat → Prop) (g1 g2 q : Nat) (ss : List Sec) (xi xn : Int) (a1 : Option Addr) (m c1 : Nat) (a2 : Option Addr) (m' c2 : Nat) (w wp : World) (h : TD w wp F1 F2 g1 g2 q ss ss) (hi : I64 xi) (hn : I64 xn) :
    Calls Try.prog 26 #[.pointer (some ⟨g1, 0, none⟩), .pointer (some ⟨g2, 0, none⟩), .agg #[.int .i64 5, .int .i64 xi, .int .i64 xn, .slice a1 m c1, .slice a2 m' c2]] wp (Stepped F1 F2 wp w g1 g2 (q + 1)) := by
  have HI := mkHid hi
  obtain ⟨W0, hW0⟩ : ∃ W0, wp.alloc (.cells #[.int .i64 5, .int .i64 xi, .int .i64 xn, .slice a1 m c1, .slice a2 m' c2] 32) = W0 := ⟨_, rfl⟩
  have HT0 := mkHid (show TE (fun b => F1 b ∨ F2 b) wp w W0 F1 F2 g1 g2 q ss ss by rw [← hW0]; exact (TE.of h).below ((Below.refl _ _).alloc (Nat.le_refl _) _))
  have hs0 : W0.heap.size = wp.heap.size + 1 := by rw [← hW0]; simp
  have hbl : W0.heap[wp.heap.size]? = some (.cells #[.int .i64 5, .int .i64 xi, .int .i64 xn, .slice a1 m c1, .slice a2 m' c2] 32 (0, 0)) := by rw [← hW0]; exact heap_alloc_new _ _
  have HF2 := mkHid h.b.lt
  have HPC := mkHid (show ∀ Z : World, Z.heap[wp.heap.size]? = W0.heap[wp.heap.size]? → Z.cell? ⟨wp.heap.size, 1, none⟩ = some (.int .i64 xi) ∧ Z.cell? ⟨wp.heap.size, 2, none⟩ = some (.int .i64 xn) from fun Z hZ => ⟨cell_of_row Z _ 1 _ _ _ (hZ.trans hbl), cell_of_row Z _ 2 _ _ _ (hZ.trans hbl)⟩)
  have y0 : W0.cell? ⟨wp.heap.size, 0, none⟩ = some (.int .i64 5) := cell_of_row W0 _ 0 _ _ _ hbl
  obtain ⟨y1, y2⟩ := HPC.out W0 rfl
  obtain ⟨on, hon⟩ : ∃ b, decide (0 < xn) = b := ⟨_, rfl⟩
  clear h hbl hi hn
  cases hh : hasOf ss.length xi with
  | false =>
    have HH := mkHid hh
    have HI20 := mkHid (show ∀ W, Calls Try.prog 20 #[codeV 20, .int .i64 20] W fun e w' => e = .returned (.bool true) ∧ W = w' from fun W => (is_code 20 20 W).mono fun e w' h => by simpa using h)
    have HR := mkHid (rhas_any F2 g2 ss xi W0 HT0.out.b HI.out)
    rw [hh] at HR
    clear hh
    go_enter Try.func26, Try.ntmps26
    go_wp2_with fail
    clear hW0 y0
    refine HR.out.mono ?_
    rintro e w1 ⟨rfl, rfl⟩
    go_wp2_with fail
    refine (bad_no F1 g1 ss xi _ W0 HT0.out.a HI.out HH.out).mono ?_
    rintro e w1 ⟨rfl, rfl⟩
    go_wp2_with fail
    refine (HI20.out W0).mono ?_
    rintro e w1 ⟨rfl, rfl⟩
    go_wp2_with fail
    go_ret
    exact ⟨rfl, F1, F2, ss, HT0.out.more (Nat.le_succ q)⟩
  | true =>
    have HR := mkHid (rhas_any F2 g2 ss xi W0 HT0.out.b HI.out)
    rw [hh] at HR
    obtain ⟨i, rfl, hil⟩ := hasOf_nat hh
    obtain ⟨A, n, c, cs, hrd⟩ := HT0.out.b
    have hn := hrd.len
    have hnl := hrd.nl
    obtain ⟨hc1, hc2⟩ := own_cap hrd.row
    obtain ⟨r, s, va, vc, rfl, hs', q0, q1, _, _, _, hFr, hrg⟩ := hrd.at_ (j := i) (by omega)
    have c0 := cell_of_row W0 g2 0 _ _ _ hrd.blk
    simp at c0
    have hrlt := HF2.out r hFr
    have HBD := mkHid (hrd.bad (on := on) rfl hs')
    have HS' := mkHid hs'
    have HFR := mkHid hFr
    have f1 : W0.frozen? ⟨r, i * 2 + 1, none⟩ = false := by
      obtain ⟨cur, hcur⟩ := own_type hrd.row (b := r) rfl
      exact frozen_of_row W0 r _ _ _ hcur
    have hglt := hrd.lt g2 hrd.fg
    have HKZ := mkHid (show ∀ Z : World, (∀ b, b ≠ r → Z.heap[b]? = W0.heap[b]?) → Z.cell? ⟨g2, 0, none⟩ = some (.slice (some ⟨r, 0, none⟩) n c) ∧ Z.cell? ⟨wp.heap.size, 1, none⟩ = some (.int .i64 (i : Int)) ∧ Z.cell? ⟨wp.heap.size, 2, none⟩ = some (.int .i64 xn) from fun Z hZ => ⟨(World.cell?_of_block (w := W0) (hZ g2 (fun e => hrg e.symm))).trans c0, (HPC.out Z (hZ _ (by omega))).1, (HPC.out Z (hZ _ (by omega))).2⟩)
    have hin1 : (i : Int) < (n : Int) := by omega
    have hin0 : (0 : Int) ≤ (i : Int) := by omega
    clear hh hs' hFr hrd q0 hil hn
    go_enter Try.func26, Try.ntmps26
    go_wp2_with fail
    clear hW0 y0
    refine HR.out.mono ?_
    rintro e w1 ⟨rfl, rfl⟩
    go_wp2_with fail
    go_region_held3 (fun s => s.cell? ⟨g2, 0, none⟩ = some (.slice (some ⟨r, 0, none⟩) n c) ∧ s.cell? ⟨wp.heap.size, 1, none⟩ = some (.int .i64 (i : Int)) ∧ s.cell? ⟨wp.heap.size, 2, none⟩ = some (.int .i64 xn)) (first | assumption | exact HKZ.out _ (fun _ _ => rfl) | exact HKZ.out _ (fun b hb => heap_setCell_other _ _ _ _ hb)) (fail)
    obtain ⟨W1, hW1⟩ : ∃ W1, (W0.setCell ⟨r, i * 2 + 1, none⟩ (.bool on)).drew = W1 := ⟨_, rfl⟩
    have HT1 := mkHid (show TE (fun b => F1 b ∨ F2 b) wp w W1 F1 F2 g1 g2 q ss (ss.set i { s with bad := on }) from by
      rw [← hW1]
      refine HT0.out.stepB (F' := F2) ⟨rfl, rfl, rfl, by simp [World.setCell], fun k hk hf => heap_setCell_other _ _ _ _ fun e => hf ?_⟩ ⟨_, _, _, _, HBD.out.keep (Nat.le_refl _) fun _ _ => rfl⟩ (fun _ hb => .inl hb) (bad_wait HS'.out HT0.out.wb) (Nat.le_refl _)
      have e : k = r := e
      exact e ▸ HFR.out)
    have z1 : W1.cell? ⟨wp.heap.size, 1, none⟩ = some (.int .i64 (i : Int)) := by rw [← hW1]; exact (HKZ.out _ (fun b hb => heap_setCell_other _ _ _ _ hb)).2.1
    have z2 : W1.cell? ⟨wp.heap.size, 2, none⟩ = some (.int .i64 xn) := by rw [← hW1]; exact (HKZ.out _ (fun b hb => heap_setCell_other _ _ _ _ hb)).2.2
    clear y1 y2 c0 f1 q1
    go_wp2_with fail
    clear hW1
    refine (bad_ok F1 g1 ss i s _ W1 HT1.out.a HS'.out).mono ?_
    rintro e w2 ⟨rfl, ht2, hd2⟩
    have HT2 := mkHid (HT1.out.stepA ht2 hd2 (fun _ hb => .inl hb) (bad_wait HS'.out HT0.out.wa) (Nat.le_refl _))
    clear ht2 hd2
    go_wp2_with fail
    go_ret
    exact ⟨rfl, F1, F2, _, HT2.out.more (Nat.le_succ q)⟩

end Go.Proofs.Ytpponofbkkikfaa
