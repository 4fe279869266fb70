/- portagelaw05.RosterTurns answers true. -/
import Derived.Test.YtlpgeocoddehgaaRosR
import Derived.Deep.DeepCutAuto
import Derived.Deep.CutBlock
namespace Go.Proofs.Ytlpgeocoddehgaa
open Go.RowKit Go.Shelf

theorem raddOf_bad {xs : List (Int × Int)} {size : Int} (h : (addOf xs size).1 ≠ 0) : (addOf xs size).2 = [] ∧ addAt xs size = 0 := by
  refine ⟨?_, if_neg h⟩
  unfold addOf at h ⊢
  split
  · rfl
  · split
    · rfl
    · split
      · rfl
      · rename_i h1 h2 h3
        rw [if_neg h1, if_neg h2, if_neg h3] at h
        exact absurd rfl h

set_option maxRecDepth 20000 in
set_option maxHeartbeats 8000000 in
theorem turns_no (a : Option Addr) (n c : Nat) (xs : List (Int × Int)) (d size : Int) (w : World) (hs : ES w w.heap.size a n xs) (hc : CapOk n c) (hd : I64 d) (hz : I64 size) (hn : n ≤ 100) (hr : rightL xs = false) :
    Calls Try.prog 5 #[.slice a n c, .int .i64 d, .int .i64 size] w fun e w' => e = .returned (.bool true) ∧ Below w.heap.size w w' := by
  have HS := mkHid hs
  have HL := mkHid hs.len
  have HC := mkHid hc
  have HZ := mkHid hz
  have HD := mkHid hd
  obtain ⟨hz0, hz1⟩ := hz
  obtain ⟨hd0, hd1⟩ := hd
  obtain ⟨hc1, hc2, hc3⟩ := hc

  have e1 : addOf xs size = (14, []) := by unfold addOf; rw [if_pos hr]
  have e1' : addAt xs size = 0 := by unfold addAt; rw [e1]; rfl
  have e2 : ∀ f, withOf xs d f = (14, []) := fun f => by unfold withOf; rw [if_pos hr]
  have e3 : drainOf xs d = (14, []) := by unfold drainOf; rw [e2]; rfl
  have E1 := mkHid e1
  have E1' := mkHid e1'
  have E2 := mkHid (e2 (growF size))
  have E3 := mkHid e3
  have E4 := mkHid (e2 (turnF 2 1))
  have E5 := mkHid (e2 (turnF 2 3))
  have HR := mkHid hr
  clear hs e1 e1' e2 e3 hr
  go_enter Try.func5, Try.ntmps5
  go_wp2_with fail
  refine (of_any a n c xs w HS.out HC.out (by omega)).mono ?_
  rintro e w1 ⟨A0, c0, rfl, hes0, hcap0, hb1⟩
  rw [HL.out] at hes0 hcap0 ⊢
  obtain ⟨W1, hW1⟩ : ∃ W, w1.alloc (.cells #[.slice A0 n c0] 27) = W := ⟨_, rfl⟩
  have hal : Below w1.heap.size w1 W1 := by rw [← hW1]; exact (Below.refl _ _).alloc (Nat.le_refl _) _
  have hq0 : W1.heap[w1.heap.size]? = some (.cells #[.slice A0 n c0] 27) := by rw [← hW1]; exact heap_alloc_new _ _
  have HES0 := mkHid (hes0.next hal)
  have HCAP0 := mkHid hcap0
  have HBW := mkHid (hb1.trans (hal.mono hb1.size))
  have c7 := cell_of_row W1 w1.heap.size 0 _ _ _ hq0
  simp at c7
  clear hes0 hal hcap0 hb1
  go_wp2_with fail
  refine (add_any A0 n c0 xs size W1 HES0.out HCAP0.out HZ.out).mono ?_
  clear hW1 c7
  rintro e v1 ⟨A1, c1, rfl, hes, hcap, hb⟩
  rw [E1.out] at hes hcap ⊢
  rw [E1'.out]
  simp only at hes hcap ⊢
  simp only [List.length_nil] at hes hcap ⊢
  rw [errV_of (by omega)]
  obtain ⟨W2, hW2⟩ : ∃ W, v1.alloc (.cells #[.slice A1 0 c1] 27) = W := ⟨_, rfl⟩
  have hal : Below v1.heap.size v1 W2 := by rw [← hW2]; exact (Below.refl _ _).alloc (Nat.le_refl _) _
  have hq1 : W2.heap[v1.heap.size]? = some (.cells #[.slice A1 0 c1] 27) := by rw [← hW2]; exact heap_alloc_new _ _
  have HES1 := mkHid (hes.next hal)
  have HCAP1 := mkHid hcap
  have hB := below_next hb hal
  have hq0 := (hB.block _ (Array.getElem?_eq_some_iff.1 hq0).1).trans hq0
  have HES0 := mkHid (HES0.out.next hB)
  have HBW := mkHid (HBW.out.trans (hB.mono HBW.out.size))
  have c7 := cell_of_row W2 w1.heap.size 0 _ _ _ hq0
  simp at c7
  clear hal hB hes hcap hb
  go_wp2_with fail
  refine (grow_any A0 n c0 xs d size W2 HES0.out HCAP0.out HD.out HZ.out).mono ?_
  clear hW2 c7
  rintro e v2 ⟨A2, c2, rfl, hes, hcap, hb⟩
  rw [E2.out] at hes hcap ⊢
  simp only at hes hcap ⊢
  simp only [List.length_nil] at hes hcap ⊢
  rw [errV_of (by omega)]
  obtain ⟨W3, hW3⟩ : ∃ W, v2.alloc (.cells #[.slice A2 0 c2] 27) = W := ⟨_, rfl⟩
  have hal : Below v2.heap.size v2 W3 := by rw [← hW3]; exact (Below.refl _ _).alloc (Nat.le_refl _) _
  have hq2 : W3.heap[v2.heap.size]? = some (.cells #[.slice A2 0 c2] 27) := by rw [← hW3]; exact heap_alloc_new _ _
  have HES2 := mkHid (hes.next hal)
  have HCAP2 := mkHid hcap
  have hB := below_next hb hal
  have hq0 := (hB.block _ (Array.getElem?_eq_some_iff.1 hq0).1).trans hq0
  have HES0 := mkHid (HES0.out.next hB)
  have hq1 := (hB.block _ (Array.getElem?_eq_some_iff.1 hq1).1).trans hq1
  have HES1 := mkHid (HES1.out.next hB)
  have HBW := mkHid (HBW.out.trans (hB.mono HBW.out.size))
  have c7 := cell_of_row W3 w1.heap.size 0 _ _ _ hq0
  simp at c7
  clear hal hB hes hcap hb
  go_wp2_with fail
  refine (drain_any A0 n c0 xs d W3 HES0.out HCAP0.out HD.out).mono ?_
  clear hW3 c7
  rintro e v3 ⟨A3, c3, rfl, hes, hcap, hb⟩
  rw [E3.out] at hes hcap ⊢
  simp only at hes hcap ⊢
  simp only [List.length_nil] at hes hcap ⊢
  rw [errV_of (by omega)]
  obtain ⟨W4, hW4⟩ : ∃ W, v3.alloc (.cells #[.slice A3 0 c3] 27) = W := ⟨_, rfl⟩
  have hal : Below v3.heap.size v3 W4 := by rw [← hW4]; exact (Below.refl _ _).alloc (Nat.le_refl _) _
  have hq3 : W4.heap[v3.heap.size]? = some (.cells #[.slice A3 0 c3] 27) := by rw [← hW4]; exact heap_alloc_new _ _
  have HES3 := mkHid (hes.next hal)
  have HCAP3 := mkHid hcap
  have hB := below_next hb hal
  have hq0 := (hB.block _ (Array.getElem?_eq_some_iff.1 hq0).1).trans hq0
  have HES0 := mkHid (HES0.out.next hB)
  have hq1 := (hB.block _ (Array.getElem?_eq_some_iff.1 hq1).1).trans hq1
  have HES1 := mkHid (HES1.out.next hB)
  have hq2 := (hB.block _ (Array.getElem?_eq_some_iff.1 hq2).1).trans hq2
  have HES2 := mkHid (HES2.out.next hB)
  have HBW := mkHid (HBW.out.trans (hB.mono HBW.out.size))
  have c7 := cell_of_row W4 w1.heap.size 0 _ _ _ hq0
  simp at c7
  clear hal hB hes hcap hb
  go_wp2_with fail
  refine (cancel_any A0 n c0 xs d W4 HES0.out HCAP0.out HD.out).mono ?_
  clear hW4 c7
  rintro e v4 ⟨A4, c4, rfl, hes, hcap, hb⟩
  rw [E4.out] at hes hcap ⊢
  simp only at hes hcap ⊢
  simp only [List.length_nil] at hes hcap ⊢
  rw [errV_of (by omega)]
  obtain ⟨W5, hW5⟩ : ∃ W, v4.alloc (.cells #[.slice A4 0 c4] 27) = W := ⟨_, rfl⟩
  have hal : Below v4.heap.size v4 W5 := by rw [← hW5]; exact (Below.refl _ _).alloc (Nat.le_refl _) _
  have hq4 : W5.heap[v4.heap.size]? = some (.cells #[.slice A4 0 c4] 27) := by rw [← hW5]; exact heap_alloc_new _ _
  have HES4 := mkHid (hes.next hal)
  have HCAP4 := mkHid hcap
  have hB := below_next hb hal
  have hq0 := (hB.block _ (Array.getElem?_eq_some_iff.1 hq0).1).trans hq0
  have HES0 := mkHid (HES0.out.next hB)
  have hq1 := (hB.block _ (Array.getElem?_eq_some_iff.1 hq1).1).trans hq1
  have HES1 := mkHid (HES1.out.next hB)
  have hq2 := (hB.block _ (Array.getElem?_eq_some_iff.1 hq2).1).trans hq2
  have HES2 := mkHid (HES2.out.next hB)
  have hq3 := (hB.block _ (Array.getElem?_eq_some_iff.1 hq3).1).trans hq3
  have HES3 := mkHid (HES3.out.next hB)
  have HBW := mkHid (HBW.out.trans (hB.mono HBW.out.size))
  have c7 := cell_of_row W5 w1.heap.size 0 _ _ _ hq0
  simp at c7
  clear hal hB hes hcap hb
  go_wp2_with fail
  refine (remove_any A0 n c0 xs d W5 HES0.out HCAP0.out HD.out).mono ?_
  clear hW5 c7
  rintro e v5 ⟨A5, c5, rfl, hes, hcap, hb⟩
  rw [E5.out] at hes hcap ⊢
  simp only at hes hcap ⊢
  simp only [List.length_nil] at hes hcap ⊢
  rw [errV_of (by omega)]
  obtain ⟨W6, hW6⟩ : ∃ W, v5.alloc (.cells #[.slice A5 0 c5] 27) = W := ⟨_, rfl⟩
  have hal : Below v5.heap.size v5 W6 := by rw [← hW6]; exact (Below.refl _ _).alloc (Nat.le_refl _) _
  have hq5 : W6.heap[v5.heap.size]? = some (.cells #[.slice A5 0 c5] 27) := by rw [← hW6]; exact heap_alloc_new _ _
  have HES5 := mkHid (hes.next hal)
  have HCAP5 := mkHid hcap
  have hB := below_next hb hal
  have hq0 := (hB.block _ (Array.getElem?_eq_some_iff.1 hq0).1).trans hq0
  have HES0 := mkHid (HES0.out.next hB)
  have hq1 := (hB.block _ (Array.getElem?_eq_some_iff.1 hq1).1).trans hq1
  have HES1 := mkHid (HES1.out.next hB)
  have hq2 := (hB.block _ (Array.getElem?_eq_some_iff.1 hq2).1).trans hq2
  have HES2 := mkHid (HES2.out.next hB)
  have hq3 := (hB.block _ (Array.getElem?_eq_some_iff.1 hq3).1).trans hq3
  have HES3 := mkHid (HES3.out.next hB)
  have hq4 := (hB.block _ (Array.getElem?_eq_some_iff.1 hq4).1).trans hq4
  have HES4 := mkHid (HES4.out.next hB)
  have HBW := mkHid (HBW.out.trans (hB.mono HBW.out.size))
  have c7 := cell_of_row W6 w1.heap.size 0 _ _ _ hq0
  simp at c7
  clear hal hB hes hcap hb
  have HK := mkHid (show ∀ Z, Below W6.heap.size W6 Z → Z.cell? ⟨w1.heap.size, 0, none⟩ = some (.slice A0 n c0) ∧ Z.cell? ⟨v1.heap.size, 0, none⟩ = some (.slice A1 0 c1) ∧ Z.cell? ⟨v2.heap.size, 0, none⟩ = some (.slice A2 0 c2) ∧ Z.cell? ⟨v3.heap.size, 0, none⟩ = some (.slice A3 0 c3) ∧ Z.cell? ⟨v4.heap.size, 0, none⟩ = some (.slice A4 0 c4) ∧ Z.cell? ⟨v5.heap.size, 0, none⟩ = some (.slice A5 0 c5) from fun Z hZ => ⟨cell_of_row Z w1.heap.size 0 _ _ _ ((hZ.block _ (Array.getElem?_eq_some_iff.1 hq0).1).trans hq0), cell_of_row Z v1.heap.size 0 _ _ _ ((hZ.block _ (Array.getElem?_eq_some_iff.1 hq1).1).trans hq1), cell_of_row Z v2.heap.size 0 _ _ _ ((hZ.block _ (Array.getElem?_eq_some_iff.1 hq2).1).trans hq2), cell_of_row Z v3.heap.size 0 _ _ _ ((hZ.block _ (Array.getElem?_eq_some_iff.1 hq3).1).trans hq3), cell_of_row Z v4.heap.size 0 _ _ _ ((hZ.block _ (Array.getElem?_eq_some_iff.1 hq4).1).trans hq4), cell_of_row Z v5.heap.size 0 _ _ _ ((hZ.block _ (Array.getElem?_eq_some_iff.1 hq5).1).trans hq5)⟩)
  clear hq0 hq1 hq2 hq3 hq4 hq5
  go_wp2_with fail
  refine (same_any A0 n c0 xs a n c xs W6 HES0.out HCAP0.out (HS.out.next HBW.out) HC.out).mono ?_
  clear hW6 c7
  rintro e y0 ⟨rfl, hby⟩
  rw [decide_eq_true rfl]
  have HBY := mkHid hby
  clear hby
  go_wp2_with fail
  refine (rright_any a n c xs y0 (HS.out.next (HBW.out.trans (HBY.out.mono HBW.out.size))) HC.out).mono ?_
  rintro e w' ⟨rfl, rfl⟩
  rw [HR.out]
  obtain ⟨k7, k8, k11, k13, k15, k17⟩ := HK.out y0 HBY.out
  go_wp2_with fail
  refine (check_no A0 n c0 xs y0 (HES0.out.next HBY.out) HCAP0.out HR.out).mono ?_
  rintro e y1 ⟨rfl, hby⟩
  have HBY := mkHid (below_next HBY.out hby)
  clear hby k7 k8 k11 k13 k15 k17
  obtain ⟨k7, k8, k11, k13, k15, k17⟩ := HK.out y1 HBY.out
  go_wp2_with fail
  refine (is_code 14 14 _).mono ?_
  rintro e w' ⟨rfl, rfl⟩
  rw [show ((14 : Int) != 0 && (14 : Int) == 14) = true from rfl]
  go_wp2_with fail
  refine (is_code 14 14 _).mono ?_
  rintro e w' ⟨rfl, rfl⟩
  rw [show ((14 : Int) != 0 && (14 : Int) == 14) = true from rfl]
  go_wp2_with fail
  refine (is_code 14 14 _).mono ?_
  rintro e w' ⟨rfl, rfl⟩
  rw [show ((14 : Int) != 0 && (14 : Int) == 14) = true from rfl]
  go_wp2_with fail
  refine (is_code 14 14 _).mono ?_
  rintro e w' ⟨rfl, rfl⟩
  rw [show ((14 : Int) != 0 && (14 : Int) == 14) = true from rfl]
  go_wp2_with fail
  refine (is_code 14 14 _).mono ?_
  rintro e w' ⟨rfl, rfl⟩
  rw [show ((14 : Int) != 0 && (14 : Int) == 14) = true from rfl]
  go_wp2_with fail
  refine (is_code 14 14 _).mono ?_
  rintro e w' ⟨rfl, rfl⟩
  rw [show ((14 : Int) != 0 && (14 : Int) == 14) = true from rfl]
  go_wp2_with fail
  refine (awake_any _).mono ?_
  rintro e y2 ⟨rfl, hb2⟩
  go_wp2_with fail
  go_ret
  exact ⟨rfl, HBW.out.trans ((below_next HBY.out hb2).mono HBW.out.size)⟩
set_option maxRecDepth 20000 in
set_option maxHeartbeats 8000000 in
theorem turns_add (a : Option Addr) (n c : Nat) (xs : List (Int × Int)) (d size : Int) (w : World) (hs : ES w w.heap.size a n xs) (hc : CapOk n c) (hd : I64 d) (hz : I64 size) (hn : n ≤ 100) (hr : rightL xs = true) (h0 : (addOf xs size).1 = 0) :
    Calls Try.prog 5 #[.slice a n c, .int .i64 d, .int .i64 size] w fun e w' => e = .returned (.bool true) ∧ Below w.heap.size w w' := by
  have HS := mkHid hs
  have HL := mkHid hs.len
  have HC := mkHid hc
  have HZ := mkHid hz
  have HD := mkHid hd
  obtain ⟨hz0, hz1⟩ := hz
  obtain ⟨hd0, hd1⟩ := hd
  obtain ⟨hc1, hc2, hc3⟩ := hc

  obtain ⟨_, hn7, hs3, hs4, hz1', hat1, hr1⟩ := addOf_ok h0
  have E1 := mkHid (show addOf xs size = (0, xs ++ [(1, size)]) from Prod.ext h0 hz1')
  have E1' := mkHid hat1
  have HLA := mkHid (show (xs ++ [((1 : Int), size)]).length = n + 1 by rw [List.length_append, HL.out]; rfl)
  clear hz1' hat1 hr1 h0 hn7 hs3 hs4
  have R1 := mkHid (radd_eq hr size)
  have R2 := mkHid (rgrow_eq hr d size)
  have R3 := mkHid (rdrain_eq hr d)
  have R4 := mkHid (rturn_eq hr d 2 1 (by omega))
  have R5 := mkHid (rturn_eq hr d 2 3 (by omega))
  obtain ⟨r2, hr2⟩ : ∃ r, withOf xs d (growF size) = r := ⟨_, rfl⟩
  obtain ⟨r3, hr3⟩ : ∃ r, drainOf xs d = r := ⟨_, rfl⟩
  obtain ⟨r4, hr4⟩ : ∃ r, withOf xs d (turnF 2 1) = r := ⟨_, rfl⟩
  obtain ⟨r5, hr5⟩ : ∃ r, withOf xs d (turnF 2 3) = r := ⟨_, rfl⟩
  have E2 := mkHid hr2
  have E3 := mkHid hr3
  have E4 := mkHid hr4
  have E5 := mkHid hr5
  rw [hr2] at R2
  rw [hr3] at R3
  rw [hr4] at R4
  rw [hr5] at R5
  rw [E1.out] at R1
  have HR := mkHid hr
  clear hs hr hr2 hr3 hr4 hr5
  go_enter Try.func5, Try.ntmps5
  go_wp2_with fail
  refine (of_any a n c xs w HS.out HC.out (by omega)).mono ?_
  rintro e w1 ⟨A0, c0, rfl, hes0, hcap0, hb1⟩
  rw [HL.out] at hes0 hcap0 ⊢
  obtain ⟨W1, hW1⟩ : ∃ W, w1.alloc (.cells #[.slice A0 n c0] 27) = W := ⟨_, rfl⟩
  have hal : Below w1.heap.size w1 W1 := by rw [← hW1]; exact (Below.refl _ _).alloc (Nat.le_refl _) _
  have hq0 : W1.heap[w1.heap.size]? = some (.cells #[.slice A0 n c0] 27) := by rw [← hW1]; exact heap_alloc_new _ _
  have HES0 := mkHid (hes0.next hal)
  have HCAP0 := mkHid hcap0
  have HBW := mkHid (hb1.trans (hal.mono hb1.size))
  have c7 := cell_of_row W1 w1.heap.size 0 _ _ _ hq0
  simp at c7
  clear hes0 hal hcap0 hb1
  go_wp2_with fail
  refine (add_any A0 n c0 xs size W1 HES0.out HCAP0.out HZ.out).mono ?_
  clear hW1 c7
  rintro e v1 ⟨A1, c1, rfl, hes, hcap, hb⟩
  rw [E1.out] at hes hcap ⊢
  rw [E1'.out]
  simp only at hes hcap ⊢
  rw [HLA.out] at hes hcap ⊢
  rw [errV_no, HL.out]
  obtain ⟨W2, hW2⟩ : ∃ W, v1.alloc (.cells #[.slice A1 (n + 1) c1] 27) = W := ⟨_, rfl⟩
  have hal : Below v1.heap.size v1 W2 := by rw [← hW2]; exact (Below.refl _ _).alloc (Nat.le_refl _) _
  have hq1 : W2.heap[v1.heap.size]? = some (.cells #[.slice A1 (n + 1) c1] 27) := by rw [← hW2]; exact heap_alloc_new _ _
  have HES1 := mkHid (hes.next hal)
  have HCAP1 := mkHid hcap
  have hB := below_next hb hal
  have hq0 := (hB.block _ (Array.getElem?_eq_some_iff.1 hq0).1).trans hq0
  have HES0 := mkHid (HES0.out.next hB)
  have HBW := mkHid (HBW.out.trans (hB.mono HBW.out.size))
  have c7 := cell_of_row W2 w1.heap.size 0 _ _ _ hq0
  simp at c7
  clear hal hB hes hcap hb
  go_wp2_with fail
  refine (grow_any A0 n c0 xs d size W2 HES0.out HCAP0.out HD.out HZ.out).mono ?_
  clear hW2 c7
  rintro e v2 ⟨A2, c2, rfl, hes, hcap, hb⟩
  rw [E2.out] at hes hcap ⊢
  simp only at hes hcap ⊢
  obtain ⟨W3, hW3⟩ : ∃ W, v2.alloc (.cells #[.slice A2 r2.2.length c2] 27) = W := ⟨_, rfl⟩
  have hal : Below v2.heap.size v2 W3 := by rw [← hW3]; exact (Below.refl _ _).alloc (Nat.le_refl _) _
  have hq2 : W3.heap[v2.heap.size]? = some (.cells #[.slice A2 r2.2.length c2] 27) := by rw [← hW3]; exact heap_alloc_new _ _
  have HES2 := mkHid (hes.next hal)
  have HCAP2 := mkHid hcap
  have hB := below_next hb hal
  have hq0 := (hB.block _ (Array.getElem?_eq_some_iff.1 hq0).1).trans hq0
  have HES0 := mkHid (HES0.out.next hB)
  have hq1 := (hB.block _ (Array.getElem?_eq_some_iff.1 hq1).1).trans hq1
  have HES1 := mkHid (HES1.out.next hB)
  have HBW := mkHid (HBW.out.trans (hB.mono HBW.out.size))
  have c7 := cell_of_row W3 w1.heap.size 0 _ _ _ hq0
  simp at c7
  clear hal hB hes hcap hb
  go_wp2_with fail
  refine (drain_any A0 n c0 xs d W3 HES0.out HCAP0.out HD.out).mono ?_
  clear hW3 c7
  rintro e v3 ⟨A3, c3, rfl, hes, hcap, hb⟩
  rw [E3.out] at hes hcap ⊢
  simp only at hes hcap ⊢
  obtain ⟨W4, hW4⟩ : ∃ W, v3.alloc (.cells #[.slice A3 r3.2.length c3] 27) = W := ⟨_, rfl⟩
  have hal : Below v3.heap.size v3 W4 := by rw [← hW4]; exact (Below.refl _ _).alloc (Nat.le_refl _) _
  have hq3 : W4.heap[v3.heap.size]? = some (.cells #[.slice A3 r3.2.length c3] 27) := by rw [← hW4]; exact heap_alloc_new _ _
  have HES3 := mkHid (hes.next hal)
  have HCAP3 := mkHid hcap
  have hB := below_next hb hal
  have hq0 := (hB.block _ (Array.getElem?_eq_some_iff.1 hq0).1).trans hq0
  have HES0 := mkHid (HES0.out.next hB)
  have hq1 := (hB.block _ (Array.getElem?_eq_some_iff.1 hq1).1).trans hq1
  have HES1 := mkHid (HES1.out.next hB)
  have hq2 := (hB.block _ (Array.getElem?_eq_some_iff.1 hq2).1).trans hq2
  have HES2 := mkHid (HES2.out.next hB)
  have HBW := mkHid (HBW.out.trans (hB.mono HBW.out.size))
  have c7 := cell_of_row W4 w1.heap.size 0 _ _ _ hq0
  simp at c7
  clear hal hB hes hcap hb
  go_wp2_with fail
  refine (cancel_any A0 n c0 xs d W4 HES0.out HCAP0.out HD.out).mono ?_
  clear hW4 c7
  rintro e v4 ⟨A4, c4, rfl, hes, hcap, hb⟩
  rw [E4.out] at hes hcap ⊢
  simp only at hes hcap ⊢
  obtain ⟨W5, hW5⟩ : ∃ W, v4.alloc (.cells #[.slice A4 r4.2.length c4] 27) = W := ⟨_, rfl⟩
  have hal : Below v4.heap.size v4 W5 := by rw [← hW5]; exact (Below.refl _ _).alloc (Nat.le_refl _) _
  have hq4 : W5.heap[v4.heap.size]? = some (.cells #[.slice A4 r4.2.length c4] 27) := by rw [← hW5]; exact heap_alloc_new _ _
  have HES4 := mkHid (hes.next hal)
  have HCAP4 := mkHid hcap
  have hB := below_next hb hal
  have hq0 := (hB.block _ (Array.getElem?_eq_some_iff.1 hq0).1).trans hq0
  have HES0 := mkHid (HES0.out.next hB)
  have hq1 := (hB.block _ (Array.getElem?_eq_some_iff.1 hq1).1).trans hq1
  have HES1 := mkHid (HES1.out.next hB)
  have hq2 := (hB.block _ (Array.getElem?_eq_some_iff.1 hq2).1).trans hq2
  have HES2 := mkHid (HES2.out.next hB)
  have hq3 := (hB.block _ (Array.getElem?_eq_some_iff.1 hq3).1).trans hq3
  have HES3 := mkHid (HES3.out.next hB)
  have HBW := mkHid (HBW.out.trans (hB.mono HBW.out.size))
  have c7 := cell_of_row W5 w1.heap.size 0 _ _ _ hq0
  simp at c7
  clear hal hB hes hcap hb
  go_wp2_with fail
  refine (remove_any A0 n c0 xs d W5 HES0.out HCAP0.out HD.out).mono ?_
  clear hW5 c7
  rintro e v5 ⟨A5, c5, rfl, hes, hcap, hb⟩
  rw [E5.out] at hes hcap ⊢
  simp only at hes hcap ⊢
  obtain ⟨W6, hW6⟩ : ∃ W, v5.alloc (.cells #[.slice A5 r5.2.length c5] 27) = W := ⟨_, rfl⟩
  have hal : Below v5.heap.size v5 W6 := by rw [← hW6]; exact (Below.refl _ _).alloc (Nat.le_refl _) _
  have hq5 : W6.heap[v5.heap.size]? = some (.cells #[.slice A5 r5.2.length c5] 27) := by rw [← hW6]; exact heap_alloc_new _ _
  have HES5 := mkHid (hes.next hal)
  have HCAP5 := mkHid hcap
  have hB := below_next hb hal
  have hq0 := (hB.block _ (Array.getElem?_eq_some_iff.1 hq0).1).trans hq0
  have HES0 := mkHid (HES0.out.next hB)
  have hq1 := (hB.block _ (Array.getElem?_eq_some_iff.1 hq1).1).trans hq1
  have HES1 := mkHid (HES1.out.next hB)
  have hq2 := (hB.block _ (Array.getElem?_eq_some_iff.1 hq2).1).trans hq2
  have HES2 := mkHid (HES2.out.next hB)
  have hq3 := (hB.block _ (Array.getElem?_eq_some_iff.1 hq3).1).trans hq3
  have HES3 := mkHid (HES3.out.next hB)
  have hq4 := (hB.block _ (Array.getElem?_eq_some_iff.1 hq4).1).trans hq4
  have HES4 := mkHid (HES4.out.next hB)
  have HBW := mkHid (HBW.out.trans (hB.mono HBW.out.size))
  have c7 := cell_of_row W6 w1.heap.size 0 _ _ _ hq0
  simp at c7
  clear hal hB hes hcap hb
  have HK := mkHid (show ∀ Z, Below W6.heap.size W6 Z → Z.cell? ⟨w1.heap.size, 0, none⟩ = some (.slice A0 n c0) ∧ Z.cell? ⟨v1.heap.size, 0, none⟩ = some (.slice A1 (n + 1) c1) ∧ Z.cell? ⟨v2.heap.size, 0, none⟩ = some (.slice A2 r2.2.length c2) ∧ Z.cell? ⟨v3.heap.size, 0, none⟩ = some (.slice A3 r3.2.length c3) ∧ Z.cell? ⟨v4.heap.size, 0, none⟩ = some (.slice A4 r4.2.length c4) ∧ Z.cell? ⟨v5.heap.size, 0, none⟩ = some (.slice A5 r5.2.length c5) from fun Z hZ => ⟨cell_of_row Z w1.heap.size 0 _ _ _ ((hZ.block _ (Array.getElem?_eq_some_iff.1 hq0).1).trans hq0), cell_of_row Z v1.heap.size 0 _ _ _ ((hZ.block _ (Array.getElem?_eq_some_iff.1 hq1).1).trans hq1), cell_of_row Z v2.heap.size 0 _ _ _ ((hZ.block _ (Array.getElem?_eq_some_iff.1 hq2).1).trans hq2), cell_of_row Z v3.heap.size 0 _ _ _ ((hZ.block _ (Array.getElem?_eq_some_iff.1 hq3).1).trans hq3), cell_of_row Z v4.heap.size 0 _ _ _ ((hZ.block _ (Array.getElem?_eq_some_iff.1 hq4).1).trans hq4), cell_of_row Z v5.heap.size 0 _ _ _ ((hZ.block _ (Array.getElem?_eq_some_iff.1 hq5).1).trans hq5)⟩)
  clear hq0 hq1 hq2 hq3 hq4 hq5
  go_wp2_with fail
  refine (same_any A0 n c0 xs a n c xs W6 HES0.out HCAP0.out (HS.out.next HBW.out) HC.out).mono ?_
  clear hW6 c7
  rintro e y0 ⟨rfl, hby⟩
  rw [decide_eq_true rfl]
  have HBY := mkHid hby
  clear hby
  go_wp2_with fail
  refine (rright_any a n c xs y0 (HS.out.next (HBW.out.trans (HBY.out.mono HBW.out.size))) HC.out).mono ?_
  rintro e w' ⟨rfl, rfl⟩
  rw [HR.out]
  obtain ⟨k7, k8, k11, k13, k15, k17⟩ := HK.out y0 HBY.out
  go_wp2_with fail
  refine (radd_any a n c xs size y0 (HS.out.next (HBW.out.trans (HBY.out.mono HBW.out.size))) (by omega) HZ.out).mono ?_
  rintro e z1 ⟨B1, d1, rfl, hesr, hcapr, hby⟩
  rw [← R1.out] at hesr hcapr ⊢
  simp only at hesr hcapr ⊢
  rw [HLA.out] at hesr hcapr ⊢
  have HBY := mkHid (below_next HBY.out hby)
  have HER := mkHid hesr
  have HCR := mkHid hcapr
  clear hesr hcapr hby k7 k8 k11 k13 k15 k17
  obtain ⟨k7, k8, k11, k13, k15, k17⟩ := HK.out z1 HBY.out
  go_upto_region 14 with (fail)
  go_cut [156] (fun v wc => v = .bool false ∧ Hid (Below W6.heap.size W6 wc))
  case first =>
    go_wp2_with fail
    refine (check_ok A0 n c0 xs z1 (HES0.out.next HBY.out) HCAP0.out HR.out).mono ?_
    rintro e y3 ⟨rfl, hby⟩
    have HER := mkHid (HER.out.next hby)
    have HBY := mkHid (below_next HBY.out hby)
    clear hby k7 k8 k11 k13 k15 k17
    obtain ⟨k7, k8, k11, k13, k15, k17⟩ := HK.out y3 HBY.out
    go_wp2_with fail
    refine (is_nil 0 _).mono ?_
    rintro e w' ⟨rfl, rfl⟩
    rw [show ((0 : Int) == 0) = true from beq_self_eq_true _]
    go_wp2_with fail
    refine (same_any A1 (n + 1) c1 _ B1 (n + 1) d1 _ y3 (HES1.out.next HBY.out) HCAP1.out HER.out HCR.out).mono ?_
    rintro e y4 ⟨rfl, hby⟩
    rw [decide_eq_true rfl]
    have HBY := mkHid (below_next HBY.out hby)
    clear hby
    by_cases hn0 : n = 0
    · have gn0 : ((n : Int) != 0) = false := by simp; omega
      have gn1 : ((0 : Int) != (n : Int)) = false := by simp; omega
      clear hn0
      go_wp2_with fail
      go_meet
      case rel => exact ⟨rfl, HBY⟩
    · have gn0 : ((n : Int) != 0) = true := by simp; omega
      have gn1 : ((0 : Int) != (n : Int)) = true := by simp; omega
      clear hn0
      go_wp2_with fail
      go_meet
      case rel => exact ⟨rfl, HBY⟩
  case rest =>
    clear HBY k7 k8 k11 k13 k15 k17
    obtain ⟨rfl, HBY⟩ := hcut
    obtain ⟨k7, k8, k11, k13, k15, k17⟩ := HK.out wc HBY.out
    go_wp2_with fail
    refine (rgrow_any a n c xs d size wc (HS.out.next (HBW.out.trans (HBY.out.mono HBW.out.size))) HC.out (by omega) HD.out HZ.out).mono ?_
    rintro e z2 ⟨B2, d2, rfl, hesr, hcapr, hby⟩
    rw [← R2.out] at hesr hcapr ⊢
    have HBY := mkHid (below_next HBY.out hby)
    have HER := mkHid hesr
    have HCR := mkHid hcapr
    clear hesr hcapr hby k7 k8 k11 k13 k15 k17
    obtain ⟨k7, k8, k11, k13, k15, k17⟩ := HK.out z2 HBY.out
    go_wp2_with fail
    refine (is_err r2.1 r2.1 _).mono ?_
    rintro e w' ⟨rfl, rfl⟩
    rw [show (r2.1 == r2.1) = true from beq_self_eq_true _]
    go_wp2_with fail
    refine (same_any A2 r2.2.length c2 _ B2 r2.2.length d2 _ z2 (HES2.out.next HBY.out) HCAP2.out HER.out HCR.out).mono ?_
    rintro e yy2 ⟨rfl, hby⟩
    rw [decide_eq_true rfl]
    have HBY := mkHid (below_next HBY.out hby)
    clear hby k7 k8 k11 k13 k15 k17
    obtain ⟨k7, k8, k11, k13, k15, k17⟩ := HK.out yy2 HBY.out
    go_wp2_with fail
    refine (rturn_any a n c xs d 1 2 yy2 (HS.out.next (HBW.out.trans (HBY.out.mono HBW.out.size))) HC.out (by omega) HD.out (by unfold I64; omega)).mono ?_
    rintro e z3 ⟨B3, d3, rfl, hesr, hcapr, hby⟩
    rw [← R3.out] at hesr hcapr ⊢
    have HBY := mkHid (below_next HBY.out hby)
    have HER := mkHid hesr
    have HCR := mkHid hcapr
    clear hesr hcapr hby k7 k8 k11 k13 k15 k17
    obtain ⟨k7, k8, k11, k13, k15, k17⟩ := HK.out z3 HBY.out
    go_wp2_with fail
    refine (is_err r3.1 r3.1 _).mono ?_
    rintro e w' ⟨rfl, rfl⟩
    rw [show (r3.1 == r3.1) = true from beq_self_eq_true _]
    go_wp2_with fail
    refine (same_any A3 r3.2.length c3 _ B3 r3.2.length d3 _ z3 (HES3.out.next HBY.out) HCAP3.out HER.out HCR.out).mono ?_
    rintro e yy3 ⟨rfl, hby⟩
    rw [decide_eq_true rfl]
    have HBY := mkHid (below_next HBY.out hby)
    clear hby k7 k8 k11 k13 k15 k17
    obtain ⟨k7, k8, k11, k13, k15, k17⟩ := HK.out yy3 HBY.out
    go_wp2_with fail
    refine (rturn_any a n c xs d 2 1 yy3 (HS.out.next (HBW.out.trans (HBY.out.mono HBW.out.size))) HC.out (by omega) HD.out (by unfold I64; omega)).mono ?_
    rintro e z4 ⟨B4, d4, rfl, hesr, hcapr, hby⟩
    rw [← R4.out] at hesr hcapr ⊢
    have HBY := mkHid (below_next HBY.out hby)
    have HER := mkHid hesr
    have HCR := mkHid hcapr
    clear hesr hcapr hby k7 k8 k11 k13 k15 k17
    obtain ⟨k7, k8, k11, k13, k15, k17⟩ := HK.out z4 HBY.out
    go_wp2_with fail
    refine (is_err r4.1 r4.1 _).mono ?_
    rintro e w' ⟨rfl, rfl⟩
    rw [show (r4.1 == r4.1) = true from beq_self_eq_true _]
    go_wp2_with fail
    refine (same_any A4 r4.2.length c4 _ B4 r4.2.length d4 _ z4 (HES4.out.next HBY.out) HCAP4.out HER.out HCR.out).mono ?_
    rintro e yy4 ⟨rfl, hby⟩
    rw [decide_eq_true rfl]
    have HBY := mkHid (below_next HBY.out hby)
    clear hby k7 k8 k11 k13 k15 k17
    obtain ⟨k7, k8, k11, k13, k15, k17⟩ := HK.out yy4 HBY.out
    go_wp2_with fail
    refine (rturn_any a n c xs d 2 3 yy4 (HS.out.next (HBW.out.trans (HBY.out.mono HBW.out.size))) HC.out (by omega) HD.out (by unfold I64; omega)).mono ?_
    rintro e z5 ⟨B5, d5, rfl, hesr, hcapr, hby⟩
    rw [← R5.out] at hesr hcapr ⊢
    have HBY := mkHid (below_next HBY.out hby)
    have HER := mkHid hesr
    have HCR := mkHid hcapr
    clear hesr hcapr hby k7 k8 k11 k13 k15 k17
    obtain ⟨k7, k8, k11, k13, k15, k17⟩ := HK.out z5 HBY.out
    go_wp2_with fail
    refine (is_err r5.1 r5.1 _).mono ?_
    rintro e w' ⟨rfl, rfl⟩
    rw [show (r5.1 == r5.1) = true from beq_self_eq_true _]
    go_wp2_with fail
    refine (same_any A5 r5.2.length c5 _ B5 r5.2.length d5 _ z5 (HES5.out.next HBY.out) HCAP5.out HER.out HCR.out).mono ?_
    rintro e yy5 ⟨rfl, hby⟩
    rw [decide_eq_true rfl]
    have HBY := mkHid (below_next HBY.out hby)
    clear hby k7 k8 k11 k13 k15 k17
    obtain ⟨k7, k8, k11, k13, k15, k17⟩ := HK.out yy5 HBY.out
    go_wp2_with fail
    refine (awake_any _).mono ?_
    rintro e y9 ⟨rfl, hb9⟩
    go_wp2_with fail
    go_ret
    exact ⟨rfl, HBW.out.trans ((below_next HBY.out hb9).mono HBW.out.size)⟩
set_option maxRecDepth 20000 in
set_option maxHeartbeats 8000000 in
theorem turns_not (a : Option Addr) (n c : Nat) (xs : List (Int × Int)) (d size : Int) (w : World) (hs : ES w w.heap.size a n xs) (hc : CapOk n c) (hd : I64 d) (hz : I64 size) (hn : n ≤ 100) (hr : rightL xs = true) (h0 : (addOf xs size).1 ≠ 0) :
    Calls Try.prog 5 #[.slice a n c, .int .i64 d, .int .i64 size] w fun e w' => e = .returned (.bool true) ∧ Below w.heap.size w w' := by
  have HS := mkHid hs
  have HL := mkHid hs.len
  have HC := mkHid hc
  have HZ := mkHid hz
  have HD := mkHid hd
  obtain ⟨hz0, hz1⟩ := hz
  obtain ⟨hd0, hd1⟩ := hd
  obtain ⟨hc1, hc2, hc3⟩ := hc

  obtain ⟨hb1, hb2⟩ := raddOf_bad h0
  obtain ⟨E, hE⟩ : ∃ E, (addOf xs size).1 = E := ⟨_, rfl⟩
  have E1 := mkHid (show addOf xs size = (E, []) from Prod.ext hE hb1)
  have E1' := mkHid hb2
  rw [hE] at h0
  have gE : (E == 0) = false := by simpa using h0
  have gE' : (E != 0) = true := by rw [bne_iff_ne]; exact h0
  clear hE hb1 hb2 h0
  have R1 := mkHid (radd_eq hr size)
  have R2 := mkHid (rgrow_eq hr d size)
  have R3 := mkHid (rdrain_eq hr d)
  have R4 := mkHid (rturn_eq hr d 2 1 (by omega))
  have R5 := mkHid (rturn_eq hr d 2 3 (by omega))
  obtain ⟨r2, hr2⟩ : ∃ r, withOf xs d (growF size) = r := ⟨_, rfl⟩
  obtain ⟨r3, hr3⟩ : ∃ r, drainOf xs d = r := ⟨_, rfl⟩
  obtain ⟨r4, hr4⟩ : ∃ r, withOf xs d (turnF 2 1) = r := ⟨_, rfl⟩
  obtain ⟨r5, hr5⟩ : ∃ r, withOf xs d (turnF 2 3) = r := ⟨_, rfl⟩
  have E2 := mkHid hr2
  have E3 := mkHid hr3
  have E4 := mkHid hr4
  have E5 := mkHid hr5
  rw [hr2] at R2
  rw [hr3] at R3
  rw [hr4] at R4
  rw [hr5] at R5
  rw [E1.out] at R1
  have HR := mkHid hr
  clear hs hr hr2 hr3 hr4 hr5
  go_enter Try.func5, Try.ntmps5
  go_wp2_with fail
  refine (of_any a n c xs w HS.out HC.out (by omega)).mono ?_
  rintro e w1 ⟨A0, c0, rfl, hes0, hcap0, hb1⟩
  rw [HL.out] at hes0 hcap0 ⊢
  obtain ⟨W1, hW1⟩ : ∃ W, w1.alloc (.cells #[.slice A0 n c0] 27) = W := ⟨_, rfl⟩
  have hal : Below w1.heap.size w1 W1 := by rw [← hW1]; exact (Below.refl _ _).alloc (Nat.le_refl _) _
  have hq0 : W1.heap[w1.heap.size]? = some (.cells #[.slice A0 n c0] 27) := by rw [← hW1]; exact heap_alloc_new _ _
  have HES0 := mkHid (hes0.next hal)
  have HCAP0 := mkHid hcap0
  have HBW := mkHid (hb1.trans (hal.mono hb1.size))
  have c7 := cell_of_row W1 w1.heap.size 0 _ _ _ hq0
  simp at c7
  clear hes0 hal hcap0 hb1
  go_wp2_with fail
  refine (add_any A0 n c0 xs size W1 HES0.out HCAP0.out HZ.out).mono ?_
  clear hW1 c7
  rintro e v1 ⟨A1, c1, rfl, hes, hcap, hb⟩
  rw [E1.out] at hes hcap ⊢
  rw [E1'.out]
  simp only at hes hcap ⊢
  simp only [List.length_nil] at hes hcap ⊢
  obtain ⟨W2, hW2⟩ : ∃ W, v1.alloc (.cells #[.slice A1 0 c1] 27) = W := ⟨_, rfl⟩
  have hal : Below v1.heap.size v1 W2 := by rw [← hW2]; exact (Below.refl _ _).alloc (Nat.le_refl _) _
  have hq1 : W2.heap[v1.heap.size]? = some (.cells #[.slice A1 0 c1] 27) := by rw [← hW2]; exact heap_alloc_new _ _
  have HES1 := mkHid (hes.next hal)
  have HCAP1 := mkHid hcap
  have hB := below_next hb hal
  have hq0 := (hB.block _ (Array.getElem?_eq_some_iff.1 hq0).1).trans hq0
  have HES0 := mkHid (HES0.out.next hB)
  have HBW := mkHid (HBW.out.trans (hB.mono HBW.out.size))
  have c7 := cell_of_row W2 w1.heap.size 0 _ _ _ hq0
  simp at c7
  clear hal hB hes hcap hb
  go_wp2_with fail
  refine (grow_any A0 n c0 xs d size W2 HES0.out HCAP0.out HD.out HZ.out).mono ?_
  clear hW2 c7
  rintro e v2 ⟨A2, c2, rfl, hes, hcap, hb⟩
  rw [E2.out] at hes hcap ⊢
  simp only at hes hcap ⊢
  obtain ⟨W3, hW3⟩ : ∃ W, v2.alloc (.cells #[.slice A2 r2.2.length c2] 27) = W := ⟨_, rfl⟩
  have hal : Below v2.heap.size v2 W3 := by rw [← hW3]; exact (Below.refl _ _).alloc (Nat.le_refl _) _
  have hq2 : W3.heap[v2.heap.size]? = some (.cells #[.slice A2 r2.2.length c2] 27) := by rw [← hW3]; exact heap_alloc_new _ _
  have HES2 := mkHid (hes.next hal)
  have HCAP2 := mkHid hcap
  have hB := below_next hb hal
  have hq0 := (hB.block _ (Array.getElem?_eq_some_iff.1 hq0).1).trans hq0
  have HES0 := mkHid (HES0.out.next hB)
  have hq1 := (hB.block _ (Array.getElem?_eq_some_iff.1 hq1).1).trans hq1
  have HES1 := mkHid (HES1.out.next hB)
  have HBW := mkHid (HBW.out.trans (hB.mono HBW.out.size))
  have c7 := cell_of_row W3 w1.heap.size 0 _ _ _ hq0
  simp at c7
  clear hal hB hes hcap hb
  go_wp2_with fail
  refine (drain_any A0 n c0 xs d W3 HES0.out HCAP0.out HD.out).mono ?_
  clear hW3 c7
  rintro e v3 ⟨A3, c3, rfl, hes, hcap, hb⟩
  rw [E3.out] at hes hcap ⊢
  simp only at hes hcap ⊢
  obtain ⟨W4, hW4⟩ : ∃ W, v3.alloc (.cells #[.slice A3 r3.2.length c3] 27) = W := ⟨_, rfl⟩
  have hal : Below v3.heap.size v3 W4 := by rw [← hW4]; exact (Below.refl _ _).alloc (Nat.le_refl _) _
  have hq3 : W4.heap[v3.heap.size]? = some (.cells #[.slice A3 r3.2.length c3] 27) := by rw [← hW4]; exact heap_alloc_new _ _
  have HES3 := mkHid (hes.next hal)
  have HCAP3 := mkHid hcap
  have hB := below_next hb hal
  have hq0 := (hB.block _ (Array.getElem?_eq_some_iff.1 hq0).1).trans hq0
  have HES0 := mkHid (HES0.out.next hB)
  have hq1 := (hB.block _ (Array.getElem?_eq_some_iff.1 hq1).1).trans hq1
  have HES1 := mkHid (HES1.out.next hB)
  have hq2 := (hB.block _ (Array.getElem?_eq_some_iff.1 hq2).1).trans hq2
  have HES2 := mkHid (HES2.out.next hB)
  have HBW := mkHid (HBW.out.trans (hB.mono HBW.out.size))
  have c7 := cell_of_row W4 w1.heap.size 0 _ _ _ hq0
  simp at c7
  clear hal hB hes hcap hb
  go_wp2_with fail
  refine (cancel_any A0 n c0 xs d W4 HES0.out HCAP0.out HD.out).mono ?_
  clear hW4 c7
  rintro e v4 ⟨A4, c4, rfl, hes, hcap, hb⟩
  rw [E4.out] at hes hcap ⊢
  simp only at hes hcap ⊢
  obtain ⟨W5, hW5⟩ : ∃ W, v4.alloc (.cells #[.slice A4 r4.2.length c4] 27) = W := ⟨_, rfl⟩
  have hal : Below v4.heap.size v4 W5 := by rw [← hW5]; exact (Below.refl _ _).alloc (Nat.le_refl _) _
  have hq4 : W5.heap[v4.heap.size]? = some (.cells #[.slice A4 r4.2.length c4] 27) := by rw [← hW5]; exact heap_alloc_new _ _
  have HES4 := mkHid (hes.next hal)
  have HCAP4 := mkHid hcap
  have hB := below_next hb hal
  have hq0 := (hB.block _ (Array.getElem?_eq_some_iff.1 hq0).1).trans hq0
  have HES0 := mkHid (HES0.out.next hB)
  have hq1 := (hB.block _ (Array.getElem?_eq_some_iff.1 hq1).1).trans hq1
  have HES1 := mkHid (HES1.out.next hB)
  have hq2 := (hB.block _ (Array.getElem?_eq_some_iff.1 hq2).1).trans hq2
  have HES2 := mkHid (HES2.out.next hB)
  have hq3 := (hB.block _ (Array.getElem?_eq_some_iff.1 hq3).1).trans hq3
  have HES3 := mkHid (HES3.out.next hB)
  have HBW := mkHid (HBW.out.trans (hB.mono HBW.out.size))
  have c7 := cell_of_row W5 w1.heap.size 0 _ _ _ hq0
  simp at c7
  clear hal hB hes hcap hb
  go_wp2_with fail
  refine (remove_any A0 n c0 xs d W5 HES0.out HCAP0.out HD.out).mono ?_
  clear hW5 c7
  rintro e v5 ⟨A5, c5, rfl, hes, hcap, hb⟩
  rw [E5.out] at hes hcap ⊢
  simp only at hes hcap ⊢
  obtain ⟨W6, hW6⟩ : ∃ W, v5.alloc (.cells #[.slice A5 r5.2.length c5] 27) = W := ⟨_, rfl⟩
  have hal : Below v5.heap.size v5 W6 := by rw [← hW6]; exact (Below.refl _ _).alloc (Nat.le_refl _) _
  have hq5 : W6.heap[v5.heap.size]? = some (.cells #[.slice A5 r5.2.length c5] 27) := by rw [← hW6]; exact heap_alloc_new _ _
  have HES5 := mkHid (hes.next hal)
  have HCAP5 := mkHid hcap
  have hB := below_next hb hal
  have hq0 := (hB.block _ (Array.getElem?_eq_some_iff.1 hq0).1).trans hq0
  have HES0 := mkHid (HES0.out.next hB)
  have hq1 := (hB.block _ (Array.getElem?_eq_some_iff.1 hq1).1).trans hq1
  have HES1 := mkHid (HES1.out.next hB)
  have hq2 := (hB.block _ (Array.getElem?_eq_some_iff.1 hq2).1).trans hq2
  have HES2 := mkHid (HES2.out.next hB)
  have hq3 := (hB.block _ (Array.getElem?_eq_some_iff.1 hq3).1).trans hq3
  have HES3 := mkHid (HES3.out.next hB)
  have hq4 := (hB.block _ (Array.getElem?_eq_some_iff.1 hq4).1).trans hq4
  have HES4 := mkHid (HES4.out.next hB)
  have HBW := mkHid (HBW.out.trans (hB.mono HBW.out.size))
  have c7 := cell_of_row W6 w1.heap.size 0 _ _ _ hq0
  simp at c7
  clear hal hB hes hcap hb
  have HK := mkHid (show ∀ Z, Below W6.heap.size W6 Z → Z.cell? ⟨w1.heap.size, 0, none⟩ = some (.slice A0 n c0) ∧ Z.cell? ⟨v1.heap.size, 0, none⟩ = some (.slice A1 0 c1) ∧ Z.cell? ⟨v2.heap.size, 0, none⟩ = some (.slice A2 r2.2.length c2) ∧ Z.cell? ⟨v3.heap.size, 0, none⟩ = some (.slice A3 r3.2.length c3) ∧ Z.cell? ⟨v4.heap.size, 0, none⟩ = some (.slice A4 r4.2.length c4) ∧ Z.cell? ⟨v5.heap.size, 0, none⟩ = some (.slice A5 r5.2.length c5) from fun Z hZ => ⟨cell_of_row Z w1.heap.size 0 _ _ _ ((hZ.block _ (Array.getElem?_eq_some_iff.1 hq0).1).trans hq0), cell_of_row Z v1.heap.size 0 _ _ _ ((hZ.block _ (Array.getElem?_eq_some_iff.1 hq1).1).trans hq1), cell_of_row Z v2.heap.size 0 _ _ _ ((hZ.block _ (Array.getElem?_eq_some_iff.1 hq2).1).trans hq2), cell_of_row Z v3.heap.size 0 _ _ _ ((hZ.block _ (Array.getElem?_eq_some_iff.1 hq3).1).trans hq3), cell_of_row Z v4.heap.size 0 _ _ _ ((hZ.block _ (Array.getElem?_eq_some_iff.1 hq4).1).trans hq4), cell_of_row Z v5.heap.size 0 _ _ _ ((hZ.block _ (Array.getElem?_eq_some_iff.1 hq5).1).trans hq5)⟩)
  clear hq0 hq1 hq2 hq3 hq4 hq5
  go_wp2_with fail
  refine (same_any A0 n c0 xs a n c xs W6 HES0.out HCAP0.out (HS.out.next HBW.out) HC.out).mono ?_
  clear hW6 c7
  rintro e y0 ⟨rfl, hby⟩
  rw [decide_eq_true rfl]
  have HBY := mkHid hby
  clear hby
  go_wp2_with fail
  refine (rright_any a n c xs y0 (HS.out.next (HBW.out.trans (HBY.out.mono HBW.out.size))) HC.out).mono ?_
  rintro e w' ⟨rfl, rfl⟩
  rw [HR.out]
  obtain ⟨k7, k8, k11, k13, k15, k17⟩ := HK.out y0 HBY.out
  go_wp2_with fail
  refine (radd_any a n c xs size y0 (HS.out.next (HBW.out.trans (HBY.out.mono HBW.out.size))) (by omega) HZ.out).mono ?_
  rintro e z1 ⟨B1, d1, rfl, hesr, hcapr, hby⟩
  rw [← R1.out] at hesr hcapr ⊢
  simp only at hesr hcapr ⊢
  simp only [List.length_nil] at hesr hcapr ⊢
  have HBY := mkHid (below_next HBY.out hby)
  have HER := mkHid hesr
  have HCR := mkHid hcapr
  clear hesr hcapr hby k7 k8 k11 k13 k15 k17
  obtain ⟨k7, k8, k11, k13, k15, k17⟩ := HK.out z1 HBY.out
  go_upto_region 14 with (fail)
  go_cut [156] (fun v wc => v = .bool false ∧ Hid (Below W6.heap.size W6 wc))
  case first =>
    go_wp2_with fail
    refine (check_ok A0 n c0 xs z1 (HES0.out.next HBY.out) HCAP0.out HR.out).mono ?_
    rintro e y3 ⟨rfl, hby⟩
    have HER := mkHid (HER.out.next hby)
    have HBY := mkHid (below_next HBY.out hby)
    clear hby k7 k8 k11 k13 k15 k17
    obtain ⟨k7, k8, k11, k13, k15, k17⟩ := HK.out y3 HBY.out
    go_wp2_with fail
    refine (is_err E E _).mono ?_
    rintro e w' ⟨rfl, rfl⟩
    rw [show (E == E) = true from beq_self_eq_true _]
    go_wp2_with fail
    refine (same_any A1 0 c1 _ B1 0 d1 _ y3 (HES1.out.next HBY.out) HCAP1.out HER.out HCR.out).mono ?_
    rintro e y4 ⟨rfl, hby⟩
    rw [decide_eq_true rfl]
    have HBY := mkHid (below_next HBY.out hby)
    clear hby
    by_cases hn0 : n = 0
    · have gn0 : ((n : Int) != 0) = false := by simp; omega
      have gn1 : ((0 : Int) != (n : Int)) = false := by simp; omega
      clear hn0
      go_wp2_with fail
      go_meet
      case rel => exact ⟨rfl, HBY⟩
    · have gn0 : ((n : Int) != 0) = true := by simp; omega
      have gn1 : ((0 : Int) != (n : Int)) = true := by simp; omega
      clear hn0
      go_wp2_with fail
      go_meet
      case rel => exact ⟨rfl, HBY⟩
  case rest =>
    clear HBY k7 k8 k11 k13 k15 k17
    obtain ⟨rfl, HBY⟩ := hcut
    obtain ⟨k7, k8, k11, k13, k15, k17⟩ := HK.out wc HBY.out
    go_wp2_with fail
    refine (rgrow_any a n c xs d size wc (HS.out.next (HBW.out.trans (HBY.out.mono HBW.out.size))) HC.out (by omega) HD.out HZ.out).mono ?_
    rintro e z2 ⟨B2, d2, rfl, hesr, hcapr, hby⟩
    rw [← R2.out] at hesr hcapr ⊢
    have HBY := mkHid (below_next HBY.out hby)
    have HER := mkHid hesr
    have HCR := mkHid hcapr
    clear hesr hcapr hby k7 k8 k11 k13 k15 k17
    obtain ⟨k7, k8, k11, k13, k15, k17⟩ := HK.out z2 HBY.out
    go_wp2_with fail
    refine (is_err r2.1 r2.1 _).mono ?_
    rintro e w' ⟨rfl, rfl⟩
    rw [show (r2.1 == r2.1) = true from beq_self_eq_true _]
    go_wp2_with fail
    refine (same_any A2 r2.2.length c2 _ B2 r2.2.length d2 _ z2 (HES2.out.next HBY.out) HCAP2.out HER.out HCR.out).mono ?_
    rintro e yy2 ⟨rfl, hby⟩
    rw [decide_eq_true rfl]
    have HBY := mkHid (below_next HBY.out hby)
    clear hby k7 k8 k11 k13 k15 k17
    obtain ⟨k7, k8, k11, k13, k15, k17⟩ := HK.out yy2 HBY.out
    go_wp2_with fail
    refine (rturn_any a n c xs d 1 2 yy2 (HS.out.next (HBW.out.trans (HBY.out.mono HBW.out.size))) HC.out (by omega) HD.out (by unfold I64; omega)).mono ?_
    rintro e z3 ⟨B3, d3, rfl, hesr, hcapr, hby⟩
    rw [← R3.out] at hesr hcapr ⊢
    have HBY := mkHid (below_next HBY.out hby)
    have HER := mkHid hesr
    have HCR := mkHid hcapr
    clear hesr hcapr hby k7 k8 k11 k13 k15 k17
    obtain ⟨k7, k8, k11, k13, k15, k17⟩ := HK.out z3 HBY.out
    go_wp2_with fail
    refine (is_err r3.1 r3.1 _).mono ?_
    rintro e w' ⟨rfl, rfl⟩
    rw [show (r3.1 == r3.1) = true from beq_self_eq_true _]
    go_wp2_with fail
    refine (same_any A3 r3.2.length c3 _ B3 r3.2.length d3 _ z3 (HES3.out.next HBY.out) HCAP3.out HER.out HCR.out).mono ?_
    rintro e yy3 ⟨rfl, hby⟩
    rw [decide_eq_true rfl]
    have HBY := mkHid (below_next HBY.out hby)
    clear hby k7 k8 k11 k13 k15 k17
    obtain ⟨k7, k8, k11, k13, k15, k17⟩ := HK.out yy3 HBY.out
    go_wp2_with fail
    refine (rturn_any a n c xs d 2 1 yy3 (HS.out.next (HBW.out.trans (HBY.out.mono HBW.out.size))) HC.out (by omega) HD.out (by unfold I64; omega)).mono ?_
    rintro e z4 ⟨B4, d4, rfl, hesr, hcapr, hby⟩
    rw [← R4.out] at hesr hcapr ⊢
    have HBY := mkHid (below_next HBY.out hby)
    have HER := mkHid hesr
    have HCR := mkHid hcapr
    clear hesr hcapr hby k7 k8 k11 k13 k15 k17
    obtain ⟨k7, k8, k11, k13, k15, k17⟩ := HK.out z4 HBY.out
    go_wp2_with fail
    refine (is_err r4.1 r4.1 _).mono ?_
    rintro e w' ⟨rfl, rfl⟩
    rw [show (r4.1 == r4.1) = true from beq_self_eq_true _]
    go_wp2_with fail
    refine (same_any A4 r4.2.length c4 _ B4 r4.2.length d4 _ z4 (HES4.out.next HBY.out) HCAP4.out HER.out HCR.out).mono ?_
    rintro e yy4 ⟨rfl, hby⟩
    rw [decide_eq_true rfl]
    have HBY := mkHid (below_next HBY.out hby)
    clear hby k7 k8 k11 k13 k15 k17
    obtain ⟨k7, k8, k11, k13, k15, k17⟩ := HK.out yy4 HBY.out
    go_wp2_with fail
    refine (rturn_any a n c xs d 2 3 yy4 (HS.out.next (HBW.out.trans (HBY.out.mono HBW.out.size))) HC.out (by omega) HD.out (by unfold I64; omega)).mono ?_
    rintro e z5 ⟨B5, d5, rfl, hesr, hcapr, hby⟩
    rw [← R5.out] at hesr hcapr ⊢
    have HBY := mkHid (below_next HBY.out hby)
    have HER := mkHid hesr
    have HCR := mkHid hcapr
    clear hesr hcapr hby k7 k8 k11 k13 k15 k17
    obtain ⟨k7, k8, k11, k13, k15, k17⟩ := HK.out z5 HBY.out
    go_wp2_with fail
    refine (is_err r5.1 r5.1 _).mono ?_
    rintro e w' ⟨rfl, rfl⟩
    rw [show (r5.1 == r5.1) = true from beq_self_eq_true _]
    go_wp2_with fail
    refine (same_any A5 r5.2.length c5 _ B5 r5.2.length d5 _ z5 (HES5.out.next HBY.out) HCAP5.out HER.out HCR.out).mono ?_
    rintro e yy5 ⟨rfl, hby⟩
    rw [decide_eq_true rfl]
    have HBY := mkHid (below_next HBY.out hby)
    clear hby k7 k8 k11 k13 k15 k17
    obtain ⟨k7, k8, k11, k13, k15, k17⟩ := HK.out yy5 HBY.out
    go_wp2_with fail
    refine (awake_any _).mono ?_
    rintro e y9 ⟨rfl, hb9⟩
    go_wp2_with fail
    go_ret
    exact ⟨rfl, HBW.out.trans ((below_next HBY.out hb9).mono HBW.out.size)⟩
set_option maxRecDepth 20000 in
theorem rosterTurns_any (a : Option Addr) (n c : Nat) (xs : List (Int × Int)) (d size : Int) (w : World) (hs : ES w w.heap.size a n xs) (hc : CapOk n c) (hd : I64 d) (hz : I64 size) :
    Calls Try.prog 5 #[.slice a n c, .int .i64 d, .int .i64 size] w fun e w' => e = .returned (.bool true) ∧ Below w.heap.size w w' := by
  by_cases hn : n ≤ 100
  · cases hr : rightL xs with
    | false => exact turns_no a n c xs d size w hs hc hd hz hn hr
    | true =>
      by_cases h0 : (addOf xs size).1 = 0
      · exact turns_add a n c xs d size w hs hc hd hz hn hr h0
      · exact turns_not a n c xs d size w hs hc hd hz hn hr h0
  · obtain ⟨hc1, hc2, hc3⟩ := hc
    clear hs hd hz
    go_enter Try.func5, Try.ntmps5
    go_wp2_with fail
    refine (awake_any _).mono ?_
    rintro e w1 ⟨rfl, hb1⟩
    go_wp2_with fail
    go_ret
    exact ⟨rfl, hb1⟩

end Go.Proofs.Ytlpgeocoddehgaa
