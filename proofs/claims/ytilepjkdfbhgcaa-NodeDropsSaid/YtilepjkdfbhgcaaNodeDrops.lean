/- portagelaw10.NodeDrops answers true. -/
import Derived.Test.YtilepjkdfbhgcaaNdT
namespace Go.Proofs.Ytilepjkdfbhgcaa
open Go.RowKit Go.Shelf

theorem pick_in (p : Int) {L : Nat} (h : 0 < L) (hL : L ≤ 7) : ∃ j : Nat, j < L ∧ (p.tmod L + L).tmod L = (j : Int) ∧ IntKind.i64.wrap (p.tmod L + L) = p.tmod L + L := by
  have h1 := Int.tmod_lt_of_pos p (show (0 : Int) < L by omega)
  have h2 : -(L : Int) < p.tmod L := by
    have := Int.tmod_lt_of_pos (-p) (show (0 : Int) < L by omega)
    rw [Int.neg_tmod] at this
    omega
  have h3 : 0 ≤ (p.tmod L + L).tmod L := Int.tmod_nonneg _ (by omega)
  have h4 := Int.tmod_lt_of_pos (p.tmod L + L) (show (0 : Int) < L by omega)
  exact ⟨((p.tmod L + L).tmod L).toNat, by omega, by omega, IntWalk.i64_in _ (by omega)⟩

set_option maxRecDepth 20000 in
set_option maxHeartbeats 8000000 in
theorem nodeDrops_any (lv : Int) (a a' : Option Addr) (n m c c' : Nat) (ks vs : List Int) (ap : Option Addr) (np cp : Nat) (ps : List Int) (w : World) (hk : IS w w.heap.size a n ks) (hv : IS w w.heap.size a' m vs) (hp : IS w w.heap.size ap np ps) :
    Calls Try.prog 8 #[.agg #[.int .i64 lv, .slice a n c, .slice a' m c'], .slice ap np cp] w fun e w' => e = .returned (.bool true) ∧ Below w.heap.size w w' := by
  have HLK := mkHid hk.len
  have HLV := mkHid hv.len
  obtain ⟨W, hW⟩ : ∃ W, w.alloc (.cells #[.int .i64 lv, .slice a n c, .slice a' m c'] 24) = W := ⟨_, rfl⟩
  have HAL := mkHid (show Below w.heap.size w W by rw [← hW]; exact below_al (Below.refl _ _) _)
  have HKS := mkHid ((hk.below HAL.out).more HAL.out.size)
  have HVS := mkHid ((hv.below HAL.out).more HAL.out.size)
  have hQ : W.heap[w.heap.size]? = some (.cells #[.int .i64 lv, .slice a n c, .slice a' m c'] 24) := by rw [← hW]; exact heap_alloc_new _ _
  have HK := mkHid (show ∀ Z, Below W.heap.size W Z → (Z.cell? ⟨w.heap.size, 0, none⟩ = some (.int .i64 lv) ∧ Z.cell? ⟨w.heap.size, 1, none⟩ = some (.slice a n c) ∧ Z.cell? ⟨w.heap.size, 2, none⟩ = some (.slice a' m c')) from fun Z hZ =>
    have h := (hZ.block _ (Array.getElem?_eq_some_iff.1 hQ).1).trans hQ
    ⟨cell_of_row Z w.heap.size 0 _ _ _ h, cell_of_row Z w.heap.size 1 _ _ _ h, cell_of_row Z w.heap.size 2 _ _ _ h⟩)
  obtain ⟨k0, k1, k2⟩ := HK.out W (Below.refl _ _)
  have HPS := mkHid ((hp.below HAL.out).more HAL.out.size)
  clear hk hv hQ hp
  go_enter Try.func8, Try.ntmps8
  go_wp2_with fail
  clear hW
  refine (dright_any lv a a' n m c c' ks vs W HKS.out HVS.out).mono ?_
  rintro e w2 ⟨rfl, hb2⟩
  have HB2 := mkHid hb2
  clear hb2 k0 k1 k2
  cases hr : rightN lv ks vs with
  | false =>
    clear hr
    go_wp2_with fail
    refine (awake_any _).mono ?_
    rintro e w3 ⟨rfl, hb3⟩
    have HB3 := mkHid (HAL.out.trans ((below_next HB2.out hb3).mono HAL.out.size))
    clear hb3
    go_wp2_with fail
    go_ret
    exact ⟨rfl, HB3.out⟩
  | true =>
    have HRI := mkHid (Rise.of hr)
    have HPL := mkHid (pairs_len (rightN_ok hr).2.2.1)
    have hlv : 0 ≤ lv ∧ lv ≤ 20 := ⟨(rightN_ok hr).1, (rightN_ok hr).2.1⟩
    have HLL := mkHid hlv
    clear hlv
    have HR := mkHid hr
    have hok := rightN_ok hr
    obtain ⟨_, _, hlen, h1n, hn7, hsr, _⟩ := hok
    have HSR := mkHid hsr
    rw [HLK.out] at h1n hn7
    rw [HLK.out, HLV.out] at hlen
    subst hlen
    have HFT := mkHid (keys_fit hr)
    clear hr hsr
    clear HFT
    obtain ⟨k0, k1, k2⟩ := HK.out w2 HB2.out
    by_cases hnp : np < n
    · have hnp2 : (np : Int) < (n : Int) := by omega
      go_wp2_with fail
      refine (awake_any _).mono ?_
      rintro e w3 ⟨rfl, hb3⟩
      have HB3 := mkHid (HAL.out.trans ((below_next HB2.out hb3).mono HAL.out.size))
      clear hb3
      go_wp2_with fail
      go_ret
      exact ⟨rfl, HB3.out⟩
    have hnp1 : n ≤ np := by omega
    clear hnp
    go_wp2_with fail
    refine (lof_any lv a a' n n c c' ks vs w2 ((HKS.out.below HB2.out).more HB2.out.size) ((HVS.out.below HB2.out).more HB2.out.size) (by omega) (by omega)).mono ?_
    rintro e w3 ⟨_, rfl, ⟨A1, n1, C1, B1, m1, D1, rfl, i1, i2, _, _⟩, _, hb3⟩
    obtain rfl : n = n1 := by rw [← i1.len, HLK.out]
    obtain rfl : n = m1 := by rw [← i2.len, HLV.out]
    have hn1 : ∀ ad : Addr, A1 = some ad → ad.block ≠ w3.heap.size := fun ad h => by obtain ⟨b, o, e, hb, _⟩ := i1.at_ (j := 0) (by omega); rw [e] at h; injection h with h; subst h; simp only; omega
    have hn2 : ∀ ad : Addr, B1 = some ad → ad.block ≠ w3.heap.size := fun ad h => by obtain ⟨b, o, e, hb, _⟩ := i2.at_ (j := 0) (by omega); rw [e] at h; injection h with h; subst h; simp only; omega
    obtain ⟨W4, hW4⟩ : ∃ W4, w3.alloc (.cells #[.int .i64 lv, .slice A1 n C1, .slice B1 n D1] 32) = W4 := ⟨_, rfl⟩
    have hal4 : Below w3.heap.size w3 W4 := by rw [← hW4]; exact below_al (Below.refl _ _) _
    have HB4 := mkHid (below_next HB2.out (below_next hb3 hal4))
    have hQ4 : W4.heap[w3.heap.size]? = some (.cells #[.int .i64 lv, .slice A1 n C1, .slice B1 n D1] 32) := by rw [← hW4]; exact heap_alloc_new _ _
    have hX : W.heap.size ≤ w3.heap.size := (below_next HB2.out hb3).size
    have hXX : w3.heap.size < W4.heap.size := (Array.getElem?_eq_some_iff.1 hQ4).1
    have HI1 := mkHid ((i1.below hal4).more hal4.size)
    have HI2 := mkHid ((i2.below hal4).more hal4.size)
    have HQ4 := mkHid hQ4
    have HN1 := mkHid hn1
    have HN2 := mkHid hn2
    clear i1 i2 hb3 hal4 hQ4 k0 k1 k2 hn1 hn2
    obtain ⟨k0, k1, k2⟩ := HK.out W4 HB4.out
    go_wp2_with fail
    clear k0 k1 k2 hW4
    go_loopw [6, 7, 8, 9, 10, 11, 12, 13, 33] (fun _ _ _ _ _ _ _ _ i wr => ∃ (k L : Nat) (l : List (Int × Int)) (A : Option Addr) (C : Nat) (B : Option Addr) (D : Nat), k + L = n ∧ i = .int .i64 k ∧ Hid (Below W.heap.size W wr) ∧ Hid (l.length = L) ∧ Hid (Rise l) ∧ Hid (wr.heap[w3.heap.size]? = some (.cells #[.int .i64 lv, .slice A L C, .slice B L D] 32)) ∧ Hid (IS wr wr.heap.size A L (keysOf l)) ∧ Hid (IS wr wr.heap.size B L (valsOf l)) ∧ Hid (∀ ad : Addr, A = some ad → ad.block ≠ w3.heap.size) ∧ Hid (∀ ad : Addr, B = some ad → ad.block ≠ w3.heap.size)) (fun _ _ _ _ _ _ _ _ i _ => n - (intOf i).toNat)
    case atStart => exact ⟨0, n, pairsOf ks vs, A1, C1, B1, D1, by omega, rfl, HB4, mkHid (by rw [HPL.out, HLK.out]), HRI, HQ4, mkHid (by rw [keys_pairs (by rw [HLK.out, HLV.out])]; exact HI1.out), mkHid (by rw [vals_pairs (by rw [HLK.out, HLV.out])]; exact HI2.out), HN1, HN2⟩
    case round =>
      clear HQ4 HI1 HI2 HN1 HN2 HB4
      obtain ⟨k, L, l, A, C, B, D, hkL, rfl, HB, HLE, HRS, HQ, HI1, HI2, HN1, HN2⟩ := hrel
      have x0 := cell_of_row wr w3.heap.size 0 _ _ _ HQ.out
      have x1 := cell_of_row wr w3.heap.size 1 _ _ _ HQ.out
      have x2 := cell_of_row wr w3.heap.size 2 _ _ _ HQ.out
      simp at x0 x1 x2
      have hXw : w3.heap.size < wr.heap.size := (Array.getElem?_eq_some_iff.1 HQ.out).1
      by_cases hlt : k < n
      · obtain ⟨bp, op, rfl, hbp, hcp, _, _⟩ := HPS.out.at_ (j := k) (by omega)
        have d1 := (HB.out.cell (p := ⟨bp, op + k, none⟩) hbp).trans hcp
        have hknp : (k : Int) < (np : Int) := by omega
        have hkn2 : k < np := by omega
        generalize ps[k]?.getD 0 = p at *
        obtain ⟨j, hj, er1, er2⟩ := pick_in p (L := L) (by omega) (by omega)
        obtain ⟨b, o, rfl, hb, hck, hz0, hz1⟩ := HI1.out.at_ hj
        have HX := mkHid (getD_some (l := keysOf l) (k := j) (by rw [keys_len, HLE.out]; exact hj))
        generalize (keysOf l)[j]?.getD 0 = key at *
        have hL0 : ((L : Int) == 0) = false := by simp; omega
        have hL1 : ¬ ((L : Int) = 0) := by omega
        have hjL : (j : Int) < (L : Int) := by omega
        clear hcp hz0 hz1
        have hq0 := fun d os => cell_regrown x1 d os
        have hq1 := fun d os => cell_regrown d1 d os
        have hq2 := fun d os => cell_regrown hck d os
        go_wp2_with fail
        refine wp_region_quiet_below (by kernel_rfl) (by kernel_rfl) ?_
        repeat (go_big_quiet_step (fail))
        refine wpQuiet_nil ?_
        intro wy hw'
        obtain ⟨p9, hw''⟩ := hw'
        have hB9 := below_regrown wr p9.d p9.os
        rw [← hw''] at hB9
        clear hw'' p9
        have HBZ := mkHid (below_next HB.out hB9)
        have HBL := mkHid hB9
        clear hB9 hq0 hq1 hq2 
        obtain ⟨M, hM⟩ : ∃ M, M + 1 = L := ⟨L - 1, by omega⟩
        have e9 : IntKind.i64.wrap ((L : Int) - 1) = (M : Int) := (IntWalk.i64_in _ (by omega)).trans (by omega)
        have HQy := mkHid ((HBL.out.block w3.heap.size hXw).trans HQ.out)
        have HI1y := mkHid ((HI1.out.below HBL.out).more HBL.out.size)
        have HI2y := mkHid ((HI2.out.below HBL.out).more HBL.out.size)
        have hXy : w3.heap.size < wy.heap.size := Nat.lt_of_lt_of_le hXw HBL.out.size
        have hlv := HLL.out
        have HDO := mkHid (drop_at (lv := lv) HRS.out HLL.out (by rw [HLE.out]; omega) HX.out)
        have HM := mkHid hM
        have HER := mkHid (erase_not HRS.out HX.out)
        have HRS2 := mkHid (HRS.out.sub (List.eraseIdx_sublist l j))
        have HLE2 := mkHid (show (l.eraseIdx j).length = M by rw [List.length_eraseIdx_of_lt (by rw [HLE.out]; exact hj), HLE.out]; omega)
        have HBYW := mkHid HBZ.out
        clear x0 x1 x2 d1 hck er1 er2 hlv HQ HI1 HI2 HBL hM
        have x0 := cell_of_row wy w3.heap.size 0 _ _ _ HQy.out
        have x1 := cell_of_row wy w3.heap.size 1 _ _ _ HQy.out
        have x2 := cell_of_row wy w3.heap.size 2 _ _ _ HQy.out
        simp at x0 x1 x2
        go_wp2_with fail
        refine (drop_any lv (some ⟨b, o, none⟩) B L L C D (keysOf l) (valsOf l) key wy HI1y.out HI2y.out).mono ?_
        rintro e w5 ⟨_, rfl, hnd, hnew, hb5⟩
        rw [HDO.out] at hnd ⊢
        rw [errV_no]
        simp only [nodeOf] at hnd
        obtain ⟨E, q1, G, E', q2, G', rfl, i1, i2, _, _⟩ := hnd
        obtain ⟨hn1, hn2⟩ := hnew _ _ _ _ _ _ _ rfl
        have hq1 : q1 = M := by rw [← i1.len, keys_len, HLE2.out]
        have hq2 : q2 = M := by rw [← i2.len, vals_len, HLE2.out]
        subst hq1
        subst hq2
        obtain ⟨W6, hW6⟩ : ∃ W6, w5.alloc (.cells #[.int .i64 lv, .slice E q2 G, .slice E' q2 G'] 32) = W6 := ⟨_, rfl⟩
        have hal6 : Below w5.heap.size w5 W6 := by rw [← hW6]; exact below_al (Below.refl _ _) _
        have hQ6 : W6.heap[w5.heap.size]? = some (.cells #[.int .i64 lv, .slice E q2 G, .slice E' q2 G'] 32) := by rw [← hW6]; exact heap_alloc_new _ _
        have HY6 := mkHid (below_next hb5 hal6)
        have HB6 := mkHid (below_next HBYW.out HY6.out)
        have HK6 := mkHid (show ∀ Z, Below W6.heap.size W6 Z → (Z.cell? ⟨w5.heap.size, 0, none⟩ = some (.int .i64 lv) ∧ Z.cell? ⟨w5.heap.size, 1, none⟩ = some (.slice E q2 G) ∧ Z.cell? ⟨w5.heap.size, 2, none⟩ = some (.slice E' q2 G')) from fun Z hZ =>
          have h := (hZ.block _ (Array.getElem?_eq_some_iff.1 hQ6).1).trans hQ6
          ⟨cell_of_row Z w5.heap.size 0 _ _ _ h, cell_of_row Z w5.heap.size 1 _ _ _ h, cell_of_row Z w5.heap.size 2 _ _ _ h⟩)
        have HX6 := mkHid (show ∀ Z, Below W6.heap.size W6 Z → Z.heap[w3.heap.size]? = some (.cells #[.int .i64 lv, .slice (some ⟨b, o, none⟩) L C, .slice B L D] 32) from fun Z hZ => (hZ.block _ (Nat.lt_of_lt_of_le hXy HY6.out.size)).trans ((HY6.out.block _ hXy).trans HQy.out))
        have HJ1 := mkHid ((i1.below hal6).more hal6.size)
        have HJ2 := mkHid ((i2.below hal6).more hal6.size)
        have HN1' := mkHid (show ∀ ad : Addr, E = some ad → ad.block ≠ w3.heap.size from fun ad h => by have := hn1 ad h; omega)
        have HN2' := mkHid (show ∀ ad : Addr, E' = some ad → ad.block ≠ w3.heap.size from fun ad h => by have := hn2 ad h; omega)
        clear i1 i2 hn1 hn2 hnew hb5 hal6 hQ6 x0 x1 x2 HN1 HN2
        have x1 := cell_of_row W6 w3.heap.size 1 _ _ _ (HX6.out W6 (Below.refl _ _))
        simp at x1
        obtain ⟨y0, y1, y2⟩ := HK6.out W6 (Below.refl _ _)
        go_wp2_with fail
        clear hW6 x1 y0 y1 y2
        refine (find_any lv E E' q2 q2 G G' (keysOf (l.eraseIdx j)) key W6 HJ1.out (by have := HM.out; omega) (HRS2.out.rise.imp (fun h => by omega))).mono ?_
        rintro e w7 ⟨rfl, hb7⟩
        rw [find_no HER.out]
        generalize (lowOf (keysOf (l.eraseIdx j)) key : Int) = fl
        have HB7 := mkHid hb7
        clear hb7
        obtain ⟨y0, y1, y2⟩ := HK6.out w7 HB7.out
        by_cases hq0 : q2 = 0
        · have hq01 : (q2 : Int) ≤ 0 := by omega
          clear hq0
          have hQd := HX6.out w7 HB7.out
          have z0 := cell_of_row w7 w3.heap.size 0 _ _ _ hQd
          have z1 := cell_of_row w7 w3.heap.size 1 _ _ _ hQd
          have z2 := cell_of_row w7 w3.heap.size 2 _ _ _ hQd
          have f0 := frozen_of_row w7 w3.heap.size 0 _ _ hQd
          have f1 := frozen_of_row w7 w3.heap.size 1 _ _ hQd
          have f2 := frozen_of_row w7 w3.heap.size 2 _ _ hQd
          simp at z0 z1 z2
          have HQD := mkHid hQd
          clear hQd
          go_wp2_with fail
          go_roundw
          case measure => simp [intOf]; omega
          case rel =>
            refine ⟨k + 1, q2, l.eraseIdx j, E, G, E', G', by have := HM.out; omega, by go_num, mkHid ?_, HLE2, HRS2, mkHid ?_, mkHid ?_, mkHid ?_, HN1', HN2'⟩
            · exact (((below_next HB6.out HB7.out).setCell (p := ⟨w3.heap.size, 0, none⟩) hX _).setCell (p := ⟨w3.heap.size, 1, none⟩) hX _).setCell (p := ⟨w3.heap.size, 2, none⟩) hX _
            · rw [heap_setCell_same _ _ _ _ _ _ (heap_setCell_same _ _ _ _ _ _ (heap_setCell_same _ _ _ _ _ _ HQD.out))]; rfl
            · rw [setCell_size, setCell_size, setCell_size]
              exact IS.set_other (IS.set_other (IS.set_other ((HJ1.out.below HB7.out).more (HB7.out).size) HN1'.out) HN1'.out) HN1'.out
            · rw [setCell_size, setCell_size, setCell_size]
              exact IS.set_other (IS.set_other (IS.set_other ((HJ2.out.below HB7.out).more (HB7.out).size) HN2'.out) HN2'.out) HN2'.out
        · have hq01 : (0 : Int) < (q2 : Int) := by omega
          have hR2 := HRS2.out.right (lv := lv) HLL.out (by rw [HLE2.out]; omega) (by rw [HLE2.out]; have := HM.out; omega)
          have HDN := mkHid (drop_no hR2 HER.out)
          clear hR2
          go_wp2_with fail
          refine (drop_any lv E E' q2 q2 G G' (keysOf (l.eraseIdx j)) (valsOf (l.eraseIdx j)) key w7 ((HJ1.out.below HB7.out).more HB7.out.size) ((HJ2.out.below HB7.out).more HB7.out.size)).mono ?_
          rintro e w8 ⟨_, rfl, hnd, _, hb8⟩
          rw [HDN.out] at hnd ⊢
          rw [errV_of (by decide)]
          obtain ⟨U1, u1, U2, U3, u3, U4, rfl, _, _, _, _⟩ := hnd
          clear y0 y1 y2
          obtain ⟨W9, hW9⟩ : ∃ W9, w8.alloc (.cells #[.int .i64 0, .slice U1 u1 U2, .slice U3 u3 U4] 32) = W9 := ⟨_, rfl⟩
          have HB9 := mkHid (below_next HB7.out (show Below w7.heap.size w7 W9 by rw [← hW9]; exact below_al hb8 _))
          clear hb8
          obtain ⟨y0, y1, y2⟩ := HK6.out W9 HB9.out
          go_wp2_with fail
          clear hW9
          refine (is_code 81 81 _).mono ?_
          rintro e wz ⟨rfl, hwz⟩
          subst hwz
          rw [show ((81 : Int) != 0 && (81 : Int) == 81) = true from rfl]
          have hQd := HX6.out W9 HB9.out
          have z0 := cell_of_row W9 w3.heap.size 0 _ _ _ hQd
          have z1 := cell_of_row W9 w3.heap.size 1 _ _ _ hQd
          have z2 := cell_of_row W9 w3.heap.size 2 _ _ _ hQd
          have f0 := frozen_of_row W9 w3.heap.size 0 _ _ hQd
          have f1 := frozen_of_row W9 w3.heap.size 1 _ _ hQd
          have f2 := frozen_of_row W9 w3.heap.size 2 _ _ hQd
          simp at z0 z1 z2
          have HQD := mkHid hQd
          clear hQd
          go_wp2_with fail
          go_roundw
          case measure => simp [intOf]; omega
          case rel =>
            refine ⟨k + 1, q2, l.eraseIdx j, E, G, E', G', by have := HM.out; omega, by go_num, mkHid ?_, HLE2, HRS2, mkHid ?_, mkHid ?_, mkHid ?_, HN1', HN2'⟩
            · exact (((below_next HB6.out HB9.out).setCell (p := ⟨w3.heap.size, 0, none⟩) hX _).setCell (p := ⟨w3.heap.size, 1, none⟩) hX _).setCell (p := ⟨w3.heap.size, 2, none⟩) hX _
            · rw [heap_setCell_same _ _ _ _ _ _ (heap_setCell_same _ _ _ _ _ _ (heap_setCell_same _ _ _ _ _ _ HQD.out))]; rfl
            · rw [setCell_size, setCell_size, setCell_size]
              exact IS.set_other (IS.set_other (IS.set_other ((HJ1.out.below HB9.out).more (HB9.out).size) HN1'.out) HN1'.out) HN1'.out
            · rw [setCell_size, setCell_size, setCell_size]
              exact IS.set_other (IS.set_other (IS.set_other ((HJ2.out.below HB9.out).more (HB9.out).size) HN2'.out) HN2'.out) HN2'.out
      · obtain rfl : k = n := by omega
        obtain rfl : L = 0 := by omega
        have hl0 : l = [] := List.eq_nil_of_length_eq_zero HLE.out
        subst hl0
        have HDB := mkHid (drop_bad (lv := lv) (ks := []) (vs := []) (by unfold rightN; rw [decide_eq_false (by simp)]; rfl) 1)
        go_wp2_with fail
        refine (drop_any lv A B 0 0 C D [] [] 1 wr HI1.out HI2.out).mono ?_
        rintro e w5 ⟨_, rfl, hnd, _, hb5⟩
        rw [HDB.out] at hnd ⊢
        rw [errV_of (by decide)]
        obtain ⟨U1, u1, U2, U3, u3, U4, rfl, _, _, _, _⟩ := hnd
        obtain ⟨W6, hW6⟩ : ∃ W6, w5.alloc (.cells #[.int .i64 0, .slice U1 u1 U2, .slice U3 u3 U4] 32) = W6 := ⟨_, rfl⟩
        have hb6 : Below wr.heap.size wr W6 := by rw [← hW6]; exact below_al hb5 _
        have HB6 := mkHid (below_next HB.out hb6)
        have hQ6 := (hb6.block w3.heap.size hXw).trans HQ.out
        clear x0 x1 x2
        have x1 := cell_of_row W6 w3.heap.size 1 _ _ _ hQ6
        simp at x1
        clear hQ6 hb5 hb6
        go_wp2_with fail
        clear hW6
        refine (is_code 70 70 _).mono ?_
        rintro e wz ⟨rfl, hwz⟩
        subst hwz
        rw [show ((70 : Int) != 0 && (70 : Int) == 70) = true from rfl]
        go_wp2_with fail
        refine (awake_any _).mono ?_
        rintro e w7 ⟨rfl, hb7⟩
        have HB7 := mkHid (HAL.out.trans ((below_next HB6.out hb7).mono HAL.out.size))
        clear hb7
        go_wp2_with fail
        go_ret
        exact ⟨rfl, HB7.out⟩

end Go.Proofs.Ytilepjkdfbhgcaa
