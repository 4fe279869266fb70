/- portagelaw10.NodeBack answers true: two nodes come of it, the key is in the first. -/
import Derived.Test.YtilepjkdfbhgcaaNodeBackA
namespace Go.Proofs.Ytilepjkdfbhgcaa
open Go.RowKit Go.Shelf

set_option maxRecDepth 20000 in
set_option maxHeartbeats 8000000 in
theorem nodeBack_lo (lv : Int) (a a' : Option Addr) (n m c c' : Nat) (ks vs : List Int) (key val : Int) (w : World) (hk : IS w w.heap.size a n ks) (hv : IS w w.heap.size a' m vs) (h8l : (putL ks vs key val).length = 8) (hky : key < (insK ks key)[4]?.getD 0) :
    Calls Try.prog 6 #[.agg #[.int .i64 lv, .slice a n c, .slice a' m c'], .int .i64 key, .int .i64 val] w fun e w' => e = .returned (.bool true) ∧ Below w.heap.size w w' := by
  have HLK := mkHid hk.len
  have HLV := mkHid hv.len
  obtain ⟨W, hW⟩ : ∃ W, w.alloc (.cells #[.int .i64 lv, .slice a n c, .slice a' m c'] 24) = W := ⟨_, rfl⟩
  have HAL := mkHid (show Below w.heap.size w W by rw [← hW]; exact below_al (Below.refl _ _) _)
  have HKS := mkHid ((hk.below HAL.out).more HAL.out.size)
  have HVS := mkHid ((hv.below HAL.out).more HAL.out.size)
  have hQ : W.heap[w.heap.size]? = some (.cells #[.int .i64 lv, .slice a n c, .slice a' m c'] 24) := by rw [← hW]; exact heap_alloc_new _ _
  have HK := mkHid (show ∀ Z, Below W.heap.size W Z → (Z.cell? ⟨w.heap.size, 0, none⟩ = some (.int .i64 lv) ∧ Z.cell? ⟨w.heap.size, 1, none⟩ = some (.slice a n c) ∧ Z.cell? ⟨w.heap.size, 2, none⟩ = some (.slice a' m c')) from fun Z hZ =>
    have h := (hZ.block _ (Array.getElem?_eq_some_iff.1 hQ).1).trans hQ
    ⟨cell_of_row Z w.heap.size 0 _ _ _ h, cell_of_row Z w.heap.size 1 _ _ _ h, cell_of_row Z w.heap.size 2 _ _ _ h⟩)
  obtain ⟨k0, k1, k2⟩ := HK.out W (Below.refl _ _)
  clear hk hv hQ
  go_enter Try.func6, Try.ntmps6
  go_wp2_with fail
  clear hW
  refine (dright_any lv a a' n m c c' ks vs W HKS.out HVS.out).mono ?_
  rintro e w2 ⟨rfl, hb2⟩
  have HB2 := mkHid hb2
  clear hb2 k0 k1 k2
  cases hr : rightN lv ks vs with
  | false =>
    clear hr
    go_wp2_with fail
    refine (awake_any _).mono ?_
    rintro e w3 ⟨rfl, hb3⟩
    have HB3 := mkHid (HAL.out.trans ((below_next HB2.out hb3).mono HAL.out.size))
    clear hb3
    go_wp2_with fail
    go_ret
    exact ⟨rfl, HB3.out⟩
  | true =>
    have HR := mkHid hr
    have hok := rightN_ok hr
    obtain ⟨_, _, hlen, h1n, hn7, hsr, _⟩ := hok
    have HSR := mkHid hsr
    rw [HLK.out] at h1n hn7
    rw [HLK.out, HLV.out] at hlen
    subst hlen
    have HFT := mkHid (keys_fit hr)
    clear hr hsr
    have HLL := mkHid (show 0 ≤ lv ∧ lv ≤ 20 from ⟨(rightN_ok HR.out).1, (rightN_ok HR.out).2.1⟩)
    go_wp2_with fail
    refine (fits_any key val w2).mono ?_
    rintro e wz ⟨rfl, hwz⟩
    subst hwz
    cases hf : fitsP (key, val) with
    | false =>
      clear hf
      go_wp2_with fail
      refine (awake_any _).mono ?_
      rintro e w3 ⟨rfl, hb3⟩
      have HB3 := mkHid (HAL.out.trans ((below_next HB2.out hb3).mono HAL.out.size))
      clear hb3
      go_wp2_with fail
      go_ret
      exact ⟨rfl, HB3.out⟩
    | true =>
      have HF := mkHid hf
      clear hf HFT
      obtain ⟨k0, k1, k2⟩ := HK.out w2 HB2.out
      go_wp2_with fail
      refine (lof_any lv a a' n n c c' ks vs w2 ((HKS.out.below HB2.out).more HB2.out.size) ((HVS.out.below HB2.out).more HB2.out.size) (by omega) (by omega)).mono ?_
      rintro e w3 ⟨_, rfl, ⟨A1, n1, C1, B1, m1, D1, rfl, i1, i2, _, _⟩, _, hb3⟩
      obtain rfl : n = n1 := by rw [← i1.len, HLK.out]
      obtain rfl : n = m1 := by rw [← i2.len, HLV.out]
      have HB3 := mkHid (below_next HB2.out hb3)
      have HI1 := mkHid i1
      have HI2 := mkHid i2
      clear i1 i2 hb3 k0 k1 k2
      go_wp2_with fail
      refine (put_any lv A1 B1 n n C1 D1 ks vs key val w3 HI1.out HI2.out).mono ?_
      rintro e w4 ⟨A4, C4, rfl, hle4, hns4, hb4⟩
      have hpo : putOf lv ks vs key val = (0, cutOf lv (putL ks vs key val)) := by unfold putOf; rw [if_neg (by rw [HR.out]; decide), if_neg (by rw [HF.out]; decide)]
      rw [hpo] at hle4 hns4 ⊢
      rw [errV_no]
      simp only at hle4 hns4 ⊢
      have HB4 := mkHid (below_next HB3.out hb4)
      have HPR := mkHid (Rise.put HR.out HF.out)
      have HPM := mkHid (put_mem HR.out key val)
      have HPN := mkHid (show (putL ks vs key val).length = if ks.contains key = true then n else n + 1 by rw [put_len HR.out, HLK.out])
      clear hb4 hpo HI1 HI2
      obtain ⟨hc, _⟩ : cutOf lv (putL ks vs key val) = [nodeOf lv ((putL ks vs key val).take 4), nodeOf lv ((putL ks vs key val).drop 4)] ∧ True := by
        rcases put_cut HR.out key val with ⟨_, _, h⟩ | ⟨h, _⟩
        · omega
        · exact ⟨h, trivial⟩
      rw [hc] at hle4 hns4 ⊢
      simp only [List.length_cons, List.length_nil, Nat.zero_add] at hle4 hns4 ⊢
      have hkp := keys_put HR.out key val
      have hri := ins_rise HSR.out key
      obtain ⟨gb, go, K, q, D, K', q', D', rfl, hgb, n00, n01, n02, i1, i2, _, _⟩ := hns4.2 0 _ rfl
      obtain ⟨gb2, go2, E, e, G, E', e', G', hbb, _, n10, n11, n12, i3, i4, _, _⟩ := hns4.2 1 _ rfl
      injection hbb with hbb
      injection hbb with e1 e2
      subst e1 e2
      simp only [Nat.zero_mul, Nat.add_zero, Nat.one_mul, nodeOf] at n00 n01 n02 n10 n11 n12 i1 i2 i3 i4
      obtain rfl : q = 4 := by rw [← i1.len, keys_len, List.length_take]; omega
      obtain rfl : q' = 4 := by rw [← i2.len, vals_len, List.length_take]; omega
      obtain rfl : e = 4 := by rw [← i3.len, keys_len, List.length_drop]; omega
      obtain rfl : e' = 4 := by rw [← i4.len, vals_len, List.length_drop]; omega
      obtain ⟨kb, ko, rfl, hkb, s1, _, _⟩ := i1.at_ (j := 3) (by omega)
      obtain ⟨jb, jo, rfl, hjb, s2, _, _⟩ := i3.at_ (j := 0) (by omega)
      rw [keys_take, hkp] at s1
      rw [keys_drop, hkp] at s2
      have hil : (insK ks key).length = 8 := by rw [← hkp, keys_len, h8l]
      have t1 : ((insK ks key).take 4)[3]? = some ((insK ks key)[3]'(by omega)) := by rw [List.getElem?_take, if_pos (by omega), List.getElem?_eq_getElem (by omega)]
      have t2 : ((insK ks key).drop 4)[0]? = some ((insK ks key)[4]'(by omega)) := by rw [List.getElem?_drop, List.getElem?_eq_getElem (by omega)]
      rw [t1] at s1
      rw [t2] at s2
      simp only [Option.getD_some, Nat.add_zero] at s1 s2
      have hlt43 : (insK ks key)[3]'(by omega) < (insK ks key)[4]'(by omega) := List.pairwise_iff_getElem.1 hri 3 4 (by omega) (by omega) (by omega)
      have hpk := part_key HR.out HF.out h8l (k0 := (insK ks key)[4]'(by omega)) (by rw [keys_drop, hkp]; exact t2)
      have hyk : (insK ks key)[4]?.getD 0 = (insK ks key)[4]'(by omega) := by rw [List.getElem?_eq_getElem (by omega)]; rfl
      rw [hyk] at hky
      clear hyk
      generalize (insK ks key)[3]'(by omega) = xk at *
      generalize (insK ks key)[4]'(by omega) = yk at *
      have HPK := mkHid hpk
      have HPL0 := mkHid (show ((putL ks vs key val).take 4).length = 4 by rw [List.length_take]; omega)
      have HPL1 := mkHid (show ((putL ks vs key val).drop 4).length = 4 by rw [List.length_drop]; omega)
      have HPL := mkHid h8l
      have HSUB0 := mkHid (List.take_sublist 4 (putL ks vs key val))
      have HSUB1 := mkHid (List.drop_sublist 4 (putL ks vs key val))
      have HRS0 := mkHid (HPR.out.sub HSUB0.out)
      have HRS1 := mkHid (HPR.out.sub HSUB1.out)
      have HRT0 := mkHid (HRS0.out.right HLL.out (by rw [HPL0.out]; omega) (by rw [HPL0.out]; omega))
      have HRT1 := mkHid (HRS1.out.right HLL.out (by rw [HPL1.out]; omega) (by rw [HPL1.out]; omega))
      have HP1 := mkHid i1
      have HP2 := mkHid i2
      have HE1 := mkHid i3
      have HE2 := mkHid i4
      have HCL := mkHid (show ∀ Z, Below w4.heap.size w4 Z → (Z.cell? ⟨gb, go, none⟩ = some (.int .i64 lv) ∧ Z.cell? ⟨gb, go + 1, none⟩ = some (.slice (some ⟨kb, ko, none⟩) 4 D) ∧ Z.cell? ⟨gb, go + 2, none⟩ = some (.slice K' 4 D')) from fun Z hZ => ⟨(hZ.cell (p := ⟨gb, go, none⟩) hgb).trans n00, (hZ.cell (p := ⟨gb, go + 1, none⟩) hgb).trans n01, (hZ.cell (p := ⟨gb, go + 2, none⟩) hgb).trans n02⟩)
      have HCM := mkHid (show ∀ Z, Below w4.heap.size w4 Z → (Z.cell? ⟨gb, go + 3, none⟩ = some (.int .i64 lv) ∧ Z.cell? ⟨gb, go + 3 + 1, none⟩ = some (.slice (some ⟨jb, jo, none⟩) 4 G) ∧ Z.cell? ⟨gb, go + 3 + 2, none⟩ = some (.slice E' 4 G')) from fun Z hZ => ⟨(hZ.cell (p := ⟨gb, go + 3, none⟩) hgb).trans n10, (hZ.cell (p := ⟨gb, go + 3 + 1, none⟩) hgb).trans n11, (hZ.cell (p := ⟨gb, go + 3 + 2, none⟩) hgb).trans n12⟩)
      have HCS := mkHid (show ∀ Z, Below w4.heap.size w4 Z → (Z.cell? ⟨kb, ko + 3, none⟩ = some (.int .i64 xk) ∧ Z.cell? ⟨jb, jo, none⟩ = some (.int .i64 yk)) from fun Z hZ => ⟨(hZ.cell (p := ⟨kb, ko + 3, none⟩) hkb).trans s1, (hZ.cell (p := ⟨jb, jo, none⟩) hjb).trans s2⟩)
      have hyx : ¬ yk ≤ xk := by omega
      have hyx2 : decide (yk ≤ xk) = false := decide_eq_false hyx
      clear hns4 hc i1 i2 i3 i4 n00 n01 n02 n10 n11 n12 s1 s2 hkp hri hil t1 t2 hpk
      go_wp2_with fail
      go_loopw [9, 10, 11, 12, 13, 14, 15, 57] (fun cn _ _ _ _ _ _ i wr => ∃ r cnt : Nat, r ≤ 2 ∧ i = .int .i64 r ∧ cn = .int .i64 cnt ∧ cnt ≤ 8 ∧ Hid (cnt = r * 4) ∧ Hid (Below w4.heap.size w4 wr)) (fun _ _ _ _ _ _ _ i _ => 2 - (intOf i).toNat)
      case atStart => exact ⟨0, 0, by omega, rfl, rfl, by omega, mkHid (by omega), mkHid (Below.refl _ _)⟩
      case round =>
        obtain ⟨r, cnt, hr, rfl, rfl, hcnt, HCN, HB⟩ := hrel
        by_cases hr0 : r = 0
        · subst hr0
          rw [show ((0 : Nat) : Int) = 0 from rfl]
          obtain ⟨y0, y1, y2⟩ := HCL.out wr HB.out
          have hcnt4 : cnt ≤ 4 := by have := HCN.out; omega
          obtain ⟨W5, hW5⟩ : ∃ W5, wr.alloc (.cells #[.int .i64 lv, .slice (some ⟨kb, ko, none⟩) 4 D, .slice K' 4 D'] 32) = W5 := ⟨_, rfl⟩
          have hal5 : Below wr.heap.size wr W5 := by rw [← hW5]; exact below_al (Below.refl _ _) _
          have HB5 := mkHid (below_next HB.out hal5)
          have hQ5 : W5.heap[wr.heap.size]? = some (.cells #[.int .i64 lv, .slice (some ⟨kb, ko, none⟩) 4 D, .slice K' 4 D'] 32) := by rw [← hW5]; exact heap_alloc_new _ _
          have HK5 := mkHid (show ∀ Z, Below W5.heap.size W5 Z → (Z.cell? ⟨wr.heap.size, 0, none⟩ = some (.int .i64 lv) ∧ Z.cell? ⟨wr.heap.size, 1, none⟩ = some (.slice (some ⟨kb, ko, none⟩) 4 D) ∧ Z.cell? ⟨wr.heap.size, 2, none⟩ = some (.slice K' 4 D')) from fun Z hZ =>
            have h := (hZ.block _ (Array.getElem?_eq_some_iff.1 hQ5).1).trans hQ5
            ⟨cell_of_row Z wr.heap.size 0 _ _ _ h, cell_of_row Z wr.heap.size 1 _ _ _ h, cell_of_row Z wr.heap.size 2 _ _ _ h⟩)
          have HJ1 := mkHid ((HP1.out.below HB5.out).more HB5.out.size)
          have HJ2 := mkHid ((HP2.out.below HB5.out).more HB5.out.size)
          obtain ⟨x0, x1, x2⟩ := HK5.out W5 (Below.refl _ _)
          clear hal5 hQ5
          go_wp2_with fail
          clear hW5
          have hq0 := fun d os => cell_regrown x0 d os
          have hq1 := fun d os => cell_regrown x1 d os
          have hq2 := fun d os => cell_regrown x2 d os
          have HCK := mkHid (fun d os => Calls.regrown_of (ncheck_any lv (some ⟨kb, ko, none⟩) K' 4 4 D D' (keysOf ((putL ks vs key val).take 4)) (valsOf ((putL ks vs key val).take 4)) (Sort.grow (redrawn W5 d) os) (HJ1.out.regrown d os) (HJ2.out.regrown d os)))
          rw [HRT0.out, nodeE_t] at HCK
          refine wp_region_quiet_below (by kernel_rfl) (by kernel_rfl) ?_
          repeat (go_big_quiet_step (first | (with_reducible exact HCK.out _ _)))
          refine wpQuiet_nil ?_
          intro wy hw'
          obtain ⟨p9, hw''⟩ := hw'
          have hB9 := below_regrown W5 p9.d p9.os
          rw [← hw''] at hB9
          clear hw'' p9
          have HBZ := mkHid (below_next HB5.out hB9)
          have HBL := mkHid hB9
          clear hB9 hq0 hq1 hq2 HCK
          have HBY := mkHid (HB4.out.trans (HBZ.out.mono HB4.out.size))
          have HBYL := mkHid HBL.out
          clear x0 x1 x2 y0 y1 y2 
          obtain ⟨x0, x1, x2⟩ := HK5.out wy HBYL.out
          obtain ⟨k0, k1, k2⟩ := HK.out wy HBY.out
          obtain ⟨cq, hcq⟩ : ∃ cq : Nat, cq = cnt + 4 := ⟨_, rfl⟩
          have e10 : IntKind.i64.wrap ((cnt : Int) + (4 : Int)) = (cq : Int) := (IntWalk.i64_in _ (by omega)).trans (by omega)
          have HCQ := mkHid hcq
          clear hcq
          go_wp2_with fail
          clear x0 x1 x2 k0 k1 k2
          go_loopw [12, 13, 14, 15, 96] (fun _ _ _ _ i ws => ∃ k : Nat, k ≤ n ∧ i = .int .i64 k ∧ Hid (Below W5.heap.size W5 ws)) (fun _ _ _ _ i _ => n - (intOf i).toNat)
          case atStart => exact ⟨0, Nat.zero_le _, rfl, HBYL⟩
          case round =>
            clear HBZ HBL HBY HBYL
            obtain ⟨k, hk, rfl, HBS⟩ := hrel
            have HBT := mkHid (below_next HB5.out HBS.out)
            have HBW := mkHid (HB4.out.trans (HBT.out.mono HB4.out.size))
            obtain ⟨x0, x1, x2⟩ := HK5.out wr HBS.out
            obtain ⟨k0, k1, k2⟩ := HK.out wr HBW.out
            by_cases hlt : k < n
            · obtain ⟨b, o, rfl, hb, hck, _, _⟩ := HKS.out.at_ hlt
              obtain ⟨b', o', rfl, hb', hcv, _, _⟩ := HVS.out.at_ hlt
              have HX := mkHid (getD_some (l := ks) (k := k) (by rw [HLK.out]; exact hlt))
              have HY := mkHid (getD_some (l := vs) (k := k) (by rw [HLV.out]; exact hlt))
              have d1 := (HBW.out.cell (p := ⟨b, o + k, none⟩) hb).trans hck
              generalize ks[k]?.getD 0 = old at *
              generalize vs[k]?.getD 0 = v at *
              go_wp2_with fail
              refine (find_any lv (some ⟨kb, ko, none⟩) K' 4 4 D D' (keysOf ((putL ks vs key val).take 4)) old wr ((HJ1.out.below HBS.out).more HBS.out.size) (by omega) (HRS0.out.rise.imp (fun h => by omega))).mono ?_
              rintro e w6 ⟨rfl, hb6⟩
              have HB6 := mkHid (below_next HBS.out hb6)
              have HBW6 := mkHid (HB4.out.trans ((below_next HB5.out HB6.out).mono HB4.out.size))
              clear hb6 x0 x1 x2 k0 k1 k2 d1
              obtain ⟨x0, x1, x2⟩ := HK5.out w6 HB6.out
              obtain ⟨k0, k1, k2⟩ := HK.out w6 HBW6.out
              have d2 := (HBW6.out.cell (p := ⟨b', o' + k, none⟩) hb').trans hcv
              have hkn3 : (k : Int) < (n : Int) := by omega
              clear hck hcv
              cases hcx : (keysOf ((putL ks vs key val).take 4)).contains old with
              | false =>
                rw [find_no hcx]
                clear hcx
                generalize (lowOf (keysOf ((putL ks vs key val).take 4)) old : Int) = fl
                have hq0 := fun d os => cell_regrown k2 d os
                have hq1 := fun d os => cell_regrown x2 d os
                have hq2 := fun d os => cell_regrown d2 d os
                go_wp2_with fail
                refine wp_region_quiet_below (by kernel_rfl) (by kernel_rfl) ?_
                repeat (go_big_quiet_step (fail))
                refine wpQuiet_nil ?_
                intro wy hw'
                obtain ⟨p9, hw''⟩ := hw'
                have hB9 := below_regrown w6 p9.d p9.os
                rw [← hw''] at hB9
                clear hw'' p9
                have HBZ := mkHid (below_next HBW6.out hB9)
                have HBL := mkHid hB9
                clear hB9 hq0 hq1 hq2 
                go_wp2_with fail
                go_roundw
                case measure => simp [intOf]; omega
                case rel => exact ⟨k + 1, by omega, by go_num, mkHid (below_next HB6.out HBL.out)⟩
              | true =>
                by_cases hok : old = key
                · have hne0 : (old != key) = false := by simp [hok]
                  have hfo : findOf (keysOf ((putL ks vs key val).take 4)) old = ((lowOf (keysOf ((putL ks vs key val).take 4)) old : Int), true) := if_pos hcx
                  rw [hfo]
                  clear hcx hfo hok
                  generalize (lowOf (keysOf ((putL ks vs key val).take 4)) old : Int) = fl
                  have hq0 := fun d os => cell_regrown k2 d os
                  have hq1 := fun d os => cell_regrown x2 d os
                  have hq2 := fun d os => cell_regrown d2 d os
                  go_wp2_with fail
                  refine wp_region_quiet_below (by kernel_rfl) (by kernel_rfl) ?_
                  repeat (go_big_quiet_step (fail))
                  refine wpQuiet_nil ?_
                  intro wy hw'
                  obtain ⟨p9, hw''⟩ := hw'
                  have hB9 := below_regrown w6 p9.d p9.os
                  rw [← hw''] at hB9
                  clear hw'' p9
                  have HBZ := mkHid (below_next HBW6.out hB9)
                  have HBL := mkHid hB9
                  clear hB9 hq0 hq1 hq2 
                  go_wp2_with fail
                  go_roundw
                  case measure => simp [intOf]; omega
                  case rel => exact ⟨k + 1, by omega, by go_num, mkHid (below_next HB6.out HBL.out)⟩
                · have hfo : findOf (keysOf ((putL ks vs key val).take 4)) old = ((lowOf (keysOf ((putL ks vs key val).take 4)) old : Int), true) := if_pos hcx
                  have hpv := part_old HR.out HRS0.out HSUB0.out HX.out HY.out hok hcx
                  have hjl : lowOf (keysOf ((putL ks vs key val).take 4)) old < 4 := by have := (List.getElem?_eq_some_iff.1 hpv).1; rw [vals_len, HPL0.out] at this; exact this
                  rw [hfo]
                  have hne0 : (old != key) = true := by simpa using hok
                  obtain ⟨b5, o5, hKK, hb5, hc5, _, _⟩ := HJ2.out.at_ hjl
                  rw [hpv] at hc5
                  simp only [Option.getD_some] at hc5
                  clear hcx hfo hpv
                  generalize lowOf (keysOf ((putL ks vs key val).take 4)) old = J at *
                  have d5 := (HB6.out.cell (p := ⟨b5, o5 + J, none⟩) hb5).trans hc5
                  have hjq : (J : Int) < (4 : Int) := by omega
                  rw [hKK] at x2
                  clear hc5 hKK
                  have hq0 := fun d os => cell_regrown k2 d os
                  have hq1 := fun d os => cell_regrown x2 d os
                  have hq2 := fun d os => cell_regrown d2 d os
                  have hq3 := fun d os => cell_regrown d5 d os
                  go_wp2_with fail
                  refine wp_region_quiet_below (by kernel_rfl) (by kernel_rfl) ?_
                  repeat (go_big_quiet_step (fail))
                  refine wpQuiet_nil ?_
                  intro wy hw'
                  obtain ⟨p9, hw''⟩ := hw'
                  have hB9 := below_regrown w6 p9.d p9.os
                  rw [← hw''] at hB9
                  clear hw'' p9
                  have HBZ := mkHid (below_next HBW6.out hB9)
                  have HBL := mkHid hB9
                  clear hB9 hq0 hq1 hq2 hq3 
                  go_wp2_with fail
                  go_roundw
                  case measure => simp [intOf]; omega
                  case rel => exact ⟨k + 1, by omega, by go_num, mkHid (below_next HB6.out HBL.out)⟩
            · obtain rfl : k = n := by omega
              go_wp2_with fail
              go_roundw
              case measure => simp [intOf]; try omega
              case rel => exact ⟨1, cq, by omega, rfl, rfl, by have := HCN.out; have := HCQ.out; omega, mkHid (by have := HCN.out; have := HCQ.out; omega), HBT⟩
        by_cases hr1 : r = 1
        · subst hr1
          rw [show ((1 : Nat) : Int) = 1 from rfl]
          obtain ⟨y0, y1, y2⟩ := HCM.out wr HB.out
          have hcnt4 : cnt ≤ 4 := by have := HCN.out; omega
          obtain ⟨W5, hW5⟩ : ∃ W5, wr.alloc (.cells #[.int .i64 lv, .slice (some ⟨jb, jo, none⟩) 4 G, .slice E' 4 G'] 32) = W5 := ⟨_, rfl⟩
          have hal5 : Below wr.heap.size wr W5 := by rw [← hW5]; exact below_al (Below.refl _ _) _
          have HB5 := mkHid (below_next HB.out hal5)
          have hQ5 : W5.heap[wr.heap.size]? = some (.cells #[.int .i64 lv, .slice (some ⟨jb, jo, none⟩) 4 G, .slice E' 4 G'] 32) := by rw [← hW5]; exact heap_alloc_new _ _
          have HK5 := mkHid (show ∀ Z, Below W5.heap.size W5 Z → (Z.cell? ⟨wr.heap.size, 0, none⟩ = some (.int .i64 lv) ∧ Z.cell? ⟨wr.heap.size, 1, none⟩ = some (.slice (some ⟨jb, jo, none⟩) 4 G) ∧ Z.cell? ⟨wr.heap.size, 2, none⟩ = some (.slice E' 4 G')) from fun Z hZ =>
            have h := (hZ.block _ (Array.getElem?_eq_some_iff.1 hQ5).1).trans hQ5
            ⟨cell_of_row Z wr.heap.size 0 _ _ _ h, cell_of_row Z wr.heap.size 1 _ _ _ h, cell_of_row Z wr.heap.size 2 _ _ _ h⟩)
          have HJ1 := mkHid ((HE1.out.below HB5.out).more HB5.out.size)
          have HJ2 := mkHid ((HE2.out.below HB5.out).more HB5.out.size)
          obtain ⟨x0, x1, x2⟩ := HK5.out W5 (Below.refl _ _)
          clear hal5 hQ5
          go_wp2_with fail
          clear hW5
          obtain ⟨_, m01, _⟩ := HCL.out W5 HB5.out
          obtain ⟨s1, s2⟩ := HCS.out W5 HB5.out
          have hq0 := fun d os => cell_regrown x0 d os
          have hq1 := fun d os => cell_regrown x1 d os
          have hq2 := fun d os => cell_regrown x2 d os
          have hq3 := fun d os => cell_regrown m01 d os
          have hq4 := fun d os => cell_regrown s1 d os
          have hq5 := fun d os => cell_regrown s2 d os
          have HCK := mkHid (fun d os => Calls.regrown_of (ncheck_any lv (some ⟨jb, jo, none⟩) E' 4 4 G G' (keysOf ((putL ks vs key val).drop 4)) (valsOf ((putL ks vs key val).drop 4)) (Sort.grow (redrawn W5 d) os) (HJ1.out.regrown d os) (HJ2.out.regrown d os)))
          rw [HRT1.out, nodeE_t] at HCK
          refine wp_region_quiet_below (by kernel_rfl) (by kernel_rfl) ?_
          repeat (go_big_quiet_step (first | (with_reducible exact HCK.out _ _)))
          refine wpQuiet_nil ?_
          intro wy hw'
          obtain ⟨p9, hw''⟩ := hw'
          have hB9 := below_regrown W5 p9.d p9.os
          rw [← hw''] at hB9
          clear hw'' p9
          have HBZ := mkHid (below_next HB5.out hB9)
          have HBL := mkHid hB9
          clear hB9 hq0 hq1 hq2 hq3 hq4 hq5 HCK
          have HBY := mkHid (HB4.out.trans (HBZ.out.mono HB4.out.size))
          have HBYL := mkHid HBL.out
          clear x0 x1 x2 y0 y1 y2 s1 s2 m01
          obtain ⟨x0, x1, x2⟩ := HK5.out wy HBYL.out
          obtain ⟨k0, k1, k2⟩ := HK.out wy HBY.out
          obtain ⟨cq, hcq⟩ : ∃ cq : Nat, cq = cnt + 4 := ⟨_, rfl⟩
          have e10 : IntKind.i64.wrap ((cnt : Int) + (4 : Int)) = (cq : Int) := (IntWalk.i64_in _ (by omega)).trans (by omega)
          have HCQ := mkHid hcq
          clear hcq
          go_wp2_with fail
          clear x0 x1 x2 k0 k1 k2
          go_loopw [12, 13, 14, 15, 96] (fun _ _ _ _ i ws => ∃ k : Nat, k ≤ n ∧ i = .int .i64 k ∧ Hid (Below W5.heap.size W5 ws)) (fun _ _ _ _ i _ => n - (intOf i).toNat)
          case atStart => exact ⟨0, Nat.zero_le _, rfl, HBYL⟩
          case round =>
            clear HBZ HBL HBY HBYL
            obtain ⟨k, hk, rfl, HBS⟩ := hrel
            have HBT := mkHid (below_next HB5.out HBS.out)
            have HBW := mkHid (HB4.out.trans (HBT.out.mono HB4.out.size))
            obtain ⟨x0, x1, x2⟩ := HK5.out wr HBS.out
            obtain ⟨k0, k1, k2⟩ := HK.out wr HBW.out
            by_cases hlt : k < n
            · obtain ⟨b, o, rfl, hb, hck, _, _⟩ := HKS.out.at_ hlt
              obtain ⟨b', o', rfl, hb', hcv, _, _⟩ := HVS.out.at_ hlt
              have HX := mkHid (getD_some (l := ks) (k := k) (by rw [HLK.out]; exact hlt))
              have HY := mkHid (getD_some (l := vs) (k := k) (by rw [HLV.out]; exact hlt))
              have d1 := (HBW.out.cell (p := ⟨b, o + k, none⟩) hb).trans hck
              generalize ks[k]?.getD 0 = old at *
              generalize vs[k]?.getD 0 = v at *
              go_wp2_with fail
              refine (find_any lv (some ⟨jb, jo, none⟩) E' 4 4 G G' (keysOf ((putL ks vs key val).drop 4)) old wr ((HJ1.out.below HBS.out).more HBS.out.size) (by omega) (HRS1.out.rise.imp (fun h => by omega))).mono ?_
              rintro e w6 ⟨rfl, hb6⟩
              have HB6 := mkHid (below_next HBS.out hb6)
              have HBW6 := mkHid (HB4.out.trans ((below_next HB5.out HB6.out).mono HB4.out.size))
              clear hb6 x0 x1 x2 k0 k1 k2 d1
              obtain ⟨x0, x1, x2⟩ := HK5.out w6 HB6.out
              obtain ⟨k0, k1, k2⟩ := HK.out w6 HBW6.out
              have d2 := (HBW6.out.cell (p := ⟨b', o' + k, none⟩) hb').trans hcv
              have hkn3 : (k : Int) < (n : Int) := by omega
              clear hck hcv
              cases hcx : (keysOf ((putL ks vs key val).drop 4)).contains old with
              | false =>
                rw [find_no hcx]
                clear hcx
                generalize (lowOf (keysOf ((putL ks vs key val).drop 4)) old : Int) = fl
                have hq0 := fun d os => cell_regrown k2 d os
                have hq1 := fun d os => cell_regrown x2 d os
                have hq2 := fun d os => cell_regrown d2 d os
                go_wp2_with fail
                refine wp_region_quiet_below (by kernel_rfl) (by kernel_rfl) ?_
                repeat (go_big_quiet_step (fail))
                refine wpQuiet_nil ?_
                intro wy hw'
                obtain ⟨p9, hw''⟩ := hw'
                have hB9 := below_regrown w6 p9.d p9.os
                rw [← hw''] at hB9
                clear hw'' p9
                have HBZ := mkHid (below_next HBW6.out hB9)
                have HBL := mkHid hB9
                clear hB9 hq0 hq1 hq2 
                go_wp2_with fail
                go_roundw
                case measure => simp [intOf]; omega
                case rel => exact ⟨k + 1, by omega, by go_num, mkHid (below_next HB6.out HBL.out)⟩
              | true =>
                by_cases hok : old = key
                · have hne0 : (old != key) = false := by simp [hok]
                  have hfo : findOf (keysOf ((putL ks vs key val).drop 4)) old = ((lowOf (keysOf ((putL ks vs key val).drop 4)) old : Int), true) := if_pos hcx
                  rw [hfo]
                  clear hcx hfo hok
                  generalize (lowOf (keysOf ((putL ks vs key val).drop 4)) old : Int) = fl
                  have hq0 := fun d os => cell_regrown k2 d os
                  have hq1 := fun d os => cell_regrown x2 d os
                  have hq2 := fun d os => cell_regrown d2 d os
                  go_wp2_with fail
                  refine wp_region_quiet_below (by kernel_rfl) (by kernel_rfl) ?_
                  repeat (go_big_quiet_step (fail))
                  refine wpQuiet_nil ?_
                  intro wy hw'
                  obtain ⟨p9, hw''⟩ := hw'
                  have hB9 := below_regrown w6 p9.d p9.os
                  rw [← hw''] at hB9
                  clear hw'' p9
                  have HBZ := mkHid (below_next HBW6.out hB9)
                  have HBL := mkHid hB9
                  clear hB9 hq0 hq1 hq2 
                  go_wp2_with fail
                  go_roundw
                  case measure => simp [intOf]; omega
                  case rel => exact ⟨k + 1, by omega, by go_num, mkHid (below_next HB6.out HBL.out)⟩
                · have hfo : findOf (keysOf ((putL ks vs key val).drop 4)) old = ((lowOf (keysOf ((putL ks vs key val).drop 4)) old : Int), true) := if_pos hcx
                  have hpv := part_old HR.out HRS1.out HSUB1.out HX.out HY.out hok hcx
                  have hjl : lowOf (keysOf ((putL ks vs key val).drop 4)) old < 4 := by have := (List.getElem?_eq_some_iff.1 hpv).1; rw [vals_len, HPL1.out] at this; exact this
                  rw [hfo]
                  have hne0 : (old != key) = true := by simpa using hok
                  obtain ⟨b5, o5, hKK, hb5, hc5, _, _⟩ := HJ2.out.at_ hjl
                  rw [hpv] at hc5
                  simp only [Option.getD_some] at hc5
                  clear hcx hfo hpv
                  generalize lowOf (keysOf ((putL ks vs key val).drop 4)) old = J at *
                  have d5 := (HB6.out.cell (p := ⟨b5, o5 + J, none⟩) hb5).trans hc5
                  have hjq : (J : Int) < (4 : Int) := by omega
                  rw [hKK] at x2
                  clear hc5 hKK
                  have hq0 := fun d os => cell_regrown k2 d os
                  have hq1 := fun d os => cell_regrown x2 d os
                  have hq2 := fun d os => cell_regrown d2 d os
                  have hq3 := fun d os => cell_regrown d5 d os
                  go_wp2_with fail
                  refine wp_region_quiet_below (by kernel_rfl) (by kernel_rfl) ?_
                  repeat (go_big_quiet_step (fail))
                  refine wpQuiet_nil ?_
                  intro wy hw'
                  obtain ⟨p9, hw''⟩ := hw'
                  have hB9 := below_regrown w6 p9.d p9.os
                  rw [← hw''] at hB9
                  clear hw'' p9
                  have HBZ := mkHid (below_next HBW6.out hB9)
                  have HBL := mkHid hB9
                  clear hB9 hq0 hq1 hq2 hq3 
                  go_wp2_with fail
                  go_roundw
                  case measure => simp [intOf]; omega
                  case rel => exact ⟨k + 1, by omega, by go_num, mkHid (below_next HB6.out HBL.out)⟩
            · obtain rfl : k = n := by omega
              go_wp2_with fail
              go_roundw
              case measure => simp [intOf]; try omega
              case rel => exact ⟨2, cq, by omega, rfl, rfl, by have := HCN.out; have := HCQ.out; omega, mkHid (by have := HCN.out; have := HCQ.out; omega), HBT⟩
        obtain rfl : r = 2 := by omega
        rw [show ((2 : Nat) : Int) = 2 from rfl]
        have HCT := mkHid (show cnt = (putL ks vs key val).length by rw [HPL.out]; have := HCN.out; omega)
        obtain ⟨y0, y1, y2⟩ := HCM.out wr HB.out
        obtain ⟨W7, hW7⟩ : ∃ W7, wr.alloc (.cells #[.int .i64 lv, .slice (some ⟨jb, jo, none⟩) 4 G, .slice E' 4 G'] 32) = W7 := ⟨_, rfl⟩
        have hal7 : Below wr.heap.size wr W7 := by rw [← hW7]; exact below_al (Below.refl _ _) _
        have HB47 := mkHid (below_next HB.out hal7)
        have HB7 := mkHid (HB4.out.trans (HB47.out.mono HB4.out.size))
        have hQ7 : W7.heap[wr.heap.size]? = some (.cells #[.int .i64 lv, .slice (some ⟨jb, jo, none⟩) 4 G, .slice E' 4 G'] 32) := by rw [← hW7]; exact heap_alloc_new _ _
        have hWr : W.heap.size ≤ wr.heap.size := (HB4.out.trans (HB.out.mono HB4.out.size)).size
        have hWr4 : w4.heap.size ≤ wr.heap.size := HB.out.size
        obtain ⟨_, s2⟩ := HCS.out W7 HB47.out
        have HMEM := mkHid (HPK.out.1 hky)
        obtain ⟨W8, hW8⟩ : ∃ W8, ((W7.setCell ⟨wr.heap.size, 0, none⟩ (.int .i64 lv)).setCell ⟨wr.heap.size, 1, none⟩ (.slice (some ⟨kb, ko, none⟩) 4 D)).setCell ⟨wr.heap.size, 2, none⟩ (.slice K' 4 D') = W8 := ⟨_, rfl⟩
        have HB48 := mkHid (show Below w4.heap.size w4 W8 by rw [← hW8]; exact ((HB47.out.setCell (p := ⟨wr.heap.size, 0, none⟩) hWr4 _).setCell (p := ⟨wr.heap.size, 1, none⟩) hWr4 _).setCell (p := ⟨wr.heap.size, 2, none⟩) hWr4 _)
        have HB8 := mkHid (HB4.out.trans (HB48.out.mono HB4.out.size))
        have hQ8 : W8.heap[wr.heap.size]? = some (.cells #[.int .i64 lv, .slice (some ⟨kb, ko, none⟩) 4 D, .slice K' 4 D'] 32) := by
          rw [← hW8, heap_setCell_same _ _ _ _ _ _ (heap_setCell_same _ _ _ _ _ _ (heap_setCell_same _ _ _ _ _ _ hQ7))]; rfl
        have HK8 := mkHid (show ∀ Z, Below W8.heap.size W8 Z → (Z.cell? ⟨wr.heap.size, 0, none⟩ = some (.int .i64 lv) ∧ Z.cell? ⟨wr.heap.size, 1, none⟩ = some (.slice (some ⟨kb, ko, none⟩) 4 D) ∧ Z.cell? ⟨wr.heap.size, 2, none⟩ = some (.slice K' 4 D')) from fun Z hZ =>
          have h := (hZ.block _ (Array.getElem?_eq_some_iff.1 hQ8).1).trans hQ8
          ⟨cell_of_row Z wr.heap.size 0 _ _ _ h, cell_of_row Z wr.heap.size 1 _ _ _ h, cell_of_row Z wr.heap.size 2 _ _ _ h⟩)
        have HJ1 := mkHid ((HP1.out.below HB48.out).more HB48.out.size)
        have HJ2 := mkHid ((HP2.out.below HB48.out).more HB48.out.size)
        have z0 := cell_of_row W7 wr.heap.size 0 _ _ _ hQ7
        have z1 := cell_of_row W7 wr.heap.size 1 _ _ _ hQ7
        have z2 := cell_of_row W7 wr.heap.size 2 _ _ _ hQ7
        have f0 := frozen_of_row W7 wr.heap.size 0 _ _ hQ7
        have f1 := frozen_of_row W7 wr.heap.size 1 _ _ hQ7
        have f2 := frozen_of_row W7 wr.heap.size 2 _ _ hQ7
        simp at z0 z1 z2
        obtain ⟨m0, m1, m2⟩ := HCL.out W7 HB47.out
        have hky2 : decide (key < yk) = true := decide_eq_true hky
        clear hal7 hQ7 hQ8
        obtain ⟨j, hpj, hcj, hlj, hvj, hkj⟩ := HRS0.out.place HMEM.out
        have hjq : j < 4 := by have := (List.getElem?_eq_some_iff.1 hpj).1; rw [HPL0.out] at this; exact this
        have hfk : findOf (keysOf ((putL ks vs key val).take 4)) key = ((j : Int), true) := by unfold findOf; rw [if_pos hcj, hlj]
        have HFK := mkHid hfk
        have HKJ := mkHid hkj
        have HER := mkHid (erase_not HRS0.out hkj)
        have HRS2 := mkHid (HRS0.out.sub (List.eraseIdx_sublist ((putL ks vs key val).take 4) j))
        have HDO := mkHid (drop_at (lv := lv) HRS0.out HLL.out (by rw [HPL0.out]; omega) hkj)
        have HLE2 := mkHid (show (((putL ks vs key val).take 4).eraseIdx j).length + 1 = 4 by have h := List.length_eraseIdx_of_lt (l := ((putL ks vs key val).take 4)) (i := j) (by rw [HPL0.out]; exact hjq); rw [HPL0.out] at h; omega)
        obtain ⟨b5, o5, hKK, hb5, hc5, _, _⟩ := HJ2.out.at_ hjq
        rw [hvj] at hc5
        simp only [Option.getD_some] at hc5
        have HC5 := mkHid (show ∀ Z, Below W8.heap.size W8 Z → Z.cell? ⟨b5, o5 + j, none⟩ = some (.int .i64 val) from fun Z hZ => (hZ.cell (p := ⟨b5, o5 + j, none⟩) hb5).trans hc5)
        have HKK := mkHid hKK
        have hjqi : (j : Int) < (4 : Int) := by omega
        clear hpj hcj hlj hvj hkj hfk hc5 hKK
        obtain ⟨x0, x1, x2⟩ := HK8.out W8 (Below.refl _ _)
        go_wp2_with fail
        clear hW8 x0 x1 x2
        (try clear hW7 s2 y0 y1 y2)
        (try clear z0 z1 z2 f0 f1 f2 m0 m1 m2)
        refine (find_any lv (some ⟨kb, ko, none⟩) K' 4 4 D D' (keysOf ((putL ks vs key val).take 4)) key W8 HJ1.out (by omega) (HRS0.out.rise.imp (fun h => by omega))).mono ?_
        rintro e w9 ⟨rfl, hb9⟩
        rw [HFK.out]
        have HB9 := mkHid hb9
        have HBW9 := mkHid (below_next HB8.out hb9)
        clear hb9
        obtain ⟨k0, k1, k2⟩ := HK.out w9 HBW9.out
        go_wp2_with fail
        refine (lof_any lv a a' n n c c' ks vs w9 ((HKS.out.below HBW9.out).more HBW9.out.size) ((HVS.out.below HBW9.out).more HBW9.out.size) (by omega) (by omega)).mono ?_
        rintro e w10 ⟨_, rfl, ⟨A6, n6, C6, B6, m6, D6, rfl, i1, i2, _, _⟩, _, hb10⟩
        obtain rfl : n = n6 := by rw [← i1.len, HLK.out]
        obtain rfl : n = m6 := by rw [← i2.len, HLV.out]
        have HI6 := mkHid i1
        have HB10 := mkHid (below_next HB9.out hb10)
        clear i1 i2 hb10 k0 k1 k2
        go_wp2_with fail
        refine (find_any lv A6 B6 n n C6 D6 ks key w10 HI6.out (by omega) (HSR.out.imp (fun h => by omega))).mono ?_
        rintro e w11 ⟨rfl, hb11⟩
        have HB11 := mkHid (below_next HB10.out hb11)
        have HBW11 := mkHid (below_next HB8.out HB11.out)
        clear hb11
        obtain ⟨k0, k1, k2⟩ := HK.out w11 HBW11.out
        obtain ⟨x0, x1, x2⟩ := HK8.out w11 HB11.out
        have d5 := HC5.out w11 HB11.out
        rw [HKK.out] at x2
        have hvv : (val != val) = false := by simp
        have e11 : IntKind.i64.wrap ((n : Int) + 1) = (n : Int) + 1 := IntWalk.i64_in _ (by omega)
        have hpn := HPN.out
        have hct := HCT.out
        cases hcx : ks.contains key
        · have hfo : findOf ks key = ((lowOf ks key : Int) - 1, false) := find_no hcx
          rw [hfo]
          rw [hcx, if_neg (by decide)] at hpn
          generalize (lowOf ks key : Int) = fl
          obtain rfl : cnt = n + 1 := by omega
          have hq1 : (((n + 1 : Nat) : Int) == (n : Int)) = false := by simp; omega
          have hq2 : (((n + 1 : Nat) : Int) != (n : Int) + 1) = false := by simp
          clear hfo hcx hpn hct
          go_wp2_with fail
          clear k0 k1 k2 x0 x1 x2 d5
          have hJ2 := (HJ2.out.below HB11.out).more HB11.out.size
          rw [HKK.out] at hJ2
          have HJ2b := mkHid hJ2
          clear hJ2
          refine (drop_any lv (some ⟨kb, ko, none⟩) (some ⟨b5, o5, none⟩) 4 4 D D' (keysOf ((putL ks vs key val).take 4)) (valsOf ((putL ks vs key val).take 4)) key w11 ((HJ1.out.below HB11.out).more HB11.out.size) HJ2b.out).mono ?_
          rintro e w12 ⟨_, rfl, hnd, _, hb12⟩
          rw [HDO.out] at hnd ⊢
          rw [errV_no]
          simp only [nodeOf] at hnd
          obtain ⟨M, hM⟩ : ∃ M, M + 1 = 4 := ⟨4 - 1, by omega⟩
          obtain rfl : M = 3 := by omega
          obtain ⟨E9, q1, G9, F9, q2, H9, rfl, i1, i2, _, _⟩ := hnd
          have hq1 : q1 = 3 := by rw [← i1.len, keys_len]; have := HLE2.out; omega
          have hq2 : q2 = 3 := by rw [← i2.len, vals_len]; have := HLE2.out; omega
          subst hq1
          subst hq2
          obtain ⟨W13, hW13⟩ : ∃ W13, w12.alloc (.cells #[.int .i64 lv, .slice E9 3 G9, .slice F9 3 H9] 32) = W13 := ⟨_, rfl⟩
          have hal13 : Below w12.heap.size w12 W13 := by rw [← hW13]; exact below_al (Below.refl _ _) _
          have HB13 := mkHid (below_next HB11.out (below_next hb12 hal13))
          have hQ13 : W13.heap[w12.heap.size]? = some (.cells #[.int .i64 lv, .slice E9 3 G9, .slice F9 3 H9] 32) := by rw [← hW13]; exact heap_alloc_new _ _
          have HK13 := mkHid (show ∀ Z, Below W13.heap.size W13 Z → (Z.cell? ⟨w12.heap.size, 0, none⟩ = some (.int .i64 lv) ∧ Z.cell? ⟨w12.heap.size, 1, none⟩ = some (.slice E9 3 G9) ∧ Z.cell? ⟨w12.heap.size, 2, none⟩ = some (.slice F9 3 H9)) from fun Z hZ =>
            have h := (hZ.block _ (Array.getElem?_eq_some_iff.1 hQ13).1).trans hQ13
            ⟨cell_of_row Z w12.heap.size 0 _ _ _ h, cell_of_row Z w12.heap.size 1 _ _ _ h, cell_of_row Z w12.heap.size 2 _ _ _ h⟩)
          have HJ9 := mkHid ((i1.below hal13).more hal13.size)
          have HM := mkHid hM
          have e12 : IntKind.i64.wrap ((4 : Int) - 1) = (3 : Int) := (IntWalk.i64_in _ (by omega)).trans (by omega)
          clear i1 i2 hb12 hal13 hQ13 hM
          obtain ⟨y0, y1, y2⟩ := HK13.out W13 (Below.refl _ _)
          go_wp2_with fail
          clear hW13 y0 y1 y2
          refine (find_any lv E9 F9 3 3 G9 H9 (keysOf (((putL ks vs key val).take 4).eraseIdx j)) key W13 HJ9.out (by have := HM.out; omega) (HRS2.out.rise.imp (fun h => by omega))).mono ?_
          rintro e w14 ⟨rfl, hb14⟩
          rw [find_no HER.out]
          generalize (lowOf (keysOf (((putL ks vs key val).take 4).eraseIdx j)) key : Int) = fm
          have HB14 := mkHid (below_next HB13.out hb14)
          obtain ⟨y0, y1, y2⟩ := HK13.out w14 hb14
          obtain ⟨x0, x1, x2⟩ := HK8.out w14 HB14.out
          have HBW14 := mkHid (below_next HB8.out HB14.out)
          clear hb14
          go_wp2_with fail
          refine (awake_any _).mono ?_
          rintro e w15 ⟨rfl, hb15⟩
          have HB15 := mkHid (HAL.out.trans ((below_next HBW14.out hb15).mono HAL.out.size))
          clear hb15
          go_wp2_with fail
          go_ret
          exact ⟨rfl, HB15.out⟩
        · have hfo : findOf ks key = ((lowOf ks key : Int), true) := if_pos hcx
          rw [hfo]
          rw [hcx, if_pos rfl] at hpn
          generalize (lowOf ks key : Int) = fl
          obtain rfl : cnt = n := by omega
          clear hfo hcx hpn hct
          go_wp2_with fail
          clear k0 k1 k2 x0 x1 x2 d5
          have hJ2 := (HJ2.out.below HB11.out).more HB11.out.size
          rw [HKK.out] at hJ2
          have HJ2b := mkHid hJ2
          clear hJ2
          refine (drop_any lv (some ⟨kb, ko, none⟩) (some ⟨b5, o5, none⟩) 4 4 D D' (keysOf ((putL ks vs key val).take 4)) (valsOf ((putL ks vs key val).take 4)) key w11 ((HJ1.out.below HB11.out).more HB11.out.size) HJ2b.out).mono ?_
          rintro e w12 ⟨_, rfl, hnd, _, hb12⟩
          rw [HDO.out] at hnd ⊢
          rw [errV_no]
          simp only [nodeOf] at hnd
          obtain ⟨M, hM⟩ : ∃ M, M + 1 = 4 := ⟨4 - 1, by omega⟩
          obtain rfl : M = 3 := by omega
          obtain ⟨E9, q1, G9, F9, q2, H9, rfl, i1, i2, _, _⟩ := hnd
          have hq1 : q1 = 3 := by rw [← i1.len, keys_len]; have := HLE2.out; omega
          have hq2 : q2 = 3 := by rw [← i2.len, vals_len]; have := HLE2.out; omega
          subst hq1
          subst hq2
          obtain ⟨W13, hW13⟩ : ∃ W13, w12.alloc (.cells #[.int .i64 lv, .slice E9 3 G9, .slice F9 3 H9] 32) = W13 := ⟨_, rfl⟩
          have hal13 : Below w12.heap.size w12 W13 := by rw [← hW13]; exact below_al (Below.refl _ _) _
          have HB13 := mkHid (below_next HB11.out (below_next hb12 hal13))
          have hQ13 : W13.heap[w12.heap.size]? = some (.cells #[.int .i64 lv, .slice E9 3 G9, .slice F9 3 H9] 32) := by rw [← hW13]; exact heap_alloc_new _ _
          have HK13 := mkHid (show ∀ Z, Below W13.heap.size W13 Z → (Z.cell? ⟨w12.heap.size, 0, none⟩ = some (.int .i64 lv) ∧ Z.cell? ⟨w12.heap.size, 1, none⟩ = some (.slice E9 3 G9) ∧ Z.cell? ⟨w12.heap.size, 2, none⟩ = some (.slice F9 3 H9)) from fun Z hZ =>
            have h := (hZ.block _ (Array.getElem?_eq_some_iff.1 hQ13).1).trans hQ13
            ⟨cell_of_row Z w12.heap.size 0 _ _ _ h, cell_of_row Z w12.heap.size 1 _ _ _ h, cell_of_row Z w12.heap.size 2 _ _ _ h⟩)
          have HJ9 := mkHid ((i1.below hal13).more hal13.size)
          have HM := mkHid hM
          have e12 : IntKind.i64.wrap ((4 : Int) - 1) = (3 : Int) := (IntWalk.i64_in _ (by omega)).trans (by omega)
          clear i1 i2 hb12 hal13 hQ13 hM
          obtain ⟨y0, y1, y2⟩ := HK13.out W13 (Below.refl _ _)
          go_wp2_with fail
          clear hW13 y0 y1 y2
          refine (find_any lv E9 F9 3 3 G9 H9 (keysOf (((putL ks vs key val).take 4).eraseIdx j)) key W13 HJ9.out (by have := HM.out; omega) (HRS2.out.rise.imp (fun h => by omega))).mono ?_
          rintro e w14 ⟨rfl, hb14⟩
          rw [find_no HER.out]
          generalize (lowOf (keysOf (((putL ks vs key val).take 4).eraseIdx j)) key : Int) = fm
          have HB14 := mkHid (below_next HB13.out hb14)
          obtain ⟨y0, y1, y2⟩ := HK13.out w14 hb14
          obtain ⟨x0, x1, x2⟩ := HK8.out w14 HB14.out
          have HBW14 := mkHid (below_next HB8.out HB14.out)
          clear hb14
          go_wp2_with fail
          refine (awake_any _).mono ?_
          rintro e w15 ⟨rfl, hb15⟩
          have HB15 := mkHid (HAL.out.trans ((below_next HBW14.out hb15).mono HAL.out.size))
          clear hb15
          go_wp2_with fail
          go_ret
          exact ⟨rfl, HB15.out⟩

end Go.Proofs.Ytilepjkdfbhgcaa
