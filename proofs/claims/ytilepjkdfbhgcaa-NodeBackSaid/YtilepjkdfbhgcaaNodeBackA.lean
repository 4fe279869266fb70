/- portagelaw10.NodeBack answers true: a node of up to seven keys comes of it. -/
import Derived.Test.YtilepjkdfbhgcaaNdU
namespace Go.Proofs.Ytilepjkdfbhgcaa
open Go.RowKit Go.Shelf

theorem IS.regrown {w : World} {a : Option Addr} {n : Nat} {l : List Int} (h : IS w w.heap.size a n l) (d : Nat) (os : Array Obj) : IS (Sort.grow (redrawn w d) os) (Sort.grow (redrawn w d) os).heap.size a n l :=
  (h.below (below_regrown w d os)).more (below_regrown w d os).size
set_option maxRecDepth 20000 in
set_option maxHeartbeats 16000000 in
theorem nodeBack_one (lv : Int) (a a' : Option Addr) (n m c c' : Nat) (ks vs : List Int) (key val : Int) (w : World) (hk : IS w w.heap.size a n ks) (hv : IS w w.heap.size a' m vs) (hone : (putL ks vs key val).length ≤ 7) :
    Calls Try.prog 6 #[.agg #[.int .i64 lv, .slice a n c, .slice a' m c'], .int .i64 key, .int .i64 val] w fun e w' => e = .returned (.bool true) ∧ Below w.heap.size w w' := by
  have HLK := mkHid hk.len
  have HLV := mkHid hv.len
  obtain ⟨W, hW⟩ : ∃ W, w.alloc (.cells #[.int .i64 lv, .slice a n c, .slice a' m c'] 24) = W := ⟨_, rfl⟩
  have HAL := mkHid (show Below w.heap.size w W by rw [← hW]; exact below_al (Below.refl _ _) _)
  have HKS := mkHid ((hk.below HAL.out).more HAL.out.size)
  have HVS := mkHid ((hv.below HAL.out).more HAL.out.size)
  have hQ : W.heap[w.heap.size]? = some (.cells #[.int .i64 lv, .slice a n c, .slice a' m c'] 24) := by rw [← hW]; exact heap_alloc_new _ _
  have HK := mkHid (show ∀ Z, Below W.heap.size W Z → (Z.cell? ⟨w.heap.size, 0, none⟩ = some (.int .i64 lv) ∧ Z.cell? ⟨w.heap.size, 1, none⟩ = some (.slice a n c) ∧ Z.cell? ⟨w.heap.size, 2, none⟩ = some (.slice a' m c')) from fun Z hZ =>
    have h := (hZ.block _ (Array.getElem?_eq_some_iff.1 hQ).1).trans hQ
    ⟨cell_of_row Z w.heap.size 0 _ _ _ h, cell_of_row Z w.heap.size 1 _ _ _ h, cell_of_row Z w.heap.size 2 _ _ _ h⟩)
  obtain ⟨k0, k1, k2⟩ := HK.out W (Below.refl _ _)
  clear hk hv hQ
  go_enter Try.func6, Try.ntmps6
  go_wp2_with fail
  clear hW
  refine (dright_any lv a a' n m c c' ks vs W HKS.out HVS.out).mono ?_
  rintro e w2 ⟨rfl, hb2⟩
  have HB2 := mkHid hb2
  clear hb2 k0 k1 k2
  cases hr : rightN lv ks vs with
  | false =>
    clear hr
    go_wp2_with fail
    refine (awake_any _).mono ?_
    rintro e w3 ⟨rfl, hb3⟩
    have HB3 := mkHid (HAL.out.trans ((below_next HB2.out hb3).mono HAL.out.size))
    clear hb3
    go_wp2_with fail
    go_ret
    exact ⟨rfl, HB3.out⟩
  | true =>
    have HR := mkHid hr
    have hok := rightN_ok hr
    obtain ⟨_, _, hlen, h1n, hn7, hsr, _⟩ := hok
    have HSR := mkHid hsr
    rw [HLK.out] at h1n hn7
    rw [HLK.out, HLV.out] at hlen
    subst hlen
    have HFT := mkHid (keys_fit hr)
    clear hr hsr
    have HLL := mkHid (show 0 ≤ lv ∧ lv ≤ 20 from ⟨(rightN_ok HR.out).1, (rightN_ok HR.out).2.1⟩)
    go_wp2_with fail
    refine (fits_any key val w2).mono ?_
    rintro e wz ⟨rfl, hwz⟩
    subst hwz
    cases hf : fitsP (key, val) with
    | false =>
      clear hf
      go_wp2_with fail
      refine (awake_any _).mono ?_
      rintro e w3 ⟨rfl, hb3⟩
      have HB3 := mkHid (HAL.out.trans ((below_next HB2.out hb3).mono HAL.out.size))
      clear hb3
      go_wp2_with fail
      go_ret
      exact ⟨rfl, HB3.out⟩
    | true =>
      have HF := mkHid hf
      clear hf HFT
      obtain ⟨k0, k1, k2⟩ := HK.out w2 HB2.out
      go_wp2_with fail
      refine (lof_any lv a a' n n c c' ks vs w2 ((HKS.out.below HB2.out).more HB2.out.size) ((HVS.out.below HB2.out).more HB2.out.size) (by omega) (by omega)).mono ?_
      rintro e w3 ⟨_, rfl, ⟨A1, n1, C1, B1, m1, D1, rfl, i1, i2, _, _⟩, _, hb3⟩
      obtain rfl : n = n1 := by rw [← i1.len, HLK.out]
      obtain rfl : n = m1 := by rw [← i2.len, HLV.out]
      have HB3 := mkHid (below_next HB2.out hb3)
      have HI1 := mkHid i1
      have HI2 := mkHid i2
      clear i1 i2 hb3 k0 k1 k2
      go_wp2_with fail
      refine (put_any lv A1 B1 n n C1 D1 ks vs key val w3 HI1.out HI2.out).mono ?_
      rintro e w4 ⟨A4, C4, rfl, hle4, hns4, hb4⟩
      have hpo : putOf lv ks vs key val = (0, cutOf lv (putL ks vs key val)) := by unfold putOf; rw [if_neg (by rw [HR.out]; decide), if_neg (by rw [HF.out]; decide)]
      rw [hpo] at hle4 hns4 ⊢
      rw [errV_no]
      simp only at hle4 hns4 ⊢
      have HB4 := mkHid (below_next HB3.out hb4)
      have HPR := mkHid (Rise.put HR.out HF.out)
      have HPM := mkHid (put_mem HR.out key val)
      have HPN := mkHid (show (putL ks vs key val).length = if ks.contains key = true then n else n + 1 by rw [put_len HR.out, HLK.out])
      clear hb4 hpo HI1 HI2
      obtain ⟨hc, h1l, h7l⟩ : cutOf lv (putL ks vs key val) = [nodeOf lv (putL ks vs key val)] ∧ 1 ≤ (putL ks vs key val).length ∧ (putL ks vs key val).length ≤ 7 := by
        rcases put_cut HR.out key val with h | ⟨_, h⟩
        · exact h
        · omega
      rw [hc] at hle4 hns4 ⊢
      simp only [List.length_cons, List.length_nil, Nat.zero_add] at hle4 hns4 ⊢
      obtain ⟨gb, go, K, q, D, K', q', D', rfl, hgb, q0, q1, q2, i1, i2, _, _⟩ := hns4.2 0 _ rfl
      simp only [Nat.zero_mul, Nat.add_zero, nodeOf] at q0 q1 q2 i1 i2
      have HPL := mkHid (show (putL ks vs key val).length = q by rw [← i1.len, keys_len])
      obtain rfl : q = q' := by rw [← i2.len, vals_len, HPL.out]
      rw [HPL.out] at h1l h7l
      have HP1 := mkHid i1
      have HP2 := mkHid i2
      have HPRS := mkHid HPR.out
      have HPSUB := mkHid (List.Sublist.refl (putL ks vs key val))
      have HPRT := mkHid (HPR.out.right HLL.out (by rw [HPL.out]; exact h1l) (by rw [HPL.out]; exact h7l))
      have HQ0 := mkHid q0
      have HQ1 := mkHid q1
      have HQ2 := mkHid q2
      clear hns4 hc i1 i2 q0 q1 q2
      go_wp2_with fail
      go_loopw [9, 10, 11, 12, 13, 14, 15, 57] (fun cn _ _ _ _ _ _ i wr => ∃ r cnt : Nat, r ≤ 1 ∧ i = .int .i64 r ∧ cn = .int .i64 cnt ∧ cnt ≤ 8 ∧ Hid (cnt = r * q) ∧ Hid (Below w4.heap.size w4 wr)) (fun _ _ _ _ _ _ _ i _ => 1 - (intOf i).toNat)
      case atStart => exact ⟨0, 0, by omega, rfl, rfl, by omega, mkHid (by omega), mkHid (Below.refl _ _)⟩
      case round =>
        obtain ⟨r, cnt, hr, rfl, rfl, hcnt, HCN, HB⟩ := hrel
        have y0 := (HB.out.cell (p := ⟨gb, go, none⟩) hgb).trans HQ0.out
        have y1 := (HB.out.cell (p := ⟨gb, go + 1, none⟩) hgb).trans HQ1.out
        have y2 := (HB.out.cell (p := ⟨gb, go + 2, none⟩) hgb).trans HQ2.out
        by_cases hr0 : r = 0
        · subst hr0
          rw [show ((0 : Nat) : Int) = 0 from rfl]
          obtain ⟨W5, hW5⟩ : ∃ W5, wr.alloc (.cells #[.int .i64 lv, .slice K q D, .slice K' q D'] 32) = W5 := ⟨_, rfl⟩
          have hal5 : Below wr.heap.size wr W5 := by rw [← hW5]; exact below_al (Below.refl _ _) _
          have HB5 := mkHid (below_next HB.out hal5)
          have hQ5 : W5.heap[wr.heap.size]? = some (.cells #[.int .i64 lv, .slice K q D, .slice K' q D'] 32) := by rw [← hW5]; exact heap_alloc_new _ _
          have HK5 := mkHid (show ∀ Z, Below W5.heap.size W5 Z → (Z.cell? ⟨wr.heap.size, 0, none⟩ = some (.int .i64 lv) ∧ Z.cell? ⟨wr.heap.size, 1, none⟩ = some (.slice K q D) ∧ Z.cell? ⟨wr.heap.size, 2, none⟩ = some (.slice K' q D')) from fun Z hZ =>
            have h := (hZ.block _ (Array.getElem?_eq_some_iff.1 hQ5).1).trans hQ5
            ⟨cell_of_row Z wr.heap.size 0 _ _ _ h, cell_of_row Z wr.heap.size 1 _ _ _ h, cell_of_row Z wr.heap.size 2 _ _ _ h⟩)
          have HJ1 := mkHid ((HP1.out.below HB5.out).more HB5.out.size)
          have HJ2 := mkHid ((HP2.out.below HB5.out).more HB5.out.size)
          obtain ⟨x0, x1, x2⟩ := HK5.out W5 (Below.refl _ _)
          clear hal5 hQ5
          go_wp2_with fail
          clear hW5
          have hq0 := fun d os => cell_regrown x0 d os
          have hq1 := fun d os => cell_regrown x1 d os
          have hq2 := fun d os => cell_regrown x2 d os
          have HCK := mkHid (fun d os => Calls.regrown_of (ncheck_any lv K K' q q D D' (keysOf (putL ks vs key val)) (valsOf (putL ks vs key val)) (Sort.grow (redrawn W5 d) os) (HJ1.out.regrown d os) (HJ2.out.regrown d os)))
          rw [HPRT.out, nodeE_t] at HCK
          refine wp_region_quiet_below (by kernel_rfl) (by kernel_rfl) ?_
          repeat (go_big_quiet_step (first | (with_reducible exact HCK.out _ _)))
          refine wpQuiet_nil ?_
          intro wy hw'
          obtain ⟨p9, hw''⟩ := hw'
          have hB9 := below_regrown W5 p9.d p9.os
          rw [← hw''] at hB9
          clear hw'' p9
          have HBZ := mkHid (below_next HB5.out hB9)
          have HBL := mkHid hB9
          clear hB9 hq0 hq1 hq2 HCK
          have HBY := mkHid (HB4.out.trans (HBZ.out.mono HB4.out.size))
          have HBYL := mkHid HBL.out
          clear x0 x1 x2 y0 y1 y2 
          obtain ⟨x0, x1, x2⟩ := HK5.out wy HBYL.out
          obtain ⟨k0, k1, k2⟩ := HK.out wy HBY.out
          obtain ⟨cq, hcq⟩ : ∃ cq : Nat, cq = cnt + q := ⟨_, rfl⟩
          have e10 : IntKind.i64.wrap ((cnt : Int) + (q : Int)) = (cq : Int) := (IntWalk.i64_in _ (by omega)).trans (by omega)
          have HCQ := mkHid hcq
          clear hcq
          go_wp2_with fail
          clear x0 x1 x2 k0 k1 k2
          go_loopw [12, 13, 14, 15, 96] (fun _ _ _ _ i ws => ∃ k : Nat, k ≤ n ∧ i = .int .i64 k ∧ Hid (Below W5.heap.size W5 ws)) (fun _ _ _ _ i _ => n - (intOf i).toNat)
          case atStart => exact ⟨0, Nat.zero_le _, rfl, HBYL⟩
          case round =>
            clear HBZ HBL HBY HBYL
            obtain ⟨k, hk, rfl, HBS⟩ := hrel
            have HBT := mkHid (below_next HB5.out HBS.out)
            have HBW := mkHid (HB4.out.trans (HBT.out.mono HB4.out.size))
            obtain ⟨x0, x1, x2⟩ := HK5.out wr HBS.out
            obtain ⟨k0, k1, k2⟩ := HK.out wr HBW.out
            by_cases hlt : k < n
            · obtain ⟨b, o, rfl, hb, hck, _, _⟩ := HKS.out.at_ hlt
              obtain ⟨b', o', rfl, hb', hcv, _, _⟩ := HVS.out.at_ hlt
              have HX := mkHid (getD_some (l := ks) (k := k) (by rw [HLK.out]; exact hlt))
              have HY := mkHid (getD_some (l := vs) (k := k) (by rw [HLV.out]; exact hlt))
              have d1 := (HBW.out.cell (p := ⟨b, o + k, none⟩) hb).trans hck
              generalize ks[k]?.getD 0 = old at *
              generalize vs[k]?.getD 0 = v at *
              go_wp2_with fail
              refine (find_any lv K K' q q D D' (keysOf (putL ks vs key val)) old wr ((HJ1.out.below HBS.out).more HBS.out.size) (by omega) (HPRS.out.rise.imp (fun h => by omega))).mono ?_
              rintro e w6 ⟨rfl, hb6⟩
              have HB6 := mkHid (below_next HBS.out hb6)
              have HBW6 := mkHid (HB4.out.trans ((below_next HB5.out HB6.out).mono HB4.out.size))
              clear hb6 x0 x1 x2 k0 k1 k2 d1
              obtain ⟨x0, x1, x2⟩ := HK5.out w6 HB6.out
              obtain ⟨k0, k1, k2⟩ := HK.out w6 HBW6.out
              have d2 := (HBW6.out.cell (p := ⟨b', o' + k, none⟩) hb').trans hcv
              have hkn3 : (k : Int) < (n : Int) := by omega
              clear hck hcv
              cases hcx : (keysOf (putL ks vs key val)).contains old with
              | false =>
                rw [find_no hcx]
                clear hcx
                generalize (lowOf (keysOf (putL ks vs key val)) old : Int) = fl
                have hq0 := fun d os => cell_regrown k2 d os
                have hq1 := fun d os => cell_regrown x2 d os
                have hq2 := fun d os => cell_regrown d2 d os
                go_wp2_with fail
                refine wp_region_quiet_below (by kernel_rfl) (by kernel_rfl) ?_
                repeat (go_big_quiet_step (fail))
                refine wpQuiet_nil ?_
                intro wy hw'
                obtain ⟨p9, hw''⟩ := hw'
                have hB9 := below_regrown w6 p9.d p9.os
                rw [← hw''] at hB9
                clear hw'' p9
                have HBZ := mkHid (below_next HBW6.out hB9)
                have HBL := mkHid hB9
                clear hB9 hq0 hq1 hq2 
                go_wp2_with fail
                go_roundw
                case measure => simp [intOf]; omega
                case rel => exact ⟨k + 1, by omega, by go_num, mkHid (below_next HB6.out HBL.out)⟩
              | true =>
                by_cases hok : old = key
                · have hne0 : (old != key) = false := by simp [hok]
                  have hfo : findOf (keysOf (putL ks vs key val)) old = ((lowOf (keysOf (putL ks vs key val)) old : Int), true) := if_pos hcx
                  rw [hfo]
                  clear hcx hfo hok
                  generalize (lowOf (keysOf (putL ks vs key val)) old : Int) = fl
                  have hq0 := fun d os => cell_regrown k2 d os
                  have hq1 := fun d os => cell_regrown x2 d os
                  have hq2 := fun d os => cell_regrown d2 d os
                  go_wp2_with fail
                  refine wp_region_quiet_below (by kernel_rfl) (by kernel_rfl) ?_
                  repeat (go_big_quiet_step (fail))
                  refine wpQuiet_nil ?_
                  intro wy hw'
                  obtain ⟨p9, hw''⟩ := hw'
                  have hB9 := below_regrown w6 p9.d p9.os
                  rw [← hw''] at hB9
                  clear hw'' p9
                  have HBZ := mkHid (below_next HBW6.out hB9)
                  have HBL := mkHid hB9
                  clear hB9 hq0 hq1 hq2 
                  go_wp2_with fail
                  go_roundw
                  case measure => simp [intOf]; omega
                  case rel => exact ⟨k + 1, by omega, by go_num, mkHid (below_next HB6.out HBL.out)⟩
                · have hfo : findOf (keysOf (putL ks vs key val)) old = ((lowOf (keysOf (putL ks vs key val)) old : Int), true) := if_pos hcx
                  have hpv := part_old HR.out HPRS.out HPSUB.out HX.out HY.out hok hcx
                  have hjl : lowOf (keysOf (putL ks vs key val)) old < q := by have := (List.getElem?_eq_some_iff.1 hpv).1; rw [vals_len, HPL.out] at this; exact this
                  rw [hfo]
                  have hne0 : (old != key) = true := by simpa using hok
                  obtain ⟨b5, o5, hKK, hb5, hc5, _, _⟩ := HJ2.out.at_ hjl
                  rw [hpv] at hc5
                  simp only [Option.getD_some] at hc5
                  clear hcx hfo hpv
                  generalize lowOf (keysOf (putL ks vs key val)) old = J at *
                  have d5 := (HB6.out.cell (p := ⟨b5, o5 + J, none⟩) hb5).trans hc5
                  have hjq : (J : Int) < (q : Int) := by omega
                  rw [hKK] at x2
                  clear hc5 hKK
                  have hq0 := fun d os => cell_regrown k2 d os
                  have hq1 := fun d os => cell_regrown x2 d os
                  have hq2 := fun d os => cell_regrown d2 d os
                  have hq3 := fun d os => cell_regrown d5 d os
                  go_wp2_with fail
                  refine wp_region_quiet_below (by kernel_rfl) (by kernel_rfl) ?_
                  repeat (go_big_quiet_step (fail))
                  refine wpQuiet_nil ?_
                  intro wy hw'
                  obtain ⟨p9, hw''⟩ := hw'
                  have hB9 := below_regrown w6 p9.d p9.os
                  rw [← hw''] at hB9
                  clear hw'' p9
                  have HBZ := mkHid (below_next HBW6.out hB9)
                  have HBL := mkHid hB9
                  clear hB9 hq0 hq1 hq2 hq3 
                  go_wp2_with fail
                  go_roundw
                  case measure => simp [intOf]; omega
                  case rel => exact ⟨k + 1, by omega, by go_num, mkHid (below_next HB6.out HBL.out)⟩
            · obtain rfl : k = n := by omega
              go_wp2_with fail
              go_roundw
              case measure => simp [intOf]; try omega
              case rel => exact ⟨1, cq, by omega, rfl, rfl, by have := HCN.out; have := HCQ.out; omega, mkHid (by have := HCN.out; have := HCQ.out; omega), HBT⟩
        · obtain rfl : r = 1 := by omega
          rw [show ((1 : Nat) : Int) = 1 from rfl]
          have HCT := mkHid (show cnt = (putL ks vs key val).length by rw [HPL.out]; have := HCN.out; omega)
          obtain ⟨W8, hW8⟩ : ∃ W8, wr.alloc (.cells #[.int .i64 lv, .slice K q D, .slice K' q D'] 32) = W8 := ⟨_, rfl⟩
          have hal8 : Below wr.heap.size wr W8 := by rw [← hW8]; exact below_al (Below.refl _ _) _
          have HB48 := mkHid (below_next HB.out hal8)
          have HB8 := mkHid (HB4.out.trans (HB48.out.mono HB4.out.size))
          have hQ8 : W8.heap[wr.heap.size]? = some (.cells #[.int .i64 lv, .slice K q D, .slice K' q D'] 32) := by rw [← hW8]; exact heap_alloc_new _ _
          have HK8 := mkHid (show ∀ Z, Below W8.heap.size W8 Z → (Z.cell? ⟨wr.heap.size, 0, none⟩ = some (.int .i64 lv) ∧ Z.cell? ⟨wr.heap.size, 1, none⟩ = some (.slice K q D) ∧ Z.cell? ⟨wr.heap.size, 2, none⟩ = some (.slice K' q D')) from fun Z hZ =>
            have h := (hZ.block _ (Array.getElem?_eq_some_iff.1 hQ8).1).trans hQ8
            ⟨cell_of_row Z wr.heap.size 0 _ _ _ h, cell_of_row Z wr.heap.size 1 _ _ _ h, cell_of_row Z wr.heap.size 2 _ _ _ h⟩)
          have HJ1 := mkHid ((HP1.out.below HB48.out).more HB48.out.size)
          have HJ2 := mkHid ((HP2.out.below HB48.out).more HB48.out.size)
          clear hal8 hQ8
          obtain ⟨j, hpj, hcj, hlj, hvj, hkj⟩ := HPRS.out.place HPM.out
          have hjq : j < q := by have := (List.getElem?_eq_some_iff.1 hpj).1; rw [HPL.out] at this; exact this
          have hfk : findOf (keysOf (putL ks vs key val)) key = ((j : Int), true) := by unfold findOf; rw [if_pos hcj, hlj]
          have HFK := mkHid hfk
          have HKJ := mkHid hkj
          have HER := mkHid (erase_not HPRS.out hkj)
          have HRS2 := mkHid (HPRS.out.sub (List.eraseIdx_sublist (putL ks vs key val) j))
          have HDO := mkHid (drop_at (lv := lv) HPRS.out HLL.out (by rw [HPL.out]; omega) hkj)
          have HLE2 := mkHid (show ((putL ks vs key val).eraseIdx j).length + 1 = q by have h := List.length_eraseIdx_of_lt (l := (putL ks vs key val)) (i := j) (by rw [HPL.out]; exact hjq); rw [HPL.out] at h; omega)
          obtain ⟨b5, o5, hKK, hb5, hc5, _, _⟩ := HJ2.out.at_ hjq
          rw [hvj] at hc5
          simp only [Option.getD_some] at hc5
          have HC5 := mkHid (show ∀ Z, Below W8.heap.size W8 Z → Z.cell? ⟨b5, o5 + j, none⟩ = some (.int .i64 val) from fun Z hZ => (hZ.cell (p := ⟨b5, o5 + j, none⟩) hb5).trans hc5)
          have HKK := mkHid hKK
          have hjqi : (j : Int) < (q : Int) := by omega
          clear hpj hcj hlj hvj hkj hfk hc5 hKK
          obtain ⟨x0, x1, x2⟩ := HK8.out W8 (Below.refl _ _)
          go_wp2_with fail
          clear hW8 x0 x1 x2
          (try clear hW7 s2 y0 y1 y2)
          (try clear z0 z1 z2 f0 f1 f2 m0 m1 m2)
          refine (find_any lv K K' q q D D' (keysOf (putL ks vs key val)) key W8 HJ1.out (by omega) (HPRS.out.rise.imp (fun h => by omega))).mono ?_
          rintro e w9 ⟨rfl, hb9⟩
          rw [HFK.out]
          have HB9 := mkHid hb9
          have HBW9 := mkHid (below_next HB8.out hb9)
          clear hb9
          obtain ⟨k0, k1, k2⟩ := HK.out w9 HBW9.out
          go_wp2_with fail
          refine (lof_any lv a a' n n c c' ks vs w9 ((HKS.out.below HBW9.out).more HBW9.out.size) ((HVS.out.below HBW9.out).more HBW9.out.size) (by omega) (by omega)).mono ?_
          rintro e w10 ⟨_, rfl, ⟨A6, n6, C6, B6, m6, D6, rfl, i1, i2, _, _⟩, _, hb10⟩
          obtain rfl : n = n6 := by rw [← i1.len, HLK.out]
          obtain rfl : n = m6 := by rw [← i2.len, HLV.out]
          have HI6 := mkHid i1
          have HB10 := mkHid (below_next HB9.out hb10)
          clear i1 i2 hb10 k0 k1 k2
          go_wp2_with fail
          refine (find_any lv A6 B6 n n C6 D6 ks key w10 HI6.out (by omega) (HSR.out.imp (fun h => by omega))).mono ?_
          rintro e w11 ⟨rfl, hb11⟩
          have HB11 := mkHid (below_next HB10.out hb11)
          have HBW11 := mkHid (below_next HB8.out HB11.out)
          clear hb11
          obtain ⟨k0, k1, k2⟩ := HK.out w11 HBW11.out
          obtain ⟨x0, x1, x2⟩ := HK8.out w11 HB11.out
          have d5 := HC5.out w11 HB11.out
          rw [HKK.out] at x2
          have hvv : (val != val) = false := by simp
          have e11 : IntKind.i64.wrap ((n : Int) + 1) = (n : Int) + 1 := IntWalk.i64_in _ (by omega)
          have hpn := HPN.out
          have hct := HCT.out
          cases hcx : ks.contains key
          · have hfo : findOf ks key = ((lowOf ks key : Int) - 1, false) := find_no hcx
            rw [hfo]
            rw [hcx, if_neg (by decide)] at hpn
            generalize (lowOf ks key : Int) = fl
            obtain rfl : cnt = n + 1 := by omega
            have hq1 : (((n + 1 : Nat) : Int) == (n : Int)) = false := by simp; omega
            have hq2 : (((n + 1 : Nat) : Int) != (n : Int) + 1) = false := by simp
            clear hfo hcx hpn hct
            go_wp2_with fail
            clear k0 k1 k2 x0 x1 x2 d5
            have hJ2 := (HJ2.out.below HB11.out).more HB11.out.size
            rw [HKK.out] at hJ2
            have HJ2b := mkHid hJ2
            clear hJ2
            refine (drop_any lv K (some ⟨b5, o5, none⟩) q q D D' (keysOf (putL ks vs key val)) (valsOf (putL ks vs key val)) key w11 ((HJ1.out.below HB11.out).more HB11.out.size) HJ2b.out).mono ?_
            rintro e w12 ⟨_, rfl, hnd, _, hb12⟩
            rw [HDO.out] at hnd ⊢
            rw [errV_no]
            simp only [nodeOf] at hnd
            obtain ⟨M, hM⟩ : ∃ M, M + 1 = q := ⟨q - 1, by omega⟩
            skip
            obtain ⟨E9, q1, G9, F9, q2, H9, rfl, i1, i2, _, _⟩ := hnd
            have hq1 : q1 = M := by rw [← i1.len, keys_len]; have := HLE2.out; omega
            have hq2 : q2 = M := by rw [← i2.len, vals_len]; have := HLE2.out; omega
            subst hq1
            subst hq2
            obtain ⟨W13, hW13⟩ : ∃ W13, w12.alloc (.cells #[.int .i64 lv, .slice E9 q2 G9, .slice F9 q2 H9] 32) = W13 := ⟨_, rfl⟩
            have hal13 : Below w12.heap.size w12 W13 := by rw [← hW13]; exact below_al (Below.refl _ _) _
            have HB13 := mkHid (below_next HB11.out (below_next hb12 hal13))
            have hQ13 : W13.heap[w12.heap.size]? = some (.cells #[.int .i64 lv, .slice E9 q2 G9, .slice F9 q2 H9] 32) := by rw [← hW13]; exact heap_alloc_new _ _
            have HK13 := mkHid (show ∀ Z, Below W13.heap.size W13 Z → (Z.cell? ⟨w12.heap.size, 0, none⟩ = some (.int .i64 lv) ∧ Z.cell? ⟨w12.heap.size, 1, none⟩ = some (.slice E9 q2 G9) ∧ Z.cell? ⟨w12.heap.size, 2, none⟩ = some (.slice F9 q2 H9)) from fun Z hZ =>
              have h := (hZ.block _ (Array.getElem?_eq_some_iff.1 hQ13).1).trans hQ13
              ⟨cell_of_row Z w12.heap.size 0 _ _ _ h, cell_of_row Z w12.heap.size 1 _ _ _ h, cell_of_row Z w12.heap.size 2 _ _ _ h⟩)
            have HJ9 := mkHid ((i1.below hal13).more hal13.size)
            have HM := mkHid hM
            have e12 : IntKind.i64.wrap ((q : Int) - 1) = (q2 : Int) := (IntWalk.i64_in _ (by omega)).trans (by omega)
            clear i1 i2 hb12 hal13 hQ13 hM
            obtain ⟨y0, y1, y2⟩ := HK13.out W13 (Below.refl _ _)
            go_wp2_with fail
            clear hW13 y0 y1 y2
            refine (find_any lv E9 F9 q2 q2 G9 H9 (keysOf ((putL ks vs key val).eraseIdx j)) key W13 HJ9.out (by have := HM.out; omega) (HRS2.out.rise.imp (fun h => by omega))).mono ?_
            rintro e w14 ⟨rfl, hb14⟩
            rw [find_no HER.out]
            generalize (lowOf (keysOf ((putL ks vs key val).eraseIdx j)) key : Int) = fm
            have HB14 := mkHid (below_next HB13.out hb14)
            obtain ⟨y0, y1, y2⟩ := HK13.out w14 hb14
            obtain ⟨x0, x1, x2⟩ := HK8.out w14 HB14.out
            have HBW14 := mkHid (below_next HB8.out HB14.out)
            clear hb14
            go_wp2_with fail
            refine (awake_any _).mono ?_
            rintro e w15 ⟨rfl, hb15⟩
            have HB15 := mkHid (HAL.out.trans ((below_next HBW14.out hb15).mono HAL.out.size))
            clear hb15
            go_wp2_with fail
            go_ret
            exact ⟨rfl, HB15.out⟩
          · have hfo : findOf ks key = ((lowOf ks key : Int), true) := if_pos hcx
            rw [hfo]
            rw [hcx, if_pos rfl] at hpn
            generalize (lowOf ks key : Int) = fl
            obtain rfl : cnt = n := by omega
            clear hfo hcx hpn hct
            go_wp2_with fail
            clear k0 k1 k2 x0 x1 x2 d5
            have hJ2 := (HJ2.out.below HB11.out).more HB11.out.size
            rw [HKK.out] at hJ2
            have HJ2b := mkHid hJ2
            clear hJ2
            refine (drop_any lv K (some ⟨b5, o5, none⟩) q q D D' (keysOf (putL ks vs key val)) (valsOf (putL ks vs key val)) key w11 ((HJ1.out.below HB11.out).more HB11.out.size) HJ2b.out).mono ?_
            rintro e w12 ⟨_, rfl, hnd, _, hb12⟩
            rw [HDO.out] at hnd ⊢
            rw [errV_no]
            simp only [nodeOf] at hnd
            obtain ⟨M, hM⟩ : ∃ M, M + 1 = q := ⟨q - 1, by omega⟩
            skip
            obtain ⟨E9, q1, G9, F9, q2, H9, rfl, i1, i2, _, _⟩ := hnd
            have hq1 : q1 = M := by rw [← i1.len, keys_len]; have := HLE2.out; omega
            have hq2 : q2 = M := by rw [← i2.len, vals_len]; have := HLE2.out; omega
            subst hq1
            subst hq2
            obtain ⟨W13, hW13⟩ : ∃ W13, w12.alloc (.cells #[.int .i64 lv, .slice E9 q2 G9, .slice F9 q2 H9] 32) = W13 := ⟨_, rfl⟩
            have hal13 : Below w12.heap.size w12 W13 := by rw [← hW13]; exact below_al (Below.refl _ _) _
            have HB13 := mkHid (below_next HB11.out (below_next hb12 hal13))
            have hQ13 : W13.heap[w12.heap.size]? = some (.cells #[.int .i64 lv, .slice E9 q2 G9, .slice F9 q2 H9] 32) := by rw [← hW13]; exact heap_alloc_new _ _
            have HK13 := mkHid (show ∀ Z, Below W13.heap.size W13 Z → (Z.cell? ⟨w12.heap.size, 0, none⟩ = some (.int .i64 lv) ∧ Z.cell? ⟨w12.heap.size, 1, none⟩ = some (.slice E9 q2 G9) ∧ Z.cell? ⟨w12.heap.size, 2, none⟩ = some (.slice F9 q2 H9)) from fun Z hZ =>
              have h := (hZ.block _ (Array.getElem?_eq_some_iff.1 hQ13).1).trans hQ13
              ⟨cell_of_row Z w12.heap.size 0 _ _ _ h, cell_of_row Z w12.heap.size 1 _ _ _ h, cell_of_row Z w12.heap.size 2 _ _ _ h⟩)
            have HJ9 := mkHid ((i1.below hal13).more hal13.size)
            have HM := mkHid hM
            have e12 : IntKind.i64.wrap ((q : Int) - 1) = (q2 : Int) := (IntWalk.i64_in _ (by omega)).trans (by omega)
            clear i1 i2 hb12 hal13 hQ13 hM
            obtain ⟨y0, y1, y2⟩ := HK13.out W13 (Below.refl _ _)
            go_wp2_with fail
            clear hW13 y0 y1 y2
            refine (find_any lv E9 F9 q2 q2 G9 H9 (keysOf ((putL ks vs key val).eraseIdx j)) key W13 HJ9.out (by have := HM.out; omega) (HRS2.out.rise.imp (fun h => by omega))).mono ?_
            rintro e w14 ⟨rfl, hb14⟩
            rw [find_no HER.out]
            generalize (lowOf (keysOf ((putL ks vs key val).eraseIdx j)) key : Int) = fm
            have HB14 := mkHid (below_next HB13.out hb14)
            obtain ⟨y0, y1, y2⟩ := HK13.out w14 hb14
            obtain ⟨x0, x1, x2⟩ := HK8.out w14 HB14.out
            have HBW14 := mkHid (below_next HB8.out HB14.out)
            clear hb14
            go_wp2_with fail
            refine (awake_any _).mono ?_
            rintro e w15 ⟨rfl, hb15⟩
            have HB15 := mkHid (HAL.out.trans ((below_next HBW14.out hb15).mono HAL.out.size))
            clear hb15
            go_wp2_with fail
            go_ret
            exact ⟨rfl, HB15.out⟩

set_option maxRecDepth 20000 in
set_option maxHeartbeats 16000000 in
theorem nodeBack_bad (lv : Int) (a a' : Option Addr) (n m c c' : Nat) (ks vs : List Int) (key val : Int) (w : World) (hk : IS w w.heap.size a n ks) (hv : IS w w.heap.size a' m vs) (h7 : ¬ (putL ks vs key val).length ≤ 7) (h8 : ¬ (putL ks vs key val).length = 8) :
    Calls Try.prog 6 #[.agg #[.int .i64 lv, .slice a n c, .slice a' m c'], .int .i64 key, .int .i64 val] w fun e w' => e = .returned (.bool true) ∧ Below w.heap.size w w' := by
  have HLK := mkHid hk.len
  have HLV := mkHid hv.len
  obtain ⟨W, hW⟩ : ∃ W, w.alloc (.cells #[.int .i64 lv, .slice a n c, .slice a' m c'] 24) = W := ⟨_, rfl⟩
  have HAL := mkHid (show Below w.heap.size w W by rw [← hW]; exact below_al (Below.refl _ _) _)
  have HKS := mkHid ((hk.below HAL.out).more HAL.out.size)
  have HVS := mkHid ((hv.below HAL.out).more HAL.out.size)
  have hQ : W.heap[w.heap.size]? = some (.cells #[.int .i64 lv, .slice a n c, .slice a' m c'] 24) := by rw [← hW]; exact heap_alloc_new _ _
  have HK := mkHid (show ∀ Z, Below W.heap.size W Z → (Z.cell? ⟨w.heap.size, 0, none⟩ = some (.int .i64 lv) ∧ Z.cell? ⟨w.heap.size, 1, none⟩ = some (.slice a n c) ∧ Z.cell? ⟨w.heap.size, 2, none⟩ = some (.slice a' m c')) from fun Z hZ =>
    have h := (hZ.block _ (Array.getElem?_eq_some_iff.1 hQ).1).trans hQ
    ⟨cell_of_row Z w.heap.size 0 _ _ _ h, cell_of_row Z w.heap.size 1 _ _ _ h, cell_of_row Z w.heap.size 2 _ _ _ h⟩)
  obtain ⟨k0, k1, k2⟩ := HK.out W (Below.refl _ _)
  clear hk hv hQ
  go_enter Try.func6, Try.ntmps6
  go_wp2_with fail
  clear hW
  refine (dright_any lv a a' n m c c' ks vs W HKS.out HVS.out).mono ?_
  rintro e w2 ⟨rfl, hb2⟩
  have HB2 := mkHid hb2
  clear hb2 k0 k1 k2
  cases hr : rightN lv ks vs with
  | false =>
    clear hr
    go_wp2_with fail
    refine (awake_any _).mono ?_
    rintro e w3 ⟨rfl, hb3⟩
    have HB3 := mkHid (HAL.out.trans ((below_next HB2.out hb3).mono HAL.out.size))
    clear hb3
    go_wp2_with fail
    go_ret
    exact ⟨rfl, HB3.out⟩
  | true =>
    have HR := mkHid hr
    have hok := rightN_ok hr
    obtain ⟨_, _, hlen, h1n, hn7, hsr, _⟩ := hok
    have HSR := mkHid hsr
    rw [HLK.out] at h1n hn7
    rw [HLK.out, HLV.out] at hlen
    subst hlen
    have HFT := mkHid (keys_fit hr)
    clear hr hsr
    have HLL := mkHid (show 0 ≤ lv ∧ lv ≤ 20 from ⟨(rightN_ok HR.out).1, (rightN_ok HR.out).2.1⟩)
    go_wp2_with fail
    refine (fits_any key val w2).mono ?_
    rintro e wz ⟨rfl, hwz⟩
    subst hwz
    cases hf : fitsP (key, val) with
    | false =>
      clear hf
      go_wp2_with fail
      refine (awake_any _).mono ?_
      rintro e w3 ⟨rfl, hb3⟩
      have HB3 := mkHid (HAL.out.trans ((below_next HB2.out hb3).mono HAL.out.size))
      clear hb3
      go_wp2_with fail
      go_ret
      exact ⟨rfl, HB3.out⟩
    | true =>
      have HF := mkHid hf
      clear hf HFT
      exact absurd (put_cut HR.out key val) (by rintro (⟨_, _, h⟩ | ⟨_, h⟩) <;> omega)

end Go.Proofs.Ytilepjkdfbhgcaa
