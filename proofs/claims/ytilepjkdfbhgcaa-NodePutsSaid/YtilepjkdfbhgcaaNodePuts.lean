/- portagelaw10.NodePuts answers true. -/
import Derived.Test.YtilepjkdfbhgcaaNdAB
import Derived.Test.YtilepjkdfbhgcaaNdZ
namespace Go.Proofs.Ytilepjkdfbhgcaa
open Go.RowKit Go.Shelf

theorem errV_ne0 (c : Int) (h : c ≠ 0) : errV c = codeV c := if_neg h
theorem cut_bounds {lv : Int} {ks vs : List Int} (h : rightN lv ks vs = true) (key val : Int) : ∀ x ∈ cutOf lv (putL ks vs key val), x.2.1.length ≤ 1000000 ∧ x.2.2.length ≤ 1000000 := by
  intro x hx
  rcases put_cut h key val with ⟨hc, _, h7⟩ | ⟨hc, h8⟩
  · rw [hc] at hx
    obtain rfl := List.mem_singleton.1 hx
    simp only [nodeOf, keys_len, vals_len]
    omega
  · rw [hc] at hx
    simp only [List.mem_cons, List.not_mem_nil, or_false] at hx
    rcases hx with rfl | rfl <;> simp only [nodeOf, keys_len, vals_len, List.length_take, List.length_drop] <;> omega

set_option maxRecDepth 20000 in
set_option maxHeartbeats 8000000 in
theorem nodePuts_any (lv : Int) (a a' : Option Addr) (n m c c' : Nat) (ks vs : List Int) (key val : Int) (w : World) (hk : IS w w.heap.size a n ks) (hv : IS w w.heap.size a' m vs) :
    Calls Try.prog 7 #[.agg #[.int .i64 lv, .slice a n c, .slice a' m c'], .int .i64 key, .int .i64 val] w fun e w' => e = .returned (.bool true) ∧ Below w.heap.size w w' := by
  have HLK := mkHid hk.len
  have HLV := mkHid hv.len
  obtain ⟨W, hW⟩ : ∃ W, w.alloc (.cells #[.int .i64 lv, .slice a n c, .slice a' m c'] 24) = W := ⟨_, rfl⟩
  have HAL := mkHid (show Below w.heap.size w W by rw [← hW]; exact below_al (Below.refl _ _) _)
  have HKS := mkHid ((hk.below HAL.out).more HAL.out.size)
  have HVS := mkHid ((hv.below HAL.out).more HAL.out.size)
  have hQ : W.heap[w.heap.size]? = some (.cells #[.int .i64 lv, .slice a n c, .slice a' m c'] 24) := by rw [← hW]; exact heap_alloc_new _ _
  have HK := mkHid (show ∀ Z, Below W.heap.size W Z → (Z.cell? ⟨w.heap.size, 0, none⟩ = some (.int .i64 lv) ∧ Z.cell? ⟨w.heap.size, 1, none⟩ = some (.slice a n c) ∧ Z.cell? ⟨w.heap.size, 2, none⟩ = some (.slice a' m c')) from fun Z hZ =>
    have h := (hZ.block _ (Array.getElem?_eq_some_iff.1 hQ).1).trans hQ
    ⟨cell_of_row Z w.heap.size 0 _ _ _ h, cell_of_row Z w.heap.size 1 _ _ _ h, cell_of_row Z w.heap.size 2 _ _ _ h⟩)
  obtain ⟨k0, k1, k2⟩ := HK.out W (Below.refl _ _)
  clear hk hv hQ
  by_cases hbig : 200 < max (n : Int) (m : Int)
  · go_enter Try.func7, Try.ntmps7
    have HB2 := mkHid (Below.refl W.heap.size W)
    go_wp2_with fail
    clear hW
    go_wp2_with fail
    refine (awake_any _).mono ?_
    rintro e w3 ⟨rfl, hb3⟩
    have HB3 := mkHid (HAL.out.trans ((below_next HB2.out hb3).mono HAL.out.size))
    clear hb3
    go_wp2_with fail
    go_ret
    exact ⟨rfl, HB3.out⟩
  have hbig2 : max (n : Int) (m : Int) ≤ 200 := by omega
  have hn200 : n ≤ 200 := by omega
  have hm200 : m ≤ 200 := by omega
  clear hbig
  go_enter Try.func7, Try.ntmps7
  go_wp2_with fail
  clear hW
  refine (lof_any lv a a' n m c c' ks vs W HKS.out HVS.out (by omega) (by omega)).mono ?_
  rintro e w3 ⟨_, rfl, ⟨A1, n1, C1, B1, m1, D1, rfl, i1, i2, _, _⟩, _, hb3⟩
  obtain rfl : n = n1 := by rw [← i1.len, HLK.out]
  obtain rfl : m = m1 := by rw [← i2.len, HLV.out]
  obtain ⟨W4, hW4⟩ : ∃ W4, w3.alloc (.cells #[.int .i64 lv, .slice A1 n C1, .slice B1 m D1] 32) = W4 := ⟨_, rfl⟩
  have hal4 : Below w3.heap.size w3 W4 := by rw [← hW4]; exact below_al (Below.refl _ _) _
  have HB4 := mkHid (below_next hb3 hal4)
  have hQ4 : W4.heap[w3.heap.size]? = some (.cells #[.int .i64 lv, .slice A1 n C1, .slice B1 m D1] 32) := by rw [← hW4]; exact heap_alloc_new _ _
  have HK4 := mkHid (show ∀ Z, Below W4.heap.size W4 Z → (Z.cell? ⟨w3.heap.size, 0, none⟩ = some (.int .i64 lv) ∧ Z.cell? ⟨w3.heap.size, 1, none⟩ = some (.slice A1 n C1) ∧ Z.cell? ⟨w3.heap.size, 2, none⟩ = some (.slice B1 m D1)) from fun Z hZ =>
    have h := (hZ.block _ (Array.getElem?_eq_some_iff.1 hQ4).1).trans hQ4
    ⟨cell_of_row Z w3.heap.size 0 _ _ _ h, cell_of_row Z w3.heap.size 1 _ _ _ h, cell_of_row Z w3.heap.size 2 _ _ _ h⟩)
  have HI1 := mkHid ((i1.below hal4).more hal4.size)
  have HI2 := mkHid ((i2.below hal4).more hal4.size)
  clear i1 i2 hb3 hal4 hQ4 k0 k1 k2
  obtain ⟨x0, x1, x2⟩ := HK4.out W4 (Below.refl _ _)
  go_wp2_with fail
  clear hW4 x0 x1 x2
  refine (put_any lv A1 B1 n m C1 D1 ks vs key val W4 HI1.out HI2.out).mono ?_
  rintro e w5 ⟨A5, C5, rfl, hle5, hns5, hb5⟩
  have HB5 := mkHid hb5
  have HNS5 := mkHid hns5
  have HLE5 := mkHid hle5
  clear hb5 hns5 hle5
  obtain ⟨x0, x1, x2⟩ := HK4.out w5 HB5.out
  go_wp2_with fail
  clear x0 x1 x2
  refine (drop_any lv A1 B1 n m C1 D1 ks vs key w5 ((HI1.out.below HB5.out).more HB5.out.size) ((HI2.out.below HB5.out).more HB5.out.size)).mono ?_
  rintro e w6 ⟨_, rfl, hnd6, _, hb6⟩
  obtain ⟨A7, n7, C7, B7, m7, D7, rfl, i7, j7, _, _⟩ := hnd6
  obtain ⟨W7, hW7⟩ : ∃ W7, w6.alloc (.cells #[.int .i64 (dropOf lv ks vs key).2.1, .slice A7 n7 C7, .slice B7 m7 D7] 32) = W7 := ⟨_, rfl⟩
  have hal7 : Below w6.heap.size w6 W7 := by rw [← hW7]; exact below_al (Below.refl _ _) _
  have hQ7 : W7.heap[w6.heap.size]? = some (.cells #[.int .i64 (dropOf lv ks vs key).2.1, .slice A7 n7 C7, .slice B7 m7 D7] 32) := by rw [← hW7]; exact heap_alloc_new _ _
  have HB57 := mkHid (below_next hb6 hal7)
  have HB7 := mkHid (below_next HB5.out HB57.out)
  have HBW7 := mkHid (below_next HB4.out HB7.out)
  have HNS7 := mkHid (HNS5.out.next HB57.out)
  have HK7 := mkHid (show ∀ Z, Below W7.heap.size W7 Z → (Z.cell? ⟨w6.heap.size, 0, none⟩ = some (.int .i64 (dropOf lv ks vs key).2.1) ∧ Z.cell? ⟨w6.heap.size, 1, none⟩ = some (.slice A7 n7 C7) ∧ Z.cell? ⟨w6.heap.size, 2, none⟩ = some (.slice B7 m7 D7)) from fun Z hZ =>
    have h := (hZ.block _ (Array.getElem?_eq_some_iff.1 hQ7).1).trans hQ7
    ⟨cell_of_row Z w6.heap.size 0 _ _ _ h, cell_of_row Z w6.heap.size 1 _ _ _ h, cell_of_row Z w6.heap.size 2 _ _ _ h⟩)
  have HI7 := mkHid ((i7.below hal7).more hal7.size)
  have HJ7 := mkHid ((j7.below hal7).more hal7.size)
  have HI17 := mkHid ((HI1.out.below HB7.out).more HB7.out.size)
  have HI27 := mkHid ((HI2.out.below HB7.out).more HB7.out.size)
  have HKW7 := mkHid ((HKS.out.below HBW7.out).more HBW7.out.size)
  have HVW7 := mkHid ((HVS.out.below HBW7.out).more HBW7.out.size)
  clear hb6 i7 j7 hal7 hQ7
  obtain ⟨x0, x1, x2⟩ := HK4.out W7 HB7.out
  obtain ⟨k0, k1, k2⟩ := HK.out W7 HBW7.out
  go_wp2_with fail
  clear hW7 x0 x1 x2 k0 k1 k2
  refine (same_any lv lv A1 B1 a a' n m n m C1 D1 c c' ks vs ks vs W7 HI17.out HI27.out HKW7.out HVW7.out (by omega) (by omega)).mono ?_
  rintro e w8 ⟨rfl, hb8⟩
  rw [show sameN (lv, ks, vs) (lv, ks, vs) = true from decide_eq_true rfl]
  have HB8 := mkHid hb8
  have HBW8 := mkHid (below_next HBW7.out hb8)
  clear hb8
  obtain ⟨k0, k1, k2⟩ := HK.out w8 HBW8.out
  go_wp2_with fail
  clear k0 k1 k2
  refine (dright_any lv a a' n m c c' ks vs w8 ((HKS.out.below HBW8.out).more HBW8.out.size) ((HVS.out.below HBW8.out).more HBW8.out.size)).mono ?_
  rintro e w9 ⟨rfl, hb9⟩
  have HB9 := mkHid (below_next HB8.out hb9)
  have HBW9 := mkHid (below_next HBW7.out HB9.out)
  clear hb9
  cases hr : rightN lv ks vs with
  | false =>
    have hpo : putOf lv ks vs key val = (70, []) := if_pos hr
    have hdo : dropOf lv ks vs key = (70, (0, [], [])) := drop_bad hr key
    rw [hpo, hdo, errV_ne0 70 (by decide)]
    have hn7 : n7 = 0 := by have := HI7.out.len; rw [hdo] at this; exact this.symm
    subst hn7
    clear hr hpo
    obtain ⟨y0, y1, y2⟩ := HK7.out w9 HB9.out
    simp only [List.length_nil]
    go_wp2_with fail
    refine (is_code 70 70 _).mono ?_
    rintro e wz ⟨rfl, hwz⟩
    subst hwz
    rw [show ((70 : Int) != 0 && (70 : Int) == 70) = true from rfl]
    go_wp2_with fail
    refine (is_code 70 70 _).mono ?_
    rintro e wz ⟨rfl, hwz⟩
    subst hwz
    rw [show ((70 : Int) != 0 && (70 : Int) == 70) = true from rfl]
    go_wp2_with fail
    refine (awake_any _).mono ?_
    rintro e w10 ⟨rfl, hb10⟩
    have HB10 := mkHid (HAL.out.trans ((below_next HBW9.out hb10).mono HAL.out.size))
    clear hb10
    go_wp2_with fail
    go_ret
    exact ⟨rfl, HB10.out⟩
  | true =>
    have HR := mkHid hr
    have hok := rightN_ok hr
    obtain ⟨_, _, hlen, h1n, hn7, hsr, _⟩ := hok
    have HSR := mkHid hsr
    rw [HLK.out] at h1n hn7
    rw [HLK.out, HLV.out] at hlen
    subst hlen
    clear hr hsr
    have HB49 := mkHid (below_next HB7.out HB9.out)
    have HKP := mkHid (keys_pairs (ks := ks) (vs := vs) (by rw [HLK.out, HLV.out]))
    have HVP := mkHid (vals_pairs (ks := ks) (vs := vs) (by rw [HLK.out, HLV.out]))
    have hlow := low_le ks key
    rw [HLK.out] at hlow
    have hll := low_lt HSR.out (x := key)
    rw [HLK.out] at hll
    obtain ⟨x0, x1, x2⟩ := HK4.out w9 HB49.out
    go_wp2_with fail
    clear x0 x1 x2
    refine (find_any lv A1 B1 n n C1 D1 ks key w9 ((HI1.out.below HB49.out).more HB49.out.size) (by omega) (HSR.out.imp (fun h => by omega))).mono ?_
    rintro e w10 ⟨rfl, hb10⟩
    have HB10 := mkHid (below_next HB9.out hb10)
    have HBW10 := mkHid (below_next HBW7.out HB10.out)
    clear hb10
    obtain ⟨k0, k1, k2⟩ := HK.out w10 HBW10.out
    have hwr : ∃ F : Int × Bool, findOf ks key = F := ⟨_, rfl⟩
    cases hc : ks.contains key
    · have hfo : findOf ks key = ((lowOf ks key : Int) - 1, false) := find_no hc
      have hdo : dropOf lv ks vs key = (81, (0, [], [])) := drop_no HR.out hc
      have HDF := mkHid (dfind_any lv a a' n n c c' ks key w10 ((HKS.out.below HBW10.out).more HBW10.out.size) HSR.out (by omega))
      rw [hfo] at HDF ⊢
      skip
      rw [hdo] at HK7 HI7 HJ7 ⊢
      simp only at HK7 HI7 HJ7
      clear hfo hdo hc hwr hll
      generalize lowOf ks key = low at *
      have hfe : ∀ z : Int, (z != z) = false := fun z => by simp
      have hf1 := hfe ((low : Int) - 1)
      clear hfe
      go_wp2_with fail
      refine HDF.out.mono ?_
      rintro e w11 ⟨rfl, hb11⟩
      have HB11 := mkHid (below_next HB10.out hb11)
      have HBW11 := mkHid (below_next HBW7.out HB11.out)
      clear hb11 HDF k0 k1 k2
      go_wp2_with fail
      refine (fits_any key val w11).mono ?_
      rintro e wz ⟨rfl, hwz⟩
      subst hwz
      cases hf : fitsP (key, val) with
      | false =>
        have hpo : putOf lv ks vs key val = (80, []) := by unfold putOf; rw [if_neg (by rw [HR.out]; decide), if_pos hf]
        rw [hpo, errV_ne0 80 (by decide)]
        simp only [List.length_nil]
        clear hpo hf
        go_wp2_with fail
        refine (is_code 80 80 _).mono ?_
        rintro e wz ⟨rfl, hwz⟩
        subst hwz
        rw [show ((80 : Int) != 0 && (80 : Int) == 80) = true from rfl]
        rw [errV_ne0 81 (by decide)]
        have hn7 : n7 = 0 := HI7.out.len.symm
        subst hn7
        obtain ⟨y0, y1, y2⟩ := HK7.out w11 HB11.out
        go_wp2_with fail
        refine (is_code 81 81 _).mono ?_
        rintro e wz ⟨rfl, hwz⟩
        subst hwz
        rw [show ((81 : Int) != 0 && (81 : Int) == 81) = true from rfl]
        go_wp2_with fail
        refine (awake_any _).mono ?_
        rintro e w20 ⟨rfl, hb20⟩
        have HB20 := mkHid (HAL.out.trans ((below_next HBW11.out hb20).mono HAL.out.size))
        clear hb20
        go_wp2_with fail
        go_ret
        exact ⟨rfl, HB20.out⟩
      | true =>
        have hpo : putOf lv ks vs key val = (0, cutOf lv (putL ks vs key val)) := by unfold putOf; rw [if_neg (by rw [HR.out]; decide), if_neg (by rw [hf]; decide)]
        have HNS := HNS7
        have HLE := HLE5
        rw [hpo] at HNS HLE ⊢
        rw [errV_no]
        simp only at HNS HLE
        have HF := mkHid hf
        clear hpo hf HNS7 HNS5 HLE5
        obtain ⟨k0, k1, k2⟩ := HK.out w11 HBW11.out
        go_wp2_with fail
        clear k0 k1 k2
        refine (dput_any lv a a' n c c' ks vs key val w11 ((HKS.out.below HBW11.out).more HBW11.out.size) ((HVS.out.below HBW11.out).more HBW11.out.size) HR.out HF.out).mono ?_
        rintro e w12 ⟨A9, C9, rfl, hle9, hns9, hb12⟩
        have HNS9 := mkHid hns9
        have HB12 := mkHid (below_next HB11.out hb12)
        clear hns9 hle9 hb12
        have hcl : (cutOf lv (putL ks vs key val)).length ≤ 1000000 := by
          rcases put_cut HR.out key val with ⟨h, _, _⟩ | ⟨h, _⟩ <;> rw [h] <;> simp
        go_wp2_with fail
        refine (list_any A5 A9 _ _ C5 C9 _ _ w12 (HNS.out.next HB12.out) HNS9.out hcl (cut_bounds HR.out key val)).mono ?_
        rintro e w13 ⟨rfl, hb13⟩
        rw [decide_eq_true rfl]
        have HB13 := mkHid (below_next HB12.out hb13)
        have HBW13 := mkHid (below_next HBW7.out HB13.out)
        clear hb13
        rw [errV_ne0 81 (by decide)]
        have hn7 : n7 = 0 := HI7.out.len.symm
        subst hn7
        obtain ⟨y0, y1, y2⟩ := HK7.out w13 HB13.out
        go_wp2_with fail
        refine (is_code 81 81 _).mono ?_
        rintro e wz ⟨rfl, hwz⟩
        subst hwz
        rw [show ((81 : Int) != 0 && (81 : Int) == 81) = true from rfl]
        go_wp2_with fail
        refine (awake_any _).mono ?_
        rintro e w20 ⟨rfl, hb20⟩
        have HB20 := mkHid (HAL.out.trans ((below_next HBW13.out hb20).mono HAL.out.size))
        clear hb20
        go_wp2_with fail
        go_ret
        exact ⟨rfl, HB20.out⟩
    · have hfo : findOf ks key = ((lowOf ks key : Int), true) := if_pos hc
      have hdo : dropOf lv ks vs key = (0, nodeOf lv (dropL ks vs key)) := by unfold dropOf; rw [if_neg (by rw [HR.out]; decide), if_neg (by rw [hc]; decide)]
      have hlow2 := hll hc
      have HDL := mkHid (show dropL ks vs key = (pairsOf ks vs).take (lowOf ks key) ++ [] ++ (pairsOf ks vs).drop (lowOf ks key + 1) by unfold dropL; rw [List.append_nil])
      have HDF := mkHid (dfind_any lv a a' n n c c' ks key w10 ((HKS.out.below HBW10.out).more HBW10.out.size) HSR.out (by omega))
      rw [hfo] at HDF ⊢
      skip
      rw [hdo] at HK7 HI7 HJ7 ⊢
      simp only at HK7 HI7 HJ7
      clear hfo hdo hc hwr hll
      generalize lowOf ks key = low at *
      have hfe : ∀ z : Int, (z != z) = false := fun z => by simp
      have hf1 := hfe ((low : Int))
      clear hfe
      go_wp2_with fail
      refine HDF.out.mono ?_
      rintro e w11 ⟨rfl, hb11⟩
      have HB11 := mkHid (below_next HB10.out hb11)
      have HBW11 := mkHid (below_next HBW7.out HB11.out)
      clear hb11 HDF k0 k1 k2
      go_wp2_with fail
      refine (fits_any key val w11).mono ?_
      rintro e wz ⟨rfl, hwz⟩
      subst hwz
      cases hf : fitsP (key, val) with
      | false =>
        have hpo : putOf lv ks vs key val = (80, []) := by unfold putOf; rw [if_neg (by rw [HR.out]; decide), if_pos hf]
        rw [hpo, errV_ne0 80 (by decide)]
        simp only [List.length_nil]
        clear hpo hf
        go_wp2_with fail
        refine (is_code 80 80 _).mono ?_
        rintro e wz ⟨rfl, hwz⟩
        subst hwz
        rw [show ((80 : Int) != 0 && (80 : Int) == 80) = true from rfl]
        (try rw [errV_no])
        rw [show (nodeOf lv (dropL ks vs key)).1 = lv from rfl]
        rw [show (nodeOf lv (dropL ks vs key)).1 = lv from rfl] at HK7
        have HLO := mkHid (show keysOf ((pairsOf ks vs).take low ++ [] ++ (pairsOf ks vs).drop (low + 1)) = keysOf (dropL ks vs key) by rw [HDL.out])
        have HLOV := mkHid (show valsOf ((pairsOf ks vs).take low ++ [] ++ (pairsOf ks vs).drop (low + 1)) = valsOf (dropL ks vs key) by rw [HDL.out])
        have HKF := mkHid (show ∀ Z, Below w11.heap.size w11 Z → ((Z.cell? ⟨w6.heap.size, 0, none⟩ = some (.int .i64 lv) ∧ Z.cell? ⟨w6.heap.size, 1, none⟩ = some (.slice A7 n7 C7) ∧ Z.cell? ⟨w6.heap.size, 2, none⟩ = some (.slice B7 m7 D7)) ∧ (Z.cell? ⟨w.heap.size, 0, none⟩ = some (.int .i64 lv) ∧ Z.cell? ⟨w.heap.size, 1, none⟩ = some (.slice a n c) ∧ Z.cell? ⟨w.heap.size, 2, none⟩ = some (.slice a' n c'))) from fun Z hZ => ⟨HK7.out Z (HB11.out.trans (hZ.mono HB11.out.size)), HK.out Z (HBW11.out.trans (hZ.mono HBW11.out.size))⟩)
        have HWO := mkHid (fun Z (hZ : Below w11.heap.size w11 Z) => without_any lv a a' n c c' (pairsOf ks vs) [] low none none 0 0 0 Z (by rw [HKP.out]; exact (HKS.out.below (HBW11.out.trans (hZ.mono HBW11.out.size))).more (HBW11.out.trans (hZ.mono HBW11.out.size)).size) (by rw [HVP.out]; exact (HVS.out.below (HBW11.out.trans (hZ.mono HBW11.out.size))).more (HBW11.out.trans (hZ.mono HBW11.out.size)).size) IS.nil IS.nil hlow2 (by omega) (by omega))
        rw [HLO.out, HLOV.out] at HWO
        have hnl7 : n7 ≤ 1000000 := by have h1 := HI7.out.len; unfold nodeOf at h1; simp only [keys_len] at h1; have h2 := congrArg List.length HDL.out; simp only [List.length_append, List.length_take, List.length_drop, List.length_nil] at h2; have h3 := pairs_len (ks := ks) (vs := vs) (by rw [HLK.out, HLV.out]); rw [HLK.out] at h3; omega
        have hml7 : m7 ≤ 1000000 := by have h1 := HJ7.out.len; unfold nodeOf at h1; simp only [vals_len] at h1; have h2 := congrArg List.length HDL.out; simp only [List.length_append, List.length_take, List.length_drop, List.length_nil] at h2; have h3 := pairs_len (ks := ks) (vs := vs) (by rw [HLK.out, HLV.out]); rw [HLK.out] at h3; omega
        have HSM := mkHid (fun Z (hZ : Below w11.heap.size w11 Z) (E E' : Option Addr) (q1 q2 G G' : Nat) (h1 : IS Z Z.heap.size E q1 (keysOf (dropL ks vs key))) (h2 : IS Z Z.heap.size E' q2 (valsOf (dropL ks vs key))) => same_any lv lv A7 B7 E E' n7 m7 q1 q2 C7 D7 G G' (keysOf (dropL ks vs key)) (valsOf (dropL ks vs key)) (keysOf (dropL ks vs key)) (valsOf (dropL ks vs key)) Z ((HI7.out.below (HB11.out.trans (hZ.mono HB11.out.size))).more (HB11.out.trans (hZ.mono HB11.out.size)).size) ((HJ7.out.below (HB11.out.trans (hZ.mono HB11.out.size))).more (HB11.out.trans (hZ.mono HB11.out.size)).size) h1 h2 hnl7 hml7)
        rw [show sameN (lv, keysOf (dropL ks vs key), valsOf (dropL ks vs key)) (lv, keysOf (dropL ks vs key), valsOf (dropL ks vs key)) = true from decide_eq_true rfl] at HSM
        go_wp2_with fail
        have hk0' := HKF.out w11 (Below.refl _ _)
        go_region_held3 (fun Z => (Z.cell? ⟨w6.heap.size, 0, none⟩ = some (.int .i64 lv) ∧ Z.cell? ⟨w6.heap.size, 1, none⟩ = some (.slice A7 n7 C7) ∧ Z.cell? ⟨w6.heap.size, 2, none⟩ = some (.slice B7 m7 D7)) ∧ (Z.cell? ⟨w.heap.size, 0, none⟩ = some (.int .i64 lv) ∧ Z.cell? ⟨w.heap.size, 1, none⟩ = some (.slice a n c) ∧ Z.cell? ⟨w.heap.size, 2, none⟩ = some (.slice a' n c'))) (first | exact hky | exact HKF.out _ (by first | exact HBY.out | exact HBY.out.drew | exact (Below.refl _ _).drew | exact Below.refl _ _)) (first
          | (go_at_call 24; (with_reducible refine (HWO.out _ (by first | exact HBY.out | exact HBY.out.drew | exact (Below.refl _ _).drew | exact Below.refl _ _)).mono ?_); rintro e wy ⟨_, rfl, ⟨E, q1, G, E', q2, G', rfl, i1, i2, _, _⟩, _, hby⟩; have HBY := mkHid (below_next (show Below w11.heap.size w11 _ from (by first | exact HBY.out | exact HBY.out.drew | exact (Below.refl _ _).drew | exact Below.refl _ _)) hby); have hky := HKF.out _ HBY.out; have HE1 := mkHid i1; have HE2 := mkHid i2; clear hby i1 i2)
          | (go_at_call 17; refine (HSM.out _ (by first | exact HBY.out | exact HBY.out.drew | exact (Below.refl _ _).drew | exact Below.refl _ _) E E' q1 q2 G G' HE1.out HE2.out).mono ?_; rintro e wz ⟨rfl, hby⟩; have HBY := mkHid (below_next (show Below w11.heap.size w11 _ from (by first | exact HBY.out | exact HBY.out.drew | exact (Below.refl _ _).drew | exact Below.refl _ _)) hby); have hky := HKF.out _ HBY.out; clear hby)
          | (go_at_call 13; refine (awake_any _).mono ?_; rintro e wv ⟨rfl, hby⟩; have HBY := mkHid (below_next (show Below w11.heap.size w11 _ from (by first | exact HBY.out | exact HBY.out.drew | exact (Below.refl _ _).drew | exact Below.refl _ _)) hby); have hky := HKF.out _ HBY.out; clear hby))
        go_wp2_with fail
        go_ret
        exact ⟨rfl, HAL.out.trans ((HBW11.out.trans (HBY.out.mono HBW11.out.size)).mono HAL.out.size)⟩
      | true =>
        have hpo : putOf lv ks vs key val = (0, cutOf lv (putL ks vs key val)) := by unfold putOf; rw [if_neg (by rw [HR.out]; decide), if_neg (by rw [hf]; decide)]
        have HNS := HNS7
        have HLE := HLE5
        rw [hpo] at HNS HLE ⊢
        rw [errV_no]
        simp only at HNS HLE
        have HF := mkHid hf
        clear hpo hf HNS7 HNS5 HLE5
        obtain ⟨k0, k1, k2⟩ := HK.out w11 HBW11.out
        go_wp2_with fail
        clear k0 k1 k2
        refine (dput_any lv a a' n c c' ks vs key val w11 ((HKS.out.below HBW11.out).more HBW11.out.size) ((HVS.out.below HBW11.out).more HBW11.out.size) HR.out HF.out).mono ?_
        rintro e w12 ⟨A9, C9, rfl, hle9, hns9, hb12⟩
        have HNS9 := mkHid hns9
        have HB12 := mkHid (below_next HB11.out hb12)
        clear hns9 hle9 hb12
        have hcl : (cutOf lv (putL ks vs key val)).length ≤ 1000000 := by
          rcases put_cut HR.out key val with ⟨h, _, _⟩ | ⟨h, _⟩ <;> rw [h] <;> simp
        go_wp2_with fail
        refine (list_any A5 A9 _ _ C5 C9 _ _ w12 (HNS.out.next HB12.out) HNS9.out hcl (cut_bounds HR.out key val)).mono ?_
        rintro e w13 ⟨rfl, hb13⟩
        rw [decide_eq_true rfl]
        have HB13 := mkHid (below_next HB12.out hb13)
        have HBW13 := mkHid (below_next HBW7.out HB13.out)
        clear hb13
        (try rw [errV_no])
        rw [show (nodeOf lv (dropL ks vs key)).1 = lv from rfl]
        rw [show (nodeOf lv (dropL ks vs key)).1 = lv from rfl] at HK7
        have HLO := mkHid (show keysOf ((pairsOf ks vs).take low ++ [] ++ (pairsOf ks vs).drop (low + 1)) = keysOf (dropL ks vs key) by rw [HDL.out])
        have HLOV := mkHid (show valsOf ((pairsOf ks vs).take low ++ [] ++ (pairsOf ks vs).drop (low + 1)) = valsOf (dropL ks vs key) by rw [HDL.out])
        have HKF := mkHid (show ∀ Z, Below w13.heap.size w13 Z → ((Z.cell? ⟨w6.heap.size, 0, none⟩ = some (.int .i64 lv) ∧ Z.cell? ⟨w6.heap.size, 1, none⟩ = some (.slice A7 n7 C7) ∧ Z.cell? ⟨w6.heap.size, 2, none⟩ = some (.slice B7 m7 D7)) ∧ (Z.cell? ⟨w.heap.size, 0, none⟩ = some (.int .i64 lv) ∧ Z.cell? ⟨w.heap.size, 1, none⟩ = some (.slice a n c) ∧ Z.cell? ⟨w.heap.size, 2, none⟩ = some (.slice a' n c'))) from fun Z hZ => ⟨HK7.out Z (HB13.out.trans (hZ.mono HB13.out.size)), HK.out Z (HBW13.out.trans (hZ.mono HBW13.out.size))⟩)
        have HWO := mkHid (fun Z (hZ : Below w13.heap.size w13 Z) => without_any lv a a' n c c' (pairsOf ks vs) [] low none none 0 0 0 Z (by rw [HKP.out]; exact (HKS.out.below (HBW13.out.trans (hZ.mono HBW13.out.size))).more (HBW13.out.trans (hZ.mono HBW13.out.size)).size) (by rw [HVP.out]; exact (HVS.out.below (HBW13.out.trans (hZ.mono HBW13.out.size))).more (HBW13.out.trans (hZ.mono HBW13.out.size)).size) IS.nil IS.nil hlow2 (by omega) (by omega))
        rw [HLO.out, HLOV.out] at HWO
        have hnl7 : n7 ≤ 1000000 := by have h1 := HI7.out.len; unfold nodeOf at h1; simp only [keys_len] at h1; have h2 := congrArg List.length HDL.out; simp only [List.length_append, List.length_take, List.length_drop, List.length_nil] at h2; have h3 := pairs_len (ks := ks) (vs := vs) (by rw [HLK.out, HLV.out]); rw [HLK.out] at h3; omega
        have hml7 : m7 ≤ 1000000 := by have h1 := HJ7.out.len; unfold nodeOf at h1; simp only [vals_len] at h1; have h2 := congrArg List.length HDL.out; simp only [List.length_append, List.length_take, List.length_drop, List.length_nil] at h2; have h3 := pairs_len (ks := ks) (vs := vs) (by rw [HLK.out, HLV.out]); rw [HLK.out] at h3; omega
        have HSM := mkHid (fun Z (hZ : Below w13.heap.size w13 Z) (E E' : Option Addr) (q1 q2 G G' : Nat) (h1 : IS Z Z.heap.size E q1 (keysOf (dropL ks vs key))) (h2 : IS Z Z.heap.size E' q2 (valsOf (dropL ks vs key))) => same_any lv lv A7 B7 E E' n7 m7 q1 q2 C7 D7 G G' (keysOf (dropL ks vs key)) (valsOf (dropL ks vs key)) (keysOf (dropL ks vs key)) (valsOf (dropL ks vs key)) Z ((HI7.out.below (HB13.out.trans (hZ.mono HB13.out.size))).more (HB13.out.trans (hZ.mono HB13.out.size)).size) ((HJ7.out.below (HB13.out.trans (hZ.mono HB13.out.size))).more (HB13.out.trans (hZ.mono HB13.out.size)).size) h1 h2 hnl7 hml7)
        rw [show sameN (lv, keysOf (dropL ks vs key), valsOf (dropL ks vs key)) (lv, keysOf (dropL ks vs key), valsOf (dropL ks vs key)) = true from decide_eq_true rfl] at HSM
        go_wp2_with fail
        have hk0' := HKF.out w13 (Below.refl _ _)
        go_region_held3 (fun Z => (Z.cell? ⟨w6.heap.size, 0, none⟩ = some (.int .i64 lv) ∧ Z.cell? ⟨w6.heap.size, 1, none⟩ = some (.slice A7 n7 C7) ∧ Z.cell? ⟨w6.heap.size, 2, none⟩ = some (.slice B7 m7 D7)) ∧ (Z.cell? ⟨w.heap.size, 0, none⟩ = some (.int .i64 lv) ∧ Z.cell? ⟨w.heap.size, 1, none⟩ = some (.slice a n c) ∧ Z.cell? ⟨w.heap.size, 2, none⟩ = some (.slice a' n c'))) (first | exact hky | exact HKF.out _ (by first | exact HBY.out | exact HBY.out.drew | exact (Below.refl _ _).drew | exact Below.refl _ _)) (first
          | (go_at_call 24; (with_reducible refine (HWO.out _ (by first | exact HBY.out | exact HBY.out.drew | exact (Below.refl _ _).drew | exact Below.refl _ _)).mono ?_); rintro e wy ⟨_, rfl, ⟨E, q1, G, E', q2, G', rfl, i1, i2, _, _⟩, _, hby⟩; have HBY := mkHid (below_next (show Below w13.heap.size w13 _ from (by first | exact HBY.out | exact HBY.out.drew | exact (Below.refl _ _).drew | exact Below.refl _ _)) hby); have hky := HKF.out _ HBY.out; have HE1 := mkHid i1; have HE2 := mkHid i2; clear hby i1 i2)
          | (go_at_call 17; refine (HSM.out _ (by first | exact HBY.out | exact HBY.out.drew | exact (Below.refl _ _).drew | exact Below.refl _ _) E E' q1 q2 G G' HE1.out HE2.out).mono ?_; rintro e wz ⟨rfl, hby⟩; have HBY := mkHid (below_next (show Below w13.heap.size w13 _ from (by first | exact HBY.out | exact HBY.out.drew | exact (Below.refl _ _).drew | exact Below.refl _ _)) hby); have hky := HKF.out _ HBY.out; clear hby)
          | (go_at_call 13; refine (awake_any _).mono ?_; rintro e wv ⟨rfl, hby⟩; have HBY := mkHid (below_next (show Below w13.heap.size w13 _ from (by first | exact HBY.out | exact HBY.out.drew | exact (Below.refl _ _).drew | exact Below.refl _ _)) hby); have hky := HKF.out _ HBY.out; clear hby))
        go_wp2_with fail
        go_ret
        exact ⟨rfl, HAL.out.trans ((HBW13.out.trans (HBY.out.mono HBW13.out.size)).mono HAL.out.size)⟩

end Go.Proofs.Ytilepjkdfbhgcaa
