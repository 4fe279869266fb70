/- portagelaw10.NodeParts answers true. -/
import Derived.Test.YtilepjkdfbhgcaaNdR
namespace Go.Proofs.Ytilepjkdfbhgcaa
open Go.RowKit Go.Shelf

set_option maxRecDepth 20000 in
set_option maxHeartbeats 4000000 in
theorem nodeParts_any (lv : Int) (a a' : Option Addr) (n m c c' : Nat) (ks vs : List Int) (key val : Int) (w : World) (hk : IS w w.heap.size a n ks) (hv : IS w w.heap.size a' m vs) :
    Calls Try.prog 3 #[.agg #[.int .i64 lv, .slice a n c, .slice a' m c'], .int .i64 key, .int .i64 val] w fun e w' => e = .returned (.bool true) ∧ Below w.heap.size w w' := by
  have HLK := mkHid hk.len
  have HLV := mkHid hv.len
  obtain ⟨W, hW⟩ : ∃ W, w.alloc (.cells #[.int .i64 lv, .slice a n c, .slice a' m c'] 24) = W := ⟨_, rfl⟩
  have HAL := mkHid (show Below w.heap.size w W by rw [← hW]; exact below_al (Below.refl _ _) _)
  have HKS := mkHid ((hk.below HAL.out).more HAL.out.size)
  have HVS := mkHid ((hv.below HAL.out).more HAL.out.size)
  have hQ : W.heap[w.heap.size]? = some (.cells #[.int .i64 lv, .slice a n c, .slice a' m c'] 24) := by rw [← hW]; exact heap_alloc_new _ _
  have HK := mkHid (show ∀ Z, Below W.heap.size W Z → (Z.cell? ⟨w.heap.size, 0, none⟩ = some (.int .i64 lv) ∧ Z.cell? ⟨w.heap.size, 1, none⟩ = some (.slice a n c) ∧ Z.cell? ⟨w.heap.size, 2, none⟩ = some (.slice a' m c')) from fun Z hZ =>
    have h := (hZ.block _ (Array.getElem?_eq_some_iff.1 hQ).1).trans hQ
    ⟨cell_of_row Z w.heap.size 0 _ _ _ h, cell_of_row Z w.heap.size 1 _ _ _ h, cell_of_row Z w.heap.size 2 _ _ _ h⟩)
  obtain ⟨k0, k1, k2⟩ := HK.out W (Below.refl _ _)
  clear hk hv hQ
  go_enter Try.func3, Try.ntmps3
  go_wp2_with fail
  clear hW
  refine (dright_any lv a a' n m c c' ks vs W HKS.out HVS.out).mono ?_
  rintro e w2 ⟨rfl, hb2⟩
  have HB2 := mkHid hb2
  clear hb2 k0 k1 k2
  cases hr : rightN lv ks vs with
  | false =>
    clear hr
    go_wp2_with fail
    refine (awake_any _).mono ?_
    rintro e w3 ⟨rfl, hb3⟩
    have HB3 := mkHid (HAL.out.trans ((below_next HB2.out hb3).mono HAL.out.size))
    clear hb3
    go_wp2_with fail
    go_ret
    exact ⟨rfl, HB3.out⟩
  | true =>
    have HR := mkHid hr
    have hok := rightN_ok hr
    obtain ⟨_, _, hlen, h1n, hn7, hsr, _⟩ := hok
    have HSR := mkHid hsr
    rw [HLK.out] at h1n hn7
    rw [HLK.out, HLV.out] at hlen
    subst hlen
    have HFT := mkHid (keys_fit hr)
    clear hr hsr
    go_wp2_with fail
    refine (fits_any key val w2).mono ?_
    rintro e wz ⟨rfl, hwz⟩
    subst hwz
    cases hf : fitsP (key, val) with
    | false =>
      clear hf
      go_wp2_with fail
      refine (awake_any _).mono ?_
      rintro e w3 ⟨rfl, hb3⟩
      have HB3 := mkHid (HAL.out.trans ((below_next HB2.out hb3).mono HAL.out.size))
      clear hb3
      go_wp2_with fail
      go_ret
      exact ⟨rfl, HB3.out⟩
    | true =>
      have HF := mkHid hf
      clear hf
      obtain ⟨k0, k1, k2⟩ := HK.out w2 HB2.out
      go_wp2_with fail
      refine (lof_any lv a a' n n c c' ks vs w2 ((HKS.out.below HB2.out).more HB2.out.size) ((HVS.out.below HB2.out).more HB2.out.size) (by omega) (by omega)).mono ?_
      rintro e w3 ⟨_, rfl, ⟨A, n1, C, A', n2, C', rfl, i1, i2, _, _⟩, _, hb3⟩
      obtain rfl : n = n1 := by rw [← i1.len, HLK.out]
      obtain rfl : n = n2 := by rw [← i2.len, HLV.out]
      have HB3 := mkHid (below_next HB2.out hb3)
      have HI1 := mkHid i1
      have HI2 := mkHid i2
      clear i1 i2 hb3 k0 k1 k2
      go_wp2_with fail
      refine (put_any lv A A' n n C C' ks vs key val w3 HI1.out HI2.out).mono ?_
      rintro e w4 ⟨A4, C4, rfl, hle4, hns4, hb4⟩
      have hpo : putOf lv ks vs key val = (0, cutOf lv (putL ks vs key val)) := by unfold putOf; rw [if_neg (by rw [HR.out]; decide), if_neg (by rw [HF.out]; decide)]
      rw [hpo] at hle4 hns4 ⊢
      rw [errV_no]
      simp only at hle4 hns4 ⊢
      have HB4 := mkHid (below_next HB3.out hb4)
      have hkp := keys_put HR.out key val
      have hri := ins_rise HSR.out key
      clear hb4 hpo
      obtain ⟨k0, k1, k2⟩ := HK.out w4 HB4.out
      rcases put_cut HR.out key val with ⟨hc, h1l, h7l⟩ | ⟨hc, h8l⟩
      · rw [hc] at hle4 hns4 ⊢
        simp only [List.length_cons, List.length_nil, Nat.zero_add] at hle4 hns4 ⊢
        obtain ⟨b, o, K, k, D, K', k', D', rfl, hb0, q0, q1, q2, i1, i2, _, _⟩ := hns4.2 0 _ rfl
        simp only [Nat.zero_mul, Nat.add_zero] at q0 q1 q2
        unfold nodeOf at q0
        have hkl := i1.len
        unfold nodeOf at hkl
        simp only at hkl q0
        rw [keys_len] at hkl
        clear hns4 i1 i2 hc hkp hri
        have hk7 : (k : Int) ≤ 7 := by omega
        have hk8 : decide ((k : Int) ≤ 7) = true := decide_eq_true hk7
        have hq0 := fun d os => cell_regrown k0 d os
        have hq1 := fun d os => cell_regrown q0 d os
        have hq2 := fun d os => cell_regrown q1 d os
        have HAW := mkHid (fun d os => Calls.regrown_of (awake_any (Sort.grow (redrawn w4 d) os)))
        go_wp2_with fail
        refine wp_region_quiet_below (by kernel_rfl) (by kernel_rfl) ?_
        repeat (go_big_quiet_step (first | (with_reducible exact HAW.out _ _)))
        refine wpQuiet_nil ?_
        intro wy hw'
        obtain ⟨p9, hw''⟩ := hw'
        have hB9 := below_regrown w4 p9.d p9.os
        rw [← hw''] at hB9
        clear hw'' p9
        have HBZ := mkHid (below_next HB4.out hB9)
        clear hB9 hq0 hq1 hq2 HAW
        go_wp2_with fail
        go_ret
        exact ⟨rfl, HAL.out.trans (HBZ.out.mono HAL.out.size)⟩
      · rw [hc] at hle4 hns4 ⊢
        simp only [List.length_cons, List.length_nil, Nat.zero_add] at hle4 hns4 ⊢
        obtain ⟨b, o, K, k, D, K', k', D', rfl, hb0, q0, q1, q2, i1, i2, _, _⟩ := hns4.2 0 _ rfl
        obtain ⟨b2, o2, E, j, G, E', j', G', hbb, _, r0, r1, r2, i3, i4, _, _⟩ := hns4.2 1 _ rfl
        injection hbb with hbb
        injection hbb with e1 e2
        subst e1 e2
        simp only [Nat.zero_mul, Nat.add_zero, Nat.one_mul, nodeOf] at q0 q1 q2 r0 r1 r2 i1 i3
        obtain rfl : k = 4 := by rw [← i1.len, keys_len, List.length_take]; omega
        obtain rfl : j = 4 := by rw [← i3.len, keys_len, List.length_drop]; omega
        obtain ⟨kb, ko, rfl, _, s1, _, _⟩ := i1.at_ (j := 3) (by omega)
        obtain ⟨jb, jo, rfl, _, s2, _, _⟩ := i3.at_ (j := 0) (by omega)
        rw [keys_take, hkp] at s1
        rw [keys_drop, hkp] at s2
        have hil : (insK ks key).length = 8 := by rw [← hkp, keys_len, h8l]
        have t1 : ((insK ks key).take 4)[3]? = some ((insK ks key)[3]'(by omega)) := by rw [List.getElem?_take, if_pos (by omega), List.getElem?_eq_getElem (by omega)]
        have t2 : ((insK ks key).drop 4)[0]? = some ((insK ks key)[4]'(by omega)) := by rw [List.getElem?_drop, List.getElem?_eq_getElem (by omega)]
        rw [t1] at s1
        rw [t2] at s2
        simp only [Option.getD_some, Nat.add_zero] at s1 s2
        have hlt : (insK ks key)[3]'(by omega) < (insK ks key)[4]'(by omega) := List.pairwise_iff_getElem.1 hri 3 4 (by omega) (by omega) (by omega)
        generalize (insK ks key)[3]'(by omega) = x at *
        generalize (insK ks key)[4]'(by omega) = y at *
        have hlt8 : decide (x < y) = true := decide_eq_true hlt
        clear hns4 i1 i2 i3 i4 hc hkp hri t1 t2 hil
        have hq0 := fun d os => cell_regrown k0 d os
        have hq1 := fun d os => cell_regrown q0 d os
        have hq2 := fun d os => cell_regrown q1 d os
        have hq3 := fun d os => cell_regrown r0 d os
        have hq4 := fun d os => cell_regrown r1 d os
        have hq5 := fun d os => cell_regrown s1 d os
        have hq6 := fun d os => cell_regrown s2 d os
        have HAW := mkHid (fun d os => Calls.regrown_of (awake_any (Sort.grow (redrawn w4 d) os)))
        go_wp2_with fail
        refine wp_region_quiet_below (by kernel_rfl) (by kernel_rfl) ?_
        repeat (go_big_quiet_step (first | (with_reducible exact HAW.out _ _)))
        refine wpQuiet_nil ?_
        intro wy hw'
        obtain ⟨p9, hw''⟩ := hw'
        have hB9 := below_regrown w4 p9.d p9.os
        rw [← hw''] at hB9
        clear hw'' p9
        have HBZ := mkHid (below_next HB4.out hB9)
        clear hB9 hq0 hq1 hq2 hq3 hq4 hq5 hq6 HAW
        go_wp2_with fail
        go_ret
        exact ⟨rfl, HAL.out.trans (HBZ.out.mono HAL.out.size)⟩

end Go.Proofs.Ytilepjkdfbhgcaa
