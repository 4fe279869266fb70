/- portagelaw10.NodeTwice answers true. -/
import Derived.Test.YtilepjkdfbhgcaaNdS
namespace Go.Proofs.Ytilepjkdfbhgcaa
open Go.RowKit Go.Shelf

theorem IS.regrown {w : World} {a : Option Addr} {n : Nat} {l : List Int} (h : IS w w.heap.size a n l) (d : Nat) (os : Array Obj) : IS (Sort.grow (redrawn w d) os) (Sort.grow (redrawn w d) os).heap.size a n l :=
  (h.below (below_regrown w d os)).more (below_regrown w d os).size
/-- A put at a key that is there. -/
theorem put_there {lv : Int} {ks vs : List Int} (h : rightN lv ks vs = true) {t : Nat} {k : Int} (hk : ks[t]? = some k) (val : Int) : keysOf (putL ks vs k val) = ks ∧ valsOf (putL ks vs k val) = vs.set t val := by
  obtain ⟨_, _, h3, _, _, h6, _⟩ := rightN_ok h
  have hc : ks.contains k = true := by simpa using List.mem_of_getElem? hk
  refine ⟨by rw [keys_put h]; exact if_pos hc, ?_⟩
  unfold putL
  rw [if_pos hc, low_at h6 hk]
  unfold valsOf
  rw [List.map_set, show (pairsOf ks vs).map (fun x => x.2) = vs from zip_vals h3]
theorem fits_pair {lv : Int} {ks vs : List Int} (h : rightN lv ks vs = true) {t : Nat} {k v : Int} (hk : ks[t]? = some k) (hv : vs[t]? = some v) : fitsP (k, v) = true :=
  (rightN_ok h).2.2.2.2.2.2 _ (List.mem_of_getElem? (show (pairsOf ks vs)[t]? = some (k, v) by unfold pairsOf; rw [List.getElem?_zip_eq_some]; exact ⟨hk, hv⟩))
theorem set_same {vs : List Int} {t : Nat} {v : Int} (hv : vs[t]? = some v) : vs.set t v = vs := by
  obtain ⟨ht, rfl⟩ := List.getElem?_eq_some_iff.1 hv
  exact List.set_getElem_self ht
theorem one_node {lv : Int} {ks vs : List Int} (h : rightN lv ks vs = true) {t : Nat} {k : Int} (hk : ks[t]? = some k) (val : Int) : cutOf lv (putL ks vs k val) = [(lv, ks, vs.set t val)] := by
  obtain ⟨h1, h2⟩ := put_there h hk val
  have hl : (putL ks vs k val).length = ks.length := by rw [← keys_len, h1]
  obtain ⟨_, _, _, h4, h5, _, _⟩ := rightN_ok h
  unfold cutOf nodeOf
  rw [if_neg (by omega), if_pos (by omega), h1, h2]

set_option maxRecDepth 20000 in
set_option maxHeartbeats 8000000 in
theorem nodeTwice_any (lv : Int) (a a' : Option Addr) (n m c c' : Nat) (ks vs : List Int) (at_ val : Int) (w : World) (hk : IS w w.heap.size a n ks) (hv : IS w w.heap.size a' m vs) :
    Calls Try.prog 5 #[.agg #[.int .i64 lv, .slice a n c, .slice a' m c'], .int .i64 at_, .int .i64 val] w fun e w' => e = .returned (.bool true) ∧ Below w.heap.size w w' := by
  have HLK := mkHid hk.len
  have HLV := mkHid hv.len
  obtain ⟨W, hW⟩ : ∃ W, w.alloc (.cells #[.int .i64 lv, .slice a n c, .slice a' m c'] 24) = W := ⟨_, rfl⟩
  have HAL := mkHid (show Below w.heap.size w W by rw [← hW]; exact below_al (Below.refl _ _) _)
  have HKS := mkHid ((hk.below HAL.out).more HAL.out.size)
  have HVS := mkHid ((hv.below HAL.out).more HAL.out.size)
  have hQ : W.heap[w.heap.size]? = some (.cells #[.int .i64 lv, .slice a n c, .slice a' m c'] 24) := by rw [← hW]; exact heap_alloc_new _ _
  have HK := mkHid (show ∀ Z, Below W.heap.size W Z → (Z.cell? ⟨w.heap.size, 0, none⟩ = some (.int .i64 lv) ∧ Z.cell? ⟨w.heap.size, 1, none⟩ = some (.slice a n c) ∧ Z.cell? ⟨w.heap.size, 2, none⟩ = some (.slice a' m c')) from fun Z hZ =>
    have h := (hZ.block _ (Array.getElem?_eq_some_iff.1 hQ).1).trans hQ
    ⟨cell_of_row Z w.heap.size 0 _ _ _ h, cell_of_row Z w.heap.size 1 _ _ _ h, cell_of_row Z w.heap.size 2 _ _ _ h⟩)
  obtain ⟨k0, k1, k2⟩ := HK.out W (Below.refl _ _)
  clear hk hv hQ
  go_enter Try.func5, Try.ntmps5
  go_wp2_with fail
  clear hW
  refine (dright_any lv a a' n m c c' ks vs W HKS.out HVS.out).mono ?_
  rintro e w2 ⟨rfl, hb2⟩
  have HB2 := mkHid hb2
  clear hb2 k0 k1 k2
  cases hr : rightN lv ks vs with
  | false =>
    clear hr
    go_wp2_with fail
    refine (awake_any _).mono ?_
    rintro e w3 ⟨rfl, hb3⟩
    have HB3 := mkHid (HAL.out.trans ((below_next HB2.out hb3).mono HAL.out.size))
    clear hb3
    go_wp2_with fail
    go_ret
    exact ⟨rfl, HB3.out⟩
  | true =>
    have HR := mkHid hr
    have hok := rightN_ok hr
    obtain ⟨_, _, hlen, h1n, hn7, hsr, _⟩ := hok
    have HSR := mkHid hsr
    rw [HLK.out] at h1n hn7
    rw [HLK.out, HLV.out] at hlen
    subst hlen
    have HFT := mkHid (keys_fit hr)
    clear hr hsr
    obtain ⟨k0, k1, k2⟩ := HK.out w2 HB2.out
    by_cases hat : at_ < 0
    · clear HFT
      go_wp2_with fail
      refine (awake_any _).mono ?_
      rintro e w3 ⟨rfl, hb3⟩
      have HB3 := mkHid (HAL.out.trans ((below_next HB2.out hb3).mono HAL.out.size))
      clear hb3
      go_wp2_with fail
      go_ret
      exact ⟨rfl, HB3.out⟩
    by_cases hat2 : (n : Int) ≤ at_
    · clear HFT
      go_wp2_with fail
      refine (awake_any _).mono ?_
      rintro e w3 ⟨rfl, hb3⟩
      have HB3 := mkHid (HAL.out.trans ((below_next HB2.out hb3).mono HAL.out.size))
      clear hb3
      go_wp2_with fail
      go_ret
      exact ⟨rfl, HB3.out⟩
    obtain ⟨t, rfl⟩ : ∃ t : Nat, at_ = t := ⟨at_.toNat, by omega⟩
    have hatn : t < n := by omega
    have hat3 : (t : Int) < (n : Int) := by omega
    clear hat hat2
    go_wp2_with fail
    refine (fits_any 0 val w2).mono ?_
    rintro e wz ⟨rfl, hwz⟩
    subst hwz
    cases hf : fitsP (0, val) with
    | false =>
      clear hf
      go_wp2_with fail
      refine (awake_any _).mono ?_
      rintro e w3 ⟨rfl, hb3⟩
      have HB3 := mkHid (HAL.out.trans ((below_next HB2.out hb3).mono HAL.out.size))
      clear hb3
      go_wp2_with fail
      go_ret
      exact ⟨rfl, HB3.out⟩
    | true =>
      have hf0 := of_decide_eq_true hf
      simp only at hf0
      have HX := mkHid (getD_some (l := ks) (k := t) (by rw [HLK.out]; exact hatn))
      have HY := mkHid (getD_some (l := vs) (k := t) (by rw [HLV.out]; exact hatn))
      obtain ⟨b, o, rfl, hb, hck, hx0, hx1⟩ := HKS.out.at_ hatn
      obtain ⟨b', o', rfl, hb', hcv, hy0, hy1⟩ := HVS.out.at_ hatn
      have d1 := (HB2.out.cell (p := ⟨b, o + t, none⟩) hb).trans hck
      have d2 := (HB2.out.cell (p := ⟨b', o' + t, none⟩) hb').trans hcv
      generalize hgx : ks[t]?.getD 0 = k at *
      generalize hgy : vs[t]?.getD 0 = v at *
      have hkf := HFT.out _ (List.mem_of_getElem? HX.out)
      have HF1 := mkHid (fits_pair HR.out HX.out HY.out)
      have HF2 := mkHid (show fitsP (k, val) = true from decide_eq_true (by simp only; omega))
      clear hck hcv hgx hgy hf hf0 hkf hx0 hx1 hy0 hy1
      have hq0 := fun d os => cell_regrown k1 d os
      have hq1 := fun d os => cell_regrown k2 d os
      have hq2 := fun d os => cell_regrown d1 d os
      have hq3 := fun d os => cell_regrown d2 d os
      go_wp2_with fail
      refine wp_region_quiet_below (by kernel_rfl) (by kernel_rfl) ?_
      repeat (go_big_quiet_step (fail))
      refine wpQuiet_nil ?_
      intro wy hw'
      obtain ⟨p9, hw''⟩ := hw'
      have hB9 := below_regrown w2 p9.d p9.os
      rw [← hw''] at hB9
      clear hw'' p9
      have HBZ := mkHid (below_next HB2.out hB9)
      clear hB9 hq0 hq1 hq2 hq3 
      clear k0 k1 k2 d1 d2
      obtain ⟨k0, k1, k2⟩ := HK.out wy HBZ.out
      go_wp2_with fail
      refine (lof_any lv (some ⟨b, o, none⟩) (some ⟨b', o', none⟩) n n c c' ks vs wy ((HKS.out.below HBZ.out).more HBZ.out.size) ((HVS.out.below HBZ.out).more HBZ.out.size) (by omega) (by omega)).mono ?_
      rintro e w3 ⟨_, rfl, ⟨A1, n1, C1, B1, m1, D1, rfl, i1, i2, _, _⟩, _, hb3⟩
      obtain rfl : n = n1 := by rw [← i1.len, HLK.out]
      obtain rfl : n = m1 := by rw [← i2.len, HLV.out]
      have HB3 := mkHid (below_next HBZ.out hb3)
      have HI1 := mkHid i1
      have HI2 := mkHid i2
      clear i1 i2 hb3
      clear k0 k1 k2
      go_wp2_with fail
      refine (put_any lv A1 B1 n n C1 D1 ks vs k v w3 HI1.out HI2.out).mono ?_
      rintro e w4 ⟨A2, C2, rfl, hle2, hns2, hb4⟩
      have hpo : putOf lv ks vs k v = (0, [(lv, ks, vs)]) := by unfold putOf; rw [if_neg (by rw [HR.out]; decide), if_neg (by rw [HF1.out]; decide), one_node HR.out HX.out, set_same HY.out]
      rw [hpo] at hle2 hns2 ⊢
      rw [errV_no]
      simp only [List.length_cons, List.length_nil, Nat.zero_add] at hle2 hns2 ⊢
      have HB4 := mkHid (below_next HB3.out hb4)
      have HNS2 := mkHid hns2
      clear hb4 hpo HI1 HI2 hns2
      obtain ⟨k0, k1, k2⟩ := HK.out w4 HB4.out
      go_wp2_with fail
      refine (lof_any lv (some ⟨b, o, none⟩) (some ⟨b', o', none⟩) n n c c' ks vs w4 ((HKS.out.below HB4.out).more HB4.out.size) ((HVS.out.below HB4.out).more HB4.out.size) (by omega) (by omega)).mono ?_
      rintro e w5 ⟨_, rfl, ⟨A3, n3, C3, B3, m3, D3, rfl, i1, i2, _, _⟩, _, hb3⟩
      obtain rfl : n = n3 := by rw [← i1.len, HLK.out]
      obtain rfl : n = m3 := by rw [← i2.len, HLV.out]
      have HB5 := mkHid (below_next HB4.out hb3)
      have HN5 := mkHid (HNS2.out.next hb3)
      have HI1 := mkHid i1
      have HI2 := mkHid i2
      clear i1 i2 hb3
      clear k0 k1 k2
      go_wp2_with fail
      refine (put_any lv A3 B3 n n C3 D3 ks vs k val w5 HI1.out HI2.out).mono ?_
      rintro e w6 ⟨A4, C4, rfl, hle4, hns4, hb6⟩
      have hpo : putOf lv ks vs k val = (0, [(lv, ks, vs.set t val)]) := by unfold putOf; rw [if_neg (by rw [HR.out]; decide), if_neg (by rw [HF2.out]; decide), one_node HR.out HX.out]
      rw [hpo] at hle4 hns4 ⊢
      rw [errV_no]
      simp only [List.length_cons, List.length_nil, Nat.zero_add] at hle4 hns4 ⊢
      have HB6 := mkHid (below_next HB5.out hb6)
      obtain ⟨fb, fo, E1, q1, G1, E2, q2, G2, rfl, _, f0, f1, f2, i1, i2, _, _⟩ := (HN5.out.next hb6).2 0 _ rfl
      obtain ⟨gb, go, E3, q3, G3, E4, q4, G4, rfl, _, g0, g1, g2, i3, i4, _, _⟩ := hns4.2 0 _ rfl
      simp only [Nat.zero_mul, Nat.add_zero] at f0 f1 f2 g0 g1 g2
      simp only at i1 i2 i3 i4
      obtain rfl : n = q1 := by rw [← i1.len, HLK.out]
      obtain rfl : n = q2 := by rw [← i2.len, HLV.out]
      obtain rfl : n = q3 := by rw [← i3.len, HLK.out]
      obtain rfl : n = q4 := by rw [← i4.len, List.length_set, HLV.out]
      obtain ⟨hb9, ho9, rfl, _, g3, _, _⟩ := i4.at_ hatn
      rw [List.getElem?_set_self (by rw [HLV.out]; exact hatn)] at g3
      simp only [Option.getD_some] at g3
      have HI1 := mkHid i1
      have HI2 := mkHid i2
      have HI3 := mkHid i3
      have HI4 := mkHid i4
      have HNS4 := mkHid hns4
      clear hb6 hpo hns4 i1 i2 i3 i4 HNS2 HN5
      obtain ⟨k0, k1, k2⟩ := HK.out w6 HB6.out
      have HKW := mkHid ((HKS.out.below HB6.out).more HB6.out.size)
      have HVW := mkHid ((HVS.out.below HB6.out).more HB6.out.size)
      have hsm : sameN (lv, ks, vs) (lv, ks, vs) = true := decide_eq_true rfl
      have hq0 := fun d os => cell_regrown k0 d os
      have hq1 := fun d os => cell_regrown k1 d os
      have hq2 := fun d os => cell_regrown k2 d os
      have hq3 := fun d os => cell_regrown f0 d os
      have hq4 := fun d os => cell_regrown f1 d os
      have hq5 := fun d os => cell_regrown f2 d os
      have hq6 := fun d os => cell_regrown g2 d os
      have hq7 := fun d os => cell_regrown g3 d os
      have HSM := mkHid (fun d os => Calls.regrown_of (same_any lv lv E1 E2 (some ⟨b, o, none⟩) (some ⟨b', o', none⟩) n n n n G1 G2 c c' ks vs ks vs ((Sort.grow (redrawn w6 d) os)) (HI1.out.regrown d os) (HI2.out.regrown d os) (HKW.out.regrown d os) (HVW.out.regrown d os) (by omega) (by omega)))
      rw [hsm] at HSM
      clear hsm
      go_wp2_with fail
      refine wp_region_quiet_below (by kernel_rfl) (by kernel_rfl) ?_
      repeat (go_big_quiet_step (first | (with_reducible exact HSM.out _ _)))
      refine wpQuiet_nil ?_
      intro wy hw'
      obtain ⟨p9, hw''⟩ := hw'
      have hB9 := below_regrown w6 p9.d p9.os
      rw [← hw''] at hB9
      clear hw'' p9
      have HBZ := mkHid (below_next HB6.out hB9)
      have HBL := mkHid hB9
      clear hB9 hq0 hq1 hq2 hq3 hq4 hq5 hq6 hq7 HSM
      clear k0 k1 k2
      obtain ⟨k0, k1, k2⟩ := HK.out wy HBZ.out
      have hgb : gb < w6.heap.size := block_lt_of_cell g0
      have u0 := (HBL.out.cell (p := ⟨gb, go, none⟩) hgb).trans g0
      have u1 := (HBL.out.cell (p := ⟨gb, go + 1, none⟩) hgb).trans g1
      have u2 := (HBL.out.cell (p := ⟨gb, go + 2, none⟩) hgb).trans g2
      have hR2 : rightN lv ks (vs.set t val) = true := by
        obtain ⟨h1, h2⟩ := put_there HR.out HX.out val
        have hl : (putL ks vs k val).length = ks.length := by rw [← keys_len, h1]
        have h3 := right_of (lv := lv) (l := putL ks vs k val) ⟨(rightN_ok HR.out).1, (rightN_ok HR.out).2.1⟩ (by rw [h1]; exact HSR.out) (put_ok_mem HR.out HF2.out) (by rw [hl, HLK.out]; exact h1n) (by rw [hl, HLK.out]; exact hn7)
        rwa [h1, h2] at h3
      have hpo : putOf lv ks (vs.set t val) k v = (0, [(lv, ks, vs)]) := by unfold putOf; rw [if_neg (by rw [hR2]; decide), if_neg (by rw [HF1.out]; decide), one_node hR2 HX.out, List.set_set, set_same HY.out]
      have HPO := mkHid hpo
      clear f0 f1 f2 g0 g1 g2 g3 hgb hR2 hpo k0 k1 k2
      go_wp2_with fail
      refine (put_any lv E3 (some ⟨hb9, ho9, none⟩) n n G3 G4 ks (vs.set t val) k v wy ((HI3.out.below HBL.out).more HBL.out.size) ((HI4.out.below HBL.out).more HBL.out.size)).mono ?_
      rintro e w7 ⟨A5, C5, rfl, hle5, hns5, hb7⟩
      rw [HPO.out] at hle5 hns5 ⊢
      rw [errV_no]
      simp only [List.length_cons, List.length_nil, Nat.zero_add] at hle5 hns5 ⊢
      have HB7 := mkHid (below_next HBZ.out hb7)
      obtain ⟨fb, fo, E5, q5, G5, E6, q6, G6, rfl, _, f0, f1, f2, i1, i2, _, _⟩ := hns5.2 0 _ rfl
      simp only [Nat.zero_mul, Nat.add_zero] at f0 f1 f2
      simp only at i1 i2
      obtain rfl : n = q5 := by rw [← i1.len, HLK.out]
      obtain rfl : n = q6 := by rw [← i2.len, HLV.out]
      have HI5 := mkHid i1
      have HI6 := mkHid i2
      clear hb7 hns5 i1 i2 u0 u1 u2
      obtain ⟨k0, k1, k2⟩ := HK.out w7 HB7.out
      have HKX := mkHid ((HKS.out.below HB7.out).more HB7.out.size)
      have HVX := mkHid ((HVS.out.below HB7.out).more HB7.out.size)
      have hsm : sameN (lv, ks, vs) (lv, ks, vs) = true := decide_eq_true rfl
      have hq0 := fun d os => cell_regrown k0 d os
      have hq1 := fun d os => cell_regrown k1 d os
      have hq2 := fun d os => cell_regrown k2 d os
      have hq3 := fun d os => cell_regrown f0 d os
      have hq4 := fun d os => cell_regrown f1 d os
      have hq5 := fun d os => cell_regrown f2 d os
      have HSM2 := mkHid (fun d os => Calls.regrown_of (same_any lv lv E5 E6 (some ⟨b, o, none⟩) (some ⟨b', o', none⟩) n n n n G5 G6 c c' ks vs ks vs ((Sort.grow (redrawn w7 d) os)) (HI5.out.regrown d os) (HI6.out.regrown d os) (HKX.out.regrown d os) (HVX.out.regrown d os) (by omega) (by omega)))
      have HAW := mkHid (fun d os => Calls.regrown_of (awake_any (Sort.grow (redrawn w7 d) os)))
      rw [hsm] at HSM2
      clear hsm HBZ HBL
      go_wp2_with fail
      refine wp_region_quiet_below (by kernel_rfl) (by kernel_rfl) ?_
      repeat (go_big_quiet_step (first | (with_reducible exact HSM2.out _ _) | (with_reducible exact HAW.out _ _)))
      refine wpQuiet_nil ?_
      intro wy hw'
      obtain ⟨p9, hw''⟩ := hw'
      have hB9 := below_regrown w7 p9.d p9.os
      rw [← hw''] at hB9
      clear hw'' p9
      have HBZ := mkHid (below_next HB7.out hB9)
      clear hB9 hq0 hq1 hq2 hq3 hq4 hq5 HSM2 HAW
      go_wp2_with fail
      go_ret
      exact ⟨rfl, HAL.out.trans (HBZ.out.mono HAL.out.size)⟩

end Go.Proofs.Ytilepjkdfbhgcaa
