/- The document's Rising and Right by contract. -/
import Derived.Test.YtilepjkdfbhgcaaNdM
namespace Go.Proofs.Ytilepjkdfbhgcaa
open Go.RowKit Go.Shelf

theorem fits_below (k v : Int) (w : World) : Calls Try.prog 12 #[.int .i64 k, .int .i64 v] w fun e w' => e = .returned (.bool (fitsP (k, v))) ∧ Below w.heap.size w w' :=
  (fits_any k v w).mono fun e w' h => ⟨h.1, by rw [← h.2]; exact Below.refl _ _⟩
/-- Are keys and values in their ranges, and the keys rising? -/
def risingN (ks vs : List Int) : Bool := decide (ks.length = vs.length) && ordFrom none (pairsOf ks vs)
theorem getD_some {l : List Int} {k : Nat} (h : k < l.length) : l[k]? = some (l[k]?.getD 0) := by rw [List.getElem?_eq_getElem h]; rfl

set_option maxRecDepth 20000 in
set_option maxHeartbeats 4000000 in
theorem rising_any (lv : Int) (a a' : Option Addr) (n m c c' : Nat) (ks vs : List Int) (w : World) (hk : IS w w.heap.size a n ks) (hv : IS w w.heap.size a' m vs) (hn : n ≤ 1000000) :
    Calls Try.prog 26 #[.agg #[.int .i64 lv, .slice a n c, .slice a' m c']] w fun e w' => e = .returned (.bool (risingN ks vs)) ∧ Below w.heap.size w w' := by
  have HLK := mkHid hk.len
  have HLV := mkHid hv.len
  by_cases hnm : n = m
  · subst hnm
    have HR0 := mkHid (show risingN ks vs = ordFrom none (pairsOf ks vs) by unfold risingN; rw [decide_eq_true (by rw [HLK.out, HLV.out]), Bool.true_and])
    have HLZ := mkHid (show (pairsOf ks vs).length = n by rw [pairs_len (by rw [HLK.out, HLV.out]), HLK.out])
    obtain ⟨W, hW⟩ : ∃ W, w.alloc (.cells #[.int .i64 lv, .slice a n c, .slice a' n c'] 24) = W := ⟨_, rfl⟩
    have HAL := mkHid (show Below w.heap.size w W by rw [← hW]; exact (Below.refl _ _).alloc (Nat.le_refl _) _)
    have hQ : W.heap[w.heap.size]? = some (.cells #[.int .i64 lv, .slice a n c, .slice a' n c'] 24) := by rw [← hW]; exact heap_alloc_new _ _
    have HKS := mkHid ((hk.below HAL.out).more HAL.out.size)
    have HVS := mkHid ((hv.below HAL.out).more HAL.out.size)
    have HKC := mkHid (show ∀ Z, Below W.heap.size W Z → (Z.cell? ⟨w.heap.size, 1, none⟩ = some (.slice a n c) ∧ Z.cell? ⟨w.heap.size, 2, none⟩ = some (.slice a' n c')) from fun Z hZ =>
      have h := (hZ.block _ (Array.getElem?_eq_some_iff.1 hQ).1).trans hQ
      ⟨cell_of_row Z w.heap.size 1 _ _ _ h, cell_of_row Z w.heap.size 2 _ _ _ h⟩)
    obtain ⟨k1, k2⟩ := HKC.out W (Below.refl _ _)
    clear hk hv hQ
    go_enter Try.func26, Try.ntmps26
    go_wp2_with fail
    clear k1 k2 hW
    go_loopw [3] (fun i wr => ∃ k : Nat, k ≤ n ∧ i = .int .i64 k ∧ Hid (Below W.heap.size W wr) ∧ Hid (risingN ks vs = ordFrom (prevOf (pairsOf ks vs) k) ((pairsOf ks vs).drop k))) (fun i _ => n - (intOf i).toNat)
    case atStart => exact ⟨0, Nat.zero_le _, rfl, mkHid (Below.refl _ _), HR0⟩
    case round =>
      obtain ⟨k, hk, rfl, HB, HI⟩ := hrel
      obtain ⟨k1, k2⟩ := HKC.out wr HB.out
      by_cases hlt : k < n
      · obtain ⟨b, o, rfl, hb, hck, _, _⟩ := HKS.out.at_ hlt
        obtain ⟨b', o', rfl, hb', hcv, _, _⟩ := HVS.out.at_ hlt
        have d1 := (HB.out.cell (p := ⟨b, o + k, none⟩) hb).trans hck
        have d2 := (HB.out.cell (p := ⟨b', o' + k, none⟩) hb').trans hcv
        have hz : (pairsOf ks vs)[k]? = some (ks[k]?.getD 0, vs[k]?.getD 0) := by unfold pairsOf; rw [List.getElem?_zip_eq_some]; exact ⟨getD_some (by have := HLK.out; omega), getD_some (by have := HLV.out; omega)⟩
        have HST := mkHid (ord_step hz)
        generalize ks[k]?.getD 0 = x at *
        generalize vs[k]?.getD 0 = y at *
        clear hz hck hcv
        by_cases h0 : k = 0
        · have HPV := mkHid (show prevOf (pairsOf ks vs) k = none from if_pos h0)
          have hk0 : (k : Int) ≤ 0 := by omega
          have hk1 : decide (0 < k) = false := decide_eq_false (by omega)
          have hk2 : ¬ 0 < k := by omega
          clear h0
          cases hf : fitsP (x, y) with
          | false =>
            have HF := mkHid hf
            clear hf
            have HV := mkHid (show risingN ks vs = false by rw [HI.out, HST.out]; simp [HF.out, HPV.out])
            have hq0 := fun d os => cell_regrown k1 d os
            have hq1 := fun d os => cell_regrown k2 d os
            have hq2 := fun d os => cell_regrown d1 d os
            have hq3 := fun d os => cell_regrown d2 d os
            have HPR := mkHid (fun d os => Calls.regrown_of (fits_below x y (Sort.grow (redrawn wr d) os)))
            rw [HF.out] at HPR
            go_wp2_with fail
            refine wp_region_quiet_below (by kernel_rfl) (by kernel_rfl) ?_
            repeat (go_big_quiet_step (first | (with_reducible exact HPR.out _ _)))
            refine wpQuiet_nil ?_
            intro wy hw'
            obtain ⟨p9, hw''⟩ := hw'
            have hB9 := below_regrown wr p9.d p9.os
            rw [← hw''] at hB9
            clear hw'' p9
            have HBZ := mkHid (HB.out.trans (hB9.mono HB.out.size))
            clear hB9 HPR hq0 hq1 hq2 hq3
            go_wp2_with fail
            go_ret
            exact ⟨ret_bool HV.out.symm, HAL.out.trans (HBZ.out.mono HAL.out.size)⟩
          | true =>
            have HF := mkHid hf
            clear hf
            have HN := mkHid (show risingN ks vs = ordFrom (prevOf (pairsOf ks vs) (k + 1)) ((pairsOf ks vs).drop (k + 1)) by rw [HI.out, HST.out]; simp [HF.out, HPV.out])
            have hq0 := fun d os => cell_regrown k1 d os
            have hq1 := fun d os => cell_regrown k2 d os
            have hq2 := fun d os => cell_regrown d1 d os
            have hq3 := fun d os => cell_regrown d2 d os
            have HPR := mkHid (fun d os => Calls.regrown_of (fits_below x y (Sort.grow (redrawn wr d) os)))
            rw [HF.out] at HPR
            go_wp2_with fail
            refine wp_region_quiet_below (by kernel_rfl) (by kernel_rfl) ?_
            repeat (go_big_quiet_step (first | (with_reducible exact HPR.out _ _)))
            refine wpQuiet_nil ?_
            intro wy hw'
            obtain ⟨p9, hw''⟩ := hw'
            have hB9 := below_regrown wr p9.d p9.os
            rw [← hw''] at hB9
            clear hw'' p9
            have HBZ := mkHid (HB.out.trans (hB9.mono HB.out.size))
            clear hB9 HPR hq0 hq1 hq2 hq3
            go_wp2_with fail
            go_roundw
            case measure => simp [intOf]; omega
            case rel => exact ⟨k + 1, by omega, by go_num, HBZ, HN⟩
        · obtain ⟨p, hkp⟩ : ∃ p, k = p + 1 := ⟨k - 1, by omega⟩
          obtain ⟨b3, o3, ha3, _, hcp, _, _⟩ := HKS.out.at_ (j := p) (by omega)
          injection ha3 with ha3
          injection ha3 with g1 g2
          subst g1 g2
          have hzp : (pairsOf ks vs)[p]? = some (ks[p]?.getD 0, vs[p]?.getD 0) := by unfold pairsOf; rw [List.getElem?_zip_eq_some]; exact ⟨getD_some (by have := HLK.out; omega), getD_some (by have := HLV.out; omega)⟩
          have HPV := mkHid (show prevOf (pairsOf ks vs) k = some (ks[p]?.getD 0) by unfold prevOf; rw [if_neg (by omega), show k - 1 = p by omega, hzp]; rfl)
          have d0 := (HB.out.cell (p := ⟨b, o + p, none⟩) hb).trans hcp
          generalize ks[p]?.getD 0 = z at *
          have hk0 : 0 < k := by omega
          have hk1 : decide (0 < k) = true := decide_eq_true hk0
          have e8 : IntKind.i64.wrap ((k : Int) - 1) = (p : Int) := by rw [IntWalk.i64_in _ (by omega)]; omega
          have hpn : p < n := by omega
          clear hzp hkp hcp
          cases hf : fitsP (x, y) with
          | false =>
            have HF := mkHid hf
            clear hf
            have HV := mkHid (show risingN ks vs = false by rw [HI.out, HST.out]; simp [HF.out, HPV.out])
            have hq0 := fun d os => cell_regrown k1 d os
            have hq1 := fun d os => cell_regrown k2 d os
            have hq2 := fun d os => cell_regrown d1 d os
            have hq3 := fun d os => cell_regrown d2 d os
            have hq4 := fun d os => cell_regrown d0 d os
            have HPR := mkHid (fun d os => Calls.regrown_of (fits_below x y (Sort.grow (redrawn wr d) os)))
            rw [HF.out] at HPR
            go_wp2_with fail
            refine wp_region_quiet_below (by kernel_rfl) (by kernel_rfl) ?_
            repeat (go_big_quiet_step (first | (with_reducible exact HPR.out _ _)))
            refine wpQuiet_nil ?_
            intro wy hw'
            obtain ⟨p9, hw''⟩ := hw'
            have hB9 := below_regrown wr p9.d p9.os
            rw [← hw''] at hB9
            clear hw'' p9
            have HBZ := mkHid (HB.out.trans (hB9.mono HB.out.size))
            clear hB9 HPR hq0 hq1 hq2 hq3 hq4
            go_wp2_with fail
            go_ret
            exact ⟨ret_bool HV.out.symm, HAL.out.trans (HBZ.out.mono HAL.out.size)⟩
          | true =>
            have HF := mkHid hf
            clear hf
            by_cases hzx : z < x
            · have HN := mkHid (show risingN ks vs = ordFrom (prevOf (pairsOf ks vs) (k + 1)) ((pairsOf ks vs).drop (k + 1)) by rw [HI.out, HST.out]; simp [HF.out, HPV.out, hzx])
              have hq0 := fun d os => cell_regrown k1 d os
              have hq1 := fun d os => cell_regrown k2 d os
              have hq2 := fun d os => cell_regrown d1 d os
              have hq3 := fun d os => cell_regrown d2 d os
              have hq4 := fun d os => cell_regrown d0 d os
              have HPR := mkHid (fun d os => Calls.regrown_of (fits_below x y (Sort.grow (redrawn wr d) os)))
              rw [HF.out] at HPR
              go_wp2_with fail
              refine wp_region_quiet_below (by kernel_rfl) (by kernel_rfl) ?_
              repeat (go_big_quiet_step (first | (with_reducible exact HPR.out _ _)))
              refine wpQuiet_nil ?_
              intro wy hw'
              obtain ⟨p9, hw''⟩ := hw'
              have hB9 := below_regrown wr p9.d p9.os
              rw [← hw''] at hB9
              clear hw'' p9
              have HBZ := mkHid (HB.out.trans (hB9.mono HB.out.size))
              clear hB9 HPR hq0 hq1 hq2 hq3 hq4
              go_wp2_with fail
              go_roundw
              case measure => simp [intOf]; omega
              case rel => exact ⟨k + 1, by omega, by go_num, HBZ, HN⟩
            · have hzx2 : x ≤ z := by omega
              have HV := mkHid (show risingN ks vs = false by rw [HI.out, HST.out]; simp [HF.out, HPV.out, hzx])
              have hq0 := fun d os => cell_regrown k1 d os
              have hq1 := fun d os => cell_regrown k2 d os
              have hq2 := fun d os => cell_regrown d1 d os
              have hq3 := fun d os => cell_regrown d2 d os
              have hq4 := fun d os => cell_regrown d0 d os
              have HPR := mkHid (fun d os => Calls.regrown_of (fits_below x y (Sort.grow (redrawn wr d) os)))
              rw [HF.out] at HPR
              go_wp2_with fail
              refine wp_region_quiet_below (by kernel_rfl) (by kernel_rfl) ?_
              repeat (go_big_quiet_step (first | (with_reducible exact HPR.out _ _)))
              refine wpQuiet_nil ?_
              intro wy hw'
              obtain ⟨p9, hw''⟩ := hw'
              have hB9 := below_regrown wr p9.d p9.os
              rw [← hw''] at hB9
              clear hw'' p9
              have HBZ := mkHid (HB.out.trans (hB9.mono HB.out.size))
              clear hB9 HPR hq0 hq1 hq2 hq3 hq4
              go_wp2_with fail
              go_ret
              exact ⟨ret_bool HV.out.symm, HAL.out.trans (HBZ.out.mono HAL.out.size)⟩
      · obtain rfl : k = n := by omega
        have HV := mkHid (show risingN ks vs = true by rw [HI.out]; exact ord_end (pairsOf ks vs) _ (by rw [HLZ.out]; omega))
        go_wp2_with fail
        go_ret
        exact ⟨ret_bool HV.out.symm, HAL.out.trans (HB.out.mono HAL.out.size)⟩
  · have HV := mkHid (show risingN ks vs = false by unfold risingN; rw [decide_eq_false (by rw [HLK.out, HLV.out]; exact hnm)]; rfl)
    clear hk hv
    go_enter Try.func26, Try.ntmps26
    go_wp2_with fail
    go_ret
    exact ⟨ret_bool HV.out.symm, (Below.refl _ _).alloc (Nat.le_refl _) _⟩

end Go.Proofs.Ytilepjkdfbhgcaa
