/- The document's Same and the law's same by contract. -/
import Derived.Test.YtilepjkdfbhgcaaNdR
namespace Go.Proofs.Ytilepjkdfbhgcaa
open Go.RowKit Go.Shelf

/-- Are two nodes equal? -/
def sameN (x y : Nd) : Bool := decide (x = y)
theorem take_snoc_eq {l l' : List Int} {k : Nat} {x : Int} (h : l.take k = l'.take k) (hx : l[k]? = some x) (hy : l'[k]? = some x) : l.take (k + 1) = l'.take (k + 1) := by
  rw [List.take_add_one, List.take_add_one, h, hx, hy]

set_option maxRecDepth 20000 in
set_option maxHeartbeats 4000000 in
theorem dsame_any (lv lv' : Int) (a a' e e' : Option Addr) (n m n' m' c c' d d' : Nat) (ks vs ks' vs' : List Int) (w : World) (hk : IS w w.heap.size a n ks) (hv : IS w w.heap.size a' m vs) (hk' : IS w w.heap.size e n' ks') (hv' : IS w w.heap.size e' m' vs') (hnn : n ≤ 1000000) (hmm : m ≤ 1000000) :
    Calls Try.prog 32 #[.agg #[.int .i64 lv, .slice a n c, .slice a' m c'], .agg #[.int .i64 lv', .slice e n' d, .slice e' m' d']] w fun en w' => en = .returned (.bool (sameN (lv, ks, vs) (lv', ks', vs'))) ∧ Below w.heap.size w w' := by
  have HLK := mkHid hk.len
  have HLV := mkHid hv.len
  have HLK2 := mkHid hk'.len
  have HLV2 := mkHid hv'.len
  obtain ⟨W, hW⟩ : ∃ W, (w.alloc (.cells #[.int .i64 lv, .slice a n c, .slice a' m c'] 24)).alloc (.cells #[.int .i64 lv', .slice e n' d, .slice e' m' d'] 24) = W := ⟨_, rfl⟩
  have HAL := mkHid (show Below w.heap.size w W by rw [← hW]; exact below_al (below_al (Below.refl _ _) _) _)
  have HKS := mkHid ((hk.below HAL.out).more HAL.out.size)
  have HVS := mkHid ((hv.below HAL.out).more HAL.out.size)
  have HKS2 := mkHid ((hk'.below HAL.out).more HAL.out.size)
  have HVS2 := mkHid ((hv'.below HAL.out).more HAL.out.size)
  have hQ : W.heap[w.heap.size]? = some (.cells #[.int .i64 lv, .slice a n c, .slice a' m c'] 24) := by rw [← hW]; exact (Below.heap_alloc _ _ _ (by simp)).trans (heap_alloc_new _ _)
  have hR : W.heap[w.heap.size + 1]? = some (.cells #[.int .i64 lv', .slice e n' d, .slice e' m' d'] 24) := by rw [← hW]; exact heap_two _ _ _
  have HK := mkHid (show ∀ Z, Below W.heap.size W Z → (Z.cell? ⟨w.heap.size, 0, none⟩ = some (.int .i64 lv) ∧ Z.cell? ⟨w.heap.size, 1, none⟩ = some (.slice a n c) ∧ Z.cell? ⟨w.heap.size, 2, none⟩ = some (.slice a' m c')) from fun Z hZ =>
    have h := (hZ.block _ (Array.getElem?_eq_some_iff.1 hQ).1).trans hQ
    ⟨cell_of_row Z w.heap.size 0 _ _ _ h, cell_of_row Z w.heap.size 1 _ _ _ h, cell_of_row Z w.heap.size 2 _ _ _ h⟩)
  have HK2 := mkHid (show ∀ Z, Below W.heap.size W Z → (Z.cell? ⟨w.heap.size + 1, 0, none⟩ = some (.int .i64 lv') ∧ Z.cell? ⟨w.heap.size + 1, 1, none⟩ = some (.slice e n' d) ∧ Z.cell? ⟨w.heap.size + 1, 2, none⟩ = some (.slice e' m' d')) from fun Z hZ =>
    have h := (hZ.block _ (Array.getElem?_eq_some_iff.1 hR).1).trans hR
    ⟨cell_of_row Z (w.heap.size + 1) 0 _ _ _ h, cell_of_row Z (w.heap.size + 1) 1 _ _ _ h, cell_of_row Z (w.heap.size + 1) 2 _ _ _ h⟩)
  obtain ⟨k0, k1, k2⟩ := HK.out W (Below.refl _ _)
  obtain ⟨j0, j1, j2⟩ := HK2.out W (Below.refl _ _)
  clear hk hv hk' hv' hQ hR
  by_cases h1 : lv = lv'
  case neg =>
    have HV := mkHid (show sameN (lv, ks, vs) (lv', ks', vs') = false from decide_eq_false (fun h => h1 (congrArg Prod.fst h)))
    have h1b : (lv != lv') = true := by simpa using h1
    go_enter Try.func32, Try.ntmps32
    go_wp2_with fail
    go_ret
    exact ⟨ret_bool HV.out.symm, HAL.out⟩
  subst h1
  by_cases h2 : n = n'
  case neg =>
    have HV := mkHid (show sameN (lv, ks, vs) (lv, ks', vs') = false from decide_eq_false (fun h => h2 (by have := congrArg (fun x : Nd => x.2.1.length) h; simp only at this; rw [HLK.out, HLK2.out] at this; exact this)))
    have h2b : ((n : Int) != (n' : Int)) = true := by simp; omega
    go_enter Try.func32, Try.ntmps32
    go_wp2_with fail
    go_ret
    exact ⟨ret_bool HV.out.symm, HAL.out⟩
  subst h2
  by_cases h3 : m = m'
  case neg =>
    have HV := mkHid (show sameN (lv, ks, vs) (lv, ks', vs') = false from decide_eq_false (fun h => h3 (by have := congrArg (fun x : Nd => x.2.2.length) h; simp only at this; rw [HLV.out, HLV2.out] at this; exact this)))
    have h3b : ((m : Int) != (m' : Int)) = true := by simp; omega
    go_enter Try.func32, Try.ntmps32
    go_wp2_with fail
    go_ret
    exact ⟨ret_bool HV.out.symm, HAL.out⟩
  subst h3
  go_enter Try.func32, Try.ntmps32
  go_wp2_with fail
  clear k0 k1 k2 j0 j1 j2 hW
  go_loopw [5] (fun i wr => ∃ k : Nat, k ≤ n ∧ i = .int .i64 k ∧ Hid (Below W.heap.size W wr) ∧ Hid (ks.take k = ks'.take k)) (fun i _ => n - (intOf i).toNat)
  case atStart => exact ⟨0, Nat.zero_le _, rfl, mkHid (Below.refl _ _), mkHid rfl⟩
  case round =>
    obtain ⟨k, hk, rfl, HB, HT⟩ := hrel
    obtain ⟨k0, k1, k2⟩ := HK.out wr HB.out
    obtain ⟨j0, j1, j2⟩ := HK2.out wr HB.out
    by_cases hlt : k < n
    · obtain ⟨b, o, rfl, hb, hck, _, _⟩ := HKS.out.at_ hlt
      obtain ⟨b', o', rfl, hb', hcv, _, _⟩ := HKS2.out.at_ hlt
      have d1 := (HB.out.cell (p := ⟨b, o + k, none⟩) hb).trans hck
      have d2 := (HB.out.cell (p := ⟨b', o' + k, none⟩) hb').trans hcv
      have HX := mkHid (getD_some (l := ks) (k := k) (by rw [HLK.out]; exact hlt))
      have HY := mkHid (getD_some (l := ks') (k := k) (by rw [HLK2.out]; exact hlt))
      generalize ks[k]?.getD 0 = x at *
      generalize ks'[k]?.getD 0 = y at *
      clear hck hcv
      by_cases hxy : x = y
      · subst hxy
        have hq0 := fun d os => cell_regrown k1 d os
        have hq1 := fun d os => cell_regrown j1 d os
        have hq2 := fun d os => cell_regrown d1 d os
        have hq3 := fun d os => cell_regrown d2 d os
        go_wp2_with fail
        refine wp_region_quiet_below (by kernel_rfl) (by kernel_rfl) ?_
        repeat (go_big_quiet_step (fail))
        refine wpQuiet_nil ?_
        intro wy hw'
        obtain ⟨p9, hw''⟩ := hw'
        have hB9 := below_regrown wr p9.d p9.os
        rw [← hw''] at hB9
        clear hw'' p9
        have HBZ := mkHid (below_next HB.out hB9)
        clear hB9 hq0 hq1 hq2 hq3 
        go_wp2_with fail
        go_roundw
        case measure => simp [intOf]; omega
        case rel => exact ⟨k + 1, by omega, by go_num, HBZ, mkHid (take_snoc_eq HT.out HX.out HY.out)⟩
      · have hxb : (x != y) = true := by simpa using hxy
        have HV := mkHid (show sameN (lv, ks, vs) (lv, ks', vs') = false from decide_eq_false (fun h => hxy (by
          have h2 : ks = ks' := congrArg (fun x : Nd => x.2.1) h
          have h3 := HX.out
          rw [h2, HY.out] at h3
          injection h3 with h3
          exact h3.symm)))
        have hq0 := fun d os => cell_regrown k1 d os
        have hq1 := fun d os => cell_regrown j1 d os
        have hq2 := fun d os => cell_regrown d1 d os
        have hq3 := fun d os => cell_regrown d2 d os
        go_wp2_with fail
        refine wp_region_quiet_below (by kernel_rfl) (by kernel_rfl) ?_
        repeat (go_big_quiet_step (fail))
        refine wpQuiet_nil ?_
        intro wy hw'
        obtain ⟨p9, hw''⟩ := hw'
        have hB9 := below_regrown wr p9.d p9.os
        rw [← hw''] at hB9
        clear hw'' p9
        have HBZ := mkHid (below_next HB.out hB9)
        clear hB9 hq0 hq1 hq2 hq3 
        go_wp2_with fail
        go_ret
        exact ⟨ret_bool HV.out.symm, HAL.out.trans (HBZ.out.mono HAL.out.size)⟩
    · obtain rfl : k = n := by omega
      have HKE := mkHid (show ks = ks' by
        have h := HT.out
        rwa [List.take_of_length_le (by rw [HLK.out]; omega), List.take_of_length_le (by rw [HLK2.out]; omega)] at h)
      have HBO := mkHid HB.out
      clear HT HB hlt
      go_wp2_with fail
      clear k0 k1 k2 j0 j1 j2
      go_loopw [6] (fun i ws => ∃ q : Nat, q ≤ m ∧ i = .int .i64 q ∧ Hid (Below W.heap.size W ws) ∧ Hid (vs.take q = vs'.take q)) (fun i _ => m - (intOf i).toNat)
      case atStart => exact ⟨0, Nat.zero_le _, rfl, HBO, mkHid rfl⟩
      case round =>
        obtain ⟨q, hq, rfl, HB, HT⟩ := hrel
        obtain ⟨k0, k1, k2⟩ := HK.out wr HB.out
        obtain ⟨j0, j1, j2⟩ := HK2.out wr HB.out
        by_cases hlt : q < m
        · obtain ⟨b, o, rfl, hb, hck, _, _⟩ := HVS.out.at_ hlt
          obtain ⟨b', o', rfl, hb', hcv, _, _⟩ := HVS2.out.at_ hlt
          have d1 := (HB.out.cell (p := ⟨b, o + q, none⟩) hb).trans hck
          have d2 := (HB.out.cell (p := ⟨b', o' + q, none⟩) hb').trans hcv
          have HX := mkHid (getD_some (l := vs) (k := q) (by rw [HLV.out]; exact hlt))
          have HY := mkHid (getD_some (l := vs') (k := q) (by rw [HLV2.out]; exact hlt))
          generalize vs[q]?.getD 0 = x at *
          generalize vs'[q]?.getD 0 = y at *
          clear hck hcv
          by_cases hxy : x = y
          · subst hxy
            have hq0 := fun d os => cell_regrown k2 d os
            have hq1 := fun d os => cell_regrown j2 d os
            have hq2 := fun d os => cell_regrown d1 d os
            have hq3 := fun d os => cell_regrown d2 d os
            go_wp2_with fail
            refine wp_region_quiet_below (by kernel_rfl) (by kernel_rfl) ?_
            repeat (go_big_quiet_step (fail))
            refine wpQuiet_nil ?_
            intro wy hw'
            obtain ⟨p9, hw''⟩ := hw'
            have hB9 := below_regrown wr p9.d p9.os
            rw [← hw''] at hB9
            clear hw'' p9
            have HBZ := mkHid (below_next HB.out hB9)
            clear hB9 hq0 hq1 hq2 hq3 
            go_wp2_with fail
            go_roundw
            case measure => simp [intOf]; omega
            case rel => exact ⟨q + 1, by omega, by go_num, HBZ, mkHid (take_snoc_eq HT.out HX.out HY.out)⟩
          · have hxb : (x != y) = true := by simpa using hxy
            have HV := mkHid (show sameN (lv, ks, vs) (lv, ks', vs') = false from decide_eq_false (fun h => hxy (by
              have h2 : vs = vs' := congrArg (fun x : Nd => x.2.2) h
              have h3 := HX.out
              rw [h2, HY.out] at h3
              injection h3 with h3
              exact h3.symm)))
            have hq0 := fun d os => cell_regrown k2 d os
            have hq1 := fun d os => cell_regrown j2 d os
            have hq2 := fun d os => cell_regrown d1 d os
            have hq3 := fun d os => cell_regrown d2 d os
            go_wp2_with fail
            refine wp_region_quiet_below (by kernel_rfl) (by kernel_rfl) ?_
            repeat (go_big_quiet_step (fail))
            refine wpQuiet_nil ?_
            intro wy hw'
            obtain ⟨p9, hw''⟩ := hw'
            have hB9 := below_regrown wr p9.d p9.os
            rw [← hw''] at hB9
            clear hw'' p9
            have HBZ := mkHid (below_next HB.out hB9)
            clear hB9 hq0 hq1 hq2 hq3 
            go_wp2_with fail
            go_ret
            exact ⟨ret_bool HV.out.symm, HAL.out.trans (HBZ.out.mono HAL.out.size)⟩
        · obtain rfl : q = m := by omega
          have HV := mkHid (show sameN (lv, ks, vs) (lv, ks', vs') = true from decide_eq_true (by
            have h := HT.out
            rw [List.take_of_length_le (by rw [HLV.out]; omega), List.take_of_length_le (by rw [HLV2.out]; omega)] at h
            rw [HKE.out, h]))
          go_wp2_with fail
          go_ret
          exact ⟨ret_bool HV.out.symm, HAL.out.trans (HB.out.mono HAL.out.size)⟩

set_option maxRecDepth 20000 in
set_option maxHeartbeats 1000000 in
theorem same_any (lv lv' : Int) (a a' e e' : Option Addr) (n m n' m' c c' d d' : Nat) (ks vs ks' vs' : List Int) (w : World) (hk : IS w w.heap.size a n ks) (hv : IS w w.heap.size a' m vs) (hk' : IS w w.heap.size e n' ks') (hv' : IS w w.heap.size e' m' vs') (hnn : n ≤ 1000000) (hmm : m ≤ 1000000) :
    Calls Try.prog 17 #[.agg #[.int .i64 lv, .slice a n c, .slice a' m c'], .agg #[.int .i64 lv', .slice e n' d, .slice e' m' d']] w fun en w' => en = .returned (.bool (sameN (lv, ks, vs) (lv', ks', vs'))) ∧ Below w.heap.size w w' := by
  obtain ⟨W, hW⟩ : ∃ W, (w.alloc (.cells #[.int .i64 lv, .slice a n c, .slice a' m c'] 32)).alloc (.cells #[.int .i64 lv', .slice e n' d, .slice e' m' d'] 24) = W := ⟨_, rfl⟩
  have HAL := mkHid (show Below w.heap.size w W by rw [← hW]; exact below_al (below_al (Below.refl _ _) _) _)
  have HS := mkHid (dsame_any lv lv' a a' e e' n m n' m' c c' d d' ks vs ks' vs' W ((hk.below HAL.out).more HAL.out.size) ((hv.below HAL.out).more HAL.out.size) ((hk'.below HAL.out).more HAL.out.size) ((hv'.below HAL.out).more HAL.out.size) hnn hmm)
  have hQ : W.heap[w.heap.size]? = some (.cells #[.int .i64 lv, .slice a n c, .slice a' m c'] 32) := by rw [← hW]; exact (Below.heap_alloc _ _ _ (by simp)).trans (heap_alloc_new _ _)
  have hR : W.heap[w.heap.size + 1]? = some (.cells #[.int .i64 lv', .slice e n' d, .slice e' m' d'] 24) := by rw [← hW]; exact heap_two _ _ _
  have k0 := cell_of_row W w.heap.size 0 _ _ _ hQ
  have k1 := cell_of_row W w.heap.size 1 _ _ _ hQ
  have k2 := cell_of_row W w.heap.size 2 _ _ _ hQ
  have j0 := cell_of_row W (w.heap.size + 1) 0 _ _ _ hR
  have j1 := cell_of_row W (w.heap.size + 1) 1 _ _ _ hR
  have j2 := cell_of_row W (w.heap.size + 1) 2 _ _ _ hR
  simp at k0 k1 k2 j0 j1 j2
  clear hQ hR
  clear hk hv hk' hv'
  go_enter Try.func17, Try.ntmps17
  go_wp2_with fail
  refine HS.out.mono ?_
  rintro e w2 ⟨rfl, hb⟩
  have HB := mkHid (HAL.out.trans (hb.mono HAL.out.size))
  clear hb
  go_wp2_with fail
  go_ret
  exact ⟨rfl, HB.out⟩

end Go.Proofs.Ytilepjkdfbhgcaa
