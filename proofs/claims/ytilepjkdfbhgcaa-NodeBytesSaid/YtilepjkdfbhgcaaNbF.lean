/- Node.Same by contract. -/
import Derived.Test.YtilepjkdfbhgcaaNbE
namespace Go.Proofs.Ytilepjkdfbhgcaa
open Go.RowKit Go.Shelf

set_option maxRecDepth 20000 in
set_option maxHeartbeats 4000000 in
theorem equalI_any (a e : Option Addr) (n n' c d : Nat) (ks ks' : List Int) (w : World) (hk : IS w w.heap.size a n ks) (hk' : IS w w.heap.size e n' ks') (hnn : n ≤ 1000000) :
    Calls Try.prog 53 #[.slice a n c, .slice e n' d] w fun en w' => en = .returned (.bool (decide (ks = ks'))) ∧ Below w.heap.size w w' := by
  have HLK := mkHid hk.len
  have HLK2 := mkHid hk'.len
  have HKS := mkHid hk
  have HKS2 := mkHid hk'
  clear hk hk'
  by_cases h2 : n = n'
  case neg =>
    have HV := mkHid (show decide (ks = ks') = false from decide_eq_false (fun h => h2 (by have := congrArg List.length h; rw [HLK.out, HLK2.out] at this; exact this)))
    have h2b : ((n : Int) != (n' : Int)) = true := by simp; omega
    go_enter Try.func53, Try.ntmps53
    go_wp2_with fail
    go_ret
    exact ⟨ret_bool HV.out.symm, Below.refl _ _⟩
  subst h2
  have hnb : ((n : Int) != (n : Int)) = false := by simp
  go_enter Try.func53, Try.ntmps53
  go_wp2_with fail
  go_loopw [13] (fun i wr => ∃ k : Nat, k ≤ n ∧ i = .int .i64 k ∧ Hid (Below w.heap.size w wr) ∧ Hid (ks.take k = ks'.take k)) (fun i _ => n - (intOf i).toNat)
  case atStart => exact ⟨0, Nat.zero_le _, rfl, mkHid (Below.refl _ _), mkHid rfl⟩
  case round =>
    obtain ⟨k, hk, rfl, HB, HT⟩ := hrel
    by_cases hlt : k < n
    · obtain ⟨b, o, rfl, hb, hck, _, _⟩ := HKS.out.at_ hlt
      obtain ⟨b', o', rfl, hb', hcv, _, _⟩ := HKS2.out.at_ hlt
      have d1 := (HB.out.cell (p := ⟨b, o + k, none⟩) hb).trans hck
      have d2 := (HB.out.cell (p := ⟨b', o' + k, none⟩) hb').trans hcv
      have HX := mkHid (getD_some (l := ks) (k := k) (by rw [HLK.out]; exact hlt))
      have HY := mkHid (getD_some (l := ks') (k := k) (by rw [HLK2.out]; exact hlt))
      generalize ks[k]?.getD 0 = x at *
      generalize ks'[k]?.getD 0 = y at *
      clear hck hcv
      have hi0 : (0 : Int) ≤ (k : Int) := by omega
      have hi1 : (k : Int) < (n : Int) := by omega
      have hq2 := fun d os => cell_regrown d1 d os
      have hq3 := fun d os => cell_regrown d2 d os
      by_cases hxy : x = y
      · subst hxy
        go_wp2_with fail
        refine wp_region_quiet_below (by kernel_rfl) (by kernel_rfl) ?_
        repeat (go_big_quiet_step (fail))
        refine wpQuiet_nil ?_
        intro wy hw'
        obtain ⟨p9, hw''⟩ := hw'
        have hB9 := below_regrown wr p9.d p9.os
        rw [← hw''] at hB9
        clear hw'' p9
        have HBZ := mkHid (below_next HB.out hB9)
        clear hB9 hq2 hq3
        go_wp2_with fail
        go_roundw
        case measure => simp [intOf]; omega
        case rel => exact ⟨k + 1, by omega, by go_num, HBZ, mkHid (take_snoc_eq HT.out HX.out HY.out)⟩
      · have hxb : (x != y) = true := by simpa using hxy
        have HV := mkHid (show decide (ks = ks') = false from decide_eq_false (fun h2 => hxy (by
          have h3 := HX.out
          rw [h2, HY.out] at h3
          injection h3 with h3
          exact h3.symm)))
        go_wp2_with fail
        refine wp_region_quiet_below (by kernel_rfl) (by kernel_rfl) ?_
        repeat (go_big_quiet_step (fail))
        refine wpQuiet_nil ?_
        intro wy hw'
        obtain ⟨p9, hw''⟩ := hw'
        have hB9 := below_regrown wr p9.d p9.os
        rw [← hw''] at hB9
        clear hw'' p9
        have HBZ := mkHid (below_next HB.out hB9)
        clear hB9 hq2 hq3
        go_wp2_with fail
        go_ret
        exact ⟨ret_bool HV.out.symm, HBZ.out⟩
    · obtain rfl : k = n := by omega
      have HV := mkHid (show decide (ks = ks') = true from decide_eq_true (by
        have h := HT.out
        rw [List.take_of_length_le (by rw [HLK.out]; exact Nat.le_refl _), List.take_of_length_le (by rw [HLK2.out]; exact Nat.le_refl _)] at h
        exact h))
      go_wp2_with fail
      go_ret
      exact ⟨ret_bool HV.out.symm, HB.out⟩

set_option maxRecDepth 20000 in
set_option maxHeartbeats 4000000 in
theorem nsame_any (lv lv' : Int) (a a' e e' : Option Addr) (n m n' m' c c' d d' : Nat) (ks vs ks' vs' : List Int) (w : World) (hk : IS w w.heap.size a n ks) (hv : IS w w.heap.size a' m vs) (hk' : IS w w.heap.size e n' ks') (hv' : IS w w.heap.size e' m' vs') (hnn : n ≤ 1000000) (hmm : m ≤ 1000000) :
    Calls Try.prog 31 #[.agg #[.int .i64 lv, .slice a n c, .slice a' m c'], .agg #[.int .i64 lv', .slice e n' d, .slice e' m' d']] w fun en w' => en = .returned (.bool (sameN (lv, ks, vs) (lv', ks', vs'))) ∧ Below w.heap.size w w' := by
  obtain ⟨W, hW⟩ : ∃ W, (w.alloc (.cells #[.int .i64 lv, .slice a n c, .slice a' m c'] 32)).alloc (.cells #[.int .i64 lv', .slice e n' d, .slice e' m' d'] 32) = W := ⟨_, rfl⟩
  have HAL := mkHid (show Below w.heap.size w W by rw [← hW]; exact below_al (below_al (Below.refl _ _) _) _)
  have HKS := mkHid ((hk.below HAL.out).more HAL.out.size)
  have HVS := mkHid ((hv.below HAL.out).more HAL.out.size)
  have HKS2 := mkHid ((hk'.below HAL.out).more HAL.out.size)
  have HVS2 := mkHid ((hv'.below HAL.out).more HAL.out.size)
  have hQ : W.heap[w.heap.size]? = some (.cells #[.int .i64 lv, .slice a n c, .slice a' m c'] 32) := by rw [← hW]; exact (Below.heap_alloc _ _ _ (by simp)).trans (heap_alloc_new _ _)
  have hR : W.heap[w.heap.size + 1]? = some (.cells #[.int .i64 lv', .slice e n' d, .slice e' m' d'] 32) := by rw [← hW]; exact heap_two _ _ _
  have HK := mkHid (show ∀ Z, Below W.heap.size W Z → (Z.cell? ⟨w.heap.size, 0, none⟩ = some (.int .i64 lv) ∧ Z.cell? ⟨w.heap.size, 1, none⟩ = some (.slice a n c) ∧ Z.cell? ⟨w.heap.size, 2, none⟩ = some (.slice a' m c')) from fun Z hZ =>
    have h := (hZ.block _ (Array.getElem?_eq_some_iff.1 hQ).1).trans hQ
    ⟨cell_of_row Z w.heap.size 0 _ _ _ h, cell_of_row Z w.heap.size 1 _ _ _ h, cell_of_row Z w.heap.size 2 _ _ _ h⟩)
  have HK2 := mkHid (show ∀ Z, Below W.heap.size W Z → (Z.cell? ⟨w.heap.size + 1, 0, none⟩ = some (.int .i64 lv') ∧ Z.cell? ⟨w.heap.size + 1, 1, none⟩ = some (.slice e n' d) ∧ Z.cell? ⟨w.heap.size + 1, 2, none⟩ = some (.slice e' m' d')) from fun Z hZ =>
    have h := (hZ.block _ (Array.getElem?_eq_some_iff.1 hR).1).trans hR
    ⟨cell_of_row Z (w.heap.size + 1) 0 _ _ _ h, cell_of_row Z (w.heap.size + 1) 1 _ _ _ h, cell_of_row Z (w.heap.size + 1) 2 _ _ _ h⟩)
  obtain ⟨k0, k1, k2⟩ := HK.out W (Below.refl _ _)
  obtain ⟨j0, j1, j2⟩ := HK2.out W (Below.refl _ _)
  clear hk hv hk' hv' hQ hR
  by_cases h1 : lv = lv'
  case neg =>
    have HV := mkHid (show sameN (lv, ks, vs) (lv', ks', vs') = false from decide_eq_false (fun h => h1 (congrArg Prod.fst h)))
    have h1b : (lv == lv') = false := by simpa using h1
    go_enter Try.func31, Try.ntmps31
    go_wp2_with fail
    go_ret
    exact ⟨ret_bool HV.out.symm, HAL.out⟩
  subst h1
  have hll : (lv == lv) = true := by simp
  have HE := mkHid (equalI_any a e n n' c d ks ks' W HKS.out HKS2.out hnn)
  have hsm : sameN (lv, ks, vs) (lv, ks', vs') = (decide (ks = ks') && decide (vs = vs')) := by
    unfold sameN
    rw [← Bool.decide_and, decide_eq_decide]
    constructor
    · intro h
      injection h with _ h
      injection h with h1 h2
      exact ⟨h1, h2⟩
    · rintro ⟨h1, h2⟩
      rw [h1, h2]
  have HSM := mkHid hsm
  clear hsm
  by_cases h2 : ks = ks'
  case neg =>
    rw [decide_eq_false h2] at HE HSM
    clear h2
    go_enter Try.func31, Try.ntmps31
    go_wp2_with fail
    refine HE.out.mono ?_
    rintro en w1 ⟨rfl, hb1⟩
    have HB1 := mkHid (HAL.out.trans (hb1.mono HAL.out.size))
    clear hb1
    go_wp2_with fail
    go_ret
    exact ⟨ret_bool (by rw [HSM.out]; rfl), HB1.out⟩
  rw [decide_eq_true h2] at HE HSM
  clear h2
  go_enter Try.func31, Try.ntmps31
  go_wp2_with fail
  refine HE.out.mono ?_
  rintro en w1 ⟨rfl, hb1⟩
  have HB1 := mkHid (HAL.out.trans (hb1.mono HAL.out.size))
  have HE2 := mkHid (equalI_any a' e' m m' c' d' vs vs' w1 ((HVS.out.below hb1).more hb1.size) ((HVS2.out.below hb1).more hb1.size) hmm)
  clear k0 k1 k2 j0 j1 j2
  obtain ⟨k0, k1, k2⟩ := HK.out w1 hb1
  obtain ⟨j0, j1, j2⟩ := HK2.out w1 hb1
  clear hb1 hW
  go_wp2_with fail
  refine HE2.out.mono ?_
  rintro en w2 ⟨rfl, hb2⟩
  have HB2 := mkHid (HB1.out.trans (hb2.mono HB1.out.size))
  clear hb2
  go_wp2_with fail
  go_ret
  exact ⟨ret_bool (by rw [HSM.out, Bool.true_and]), HB2.out⟩

end Go.Proofs.Ytilepjkdfbhgcaa
