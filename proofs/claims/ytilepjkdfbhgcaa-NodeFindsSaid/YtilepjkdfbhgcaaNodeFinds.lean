/- portagelaw10.NodeFinds answers true. -/
import Derived.Test.YtilepjkdfbhgcaaNdQ
namespace Go.Proofs.Ytilepjkdfbhgcaa
open Go.RowKit Go.Shelf

set_option maxRecDepth 20000 in
set_option maxHeartbeats 4000000 in
theorem nodeFinds_any (lv : Int) (a a' : Option Addr) (n m c c' : Nat) (ks vs : List Int) (w : World) (hk : IS w w.heap.size a n ks) (hv : IS w w.heap.size a' m vs) :
    Calls Try.prog 4 #[.agg #[.int .i64 lv, .slice a n c, .slice a' m c']] w fun e w' => e = .returned (.bool true) ∧ Below w.heap.size w w' := by
  have HLK := mkHid hk.len
  have HLV := mkHid hv.len
  obtain ⟨W, hW⟩ : ∃ W, w.alloc (.cells #[.int .i64 lv, .slice a n c, .slice a' m c'] 24) = W := ⟨_, rfl⟩
  have HAL := mkHid (show Below w.heap.size w W by rw [← hW]; exact below_al (Below.refl _ _) _)
  have HKS := mkHid ((hk.below HAL.out).more HAL.out.size)
  have HVS := mkHid ((hv.below HAL.out).more HAL.out.size)
  have hQ : W.heap[w.heap.size]? = some (.cells #[.int .i64 lv, .slice a n c, .slice a' m c'] 24) := by rw [← hW]; exact heap_alloc_new _ _
  have HK := mkHid (show ∀ Z, Below W.heap.size W Z → (Z.cell? ⟨w.heap.size, 0, none⟩ = some (.int .i64 lv) ∧ Z.cell? ⟨w.heap.size, 1, none⟩ = some (.slice a n c) ∧ Z.cell? ⟨w.heap.size, 2, none⟩ = some (.slice a' m c')) from fun Z hZ =>
    have h := (hZ.block _ (Array.getElem?_eq_some_iff.1 hQ).1).trans hQ
    ⟨cell_of_row Z w.heap.size 0 _ _ _ h, cell_of_row Z w.heap.size 1 _ _ _ h, cell_of_row Z w.heap.size 2 _ _ _ h⟩)
  obtain ⟨k0, k1, k2⟩ := HK.out W (Below.refl _ _)
  clear hk hv hQ
  go_enter Try.func4, Try.ntmps4
  go_wp2_with fail
  clear hW
  refine (dright_any lv a a' n m c c' ks vs W HKS.out HVS.out).mono ?_
  rintro e w2 ⟨rfl, hb2⟩
  have HB2 := mkHid hb2
  clear hb2 k0 k1 k2
  cases hr : rightN lv ks vs with
  | false =>
    clear hr
    go_wp2_with fail
    refine (awake_any _).mono ?_
    rintro e w3 ⟨rfl, hb3⟩
    have HB3 := mkHid (HAL.out.trans ((below_next HB2.out hb3).mono HAL.out.size))
    clear hb3
    go_wp2_with fail
    go_ret
    exact ⟨rfl, HB3.out⟩
  | true =>
    have HR := mkHid hr
    have hok := rightN_ok hr
    obtain ⟨_, _, hlen, h1n, hn7, hsr, _⟩ := hok
    have HSR := mkHid hsr
    rw [HLK.out] at h1n hn7
    rw [HLK.out, HLV.out] at hlen
    subst hlen
    have HFT := mkHid (keys_fit hr)
    clear hr hsr
    obtain ⟨k0, k1, k2⟩ := HK.out w2 HB2.out
    go_wp2_with fail
    refine (lof_any lv a a' n n c c' ks vs w2 ((HKS.out.below HB2.out).more HB2.out.size) ((HVS.out.below HB2.out).more HB2.out.size) (by omega) (by omega)).mono ?_
    rintro e w3 ⟨_, rfl, ⟨A, n1, C, A', n2, C', rfl, i1, i2, _, _⟩, _, hb3⟩
    obtain rfl : n = n1 := by rw [← i1.len, HLK.out]
    obtain rfl : n = n2 := by rw [← i2.len, HLV.out]
    obtain ⟨W4, hW4⟩ : ∃ W4, w3.alloc (.cells #[.int .i64 lv, .slice A n C, .slice A' n C'] 32) = W4 := ⟨_, rfl⟩
    have hal4 : Below w3.heap.size w3 W4 := by rw [← hW4]; exact below_al (Below.refl _ _) _
    have HB4 := mkHid (below_next HB2.out (below_next hb3 hal4))
    have hQ4 : W4.heap[w3.heap.size]? = some (.cells #[.int .i64 lv, .slice A n C, .slice A' n C'] 32) := by rw [← hW4]; exact heap_alloc_new _ _
    have HK4 := mkHid (show ∀ Z, Below W4.heap.size W4 Z → (Z.cell? ⟨w3.heap.size, 0, none⟩ = some (.int .i64 lv) ∧ Z.cell? ⟨w3.heap.size, 1, none⟩ = some (.slice A n C) ∧ Z.cell? ⟨w3.heap.size, 2, none⟩ = some (.slice A' n C')) from fun Z hZ =>
      have h := (hZ.block _ (Array.getElem?_eq_some_iff.1 hQ4).1).trans hQ4
      ⟨cell_of_row Z w3.heap.size 0 _ _ _ h, cell_of_row Z w3.heap.size 1 _ _ _ h, cell_of_row Z w3.heap.size 2 _ _ _ h⟩)
    have HIS := mkHid ((i1.below hal4).more hal4.size)
    clear i1 i2 hb3 hal4 hQ4 k0 k1 k2
    obtain ⟨k0, k1, k2⟩ := HK.out W4 HB4.out
    go_wp2_with fail
    clear k0 k1 k2 hW4
    go_loopw [4, 5, 6, 7, 8, 9, 21] (fun _ _ _ _ _ _ i wr => ∃ k : Nat, k ≤ n ∧ i = .int .i64 k ∧ Hid (Below W4.heap.size W4 wr)) (fun _ _ _ _ _ _ i _ => n - (intOf i).toNat)
    case atStart => exact ⟨0, Nat.zero_le _, rfl, mkHid (Below.refl _ _)⟩
    case round =>
      obtain ⟨k, hk, rfl, HB⟩ := hrel
      have HBW := mkHid (HB4.out.trans (HB.out.mono HB4.out.size))
      obtain ⟨k0, k1, k2⟩ := HK.out wr HBW.out
      obtain ⟨j0, j1, j2⟩ := HK4.out wr HB.out
      by_cases hlt : k < n
      · obtain ⟨b, o, rfl, hb, hck, hx0, hx1⟩ := HKS.out.at_ hlt
        have d1 := (HBW.out.cell (p := ⟨b, o + k, none⟩) hb).trans hck
        have HX := mkHid (getD_some (l := ks) (k := k) (by rw [HLK.out]; exact hlt))
        have hxf := HFT.out _ (List.mem_of_getElem? HX.out)
        generalize hgx : ks[k]?.getD 0 = x at *
        clear hck hgx
        obtain ⟨hxf0, hxf1⟩ := hxf
        have e8 : IntKind.i64.wrap (x - 1) = x - 1 := IntWalk.i64_in _ (by omega)
        go_wp2_with fail
        refine (find_any lv A A' n n C C' ks x wr ((HIS.out.below HB.out).more HB.out.size) (by omega) (HSR.out.imp (fun h => by omega))).mono ?_
        rintro e w5 ⟨rfl, hb5⟩
        rw [find_at HSR.out HX.out]
        have HB5 := mkHid (below_next HB.out hb5)
        have HBW5 := mkHid (HB4.out.trans (HB5.out.mono HB4.out.size))
        clear hb5 k0 k1 k2 j0 j1 j2 d1
        obtain ⟨j0, j1, j2⟩ := HK4.out w5 HB5.out
        go_wp2_with fail
        refine (find_any lv A A' n n C C' ks (x - 1) w5 ((HIS.out.below HB5.out).more HB5.out.size) (by omega) (HSR.out.imp (fun h => by omega))).mono ?_
        rintro e w6 ⟨rfl, hb6⟩
        have HB6 := mkHid (below_next HB5.out hb6)
        have HBW6 := mkHid (HB4.out.trans (HB6.out.mono HB4.out.size))
        clear hb6 j0 j1 j2
        obtain ⟨k0, k1, k2⟩ := HK.out w6 HBW6.out
        by_cases hk0 : k = 0
        · subst hk0
          rw [find_pred0 HSR.out HX.out]
          go_wp2_with fail
          go_roundw
          case measure => simp [intOf]; omega
          case rel => exact ⟨1, by omega, rfl, HB6⟩
        · obtain ⟨p, rfl⟩ : ∃ p, k = p + 1 := ⟨k - 1, by omega⟩
          obtain ⟨b3, o3, ha3, _, hcp, _, _⟩ := HKS.out.at_ (j := p) (by omega)
          injection ha3 with ha3
          injection ha3 with g1 g2
          subst g1 g2
          have d0 := (HBW6.out.cell (p := ⟨b, o + p, none⟩) hb).trans hcp
          have HY := mkHid (getD_some (l := ks) (k := p) (by rw [HLK.out]; omega))
          generalize hgy : ks[p]?.getD 0 = y at *
          rw [find_pred HSR.out HX.out HY.out]
          have hgt : (0 : Int) < (p : Int) + 1 := by omega
          have e9 : IntKind.i64.wrap ((p : Int) + 1 - 1) = p := (IntWalk.i64_in _ (by omega)).trans (by omega)
          have hpn : p < n := by omega
          have hp1 : ((p : Int) + 1 == 0) = false := by simp; omega
          clear hcp hgy
          cases hyx : y == x - 1
          all_goals
            go_wp2_with fail
            go_roundw
            case measure => simp [intOf]; omega
            case rel => exact ⟨p + 1 + 1, by omega, by go_num, HB6⟩
      · obtain rfl : k = n := by omega
        have e7 : IntKind.i64.wrap ((k : Int) - 1) = (k : Int) - 1 := IntWalk.i64_in _ (by omega)
        go_wp2_with fail
        refine (find_any lv A A' k k C C' ks 4611686018427387904 wr ((HIS.out.below HB.out).more HB.out.size) (by omega) (HSR.out.imp (fun h => by omega))).mono ?_
        rintro e w5 ⟨rfl, hb5⟩
        rw [find_big (fun q hq => by have := HFT.out q hq; omega), HLK.out]
        have HB5 := mkHid (below_next HB.out hb5)
        have HBW5 := mkHid (HB4.out.trans (HB5.out.mono HB4.out.size))
        clear hb5 k0 k1 k2 j0 j1 j2
        obtain ⟨k0, k1, k2⟩ := HK.out w5 HBW5.out
        go_wp2_with fail
        refine (awake_any _).mono ?_
        rintro e w6 ⟨rfl, hb6⟩
        have HB6 := mkHid (HAL.out.trans ((below_next HBW5.out hb6).mono HAL.out.size))
        clear hb6
        go_wp2_with fail
        go_ret
        exact ⟨rfl, HB6.out⟩

end Go.Proofs.Ytilepjkdfbhgcaa
