/- Node.Put by contract: the walk. -/
import Derived.Test.YtilepjkdfbhgcaaNdK
namespace Go.Proofs.Ytilepjkdfbhgcaa
open Go.RowKit Go.Shelf

theorem nodeE_t : nodeE true = .nilIface := rfl
theorem nodeE_f : nodeE false = codeV 70 := rfl
theorem pairs_len {ks vs : List Int} (h : ks.length = vs.length) : (pairsOf ks vs).length = ks.length := by unfold pairsOf; rw [List.length_zip]; omega
theorem put_len {lv : Int} {ks vs : List Int} (h : rightN lv ks vs = true) (key val : Int) : (putL ks vs key val).length = if ks.contains key = true then ks.length else ks.length + 1 := by
  obtain ⟨_, _, h3, _, _, h6, _⟩ := rightN_ok h
  have hl := pairs_len h3
  have hlow := low_le ks key
  unfold putL
  split
  · rw [List.length_set, hl]
  · rw [List.length_append, List.length_cons, List.length_take, List.length_drop, hl]; omega
theorem put_ok_mem {lv : Int} {ks vs : List Int} (h : rightN lv ks vs = true) {key val : Int} (hf : fitsP (key, val) = true) : ∀ x ∈ putL ks vs key val, fitsP x = true := by
  obtain ⟨_, _, _, _, _, _, h7⟩ := rightN_ok h
  intro x hx
  unfold putL at hx
  split at hx
  · rcases List.mem_or_eq_of_mem_set hx with h1 | rfl
    · exact h7 x h1
    · exact hf
  · rcases List.mem_append.1 hx with h1 | h1
    · exact h7 x (List.mem_of_mem_take h1)
    · rcases List.mem_cons.1 h1 with rfl | h1
      · exact hf
      · exact h7 x (List.mem_of_mem_drop h1)
theorem fits_ok {x : Int × Int} (h : fitsP x = true) : EnOk x := by
  have := of_decide_eq_true h
  unfold EnOk I64
  omega

set_option maxRecDepth 20000 in
set_option maxHeartbeats 2000000 in
theorem put_any (lv : Int) (a a' : Option Addr) (n m c c' : Nat) (ks vs : List Int) (key val : Int) (w : World) (hk : IS w w.heap.size a n ks) (hv : IS w w.heap.size a' m vs) :
    Calls Try.prog 15 #[.agg #[.int .i64 lv, .slice a n c, .slice a' m c'], .int .i64 key, .int .i64 val] w (RetLE w (putOf lv ks vs key val)) := by
  have HLK := mkHid hk.len
  obtain ⟨W, hW⟩ : ∃ W, (w.alloc (.cells #[.int .i64 lv, .slice a n c, .slice a' m c'] 32)).alloc (.cells #[.int .i64 key, .int .i64 val] 52) = W := ⟨_, rfl⟩
  have HAL := mkHid (show Below w.heap.size w W from by rw [← hW]; exact ((Below.refl _ _).alloc (Nat.le_refl _) _).alloc (by simp) _)
  have HSZ := mkHid (show W.heap.size = w.heap.size + 1 + 1 by rw [← hW]; simp)
  have hbx : W.heap[w.heap.size]? = some (.cells #[.int .i64 lv, .slice a n c, .slice a' m c'] 32) := by rw [← hW]; exact (Below.heap_alloc _ _ _ (by simp)).trans (heap_alloc_new _ _)
  have hpx : W.heap[w.heap.size + 1]? = some (.cells #[.int .i64 key, .int .i64 val] 52) := by rw [← hW]; have := heap_alloc_new (w.alloc (.cells #[.int .i64 lv, .slice a n c, .slice a' m c'] 32)) (.cells #[.int .i64 key, .int .i64 val] 52); simpa using this
  have HKS := mkHid ((hk.below HAL.out).more HAL.out.size)
  have HVS := mkHid ((hv.below HAL.out).more HAL.out.size)
  have HLV := mkHid hv.len
  have HBX := mkHid hbx
  have HPX := mkHid hpx
  have HK := mkHid (show ∀ Z, Below W.heap.size W Z → (Z.cell? ⟨w.heap.size, 0, none⟩ = some (.int .i64 lv) ∧ Z.cell? ⟨w.heap.size, 1, none⟩ = some (.slice a n c) ∧ Z.cell? ⟨w.heap.size, 2, none⟩ = some (.slice a' m c')) from fun Z hZ =>
    have h := (hZ.block _ (by rw [HSZ.out]; omega)).trans HBX.out
    ⟨cell_of_row Z w.heap.size 0 _ _ _ h, cell_of_row Z w.heap.size 1 _ _ _ h, cell_of_row Z w.heap.size 2 _ _ _ h⟩)
  have HKP := mkHid (show ∀ Z, Below W.heap.size W Z → (Z.cell? ⟨w.heap.size + 1, 0, none⟩ = some (.int .i64 key) ∧ Z.cell? ⟨w.heap.size + 1, 1, none⟩ = some (.int .i64 val)) from fun Z hZ =>
    have h := (hZ.block _ (by rw [HSZ.out]; omega)).trans HPX.out
    ⟨cell_of_row Z (w.heap.size + 1) 0 _ _ _ h, cell_of_row Z (w.heap.size + 1) 1 _ _ _ h⟩)
  clear hk hv hbx hpx
  obtain ⟨k0, k1, k2⟩ := HK.out W (Below.refl _ _)
  go_enter Try.func15, Try.ntmps15
  go_wp2_with fail
  refine (ncheck_any lv a a' n m c c' ks vs W HKS.out HVS.out).mono ?_
  rintro e w2 ⟨rfl, hb2⟩
  have HB2 := mkHid hb2
  clear hb2 k0 k1 k2 hW
  cases hr : rightN lv ks vs with
  | false =>
    have HV := mkHid (show putOf lv ks vs key val = (70, []) from if_pos hr)
    clear hr
    rw [nodeE_f]
    go_wp2_with fail
    go_ret2
    rw [HV.out]
    exact RetLE.none (HAL.out.trans (HB2.out.mono HAL.out.size))
  | true =>
    rw [nodeE_t]
    have HR := mkHid hr
    have hok := rightN_ok hr
    obtain ⟨_, _, hlen, h1n, hn7, _, _⟩ := hok
    rw [HLK.out] at h1n hn7
    rw [HLK.out, HLV.out] at hlen
    subst hlen
    clear hr
    obtain ⟨p0, p1⟩ := HKP.out w2 HB2.out
    go_wp2_with fail
    refine (pright_any key val w2).mono ?_
    rintro e w3 ⟨rfl, hb3⟩
    have HB3 := mkHid (below_next HB2.out hb3)
    clear hb3 p0 p1
    cases hf : fitsP (key, val) with
    | false =>
      have HV := mkHid (show putOf lv ks vs key val = (80, []) by unfold putOf; rw [if_neg (by rw [HR.out]; decide), if_pos hf])
      clear hf
      go_wp2_with fail
      go_ret2
      rw [HV.out]
      exact RetLE.none (HAL.out.trans (HB3.out.mono HAL.out.size))
    | true =>
      have HF := mkHid hf
      have HV := mkHid (show putOf lv ks vs key val = (0, cutOf lv (putL ks vs key val)) by unfold putOf; rw [if_neg (by rw [HR.out]; decide), if_neg (by rw [hf]; decide)])
      clear hf
      obtain ⟨k0, k1, k2⟩ := HK.out w3 HB3.out
      go_wp2_with fail
      refine (pairs_any lv a a' n c c' ks vs w3 ((HKS.out.below HB3.out).more HB3.out.size) ((HVS.out.below HB3.out).more HB3.out.size) (by omega)).mono ?_
      rintro e w4 ⟨A, C, rfl, ho4, hb4⟩
      have hlz : (pairsOf ks vs).length = n := by rw [pairs_len (by rw [HLK.out, HLV.out]), HLK.out]
      rw [hlz] at ho4 ⊢
      have HLZ := mkHid hlz
      have HB34 := mkHid hb4
      have HB4 := mkHid (below_next HB3.out hb4)
      have HO4 := mkHid ho4
      clear hb4 ho4 k0 k1 k2 hlz
      obtain ⟨k0, k1, k2⟩ := HK.out w4 HB4.out
      go_wp2_with fail
      have hsr := (rightN_ok HR.out).2.2.2.2.2.1
      refine (find_any lv a a' n n c c' ks key w4 ((HKS.out.below HB4.out).more HB4.out.size) (by omega) (hsr.imp (fun h => by omega))).mono ?_
      rintro e w5 ⟨rfl, hb5⟩
      have HB5 := mkHid (below_next HB4.out hb5)
      have HO5 := mkHid (own_below HO4.out hb5)
      have HB35 := mkHid (below_next HB34.out hb5)
      clear hb5 k0 k1 k2
      have hlow := low_le ks key
      rw [HLK.out] at hlow
      have hll := low_lt hsr (x := key)
      rw [HLK.out] at hll
      have HSR := mkHid hsr
      clear hsr
      cases hcx : ks.contains key with
      | true =>
        have hfo : findOf ks key = ((lowOf ks key : Int), true) := if_pos hcx
        rw [hfo]
        have HL := mkHid (show putL ks vs key val = (pairsOf ks vs).set (lowOf ks key) (key, val) from if_pos hcx)
        have hlt := hll hcx
        clear hll hcx hfo
        generalize lowOf ks key = L at *
        obtain ⟨g, cur, rfl, hBg, _, hg5, _, _, _, _⟩ := own_block HO5.out (by omega)
        obtain ⟨p0, p1⟩ := HKP.out w5 HB5.out
        have f0 := frozen_of_row _ _ (L * 2) _ _ hg5
        have f1 := frozen_of_row _ _ (L * 2 + 1) _ _ hg5
        obtain ⟨_, _, x0, hx0, hxb, hxx, _, q0, q1⟩ := (show ES w5 w5.heap.size (some ⟨g, 0, none⟩) n (pairsOf ks vs) from ES.of_own HO5.out (fun x hx => fits_ok ((rightN_ok HR.out).2.2.2.2.2.2 x hx))).at_ hlt
        injection hx0 with hx0
        injection hx0 with e1 e2
        subst e1 e2
        simp only [Nat.zero_add] at q0 q1
        clear hg5 hxx
        obtain ⟨k0, k1, k2⟩ := HK.out w5 HB5.out
        have hs3 := HB3.out.size
        have hgne : ¬ (w.heap.size = g) := by have := HSZ.out; omega
        have HOX := mkHid (own_set2 (x := key) (y := val) HO5.out hlt)
        have HPL := mkHid (put_len HR.out key val)
        have hll : ((pairsOf ks vs).set L (key, val)).length = n := by rw [List.length_set, HLZ.out]
        have HES := mkHid (show ES ((w5.setCell ⟨g, L * 2, none⟩ (.int .i64 key)).setCell ⟨g, L * 2 + 1, none⟩ (.int .i64 val)) ((w5.setCell ⟨g, L * 2, none⟩ (.int .i64 key)).setCell ⟨g, L * 2 + 1, none⟩ (.int .i64 val)).heap.size (some ⟨g, 0, none⟩) n (putL ks vs key val) from by
          rw [HL.out]
          exact ES.of_own HOX.out (fun x hx => fits_ok (put_ok_mem HR.out HF.out x (by rw [HL.out]; exact hx))))
        have HBX5 := mkHid (show Below w.heap.size w ((w5.setCell ⟨g, L * 2, none⟩ (.int .i64 key)).setCell ⟨g, L * 2 + 1, none⟩ (.int .i64 val)) from ((HAL.out.trans (HB5.out.mono HAL.out.size)).setCell (p := ⟨g, L * 2, none⟩) (by have := HAL.out.size; show w.heap.size ≤ g; omega) _).setCell (p := ⟨g, L * 2 + 1, none⟩) (by have := HAL.out.size; show w.heap.size ≤ g; omega) _)
        go_wp2_with fail
        refine (cut_any lv a a' n n c c' (some ⟨g, 0, none⟩) n C (putL ks vs key val) _ HES.out (by omega) (own_cap HO5.out).1 (own_cap HO5.out).2).mono ?_
        rintro e w6 ⟨A6, C6, rfl, hle6, hns6, hb6⟩
        have HNS := mkHid hns6
        have HLE := mkHid hle6
        have HB6 := mkHid (below_next HBX5.out hb6)
        clear hns6 hle6 hb6
        go_wp2_with fail
        go_ret2
        rw [HV.out]
        exact ⟨A6, C6, rfl, HLE.out, HNS.out, HB6.out⟩
      | false =>
        have hfo : findOf ks key = ((lowOf ks key : Int) - 1, false) := if_neg (by rw [hcx]; decide)
        rw [hfo]
        have HL := mkHid (show putL ks vs key val = (pairsOf ks vs).take (lowOf ks key) ++ (key, val) :: (pairsOf ks vs).drop (lowOf ks key) from if_neg (by rw [hcx]; decide))
        have HPL := mkHid (show (putL ks vs key val).length = n + 1 by rw [put_len HR.out, if_neg (by rw [hcx]; decide), HLK.out])
        clear hll hcx hfo
        generalize lowOf ks key = L at *
        have e8 : IntKind.i64.wrap ((L : Int) - 1 + 1) = L := (IntWalk.i64_in _ (by omega)).trans (by omega)
        obtain ⟨p0, p1⟩ := HKP.out w5 HB5.out
        have HBN := mkHid (show Below w3.heap.size w3 (w5.alloc (.cells #[.int .i64 key, .int .i64 val] 52)) from HB35.out.alloc HB35.out.size _)
        have HON := mkHid (HO5.out.alloc (.cells #[.int .i64 key, .int .i64 val] 52))
        go_wp2_with fail
        refine (insertP_any A n C L (pairsOf ks vs) key val w5.heap.size w3.heap.size w3 _ HBN.out HBN.out.size HON.out (heap_alloc_new _ _) (fun e => by have := (HO5.out.lt _ e).2; omega) (by omega) hlow).mono ?_
        rintro e w6 ⟨A6, C6, rfl, ho6, hb6⟩
        rw [← HL.out] at ho6
        have HO6 := mkHid ho6
        have HB36 := mkHid (HB3.out.trans (hb6.mono HB3.out.size))
        clear ho6 hb6 p0 p1
        have HES := mkHid (show ES w6 w6.heap.size A6 (n + 1) (putL ks vs key val) from ES.of_own HO6.out (fun x hx => fits_ok (put_ok_mem HR.out HF.out x hx)))
        obtain ⟨k0, k1, k2⟩ := HK.out w6 HB36.out
        go_wp2_with fail
        refine (cut_any lv a a' n n c c' A6 (n + 1) C6 (putL ks vs key val) _ HES.out (by omega) (own_cap HO6.out).1 (own_cap HO6.out).2).mono ?_
        rintro e w7 ⟨A7, C7, rfl, hle7, hns7, hb7⟩
        have HNS := mkHid hns7
        have HLE := mkHid hle7
        have HB7 := mkHid (below_next (HAL.out.trans (HB36.out.mono HAL.out.size)) hb7)
        clear hns7 hle7 hb7 k0 k1 k2
        go_wp2_with fail
        go_ret2
        rw [HV.out]
        exact ⟨A7, C7, rfl, HLE.out, HNS.out, HB7.out⟩

end Go.Proofs.Ytilepjkdfbhgcaa
