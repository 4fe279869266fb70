/- portagelaw10.NodeBytes answers true. -/
import Derived.Test.YtilepjkdfbhgcaaNbF
namespace Go.Proofs.Ytilepjkdfbhgcaa
open Go.RowKit Go.Shelf

theorem max_if (x y : Int) : (if y > x then y else x) = max x y := by
  rw [Int.max_def]
  split <;> split <;> omega
@[go_sem high] theorem run_max_ints4 {P : Program} (w : World) (ts : Array TypeId) (t : TypeId) (k k' k2 k3 : IntKind) (x y z u : Int) :
    (Builtin.max_ ts t #[.int k x, .int k' y, .int k2 z, .int k3 u]).run P w = .ok (.int k (max (max (max x y) z) u)) w := by
  simp [Builtin.max_, Builtin.max2, ← max_if]
theorem cap_own {w : World} {base : Nat} {e : TypeId} {k n c : Nat} {A : Option Addr} {xs : List Value} (h : w.ownsRow base e k (.slice A n c) n xs) (hn : n ≤ 140737488355328) : CapOk n c := by
  obtain ⟨A', c', he, hc, _⟩ := own_form _ h
  cases he
  exact ⟨hc.1, hc.2, hn⟩
theorem parsN_len (l : List Int) : (parsN l).2.2.length ≤ 7 := by
  unfold parsN
  split
  · rename_i h
    have h2 := h.2
    unfold okD at h2
    simp only [Bool.and_eq_true] at h2
    exact (rightX_ok h2.2).1.2.2.2
  · simp
theorem node_frame_ok {lv : Int} {ks vs : List Int} (h : rightN lv ks vs = true) : okBytes (frameOf 2 (nodeB lv (pairsOf ks vs))) := by
  obtain ⟨_, _, h1, _, h2, _⟩ := rightN_ok h
  exact frameOf_ok (by omega) (nodeB_ok _ _) (by rw [nodeB_len, pairs_len h1]; omega)
theorem errV_ne0 (c : Int) (h : c ≠ 0) : errV c = codeV c := if_neg h

set_option maxRecDepth 20000 in
set_option maxHeartbeats 8000000 in
theorem nodeBytes_any (lv lv' : Int) (a a' e0 e' : Option Addr) (n m n' m' c c' d d' : Nat) (ks vs ks' vs' : List Int) (s : Option Addr) (q cq : Nat) (l : List Int) (w : World) (hk : IS w w.heap.size a n ks) (hv : IS w w.heap.size a' m vs) (hk' : IS w w.heap.size e0 n' ks') (hv' : IS w w.heap.size e' m' vs') (hx : BS w w.heap.size s q l) (hcq : CapOk q cq) :
    Calls Try.prog 10 #[.agg #[.int .i64 lv, .slice a n c, .slice a' m c'], .agg #[.int .i64 lv', .slice e0 n' d, .slice e' m' d'], .slice s q cq] w fun e w' => e = .returned (.bool true) ∧ Below w.heap.size w w' := by
  have HLK := mkHid hk.len
  have HLV := mkHid hv.len
  have HLX := mkHid hx.len
  obtain ⟨W, hW⟩ : ∃ W, (w.alloc (.cells #[.int .i64 lv, .slice a n c, .slice a' m c'] 24)).alloc (.cells #[.int .i64 lv', .slice e0 n' d, .slice e' m' d'] 24) = W := ⟨_, rfl⟩
  have HAL := mkHid (show Below w.heap.size w W by rw [← hW]; exact below_al (below_al (Below.refl _ _) _) _)
  have HKS := mkHid ((hk.below HAL.out).more HAL.out.size)
  have HVS := mkHid ((hv.below HAL.out).more HAL.out.size)
  have HKS' := mkHid ((hk'.below HAL.out).more HAL.out.size)
  have HVS' := mkHid ((hv'.below HAL.out).more HAL.out.size)
  have HXS := mkHid ((hx.below HAL.out).more HAL.out.size)
  have hQ' : W.heap[w.heap.size + 1]? = some (.cells #[.int .i64 lv', .slice e0 n' d, .slice e' m' d'] 24) := by rw [← hW]; exact heap_two _ _ _
  have hQ : W.heap[w.heap.size]? = some (.cells #[.int .i64 lv, .slice a n c, .slice a' m c'] 24) := by rw [← hW]; exact (Below.heap_alloc _ _ _ (by simp)).trans (heap_alloc_new _ _)
  have HK := mkHid (show ∀ Z, Below W.heap.size W Z → ((Z.cell? ⟨w.heap.size, 0, none⟩ = some (.int .i64 lv) ∧ Z.cell? ⟨w.heap.size, 1, none⟩ = some (.slice a n c) ∧ Z.cell? ⟨w.heap.size, 2, none⟩ = some (.slice a' m c')) ∧ (Z.cell? ⟨w.heap.size + 1, 0, none⟩ = some (.int .i64 lv') ∧ Z.cell? ⟨w.heap.size + 1, 1, none⟩ = some (.slice e0 n' d) ∧ Z.cell? ⟨w.heap.size + 1, 2, none⟩ = some (.slice e' m' d'))) from fun Z hZ =>
    have h := (hZ.block _ (Array.getElem?_eq_some_iff.1 hQ).1).trans hQ
    have h' := (hZ.block _ (Array.getElem?_eq_some_iff.1 hQ').1).trans hQ'
    ⟨⟨cell_of_row Z w.heap.size 0 _ _ _ h, cell_of_row Z w.heap.size 1 _ _ _ h, cell_of_row Z w.heap.size 2 _ _ _ h⟩, ⟨cell_of_row Z (w.heap.size + 1) 0 _ _ _ h', cell_of_row Z (w.heap.size + 1) 1 _ _ _ h', cell_of_row Z (w.heap.size + 1) 2 _ _ _ h'⟩⟩)
  obtain ⟨⟨k0, k1, k2⟩, ⟨x0, x1, x2⟩⟩ := HK.out W (Below.refl _ _)
  clear hk hv hk' hv' hx hQ hQ'
  have HCQ := mkHid hcq
  clear hcq
  by_cases hbig : 200 < max (max (max (n : Int) (m : Int)) (n' : Int)) (m' : Int)
  · go_enter Try.func10, Try.ntmps10
    have HB2 := mkHid (Below.refl W.heap.size W)
    go_wp2_with fail
    clear hW
    go_wp2_with fail
    refine (awake_any _).mono ?_
    rintro e w3 ⟨rfl, hb3⟩
    have HB3 := mkHid (HAL.out.trans ((below_next HB2.out hb3).mono HAL.out.size))
    clear hb3
    go_wp2_with fail
    go_ret
    exact ⟨rfl, HB3.out⟩
  have hbig2 : max (max (max (n : Int) (m : Int)) (n' : Int)) (m' : Int) ≤ 200 := by omega
  have hn2 : n ≤ 200 ∧ m ≤ 200 ∧ n' ≤ 200 ∧ m' ≤ 200 := by omega
  have HN2 := mkHid hn2
  clear hbig hn2
  by_cases hq : 1000 < q
  · go_enter Try.func10, Try.ntmps10
    have HB2 := mkHid (Below.refl W.heap.size W)
    go_wp2_with fail
    clear hW
    go_wp2_with fail
    refine (awake_any _).mono ?_
    rintro e w3 ⟨rfl, hb3⟩
    have HB3 := mkHid (HAL.out.trans ((below_next HB2.out hb3).mono HAL.out.size))
    clear hb3
    go_wp2_with fail
    go_ret
    exact ⟨rfl, HB3.out⟩
  have hq2 : q ≤ 1000 := by omega
  clear hq
  go_enter Try.func10, Try.ntmps10
  go_wp2_with fail
  clear hW
  clear hbig2 hq2
  refine (lof_any lv a a' n m c c' ks vs W HKS.out HVS.out (by have := HN2.out; omega) (by have := HN2.out; omega)).mono ?_
  rintro e w3 ⟨_, rfl, ⟨A1, n1, C1, B1, m1, D1, rfl, i1, i2, _, _⟩, _, hb3⟩
  obtain rfl : n = n1 := by rw [← i1.len, HLK.out]
  obtain rfl : m = m1 := by rw [← i2.len, HLV.out]
  have HB3 := mkHid hb3
  clear hb3
  clear k0 k1 k2 x0 x1 x2
  -- behind the first of: Bytes, two roads
  cases hr : rightN lv ks vs with
  | false =>
    have HR := mkHid hr
    clear hr
    go_wp2_with fail
    refine (nbytes_no lv A1 B1 n m C1 D1 ks vs w3 i1 i2 HR.out).mono ?_
    rintro e w4 ⟨rfl, hb4⟩
    have HB4 := mkHid (below_next HB3.out hb4)
    clear hb4 i1 i2
    obtain ⟨⟨k0, k1, k2⟩, _⟩ := HK.out w4 HB4.out
    go_wp2_with fail
    refine (dright_any lv a a' n m c c' ks vs w4 ((HKS.out.below HB4.out).more HB4.out.size) ((HVS.out.below HB4.out).more HB4.out.size)).mono ?_
    rintro e w5 ⟨rfl, hb5⟩
    have HB5 := mkHid (below_next HB4.out hb5)
    rw [HR.out]
    clear hb5 k0 k1 k2
    obtain ⟨⟨k0, k1, k2⟩, _⟩ := HK.out w5 HB5.out
    go_wp2_with fail
    refine (is_code 70 70 _).mono ?_
    rintro e wz ⟨rfl, hwz⟩
    subst hwz
    rw [show ((70 : Int) != 0 && (70 : Int) == 70) = true from rfl]
    go_wp2_with fail
    refine (lof_any lv a a' n m c c' ks vs w5 ((HKS.out.below HB5.out).more HB5.out.size) ((HVS.out.below HB5.out).more HB5.out.size) (by have := HN2.out; omega) (by have := HN2.out; omega)).mono ?_
    rintro e w6 ⟨_, rfl, ⟨A6, n6, C6, B6, m6, D6, rfl, i1, i2, _, _⟩, _, hb6⟩
    have HB6 := mkHid (below_next HB5.out hb6)
    clear hb6 k0 k1 k2
    go_wp2_with fail
    refine (ncheck_any lv A6 B6 n6 m6 C6 D6 ks vs w6 i1 i2).mono ?_
    rintro e w9 ⟨rfl, hb9⟩
    have HB9 := mkHid (below_next HB6.out hb9)
    clear hb9 i1 i2
    rw [HR.out, show nodeE false = codeV 70 from rfl]
    go_wp2_with fail
    refine (is_code 70 70 _).mono ?_
    rintro e wz ⟨rfl, hwz⟩
    subst hwz
    rw [show ((70 : Int) != 0 && (70 : Int) == 70) = true from rfl]
    have HKF := mkHid (fun Z (hZ : Below w9.heap.size w9 Z) => HK.out Z (HB9.out.trans (hZ.mono HB9.out.size)))
    have HO1 := mkHid (fun Z (hZ : Below w9.heap.size w9 Z) => lof_any lv a a' n m c c' ks vs Z ((HKS.out.below (HB9.out.trans (hZ.mono HB9.out.size))).more (HB9.out.trans (hZ.mono HB9.out.size)).size) ((HVS.out.below (HB9.out.trans (hZ.mono HB9.out.size))).more (HB9.out.trans (hZ.mono HB9.out.size)).size) (by have := HN2.out; omega) (by have := HN2.out; omega))
    have HO2 := mkHid (fun Z (hZ : Below w9.heap.size w9 Z) => lof_any lv' e0 e' n' m' d d' ks' vs' Z ((HKS'.out.below (HB9.out.trans (hZ.mono HB9.out.size))).more (HB9.out.trans (hZ.mono HB9.out.size)).size) ((HVS'.out.below (HB9.out.trans (hZ.mono HB9.out.size))).more (HB9.out.trans (hZ.mono HB9.out.size)).size) (by have := HN2.out; omega) (by have := HN2.out; omega))
    obtain ⟨sb, hsb⟩ : ∃ sb, sameN (lv, ks, vs) (lv', ks', vs') = sb := ⟨_, rfl⟩
    have HDS := mkHid (fun Z (hZ : Below w9.heap.size w9 Z) => dsame_any lv lv' a a' e0 e' n m n' m' c c' d d' ks vs ks' vs' Z ((HKS.out.below (HB9.out.trans (hZ.mono HB9.out.size))).more (HB9.out.trans (hZ.mono HB9.out.size)).size) ((HVS.out.below (HB9.out.trans (hZ.mono HB9.out.size))).more (HB9.out.trans (hZ.mono HB9.out.size)).size) ((HKS'.out.below (HB9.out.trans (hZ.mono HB9.out.size))).more (HB9.out.trans (hZ.mono HB9.out.size)).size) ((HVS'.out.below (HB9.out.trans (hZ.mono HB9.out.size))).more (HB9.out.trans (hZ.mono HB9.out.size)).size) (by have := HN2.out; omega) (by have := HN2.out; omega))
    rw [hsb] at HDS
    have HSB := mkHid hsb
    clear hsb
    go_wp2_with fail
    have hk0' := HKF.out w9 (Below.refl _ _)
    go_region_held3 (fun Z => (Z.cell? ⟨w.heap.size, 0, none⟩ = some (.int .i64 lv) ∧ Z.cell? ⟨w.heap.size, 1, none⟩ = some (.slice a n c) ∧ Z.cell? ⟨w.heap.size, 2, none⟩ = some (.slice a' m c')) ∧ (Z.cell? ⟨w.heap.size + 1, 0, none⟩ = some (.int .i64 lv') ∧ Z.cell? ⟨w.heap.size + 1, 1, none⟩ = some (.slice e0 n' d) ∧ Z.cell? ⟨w.heap.size + 1, 2, none⟩ = some (.slice e' m' d'))) (first | exact hky | exact HKF.out _ (by first | exact HBY.out | exact HBY.out.drew | exact (Below.refl _ _).drew | exact Below.refl _ _)) (first
      | (go_at_call 14; (with_reducible refine (HO1.out _ (by first | exact HBY.out | exact HBY.out.drew | exact (Below.refl _ _).drew | exact Below.refl _ _)).mono ?_); rintro e wy ⟨_, rfl, ⟨E1, q1, G1, E2, q2, G2, rfl, i1, i2, _, _⟩, _, hby⟩; have HBY := mkHid (below_next (show Below w9.heap.size w9 _ from (by first | exact HBY.out | exact HBY.out.drew | exact (Below.refl _ _).drew | exact Below.refl _ _)) hby); have hky := HKF.out _ HBY.out; have HE1 := mkHid i1; have HE2 := mkHid i2; have HL1 := mkHid (i1.len.symm.trans HLK.out); have HL2 := mkHid (i2.len.symm.trans HLV.out); clear hby i1 i2)
      | (go_at_call 14; (with_reducible refine (HO2.out _ (by first | exact HBY.out | exact HBY.out.drew | exact (Below.refl _ _).drew | exact Below.refl _ _)).mono ?_); rintro e wz ⟨_, rfl, ⟨F1, r1, J1, F2, r2, J2, rfl, j1, j2, _, _⟩, _, hbz⟩; have HBZ := mkHid (below_next (show Below wy.heap.size wy _ from (by first | exact (Below.refl _ _).drew | exact Below.refl _ _)) hbz); have HBY := mkHid (below_next HBY.out HBZ.out); have hky := HKF.out _ HBY.out; have HSN := mkHid (fun Z (hZ : Below wz.heap.size wz Z) => nsame_any lv lv' E1 E2 F1 F2 q1 q2 r1 r2 G1 G2 J1 J2 ks vs ks' vs' Z ((HE1.out.below (HBZ.out.trans (hZ.mono HBZ.out.size))).more (HBZ.out.trans (hZ.mono HBZ.out.size)).size) ((HE2.out.below (HBZ.out.trans (hZ.mono HBZ.out.size))).more (HBZ.out.trans (hZ.mono HBZ.out.size)).size) ((j1.below hZ).more hZ.size) ((j2.below hZ).more hZ.size) (by have := HN2.out; have := HL1.out; omega) (by have := HN2.out; have := HL2.out; omega)); rw [HSB.out] at HSN; clear hbz j1 j2)
      | (go_at_call 31; refine (HSN.out _ (by first | exact (Below.refl _ _).drew | exact Below.refl _ _)).mono ?_; rintro e wv ⟨rfl, hbv⟩; have HBY := mkHid (below_next (show Below w9.heap.size w9 _ from (by first | exact HBY.out | exact HBY.out.drew | exact (Below.refl _ _).drew | exact Below.refl _ _)) hbv); have hky := HKF.out _ HBY.out; clear hbv)
      | (go_at_call 32; refine (HDS.out _ (by first | exact HBY.out | exact HBY.out.drew | exact (Below.refl _ _).drew | exact Below.refl _ _)).mono ?_; rintro e wu ⟨rfl, hbv⟩; have HBY := mkHid (below_next (show Below w9.heap.size w9 _ from (by first | exact HBY.out | exact HBY.out.drew | exact (Below.refl _ _).drew | exact Below.refl _ _)) hbv); have hky := HKF.out _ HBY.out; clear hbv))
    have hsb2 : (sb != sb) = false := by cases sb <;> rfl
    (try rw [hsb2])
    obtain ⟨wA, rfl⟩ : ∃ x : World, x = wu := ⟨wu, rfl⟩
    have HBA := mkHid (show Below W.heap.size W wA from HB9.out.trans (HBY.out.mono HB9.out.size))
    go_wp2_with fail
    refine (dparse_any s q cq l wA ((HXS.out.below HBA.out).more HBA.out.size) HCQ.out).mono ?_
    rintro e wB ⟨X0, P, pn, pc, P', pm, pc', rfl, hnd, hbB⟩
    obtain ⟨W5, hW5⟩ : ∃ W5, wB.alloc (.cells #[.int .i64 X0, .slice P pn pc, .slice P' pm pc'] 24) = W5 := ⟨_, rfl⟩
    have hal5 : Below wB.heap.size wB W5 := by rw [← hW5]; exact below_al (Below.refl _ _) _
    have HB5 := mkHid (below_next (below_next HBA.out hbB) hal5)
    have hQ5 : W5.heap[wB.heap.size]? = some (.cells #[.int .i64 X0, .slice P pn pc, .slice P' pm pc'] 24) := by rw [← hW5]; exact heap_alloc_new _ _
    have HK5 := mkHid (show ∀ Z, Below W5.heap.size W5 Z → (Z.cell? ⟨wB.heap.size, 0, none⟩ = some (.int .i64 X0) ∧ Z.cell? ⟨wB.heap.size, 1, none⟩ = some (.slice P pn pc) ∧ Z.cell? ⟨wB.heap.size, 2, none⟩ = some (.slice P' pm pc')) from fun Z hZ =>
      have h := (hZ.block _ (Array.getElem?_eq_some_iff.1 hQ5).1).trans hQ5
      ⟨cell_of_row Z wB.heap.size 0 _ _ _ h, cell_of_row Z wB.heap.size 1 _ _ _ h, cell_of_row Z wB.heap.size 2 _ _ _ h⟩)
    have HN5 := mkHid (fun h0 => (hnd h0).next hal5)
    clear hnd hbB hal5 hQ5
    go_wp2_with fail
    clear hW5
    refine (copy_any s q cq l W5 ((HXS.out.below HB5.out).more HB5.out.size) HCQ.out.2.2).mono ?_
    rintro e wC ⟨A6, n6, C6, rfl, ho6, hb6⟩
    have HB6 := mkHid (below_next HB5.out hb6)
    have HB56 := mkHid hb6
    have HBS6 := mkHid (show BS wC wC.heap.size A6 n6 l from ⟨SL.of_own ho6, HXS.out.2⟩)
    have hc6 : CapOk n6 C6 := (by have h6 := HBS6.out.len; have h7 := HLX.out; have h8 := cap_own ho6; exact h8 (by omega))
    clear hb6 ho6
    go_wp2_with fail
    refine (nparse_any A6 n6 C6 l wC HBS6.out hc6).mono ?_
    rintro e wD ⟨_, rfl, ⟨Y, yn, yc, Y', ym, yc', rfl, y1, y2, _, _⟩, hbD⟩
    clear hc6
    obtain ⟨W7, hW7⟩ : ∃ W7, wD.alloc (.cells #[.int .i64 (parsN l).2.1, .slice Y yn yc, .slice Y' ym yc'] 32) = W7 := ⟨_, rfl⟩
    have hal7 : Below wD.heap.size wD W7 := by rw [← hW7]; exact below_al (Below.refl _ _) _
    have HB57 := mkHid (below_next (below_next HB56.out hbD) hal7)
    have HB7 := mkHid (below_next HB5.out HB57.out)
    have hQ7 : W7.heap[wD.heap.size]? = some (.cells #[.int .i64 (parsN l).2.1, .slice Y yn yc, .slice Y' ym yc'] 32) := by rw [← hW7]; exact heap_alloc_new _ _
    have z0 := cell_of_row W7 wD.heap.size 0 _ _ _ hQ7
    have z1 := cell_of_row W7 wD.heap.size 1 _ _ _ hQ7
    have z2 := cell_of_row W7 wD.heap.size 2 _ _ _ hQ7
    simp at z0 z1 z2
    obtain ⟨k0, k1, k2⟩ := HK5.out W7 HB57.out
    have HY1 := mkHid ((y1.below hal7).more hal7.size)
    have HY2 := mkHid ((y2.below hal7).more hal7.size)
    clear hbD hal7 hQ7 y1 y2
    rcases (show parsN l = (70, 0, []) ∨ (parsN l).1 = 0 from by unfold parsN; split; exact .inr rfl; exact .inl rfl) with hp | hp
    · have hyn : yn = 0 := by have := HY1.out.len; rw [hp] at this; exact this.symm
      subst hyn
      have hW8 : wD.alloc (.cells #[.int .i64 0, .slice Y 0 yc, .slice Y' ym yc'] 32) = W7 := by rw [← hW7, hp]
      clear hW7
      rw [hp] at z0 ⊢
      rw [show decide (((70 : Int), (0 : Int), ([] : List (Int × Int))).1 = 0) = false from rfl, errV_ne0 70 (by decide)]
      clear hp
      go_wp2_with fail
      refine (is_code 70 70 _).mono ?_
      rintro e wz ⟨rfl, hwz⟩
      subst hwz
      rw [show ((70 : Int) != 0 && (70 : Int) == 70) = true from rfl]
      go_wp2_with fail
      refine (awake_any _).mono ?_
      rintro e wE ⟨rfl, hbE⟩
      have HBE := mkHid (HAL.out.trans ((below_next HB7.out hbE).mono HAL.out.size))
      clear hbE
      go_wp2_with fail
      go_ret
      exact ⟨rfl, HBE.out⟩
    · obtain ⟨A9, n9, C9, B9, m9, D9, hv9, i1, i2, _, _⟩ := HN5.out hp
      injection hv9 with hv9
      have HX0 : X0 = (parsN l).2.1 := by simp at hv9; exact hv9.1
      obtain ⟨rfl, rfl, rfl⟩ : P = A9 ∧ pn = n9 ∧ pc = C9 := by simp at hv9; exact hv9.2.1
      obtain ⟨rfl, rfl, rfl⟩ : P' = B9 ∧ pm = m9 ∧ pc' = D9 := by simp at hv9; first | exact hv9.2.2 | exact hv9.2
      subst HX0
      have hs := same_any (parsN l).2.1 (parsN l).2.1 Y Y' P P' yn ym pn pm yc yc' pc pc' (keysOf (parsN l).2.2) (valsOf (parsN l).2.2) (keysOf (parsN l).2.2) (valsOf (parsN l).2.2) W7 HY1.out HY2.out ((i1.below HB57.out).more HB57.out.size) ((i2.below HB57.out).more HB57.out.size) (by have h1 := HY1.out.len; have h2 := parsN_len l; simp only [keys_len] at h1; omega) (by have h1 := HY2.out.len; have h2 := parsN_len l; simp only [vals_len] at h1; omega)
      rw [show sameN ((parsN l).2.1, keysOf (parsN l).2.2, valsOf (parsN l).2.2) ((parsN l).2.1, keysOf (parsN l).2.2, valsOf (parsN l).2.2) = true from decide_eq_true rfl] at hs
      have HS := mkHid hs
      rw [hp, errV_no]
      clear hv9 i1 i2 hs hp
      rw [show decide ((0 : Int) = 0) = true from rfl]
      go_wp2_with fail
      refine HS.out.mono ?_
      rintro e wE ⟨rfl, hbE⟩
      have HBE := mkHid (below_next HB7.out hbE)
      clear hbE z0 z1 z2 k0 k1 k2
      go_wp2_with fail
      refine (awake_any _).mono ?_
      rintro e wF ⟨rfl, hbF⟩
      have HBF := mkHid (HAL.out.trans ((below_next HBE.out hbF).mono HAL.out.size))
      clear hbF
      go_wp2_with fail
      go_ret
      exact ⟨rfl, HBF.out⟩
  | true =>
    have HR := mkHid hr
    clear hr
    go_wp2_with fail
    refine (nbytes_yes lv A1 B1 n m C1 D1 ks vs w3 i1 i2 HR.out).mono ?_
    rintro e w4 ⟨AB, CB, rfl, hoB, hb4⟩
    have HB4 := mkHid (below_next HB3.out hb4)
    have HBB := mkHid (show BS w4 w4.heap.size AB 128 (frameOf 2 (nodeB lv (pairsOf ks vs))) from ⟨SL.of_own hoB, node_frame_ok HR.out⟩)
    clear hb4 i1 i2 hoB
    obtain ⟨⟨k0, k1, k2⟩, _⟩ := HK.out w4 HB4.out
    go_wp2_with fail
    refine (dright_any lv a a' n m c c' ks vs w4 ((HKS.out.below HB4.out).more HB4.out.size) ((HVS.out.below HB4.out).more HB4.out.size)).mono ?_
    rintro e w5 ⟨rfl, hb5⟩
    have HB45 := mkHid hb5
    have HB5 := mkHid (below_next HB4.out hb5)
    rw [HR.out]
    clear hb5 k0 k1 k2
    obtain ⟨⟨k0, k1, k2⟩, _⟩ := HK.out w5 HB5.out
    go_wp2_with fail
    refine (lof_any lv a a' n m c c' ks vs w5 ((HKS.out.below HB5.out).more HB5.out.size) ((HVS.out.below HB5.out).more HB5.out.size) (by have := HN2.out; omega) (by have := HN2.out; omega)).mono ?_
    rintro e w6 ⟨_, rfl, ⟨A6, n6, C6, B6, m6, D6, rfl, i1, i2, _, _⟩, _, hb6⟩
    have HB46 := mkHid (below_next HB45.out hb6)
    have HB6 := mkHid (below_next HB5.out hb6)
    clear hb6 k0 k1 k2
    go_wp2_with fail
    refine (ncheck_any lv A6 B6 n6 m6 C6 D6 ks vs w6 i1 i2).mono ?_
    rintro e w7 ⟨rfl, hb7⟩
    have HB47 := mkHid (below_next HB46.out hb7)
    have HB7 := mkHid (below_next HB6.out hb7)
    clear hb7 i1 i2
    rw [HR.out, show nodeE true = .nilIface from rfl]
    obtain ⟨⟨k0, k1, k2⟩, _⟩ := HK.out w7 HB7.out
    go_wp2_with fail
    refine (dbytes_any lv a a' n m c c' ks vs w7 ((HKS.out.below HB7.out).more HB7.out.size) ((HVS.out.below HB7.out).more HB7.out.size) HR.out).mono ?_
    rintro e w9 ⟨AR, nR, CR, rfl, hoR, hb9⟩
    have HB49 := mkHid (below_next HB47.out hb9)
    have HB9 := mkHid (below_next HB7.out hb9)
    have HBR := mkHid (show BS w9 w9.heap.size AR nR (frameOf 2 (nodeB lv (pairsOf ks vs))) from ⟨SL.of_own hoR, node_frame_ok HR.out⟩)
    clear hb9 hoR k0 k1 k2
    go_wp2_with fail
    refine (bsame_any AB AR 128 nR CB CR w9.heap.size w9.heap.size _ _ w9 ((HBB.out.below HB49.out).more HB49.out.size) HBR.out).mono ?_
    rintro e wz ⟨rfl, hwz⟩
    subst hwz
    rw [decide_eq_true rfl]
    have HKF := mkHid (fun Z (hZ : Below w9.heap.size w9 Z) => HK.out Z (HB9.out.trans (hZ.mono HB9.out.size)))
    have HO1 := mkHid (fun Z (hZ : Below w9.heap.size w9 Z) => lof_any lv a a' n m c c' ks vs Z ((HKS.out.below (HB9.out.trans (hZ.mono HB9.out.size))).more (HB9.out.trans (hZ.mono HB9.out.size)).size) ((HVS.out.below (HB9.out.trans (hZ.mono HB9.out.size))).more (HB9.out.trans (hZ.mono HB9.out.size)).size) (by have := HN2.out; omega) (by have := HN2.out; omega))
    have HO2 := mkHid (fun Z (hZ : Below w9.heap.size w9 Z) => lof_any lv' e0 e' n' m' d d' ks' vs' Z ((HKS'.out.below (HB9.out.trans (hZ.mono HB9.out.size))).more (HB9.out.trans (hZ.mono HB9.out.size)).size) ((HVS'.out.below (HB9.out.trans (hZ.mono HB9.out.size))).more (HB9.out.trans (hZ.mono HB9.out.size)).size) (by have := HN2.out; omega) (by have := HN2.out; omega))
    obtain ⟨sb, hsb⟩ : ∃ sb, sameN (lv, ks, vs) (lv', ks', vs') = sb := ⟨_, rfl⟩
    have HDS := mkHid (fun Z (hZ : Below w9.heap.size w9 Z) => dsame_any lv lv' a a' e0 e' n m n' m' c c' d d' ks vs ks' vs' Z ((HKS.out.below (HB9.out.trans (hZ.mono HB9.out.size))).more (HB9.out.trans (hZ.mono HB9.out.size)).size) ((HVS.out.below (HB9.out.trans (hZ.mono HB9.out.size))).more (HB9.out.trans (hZ.mono HB9.out.size)).size) ((HKS'.out.below (HB9.out.trans (hZ.mono HB9.out.size))).more (HB9.out.trans (hZ.mono HB9.out.size)).size) ((HVS'.out.below (HB9.out.trans (hZ.mono HB9.out.size))).more (HB9.out.trans (hZ.mono HB9.out.size)).size) (by have := HN2.out; omega) (by have := HN2.out; omega))
    rw [hsb] at HDS
    have HSB := mkHid hsb
    clear hsb
    go_wp2_with fail
    have hk0' := HKF.out w9 (Below.refl _ _)
    go_region_held3 (fun Z => (Z.cell? ⟨w.heap.size, 0, none⟩ = some (.int .i64 lv) ∧ Z.cell? ⟨w.heap.size, 1, none⟩ = some (.slice a n c) ∧ Z.cell? ⟨w.heap.size, 2, none⟩ = some (.slice a' m c')) ∧ (Z.cell? ⟨w.heap.size + 1, 0, none⟩ = some (.int .i64 lv') ∧ Z.cell? ⟨w.heap.size + 1, 1, none⟩ = some (.slice e0 n' d) ∧ Z.cell? ⟨w.heap.size + 1, 2, none⟩ = some (.slice e' m' d'))) (first | exact hky | exact HKF.out _ (by first | exact HBY.out | exact HBY.out.drew | exact (Below.refl _ _).drew | exact Below.refl _ _)) (first
      | (go_at_call 14; (with_reducible refine (HO1.out _ (by first | exact HBY.out | exact HBY.out.drew | exact (Below.refl _ _).drew | exact Below.refl _ _)).mono ?_); rintro e wy ⟨_, rfl, ⟨E1, q1, G1, E2, q2, G2, rfl, i1, i2, _, _⟩, _, hby⟩; have HBY := mkHid (below_next (show Below w9.heap.size w9 _ from (by first | exact HBY.out | exact HBY.out.drew | exact (Below.refl _ _).drew | exact Below.refl _ _)) hby); have hky := HKF.out _ HBY.out; have HE1 := mkHid i1; have HE2 := mkHid i2; have HL1 := mkHid (i1.len.symm.trans HLK.out); have HL2 := mkHid (i2.len.symm.trans HLV.out); clear hby i1 i2)
      | (go_at_call 14; (with_reducible refine (HO2.out _ (by first | exact HBY.out | exact HBY.out.drew | exact (Below.refl _ _).drew | exact Below.refl _ _)).mono ?_); rintro e wz ⟨_, rfl, ⟨F1, r1, J1, F2, r2, J2, rfl, j1, j2, _, _⟩, _, hbz⟩; have HBZ := mkHid (below_next (show Below wy.heap.size wy _ from (by first | exact (Below.refl _ _).drew | exact Below.refl _ _)) hbz); have HBY := mkHid (below_next HBY.out HBZ.out); have hky := HKF.out _ HBY.out; have HSN := mkHid (fun Z (hZ : Below wz.heap.size wz Z) => nsame_any lv lv' E1 E2 F1 F2 q1 q2 r1 r2 G1 G2 J1 J2 ks vs ks' vs' Z ((HE1.out.below (HBZ.out.trans (hZ.mono HBZ.out.size))).more (HBZ.out.trans (hZ.mono HBZ.out.size)).size) ((HE2.out.below (HBZ.out.trans (hZ.mono HBZ.out.size))).more (HBZ.out.trans (hZ.mono HBZ.out.size)).size) ((j1.below hZ).more hZ.size) ((j2.below hZ).more hZ.size) (by have := HN2.out; have := HL1.out; omega) (by have := HN2.out; have := HL2.out; omega)); rw [HSB.out] at HSN; clear hbz j1 j2)
      | (go_at_call 31; refine (HSN.out _ (by first | exact (Below.refl _ _).drew | exact Below.refl _ _)).mono ?_; rintro e wv ⟨rfl, hbv⟩; have HBY := mkHid (below_next (show Below w9.heap.size w9 _ from (by first | exact HBY.out | exact HBY.out.drew | exact (Below.refl _ _).drew | exact Below.refl _ _)) hbv); have hky := HKF.out _ HBY.out; clear hbv)
      | (go_at_call 32; refine (HDS.out _ (by first | exact HBY.out | exact HBY.out.drew | exact (Below.refl _ _).drew | exact Below.refl _ _)).mono ?_; rintro e wu ⟨rfl, hbv⟩; have HBY := mkHid (below_next (show Below w9.heap.size w9 _ from (by first | exact HBY.out | exact HBY.out.drew | exact (Below.refl _ _).drew | exact Below.refl _ _)) hbv); have hky := HKF.out _ HBY.out; clear hbv))
    have hsb2 : (sb != sb) = false := by cases sb <;> rfl
    (try rw [hsb2])
    obtain ⟨wA, rfl⟩ : ∃ x : World, x = wu := ⟨wu, rfl⟩
    have HBA := mkHid (show Below W.heap.size W wA from HB9.out.trans (HBY.out.mono HB9.out.size))
    go_wp2_with fail
    refine (dparse_any s q cq l wA ((HXS.out.below HBA.out).more HBA.out.size) HCQ.out).mono ?_
    rintro e wB ⟨X0, P, pn, pc, P', pm, pc', rfl, hnd, hbB⟩
    obtain ⟨W5, hW5⟩ : ∃ W5, wB.alloc (.cells #[.int .i64 X0, .slice P pn pc, .slice P' pm pc'] 24) = W5 := ⟨_, rfl⟩
    have hal5 : Below wB.heap.size wB W5 := by rw [← hW5]; exact below_al (Below.refl _ _) _
    have HB5 := mkHid (below_next (below_next HBA.out hbB) hal5)
    have hQ5 : W5.heap[wB.heap.size]? = some (.cells #[.int .i64 X0, .slice P pn pc, .slice P' pm pc'] 24) := by rw [← hW5]; exact heap_alloc_new _ _
    have HK5 := mkHid (show ∀ Z, Below W5.heap.size W5 Z → (Z.cell? ⟨wB.heap.size, 0, none⟩ = some (.int .i64 X0) ∧ Z.cell? ⟨wB.heap.size, 1, none⟩ = some (.slice P pn pc) ∧ Z.cell? ⟨wB.heap.size, 2, none⟩ = some (.slice P' pm pc')) from fun Z hZ =>
      have h := (hZ.block _ (Array.getElem?_eq_some_iff.1 hQ5).1).trans hQ5
      ⟨cell_of_row Z wB.heap.size 0 _ _ _ h, cell_of_row Z wB.heap.size 1 _ _ _ h, cell_of_row Z wB.heap.size 2 _ _ _ h⟩)
    have HN5 := mkHid (fun h0 => (hnd h0).next hal5)
    clear hnd hbB hal5 hQ5
    go_wp2_with fail
    clear hW5
    refine (copy_any s q cq l W5 ((HXS.out.below HB5.out).more HB5.out.size) HCQ.out.2.2).mono ?_
    rintro e wC ⟨A6, n6, C6, rfl, ho6, hb6⟩
    have HB6 := mkHid (below_next HB5.out hb6)
    have HB56 := mkHid hb6
    have HBS6 := mkHid (show BS wC wC.heap.size A6 n6 l from ⟨SL.of_own ho6, HXS.out.2⟩)
    have hc6 : CapOk n6 C6 := (by have h6 := HBS6.out.len; have h7 := HLX.out; have h8 := cap_own ho6; exact h8 (by omega))
    clear hb6 ho6
    go_wp2_with fail
    refine (nparse_any A6 n6 C6 l wC HBS6.out hc6).mono ?_
    rintro e wD ⟨_, rfl, ⟨Y, yn, yc, Y', ym, yc', rfl, y1, y2, _, _⟩, hbD⟩
    clear hc6
    obtain ⟨W7, hW7⟩ : ∃ W7, wD.alloc (.cells #[.int .i64 (parsN l).2.1, .slice Y yn yc, .slice Y' ym yc'] 32) = W7 := ⟨_, rfl⟩
    have hal7 : Below wD.heap.size wD W7 := by rw [← hW7]; exact below_al (Below.refl _ _) _
    have HB57 := mkHid (below_next (below_next HB56.out hbD) hal7)
    have HB7 := mkHid (below_next HB5.out HB57.out)
    have hQ7 : W7.heap[wD.heap.size]? = some (.cells #[.int .i64 (parsN l).2.1, .slice Y yn yc, .slice Y' ym yc'] 32) := by rw [← hW7]; exact heap_alloc_new _ _
    have z0 := cell_of_row W7 wD.heap.size 0 _ _ _ hQ7
    have z1 := cell_of_row W7 wD.heap.size 1 _ _ _ hQ7
    have z2 := cell_of_row W7 wD.heap.size 2 _ _ _ hQ7
    simp at z0 z1 z2
    obtain ⟨k0, k1, k2⟩ := HK5.out W7 HB57.out
    have HY1 := mkHid ((y1.below hal7).more hal7.size)
    have HY2 := mkHid ((y2.below hal7).more hal7.size)
    clear hbD hal7 hQ7 y1 y2
    rcases (show parsN l = (70, 0, []) ∨ (parsN l).1 = 0 from by unfold parsN; split; exact .inr rfl; exact .inl rfl) with hp | hp
    · have hyn : yn = 0 := by have := HY1.out.len; rw [hp] at this; exact this.symm
      subst hyn
      have hW8 : wD.alloc (.cells #[.int .i64 0, .slice Y 0 yc, .slice Y' ym yc'] 32) = W7 := by rw [← hW7, hp]
      clear hW7
      rw [hp] at z0 ⊢
      rw [show decide (((70 : Int), (0 : Int), ([] : List (Int × Int))).1 = 0) = false from rfl, errV_ne0 70 (by decide)]
      clear hp
      go_wp2_with fail
      refine (is_code 70 70 _).mono ?_
      rintro e wz ⟨rfl, hwz⟩
      subst hwz
      rw [show ((70 : Int) != 0 && (70 : Int) == 70) = true from rfl]
      go_wp2_with fail
      refine (awake_any _).mono ?_
      rintro e wE ⟨rfl, hbE⟩
      have HBE := mkHid (HAL.out.trans ((below_next HB7.out hbE).mono HAL.out.size))
      clear hbE
      go_wp2_with fail
      go_ret
      exact ⟨rfl, HBE.out⟩
    · obtain ⟨A9, n9, C9, B9, m9, D9, hv9, i1, i2, _, _⟩ := HN5.out hp
      injection hv9 with hv9
      have HX0 : X0 = (parsN l).2.1 := by simp at hv9; exact hv9.1
      obtain ⟨rfl, rfl, rfl⟩ : P = A9 ∧ pn = n9 ∧ pc = C9 := by simp at hv9; exact hv9.2.1
      obtain ⟨rfl, rfl, rfl⟩ : P' = B9 ∧ pm = m9 ∧ pc' = D9 := by simp at hv9; first | exact hv9.2.2 | exact hv9.2
      subst HX0
      have hs := same_any (parsN l).2.1 (parsN l).2.1 Y Y' P P' yn ym pn pm yc yc' pc pc' (keysOf (parsN l).2.2) (valsOf (parsN l).2.2) (keysOf (parsN l).2.2) (valsOf (parsN l).2.2) W7 HY1.out HY2.out ((i1.below HB57.out).more HB57.out.size) ((i2.below HB57.out).more HB57.out.size) (by have h1 := HY1.out.len; have h2 := parsN_len l; simp only [keys_len] at h1; omega) (by have h1 := HY2.out.len; have h2 := parsN_len l; simp only [vals_len] at h1; omega)
      rw [show sameN ((parsN l).2.1, keysOf (parsN l).2.2, valsOf (parsN l).2.2) ((parsN l).2.1, keysOf (parsN l).2.2, valsOf (parsN l).2.2) = true from decide_eq_true rfl] at hs
      have HS := mkHid hs
      rw [hp, errV_no]
      clear hv9 i1 i2 hs hp
      rw [show decide ((0 : Int) = 0) = true from rfl]
      go_wp2_with fail
      refine HS.out.mono ?_
      rintro e wE ⟨rfl, hbE⟩
      have HBE := mkHid (below_next HB7.out hbE)
      clear hbE z0 z1 z2 k0 k1 k2
      go_wp2_with fail
      refine (awake_any _).mono ?_
      rintro e wF ⟨rfl, hbF⟩
      have HBF := mkHid (HAL.out.trans ((below_next HBE.out hbF).mono HAL.out.size))
      clear hbF
      go_wp2_with fail
      go_ret
      exact ⟨rfl, HBF.out⟩

end Go.Proofs.Ytilepjkdfbhgcaa
