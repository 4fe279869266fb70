/- portagelaw06.SuperBytes answers true. -/
import Derived.Test.YtbgfccfhiocomaaSaJ
namespace Go.Proofs.Ytbgfccfhiocomaa
open Go.RowKit Go.Shelf

theorem parsS_two (l : List Int) : parsS l = (14, 0, 0, []) ∨ (parsS l).1 = 0 := by
  unfold parsS
  split
  · exact .inr rfl
  · exact .inl rfl
theorem parsS_few (l : List Int) : (parsS l).2.2.2.length ≤ 8 := by
  rcases parsS_two l with h | h
  · rw [h]; simp
  · exact rightL_8 (rightS_ok (parsS_right h)).2.1

set_option maxRecDepth 20000 in
set_option maxHeartbeats 8000000 in
theorem superBytes_any (g r : Int) (a : Option Addr) (n c : Nat) (xs : List (Int × Int)) (g' r' : Int) (a' : Option Addr) (n' c' : Nat) (ys : List (Int × Int)) (w : World) (hs : ES w w.heap.size a n xs) (hc : CapOk n c) (hs' : ES w w.heap.size a' n' ys) (hc' : CapOk n' c') (s : Option Addr) (q cq : Nat) (l : List Int) (hx : BS w w.heap.size s q l) (hcq : CapOk q cq) :
    Calls Try.prog 3 #[.agg #[.int .i64 g, .int .i64 r, .slice a n c], .agg #[.int .i64 g', .int .i64 r', .slice a' n' c'], .slice s q cq] w fun e w' => e = .returned (.bool true) ∧ Below w.heap.size w w' := by
  obtain ⟨W, hW⟩ : ∃ W, (w.alloc (.cells #[.int .i64 g, .int .i64 r, .slice a n c] 24)).alloc (.cells #[.int .i64 g', .int .i64 r', .slice a' n' c'] 24) = W := ⟨_, rfl⟩
  have HAL := mkHid (show Below w.heap.size w W by rw [← hW]; exact ((Below.refl _ _).alloc (Nat.le_refl _) _).alloc (by simp) _)
  have HES := mkHid ((hs.below HAL.out).more HAL.out.size)
  have HES' := mkHid ((hs'.below HAL.out).more HAL.out.size)
  have HL := mkHid hs.len
  have HL' := mkHid hs'.len
  have hQ' : W.heap[w.heap.size + 1]? = some (.cells #[.int .i64 g', .int .i64 r', .slice a' n' c'] 24) := by
    rw [← hW]
    have := heap_alloc_new (w.alloc (.cells #[.int .i64 g, .int .i64 r, .slice a n c] 24)) (.cells #[.int .i64 g', .int .i64 r', .slice a' n' c'] 24)
    simpa using this
  have hQ : W.heap[w.heap.size]? = some (.cells #[.int .i64 g, .int .i64 r, .slice a n c] 24) := by rw [← hW]; exact (Below.heap_alloc _ _ _ (by simp)).trans (heap_alloc_new _ _)
  have HK := mkHid (show ∀ Z, Below W.heap.size W Z → (Z.cell? ⟨w.heap.size, 0, none⟩ = some (.int .i64 g) ∧ Z.cell? ⟨w.heap.size, 1, none⟩ = some (.int .i64 r) ∧ Z.cell? ⟨w.heap.size, 2, none⟩ = some (.slice a n c)) ∧ (Z.cell? ⟨w.heap.size + 1, 0, none⟩ = some (.int .i64 g') ∧ Z.cell? ⟨w.heap.size + 1, 1, none⟩ = some (.int .i64 r') ∧ Z.cell? ⟨w.heap.size + 1, 2, none⟩ = some (.slice a' n' c')) from fun Z hZ =>
    have h := (hZ.block _ (Array.getElem?_eq_some_iff.1 hQ).1).trans hQ
    have h' := (hZ.block _ (Array.getElem?_eq_some_iff.1 hQ').1).trans hQ'
    ⟨⟨cell_of_row Z w.heap.size 0 _ _ _ h, cell_of_row Z w.heap.size 1 _ _ _ h, cell_of_row Z w.heap.size 2 _ _ _ h⟩, ⟨cell_of_row Z (w.heap.size + 1) 0 _ _ _ h', cell_of_row Z (w.heap.size + 1) 1 _ _ _ h', cell_of_row Z (w.heap.size + 1) 2 _ _ _ h'⟩⟩)
  obtain ⟨⟨k0, k1, k2⟩, ⟨x0, x1, x2⟩⟩ := HK.out W (Below.refl _ _)
  have HC := mkHid hc
  have HC' := mkHid hc'
  clear hs hs' hQ hQ' hc hc'
  have HLX := mkHid hx.len
  have HXS := mkHid ((hx.below HAL.out).more HAL.out.size)
  have HCQ := mkHid hcq
  clear hx hcq
  by_cases h1 : 100 < n
  · clear HC HC'
    go_enter Try.func3, Try.ntmps3
    have HB2 := mkHid (Below.refl W.heap.size W)
    go_wp2_with fail
    clear hW
    (try go_wp2_with fail)
    refine (awake_any _).mono ?_
    rintro e w3 ⟨rfl, hb3⟩
    have HB3 := mkHid (HAL.out.trans ((below_next HB2.out hb3).mono HAL.out.size))
    clear hb3
    go_wp2_with fail
    go_ret
    exact ⟨rfl, HB3.out⟩
  by_cases h2 : 100 < n'
  · clear HC HC'
    go_enter Try.func3, Try.ntmps3
    have HB2 := mkHid (Below.refl W.heap.size W)
    go_wp2_with fail
    clear hW
    (try go_wp2_with fail)
    refine (awake_any _).mono ?_
    rintro e w3 ⟨rfl, hb3⟩
    have HB3 := mkHid (HAL.out.trans ((below_next HB2.out hb3).mono HAL.out.size))
    clear hb3
    go_wp2_with fail
    go_ret
    exact ⟨rfl, HB3.out⟩
  by_cases h3 : 1000 < q
  · clear HC HC'
    go_enter Try.func3, Try.ntmps3
    have HB2 := mkHid (Below.refl W.heap.size W)
    go_wp2_with fail
    clear hW
    (try go_wp2_with fail)
    refine (awake_any _).mono ?_
    rintro e w3 ⟨rfl, hb3⟩
    have HB3 := mkHid (HAL.out.trans ((below_next HB2.out hb3).mono HAL.out.size))
    clear hb3
    go_wp2_with fail
    go_ret
    exact ⟨rfl, HB3.out⟩
  have hn2 : n ≤ 100 ∧ n' ≤ 100 := by omega
  have hq2 : q ≤ 1000 := by omega
  have HN2 := mkHid hn2
  obtain ⟨pe, pg, pr, ps, hps⟩ : ∃ pe pg pr ps, parsS l = (pe, pg, pr, ps) := ⟨_, _, _, _, rfl⟩
  have HPE := mkHid (parsS_two l)
  have HPL := mkHid (show ps.length ≤ 8 by have := parsS_few l; rwa [hps] at this)
  have HPS := mkHid hps
  clear hps
  go_enter Try.func3, Try.ntmps3
  go_wp2_with fail
  clear hW h1 h2 h3 hn2 hq2
  refine (sright_any g r a n c xs W HES.out HC.out).mono ?_
  rintro e w2 ⟨rfl, hb2⟩
  have HB2 := mkHid hb2
  clear hb2 k0 k1 k2 x0 x1 x2
  obtain ⟨⟨k0, k1, k2⟩, _⟩ := HK.out w2 HB2.out
  cases hr : rightS g r xs with
  | false =>
    have HR := mkHid hr
    clear hr
    go_wp2_with fail
    refine (sof_any g r a n c xs w2 ((HES.out.below HB2.out).more HB2.out.size) HC.out (by have := HN2.out; omega)).mono ?_
    rintro e w3 ⟨A1, C1, rfl, i1, i2, hb3⟩
    have HB3 := mkHid (below_next HB2.out hb3)
    clear hb3 k0 k1 k2
    go_wp2_with fail
    refine (sbytes_no g r A1 xs.length C1 xs w3 i1 i2 HR.out).mono ?_
    rintro e w4 ⟨rfl, hb4⟩
    have HB4 := mkHid (below_next HB3.out hb4)
    clear hb4 i1 i2
    obtain ⟨⟨k0, k1, k2⟩, _⟩ := HK.out w4 HB4.out
    go_wp2_with fail
    refine (sof_any g r a n c xs w4 ((HES.out.below HB4.out).more HB4.out.size) HC.out (by have := HN2.out; omega)).mono ?_
    rintro e w5 ⟨A5, C5, rfl, i1, i2, hb5⟩
    have HB5 := mkHid (below_next HB4.out hb5)
    clear hb5 k0 k1 k2
    go_wp2_with fail
    refine (scheck_any g r A5 xs.length C5 xs w5 i1 i2).mono ?_
    rintro e w9 ⟨rfl, hb9⟩
    have HB9 := mkHid (below_next HB5.out hb9)
    clear hb9 i1 i2
    rw [HR.out, show superE false = codeV 14 from rfl]
    go_wp2_with fail
    refine (is_code 14 14 _).mono ?_
    rintro e wz ⟨rfl, hwz⟩
    subst hwz
    rw [show ((14 : Int) != 0 && (14 : Int) == 14) = true from rfl]
    go_wp2_with fail
    refine (is_code 14 14 _).mono ?_
    rintro e wz ⟨rfl, hwz⟩
    subst hwz
    rw [show ((14 : Int) != 0 && (14 : Int) == 14) = true from rfl]
    have HKF := mkHid (fun Z (hZ : Below w9.heap.size w9 Z) => HK.out Z (HB9.out.trans (hZ.mono HB9.out.size)))
    have HO1 := mkHid (fun Z (hZ : Below w9.heap.size w9 Z) => sof_any g r a n c xs Z ((HES.out.below (HB9.out.trans (hZ.mono HB9.out.size))).more (HB9.out.trans (hZ.mono HB9.out.size)).size) HC.out (by have := HN2.out; omega))
    have HO2 := mkHid (fun Z (hZ : Below w9.heap.size w9 Z) => sof_any g' r' a' n' c' ys Z ((HES'.out.below (HB9.out.trans (hZ.mono HB9.out.size))).more (HB9.out.trans (hZ.mono HB9.out.size)).size) HC'.out (by have := HN2.out; omega))
    have HSB := mkHid (show (rightS g r xs && sameS g r xs g' r' ys) = false by rw [HR.out]; rfl)
    go_wp2_with fail
    have hk0' := HKF.out w9 (Below.refl _ _)
    obtain ⟨⟨m0, m1, m2⟩, ⟨m3, m4, m5⟩⟩ := HKF.out w9 (Below.refl _ _)
    go_region_law (first
      | ((try go_simp); go_at_call 9; (with_reducible refine (HO1.out _ (by first | exact HBY.out | exact HBY.out.drew | exact (Below.refl _ _).drew | exact Below.refl _ _)).mono ?_); rintro e wy ⟨E1, G1, rfl, i1, i2, hby⟩; have HBY := mkHid (below_next (show Below w9.heap.size w9 _ from (by first | exact HBY.out | exact HBY.out.drew | exact (Below.refl _ _).drew | exact Below.refl _ _)) hby); obtain ⟨⟨m0, m1, m2⟩, ⟨m3, m4, m5⟩⟩ := HKF.out _ HBY.out; have HE1 := mkHid i1; have HE2 := mkHid i2; clear hby i1 i2)
      | ((try go_simp); go_at_call 9; (with_reducible refine (HO2.out _ (by first | exact HBY.out | exact HBY.out.drew | exact (Below.refl _ _).drew | exact Below.refl _ _)).mono ?_); rintro e wz ⟨F1, J1, rfl, j1, j2, hbz⟩; have HBZ := mkHid (below_next (show Below wy.heap.size wy _ from (by first | exact (Below.refl _ _).drew | exact Below.refl _ _)) hbz); have HBY := mkHid (below_next HBY.out HBZ.out); obtain ⟨⟨m0, m1, m2⟩, ⟨m3, m4, m5⟩⟩ := HKF.out _ HBY.out; have HSN := mkHid (fun Z (hZ : Below wz.heap.size wz Z) => ssame_any g r E1 xs.length G1 xs g' r' F1 ys.length J1 ys Z ((HE1.out.below (HBZ.out.trans (hZ.mono HBZ.out.size))).more (HBZ.out.trans (hZ.mono HBZ.out.size)).size) HE2.out ((j1.below hZ).more hZ.size) j2); rw [HSB.out] at HSN; clear hbz j1 j2)
      | ((try go_simp); go_at_call 15; refine (HSN.out _ (by first | exact (Below.refl _ _).drew | exact Below.refl _ _)).mono ?_; rintro e wu ⟨rfl, hbv⟩; have HBY := mkHid (below_next (show Below w9.heap.size w9 _ from (by first | exact HBY.out | exact HBY.out.drew | exact (Below.refl _ _).drew | exact Below.refl _ _)) hbv); obtain ⟨⟨m0, m1, m2⟩, ⟨m3, m4, m5⟩⟩ := HKF.out _ HBY.out; clear hbv))
    all_goals
      obtain ⟨wA, rfl⟩ : ∃ x : World, x = wu := ⟨wu, rfl⟩
      have HBA := mkHid (show Below W.heap.size W wA from HB9.out.trans (HBY.out.mono HB9.out.size))
      (try go_wp2_with fail)
      refine (rsparse_any s q cq l wA ((HXS.out.below HBA.out).more HBA.out.size) HCQ.out).mono ?_
      rintro e wB ⟨P, pn, pc, rfl, hpx, hpc, _, hbB⟩
      rw [HPS.out] at hpx ⊢
      simp only at hpx ⊢
      obtain ⟨W5, hW5⟩ : ∃ W5, wB.alloc (.cells #[.int .i64 pg, .int .i64 pr, .slice P pn pc] 24) = W5 := ⟨_, rfl⟩
      have hal5 : Below wB.heap.size wB W5 := by rw [← hW5]; exact (Below.refl _ _).alloc (Nat.le_refl _) _
      have HB5 := mkHid (below_next (below_next HBA.out hbB) hal5)
      have hQ5 : W5.heap[wB.heap.size]? = some (.cells #[.int .i64 pg, .int .i64 pr, .slice P pn pc] 24) := by rw [← hW5]; exact heap_alloc_new _ _
      have HK5 := mkHid (show ∀ Z, Below W5.heap.size W5 Z → (Z.cell? ⟨wB.heap.size, 0, none⟩ = some (.int .i64 pg) ∧ Z.cell? ⟨wB.heap.size, 1, none⟩ = some (.int .i64 pr) ∧ Z.cell? ⟨wB.heap.size, 2, none⟩ = some (.slice P pn pc)) from fun Z hZ =>
        have h := (hZ.block _ (Array.getElem?_eq_some_iff.1 hQ5).1).trans hQ5
        ⟨cell_of_row Z wB.heap.size 0 _ _ _ h, cell_of_row Z wB.heap.size 1 _ _ _ h, cell_of_row Z wB.heap.size 2 _ _ _ h⟩)
      have HPX := mkHid ((hpx.below hal5).more hal5.size)
      have HPC := mkHid hpc
      clear hpx hpc hbB hal5 hQ5
      go_wp2_with fail
      clear hW5
      refine (copy_any s q cq l W5 ((HXS.out.below HB5.out).more HB5.out.size) HCQ.out.2.2).mono ?_
      rintro e wC ⟨A6, n6, C6, rfl, ho6, hb6⟩
      have HB6 := mkHid (below_next HB5.out hb6)
      have HB56 := mkHid hb6
      have HBS6 := mkHid (show BS wC wC.heap.size A6 n6 l from ⟨SL.of_own ho6, HXS.out.2⟩)
      have hc6 : CapOk n6 C6 := ⟨(own_cap ho6).1, (own_cap ho6).2, by have h6 := HBS6.out.len; have h7 := HLX.out; have h8 := HCQ.out.2.2; omega⟩
      clear hb6 ho6
      go_wp2_with fail
      refine (sparse_any A6 n6 C6 l wC HBS6.out hc6).mono ?_
      rintro e wD ⟨Y, yn, yc, rfl, y1, y2, _, hbD⟩
      rw [HPS.out] at y1 ⊢
      simp only at y1 ⊢
      clear hc6
      obtain ⟨W7, hW7⟩ : ∃ W7, wD.alloc (.cells #[.int .i64 pg, .int .i64 pr, .slice Y yn yc] 35) = W7 := ⟨_, rfl⟩
      have hal7 : Below wD.heap.size wD W7 := by rw [← hW7]; exact (Below.refl _ _).alloc (Nat.le_refl _) _
      have HB57 := mkHid (below_next (below_next HB56.out hbD) hal7)
      have HB7 := mkHid (below_next HB5.out HB57.out)
      have hQ7 : W7.heap[wD.heap.size]? = some (.cells #[.int .i64 pg, .int .i64 pr, .slice Y yn yc] 35) := by rw [← hW7]; exact heap_alloc_new _ _
      have HK7 := mkHid (show ∀ Z, Below W7.heap.size W7 Z → ((Z.cell? ⟨wD.heap.size, 0, none⟩ = some (.int .i64 pg) ∧ Z.cell? ⟨wD.heap.size, 1, none⟩ = some (.int .i64 pr) ∧ Z.cell? ⟨wD.heap.size, 2, none⟩ = some (.slice Y yn yc)) ∧ (Z.cell? ⟨wB.heap.size, 0, none⟩ = some (.int .i64 pg) ∧ Z.cell? ⟨wB.heap.size, 1, none⟩ = some (.int .i64 pr) ∧ Z.cell? ⟨wB.heap.size, 2, none⟩ = some (.slice P pn pc))) from fun Z hZ =>
        have h := (hZ.block _ (Array.getElem?_eq_some_iff.1 hQ7).1).trans hQ7
        ⟨⟨cell_of_row Z wD.heap.size 0 _ _ _ h, cell_of_row Z wD.heap.size 1 _ _ _ h, cell_of_row Z wD.heap.size 2 _ _ _ h⟩, HK5.out Z (HB57.out.trans (hZ.mono HB57.out.size))⟩)
      obtain ⟨⟨z0, z1, z2⟩, _⟩ := HK7.out W7 (Below.refl _ _)
      have HY1 := mkHid ((y1.below hal7).more hal7.size)
      have HY2 := mkHid y2
      clear hbD hal7 hQ7 y1 y2
      rcases HPE.out with hp | hp
      · obtain ⟨rfl, rfl, rfl, rfl⟩ : pe = 14 ∧ pg = 0 ∧ pr = 0 ∧ ps = [] := by have h := HPS.out.symm.trans hp; simp only [Prod.mk.injEq] at h; exact h
        obtain rfl : 0 = yn := HY1.out.len
        rw [show decide ((14 : Int) = 0) = false from rfl, errV_14]
        clear hp
        go_wp2_with fail
        refine (is_code 14 14 _).mono ?_
        rintro e wz ⟨rfl, hwz⟩
        subst hwz
        rw [show ((14 : Int) != 0 && (14 : Int) == 14) = true from rfl]
        go_wp2_with fail
        refine (awake_any _).mono ?_
        rintro e wE ⟨rfl, hbE⟩
        have HBE := mkHid (HAL.out.trans ((below_next HB7.out hbE).mono HAL.out.size))
        clear hbE
        go_wp2_with fail
        go_ret
        exact ⟨rfl, HBE.out⟩
      · obtain rfl : pe = 0 := by rw [HPS.out] at hp; exact hp
        rw [errV_0, show decide ((0 : Int) = 0) = true from rfl]
        clear hp z0 z1 z2
        have HBK := mkHid (fun Z (hZ : Below W7.heap.size W7 Z) => sback_any pg pr Y yn yc ps Z ((HY1.out.below hZ).more hZ.size) HY2.out (by have h1 := HY1.out.len; have h2 := HPL.out; omega))
        go_wp2_with fail
        have hk0' := HK7.out W7 (Below.refl _ _)
        (try rw [hW7])
        clear hW7
        go_region_held3 (fun Z => (Z.cell? ⟨wD.heap.size, 0, none⟩ = some (.int .i64 pg) ∧ Z.cell? ⟨wD.heap.size, 1, none⟩ = some (.int .i64 pr) ∧ Z.cell? ⟨wD.heap.size, 2, none⟩ = some (.slice Y yn yc)) ∧ (Z.cell? ⟨wB.heap.size, 0, none⟩ = some (.int .i64 pg) ∧ Z.cell? ⟨wB.heap.size, 1, none⟩ = some (.int .i64 pr) ∧ Z.cell? ⟨wB.heap.size, 2, none⟩ = some (.slice P pn pc))) (first | exact hkx | exact HK7.out _ (by first | exact HBX.out | exact HBX.out.drew | exact (Below.refl _ _).drew | exact Below.refl _ _)) (first
          | (go_at_call 20; (with_reducible refine (HBK.out _ (by first | exact HBX.out | exact HBX.out.drew | exact (Below.refl _ _).drew | exact Below.refl _ _)).mono ?_); rintro e wy ⟨E1, G1, rfl, i1, i2, hby⟩; have HBX := mkHid (below_next (show Below W7.heap.size W7 _ from (by first | exact HBX.out | exact HBX.out.drew | exact (Below.refl _ _).drew | exact Below.refl _ _)) hby); have hkx := HK7.out _ HBX.out; have HSM := mkHid (fun Z (hZ : Below wy.heap.size wy Z) => rsame_any pg pr E1 ps.length G1 ps pg pr P pn pc ps Z ((i1.below hZ).more hZ.size) i2 ((HPX.out.below (HB57.out.trans ((HBX.out.trans (hZ.mono HBX.out.size)).mono HB57.out.size))).more (HB57.out.trans ((HBX.out.trans (hZ.mono HBX.out.size)).mono HB57.out.size)).size) HPC.out); rw [show sameS pg pr ps pg pr ps = true from decide_eq_true ⟨rfl, rfl, rfl⟩] at HSM; clear hby i1 i2)
          | (go_at_call 16; refine (HSM.out _ (by first | exact (Below.refl _ _).drew | exact Below.refl _ _)).mono ?_; rintro e wz ⟨rfl, hbv⟩; have HBX := mkHid (below_next (show Below W7.heap.size W7 _ from (by first | exact HBX.out | exact HBX.out.drew | exact (Below.refl _ _).drew | exact Below.refl _ _)) hbv); have hkx := HK7.out _ HBX.out; clear hbv)
          | (go_at_call 7; refine (awake_any _).mono ?_; rintro e wv ⟨rfl, hbv⟩; have HBX := mkHid (below_next (show Below W7.heap.size W7 _ from (by first | exact HBX.out | exact HBX.out.drew | exact (Below.refl _ _).drew | exact Below.refl _ _)) hbv); have hkx := HK7.out _ HBX.out; clear hbv))
        go_wp2_with fail
        go_ret
        exact ⟨rfl, HAL.out.trans ((HB7.out.trans (HBX.out.mono HB7.out.size)).mono HAL.out.size)⟩
  | true =>
    have HR := mkHid hr
    clear hr
    go_wp2_with fail
    refine (sof_any g r a n c xs w2 ((HES.out.below HB2.out).more HB2.out.size) HC.out (by have := HN2.out; omega)).mono ?_
    rintro e w3 ⟨A1, C1, rfl, i1, i2, hb3⟩
    have HB3 := mkHid (below_next HB2.out hb3)
    clear hb3 k0 k1 k2
    go_wp2_with fail
    refine (sbytes_yes g r A1 xs.length C1 xs w3 i1 i2 HR.out).mono ?_
    rintro e w4 ⟨AB, CB, rfl, hoB, hb4⟩
    have HB4 := mkHid (below_next HB3.out hb4)
    have HBB := mkHid (show BS w4 w4.heap.size AB 128 (frameOf 1 (superB g r xs)) from ⟨SL.of_own hoB, super_frame_ok HR.out⟩)
    clear hb4 i1 i2 hoB
    obtain ⟨⟨k0, k1, k2⟩, _⟩ := HK.out w4 HB4.out
    go_wp2_with fail
    refine (sof_any g r a n c xs w4 ((HES.out.below HB4.out).more HB4.out.size) HC.out (by have := HN2.out; omega)).mono ?_
    rintro e w5 ⟨A5, C5, rfl, i1, i2, hb5⟩
    have HB45 := mkHid hb5
    have HB5 := mkHid (below_next HB4.out hb5)
    clear hb5 k0 k1 k2
    go_wp2_with fail
    refine (scheck_any g r A5 xs.length C5 xs w5 i1 i2).mono ?_
    rintro e w7 ⟨rfl, hb7⟩
    have HB47 := mkHid (below_next HB45.out hb7)
    have HB7 := mkHid (below_next HB5.out hb7)
    clear hb7 i1 i2
    rw [HR.out, show superE true = .nilIface from rfl]
    obtain ⟨⟨k0, k1, k2⟩, _⟩ := HK.out w7 HB7.out
    go_wp2_with fail
    refine (rsbytes_any g r a n c xs w7 ((HES.out.below HB7.out).more HB7.out.size) HC.out HR.out).mono ?_
    rintro e w9 ⟨AR, nR, CR, rfl, hoR, hb9⟩
    have HB49 := mkHid (below_next HB47.out hb9)
    have HB9 := mkHid (below_next HB7.out hb9)
    have HBR := mkHid (show BS w9 w9.heap.size AR nR (frameOf 1 (superB g r xs)) from ⟨SL.of_own hoR, super_frame_ok HR.out⟩)
    clear hb9 hoR k0 k1 k2
    go_wp2_with fail
    refine (bsame_any AB AR 128 nR CB CR w9.heap.size w9.heap.size _ _ w9 ((HBB.out.below HB49.out).more HB49.out.size) HBR.out).mono ?_
    rintro e wz ⟨rfl, hwz⟩
    subst hwz
    rw [decide_eq_true rfl]
    have HKF := mkHid (fun Z (hZ : Below w9.heap.size w9 Z) => HK.out Z (HB9.out.trans (hZ.mono HB9.out.size)))
    have HO1 := mkHid (fun Z (hZ : Below w9.heap.size w9 Z) => sof_any g r a n c xs Z ((HES.out.below (HB9.out.trans (hZ.mono HB9.out.size))).more (HB9.out.trans (hZ.mono HB9.out.size)).size) HC.out (by have := HN2.out; omega))
    have HO2 := mkHid (fun Z (hZ : Below w9.heap.size w9 Z) => sof_any g' r' a' n' c' ys Z ((HES'.out.below (HB9.out.trans (hZ.mono HB9.out.size))).more (HB9.out.trans (hZ.mono HB9.out.size)).size) HC'.out (by have := HN2.out; omega))
    obtain ⟨sb, hsb⟩ : ∃ sb, sameS g r xs g' r' ys = sb := ⟨_, rfl⟩
    have HDS := mkHid (fun Z (hZ : Below w9.heap.size w9 Z) => rsame_any g r a n c xs g' r' a' n' c' ys Z ((HES.out.below (HB9.out.trans (hZ.mono HB9.out.size))).more (HB9.out.trans (hZ.mono HB9.out.size)).size) HC.out ((HES'.out.below (HB9.out.trans (hZ.mono HB9.out.size))).more (HB9.out.trans (hZ.mono HB9.out.size)).size) HC'.out)
    rw [hsb] at HDS
    have HSB := mkHid (show (rightS g r xs && sameS g r xs g' r' ys) = sb by rw [HR.out, hsb]; rfl)
    clear hsb
    go_wp2_with fail
    have hk0' := HKF.out w9 (Below.refl _ _)
    go_region_held3 (fun Z => (Z.cell? ⟨w.heap.size, 0, none⟩ = some (.int .i64 g) ∧ Z.cell? ⟨w.heap.size, 1, none⟩ = some (.int .i64 r) ∧ Z.cell? ⟨w.heap.size, 2, none⟩ = some (.slice a n c)) ∧ (Z.cell? ⟨w.heap.size + 1, 0, none⟩ = some (.int .i64 g') ∧ Z.cell? ⟨w.heap.size + 1, 1, none⟩ = some (.int .i64 r') ∧ Z.cell? ⟨w.heap.size + 1, 2, none⟩ = some (.slice a' n' c'))) (first | exact hky | exact HKF.out _ (by first | exact HBY.out | exact HBY.out.drew | exact (Below.refl _ _).drew | exact Below.refl _ _)) (first
      | (go_at_call 9; (with_reducible refine (HO1.out _ (by first | exact HBY.out | exact HBY.out.drew | exact (Below.refl _ _).drew | exact Below.refl _ _)).mono ?_); rintro e wy ⟨E1, G1, rfl, i1, i2, hby⟩; have HBY := mkHid (below_next (show Below w9.heap.size w9 _ from (by first | exact HBY.out | exact HBY.out.drew | exact (Below.refl _ _).drew | exact Below.refl _ _)) hby); have hky := HKF.out _ HBY.out; have HE1 := mkHid i1; have HE2 := mkHid i2; clear hby i1 i2)
      | (go_at_call 9; (with_reducible refine (HO2.out _ (by first | exact HBY.out | exact HBY.out.drew | exact (Below.refl _ _).drew | exact Below.refl _ _)).mono ?_); rintro e wz ⟨F1, J1, rfl, j1, j2, hbz⟩; have HBZ := mkHid (below_next (show Below wy.heap.size wy _ from (by first | exact (Below.refl _ _).drew | exact Below.refl _ _)) hbz); have HBY := mkHid (below_next HBY.out HBZ.out); have hky := HKF.out _ HBY.out; have HSN := mkHid (fun Z (hZ : Below wz.heap.size wz Z) => ssame_any g r E1 xs.length G1 xs g' r' F1 ys.length J1 ys Z ((HE1.out.below (HBZ.out.trans (hZ.mono HBZ.out.size))).more (HBZ.out.trans (hZ.mono HBZ.out.size)).size) HE2.out ((j1.below hZ).more hZ.size) j2); rw [HSB.out] at HSN; clear hbz j1 j2)
      | (go_at_call 15; refine (HSN.out _ (by first | exact (Below.refl _ _).drew | exact Below.refl _ _)).mono ?_; rintro e wu ⟨rfl, hbv⟩; have HBY := mkHid (below_next (show Below w9.heap.size w9 _ from (by first | exact HBY.out | exact HBY.out.drew | exact (Below.refl _ _).drew | exact Below.refl _ _)) hbv); have hky := HKF.out _ HBY.out; clear hbv)
      | (go_at_call 16; refine (HDS.out _ (by first | exact HBY.out | exact HBY.out.drew | exact (Below.refl _ _).drew | exact Below.refl _ _)).mono ?_; rintro e wu ⟨rfl, hbv⟩; have HBY := mkHid (below_next (show Below w9.heap.size w9 _ from (by first | exact HBY.out | exact HBY.out.drew | exact (Below.refl _ _).drew | exact Below.refl _ _)) hbv); have hky := HKF.out _ HBY.out; clear hbv))
    have hsb2 : (sb != sb) = false := by cases sb <;> rfl
    (try rw [hsb2])
    obtain ⟨wA, rfl⟩ : ∃ x : World, x = wu := ⟨wu, rfl⟩
    have HBA := mkHid (show Below W.heap.size W wA from HB9.out.trans (HBY.out.mono HB9.out.size))
    go_wp2_with fail
    refine (rsparse_any s q cq l wA ((HXS.out.below HBA.out).more HBA.out.size) HCQ.out).mono ?_
    rintro e wB ⟨P, pn, pc, rfl, hpx, hpc, _, hbB⟩
    rw [HPS.out] at hpx ⊢
    simp only at hpx ⊢
    obtain ⟨W5, hW5⟩ : ∃ W5, wB.alloc (.cells #[.int .i64 pg, .int .i64 pr, .slice P pn pc] 24) = W5 := ⟨_, rfl⟩
    have hal5 : Below wB.heap.size wB W5 := by rw [← hW5]; exact (Below.refl _ _).alloc (Nat.le_refl _) _
    have HB5 := mkHid (below_next (below_next HBA.out hbB) hal5)
    have hQ5 : W5.heap[wB.heap.size]? = some (.cells #[.int .i64 pg, .int .i64 pr, .slice P pn pc] 24) := by rw [← hW5]; exact heap_alloc_new _ _
    have HK5 := mkHid (show ∀ Z, Below W5.heap.size W5 Z → (Z.cell? ⟨wB.heap.size, 0, none⟩ = some (.int .i64 pg) ∧ Z.cell? ⟨wB.heap.size, 1, none⟩ = some (.int .i64 pr) ∧ Z.cell? ⟨wB.heap.size, 2, none⟩ = some (.slice P pn pc)) from fun Z hZ =>
      have h := (hZ.block _ (Array.getElem?_eq_some_iff.1 hQ5).1).trans hQ5
      ⟨cell_of_row Z wB.heap.size 0 _ _ _ h, cell_of_row Z wB.heap.size 1 _ _ _ h, cell_of_row Z wB.heap.size 2 _ _ _ h⟩)
    have HPX := mkHid ((hpx.below hal5).more hal5.size)
    have HPC := mkHid hpc
    clear hpx hpc hbB hal5 hQ5
    go_wp2_with fail
    clear hW5
    refine (copy_any s q cq l W5 ((HXS.out.below HB5.out).more HB5.out.size) HCQ.out.2.2).mono ?_
    rintro e wC ⟨A6, n6, C6, rfl, ho6, hb6⟩
    have HB6 := mkHid (below_next HB5.out hb6)
    have HB56 := mkHid hb6
    have HBS6 := mkHid (show BS wC wC.heap.size A6 n6 l from ⟨SL.of_own ho6, HXS.out.2⟩)
    have hc6 : CapOk n6 C6 := ⟨(own_cap ho6).1, (own_cap ho6).2, by have h6 := HBS6.out.len; have h7 := HLX.out; have h8 := HCQ.out.2.2; omega⟩
    clear hb6 ho6
    go_wp2_with fail
    refine (sparse_any A6 n6 C6 l wC HBS6.out hc6).mono ?_
    rintro e wD ⟨Y, yn, yc, rfl, y1, y2, _, hbD⟩
    rw [HPS.out] at y1 ⊢
    simp only at y1 ⊢
    clear hc6
    obtain ⟨W7, hW7⟩ : ∃ W7, wD.alloc (.cells #[.int .i64 pg, .int .i64 pr, .slice Y yn yc] 35) = W7 := ⟨_, rfl⟩
    have hal7 : Below wD.heap.size wD W7 := by rw [← hW7]; exact (Below.refl _ _).alloc (Nat.le_refl _) _
    have HB57 := mkHid (below_next (below_next HB56.out hbD) hal7)
    have HB7 := mkHid (below_next HB5.out HB57.out)
    have hQ7 : W7.heap[wD.heap.size]? = some (.cells #[.int .i64 pg, .int .i64 pr, .slice Y yn yc] 35) := by rw [← hW7]; exact heap_alloc_new _ _
    have HK7 := mkHid (show ∀ Z, Below W7.heap.size W7 Z → ((Z.cell? ⟨wD.heap.size, 0, none⟩ = some (.int .i64 pg) ∧ Z.cell? ⟨wD.heap.size, 1, none⟩ = some (.int .i64 pr) ∧ Z.cell? ⟨wD.heap.size, 2, none⟩ = some (.slice Y yn yc)) ∧ (Z.cell? ⟨wB.heap.size, 0, none⟩ = some (.int .i64 pg) ∧ Z.cell? ⟨wB.heap.size, 1, none⟩ = some (.int .i64 pr) ∧ Z.cell? ⟨wB.heap.size, 2, none⟩ = some (.slice P pn pc))) from fun Z hZ =>
      have h := (hZ.block _ (Array.getElem?_eq_some_iff.1 hQ7).1).trans hQ7
      ⟨⟨cell_of_row Z wD.heap.size 0 _ _ _ h, cell_of_row Z wD.heap.size 1 _ _ _ h, cell_of_row Z wD.heap.size 2 _ _ _ h⟩, HK5.out Z (HB57.out.trans (hZ.mono HB57.out.size))⟩)
    obtain ⟨⟨z0, z1, z2⟩, _⟩ := HK7.out W7 (Below.refl _ _)
    have HY1 := mkHid ((y1.below hal7).more hal7.size)
    have HY2 := mkHid y2
    clear hbD hal7 hQ7 y1 y2
    rcases HPE.out with hp | hp
    · obtain ⟨rfl, rfl, rfl, rfl⟩ : pe = 14 ∧ pg = 0 ∧ pr = 0 ∧ ps = [] := by have h := HPS.out.symm.trans hp; simp only [Prod.mk.injEq] at h; exact h
      obtain rfl : 0 = yn := HY1.out.len
      rw [show decide ((14 : Int) = 0) = false from rfl, errV_14]
      clear hp
      go_wp2_with fail
      refine (is_code 14 14 _).mono ?_
      rintro e wz ⟨rfl, hwz⟩
      subst hwz
      rw [show ((14 : Int) != 0 && (14 : Int) == 14) = true from rfl]
      go_wp2_with fail
      refine (awake_any _).mono ?_
      rintro e wE ⟨rfl, hbE⟩
      have HBE := mkHid (HAL.out.trans ((below_next HB7.out hbE).mono HAL.out.size))
      clear hbE
      go_wp2_with fail
      go_ret
      exact ⟨rfl, HBE.out⟩
    · obtain rfl : pe = 0 := by rw [HPS.out] at hp; exact hp
      rw [errV_0, show decide ((0 : Int) = 0) = true from rfl]
      clear hp z0 z1 z2
      have HBK := mkHid (fun Z (hZ : Below W7.heap.size W7 Z) => sback_any pg pr Y yn yc ps Z ((HY1.out.below hZ).more hZ.size) HY2.out (by have h1 := HY1.out.len; have h2 := HPL.out; omega))
      go_wp2_with fail
      have hk0' := HK7.out W7 (Below.refl _ _)
      (try rw [hW7])
      clear hW7
      go_region_held3 (fun Z => (Z.cell? ⟨wD.heap.size, 0, none⟩ = some (.int .i64 pg) ∧ Z.cell? ⟨wD.heap.size, 1, none⟩ = some (.int .i64 pr) ∧ Z.cell? ⟨wD.heap.size, 2, none⟩ = some (.slice Y yn yc)) ∧ (Z.cell? ⟨wB.heap.size, 0, none⟩ = some (.int .i64 pg) ∧ Z.cell? ⟨wB.heap.size, 1, none⟩ = some (.int .i64 pr) ∧ Z.cell? ⟨wB.heap.size, 2, none⟩ = some (.slice P pn pc))) (first | exact hkx | exact HK7.out _ (by first | exact HBX.out | exact HBX.out.drew | exact (Below.refl _ _).drew | exact Below.refl _ _)) (first
        | (go_at_call 20; (with_reducible refine (HBK.out _ (by first | exact HBX.out | exact HBX.out.drew | exact (Below.refl _ _).drew | exact Below.refl _ _)).mono ?_); rintro e wy ⟨E1, G1, rfl, i1, i2, hby⟩; have HBX := mkHid (below_next (show Below W7.heap.size W7 _ from (by first | exact HBX.out | exact HBX.out.drew | exact (Below.refl _ _).drew | exact Below.refl _ _)) hby); have hkx := HK7.out _ HBX.out; have HSM := mkHid (fun Z (hZ : Below wy.heap.size wy Z) => rsame_any pg pr E1 ps.length G1 ps pg pr P pn pc ps Z ((i1.below hZ).more hZ.size) i2 ((HPX.out.below (HB57.out.trans ((HBX.out.trans (hZ.mono HBX.out.size)).mono HB57.out.size))).more (HB57.out.trans ((HBX.out.trans (hZ.mono HBX.out.size)).mono HB57.out.size)).size) HPC.out); rw [show sameS pg pr ps pg pr ps = true from decide_eq_true ⟨rfl, rfl, rfl⟩] at HSM; clear hby i1 i2)
        | (go_at_call 16; refine (HSM.out _ (by first | exact (Below.refl _ _).drew | exact Below.refl _ _)).mono ?_; rintro e wz ⟨rfl, hbv⟩; have HBX := mkHid (below_next (show Below W7.heap.size W7 _ from (by first | exact HBX.out | exact HBX.out.drew | exact (Below.refl _ _).drew | exact Below.refl _ _)) hbv); have hkx := HK7.out _ HBX.out; clear hbv)
        | (go_at_call 7; refine (awake_any _).mono ?_; rintro e wv ⟨rfl, hbv⟩; have HBX := mkHid (below_next (show Below W7.heap.size W7 _ from (by first | exact HBX.out | exact HBX.out.drew | exact (Below.refl _ _).drew | exact Below.refl _ _)) hbv); have hkx := HK7.out _ HBX.out; clear hbv))
      go_wp2_with fail
      go_ret
      exact ⟨rfl, HAL.out.trans ((HB7.out.trans (HBX.out.mono HB7.out.size)).mono HAL.out.size)⟩

end Go.Proofs.Ytbgfccfhiocomaa
