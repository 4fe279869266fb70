/- portagelaw05.RosterTells answers true. -/
import Derived.Test.YtlpgeocoddehgaaRosV
import Derived.Test.YtlpgeocoddehgaaRosR
import Derived.Test.YtlpgeocoddehgaaSameB5
import Derived.Deep.DeepCutAuto
import Derived.Deep.CutBlock
namespace Go.Proofs.Ytlpgeocoddehgaa
open Go.RowKit Go.Shelf

theorem places_sorted (p : Int × Int → Bool) (xs : List (Int × Int)) (k : Nat) : (placesOf p xs k).Pairwise (· < ·) := by
  unfold placesOf
  rw [List.pairwise_map]
  exact (List.pairwise_lt_range.filter _).imp fun h => by omega
/-- What a list of places tells, place by place. -/
theorem those_each (p : Int × Int → Bool) (xs : List (Int × Int)) {q : Nat} (hq : q < (thoseOf p xs).length) : ∃ (j : Nat) (x : Int × Int), (thoseOf p xs)[q]? = some (j : Int) ∧ xs[j]? = some x ∧ j < xs.length ∧ p x = true ∧ (0 < q → ∃ i : Nat, (thoseOf p xs)[q - 1]? = some (i : Int) ∧ i < j) := by
  have hs : (thoseOf p xs).Pairwise (· < ·) := by
    unfold thoseOf
    split
    · exact places_sorted p xs _
    · exact List.Pairwise.nil
  have hm : ∀ v ∈ thoseOf p xs, ∃ j : Nat, v = j ∧ j < xs.length ∧ p (xs[j]?.getD (0, 0)) = true := by
    intro v hv
    unfold thoseOf at hv
    split at hv
    · exact places_mem hv
    · cases hv
  obtain ⟨j, hv, hj, hp⟩ := hm _ (List.getElem_mem hq)
  have hx : xs[j]? = some xs[j] := List.getElem?_eq_getElem hj
  rw [hx] at hp
  refine ⟨j, xs[j], by rw [List.getElem?_eq_getElem hq, hv], hx, hj, hp, fun h0 => ?_⟩
  obtain ⟨i, hi, _, _⟩ := hm _ (List.getElem_mem (l := thoseOf p xs) (n := q - 1) (by omega))
  refine ⟨i, by rw [List.getElem?_eq_getElem (by omega), hi], ?_⟩
  have := List.pairwise_iff_getElem.1 hs (q - 1) q (by omega) hq (by omega)
  rw [hi, hv] at this
  omega
theorem filter_member : ∀ xs : List (Int × Int), (∀ x ∈ xs, rightE x = true) → ((xs.filter memberB).length : Int) = xs.length - countOf xs 3
  | [], _ => rfl
  | x :: xs, h => by
    have ih := filter_member xs fun y hy => h y (by simp [hy])
    have hx := of_decide_eq_true (h x (by simp))
    unfold countOf at ih ⊢
    rw [List.filter_cons, List.filter_cons]
    by_cases h3 : x.1 = 3
    · rw [if_neg (by simp [memberB, h3]), if_pos (by simp [h3])]
      simp only [List.length_cons]
      omega
    · rw [if_pos (by simp [memberB]; omega), if_neg (by simpa using h3)]
      simp only [List.length_cons]
      omega

set_option maxRecDepth 20000 in
set_option maxHeartbeats 8000000 in
theorem rosterTells_yes (a : Option Addr) (n c : Nat) (xs : List (Int × Int)) (a' : Option Addr) (n' c' : Nat) (ys : List (Int × Int)) (d : Int) (w : World) (hs : ES w w.heap.size a n xs) (hc : CapOk n c) (hs' : ES w w.heap.size a' n' ys) (hc' : CapOk n' c') (hd : I64 d) (hr : rightL xs = true) :
    Calls Try.prog 7 #[.slice a n c, .slice a' n' c', .int .i64 d] w fun e w' => e = .returned (.bool true) ∧ Below w.heap.size w w' := by
  have HS := mkHid hs
  have HL := mkHid hs.len
  have HC := mkHid hc
  have HS' := mkHid hs'
  have HL' := mkHid hs'.len
  have HC' := mkHid hc'
  have HD := mkHid hd
  have HR := mkHid hr
  obtain ⟨hd0, hd1⟩ := hd
  obtain ⟨hc1, hc2, hc3⟩ := hc
  obtain ⟨hc1', hc2', hc3'⟩ := hc'
  clear hs hs' hr
  by_cases hn1 : 100 < n
  · go_enter Try.func7, Try.ntmps7
    go_wp2_with fail
    refine (awake_any _).mono ?_
    rintro e w1 ⟨rfl, hb1⟩
    go_wp2_with fail
    go_ret
    exact ⟨rfl, hb1⟩
  by_cases hn2 : 100 < n'
  · go_enter Try.func7, Try.ntmps7
    go_wp2_with fail
    refine (awake_any _).mono ?_
    rintro e w1 ⟨rfl, hb1⟩
    go_wp2_with fail
    go_ret
    exact ⟨rfl, hb1⟩
  go_enter Try.func7, Try.ntmps7
  go_wp2_with fail
  refine (of_any a n c xs w HS.out HC.out (by omega)).mono ?_
  rintro e w1 ⟨A0, c0, rfl, hes0, hcap0, hb1⟩
  rw [HL.out] at hes0 hcap0 ⊢
  obtain ⟨W, hW⟩ : ∃ W, w1.alloc (.cells #[.slice A0 n c0] 27) = W := ⟨_, rfl⟩
  have hal : Below w1.heap.size w1 W := by rw [← hW]; exact (Below.refl _ _).alloc (Nat.le_refl _) _
  have hq0 : W.heap[w1.heap.size]? = some (.cells #[.slice A0 n c0] 27) := by rw [← hW]; exact heap_alloc_new _ _
  have HES := mkHid (hes0.next hal)
  have HCAP := mkHid hcap0
  have HBW := mkHid (hb1.trans (hal.mono hb1.size))
  have HK := mkHid (show ∀ Z, Below W.heap.size W Z → Z.cell? ⟨w1.heap.size, 0, none⟩ = some (.slice A0 n c0) from fun Z hZ => cell_of_row Z w1.heap.size 0 _ _ _ ((hZ.block _ (Array.getElem?_eq_some_iff.1 hq0).1).trans hq0))
  have HXZ := mkHid (show ∀ Z, Below W.heap.size W Z → ES Z Z.heap.size a n xs from fun Z hZ => HS.out.next (HBW.out.trans (hZ.mono HBW.out.size)))
  have HYZ := mkHid (show ∀ Z, Below W.heap.size W Z → ES Z Z.heap.size a' n' ys from fun Z hZ => HS'.out.next (HBW.out.trans (hZ.mono HBW.out.size)))
  clear hes0 hal hcap0 hb1 hq0
  have HSG := mkHid (show 0 ≤ d → d < (n : Int) → stateOf xs d = (xs[d.toNat]?.getD (0, 0)).1 from fun h1 h2 => if_neg (by rw [HL.out]; omega))
  have HSO := mkHid (show ¬ (0 ≤ d ∧ d < (n : Int)) → stateOf xs d = 0 from fun h => if_pos (by rw [HL.out]; omega))
  go_wp2_with fail
  refine (rright_any a n c xs W (HXZ.out _ (Below.refl _ _)) HC.out).mono ?_
  clear hW
  rintro e w' ⟨rfl, rfl⟩
  rw [HR.out]
  have c7 := HK.out W (Below.refl _ _)
  go_upto_region 5 with (fail)
  go_cut [9] (fun v wc => v = .bool (rightL ys && decide (xs = ys)) ∧ Hid (Below W.heap.size W wc))
  case first =>
    cases hr2 : rightL ys with
    | false =>
      go_wp2_with fail
      refine (rright_any a' n' c' ys W (HYZ.out _ (Below.refl _ _)) HC'.out).mono ?_
      rintro e w' ⟨rfl, rfl⟩
      rw [hr2]
      go_wp2_with fail
      go_meet
      case rel => exact ⟨by simp [hr2], mkHid (Below.refl _ _)⟩
    | true =>
      go_wp2_with fail
      refine (rright_any a' n' c' ys W (HYZ.out _ (Below.refl _ _)) HC'.out).mono ?_
      rintro e w' ⟨rfl, rfl⟩
      rw [hr2]
      go_wp2_with fail
      refine (same_any A0 n c0 xs a' n' c' ys W HES.out HCAP.out (HYZ.out _ (Below.refl _ _)) HC'.out).mono ?_
      rintro e w2 ⟨rfl, hb2⟩
      have HB2 := mkHid hb2
      clear hb2
      go_wp2_with fail
      go_meet
      case rel => exact ⟨by simp [hr2], HB2⟩
  case rest =>
    obtain ⟨rfl, HBY⟩ := hcut
    obtain ⟨EQ, hEQ⟩ : ∃ EQ, (rightL ys && decide (xs = ys)) = EQ := ⟨_, rfl⟩
    clear c7
    try rw [hEQ]
    have HEQ := mkHid hEQ
    clear hEQ
    go_upto_region 7 with (fail)
    go_cut [49] (fun v wd => v = .bool (decide (0 ≤ d ∧ d < (n : Int))) ∧ wd = wc)
    case first =>
      by_cases h0 : 0 ≤ d
      · by_cases h1 : d < (n : Int)
        · go_wp2_with fail
          go_meet
          case rel => exact ⟨by simp; omega, rfl⟩
        · go_wp2_with fail
          go_meet
          case rel => exact ⟨by simp; omega, rfl⟩
      · go_wp2_with fail
        go_meet
        case rel => exact ⟨by simp; omega, rfl⟩
    case rest =>
    obtain ⟨rfl, rfl⟩ := hcut
    go_upto_if 49 with (fail)
    go_cut [10] (fun v wd => v = .int .i64 (stateOf xs d) ∧ wd = wc)
    case first =>
      by_cases h0 : 0 ≤ d ∧ d < (n : Int)
      · obtain ⟨k, rfl⟩ := Int.eq_ofNat_of_zero_le h0.1
        have hk : k < n := by omega
        obtain ⟨b, o, x, rfl, hb, hx, _, e0, _⟩ := (HXZ.out wc (by first | exact HBY.out | exact Below.refl _ _)).at_ hk
        have HX := mkHid (HSG.out (by omega) (by omega))
        rw [Int.toNat_natCast, hx] at HX
        have hk0 : (0 : Int) ≤ k := by omega
        clear hx
        go_wp2_with fail
        go_meet
        case rel => exact ⟨by rw [HX.out]; rfl, rfl⟩
      · have HX := mkHid (HSO.out h0)
        go_wp2_with fail
        go_meet
        case rel => exact ⟨by rw [HX.out], rfl⟩
    case rest =>
    obtain ⟨rfl, rfl⟩ := hcut
    clear HSG HSO
    have HST := mkHid (show ∀ Z, Below W.heap.size W Z → Calls Try.prog 15 #[.agg #[.slice A0 n c0], .int .i64 d] Z (fun e w' => e = .returned (.int .i64 (stateOf xs d)) ∧ Below Z.heap.size Z w') from fun Z hZ => state_any A0 n c0 xs d Z (HES.out.next hZ) HCAP.out HD.out)
    have HOF := mkHid (show ∀ Z, Below W.heap.size W Z → Calls Try.prog 12 #[.slice a' n' c'] Z (RetO Z ys) from fun Z hZ => of_any a' n' c' ys Z (HYZ.out Z hZ) HC'.out (by omega))
    have HSA := mkHid (show ∀ Z, Below W.heap.size W Z → Calls Try.prog 27 #[.agg #[.slice A0 n c0], .agg #[.slice A0 n c0]] Z (fun e w' => e = .returned (.bool true) ∧ Below Z.heap.size Z w') from fun Z hZ => (rosSame_any A0 n c0 xs A0 n c0 xs Z (HES.out.next hZ) HCAP.out (HES.out.next hZ) HCAP.out).mono fun e w' h => by rw [HR.out] at h; simpa using h)
    generalize stateOf xs d = SV at *
    have e1 : (SV != SV) = false := by simp
    have e2 : (EQ != EQ) = false := by simp
    go_wp2_with fail
    have hky := HK.out wc (by first | exact HBY.out | exact Below.refl _ _)
    go_region_held3 (fun Z => Z.cell? ⟨w1.heap.size, 0, none⟩ = some (.slice A0 n c0)) (first | exact hky | exact HK.out _ (by first | exact HBY.out | exact HBY.out.drew | exact (Below.refl _ _).drew | exact Below.refl _ _)) (first
      | (go_at_call 15; (with_reducible refine (HST.out _ (by first | exact HBY.out | exact HBY.out.drew | exact (Below.refl _ _).drew | exact Below.refl _ _)).mono ?_); rintro e wy ⟨rfl, hby⟩; have HBY := mkHid (below_next (show Below W.heap.size W _ from (by first | exact HBY.out | exact HBY.out.drew | exact (Below.refl _ _).drew | exact Below.refl _ _)) hby); have hky := HK.out _ HBY.out; clear hby)
      | (go_at_call 12; (with_reducible refine (HOF.out _ (by first | exact HBY.out | exact HBY.out.drew | exact (Below.refl _ _).drew | exact Below.refl _ _)).mono ?_); rintro e wy ⟨Ay, Cy, rfl, hesy, hcapy, hby⟩; have HBY := mkHid (below_next (show Below W.heap.size W _ from (by first | exact HBY.out | exact HBY.out.drew | exact (Below.refl _ _).drew | exact Below.refl _ _)) hby); have hky := HK.out _ HBY.out; have HESY := mkHid hesy; have HCAPY := mkHid hcapy; clear hby hesy hcapy)
      | (go_at_call 27; (with_reducible refine (HSA.out _ (by first | exact HBY.out | exact HBY.out.drew | exact (Below.refl _ _).drew | exact Below.refl _ _)).mono ?_); rintro e wy ⟨rfl, hby⟩; have HBY := mkHid (below_next (show Below W.heap.size W _ from (by first | exact HBY.out | exact HBY.out.drew | exact (Below.refl _ _).drew | exact Below.refl _ _)) hby); have hky := HK.out _ HBY.out; clear hby)
      | (go_at_call 27; refine (rosSame_any A0 n c0 xs Ay ys.length Cy ys _ (HES.out.next (by first | exact HBY.out | exact HBY.out.drew | exact (Below.refl _ _).drew | exact Below.refl _ _)) HCAP.out (by first | exact HESY.out | exact HESY.out.next (Below.refl _ _).drew) HCAPY.out).mono ?_; rintro e wy ⟨rfl, hby⟩; rw [HR.out, Bool.true_and, HEQ.out]; have HBY := mkHid (below_next (show Below W.heap.size W _ from (by first | exact HBY.out | exact HBY.out.drew | exact (Below.refl _ _).drew | exact Below.refl _ _)) hby); have hky := HK.out _ HBY.out; clear hby))
    have HBF := mkHid HBY.out
    have c7 := HK.out wy HBF.out
    clear e1 e2 hky HST HOF HSA HEQ
    go_wp2_with fail
    refine (bytes_yes A0 n c0 xs wy (HES.out.next HBF.out) HCAP.out HR.out).mono ?_
    rintro e w3 ⟨A3, n3, C3, rfl, hbs3, hcap3, hb3⟩
    rw [errV_no]
    have HB3 := mkHid (below_next HBF.out hb3)
    have HBS3 := mkHid hbs3
    obtain ⟨hcap31, hcap32, hcap33⟩ := hcap3
    clear hbs3 hb3 c7
    have c7 := HK.out w3 HB3.out
    go_wp2_with fail
    refine (rbytes_any a n c xs w3 (HXZ.out _ HB3.out) HC.out HR.out).mono ?_
    rintro e w4 ⟨A4, n4, C4, rfl, ho4, hb4⟩
    have HBS4 := mkHid (show BS w4 w4.heap.size A4 n4 (rosBytes xs) from ⟨SL.of_own ho4, HBS3.out.2⟩)
    have HBS34 := mkHid ((HBS3.out.below hb4).more hb4.size)
    have HB4 := mkHid (below_next HB3.out hb4)
    clear ho4 hb4 c7
    have c7 := HK.out w4 HB4.out
    go_wp2_with fail
    refine (bsame_any A3 A4 n3 n4 C3 C4 _ _ _ _ w4 HBS34.out HBS4.out).mono ?_
    rintro e w' ⟨rfl, rfl⟩
    rw [decide_eq_true rfl]
    go_wp2_with fail
    refine (room_any A0 n c0 xs w4 (HES.out.next HB4.out) HCAP.out).mono ?_
    rintro e w5 ⟨rfl, hb5⟩
    have HB5 := mkHid (below_next HB4.out hb5)
    clear hb5 c7
    go_wp2_with fail
    refine (rroom_any a n c xs w5 (HXZ.out _ HB5.out) HC.out HR.out).mono ?_
    rintro e w' ⟨rfl, rfl⟩
    generalize roomOf xs = RM
    have e3 : (RM != RM) = false := by simp
    obtain ⟨LM, hLM⟩ : ∃ L, thoseOf memberB xs = L := ⟨_, rfl⟩
    obtain ⟨M, hM⟩ : ∃ M, LM.length = M := ⟨_, rfl⟩
    obtain ⟨LA, hLA⟩ : ∃ L, thoseOf activeB xs = L := ⟨_, rfl⟩
    obtain ⟨N, hN⟩ : ∃ M, LA.length = M := ⟨_, rfl⟩
    have HEM := mkHid (show ∀ q, q < M → ∃ (j : Nat) (x : Int × Int), LM[q]? = some (j : Int) ∧ xs[j]? = some x ∧ j < n ∧ memberB x = true ∧ (0 < q → ∃ i : Nat, LM[q - 1]? = some (i : Int) ∧ i < j) from fun q hq => by
      subst hLM
      have := those_each memberB xs (q := q) (by omega)
      rw [HL.out] at this
      exact this)
    have HEA := mkHid (show ∀ q, q < N → ∃ (j : Nat) (x : Int × Int), LA[q]? = some (j : Int) ∧ xs[j]? = some x ∧ j < n ∧ activeB x = true ∧ (0 < q → ∃ i : Nat, LA[q - 1]? = some (i : Int) ∧ i < j) from fun q hq => by
      subst hLA
      have := those_each activeB xs (q := q) (by omega)
      rw [HL.out] at this
      exact this)
    obtain ⟨K3, hK3⟩ : ∃ K, countOf xs 3 = K := ⟨_, rfl⟩
    have h3 : (M : Int) = n - K3 := by
      rw [← hM, ← hLM, those_len HR.out, ← hK3]
      have := filter_member xs (rightL_ok HR.out).2
      rw [HL.out] at this
      exact this
    have h30 : 0 ≤ K3 := by rw [← hK3]; unfold countOf; omega
    have HK3 := mkHid hK3
    have HA1 := mkHid (show countOf xs 1 = (N : Int) by rw [count_active, ← those_len HR.out, hLA, hN])
    have hn8 : n ≤ 8 := by have := (rightL_ok HR.out).1; have := HL.out; omega
    have hN8 : N ≤ 8 := by
      have h1 := HA1.out
      unfold countOf at h1
      have h2 := List.length_filter_le (fun x : Int × Int => x.1 == 1) xs
      have := HL.out
      omega
    have HMEM := mkHid (show ∀ Z, Below W.heap.size W Z → Calls Try.prog 28 #[.agg #[.slice A0 n c0]] Z (fun e w' => ∃ A C, e = .returned (.slice A M C) ∧ IS w' w'.heap.size A M LM ∧ CapOk M C ∧ Below Z.heap.size Z w') from fun Z hZ => by
      have h := members_any A0 n c0 xs Z (HES.out.next hZ) HCAP.out
      rw [hLM] at h
      unfold RetI at h
      rw [hM] at h
      exact h)
    have HACT := mkHid (show ∀ Z, Below W.heap.size W Z → Calls Try.prog 21 #[.agg #[.slice A0 n c0]] Z (fun e w' => ∃ A C, e = .returned (.slice A N C) ∧ IS w' w'.heap.size A N LA ∧ CapOk N C ∧ Below Z.heap.size Z w') from fun Z hZ => by
      have h := actives_any A0 n c0 xs Z (HES.out.next hZ) HCAP.out
      rw [hLA] at h
      unfold RetI at h
      rw [hN] at h
      exact h)
    clear hLM hM hLA hN hK3
    have e4 : IntKind.i64.wrap ((n : Int) - K3) = n - K3 := IntWalk.i64_in _ (by omega)
    have e5 : ((M : Int) != (n : Int) - K3) = false := by simp; omega
    have e6 : ((N : Int) != (N : Int)) = false := by simp
    clear h3
    go_wp2_with fail
    clear HBY
    have HBY := HB5
    have hky := HK.out w5 HB5.out
    go_region_held3 (fun Z => Z.cell? ⟨w1.heap.size, 0, none⟩ = some (.slice A0 n c0)) (first | exact hky | exact HK.out _ (by first | exact HBY.out | exact HBY.out.drew | exact (Below.refl _ _).drew | exact Below.refl _ _)) (first
      | (go_at_call 28; (with_reducible refine (HMEM.out _ (by first | exact HBY.out | exact HBY.out.drew | exact (Below.refl _ _).drew | exact Below.refl _ _)).mono ?_); rintro e wy ⟨Am, Cm, rfl, him, hcm, hby⟩; have HBY := mkHid (below_next (show Below W.heap.size W _ from (by first | exact HBY.out | exact HBY.out.drew | exact (Below.refl _ _).drew | exact Below.refl _ _)) hby); have hky := HK.out _ HBY.out; have HIM := mkHid him; obtain ⟨hcm1, hcm2, hcm3⟩ := hcm; clear hby him)
      | (go_at_call 21; (with_reducible refine (HACT.out _ (by first | exact HBY.out | exact HBY.out.drew | exact (Below.refl _ _).drew | exact Below.refl _ _)).mono ?_); rintro e wz ⟨Aa, Ca, rfl, hia, hca, hby⟩; have HIM2 := mkHid (show IS wz wz.heap.size Am M LM from (IS.below (by exact HIM.out) hby).more hby.size); have HBY := mkHid (below_next (show Below W.heap.size W _ from (by first | exact HBY.out | exact HBY.out.drew | exact (Below.refl _ _).drew | exact Below.refl _ _)) hby); have hky := HK.out _ HBY.out; have HIA := mkHid hia; obtain ⟨hca1, hca2, hca3⟩ := hca; clear hby hia))
    have HBZ := mkHid HBY.out
    clear hky HMEM HACT HIM e3
    go_wp2_with fail
    refine (count_any a n c xs 3 wz (HXZ.out _ HBZ.out) HC.out).mono ?_
    rintro e w' ⟨rfl, rfl⟩
    rw [HK3.out]
    go_wp2_with fail
    refine (count_any a n c xs 1 wz (HXZ.out _ HBZ.out) HC.out).mono ?_
    rintro e w' ⟨rfl, rfl⟩
    rw [HA1.out]
    go_wp2_with fail
    go_loopw [146] (fun i wr => ∃ q : Nat, q ≤ M ∧ i = .int .i64 q ∧ wz = wr) (fun i _ => M - (intOf i).toNat)
    case atStart => exact ⟨0, Nat.zero_le _, rfl, rfl⟩
    case round =>
    obtain ⟨q, hq, rfl, rfl⟩ := hrel
    by_cases hlt : q < M
    · obtain ⟨j, x, hl, hx, hjn, hp, hprev⟩ := HEM.out q hlt
      obtain ⟨b, o, rfl, hb, hcm, _⟩ := HIM2.out.at_ hlt
      rw [hl] at hcm
      simp only [Option.getD_some] at hcm
      obtain ⟨b2, o2, x2, rfl, hb2, hx2, _, hcx, _⟩ := (HXZ.out _ HBZ.out).at_ hjn
      obtain rfl : x = x2 := by rw [hx] at hx2; exact Option.some.inj hx2
      have hp3 : (x.1 == 3) = false := by unfold memberB at hp; simp at hp ⊢; omega
      clear hl hx hx2 hp
      obtain ⟨x1, xs2⟩ := x
      simp only at hcx hp3
      have hj0 : (0 : Int) ≤ j := by omega
      have hjn' : (j : Int) < n := by omega
      by_cases h0 : 0 < q
      · obtain ⟨i, hi, hij⟩ := hprev h0
        obtain ⟨p, hqp⟩ : ∃ p, q = p + 1 := ⟨q - 1, by omega⟩
        obtain ⟨b3, o3, ha3, _, hcp, _⟩ := HIM2.out.at_ (j := p) (by omega)
        injection ha3 with ha3
        injection ha3 with g1 g2
        subst g1 g2
        rw [show p = q - 1 by omega, hi] at hcp
        simp only [Option.getD_some] at hcp
        rw [show q - 1 = p by omega] at hcp
        have hq0 : (0 : Int) < q := by omega
        have e8 : IntKind.i64.wrap ((q : Int) - 1) = (p : Int) := by rw [IntWalk.i64_in _ (by omega)]; omega
        have hij' : (i : Int) < j := by omega
        have hpM : p < M := by omega
        clear hi hprev hqp
        go_wp2_with fail
        go_roundw
        case measure => simp [intOf]; omega
        case rel => exact ⟨q + 1, by omega, by go_num, by trivial⟩
      · have hq0 : (q : Int) ≤ 0 := by omega
        have hq1 : decide ((0 : Int) < q) = false := by simp; omega
        clear hprev
        go_wp2_with fail
        go_roundw
        case measure => simp [intOf]; omega
        case rel => exact ⟨q + 1, by omega, by go_num, by trivial⟩
    · obtain rfl : q = M := by omega
      skip
      go_wp2_with fail
      go_loopw [183] (fun i wr => ∃ q : Nat, q ≤ N ∧ i = .int .i64 q ∧ wz = wr) (fun i _ => N - (intOf i).toNat)
      case atStart => exact ⟨0, Nat.zero_le _, rfl, rfl⟩
      case round =>
      obtain ⟨q, hq, rfl, rfl⟩ := hrel
      by_cases hlt : q < N
      · obtain ⟨j, x, hl, hx, hjn, hp, hprev⟩ := HEA.out q hlt
        obtain ⟨b, o, rfl, hb, hcm, _⟩ := HIA.out.at_ hlt
        rw [hl] at hcm
        simp only [Option.getD_some] at hcm
        obtain ⟨b2, o2, x2, rfl, hb2, hx2, _, hcx, _⟩ := (HXZ.out _ HBZ.out).at_ hjn
        obtain rfl : x = x2 := by rw [hx] at hx2; exact Option.some.inj hx2
        have hp3 : (x.1 != 1) = false := by unfold activeB at hp; simpa using hp
        clear hl hx hx2 hp
        obtain ⟨x1, xs2⟩ := x
        simp only at hcx hp3
        have hj0 : (0 : Int) ≤ j := by omega
        have hjn' : (j : Int) < n := by omega
        by_cases h0 : 0 < q
        · obtain ⟨i, hi, hij⟩ := hprev h0
          obtain ⟨p, hqp⟩ : ∃ p, q = p + 1 := ⟨q - 1, by omega⟩
          obtain ⟨b3, o3, ha3, _, hcp, _⟩ := HIA.out.at_ (j := p) (by omega)
          injection ha3 with ha3
          injection ha3 with g1 g2
          subst g1 g2
          rw [show p = q - 1 by omega, hi] at hcp
          simp only [Option.getD_some] at hcp
          rw [show q - 1 = p by omega] at hcp
          have hq0 : (0 : Int) < q := by omega
          have e8 : IntKind.i64.wrap ((q : Int) - 1) = (p : Int) := by rw [IntWalk.i64_in _ (by omega)]; omega
          have hij' : (i : Int) < j := by omega
          have hpM : p < N := by omega
          clear hi hprev hqp
          go_wp2_with fail
          go_roundw
          case measure => simp [intOf]; omega
          case rel => exact ⟨q + 1, by omega, by go_num, by trivial⟩
        · have hq0 : (q : Int) ≤ 0 := by omega
          have hq1 : decide ((0 : Int) < q) = false := by simp; omega
          clear hprev
          go_wp2_with fail
          go_roundw
          case measure => simp [intOf]; omega
          case rel => exact ⟨q + 1, by omega, by go_num, by trivial⟩
      · obtain rfl : q = N := by omega
        skip
        go_wp2_with fail
        refine (awake_any _).mono ?_
        rintro e wf ⟨rfl, hbf⟩
        go_wp2_with fail
        go_ret
        exact ⟨rfl, HBW.out.trans ((below_next HBZ.out hbf).mono HBW.out.size)⟩

set_option maxRecDepth 20000 in
set_option maxHeartbeats 8000000 in
theorem rosterTells_no (a : Option Addr) (n c : Nat) (xs : List (Int × Int)) (a' : Option Addr) (n' c' : Nat) (ys : List (Int × Int)) (d : Int) (w : World) (hs : ES w w.heap.size a n xs) (hc : CapOk n c) (hs' : ES w w.heap.size a' n' ys) (hc' : CapOk n' c') (hd : I64 d) (hr : rightL xs = false) :
    Calls Try.prog 7 #[.slice a n c, .slice a' n' c', .int .i64 d] w fun e w' => e = .returned (.bool true) ∧ Below w.heap.size w w' := by
  have HS := mkHid hs
  have HL := mkHid hs.len
  have HC := mkHid hc
  have HS' := mkHid hs'
  have HL' := mkHid hs'.len
  have HC' := mkHid hc'
  have HD := mkHid hd
  have HR := mkHid hr
  obtain ⟨hd0, hd1⟩ := hd
  obtain ⟨hc1, hc2, hc3⟩ := hc
  obtain ⟨hc1', hc2', hc3'⟩ := hc'
  clear hs hs' hr
  by_cases hn1 : 100 < n
  · go_enter Try.func7, Try.ntmps7
    go_wp2_with fail
    refine (awake_any _).mono ?_
    rintro e w1 ⟨rfl, hb1⟩
    go_wp2_with fail
    go_ret
    exact ⟨rfl, hb1⟩
  by_cases hn2 : 100 < n'
  · go_enter Try.func7, Try.ntmps7
    go_wp2_with fail
    refine (awake_any _).mono ?_
    rintro e w1 ⟨rfl, hb1⟩
    go_wp2_with fail
    go_ret
    exact ⟨rfl, hb1⟩
  go_enter Try.func7, Try.ntmps7
  go_wp2_with fail
  refine (of_any a n c xs w HS.out HC.out (by omega)).mono ?_
  rintro e w1 ⟨A0, c0, rfl, hes0, hcap0, hb1⟩
  rw [HL.out] at hes0 hcap0 ⊢
  obtain ⟨W, hW⟩ : ∃ W, w1.alloc (.cells #[.slice A0 n c0] 27) = W := ⟨_, rfl⟩
  have hal : Below w1.heap.size w1 W := by rw [← hW]; exact (Below.refl _ _).alloc (Nat.le_refl _) _
  have hq0 : W.heap[w1.heap.size]? = some (.cells #[.slice A0 n c0] 27) := by rw [← hW]; exact heap_alloc_new _ _
  have HES := mkHid (hes0.next hal)
  have HCAP := mkHid hcap0
  have HBW := mkHid (hb1.trans (hal.mono hb1.size))
  have HK := mkHid (show ∀ Z, Below W.heap.size W Z → Z.cell? ⟨w1.heap.size, 0, none⟩ = some (.slice A0 n c0) from fun Z hZ => cell_of_row Z w1.heap.size 0 _ _ _ ((hZ.block _ (Array.getElem?_eq_some_iff.1 hq0).1).trans hq0))
  have HXZ := mkHid (show ∀ Z, Below W.heap.size W Z → ES Z Z.heap.size a n xs from fun Z hZ => HS.out.next (HBW.out.trans (hZ.mono HBW.out.size)))
  have HYZ := mkHid (show ∀ Z, Below W.heap.size W Z → ES Z Z.heap.size a' n' ys from fun Z hZ => HS'.out.next (HBW.out.trans (hZ.mono HBW.out.size)))
  clear hes0 hal hcap0 hb1 hq0
  have HSG := mkHid (show 0 ≤ d → d < (n : Int) → stateOf xs d = (xs[d.toNat]?.getD (0, 0)).1 from fun h1 h2 => if_neg (by rw [HL.out]; omega))
  have HSO := mkHid (show ¬ (0 ≤ d ∧ d < (n : Int)) → stateOf xs d = 0 from fun h => if_pos (by rw [HL.out]; omega))
  go_wp2_with fail
  refine (rright_any a n c xs W (HXZ.out _ (Below.refl _ _)) HC.out).mono ?_
  clear hW
  rintro e w' ⟨rfl, rfl⟩
  rw [HR.out]
  have c7 := HK.out W (Below.refl _ _)
  have HBY := mkHid (show Below W.heap.size W W from Below.refl _ _)
  clear c7
  go_upto_region 7 with (fail)
  go_cut [49] (fun v wd => v = .bool (decide (0 ≤ d ∧ d < (n : Int))) ∧ W = wd)
  case first =>
    by_cases h0 : 0 ≤ d
    · by_cases h1 : d < (n : Int)
      · go_wp2_with fail
        go_meet
        case rel => exact ⟨by simp; omega, rfl⟩
      · go_wp2_with fail
        go_meet
        case rel => exact ⟨by simp; omega, rfl⟩
    · go_wp2_with fail
      go_meet
      case rel => exact ⟨by simp; omega, rfl⟩
  case rest =>
  obtain ⟨rfl, rfl⟩ := hcut
  go_upto_if 49 with (fail)
  go_cut [10] (fun v wd => v = .int .i64 (stateOf xs d) ∧ W = wd)
  case first =>
    by_cases h0 : 0 ≤ d ∧ d < (n : Int)
    · obtain ⟨k, rfl⟩ := Int.eq_ofNat_of_zero_le h0.1
      have hk : k < n := by omega
      obtain ⟨b, o, x, rfl, hb, hx, _, e0, _⟩ := (HXZ.out W (by first | exact HBY.out | exact Below.refl _ _)).at_ hk
      have HX := mkHid (HSG.out (by omega) (by omega))
      rw [Int.toNat_natCast, hx] at HX
      have hk0 : (0 : Int) ≤ k := by omega
      clear hx
      go_wp2_with fail
      go_meet
      case rel => exact ⟨by rw [HX.out]; rfl, rfl⟩
    · have HX := mkHid (HSO.out h0)
      go_wp2_with fail
      go_meet
      case rel => exact ⟨by rw [HX.out], rfl⟩
  case rest =>
  obtain ⟨rfl, rfl⟩ := hcut
  clear HSG HSO
  have HST := mkHid (show ∀ Z, Below W.heap.size W Z → Calls Try.prog 15 #[.agg #[.slice A0 n c0], .int .i64 d] Z (fun e w' => e = .returned (.int .i64 (stateOf xs d)) ∧ Below Z.heap.size Z w') from fun Z hZ => state_any A0 n c0 xs d Z (HES.out.next hZ) HCAP.out HD.out)
  have HOF := mkHid (show ∀ Z, Below W.heap.size W Z → Calls Try.prog 12 #[.slice a' n' c'] Z (RetO Z ys) from fun Z hZ => of_any a' n' c' ys Z (HYZ.out Z hZ) HC'.out (by omega))
  have HSA := mkHid (show ∀ Z, Below W.heap.size W Z → Calls Try.prog 27 #[.agg #[.slice A0 n c0], .agg #[.slice A0 n c0]] Z (fun e w' => e = .returned (.bool false) ∧ Below Z.heap.size Z w') from fun Z hZ => (rosSame_any A0 n c0 xs A0 n c0 xs Z (HES.out.next hZ) HCAP.out (HES.out.next hZ) HCAP.out).mono fun e w' h => by rw [HR.out] at h; simpa using h)
  generalize stateOf xs d = SV at *
  have e1 : (SV != SV) = false := by simp
  go_wp2_with fail
  have hky := HK.out W (by first | exact HBY.out | exact Below.refl _ _)
  go_region_held3 (fun Z => Z.cell? ⟨w1.heap.size, 0, none⟩ = some (.slice A0 n c0)) (first | exact hky | exact HK.out _ (by first | exact HBY.out | exact HBY.out.drew | exact (Below.refl _ _).drew | exact Below.refl _ _)) (first
    | (go_at_call 15; (with_reducible refine (HST.out _ (by first | exact HBY.out | exact HBY.out.drew | exact (Below.refl _ _).drew | exact Below.refl _ _)).mono ?_); rintro e wy ⟨rfl, hby⟩; have HBY := mkHid (below_next (show Below W.heap.size W _ from (by first | exact HBY.out | exact HBY.out.drew | exact (Below.refl _ _).drew | exact Below.refl _ _)) hby); have hky := HK.out _ HBY.out; clear hby)
    | (go_at_call 12; (with_reducible refine (HOF.out _ (by first | exact HBY.out | exact HBY.out.drew | exact (Below.refl _ _).drew | exact Below.refl _ _)).mono ?_); rintro e wy ⟨Ay, Cy, rfl, hesy, hcapy, hby⟩; have HBY := mkHid (below_next (show Below W.heap.size W _ from (by first | exact HBY.out | exact HBY.out.drew | exact (Below.refl _ _).drew | exact Below.refl _ _)) hby); have hky := HK.out _ HBY.out; have HESY := mkHid hesy; have HCAPY := mkHid hcapy; clear hby hesy hcapy)
    | (go_at_call 27; (with_reducible refine (HSA.out _ (by first | exact HBY.out | exact HBY.out.drew | exact (Below.refl _ _).drew | exact Below.refl _ _)).mono ?_); rintro e wy ⟨rfl, hby⟩; have HBY := mkHid (below_next (show Below W.heap.size W _ from (by first | exact HBY.out | exact HBY.out.drew | exact (Below.refl _ _).drew | exact Below.refl _ _)) hby); have hky := HK.out _ HBY.out; clear hby)
    | (go_at_call 27; refine (rosSame_any A0 n c0 xs Ay ys.length Cy ys _ (HES.out.next (by first | exact HBY.out | exact HBY.out.drew | exact (Below.refl _ _).drew | exact Below.refl _ _)) HCAP.out (by first | exact HESY.out | exact HESY.out.next (Below.refl _ _).drew) HCAPY.out).mono ?_; rintro e wy ⟨rfl, hby⟩; rw [HR.out, Bool.false_and]; have HBY := mkHid (below_next (show Below W.heap.size W _ from (by first | exact HBY.out | exact HBY.out.drew | exact (Below.refl _ _).drew | exact Below.refl _ _)) hby); have hky := HK.out _ HBY.out; clear hby))
  have HBF := mkHid HBY.out
  have c7 := HK.out wy HBF.out
  clear e1 hky HST HOF HSA
  go_wp2_with fail
  refine (bytes_no A0 n c0 xs wy (HES.out.next HBF.out) HCAP.out HR.out).mono ?_
  rintro e w3 ⟨A3, n3, C3, rfl, hbs3, hcap3, hb3⟩
  rw [errV_of (by omega)]
  have hn3 : n3 = 0 := hbs3.len.symm
  subst hn3
  have HB3 := mkHid (below_next HBF.out hb3)
  clear hbs3 hb3 hcap3 c7
  have c7 := HK.out w3 HB3.out
  go_wp2_with fail
  refine (is_code 14 14 _).mono ?_
  rintro e w' ⟨rfl, rfl⟩
  rw [show ((14 : Int) != 0 && (14 : Int) == 14) = true from rfl]
  go_wp2_with fail
  refine (members_any A0 n c0 xs w3 (HES.out.next HB3.out) HCAP.out).mono ?_
  rintro e w4 ⟨A4, C4, rfl, _, _, hb4⟩
  rw [show thoseOf memberB xs = [] from if_neg (by rw [HR.out]; decide)]
  simp only [List.length_nil]
  have HB4 := mkHid (below_next HB3.out hb4)
  clear hb4 c7
  have c7 := HK.out w4 HB4.out
  go_wp2_with fail
  refine (actives_any A0 n c0 xs w4 (HES.out.next HB4.out) HCAP.out).mono ?_
  rintro e w5 ⟨A5, C5, rfl, _, _, hb5⟩
  rw [show thoseOf activeB xs = [] from if_neg (by rw [HR.out]; decide)]
  simp only [List.length_nil]
  have HB5 := mkHid (below_next HB4.out hb5)
  clear hb5 c7
  have c7 := HK.out w5 HB5.out
  go_wp2_with fail
  refine (room_any A0 n c0 xs w5 (HES.out.next HB5.out) HCAP.out).mono ?_
  rintro e w6 ⟨rfl, hb6⟩
  rw [show roomOf xs = 0 by unfold roomOf; rw [show thoseOf memberB xs = [] from if_neg (by rw [HR.out]; decide)]; rfl]
  have HB6 := mkHid (below_next HB5.out hb6)
  clear hb6 c7
  go_wp2_with fail
  refine (awake_any _).mono ?_
  rintro e wf ⟨rfl, hbf⟩
  go_wp2_with fail
  go_ret
  exact ⟨rfl, HBW.out.trans ((below_next HB6.out hbf).mono HBW.out.size)⟩

theorem rosterTells_any (a : Option Addr) (n c : Nat) (xs : List (Int × Int)) (a' : Option Addr) (n' c' : Nat) (ys : List (Int × Int)) (d : Int) (w : World) (hs : ES w w.heap.size a n xs) (hc : CapOk n c) (hs' : ES w w.heap.size a' n' ys) (hc' : CapOk n' c') (hd : I64 d) :
    Calls Try.prog 7 #[.slice a n c, .slice a' n' c', .int .i64 d] w fun e w' => e = .returned (.bool true) ∧ Below w.heap.size w w' := by
  cases hr : rightL xs with
  | true => exact rosterTells_yes a n c xs a' n' c' ys d w hs hc hs' hc' hd hr
  | false => exact rosterTells_no a n c xs a' n' c' ys d w hs hc hs' hc' hd hr


end Go.Proofs.Ytlpgeocoddehgaa
