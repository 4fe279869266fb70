/- portagelaw05.RosterForms answers true. -/
import Derived.Test.YtlpgeocoddehgaaRosV
namespace Go.Proofs.Ytlpgeocoddehgaa
open Go.RowKit Go.Shelf

set_option maxRecDepth 20000 in
set_option maxHeartbeats 4000000 in
theorem rosterForms_any (a : Option Addr) (n c : Nat) (xs : List (Int × Int)) (cut : Int) (w : World) (hs : ES w w.heap.size a n xs) (hc : CapOk n c) (hd : I64 cut) :
    Calls Try.prog 9 #[.slice a n c, .int .i64 cut] w fun e w' => e = .returned (.bool true) ∧ Below w.heap.size w w' := by
  have HS := mkHid hs
  have HL := mkHid hs.len
  have HC := mkHid hc
  obtain ⟨hd0, hd1⟩ := hd
  obtain ⟨hc1, hc2, hc3⟩ := hc
  clear hs
  cases hr : rightL xs with
  | false =>
    have HR := mkHid hr
    have HTH := mkHid (show ∀ p, thoseOf p xs = [] from fun p => by unfold thoseOf; rw [if_neg (by rw [hr]; decide)])
    have HRO := mkHid (show roomOf xs = 0 by unfold roomOf; rw [HTH.out]; rfl)
    clear hr
    by_cases h100 : 100 < n
    · go_enter Try.func9, Try.ntmps9
      go_wp2_with fail
      refine (rright_any a n c xs w HS.out HC.out).mono ?_
      rintro e w' ⟨rfl, rfl⟩
      rw [HR.out]
      go_wp2_with fail
      refine (awake_any _).mono ?_
      rintro e w1 ⟨rfl, hb1⟩
      go_wp2_with fail
      go_ret
      exact ⟨rfl, hb1⟩
    · go_enter Try.func9, Try.ntmps9
      go_wp2_with fail
      refine (rright_any a n c xs w HS.out HC.out).mono ?_
      rintro e w' ⟨rfl, rfl⟩
      rw [HR.out]
      go_wp2_with fail
      refine (of_any a n c xs w HS.out HC.out (by omega)).mono ?_
      rintro e w1 ⟨A0, c0, rfl, hes0, hcap0, hb1⟩
      rw [HL.out] at hes0 hcap0 ⊢
      obtain ⟨W, hW⟩ : ∃ W, w1.alloc (.cells #[.slice A0 n c0] 27) = W := ⟨_, rfl⟩
      have hal : Below w1.heap.size w1 W := by rw [← hW]; exact (Below.refl _ _).alloc (Nat.le_refl _) _
      have hq0 : W.heap[w1.heap.size]? = some (.cells #[.slice A0 n c0] 27) := by rw [← hW]; exact heap_alloc_new _ _
      have HES := mkHid (hes0.next hal)
      have HCAP := mkHid hcap0
      have HBW := mkHid (hb1.trans (hal.mono hb1.size))
      have HK := mkHid (show ∀ Z, Below W.heap.size W Z → Z.cell? ⟨w1.heap.size, 0, none⟩ = some (.slice A0 n c0) from fun Z hZ => cell_of_row Z w1.heap.size 0 _ _ _ ((hZ.block _ (Array.getElem?_eq_some_iff.1 hq0).1).trans hq0))
      have c7 := HK.out W (Below.refl _ _)
      clear hes0 hal hcap0 hb1 hq0
      go_wp2_with fail
      clear hW c7
      refine (bytes_no A0 n c0 xs W HES.out HCAP.out HR.out).mono ?_
      rintro e w2 ⟨A2, n2, c2, rfl, hbs2, _, hb2⟩
      obtain rfl : n2 = 0 := hbs2.len.symm
      rw [errV_of (by omega)]
      have HBY := mkHid hb2
      have c7 := HK.out w2 HBY.out
      clear hbs2 hb2
      go_wp2_with fail
      refine (check_no A0 n c0 xs w2 (HES.out.next HBY.out) HCAP.out HR.out).mono ?_
      clear c7
      rintro e w3 ⟨rfl, hby⟩
      have HBY := mkHid (below_next HBY.out hby)
      clear hby
      go_wp2_with fail
      refine (is_code 14 14 _).mono ?_
      rintro e w' ⟨rfl, rfl⟩
      rw [show ((14 : Int) != 0 && (14 : Int) == 14) = true from rfl]
      go_wp2_with fail
      refine (is_code 14 14 _).mono ?_
      rintro e w' ⟨rfl, rfl⟩
      rw [show ((14 : Int) != 0 && (14 : Int) == 14) = true from rfl]
      have c7 := HK.out w3 HBY.out
      go_wp2_with fail
      refine (members_any A0 n c0 xs w3 (HES.out.next HBY.out) HCAP.out).mono ?_
      clear c7
      rintro e w4 ⟨A4, c4, rfl, _, _, hby⟩
      rw [HTH.out]
      simp only [List.length_nil]
      have HBY := mkHid (below_next HBY.out hby)
      clear hby
      have c7 := HK.out w4 HBY.out
      go_wp2_with fail
      refine (room_any A0 n c0 xs w4 (HES.out.next HBY.out) HCAP.out).mono ?_
      clear c7
      rintro e w5 ⟨rfl, hby⟩
      rw [HRO.out]
      have HBY := mkHid (below_next HBY.out hby)
      clear hby
      have c7 := HK.out w5 HBY.out
      go_wp2_with fail
      refine (rosSame_any A0 n c0 xs A0 n c0 xs w5 (HES.out.next HBY.out) HCAP.out (HES.out.next HBY.out) HCAP.out).mono ?_
      clear c7
      rintro e w6 ⟨rfl, hby⟩
      rw [HR.out, Bool.false_and]
      have HBY := mkHid (below_next HBY.out hby)
      clear hby
      go_wp2_with fail
      refine (awake_any _).mono ?_
      rintro e w7 ⟨rfl, hb7⟩
      go_wp2_with fail
      go_ret
      exact ⟨rfl, HBW.out.trans ((below_next HBY.out hb7).mono HBW.out.size)⟩
  | true =>
    have hn8 : n ≤ 8 := by have := (rightL_ok hr).1; have := HL.out; omega
    have HR := mkHid hr
    have HRL := mkHid (rosBytes_len xs)
    clear hr
    go_enter Try.func9, Try.ntmps9
    go_wp2_with fail
    refine (rright_any a n c xs w HS.out HC.out).mono ?_
    rintro e w' ⟨rfl, rfl⟩
    rw [HR.out]
    go_wp2_with fail
    refine (of_any a n c xs w HS.out HC.out (by omega)).mono ?_
    rintro e w1 ⟨A0, c0, rfl, hes0, hcap0, hb1⟩
    rw [HL.out] at hes0 hcap0 ⊢
    have HES := mkHid hes0
    have HCAP := mkHid hcap0
    have HB1 := mkHid hb1
    clear hes0 hcap0 hb1
    go_wp2_with fail
    refine (bytes_yes A0 n c0 xs w1 HES.out HCAP.out HR.out).mono ?_
    rintro e w2 ⟨A2, m, c2, rfl, hbs2, hcap2, hb2⟩
    rw [errV_no]
    have hm : m = 1 + 3 * n := by rw [← hbs2.len, HRL.out, HL.out]
    obtain ⟨hm1, hm2, hm3⟩ := hcap2
    have HBS := mkHid hbs2
    have HB2 := mkHid (HB1.out.trans (hb2.mono HB1.out.size))
    have hm25 : m ≤ 25 := by omega
    have HM := mkHid hm
    clear hbs2 hb2 hm
    by_cases hneg : cut < 0
    · go_wp2_with fail
      refine (awake_any _).mono ?_
      rintro e w3 ⟨rfl, hb3⟩
      go_wp2_with fail
      go_ret
      exact ⟨rfl, HB2.out.trans (hb3.mono HB2.out.size)⟩
    by_cases hbig : (m : Int) ≤ cut
    · go_wp2_with fail
      refine (awake_any _).mono ?_
      rintro e w3 ⟨rfl, hb3⟩
      go_wp2_with fail
      go_ret
      exact ⟨rfl, HB2.out.trans (hb3.mono HB2.out.size)⟩
    obtain ⟨k, rfl⟩ := Int.eq_ofNat_of_zero_le (show 0 ≤ cut by omega)
    have hkm : k < m := by omega
    have hkc : k ≤ c2 := by omega
    go_wp2_with fail
    refine (parse_any A2 k k ((rosBytes xs).take k) w2 (HBS.out.take (by omega)) (by omega)).mono ?_
    rintro e w3 ⟨A3, c3, rfl, hes3, _, hb3⟩
    rw [parse_cut HR.out (by rw [HRL.out, HL.out]; have := HM.out; omega), errV_of (by omega)]
    simp only [List.length_nil]
    have HB3 := mkHid (HB2.out.trans ((hb3.alloc hb3.size (.cells #[.slice A3 0 c3] 27)).mono HB2.out.size))
    clear hes3 hb3
    go_wp2_with fail
    refine (is_code 14 14 _).mono ?_
    rintro e w' ⟨rfl, rfl⟩
    rw [show ((14 : Int) != 0 && (14 : Int) == 14) = true from rfl]
    go_wp2_with fail
    refine (awake_any _).mono ?_
    rintro e w4 ⟨rfl, hb4⟩
    go_wp2_with fail
    go_ret
    exact ⟨rfl, HB3.out.trans (hb4.mono HB3.out.size)⟩

end Go.Proofs.Ytlpgeocoddehgaa
