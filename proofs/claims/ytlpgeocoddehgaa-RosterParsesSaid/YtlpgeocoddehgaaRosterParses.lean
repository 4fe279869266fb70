/- portagelaw05.RosterParses answers true. -/
import Derived.Test.YtlpgeocoddehgaaRosW
import Derived.Deep.DeepCutAuto
import Derived.Deep.CutBlock
namespace Go.Proofs.Ytlpgeocoddehgaa
open Go.RowKit Go.Shelf

set_option maxRecDepth 20000 in
set_option maxHeartbeats 4000000 in
theorem rosterParses_any (a : Option Addr) (n c : Nat) (l : List Int) (a' : Option Addr) (n' c' : Nat) (xs : List (Int × Int)) (w : World) (hb : BS w w.heap.size a n l) (hcb : CapOk n c) (hs : ES w w.heap.size a' n' xs) (hc : CapOk n' c') :
    Calls Try.prog 8 #[.slice a n c, .slice a' n' c'] w fun e w' => e = .returned (.bool true) ∧ Below w.heap.size w w' := by
  have HB := mkHid hb
  have HLB := mkHid hb.len
  have HS := mkHid hs
  have HL := mkHid hs.len
  have HC := mkHid hc
  obtain ⟨hcb1, hcb2, hcb3⟩ := hcb
  obtain ⟨hc1, hc2, hc3⟩ := hc
  clear hb hs
  by_cases hn1 : 1000 < n
  · go_enter Try.func8, Try.ntmps8
    go_wp2_with fail
    refine (awake_any _).mono ?_
    rintro e w1 ⟨rfl, hb1⟩
    go_wp2_with fail
    go_ret
    exact ⟨rfl, hb1⟩
  by_cases hn2 : 100 < n'
  · go_enter Try.func8, Try.ntmps8
    go_wp2_with fail
    refine (awake_any _).mono ?_
    rintro e w1 ⟨rfl, hb1⟩
    go_wp2_with fail
    go_ret
    exact ⟨rfl, hb1⟩
  go_enter Try.func8, Try.ntmps8
  go_wp2_with fail
  refine (copy_any a n c l w HB.out (by omega)).mono ?_
  rintro e w1 ⟨A1, n1, C1, rfl, ho1, hb1⟩
  have hn : n1 = n := by have h1 := ho1.1; have h2 := HLB.out; rw [List.length_map] at h1; omega
  subst hn
  have HB1 := mkHid hb1
  have HO1 := mkHid ho1
  clear hb1 ho1
  go_wp2_with fail
  refine (parse_any A1 n1 C1 l w1 ⟨SL.of_own HO1.out, HB.out.2⟩ (by omega)).mono ?_
  rintro e w2 ⟨A2, C2, rfl, hes2, hcap2, hb2⟩
  generalize hP : parseOf l = P at *
  have HP := mkHid hP
  clear hP
  obtain ⟨W, hW⟩ : ∃ W, w2.alloc (.cells #[.slice A2 P.2.2.length C2] 27) = W := ⟨_, rfl⟩
  have hal : Below w2.heap.size w2 W := by rw [← hW]; exact (Below.refl _ _).alloc (Nat.le_refl _) _
  have hq : W.heap[w2.heap.size]? = some (.cells #[.slice A2 P.2.2.length C2] 27) := by rw [← hW]; exact heap_alloc_new _ _
  have HES2 := mkHid (hes2.next hal)
  have HCAP2 := mkHid hcap2
  have HBW := mkHid (HB1.out.trans ((hb2.trans (hal.mono hb2.size)).mono HB1.out.size))
  have HK := mkHid (show ∀ Z, Below W.heap.size W Z → Z.cell? ⟨w2.heap.size, 0, none⟩ = some (.slice A2 P.2.2.length C2) from fun Z hZ => cell_of_row Z w2.heap.size 0 _ _ _ ((hZ.block _ (Array.getElem?_eq_some_iff.1 hq).1).trans hq))
  clear hes2 hcap2 hb2 hal hq
  go_wp2_with fail
  refine (rparse_any a n1 c l W ((HB.out.below HBW.out).more HBW.out.size) (by omega) ⟨hcb1, hcb2⟩).mono ?_
  clear hW
  rintro e w3 ⟨A3, C3, rfl, hes3, hcap3, hb3⟩
  rw [HP.out] at hes3 hcap3 ⊢
  simp only at hes3 hcap3 ⊢
  have HES3 := mkHid hes3
  have HCAP3 := mkHid hcap3
  have HB3 := mkHid hb3
  have c5 := HK.out w3 hb3
  clear hes3 hcap3 hb3
  go_upto_region 5 with (fail)
  go_cut [61] (fun v wc => v = .bool false ∧ Hid (Below W.heap.size W wc))
  case first =>
    cases hg : goodB l with
    | true =>
      have hp : P = (0, 1 + 3 * hdOf l, enAll l) := by rw [← HP.out]; unfold parseOf; rw [if_pos hg]
      have hh := (hd_ok HB.out.2).1
      subst hp
      simp only at c5 HES2 HCAP2 HES3 HCAP3 ⊢
      rw [errV_no]
      clear hg HP HK
      generalize enAll l = ys at *
      generalize hdOf l = N at *
      have hN8 : (1 + 3 * N != 1 + 3 * N) = false := by simp
      have hN9 : decide (0 < 1 + 3 * N) = true := by simp; omega
      go_wp2_with fail
      refine (same_any A2 ys.length C2 ys A3 ys.length C3 ys w3 (HES2.out.next HB3.out) HCAP2.out HES3.out HCAP3.out).mono ?_
      rintro e w4 ⟨rfl, hb4⟩
      rw [decide_eq_true rfl]
      have HB4 := mkHid (below_next HB3.out hb4)
      clear hb4
      go_wp2_with fail
      refine (is_nil 0 _).mono ?_
      rintro e w' ⟨rfl, rfl⟩
      rw [show ((0 : Int) == 0) = true from rfl]
      go_wp2_with fail
      go_meet
      case rel => exact ⟨rfl, HB4⟩
    | false =>
      have hp : P = (14, 0, []) := by rw [← HP.out]; unfold parseOf; rw [if_neg (by rw [hg]; decide)]
      subst hp
      simp only [List.length_nil] at c5 HES2 HCAP2 HES3 HCAP3 ⊢
      rw [errV_of (by omega)]
      clear hg HP HK
      go_wp2_with fail
      refine (same_any A2 0 C2 [] A3 0 C3 [] w3 (HES2.out.next HB3.out) HCAP2.out HES3.out HCAP3.out).mono ?_
      rintro e w4 ⟨rfl, hb4⟩
      rw [decide_eq_true rfl]
      have HB4 := mkHid (below_next HB3.out hb4)
      clear hb4
      go_wp2_with fail
      refine (is_code 14 0 _).mono ?_
      rintro e w' ⟨rfl, rfl⟩
      rw [show ((0 : Int) != 0 && (14 : Int) == 0) = false from rfl]
      go_wp2_with fail
      refine (is_code 14 14 _).mono ?_
      rintro e w' ⟨rfl, rfl⟩
      rw [show ((14 : Int) != 0 && (14 : Int) == 14) = true from rfl]
      go_wp2_with fail
      go_meet
      case rel => exact ⟨rfl, HB4⟩
  case rest =>
    obtain ⟨rfl, HBY⟩ := hcut
    have HBC := mkHid (HBW.out.trans (HBY.out.mono HBW.out.size))
    clear c5 HES2 HCAP2 HES3 HCAP3 HB3 HK
    go_wp2_with fail
    refine (rright_any a' n' c' xs wc (HS.out.next HBC.out) HC.out).mono ?_
    rintro e w' ⟨rfl, rfl⟩
    cases hr : rightL xs with
    | false =>
      clear hr
      go_wp2_with fail
      refine (awake_any _).mono ?_
      rintro e w4 ⟨rfl, hb4⟩
      go_wp2_with fail
      go_ret
      exact ⟨rfl, HBC.out.trans (hb4.mono HBC.out.size)⟩
    | true =>
      have HR := mkHid hr
      have HRL := mkHid (rosBytes_len xs)
      have hn8 : n' ≤ 8 := by have := (rightL_ok hr).1; have := HL.out; omega
      have HPB := mkHid (parse_back hr l)
      clear hr
      go_wp2_with fail
      refine (of_any a' n' c' xs wc (HS.out.next HBC.out) HC.out (by omega)).mono ?_
      rintro e w4 ⟨A4, c4, rfl, hes4, hcap4, hb4⟩
      rw [HL.out] at hes4 hcap4 ⊢
      have HES4 := mkHid hes4
      have HCAP4 := mkHid hcap4
      have HB4 := mkHid (HBC.out.trans (hb4.mono HBC.out.size))
      clear hes4 hcap4 hb4
      go_wp2_with fail
      refine (bytes_yes A4 n' c4 xs w4 HES4.out HCAP4.out HR.out).mono ?_
      rintro e w5 ⟨A5, m, C5, rfl, hbs5, hcap5, hb5⟩
      rw [errV_no]
      have hm : m = 1 + 3 * n' := by rw [← hbs5.len, HRL.out, HL.out]
      have hm25 : m ≤ 25 := by omega
      have HM := mkHid hm
      have HBS5 := mkHid hbs5
      have HB5 := mkHid (HB4.out.trans (hb5.mono HB4.out.size))
      obtain ⟨hcap51, hcap52, hcap53⟩ := hcap5
      clear hbs5 hb5 hm
      go_wp2_with fail
      refine (copy_any A5 m C5 (rosBytes xs) w5 HBS5.out (by omega)).mono ?_
      rintro e w6 ⟨A6, n6, C6, rfl, ho6, hb6⟩
      have hn6 : n6 = m := by have h1 := ho6.1; have h2 := HBS5.out.len; rw [List.length_map] at h1; omega
      subst hn6
      have HO6 := mkHid ho6
      have HB6 := mkHid (HB5.out.trans (hb6.mono HB5.out.size))
      have hsz6 := HB6.out.size
      have hsz56 := hb6.size
      have HBS6 := mkHid ((HB.out.below HB6.out).more hsz6)
      clear ho6 hb6
      go_wp2_with (at_builtin; refine wpList_app _ rfl (.tmp 74) (.tmp 75) _ rfl w5.heap.size el_u8 A6 n6 C6 _ rfl HO6.out w6.heap.size a n1 c (l.map Go.Proofs.Ytlpgeocoddehgaa.u8) rfl HBS6.out.1 (u8_cells _) (by unfold maxLen; omega) (by omega) hsz56 ?_; intro A7 C7 w7 ho7 hg7 _)
      have HB7 := mkHid (HB6.out.grown hg7 hsz6 (fun k hk => by have := own_base HO6.out k hk; have := HB5.out.size; omega))
      rw [← List.map_append] at ho7
      have HBS7 := mkHid (show BS w7 w7.heap.size A7 (n6 + n1) (rosBytes xs ++ l) from ⟨SL.of_own ho7, HBS5.out.2.append HB.out.2⟩)
      clear ho7 hg7
      refine (parse_any A7 (n6 + n1) C7 (rosBytes xs ++ l) w7 HBS7.out (by omega)).mono ?_
      rintro e w8 ⟨A8, C8, rfl, hes8, hcap8, hb8⟩
      rw [HPB.out] at hes8 hcap8 ⊢
      simp only at hes8 hcap8 ⊢
      rw [HL.out] at hes8 hcap8 ⊢
      rw [errV_no]
      have halc : Below w8.heap.size w8 (w8.alloc (.cells #[.slice A8 n' C8] 27)) := (Below.refl _ _).alloc (Nat.le_refl _) _
      have HES8 := mkHid (hes8.next halc)
      have HCAP8 := mkHid hcap8
      have HB8 := mkHid (HB7.out.trans ((hb8.trans (halc.mono hb8.size)).mono HB7.out.size))
      have hmn : (1 + 3 * (n' : Int) == (n6 : Int)) = true := by have := HM.out; rw [beq_iff_eq]; omega
      clear hes8 hcap8 hb8 halc
      go_wp2_with fail
      refine (same_any A8 n' C8 xs a' n' c' xs _ HES8.out HCAP8.out (HS.out.next HB8.out) HC.out).mono ?_
      rintro e w9 ⟨rfl, hb9⟩
      rw [decide_eq_true rfl]
      have HB9 := mkHid (HB8.out.trans (hb9.mono HB8.out.size))
      clear hb9
      go_wp2_with fail
      refine (awake_any _).mono ?_
      rintro e w10 ⟨rfl, hb10⟩
      go_wp2_with fail
      go_ret
      exact ⟨rfl, HB9.out.trans (hb10.mono HB9.out.size)⟩

end Go.Proofs.Ytlpgeocoddehgaa
