/- portagelaw04.BankApart answers true. -/
import Derived.Test.YtpoeneabhoajaaaBkI
import Derived.Test.YtpoeneabhoajaaaOpsB
import Derived.Deep.CutBlock
namespace Go.Proofs.Ytpoeneabhoajaaa
open Go.RowKit

set_option maxRecDepth 20000 in
set_option maxHeartbeats 8000000 in
theorem bankApart_any (a : Option Addr) (n c : Nat) (xs : List Op) (D : Int) (w : World) (hx : OPS w w.heap.size a n xs) (hn : n ≤ c ∧ c ≤ 140737488351232) (hD : I64 D) :
    Calls Try.prog 5 #[.slice a n c, .int .i64 D] w fun e w' => e = .returned (.bool true) ∧ Below w.heap.size w w' := by
  obtain ⟨hn1, hn2⟩ := hn
  have HAW := mkHid (fun W => awake_any W)
  obtain ⟨hD0, hD1⟩ := hD
  have HX := mkHid hx
  clear hx
  go_enter Try.func5, Try.ntmps5
  go_wp2_with fail
  refine (newBank_any w).mono ?_
  rintro e w1 ⟨g, F, rfl, hb, hF, hb1⟩
  have HB := mkHid (show BO w1 F g (bstK 0) from hb)
  have HF := mkHid hF
  have HB1 := mkHid hb1
  clear hb hF hb1
  by_cases hlong : 100 < n
  · go_wp2_with fail
    refine (HAW.out _).mono ?_
    rintro e w3 ⟨rfl, hb3⟩
    have HB3 := mkHid (HB1.out.trans (hb3.mono HB1.out.size))
    clear hb3
    go_wp2_with fail
    go_ret
    exact ⟨rfl, HB3.out⟩
  by_cases hneg : D < 0
  · go_wp2_with fail
    refine (HAW.out _).mono ?_
    rintro e w3 ⟨rfl, hb3⟩
    have HB3 := mkHid (HB1.out.trans (hb3.mono HB1.out.size))
    clear hb3
    go_wp2_with fail
    go_ret
    exact ⟨rfl, HB3.out⟩
  by_cases hbig : 2 < D
  · go_wp2_with fail
    refine (HAW.out _).mono ?_
    rintro e w3 ⟨rfl, hb3⟩
    have HB3 := mkHid (HB1.out.trans (hb3.mono HB1.out.size))
    clear hb3
    go_wp2_with fail
    go_ret
    exact ⟨rfl, HB3.out⟩
  obtain ⟨dv, rfl⟩ := Int.eq_ofNat_of_zero_le (show 0 ≤ D by omega)
  have hdv : dv < 3 := by omega
  have HID := mkHid (show I64 (dv : Int) from ⟨hD0, hD1⟩)
  clear hneg hbig hD0 hD1
  go_wp2_with fail
  go_loopw [37] (fun i wr => ∃ (q : Nat) (F : Nat → Prop), q ≤ 3 ∧ i = .int .i64 q ∧ Hid (BO wr F g (bstK q)) ∧ Hid (∀ b, F b → w.heap.size ≤ b) ∧ Hid (Below w.heap.size w wr)) (fun i _ => 3 - (intOf i).toNat)
  case atStart => exact ⟨0, F, Nat.zero_le _, rfl, HB, HF, HB1⟩
  case round =>
    clear HB HF HB1
    obtain ⟨q, F, hq, rfl, HB, HF, HB1⟩ := hrel
    by_cases hlt : q < 3
    · have HAD := mkHid (bstK_add q (by omega))
      go_wp2_with fail
      refine (add_any F g (bstK q) 4 wr HB.out (by unfold I64; omega)).mono ?_
      rintro e w3 ⟨i, v, rfl, _, _, hv, ht3, F3, hb3, hF3⟩
      rw [HAD.out.2] at hb3
      have HB3 := mkHid hb3
      have HF3 := mkHid (show ∀ b, F3 b → w.heap.size ≤ b from fun b hb => (hF3 b hb).elim (HF.out b) fun e => Nat.le_trans HB1.out.size e)
      have HBW := mkHid (HB1.out.trans (ht3.below HF.out HB1.out.size))
      clear hv ht3 hb3 hF3
      go_wp2_with fail
      go_roundw
      case rel => exact ⟨q + 1, F3, by omega, by go_num, HB3, HF3, HBW⟩
      case measure => simp [intOf]; omega
    · obtain rfl : q = 3 := by omega
      rw [show ((3 : Nat) : Int) = 3 from rfl]
      have HLT := mkHid HB.out.lt
      go_wp2_with (at_make; refine wpList_make128 wr rfl rfl wr.heap.size (Nat.le_refl _) ?_; intro wm hm1 hm2; have hfz := frozen_of_own hm1 7; obtain ⟨r', e1, _, _, hcell⟩ := own_cells hm1 (by omega); injection e1 with e1; injection e1 with e1; subst e1; have c7 := hcell 7 (by omega); have HM1 := mkHid hm1; have HM2 := mkHid hm2; clear hm1 hm2 hcell)
      have hOD : OD w (wm.setCell ⟨wr.heap.size, 7, none⟩ (.int .u8 7)) F g wr.heap.size (bsW 0) := by
        have hbm : Below wr.heap.size wr (wm.setCell ⟨wr.heap.size, 7, none⟩ (.int .u8 7)) := ((Below.refl _ _).grown HM2.out (Nat.le_refl _) (fun k hk => by cases hk)).setCell (p := ⟨wr.heap.size, 7, none⟩) (Nat.le_refl _) _
        obtain ⟨r2, cur, hr, hr0, hr1, hr2, _, _, hr3, hr4⟩ := own_block HM1.out (by omega)
        injection hr with hr
        injection hr with hr
        rw [Nat.mul_one] at hr3 hr4
        rw [List.take_of_length_le (by omega)] at hr4
        subst hr4 hr
        refine ⟨HB.out.below hbm, HF.out, HB1.out.trans (hbm.mono HB1.out.size), ?_, fun hf => by have := HLT.out _ hf; omega, HB1.out.size⟩
        rw [heap_setCell_same _ _ 7 _ _ (.int .u8 7) hr2, List.setIfInBounds_toArray, show (zeros.map u8).set 7 (.int .u8 7) = dB.map u8 by unfold dB; rw [List.map_set]; rfl]
      have HOD := mkHid hOD
      clear HB HF HB1 HM1 HM2 hfz c7 HLT hOD
      generalize wm.setCell ⟨wr.heap.size, 7, none⟩ (.int .u8 7) = wm' at *
      obtain ⟨wB, rfl⟩ : ∃ x : World, x = wr := ⟨wr, rfl⟩
      go_wp2_with fail
      go_loopw [45] (fun i wr => ∃ (q : Nat) (F : Nat → Prop), q ≤ 3 ∧ i = .int .i64 q ∧ Hid (OD w wr F g wB.heap.size (bsW q))) (fun i _ => 3 - (intOf i).toNat)
      case atStart => exact ⟨0, F, Nat.zero_le _, rfl, HOD⟩
      case round =>
        clear HOD
        obtain ⟨q, F, hq, rfl, HOD⟩ := hrel
        by_cases hlt : q < 3
        · have HSTP := mkHid (bsW_step q hlt)
          go_wp2_with fail
          refine (bwrite_any F g (bsW q) q 1 (some ⟨wB.heap.size, 0, none⟩) 128 128 dB wr HOD.out.b ⟨by omega, by omega⟩ ⟨by omega, by omega⟩ HOD.out.bs (fun _ ad had hf => by
            injection had with had
            rw [← had] at hf
            exact HOD.out.out hf) ⟨by simp [bsW], by simp [bsW]; omega⟩ (few_more (bsW_few q) (by omega))).mono ?_
          rintro e w3 ⟨v, rfl, hv, ht3, F3, hb3, hF3⟩
          rw [HSTP.out.1] at hv
          rw [HSTP.out.2] at hb3
          obtain rfl : v = .nilIface := hv.1 rfl
          have HOD3 := mkHid (HOD.out.step ht3 hb3 hF3)
          clear hv ht3 hb3 hF3
          go_wp2_with fail
          go_roundw
          case rel => exact ⟨q + 1, F3, by omega, by go_num, HOD3⟩
          case measure => simp [intOf]; omega
        · obtain rfl : q = 3 := by omega
          have HAP := mkHid (AP.start dv)
          rw [show ((3 : Nat) : Int) = 3 from rfl]
          go_wp2_with fail
          go_loopw [56] (fun i wr => ∃ (q : Nat) (F : Nat → Prop) (s : Bst), q ≤ n ∧ i = .int .i64 q ∧ Hid (OD w wr F g wB.heap.size s) ∧ Hid (AP dv q s)) (fun i _ => n - (intOf i).toNat)
          case atStart => exact ⟨0, F, bsW 3, Nat.zero_le _, rfl, HOD, HAP⟩
          case round =>
            clear HOD HAP
            obtain ⟨q, F, s, hq, rfl, HOD, HAP⟩ := hrel
            by_cases hlt : q < n
            · obtain ⟨b, o, x, a1, m, c1, a2, m', c2, rfl, hb, _, hI0, hI1, hI2, hI3, hca, hbs, hcb, his, d0, d1, d2, d3, d4, d5⟩ := (HX.out.below HOD.out.bel).at_ hlt
              have HXB := mkHid (show BS w w.heap.size a1 m x.data from hbs.keep fun b hb => (HOD.out.bel.block b hb).symm)
              obtain ⟨xk, xi, xs, xn, xd, xl, rfl⟩ : ∃ xk xi xs xn xd xl, x = ⟨xk, xi, xs, xn, xd, xl⟩ := ⟨_, _, _, _, _, _, rfl⟩
              simp only at d0 d1 d2 d3 d4 d5 hI2 HXB
              have HI2 := mkHid hI2
              obtain ⟨wA, hwA⟩ : ∃ wA, wr.alloc (.cells #[.int .i64 xk, .int .i64 xi, .int .i64 xs, .int .i64 xn, .slice a1 m c1, .slice a2 m' c2] 34) = wA := ⟨_, rfl⟩
              have HAL := mkHid (show OD w wA F g wB.heap.size s by rw [← hwA]; exact HOD.out.below ((Below.refl _ _).alloc (Nat.le_refl _) _))
              have hsA : wr.heap.size < wA.heap.size := by rw [← hwA]; simp
              have hbl : wA.heap[wr.heap.size]? = some (.cells #[.int .i64 xk, .int .i64 xi, .int .i64 xs, .int .i64 xn, .slice a1 m c1, .slice a2 m' c2] 34 (0, 0)) := by rw [← hwA]; exact heap_alloc_new _ _
              have y0 : wA.cell? ⟨wr.heap.size, 0, none⟩ = some (.int .i64 xk) := cell_of_row wA _ 0 _ _ _ hbl
              have HPC := mkHid (show ∀ Z : World, Z.heap[wr.heap.size]? = wA.heap[wr.heap.size]? → Z.cell? ⟨wr.heap.size, 2, none⟩ = some (.int .i64 xs) ∧ Z.cell? ⟨wr.heap.size, 3, none⟩ = some (.int .i64 xn) ∧ Z.cell? ⟨wr.heap.size, 4, none⟩ = some (.slice a1 m c1) from fun Z hZ => ⟨cell_of_row Z _ 2 _ _ _ (hZ.trans hbl), cell_of_row Z _ 3 _ _ _ (hZ.trans hbl), cell_of_row Z _ 4 _ _ _ (hZ.trans hbl)⟩)
              obtain ⟨z2, z3, z4⟩ := HPC.out wA rfl
              have HF1 := mkHid HOD.out.b.lt
              have HDL := mkHid (show xd.length = m from HXB.out.len)
              have HDN := mkHid (show (0 ≤ s.done ∧ s.done ≤ 1000000000) ∧ (0 ≤ s.done ∧ s.done ≤ 1000000) from by
                have h1 := HAP.out.d0
                have h2 := HAP.out.d1
                omega)
              have HFW := mkHid (show s.few 999999 from few_more HAP.out.fw (by omega))
              clear hbs his hI0 hI1 hI2 hI3 hbl hca hcb
              by_cases hm : 1000 < m
              · go_wp2_with fail
                refine (HAW.out _).mono ?_
                rintro e w4 ⟨rfl, hb4⟩
                have HT4 := mkHid (HAL.out.below hb4)
                clear hb4
                go_wp2_with fail
                go_ret
                exact ⟨rfl, HT4.out.bel⟩
              have HXA := mkHid (show ∀ Z : World, Z.heap = wA.heap → BS Z Z.heap.size a1 m xd from fun Z hZ => by
                have h1 := (HXB.out.below HAL.out.bel).more HAL.out.bel.size
                rw [hZ]
                exact h1.keep fun b _ => by rw [hZ])
              obtain ⟨wP, rfl⟩ : ∃ x : World, x = wr := ⟨wr, rfl⟩
              by_cases h3 : xk = 3
              · subst h3
                go_wp2_with fail
                clear hwA y0 d0 d1 d2 d3 d4 d5
                refine (detach_any F g s dv wA HAL.out.b HID.out).mono ?_
                rintro e w6 ⟨v, rfl, hv, ht6, F3, hb6, hF6⟩
                have HT6 := mkHid (HAL.out.step ht6 hb6 hF6)
                clear hv ht6 hb6 hF6
                go_wp2_with fail
                go_roundw
                case rel => exact ⟨q + 1, F3, _, by omega, by go_num, HT6, mkHid HAP.out.detached⟩
                case measure => simp [intOf]; omega
              by_cases h5 : xk = 5
              · subst h5
                go_wp2_with fail
                clear hwA y0 d0 d1 d2 d3 d4 d5
                go_region_held3 (fun s => s.cell? ⟨wP.heap.size, 2, none⟩ = some (.int .i64 xs) ∧ s.cell? ⟨wP.heap.size, 4, none⟩ = some (.slice a1 m c1)) (first | assumption | exact ⟨z2, z4⟩ | exact ⟨hpc5.1, hpc5.2.2⟩ | exact ⟨hpc6.1, hpc6.2.2⟩) (first
                  | (go_at_call 10; (with_reducible refine (bwrite_any F g s dv xs CB m cb xd w5 HT5.out.b HID.out HI2.out HCB.out HO1.out HDN.out.1 HFW.out).mono ?_); rintro e w6 ⟨v, rfl, hv, ht6, F3, hb6, hF6⟩; have hk6 : w6.heap[wP.heap.size]? = wA.heap[wP.heap.size]? := (ht6.block _ (by omega) (fun hf => by have := HF1.out _ hf; omega)).trans HK5.out; have hpc6 := HPC.out w6 hk6; have HT6 := mkHid (HT5.out.step ht6 hb6 hF6); clear hv ht6 hb6 hF6 hk6)
                  | (go_at_call 11; refine (copy_any a1 m c1 xd _ (HXA.out _ (by rfl)) (by omega)).mono ?_; rintro e w5 ⟨CB, cb, rfl, hco, hb5⟩; rw [HDL.out] at hco ⊢; have hk5 : w5.heap[wP.heap.size]? = wA.heap[wP.heap.size]? := hb5.block _ (show wP.heap.size < wA.heap.size by omega); have hpc5 := HPC.out w5 hk5; have hs5 : wA.heap.size ≤ w5.heap.size := hb5.size; have HK5 := mkHid hk5; have HT5 := mkHid (HAL.out.below (Below.mk hb5.os hb5.tape hb5.output hb5.size hb5.block)); have HCB := mkHid (show BS w5 w5.heap.size CB m xd from ⟨SL.of_own hco, HXB.out.2⟩); have HO1 := mkHid (show 0 < m → ∀ ad : Addr, CB = some ad → ¬ F ad.block from fun _ => own_out (base := wA.heap.size) hco fun b hb => by have := HF1.out b hb; omega); clear hco hb5 hk5))
                go_wp2_with fail
                go_roundw
                case rel => exact ⟨q + 1, F3, _, by omega, by go_num, HT6, mkHid (HAP.out.wrote xs xd)⟩
                case measure => simp [intOf]; omega
              by_cases h6 : xk = 6
              · subst h6
                go_wp2_with fail
                clear hwA y0 d0 d1 d2 d3 d4 d5
                have hal : Below wA.heap.size wA (wA.alloc (.cells #[.int .i64 (dv : Int)] 3)) := (Below.refl _ _).alloc (Nat.le_refl _) _
                have HT5 := mkHid (HAL.out.below hal)
                have HIX := mkHid (show IS (wA.alloc (.cells #[.int .i64 (dv : Int)] 3)) (wA.alloc (.cells #[.int .i64 (dv : Int)] 3)).heap.size (some ⟨wA.heap.size, 0, none⟩) 1 [(dv : Int)] from ⟨SL.of_block (heap_alloc_new wA _) rfl (by simp), fun x hx => by obtain rfl := List.mem_singleton.1 hx; exact HID.out⟩)
                clear hal
                refine (bflush_any F g s (some ⟨wA.heap.size, 0, none⟩) 1 1 [(dv : Int)] _ HT5.out.b HIX.out (fun ad had hf => by
                  injection had with had
                  rw [← had] at hf
                  have := HF1.out _ hf
                  simp only at this
                  omega) HDN.out.2 (by omega)).mono ?_
                rintro e w6 ⟨v, rfl, hv, ht6, F3, hb6, hF6⟩
                rw [flushA_one] at hb6
                have HT6 := mkHid (HT5.out.step ht6 hb6 hF6)
                clear hv ht6 hb6 hF6 HT5 HIX
                go_wp2_with fail
                go_roundw
                case rel => exact ⟨q + 1, F3, _, by omega, by go_num, HT6, mkHid HAP.out.flush⟩
                case measure => simp [intOf]; omega
              by_cases h9 : xk = 9
              · subst h9
                obtain ⟨on, hon⟩ : ∃ b, decide (0 < xn) = b := ⟨_, rfl⟩
                go_wp2_with fail
                clear hwA y0 d0 d1 d2 d3 d4 d5
                refine (bbad_any F g s dv xs _ wA HAL.out.b HID.out HI2.out).mono ?_
                rintro e w6 ⟨v, rfl, hv, ht6, F3, hb6, hF6⟩
                have HT6 := mkHid (HAL.out.step ht6 hb6 hF6)
                clear hv ht6 hb6 hF6
                go_wp2_with fail
                go_roundw
                case rel => exact ⟨q + 1, F3, _, by omega, by go_num, HT6, mkHid (HAP.out.badded xs _)⟩
                case measure => simp [intOf]; omega
              by_cases h10 : xk = 10
              · subst h10
                go_wp2_with fail
                clear hwA y0 d0 d1 d2 d3 d4 d5
                refine (copy_any a1 m c1 xd wA (HXA.out wA rfl) (by omega)).mono ?_
                rintro e w5 ⟨CB, cb, rfl, hco, hb5⟩
                rw [HDL.out] at hco ⊢
                have HT5 := mkHid (HAL.out.below hb5)
                have HCO := mkHid hco
                have hcap := own_cap hco
                have hcm : cb ≤ 9223372036854775807 := by have := hcap.2; unfold maxLen at this; omega
                have HCP := mkHid (And.intro hcap.1 hcm)
                clear hco hb5 hcap hcm
                go_wp2_with fail
                refine (bfill_any F g s dv CB m cb xd w5 HT5.out.b HID.out ⟨SL.of_own HCO.out, HXB.out.2⟩ (own_out HCO.out fun b hb => by have := HF1.out b hb; omega) HCP.out (by omega)).mono ?_
                rintro e w6 ⟨v, rfl, hv, ht6, F3, hb6, hF6⟩
                have HT6 := mkHid (HT5.out.step ht6 hb6 hF6)
                clear hv ht6 hb6 hF6
                go_wp2_with fail
                go_roundw
                case rel => exact ⟨q + 1, F3, _, by omega, by go_num, HT6, mkHid (HAP.out.filled xd)⟩
                case measure => simp [intOf]; omega
              have h3b : (xk == 3) = false := by simpa using h3
              have h5b : (xk == 5) = false := by simpa using h5
              have h6b : (xk == 6) = false := by simpa using h6
              have h9b : (xk == 9) = false := by simpa using h9
              have h10b : (xk == 10) = false := by simpa using h10
              go_wp2_with fail
              go_roundw
              case rel => exact ⟨q + 1, F, s, by omega, by go_num, HAL, mkHid HAP.out.more⟩
              case measure => simp [intOf]; omega
            · obtain rfl : q = n := by omega
              obtain ⟨HOS, hHOS⟩ : ∃ h : Hid (OD w wr F g wB.heap.size s), h = HOD := ⟨_, rfl⟩
              clear hHOS HOD
              go_wp2_with fail
              go_loopw [107] (fun i wr => ∃ (q : Nat), q ≤ 3 ∧ i = .int .i64 q ∧ Hid (OD w wr F g wB.heap.size s)) (fun i _ => 3 - (intOf i).toNat)
              case atStart => exact ⟨0, Nat.zero_le _, rfl, HOS⟩
              case round =>
                clear HOS
                obtain ⟨q, hq, rfl, HOD⟩ := hrel
                by_cases hlt : q < 3
                · have hb := bread_any F g s q 1 wr HOD.out.b ⟨by omega, by omega⟩ ⟨by omega, by omega⟩
                  by_cases hqd : q = dv
                  · subst hqd
                    have hne : ((q : Int) != (q : Int)) = false := by simp
                    have HBR := mkHid hb
                    clear hb
                    go_wp2_with fail
                    refine HBR.out.mono ?_
                    rintro e w3 ⟨A3, m3, c3, v3, rfl, _, _, _, _, hb3⟩
                    have HOD3 := mkHid (HOD.out.below hb3)
                    clear hb3
                    go_wp2_with fail
                    go_roundw
                    case rel => exact ⟨q + 1, by omega, by go_num, HOD3⟩
                    case measure => simp [intOf]; omega
                  · have hne : ((q : Int) != (dv : Int)) = true := by simp; omega
                    have HRD := mkHid (HAP.out.read hlt hqd)
                    have HBR := mkHid hb
                    clear hb hqd
                    go_wp2_with fail
                    refine HBR.out.mono ?_
                    rintro e w3 ⟨A3, m3, c3, v3, rfl, hm3, _, hbs3, hv3, hb3⟩
                    rw [HRD.out.2] at hm3 hbs3
                    rw [HRD.out.1] at hv3
                    obtain rfl : v3 = .nilIface := hv3.1 rfl
                    have HM3 := mkHid hm3
                    have HBS3 := mkHid hbs3
                    have HOD3 := mkHid (HOD.out.below hb3)
                    clear hm3 hbs3 hv3 hb3
                    go_wp2_with fail
                    refine (same_any A3 (some ⟨wB.heap.size, 0, none⟩) m3 128 c3 128 _ _ dB dB w3 HBS3.out HOD3.out.bs).mono ?_
                    rintro e w4 ⟨rfl, rfl⟩
                    rw [decide_eq_true rfl]
                    go_wp2_with fail
                    go_roundw
                    case rel => exact ⟨q + 1, by omega, by go_num, HOD3⟩
                    case measure => simp [intOf]; omega
                · obtain rfl : q = 3 := by omega
                  go_wp2_with fail
                  refine (bcrash_any F g s none 0 0 [] wr HOD.out.b ⟨SL.nil, fun x hx => by cases hx⟩ (.inl rfl) ⟨Nat.le_refl _, by omega⟩).mono ?_
                  rintro e w3 ⟨rfl, ht3, F3, hb3, hF3⟩
                  have HOC := mkHid (HOD.out.step ht3 hb3 hF3)
                  clear ht3 hb3 hF3 HOD
                  obtain ⟨F, rfl⟩ : ∃ F : Nat → Prop, F = F3 := ⟨_, rfl⟩
                  go_wp2_with fail
                  go_loopw [132] (fun i wr => ∃ (q : Nat), q ≤ 3 ∧ i = .int .i64 q ∧ Hid (OD w wr F g wB.heap.size (s.crashedB []))) (fun i _ => 3 - (intOf i).toNat)
                  case atStart => exact ⟨0, Nat.zero_le _, rfl, HOC⟩
                  case round =>
                    clear HOC
                    obtain ⟨q, hq, rfl, HOD⟩ := hrel
                    by_cases hlt : q < 3
                    · have hb := bread_any F g (s.crashedB []) q 1 wr HOD.out.b ⟨by omega, by omega⟩ ⟨by omega, by omega⟩
                      by_cases hqd : q = dv
                      · subst hqd
                        have hne : ((q : Int) != (q : Int)) = false := by simp
                        have HBR := mkHid hb
                        clear hb
                        go_wp2_with fail
                        refine HBR.out.mono ?_
                        rintro e w3 ⟨A3, m3, c3, v3, rfl, _, _, _, _, hb3⟩
                        have HOD3 := mkHid (HOD.out.below hb3)
                        clear hb3
                        go_wp2_with fail
                        go_roundw
                        case rel => exact ⟨q + 1, by omega, by go_num, HOD3⟩
                        case measure => simp [intOf]; omega
                      · have hne : ((q : Int) != (dv : Int)) = true := by simp; omega
                        have HRD := mkHid (HAP.out.crash hlt hqd)
                        have HBR := mkHid hb
                        clear hb hqd
                        go_wp2_with fail
                        refine HBR.out.mono ?_
                        rintro e w3 ⟨A3, m3, c3, v3, rfl, hm3, _, hbs3, hv3, hb3⟩
                        rw [HRD.out.2] at hm3 hbs3
                        rw [HRD.out.1] at hv3
                        obtain rfl : v3 = .nilIface := hv3.1 rfl
                        have HM3 := mkHid hm3
                        have HBS3 := mkHid hbs3
                        have HOD3 := mkHid (HOD.out.below hb3)
                        clear hm3 hbs3 hv3 hb3
                        obtain ⟨wm, hmk, hm1, hbm⟩ := run_make128 w3
                        have HM1 := mkHid hm1
                        have HBM := mkHid hbm
                        clear hm1 hbm
                        go_wp2_with fail
                        clear hmk
                        have HOD4 := mkHid (HOD3.out.below HBM.out)
                        refine (same_any A3 (some ⟨w3.heap.size, 0, none⟩) m3 128 c3 128 _ _ zeros zeros wm (HBS3.out.below HBM.out) ⟨SL.of_own HM1.out, zeros_ok⟩).mono ?_
                        rintro e w4 ⟨rfl, rfl⟩
                        rw [decide_eq_true rfl]
                        go_wp2_with fail
                        go_roundw
                        case rel => exact ⟨q + 1, by omega, by go_num, HOD4⟩
                        case measure => simp [intOf]; omega
                    · obtain rfl : q = 3 := by omega
                      go_wp2_with fail
                      refine (HAW.out _).mono ?_
                      rintro e w3 ⟨rfl, hb3⟩
                      have HT3 := mkHid (HOD.out.below hb3)
                      clear hb3
                      go_wp2_with fail
                      go_ret
                      exact ⟨rfl, HT3.out.bel⟩

end Go.Proofs.Ytpoeneabhoajaaa
