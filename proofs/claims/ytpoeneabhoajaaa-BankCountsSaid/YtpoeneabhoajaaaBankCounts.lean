/- portagelaw04.BankCounts answers true. -/
import Derived.Test.YtpoeneabhoajaaaBkF
import Derived.Test.YtpoeneabhoajaaaOpsB
import Derived.Deep.CutBlock
namespace Go.Proofs.Ytpoeneabhoajaaa
open Go.RowKit

set_option maxRecDepth 20000 in
set_option maxHeartbeats 8000000 in
theorem bankCounts_any (a : Option Addr) (n c : Nat) (xs : List Op) (N : Int) (w : World) (hx : OPS w w.heap.size a n xs) (hn : n ≤ c ∧ c ≤ 140737488351232) (hN : I64 N) :
    Calls Try.prog 3 #[.slice a n c, .int .i64 N] w fun e w' => e = .returned (.bool true) ∧ Below w.heap.size w w' := by
  obtain ⟨hn1, hn2⟩ := hn
  have HAW := mkHid (fun W => awake_any W)
  have HNI := mkHid hN
  obtain ⟨hN0, hN1⟩ := hN
  have HX := mkHid hx
  clear hx
  go_enter Try.func3, Try.ntmps3
  go_wp2_with fail
  refine (newBank_any w).mono ?_
  rintro e w1 ⟨g1, F1, rfl, hd, hF, hb1⟩
  have HD1 := mkHid hd
  have HF1 := mkHid hF
  have HB1 := mkHid hb1
  clear hd hF hb1
  go_wp2_with fail
  refine (newBank_any w1).mono ?_
  rintro e w2 ⟨g2, F2, rfl, hd, hF, hb2⟩
  have HT := mkHid (show TB w w2 F1 F2 g1 g2 (bstK 0) (bstK 0) from
    ⟨HD1.out.below hb2, hd, HF1.out, fun x hx => Nat.le_trans HB1.out.size (hF x hx), fun x h1 h2 => by
      have := HD1.out.lt x h1
      have := hF x h2
      omega, HB1.out.trans (hb2.mono HB1.out.size)⟩)
  clear hd hF hb2 HD1 HF1 HB1
  by_cases hlong : 100 < n
  · go_wp2_with fail
    refine (HAW.out _).mono ?_
    rintro e w3 ⟨rfl, hb3⟩
    have HT3 := mkHid (HT.out.below hb3)
    clear hb3
    go_wp2_with fail
    go_ret
    exact ⟨rfl, HT3.out.bel⟩
  by_cases hneg : N < 0
  · go_wp2_with fail
    refine (HAW.out _).mono ?_
    rintro e w3 ⟨rfl, hb3⟩
    have HT3 := mkHid (HT.out.below hb3)
    clear hb3
    go_wp2_with fail
    go_ret
    exact ⟨rfl, HT3.out.bel⟩
  by_cases hbig : 200 < N
  · go_wp2_with fail
    refine (HAW.out _).mono ?_
    rintro e w3 ⟨rfl, hb3⟩
    have HT3 := mkHid (HT.out.below hb3)
    clear hb3
    go_wp2_with fail
    go_ret
    exact ⟨rfl, HT3.out.bel⟩
  have hN2 : 0 ≤ N := by omega
  have hN3 : N ≤ 200 := by omega
  clear hneg hbig hN0 hN1
  go_wp2_with fail
  go_loopw [39] (fun i wr => ∃ (q : Nat) (F1 F2 : Nat → Prop), q ≤ 3 ∧ i = .int .i64 q ∧ Hid (TB w wr F1 F2 g1 g2 (bstK q) (bstK q))) (fun i _ => 3 - (intOf i).toNat)
  case atStart => exact ⟨0, F1, F2, Nat.zero_le _, rfl, HT⟩
  case round =>
    clear HT
    obtain ⟨q, F1, F2, hq, rfl, HT⟩ := hrel
    by_cases hlt : q < 3
    · have HAD := mkHid (bstK_add q (by omega))
      go_wp2_with fail
      refine (add_any F1 g1 (bstK q) 4 wr HT.out.a (by unfold I64; omega)).mono ?_
      rintro e w3 ⟨i, v, rfl, _, _, hv, ht3, F3, hb3, hF3⟩
      rw [HAD.out.2] at hb3
      have HT3 := mkHid (HT.out.stepA ht3 hb3 hF3)
      clear hv ht3 hb3 hF3
      go_wp2_with fail
      refine (add_any F2 g2 (bstK q) 4 w3 HT3.out.b (by unfold I64; omega)).mono ?_
      rintro e w4 ⟨i', v', rfl, _, _, hv, ht4, F4, hb4, hF4⟩
      rw [HAD.out.2] at hb4
      have HT4 := mkHid (HT3.out.stepB ht4 hb4 hF4)
      clear hv ht4 hb4 hF4
      go_wp2_with fail
      go_roundw
      case rel => exact ⟨q + 1, F3, F4, by omega, by go_num, HT4⟩
      case measure => simp [intOf]; omega
    · obtain rfl : q = 3 := by omega
      go_wp2_with fail
      refine (arm_any F2 g2 (bstK 3) N wr HT.out.b HNI.out).mono ?_
      rintro e w3 ⟨rfl, ht3, hb3⟩
      have HT3 := mkHid (HT.out.stepB ht3 hb3 fun _ hb => .inl hb)
      have HC3 := mkHid (show CT N (bstK 3) { bstK 3 with armed := decide (0 ≤ N), left := N } from ⟨rfl, rfl, decide_eq_true hN2, hN2, by simp [bstK], .inl ⟨rfl, rfl, by simp [bstK], rfl, hN2⟩⟩)
      have HW3 := mkHid (show (bstK 3).few 0 ∧ Bst.few { bstK 3 with armed := decide (0 ≤ N), left := N } 0 from ⟨bstK_few 3 0, bstK_few 3 0⟩)
      clear ht3 hb3
      have hd3 : (bstK 3).done = 0 := rfl
      generalize bstK 3 = SA at *
      generalize ({ SA with armed := decide (0 ≤ N), left := N } : Bst) = SB at *
      go_wp2_with fail
      go_loopw [51] (fun i wr => ∃ (q : Nat) (F1 F2 : Nat → Prop) (sa sb : Bst), q ≤ n ∧ i = .int .i64 q ∧ Hid (TB w wr F1 F2 g1 g2 sa sb) ∧ Hid (CT N sa sb) ∧ Hid (sa.few q ∧ sb.few q) ∧ Hid (sa.done ≤ q)) (fun i _ => n - (intOf i).toNat)
      case atStart => exact ⟨0, F1, F2, SA, SB, Nat.zero_le _, rfl, HT3, HC3, HW3, mkHid (by rw [hd3]; omega)⟩
      case round =>
        clear HT3 HC3 HW3 hd3 HT
        obtain ⟨q, F1, F2, sa, sb, hq, rfl, HT, HC, HW, HQ⟩ := hrel
        by_cases hlt : q < n
        · obtain ⟨b, o, x, a1, m, c1, a2, m', c2, rfl, hb, _, hI0, hI1, hI2, hI3, hca, hbs, hcb, his, d0, d1, d2, d3, d4, d5⟩ := (HX.out.below HT.out.bel).at_ hlt
          have HXB := mkHid (show BS w w.heap.size a1 m x.data from hbs.keep fun b hb => (HT.out.bel.block b hb).symm)
          obtain ⟨xk, xi, xs, xn, xd, xl, rfl⟩ : ∃ xk xi xs xn xd xl, x = ⟨xk, xi, xs, xn, xd, xl⟩ := ⟨_, _, _, _, _, _, rfl⟩
          simp only at d0 d1 d2 d3 d4 d5 hI1 hI2 HXB
          have HI1 := mkHid hI1
          have HI2 := mkHid hI2
          obtain ⟨wA, hwA⟩ : ∃ wA, wr.alloc (.cells #[.int .i64 xk, .int .i64 xi, .int .i64 xs, .int .i64 xn, .slice a1 m c1, .slice a2 m' c2] 34) = wA := ⟨_, rfl⟩
          have HAL := mkHid (show TB w wA F1 F2 g1 g2 sa sb by rw [← hwA]; exact HT.out.below ((Below.refl _ _).alloc (Nat.le_refl _) _))
          have hsA : wr.heap.size < wA.heap.size := by rw [← hwA]; simp
          have hbl : wA.heap[wr.heap.size]? = some (.cells #[.int .i64 xk, .int .i64 xi, .int .i64 xs, .int .i64 xn, .slice a1 m c1, .slice a2 m' c2] 34 (0, 0)) := by rw [← hwA]; exact heap_alloc_new _ _
          have y0 : wA.cell? ⟨wr.heap.size, 0, none⟩ = some (.int .i64 xk) := cell_of_row wA _ 0 _ _ _ hbl
          have y4 : wA.cell? ⟨wr.heap.size, 4, none⟩ = some (.slice a1 m c1) := cell_of_row wA _ 4 _ _ _ hbl
          have y5 : wA.cell? ⟨wr.heap.size, 5, none⟩ = some (.slice a2 m' c2) := cell_of_row wA _ 5 _ _ _ hbl
          have HPC := mkHid (show ∀ Z : World, Z.heap[wr.heap.size]? = wA.heap[wr.heap.size]? → Z.cell? ⟨wr.heap.size, 1, none⟩ = some (.int .i64 xi) ∧ Z.cell? ⟨wr.heap.size, 2, none⟩ = some (.int .i64 xs) ∧ Z.cell? ⟨wr.heap.size, 4, none⟩ = some (.slice a1 m c1) from fun Z hZ => ⟨cell_of_row Z _ 1 _ _ _ (hZ.trans hbl), cell_of_row Z _ 2 _ _ _ (hZ.trans hbl), cell_of_row Z _ 4 _ _ _ (hZ.trans hbl)⟩)
          have HF1 := mkHid HT.out.a.lt
          have HF2 := mkHid HT.out.b.lt
          have HDL := mkHid (show xd.length = m from HXB.out.len)
          clear hbs his hI0 hI1 hI2 hI3 hbl hca hcb
          by_cases hm : 1000 < m
          · go_wp2_with fail
            refine (HAW.out _).mono ?_
            rintro e w4 ⟨rfl, hb4⟩
            have HT4 := mkHid (HAL.out.below hb4)
            clear hb4
            go_wp2_with fail
            go_ret
            exact ⟨rfl, HT4.out.bel⟩
          by_cases hm' : 50 < m'
          · go_wp2_with fail
            refine (HAW.out _).mono ?_
            rintro e w4 ⟨rfl, hb4⟩
            have HT4 := mkHid (HAL.out.below hb4)
            clear hb4
            go_wp2_with fail
            go_ret
            exact ⟨rfl, HT4.out.bel⟩
          obtain ⟨wP, rfl⟩ : ∃ x : World, x = wr := ⟨wr, rfl⟩
          by_cases h5 : xk = 5
          · subst h5
            obtain ⟨z1, z2, z4⟩ := HPC.out wA rfl
            have HXA := mkHid (show ∀ Z : World, Z.heap = wA.heap → BS Z Z.heap.size a1 m xd from fun Z hZ => by
              have h1 := (HXB.out.below HAL.out.bel).more HAL.out.bel.size
              rw [hZ]
              exact h1.keep fun b _ => by rw [hZ])
            have HDN := mkHid (show (0 ≤ sa.done ∧ sa.done ≤ 1000000000) ∧ (0 ≤ sb.done ∧ sb.done ≤ 1000000000) from by
              have h1 := HC.out.d0
              have h2 := HQ.out
              have h3 := HC.out.n0
              rcases HC.out.or with e | e
              · omega
              · omega)
            have HFW := mkHid (show sa.few 999999 ∧ sb.few 999999 from ⟨few_more HW.out.1 (by omega), few_more HW.out.2 (by omega)⟩)
            have HCW := mkHid (HC.out.wrote xi xs xd)
            go_wp2_with fail
            clear hwA y0 y4 y5 d0 d1 d2 d3 d4 d5
            go_region_held3 (fun s => s.cell? ⟨wP.heap.size, 1, none⟩ = some (.int .i64 xi) ∧ s.cell? ⟨wP.heap.size, 2, none⟩ = some (.int .i64 xs) ∧ s.cell? ⟨wP.heap.size, 4, none⟩ = some (.slice a1 m c1)) (first | assumption | exact ⟨z1, z2, z4⟩) (first
              | (go_at_call 10; (with_reducible refine (bwrite_any F1 g1 sa xi xs CB m cb xd w5 HT5.out.a HI1.out HI2.out HCB.out HO1.out HDN.out.1 HFW.out.1).mono ?_); rintro e w6 ⟨v, rfl, hv, ht6, F3, hb6, hF6⟩; have hk6 : w6.heap[wP.heap.size]? = wA.heap[wP.heap.size]? := (ht6.block _ (by omega) (fun hf => by have := HF1.out _ hf; omega)).trans HK5.out; have hpc6 := HPC.out w6 hk6; have hs6 : w5.heap.size ≤ w6.heap.size := ht6.size; have HK6 := mkHid hk6; have HT6 := mkHid (HT5.out.stepA ht6 hb6 hF6); clear hv ht6 hb6 hF6 hk6)
              | (go_at_call 11; refine (copy_any a1 m c1 xd _ (HXA.out _ (by rfl)) (by omega)).mono ?_; rintro e w5 ⟨CB, cb, rfl, hco, hb5⟩; rw [HDL.out] at hco ⊢; have hk5 : w5.heap[wP.heap.size]? = wA.heap[wP.heap.size]? := hb5.block _ (show wP.heap.size < wA.heap.size by omega); have hpc5 := HPC.out w5 hk5; have hs5 : wA.heap.size ≤ w5.heap.size := hb5.size; have HK5 := mkHid hk5; have HT5 := mkHid (HAL.out.below (Below.mk hb5.os hb5.tape hb5.output hb5.size hb5.block)); have HCB := mkHid (show BS w5 w5.heap.size CB m xd from ⟨SL.of_own hco, HXB.out.2⟩); have HO1 := mkHid (show 0 < m → ∀ ad : Addr, CB = some ad → ¬ F1 ad.block from fun _ => own_out (base := wA.heap.size) hco fun b hb => by have := HF1.out b hb; omega); clear hco hb5 hk5))
            rename_i hheld
            clear hheld hpc5 z1 z2 z4
            obtain ⟨z1, z2, z4⟩ := HPC.out w6 HK6.out
            have HXA6 := mkHid (show ∀ Z : World, Z.heap = w6.heap → BS Z Z.heap.size a1 m xd from fun Z hZ => by
              have h1 := (HXB.out.below HT6.out.bel).more HT6.out.bel.size
              rw [hZ]
              exact h1.keep fun b _ => by rw [hZ])
            have HF62 := mkHid HT6.out.b.lt
            go_wp2_with fail
            go_region_held3 (fun s => s.cell? ⟨wP.heap.size, 1, none⟩ = some (.int .i64 xi) ∧ s.cell? ⟨wP.heap.size, 2, none⟩ = some (.int .i64 xs) ∧ s.cell? ⟨wP.heap.size, 4, none⟩ = some (.slice a1 m c1)) (first | assumption | exact ⟨z1, z2, z4⟩) (first
              | (go_at_call 10; (with_reducible refine (bwrite_any F2 g2 sb xi xs CB7 m cb7 xd w7 HT7.out.b HI1.out HI2.out HCB7.out HO7.out HDN.out.2 HFW.out.2).mono ?_); rintro e w8 ⟨v8, rfl, hv, ht8, F4, hb8, hF8⟩; have hpc8 := HPC.out w8 ((ht8.block _ (by omega) (fun hf => by have := HF2.out _ hf; omega)).trans HK7.out); have HT8 := mkHid (HT7.out.stepB ht8 hb8 hF8); clear hv ht8 hb8 hF8)
              | (go_at_call 11; refine (copy_any a1 m c1 xd _ (HXA6.out _ (by rfl)) (by omega)).mono ?_; rintro e w7 ⟨CB7, cb7, rfl, hco, hb7⟩; rw [HDL.out] at hco ⊢; have hk7 : w7.heap[wP.heap.size]? = wA.heap[wP.heap.size]? := (hb7.block _ (show wP.heap.size < w6.heap.size by omega)).trans HK6.out; have hpc7 := HPC.out w7 hk7; have hs7 : w6.heap.size ≤ w7.heap.size := hb7.size; have HK7 := mkHid hk7; have HT7 := mkHid (HT6.out.below (Below.mk hb7.os hb7.tape hb7.output hb7.size hb7.block)); have HCB7 := mkHid (show BS w7 w7.heap.size CB7 m xd from ⟨SL.of_own hco, HXB.out.2⟩); have HO7 := mkHid (show 0 < m → ∀ ad : Addr, CB7 = some ad → ¬ F2 ad.block from fun _ => own_out (base := w6.heap.size) hco fun b hb => HF62.out b hb); clear hco hb7 hk7))
            go_wp2_with fail
            go_roundw
            case rel => exact ⟨q + 1, F3, F4, _, _, by omega, by go_num, HT8, mkHid HCW.out.1, mkHid ⟨few_wrote HW.out.1, few_wrote HW.out.2⟩, mkHid (by have := HQ.out; have := HCW.out.2; omega)⟩
            case measure => simp [intOf]; omega
          by_cases h6 : xk = 6
          · subst h6
            obtain ⟨z1, _, _⟩ := HPC.out wA rfl
            have HDN := mkHid (show (0 ≤ sa.done ∧ sa.done ≤ 1000000) ∧ (0 ≤ sb.done ∧ sb.done ≤ 1000000) from by
              have h1 := HC.out.d0
              have h2 := HQ.out
              have h3 := HC.out.n0
              rcases HC.out.or with e | e
              · omega
              · omega)
            have HCW := mkHid (HC.out.flush xi)
            go_wp2_with fail
            clear hwA y4 y5 d0 d1 d2 d3 d4 d5
            have hal : Below wA.heap.size wA (wA.alloc (.cells #[.int .i64 xi] 3)) := (Below.refl _ _).alloc (Nat.le_refl _) _
            have HT5 := mkHid (HAL.out.below hal)
            have HIX := mkHid (show IS (wA.alloc (.cells #[.int .i64 xi] 3)) (wA.alloc (.cells #[.int .i64 xi] 3)).heap.size (some ⟨wA.heap.size, 0, none⟩) 1 [xi] from ⟨SL.of_block (heap_alloc_new wA _) rfl (by simp), fun x hx => by obtain rfl := List.mem_singleton.1 hx; exact HI1.out⟩)
            clear hal
            refine (bflush_any F1 g1 sa (some ⟨wA.heap.size, 0, none⟩) 1 1 [xi] _ HT5.out.a HIX.out (fun ad had hf => by
              injection had with had
              rw [← had] at hf
              have := HF1.out _ hf
              simp only at this
              omega) HDN.out.1 (by omega)).mono ?_
            rintro e w6 ⟨v, rfl, hv, ht6, F3, hb6, hF6⟩
            rw [flushA_one] at hb6
            have hs6 : wA.heap.size + 1 ≤ w6.heap.size := by have := ht6.size; simpa using this
            have hk6 : w6.heap[wP.heap.size]? = wA.heap[wP.heap.size]? := (ht6.block _ (by simp; omega) (fun hf => by have := HF1.out _ hf; omega)).trans (Below.heap_alloc _ _ _ (by omega))
            obtain ⟨z1, _, _⟩ := HPC.out w6 hk6
            have HT6 := mkHid (HT5.out.stepA ht6 hb6 hF6)
            clear hv ht6 hb6 hF6 hk6 HT5 HIX
            go_wp2_with fail
            have hal : Below w6.heap.size w6 (w6.alloc (.cells #[.int .i64 xi] 3)) := (Below.refl _ _).alloc (Nat.le_refl _) _
            have HT7 := mkHid (HT6.out.below hal)
            have HF62 := mkHid HT6.out.b.lt
            have HIX := mkHid (show IS (w6.alloc (.cells #[.int .i64 xi] 3)) (w6.alloc (.cells #[.int .i64 xi] 3)).heap.size (some ⟨w6.heap.size, 0, none⟩) 1 [xi] from ⟨SL.of_block (heap_alloc_new w6 _) rfl (by simp), fun x hx => by obtain rfl := List.mem_singleton.1 hx; exact HI1.out⟩)
            clear hal
            refine (bflush_any F2 g2 sb (some ⟨w6.heap.size, 0, none⟩) 1 1 [xi] _ HT7.out.b HIX.out (fun ad had hf => by
              injection had with had
              rw [← had] at hf
              have := HF62.out _ hf
              simp only at this
              omega) HDN.out.2 (by omega)).mono ?_
            rintro e w8 ⟨v8, rfl, hv, ht8, F4, hb8, hF8⟩
            rw [flushA_one] at hb8
            have HT8 := mkHid (HT7.out.stepB ht8 hb8 hF8)
            clear hv ht8 hb8 hF8 HT7 HIX
            go_wp2_with fail
            go_roundw
            case rel => exact ⟨q + 1, F3, F4, _, _, by omega, by go_num, HT8, mkHid HCW.out.1, mkHid ⟨few_more (few_flush1 HW.out.1) (Nat.le_succ q), few_more (few_flush1 HW.out.2) (Nat.le_succ q)⟩, mkHid (by have := HQ.out; have := HCW.out.2; omega)⟩
            case measure => simp [intOf]; omega
          have h5b : (xk == 5) = false := by simpa using h5
          have h6b : (xk == 6) = false := by simpa using h6
          go_wp2_with fail
          go_roundw
          case rel => exact ⟨q + 1, F1, F2, sa, sb, by omega, by go_num, HAL, HC, mkHid ⟨few_more HW.out.1 (Nat.le_succ q), few_more HW.out.2 (Nat.le_succ q)⟩, mkHid (by have := HQ.out; omega)⟩
          case measure => simp [intOf]; omega
        · obtain rfl : q = n := by omega
          have HD1 := mkHid (done_any F1 g1 sa wr HT.out.a)
          have HD2 := mkHid (done_any F2 g2 sb wr HT.out.b)
          have HDW := mkHid (down_any F2 g2 sb wr HT.out.b)
          have hq := HQ.out
          have hd0 := HC.out.d0
          have HOR := mkHid (show (sb.down = false ∧ sb.done = sa.done ∧ sa.done ≤ N) ∨ (sb.down = true ∧ sb.done = N ∧ N < sa.done) from by
            rcases HC.out.or with e | e
            · exact .inl ⟨e.1, e.2.2.2.1, e.2.2.2.2⟩
            · exact .inr e)
          clear HC HQ HW HX
          rcases HOR.out with ⟨h1, h2, h3⟩ | ⟨h1, h2, h3⟩
          · rw [h2] at HD2
            rw [h1] at HDW
            obtain ⟨D, hD⟩ : ∃ D, sa.done = D := ⟨_, rfl⟩
            rw [hD] at HD1 HD2 hq hd0 h3
            clear h1 h2 hD HOR
            have hne : (D != D) = false := by simp
            go_wp2_with fail
            refine HD2.out.mono ?_
            rintro e w3 ⟨rfl, rfl⟩
            go_wp2_with fail
            refine HD1.out.mono ?_
            rintro e w3 ⟨rfl, rfl⟩
            go_wp2_with fail
            refine HDW.out.mono ?_
            rintro e w3 ⟨rfl, rfl⟩
            go_wp2_with fail
            refine HD1.out.mono ?_
            rintro e w3 ⟨rfl, rfl⟩
            go_wp2_with fail
            refine HD1.out.mono ?_
            rintro e w3 ⟨rfl, rfl⟩
            go_wp2_with fail
            refine (HAW.out _).mono ?_
            rintro e w4 ⟨rfl, hb4⟩
            have HT4 := mkHid (HT.out.below hb4)
            clear hb4
            go_wp2_with fail
            go_ret
            exact ⟨rfl, HT4.out.bel⟩
          · rw [h2] at HD2
            rw [h1] at HDW
            obtain ⟨D, hD⟩ : ∃ D, sa.done = D := ⟨_, rfl⟩
            rw [hD] at HD1 hq hd0 h3
            clear h1 h2 hD HOR
            have hne : (N != N) = false := by simp
            go_wp2_with fail
            refine HD2.out.mono ?_
            rintro e w3 ⟨rfl, rfl⟩
            go_wp2_with fail
            refine HD1.out.mono ?_
            rintro e w3 ⟨rfl, rfl⟩
            go_wp2_with fail
            refine HDW.out.mono ?_
            rintro e w3 ⟨rfl, rfl⟩
            go_wp2_with fail
            refine HD1.out.mono ?_
            rintro e w3 ⟨rfl, rfl⟩
            go_wp2_with fail
            refine HD1.out.mono ?_
            rintro e w3 ⟨rfl, rfl⟩
            go_wp2_with fail
            refine (HAW.out _).mono ?_
            rintro e w4 ⟨rfl, hb4⟩
            have HT4 := mkHid (HT.out.below hb4)
            clear hb4
            go_wp2_with fail
            go_ret
            exact ⟨rfl, HT4.out.bel⟩

end Go.Proofs.Ytpoeneabhoajaaa
