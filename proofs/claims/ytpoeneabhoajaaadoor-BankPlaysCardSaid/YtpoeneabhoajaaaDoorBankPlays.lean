/- portagelaw04.BankPlays answers true. -/
import Derived.Test.YtpoeneabhoajaaaDoorBpD
import Derived.Test.YtpoeneabhoajaaaDoorOpsB
namespace Go.Proofs.YtpoeneabhoajaaaDoor
open Go.RowKit

set_option maxRecDepth 20000 in
set_option maxHeartbeats 8000000 in
theorem bankPlays_any (a : Option Addr) (n c : Nat) (xs : List Op) (w : World) (hE : ErrT w) (hx : OPS w w.heap.size a n xs) (hn : n ≤ c ∧ c ≤ 140737488351232) :
    Calls Tryd.prog 4 #[.slice a n c] w fun e w' => e = .returned (.bool true) ∧ Below w.heap.size w w' := by
  obtain ⟨hn1, hn2⟩ := hn
  have HAW := mkHid (fun W => awake_any W)
  have HE := mkHid hE
  have HX := mkHid hx
  clear hx hE
  go_enter Tryd.func4, Tryd.ntmps4
  go_wp2_with fail
  refine (newBank_any w).mono ?_
  rintro e w1 ⟨g1, F1, rfl, hd, hF, hb1⟩
  have HD1 := mkHid hd
  have HF1 := mkHid hF
  have HB1 := mkHid hb1
  clear hd hF hb1
  go_wp2_with fail
  refine (rnewBank_any w1).mono ?_
  rintro e w2 ⟨g2, F2, rfl, hd, hF, hb2⟩
  have HT := mkHid (show BB w w2 F1 F2 g1 g2 bst0 bst0 from
    ⟨HD1.out.below hb2, hd, HF1.out, fun x hx => Nat.le_trans HB1.out.size (hF x hx), fun x h1 h2 => by
      have := HD1.out.lt x h1
      have := hF x h2
      omega, HB1.out.trans (hb2.mono HB1.out.size)⟩)
  have HV := mkHid (show Inv 0 bst0 from ⟨(fun j ss hj => by simp [bst0] at hj), Int.le_refl _, by simp [bst0]⟩)
  clear hd hF hb2 HD1 HF1 HB1
  by_cases hlong : 150 < n
  · go_wp2_with fail
    refine (HAW.out _).mono ?_
    rintro e w3 ⟨rfl, hb3⟩
    have HT3 := mkHid (HT.out.below hb3)
    clear hb3
    go_wp2_with fail
    go_ret
    exact ⟨rfl, HT3.out.bel⟩
  go_wp2_with fail
  go_loopw [26] (fun i wr => ∃ (q : Nat) (F1 F2 : Nat → Prop) (s : Bst), q ≤ n ∧ i = .int .i64 q ∧ Hid (BB w wr F1 F2 g1 g2 s s) ∧ Hid (Inv q s)) (fun i _ => n - (intOf i).toNat)
  case atStart => exact ⟨0, F1, F2, _, Nat.zero_le _, rfl, HT, HV⟩
  case round =>
    clear HT HV
    obtain ⟨q, F1, F2, s, hq, rfl, HT, HV⟩ := hrel
    by_cases hlt : q < n
    · obtain ⟨b, o, x, a1, m, c1, a2, m', c2, rfl, hb, _, hI0, hI1, hI2, hI3, hca, hbs, hcb, his, d0, d1, d2, d3, d4, d5⟩ := (HX.out.below HT.out.bel).at_ hlt
      have HXB := mkHid (show BS w w.heap.size a1 m x.data from hbs.keep fun b hb => (HT.out.bel.block b hb).symm)
      have HXI := mkHid (show IS w w.heap.size a2 m' x.list from his.keep fun b hb => (HT.out.bel.block b hb).symm)
      have HI1 := mkHid hI1
      have HI2 := mkHid hI2
      have HI3 := mkHid hI3
      have HXX : ∃ xk xi xs xn xd xp, x = ⟨xk, xi, xs, xn, xd, xp⟩ := ⟨_, _, _, _, _, _, rfl⟩
      obtain ⟨xk, xi, xs', xn, xd, xp, rfl⟩ := HXX
      simp only at d0 d1 d2 d3 d4 d5
      have HCB := mkHid hcb
      obtain ⟨hca1, hca2, _⟩ := hca
      obtain ⟨hcb1, hcb2, _⟩ := hcb
      obtain ⟨wA, hwA⟩ : ∃ wA, wr.alloc (.cells #[.int .i64 xk, .int .i64 xi, .int .i64 xs', .int .i64 xn, .slice a1 m c1, .slice a2 m' c2] 39) = wA := ⟨_, rfl⟩
      have HAL := mkHid (show BB w wA F1 F2 g1 g2 s s by rw [← hwA]; exact HT.out.below ((Below.refl _ _).alloc (Nat.le_refl _) _))
      have hsA : wA.heap.size = wr.heap.size + 1 := by rw [← hwA]; simp
      have hbl : wA.heap[wr.heap.size]? = some (.cells #[.int .i64 xk, .int .i64 xi, .int .i64 xs', .int .i64 xn, .slice a1 m c1, .slice a2 m' c2] 39 (0, 0)) := by rw [← hwA]; exact heap_alloc_new _ _
      have HY := mkHid (show ∀ Z : World, Z.heap[wr.heap.size]? = wA.heap[wr.heap.size]? → Z.cell? ⟨wr.heap.size, 0, none⟩ = some (.int .i64 xk) ∧ Z.cell? ⟨wr.heap.size, 1, none⟩ = some (.int .i64 xi) ∧ Z.cell? ⟨wr.heap.size, 2, none⟩ = some (.int .i64 xs') ∧ Z.cell? ⟨wr.heap.size, 3, none⟩ = some (.int .i64 xn) ∧ Z.cell? ⟨wr.heap.size, 4, none⟩ = some (.slice a1 m c1) ∧ Z.cell? ⟨wr.heap.size, 5, none⟩ = some (.slice a2 m' c2) from fun Z hZ => ⟨cell_of_row Z _ 0 _ _ _ (hZ.trans hbl), cell_of_row Z _ 1 _ _ _ (hZ.trans hbl), cell_of_row Z _ 2 _ _ _ (hZ.trans hbl), cell_of_row Z _ 3 _ _ _ (hZ.trans hbl), cell_of_row Z _ 4 _ _ _ (hZ.trans hbl), cell_of_row Z _ 5 _ _ _ (hZ.trans hbl)⟩)
      obtain ⟨y0, y1, y2, y3, y4, y5⟩ := HY.out wA rfl
      clear hbs his hI0 hI1 hI2 hI3 hbl hb
      obtain ⟨wP, rfl⟩ : ∃ x : World, x = wr := ⟨wr, rfl⟩
      go_wp2_with fail
      clear hwA d0 d1 d2 d3 d4 d5
      refine (small_any xk xi xs' xn a1 m c1 a2 m' c2 wA).mono ?_
      rintro e w3 ⟨B, rfl, hB, hb3⟩
      have HT3 := mkHid (HAL.out.below hb3)
      obtain ⟨y0, y1, y2, y3, y4, y5⟩ := HY.out w3 (hb3.block _ (by omega))
      have HBS := mkHid hB
      clear hb3 hB
      cases B with
      | false =>
        go_wp2_with fail
        refine (HAW.out _).mono ?_
        rintro e w4 ⟨rfl, hb4⟩
        have HT4 := mkHid (HT3.out.below hb4)
        clear hb4
        go_wp2_with fail
        go_ret
        exact ⟨rfl, HT4.out.bel⟩
      | true =>
        go_wp2_with fail
        refine (step4_any F1 F2 g1 g2 q s xi xs' xn a1 m c1 xd a2 m' c2 xp w w3 xk ⟨HE.out, HT3.out, HV.out, by omega, HI1.out, HI2.out, HI3.out, HXB.out, (HBS.out (by first | rfl | trivial)).1, HXI.out, ⟨HCB.out.1, by have := HCB.out.2.1; unfold maxLen at this; omega⟩, (HBS.out (by first | rfl | trivial)).2⟩).mono ?_
        rintro e w4 ⟨rfl, F3, F4, s', hT4, hV4⟩
        have HT4 := mkHid hT4
        have HV4 := mkHid hV4
        clear hT4 hV4 y0 y1 y2 y3 y4 y5
        go_wp2_with fail
        refine (holds_any F3 F4 g1 g2 s' w w4 HT4.out).mono ?_
        rintro e w5 ⟨rfl, hb5⟩
        have HT5 := mkHid (HT4.out.below hb5)
        clear hb5
        go_wp2_with fail
        go_roundw
        case rel => exact ⟨q + 1, F3, F4, s', by omega, by go_num, HT5, HV4⟩
        case measure => simp [intOf]; omega
    · obtain rfl : q = n := by omega
      obtain ⟨A, k, C, ps, Fs, hbk⟩ := HT.out.b
      have cg := cell_of_row wr g2 0 _ _ _ hbk.blk
      have hn8 := hbk.n8
      obtain ⟨hcap1, hcap2⟩ := own_cap hbk.row
      have HBK := mkHid hbk
      simp at cg
      clear hbk
      obtain ⟨wP, rfl⟩ : ∃ x : World, x = wr := ⟨wr, rfl⟩
      go_wp2_with fail
      go_loopw [51] (fun i wr => ∃ p : Nat, p ≤ k ∧ i = .int .i64 p ∧ Hid (Below wP.heap.size wP wr)) (fun i _ => k - (intOf i).toNat)
      case atStart => exact ⟨0, Nat.zero_le _, rfl, mkHid (Below.refl _ _)⟩
      case round =>
        clear cg
        obtain ⟨p, hp, rfl, HBP⟩ := hrel
        by_cases hlp : p < k
        · have hb := HBK.out.below HBP.out
          obtain ⟨r, qo, rfl, hqo, hcell, _⟩ := hb.at_ hlp
          obtain ⟨od, hod⟩ : ∃ od, s.ds[p]? = some od := ⟨_, List.getElem?_eq_getElem (by rw [hb.len]; exact hlp)⟩
          cases od with
          | none =>
            have hno := hb.no p hod
            rw [hqo] at hno
            injection hno with hno
            subst hno
            simp only [ptrO] at hcell
            clear hb hqo hod
            obtain ⟨wO, rfl⟩ : ∃ x : World, x = wr := ⟨wr, rfl⟩
            go_wp2_with fail
            go_loopw [9] (fun i wr => i = .int .i64 0 ∧ wO = wr) (fun _ _ => 0)
            case atStart => exact ⟨rfl, rfl⟩
            case round =>
              obtain ⟨rfl, rfl⟩ := hrel
              go_wp2_with fail
              go_roundw
              case rel => exact ⟨p + 1, by omega, by go_num, HBP⟩
              case measure => simp [intOf]; omega
          | some ss =>
            obtain ⟨pp, hp', hdk⟩ := hb.dk p ss hod
            rw [hqo] at hp'
            injection hp' with hp'
            subst hp'
            simp only [ptrO, ptrV] at hcell
            obtain ⟨A3, n3, c3, cs3, hr3⟩ := hdk
            have hnl := hr3.nl
            have d0 := cell_of_row wr pp 0 _ _ _ hr3.blk
            have hpl := hr3.lt pp hr3.fg
            have HKD := mkHid (show ∀ Z : World, Below wr.heap.size wr Z → Z.cell? ⟨pp, 0, none⟩ = some (.slice A3 n3 c3) from fun Z hZ => (hZ.cell (p := ⟨pp, 0, none⟩) hpl).trans d0)
            simp at d0
            clear hb hqo hod hr3 d0 hpl
            obtain ⟨wO, rfl⟩ : ∃ x : World, x = wr := ⟨wr, rfl⟩
            go_wp2_with fail
            go_loopw [9] (fun i wr => ∃ j : Nat, j ≤ n3 ∧ i = .int .i64 j ∧ Hid (Below wO.heap.size wO wr)) (fun i _ => n3 - (intOf i).toNat)
            case atStart => exact ⟨0, Nat.zero_le _, rfl, mkHid (Below.refl _ _)⟩
            case round =>
              obtain ⟨j, hj, rfl, HBJ⟩ := hrel
              have d0 := HKD.out wr HBJ.out
              by_cases hlj : j < n3
              · have HTJ := mkHid ((HT.out.below HBP.out).below HBJ.out)
                go_wp2_with fail
                refine (step4_read F1 F2 g1 g2 q s p j 0 none 0 0 [] none 0 0 [] w wr ⟨HE.out, HTJ.out, HV.out, by omega, ⟨by omega, by omega⟩, ⟨by omega, by omega⟩, ⟨by omega, by omega⟩, BS.nil, by omega, IS.nil, ⟨by omega, by omega⟩, by omega⟩).mono ?_
                rintro e w4 ⟨rfl, hb4⟩
                have HB4 := mkHid (HBJ.out.trans (hb4.mono HBJ.out.size))
                clear hb4 d0
                go_wp2_with fail
                go_roundw
                case rel => exact ⟨j + 1, by omega, by go_num, HB4⟩
                case measure => simp [intOf]; omega
              · obtain rfl : j = n3 := by omega
                go_wp2_with fail
                go_roundw
                case rel => exact ⟨p + 1, by omega, by go_num, mkHid (HBP.out.trans (HBJ.out.mono HBP.out.size))⟩
                case measure => simp [intOf]; omega
        · obtain rfl : p = k := by omega
          go_wp2_with fail
          refine (HAW.out _).mono ?_
          rintro e w3 ⟨rfl, hb3⟩
          have HT3 := mkHid ((HT.out.below HBP.out).below hb3)
          clear hb3
          go_wp2_with fail
          go_ret
          exact ⟨rfl, HT3.out.bel⟩

end Go.Proofs.YtpoeneabhoajaaaDoor
