/- portagelaw03.DiskPlays answers true. -/
import Derived.Test.YtpponofbkkikfaaDpE
import Derived.Deep.CutBlock
namespace Go.Proofs.Ytpponofbkkikfaa
open Go.RowKit

theorem zero_all (n q : Nat) : ∀ s ∈ List.replicate n sec0, s.wait.length ≤ q := fun s hs => by
  rw [List.eq_of_mem_replicate hs]
  exact Nat.zero_le _

set_option maxRecDepth 20000 in
set_option maxHeartbeats 8000000 in
theorem diskPlays_any (sn : Int) (a : Option Addr) (n c : Nat) (xs : List Op) (w : World) (hs : I64 sn) (hx : OPS w w.heap.size a n xs) (hn : n ≤ c ∧ c ≤ 140737488351232) :
    Calls Try.prog 8 #[.int .i64 sn, .slice a n c] w fun e w' => e = .returned (.bool true) ∧ Below w.heap.size w w' := by
  obtain ⟨hn1, hn2⟩ := hn
  have HAW := mkHid (fun W => awake_any W)
  by_cases hbad : sn < 1 ∨ 4096 < sn
  · have HN := mkHid (newDisk_no sn w hs hbad)
    have HR := mkHid (rnew_no sn w hs hbad)
    have HI20 := mkHid (show ∀ W, Calls Try.prog 20 #[codeV 20, .int .i64 20] W fun e w' => e = .returned (.bool true) ∧ W = w' from fun W => (is_code 20 20 W).mono fun e w' h => by simpa using h)
    clear hx hs hbad
    go_enter Try.func8, Try.ntmps8
    go_wp2_with fail
    refine HN.out.mono ?_
    rintro e w1 ⟨rfl, rfl⟩
    go_wp2_with fail
    refine HR.out.mono ?_
    rintro e w1 ⟨rfl, rfl⟩
    go_wp2_with fail
    refine (HI20.out w).mono ?_
    rintro e w1 ⟨rfl, rfl⟩
    go_wp2_with fail
    refine (HAW.out w).mono ?_
    rintro e w1 ⟨rfl, hb1⟩
    have HB := mkHid hb1
    clear hb1
    go_wp2_with fail
    go_ret
    exact ⟨rfl, HB.out⟩
  obtain ⟨N, rfl⟩ := Int.eq_ofNat_of_zero_le (show 0 ≤ sn by omega)
  have HN := mkHid (newDisk_any N w (by omega) (by omega))
  have HR := mkHid (fun W => rnew_any N W (by omega) (by omega))
  clear hbad hs
  have HX := mkHid hx
  clear hx
  go_enter Try.func8, Try.ntmps8
  go_wp2_with fail
  refine HN.out.mono ?_
  rintro e w1 ⟨g1, F1, rfl, hd, hF, hb1⟩
  have HD1 := mkHid hd
  have HF1 := mkHid hF
  have HB1 := mkHid hb1
  clear hd hF hb1 HN
  go_wp2_with fail
  refine (HR.out w1).mono ?_
  rintro e w2 ⟨g2, F2, rfl, hd, hF, hb2⟩
  have HT := mkHid (show TD w w2 F1 F2 g1 g2 0 (List.replicate N sec0) (List.replicate N sec0) from
    ⟨HD1.out.below hb2, hd, HF1.out, fun x hx => Nat.le_trans HB1.out.size (hF x hx), fun x h1 h2 => by
      have := HD1.out.lt x h1
      have := hF x h2
      omega, HB1.out.trans (hb2.mono HB1.out.size), zero_all N 0, zero_all N 0⟩)
  clear hd hF hb2 HR HD1 HF1 HB1
  by_cases hbig : 64 < N
  · go_wp2_with fail
    refine (HAW.out _).mono ?_
    rintro e w3 ⟨rfl, hb3⟩
    have HT3 := mkHid (HT.out.below hb3)
    clear hb3
    go_wp2_with fail
    go_ret
    exact ⟨rfl, HT3.out.bel⟩
  by_cases hlong : 150 < n
  · go_wp2_with fail
    refine (HAW.out _).mono ?_
    rintro e w3 ⟨rfl, hb3⟩
    have HT3 := mkHid (HT.out.below hb3)
    clear hb3
    go_wp2_with fail
    go_ret
    exact ⟨rfl, HT3.out.bel⟩
  go_wp2_with fail
  go_loopw [56, 8] (fun i gr wr => ∃ (q : Nat) (F1 F2 : Nat → Prop) (ss : List Sec) (G : Int), q ≤ n ∧ i = .int .i64 q ∧ gr = .int .i64 G ∧ 0 ≤ G ∧ G ≤ q * 100 ∧ Hid (TD w wr F1 F2 g1 g2 q ss ss)) (fun i _ _ => n - (intOf i).toNat)
  case atStart => exact ⟨0, F1, F2, _, 0, Nat.zero_le _, rfl, rfl, by omega, by omega, HT⟩
  case round =>
    clear HT
    obtain ⟨q, F1, F2, ss, G, hq, rfl, rfl, hG0, hG1, HT⟩ := hrel
    by_cases hlt : q < n
    · obtain ⟨b, o, x, a1, m, c1, a2, m', c2, rfl, hb, _, hI0, hI1, hI2, hca, hbs, hcb, his, d0, d1, d2, d3, d4⟩ := (HX.out.below HT.out.bel).at_ hlt
      have HXB := mkHid (show BS w w.heap.size a1 m x.data from hbs.keep fun b hb => (HT.out.bel.block b hb).symm)
      have HXI := mkHid (show IS w w.heap.size a2 m' x.picks from his.keep fun b hb => (HT.out.bel.block b hb).symm)
      have HI1 := mkHid hI1
      have HI2 := mkHid hI2
      have HXX : ∃ xk xi xn xd xp, x = ⟨xk, xi, xn, xd, xp⟩ := ⟨_, _, _, _, _, rfl⟩
      obtain ⟨xk, xi, xn, xd, xp, rfl⟩ := HXX
      simp only at d0 d1 d2 d3 d4 hI0 hI2
      obtain ⟨hca1, hca2, _⟩ := hca
      obtain ⟨hcb1, hcb2, _⟩ := hcb
      obtain ⟨hn0, hn9⟩ := hI2
      obtain ⟨wA, hwA⟩ : ∃ wA, wr.alloc (.cells #[.int .i64 xk, .int .i64 xi, .int .i64 xn, .slice a1 m c1, .slice a2 m' c2] 32) = wA := ⟨_, rfl⟩
      have HAL := mkHid (show TD w wA F1 F2 g1 g2 q ss ss by rw [← hwA]; exact HT.out.below ((Below.refl _ _).alloc (Nat.le_refl _) _))
      have hsA : wA.heap.size = wr.heap.size + 1 := by rw [← hwA]; simp
      have hbl : wA.heap[wr.heap.size]? = some (.cells #[.int .i64 xk, .int .i64 xi, .int .i64 xn, .slice a1 m c1, .slice a2 m' c2] 32 (0, 0)) := by rw [← hwA]; exact heap_alloc_new _ _
      have y0 : wA.cell? ⟨wr.heap.size, 0, none⟩ = some (.int .i64 xk) := cell_of_row wA _ 0 _ _ _ hbl
      have y1 : wA.cell? ⟨wr.heap.size, 1, none⟩ = some (.int .i64 xi) := cell_of_row wA _ 1 _ _ _ hbl
      have y2 : wA.cell? ⟨wr.heap.size, 2, none⟩ = some (.int .i64 xn) := cell_of_row wA _ 2 _ _ _ hbl
      have y3 : wA.cell? ⟨wr.heap.size, 3, none⟩ = some (.slice a1 m c1) := cell_of_row wA _ 3 _ _ _ hbl
      have y4 : wA.cell? ⟨wr.heap.size, 4, none⟩ = some (.slice a2 m' c2) := cell_of_row wA _ 4 _ _ _ hbl
      have HBL := mkHid hbl
      have HF1 := mkHid HT.out.a.lt
      have HF2 := mkHid HT.out.b.lt
      clear hbs his hI1 hI0 hbl
      obtain ⟨wP, rfl⟩ : ∃ x : World, x = wr := ⟨wr, rfl⟩
      go_upto_region 13 with (fail)
      clear hwA d0 d1 d2 d3 d4
      go_cut [67] (fun v wd => (∃ B : Bool, v = .bool B ∧ Hid (B = true → 0 < xn)) ∧ wA = wd)
      case first =>
        by_cases h4 : xk = 4
        · go_wp2_with fail
          go_meet
          case rel => exact ⟨⟨_, rfl, mkHid fun h => by simpa using h⟩, rfl⟩
        · go_wp2_with fail
          go_meet
          case rel => exact ⟨⟨_, rfl, mkHid fun h => by cases h⟩, rfl⟩
      case rest =>
      obtain ⟨⟨B, rfl, HBP⟩, rfl⟩ := hcut
      go_upto_if 67 with (fail)
      go_cut [8] (fun gr wd => (∃ G' : Int, gr = .int .i64 G' ∧ 0 ≤ G' ∧ G' ≤ (q + 1) * 100) ∧ wA = wd)
      case first =>
        cases B with
        | true =>
          have hp := HBP.out rfl
          by_cases h100 : xn ≤ 100
          · go_wp2_with fail
            go_meet
            case rel => exact ⟨⟨_, rfl, by omega, by omega⟩, rfl⟩
          · go_wp2_with fail
            go_meet
            case rel => exact ⟨⟨_, rfl, by omega, by omega⟩, rfl⟩
        | false =>
          go_wp2_with fail
          go_meet
          case rel => exact ⟨⟨G, rfl, by omega, by omega⟩, rfl⟩
      case rest =>
      obtain ⟨⟨G', rfl, hG2, hG3⟩, rfl⟩ := hcut
      clear hG0 hG1 HBP
      by_cases hm : 1000 < m
      · go_wp2_with fail
        refine (HAW.out _).mono ?_
        rintro e w3 ⟨rfl, hb3⟩
        have HT3 := mkHid (HAL.out.below hb3)
        clear hb3
        go_wp2_with fail
        go_ret
        exact ⟨rfl, HT3.out.bel⟩
      by_cases hm' : 1000 < m'
      · go_wp2_with fail
        refine (HAW.out _).mono ?_
        rintro e w3 ⟨rfl, hb3⟩
        have HT3 := mkHid (HAL.out.below hb3)
        clear hb3
        go_wp2_with fail
        go_ret
        exact ⟨rfl, HT3.out.bel⟩
      by_cases hgr : 100 < G' ∧ xk = 4 ∧ xn < 4096
      · obtain ⟨hg1, rfl, hg3⟩ := hgr
        go_wp2_with fail
        refine (HAW.out _).mono ?_
        rintro e w3 ⟨rfl, hb3⟩
        have HT3 := mkHid (HAL.out.below hb3)
        clear hb3
        go_wp2_with fail
        go_ret
        exact ⟨rfl, HT3.out.bel⟩
      have hma : ¬ (1000 : Int) < (m : Int) := by omega
      have hmb : ¬ (1000 : Int) < (m' : Int) := by omega
      go_upto_region 15 with (fail)
      go_cut [96] (fun v wd => v = .bool false ∧ wA = wd)
      case first =>
        by_cases hg : 100 < G'
        · by_cases h4 : xk = 4
          · have hk : ¬ xn < 4096 := fun e => hgr ⟨hg, h4, e⟩
            subst h4
            go_wp2_with fail
            go_meet
            case rel => exact ⟨rfl, rfl⟩
          · have h4b : (xk == 4) = false := by simpa using h4
            go_wp2_with fail
            go_meet
            case rel => exact ⟨rfl, rfl⟩
        · go_wp2_with fail
          go_meet
          case rel => exact ⟨rfl, rfl⟩
      case rest =>
      obtain ⟨rfl, rfl⟩ := hcut
      clear hgr
      go_wp2_with fail
      refine (step_any F1 F2 g1 g2 q ss ⟨xk, xi, xn, xd, xp⟩ a1 m c1 a2 m' c2 w wA HAL.out (by omega) HI1.out HI2.out HXB.out (by omega) HXI.out ⟨hcb1, by unfold maxLen at hcb2; omega⟩ (by omega)).mono ?_
      rintro e w3 ⟨rfl, F3, F4, S, ht3⟩
      have hk3 : w3.heap[wP.heap.size]? = wA.heap[wP.heap.size]? := ht3.u.block _ (by omega) fun hf => by
        rcases hf with e | e
        · have := HF1.out _ e; omega
        · have := HF2.out _ e; omega
      have hz3 : wP.heap.size < w3.heap.size := by have := ht3.u.size; omega
      have HOB := mkHid (show ∀ Z : World, Below w3.heap.size w3 Z → Z.cell? ⟨wP.heap.size, 1, none⟩ = some (.int .i64 xi) from fun Z hZ => cell_of_row Z _ 1 _ _ _ ((hZ.block _ hz3).trans (hk3.trans HBL.out)))
      have HT3 := mkHid ht3.toTD
      have z1 := HOB.out w3 (Below.refl _ _)
      clear ht3 hk3 y0 y1 y2 y3 y4
      go_wp2_with fail
      refine (read_all F3 g1 S xi w3 HT3.out.a HI1.out).mono ?_
      rintro e w4 ⟨A4, k, c4, hk, hk1, rfl, ho4, hok, hb4⟩
      have HT4 := mkHid (HT3.out.below hb4)
      have HK := mkHid hk
      have HO4 := mkHid ho4
      have HOK := mkHid hok
      have HB4 := mkHid hb4
      have z1 := HOB.out w4 hb4
      clear hk ho4 hok hb4
      go_wp2_with fail
      refine (rread_all F4 g2 S xi w4 HT4.out.b HI1.out).mono ?_
      rintro e w5 ⟨A5, k5, c5, hk5, rfl, hbs5, hb5⟩
      obtain rfl : k5 = k := hk5.trans HK.out.symm
      have HT5 := mkHid (HT4.out.below hb5)
      have HB5 := mkHid (HB4.out.trans (hb5.mono HB4.out.size))
      have HO5 := mkHid (own_below HO4.out hb5)
      have hbx5 : BS w5 w5.heap.size A4 k5 (rdL S xi) := ⟨SL.of_own HO5.out, HOK.out⟩
      have HSM := mkHid (show ∀ Z : World, Below w5.heap.size w5 Z → Calls Try.prog 16 #[.slice A4 k5 c4, .slice A5 k5 c5] Z (fun e w' => e = .returned (.bool true) ∧ Z = w') from fun Z hZ => (same_any A4 A5 k5 k5 c4 c5 _ _ (rdL S xi) (rdL S xi) Z (hbx5.below hZ) (hbs5.below hZ)).mono fun e w' h => by rw [decide_eq_true rfl] at h; exact h)
      have HSZ := mkHid (show ∀ Z : World, Below w5.heap.size w5 Z → Calls Try.prog 23 #[.pointer (some ⟨g1, 0, none⟩)] Z (fun e w' => e = .returned (.int .i64 S.length) ∧ Z = w') from fun Z hZ => size_any F3 g1 S Z (HT5.out.a.below hZ))
      have HPN := mkHid (show ∀ Z : World, Below w5.heap.size w5 Z → Calls Try.prog 18 #[.pointer (some ⟨g1, 0, none⟩)] Z (RetI Z (pend S)) from fun Z hZ => pending_any F3 g1 S Z (HT5.out.a.below hZ))
      have HRP := mkHid (show ∀ Z : World, Below w5.heap.size w5 Z → Calls Try.prog 28 #[.pointer (some ⟨g2, 0, none⟩)] Z (RetI Z (pend S)) from fun Z hZ => rpending_any F4 g2 S Z (HT5.out.b.below hZ))
      have hSl := HT5.out.b.nl
      have hpl : (pend S).length ≤ 4096 := Nat.le_trans (pendN_len S _) hSl
      have HPO := mkHid (pendN_ok S S.length hSl)
      obtain ⟨A2, n2, cc2, cs2, hrd⟩ := HT5.out.b
      obtain rfl : S.length = n2 := hrd.len
      have hg2 := hrd.lt g2 hrd.fg
      have HC2 := mkHid (show ∀ Z : World, Below w5.heap.size w5 Z → Z.cell? ⟨g2, 0, none⟩ = some (.slice A2 S.length cc2) from fun Z hZ => cell_of_row Z g2 0 _ _ _ ((hZ.block g2 hg2).trans hrd.blk))
      have cg := HC2.out w5 (Below.refl _ _)
      have hne : (((S.length : Int)) != (S.length : Int)) = false := by simp
      clear hb5 hbs5 hbx5 hk5 hrd hg2 z1
      go_wp2_with fail
      go_region_held3 (fun Z => Z.cell? ⟨g2, 0, none⟩ = some (.slice A2 S.length cc2)) (first | assumption | exact HC2.out _ HBU.out | exact HC2.out _ HBU.out.drew | exact cg | exact HC2.out _ (by first | exact HBY.out | exact HBY.out.drew | exact (Below.refl _ _).drew | exact Below.refl _ _)) (first
        | (go_at_call 20; (with_reducible refine (is_r S xi _).mono ?_); rintro e wq ⟨rfl, rfl⟩)
        | (go_at_call 16; (with_reducible refine (HSM.out _ (by first | exact HBY.out | exact HBY.out.drew | exact (Below.refl _ _).drew | exact Below.refl _ _)).mono ?_); rintro e wq ⟨rfl, rfl⟩)
        | (go_at_call 23; (with_reducible refine (HSZ.out _ (by first | exact HBY.out | exact HBY.out.drew | exact (Below.refl _ _).drew | exact Below.refl _ _)).mono ?_); rintro e wq ⟨rfl, rfl⟩)
        | (go_at_call 24; refine (ints_any PA RA (pend S).length (pend S).length pc rc (pend S) (pend S) _ (HIP.out _ (by rfl)) (HIR.out _ (by rfl)) (by omega) rfl).mono ?_; rintro e wu ⟨rfl, hbu⟩; have HBU := mkHid (HBY.out.trans ((Below.mk hbu.os hbu.tape hbu.output hbu.size hbu.block : Below wz.heap.size wz wu).mono HBY.out.size)); have hcu := HC2.out wu HBU.out; clear hbu)
        | (go_at_call 28; (with_reducible refine (HRP.out _ (by first | exact HBY.out | exact HBY.out.drew | exact (Below.refl _ _).drew | exact Below.refl _ _)).mono ?_); rintro e wz ⟨RA, rc, rfl, hor, hbz⟩; have HIP := mkHid (show ∀ Z : World, Z.heap = wz.heap → IS Z Z.heap.size PA (pend S).length (pend S) from fun Z hZ => ((show IS wz wz.heap.size PA (pend S).length (pend S) from ⟨SL.of_own (own_below HOP.out (Below.mk hbz.os hbz.tape hbz.output hbz.size hbz.block : Below wy.heap.size wy wz)), HPO.out⟩).keep (w' := Z) fun b _ => by rw [hZ]).more (by rw [hZ]; exact Nat.le_refl _)); have HIR := mkHid (show ∀ Z : World, Z.heap = wz.heap → IS Z Z.heap.size RA (pend S).length (pend S) from fun Z hZ => ((show IS wz wz.heap.size RA (pend S).length (pend S) from ⟨SL.of_own hor, HPO.out⟩).keep (w' := Z) fun b _ => by rw [hZ]).more (by rw [hZ]; exact Nat.le_refl _)); have HBZ := mkHid (HBY.out.trans ((Below.mk hbz.os hbz.tape hbz.output hbz.size hbz.block : Below wy.heap.size wy wz).mono HBY.out.size)); clear HBY; have HBY := HBZ; have hcz := HC2.out wz HBY.out; clear hor hbz)
        | (go_at_call 18; (with_reducible refine (HPN.out _ (by first | exact HBY.out | exact HBY.out.drew | exact (Below.refl _ _).drew | exact Below.refl _ _)).mono ?_); rintro e wy ⟨PA, pc, rfl, hop, hby⟩; have HBY := mkHid (show Below w5.heap.size w5 wy from Below.mk hby.os hby.tape hby.output hby.size hby.block); have HOP := mkHid hop; have hcy := HC2.out wy HBY.out; clear hop hby))
      obtain ⟨wV, rfl⟩ : ∃ W : World, W = wu := ⟨_, rfl⟩
      have HBV := mkHid HBU.out
      have HT6 := mkHid (HT5.out.below HBV.out)
      have HB6 := mkHid (HB5.out.trans (HBV.out.mono HB5.out.size))
      have HO6 := mkHid (own_below HO5.out HBV.out)
      have z1 := HOB.out wV HB6.out
      rename_i hheld
      clear hheld hcu
      go_upto_if 148 with (go_at_call 29; (with_reducible refine (rhas_any F4 g2 S xi wV HT6.out.b HI1.out).mono ?_); rintro e wq ⟨rfl, rfl⟩)
      go_cut [15] (fun v wd => v = .int .i64 (wtN S xi) ∧ Hid (Below wV.heap.size wV wd))
      case first =>
        cases hh : hasOf S.length xi with
        | false =>
          have HN := mkHid (rd_no hh).2.2.2
          clear hh
          go_wp2_with fail
          go_meet
          case rel => exact ⟨by rw [HN.out]; rfl, mkHid (Below.refl _ _)⟩
        | true =>
          obtain ⟨i, rfl, hi⟩ := hasOf_nat hh
          obtain ⟨A3, n3, c3, cs3, hr3⟩ := HT6.out.b
          obtain rfl : S.length = n3 := hr3.len
          obtain ⟨r, s, va, vc, rfl, hs', q0, _, _, _, _, _, _⟩ := hr3.at_ hi
          have c0 := cell_of_row wV g2 0 _ _ _ hr3.blk
          simp at c0
          obtain ⟨hcc1, hcc2⟩ := own_cap hr3.row
          have HWT := mkHid (wt_ok hs')
          have hwl : s.wait.length ≤ 1000000 := by have := HT6.out.wb s (List.mem_of_getElem? hs'); omega
          generalize s.wait.length = kw at *
          have hwr : IntKind.i64.wrap ((kw : Int) + 1 - 1) = (kw : Int) := by rw [IntKind.wrap_i64]; omega
          have hwr2 : IntKind.i64.wrap (kw : Int) = (kw : Int) := by rw [IntKind.wrap_i64]; omega
          have hi0 : (0 : Int) ≤ (i : Int) := by omega
          have hi1 : (i : Int) < (S.length : Int) := by omega
          have HS0 := mkHid (And.intro c0 (And.intro z1 q0))
          clear hh hs' hr3
          go_wp2_with fail
          go_region_held3 (fun Z => Z.cell? ⟨g2, 0, none⟩ = some (.slice (some ⟨r, 0, none⟩) S.length c3) ∧ Z.cell? ⟨wP.heap.size, 1, none⟩ = some (.int .i64 (i : Int)) ∧ Z.cell? ⟨r, i * 2, none⟩ = some (.slice va (kw + 1) vc)) (first | exact HS0.out | assumption) (fail)
          go_wp2_with fail
          go_meet
          case rel => exact ⟨by rw [HWT.out], mkHid (Below.refl _ _).drew⟩
      case rest =>
      obtain ⟨rfl, HBX⟩ := hcut
      obtain ⟨wX, rfl⟩ : ∃ W : World, W = wc := ⟨_, rfl⟩
      have HT7 := mkHid (HT6.out.below HBX.out)
      have HB7 := mkHid (HB6.out.trans (HBX.out.mono HB6.out.size))
      have HO7 := mkHid (own_below HO6.out HBX.out)
      have HT3L := mkHid (And.intro HT3.out.a.lt HT3.out.b.lt)
      have HA3 := mkHid (show ∀ b, F3 b → (Value.slice A4 k5 c4).ownBlock ≠ some b from fun b hb e => by have := (HO7.out.lt b e).1; have := HT3L.out.1 b hb; omega)
      have HA4 := mkHid (show ∀ b, F4 b → (Value.slice A4 k5 c4).ownBlock ≠ some b from fun b hb e => by have := (HO7.out.lt b e).1; have := HT3L.out.2 b hb; omega)
      have HSW := mkHid HT3.out.bel.size
      have z1 := HOB.out wX HB7.out
      have hne2 : (((wtN S xi : Nat) : Int) != ((wtN S xi : Nat) : Int)) = false := by simp
      clear HSM HSZ HPN HRP HOP HIP HIR HBZ HBY HBU HBV HC2 HBX HT6 HO6 HT5 HT4 HO5 HO4 hne
      go_wp2_with fail
      refine (wait_all F3 g1 S xi wX HT7.out.a HI1.out).mono ?_
      rintro e wq ⟨rfl, rfl⟩
      go_wp2_with fail
      go_loopw [168] (fun i wr => ∃ t : Nat, t ≤ k5 ∧ i = .int .i64 t ∧ Hid (OW wX wr w3.heap.size A4 k5 c4)) (fun i _ => k5 - (intOf i).toNat)
      case atStart => exact ⟨0, Nat.zero_le _, rfl, mkHid (OW.start HO7.out HOK.out)⟩
      case round =>
        obtain ⟨t, ht, rfl, HOW⟩ := hrel
        by_cases hlt2 : t < k5
        · obtain ⟨gi, x, rfl, hcell, hfrz, hx0, hx1⟩ := HOW.out.cells hlt2
          go_wp2_with fail
          go_roundw
          case rel => exact ⟨t + 1, by omega, by go_num, mkHid (HOW.out.set hlt2 (by omega) (by omega))⟩
          case measure => simp [intOf]; omega
        · obtain rfl : t = k5 := by omega
          have HT8 := mkHid (HT7.out.over HOW.out HSW.out HA3.out HA4.out)
          go_wp2_with fail
          go_roundw
          case rel => exact ⟨q + 1, F3, F4, S, G', by omega, by go_num, rfl, hG2, by omega, HT8⟩
          case measure => simp [intOf]; omega
    · obtain rfl : q = n := by omega
      have hSl := HT.out.b.nl
      obtain ⟨A2, n2, cc2, cs2, hrd⟩ := HT.out.b
      obtain rfl : ss.length = n2 := hrd.len
      have cg := cell_of_row wr g2 0 _ _ _ hrd.blk
      simp at cg
      clear hrd
      obtain ⟨wP, rfl⟩ : ∃ x : World, x = wr := ⟨wr, rfl⟩
      go_wp2_with fail
      go_loopw [181] (fun i wr => ∃ p : Nat, p ≤ ss.length ∧ i = .int .i64 p ∧ Hid (TD w wr F1 F2 g1 g2 q ss ss)) (fun i _ => ss.length - (intOf i).toNat)
      case atStart => exact ⟨0, Nat.zero_le _, rfl, HT⟩
      case round =>
        clear HT cg
        obtain ⟨p, hp, rfl, HT⟩ := hrel
        by_cases hlp : p < ss.length
        · have HIP := mkHid (show I64 (p : Int) from ⟨by omega, by omega⟩)
          go_wp2_with fail
          refine (read_all F1 g1 ss p wr HT.out.a HIP.out).mono ?_
          rintro e w4 ⟨A4, k, c4, hk, hk1, rfl, ho4, hok, hb4⟩
          have HT4 := mkHid (HT.out.below hb4)
          have HK := mkHid hk
          have HO4 := mkHid ho4
          have HOK := mkHid hok
          clear hk ho4 hok hb4
          go_wp2_with fail
          refine (rread_all F2 g2 ss p w4 HT4.out.b HIP.out).mono ?_
          rintro e w5 ⟨A5, k5, c5, hk5, rfl, hbs5, hb5⟩
          obtain rfl : k5 = k := hk5.trans HK.out.symm
          have HT5 := mkHid (HT4.out.below hb5)
          have HO5 := mkHid (own_below HO4.out hb5)
          have HBS5 := mkHid hbs5
          clear hb5 hbs5 hk5
          go_wp2_with fail
          refine (is_r ss p w5).mono ?_
          rintro e wq ⟨rfl, rfl⟩
          go_wp2_with fail
          refine (same_any A4 A5 k5 k5 c4 c5 _ _ (rdL ss p) (rdL ss p) w5 ⟨SL.of_own HO5.out, HOK.out⟩ HBS5.out).mono ?_
          rintro e wq ⟨rfl, rfl⟩
          rw [decide_eq_true rfl]
          go_wp2_with fail
          go_roundw
          case rel => exact ⟨p + 1, by omega, by go_num, HT5⟩
          case measure => simp [intOf]; omega
        · obtain rfl : p = ss.length := by omega
          go_wp2_with fail
          refine (HAW.out _).mono ?_
          rintro e w3 ⟨rfl, hb3⟩
          have HT3 := mkHid (HT.out.below hb3)
          clear hb3
          go_wp2_with fail
          go_ret
          exact ⟨rfl, HT3.out.bel⟩

end Go.Proofs.Ytpponofbkkikfaa
