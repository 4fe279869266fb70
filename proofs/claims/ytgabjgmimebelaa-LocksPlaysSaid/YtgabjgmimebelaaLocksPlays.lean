/- portagelaw15.LocksPlays answers true. -/
import Derived.Test.YtgabjgmimebelaaLkE
import Derived.Deep.CutBlock
namespace Go.Proofs.Ytgabjgmimebelaa
open Go.RowKit Go.Shelf

set_option maxRecDepth 20000 in
set_option maxHeartbeats 8000000 in
theorem locksPlays_any (a : Option Addr) (n c : Nat) (ls : List LOp) (w : World) (hx : LOPS w w.heap.size a n ls) (hn : n ≤ c ∧ c * 40 ≤ 140737488351232) :
    Calls Try.prog 8 #[.slice a n c] w fun e w' => e = .returned (.bool true) ∧ Below w.heap.size w w' := by
  obtain ⟨hn1, hn2⟩ := hn
  go_enter Try.func8, Try.ntmps8
  go_wp2_with fail
  refine (new_any w).mono ?_
  rintro e w1 ⟨rfl, ht1, hb1⟩
  have HR := mkHid (show AT w w1 (fun b => b = w.heap.size) w.heap.size none 0 0 [] [] [] 0 from ⟨⟨World.ownsRow_nil _ _ _ _, rfl, fun j e he => by simp at he, fun r hr => by cases hr⟩, ht1, fun b hb => by omega, hb1⟩)
  clear ht1 hb1
  by_cases hbig : 80 < n
  · go_wp2_with fail
    refine (awake_any _).mono ?_
    rintro e w2 ⟨rfl, hb2⟩
    go_wp2_with fail
    go_ret
    exact ⟨rfl, HR.out.bel.trans (hb2.mono HR.out.bel.size)⟩
  have HX := mkHid hx
  clear hx
  go_wp2_with fail
  go_loopw [39, 4, 5] (fun i all last wr => ∃ (q : Nat) (F : Nat → Prop) (A : Option Addr) (m C : Nat) (cells : List Value) (es : List En) (la : Nat), q ≤ n ∧ i = .int .i64 q ∧ all = .slice A m C ∧ last = .int .i64 la ∧ m ≤ q ∧ la ≤ q ∧ Hid (NumOk es la) ∧ Hid (AT w wr F w.heap.size A m C cells es es la)) (fun i _ _ _ => n - (intOf i).toNat)
  case atStart => exact ⟨0, _, none, 0, 0, [], [], 0, Nat.zero_le _, rfl, rfl, rfl, Nat.le_refl _, Nat.le_refl _, mkHid ⟨List.Pairwise.nil, fun e he => by cases he⟩, HR⟩
  case round =>
    clear HR
    obtain ⟨q, F, A, m, C, cells, es, la, hq, rfl, rfl, rfl, hm, hla, HN, HAT⟩ := hrel
    by_cases hlt : q < n
    · obtain ⟨b, o, x, p, s, k, rfl, hb, hxq, hI0, hI1, hk, hss, g0, g1, g2⟩ := HX.out.2 q hlt
      obtain ⟨xk, xn, xs⟩ := x
      have c0 := (HAT.out.bel.cell (p := ⟨b, o + q * 3, none⟩) hb).trans g0
      have c1 := (HAT.out.bel.cell (p := ⟨b, o + q * 3 + 1, none⟩) hb).trans g1
      have c2 := (HAT.out.bel.cell (p := ⟨b, o + q * 3 + 2, none⟩) hb).trans g2
      simp only at c0 c1 hss hI0 hI1
      have hsl := hss.1
      have HK := mkHid hk
      have HSS := mkHid hss
      have HXX := mkHid hss.ok
      have HI1 := mkHid hI1
      have HAL := mkHid (show AT w (wr.alloc (.cells #[.int .i64 xk, .int .i64 xn, .slice p s k] 54)) F w.heap.size A m C cells es es la from HAT.out.below ((Below.refl _ _).alloc (Nat.le_refl _) _))
      clear g0 g1 g2 hxq hk hss hI0 hI1
      by_cases hten : 20 < s
      · go_wp2_with fail
        refine (awake_any _).mono ?_
        rintro e w2 ⟨rfl, hb2⟩
        go_wp2_with fail
        go_ret
        exact ⟨rfl, HAL.out.bel.trans (hb2.mono HAL.out.bel.size)⟩
      go_upto_block 2 with (fail)
      go_cut [4, 5] (fun all last wc => ∃ (F : Nat → Prop) (A : Option Addr) (m C : Nat) (cells : List Value) (es : List En) (la : Nat), all = .slice A m C ∧ last = .int .i64 la ∧ m ≤ q + 1 ∧ la ≤ q + 1 ∧ Hid (NumOk es la) ∧ Hid (AT w wc F w.heap.size A m C cells es es la))
      case first =>
        by_cases hk1 : xk = 1
        · as_aux_lemma =>
            subst hk1
            have hopb : (wr.alloc (.cells #[.int .i64 1, .int .i64 xn, .slice p s k] 54)).heap[wr.heap.size]? = some (.cells #[.int .i64 1, .int .i64 xn, .slice p s k] 54 (0, 0)) := heap_alloc_new wr _
            have HOP := mkHid hopb
            have HFO := mkHid (show ¬ F wr.heap.size from fun hf => by have := HAT.out.t.lt _ hf; omega)
            obtain ⟨ob, hob⟩ : ∃ n, n = wr.heap.size := ⟨_, rfl⟩
            have HOBE := mkHid hob
            clear hob
            have HSZ := mkHid (show (wr.alloc (.cells #[.int .i64 1, .int .i64 xn, .slice p s k] 54)).heap.size = wr.heap.size + 1 by simp)
            obtain ⟨W0, hW0⟩ : ∃ W0, wr.alloc (.cells #[.int .i64 1, .int .i64 xn, .slice p s k] 54) = W0 := ⟨_, rfl⟩
            rw [hW0] at HOP HSZ HAL ⊢
            have y2 := cell_of_row W0 wr.heap.size 2 _ _ _ HOP.out
            simp at y2
            clear hopb hW0
            go_wp2_with fail
            refine (spans_any p s k xs W0 (HSS.out.keep (fun b hb => HAL.out.bel.block b hb) fun b hb => Nat.lt_of_lt_of_le hb HAL.out.bel.size) (by omega)).mono ?_
            rintro e4 w4 ⟨SA, sc, rfl, ho4, hb4⟩
            rw [hsl] at ho4 ⊢
            have HA4 := mkHid (HAL.out.below hb4)
            have HO4 := mkHid ho4
            have HF4 := mkHid (show ∀ b, F b → b < W0.heap.size from HAL.out.t.lt)
            have HAB := mkHid (show ∀ r, (Value.slice A m C).ownBlock = some r → r < W0.heap.size from fun r hr => (HAL.out.al.blk hr).2)
            have HOP4 := mkHid ((hb4.block wr.heap.size (by have := HSZ.out; omega)).trans HOP.out)
            have HWW := mkHid HAL.out.bel.size
            have HS4 := mkHid hb4.size
            clear ho4 hb4 y2
            cases hr : xs.all rightOf with
            | false =>
              have HRR := mkHid hr
              clear hr
              go_wp2_with fail
              refine (HA4.out.no' HO4.out HXX.out (by omega) HRR.out).mono ?_
              rintro e5 w5 ⟨rfl, hA5, hb5⟩
              have HA5 := mkHid hA5
              have HOP5 := mkHid ((hb5.block wr.heap.size (by have := HSZ.out; have := HS4.out; omega)).trans HOP4.out)
              have HO5 := mkHid (own_below HO4.out hb5)
              clear hA5 hb5 HO4 HA4 HOP4
              go_wp2_with fail
              go_loopw [69] (fun i wr2 => ∃ j : Nat, j ≤ s ∧ i = .int .i64 j ∧ Hid (AT w wr2 F w.heap.size A m C cells es es la) ∧ Hid (wr2.heap[wr.heap.size]? = some (.cells #[.int .i64 1, .int .i64 xn, .slice p s k] 54 (0, 0))) ∧ Hid (∀ r, SA = some ⟨r, 0, none⟩ → 0 < s → W0.heap.size ≤ r ∧ ∃ cur, wr2.heap[r]? = some (.cells cur 24 (0, 0)) ∧ s * 4 ≤ cur.size)) (fun i _ => s - (intOf i).toNat)
              case atStart =>
                refine ⟨0, Nat.zero_le _, rfl, HA5, HOP5, mkHid fun r hr hs => ?_⟩
                rcases HO5.out.2 with ⟨h0, _⟩ | ⟨g, cap, cur, h1, h2, h3, h4, h5, h6, _⟩
                · rw [hr] at h0; cases h0
                · rw [hr] at h1
                  injection h1 with h1 _ _
                  injection h1 with h1
                  injection h1 with h1
                  subst h1
                  exact ⟨h2, cur, h3, by omega⟩
              case round =>
                clear HA5 HOP5
                obtain ⟨j, hj, rfl, HA, HOJ, HRJ⟩ := hrel
                by_cases hlj : j < s
                · obtain ⟨r, cap, hv, hr1, hr2⟩ := HO5.out.form (by omega)
                  have ha : SA = some ⟨r, 0, none⟩ := by injection hv
                  subst ha
                  obtain ⟨hrw, cur, hcur, hcs⟩ := HRJ.out r rfl (by omega)
                  obtain ⟨v0, hv0⟩ : ∃ v, cur[j * 4]? = some v := ⟨_, Array.getElem?_eq_getElem (by omega)⟩
                  have cc := (cell_of_row _ r (j * 4) _ _ _ hcur).trans hv0
                  have ff := frozen_of_row _ r (j * 4) _ _ hcur
                  have HCU := mkHid (heap_setCell_same _ r (j * 4) _ _ (.int .i64 99) hcur)
                  have hOO := (heap_setCell_other _ ⟨r, j * 4, none⟩ _ (.int .i64 99) (by have := HSZ.out; simp; omega)).trans HOJ.out
                  have HOO := mkHid hOO
                  have HAN := mkHid (HA.out.but (But.cells [.int .i64 99] (j * 4) _ (But.refl r _)) (Nat.le_trans HWW.out hrw) (fun hf => by have := HF4.out r hf; omega) (fun h => by have := HAB.out r h; omega))
                  clear hv hcur hv0 hOO
                  go_wp2_with fail
                  go_roundw
                  case rel => exact ⟨j + 1, by omega, by go_num, HAN, HOO, mkHid fun r' hr' hs' => by
                    injection hr' with hr'
                    injection hr' with hr'
                    subst hr'
                    exact ⟨hrw, _, HCU.out, by rw [Array.size_setIfInBounds]; exact hcs⟩⟩
                  case measure => simp [intOf]; omega
                · obtain rfl : j = s := by omega
                  have y2 := cell_of_row _ _ 2 _ _ _ HOJ.out
                  simp at y2
                  clear HO5 HRJ
                  go_wp2_with fail
                  go_loopw [80, 13] (fun i ok wr3 => ∃ l : Nat, l ≤ j ∧ i = .int .i64 l ∧ ok = .bool ((xs.take l).all rightOf) ∧ Hid (AT w wr3 F w.heap.size A m C cells es es la)) (fun i _ _ => j - (intOf i).toNat)
                  case atStart => exact ⟨0, Nat.zero_le _, rfl, rfl, HA⟩
                  case round =>
                    clear HA
                    obtain ⟨l, hl, rfl, rfl, HA⟩ := hrel
                    by_cases hlj : l < j
                    · obtain ⟨b2, o2, x, rfl, hb2, hxl, hok, h0, h1, h2, h3⟩ := HSS.out.2 l hlj
                      have d0 := (HA.out.bel.cell (p := ⟨b2, o2 + l * 4, none⟩) hb2).trans h0
                      have d1 := (HA.out.bel.cell (p := ⟨b2, o2 + l * 4 + 1, none⟩) hb2).trans h1
                      have d2 := (HA.out.bel.cell (p := ⟨b2, o2 + l * 4 + 2, none⟩) hb2).trans h2
                      have d3 := (HA.out.bel.cell (p := ⟨b2, o2 + l * 4 + 3, none⟩) hb2).trans h3
                      have htk : (xs.take (l + 1)).all rightOf = ((xs.take l).all rightOf && rightOf x) := by rw [List.take_add_one, hxl]; simp
                      have HTK := mkHid htk
                      have HOK := mkHid hok
                      clear h0 h1 h2 h3 hxl hok htk
                      have HA' := mkHid (HA.out.below ((Below.refl _ _).alloc (Nat.le_refl _) (.cells #[.int .i64 x.vol, .int .i64 x.frm, .int .i64 x.len, .bool x.wr] 23)))
                      cases hall : (xs.take l).all rightOf with
                      | false =>
                        have HALL := mkHid hall
                        clear hall
                        go_wp2_with fail
                        go_roundw
                        case rel => exact ⟨l + 1, by omega, by go_num, by rw [HTK.out, HALL.out]; rfl, HA'⟩
                        case measure => simp [intOf]; omega
                      | true =>
                        have HALL := mkHid hall
                        clear hall
                        go_wp2_with fail
                        refine (rright_any x _ HOK.out).mono ?_
                        rintro _ w7 ⟨rfl, hb7⟩
                        have HA7 := mkHid (HA'.out.below hb7)
                        clear hb7
                        go_wp2_with fail
                        go_roundw
                        case rel => exact ⟨l + 1, by omega, by go_num, by rw [HTK.out, HALL.out]; rfl, HA7⟩
                        case measure => simp [intOf]; omega
                    · obtain rfl : l = j := by omega
                      have hall : (xs.take l).all rightOf = false := by rw [List.take_of_length_le (by omega)]; exact HRR.out
                      rw [hall]
                      clear hall
                      go_wp2_with fail
                      refine (is_code 20 20 _).mono ?_
                      rintro _ w8 ⟨rfl, rfl⟩
                      rw [show ((20 : Int) != 0 && (20 : Int) == 20) = true from rfl]
                      go_wp2_with fail
                      go_roundw
                      case rel => exact ⟨q + 1, F, A, m, C, cells, es, la, by omega, by go_num, rfl, rfl, by omega, by omega, HN, HA⟩
                      case measure => simp [intOf]; omega
            | true =>
              have HRR := mkHid hr
              clear hr
              go_wp2_with fail
              refine (HA4.out.add' HO4.out HF4.out HXX.out (by omega) (by omega) (by omega) HRR.out).mono ?_
              rintro e5 w5 ⟨rfl, F5, hA5, ht5, hF5⟩
              have HA5 := mkHid hA5
              have HF5 := mkHid hF5
              have HOP5 := mkHid ((ht5.block wr.heap.size (by have := HSZ.out; have := HS4.out; omega) HFO.out).trans HOP4.out)
              have HO5 := mkHid (show w5.ownsRow W0.heap.size 24 4 (.slice SA s sc) s (xs.flatMap spC) from ⟨HO4.out.1, by
                rcases HO4.out.2 with h0 | ⟨g, cap, cur, h1, h2, h3, h4⟩
                · exact .inl h0
                · exact .inr ⟨g, cap, cur, h1, h2, (ht5.block g (Array.getElem?_eq_some_iff.1 h3).1 (fun hf => by have := HF4.out g hf; omega)).trans h3, h4⟩⟩)
              have hnn : ((la : Int) + 1 != (la : Int) + 1) = false := by simp
              have HAN0 := mkHid HA4.out.al.len
              clear hA5 hF5 ht5 HA4 HOP4
              go_wp2_with fail
              go_loopw [69] (fun i wr2 => ∃ j : Nat, j ≤ s ∧ i = .int .i64 j ∧ Hid (AT w wr2 F5 w.heap.size A m C cells es (es ++ [⟨(la : Int) + 1, xs⟩]) (la + 1)) ∧ Hid (wr2.heap[wr.heap.size]? = some (.cells #[.int .i64 1, .int .i64 xn, .slice p s k] 54 (0, 0))) ∧ Hid (∀ r, SA = some ⟨r, 0, none⟩ → 0 < s → W0.heap.size ≤ r ∧ ∃ cur, wr2.heap[r]? = some (.cells cur 24 (0, 0)) ∧ s * 4 ≤ cur.size)) (fun i _ => s - (intOf i).toNat)
              case atStart =>
                refine ⟨0, Nat.zero_le _, rfl, HA5, HOP5, mkHid fun r hr hs => ?_⟩
                rcases HO5.out.2 with ⟨h0, _⟩ | ⟨g, cap, cur, h1, h2, h3, h4, h5, h6, _⟩
                · rw [hr] at h0; cases h0
                · rw [hr] at h1
                  injection h1 with h1 _ _
                  injection h1 with h1
                  injection h1 with h1
                  subst h1
                  exact ⟨h2, cur, h3, by omega⟩
              case round =>
                clear HA5 HOP5
                obtain ⟨j, hj, rfl, HA, HOJ, HRJ⟩ := hrel
                by_cases hlj : j < s
                · obtain ⟨r, cap, hv, hr1, hr2⟩ := HO4.out.form (by omega)
                  have ha : SA = some ⟨r, 0, none⟩ := by injection hv
                  subst ha
                  obtain ⟨hrw, cur, hcur, hcs⟩ := HRJ.out r rfl (by omega)
                  obtain ⟨v0, hv0⟩ : ∃ v, cur[j * 4]? = some v := ⟨_, Array.getElem?_eq_getElem (by omega)⟩
                  have cc := (cell_of_row _ r (j * 4) _ _ _ hcur).trans hv0
                  have ff := frozen_of_row _ r (j * 4) _ _ hcur
                  have HCU := mkHid (heap_setCell_same _ r (j * 4) _ _ (.int .i64 99) hcur)
                  have hOO := (heap_setCell_other _ ⟨r, j * 4, none⟩ _ (.int .i64 99) (by have := HSZ.out; simp; omega)).trans HOJ.out
                  have HOO := mkHid hOO
                  have HAN := mkHid (HA.out.but (But.cells [.int .i64 99] (j * 4) _ (But.refl r _)) (Nat.le_trans HWW.out hrw) (fun hf => by (rcases HF5.out r hf with h | h; have := HF4.out r h; omega; omega)) (fun h => by have := HAB.out r h; omega))
                  clear hv hcur hv0 hOO
                  go_wp2_with fail
                  go_roundw
                  case rel => exact ⟨j + 1, by omega, by go_num, HAN, HOO, mkHid fun r' hr' hs' => by
                    injection hr' with hr'
                    injection hr' with hr'
                    subst hr'
                    exact ⟨hrw, _, HCU.out, by rw [Array.size_setIfInBounds]; exact hcs⟩⟩
                  case measure => simp [intOf]; omega
                · obtain rfl : j = s := by omega
                  have HOB := HOJ
                  rw [← HOBE.out] at HOB
                  have y2 := cell_of_row _ _ 2 _ _ _ HOJ.out
                  simp at y2
                  clear HO5 HRJ HO4
                  go_wp2_with fail
                  go_loopw [80, 13] (fun i ok wr3 => ∃ l : Nat, l ≤ j ∧ i = .int .i64 l ∧ ok = .bool ((xs.take l).all rightOf) ∧ Hid (AT w wr3 F5 w.heap.size A m C cells es (es ++ [⟨(la : Int) + 1, xs⟩]) (la + 1)) ∧ Hid (wr3.heap[ob]? = some (.cells #[.int .i64 1, .int .i64 xn, .slice p j k] 54 (0, 0)))) (fun i _ _ => j - (intOf i).toNat)
                  case atStart => exact ⟨0, Nat.zero_le _, rfl, rfl, HA, HOB⟩
                  case round =>
                    clear HA HOB
                    obtain ⟨l, hl, rfl, rfl, HA, HOB⟩ := hrel
                    by_cases hlj : l < j
                    · obtain ⟨b2, o2, x, rfl, hb2, hxl, hok, h0, h1, h2, h3⟩ := HSS.out.2 l hlj
                      have d0 := (HA.out.bel.cell (p := ⟨b2, o2 + l * 4, none⟩) hb2).trans h0
                      have d1 := (HA.out.bel.cell (p := ⟨b2, o2 + l * 4 + 1, none⟩) hb2).trans h1
                      have d2 := (HA.out.bel.cell (p := ⟨b2, o2 + l * 4 + 2, none⟩) hb2).trans h2
                      have d3 := (HA.out.bel.cell (p := ⟨b2, o2 + l * 4 + 3, none⟩) hb2).trans h3
                      have htk : (xs.take (l + 1)).all rightOf = ((xs.take l).all rightOf && rightOf x) := by rw [List.take_add_one, hxl]; simp
                      have HTK := mkHid htk
                      have HOK := mkHid hok
                      clear h0 h1 h2 h3 hxl hok htk
                      have HA' := mkHid (HA.out.below ((Below.refl _ _).alloc (Nat.le_refl _) (.cells #[.int .i64 x.vol, .int .i64 x.frm, .int .i64 x.len, .bool x.wr] 23)))
                      have HOB' := mkHid ((Below.heap_alloc _ (.cells #[.int .i64 x.vol, .int .i64 x.frm, .int .i64 x.len, .bool x.wr] 23) ob (Array.getElem?_eq_some_iff.1 HOB.out).1).trans HOB.out)
                      cases hall : (xs.take l).all rightOf with
                      | false =>
                        have HALL := mkHid hall
                        clear hall
                        go_wp2_with fail
                        go_roundw
                        case rel => exact ⟨l + 1, by omega, by go_num, by rw [HTK.out, HALL.out]; rfl, HA', HOB'⟩
                        case measure => simp [intOf]; omega
                      | true =>
                        have HALL := mkHid hall
                        clear hall
                        go_wp2_with fail
                        refine (rright_any x _ HOK.out).mono ?_
                        rintro _ w7 ⟨rfl, hb7⟩
                        have HA7 := mkHid (HA'.out.below hb7)
                        have HOB7 := mkHid ((hb7.block ob (Array.getElem?_eq_some_iff.1 HOB'.out).1).trans HOB'.out)
                        clear hb7
                        go_wp2_with fail
                        go_roundw
                        case rel => exact ⟨l + 1, by omega, by go_num, by rw [HTK.out, HALL.out]; rfl, HA7, HOB7⟩
                        case measure => simp [intOf]; omega
                    · obtain rfl : l = j := by omega
                      have hall : (xs.take l).all rightOf = true := by rw [List.take_of_length_le (by omega)]; exact HRR.out
                      rw [hall]
                      have z2 := cell_of_row _ ob 2 _ _ _ HOB.out
                      simp at z2
                      rw [HOBE.out] at z2
                      clear hall
                      have HRW := mkHid (fun o => own_below HA.out.al.row ((Below.refl _ _).alloc (Nat.le_refl _) o))
                      go_wp2_with (at_builtin; refine wpList_app _ rfl (.tmp 108) (.tmp 113) _ rfl w.heap.size el_rent A m C cells rfl (HRW.out _) (wr.heap.size + 1) (some ⟨wr.heap.size, 0, none⟩) 1 1 [.int .i64 ((la : Int) + 1), .slice p l k] rfl (SL.of_block (heap_alloc_new wr _) rfl (by omega)) (fun u hu => by simp at hu; rcases hu with rfl | rfl <;> rfl) (by unfold maxLen; omega) (by omega) (by have := HA.out.bel.size; simp; omega) ?_; intro A9 C9 w9 ho9 hg9 hat9; have HA9 := mkHid (HA.out.snoc' ((Below.refl _ _).alloc (Nat.le_refl _) _) HSS.out HK.out (by omega) ho9 hg9 hat9); clear ho9 hg9 hat9)
                      go_meet
                      case rel => exact ⟨F5, A9, m + 1, C9, _, _, la + 1, rfl, by go_num, by omega, by omega, mkHid (HN.out.snoc xs), HA9⟩
        have gk1 : (xk == 1) = false := by simpa using hk1
        by_cases hk3 : xk = 3
        · as_aux_lemma =>
            subst hk3
            clear gk1
            go_wp2_with fail
            refine (ready_any F _ es la _ HAL.out.t).mono ?_
            rintro e4 w4 ⟨A4, c4, rfl, ho4, hb4⟩
            have HA4 := mkHid (HAL.out.below hb4)
            obtain ⟨R, hR⟩ : ∃ R, readyOf es = R := ⟨_, rfl⟩
            have HRG := mkHid (show ∀ (k : Nat) (y : Int), R[k]? = some y → ∃ (i : Nat) (e : En), es[i]? = some e ∧ e.num = y ∧ placeOf es y = i ∧ mayOf es y = true from fun k y hk => ready_get HN.out.1 (hR ▸ hk))
            rw [hR] at ho4 ⊢
            obtain ⟨rn, hrn⟩ : ∃ rn, R.length = rn := ⟨_, rfl⟩
            rw [hrn] at ho4 ⊢
            have HRN := mkHid hrn
            clear hb4 hR hrn
            by_cases hneg : xn < 0
            · clear ho4
              go_wp2_with fail
              go_roundw
              case rel => exact ⟨q + 1, F, A, m, C, cells, es, la, by omega, by go_num, rfl, rfl, by omega, by omega, HN, HA4⟩
              case measure => simp [intOf]; omega
            by_cases hge : (rn : Int) ≤ xn
            · clear ho4
              go_wp2_with fail
              go_roundw
              case rel => exact ⟨q + 1, F, A, m, C, cells, es, la, by omega, by go_num, rfl, rfl, by omega, by omega, HN, HA4⟩
              case measure => simp [intOf]; omega
            obtain ⟨kk, rfl⟩ : ∃ kk : Nat, xn = (kk : Int) := ⟨xn.toNat, by omega⟩
            have hkr : kk < rn := by omega
            obtain ⟨y, hy⟩ : ∃ y, R[kk]? = some y := ⟨_, List.getElem?_eq_getElem (by rw [HRN.out]; exact hkr)⟩
            obtain ⟨g4, rfl, hg4, hg4', hc4⟩ := own_ints ho4 (by omega)
            have cy := hc4 kk hkr
            rw [hy] at cy
            simp only [Option.getD_some] at cy
            obtain ⟨i, e, hei, rfl, hp, hmy⟩ := HRG.out kk y hy
            have HMY := mkHid hmy
            clear ho4 hc4 hy hmy
          
            have hil := (List.getElem?_eq_some_iff.1 hei).1
            have HEI := mkHid hei
            have han : aheadOf es e.num = [] := by
              have h1 := may_in HN.out.1 hei
              rw [HMY.out] at h1
              exact List.isEmpty_iff.1 h1.symm
            have HAN := mkHid han
            have hth : (es.any fun x => x.num == e.num) = true := List.any_eq_true.2 ⟨e, List.mem_of_getElem? hei, by simp⟩
            have HTH := mkHid hth
            have HMN := mkHid HA4.out.al.len
            clear han hth hei
            go_wp2_with fail
            refine (done_ok F _ es la e.num _ HA4.out.t (HA4.out.t.nums.1 _ (List.mem_map.2 ⟨e, List.mem_of_getElem? HEI.out, rfl⟩)) i hil hp HMY.out).mono ?_
            rintro e5 w5 ⟨rfl, ht5, hT5⟩
            rw [erase_filter HN.out.1 HEI.out] at hT5
            have HA5 := mkHid (HA4.out.al.turn ht5 (F' := F) fun _ hb => .inl hb)
            have HB5 := mkHid (HA4.out.bel.trans (ht5.below HA4.out.lo HA4.out.bel.size))
            have HT5 := mkHid hT5
            clear ht5 hT5
            go_wp2_with fail
            refine (there_any _ m C es e.num w5 (HA5.out.list HB5.out) (by omega)).mono ?_
            rintro e6 w6 ⟨rfl, hb6⟩
            rw [HTH.out]
            have HA6 := mkHid (HA5.out.below hb6)
            have HB6 := mkHid (HB5.out.trans (hb6.mono HB5.out.size))
            have HT6 := mkHid (HT5.out.below hb6)
            clear hb6 HA5 HB5 HT5
            go_wp2_with fail
            refine (rahead_any _ m C es e.num w6 (HA6.out.list HB6.out) (by omega) HN.out.1).mono ?_
            rintro e7 w7 ⟨A7, c7, rfl, _, hb7⟩
            rw [HAN.out]
            have HA7 := mkHid (HA6.out.below hb7)
            have HB7 := mkHid (HB6.out.trans (hb7.mono HB6.out.size))
            have HT7 := mkHid (HT6.out.below hb7)
            clear hb7 HA6 HB6 HT6
            go_wp2_with fail
            refine (is_nil 0 w7).mono ?_
            rintro e8 w8 ⟨rfl, rfl⟩
            go_wp2_with fail
            refine (without_any w F _ m C cells es e.num w7 HA7.out HB7.out HT7.out.lt (by omega)).mono ?_
            rintro e9 w9 ⟨A9, c9, cells9, rfl, hA9, hb9⟩
            have HT9 := mkHid (HT7.out.below hb9)
            have HA9 := mkHid hA9
            have HB9 := mkHid (HB7.out.trans (hb9.mono HB7.out.size))
            have hfl : (es.filter fun x => x.num != e.num).length ≤ m := Nat.le_trans (List.length_filter_le _ _) (by have := HMN.out; omega)
            have HNF := mkHid (show NumOk (es.filter fun x => x.num != e.num) la from erase_filter HN.out.1 HEI.out ▸ HN.out.erase i)
            have HFL := mkHid hfl
            clear hA9 hb9 HT7 HA7 HB7 hfl
            go_wp2_with fail
            go_meet
            case rel => exact ⟨F, A9, _, c9, cells9, _, la, rfl, rfl, by have := HFL.out; omega, by omega, HNF, mkHid ⟨HA9.out, HT9.out, HA4.out.lo, HB9.out⟩⟩
        have gk3 : (xk == 3) = false := by simpa using hk3
        by_cases hk2 : xk = 2
        · as_aux_lemma =>
            subst hk2
            clear gk1 gk3
            rcases placeOf_cases es xn with ⟨hp, hpn⟩ | ⟨i, e, hp, hei, rfl, _⟩
            · have hth : (es.any fun x => x.num == xn) = false := by
                rw [List.any_eq_false]
                intro z hz
                obtain ⟨j, hj⟩ := List.getElem?_of_mem hz
                simpa using hpn j z hj
              have HTH := mkHid hth
              clear hpn hth
              go_wp2_with fail
              refine (done_no F _ es la xn _ HAL.out.t HI1.out hp).mono ?_
              rintro e5 w5 ⟨rfl, hb5⟩
              have HA5 := mkHid (HAL.out.below hb5)
              clear hb5
              go_wp2_with fail
              refine (there_any _ m C es xn w5 (HA5.out.al.list HA5.out.bel) (by omega)).mono ?_
              rintro e6 w6 ⟨rfl, hb6⟩
              rw [HTH.out]
              have HA6 := mkHid (HA5.out.below hb6)
              clear hb6 HA5
              go_wp2_with fail
              refine (is_code 130 130 w6).mono ?_
              rintro e7 w7 ⟨rfl, rfl⟩
              rw [show ((130 : Int) != 0 && (130 : Int) == 130) = true from rfl]
              go_wp2_with fail
              go_meet
              case rel => exact ⟨F, A, m, C, cells, es, la, rfl, rfl, by omega, by omega, HN, HA6⟩
            cases hmy : mayOf es e.num with
            | false =>
              have hth : (es.any fun x => x.num == e.num) = true := List.any_eq_true.2 ⟨e, List.mem_of_getElem? hei, by simp⟩
              have HTH := mkHid hth
              have han : 0 < (aheadOf es e.num).length := by
                have h1 := may_in HN.out.1 hei
                rw [hmy] at h1
                cases h2 : aheadOf es e.num with
                | nil => rw [h2] at h1; cases h1
                | cons => simp
              have HAN := mkHid han
              have HMY := mkHid hmy
              clear hei hth han hmy
              go_wp2_with fail
              refine (done_wait F _ es la e.num _ HAL.out.t HI1.out i hp HMY.out).mono ?_
              rintro e5 w5 ⟨rfl, hb5⟩
              have HA5 := mkHid (HAL.out.below hb5)
              clear hb5
              go_wp2_with fail
              refine (there_any _ m C es e.num w5 (HA5.out.al.list HA5.out.bel) (by omega)).mono ?_
              rintro e6 w6 ⟨rfl, hb6⟩
              rw [HTH.out]
              have HA6 := mkHid (HA5.out.below hb6)
              clear hb6 HA5
              go_wp2_with fail
              refine (rahead_any _ m C es e.num w6 (HA6.out.al.list HA6.out.bel) (by omega) HN.out.1).mono ?_
              rintro e7 w7 ⟨A7, c7, rfl, _, hb7⟩
              have HA7 := mkHid (HA6.out.below hb7)
              generalize (aheadOf es e.num).length = al at HAN ⊢
              have hal : (0 : Int) < (al : Int) := by have := HAN.out; omega
              clear hb7 HA6
              go_wp2_with fail
              refine (is_code 131 131 w7).mono ?_
              rintro e8 w8 ⟨rfl, rfl⟩
              rw [show ((131 : Int) != 0 && (131 : Int) == 131) = true from rfl]
              go_wp2_with fail
              go_meet
              case rel => exact ⟨F, A, m, C, cells, es, la, rfl, rfl, by omega, by omega, HN, HA7⟩
            | true =>
              have HMY := mkHid hmy
              clear hmy
              have hil := (List.getElem?_eq_some_iff.1 hei).1
              have HEI := mkHid hei
              have han : aheadOf es e.num = [] := by
                have h1 := may_in HN.out.1 hei
                rw [HMY.out] at h1
                exact List.isEmpty_iff.1 h1.symm
              have HAN := mkHid han
              have hth : (es.any fun x => x.num == e.num) = true := List.any_eq_true.2 ⟨e, List.mem_of_getElem? hei, by simp⟩
              have HTH := mkHid hth
              have HMN := mkHid HAL.out.al.len
              clear han hth hei
              go_wp2_with fail
              refine (done_ok F _ es la e.num _ HAL.out.t (HAL.out.t.nums.1 _ (List.mem_map.2 ⟨e, List.mem_of_getElem? HEI.out, rfl⟩)) i hil hp HMY.out).mono ?_
              rintro e5 w5 ⟨rfl, ht5, hT5⟩
              rw [erase_filter HN.out.1 HEI.out] at hT5
              have HA5 := mkHid (HAL.out.al.turn ht5 (F' := F) fun _ hb => .inl hb)
              have HB5 := mkHid (HAL.out.bel.trans (ht5.below HAL.out.lo HAL.out.bel.size))
              have HT5 := mkHid hT5
              clear ht5 hT5
              go_wp2_with fail
              refine (there_any _ m C es e.num w5 (HA5.out.list HB5.out) (by omega)).mono ?_
              rintro e6 w6 ⟨rfl, hb6⟩
              rw [HTH.out]
              have HA6 := mkHid (HA5.out.below hb6)
              have HB6 := mkHid (HB5.out.trans (hb6.mono HB5.out.size))
              have HT6 := mkHid (HT5.out.below hb6)
              clear hb6 HA5 HB5 HT5
              go_wp2_with fail
              refine (rahead_any _ m C es e.num w6 (HA6.out.list HB6.out) (by omega) HN.out.1).mono ?_
              rintro e7 w7 ⟨A7, c7, rfl, _, hb7⟩
              rw [HAN.out]
              have HA7 := mkHid (HA6.out.below hb7)
              have HB7 := mkHid (HB6.out.trans (hb7.mono HB6.out.size))
              have HT7 := mkHid (HT6.out.below hb7)
              clear hb7 HA6 HB6 HT6
              go_wp2_with fail
              refine (is_nil 0 w7).mono ?_
              rintro e8 w8 ⟨rfl, rfl⟩
              go_wp2_with fail
              refine (without_any w F _ m C cells es e.num w7 HA7.out HB7.out HT7.out.lt (by omega)).mono ?_
              rintro e9 w9 ⟨A9, c9, cells9, rfl, hA9, hb9⟩
              have HT9 := mkHid (HT7.out.below hb9)
              have HA9 := mkHid hA9
              have HB9 := mkHid (HB7.out.trans (hb9.mono HB7.out.size))
              have hfl : (es.filter fun x => x.num != e.num).length ≤ m := Nat.le_trans (List.length_filter_le _ _) (by have := HMN.out; omega)
              have HNF := mkHid (show NumOk (es.filter fun x => x.num != e.num) la from erase_filter HN.out.1 HEI.out ▸ HN.out.erase i)
              have HFL := mkHid hfl
              clear hA9 hb9 HT7 HA7 HB7 hfl
              go_wp2_with fail
              go_meet
              case rel => exact ⟨F, A9, _, c9, cells9, _, la, rfl, rfl, by have := HFL.out; omega, by omega, HNF, mkHid ⟨HA9.out, HT9.out, HAL.out.lo, HB9.out⟩⟩
        have gk2 : (xk == 2) = false := by simpa using hk2
        clear hk1 hk2 hk3
        go_wp2_with fail
        go_meet
        case rel => exact ⟨F, A, m, C, cells, es, la, rfl, rfl, by omega, by omega, HN, HAL⟩
      case rest =>
        as_aux_lemma =>
          obtain ⟨F, A, m, C, cells, es, la, rfl, rfl, hm, hla, HN, HAT⟩ := hcut
          have hmn := HAT.out.al.len
          have HMN := mkHid hmn
          have HNU := mkHid HAT.out.t.nums
          clear hmn
          go_wp2_with fail
          go_loopw [152, 19, 20] (fun i wt rd wr => ∃ (p : Nat) (W R : Option Addr) (CW CR : Nat), p ≤ m ∧ i = .int .i64 p ∧ wt = .slice W p CW ∧ rd = .slice R (((es.take p).map En.num).filter fun x => mayOf es x).length CR ∧ Hid (wr.ownsRow wc.heap.size 3 1 (.slice W p CW) p (((es.take p).map En.num).map i64v)) ∧ Hid (wr.ownsRow wc.heap.size 3 1 (.slice R (((es.take p).map En.num).filter fun x => mayOf es x).length CR) (((es.take p).map En.num).filter fun x => mayOf es x).length ((((es.take p).map En.num).filter fun x => mayOf es x).map i64v)) ∧ Hid (∀ b, (Value.slice W p CW).ownBlock = some b → (Value.slice R (((es.take p).map En.num).filter fun x => mayOf es x).length CR).ownBlock ≠ some b) ∧ Hid (Below wc.heap.size wc wr)) (fun i _ _ _ => m - (intOf i).toNat)
          case atStart => exact ⟨0, none, none, 0, 0, Nat.zero_le _, rfl, rfl, rfl, mkHid (World.ownsRow_nil _ _ _ _), mkHid (World.ownsRow_nil _ _ _ _), mkHid (fun b hb => by cases hb), mkHid (Below.refl _ _)⟩
          case round =>
            obtain ⟨p, W, R, CW, CR, hp, rfl, rfl, rfl, HW, HR, HD, HB⟩ := hrel
            generalize hrl : (((es.take p).map En.num).filter fun x => mayOf es x) = RL at HR HD ⊢
            have HRL := mkHid hrl
            clear hrl
            have hrlm : RL.length ≤ p := by
              rw [← HRL.out]
              exact Nat.le_trans (List.length_filter_le _ _) (by rw [List.length_map, List.length_take]; omega)
            by_cases hlp : p < m
            · obtain ⟨r, e, p1, m1, k1, rfl, hr, hxp, hI, h0, h1, hk1, hs1⟩ := HAT.out.al.at_ hlp
              have d0 := (HB.out.cell (p := ⟨r, p * 2, none⟩) hr).trans h0
              have d1 := (HB.out.cell (p := ⟨r, p * 2 + 1, none⟩) hr).trans h1
              have HXP := mkHid hxp
              have HI := mkHid hI
              obtain ⟨W1, hW1⟩ : ∃ W1, wr.alloc (.cells #[.int .i64 e.num, .slice p1 m1 k1] 42) = W1 := ⟨_, rfl⟩
              have HB1 := mkHid (show Below wr.heap.size wr W1 from hW1 ▸ (Below.refl _ _).alloc (Nat.le_refl _) _)
              have hs1' : W1.heap.size = wr.heap.size + 1 := by rw [← hW1]; simp
              have HS1 := mkHid hs1'
              have HX1 := mkHid (show ∀ Z : World, Below W1.heap.size W1 Z → Z.cell? ⟨wr.heap.size, 0, none⟩ = some (.int .i64 e.num) from fun Z hZ => cell_of_row Z _ 0 _ _ _ ((hZ.block wr.heap.size (by omega)).trans (by rw [← hW1]; exact heap_alloc_new wr _)))
              have x1 := HX1.out W1 (Below.refl _ _)
              have HA1 := mkHid ((HAT.out.below HB.out).below HB1.out)
              clear h0 h1 hxp hI hk1 hs1 hs1'
              go_wp2_with fail
              clear hW1 d0 d1
              refine (rahead_any _ m C es e.num W1 (HA1.out.al.list HA1.out.bel) (by omega) HN.out.1).mono ?_
              rintro e5 w5 ⟨A5, c5, rfl, ho5, hb5⟩
              have HLM := mkHid (fun y (hy : y ∈ aheadOf es e.num) => HNU.out.1 y (ahead_mem hy))
              have hll := ahead_len es e.num
              have HMY := mkHid (may_in HN.out.1 HXP.out)
              have HAH := mkHid (fun (W : World) (hW : T W F w.heap.size es la) => ahead_any F _ es la e.num W hW HI.out)
              generalize aheadOf es e.num = L at ho5 HLM hll HMY HAH ⊢
              have hll' : L.length ≤ 1000 := by have := HMN.out; omega
              have HI5 := mkHid (show IS w5 w5.heap.size A5 L.length L from ⟨SL.of_own ho5, fun y hy => HLM.out y hy⟩)
              have HB5 := mkHid hb5
              have x5 := HX1.out w5 hb5
              clear ho5 hb5 x1 hll
              go_wp2_with fail
              refine (HAH.out w5 (HA1.out.below HB5.out).t).mono ?_
              rintro e6 w6 ⟨A6, c6, rfl, ho6, hb6⟩
              have HI6 := mkHid (show IS w6 w6.heap.size A6 L.length L from ⟨SL.of_own ho6, fun y hy => HLM.out y hy⟩)
              have HJ6 := mkHid ((HI5.out.below hb6).more hb6.size)
              have HB6 := mkHid (HB5.out.trans (hb6.mono HB5.out.size))
              clear ho6 hb6 x5 HI5
              go_wp2_with fail
              refine (ints_any A6 A5 L.length L.length c6 c5 L L w6 HI6.out HJ6.out (by omega) rfl).mono ?_
              rintro e7 w7 ⟨rfl, hb7⟩
              have HB7 := mkHid (HB6.out.trans (hb7.mono HB6.out.size))
              have x7 := HX1.out w7 HB7.out
              clear hb7 HI6 HJ6 HB6 HB5
              go_wp2_with fail
              refine (may_any F _ es la e.num w7 (HA1.out.below HB7.out).t HI.out).mono ?_
              rintro e8 w8 ⟨rfl, hb8⟩
              have HB8 := mkHid (HB7.out.trans (hb8.mono HB7.out.size))
              have x8 := HX1.out w8 HB8.out
              have hz0 : mayOf es e.num = ((L.length : Int) == 0) := by
                rw [HMY.out]
                cases L with
                | nil => rfl
                | cons y l => simp; omega
              rw [hz0]
              have HZ0 := mkHid hz0
              clear hb8 HB7 x7 hz0
              obtain ⟨z, hz⟩ : ∃ z, ((L.length : Int) == 0) = z := ⟨_, rfl⟩
              rw [hz]
              rw [hz] at HZ0
              have hzz : (z != z) = false := by simp
              have HBW8 := mkHid (HB.out.trans ((HB1.out.trans (HB8.out.mono HB1.out.size)).mono HB.out.size))
              have HW8 := mkHid (own_below HW.out (HB1.out.trans (HB8.out.mono HB1.out.size)))
              have HR8 := mkHid (own_below HR.out (HB1.out.trans (HB8.out.mono HB1.out.size)))
              have HAL8 := mkHid ((Below.refl w8.heap.size w8).alloc (Nat.le_refl _) (.cells #[.int .i64 e.num] 3))
              have HRW := mkHid (own_below HW8.out HAL8.out)
              have hbw8 := HBW8.out.size
              have hwr8 : wr.heap.size < w8.heap.size := by have := HB8.out.size; have := HS1.out; omega
              have HWN := mkHid (show some wr.heap.size ≠ (Value.slice W p CW).ownBlock from fun h => by have := (HW.out.lt _ h.symm).2; omega)
              have HFT := mkHid (show ((es.take (p + 1)).map En.num).filter (fun x => mayOf es x) = RL ++ (if z then [e.num] else []) by
                rw [List.take_add_one, HXP.out, List.map_append, List.filter_append, HRL.out]
                congr 1
                simp only [Option.toList_some, List.map_cons, List.map_nil]
                cases z
                · rw [List.filter_cons_of_neg (by rw [HZ0.out]; decide)]; rfl
                · rw [List.filter_cons_of_pos HZ0.out]; rfl)
              have HWT := mkHid (show (((es.take p).map En.num).map i64v) ++ [i64v e.num] = ((es.take (p + 1)).map En.num).map i64v by
                rw [List.take_add_one, HXP.out]
                simp)
              cases z with
              | false =>
                have hft : ((es.take (p + 1)).map En.num).filter (fun x => mayOf es x) = RL := by rw [HFT.out]; simp
                have HFF := mkHid hft
                clear hft HZ0
                go_wp2_with (at_builtin; first
                  | (refine wpList_app _ rfl (.tmp 177) (.tmp 180) _ rfl wc.heap.size el_int W p CW (((es.take p).map En.num).map i64v) rfl HRW.out (w8.heap.size + 1) (some ⟨w8.heap.size, 0, none⟩) 1 1 [i64v e.num] rfl (SL.of_block (heap_alloc_new w8 _) rfl (by omega)) (fun u hu => by obtain rfl := List.mem_singleton.1 hu; rfl) (by unfold maxLen; omega) (by omega) (by simp; omega) ?_; intro W9 C9 w9 ho9 hg9 hat9; have x9 : w9.cell? ⟨wr.heap.size, 0, none⟩ = some (.int .i64 e.num) := (World.cell?_of_block (w := w8) (a := ⟨wr.heap.size, 0, none⟩) ((hg9.block wr.heap.size (by simp; omega) HWN.out).trans (Below.heap_alloc w8 _ _ hwr8))).trans x8; have HR9 := mkHid (own_other (own_below HR8.out HAL8.out) hg9 (fun b h1 h2 => HD.out b h2 h1)); have HB9 := mkHid ((HBW8.out.alloc hbw8 (.cells #[.int .i64 e.num] 3)).grown hg9 (by simp; omega) (own_base HW.out)); have HD9 := mkHid (show ∀ b, (Value.slice W9 (p + 1) C9).ownBlock = some b → (Value.slice R RL.length CR).ownBlock ≠ some b from fun b h1 h2 => by (rcases hat9 with h | h; exact HD.out b (h ▸ h1) h2; rw [h] at h1; injection h1 with h1; have h3 := (HR8.out.lt b h2).2; simp at h1; omega)); have HO9 := mkHid ho9; have hs9 := hg9.size; clear ho9 hg9 hat9))
                clear x8 x9
                go_roundw
                case rel => exact ⟨p + 1, W9, R, C9, CR, by omega, by go_num, rfl, by rw [HFF.out], mkHid (HWT.out ▸ HO9.out), mkHid (by rw [HFF.out]; exact HR9.out), mkHid (by rw [HFF.out]; exact HD9.out), HB9⟩
                case measure => simp [intOf]; omega
              | true =>
                have hft : ((es.take (p + 1)).map En.num).filter (fun x => mayOf es x) = RL ++ [e.num] := by rw [HFT.out]; simp
                have HFF := mkHid hft
                clear hft HZ0
                go_wp2_with (at_builtin; first
                  | (refine wpList_app _ rfl (.tmp 177) (.tmp 180) _ rfl wc.heap.size el_int W p CW (((es.take p).map En.num).map i64v) rfl HRW.out (w8.heap.size + 1) (some ⟨w8.heap.size, 0, none⟩) 1 1 [i64v e.num] rfl (SL.of_block (heap_alloc_new w8 _) rfl (by omega)) (fun u hu => by obtain rfl := List.mem_singleton.1 hu; rfl) (by unfold maxLen; omega) (by omega) (by simp; omega) ?_; intro W9 C9 w9 ho9 hg9 hat9; have x9 : w9.cell? ⟨wr.heap.size, 0, none⟩ = some (.int .i64 e.num) := (World.cell?_of_block (w := w8) (a := ⟨wr.heap.size, 0, none⟩) ((hg9.block wr.heap.size (by simp; omega) HWN.out).trans (Below.heap_alloc w8 _ _ hwr8))).trans x8; have HR9 := mkHid (own_other (own_below HR8.out HAL8.out) hg9 (fun b h1 h2 => HD.out b h2 h1)); have HB9 := mkHid ((HBW8.out.alloc hbw8 (.cells #[.int .i64 e.num] 3)).grown hg9 (by simp; omega) (own_base HW.out)); have HD9 := mkHid (show ∀ b, (Value.slice W9 (p + 1) C9).ownBlock = some b → (Value.slice R RL.length CR).ownBlock ≠ some b from fun b h1 h2 => by (rcases hat9 with h | h; exact HD.out b (h ▸ h1) h2; rw [h] at h1; injection h1 with h1; have h3 := (HR8.out.lt b h2).2; simp at h1; omega)); have HO9 := mkHid ho9; have hs9 := hg9.size; clear ho9 hg9 hat9)
                  | (refine wpList_app _ rfl (.tmp 185) (.tmp 188) _ rfl wc.heap.size el_int R RL.length CR (RL.map i64v) rfl (own_below HR9.out ((Below.refl w9.heap.size w9).alloc (Nat.le_refl _) (.cells #[.int .i64 e.num] 3))) (w9.heap.size + 1) (some ⟨w9.heap.size, 0, none⟩) 1 1 [i64v e.num] rfl (SL.of_block (heap_alloc_new w9 _) rfl (by omega)) (fun u hu => by obtain rfl := List.mem_singleton.1 hu; rfl) (by unfold maxLen; omega) (by omega) (by have := HB9.out.size; simp; omega) ?_; intro R2 C2 w10 ho10 hg10 hat10; have HW10 := mkHid (own_other (own_below HO9.out ((Below.refl w9.heap.size w9).alloc (Nat.le_refl _) (.cells #[.int .i64 e.num] 3))) hg10 (fun b h1 => HD9.out b h1)); have HB10 := mkHid ((HB9.out.alloc HB9.out.size (.cells #[.int .i64 e.num] 3)).grown hg10 (by have := HB9.out.size; simp; omega) (own_base HR9.out)); have HD10 := mkHid (show ∀ b, (Value.slice W9 (p + 1) C9).ownBlock = some b → (Value.slice R2 (RL.length + 1) C2).ownBlock ≠ some b from fun b h1 h2 => by (rcases hat10 with h | h; exact HD9.out b h1 (h ▸ h2); rw [h] at h2; injection h2 with h2; have h3 := (HO9.out.lt b h1).2; simp at h2; omega)); have HO10 := mkHid ho10; clear ho10 hg10 hat10))
                clear x8 x9
                go_roundw
                case rel => exact ⟨p + 1, W9, R2, C9, C2, by omega, by go_num, rfl, by rw [HFF.out, List.length_append, List.length_singleton], mkHid (HWT.out ▸ HW10.out), mkHid (by rw [HFF.out, List.length_append, List.length_singleton, List.map_append]; exact HO10.out), mkHid (by rw [HFF.out, List.length_append, List.length_singleton]; exact HD10.out), HB10⟩
                case measure => simp [intOf]; omega
            · obtain rfl : p = m := by omega
              have htk : es.take p = es := List.take_of_length_le (by have := HMN.out; omega)
              rw [htk] at HRL HW
              have HO0 := mkHid (may_out HN.out (num := 0) (.inl (by omega)))
              have HO1 := mkHid (may_out HN.out (num := (la : Int) + 1) (.inr (by omega)))
              have hIl : I64 ((la : Int) + 1) := ⟨by omega, by omega⟩
              have HIL := mkHid hIl
              have HTW := mkHid (HAT.out.below HB.out)
              clear htk HAT hIl
              go_wp2_with fail
              refine (waiting_any F _ es la wr HTW.out.t).mono ?_
              rintro e5 w5 ⟨A5, c5, rfl, ho5, hb5⟩
              rw [List.length_map] at ho5 ⊢
              have HI5 := mkHid (show IS w5 w5.heap.size A5 es.length (es.map En.num) from ⟨SL.of_own ho5, HNU.out.1⟩)
              have HI6 := mkHid (show IS w5 w5.heap.size W p (es.map En.num) from ((show IS wr wr.heap.size W p (es.map En.num) from ⟨SL.of_own HW.out, HNU.out.1⟩).below hb5).more hb5.size)
              have HT5 := mkHid (HTW.out.below hb5)
              have HR5 := mkHid (own_below HR.out hb5)
              have hlm : es.length ≤ 1000000 := by have := HMN.out; omega
              clear ho5 hb5 HW HR HTW HB
              go_wp2_with fail
              refine (ints_any A5 W es.length p c5 CW _ _ w5 HI5.out HI6.out hlm rfl).mono ?_
              rintro e6 w6 ⟨rfl, hb6⟩
              have HT6 := mkHid (HT5.out.below hb6)
              have HR6 := mkHid (own_below HR5.out hb6)
              clear hb6 HI5 HI6 HT5 HR5 hlm
              go_wp2_with fail
              refine (ready_any F _ es la w6 HT6.out.t).mono ?_
              rintro e7 w7 ⟨A7, c7, rfl, ho7, hb7⟩
              rw [show readyOf es = RL from HRL.out] at ho7 ⊢
              have HRI := mkHid (show ∀ y ∈ RL, I64 y from fun y hy => HNU.out.1 y (List.mem_filter.1 (HRL.out ▸ hy)).1)
              have HI7 := mkHid (show IS w7 w7.heap.size A7 RL.length RL from ⟨SL.of_own ho7, HRI.out⟩)
              have HI8 := mkHid (show IS w7 w7.heap.size R RL.length RL from ((show IS w6 w6.heap.size R RL.length RL from ⟨SL.of_own HR6.out, HRI.out⟩).below hb7).more hb7.size)
              have HT7 := mkHid (HT6.out.below hb7)
              clear ho7 hb7 HR6 HT6
              go_wp2_with fail
              refine (ints_any A7 R RL.length RL.length c7 CR RL RL w7 HI7.out HI8.out (by omega) rfl).mono ?_
              rintro e8 w8 ⟨rfl, hb8⟩
              have HT8 := mkHid (HT7.out.below hb8)
              clear hb8 HI7 HI8 HT7
              go_wp2_with fail
              refine (may_any F _ es la 0 w8 HT8.out.t ⟨by omega, by omega⟩).mono ?_
              rintro e9 w9 ⟨rfl, hb9⟩
              rw [HO0.out.1]
              have HT9 := mkHid (HT8.out.below hb9)
              clear hb9 HT8
              go_wp2_with fail
              refine (may_any F _ es la _ w9 HT9.out.t HIL.out).mono ?_
              rintro e10 w10 ⟨rfl, hb10⟩
              rw [HO1.out.1]
              have HT10 := mkHid (HT9.out.below hb10)
              clear hb10 HT9
              go_wp2_with fail
              refine (ahead_any F _ es la _ w10 HT10.out.t HIL.out).mono ?_
              rintro e11 w11 ⟨A11, c11, rfl, _, hb11⟩
              rw [HO1.out.2]
              have HT11 := mkHid (HT10.out.below hb11)
              clear hb11 HT10
              go_wp2_with fail
              go_roundw
              case rel => exact ⟨q + 1, F, A, p, C, cells, es, la, by omega, by go_num, rfl, rfl, by omega, by omega, HN, HT11⟩
              case measure => simp [intOf]; omega
    · obtain rfl : q = n := by omega
      go_wp2_with fail
      refine (awake_any _).mono ?_
      rintro e w2 ⟨rfl, hb2⟩
      go_wp2_with fail
      go_ret
      exact ⟨rfl, HAT.out.bel.trans (hb2.mono HAT.out.bel.size)⟩
end Go.Proofs.Ytgabjgmimebelaa
