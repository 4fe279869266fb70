/- portageref02.Get by contract: it tells what the program's Get tells. -/
import Derived.Test.YtbgfccfhiocomaaRefFrameF
namespace Go.Proofs.Ytbgfccfhiocomaa
open Go.RowKit

set_option maxRecDepth 20000 in
set_option maxHeartbeats 2000000 in
theorem rget_any (k : Int) (a : Option Addr) (n c : Nat) (l : List Int) (w : World) (hx : BS w w.heap.size a n l) (hn : CapOk n c) :
    Calls Try.prog 42 #[.int .u8 k, .slice a n c] w fun e w' => ∃ A n' c', e = .returned (.tuple #[.slice A n' c', .int .i64 (getOf k l).1]) ∧ w'.ownsRow w.heap.size 5 1 (.slice A n' c') n' ((getOf k l).2.map u8) ∧ Below w.heap.size w w' := by
  obtain ⟨hn1, hn2, hn3⟩ := hn
  have hl := hx.len
  by_cases h128 : n = 128
  · subst h128
    obtain ⟨b, o, rfl, hbl, hc0, hy0, hy1⟩ := hx.at_ (j := 0) (by omega)
    rw [Nat.add_zero] at hc0
    have hc4 : (124 : Int) ≤ c := by omega
    have ht := hx.take (k := 124) (by omega)
    have hd := hx.cut 124 128 (by omega) (by omega)
    rw [List.take_of_length_le (by omega)] at hd
    have hcr := crcSum_range ht.2
    have HT := mkHid (show ∀ W : World, W.heap = w.heap → BS W W.heap.size (some ⟨b, o, none⟩) 124 (l.take 124) from fun W hW => by rw [show W.heap.size = w.heap.size by rw [hW]]; exact ht.keep fun b _ => by rw [hW])
    have HD := mkHid hd
    have hne : ¬ c = 124 := by omega
    by_cases hs : l.drop 124 = be32 (crcSum (l.take 124))
    · have HQ := mkHid (show decide (nb 4 (crcSum (l.take 124)) = l.drop 124) = true by rw [nb4 hcr]; exact decide_eq_true hs.symm)
      have HGk := mkHid (show l[0]?.getD 0 ≠ k → getOf k l = (13, []) from fun h => getOf_kind hl hs h)
      have HGn := mkHid (show l[0]?.getD 0 = k → bodyOf l = none → getOf k l = (14, []) from fun h => getOf_none hl hs h)
      have HGs := mkHid (show ∀ p, l[0]?.getD 0 = k → bodyOf l = some p → getOf k l = (0, p) from fun p h => getOf_some hl hs h)
      obtain ⟨b1, o1, hbo, _, hc1, hz0, hz1⟩ := hx.at_ (j := 1) (by omega)
      injection hbo with hbo
      injection hbo with e1 e2
      subst e1
      subst e2
      have HX := mkHid hx
      clear hs ht hd hl hx
      generalize hSE : crcSum (l.take 124) = S at *
      have HSE := mkHid hSE
      clear hSE
      by_cases hk : l[0]?.getD 0 = k
      · have hkk : (l[0]?.getD 0 != k) = false := by simp [hk]
        have HKK := mkHid hk
        clear hk
        by_cases hbig : (122 : Int) < l[1]?.getD 0
        · have hbn : bodyOf l = none := by unfold bodyOf; rw [if_pos (.inl hbig)]
          rw [HGn.out HKK.out hbn]
          clear hbn
          go_enter Try.func42, Try.ntmps42
          go_wp2_with fail
          go_region_held3 (fun _ => True) (trivial) (first
            | (go_at_call 77; refine (rsum_any _ _ _ _ _ (HT.out _ (by rfl)) (by unfold maxLen; omega)).mono ?_; rintro e w1 ⟨rfl, rfl⟩; rw [HSE.out])
            | (go_at_call 38; refine (number_any S 4 _ ⟨hcr.1, by omega⟩ (by omega)).mono ?_; rintro e w2 ⟨A2, n2, c2, rfl, hown2, hb2⟩)
            | (go_at_call 13; refine (bsame_any _ _ _ _ _ _ _ _ _ _ _ ⟨SL.of_own hown2, nb_ok _ _⟩ (HD.out.keep fun b hb => hb2.block b hb)).mono ?_; rintro e w' ⟨rfl, rfl⟩; rw [HQ.out]))
          have hbel : Below w.heap.size w w2 := Below.trans ((Below.refl _ _).drew) hb2
          have hc0' : w2.cell? ⟨b, o, none⟩ = some (.int .u8 (l[0]?.getD 0)) := (hbel.cell (p := ⟨b, o, none⟩) hbl).trans hc0
          have hc1' : w2.cell? ⟨b, o + 1, none⟩ = some (.int .u8 (l[1]?.getD 0)) := (hbel.cell (p := ⟨b, o + 1, none⟩) hbl).trans hc1
          clear hc0 hc1 hown2 hb2
          go_wp2_with fail
          go_ret2
          exact ⟨none, 0, 0, rfl, World.ownsRow_nil _ _ _ _, hbel⟩
        · obtain ⟨m, hm⟩ := Int.eq_ofNat_of_zero_le hz0
          have hm2 : m ≤ 122 := by omega
          have hbo : bodyOf l = if ((l.take 124).drop (2 + m)).all (· == 0) = false then none else some ((l.take (2 + m)).drop 2) := by
            unfold bodyOf
            rw [hm, Int.toNat_natCast]
            by_cases hq : ((l.take 124).drop (2 + m)).all (· == 0) = false
            · rw [if_pos hq, if_pos (.inr hq)]
            · rw [if_neg hq, if_neg (by rintro (h | h); omega; exact hq h)]
          have HBO := mkHid hbo
          rw [hm] at hc1
          clear hbig hm hz0 hz1 hbo
          go_enter Try.func42, Try.ntmps42
          go_wp2_with fail
          go_region_held3 (fun _ => True) (trivial) (first
            | (go_at_call 77; refine (rsum_any _ _ _ _ _ (HT.out _ (by rfl)) (by unfold maxLen; omega)).mono ?_; rintro e w1 ⟨rfl, rfl⟩; rw [HSE.out])
            | (go_at_call 38; refine (number_any S 4 _ ⟨hcr.1, by omega⟩ (by omega)).mono ?_; rintro e w2 ⟨A2, n2, c2, rfl, hown2, hb2⟩)
            | (go_at_call 13; refine (bsame_any _ _ _ _ _ _ _ _ _ _ _ ⟨SL.of_own hown2, nb_ok _ _⟩ (HD.out.keep fun b hb => hb2.block b hb)).mono ?_; rintro e w' ⟨rfl, rfl⟩; rw [HQ.out]))
          have hbel : Below w.heap.size w w2 := Below.trans ((Below.refl _ _).drew) hb2
          have hs2 := hbel.size
          have hc0' : w2.cell? ⟨b, o, none⟩ = some (.int .u8 (l[0]?.getD 0)) := (hbel.cell (p := ⟨b, o, none⟩) hbl).trans hc0
          have hc1' : w2.cell? ⟨b, o + 1, none⟩ = some (.int .u8 m) := (hbel.cell (p := ⟨b, o + 1, none⟩) hbl).trans hc1
          have hX2 := HX.out.below hbel
          clear hc0 hc1 hown2 hb2
          go_wp2_with fail
          go_loop [7] (fun i => ∃ j : Nat, 2 + m + j ≤ 124 ∧ i = .int .i64 ((2 + m + j : Nat) : Int) ∧ (((l.take 124).drop (2 + m)).take j).all (· == 0) = true) (fun i => 124 - (intOf i).toNat)
          case atStart => exact ⟨0, by omega, by go_num, rfl⟩
          case round =>
            obtain ⟨j, hj, rfl, hz⟩ := hrel
            have HZ := mkHid hz
            clear hz
            by_cases hlt : 2 + m + j < 124
            · obtain ⟨b', o', hbo', _, hcj, hj0, hj1⟩ := hX2.at_ (j := 2 + m + j) (by omega)
              injection hbo' with hbo'
              injection hbo' with e1 e2
              subst e1
              subst e2
              have hix : ((l.take 124).drop (2 + m))[j]?.getD 0 = l[2 + m + j]?.getD 0 := by
                rw [List.getElem?_drop, List.getElem?_take, if_pos hlt]
              have hln : j < ((l.take 124).drop (2 + m)).length := by
                have := HX.out.len
                rw [List.length_drop, List.length_take]
                omega
              have HIX := mkHid hix
              have HLN := mkHid hln
              clear hix hln
              generalize hM : 2 + m + j = M at *
              cases hnz : (l[M]?.getD 0 != 0) with
              | true =>
                have hbn : bodyOf l = none := by
                  rw [HBO.out, if_pos (all_false HLN.out (by rw [HIX.out]; exact hnz))]
                have HE := mkHid (HGn.out HKK.out hbn)
                clear hbn
                go_wp2_with fail
                go_ret2
                rw [HE.out]
                exact ⟨none, 0, 0, rfl, World.ownsRow_nil _ _ _ _, hbel⟩
              | false =>
                have hz2 := all_succ HLN.out HZ.out (by rw [HIX.out]; exact hnz)
                have HZ2 := mkHid hz2
                clear hz2
                go_wp2_with fail
                go_round
                case rel => exact ⟨j + 1, by omega, by rw [show 2 + m + (j + 1) = M + 1 by omega]; go_num, HZ2.out⟩
                case measure => simp [intOf]; omega
            · obtain ⟨hj3, hj2⟩ : 2 + m + j = 124 ∧ j = 122 - m := by omega
              have hln : ((l.take 124).drop (2 + m)).length = j := by
                have := HX.out.len
                rw [List.length_drop, List.length_take]
                omega
              have hbs : bodyOf l = some ((l.take (2 + m)).drop 2) := by
                have hz := HZ.out
                rw [List.take_of_length_le (by omega)] at hz
                rw [HBO.out, if_neg (by rw [hz]; decide)]
              have HE := mkHid (HGs.out _ HKK.out hbs)
              rw [hj3]
              have hcu := hX2.cut 2 (2 + m) (by omega) (by omega)
              rw [show 2 + m - 2 = m by omega] at hcu
              have HCU := mkHid (hcu.more hs2)
              have hne2 : ¬ c = 2 := by omega
              clear hbs hln hj2 hj3 hlt hj hcu hX2
              go_wp2_with (go_at_call 19; refine (copy_any _ _ _ _ _ HCU.out (by omega)).mono ?_; rintro e w3 ⟨A3, n3, c3, rfl, hown3, hb3⟩)
              go_ret2
              rw [HE.out]
              exact ⟨A3, n3, c3, rfl, own_weaken hown3 hs2, hbel.trans (hb3.mono hs2)⟩
      · have hkk : (l[0]?.getD 0 != k) = true := by simp [hk]
        rw [HGk.out hk]
        clear hk
        go_enter Try.func42, Try.ntmps42
        go_wp2_with fail
        go_region_held3 (fun _ => True) (trivial) (first
          | (go_at_call 77; refine (rsum_any _ _ _ _ _ (HT.out _ (by rfl)) (by unfold maxLen; omega)).mono ?_; rintro e w1 ⟨rfl, rfl⟩; rw [HSE.out])
          | (go_at_call 38; refine (number_any S 4 _ ⟨hcr.1, by omega⟩ (by omega)).mono ?_; rintro e w2 ⟨A2, n2, c2, rfl, hown2, hb2⟩)
          | (go_at_call 13; refine (bsame_any _ _ _ _ _ _ _ _ _ _ _ ⟨SL.of_own hown2, nb_ok _ _⟩ (HD.out.keep fun b hb => hb2.block b hb)).mono ?_; rintro e w' ⟨rfl, rfl⟩; rw [HQ.out]))
        have hbel : Below w.heap.size w w2 := Below.trans ((Below.refl _ _).drew) hb2
        have hc0' : w2.cell? ⟨b, o, none⟩ = some (.int .u8 (l[0]?.getD 0)) := (hbel.cell (p := ⟨b, o, none⟩) hbl).trans hc0
        clear hc0 hown2 hb2
        go_wp2_with fail
        go_ret2
        exact ⟨none, 0, 0, rfl, World.ownsRow_nil _ _ _ _, hbel⟩
    · have e1 := getOf_sum (k := k) hl hs
      rw [e1]
      have HQ := mkHid (show decide (nb 4 (crcSum (l.take 124)) = l.drop 124) = false by rw [nb4 hcr]; exact decide_eq_false fun e => hs e.symm)
      clear e1 hs ht hd hx hl
      generalize hSE : crcSum (l.take 124) = S at *
      have HSE := mkHid hSE
      clear hSE
      go_enter Try.func42, Try.ntmps42
      go_wp2_with fail
      go_region_held3 (fun _ => True) (trivial) (first
        | (go_at_call 77; refine (rsum_any _ _ _ _ _ (HT.out _ (by rfl)) (by unfold maxLen; omega)).mono ?_; rintro e w1 ⟨rfl, rfl⟩; rw [HSE.out])
        | (go_at_call 38; refine (number_any S 4 _ ⟨hcr.1, by omega⟩ (by omega)).mono ?_; rintro e w2 ⟨A2, n2, c2, rfl, hown2, hb2⟩)
        | (go_at_call 13; refine (bsame_any _ _ _ _ _ _ _ _ _ _ _ ⟨SL.of_own hown2, nb_ok _ _⟩ (HD.out.keep fun b hb => hb2.block b hb)).mono ?_; rintro e w' ⟨rfl, rfl⟩; rw [HQ.out]))
      have hbel : Below w.heap.size w w2 := Below.trans ((Below.refl _ _).drew) hb2
      clear hown2 hb2
      go_wp2_with fail
      go_ret2
      exact ⟨none, 0, 0, rfl, World.ownsRow_nil _ _ _ _, hbel⟩
  · rw [getOf_size (by omega)]
    have hne : ((n : Int) != 128) = true := by rw [bne_iff_ne]; omega
    clear h128 hl
    go_enter Try.func42, Try.ntmps42
    go_wp2_with fail
    go_ret2
    exact ⟨none, 0, 0, rfl, World.ownsRow_nil _ _ _ _, Below.refl _ _⟩

end Go.Proofs.Ytbgfccfhiocomaa
