/- portagelaw04.BankNumbers answers true. -/
import Derived.Test.YtpoeneabhoajaaaDoorBkL
import Derived.Deep.CutBlock
import Derived.BigQuiet
namespace Go.Proofs.YtpoeneabhoajaaaDoor
open Go.RowKit

set_option maxRecDepth 20000 in
set_option maxHeartbeats 8000000 in
theorem bankNumbers_any (a : Option Addr) (n c : Nat) (xs : List Int) (a2 : Option Addr) (n2 c2 : Nat) (ys : List Int) (w : World) (hE : ErrT w) (hx : IS w w.heap.size a n xs) (hy : IS w w.heap.size a2 n2 ys) :
    Calls Tryd.prog 3 #[.slice a n c, .slice a2 n2 c2] w fun e w' => e = .returned (.bool true) ∧ Below w.heap.size w w' := by
  have HAW := mkHid (fun W => awake_any W)
  have HE := mkHid hE
  have HX := mkHid hx
  have HY := mkHid hy
  clear hx hy hE
  go_enter Tryd.func3, Tryd.ntmps3
  go_wp2_with fail
  refine (newBank_any w).mono ?_
  rintro e w1 ⟨g, F, rfl, hd, hF, hb1⟩
  have HN := mkHid (show NB w w1 F g bst0 none 0 0 bst0.sizes from ⟨hd, hF, hb1, World.ownsRow_nil _ _ _ _, fun r hr => by cases hr⟩)
  clear hd hF hb1
  by_cases hlong : 30 < n
  · go_wp2_with fail
    refine (HAW.out _).mono ?_
    rintro e w3 ⟨rfl, hb3⟩
    have HT3 := mkHid (HN.out.below hb3)
    clear hb3
    go_wp2_with fail
    go_ret
    exact ⟨rfl, HT3.out.bel⟩
  by_cases hsh : n2 < n
  · go_wp2_with fail
    refine (HAW.out _).mono ?_
    rintro e w3 ⟨rfl, hb3⟩
    have HT3 := mkHid (HN.out.below hb3)
    clear hb3
    go_wp2_with fail
    go_ret
    exact ⟨rfl, HT3.out.bel⟩
  go_wp2_with fail
  go_loopw [6, 36] (fun want i wr => ∃ (q : Nat) (F : Nat → Prop) (s : Bst) (A : Option Addr) (k C : Nat), q ≤ n ∧ want = .slice A k C ∧ i = .int .i64 q ∧ Hid (NB w wr F g s A k C s.sizes) ∧ Hid (s.down = false) ∧ k ≤ 8 ∧ k ≤ C) (fun _ i _ => n - (intOf i).toNat)
  case atStart => exact ⟨0, F, bst0, none, 0, 0, Nat.zero_le _, rfl, rfl, HN, mkHid rfl, by omega, by omega⟩
  case round =>
    clear HN
    obtain ⟨q, F, s, A, k, C, hq, rfl, rfl, HNB, HDN, hk8, hkC⟩ := hrel
    have hlk : s.ds.length = k := (sizes_len s).symm.trans HNB.out.len
    have HLK := mkHid hlk
    clear hlk
    obtain ⟨wP, rfl⟩ : ∃ x : World, x = wr := ⟨wr, rfl⟩
    by_cases hlt : q < n
    · obtain ⟨b, o, rfl, hb, g0, hI⟩ := HX.out.at_ hlt
      obtain ⟨b2, o2, rfl, hb2, g2, hI2⟩ := HY.out.at_ (show q < n2 by omega)
      have c0 := (HNB.out.bel.cell (p := ⟨b, o + q, none⟩) hb).trans g0
      obtain ⟨x, hxe⟩ : ∃ x, xs[q]?.getD 0 = x := ⟨_, rfl⟩
      rw [hxe] at c0 hI
      have HI := mkHid hI
      obtain ⟨y, hye⟩ : ∃ y, ys[q]?.getD 0 = y := ⟨_, rfl⟩
      rw [hye] at g2 hI2
      have HI2 := mkHid hI2
      have HG2 := mkHid (show ∀ W, Below w.heap.size w W → W.cell? ⟨b2, o2 + q, none⟩ = some (.int .i64 y) from fun W hW => (hW.cell (p := ⟨b2, o2 + q, none⟩) hb2).trans g2)
      obtain ⟨hi0, hi1⟩ := hI
      obtain ⟨hj0, hj1⟩ := hI2
      clear g0 g2 hxe hye hb hb2
      by_cases hmid : 50 < x ∧ x ≤ 4096
      · obtain ⟨hm1, hm2⟩ := hmid
        go_wp2_with fail
        refine (HAW.out _).mono ?_
        rintro e w3 ⟨rfl, hb3⟩
        have HT3 := mkHid (HNB.out.below hb3)
        clear hb3
        go_wp2_with fail
        go_ret
        exact ⟨rfl, HT3.out.bel⟩
      have hbig : (50 < x) = (4096 < x) := by apply propext; omega
      clear hmid
      go_upto_region 8 with (fail)
      go_cut [46] (fun v wd => v = .bool false ∧ wP = wd)
      case first =>
        by_cases h50 : 50 < x
        · have hbb : 4096 < x := hbig ▸ h50
          go_wp2_with fail
          go_meet
          case rel => exact ⟨by rw [decide_eq_false (by omega)], rfl⟩
        · go_wp2_with fail
          go_meet
          case rel => exact ⟨rfl, rfl⟩
      case rest =>
      obtain ⟨rfl, rfl⟩ := hcut
      clear hbig
      go_wp2_with fail
      refine (add_any F g s x wP HNB.out.b HI.out).mono ?_
      rintro e w2 ⟨i, v, rfl, hi1, hi2, hv, ht2, F2, hb2, hF2⟩
      have HNB2 := mkHid (HNB.out.step ht2 hb2 hF2)
      have HE2 := mkHid (HE.out.below HNB2.out.bel)
      rw [HLK.out] at hi1 hv
      have hae : s.addE x = if 8 ≤ k then 24 else if 1 ≤ x ∧ x ≤ 4096 then 0 else 20 := by
        unfold Bst.addE
        rw [if_neg (by rw [HDN.out]; simp), HLK.out]
      have HV := mkHid hv
      have HDN2 := mkHid (show (s.added x).down = false from (added_down s x).trans HDN.out)
      have HSA := mkHid (fun h : s.addE x ≠ 0 => show s.added x = s from if_neg h)
      have HSB := mkHid (fun h : s.addE x = 0 => sizes_added h)
      clear hv ht2 hb2 hF2
      go_upto_block 2 with (fail)
      go_cut [6] (fun want wd => ∃ (s2 : Bst) (F2 : Nat → Prop) (A2 : Option Addr) (k2 C2 : Nat), want = .slice A2 k2 C2 ∧ Hid (NB w wd F2 g s2 A2 k2 C2 s2.sizes) ∧ Hid (s2.down = false) ∧ k2 ≤ 8 ∧ k2 ≤ C2)
      case first =>
        by_cases h8 : 8 ≤ k
        · rw [if_pos h8] at hae
          rw [hae] at HV HSA
          rw [HSA.out (by decide)] at HNB2
          clear hi1 hi2 hae
          go_wp2_with fail
          refine (told_any v opAdd k 0 24 w2 HE2.out HV.out).mono ?_
          rintro e w3 ⟨rfl, hb3⟩
          have HNB3 := mkHid (HNB2.out.below hb3)
          clear hb3
          go_wp2_with fail
          go_meet
          case rel => exact ⟨s, F2, A, k, C, rfl, HNB3, HDN, hk8, hkC⟩
        rw [if_neg h8] at hae
        by_cases hxx : 1 ≤ x ∧ x ≤ 4096
        · rw [if_pos hxx] at hae
          obtain ⟨hx1, hx2⟩ := hxx
          obtain rfl := hi1 hae
          rw [hae] at HV
          obtain rfl := HV.out.1 rfl
          have HS := mkHid (HSB.out hae)
          clear hi1 hi2 hae HV HSB HSA
          go_wp2_with (at_builtin; refine wpList_app _ rfl (.tmp 62) (.tmp 64) _ rfl w.heap.size el_int A k C _ rfl (HNB2.out.row.alloc _) (w2.heap.size + 1) (some ⟨w2.heap.size, 0, none⟩) 1 1 [i64v x] rfl (SL.one _ _) (fun u hu => by obtain rfl := List.mem_singleton.1 hu; rfl) (by unfold maxLen; omega) (by omega) (by simp; have := HNB2.out.bel.size; omega) ?_; intro A' C' w3 ho3 hg3 hat3; have HNB3 := mkHid (HNB2.out.grow (l' := (s.added x).sizes) (by rw [HS.out, List.map_append]; exact ho3) hg3 hat3); clear ho3 hg3 hat3)
          go_meet
          case rel => exact ⟨s.added x, F2, A', k + 1, C', rfl, HNB3, HDN2, by omega, (own_cap HNB3.out.row).1⟩
        rw [if_neg hxx] at hae
        rw [hae] at HV HSA
        rw [HSA.out (by decide)] at HNB2
        clear hi1 hi2 hae
        by_cases hx1 : x < 1
        · go_wp2_with fail
          refine (told_any v opAdd k 0 20 w2 HE2.out HV.out).mono ?_
          rintro e w3 ⟨rfl, hb3⟩
          have HNB3 := mkHid (HNB2.out.below hb3)
          clear hb3
          go_wp2_with fail
          go_meet
          case rel => exact ⟨s, F2, A, k, C, rfl, HNB3, HDN, hk8, hkC⟩
        · have hx2 : 4096 < x := by omega
          go_wp2_with fail
          refine (told_any v opAdd k 0 20 w2 HE2.out HV.out).mono ?_
          rintro e w3 ⟨rfl, hb3⟩
          have HNB3 := mkHid (HNB2.out.below hb3)
          clear hb3
          go_wp2_with fail
          go_meet
          case rel => exact ⟨s, F2, A, k, C, rfl, HNB3, HDN, hk8, hkC⟩
      case rest =>
      obtain ⟨s2, F3, A2, k2, C2, rfl, HNC, HDC, hk28, hkC2⟩ := hcut
      clear HNB HDN HNB2 HE2 HV HDN2 HSA HSB hi1 hi2 hae hkC hk8 HLK
      have cg := HG2.out wc HNC.out.bel
      clear HG2
      by_cases hy0 : 0 ≤ y
      case neg =>
        go_wp2_with fail
        go_roundw
        case rel => exact ⟨q + 1, F3, s2, A2, k2, C2, by omega, rfl, by go_num, HNC, HDC, hk28, hkC2⟩
        case measure => simp [intOf]; omega
      by_cases hyk : y < k2
      case neg =>
        go_wp2_with fail
        go_roundw
        case rel => exact ⟨q + 1, F3, s2, A2, k2, C2, by omega, rfl, by go_num, HNC, HDC, hk28, hkC2⟩
        case measure => simp [intOf]; omega
      obtain ⟨d, rfl⟩ := Int.eq_ofNat_of_zero_le hy0
      have hdk : d < k2 := by omega
      obtain ⟨r, rfl, hr, cw, fw⟩ := HNC.out.form hdk
      obtain ⟨z, hz⟩ : ∃ z, s2.sizes[d]?.getD 0 = z := ⟨_, rfl⟩
      rw [hz] at cw
      have HZ := mkHid hz
      clear hz
      by_cases hz0 : 0 < z
      case neg =>
        go_wp2_with fail
        go_roundw
        case rel => exact ⟨q + 1, F3, s2, _, k2, C2, by omega, rfl, by go_num, HNC, HDC, hk28, hkC2⟩
        case measure => simp [intOf]; omega
      have hlv : s2.liveE d = 0 := sizes_live HDC.out (by rw [HZ.out]; exact hz0)
      have HLV := mkHid hlv
      clear hlv
      go_wp2_with fail
      refine (detach_any F3 g s2 d wc HNC.out.b HI2.out).mono ?_
      rintro e w5 ⟨v5, rfl, hv5, ht5, F5, hb5, hF5⟩
      rw [HLV.out] at hv5
      obtain rfl := hv5.1 rfl
      have HN5 := mkHid (HNC.out.step ht5 hb5 hF5)
      have HD5 := mkHid ((detached_down s2 d).trans HDC.out)
      have HS5 := mkHid (sizes_detached HLV.out)
      clear hv5 ht5 hb5 hF5 cw fw cg
      obtain ⟨r', hr', hr5, cw, fw⟩ := HN5.out.form hdk
      injection hr' with hr'
      injection hr' with hr'
      subst hr'
      go_wp2_with fail
      go_roundw
      case rel => exact ⟨q + 1, F5, s2.detached d, _, k2, C2, by omega, rfl, by go_num, mkHid (by rw [HS5.out]; exact HN5.out.zero hdk), HD5, hk28, hkC2⟩
      case measure => simp [intOf]; omega
    · obtain rfl : q = n := by omega
      go_wp2_with fail
      refine (sizes_any F g s wP HNB.out.b).mono ?_
      rintro e w3 ⟨A3, C3, rfl, ho3, hb3⟩
      rw [HNB.out.len] at ho3 ⊢
      have HO3 := mkHid ho3
      have HB3 := mkHid hb3
      have HN3 := mkHid (HNB.out.below hb3)
      clear ho3 hb3
      go_wp2_with fail
      go_loopw [123] (fun i wr => ∃ j : Nat, j ≤ k ∧ i = .int .i64 j ∧ Hid (Below w3.heap.size w3 wr)) (fun i _ => k - (intOf i).toNat)
      case atStart => exact ⟨0, Nat.zero_le _, rfl, mkHid (Below.refl _ _)⟩
      case round =>
        obtain ⟨j, hj, rfl, HBJ⟩ := hrel
        have HNJ := mkHid (HN3.out.below HBJ.out)
        have HOJ := mkHid (own_below HO3.out (Below.mk HBJ.out.os HBJ.out.tape HBJ.out.output HBJ.out.size HBJ.out.block))
        by_cases hjk : j < k
        · obtain ⟨r, rfl, hr, z1, _⟩ := HNJ.out.form hjk
          obtain ⟨b3, o3, rfl, hb3, z2⟩ := (SL.of_own HOJ.out).2 j (by omega)
          rw [List.getElem?_map, List.getElem?_eq_getElem (by rw [HN3.out.len]; exact hjk)] at z2
          rw [List.getElem?_eq_getElem (by rw [HN3.out.len]; exact hjk)] at z1
          simp only [Option.map_some, Option.getD_some, i64v] at z1 z2
          obtain ⟨z, hz⟩ : ∃ z, s.sizes[j]'(by rw [HN3.out.len]; exact hjk) = z := ⟨_, rfl⟩
          rw [hz] at z1 z2
          clear hz
          go_upto_region 32 with (fail)
          go_quiet (fail)
          go_wp2_with fail
          go_roundw
          case rel => exact ⟨j + 1, hjk, by go_num, mkHid (below_drewN HBJ.out _)⟩
          case measure => simp [intOf]; omega
        · obtain rfl : j = k := by omega
          go_wp2_with fail
          refine (HAW.out _).mono ?_
          rintro e w4 ⟨rfl, hb4⟩
          have HN4 := mkHid (HNJ.out.below hb4)
          clear hb4
          go_wp2_with fail
          go_ret
          exact ⟨rfl, HN4.out.bel⟩

end Go.Proofs.YtpoeneabhoajaaaDoor
