/- FrameBack: the walk of the law. -/
import Derived.Test.YtncbckbcdopipaaFrameLaw
import Derived.Test.YtncbckbcdopipaaAwake02
import Derived.Test.YtncbckbcdopipaaErrIs
namespace Go.Proofs.Ytncbckbcdopipaa
open Go.RowKit

theorem pow_byte (r : Nat) (h : r < 8) : (0 ≤ (2 : Int) ^ r % 256 ∧ (2 : Int) ^ r % 256 < 256) ∧ (2 : Int) ^ r % 256 ≠ 0 := by
  obtain rfl | rfl | rfl | rfl | rfl | rfl | rfl | rfl : r = 0 ∨ r = 1 ∨ r = 2 ∨ r = 3 ∨ r = 4 ∨ r = 5 ∨ r = 6 ∨ r = 7 := by omega
  all_goals decide

set_option maxRecDepth 20000 in
set_option maxHeartbeats 1000000 in
theorem back_any (k o : Int) (a : Option Addr) (n c : Nat) (l : List Int) (bit : Int) (w : World) (hk : 0 ≤ k ∧ k < 256) (hx : BS w w.heap.size a n l) (hn : n ≤ c ∧ c ≤ 140737488351232) :
    Calls Try.prog 7 #[.agg #[.int .u8 k, .int .u8 o, .slice a n c, .int .i64 bit]] w fun e w' => e = .returned (.bool true) ∧ Below w.heap.size w w' := by
  obtain ⟨hn1, hn2⟩ := hn
  by_cases hbig : 122 < n
  · go_enter Try.func7, Try.ntmps7
    go_wp2_with fail
    go_quiet (fail)
    go_wp2_with (go_at_call 11; refine (awake_any _).mono ?_; rintro e w1 ⟨rfl, hb1⟩)
    go_ret
    exact ⟨rfl, (below_drewN ((Below.refl _ _).alloc (Nat.le_refl _) _) _).trans (hb1.mono (by simp))⟩
  · have HL := mkHid hx.len
    go_enter Try.func7, Try.ntmps7
    go_wp2_with fail
    go_quiet (fail)
    generalize hW0 : World.drewN _ _ = W0
    have hb0 : Below w.heap.size w W0 := by rw [← hW0]; exact below_drewN ((Below.refl _ _).alloc (Nat.le_refl _) _) _
    clear hW0
    have hs0 := hb0.size
    have hx0 := (hx.below hb0).more hs0
    go_wp2_with fail
    refine (put_ok k a n c l W0 hx0 (by omega) hk).mono ?_
    rintro e w1 ⟨A, c1, rfl, ho1, hb1⟩
    have hs1 := hb1.size
    have hF : BS w1 w1.heap.size A 128 (frameOf k l) := ⟨SL.of_own ho1, frameOf_ok hk hx.2 (by rw [HL.out]; omega)⟩
    have hcap : CapOk 128 c1 := ⟨(own_cap ho1).1, (own_cap ho1).2, by omega⟩
    have hgf := get_frame (k := k) (l := l) (by rw [HL.out]; omega)
    go_wp2_with fail
    refine (get_ok k A 128 c1 (frameOf k l) w1 hF hcap (by rw [hgf])).mono ?_
    rintro e w2 ⟨A2, n2, c2, rfl, ho2, hb2⟩
    rw [hgf] at ho2
    have hs2 := hb2.size
    have hp2 : BS w2 w2.heap.size A2 n2 l := ⟨SL.of_own ho2, hx.2⟩
    have hx2 := ((hx0.below hb1).more hs1).below hb2
    have HGF := mkHid hgf
    have HO1 := mkHid (own_below ho1 hb2)
    clear hgf ho1 ho2 hx0
    go_wp2_with fail
    refine (same_any A2 a n2 n c2 c _ _ l l w2 hp2 hx2).mono ?_
    rintro e w' ⟨rfl, rfl⟩
    rw [decide_eq_true rfl]
    have hF2 : BS w2 w2.heap.size A 128 (frameOf k l) := (hF.below hb2).more hs2
    have hbT : Below w.heap.size w w2 := (hb0.trans (hb1.mono hs0)).trans (hb2.mono (by omega))
    have hgT : W0.heap.size ≤ w2.heap.size := by omega
    clear hp2 hx2 hF hb0 hb1 hb2 hs1 hs2
    by_cases heq : o = k
    · have hbb : (o != k) = false := by simp [heq]
      clear heq
      go_upto_region 12 with (fail)
      obtain ⟨wt, hwt⟩ : ∃ wt, w2 = wt := ⟨_, rfl⟩
      rw [hwt] at hbT hgT HO1 hF2 ⊢
      clear hwt
      have hsT := hbT.size
      have FIN := mkHid (show ∀ e w3, Ending.returned (.bool true) = e → Below wt.heap.size wt w3 → e = .returned (.bool true) ∧ Below w.heap.size w w3 from fun e w3 he h3 => ⟨he.symm, hbT.trans (h3.mono hsT)⟩)
      by_cases hneg : bit < 0
      · go_wp2_with (go_at_call 11; refine (awake_any _).mono ?_; rintro e w3 ⟨rfl, hb3⟩)
        go_ret
        exact FIN.out _ _ rfl hb3
      obtain ⟨q, rfl⟩ := Int.eq_ofNat_of_zero_le (a := bit) (by omega)
      by_cases hge : 1024 ≤ q
      · go_wp2_with (go_at_call 11; refine (awake_any _).mono ?_; rintro e w3 ⟨rfl, hb3⟩)
        go_ret
        exact FIN.out _ _ rfl hb3
      obtain ⟨g, rfl, hg1, hg2, hcell⟩ := own_cells HO1.out (by omega)
      have hfz := frozen_of_own HO1.out (q / 8)
      have hcq := hcell (q / 8) (by omega)
      clear hcell
      have hq0 : (0 : Int) ≤ (q : Int) / 8 := by omega
      have hq1 : (q : Int) / 8 < 128 := by omega
      obtain ⟨hm1, hm2⟩ := pow_byte (q % 8) (Nat.mod_lt _ (by omega))
      have hokF := frameOf_ok hk hx.2 (by rw [HL.out]; omega)
      have hFq := hokF.get (q / 8)
      obtain ⟨hy1, hy2⟩ := xor_byte hFq hm1 hm2
      have hset := own_set (v := u8 (bits .xor .u8 ((frameOf k l)[q / 8]?.getD 0) (2 ^ (q % 8) % 256))) HO1.out (p := q / 8) (by omega)
      rw [← List.map_set] at hset
      have hgf : ∀ o', getOf o' ((frameOf k l).set (q / 8) (bits .xor .u8 ((frameOf k l)[q / 8]?.getD 0) (2 ^ (q % 8) % 256))) = (12, []) := fun o' => get_flip hk hx.2 (by rw [HL.out]; omega) (by omega) hy1 hy2
      have hokS : okBytes ((frameOf k l).set (q / 8) (bits .xor .u8 ((frameOf k l)[q / 8]?.getD 0) (2 ^ (q % 8) % 256))) := fun z hz => by
        rcases List.mem_or_eq_of_mem_set hz with hz | rfl
        · exact hokF z hz
        · exact hy1
      have HSET := mkHid hset
      have HG := mkHid hgf
      have HK := mkHid hokS
      clear hset hgf hokS hy1 hy2 hFq hokF hm1 hm2
      go_wp2_with fail
      go_region
      go_wp2_with fail
      generalize hY : bits BinOp.xor IntKind.u8 ((frameOf k l)[q / 8]?.getD 0) (2 ^ (q % 8) % 256) = Y at *
      generalize hWf : World.drew _ = wf
      have hbf : Below w.heap.size w wf := by rw [← hWf]; exact (hbT.setCell (by show _ ≤ g; omega) _).drew
      have hof : wf.ownsRow W0.heap.size 5 1 (.slice (some ⟨g, 0, none⟩) 128 c1) 128 (((frameOf k l).set (q / 8) Y).map u8) := by rw [← hWf]; exact HSET.out.drew
      clear hWf hcq hfz FIN hbT hsT
      have hFf : BS wf wf.heap.size (some ⟨g, 0, none⟩) 128 ((frameOf k l).set (q / 8) Y) := ⟨SL.of_own hof, HK.out⟩
      generalize hF' : (frameOf k l).set (q / 8) Y = F' at *
      clear hF' hY
      have HCf := mkHid (get_err k _ 128 c1 F' wf hFf hcap (by rw [HG.out]; decide))
      rw [HG.out] at HCf
      refine HCf.out.mono ?_
      rintro e wg ⟨rfl, hbg⟩
      have hsg := hbg.size
      have hFg := (hFf.below hbg).more hsg
      have hKg : kindOf F' = (0, false) := by unfold kindOf; rw [HG.out]; rfl
      have HKg := mkHid (kind_any _ 128 c1 F' wg hFg hcap)
      rw [hKg] at HKg
      have hbw := hbf.trans (hbg.mono hbf.size)
      have hsf := hbf.size
      clear hKg hFg hFf hof HCf hbf hbg
      go_wp2_with fail
      refine HKg.out.mono ?_
      rintro e wh ⟨rfl, hbh⟩
      have hbw2 := hbw.trans (hbh.mono hbw.size)
      have hsw := hbw2.size
      clear HKg hbw hbh
      go_wp2_with (first
        | (go_at_call 21; refine (is_code 12 12 _).mono ?_; rintro e w' ⟨rfl, rfl⟩; rw [show ((12 : Int) != 0 && (12 : Int) == 12) = true from rfl])
        | (go_at_call 11; refine (awake_any _).mono ?_; rintro e w3 ⟨rfl, hb3⟩))
      go_ret
      exact ⟨rfl, hbw2.trans (hb3.mono hsw)⟩
    · have hbb : (o != k) = true := by simp [heq]
      have hgo := get_other (k := k) (o := o) (l := l) (by rw [HL.out]; omega) heq
      have HC := mkHid (get_err o A 128 c1 (frameOf k l) w2 hF2 hcap (by rw [hgo]; decide))
      rw [hgo] at HC
      clear heq hgo
      go_upto_region 12 with (first
        | (go_at_call 24; refine HC.out.mono ?_; rintro e wt ⟨rfl, hb3⟩)
        | (go_at_call 21; refine (is_code 13 13 _).mono ?_; rintro e w' ⟨rfl, rfl⟩; rw [show ((13 : Int) != 0 && (13 : Int) == 13) = true from rfl]))
      have hs3 := hb3.size
      have HO3 := mkHid (own_below HO1.out hb3)
      have hbT3 := hbT.trans (hb3.mono hbT.size)
      have hgT3 : W0.heap.size ≤ wt.heap.size := by omega
      clear HO1 hbT hgT hb3 HC
      obtain ⟨HO1, hbT, hgT⟩ := And.intro HO3 (And.intro hbT3 hgT3)
      clear HO3 hbT3 hgT3
      have hsT := hbT.size
      have FIN := mkHid (show ∀ e w3, Ending.returned (.bool true) = e → Below wt.heap.size wt w3 → e = .returned (.bool true) ∧ Below w.heap.size w w3 from fun e w3 he h3 => ⟨he.symm, hbT.trans (h3.mono hsT)⟩)
      by_cases hneg : bit < 0
      · go_wp2_with (go_at_call 11; refine (awake_any _).mono ?_; rintro e w3 ⟨rfl, hb3⟩)
        go_ret
        exact FIN.out _ _ rfl hb3
      obtain ⟨q, rfl⟩ := Int.eq_ofNat_of_zero_le (a := bit) (by omega)
      by_cases hge : 1024 ≤ q
      · go_wp2_with (go_at_call 11; refine (awake_any _).mono ?_; rintro e w3 ⟨rfl, hb3⟩)
        go_ret
        exact FIN.out _ _ rfl hb3
      obtain ⟨g, rfl, hg1, hg2, hcell⟩ := own_cells HO1.out (by omega)
      have hfz := frozen_of_own HO1.out (q / 8)
      have hcq := hcell (q / 8) (by omega)
      clear hcell
      have hq0 : (0 : Int) ≤ (q : Int) / 8 := by omega
      have hq1 : (q : Int) / 8 < 128 := by omega
      obtain ⟨hm1, hm2⟩ := pow_byte (q % 8) (Nat.mod_lt _ (by omega))
      have hokF := frameOf_ok hk hx.2 (by rw [HL.out]; omega)
      have hFq := hokF.get (q / 8)
      obtain ⟨hy1, hy2⟩ := xor_byte hFq hm1 hm2
      have hset := own_set (v := u8 (bits .xor .u8 ((frameOf k l)[q / 8]?.getD 0) (2 ^ (q % 8) % 256))) HO1.out (p := q / 8) (by omega)
      rw [← List.map_set] at hset
      have hgf : ∀ o', getOf o' ((frameOf k l).set (q / 8) (bits .xor .u8 ((frameOf k l)[q / 8]?.getD 0) (2 ^ (q % 8) % 256))) = (12, []) := fun o' => get_flip hk hx.2 (by rw [HL.out]; omega) (by omega) hy1 hy2
      have hokS : okBytes ((frameOf k l).set (q / 8) (bits .xor .u8 ((frameOf k l)[q / 8]?.getD 0) (2 ^ (q % 8) % 256))) := fun z hz => by
        rcases List.mem_or_eq_of_mem_set hz with hz | rfl
        · exact hokF z hz
        · exact hy1
      have HSET := mkHid hset
      have HG := mkHid hgf
      have HK := mkHid hokS
      clear hset hgf hokS hy1 hy2 hFq hokF hm1 hm2
      go_wp2_with fail
      go_region
      go_wp2_with fail
      generalize hY : bits BinOp.xor IntKind.u8 ((frameOf k l)[q / 8]?.getD 0) (2 ^ (q % 8) % 256) = Y at *
      generalize hWf : World.drew _ = wf
      have hbf : Below w.heap.size w wf := by rw [← hWf]; exact (hbT.setCell (by show _ ≤ g; omega) _).drew
      have hof : wf.ownsRow W0.heap.size 5 1 (.slice (some ⟨g, 0, none⟩) 128 c1) 128 (((frameOf k l).set (q / 8) Y).map u8) := by rw [← hWf]; exact HSET.out.drew
      clear hWf hcq hfz FIN hbT hsT
      have hFf : BS wf wf.heap.size (some ⟨g, 0, none⟩) 128 ((frameOf k l).set (q / 8) Y) := ⟨SL.of_own hof, HK.out⟩
      generalize hF' : (frameOf k l).set (q / 8) Y = F' at *
      clear hF' hY
      have HCf := mkHid (get_err k _ 128 c1 F' wf hFf hcap (by rw [HG.out]; decide))
      rw [HG.out] at HCf
      refine HCf.out.mono ?_
      rintro e wg ⟨rfl, hbg⟩
      have hsg := hbg.size
      have hFg := (hFf.below hbg).more hsg
      have hKg : kindOf F' = (0, false) := by unfold kindOf; rw [HG.out]; rfl
      have HKg := mkHid (kind_any _ 128 c1 F' wg hFg hcap)
      rw [hKg] at HKg
      have hbw := hbf.trans (hbg.mono hbf.size)
      have hsf := hbf.size
      clear hKg hFg hFf hof HCf hbf hbg
      go_wp2_with fail
      refine HKg.out.mono ?_
      rintro e wh ⟨rfl, hbh⟩
      have hbw2 := hbw.trans (hbh.mono hbw.size)
      have hsw := hbw2.size
      clear HKg hbw hbh
      go_wp2_with (first
        | (go_at_call 21; refine (is_code 12 12 _).mono ?_; rintro e w' ⟨rfl, rfl⟩; rw [show ((12 : Int) != 0 && (12 : Int) == 12) = true from rfl])
        | (go_at_call 11; refine (awake_any _).mono ?_; rintro e w3 ⟨rfl, hb3⟩))
      go_ret
      exact ⟨rfl, hbw2.trans (hb3.mono hsw)⟩

end Go.Proofs.Ytncbckbcdopipaa
