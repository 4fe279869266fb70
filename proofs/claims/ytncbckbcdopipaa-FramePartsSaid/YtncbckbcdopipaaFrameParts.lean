/- FrameParts: the walk of the law. -/
import Derived.Test.YtncbckbcdopipaaAwake02
namespace Go.Proofs.Ytncbckbcdopipaa
open Go.RowKit

theorem glue {α : Type} {ls : List (List α)} {l : List α} {F q : Nat} (h : ls.flatten = l.take F) (hF : F ≤ q) : (ls ++ [(l.take q).drop F]).flatten = l.take q := by
  rw [List.flatten_append, h, List.flatten_cons, List.flatten_nil, List.append_nil]
  have e : l.take F = (l.take q).take F := by rw [List.take_take, Nat.min_eq_left hF]
  rw [e, List.take_append_drop]

set_option maxRecDepth 20000 in
set_option maxHeartbeats 1000000 in
theorem parts_any (a : Option Addr) (n c : Nat) (l : List Int) (ac : Option Addr) (nc cc : Nat) (cuts : List Int) (at_ x : Int) (w : World) (hx : BS w w.heap.size a n l) (hn : n ≤ c ∧ c ≤ 140737488351232)
    (hy : IS w w.heap.size ac nc cuts) (hnc : nc ≤ 140737488351232) (hat : I64 at_) (hc : 0 ≤ x ∧ x < 256) :
    Calls Try.prog 4 #[.agg #[.slice a n c, .slice ac nc cc, .int .i64 at_, .int .u8 x]] w fun e w' => e = .returned (.bool true) ∧ Below w.heap.size w w' := by
  obtain ⟨hn1, hn2⟩ := hn
  obtain ⟨hc1, hc2⟩ := hc
  by_cases hbig : 5000 < n
  · go_enter Try.func4, Try.ntmps4
    go_wp2_with fail
    go_quiet (fail)
    go_wp2_with (go_at_call 11; refine (awake_any _).mono ?_; rintro e w1 ⟨rfl, hb1⟩)
    go_ret
    exact ⟨rfl, (below_drewN ((Below.refl _ _).alloc (Nat.le_refl _) _) _).trans (hb1.mono (by simp))⟩
  · by_cases hbig2 : 100 < nc
    · go_enter Try.func4, Try.ntmps4
      go_wp2_with fail
      go_quiet (fail)
      go_wp2_with (go_at_call 11; refine (awake_any _).mono ?_; rintro e w1 ⟨rfl, hb1⟩)
      go_ret
      exact ⟨rfl, (below_drewN ((Below.refl _ _).alloc (Nat.le_refl _) _) _).trans (hb1.mono (by simp))⟩
    · go_enter Try.func4, Try.ntmps4
      go_wp2_with fail
      go_quiet (fail)
      generalize hW0 : World.drewN _ _ = W0
      have hb0 : Below w.heap.size w W0 := by rw [← hW0]; exact below_drewN ((Below.refl _ _).alloc (Nat.le_refl _) _) _
      clear hW0
      have hs0 := hb0.size
      have hx0 := (hx.below hb0).more hs0
      have hy0 := (hy.below hb0)
      go_wp2_with fail
      have hbss := BSS.one (t := 23) (g := W0.heap.size) hx0 ⟨hn1, by unfold maxLen; omega, by omega⟩ rfl
      refine (sum_any _ 1 1 [l] _ hbss (by unfold maxLen; omega)).mono ?_
      rintro e w' ⟨rfl, rfl⟩
      rw [List.flatten_cons, List.flatten_nil, List.append_nil]
      clear hbss
      generalize hW1 : World.alloc W0 _ = W1
      have hb1 : Below w.heap.size w W1 := by rw [← hW1]; exact hb0.alloc hs0 _
      clear hW1 hb0 hs0 hx0 hy0
      generalize hS0 : crcSum l = S0
      have HS0 := mkHid hS0
      clear hS0
      go_wp2_with fail
      go_loopw [8, 9, 35] (fun v f i wr => ∃ (k F L : Nat) (A : Option Addr) (C : Nat) (ls : List (List Int)), k ≤ nc ∧ i = .int .i64 k ∧ F ≤ n ∧ f = .int .i64 F ∧ L ≤ k ∧ v = .slice A L C ∧
          OSS wr 23 w.heap.size w.heap.size A L C ls ∧ ls.flatten = l.take F ∧ Below w.heap.size w wr) (fun _ _ i _ => nc - (intOf i).toNat)
      case atStart => exact ⟨0, 0, 0, none, 0, [], Nat.zero_le _, rfl, Nat.zero_le _, rfl, Nat.le_refl _, rfl, OSS.nil _ _ _ _, rfl, hb1⟩
      case round =>
        obtain ⟨k, F, L, A, C, ls, hk, rfl, hF, rfl, hL, rfl, hoss, hfl, hb⟩ := hrel
        have hsz := hb.size
        have HFL := mkHid hfl
        clear hfl
        by_cases hlt : k < nc
        · obtain ⟨b, o, rfl, hbl, hcl, hI⟩ := (hy.below hb).at_ hlt
          by_cases hin : (F : Int) ≤ cuts[k]?.getD 0 ∧ cuts[k]?.getD 0 ≤ (n : Int)
          · obtain ⟨hin1, hin2⟩ := hin
            generalize hK : cuts[k]?.getD 0 = K at *
            obtain ⟨q, rfl⟩ := Int.eq_ofNat_of_zero_le (a := K) (by omega)
            clear hK
            obtain ⟨vs, ho, hls, hvs⟩ := hoss
            have hvl : vs.length = L := by have := ho.1; simpa using this
            have HVL := mkHid hvl
            have HLS := mkHid hls
            have HVS := mkHid hvs
            clear hvl hls hvs
            have hp := ((hx.below hb).take (k := q) (by omega)).drop (k := F) (cap := c) (by omega) (by omega)
            have HP := mkHid hp
            clear hp
            go_wp2_with (at_builtin; refine wpList_app _ rfl (.tmp 48) (.tmp 53) _ rfl w.heap.size el_bs A L C vs rfl (ho.alloc _) (wr.heap.size + 1) (some ⟨wr.heap.size, 0, none⟩) 1 1 _ rfl (SL.one _ _) (one_slice _ _ _) (by unfold maxLen; omega) (by omega) (by simp; omega) ?_; intro A' C' w1 ho1 hg1 hat1; clear hat1; generalize (if c = F then a else Option.map (fun x => x.add F) a) = pa at *)
            go_roundw
            case rel =>
              refine ⟨k + 1, q, L + 1, A', C', _, by omega, by go_num, by omega, rfl, by omega, rfl, OSS.snoc HVS.out HLS.out HVL.out ho1 ?_ ⟨by omega, by unfold maxLen; omega, by omega⟩ HP.out, ?_, ?_⟩
              · have hbb : Below w.heap.size wr w1 := ((Below.refl _ wr).alloc hsz _).grown hg1 (by simp; omega) (own_base ho)
                exact fun b hb => hbb.block b hb
              · exact glue HFL.out (by omega)
              · exact (hb.alloc hsz _).grown hg1 (by simp; omega) (own_base ho)
            case measure => simp [intOf]; omega
          · by_cases hin1 : (F : Int) ≤ cuts[k]?.getD 0
            · have hin2 : ¬ cuts[k]?.getD 0 ≤ (n : Int) := fun h2 => hin ⟨hin1, h2⟩
              clear hin
              go_wp2_with fail
              go_roundw
              case rel => exact ⟨k + 1, F, L, A, C, ls, by omega, by go_num, hF, rfl, by omega, rfl, hoss, HFL.out, hb⟩
              case measure => simp [intOf]; omega
            · clear hin
              go_wp2_with fail
              go_roundw
              case rel => exact ⟨k + 1, F, L, A, C, ls, by omega, by go_num, hF, rfl, by omega, rfl, hoss, HFL.out, hb⟩
              case measure => simp [intOf]; omega
        · obtain rfl : k = nc := by omega
          obtain ⟨vs, ho, hls, hvs⟩ := hoss
          have hvl : vs.length = L := by have := ho.1; simpa using this
          have HVL := mkHid hvl
          have HLS := mkHid hls
          have HVS := mkHid hvs
          clear hvl hls hvs
          have hp := ((hx.below hb).drop (k := F) (cap := c) hF hn1)
          have HP := mkHid hp
          clear hp
          go_wp2_with (at_builtin; refine wpList_app _ rfl (.tmp 57) (.tmp 61) _ rfl w.heap.size el_bs A L C vs rfl (ho.alloc _) (wr.heap.size + 1) (some ⟨wr.heap.size, 0, none⟩) 1 1 _ rfl (SL.one _ _) (one_slice _ _ _) (by unfold maxLen; omega) (by omega) (by simp; omega) ?_; intro A' C' w1 ho1 hg1 hat1; clear hat1; generalize (if c = F then a else Option.map (fun x => x.add F) a) = pa at *)
          have hb1 : Below w.heap.size w w1 := (hb.alloc hsz _).grown hg1 (by simp; omega) (own_base ho)
          have hbb : Below w.heap.size wr w1 := ((Below.refl _ wr).alloc hsz _).grown hg1 (by simp; omega) (own_base ho)
          have hoss1 := OSS.snoc (e := 23) HVS.out HLS.out HVL.out ho1 (fun b hb => hbb.block b hb) ⟨by omega, by unfold maxLen; omega, by omega⟩ HP.out
          have hfl1 : (ls ++ [l.drop F]).flatten = l := by
            rw [List.flatten_append, HFL.out, List.flatten_cons, List.flatten_nil, List.append_nil, List.take_append_drop]
          have hs1 := hb1.size
          have hbss1 := hoss1.bss hs1
          clear hoss1 hbb hg1 ho1 HVS HLS HVL HP ho
          refine (sum_any _ (L + 1) C' _ _ hbss1 (by unfold maxLen; omega)).mono ?_
          rintro e w' ⟨rfl, rfl⟩
          rw [hfl1, HS0.out]
          clear hfl1 hbss1
          go_wp2_with fail
          have hx1 := (hx.below hb1).more hs1
          have hbss3 := BSS.three (t := 23) hx1 ⟨hn1, by unfold maxLen; omega, by omega⟩
          refine (sum_any _ 3 3 _ _ hbss3 (by unfold maxLen; omega)).mono ?_
          rintro e w' ⟨rfl, rfl⟩
          have e3 : ([[], l, []] : List (List Int)).flatten = l := by simp
          rw [e3, HS0.out]
          clear hbss3 e3
          generalize hW2 : World.alloc w1 _ = W2
          have hb2 : Below w.heap.size w W2 := by rw [← hW2]; exact hb1.alloc hs1 _
          clear hW2 hx1
          have hs2 := hb2.size
          have fin : ∀ e w3, Ending.returned (.bool true) = e → Below W2.heap.size W2 w3 → e = .returned (.bool true) ∧ Below w.heap.size w w3 := fun e w3 he h3 => ⟨he.symm, hb2.trans (h3.mono hs2)⟩
          have FIN := mkHid fin
          clear fin
          by_cases hneg : at_ < 0
          · go_wp2_with (go_at_call 11; refine (awake_any _).mono ?_; rintro e w3 ⟨rfl, hb3⟩)
            go_ret
            exact FIN.out _ _ rfl hb3
          obtain ⟨p, rfl⟩ := Int.eq_ofNat_of_zero_le (a := at_) (by omega)
          by_cases hge : n ≤ p
          · go_wp2_with (go_at_call 11; refine (awake_any _).mono ?_; rintro e w3 ⟨rfl, hb3⟩)
            go_ret
            exact FIN.out _ _ rfl hb3
          by_cases hz : x = 0
          · subst hz
            go_wp2_with (go_at_call 11; refine (awake_any _).mono ?_; rintro e w3 ⟨rfl, hb3⟩)
            go_ret
            exact FIN.out _ _ rfl hb3
          have hzb : (x == 0) = false := by simp [hz]
          have HZ := mkHid hz
          clear hz
          go_wp2_with fail
          refine (copy_any a n c l W2 ((hx.below hb2).more hs2) (by omega)).mono ?_
          rintro e w3 ⟨A3, n3, c3, rfl, ho3, hb3⟩
          have hlen := hx.len
          have hn3 : n3 = n := by have h1 := ho3.1; simp at h1; omega
          subst hn3
          obtain ⟨g, rfl, hg1, hg2, hcell⟩ := own_cells ho3 (by omega)
          have hcp := hcell p (by omega)
          have hfp := frozen_of_own ho3 p
          have hok := hx.2.get p
          obtain ⟨hxy, hxn⟩ := xor_byte hok ⟨hc1, hc2⟩ HZ.out
          have hset := own_set (v := u8 (bits .xor .u8 (l[p]?.getD 0) x)) ho3 (p := p) (by omega)
          rw [← List.map_set] at hset
          obtain ⟨hok2, hne⟩ := sum_set hx.2 (by omega) hxy hxn
          have hbs4 : BS _ _ _ _ (l.set p (bits .xor .u8 (l[p]?.getD 0) x)) := ⟨SL.of_own hset, hok2⟩
          have hcap : CapOk n3 c3 := by
            obtain ⟨A4, c4, hv, ⟨hq1, hq2⟩, _⟩ := own_form _ ho3
            injection hv with _ _ hv
            subst hv
            exact ⟨hq1, hq2, by omega⟩
          have hbss4 := BSS.one (t := 23) (g := w3.heap.size) hbs4 hcap (by simp)
          have hb4 : Below w.heap.size w (w3.setCell ⟨g, p, none⟩ (u8 (bits .xor .u8 (l[p]?.getD 0) x))) := (hb2.trans (hb3.mono hs2)).setCell (by simp; omega) _
          have HH := mkHid (And.intro hbss4 (And.intro hb4 hne))
          clear hbss4 hb4 hne hcap hbs4 hok2 hset hxy hxn hcell hlen ho3 hok
          rw [HS0.out] at HH
          go_wp2_with fail
          refine (sum_any _ 1 1 _ _ HH.out.1 (by unfold maxLen; omega)).mono ?_
          rintro e w' ⟨rfl, rfl⟩
          rw [List.flatten_cons, List.flatten_nil, List.append_nil]
          have hne := HH.out.2.2
          generalize crcSum (l.set p (bits .xor .u8 (l[p]?.getD 0) x)) = S1 at hne ⊢
          generalize hW5 : World.alloc _ _ = W5
          have hb5 : Below w.heap.size w W5 := by rw [← hW5]; exact HH.out.2.1.alloc HH.out.2.1.size _
          clear hW5 HH hcp hfp
          have hs5 := hb5.size
          go_wp2_with (go_at_call 11; refine (awake_any _).mono ?_; rintro e w6 ⟨rfl, hb6⟩)
          go_ret
          exact ⟨rfl, hb5.trans (hb6.mono hs5)⟩

end Go.Proofs.Ytncbckbcdopipaa
