/- portagelaw03.DiskTwins answers true. -/
import Derived.Test.YtpponofbkkikfaaDkH
import Derived.Test.YtpponofbkkikfaaOps
namespace Go.Proofs.Ytpponofbkkikfaa
open Go.RowKit

theorem pend_flushed (ss : List Sec) : pend (flushed ss) = [] := by
  unfold pend pendN
  rw [List.map_eq_nil_iff, List.filter_eq_nil_iff]
  intro j _
  unfold waits flushed
  rw [List.getElem?_map]
  cases ss[j]? <;> simp [flushS]

/-- Two disks that have nothing in common. -/
structure TW (w wr : World) (F1 F2 : Nat → Prop) (g1 g2 q : Nat) (sa sb : List Sec) : Prop where
  a : GW w wr F1 g1 q sa
  b : GW w wr F2 g2 q sb
  apart : ∀ x, F1 x → ¬ F2 x
section
variable {w wr w1 : World} {F1 F2 F' : Nat → Prop} {g1 g2 q q' : Nat} {sa sb ss' : List Sec}
theorem TW.below (h : TW w wr F1 F2 g1 g2 q sa sb) (hb : Below wr.heap.size wr w1) : TW w w1 F1 F2 g1 g2 q sa sb := ⟨h.a.below hb, h.b.below hb, h.apart⟩
theorem TW.more (h : TW w wr F1 F2 g1 g2 q sa sb) (hq : q ≤ q') : TW w wr F1 F2 g1 g2 q' sa sb := ⟨h.a.more hq, h.b.more hq, h.apart⟩
theorem TW.stepA (h : TW w wr F1 F2 g1 g2 q sa sb) (ht : Turn F1 wr w1) (hd : DK w1 F' g1 ss') (hF : ∀ x, F' x → F1 x ∨ wr.heap.size ≤ x) (hall : ∀ s ∈ ss', s.bad = false ∧ s.wait.length ≤ q') (hq : q ≤ q') : TW w w1 F' F2 g1 g2 q' ss' sb :=
  ⟨⟨h.a.ld.turn ht hd hF, hall⟩, (GW.more ⟨h.b.ld.keep (fun x hx => ht.block x (h.b.ld.d.lt x hx) fun hf => h.apart x hf hx) (ht.below h.a.ld.lo h.a.ld.bel.size), h.b.all⟩ hq), fun x hx hx2 => by
    rcases hF x hx with e | e
    · exact h.apart x e hx2
    · have := h.b.ld.d.lt x hx2; omega⟩
theorem TW.stepB (h : TW w wr F1 F2 g1 g2 q sa sb) (ht : Turn F2 wr w1) (hd : DK w1 F' g2 ss') (hF : ∀ x, F' x → F2 x ∨ wr.heap.size ≤ x) (hall : ∀ s ∈ ss', s.bad = false ∧ s.wait.length ≤ q') (hq : q ≤ q') : TW w w1 F1 F' g1 g2 q' sa ss' :=
  ⟨(GW.more ⟨h.a.ld.keep (fun x hx => ht.block x (h.a.ld.d.lt x hx) fun hf => h.apart x hx hf) (ht.below h.b.ld.lo h.b.ld.bel.size), h.a.all⟩ hq), ⟨h.b.ld.turn ht hd hF, hall⟩, fun x hx hx2 => by
    rcases hF x hx2 with e | e
    · exact h.apart x hx e
    · have := h.a.ld.d.lt x hx; omega⟩
end
theorem fresh_all (n q : Nat) : ∀ s ∈ List.replicate n sec0, s.bad = false ∧ s.wait.length ≤ q := fun s hs => by
  rw [List.eq_of_mem_replicate hs]
  exact ⟨rfl, by simp [sec0]⟩
theorem flushed_all {ss : List Sec} {q q' : Nat} (h : ∀ s ∈ ss, s.bad = false ∧ s.wait.length ≤ q) : ∀ s ∈ flushed ss, s.bad = false ∧ s.wait.length ≤ q' := fun s hs => by
  obtain ⟨x, hx, rfl⟩ := List.mem_map.1 hs
  exact ⟨(h x hx).1, by simp [flushS]⟩
theorem wres_cases (n : Nat) (i : Int) (m : Nat) : wres n i m = codeV 20 ∨ wres n i m = codeV 11 ∨ wres n i m = .nilIface := by
  unfold wres
  split
  · exact .inl rfl
  · split
    · exact .inr (.inl rfl)
    · exact .inr (.inr rfl)

set_option maxRecDepth 20000 in
set_option maxHeartbeats 4000000 in
theorem diskTwins_any (a : Option Addr) (n c : Nat) (xs : List Op) (ap : Option Addr) (np cp : Nat) (lp : List Int) (w : World) (hx : OPS w w.heap.size a n xs) (hn : n ≤ c ∧ c ≤ 140737488351232) (hy : IS w w.heap.size ap np lp) (hnp : np ≤ cp ∧ cp * 8 ≤ 140737488351232) :
    Calls Try.prog 4 #[.slice a n c, .slice ap np cp] w fun e w' => e = .returned (.bool true) ∧ Below w.heap.size w w' := by
  obtain ⟨hn1, hn2⟩ := hn
  obtain ⟨hp1, hp2⟩ := hnp
  have HN := mkHid (fun W => newDisk_any 5 W (by omega) (by omega))
  go_enter Try.func4, Try.ntmps4
  go_wp2_with fail
  refine (HN.out w).mono ?_
  rintro e w1 ⟨g1, F1, rfl, hd, hF, hb1⟩
  have HL1 := mkHid (show LD w w1 F1 g1 (List.replicate 5 sec0) from ⟨hd, hF, hb1⟩)
  clear hd hF hb1
  go_wp2_with fail
  refine (HN.out w1).mono ?_
  rintro e w2 ⟨g2, F2, rfl, hd, hF, hb2⟩
  have HT := mkHid (show TW w w2 F1 F2 g1 g2 0 (List.replicate 5 sec0) (List.replicate 5 sec0) from
    ⟨⟨HL1.out.below hb2, fresh_all 5 0⟩, ⟨⟨hd, fun b hb => Nat.le_trans HL1.out.bel.size (hF b hb), HL1.out.bel.trans (hb2.mono HL1.out.bel.size)⟩, fresh_all 5 0⟩, fun x h1 h2 => by
      have := HL1.out.d.lt x h1
      have := hF x h2
      omega⟩)
  clear hd hF hb2 HN HL1
  by_cases hbig : 100 < n
  · go_wp2_with fail
    refine (awake_any _).mono ?_
    rintro e w3 ⟨rfl, hb3⟩
    go_wp2_with fail
    go_ret
    exact ⟨rfl, (HT.out.below hb3).a.ld.bel⟩
  by_cases hbig2 : 1000 < np
  · go_wp2_with fail
    refine (awake_any _).mono ?_
    rintro e w3 ⟨rfl, hb3⟩
    go_wp2_with fail
    go_ret
    exact ⟨rfl, (HT.out.below hb3).a.ld.bel⟩
  have HY := mkHid hy
  clear hy
  go_wp2_with fail
  go_loopw [61] (fun i wr => ∃ (q : Nat) (F1 F2 : Nat → Prop) (ss : List Sec), q ≤ n ∧ i = .int .i64 q ∧ ss.length = 5 ∧ TW w wr F1 F2 g1 g2 q ss ss) (fun i _ => n - (intOf i).toNat)
  case atStart => exact ⟨0, F1, F2, _, Nat.zero_le _, rfl, by simp, HT.out⟩
  case round =>
    clear HT
    obtain ⟨q, F1, F2, ss, hq, rfl, h5, ht⟩ := hrel
    have hsz := ht.a.ld.bel.size
    have HT := mkHid ht
    clear ht
    by_cases hlt : q < n
    · obtain ⟨b, o, x, a1, m, c1, a2, m', c2, rfl, hb, _, hI0, hI1, hI2, hca, hbs, hcb, his, d0, d1, d2, d3, d4⟩ := (hx.below HT.out.a.ld.bel).at_ hlt
      obtain ⟨xk, xi, xn, xd, xp⟩ := x
      simp only at hI0 hI1 hI2 hbs his d0 d1 d2 d3 d4
      obtain ⟨i0, i1⟩ := id hI0
      obtain ⟨hca1, hca2, hca3⟩ := hca
      have HII := mkHid hI1
      have HSX := mkHid hx
      have hal := HT.out.below ((Below.refl _ _).alloc (Nat.le_refl _) (.cells #[.int .i64 xk, .int .i64 xi, .int .i64 xn, .slice a1 m c1, .slice a2 m' c2] 32))
      have HAL := mkHid hal
      have HBX := mkHid (show ∀ W : World, (∀ b, b < w.heap.size → W.heap[b]? = wr.heap[b]?) → w.heap.size ≤ W.heap.size → BS W W.heap.size a1 m xd from fun W hW hs => (hbs.keep hW).more hs)
      have hdl : xd.length = m := hbs.len
      clear hbs his hx hal hI0 hI1 hI2
      by_cases hm : 1000 < m
      · go_wp2_with fail
        refine (awake_any _).mono ?_
        rintro e w3 ⟨rfl, hb3⟩
        go_wp2_with fail
        go_ret
        exact ⟨rfl, (HAL.out.below hb3).a.ld.bel⟩
      by_cases hk2 : xk = 2
      case neg =>
        have hkb : (xk == 2) = false := by simpa using hk2
        go_wp2_with fail
        go_roundw
        case rel => exact ⟨q + 1, F1, F2, ss, by omega, by go_num, h5, HAL.out.more (by omega)⟩
        case measure => simp [intOf]; omega
      subst hk2
      have hkb : ((2 : Int) == 2) = true := by simp
      have HPC := mkHid (show ∀ s : World, s.heap[wr.heap.size]? = (wr.alloc (.cells #[.int .i64 2, .int .i64 xi, .int .i64 xn, .slice a1 m c1, .slice a2 m' c2] 32)).heap[wr.heap.size]? → s.cell? ⟨wr.heap.size, 1, none⟩ = some (.int .i64 xi) ∧ s.cell? ⟨wr.heap.size, 3, none⟩ = some (.slice a1 m c1) from fun s hs => by
        have hs' := hs.trans (heap_alloc_new wr _)
        exact ⟨cell_of_row s _ 1 _ _ _ hs', cell_of_row s _ 3 _ _ _ hs'⟩)
      have HC0 := mkHid (HPC.out _ rfl)
      have hall := wnext_all (i := xi) (l := xd) HT.out.a.all
      have HALL := mkHid hall
      have HW := mkHid (show ∀ s ∈ ss, s.wait.length < 1000000 from fun s hs => by have := (HT.out.a.all s hs).2; omega)
      have HBA := mkHid (show ∀ W : World, W.heap = (wr.alloc (.cells #[.int .i64 2, .int .i64 xi, .int .i64 xn, .slice a1 m c1, .slice a2 m' c2] 32)).heap → BS W W.heap.size a1 m xd from fun W hW => HBX.out W (fun b' hb' => by rw [hW]; exact Below.heap_alloc _ _ _ (by omega)) (by rw [hW]; simp; omega))
      have hn1b : ∀ x, F1 x → x < wr.heap.size := HT.out.a.ld.d.lt
      have hn2b : ∀ x, F2 x → x < wr.heap.size := HT.out.b.ld.d.lt
      have HN1 := mkHid hn1b
      have HN2 := mkHid hn2b
      clear hall hn1b hn2b
      go_wp2_with fail
      go_region_held3 (fun s => s.cell? ⟨wr.heap.size, 1, none⟩ = some (.int .i64 xi) ∧ s.cell? ⟨wr.heap.size, 3, none⟩ = some (.slice a1 m c1)) (first | exact HC0.out | assumption) (first
        | (go_at_call 11; refine (write_all F2 g2 ss xi CB m cb xd w7 HT7.out.b.ld.d HII.out HCO7.out HW.out).mono ?_; rintro e w8 ⟨rfl, ht8, F4, hd8, hF8⟩; have hpc8 := HPC.out w8 ((ht8.block _ (by omega) (fun hf => by have := HN2.out _ hf; omega)).trans HK7.out); have HT8 := mkHid (HT7.out.stepB ht8 hd8 hF8 HALL.out (Nat.le_refl _)); clear ht8 hd8 hF8)
        | (go_at_call 12; refine (copy_any a1 m c1 xd w6 HX6.out (by omega)).mono ?_; rintro e w7 ⟨CB, cb, rfl, hco7, hb7⟩; rw [hdl] at hco7 ⊢; have hk7 : w7.heap[wr.heap.size]? = _ := (hb7.block _ (by omega)).trans HK6.out; have hpc7 := HPC.out w7 hk7; have HCO7 := mkHid (show BS w7 w7.heap.size CB m xd from ⟨SL.of_own hco7, HX6.out.2⟩); have HT7 := mkHid (HT6.out.below hb7); have hs7 : w6.heap.size ≤ w7.heap.size := hb7.size; have HK7 := mkHid hk7; clear hco7 hb7 hk7)
        | (go_at_call 11; refine (write_all F1 g1 ss xi CA m cc xd w5 HB5.out.a.ld.d HII.out HCO.out HW.out).mono ?_; rintro e w6 ⟨rfl, ht6, F3, hd6, hF6⟩; have hk6 : w6.heap[wr.heap.size]? = _ := (ht6.block _ (by omega) (fun hf => by have := HN1.out _ hf; omega)).trans HK5.out; have hpc6 := HPC.out w6 hk6; have hs6 : w5.heap.size ≤ w6.heap.size := ht6.size; have HK6 := mkHid hk6; have HT6 := mkHid (HB5.out.stepA ht6 hd6 hF6 HALL.out (Nat.le_succ q)); have HX6 := mkHid (HBX.out w6 (fun b' hb' => (HT6.out.a.ld.bel.block b' hb').trans (HT.out.a.ld.bel.block b' hb').symm) (by omega)); clear ht6 hd6 hF6 hk6)
        | (go_at_call 12; refine (copy_any a1 m c1 xd _ (HBA.out _ (by rfl)) (by omega)).mono ?_; rintro e w5 ⟨CA, cc, rfl, hco, hb5⟩; rw [hdl] at hco ⊢; have hpc := HPC.out w5 (hb5.block _ (by simp [World.drew])); have HCO := mkHid (show BS w5 w5.heap.size CA m xd from ⟨SL.of_own hco, (HBA.out _ rfl).2⟩); have HB5 := mkHid (HAL.out.below (Below.mk hb5.os hb5.tape hb5.output hb5.size hb5.block)); have HK5 := mkHid (show w5.heap[wr.heap.size]? = (wr.alloc (.cells #[.int .i64 2, .int .i64 xi, .int .i64 xn, .slice a1 m c1, .slice a2 m' c2] 32)).heap[wr.heap.size]? from hb5.block _ (by simp [World.drew])); have hs5 : wr.heap.size + 1 ≤ w5.heap.size := (by have := hb5.size; simpa [World.drew] using this); clear hco hb5))
      rename_i hheld
      clear hheld hpc hpc6 hpc7 hpc8
      rcases wres_cases 5 xi m with hw | hw | hw
      all_goals rw [hw]
      all_goals clear hw
      all_goals go_wp2_with fail
      all_goals go_region_held3 (fun _ => True) (trivial) (fail)
      all_goals go_wp2_with fail
      all_goals go_roundw
      all_goals first
        | exact ⟨q + 1, F3, F4, wnext ss xi xd, by omega, by go_num, by rw [wnext_len]; exact h5, HT8.out.below (Below.refl _ _).drew⟩
        | (simp [intOf]; omega)
    · obtain rfl : q = n := by omega
      have hpl : (pend ss).length ≤ 5 := by rw [← h5]; exact pendN_len ss _
      have hpp : (((pend ss).length : Int) != ((pend ss).length : Int)) = false := by simp
      clear hx
      go_wp2_with fail
      refine (flush_any F1 g1 ss wr HT.out.a.ld.d).mono ?_
      rintro e w3 ⟨rfl, ht3, hd3⟩
      have HT3 := mkHid (HT.out.stepA ht3 hd3 (fun x hx => .inl hx) (flushed_all HT.out.a.all (q' := q)) (Nat.le_refl _))
      clear ht3 hd3
      go_wp2_with fail
      refine (flush_any F2 g2 ss w3 HT3.out.b.ld.d).mono ?_
      rintro e w4 ⟨rfl, ht4, hd4⟩
      have HT4 := mkHid (HT3.out.stepB ht4 hd4 (fun x hx => .inl hx) (flushed_all HT.out.b.all (q' := q)) (Nat.le_refl _))
      have HY4 := mkHid (HY.out.below HT4.out.a.ld.bel)
      have hs4 := HT4.out.a.ld.bel.size
      clear ht4 hd4 HT3
      go_wp2_with (at_builtin; refine wpList_app _ rfl (.tmp 99) (.tmp 100) _ rfl w4.heap.size el_int (some ⟨w4.heap.size, 0, none⟩) 0 0 [] rfl (World.ownsRow_made w4 #[] 0 (Nat.le_refl _) (Nat.zero_le _) rfl) w.heap.size ap np cp _ rfl (HY4.out.1.alloc hs4 _) (i64_cells _) (by unfold maxLen; omega) (by omega) (by simp) ?_; intro A' c' w5 hown hg hat; have HG5 := mkHid hg; clear hown hg hat)
      have HT5 := mkHid (HT4.out.below (((Below.refl _ _).alloc (Nat.le_refl _) _).grown HG5.out (by simp) (fun k hk => by simp [Value.ownBlock] at hk; omega)))
      refine (crash_none F2 g2 (flushed ss) _ _ _ w5 HT5.out.b.ld.d (pend_flushed ss)).mono ?_
      rintro e w6 ⟨rfl, hb6⟩
      have HT6 := mkHid (HT5.out.below hb6)
      have hfl : (flushed ss).length = 5 := by unfold flushed; rw [List.length_map, h5]
      clear hb6 HT5 HT4
      go_wp2_with fail
      obtain ⟨wP, rfl⟩ : ∃ x, x = wr := ⟨wr, rfl⟩
      go_loopw [103] (fun i wr => ∃ p : Nat, p ≤ 5 ∧ i = .int .i64 p ∧ TW w wr F1 F2 g1 g2 q (flushed ss) (flushed ss)) (fun i _ => 5 - (intOf i).toNat)
      case atStart => exact ⟨0, Nat.zero_le _, rfl, HT6.out⟩
      case round =>
        clear HT6
        obtain ⟨p, hp, rfl, ht⟩ := hrel
        have HT7 := mkHid ht
        clear ht
        by_cases hlt2 : p < 5
        · obtain ⟨s, hs⟩ : ∃ s, ss[p]? = some s := ⟨_, List.getElem?_eq_getElem (by omega)⟩
          have hsf : (flushed ss)[p]? = some (flushS s) := by unfold flushed; rw [List.getElem?_map, hs]; rfl
          have hbad : (flushS s).bad = false := (HT7.out.a.all _ (List.mem_of_getElem? hsf)).1
          have HSF := mkHid hsf
          have HBD := mkHid hbad
          clear hs hsf hbad
          go_wp2_with fail
          refine (read_ok F1 g1 _ p _ wr HT7.out.a.ld.d HSF.out HBD.out).mono ?_
          rintro e w8 ⟨A8, c8, rfl, ho8, hk8, _, hb8⟩
          have HO8 := mkHid ho8
          have HK8 := mkHid hk8
          have HT8 := mkHid (HT7.out.below hb8)
          clear ho8 hk8 hb8
          go_wp2_with fail
          refine (read_ok F2 g2 _ p _ w8 HT8.out.b.ld.d HSF.out HBD.out).mono ?_
          rintro e w9 ⟨A9, c9, rfl, ho9, hk9, _, hb9⟩
          have HO9 := mkHid ho9
          have HO89 := mkHid (own_below HO8.out hb9)
          have HT9 := mkHid (HT8.out.below hb9)
          clear ho9 hk9 hb9
          go_wp2_with fail
          refine (same_any A8 A9 128 128 c8 c9 _ _ _ _ w9 ⟨SL.of_own HO89.out, HK8.out⟩ ⟨SL.of_own HO9.out, HK8.out⟩).mono ?_
          rintro e w10 ⟨rfl, rfl⟩
          rw [decide_eq_true rfl]
          go_wp2_with fail
          refine (wait_ok F2 g2 _ p _ _ HT9.out.b.ld.d HSF.out).mono ?_
          rintro e w10 ⟨rfl, rfl⟩
          rw [show (flushS s).wait.length = 0 from rfl]
          go_wp2_with fail
          go_roundw
          case rel => exact ⟨p + 1, by omega, by go_num, HT9.out⟩
          case measure => simp [intOf]; omega
        · obtain rfl : p = 5 := by omega
          go_wp2_with fail
          refine (awake_any _).mono ?_
          rintro e w8 ⟨rfl, hb8⟩
          go_wp2_with fail
          go_ret
          exact ⟨rfl, (HT7.out.below hb8).a.ld.bel⟩

end Go.Proofs.Ytpponofbkkikfaa
