/- portagelaw03.DiskLasts answers true. -/
import Derived.Test.YtpponofbkkikfaaHadB
import Derived.Test.YtpponofbkkikfaaOps
import Derived.Deep.RegionHeld3
namespace Go.Proofs.Ytpponofbkkikfaa
open Go.RowKit

theorem own_from3 {w : World} {B : Nat} {e : TypeId} {s n c : Nat} {A : Option Addr} {xs : List Value} (h : w.ownsRow B e s (.slice A n c) n xs) : ∀ ad : Addr, A = some ad → B ≤ ad.block := by
  intro ad hA
  obtain ⟨A2, c2, he, _, h2⟩ := own_form _ h
  injection he with he
  subst he
  rcases h2 with h2 | ⟨g, h2, h3, _⟩
  · rw [hA] at h2; cases h2
  · rw [hA] at h2; injection h2 with h2; rw [h2]; exact h3
/-- Copy and Write keep what they find outside the disk. -/
def opB (xk xi xn : Int) (a1 : Option Addr) (m1 c1 : Nat) (a2 : Option Addr) (m2 c2 : Nat) : Obj := .cells #[.int .i64 xk, .int .i64 xi, .int .i64 xn, .slice a1 m1 c1, .slice a2 m2 c2] 32

set_option maxRecDepth 20000 in
set_option maxHeartbeats 8000000 in
theorem lasts_any (a : Option Addr) (n c : Nat) (xs : List Op) (at_ : Option Addr) (nt ct : Nat) (ys : List Op) (ap : Option Addr) (np cp : Nat) (lp : List Int) (w : World) (hx : OPS w w.heap.size a n xs) (hn : n ≤ c ∧ c ≤ 140737488351232) (hy : OPS w w.heap.size at_ nt ys) (hnt : nt ≤ ct ∧ ct ≤ 140737488351232) (hz : IS w w.heap.size ap np lp) (hnp : np ≤ cp ∧ cp * 8 ≤ 140737488351232) :
    Calls Try.prog 3 #[.slice a n c, .slice at_ nt ct, .slice ap np cp] w fun e w' => e = .returned (.bool true) ∧ Below w.heap.size w w' := by
  obtain ⟨hn1, hn2⟩ := hn
  obtain ⟨ht1, ht2⟩ := hnt
  obtain ⟨hp1, hp2⟩ := hnp
  have HN := mkHid (newDisk_any 4 w (by omega) (by omega))
  go_enter Try.func3, Try.ntmps3
  go_wp2_with fail
  refine HN.out.mono ?_
  rintro e w1 ⟨g, F, rfl, hd, hF, hb1⟩
  have HG := mkHid (show GW w w1 F g 0 (List.replicate 4 sec0) from ⟨⟨hd, hF, hb1⟩, fun s hs => by rw [List.eq_of_mem_replicate hs]; exact ⟨rfl, by simp [sec0]⟩⟩)
  clear hd hF hb1 HN
  obtain ⟨M, hM⟩ : ∃ M : Int, (if n < nt then (nt : Int) else (n : Int)) = M := ⟨_, rfl⟩
  have HM := mkHid hM
  by_cases hbig : 150 < M
  · go_wp2_with fail
    refine (awake_any _).mono ?_
    rintro e w2 ⟨rfl, hb2⟩
    go_wp2_with fail
    go_ret
    exact ⟨rfl, (HG.out.below hb2).ld.bel⟩
  by_cases hbig2 : 1000 < np
  · go_wp2_with fail
    refine (awake_any _).mono ?_
    rintro e w2 ⟨rfl, hb2⟩
    go_wp2_with fail
    go_ret
    exact ⟨rfl, (HG.out.below hb2).ld.bel⟩
  have hn150 : n ≤ 150 := by have := HM.out; split at this <;> omega
  have hnt150 : nt ≤ 150 := by have := HM.out; split at this <;> omega
  have HY := mkHid hy
  have HZ := mkHid hz
  clear hy hz
  go_wp2_with fail
  clear hM hbig hbig2 HM
  go_loopw [54] (fun i wr => ∃ (q : Nat) (F : Nat → Prop) (ss : List Sec), q ≤ n ∧ i = .int .i64 q ∧ ss.length = 4 ∧ GW w wr F g q ss) (fun i _ => n - (intOf i).toNat)
  case atStart => exact ⟨0, F, _, Nat.zero_le _, rfl, by simp, HG.out⟩
  case round =>
    clear HG
    obtain ⟨q, F, ss, hq, rfl, h5, hg⟩ := hrel
    have hsz := hg.ld.bel.size
    have HG := mkHid hg
    clear hg
    by_cases hlt : q < n
    · obtain ⟨b, o, x, a1, m1', c1, a2, m', c2, rfl, hb, _, hI0, hI1, hI2, hca, hbs, hcb, his, d0, d1, d2, d3, d4⟩ := (hx.below HG.out.ld.bel).at_ hlt
      obtain ⟨xk, xi, xn, xd, xp⟩ := x
      simp only at hI0 hI1 hI2 hbs his d0 d1 d2 d3 d4
      obtain ⟨hca1, hca2, hca3⟩ := hca
      have HII := mkHid hI1
      have HSX := mkHid hx
      have hal := HG.out.below ((Below.refl _ _).alloc (Nat.le_refl _) (.cells #[.int .i64 xk, .int .i64 xi, .int .i64 xn, .slice a1 m1' c1, .slice a2 m' c2] 32))
      have HAL := mkHid hal
      have hdl : xd.length = m1' := hbs.len
      have HBA := mkHid (show ∀ W : World, W.heap = (wr.alloc (.cells #[.int .i64 xk, .int .i64 xi, .int .i64 xn, .slice a1 m1' c1, .slice a2 m' c2] 32)).heap → BS W W.heap.size a1 m1' xd from fun W hW => (hbs.keep fun b' hb' => by rw [hW]; exact Below.heap_alloc _ _ _ (by omega)).more (by rw [hW]; simp; omega))
      clear hbs his hx hal hI0 hI1 hI2
      by_cases hm128 : m1' = 128
      case neg =>
        have hmb : ((m1' : Int) == 128) = false := beq_eq_false_iff_ne.2 (by omega)
        go_wp2_with fail
        go_roundw
        case rel => exact ⟨q + 1, F, ss, by omega, by go_num, h5, HAL.out.more (by omega)⟩
        case measure => simp [intOf]; omega
      subst hm128
      have HPC := mkHid (show ∀ s : World, s.heap[wr.heap.size]? = (wr.alloc (.cells #[.int .i64 xk, .int .i64 xi, .int .i64 xn, .slice a1 128 c1, .slice a2 m' c2] 32)).heap[wr.heap.size]? → s.cell? ⟨wr.heap.size, 1, none⟩ = some (.int .i64 xi) ∧ s.cell? ⟨wr.heap.size, 3, none⟩ = some (.slice a1 128 c1) from fun s hs => by
        have hs' := hs.trans (heap_alloc_new wr _)
        exact ⟨cell_of_row s _ 1 _ _ _ hs', cell_of_row s _ 3 _ _ _ hs'⟩)
      have HC0 := mkHid (HPC.out _ rfl)
      have HALL := mkHid (wnext_all (i := xi) (l := xd) HG.out.all)
      have HW := mkHid (show ∀ s ∈ ss, s.wait.length < 1000000 from fun s hs => by have := (HG.out.all s hs).2; omega)
      have HN1 := mkHid (show ∀ x, F x → x < wr.heap.size from HG.out.ld.d.lt)
      go_wp2_with fail
      go_region_held3 (fun s => s.cell? ⟨wr.heap.size, 1, none⟩ = some (.int .i64 xi) ∧ s.cell? ⟨wr.heap.size, 3, none⟩ = some (.slice a1 128 c1)) (first | exact HC0.out | assumption) (first
        | (go_at_call 11; refine (write_all F g ss xi CA 128 cc xd w5 HB5.out.ld.d HII.out HCO.out HW.out).mono ?_; rintro e w6 ⟨rfl, ht6, F3, hd6, hF6⟩; have hpc6 := HPC.out w6 ((ht6.block _ (by omega) (fun hf => by have := HN1.out _ hf; omega)).trans HK5.out); have HT6 := mkHid (show GW w w6 F3 g (q + 1) (wnext ss xi xd) from ⟨HB5.out.ld.turn ht6 hd6 hF6, HALL.out⟩); clear ht6 hd6 hF6)
        | (go_at_call 12; refine (copy_any a1 128 c1 xd _ (HBA.out _ (by rfl)) (by omega)).mono ?_; rintro e w5 ⟨CA, cc, rfl, hco, hb5⟩; rw [hdl] at hco ⊢; have hpc := HPC.out w5 (hb5.block _ (by simp [World.drew])); have HCO := mkHid (show BS w5 w5.heap.size CA 128 xd from ⟨SL.of_own hco, (HBA.out _ rfl).2⟩); have HB5 := mkHid (HAL.out.below (Below.mk hb5.os hb5.tape hb5.output hb5.size hb5.block)); have HK5 := mkHid (show w5.heap[wr.heap.size]? = (wr.alloc (.cells #[.int .i64 xk, .int .i64 xi, .int .i64 xn, .slice a1 128 c1, .slice a2 m' c2] 32)).heap[wr.heap.size]? from hb5.block _ (by simp [World.drew])); have hs5 : wr.heap.size + 1 ≤ w5.heap.size := (by have := hb5.size; simpa [World.drew] using this); clear hco hb5))
      rename_i hheld
      clear hheld hpc hpc6
      go_wp2_with fail
      go_roundw
      case rel => exact ⟨q + 1, F3, wnext ss xi xd, by omega, by go_num, by rw [wnext_len]; exact h5, HT6.out⟩
      case measure => simp [intOf]; omega
    · obtain rfl : q = n := by omega
      clear hx
      obtain ⟨wP, rfl⟩ : ∃ x, x = wr := ⟨wr, rfl⟩
      go_wp2_with fail
      refine (flush_any F g ss wP HG.out.ld.d).mono ?_
      rintro e w3 ⟨rfl, ht3, hd3⟩
      have hfl : (flushed ss).length = 4 := by unfold flushed; rw [List.length_map, h5]
      have HG3 := mkHid (show GW w w3 F g 0 (flushed ss) from ⟨HG.out.ld.turn ht3 hd3 fun b hb => .inl hb, fun s hs => by
        obtain ⟨x, hx, rfl⟩ := List.mem_map.1 hs
        exact ⟨(HG.out.all x hx).1, by simp [flushS]⟩⟩)
      have HFW := mkHid (show ∀ s ∈ flushed ss, s.wait = [] from fun s hs => by
        obtain ⟨x, hx, rfl⟩ := List.mem_map.1 hs
        rfl)
      clear ht3 hd3 HG h5
      generalize flushed ss = S1 at *
      go_wp2_with fail
      go_loopw [72] (fun i wr => ∃ (k : Nat) (R : List Row) (hs : List (List (List Int))), k ≤ 4 ∧ i = .int .i64 k ∧ GW w wr F g 0 S1 ∧ HA wr F w.heap.size w3.heap.size 37 R hs ∧ R.length = 4 ∧
        Hid (∀ (j : Nat) (s : Sec), S1[j]? = some s → (j < k → hs[j]? = some [s.last]) ∧ (k ≤ j → R[j]? = some (none, 0, 0) ∧ hs[j]? = some []))) (fun i _ => 4 - (intOf i).toNat)
      case atStart =>
        have hs3 := HG3.out.ld.bel.size
        refine ⟨0, List.replicate 4 (none, 0, 0), List.replicate 4 [], Nat.zero_le _, rfl, HG3.out.below ((Below.refl _ _).alloc (Nat.le_refl _) _), ⟨heap_alloc_new w3 _, fun hf => by have := HG3.out.ld.d.lt _ hf; omega, hs3, by decide, rfl, fun j r ls h1 h2 => ?_, fun i j r s k h1 h2 h3 => ?_⟩, rfl, mkHid fun j s hj => ⟨fun h => absurd h (by omega), fun _ => ?_⟩⟩
        · have e1 := List.eq_of_mem_replicate (List.mem_of_getElem? h1)
          have e2 := List.eq_of_mem_replicate (List.mem_of_getElem? h2)
          subst e1
          subst e2
          exact ⟨[], HE.nil⟩
        · have e1 := List.eq_of_mem_replicate (List.mem_of_getElem? h1)
          subst e1
          cases h3
        · have hj4 := (List.getElem?_eq_some_iff.1 hj).1
          rw [List.getElem?_replicate, List.getElem?_replicate, if_pos (by omega), if_pos (by omega)]
          exact ⟨rfl, rfl⟩
      case round =>
        clear HG3
        obtain ⟨k, R, hs, hk, rfl, hg, hha, hR4, HH⟩ := hrel
        have hsz := hg.ld.bel.size
        have HG := mkHid hg
        have HA0 := mkHid hha
        clear hg hha
        by_cases hlt2 : k < 4
        · obtain ⟨s, hs1⟩ : ∃ s, S1[k]? = some s := ⟨_, List.getElem?_eq_getElem (by omega)⟩
          have HS := mkHid hs1
          have HBD := mkHid (HG.out.all s (List.mem_of_getElem? hs1)).1
          clear hs1
          go_wp2_with fail
          refine (read_ok F g _ k s wr HG.out.ld.d HS.out HBD.out).mono ?_
          rintro e w5 ⟨A5, c5, rfl, ho5, hk5, hl5, hb5⟩
          have HO5 := mkHid ho5
          have HK5 := mkHid hk5
          have HG5 := mkHid (HG.out.below hb5)
          have HA5 := mkHid (HA0.out.below hb5)
          have HN5 := mkHid (show ∀ b o, A5 = some ⟨b, o, none⟩ → ¬ F b ∧ (b < w.heap.size ∨ ∃ cur, w5.heap[b]? = some (.cells cur 5 (0, 0))) from fun b o e => ⟨fun hf => by
            have h1 := HG.out.ld.d.lt b hf
            have h2 := (ho5.lt b (by rw [e]; rfl)).1
            omega, .inr (own_type ho5 (by rw [e]; rfl))⟩)
          have hr := ((HH.out k s HS.out).2 (Nat.le_refl _)).1
          have hglt5 : w3.heap.size < w5.heap.size := (Array.getElem?_eq_some_iff.1 HA5.out.blk).1
          have hblkW : (w5.alloc (.cells #[.slice A5 128 c5] 30)).heap[w3.heap.size]? = some (.cells (R.map Row.v).toArray 37 (0, 0)) := (Below.heap_alloc _ _ _ hglt5).trans HA5.out.blk
          have hcW : (w5.alloc (.cells #[.slice A5 128 c5] 30)).cell? ⟨w3.heap.size, k, none⟩ = some (.slice none 0 0) := by
            rw [cell_of_row _ _ _ _ _ _ hblkW, List.getElem?_toArray, List.getElem?_map, hr]; rfl
          have hfW : (w5.alloc (.cells #[.slice A5 128 c5] 30)).frozen? ⟨w3.heap.size, k, none⟩ = false := frozen_of_row _ _ _ _ _ hblkW
          have HR := mkHid hr
          have HBW := mkHid hblkW
          have hs5 := hb5.size
          clear ho5 hk5 hl5 hb5 hr hblkW
          go_wp2_with fail
          go_roundw
          case rel =>
            rw [← World.setCell_alloc_past (w := w5) (.cells #[.slice A5 128 c5] 30) w3.heap.size k (.slice (some ⟨w5.heap.size, 0, none⟩) 1 1) hglt5]
            have hbel : Below w.heap.size w5 ((w5.alloc (.cells #[.slice A5 128 c5] 30)).setCell ⟨w3.heap.size, k, none⟩ (.slice (some ⟨w5.heap.size, 0, none⟩) 1 1)) := ((Below.refl _ _).alloc (by omega) _).setCell (p := ⟨w3.heap.size, k, none⟩) HA5.out.gb _
            have hkp : ∀ b, b < w5.heap.size → b ≠ w3.heap.size → ((w5.alloc (.cells #[.slice A5 128 c5] 30)).setCell ⟨w3.heap.size, k, none⟩ (.slice (some ⟨w5.heap.size, 0, none⟩) 1 1)).heap[b]? = w5.heap[b]? := fun b hb hne => (heap_setCell_other _ _ _ _ hne).trans (Below.heap_alloc _ _ _ hb)
            have hnew : (w5.alloc (.cells #[.slice A5 128 c5] 30)).ownsRow w.heap.size 30 1 (.slice (some ⟨w5.heap.size, 0, none⟩) (0 + 1) 1) (0 + 1) ([] ++ [.slice A5 128 c5]) := ⟨rfl, .inr ⟨w5.heap.size, 1, _, rfl, by omega, heap_alloc_new w5 _, Nat.le_refl _, by unfold maxLen; omega, rfl, rfl⟩⟩
            have hE1 := HE.nil.snoc (wr := w5) (w1 := w5.alloc (.cells #[.slice A5 128 c5] 30)) (by simp) (fun b hb _ => Below.heap_alloc _ _ _ hb) hnew (.inr fun k hk => by simp [Value.ownBlock] at hk; omega) HG5.out.ld.d.lt (own_cap HO5.out) ⟨SL.of_own HO5.out, HK5.out⟩ HN5.out
            have hE2 := hE1.keepX (w1 := (w5.alloc (.cells #[.slice A5 128 c5] 30)).setCell ⟨w3.heap.size, k, none⟩ (.slice (some ⟨w5.heap.size, 0, none⟩) 1 1)) (F' := F) (M := fun b => b = w3.heap.size) (by simp [World.setCell]) (fun b _ hne => heap_setCell_other _ _ _ _ hne) (fun b _ hb e => by
              have hgb := HA5.out.gb
              rcases hb with hb | ⟨cur, hc⟩
              · omega
              · rw [e, HBW.out] at hc
                simp at hc) (fun b hb e => by simp [Value.ownBlock] at hb; omega) fun b hb => .inl hb
            have hput := HA5.out.put (w1 := (w5.alloc (.cells #[.slice A5 128 c5] 30)).setCell ⟨w3.heap.size, k, none⟩ (.slice (some ⟨w5.heap.size, 0, none⟩) 1 1)) (r' := (some ⟨w5.heap.size, 0, none⟩, 1, 1)) (ls' := [] ++ [s.last]) HR.out hbel.size (by have := heap_setCell_same _ _ k _ _ (.slice (some ⟨w5.heap.size, 0, none⟩) 1 1) HBW.out; rw [this, List.map_set, List.setIfInBounds_toArray]; rfl) (fun b hb hne _ => hkp b hb hne)
              hE2 (.inr fun k hk => by simp [Row.v, Value.ownBlock] at hk; omega)
            refine ⟨k + 1, _, _, by omega, by go_num, ⟨HG5.out.ld.keep (fun b hb => hkp b (HG5.out.ld.d.lt b hb) fun e => HA5.out.gout (e ▸ hb)) hbel, HG5.out.all⟩, hput, by rw [List.length_set]; exact hR4, mkHid fun j s' hj => ?_⟩
            have hhl : hs.length = 4 := by rw [← HA5.out.lr]; exact hR4
            by_cases e : k = j
            · subst e
              rw [HS.out] at hj
              injection hj with hj
              subst hj
              exact ⟨fun _ => List.getElem?_set_self (by omega), fun h => absurd h (by omega)⟩
            · rw [List.getElem?_set_ne e, List.getElem?_set_ne e]
              obtain ⟨h1, h2⟩ := HH.out j s' hj
              exact ⟨fun h => h1 (by omega), fun h => h2 (by omega)⟩
          case measure => simp [intOf]; omega
        · obtain rfl : k = 4 := by omega
          obtain ⟨wQ, rfl⟩ : ∃ x, x = wr := ⟨wr, rfl⟩
          go_wp2_with fail
          have HIN := mkHid (show ∀ (j : Nat) (s : Sec), S1[j]? = some s → hs[j]? = some (s.good :: s.wait) from fun j s hj => by
            have hj4 := (List.getElem?_eq_some_iff.1 hj).1
            rw [((HH.out j s hj).1 (by omega))]
            have hw := HFW.out s (List.mem_of_getElem? hj)
            have : s.last = s.good := by unfold Sec.last; rw [hw]; rfl
            rw [hw, this])
          clear HH HFW
          go_loopw [90] (fun i wr => ∃ (q : Nat) (F : Nat → Prop) (ss : List Sec) (R : List Row) (hs : List (List (List Int))), q ≤ nt ∧ i = .int .i64 q ∧ ss.length = 4 ∧ GW w wr F g q ss ∧ HA wr F w.heap.size w3.heap.size 37 R hs ∧ R.length = 4 ∧ Hid (∀ (j : Nat) (s : Sec), ss[j]? = some s → hs[j]? = some (s.good :: s.wait))) (fun i _ => nt - (intOf i).toNat)
          case atStart => exact ⟨0, F, S1, R, hs, Nat.zero_le _, rfl, hfl, HG.out, HA0.out, hR4, HIN⟩
          case round =>
            clear HG HA0 HIN hfl
            obtain ⟨q2, F, ss, R, hs, hq2, rfl, h4, hg, hha, hR4, HH⟩ := hrel
            have hsz2 := hg.ld.bel.size
            have HG := mkHid hg
            have HA0 := mkHid hha
            clear hg hha
            by_cases hlt3 : q2 < nt
            · obtain ⟨b, o, x, a1, m1', c1, a2, m', c2, rfl, hb, _, hI0, hI1, hI2, hca, hbs, hcb, his, d0, d1, d2, d3, d4⟩ := (HY.out.below HG.out.ld.bel).at_ hlt3
              obtain ⟨xk, xi, xn, xd, xp⟩ := x
              simp only at hI0 hI1 hI2 hbs his d0 d1 d2 d3 d4
              obtain ⟨hca1, hca2, hca3⟩ := hca
              obtain ⟨i0, i1⟩ := id hI1
              have HII := mkHid hI1
              have hbop : Below wr.heap.size wr (wr.alloc (.cells #[.int .i64 xk, .int .i64 xi, .int .i64 xn, .slice a1 m1' c1, .slice a2 m' c2] 32)) := (Below.refl _ _).alloc (Nat.le_refl _) _
              have HAL := mkHid (HG.out.below hbop)
              have HHA := mkHid (HA0.out.below hbop)
              have hdl : xd.length = m1' := hbs.len
              have HBS := mkHid hbs
              have HBA := mkHid (show ∀ W : World, W.heap = (wr.alloc (.cells #[.int .i64 xk, .int .i64 xi, .int .i64 xn, .slice a1 m1' c1, .slice a2 m' c2] 32)).heap → BS W W.heap.size a1 m1' xd from fun W hW => (hbs.keep fun b' hb' => by rw [hW]; exact Below.heap_alloc _ _ _ (by omega)).more (by rw [hW]; simp; omega))
              clear hbs his hbop hI0 hI1 hI2
              by_cases hm128 : m1' = 128
              case neg =>
                have hmb : ((m1' : Int) == 128) = false := beq_eq_false_iff_ne.2 (by omega)
                go_wp2_with fail
                go_roundw
                case rel => exact ⟨q2 + 1, F, ss, R, hs, by omega, by go_num, h4, HAL.out.more (by omega), HHA.out, hR4, HH⟩
                case measure => simp [intOf]; omega
              subst hm128
              by_cases hx0 : 0 ≤ xi
              case neg =>
                go_wp2_with fail
                go_roundw
                case rel => exact ⟨q2 + 1, F, ss, R, hs, by omega, by go_num, h4, HAL.out.more (by omega), HHA.out, hR4, HH⟩
                case measure => simp [intOf]; omega
              by_cases hx4 : xi < 4
              case neg =>
                go_wp2_with fail
                go_roundw
                case rel => exact ⟨q2 + 1, F, ss, R, hs, by omega, by go_num, h4, HAL.out.more (by omega), HHA.out, hR4, HH⟩
                case measure => simp [intOf]; omega
              obtain ⟨J, rfl⟩ : ∃ J : Nat, xi = J := ⟨xi.toNat, by omega⟩
              obtain ⟨s, hsj⟩ : ∃ s, ss[J]? = some s := ⟨_, List.getElem?_eq_getElem (by omega)⟩
              have HSJ := mkHid hsj
              have HPC := mkHid (show ∀ s : World, s.heap[wr.heap.size]? = (wr.alloc (.cells #[.int .i64 xk, .int .i64 (J : Int), .int .i64 xn, .slice a1 128 c1, .slice a2 m' c2] 32)).heap[wr.heap.size]? → s.cell? ⟨wr.heap.size, 1, none⟩ = some (.int .i64 (J : Int)) ∧ s.cell? ⟨wr.heap.size, 3, none⟩ = some (.slice a1 128 c1) from fun s hs => by
                have hs' := hs.trans (heap_alloc_new wr _)
                exact ⟨cell_of_row s _ 1 _ _ _ hs', cell_of_row s _ 3 _ _ _ hs'⟩)
              have HC0 := mkHid (HPC.out _ rfl)
              have hwq := (HG.out.all s (List.mem_of_getElem? hsj)).2
              have HN1 := mkHid (show ∀ x, F x → x < wr.heap.size from HG.out.ld.d.lt)
              clear hsj
              go_wp2_with fail
              go_region_held3 (fun s => s.cell? ⟨wr.heap.size, 1, none⟩ = some (.int .i64 (J : Int)) ∧ s.cell? ⟨wr.heap.size, 3, none⟩ = some (.slice a1 128 c1)) (first | exact HC0.out | assumption) (first
                | (go_at_call 11; refine (write_ok F g ss J s CA cc xd w5 HB5.out.ld.d HSJ.out HCO.out (by omega)).mono ?_; rintro e w6 ⟨rfl, ht6, F3, hd6, hF6⟩; have hk6 : w6.heap[wr.heap.size]? = _ := (ht6.block _ (by omega) (fun hf => by have := HN1.out _ hf; omega)).trans HK5.out; have hpc6 := HPC.out w6 hk6; have HK6 := mkHid hk6; have HT6 := mkHid (HB5.out.ld.turn ht6 hd6 hF6); have HA6 := mkHid (HAA5.out.turn ht6 hF6); have hs6 : w5.heap.size ≤ w6.heap.size := ht6.size; clear ht6 hd6 hF6 hk6)
                | (go_at_call 12; refine (copy_any a1 128 c1 xd _ (HBA.out _ (by rfl)) (by omega)).mono ?_; rintro e w5 ⟨CA, cc, rfl, hco, hb5⟩; rw [hdl] at hco ⊢; have hpc := HPC.out w5 (hb5.block _ (by simp [World.drew])); have HCO := mkHid (show BS w5 w5.heap.size CA 128 xd from ⟨SL.of_own hco, (HBA.out _ rfl).2⟩); have HB5 := mkHid (HAL.out.below (Below.mk hb5.os hb5.tape hb5.output hb5.size hb5.block)); have HAA5 := mkHid (HHA.out.below (Below.mk hb5.os hb5.tape hb5.output hb5.size hb5.block)); have HK5 := mkHid (show w5.heap[wr.heap.size]? = (wr.alloc (.cells #[.int .i64 xk, .int .i64 (J : Int), .int .i64 xn, .slice a1 128 c1, .slice a2 m' c2] 32)).heap[wr.heap.size]? from hb5.block _ (by simp [World.drew])); have hs5 : wr.heap.size + 1 ≤ w5.heap.size := (by have := hb5.size; simpa [World.drew] using this); clear hco hb5))
              rename_i hheld
              clear hheld hpc hpc6
              obtain ⟨rJ, hrJ⟩ : ∃ r, R[J]? = some r := ⟨_, List.getElem?_eq_getElem (by omega)⟩
              obtain ⟨AJ, LJ, CJ⟩ := rJ
              obtain ⟨vJ, hE⟩ := HA6.out.row J _ _ hrJ (HH.out J s HSJ.out)
              simp only at hE
              have hLJ : LJ ≤ q2 + 1 := by have := hE.len; simp at this; omega
              have HE6 := mkHid hE
              have HRJ := mkHid hrJ
              have hgl6 : w3.heap.size < w6.heap.size := (Array.getElem?_eq_some_iff.1 HA6.out.blk).1
              have hcJ : w6.cell? ⟨w3.heap.size, J, none⟩ = some (.slice AJ LJ CJ) := by
                rw [cell_of_row _ _ _ _ _ _ HA6.out.blk, List.getElem?_toArray, List.getElem?_map, hrJ]; rfl
              have hcJ2 : ∀ (o : Obj), (w6.alloc o).cell? ⟨w3.heap.size, J, none⟩ = some (.slice AJ LJ CJ) := fun o => (World.cell?_of_block (w := w6) (Below.heap_alloc w6 o _ hgl6)).trans hcJ
              have HS6 := mkHid (HPC.out w6 HK6.out)
              have HS7 := mkHid (show ∀ o : Obj, (w6.drew.alloc o).cell? ⟨wr.heap.size, 1, none⟩ = some (.int .i64 (J : Int)) ∧ (w6.drew.alloc o).cell? ⟨wr.heap.size, 3, none⟩ = some (.slice a1 128 c1) from fun o => HPC.out _ ((Below.heap_alloc w6.drew o _ (by show wr.heap.size < w6.heap.size; omega)).trans HK6.out))
              clear hE hrJ
              go_wp2_with fail
              have HOW := mkHid (show ∀ W : World, (∀ b, b < w6.heap.size → W.heap[b]? = w6.heap[b]?) → W.ownsRow w.heap.size 30 1 (.slice AJ LJ CJ) LJ vJ from fun W hW => own_keep HE6.out.row hW)
              have hop6 : w6.heap[wr.heap.size]? = some (.cells #[.int .i64 xk, .int .i64 (J : Int), .int .i64 xn, .slice a1 128 c1, .slice a2 m' c2] 32 (0, 0)) := HK6.out.trans (heap_alloc_new wr _)
              have hk06 : wr.heap.size < w6.heap.size := (Array.getElem?_eq_some_iff.1 hop6).1
              have HNK := mkHid (show (Value.slice AJ LJ CJ).ownBlock ≠ some wr.heap.size from fun e => by
                obtain ⟨cur, h'⟩ := own_type HE6.out.row e
                rw [hop6] at h'
                simp at h')
              have HNG := mkHid (show (Value.slice AJ LJ CJ).ownBlock ≠ some w3.heap.size from fun e => by
                obtain ⟨cur, h'⟩ := own_type HE6.out.row e
                rw [HA6.out.blk] at h'
                simp at h')
              have hgk : w3.heap.size < wr.heap.size := (Array.getElem?_eq_some_iff.1 HA0.out.blk).1
              have hb6 := HT6.out.bel.size
              clear hop6
              obtain ⟨hsa, hsb⟩ := HS6.out
              have hsc := fun o => (HS7.out o).1
              have hsd := fun o => (HS7.out o).2
              refine wp_region_held_drew (S := fun s => s.cell? ⟨wr.heap.size, 1, none⟩ = some (.int .i64 (J : Int)) ∧ s.cell? ⟨wr.heap.size, 3, none⟩ = some (.slice a1 128 c1)) (by kernel_rfl) HS6.out (fun hHeld => ?_)
              refine wpAnyH_take (i := 0) (oi := { dst := some 116, op := Op.fieldAddr 32 (Operand.tmp 16) 1, type := 0, pos := "law.go:157", after := #[], guard := none }) (v := ?_) rfl (by kernel_rfl) (by kernel_rfl) (by kernel_rfl) (fun _ _ _ h => h) (Or.inl ⟨by rfl, ?hy1⟩) (by assumption) ?rest1
              case hy1 =>
                intro w hSw
                try dsimp only at hSw
                obtain ⟨hsw1, hsw2⟩ := hSw
                go_simp
                try with_reducible rfl
              try simp only [List.getElem_toArray, List.getElem_cons_zero, List.getElem_cons_succ, Act.put, List.setIfInBounds_toArray, List.set_cons_zero, List.set_cons_succ]
              refine wpAnyH_take (i := 1) (oi := { dst := some 117, op := Op.load 3 (Operand.tmp 116), type := 3, pos := "law.go:157", after := #[{ on := 0, ground := Ground.data }], guard := none }) (v := ?_) rfl (by kernel_rfl) (by kernel_rfl) (by kernel_rfl) (fun _ _ _ h => h) (Or.inl ⟨by rfl, ?hy2⟩) (by assumption) ?rest2
              case hy2 =>
                intro w hSw
                try dsimp only at hSw
                obtain ⟨hsw1, hsw2⟩ := hSw
                go_simp
                try with_reducible rfl
              try simp only [List.getElem_toArray, List.getElem_cons_zero, List.getElem_cons_succ, Act.put, List.setIfInBounds_toArray, List.set_cons_zero, List.set_cons_succ]
              refine wpAnyH_take (i := 2) (oi := { dst := some 118, op := Op.fieldAddr 32 (Operand.tmp 16) 1, type := 0, pos := "law.go:157", after := #[], guard := none }) (v := ?_) rfl (by kernel_rfl) (by kernel_rfl) (by kernel_rfl) (fun _ _ _ h => h) (Or.inl ⟨by rfl, ?hy3⟩) (by assumption) ?rest3
              case hy3 =>
                intro w hSw
                try dsimp only at hSw
                obtain ⟨hsw1, hsw2⟩ := hSw
                go_simp
                try with_reducible rfl
              try simp only [List.getElem_toArray, List.getElem_cons_zero, List.getElem_cons_succ, Act.put, List.setIfInBounds_toArray, List.set_cons_zero, List.set_cons_succ]
              refine wpAnyH_take (i := 3) (oi := { dst := some 119, op := Op.load 3 (Operand.tmp 118), type := 3, pos := "law.go:157", after := #[{ on := 2, ground := Ground.data }], guard := none }) (v := ?_) rfl (by kernel_rfl) (by kernel_rfl) (by kernel_rfl) (fun _ _ _ h => h) (Or.inl ⟨by rfl, ?hy4⟩) (by assumption) ?rest4
              case hy4 =>
                intro w hSw
                try dsimp only at hSw
                obtain ⟨hsw1, hsw2⟩ := hSw
                go_simp
                try with_reducible rfl
              try simp only [List.getElem_toArray, List.getElem_cons_zero, List.getElem_cons_succ, Act.put, List.setIfInBounds_toArray, List.set_cons_zero, List.set_cons_succ]
              refine wpAnyH_take (i := 4) (oi := { dst := some 120, op := Op.indexAddr 37 (Operand.tmp 11) (Operand.tmp 119), type := 0, pos := "law.go:157", after := #[{ on := 3, ground := Ground.data }], guard := none }) (v := ?_) rfl (by kernel_rfl) (by kernel_rfl) (by kernel_rfl) (fun _ _ _ h => h) (Or.inl ⟨by rfl, ?hy5⟩) (by assumption) ?rest5
              case hy5 =>
                intro w hSw
                try dsimp only at hSw
                obtain ⟨hsw1, hsw2⟩ := hSw
                go_simp
                try with_reducible rfl
              try simp only [List.getElem_toArray, List.getElem_cons_zero, List.getElem_cons_succ, Act.put, List.setIfInBounds_toArray, List.set_cons_zero, List.set_cons_succ]
              refine wpAnyH_take (i := 6) (oi := { dst := some 122, op := Op.fieldAddr 32 (Operand.tmp 16) 3, type := 0, pos := "law.go:157", after := #[], guard := none }) (v := ?_) rfl (by kernel_rfl) (by kernel_rfl) (by kernel_rfl) (fun _ _ _ h => h) (Or.inl ⟨by rfl, ?hy6⟩) (by assumption) ?rest6
              case hy6 =>
                intro w hSw
                try dsimp only at hSw
                obtain ⟨hsw1, hsw2⟩ := hSw
                go_simp
                try with_reducible rfl
              try simp only [List.getElem_toArray, List.getElem_cons_zero, List.getElem_cons_succ, Act.put, List.setIfInBounds_toArray, List.set_cons_zero, List.set_cons_succ]
              refine wpAnyH_take (i := 7) (oi := { dst := some 123, op := Op.load 30 (Operand.tmp 122), type := 30, pos := "law.go:157", after := #[{ on := 6, ground := Ground.data }], guard := none }) (v := ?_) rfl (by kernel_rfl) (by kernel_rfl) (by kernel_rfl) (fun _ _ _ h => h) (Or.inl ⟨by rfl, ?hy7⟩) (by assumption) ?rest7
              case hy7 =>
                intro w hSw
                try dsimp only at hSw
                obtain ⟨hsw1, hsw2⟩ := hSw
                go_simp
                try with_reducible rfl
              try simp only [List.getElem_toArray, List.getElem_cons_zero, List.getElem_cons_succ, Act.put, List.setIfInBounds_toArray, List.set_cons_zero, List.set_cons_succ]
              refine wpAnyH_ready (rs := [5, 8]) (by kernel_rfl) (by simp) ?_
              refine AllReadyH.cons (o := { dst := some 121, op := Op.load 36 (Operand.tmp 120), type := 36, pos := "law.go:157", after := #[{ on := 4, ground := Ground.data }], guard := none }) rfl (fun K hK => ?_) (AllReadyH.cons (o := { dst := some 124, op := Op.buildSlice 36 1 #[(0, Operand.tmp 123)], type := 36, pos := "law.go:157", after := #[{ on := 7, ground := Ground.data }], guard := none }) rfl (fun K hK => ?_) AllReadyH.nil)
              · go_simp
                refine hK.out _ _ (HS6.out) (fun hHeld => ?_)
                clear hK K
                try simp only [List.getElem_toArray, List.getElem_cons_zero, List.getElem_cons_succ, Act.put, List.setIfInBounds_toArray, List.set_cons_zero, List.set_cons_succ]
                refine wpAnyH_ready (rs := [8]) (by kernel_rfl) (by simp) ?_
                refine AllReadyH.cons (o := { dst := some 124, op := Op.buildSlice 36 1 #[(0, Operand.tmp 123)], type := 36, pos := "law.go:157", after := #[{ on := 7, ground := Ground.data }], guard := none }) rfl (fun K hK => ?_) AllReadyH.nil
                go_simp
                refine hK.out _ _ (HS7.out _) (fun hHeld => ?_)
                clear hK K
                try simp only [List.getElem_toArray, List.getElem_cons_zero, List.getElem_cons_succ, Act.put, List.setIfInBounds_toArray, List.set_cons_zero, List.set_cons_succ]
                refine wpAnyH_ready (rs := [9]) (by kernel_rfl) (by simp) ?_
                refine AllReadyH.cons (o := { dst := some 125, op := Op.call { callee := Callee.builtin Builtin.append, args := #[Operand.tmp 121, Operand.tmp 124], argTypes := #[36, 36] }, type := 36, pos := "law.go:157", after := #[{ on := 5, ground := Ground.data }, { on := 8, ground := Ground.data }], guard := none }) rfl (fun K hK => ?_) AllReadyH.nil
                refine step_app _ rfl (.tmp 121) (.tmp 124) _ rfl w.heap.size el_bs AJ LJ CJ vJ (by rfl) (HOW.out _ (fun b hb => Below.heap_alloc _ _ b hb)) (w6.heap.size + 1) (some ⟨w6.heap.size, 0, none⟩) 1 1 [.slice a1 128 c1] (by rfl) (SL.of_block (heap_alloc_new w6.drew _) rfl (by omega)) (fun u hu => by obtain rfl := List.mem_singleton.1 hu; rfl) (by unfold maxLen; omega) (by omega) (by show w.heap.size ≤ (w6.alloc _).heap.size; simp; omega) ?_
                intro A' C' w8 ho8 hg8 hat8; have hk8 : w8.heap[wr.heap.size]? = w6.heap[wr.heap.size]? := (hg8.block _ (by show _ < (w6.alloc _).heap.size; simp; omega) (fun e => HNK.out e.symm)).trans (Below.heap_alloc _ _ _ hk06); have hb8 : w8.heap[w3.heap.size]? = _ := ((hg8.block _ (by show _ < (w6.alloc _).heap.size; simp; omega) (fun e => HNG.out e.symm)).trans (Below.heap_alloc _ _ _ hgl6)).trans HA6.out.blk; obtain ⟨hpc8, hpd8⟩ := HPC.out w8 (hk8.trans HK6.out); have hfz8 := frozen_of_row w8 w3.heap.size J _ _ hb8; have hcl8 : w8.cell? ⟨w3.heap.size, J, none⟩ = some (.slice AJ LJ CJ) := (World.cell?_of_block (w := w6) (hb8.trans HA6.out.blk.symm)).trans hcJ; have HS8 := mkHid (show ∀ v, _ from fun v => HPC.out (w8.setCell ⟨w3.heap.size, J, none⟩ v) ((heap_setCell_other _ _ _ _ (show wr.heap.size ≠ w3.heap.size by omega)).trans (hk8.trans HK6.out))); have HO8 := mkHid ho8; have HG8 := mkHid hg8; have HAT8 := mkHid hat8; have HB8 := mkHid hb8; clear ho8 hg8 hat8 hk8 hb8
                refine hK.out _ _ (⟨hpc8, hpd8⟩) (fun hHeld => ?_)
                clear hK K
                try simp only [List.getElem_toArray, List.getElem_cons_zero, List.getElem_cons_succ, Act.put, List.setIfInBounds_toArray, List.set_cons_zero, List.set_cons_succ]
                refine wpAnyH_take (i := 10) (oi := { dst := some 126, op := Op.indexAddr 37 (Operand.tmp 11) (Operand.tmp 117), type := 0, pos := "law.go:157", after := #[{ on := 1, ground := Ground.data }, { on := 0, ground := Ground.phase }, { on := 1, ground := Ground.phase }, { on := 2, ground := Ground.phase }, { on := 3, ground := Ground.phase }, { on := 4, ground := Ground.phase }, { on := 5, ground := Ground.phase }, { on := 6, ground := Ground.phase }, { on := 7, ground := Ground.phase }, { on := 8, ground := Ground.phase }, { on := 9, ground := Ground.phase }], guard := none }) (v := ?_) rfl (by kernel_rfl) (by kernel_rfl) (by kernel_rfl) (fun _ _ _ h => h) (Or.inl ⟨by rfl, ?hy8⟩) (by assumption) ?rest8
                case hy8 =>
                  intro w hSw
                  try dsimp only at hSw
                  obtain ⟨hsw1, hsw2⟩ := hSw
                  go_simp
                  try with_reducible rfl
                try simp only [List.getElem_toArray, List.getElem_cons_zero, List.getElem_cons_succ, Act.put, List.setIfInBounds_toArray, List.set_cons_zero, List.set_cons_succ]
                refine wpAnyH_ready (rs := [11]) (by kernel_rfl) (by simp) ?_
                refine AllReadyH.cons (o := { dst := none, op := Op.store 36 (Operand.tmp 126) (Operand.tmp 125), type := 0, pos := "law.go:157", after := #[{ on := 10, ground := Ground.data }, { on := 9, ground := Ground.data }, { on := 9, ground := Ground.chain }, { on := 0, ground := Ground.phase }, { on := 1, ground := Ground.phase }, { on := 2, ground := Ground.phase }, { on := 3, ground := Ground.phase }, { on := 4, ground := Ground.phase }, { on := 5, ground := Ground.phase }, { on := 6, ground := Ground.phase }, { on := 7, ground := Ground.phase }, { on := 8, ground := Ground.phase }, { on := 9, ground := Ground.phase }], guard := none }) rfl (fun K hK => ?_) AllReadyH.nil
                go_simp
                refine hK.out _ _ (HS8.out _) (fun hHeld => ?_)
                clear hK K
                try simp only [List.getElem_toArray, List.getElem_cons_zero, List.getElem_cons_succ, Act.put, List.setIfInBounds_toArray, List.set_cons_zero, List.set_cons_succ]
                refine wpAnyH_done (by kernel_rfl) ?_ _
                have hb6s : BS w6 w6.heap.size a1 128 xd := (HBS.out.keep fun b hb => (HT6.out.bel.block b hb).trans (HG.out.ld.bel.block b hb).symm).more (by omega)
                have hlow : ∀ b o, a1 = some ⟨b, o, none⟩ → ¬ F3 b ∧ (b < w.heap.size ∨ ∃ cur, w6.heap[b]? = some (.cells cur 5 (0, 0))) := fun b o e => by
                  obtain ⟨b2, o2, e2, hb2, _⟩ := HBS.out.at_ (j := 0) (by omega)
                  rw [e] at e2
                  injection e2 with e2
                  injection e2 with e2
                  exact ⟨fun hf => by have := HT6.out.lo b hf; omega, .inl (by omega)⟩
                have hst := had_step HT6.out HA6.out HRJ.out HE6.out (Z := w6.drew.alloc (.cells #[.slice a1 128 c1] 30)) (fun b hb => Below.heap_alloc w6.drew _ b hb) (by show _ ≤ (w6.alloc _).heap.size; simp) ⟨rfl, rfl, rfl⟩ HO8.out HG8.out HAT8.out ⟨hca1, hca2⟩ hb6s hlow
                have HST := mkHid hst
                clear hst hb6s hlow hsa hsb hsc hsd hcJ hcJ2 hcl8 hfz8 hpc8 hpd8 hHeld
                go_wp2_with fail
                refine ⟨?_, by simp [intOf]; omega⟩
                · repeat apply Exists.intro
                  refine ⟨?_, rfl⟩
                  refine ⟨q2 + 1, F3, _, _, _, by omega, by go_num, by rw [List.length_set]; exact h4, ⟨HST.out.1, fun s' hs' => ?_⟩, HST.out.2, by rw [List.length_set]; exact hR4, mkHid fun j s' hj => ?_⟩
                  · rcases List.mem_or_eq_of_mem_set hs' with h1 | h1
                    · exact ⟨(HG.out.all s' h1).1, Nat.le_succ_of_le (HG.out.all s' h1).2⟩
                    · have h2 := HG.out.all s (List.mem_of_getElem? HSJ.out)
                      rw [h1]
                      exact ⟨h2.1, by simp only [List.length_append, List.length_cons, List.length_nil]; omega⟩
                  · have hJs : J < ss.length := (List.getElem?_eq_some_iff.1 HSJ.out).1
                    have hJh : J < hs.length := by rw [← HA6.out.lr, hR4]; omega
                    by_cases e : J = j
                    · subst e
                      rw [List.getElem?_set_self hJs] at hj
                      rw [List.getElem?_set_self hJh]
                      injection hj with hj
                      rw [← hj]; rfl
                    · rw [List.getElem?_set_ne e] at hj ⊢
                      exact HH.out j s' hj
              · go_simp
                refine hK.out _ _ (HS7.out _) (fun hHeld => ?_)
                clear hK K
                try simp only [List.getElem_toArray, List.getElem_cons_zero, List.getElem_cons_succ, Act.put, List.setIfInBounds_toArray, List.set_cons_zero, List.set_cons_succ]
                refine wpAnyH_ready (rs := [5]) (by kernel_rfl) (by simp) ?_
                refine AllReadyH.cons (o := { dst := some 121, op := Op.load 36 (Operand.tmp 120), type := 36, pos := "law.go:157", after := #[{ on := 4, ground := Ground.data }], guard := none }) rfl (fun K hK => ?_) AllReadyH.nil
                go_simp
                refine hK.out _ _ (HS7.out _) (fun hHeld => ?_)
                clear hK K
                try simp only [List.getElem_toArray, List.getElem_cons_zero, List.getElem_cons_succ, Act.put, List.setIfInBounds_toArray, List.set_cons_zero, List.set_cons_succ]
                refine wpAnyH_ready (rs := [9]) (by kernel_rfl) (by simp) ?_
                refine AllReadyH.cons (o := { dst := some 125, op := Op.call { callee := Callee.builtin Builtin.append, args := #[Operand.tmp 121, Operand.tmp 124], argTypes := #[36, 36] }, type := 36, pos := "law.go:157", after := #[{ on := 5, ground := Ground.data }, { on := 8, ground := Ground.data }], guard := none }) rfl (fun K hK => ?_) AllReadyH.nil
                refine step_app _ rfl (.tmp 121) (.tmp 124) _ rfl w.heap.size el_bs AJ LJ CJ vJ (by rfl) (HOW.out _ (fun b hb => Below.heap_alloc _ _ b hb)) (w6.heap.size + 1) (some ⟨w6.heap.size, 0, none⟩) 1 1 [.slice a1 128 c1] (by rfl) (SL.of_block (heap_alloc_new w6.drew _) rfl (by omega)) (fun u hu => by obtain rfl := List.mem_singleton.1 hu; rfl) (by unfold maxLen; omega) (by omega) (by show w.heap.size ≤ (w6.alloc _).heap.size; simp; omega) ?_
                intro A' C' w8 ho8 hg8 hat8; have hk8 : w8.heap[wr.heap.size]? = w6.heap[wr.heap.size]? := (hg8.block _ (by show _ < (w6.alloc _).heap.size; simp; omega) (fun e => HNK.out e.symm)).trans (Below.heap_alloc _ _ _ hk06); have hb8 : w8.heap[w3.heap.size]? = _ := ((hg8.block _ (by show _ < (w6.alloc _).heap.size; simp; omega) (fun e => HNG.out e.symm)).trans (Below.heap_alloc _ _ _ hgl6)).trans HA6.out.blk; obtain ⟨hpc8, hpd8⟩ := HPC.out w8 (hk8.trans HK6.out); have hfz8 := frozen_of_row w8 w3.heap.size J _ _ hb8; have hcl8 : w8.cell? ⟨w3.heap.size, J, none⟩ = some (.slice AJ LJ CJ) := (World.cell?_of_block (w := w6) (hb8.trans HA6.out.blk.symm)).trans hcJ; have HS8 := mkHid (show ∀ v, _ from fun v => HPC.out (w8.setCell ⟨w3.heap.size, J, none⟩ v) ((heap_setCell_other _ _ _ _ (show wr.heap.size ≠ w3.heap.size by omega)).trans (hk8.trans HK6.out))); have HO8 := mkHid ho8; have HG8 := mkHid hg8; have HAT8 := mkHid hat8; have HB8 := mkHid hb8; clear ho8 hg8 hat8 hk8 hb8
                refine hK.out _ _ (⟨hpc8, hpd8⟩) (fun hHeld => ?_)
                clear hK K
                try simp only [List.getElem_toArray, List.getElem_cons_zero, List.getElem_cons_succ, Act.put, List.setIfInBounds_toArray, List.set_cons_zero, List.set_cons_succ]
                refine wpAnyH_take (i := 10) (oi := { dst := some 126, op := Op.indexAddr 37 (Operand.tmp 11) (Operand.tmp 117), type := 0, pos := "law.go:157", after := #[{ on := 1, ground := Ground.data }, { on := 0, ground := Ground.phase }, { on := 1, ground := Ground.phase }, { on := 2, ground := Ground.phase }, { on := 3, ground := Ground.phase }, { on := 4, ground := Ground.phase }, { on := 5, ground := Ground.phase }, { on := 6, ground := Ground.phase }, { on := 7, ground := Ground.phase }, { on := 8, ground := Ground.phase }, { on := 9, ground := Ground.phase }], guard := none }) (v := ?_) rfl (by kernel_rfl) (by kernel_rfl) (by kernel_rfl) (fun _ _ _ h => h) (Or.inl ⟨by rfl, ?hy9⟩) (by assumption) ?rest9
                case hy9 =>
                  intro w hSw
                  try dsimp only at hSw
                  obtain ⟨hsw1, hsw2⟩ := hSw
                  go_simp
                  try with_reducible rfl
                try simp only [List.getElem_toArray, List.getElem_cons_zero, List.getElem_cons_succ, Act.put, List.setIfInBounds_toArray, List.set_cons_zero, List.set_cons_succ]
                refine wpAnyH_ready (rs := [11]) (by kernel_rfl) (by simp) ?_
                refine AllReadyH.cons (o := { dst := none, op := Op.store 36 (Operand.tmp 126) (Operand.tmp 125), type := 0, pos := "law.go:157", after := #[{ on := 10, ground := Ground.data }, { on := 9, ground := Ground.data }, { on := 9, ground := Ground.chain }, { on := 0, ground := Ground.phase }, { on := 1, ground := Ground.phase }, { on := 2, ground := Ground.phase }, { on := 3, ground := Ground.phase }, { on := 4, ground := Ground.phase }, { on := 5, ground := Ground.phase }, { on := 6, ground := Ground.phase }, { on := 7, ground := Ground.phase }, { on := 8, ground := Ground.phase }, { on := 9, ground := Ground.phase }], guard := none }) rfl (fun K hK => ?_) AllReadyH.nil
                go_simp
                refine hK.out _ _ (HS8.out _) (fun hHeld => ?_)
                clear hK K
                try simp only [List.getElem_toArray, List.getElem_cons_zero, List.getElem_cons_succ, Act.put, List.setIfInBounds_toArray, List.set_cons_zero, List.set_cons_succ]
                refine wpAnyH_done (by kernel_rfl) ?_ _
                have hb6s : BS w6 w6.heap.size a1 128 xd := (HBS.out.keep fun b hb => (HT6.out.bel.block b hb).trans (HG.out.ld.bel.block b hb).symm).more (by omega)
                have hlow : ∀ b o, a1 = some ⟨b, o, none⟩ → ¬ F3 b ∧ (b < w.heap.size ∨ ∃ cur, w6.heap[b]? = some (.cells cur 5 (0, 0))) := fun b o e => by
                  obtain ⟨b2, o2, e2, hb2, _⟩ := HBS.out.at_ (j := 0) (by omega)
                  rw [e] at e2
                  injection e2 with e2
                  injection e2 with e2
                  exact ⟨fun hf => by have := HT6.out.lo b hf; omega, .inl (by omega)⟩
                have hst := had_step HT6.out HA6.out HRJ.out HE6.out (Z := w6.drew.alloc (.cells #[.slice a1 128 c1] 30)) (fun b hb => Below.heap_alloc w6.drew _ b hb) (by show _ ≤ (w6.alloc _).heap.size; simp) ⟨rfl, rfl, rfl⟩ HO8.out HG8.out HAT8.out ⟨hca1, hca2⟩ hb6s hlow
                have HST := mkHid hst
                clear hst hb6s hlow hsa hsb hsc hsd hcJ hcJ2 hcl8 hfz8 hpc8 hpd8 hHeld
                go_wp2_with fail
                refine ⟨?_, by simp [intOf]; omega⟩
                · repeat apply Exists.intro
                  refine ⟨?_, rfl⟩
                  refine ⟨q2 + 1, F3, _, _, _, by omega, by go_num, by rw [List.length_set]; exact h4, ⟨HST.out.1, fun s' hs' => ?_⟩, HST.out.2, by rw [List.length_set]; exact hR4, mkHid fun j s' hj => ?_⟩
                  · rcases List.mem_or_eq_of_mem_set hs' with h1 | h1
                    · exact ⟨(HG.out.all s' h1).1, Nat.le_succ_of_le (HG.out.all s' h1).2⟩
                    · have h2 := HG.out.all s (List.mem_of_getElem? HSJ.out)
                      rw [h1]
                      exact ⟨h2.1, by simp only [List.length_append, List.length_cons, List.length_nil]; omega⟩
                  · have hJs : J < ss.length := (List.getElem?_eq_some_iff.1 HSJ.out).1
                    have hJh : J < hs.length := by rw [← HA6.out.lr, hR4]; omega
                    by_cases e : J = j
                    · subst e
                      rw [List.getElem?_set_self hJs] at hj
                      rw [List.getElem?_set_self hJh]
                      injection hj with hj
                      rw [← hj]; rfl
                    · rw [List.getElem?_set_ne e] at hj ⊢
                      exact HH.out j s' hj
            · obtain rfl : q2 = nt := by omega
              clear hlt3 hq2
              have HZR := mkHid ((HZ.out.below HG.out.ld.bel).more HG.out.ld.bel.size)
              go_wp2_with (at_builtin; refine wpList_app _ rfl (.tmp 129) (.tmp 130) _ rfl wr.heap.size el_int (some ⟨wr.heap.size, 0, none⟩) 0 0 [] rfl (World.ownsRow_made wr #[] 0 (Nat.le_refl _) (Nat.zero_le _) rfl) wr.heap.size ap np cp _ rfl (HZR.out.1.alloc (Nat.le_refl _) _) (i64_cells _) (by unfold maxLen; omega) (by omega) (by simp) ?_; intro A' c' w5 hown hg hat; have HGR := mkHid hg; have HOW := mkHid hown; clear hown hg hat)
              have HB5 := mkHid (show Below wr.heap.size wr w5 from ((Below.refl _ _).alloc (Nat.le_refl _) _).grown HGR.out (by simp) (fun k hk => by simp [Value.ownBlock] at hk; omega))
              have HG5 := mkHid (HG.out.below HB5.out)
              have HA5 := mkHid (HA0.out.below HB5.out)
              refine (crash_any F g ss A' np c' lp w5 HG5.out.ld.d ⟨by have h1 := SL.of_own HOW.out; simpa using h1, HZ.out.2⟩ (fun ad e hf => by have h1 := own_from3 HOW.out ad e; have h2 := HG.out.ld.d.lt _ hf; omega) (by have h1 := own_cap HOW.out; unfold maxLen at h1; omega)).mono ?_
              rintro e w6 ⟨rfl, ht6, hd6⟩
              have HT6 := mkHid (HG5.out.ld.turn ht6 hd6 (fun b hb => .inl hb))
              have HA6 := mkHid (HA5.out.turn ht6 (fun b hb => .inl hb))
              have HGA := mkHid HG.out.all
              clear ht6 hd6 HG5 HA5 HGR HOW HB5 HZR
              obtain ⟨r0, r1, r2, r3, hRR⟩ : ∃ r0 r1 r2 r3, R = [r0, r1, r2, r3] := by
                match R, hR4 with
                | [r0, r1, r2, r3], _ => exact ⟨r0, r1, r2, r3, rfl⟩
              have hb6 := HA6.out.blk
              rw [hRR] at hb6
              have a0 : w6.cell? ⟨w3.heap.size, 0, none⟩ = some r0.v := cell_of_row _ _ 0 _ _ _ hb6
              have a1 : w6.cell? ⟨w3.heap.size, 1, none⟩ = some r1.v := cell_of_row _ _ 1 _ _ _ hb6
              have a2 : w6.cell? ⟨w3.heap.size, 2, none⟩ = some r2.v := cell_of_row _ _ 2 _ _ _ hb6
              have a3 : w6.cell? ⟨w3.heap.size, 3, none⟩ = some r3.v := cell_of_row _ _ 3 _ _ _ hb6
              have HRR := mkHid hRR
              clear hb6 hRR
              go_wp2_with fail
              clear a0 a1 a2 a3
              obtain ⟨wS, rfl⟩ : ∃ x, x = wr := ⟨wr, rfl⟩
              go_loopw [134] (fun i wr => ∃ k : Nat, k ≤ 4 ∧ i = .int .i64 k ∧ Hid (Below w6.heap.size w6 wr)) (fun i _ => 4 - (intOf i).toNat)
              case atStart => exact ⟨0, Nat.zero_le _, rfl, mkHid (Below.refl _ _)⟩
              case round =>
                obtain ⟨k, hk, rfl, HB⟩ := hrel
                have HT7 := mkHid (HT6.out.below HB.out)
                have HA7 := mkHid (HA6.out.below HB.out)
                by_cases hlt5 : k < 4
                · obtain ⟨s, hs0⟩ : ∃ s, ss[k]? = some s := ⟨_, List.getElem?_eq_getElem (by omega)⟩
                  obtain ⟨s', k1, k2, k3, k4⟩ := crashed_get lp hs0
                  have HS1 := mkHid k1
                  have HBD := mkHid (k2.trans (HGA.out s (List.mem_of_getElem? hs0)).1)
                  have HGD := mkHid (show s'.last ∈ s.good :: s.wait from by
                    have h1 : s'.last = s'.good := by unfold Sec.last; rw [k4]; rfl
                    rw [h1]; exact k3)
                  have HW0 := mkHid k4
                  have hws := (HGA.out s (List.mem_of_getElem? hs0)).2
                  obtain ⟨rk, hrk⟩ : ∃ r, R[k]? = some r := ⟨_, List.getElem?_eq_getElem (by omega)⟩
                  obtain ⟨AK, LK, CK⟩ := rk
                  have hidx : ∀ w : World, (Instr.index 37 (.agg #[r0.v, r1.v, r2.v, r3.v]) (.int .i64 (k : Int))).run Try.prog w = .ok (.slice AK LK CK) w := by
                    rw [HRR.out] at hrk
                    intro w
                    obtain rfl | rfl | rfl | rfl : k = 0 ∨ k = 1 ∨ k = 2 ∨ k = 3 := by omega
                    all_goals
                      simp at hrk
                      subst hrk
                      kernel_rfl
                  have HHS := mkHid (HH.out k s hs0)
                  have HRK := mkHid hrk
                  have hk0 : (0 : Int) ≤ (k : Int) := by omega
                  clear hs0 k1 k2 k3 k4 hrk
                  go_wp2_with fail
                  clear hidx
                  refine (read_ok F g _ k s' wr HT7.out.d HS1.out HBD.out).mono ?_
                  rintro e w8 ⟨A8, c8, rfl, ho8, hk8, _, hb8⟩
                  have HS8 := mkHid (show BS w8 w8.heap.size A8 128 s'.last from ⟨SL.of_own ho8, hk8⟩)
                  have HT8 := mkHid (HT7.out.below hb8)
                  have HA8 := mkHid (HA7.out.below hb8)
                  have HB8 := mkHid (HB.out.trans (hb8.mono HB.out.size))
                  clear ho8 hk8 hb8
                  obtain ⟨vK, hEK⟩ := HA8.out.row k _ _ HRK.out HHS.out
                  have HEK := mkHid hEK
                  have HLK := mkHid hEK.len
                  simp only at HEK HLK
                  have hLK : LK ≤ 200 := by have h1 := HLK.out; have h2 := hws; simp at h1; omega
                  clear hEK
                  go_wp2_with fail
                  obtain ⟨LS, hLS⟩ : ∃ LS, s.good :: s.wait = LS := ⟨_, rfl⟩
                  rw [hLS] at HGD HEK HLK HHS
                  clear hLS
                  go_loop [21, 146] (fun ok i => ∃ (j : Nat) (b : Bool), j ≤ LK ∧ i = .int .i64 j ∧ ok = .bool b ∧ Hid (b = (LS.take j).any fun v => decide (s'.last = v))) (fun _ i => LK - (intOf i).toNat)
                  case atStart => exact ⟨0, false, Nat.zero_le _, rfl, rfl, mkHid rfl⟩
                  case round =>
                    obtain ⟨j, b, hj, rfl, rfl, HBV⟩ := hrel
                    by_cases hlt6 : j < LK
                    · obtain ⟨l, hl⟩ : ∃ l, LS[j]? = some l := ⟨_, List.getElem?_eq_getElem (by rw [HLK.out]; exact hlt6)⟩
                      obtain ⟨rr, al, cl, rfl, hcl, hbl⟩ := HEK.out.at_ hl
                      have HBL := mkHid hbl
                      have HTK := mkHid (show (LS.take (j + 1)).any (fun v => decide (s'.last = v)) = ((LS.take j).any (fun v => decide (s'.last = v)) || decide (s'.last = l)) from by
                        obtain ⟨hj1, rfl⟩ := List.getElem?_eq_some_iff.1 hl
                        rw [List.take_succ_eq_append_getElem hj1, List.any_append]; simp only [List.any_cons, List.any_nil, Bool.or_false])
                      clear hl hbl
                      cases b
                      · go_wp2_with fail
                        refine (same_any A8 al 128 128 c8 cl _ _ _ _ w8 HS8.out HBL.out).mono ?_
                        rintro e w9 ⟨rfl, hww⟩
                        subst hww
                        go_wp2_with fail
                        go_round
                        case rel => exact ⟨j + 1, _, hlt6, by go_num, rfl, mkHid (by rw [HTK.out, ← HBV.out]; rfl)⟩
                        case measure => simp [intOf]; omega
                      · go_wp2_with fail
                        go_round
                        case rel => exact ⟨j + 1, _, hlt6, by go_num, rfl, mkHid (by rw [HTK.out, ← HBV.out]; rfl)⟩
                        case measure => simp [intOf]; omega
                    · obtain rfl : LK = j := by omega
                      have hb1 : b = true := by
                        rw [HBV.out, List.take_of_length_le (by rw [HLK.out]; exact Nat.le_refl _)]
                        exact List.any_eq_true.2 ⟨_, HGD.out, decide_eq_true rfl⟩
                      subst hb1
                      clear HBV
                      go_wp2_with fail
                      refine (wait_ok F g _ k s' w8 HT8.out.d HS1.out).mono ?_
                      rintro e w9 ⟨rfl, hww⟩
                      subst hww
                      rw [HW0.out]
                      simp only [List.length_nil]
                      go_wp2_with fail
                      go_roundw
                      case rel => exact ⟨k + 1, by omega, by go_num, HB8⟩
                      case measure => simp [intOf]; omega
                · obtain rfl : k = 4 := by omega
                  go_wp2_with fail
                  refine (pending_any F g _ wr HT7.out.d).mono ?_
                  rw [pend_crashed]
                  rintro e w8 ⟨A8, c8, rfl, _, hb8⟩
                  have HT8 := mkHid (HT7.out.below hb8)
                  clear hb8
                  go_wp2_with fail
                  refine (awake_any _).mono ?_
                  rintro e w9 ⟨rfl, hb9⟩
                  have HT9 := mkHid (HT8.out.below hb9)
                  clear hb9
                  go_wp2_with fail
                  go_ret
                  exact ⟨rfl, HT9.out.bel⟩

end Go.Proofs.Ytpponofbkkikfaa
