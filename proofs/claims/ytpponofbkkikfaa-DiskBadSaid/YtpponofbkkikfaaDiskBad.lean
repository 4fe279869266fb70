/- portagelaw03.DiskBad answers true. -/
import Derived.Test.YtpponofbkkikfaaDiskOwn
import Derived.Test.YtpponofbkkikfaaOps
import Derived.Deep.RegionHeld3
namespace Go.Proofs.Ytpponofbkkikfaa
open Go.RowKit

/-- Bytes whose own block is as it was. -/
theorem BS.at1 {w w' : World} {B B' : Nat} {a : Option Addr} {n : Nat} {l : List Int} (h : BS w B a n l) (hk : ∀ b o, a = some ⟨b, o, none⟩ → b < B → w'.heap[b]? = w.heap[b]?) (hB : B ≤ B') : BS w' B' a n l :=
  ⟨⟨h.1.1, fun j hj => by
    obtain ⟨b, o, ha, hb, hc⟩ := h.1.2 j hj
    exact ⟨b, o, ha, by omega, (World.cell?_of_block (w := w) (hk b o ha hb)).trans hc⟩⟩, h.2⟩

theorem unread_any (b : Bool) (w : World) : Calls Try.prog 21 #[.bool b] w fun e w' => e = .returned (.int .i64 (if b then 21 else 0)) ∧ w = w' := by
  cases b
  all_goals go_enter Try.func21, Try.ntmps21
  all_goals go_wp2_with fail
  all_goals go_ret
  all_goals exact ⟨rfl, rfl⟩

/-- What is kept while writes come: six sectors, only the one at k is bad, its last bytes are those in the slice (la, 128). -/
structure BW (w wr : World) (F : Nat → Prop) (g k q : Nat) (ss : List Sec) (la : Option Addr) (lv : List Int) : Prop where
  ld : LD w wr F g ss
  six : ss.length = 6
  bad : ∀ j s, ss[j]? = some s → s.bad = decide (j = k) ∧ s.wait.length ≤ q
  lst : ∃ s, ss[k]? = some s ∧ s.last = lv
  bs : BS wr wr.heap.size la 128 lv
  out : ∀ b o, la = some ⟨b, o, none⟩ → ¬ F b
theorem BW.below {w wr w1 : World} {F : Nat → Prop} {g k q : Nat} {ss : List Sec} {la : Option Addr} {lv : List Int} (h : BW w wr F g k q ss la lv) (hb : Below wr.heap.size wr w1) : BW w w1 F g k q ss la lv :=
  ⟨h.ld.below hb, h.six, h.bad, h.lst, (h.bs.below hb).more hb.size, h.out⟩
theorem BW.more {w wr : World} {F : Nat → Prop} {g k q q' : Nat} {ss : List Sec} {la : Option Addr} {lv : List Int} (h : BW w wr F g k q ss la lv) (hq : q ≤ q') : BW w wr F g k q' ss la lv :=
  ⟨h.ld, h.six, fun j s hs => ⟨(h.bad j s hs).1, Nat.le_trans (h.bad j s hs).2 hq⟩, h.lst, h.bs, h.out⟩
/-- Behind a write elsewhere the last bytes are the same. -/
theorem BW.wrote {w wr w1 : World} {F F' : Nat → Prop} {g k q i : Nat} {ss : List Sec} {la : Option Addr} {lv l : List Int} {s : Sec} (h : BW w wr F g k q ss la lv) (hs : ss[i]? = some s) (ht : Turn F wr w1) (hd : DK w1 F' g (ss.set i { s with wait := s.wait ++ [l] })) (hF : ∀ b, F' b → F b ∨ wr.heap.size ≤ b)
    {la' : Option Addr} {lv' : List Int} (hl : (i = k ∧ lv' = l) ∨ (i ≠ k ∧ lv' = lv)) (hb' : BS w1 w1.heap.size la' 128 lv') (ho' : ∀ b o, la' = some ⟨b, o, none⟩ → ¬ F' b) : BW w w1 F' g k (q + 1) (ss.set i { s with wait := s.wait ++ [l] }) la' lv' := by
  have hil := (List.getElem?_eq_some_iff.1 hs).1
  refine ⟨h.ld.turn ht hd hF, by rw [List.length_set]; exact h.six, fun j s1 hj => ?_, ?_, hb', ho'⟩
  · by_cases e : i = j
    · subst e
      rw [List.getElem?_set_self hil] at hj
      injection hj with hj
      rw [← hj]
      have := h.bad i s hs
      exact ⟨this.1, by simp; exact this.2⟩
    · rw [List.getElem?_set_ne e] at hj
      have := h.bad j s1 hj
      exact ⟨this.1, by omega⟩
  · rcases hl with ⟨e, e2⟩ | ⟨e, e2⟩
    · subst e
      exact ⟨_, List.getElem?_set_self hil, by rw [e2]; simp [Sec.last]⟩
    · obtain ⟨s1, h1, h2⟩ := h.lst
      exact ⟨s1, by rw [List.getElem?_set_ne e]; exact h1, by rw [e2]; exact h2⟩

set_option maxRecDepth 20000 in
set_option maxHeartbeats 4000000 in
theorem diskBad_any (a : Option Addr) (n c : Nat) (xs : List Op) (k : Int) (w : World) (hx : OPS w w.heap.size a n xs) (hn : n ≤ c ∧ c ≤ 140737488351232) (hk : I64 k) :
    Calls Try.prog 5 #[.slice a n c, .int .i64 k] w fun e w' => e = .returned (.bool true) ∧ Below w.heap.size w w' := by
  obtain ⟨hn1, hn2⟩ := hn
  have HN := mkHid (newDisk_any 6 w (by omega) (by omega))
  have hK := hk
  obtain ⟨k0, k1⟩ := hk
  go_enter Try.func5, Try.ntmps5
  go_wp2_with fail
  refine HN.out.mono ?_
  rintro e w1 ⟨g, F, rfl, hd, hF, hb1⟩
  have HL1 := mkHid (show LD w w1 F g (List.replicate 6 sec0) from ⟨hd, hF, hb1⟩)
  clear hd hF hb1 HN
  by_cases hbig : 100 < n
  · go_wp2_with fail
    refine (awake_any _).mono ?_
    rintro e w2 ⟨rfl, hb2⟩
    go_wp2_with fail
    go_ret
    exact ⟨rfl, (HL1.out.below hb2).bel⟩
  go_wp2_with fail
  by_cases hh : hasOf 6 k = true
  case neg =>
    have hh : hasOf 6 k = false := by simpa using hh
    have hout : k < 0 ∨ 6 ≤ k := by have := of_decide_eq_false hh; omega
    refine (bad_no F g _ k true w1 HL1.out.d hK hh).mono ?_
    rintro e w2 ⟨rfl, rfl⟩
    have HIS := mkHid (is_code 20 20 w1)
    clear hh
    rcases hout with h1 | h1
    all_goals go_wp2_with fail
    all_goals refine HIS.out.mono ?_
    all_goals rintro e w3 ⟨rfl, rfl⟩
    all_goals rw [show ((20 : Int) != 0 && (20 : Int) == 20) = true from rfl]
    all_goals go_wp2_with fail
    all_goals refine (awake_any _).mono ?_
    all_goals rintro e w2 ⟨rfl, hb2⟩
    all_goals go_wp2_with fail
    all_goals go_ret
    all_goals exact ⟨rfl, (HL1.out.below hb2).bel⟩
  obtain ⟨K, rfl, hK6⟩ := hasOf_nat hh
  have hs0 : (List.replicate 6 sec0)[K]? = some sec0 := by rw [List.getElem?_replicate, if_pos hK6]
  refine (bad_ok F g _ K sec0 true w1 HL1.out.d hs0).mono ?_
  rintro e w2 ⟨rfl, ht2, hd2⟩
  have HL2 := mkHid (HL1.out.turn ht2 hd2 fun b hb => .inl hb)
  have hs2 := HL2.out.bel.size
  clear ht2 hd2 hh HL1
  go_wp2_with (at_make; refine wpList_make128 w2 rfl rfl w.heap.size hs2 ?_; intro wm hm1 hm2; have HM1 := mkHid hm1; have HM2 := mkHid hm2; clear hm1 hm2)
  have hbw : BW w wm F g K 0 ((List.replicate 6 sec0).set K { sec0 with bad := true }) (some ⟨w2.heap.size, 0, none⟩) zeros := by
    refine ⟨HL2.out.below ((Below.refl _ _).grown HM2.out (Nat.le_refl _) (fun k hk => by cases hk)), by simp, fun j s hs => ?_, ⟨_, List.getElem?_set_self (by simp; exact hK6), rfl⟩, ⟨SL.of_own HM1.out, zeros_ok⟩, fun b o hb hf => ?_⟩
    · by_cases e : K = j
      · subst e
        rw [List.getElem?_set_self (by simp; exact hK6)] at hs
        injection hs with hs
        rw [← hs]
        exact ⟨by simp, by simp [sec0]⟩
      · rw [List.getElem?_set_ne e, List.getElem?_replicate] at hs
        split at hs
        · injection hs with hs
          rw [← hs]
          exact ⟨(decide_eq_false fun h => e h.symm).symm, by simp [sec0]⟩
        · cases hs
    · injection hb with hb
      injection hb with hb
      have := HL2.out.d.lt b hf
      omega
  have HBW := mkHid hbw
  clear HL2 HM1 HM2 hs0 hbw
  go_loopw [8, 55] (fun sl i wr => ∃ (q : Nat) (F : Nat → Prop) (ss : List Sec) (la : Option Addr) (lc : Nat) (lv : List Int), q ≤ n ∧ i = .int .i64 q ∧ sl = .slice la 128 lc ∧ (128 ≤ lc ∧ lc ≤ maxLen) ∧ BW w wr F g K q ss la lv) (fun _ i _ => n - (intOf i).toNat)
  case atStart => exact ⟨0, F, _, _, 128, _, Nat.zero_le _, rfl, rfl, ⟨by omega, by unfold maxLen; omega⟩, HBW.out⟩
  case round =>
    clear HBW
    obtain ⟨q, F, ss, la, lc, lv, hq, rfl, rfl, hlc, hbw⟩ := hrel
    have hsz := hbw.ld.bel.size
    have HBW := mkHid hbw
    clear hbw
    by_cases hlt : q < n
    · obtain ⟨b, o, x, a1, m, c1, a2, m', c2, rfl, hb, _, hI0, hI1, hI2, hca, hbs, hcb, his, d0, d1, d2, d3, d4⟩ := (hx.below HBW.out.ld.bel).at_ hlt
      obtain ⟨xk, xi, xn, xd, xp⟩ := x
      simp only at hI0 hI1 hI2 hbs his d0 d1 d2 d3 d4
      obtain ⟨i0, i1⟩ := id hI0
      obtain ⟨j0, j1⟩ := id hI1
      obtain ⟨hca1, hca2, hca3⟩ := hca
      have HBS := mkHid hbs
      have HII := mkHid hI1
      have HSX := mkHid hx
      have halloc := HBW.out.below ((Below.refl _ _).alloc (Nat.le_refl _) (.cells #[.int .i64 xk, .int .i64 xi, .int .i64 xn, .slice a1 m c1, .slice a2 m' c2] 32))
      have HAL := mkHid halloc
      clear hbs his hx halloc hI0 hI1 hI2
      by_cases hk2 : xk = 2
      case neg =>
        have hkb : (xk != 2) = true := by simpa using hk2
        go_wp2_with fail
        go_roundw
        case rel => exact ⟨q + 1, F, ss, la, lc, lv, by omega, by go_num, rfl, hlc, HAL.out.more (by omega)⟩
        case measure => simp [intOf]; omega
      subst hk2
      have hkb : ((2 : Int) != 2) = false := by simp
      by_cases hm128 : m = 128
      case neg =>
        have hmb : ((m : Int) != 128) = true := by simp; omega
        go_wp2_with fail
        go_roundw
        case rel => exact ⟨q + 1, F, ss, la, lc, lv, by omega, by go_num, rfl, hlc, HAL.out.more (by omega)⟩
        case measure => simp [intOf]; omega
      subst hm128
      have HPC := mkHid (show ∀ s : World, s.heap[wr.heap.size]? = (wr.alloc (.cells #[.int .i64 2, .int .i64 xi, .int .i64 xn, .slice a1 128 c1, .slice a2 m' c2] 32)).heap[wr.heap.size]? → s.cell? ⟨wr.heap.size, 1, none⟩ = some (.int .i64 xi) ∧ s.cell? ⟨wr.heap.size, 3, none⟩ = some (.slice a1 128 c1) from fun s hs => by
        have hs' := hs.trans (heap_alloc_new wr _)
        exact ⟨cell_of_row s _ 1 _ _ _ hs', cell_of_row s _ 3 _ _ _ hs'⟩)
      have HC0 := mkHid (HPC.out _ rfl)
      have HBA := mkHid (show ∀ W : World, W.heap = (wr.alloc (.cells #[.int .i64 2, .int .i64 xi, .int .i64 xn, .slice a1 128 c1, .slice a2 m' c2] 32)).heap → BS W W.heap.size a1 128 xd from fun W hW => (HBS.out.keep fun b' hb' => by rw [hW]; exact Below.heap_alloc _ _ _ (by omega)).more (by rw [hW]; simp; omega))
      have hdl : xd.length = 128 := HBS.out.len
      by_cases hh : hasOf 6 xi = true
      case neg =>
        have hh : hasOf 6 xi = false := by simpa using hh
        have HH := mkHid hh
        have hne : (xi == (K : Int)) = false := by
          have := of_decide_eq_false hh
          exact beq_eq_false_iff_ne.2 fun e => this ⟨by omega, by omega⟩
        clear hh
        go_wp2_with fail
        go_region_held3 (fun s => s.cell? ⟨wr.heap.size, 1, none⟩ = some (.int .i64 xi) ∧ s.cell? ⟨wr.heap.size, 3, none⟩ = some (.slice a1 128 c1)) (first | exact HC0.out | assumption) (first
          | (go_at_call 12; refine (copy_any a1 128 c1 xd _ (HBA.out _ (by rfl)) (by omega)).mono ?_; rintro e w5 ⟨CA, cc, rfl, hco, hb5⟩; rw [hdl] at hco ⊢; have hpc := HPC.out w5 (hb5.block _ (by simp [World.drew])); have HB5 := mkHid (HAL.out.below (Below.mk hb5.os hb5.tape hb5.output hb5.size hb5.block)); clear hco hb5)
          | (go_at_call 11; refine (write_no F g ss xi _ 128 _ w5 HB5.out.ld.d HII.out (by rw [HB5.out.six]; exact HH.out)).mono ?_; rintro e w6 ⟨rfl, rfl⟩))
        obtain ⟨hpc1, hpc3⟩ := hpc
        go_wp2_with fail
        go_roundw
        case rel => exact ⟨q + 1, F, ss, la, lc, lv, by omega, by go_num, rfl, hlc, HB5.out.more (by omega)⟩
        case measure => simp [intOf]; omega
      obtain ⟨j, rfl, hj6⟩ := hasOf_nat hh
      have hsj : ∃ s, ss[j]? = some s := ⟨_, List.getElem?_eq_getElem (by rw [HBW.out.six]; exact hj6)⟩
      obtain ⟨s, hsj⟩ := hsj
      have HSJ := mkHid hsj
      clear hh hsj
      go_wp2_with fail
      go_region_held3 (fun s => s.cell? ⟨wr.heap.size, 1, none⟩ = some (.int .i64 (j : Int)) ∧ s.cell? ⟨wr.heap.size, 3, none⟩ = some (.slice a1 128 c1)) (first | exact HC0.out | assumption) (first
        | (go_at_call 12; refine (copy_any a1 128 c1 xd _ (HBA.out _ (by rfl)) (by omega)).mono ?_; rintro e w5 ⟨CA, cc, rfl, hco, hb5⟩; rw [hdl] at hco ⊢; have hpc := HPC.out w5 (hb5.block _ (by simp [World.drew])); have HCO := mkHid (show BS w5 w5.heap.size CA 128 xd from ⟨SL.of_own hco, HBS.out.2⟩); have HB5 := mkHid (HAL.out.below (Below.mk hb5.os hb5.tape hb5.output hb5.size hb5.block)); have HK5 := mkHid (show w5.heap[wr.heap.size]? = (wr.alloc (.cells #[.int .i64 2, .int .i64 (j : Int), .int .i64 xn, .slice a1 128 c1, .slice a2 m' c2] 32)).heap[wr.heap.size]? from hb5.block _ (by simp [World.drew])); have hs5 : wr.heap.size + 1 ≤ w5.heap.size := (by have := hb5.size; simpa [World.drew] using this); clear hco hb5)
        | (go_at_call 11; refine (write_ok F g ss j s CA cc xd w5 HB5.out.ld.d HSJ.out HCO.out (by have := (HB5.out.bad j s HSJ.out).2; omega)).mono ?_; rintro e w6 ⟨rfl, ht6, F6, hd6, hF6⟩; have hpc6 := HPC.out w6 ((ht6.block _ (by omega) (fun hf => by have := HBW.out.ld.d.lt _ hf; omega)).trans HK5.out); have HT6 := mkHid ht6; have HD6 := mkHid hd6; have HF6 := mkHid hF6; clear ht6 hd6 hF6))
      rename_i hheld
      clear hheld
      have HLD := mkHid (HB5.out.ld.turn HT6.out HD6.out HF6.out)
      obtain ⟨hpc1, hpc3⟩ := hpc
      obtain ⟨hpd1, hpd3⟩ := hpc6
      by_cases hjk : j = K
      · have HJK := mkHid hjk
        have hjb : ((j : Int) == (K : Int)) = true := by rw [hjk]; simp
        have hbs6 : BS w6 w6.heap.size a1 128 xd := (HBS.out.keep fun b' hb' => (HLD.out.bel.block b' hb').trans (HBW.out.ld.bel.block b' hb').symm).more HLD.out.bel.size
        have hout : ∀ b o, a1 = some ⟨b, o, none⟩ → ¬ F6 b := fun b' o' e hf => by
          obtain ⟨b2, o2, e2, hb2, _⟩ := HBS.out.at_ (j := 0) (by omega)
          rw [e] at e2
          injection e2 with e2
          injection e2 with e2
          have := HLD.out.lo b' hf
          omega
        have HNEW := mkHid (HB5.out.wrote HSJ.out HT6.out HD6.out HF6.out (.inl ⟨hjk, rfl⟩) hbs6 hout)
        clear hbs6 hout hjk
        go_wp2_with fail
        go_roundw
        case rel => exact ⟨q + 1, F6, _, a1, c1, xd, by omega, by go_num, rfl, ⟨by omega, by omega⟩, HNEW.out⟩
        case measure => simp [intOf]; omega
      · have HJK := mkHid hjk
        have hjb : ((j : Int) == (K : Int)) = false := beq_eq_false_iff_ne.2 (by omega)
        have hblk : ∀ b o, la = some ⟨b, o, none⟩ → b < w5.heap.size := fun b' o' e => by
          obtain ⟨b2, o2, e2, hb2, _⟩ := HB5.out.bs.at_ (j := 0) (by omega)
          rw [e] at e2
          injection e2 with e2
          injection e2 with e2
          omega
        have hbs6 : BS w6 w6.heap.size la 128 lv := HB5.out.bs.at1 (fun b' o' e hb' => HT6.out.block b' hb' (HB5.out.out b' o' e)) HT6.out.size
        have hout : ∀ b o, la = some ⟨b, o, none⟩ → ¬ F6 b := fun b' o' e hf => by
          rcases HF6.out b' hf with h | h
          · exact HB5.out.out b' o' e h
          · have := hblk b' o' e
            omega
        have HNEW := mkHid (HB5.out.wrote HSJ.out HT6.out HD6.out HF6.out (.inr ⟨hjk, rfl⟩) hbs6 hout)
        clear hbs6 hout hjk hblk
        go_wp2_with fail
        go_roundw
        case rel => exact ⟨q + 1, F6, _, la, lc, lv, by omega, by go_num, rfl, hlc, HNEW.out⟩
        case measure => simp [intOf]; omega
    · obtain rfl : q = n := by omega
      clear hx
      obtain ⟨wP, rfl⟩ : ∃ x, x = wr := ⟨wr, rfl⟩
      go_wp2_with fail
      go_loopw [84] (fun i wr => ∃ p : Nat, p ≤ 6 ∧ i = .int .i64 p ∧ BW w wr F g K q ss la lv) (fun i _ => 6 - (intOf i).toNat)
      case atStart => exact ⟨0, Nat.zero_le _, rfl, HBW.out⟩
      case round =>
        clear HBW
        obtain ⟨p, hp, rfl, hbw⟩ := hrel
        have HBW := mkHid hbw
        clear hbw
        by_cases hlt2 : p < 6
        · obtain ⟨s, hs⟩ : ∃ s, ss[p]? = some s := ⟨_, List.getElem?_eq_getElem (by rw [HBW.out.six]; exact hlt2)⟩
          have hbad := (HBW.out.bad p s hs).1
          by_cases hpk : p = K
          · have hpb : ((p : Int) == (K : Int)) = true := by rw [hpk]; simp
            have HR := mkHid (read_bad F g ss p s wr HBW.out.ld.d hs (by rw [hbad]; exact decide_eq_true hpk))
            clear hs hbad hpk
            go_wp2_with fail
            refine HR.out.mono ?_
            rintro e w3 ⟨rfl, rfl⟩
            go_wp2_with fail
            refine (unread_any true _).mono ?_
            rintro e w3 ⟨rfl, rfl⟩
            rw [if_pos rfl]
            go_wp2_with fail
            refine (is_code 21 21 _).mono ?_
            rintro e w3 ⟨rfl, rfl⟩
            rw [show ((21 : Int) != 0 && (21 : Int) == 21) = true from rfl]
            go_wp2_with fail
            go_roundw
            case rel => exact ⟨p + 1, by omega, by go_num, HBW.out⟩
            case measure => simp [intOf]; omega
          · have hpb : ((p : Int) == (K : Int)) = false := beq_eq_false_iff_ne.2 (by omega)
            have HR := mkHid (read_ok F g ss p s wr HBW.out.ld.d hs (by rw [hbad]; exact decide_eq_false hpk))
            clear hs hbad hpk
            go_wp2_with fail
            refine HR.out.mono ?_
            rintro e w3 ⟨A3, c3, rfl, _, _, _, hb3⟩
            have HB3 := mkHid (HBW.out.below hb3)
            clear hb3
            go_wp2_with fail
            refine (unread_any false _).mono ?_
            rintro e w4 ⟨rfl, rfl⟩
            rw [if_neg (by simp)]
            go_wp2_with fail
            refine (is_nil 0 _).mono ?_
            rintro e w4 ⟨rfl, rfl⟩
            rw [show ((0 : Int) == 0) = true from rfl]
            go_wp2_with fail
            go_roundw
            case rel => exact ⟨p + 1, by omega, by go_num, HB3.out⟩
            case measure => simp [intOf]; omega
        · obtain rfl : p = 6 := by omega
          obtain ⟨s, hs, hlast⟩ := HBW.out.lst
          have HS := mkHid hs
          have HLS := mkHid hlast
          clear hs hlast
          go_wp2_with fail
          refine (bad_ok F g ss K s false wr HBW.out.ld.d HS.out).mono ?_
          rintro e w3 ⟨rfl, ht3, hd3⟩
          have HL3 := mkHid (HBW.out.ld.turn ht3 hd3 fun b hb => .inl hb)
          have HB3 := mkHid (HBW.out.bs.at1 (w' := w3) (B' := w3.heap.size) (fun b' o' e hb' => ht3.block b' hb' (HBW.out.out b' o' e)) ht3.size)
          have HS3 := mkHid (show (ss.set K { s with bad := false })[K]? = some { s with bad := false } from List.getElem?_set_self (by rw [HBW.out.six]; exact hK6))
          clear ht3 hd3
          go_wp2_with fail
          refine (read_ok F g _ K _ w3 HL3.out.d HS3.out rfl).mono ?_
          rintro e w4 ⟨A4, c4, rfl, ho4, hk4, _, hb4⟩
          rw [show Sec.last { s with bad := false } = lv from HLS.out] at ho4 hk4
          have HO4 := mkHid ho4
          have HK4 := mkHid hk4
          have HL4 := mkHid (HL3.out.below hb4)
          have HB4 := mkHid ((HB3.out.below hb4).more hb4.size)
          clear ho4 hk4 hb4
          go_wp2_with fail
          refine (same_any A4 la 128 128 c4 lc _ _ lv lv w4 ⟨SL.of_own HO4.out, HK4.out⟩ HB4.out).mono ?_
          rintro e w5 ⟨rfl, rfl⟩
          rw [show decide (lv = lv) = true from decide_eq_true rfl]
          go_wp2_with fail
          refine (awake_any _).mono ?_
          rintro e w6 ⟨rfl, hb6⟩
          go_wp2_with fail
          go_ret
          exact ⟨rfl, (HL4.out.below hb6).bel⟩

end Go.Proofs.Ytpponofbkkikfaa
