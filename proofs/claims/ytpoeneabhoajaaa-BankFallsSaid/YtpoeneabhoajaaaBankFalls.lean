/- portagelaw04.BankFalls answers true. -/
import Derived.Test.YtpoeneabhoajaaaBkJ
import Derived.Test.YtpoeneabhoajaaaFtF4
import Derived.Test.YtpoeneabhoajaaaOpsB
import Derived.Deep.CutBlock
namespace Go.Proofs.Ytpoeneabhoajaaa
open Go.RowKit

/-- A bank behind w beside the law's own table of what was written. -/
structure OF (w wr : World) (F : Nat → Prop) (g ob : Nat) (s : Bst) (HL : Nat → Nat → List Int) : Prop where
  b : BO wr F g s
  lo : ∀ x, F x → w.heap.size ≤ x
  bel : Below w.heap.size w wr
  out : ¬ F ob
  ol : w.heap.size ≤ ob
  arr : ∃ cs : List Value, wr.heap[ob]? = some (.cells cs.toArray 41 (0, 0)) ∧ cs.length = 12 ∧ ∀ i k : Nat, i < 3 → k < 4 → ∃ v, cs[i * 4 + k]? = some v ∧ ((v = .slice none 0 0 ∧ HL i k = zeros) ∨ ∃ (ad : Addr) (c : Nat), v = .slice (some ad) 128 c ∧ BS w w.heap.size (some ad) 128 (HL i k))
section
variable {w wr w1 : World} {F F' : Nat → Prop} {g ob : Nat} {s s' : Bst} {HL : Nat → Nat → List Int}
theorem OF.olt (h : OF w wr F g ob s HL) : ob < wr.heap.size := by
  obtain ⟨cs, h1, _⟩ := h.arr
  exact (Array.getElem?_eq_some_iff.1 h1).1
theorem OF.below (h : OF w wr F g ob s HL) (hb : Below wr.heap.size wr w1) : OF w w1 F g ob s HL :=
  ⟨h.b.below hb, h.lo, h.bel.trans (hb.mono h.bel.size), h.out, h.ol, by
    obtain ⟨cs, h1, h2⟩ := h.arr
    exact ⟨cs, (hb.block ob h.olt).trans h1, h2⟩⟩
theorem OF.step (h : OF w wr F g ob s HL) (ht : Turn F wr w1) (hd : BO w1 F' g s') (hF : ∀ x, F' x → F x ∨ wr.heap.size ≤ x) : OF w w1 F' g ob s' HL :=
  ⟨hd, fun x hx => (hF x hx).elim (h.lo x) fun e => Nat.le_trans h.bel.size e, h.bel.trans (ht.below h.lo h.bel.size), fun hf => (hF ob hf).elim h.out fun e => by have := h.olt; omega, h.ol, by
    obtain ⟨cs, h1, h2⟩ := h.arr
    exact ⟨cs, (ht.block ob h.olt h.out).trans h1, h2⟩⟩
theorem OF.set (h : OF w wr F g ob s HL) {i k : Nat} (hi : i < 3) (hk : k < 4) {ad : Addr} {c : Nat} {l : List Int} (hl : BS w w.heap.size (some ad) 128 l) : OF w (wr.setCell ⟨ob, i * 4 + k, none⟩ (.slice (some ad) 128 c)) F g ob s (upd HL i k l) := by
  have hk' : ∀ b, b ≠ ob → (wr.setCell ⟨ob, i * 4 + k, none⟩ (.slice (some ad) 128 c)).heap[b]? = wr.heap[b]? := fun b hb => heap_setCell_other _ _ _ _ hb
  refine ⟨h.b.keep (by simp [World.setCell]) fun b hb => hk' b fun e => h.out (e ▸ hb), h.lo, h.bel.setCell (p := ⟨ob, i * 4 + k, none⟩) h.ol _, h.out, h.ol, ?_⟩
  obtain ⟨cs, h1, h2, h3⟩ := h.arr
  refine ⟨cs.set (i * 4 + k) (.slice (some ad) 128 c), by rw [heap_setCell_same _ _ _ _ _ _ h1, List.setIfInBounds_toArray], by rw [List.length_set]; exact h2, fun a b ha hb => ?_⟩
  by_cases hab : a = i ∧ b = k
  · obtain ⟨rfl, rfl⟩ := hab
    exact ⟨_, List.getElem?_set_self (by omega), .inr ⟨ad, c, rfl, by unfold upd; rw [if_pos ⟨rfl, rfl⟩]; exact hl⟩⟩
  · obtain ⟨v, k1, k2⟩ := h3 a b ha hb
    refine ⟨v, by rw [List.getElem?_set_ne (fun e => hab (by omega))]; exact k1, ?_⟩
    unfold upd
    rw [if_neg hab]
    exact k2
/-- A cell of the table. -/
theorem OF.cell (h : OF w wr F g ob s HL) {j : Nat} (hj : j < 12) : (∃ v, wr.cell? ⟨ob, j, none⟩ = some v) ∧ wr.frozen? ⟨ob, j, none⟩ = false := by
  obtain ⟨cs, h1, h2, _⟩ := h.arr
  exact ⟨⟨_, (cell_of_row _ _ _ _ _ _ h1).trans (by rw [List.getElem?_toArray]; exact List.getElem?_eq_getElem (by omega))⟩, frozen_of_row _ _ _ _ _ h1⟩
end

set_option maxRecDepth 20000 in
set_option maxHeartbeats 8000000 in
theorem bankFalls_any (N : Int) (a : Option Addr) (n c : Nat) (xs : List Op) (w : World) (hN : I64 N) (hx : OPS w w.heap.size a n xs) (hn : n ≤ c ∧ c ≤ 140737488351232) :
    Calls Try.prog 4 #[.int .i64 N, .slice a n c] w fun e w' => e = .returned (.bool true) ∧ Below w.heap.size w w' := by
  obtain ⟨hn1, hn2⟩ := hn
  have HAW := mkHid (fun W => awake_any W)
  have HNI := mkHid hN
  obtain ⟨hN0, hN1⟩ := hN
  have HX := mkHid hx
  clear hx
  go_enter Try.func4, Try.ntmps4
  go_wp2_with fail
  refine (newBank_any w).mono ?_
  rintro e w1 ⟨g, F, rfl, hb, hF, hb1⟩
  have HB := mkHid (show BO w1 F g (bstK 0) from hb)
  have HF := mkHid hF
  have HB1 := mkHid hb1
  clear hb hF hb1
  by_cases hneg : N < 0
  · go_wp2_with fail
    refine (HAW.out _).mono ?_
    rintro e w3 ⟨rfl, hb3⟩
    have HB3 := mkHid (HB1.out.trans (hb3.mono HB1.out.size))
    clear hb3
    go_wp2_with fail
    go_ret
    exact ⟨rfl, HB3.out⟩
  by_cases hbig : 100 < N
  · go_wp2_with fail
    refine (HAW.out _).mono ?_
    rintro e w3 ⟨rfl, hb3⟩
    have HB3 := mkHid (HB1.out.trans (hb3.mono HB1.out.size))
    clear hb3
    go_wp2_with fail
    go_ret
    exact ⟨rfl, HB3.out⟩
  by_cases hlong : 150 < n
  · go_wp2_with fail
    refine (HAW.out _).mono ?_
    rintro e w3 ⟨rfl, hb3⟩
    have HB3 := mkHid (HB1.out.trans (hb3.mono HB1.out.size))
    clear hb3
    go_wp2_with fail
    go_ret
    exact ⟨rfl, HB3.out⟩
  have hN2 : 0 ≤ N := by omega
  have hN3 : N ≤ 100 := by omega
  clear hneg hbig hN0 hN1
  go_wp2_with fail
  go_loopw [40] (fun i wr => ∃ (q : Nat) (F : Nat → Prop), q ≤ 3 ∧ i = .int .i64 q ∧ Hid (BO wr F g (bstK q)) ∧ Hid (∀ b, F b → w.heap.size ≤ b) ∧ Hid (Below w.heap.size w wr)) (fun i _ => 3 - (intOf i).toNat)
  case atStart => exact ⟨0, F, Nat.zero_le _, rfl, HB, HF, HB1⟩
  case round =>
    clear HB HF HB1
    obtain ⟨q, F, hq, rfl, HB, HF, HB1⟩ := hrel
    by_cases hlt : q < 3
    · have HAD := mkHid (bstK_add q (by omega))
      go_wp2_with fail
      refine (add_any F g (bstK q) 4 wr HB.out (by unfold I64; omega)).mono ?_
      rintro e w3 ⟨i, v, rfl, _, _, hv, ht3, F3, hb3, hF3⟩
      rw [HAD.out.2] at hb3
      rw [HAD.out.1] at hv
      obtain rfl : v = .nilIface := hv.1 rfl
      have HB3 := mkHid hb3
      have HF3 := mkHid (show ∀ b, F3 b → w.heap.size ≤ b from fun b hb => (hF3 b hb).elim (HF.out b) fun e => Nat.le_trans HB1.out.size e)
      have HBW := mkHid (HB1.out.trans (ht3.below HF.out HB1.out.size))
      clear hv ht3 hb3 hF3
      go_wp2_with fail
      go_roundw
      case rel => exact ⟨q + 1, F3, by omega, by go_num, HB3, HF3, HBW⟩
      case measure => simp [intOf]; omega
    · obtain rfl : q = 3 := by omega
      rw [show ((3 : Nat) : Int) = 3 from rfl]
      go_wp2_with fail
      refine (arm_any F g (bstK 3) N wr HB.out HNI.out).mono ?_
      rintro e w3 ⟨rfl, ht3, hb3⟩
      have HFL := mkHid (FL.start hN2)
      have HB3 := mkHid (show BO w3 F g { bstK 3 with armed := decide (0 ≤ N), left := N } from hb3)
      have HBW := mkHid (HB1.out.trans (ht3.below HF.out HB1.out.size))
      clear ht3 hb3 HB HB1
      generalize ({ bstK 3 with armed := decide (0 ≤ N), left := N } : Bst) = S0 at *
      go_wp2_with fail
      have hz12 : (w3.alloc (.cells #[.slice none 0 0, .slice none 0 0, .slice none 0 0, .slice none 0 0, .slice none 0 0, .slice none 0 0, .slice none 0 0, .slice none 0 0, .slice none 0 0, .slice none 0 0, .slice none 0 0, .slice none 0 0] 41)).heap[w3.heap.size]? = some (.cells (List.replicate 12 (Value.slice none 0 0)).toArray 41 (0, 0)) := heap_alloc_new w3 _
      have HLT := mkHid HB3.out.lt
      have HOF := mkHid (show OF w (w3.alloc (.cells #[.slice none 0 0, .slice none 0 0, .slice none 0 0, .slice none 0 0, .slice none 0 0, .slice none 0 0, .slice none 0 0, .slice none 0 0, .slice none 0 0, .slice none 0 0, .slice none 0 0, .slice none 0 0] 41)) F g w3.heap.size S0 (fun _ _ => zeros) from
        ⟨HB3.out.below ((Below.refl _ _).alloc (Nat.le_refl _) _), HF.out, HBW.out.alloc HBW.out.size _, fun hf => by have := HLT.out _ hf; omega, HBW.out.size, _, hz12, by simp, fun i k hi hk => ⟨.slice none 0 0, by rw [List.getElem?_replicate, if_pos (by omega)], .inl ⟨rfl, rfl⟩⟩⟩)
      clear HB3 HBW HF hz12 HLT
      go_loopw [55, 9] (fun i dn wr => ∃ (q : Nat) (F : Nat → Prop) (d : Int) (s : Bst) (HL : Nat → Nat → List Int), q ≤ n ∧ i = .int .i64 q ∧ dn = .int .i64 d ∧ 0 ≤ d ∧ d ≤ q ∧ Hid (OF w wr F g w3.heap.size s HL) ∧ Hid (FL N q d s HL)) (fun i _ _ => n - (intOf i).toNat)
      case atStart => exact ⟨0, F, 0, S0, _, Nat.zero_le _, rfl, rfl, Int.le_refl _, Int.le_refl _, HOF, HFL⟩
      case round =>
        clear HOF HFL
        obtain ⟨q, F, d, s, HL, hq, rfl, rfl, hd0, hd1, HOF, HFL⟩ := hrel
        by_cases hlt : q < n
        · obtain ⟨b, o, x, a1, m, c1, a2, m', c2, rfl, hb, _, hI0, hI1, hI2, hI3, hca, hbs, hcb, his, e0, e1, e2, e3, e4, e5⟩ := (HX.out.below HOF.out.bel).at_ hlt
          have HXB := mkHid (show BS w w.heap.size a1 m x.data from hbs.keep fun b hb => (HOF.out.bel.block b hb).symm)
          obtain ⟨xk, xi, xs, xn, xd, xl, rfl⟩ : ∃ xk xi xs xn xd xl, x = ⟨xk, xi, xs, xn, xd, xl⟩ := ⟨_, _, _, _, _, _, rfl⟩
          simp only at e0 e1 e2 e3 e4 e5 hI1 hI2 HXB
          have HI1 := mkHid hI1
          have HI2 := mkHid hI2
          obtain ⟨wA, hwA⟩ : ∃ wA, wr.alloc (.cells #[.int .i64 xk, .int .i64 xi, .int .i64 xs, .int .i64 xn, .slice a1 m c1, .slice a2 m' c2] 34) = wA := ⟨_, rfl⟩
          have HAL := mkHid (show OF w wA F g w3.heap.size s HL by rw [← hwA]; exact HOF.out.below ((Below.refl _ _).alloc (Nat.le_refl _) _))
          have hsA : wr.heap.size < wA.heap.size := by rw [← hwA]; simp
          have hbl : wA.heap[wr.heap.size]? = some (.cells #[.int .i64 xk, .int .i64 xi, .int .i64 xs, .int .i64 xn, .slice a1 m c1, .slice a2 m' c2] 34 (0, 0)) := by rw [← hwA]; exact heap_alloc_new _ _
          have HPC := mkHid (show ∀ Z : World, Z.heap[wr.heap.size]? = wA.heap[wr.heap.size]? → Z.cell? ⟨wr.heap.size, 1, none⟩ = some (.int .i64 xi) ∧ Z.cell? ⟨wr.heap.size, 2, none⟩ = some (.int .i64 xs) ∧ Z.cell? ⟨wr.heap.size, 4, none⟩ = some (.slice a1 m c1) from fun Z hZ => ⟨cell_of_row Z _ 1 _ _ _ (hZ.trans hbl), cell_of_row Z _ 2 _ _ _ (hZ.trans hbl), cell_of_row Z _ 4 _ _ _ (hZ.trans hbl)⟩)
          obtain ⟨z1, z2, z4⟩ := HPC.out wA rfl
          have HF1 := mkHid HOF.out.b.lt
          have HOL := mkHid HOF.out.olt
          have HDL := mkHid (show xd.length = m from HXB.out.len)
          have HFM := mkHid HFL.out.more
          clear hbs his hI0 hI1 hI2 hI3 hbl hca hcb
          obtain ⟨wP, rfl⟩ : ∃ x : World, x = wr := ⟨wr, rfl⟩
          by_cases g1 : xi < 0
          · go_wp2_with fail
            go_roundw
            case rel => exact ⟨q + 1, F, d, s, HL, by omega, by go_num, rfl, hd0, by omega, HAL, HFM⟩
            case measure => simp [intOf]; omega
          by_cases g2 : 2 < xi
          · go_wp2_with fail
            go_roundw
            case rel => exact ⟨q + 1, F, d, s, HL, by omega, by go_num, rfl, hd0, by omega, HAL, HFM⟩
            case measure => simp [intOf]; omega
          by_cases g3 : xs < 0
          · go_wp2_with fail
            go_roundw
            case rel => exact ⟨q + 1, F, d, s, HL, by omega, by go_num, rfl, hd0, by omega, HAL, HFM⟩
            case measure => simp [intOf]; omega
          by_cases g4 : 3 < xs
          · go_wp2_with fail
            go_roundw
            case rel => exact ⟨q + 1, F, d, s, HL, by omega, by go_num, rfl, hd0, by omega, HAL, HFM⟩
            case measure => simp [intOf]; omega
          by_cases g5 : m = 128
          case neg =>
            have g5b : ((m : Int) != 128) = true := by simp; omega
            go_wp2_with fail
            go_roundw
            case rel => exact ⟨q + 1, F, d, s, HL, by omega, by go_num, rfl, hd0, by omega, HAL, HFM⟩
            case measure => simp [intOf]; omega
          subst g5
          obtain ⟨i, rfl⟩ := Int.eq_ofNat_of_zero_le (show 0 ≤ xi by omega)
          obtain ⟨k, rfl⟩ := Int.eq_ofNat_of_zero_le (show 0 ≤ xs by omega)
          obtain ⟨b1, o1, rfl, _⟩ := HXB.out.at_ (j := 0) (by omega)
          have hi3 : i < 3 := by omega
          have hk4 : k < 4 := by omega
          have HXA := mkHid (show ∀ Z : World, Z.heap = wA.heap → BS Z Z.heap.size (some ⟨b1, o1, none⟩) 128 xd from fun Z hZ => by
            have h1 := (HXB.out.below HAL.out.bel).more HAL.out.bel.size
            rw [hZ]
            exact h1.keep fun b _ => by rw [hZ])
          have HDN := mkHid (show 0 ≤ s.done ∧ s.done ≤ 1000000000 from by rw [HFL.out.dn]; omega)
          have HFW := mkHid (show s.few 999999 from few_more HFL.out.few (by omega))
          clear g1 g2 g3 g4
          go_wp2_with fail
          clear hwA e0 e1 e2 e3 e4 e5
          go_region_held3 (fun s => s.cell? ⟨wP.heap.size, 1, none⟩ = some (.int .i64 (i : Int)) ∧ s.cell? ⟨wP.heap.size, 2, none⟩ = some (.int .i64 (k : Int)) ∧ s.cell? ⟨wP.heap.size, 4, none⟩ = some (.slice (some ⟨b1, o1, none⟩) 128 c1)) (first | assumption | exact ⟨z1, z2, z4⟩) (first
            | (go_at_call 10; (with_reducible refine (bwrite_any F g s i k CB 128 cb xd w5 HT5.out.b HI1.out HI2.out HCB.out HO1.out HDN.out HFW.out).mono ?_); rintro e w6 ⟨v, rfl, hv, ht6, F3, hb6, hF6⟩; have hk6 : w6.heap[wP.heap.size]? = wA.heap[wP.heap.size]? := (ht6.block _ (by omega) (fun hf => by have := HF1.out _ hf; omega)).trans HK5.out; have hpc6 := HPC.out w6 hk6; have HK6 := mkHid hk6; have HV := mkHid hv; have HT6 := mkHid (HT5.out.step ht6 hb6 hF6); clear hv ht6 hb6 hF6 hk6)
            | (go_at_call 11; refine (copy_any (some ⟨b1, o1, none⟩) 128 c1 xd _ (HXA.out _ (by rfl)) (by omega)).mono ?_; rintro e w5 ⟨CB, cb, rfl, hco, hb5⟩; rw [HDL.out] at hco ⊢; have hk5 : w5.heap[wP.heap.size]? = wA.heap[wP.heap.size]? := hb5.block _ (show wP.heap.size < wA.heap.size by omega); have hpc5 := HPC.out w5 hk5; have hs5 : wA.heap.size ≤ w5.heap.size := hb5.size; have HK5 := mkHid hk5; have HT5 := mkHid (HAL.out.below (Below.mk hb5.os hb5.tape hb5.output hb5.size hb5.block)); have HCB := mkHid (show BS w5 w5.heap.size CB 128 xd from ⟨SL.of_own hco, HXB.out.2⟩); have HO1 := mkHid (show 0 < 128 → ∀ ad : Addr, CB = some ad → ¬ F ad.block from fun _ => own_out (base := wA.heap.size) hco fun b hb => by have := HF1.out b hb; omega); clear hco hb5 hk5))
          rename_i hheld
          clear hheld hpc5 z1 z2 z4
          by_cases hd : d < N
          · obtain ⟨f1, f2, f3⟩ := HFL.out.write hi3 hk4 HDL.out hd
            have hv := HV.out
            rw [f1] at hv
            obtain rfl : v = .nilIface := hv.1 rfl
            have HDW := mkHid (down_any F3 g (s.wrote i k xd) w6 HT6.out.b)
            rw [f2] at HDW
            have HFN := mkHid f3
            clear hv f1 f2 f3
            go_wp2_with fail
            refine HDW.out.mono ?_
            rintro e w7 ⟨rfl, rfl⟩
            obtain ⟨z1, z2, z4⟩ := hpc6
            obtain ⟨⟨v0, hv0⟩, hf0⟩ := HT6.out.cell (j := i * 4 + k) (by omega)
            have HKZ := mkHid (show ∀ Z : World, (∀ b, b ≠ w3.heap.size → Z.heap[b]? = w6.heap[b]?) → Z.cell? ⟨wP.heap.size, 1, none⟩ = some (.int .i64 (i : Int)) ∧ Z.cell? ⟨wP.heap.size, 2, none⟩ = some (.int .i64 (k : Int)) ∧ Z.cell? ⟨wP.heap.size, 4, none⟩ = some (.slice (some ⟨b1, o1, none⟩) 128 c1) from fun Z hZ => HPC.out Z ((hZ _ (by have := HOL.out; omega)).trans HK6.out))
            have hi0 : (0 : Int) ≤ (i : Int) := by omega
            have hi1 : (i : Int) < 3 := by omega
            have hk0 : (0 : Int) ≤ (k : Int) := by omega
            have hk1 : (k : Int) < 4 := by omega
            go_wp2_with fail
            go_region_held3 (fun s => s.cell? ⟨wP.heap.size, 1, none⟩ = some (.int .i64 (i : Int)) ∧ s.cell? ⟨wP.heap.size, 2, none⟩ = some (.int .i64 (k : Int)) ∧ s.cell? ⟨wP.heap.size, 4, none⟩ = some (.slice (some ⟨b1, o1, none⟩) 128 c1)) (first | assumption | exact ⟨z1, z2, z4⟩ | exact HKZ.out _ (fun _ _ => rfl) | exact HKZ.out _ (fun b hb => heap_setCell_other _ _ _ _ hb)) (fail)
            go_wp2_with fail
            go_roundw
            case rel => exact ⟨q + 1, F3, d + 1, _, _, by omega, by go_num, rfl, by omega, by omega, mkHid ((HT6.out.set hi3 hk4 HXB.out).below (Below.refl _ _).drew), HFN⟩
            case measure => simp [intOf]; omega
          · obtain ⟨f1, f2, f3⟩ := HFL.out.fall hi3 hk4 HDL.out (by omega)
            have hv := HV.out
            rw [f1] at hv
            have hch := hv.2 (by omega)
            obtain ⟨gg, u, rfl, hch1, hch2, hch3⟩ := hch
            have HCH := mkHid (show Ch w6 w6.heap.size [⟨opWrite, (i : Int), (k : Int)⟩] (some 22) (faultV gg) from ⟨gg, u, rfl, hch1, hch2, hch3⟩)
            have HDW := mkHid (down_any F3 g (s.wrote i k xd) w6 HT6.out.b)
            rw [f2] at HDW
            have HFN := mkHid f3
            clear hv f1 f2 f3 hch1 hch2 hch3 hpc6
            go_wp2_with fail
            refine HDW.out.mono ?_
            rintro e w7 ⟨rfl, rfl⟩
            go_wp2_with fail
            refine (Is_any _ _ _ _ _ 22 w6 HCH.out).mono ?_
            rintro e w7 ⟨rfl, rfl⟩
            rw [show ((some (22 : Int)) == some 22) = true from rfl]
            go_wp2_with fail
            go_roundw
            case rel => exact ⟨q + 1, F3, d, _, _, by omega, by go_num, rfl, hd0, by omega, HT6, HFN⟩
            case measure => simp [intOf]; omega
        · obtain rfl : q = n := by omega
          have HDO := mkHid (done_any F g s wr HOF.out.b)
          rw [HFL.out.dn] at HDO
          have hne : (d != d) = false := by simp
          obtain ⟨wB, rfl⟩ : ∃ x : World, x = wr := ⟨wr, rfl⟩
          go_wp2_with fail
          refine HDO.out.mono ?_
          rintro e w4 ⟨rfl, rfl⟩
          go_wp2_with fail
          go_loopw [127, 13] (fun i out wr => ∃ (t : Nat) (O : Option Addr) (C : Nat), t ≤ 12 ∧ i = .int .i64 t ∧ out = .slice O t C ∧ Hid (wr.ownsRow wB.heap.size 3 1 (.slice O t C) t ((List.replicate t (1000 : Int)).map i64v)) ∧ Hid (Below wB.heap.size wB wr)) (fun i _ _ => 12 - (intOf i).toNat)
          case atStart => exact ⟨0, none, 0, Nat.zero_le _, rfl, rfl, mkHid (World.ownsRow_nil _ _ _ _), mkHid (Below.refl _ _)⟩
          case round =>
            obtain ⟨t, O, C, ht, rfl, rfl, HO, HBW⟩ := hrel
            have hsz := HBW.out.size
            by_cases hlt2 : t < 12
            · go_wp2_with (at_builtin; refine wpList_app _ rfl (.tmp 129) (.tmp 130) _ rfl wB.heap.size el_int O t C _ rfl (HO.out.alloc _) (wr.heap.size + 1) (some ⟨wr.heap.size, 0, none⟩) 1 1 [i64v 1000] rfl (SL.one _ _) (fun u hu => by obtain rfl := List.mem_singleton.1 hu; rfl) (by unfold maxLen; omega) (by omega) (by simp; omega) ?_; intro O' C' w5 ho5 hg5 hat5; have HO5 := mkHid ho5; have HG5 := mkHid hg5; clear ho5 hg5 hat5)
              go_roundw
              case rel => exact ⟨t + 1, O', C', by omega, by go_num, rfl, mkHid (by rw [List.replicate_succ', List.map_append]; exact HO5.out), mkHid ((HBW.out.alloc hsz _).grown HG5.out (by simp; omega) (own_base HO.out))⟩
              case measure => simp [intOf]; omega
            · obtain rfl : t = 12 := by omega
              rw [show ((12 : Nat) : Int) = 12 from rfl]
              have HOB := mkHid (HOF.out.below HBW.out)
              have hcap := own_cap HO.out
              have hcm : C ≤ 9223372036854775807 := by have := hcap.2; unfold maxLen at this; omega
              have HLB := mkHid HOF.out.b.lt
              go_wp2_with fail
              refine (bcrash_any F g s O 12 C (List.replicate 12 1000) wr HOB.out.b ⟨SL.of_own HO.out, fun x hx => by rw [List.eq_of_mem_replicate hx]; unfold I64; omega⟩ (PK.of_own HO.out fun b hb => HLB.out b hb) ⟨hcap.1, hcm⟩).mono ?_
              rintro e w5 ⟨rfl, ht5, F5, hb5, hF5⟩
              have HOC := mkHid (HOB.out.step ht5 hb5 hF5)
              have HFC := mkHid (fun (i k : Nat) (hi : i < 3) (hk : k < 4) => HFL.out.crash (by omega) hi hk)
              have HDNF := mkHid (show (s.crashedB (List.replicate 12 1000)).down = false from rfl)
              clear ht5 hb5 hF5 hcap hcm HO HOB HOF HBW
              generalize s.crashedB (List.replicate 12 1000) = S at *
              go_wp2_with fail
              go_loopw [136] (fun i wr => ∃ (q : Nat), q ≤ 3 ∧ i = .int .i64 q ∧ Hid (OF w wr F5 g w3.heap.size S HL)) (fun i _ => 3 - (intOf i).toNat)
              case atStart => exact ⟨0, Nat.zero_le _, rfl, HOC⟩
              case round =>
                clear HOC
                obtain ⟨q, hq, rfl, HOC⟩ := hrel
                by_cases hlt3 : q < 3
                · obtain ⟨cs, hc1, hc2, hc3⟩ := HOC.out.arr
                  obtain ⟨v0, k0, P0⟩ := hc3 q 0 hlt3 (by omega)
                  obtain ⟨v1, k1, P1⟩ := hc3 q 1 hlt3 (by omega)
                  obtain ⟨v2, k2, P2⟩ := hc3 q 2 hlt3 (by omega)
                  obtain ⟨v3, k3, P3⟩ := hc3 q 3 hlt3 (by omega)
                  have hcell : ∀ j, wr.cell? ⟨w3.heap.size, j, none⟩ = cs[j]? := fun j => by rw [cell_of_row _ _ _ _ _ _ hc1, List.getElem?_toArray]
                  have c0 := (hcell (q * 4)).trans k0
                  have c1 := (hcell (q * 4 + 1)).trans k1
                  have c2 := (hcell (q * 4 + 2)).trans k2
                  have c3 := (hcell (q * 4 + 3)).trans k3
                  have HPV := mkHid (show ∀ k : Nat, k < 4 → ∃ v, (∀ W, (Instr.index 40 (.agg #[v0, v1, v2, v3]) (.int .i64 (k : Int))).run Try.prog W = .ok v W) ∧ ((v = .slice none 0 0 ∧ HL q k = zeros) ∨ ∃ (ad : Addr) (c : Nat), v = .slice (some ad) 128 c ∧ BS w w.heap.size (some ad) 128 (HL q k)) from fun k hk => by
                    obtain rfl | rfl | rfl | rfl : k = 0 ∨ k = 1 ∨ k = 2 ∨ k = 3 := by omega
                    · exact ⟨v0, fun _ => by kernel_rfl, P0⟩
                    · exact ⟨v1, fun _ => by kernel_rfl, P1⟩
                    · exact ⟨v2, fun _ => by kernel_rfl, P2⟩
                    · exact ⟨v3, fun _ => by kernel_rfl, P3⟩)
                  have hq0 : (0 : Int) ≤ (q : Int) := by omega
                  have hq1 : (q : Int) < 3 := by omega
                  clear hc1 hc2 hc3 k0 k1 k2 k3 P0 P1 P2 P3 hcell
                  go_wp2_with fail
                  clear c0 c1 c2 c3
                  go_loopw [142] (fun kk wr => ∃ (k : Nat), k ≤ 4 ∧ kk = .int .i64 k ∧ Hid (OF w wr F5 g w3.heap.size S HL)) (fun kk _ => 4 - (intOf kk).toNat)
                  case atStart => exact ⟨0, Nat.zero_le _, rfl, HOC⟩
                  case round =>
                    clear HOC
                    obtain ⟨k, hk, rfl, HOC⟩ := hrel
                    by_cases hlk : k < 4
                    · obtain ⟨v, hidx, hv⟩ := HPV.out k hlk
                      have HRD := mkHid (HFC.out q k hlt3 hlk)
                      have HBR := mkHid (bread_any F5 g S q k wr HOC.out.b ⟨by omega, by omega⟩ ⟨by omega, by omega⟩)
                      have hn1 := fun (W : World) (a : Option Addr) (n c n' c' : Nat) => Lib.run_eql_slice_nil (P := Try.prog) W 31 5 a n c n' c' Try.underlying31
                      have hn2 := fun (W : World) (a : Option Addr) (n c n' c' : Nat) => run_neq_slice_nil_any (P := Try.prog) W 31 5 a n c n' c' Try.underlying31
                      rcases hv with ⟨rfl, hz⟩ | ⟨ad, cc, rfl, hbs⟩
                      · have HZ := mkHid hz
                        clear hz
                        go_wp2_with fail
                        refine HBR.out.mono ?_
                        rintro e w6 ⟨A6, m6, c6, v6, rfl, hm6, _, hbs6, hv6, hb6⟩
                        rw [HRD.out.2, HZ.out] at hm6 hbs6
                        rw [HRD.out.1] at hv6
                        obtain rfl : v6 = .nilIface := hv6.1 rfl
                        have HM6 := mkHid hm6
                        have HBS6 := mkHid hbs6
                        have HO6 := mkHid (HOC.out.below hb6)
                        obtain ⟨wm, hmk, hm1, hbm⟩ := run_make128 w6
                        have HM1 := mkHid hm1
                        have HBM := mkHid hbm
                        clear hm6 hbs6 hv6 hb6 hm1 hbm
                        go_wp2_with fail
                        clear hmk
                        refine (same_any A6 (some ⟨w6.heap.size, 0, none⟩) m6 128 c6 128 _ _ zeros zeros wm (HBS6.out.below HBM.out) ⟨SL.of_own HM1.out, zeros_ok⟩).mono ?_
                        rintro e w7 ⟨rfl, rfl⟩
                        rw [decide_eq_true rfl]
                        go_wp2_with fail
                        go_roundw
                        case rel => exact ⟨k + 1, by omega, by go_num, mkHid (HO6.out.below HBM.out)⟩
                        case measure => simp [intOf]; omega
                      · have HBS := mkHid hbs
                        clear hbs
                        go_wp2_with fail
                        refine HBR.out.mono ?_
                        rintro e w6 ⟨A6, m6, c6, v6, rfl, hm6, _, hbs6, hv6, hb6⟩
                        rw [HRD.out.2] at hm6 hbs6
                        rw [HRD.out.1] at hv6
                        obtain rfl : v6 = .nilIface := hv6.1 rfl
                        have HM6 := mkHid hm6
                        have HBS6 := mkHid hbs6
                        have HO6 := mkHid (HOC.out.below hb6)
                        clear hm6 hbs6 hv6 hb6
                        go_wp2_with fail
                        refine (same_any A6 (some ad) m6 128 c6 cc _ _ (HL q k) (HL q k) w6 HBS6.out ((HBS.out.below HO6.out.bel).more HO6.out.bel.size)).mono ?_
                        rintro e w7 ⟨rfl, rfl⟩
                        rw [decide_eq_true rfl]
                        go_wp2_with fail
                        go_roundw
                        case rel => exact ⟨k + 1, by omega, by go_num, HO6⟩
                        case measure => simp [intOf]; omega
                    · obtain rfl : k = 4 := by omega
                      rw [show ((4 : Nat) : Int) = 4 from rfl]
                      go_wp2_with fail
                      go_roundw
                      case rel => exact ⟨q + 1, by omega, by go_num, HOC⟩
                      case measure => simp [intOf]; omega
                · obtain rfl : q = 3 := by omega
                  have HDW := mkHid (down_any F5 g S wr HOC.out.b)
                  rw [HDNF.out] at HDW
                  go_wp2_with fail
                  refine HDW.out.mono ?_
                  rintro e w6 ⟨rfl, rfl⟩
                  go_wp2_with fail
                  refine (HAW.out _).mono ?_
                  rintro e w7 ⟨rfl, hb7⟩
                  have HT7 := mkHid (HOC.out.below hb7)
                  clear hb7
                  go_wp2_with fail
                  go_ret
                  exact ⟨rfl, HT7.out.bel⟩

end Go.Proofs.Ytpoeneabhoajaaa
