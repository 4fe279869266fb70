/- The document's bank: Flush, Crash by contract. -/
import Derived.Test.YtpoeneabhoajaaaDoorBrD
import Derived.Deep.RegionLaw
namespace Go.Proofs.YtpoeneabhoajaaaDoor
open Go.RowKit

/-- What the document's Flush answers, and leaves. -/
def RetRFl (F : Nat → Prop) (g : Nat) (w : World) (R : Bst × Int × Int) (e : Ending) (w' : World) : Prop :=
  e = .returned (.tuple #[.int .i64 R.2.1, .int .i64 R.2.2]) ∧ Turn F w w' ∧ ∃ F', RBO w' F' g R.1 ∧ ∀ b, F' b → F b ∨ w.heap.size ≤ b

set_option maxRecDepth 20000 in
set_option maxHeartbeats 2000000 in
theorem rbflush_any (F : Nat → Prop) (g : Nat) (s : Bst) (a : Option Addr) (m k : Nat) (l : List Int) (w : World) (h : RBO w F g s) (hx : IS w w.heap.size a m l) (hout : 0 < m → ∀ ad : Addr, a = some ad → ¬ F ad.block) (hd : 0 ≤ s.done ∧ s.done ≤ 1000000) (hm : m ≤ 1000000) :
    Calls Tryd.prog 32 #[.pointer (some ⟨g, 0, none⟩), .slice a m k] w (RetRFl F g w (flushA s l)) := by
  have HX := mkHid hx
  have HO := mkHid hout
  have HBO := mkHid h
  have HL := mkHid hx.len
  clear h hx hout
  obtain ⟨hd0, hd1⟩ := hd
  go_enter Tryd.func32, Tryd.ntmps32
  go_wp2_with fail
  go_loopw [6] (fun i wr => ∃ (q : Nat) (F' : Nat → Prop) (t : Bst), q ≤ m ∧ i = .int .i64 q ∧ 0 ≤ t.done ∧ t.done ≤ 1000000 + q ∧ Hid (flushA t (l.drop q) = flushA s l) ∧ Hid (Turn F w wr) ∧ Hid (RBO wr F' g t) ∧ Hid (∀ b, F' b → F b ∨ w.heap.size ≤ b)) (fun i _ => m - (intOf i).toNat)
  case atStart => exact ⟨0, F, s, Nat.zero_le _, rfl, hd0, by omega, mkHid rfl, mkHid (Turn.of_below (Below.refl _ _)), HBO, mkHid fun b hb => .inl hb⟩
  case round =>
    clear HBO
    obtain ⟨q, F', t, hq, rfl, ht0, ht1, HFL, HT, HB, HF⟩ := hrel
    by_cases hlt : q < m
    · have hq0 : (0 : Int) ≤ (q : Int) := by omega
      have hq1 : (q : Int) < (m : Int) := by omega
      have HXT := mkHid (HX.out.turn0 HT.out HO.out)
      obtain ⟨b, o, rfl, hb, hcell, hI⟩ := HXT.out.at_ hlt
      have HDR := mkHid (show l.drop q = (l[q]?.getD 0) :: l.drop (q + 1) by
        have := HL.out
        rw [List.drop_eq_getElem_cons (by omega), List.getElem?_eq_getElem (by omega)]
        rfl)
      obtain ⟨x, hxe⟩ : ∃ x, l[q]?.getD 0 = x := ⟨_, rfl⟩
      rw [hxe] at hcell hI HDR
      have HI := mkHid hI
      obtain ⟨hi0, hi1⟩ := hI
      have HFA := mkHid (show (if t.flush1E x ≠ 0 then (t.flush1 x, t.flush1E x, x) else flushA (t.flush1 x) (l.drop (q + 1))) = flushA s l from by
        rw [← HFL.out, HDR.out]; rfl)
      have HNF := mkHid (HO.out (by omega) _ rfl)
      have HBLT := mkHid hb
      obtain ⟨A, n, c, ps, Fs, hbk⟩ := HB.out
      have HBK := mkHid hbk
      have HKX := mkHid (show ∀ Z : World, Turn F' wr Z → Z.cell? ⟨b, o + q, none⟩ = some (.int .i64 x) from fun Z hZ => (World.cell?_of_block (w := wr) (hZ.block b hb fun hf => by
        rcases HF.out b hf with e | e
        · exact HNF.out e
        · obtain ⟨b', o', e', hb', _⟩ := HX.out.at_ hlt
          injection e' with e'
          injection e' with e1 e2
          omega)).trans hcell)
      clear hbk hxe hb
      by_cases hlv : t.liveE x = 0
      case neg =>
        have HFA' := mkHid (show flushA s l = (t, t.liveE x, x) by rw [← HFA.out, show t.flush1E x = t.liveE x from if_pos hlv, if_pos hlv, show t.flush1 x = t from if_pos hlv])
        have hl1 : (t.liveE x == 0) = false := by simpa using hlv
        have hl2 : (t.liveE x != 0) = true := by simpa using hlv
        clear hlv
        go_wp2_with fail
        refine (rlook_up F' g A n c ps Fs t x wr HBK.out HI.out).mono ?_
        rintro e w1 ⟨rfl, rfl⟩
        go_wp2_with fail
        go_region_held3 (fun Z => Z.cell? ⟨b, o + q, none⟩ = some (.int .i64 x)) (first | exact hcell | assumption) (fail)
        go_wp2_with fail
        go_ret2
        exact ⟨by rw [HFA'.out]; rfl, HT.out.trans (Turn.of_below (F := F) (Below.refl _ _).drew) (fun b hb => .inl hb), F', by rw [HFA'.out]; exact HB.out.below (Below.refl _ _).drew, HF.out⟩
      obtain ⟨j, ss, rfl, hj, hsec⟩ := live_dev hlv
      have HJ := mkHid hj
      by_cases hce : t.countE = 0
      case neg =>
        have HFA' := mkHid (show flushA s l = (t.counted, t.countE, (j : Int)) by
          rw [← HFA.out, show t.flush1E j = t.countE from by unfold Bst.flush1E; rw [if_neg (by rw [hlv]; simp)], if_pos hce, show t.flush1 j = t.counted from by unfold Bst.flush1; rw [if_neg (by rw [hlv]; simp), if_pos hce]])
        have hl2 : (t.countE != 0) = true := by simpa using hce
        have HLV := mkHid hlv
        clear hlv hj hsec hce
        go_wp2_with fail
        refine (rlook_up F' g A n c ps Fs t j wr HBK.out HI.out).mono ?_
        rintro e w1 ⟨rfl, rfl⟩
        rw [HLV.out]
        go_wp2_with fail
        refine (rcount_any F' g A n c ps Fs t wr HBK.out ⟨ht0, by omega⟩).mono ?_
        rintro e w1 ⟨rfl, ht1', hb1⟩
        have HT1 := mkHid ht1'
        have HB1 := mkHid hb1
        have hx1 := HKX.out w1 ht1'
        clear ht1' hb1 hcell
        go_wp2_with fail
        go_region_held3 (fun Z => Z.cell? ⟨b, o + q, none⟩ = some (.int .i64 (j : Int))) (first | exact hx1 | assumption) (fail)
        go_wp2_with fail
        go_ret2
        exact ⟨by rw [HFA'.out]; rfl, (HT.out.trans HT1.out HF.out).trans (Turn.of_below (F := F) (Below.refl _ _).drew) (fun b hb => .inl hb), F', by rw [HFA'.out]; exact RBO.below ⟨_, _, _, _, _, HB1.out⟩ (Below.refl _ _).drew, HF.out⟩
      have HE := mkHid (show t.flush1E j = 0 ∧ t.flush1 j = { t.counted with ds := t.counted.ds.set j (some (flushed ss)) } from ⟨by unfold Bst.flush1E; rw [if_neg (by rw [hlv]; simp), hce], by unfold Bst.flush1; rw [if_neg (by rw [hlv]; simp), if_neg (by rw [hce]; simp), hsec, counted_ds, Int.toNat_natCast]⟩)
      have HLV := mkHid hlv
      have HCE := mkHid hce
      have HJ1 := mkHid (show t.counted.ds[j]? = some (some ss) by rw [counted_ds]; exact hj)
      clear hlv hj hsec hce
      go_wp2_with fail
      refine (rlook_up F' g A n c ps Fs t j wr HBK.out HI.out).mono ?_
      rintro e w1 ⟨rfl, rfl⟩
      rw [HLV.out]
      go_wp2_with fail
      refine (rcount_any F' g A n c ps Fs t wr HBK.out ⟨ht0, by omega⟩).mono ?_
      rintro e w1 ⟨rfl, ht1', hb1⟩
      rw [HCE.out]
      have HT1 := mkHid ht1'
      have HB1 := mkHid hb1
      have hx1 := HKX.out w1 ht1'
      obtain ⟨r, p, rfl, hp, hcell1, hd1, hjn⟩ := hb1.dev HJ1.out
      simp only [ptrV] at hcell1
      have g0 := cell_of_row w1 g 0 _ _ _ hb1.blk
      have hn8 := hb1.n8
      simp at g0
      have HDZ := mkHid (show ∀ Z : World, Z.heap = w1.heap → RD Z (Fs j) p ss from fun Z hZ => hd1.keep (by rw [hZ]; exact Nat.le_refl _) fun _ _ => by rw [hZ])
      have HP := mkHid hp
      have HS1 := mkHid (And.intro g0 (And.intro hx1 hcell1))
      have hj0 : (0 : Int) ≤ (j : Int) := by omega
      have hj1 : (j : Int) < (n : Int) := by omega
      have hng : ¬ Fs j g := fun hf => (hb1.fs j g hf).2.1 rfl
      have hnr : ¬ Fs j r := fun hf => (hb1.fs j r hf).2.2 rfl
      have hnb : ¬ Fs j b := fun hf => by
        have := HF.out b (hb1.fs j b hf).1
        rcases this with e | e
        · exact HNF.out e
        · obtain ⟨b', o', e', hb', _⟩ := HX.out.at_ hlt
          injection e' with e'
          injection e' with e1 e2
          omega
      have hgl := hb1.lt g hb1.fg
      have hrl := hb1.lt r (hb1.fr r rfl)
      have hbl : b < w1.heap.size := Nat.lt_of_lt_of_le HBLT.out ht1'.size
      have HKZ := mkHid (show ∀ Z : World, Turn (Fs j) w1.drew Z → Z.cell? ⟨g, 0, none⟩ = some (.slice (some ⟨r, 0, none⟩) n c) ∧ Z.cell? ⟨b, o + q, none⟩ = some (.int .i64 (j : Int)) ∧ Z.cell? ⟨r, j, none⟩ = some (.pointer (some ⟨p, 0, none⟩)) from fun Z hZ => ⟨(World.cell?_of_block (w := w1) (hZ.block g hgl hng)).trans g0, (World.cell?_of_block (w := w1) (hZ.block b hbl hnb)).trans hx1, (World.cell?_of_block (w := w1) (hZ.block r hrl hnr)).trans hcell1⟩)
      clear ht1' hb1 hcell hd1 hp hng hnr hnb hgl hrl hbl
      go_wp2_with fail
      go_region_held3 (fun Z => Z.cell? ⟨g, 0, none⟩ = some (.slice (some ⟨r, 0, none⟩) n c) ∧ Z.cell? ⟨b, o + q, none⟩ = some (.int .i64 (j : Int)) ∧ Z.cell? ⟨r, j, none⟩ = some (.pointer (some ⟨p, 0, none⟩))) (first | exact gk | exact HS1.out) ((go_at_call 61; refine (rflush_any (Fs j) p ss _ (HDZ.out _ (by rfl))).mono ?_; rintro e w2 ⟨rfl, ht2, F2, hd2, hF2⟩; have gk := HKZ.out w2 (Turn.mk ht2.os ht2.tape ht2.output ht2.size ht2.block)))
      obtain ⟨k1, F3, k2, k3⟩ := HB1.out.disk HJ1.out HP.out (Turn.mk ht2.os ht2.tape ht2.output ht2.size ht2.block) hd2 hF2
      have K1 := mkHid k1
      have K2 := mkHid k2
      have K3 := mkHid k3
      clear ht2 hd2 hF2 k1 k2 k3 gk hx1 hcell1 g0
      go_wp2_with fail
      go_roundw
      case rel =>
        have hdn := flush1_done t j
        refine ⟨q + 1, F3, t.flush1 j, by omega, by go_num, by omega, by omega, mkHid ?_, mkHid ((HT.out.trans HT1.out HF.out).trans K1.out HF.out), mkHid (by rw [HE.out.2]; exact K2.out), mkHid fun b hb => (K3.out b hb).elim (HF.out b) fun e => .inr (Nat.le_trans (Nat.le_trans HT.out.size HT1.out.size) e)⟩
        rw [← HFA.out, HE.out.1]
        rfl
      case measure => simp [intOf]; omega
    · obtain rfl : q = m := by omega
      have HFA := mkHid (show flushA s l = (t, 0, 0) by rw [← HFL.out, List.drop_of_length_le (Nat.le_of_eq HL.out)]; rfl)
      go_wp2_with fail
      go_ret2
      exact ⟨by rw [HFA.out]; rfl, HT.out, F', by rw [HFA.out]; exact HB.out, HF.out⟩

end Go.Proofs.YtpoeneabhoajaaaDoor
