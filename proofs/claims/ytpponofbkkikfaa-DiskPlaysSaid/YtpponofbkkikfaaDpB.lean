/- portagelaw03.step by contract: a Write. -/
import Derived.Test.YtpponofbkkikfaaDpA
namespace Go.Proofs.Ytpponofbkkikfaa
open Go.RowKit

theorem u8_wrap (x : Int) : 0 ≤ IntKind.u8.wrap x ∧ IntKind.u8.wrap x < 256 := by
  have h : IntKind.u8.wrap x = x % 256 := by kernel_rfl
  rw [h]
  omega

/-- What a step answers, and leaves. -/
def Stepped (F1 F2 : Nat → Prop) (wp w : World) (g1 g2 q : Nat) (e : Ending) (w' : World) : Prop := e = .returned (.bool true) ∧ ∃ F3 F4 ss, TE (fun b => F1 b ∨ F2 b) wp w w' F3 F4 g1 g2 q ss ss

set_option maxRecDepth 20000 in
set_option maxHeartbeats 4000000 in
theorem step_write (F1 F2 : Nat → Prop) (g1 g2 q : Nat) (ss : List Sec) (xi xn : Int) (a1 : Option Addr) (m c1 : Nat) (xd : List Int) (a2 : Option Addr) (m' c2 : Nat) (w wp : World) (h : TD w wp F1 F2 g1 g2 q ss ss) (hq : q < 1000000) (hi : I64 xi) (hx : BS w w.heap.size a1 m xd) (hm : m ≤ 1000) :
    Calls Try.prog 26 #[.pointer (some ⟨g1, 0, none⟩), .pointer (some ⟨g2, 0, none⟩), .agg #[.int .i64 2, .int .i64 xi, .int .i64 xn, .slice a1 m c1, .slice a2 m' c2]] wp (Stepped F1 F2 wp w g1 g2 (q + 1)) := by
  have HX := mkHid hx
  have HI := mkHid hi
  have hln : xd.length = m := hx.len
  obtain ⟨W0, hW0⟩ : ∃ W0, wp.alloc (.cells #[.int .i64 2, .int .i64 xi, .int .i64 xn, .slice a1 m c1, .slice a2 m' c2] 32) = W0 := ⟨_, rfl⟩
  have HT0 := mkHid (show TE (fun b => F1 b ∨ F2 b) wp w W0 F1 F2 g1 g2 q ss ss by rw [← hW0]; exact (TE.of h).below ((Below.refl _ _).alloc (Nat.le_refl _) _))
  have hs0 : W0.heap.size = wp.heap.size + 1 := by rw [← hW0]; simp
  have hbl : W0.heap[wp.heap.size]? = some (.cells #[.int .i64 2, .int .i64 xi, .int .i64 xn, .slice a1 m c1, .slice a2 m' c2] 32 (0, 0)) := by rw [← hW0]; exact heap_alloc_new _ _
  have HF1 := mkHid h.a.lt
  have HF2 := mkHid h.b.lt
  have HPC := mkHid (show ∀ Z : World, Z.heap[wp.heap.size]? = W0.heap[wp.heap.size]? → Z.cell? ⟨wp.heap.size, 1, none⟩ = some (.int .i64 xi) ∧ Z.cell? ⟨wp.heap.size, 3, none⟩ = some (.slice a1 m c1) from fun Z hZ => ⟨cell_of_row Z _ 1 _ _ _ (hZ.trans hbl), cell_of_row Z _ 3 _ _ _ (hZ.trans hbl)⟩)
  have y0 : W0.cell? ⟨wp.heap.size, 0, none⟩ = some (.int .i64 2) := cell_of_row W0 _ 0 _ _ _ hbl
  obtain ⟨y1, y3⟩ := HPC.out W0 rfl
  clear h hx hi hbl
  go_enter Try.func26, Try.ntmps26
  go_wp2_with fail
  clear hW0 y0 y1 y3
  have HX0 := mkHid ((HX.out.below HT0.out.bel).more HT0.out.bel.size)
  refine (copy_any a1 m c1 xd W0 HX0.out (by omega)).mono ?_
  rintro e w1 ⟨CB, cb, rfl, hco, hb1⟩
  rw [hln] at hco ⊢
  have hk1 : w1.heap[wp.heap.size]? = W0.heap[wp.heap.size]? := hb1.block _ (by omega)
  obtain ⟨y1, y3⟩ := HPC.out w1 hk1
  have HK1 := mkHid hk1
  have HCO := mkHid hco
  have HCB := mkHid (show BS w1 w1.heap.size CB m xd from ⟨SL.of_own hco, HX.out.2⟩)
  have HT1 := mkHid (HT0.out.below hb1)
  have hs1 := hb1.size
  clear hco hb1 hk1
  go_wp2_with fail
  refine (write_all F1 g1 ss xi CB m cb xd w1 HT1.out.a HI.out HCB.out (fun s hs => by have := HT1.out.wa s hs; omega)).mono ?_
  rintro e w2 ⟨rfl, ht2, F3, hd2, hF2⟩
  have hk2 : w2.heap[wp.heap.size]? = W0.heap[wp.heap.size]? := (ht2.block _ (by omega) (fun hf => by have := HF1.out _ hf; omega)).trans HK1.out
  have HK2 := mkHid hk2
  have HT2 := mkHid (HT1.out.stepA ht2 hd2 hF2 (wnext_wait HT1.out.wa) (Nat.le_succ q))
  have HCO2 := mkHid (own_turn HCO.out ht2 fun b hb hf => by have := HF1.out _ hf; have := (HCO.out.lt b hb).1; omega)
  have HA1 := mkHid (show ∀ b, F3 b → (Value.slice CB m cb).ownBlock ≠ some b from fun b hb e => by
    have h1 := HCO.out.lt b e
    rcases hF2 b hb with h2 | h2
    · have := HF1.out _ h2; omega
    · omega)
  have HA2 := mkHid (show ∀ b, F2 b → (Value.slice CB m cb).ownBlock ≠ some b from fun b hb e => by
    have h1 := HCO.out.lt b e
    have := HF2.out _ hb
    omega)
  have hs2 := ht2.size
  clear ht2 hd2 hF2 hk2 y1 y3
  have HIS := mkHid (fun W => is_w ss.length xi m W)
  generalize wres ss.length xi m = V at *
  go_wp2_with fail
  go_loopw [24] (fun i w3 => ∃ k : Nat, k ≤ m ∧ i = .int .i64 k ∧ Hid (OW w2 w3 W0.heap.size CB m cb)) (fun i _ => m - (intOf i).toNat)
  case atStart => exact ⟨0, Nat.zero_le _, rfl, mkHid (OW.start HCO2.out HX.out.2)⟩
  case round =>
    obtain ⟨k, hk, rfl, HOW⟩ := hrel
    by_cases hlt : k < m
    · obtain ⟨gi, x, rfl, hcell, hfrz, hx0, hx1⟩ := HOW.out.cells hlt
      go_wp2_with fail
      go_roundw
      case rel => exact ⟨k + 1, by omega, by go_num, mkHid (HOW.out.set hlt (u8_wrap _).1 (u8_wrap _).2)⟩
      case measure => simp [intOf]; omega
    · obtain rfl : k = m := by omega
      have HT3 := mkHid (HT2.out.over HOW.out HT0.out.bel.size (by omega) HA1.out HA2.out)
      have hk3 : wr.heap[wp.heap.size]? = W0.heap[wp.heap.size]? := by
        obtain ⟨lv, _, _, hg⟩ := HOW.out
        exact (hg.block _ (by omega) (fun e => by have := (HCO.out.lt _ e.symm).1; omega)).trans HK2.out
      obtain ⟨y1, y3⟩ := HPC.out wr hk3
      have HX3 := mkHid ((HX.out.below HT3.out.bel).more HT3.out.bel.size)
      clear hk3
      go_wp2_with fail
      refine (rwrite_all F2 g2 ss xi a1 k c1 xd wr HT3.out.b HI.out HX3.out (fun s hs => by have := HT0.out.wb s hs; omega)).mono ?_
      rintro e w4 ⟨rfl, ht4, F4, hd4, hF4⟩
      have HT4 := mkHid (HT3.out.stepB ht4 hd4 hF4 (wnext_wait HT0.out.wb) (Nat.le_refl _))
      clear ht4 hd4 hF4
      generalize rres ss.length xi k = R at *
      go_wp2_with fail
      refine (HIS.out _).mono ?_
      rintro e w5 ⟨rfl, rfl⟩
      go_wp2_with fail
      go_ret
      exact ⟨rfl, F3, F4, _, HT4.out⟩

end Go.Proofs.Ytpponofbkkikfaa
