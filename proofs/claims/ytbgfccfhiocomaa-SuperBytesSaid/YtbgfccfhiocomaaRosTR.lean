/- portageref05.Bytes and Room by contract. -/
import Derived.Test.YtbgfccfhiocomaaRosSR
namespace Go.Proofs.Ytbgfccfhiocomaa
open Go.RowKit Go.Shelf

theorem nb1_of {x : Int} (h0 : 0 ≤ x) (h1 : x < 256) : nb 1 x = [x] := by
  simp [nb]
  omega
set_option maxRecDepth 20000 in
set_option maxHeartbeats 2000000 in
theorem rbytes_any (a : Option Addr) (n c : Nat) (xs : List (Int × Int)) (w : World) (hs : ES w w.heap.size a n xs) (hc : CapOk n c) (hr : rightL xs = true) :
    Calls Try.prog 40 #[.slice a n c] w (RetB w (rosBytes xs)) := by
  obtain ⟨h8, he⟩ := rightL_ok hr
  have HL := mkHid hs.len
  have hn8 : n ≤ 8 := by rw [hs.len] at h8; exact h8
  have HE := mkHid he
  have HS := mkHid hs
  obtain ⟨hc1, hc2, hc3⟩ := hc
  have h0 : (n : Int) % 256 = n := by omega
  clear hs hr he h8
  go_enter Try.func40, Try.ntmps40
  go_wp2_with fail
  have HO0 := mkHid (own_of_block (w.alloc (.cells #[.int .u8 (n : Int)] 5)) (base := w.heap.size) (n := 1) (cap := 1) (Nat.le_refl _) (heap_alloc_new w _) (Nat.le_refl _) (by unfold maxLen; omega) rfl)
  have HB0 := mkHid ((Below.refl w.heap.size w).alloc (Nat.le_refl _) (.cells #[.int .u8 (n : Int)] 5))
  clear h0
  go_loopw [3, 4] (fun v i wr => ∃ (q : Nat) (A : Option Addr) (C : Nat), q ≤ n ∧ i = .int .i64 q ∧ v = .slice A (1 + 3 * q) C ∧ Hid (wr.ownsRow w.heap.size 5 1 (.slice A (1 + 3 * q) C) (1 + 3 * q) ((nb 1 (n : Int) ++ (xs.take q).flatMap enB).map u8)) ∧ Hid (Below w.heap.size w wr)) (fun _ i _ => n - (intOf i).toNat)
  case atStart =>
    refine ⟨0, some ⟨w.heap.size, 0, none⟩, 1, Nat.zero_le _, rfl, rfl, mkHid ?_, HB0⟩
    rw [nb1_of (by omega) (by omega)]
    exact HO0.out
  case round =>
    clear HO0 HB0
    obtain ⟨q, A, C, hq, rfl, rfl, HO, HB⟩ := hrel
    by_cases hlt : q < n
    · obtain ⟨b, o, x, rfl, hb, hx, ⟨hx1, hx2⟩, h0, h1⟩ := HS.out.at_ hlt
      have d0 := (HB.out.cell (p := ⟨b, o + q * 2, none⟩) hb).trans h0
      have hxr := of_decide_eq_true (HE.out x (List.mem_of_getElem? hx))
      have HT := mkHid (show (xs.take (q + 1)).flatMap enB = (xs.take q).flatMap enB ++ enB x by
        obtain ⟨hl, hx'⟩ := List.getElem?_eq_some_iff.1 hx
        rw [List.take_succ_eq_append_getElem hl, List.flatMap_append, hx']
        simp)
      obtain ⟨st, sz⟩ := x
      simp only at hxr d0 h1 hx1 hx2
      have H1 := mkHid h1
      have hs0 : 0 ≤ st := by omega
      have hs1 : st < 256 := by omega
      have hz0 : 0 ≤ sz := by omega
      have hz1 : sz < 65536 := by omega
      have hst : st % 256 = st := by omega
      have hsz := HB.out.size
      clear hxr hx h0 h1
      go_upto_region 6 with (at_builtin; refine wpList_app _ rfl (.tmp 15) (.tmp 22) _ rfl w.heap.size el_u8 A (1 + 3 * q) C _ rfl (HO.out.alloc _) (wr.heap.size + 1) (some ⟨wr.heap.size, 0, none⟩) 1 1 ([st].map Go.Proofs.Ytbgfccfhiocomaa.u8) rfl (SL.of_block (cur := #[.int .u8 st]) (heap_alloc_new wr _) rfl (by omega)) (u8_cells _) (by unfold maxLen; omega) (by omega) (by simp; omega) ?_; intro A1 C1 w1 ho1 hg1 _)
      have HB1 := mkHid ((HB.out.alloc hsz _).grown hg1 (by simp; omega) (own_base HO.out))
      have HO1 := mkHid ho1
      have hsz1 := HB1.out.size
      have d1 := (HB1.out.cell (p := ⟨b, o + q * 2 + 1, none⟩) hb).trans H1.out
      clear ho1 hg1 hst d0
      go_wp2_with fail
      refine (number_any sz 2 w1 ⟨hz0, by omega⟩ (by omega)).mono ?_
      rintro e w2 ⟨A2, n2, C2, rfl, ho2, hb2⟩
      have hn2 : n2 = 2 := by have := ho2.1; rw [List.length_map, nb_len] at this; omega
      subst hn2
      have HB2 := mkHid (HB1.out.trans (hb2.mono hsz1))
      have HO1' := mkHid (own_below HO1.out hb2)
      have HO2 := mkHid (SL.of_own ho2)
      have hsz2 := HB2.out.size
      clear ho2 hb2 d1
      go_wp2_with (at_builtin; refine wpList_app _ rfl (.tmp 24) (.tmp 30) _ rfl w.heap.size el_u8 A1 (1 + 3 * q + 1) C1 _ rfl HO1'.out w2.heap.size A2 2 C2 ((nb 2 sz).map Go.Proofs.Ytbgfccfhiocomaa.u8) rfl HO2.out (u8_cells _) (by unfold maxLen; omega) (by omega) (by omega) ?_; intro A3 C3 w3 ho3 hg3 _)
      have HB3 := mkHid (HB2.out.grown hg3 hsz2 (own_base HO1'.out))
      have HO3 := mkHid ho3
      clear ho3 hg3
      go_roundw
      case measure => simp [intOf]; omega
      case rel =>
        refine ⟨q + 1, A3, C3, by omega, by go_num, by rw [show 1 + 3 * (q + 1) = 1 + 3 * q + 1 + 2 by omega], mkHid ?_, HB3⟩
        have h3 := HO3.out
        rw [HT.out, ← List.append_assoc, show 1 + 3 * (q + 1) = 1 + 3 * q + 1 + 2 by omega]
        unfold enB at h3 ⊢
        rw [nb1_of hs0 hs1, ← List.append_assoc, List.map_append, List.map_append]
        exact h3
    · obtain rfl : q = n := by omega
      go_wp2_with fail
      go_ret
      refine ⟨A, 1 + 3 * q, C, rfl, ?_, HB.out⟩
      have h := HO.out
      rw [List.take_of_length_le (by rw [HL.out]; exact Nat.le_refl _)] at h
      unfold rosBytes
      rw [HL.out]
      exact h


end Go.Proofs.Ytbgfccfhiocomaa
