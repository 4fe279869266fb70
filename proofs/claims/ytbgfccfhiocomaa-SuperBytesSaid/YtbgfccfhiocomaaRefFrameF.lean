/- portageref02.Put and Get by contract: the document's frame is the program's. -/
import Derived.Test.YtbgfccfhiocomaaNumber
import Derived.Test.YtbgfccfhiocomaaRefSum
import Derived.Test.YtbgfccfhiocomaaFrameLawF
namespace Go.Proofs.Ytbgfccfhiocomaa
open Go.RowKit

theorem nb4 {n : Int} (h : 0 ≤ n ∧ n < 4294967296) : nb 4 n = be32 n := by
  simp only [nb, be32, List.cons.injEq, and_true]
  omega

set_option maxRecDepth 20000 in
set_option maxHeartbeats 1000000 in
theorem rput_any (k : Int) (a : Option Addr) (n c : Nat) (l : List Int) (w : World) (hk : 0 ≤ k ∧ k < 256) (hx : BS w w.heap.size a n l) (hn : n ≤ 122) :
    Calls Try.prog 39 #[.int .u8 k, .slice a n c] w (RetB w (frameOf k l)) := by
  have hl := hx.len
  have HL := mkHid hl
  have hok0 : okBytes (k :: (n : Int) :: l) := by
    intro z hz
    rcases List.mem_cons.1 hz with rfl | hz
    · exact hk
    · rcases List.mem_cons.1 hz with rfl | hz
      · omega
      · exact hx.2 z hz
  have HK := mkHid hok0
  clear hok0 hl
  have hown0 : (w.alloc (.cells #[.int .u8 k, .int .u8 n] 5)).ownsRow w.heap.size 5 1 (.slice (some ⟨w.heap.size, 0, none⟩) 2 2) 2 ([k, (n : Int)].map u8) :=
    own_of_block (w.alloc (.cells #[.int .u8 k, .int .u8 n] 5)) (n := 2) (cap := 2) (Nat.le_refl _) (heap_alloc_new w _) (Nat.le_refl _) (by unfold maxLen; omega) rfl
  have hsl : SL (w.alloc (.cells #[.int .u8 k, .int .u8 n] 5)) w.heap.size 1 a n (l.map u8) := hx.1.alloc (Nat.le_refl _) _
  have HO0 := mkHid hown0
  have HSL := mkHid hsl
  clear hown0 hsl
  go_enter Try.func39, Try.ntmps39
  go_wp2_with (at_builtin; refine wpList_app _ rfl (.tmp 11) (.tmp 12) _ rfl w.heap.size el_u8 (some ⟨w.heap.size, 0, none⟩) 2 2 _ rfl HO0.out w.heap.size a n c _ rfl HSL.out (u8_cells _) (by unfold maxLen; omega) (by omega) (by simp) ?_; intro A1 C1 w1 hown1 hg1 hat1; clear hat1)
  have hb1 : Below w.heap.size w w1 := ((Below.refl _ _).alloc (Nat.le_refl _) _).grown hg1 (by simp) (own_base HO0.out)
  rw [← List.map_append] at hown1
  clear hg1 HO0 HSL
  go_loopw [5] (fun v wr => ∃ (j : Nat) (A : Option Addr) (C : Nat), 2 + n + j ≤ 124 ∧ v = .slice A (2 + n + j) C ∧
      wr.ownsRow w.heap.size 5 1 (.slice A (2 + n + j) C) (2 + n + j) ((k :: (n : Int) :: (l ++ List.replicate j 0)).map u8) ∧ Below w.heap.size w wr) (fun v _ => 124 - lenV v)
  case atStart => exact ⟨0, A1, C1, by omega, rfl, by simpa using hown1, hb1⟩
  case round =>
    obtain ⟨j, A, C, hj, rfl, hown, hb⟩ := hrel
    have hsz := hb.size
    by_cases hlt : 2 + n + j < 124
    · have HO := mkHid (hown.alloc (.cells #[.int .u8 0] 5))
      clear hown
      go_wp2_with (at_builtin; refine wpList_app _ rfl (.tmp 17) (.tmp 18) _ rfl w.heap.size el_u8 A (2 + n + j) C _ rfl HO.out (wr.heap.size + 1) (some ⟨wr.heap.size, 0, none⟩) 1 1 ([0].map Go.Proofs.Ytbgfccfhiocomaa.u8) rfl (SL.one _ _) (u8_cells _) (by unfold maxLen; omega) (by omega) (by simp; omega) ?_; intro A' C' w2 hown2 hg2 hat2; clear hat2)
      have hb2 : Below w.heap.size w w2 := (hb.alloc hsz _).grown hg2 (by simp; omega) (own_base HO.out)
      have hown3 : w2.ownsRow w.heap.size 5 1 (.slice A' (2 + n + (j + 1)) C') (2 + n + (j + 1)) ((k :: (n : Int) :: (l ++ List.replicate (j + 1) 0)).map Go.Proofs.Ytbgfccfhiocomaa.u8) := by
        rw [← List.map_append] at hown2
        rw [List.replicate_succ', ← List.append_assoc]
        exact hown2
      go_roundw
      case rel => exact ⟨j + 1, A', C', by omega, rfl, hown3, hb2⟩
      case measure => simp [lenV]; omega
    · have hj2 : 2 + n + j = 124 := by omega
      have hfull : k :: (n : Int) :: (l ++ List.replicate j 0) = frameHead k l := by
        unfold frameHead
        rw [HL.out, show 122 - n = j by omega]
      rw [hj2, hfull] at hown
      have HJ := mkHid hj2
      clear hfull hlt
      generalize hM : 2 + n + j = M at *
      obtain rfl : M = 124 := HJ.out
      clear hM HJ hj
      have hokH := frameHead_ok hk (fun z hz => HK.out z (by simp [hz])) (l := l) (by rw [HL.out]; exact hn)
      have hbsH : BS wr wr.heap.size A 124 (frameHead k l) := ⟨SL.of_own hown, hokH⟩
      have hcr := crcSum_range hokH
      have HO := mkHid hown
      clear hown
      go_wp2_with fail
      refine (rsum_any A 124 C (frameHead k l) wr hbsH (by unfold maxLen; omega)).mono ?_
      rintro e w' ⟨rfl, rfl⟩
      go_wp2_with fail
      refine (number_any (crcSum (frameHead k l)) 4 wr ⟨hcr.1, by omega⟩ (by omega)).mono ?_
      rintro e w2 ⟨A2, n2, c2, rfl, hown2, hb2⟩
      have hn2 : n2 = 4 := by have h1 := hown2.1; simp [nb_len] at h1; omega
      subst hn2
      rw [nb4 hcr] at hown2
      have hs2 := hb2.size
      have HO2 := mkHid (own_below HO.out hb2)
      have HS2 := mkHid (SL.of_own hown2)
      clear hown2 HO hbsH
      go_wp2_with (at_builtin; refine wpList_app _ rfl (.tmp 20) (.tmp 23) _ rfl w.heap.size el_u8 A 124 C _ rfl HO2.out w2.heap.size A2 4 c2 _ rfl HS2.out (u8_cells _) (by unfold maxLen; omega) (by omega) (by omega) ?_; intro A' C' w3 hown3 hg3 hat3; clear hat3)
      have hb3 : Below w.heap.size w w3 := (hb.trans (hb2.mono hsz)).grown hg3 (by omega) (own_base HO2.out)
      rw [← List.map_append] at hown3
      go_ret
      exact ⟨A', 128, C', rfl, hown3, hb3⟩

end Go.Proofs.Ytbgfccfhiocomaa
