/- portageref02.Number by contract: a number in so many bytes, the highest first. -/
import Derived.Test.YtbgfccfhiocomaaFrameA
namespace Go.Proofs.Ytbgfccfhiocomaa
open Go.RowKit

/-- The number in m bytes, the highest first. -/
def nb : Nat → Int → List Int
  | 0, _ => []
  | m + 1, n => n / 256 ^ m % 256 :: nb m n
theorem nb_len (n : Int) : ∀ m, (nb m n).length = m
  | 0 => rfl
  | m + 1 => by rw [nb, List.length_cons, nb_len n m]
theorem nb_ok (n : Int) : ∀ m, okBytes (nb m n)
  | 0 => fun x hx => by cases hx
  | m + 1 => fun x hx => by
    rw [nb] at hx
    rcases List.mem_cons.1 hx with rfl | hx
    · omega
    · exact nb_ok n m x hx
theorem div_step (n : Int) (k : Nat) (_h : 0 ≤ n) : n / 256 ^ k / 256 = n / 256 ^ (k + 1) := by
  rw [Int.pow_succ, Int.ediv_ediv_of_nonneg (by exact Int.le_of_lt (Int.pow_pos (by omega)))]
theorem div_nonneg (n : Int) (k : Nat) (h : 0 ≤ n) : 0 ≤ n / 256 ^ k := Int.ediv_nonneg h (Int.le_of_lt (Int.pow_pos (by omega)))
theorem div_le (n : Int) (k : Nat) (h : 0 ≤ n) : n / 256 ^ k ≤ n := Int.ediv_le_self _ h

set_option maxHeartbeats 400000 in
theorem number_any (n : Int) (m : Nat) (w : World) (hn : 0 ≤ n ∧ n ≤ 9223372036854775807) (hm : m ≤ 8) :
    Calls Try.prog 38 #[.int .i64 n, .int .i64 m] w (RetB w (nb m n)) := by
  obtain ⟨hn0, hn1⟩ := hn
  have H1 := mkHid hn1
  have H0 := mkHid hn0
  clear hn1
  go_enter Try.func38, Try.ntmps38
  go_wp2_with fail
  go_loopw [0, 5, 6] (fun x v i wr => ∃ (k : Nat) (N : Int) (A : Option Addr) (C : Nat), k ≤ m ∧ i = .int .i64 k ∧ x = .int .i64 N ∧ N = n / 256 ^ k ∧ v = .slice A k C ∧
      wr.ownsRow w.heap.size 5 1 (.slice A k C) k ((nb k n).map u8) ∧ Below w.heap.size w wr) (fun _ _ i _ => m - (intOf i).toNat)
  case atStart => exact ⟨0, n, none, 0, Nat.zero_le _, rfl, rfl, by simp, rfl, World.ownsRow_nil _ _ _ _, Below.refl _ _⟩
  case round =>
    obtain ⟨k, N, A, C, hk, rfl, rfl, hN, rfl, hown, hb⟩ := hrel
    have hsz := hb.size
    have hN0 : 0 ≤ N := by rw [hN]; exact div_nonneg n k H0.out
    have hN1 : N ≤ 9223372036854775807 := by rw [hN]; exact Int.le_trans (div_le n k H0.out) H1.out
    have HN := mkHid hN
    clear hN
    by_cases hlt : k < m
    · have hown0 : (wr.alloc (.cells #[.int .u8 (N % 256)] 5)).ownsRow w.heap.size 5 1 (.slice (some ⟨wr.heap.size, 0, none⟩) 1 1) 1 ([N % 256].map Go.Proofs.Ytbgfccfhiocomaa.u8) :=
        own_of_block (wr.alloc (.cells #[.int .u8 (N % 256)] 5)) (n := 1) (cap := 1) hsz (heap_alloc_new wr _) (Nat.le_refl _) (by unfold maxLen; omega) rfl
      have hsl : SL (wr.alloc (.cells #[.int .u8 (N % 256)] 5)) wr.heap.size 1 A k ((nb k n).map Go.Proofs.Ytbgfccfhiocomaa.u8) := (SL.of_own hown).alloc (Nat.le_refl _) _
      have HO0 := mkHid hown0
      have HSL := mkHid hsl
      clear hown0 hsl hown
      go_wp2_with (at_builtin; refine wpList_app _ rfl (.tmp 15) (.tmp 16) _ rfl w.heap.size el_u8 (some ⟨wr.heap.size, 0, none⟩) 1 1 _ rfl HO0.out wr.heap.size A k C _ rfl HSL.out (u8_cells _) (by unfold maxLen; omega) (by omega) (by simp; omega) ?_; intro A' C' w1 hown1 hg1 hat1; clear hat1)
      have hb1 : Below w.heap.size w w1 := (hb.alloc hsz _).grown hg1 (by simp; omega) (own_base HO0.out)
      have hown2 : w1.ownsRow w.heap.size 5 1 (.slice A' (k + 1) C') (k + 1) ((nb (k + 1) n).map Go.Proofs.Ytbgfccfhiocomaa.u8) := by
        rw [Nat.add_comm 1 k, ← List.map_append] at hown1
        rw [nb, ← HN.out]
        exact hown1
      go_roundw
      case rel => exact ⟨k + 1, N / 256, A', C', by omega, by go_num, rfl, by rw [HN.out]; exact div_step n k H0.out, by rw [Nat.add_comm], hown2, hb1⟩
      case measure => simp [intOf]; omega
    · obtain rfl : k = m := by omega
      go_wp2_with fail
      go_ret
      exact ⟨A, k, C, rfl, hown, hb⟩

end Go.Proofs.Ytbgfccfhiocomaa
