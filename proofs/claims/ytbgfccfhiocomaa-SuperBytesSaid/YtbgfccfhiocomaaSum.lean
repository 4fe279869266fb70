/- The walks of frame.Sum and portageref02.Sum: what each computes, in the walk's own words. -/
import Derived.Test.YtbgfccfhiocomaaRows
import Derived.Test.YtbgfccfhiocomaaCrc
namespace Go.Proofs.Ytbgfccfhiocomaa
open Go.RowKit

set_option maxHeartbeats 400000 in
theorem sum_any (a : Option Addr) (n c : Nat) (ls : List (List Int)) (w : World) (hx : BSS w w.heap.size a n ls) (hn : n ≤ maxLen) :
    Calls Try.prog 74 #[.slice a n c] w fun e w' => e = .returned (.int .u32 (crcSum ls.flatten)) ∧ w = w' := by
  unfold maxLen at hn
  go_enter Try.func74, Try.ntmps74
  go_wp2
  go_loop [3, 11] (fun s i => ∃ k : Nat, k ≤ n ∧ i = .int .i64 k ∧ s = .int .u32 (crcBytes 4294967295 (ls.take k).flatten)) (fun _ i => n - (intOf i).toNat)
  case atStart => exact ⟨0, Nat.zero_le _, rfl, rfl⟩
  case round =>
    obtain ⟨k, hk, rfl, rfl⟩ := hrel
    by_cases hlt : k < n
    · obtain ⟨b, o, rfl, hb, a', n', c', hc, ⟨hn', hc', hr'⟩, hbs⟩ := hx.2 k hlt
      unfold maxLen at hc'
      go_wp2
      go_loop [3, 17] (fun s i => ∃ k' : Nat, k' ≤ n' ∧ i = .int .i64 k' ∧ s = .int .u32 (crcBytes (crcBytes 4294967295 (ls.take k).flatten) ((ls[k]?.getD []).take k'))) (fun _ i => n' - (intOf i).toNat)
      case atStart => exact ⟨0, Nat.zero_le _, rfl, rfl⟩
      case round =>
        obtain ⟨k', hk', rfl, rfl⟩ := hrel
        by_cases hlt' : k' < n'
        · obtain ⟨b', o', rfl, hb', hc1, hx0, hx1⟩ := hbs.at_ hlt'
          have hs := crcBytes_snoc (crcBytes 4294967295 (ls.take k).flatten) (ls[k]?.getD []) k' (by rw [hbs.len]; exact hlt')
          have HS := mkHid hs
          clear hs
          go_wp2
          go_loop [3, 25] (fun s i => ∃ j : Nat, j ≤ 8 ∧ i = .int .i64 j ∧ s = .int .u32 (crcSteps j (bits .xor .u32 (crcBytes (crcBytes 4294967295 (ls.take k).flatten) ((ls[k]?.getD []).take k')) ((ls[k]?.getD [])[k']?.getD 0)))) (fun _ i => 8 - (intOf i).toNat)
          case atStart => exact ⟨0, Nat.zero_le _, rfl, rfl⟩
          case round =>
            obtain ⟨j, hj, rfl, rfl⟩ := hrel
            by_cases hlj : j < 8
            · go_wp2
              all_goals
                go_round
                case rel => exact ⟨j + 1, by omega, by go_num, by simp only [crcSteps, crcStep]; rw [‹(_ == (1 : Int)) = _›]; rfl⟩
                case measure => simp [intOf]; omega
            · obtain rfl : j = 8 := by omega
              go_wp2
              go_round
              case rel => exact ⟨k' + 1, by omega, by go_num, by rw [HS.out]⟩
              case measure => simp [intOf]; omega
        · obtain rfl : k' = n' := by omega
          have hf := crcBytes_flat 4294967295 ls k (by rw [hx.1]; exact hlt)
          have HF := mkHid hf
          have HT := mkHid (List.take_of_length_le (l := ls[k]?.getD []) (i := k') (by rw [hbs.len]; omega))
          clear hf
          go_wp2
          go_round
          case rel => exact ⟨k + 1, by omega, by go_num, by rw [HF.out, HT.out]⟩
          case measure => simp [intOf]; omega
    · go_wp2
      go_ret
      exact ⟨ret_int (by rw [crcSum, List.take_of_length_le (by rw [hx.1]; omega)]), rfl⟩

end Go.Proofs.Ytbgfccfhiocomaa
