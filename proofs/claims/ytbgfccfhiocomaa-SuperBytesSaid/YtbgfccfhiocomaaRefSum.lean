/- The walk of portageref02.Sum. -/
import Derived.Test.YtbgfccfhiocomaaRows
import Derived.Test.YtbgfccfhiocomaaCrc
namespace Go.Proofs.Ytbgfccfhiocomaa
open Go.RowKit

set_option maxHeartbeats 400000 in
theorem rsum_any (a : Option Addr) (n c : Nat) (l : List Int) (w : World) (hx : BS w w.heap.size a n l) (hn : n ≤ maxLen) :
    Calls Try.prog 77 #[.slice a n c] w fun e w' => e = .returned (.int .i64 (crcSum l)) ∧ w = w' := by
  unfold maxLen at hn
  go_enter Try.func77, Try.ntmps77
  go_wp2
  go_loop [3, 4] (fun s i => ∃ k : Nat, k ≤ n ∧ i = .int .i64 k ∧ s = .int .i64 (rBytes 4294967295 (l.take k) : Nat)) (fun _ i => n - (intOf i).toNat)
  case atStart => exact ⟨0, Nat.zero_le _, rfl, rfl⟩
  case round =>
    obtain ⟨k, hk, rfl, rfl⟩ := hrel
    have hr := rBytes_lt (l.take k) 4294967295 (by omega)
    by_cases hlt : k < n
    · obtain ⟨b, o, rfl, hb, hc, hx0, hx1⟩ := hx.at_ hlt
      have HS := mkHid (rBytes_snoc 4294967295 l k (by rw [hx.len]; exact hlt))
      generalize rBytes 4294967295 (l.take k) = s0 at *
      go_wp2
      go_loop [3, 5] (fun s i => ∃ j : Nat, j ≤ 8 ∧ i = .int .i64 j ∧ s = .int .i64 (rSteps s0 (l[k]?.getD 0).toNat j : Nat)) (fun _ i => 8 - (intOf i).toNat)
      case atStart => exact ⟨0, Nat.zero_le _, rfl, rfl⟩
      case round =>
        obtain ⟨j, hj, rfl, rfl⟩ := hrel
        have hs1 := rSteps_lt hr (l[k]?.getD 0).toNat j
        have HD := mkHid (show rSteps s0 (l[k]?.getD 0).toNat (j + 1) = rStep (rSteps s0 (l[k]?.getD 0).toNat j) (l[k]?.getD 0).toNat j from rfl)
        generalize hE : rSteps s0 (l[k]?.getD 0).toNat j = s1 at *
        have HE := mkHid hE
        clear hE
        by_cases hlj : j < 8
        · go_wp2
          · go_round
            case rel => exact ⟨j + 1, by omega, by go_num, by rw [HD.out]; exact congrArg _ (rstep_yes hx0 hs1 ‹_›)⟩
            case measure => simp [intOf]; omega
          · go_round
            case rel => exact ⟨j + 1, by omega, by go_num, by rw [HD.out]; exact congrArg _ (rstep_no hx0 ‹_›)⟩
            case measure => simp [intOf]; omega
        · obtain rfl : j = 8 := by omega
          go_wp2
          go_round
          case rel => exact ⟨k + 1, by omega, by go_num, by rw [HS.out, HE.out]⟩
          case measure => simp [intOf]; omega
    · obtain rfl : k = n := by omega
      have HT := mkHid (sum_same hx.2)
      have HL := mkHid (List.take_of_length_le (l := l) (i := k) (by rw [hx.len]; omega))
      go_wp2
      go_ret
      exact ⟨ret_int (by rw [HT.out, HL.out]), rfl⟩

end Go.Proofs.Ytbgfccfhiocomaa
