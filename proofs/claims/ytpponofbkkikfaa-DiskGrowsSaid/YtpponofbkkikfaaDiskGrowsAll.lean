/- portagelaw03.DiskGrows answers true, whatever is asked. -/
import Derived.Test.YtpponofbkkikfaaDiskGrows
namespace Go.Proofs.Ytpponofbkkikfaa
open Go.RowKit

set_option maxRecDepth 20000 in
set_option maxHeartbeats 2000000 in
theorem grows_none (S : Int) (a : Option Addr) (n c : Nat) (m : Int) (w : World) (hS : I64 S) (hb : S < 1 ∨ 4096 < S) :
    Calls Try.prog 6 #[.int .i64 S, .slice a n c, .int .i64 m] w fun e w' => e = .returned (.bool true) ∧ Below w.heap.size w w' := by
  have HN := mkHid (newDisk_no S w hS hb)
  obtain ⟨s0, s1⟩ := hS
  rcases hb with h | h
  all_goals go_enter Try.func6, Try.ntmps6
  all_goals go_wp2_with fail
  all_goals refine HN.out.mono ?_
  all_goals rintro e w1 ⟨rfl, rfl⟩
  all_goals go_wp2_with fail
  all_goals refine (awake_any _).mono ?_
  all_goals rintro e w2 ⟨rfl, hb2⟩
  all_goals go_wp2_with fail
  all_goals go_ret
  all_goals exact ⟨rfl, hb2⟩

set_option maxRecDepth 20000 in
set_option maxHeartbeats 2000000 in
theorem grows_much (S : Nat) (a : Option Addr) (n c : Nat) (m : Int) (w : World) (hS1 : 1 ≤ S) (hS2 : S ≤ 4096) (hm : I64 m) (hn : n ≤ 140737488351232) (hb : 40 < S ∨ (S ≤ 40 ∧ 60 < n) ∨ (S ≤ 40 ∧ n ≤ 60 ∧ 100 < m ∧ m ≤ 4096)) :
    Calls Try.prog 6 #[.int .i64 S, .slice a n c, .int .i64 m] w fun e w' => e = .returned (.bool true) ∧ Below w.heap.size w w' := by
  have HN := mkHid (newDisk_any S w hS1 hS2)
  obtain ⟨m0, m1⟩ := hm
  rcases hb with h | ⟨h, h'⟩ | ⟨h, h', h2, h3⟩
  all_goals go_enter Try.func6, Try.ntmps6
  all_goals go_wp2_with fail
  all_goals refine HN.out.mono ?_
  all_goals rintro e w1 ⟨g, F, rfl, _, _, hb1⟩
  all_goals have HB := mkHid hb1
  all_goals clear hb1
  all_goals go_wp2_with fail
  all_goals refine (awake_any _).mono ?_
  all_goals rintro e w2 ⟨rfl, hb2⟩
  all_goals go_wp2_with fail
  all_goals go_ret
  all_goals exact ⟨rfl, HB.out.trans (hb2.mono HB.out.size)⟩

theorem diskGrows_any (S : Int) (a : Option Addr) (n c : Nat) (xs : List Op) (m : Int) (w : World) (hS : I64 S) (hx : OPS w w.heap.size a n xs) (hn : n ≤ c ∧ c ≤ 140737488351232) (hm : I64 m) :
    Calls Try.prog 6 #[.int .i64 S, .slice a n c, .int .i64 m] w fun e w' => e = .returned (.bool true) ∧ Below w.heap.size w w' := by
  by_cases h1 : S < 1 ∨ 4096 < S
  · exact grows_none S a n c m w hS h1
  obtain ⟨s, rfl⟩ : ∃ s : Nat, S = s := ⟨S.toNat, by omega⟩
  by_cases h2 : 40 < s ∨ (s ≤ 40 ∧ 60 < n) ∨ (s ≤ 40 ∧ n ≤ 60 ∧ 100 < m ∧ m ≤ 4096)
  · exact grows_much s a n c m w (by omega) (by omega) hm (by omega) h2
  by_cases h3 : m ≤ 100
  · exact grows_small s a n c xs m w hx hn hm (by omega) (by omega) (by omega) h3
  · exact grows_big s a n c xs m w hx hn hm (by omega) (by omega) (by omega) (by omega)

end Go.Proofs.Ytpponofbkkikfaa
