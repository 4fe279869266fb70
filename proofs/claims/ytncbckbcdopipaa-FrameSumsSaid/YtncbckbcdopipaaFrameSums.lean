/- FrameSums: for every input the law answers true and its argument reads as before: the walk of the law. -/
import Derived.Test.YtncbckbcdopipaaAwake02
import Derived.Test.YtncbckbcdopipaaRefSum
namespace Go.Proofs.Ytncbckbcdopipaa
open Go.RowKit

theorem flatten_take_succ {α : Type} (ls : List (List α)) (k : Nat) (h : k < ls.length) : (ls.take (k + 1)).flatten = (ls.take k).flatten ++ ls[k]?.getD [] := by
  rw [List.take_succ_eq_append_getElem h, List.getElem?_eq_getElem h, List.flatten_append]; simp

set_option maxRecDepth 20000 in
set_option maxHeartbeats 400000 in
theorem sums_any (a : Option Addr) (n c : Nat) (ls : List (List Int)) (w : World) (hx : BSS w w.heap.size a n ls) (hn : n * 24 ≤ 140737488351232) :
    Calls Try.prog 3 #[.slice a n c] w fun e w' => e = .returned (.bool true) ∧ Below w.heap.size w w' := by
  go_enter Try.func3, Try.ntmps3
  go_wp2_with fail
  go_loopw [3, 4, 9] (fun s v i wr => ∃ (k L : Nat) (A : Option Addr) (C : Nat), k ≤ n ∧ i = .int .i64 k ∧ s = .int .i64 L ∧ L ≤ 20000 ∧ v = .slice A L C ∧ (0 < k → n ≤ 1000) ∧
      wr.ownsRow w.heap.size 5 1 (.slice A L C) L ((ls.take k).flatten.map u8) ∧ Below w.heap.size w wr) (fun _ _ i _ => n - (intOf i).toNat)
  case atStart => exact ⟨0, 0, none, 0, Nat.zero_le _, rfl, rfl, Nat.zero_le _, rfl, fun h => absurd h (by omega), World.ownsRow_nil _ _ _ _, Below.refl _ _⟩
  case round =>
    obtain ⟨k, L, A, C, hk, rfl, rfl, hL, rfl, h1000, hown, hb⟩ := hrel
    have hsz := hb.size
    by_cases hlt : k < n
    · obtain ⟨b, o, rfl, hbl, a', n', c', hc0, ⟨hn', hc', hr'⟩, hbs0⟩ := hx.2 k hlt
      unfold maxLen at hc'
      have hc : wr.cell? ⟨b, o + k, none⟩ = some (.slice a' n' c') := (hb.cell (p := ⟨b, o + k, none⟩) hbl).trans hc0
      have hbs := (hbs0.below hb).1
      clear hc0 hbs0
      have hfl := flatten_take_succ ls k (by rw [hx.1]; exact hlt)
      have HF := mkHid hfl
      clear hfl
      by_cases hbig : 20000 < L + n'
      · go_wp2_with (go_at_call 11; refine (awake_any _).mono ?_; rintro e w1 ⟨rfl, hb1⟩)
        go_ret
        exact ⟨rfl, hb.trans (hb1.mono hsz)⟩
      · by_cases hp : 1000 < n
        · go_wp2_with (go_at_call 11; refine (awake_any _).mono ?_; rintro e w1 ⟨rfl, hb1⟩)
          go_ret
          exact ⟨rfl, hb.trans (hb1.mono hsz)⟩
        · go_wp2_with (at_builtin; refine wpList_app _ rfl (.tmp 25) (.tmp 26) _ rfl w.heap.size el_u8 A L C _ rfl hown w.heap.size a' n' c' _ rfl hbs (u8_cells _) (by unfold maxLen; omega) (by omega) hsz ?_; intro A' C' w1 hown1 hg1 hat)
          go_roundw
          case rel =>
            refine ⟨k + 1, L + n', A', C', by omega, by go_num, by go_num, by omega, rfl, fun _ => by omega, ?_, hb.grown hg1 hsz (own_base hown)⟩
            rw [HF.out, List.map_append]; exact hown1
          case measure => simp [intOf]; omega
    · obtain rfl : k = n := by omega
      have HT := mkHid (List.take_of_length_le (l := ls) (i := k) (by rw [hx.1]; omega))
      rw [HT.out] at hown
      have hcr := crcSum_range hx.ok
      have hbs : BS wr wr.heap.size A L ls.flatten := ⟨SL.of_own hown, hx.ok⟩
      go_wp2_with (first
        | (go_at_call 11; refine (awake_any _).mono ?_; rintro e w1 ⟨rfl, hb1⟩)
        | (go_at_call 12; refine (sum_any _ _ _ ls _ ((hx.below hb).more hsz) (by unfold maxLen; omega)).mono ?_; rintro e w1 ⟨rfl, rfl⟩)
        | (go_at_call 13; refine (rsum_any _ _ _ ls.flatten _ hbs (by unfold maxLen; omega)).mono ?_; rintro e w1 ⟨rfl, rfl⟩))
      go_ret
      exact ⟨rfl, hb.trans (hb1.mono hsz)⟩

end Go.Proofs.Ytncbckbcdopipaa
