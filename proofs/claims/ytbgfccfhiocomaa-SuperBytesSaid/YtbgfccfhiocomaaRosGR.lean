/- portageref05.Right, copied, Count; portagelaw05's of, same, awake by contract. -/
import Derived.Test.YtbgfccfhiocomaaRosER
namespace Go.Proofs.Ytbgfccfhiocomaa
open Go.RowKit Go.Shelf

theorem rightL_of {xs : List (Int × Int)} (h8 : xs.length ≤ 8) (h : ∀ x ∈ xs, rightE x = true) : rightL xs = true := by
  unfold rightL
  rw [Bool.and_eq_true]
  exact ⟨decide_eq_true h8, List.all_eq_true.2 h⟩
theorem rightL_no {xs : List (Int × Int)} {j : Nat} {x : Int × Int} (hx : xs[j]? = some x) (h : rightE x = false) : rightL xs = false := by
  cases hr : rightL xs with
  | false => rfl
  | true => exact absurd ((rightL_ok hr).2 x (List.mem_of_getElem? hx)) (by rw [h]; decide)
theorem rightL_long {xs : List (Int × Int)} (h : 8 < xs.length) : rightL xs = false := by
  cases hr : rightL xs with
  | false => rfl
  | true => exact absurd (rightL_ok hr).1 (by omega)

set_option maxRecDepth 20000 in
set_option maxHeartbeats 1000000 in
theorem rright_any (a : Option Addr) (n c : Nat) (xs : List (Int × Int)) (w : World) (hs : ES w w.heap.size a n xs) (hc : CapOk n c) :
    Calls Try.prog 30 #[.slice a n c] w fun e w' => e = .returned (.bool (rightL xs)) ∧ w = w' := by
  have HS := mkHid hs
  have HL := mkHid hs.len
  obtain ⟨hc1, hc2, hc3⟩ := hc
  clear hs
  go_enter Try.func30, Try.ntmps30
  go_wp2_with fail
  go_loop [3] (fun i => ∃ q : Nat, q ≤ n ∧ i = .int .i64 q ∧ Hid (∀ j x, j < q → xs[j]? = some x → rightE x = true)) (fun i => n - (intOf i).toNat)
  case atStart => exact ⟨0, Nat.zero_le _, rfl, mkHid fun j x h => absurd h (by omega)⟩
  case round =>
    obtain ⟨q, hq, rfl, HA⟩ := hrel
    by_cases hlt : q < n
    · obtain ⟨b, o, x, rfl, hb, hx, ⟨⟨s0, s1⟩, ⟨z0, z1⟩⟩, h0, h1⟩ := HS.out.at_ hlt
      obtain ⟨s, z⟩ := x
      simp only at s0 s1 z0 z1 h0 h1
      have HX := mkHid hx
      clear hx
      cases hR : rightE (s, z) with
      | true =>
        have HR := mkHid hR
        have hR := of_decide_eq_true hR
        simp only at hR
        by_cases h3 : s = 3
        · subst h3
          have g1 : 0 ≤ z := by omega
          have g2 : z ≤ 4096 := by omega
          clear hR
          go_wp2_with fail
          go_round
          case measure => simp [intOf]; omega
          case rel =>
            refine ⟨q + 1, by omega, by go_num, mkHid fun j y hj hy => ?_⟩
            by_cases e : j < q
            · exact HA.out j y e hy
            · obtain rfl : j = q := by omega
              rw [HX.out] at hy
              injection hy with hy
              rw [← hy]; exact HR.out
        · have g0 : 1 ≤ s := by omega
          have g4 : s ≤ 3 := by omega
          have g1 : 3 ≤ z := by omega
          have g2 : z ≤ 4096 := by omega
          have g3 : (s != 3) = true := by rw [bne_iff_ne]; exact h3
          have g5 : 0 ≤ z := by omega
          clear hR h3
          go_wp2_with fail
          go_round
          case measure => simp [intOf]; omega
          case rel =>
            refine ⟨q + 1, by omega, by go_num, mkHid fun j y hj hy => ?_⟩
            by_cases e : j < q
            · exact HA.out j y e hy
            · obtain rfl : j = q := by omega
              rw [HX.out] at hy
              injection hy with hy
              rw [← hy]; exact HR.out
      | false =>
        have HV := mkHid (rightL_no HX.out hR)
        have hR := of_decide_eq_false hR
        simp only at hR
        by_cases g0 : s < 1
        · clear hR
          go_wp2_with fail
          go_ret
          exact ⟨ret_bool HV.out.symm, rfl⟩
        by_cases g1 : 3 < s
        · clear hR
          go_wp2_with fail
          go_ret
          exact ⟨ret_bool HV.out.symm, rfl⟩
        by_cases g2 : z < 0
        · clear hR
          go_wp2_with fail
          go_ret
          exact ⟨ret_bool HV.out.symm, rfl⟩
        by_cases g3 : 4096 < z
        · clear hR
          go_wp2_with fail
          go_ret
          exact ⟨ret_bool HV.out.symm, rfl⟩
        have g4 : (s != 3) = true := by rw [bne_iff_ne]; omega
        have g5 : z < 3 := by omega
        clear hR
        go_wp2_with fail
        go_ret
        exact ⟨ret_bool HV.out.symm, rfl⟩
    · obtain rfl : q = n := by omega
      by_cases h8 : q ≤ 8
      · have HV := mkHid (rightL_of (by rw [HL.out]; exact h8) fun x hx => by
          obtain ⟨j, hj, rfl⟩ := List.getElem_of_mem hx
          exact HA.out j _ (by rw [← HL.out]; exact hj) (List.getElem?_eq_getElem hj))
        go_wp2_with fail
        go_ret
        exact ⟨ret_bool (by rw [HV.out]; simp; omega), rfl⟩
      · have HV := mkHid (rightL_long (xs := xs) (by rw [HL.out]; omega))
        go_wp2_with fail
        go_ret
        exact ⟨ret_bool (by rw [HV.out]; simp; omega), rfl⟩

theorem own_set_other {w : World} {base : Nat} {e : TypeId} {s n g i : Nat} {v u : Value} {xs : List Value} (h : w.ownsRow base e s v n xs) (hg : g < base) : (w.setCell ⟨g, i, none⟩ u).ownsRow base e s v n xs := by
  refine ⟨h.1, ?_⟩
  rcases h.2 with h0 | ⟨r, cap, cur, h1, h2, h3, h4⟩
  · exact .inl h0
  · exact .inr ⟨r, cap, cur, h1, h2, (heap_setCell_other _ _ _ _ (fun e => by have e : r = g := e; omega)).trans h3, h4⟩

end Go.Proofs.Ytbgfccfhiocomaa
