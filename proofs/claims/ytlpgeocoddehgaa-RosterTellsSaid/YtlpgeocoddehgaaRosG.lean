/- portageref05.Right, copied, Count; portagelaw05's of, same, awake by contract. -/
import Derived.Test.YtlpgeocoddehgaaRosF
namespace Go.Proofs.Ytlpgeocoddehgaa
open Go.RowKit Go.Shelf

theorem rightL_of {xs : List (Int × Int)} (h8 : xs.length ≤ 8) (h : ∀ x ∈ xs, rightE x = true) : rightL xs = true := by
  unfold rightL
  rw [Bool.and_eq_true]
  exact ⟨decide_eq_true h8, List.all_eq_true.2 h⟩
theorem rightL_no {xs : List (Int × Int)} {j : Nat} {x : Int × Int} (hx : xs[j]? = some x) (h : rightE x = false) : rightL xs = false := by
  cases hr : rightL xs with
  | false => rfl
  | true => exact absurd ((rightL_ok hr).2 x (List.mem_of_getElem? hx)) (by rw [h]; decide)
theorem rightL_long {xs : List (Int × Int)} (h : 8 < xs.length) : rightL xs = false := by
  cases hr : rightL xs with
  | false => rfl
  | true => exact absurd (rightL_ok hr).1 (by omega)

set_option maxRecDepth 20000 in
set_option maxHeartbeats 1000000 in
theorem rright_any (a : Option Addr) (n c : Nat) (xs : List (Int × Int)) (w : World) (hs : ES w w.heap.size a n xs) (hc : CapOk n c) :
    Calls Try.prog 10 #[.slice a n c] w fun e w' => e = .returned (.bool (rightL xs)) ∧ w = w' := by
  have HS := mkHid hs
  have HL := mkHid hs.len
  obtain ⟨hc1, hc2, hc3⟩ := hc
  clear hs
  go_enter Try.func10, Try.ntmps10
  go_wp2_with fail
  go_loop [3] (fun i => ∃ q : Nat, q ≤ n ∧ i = .int .i64 q ∧ Hid (∀ j x, j < q → xs[j]? = some x → rightE x = true)) (fun i => n - (intOf i).toNat)
  case atStart => exact ⟨0, Nat.zero_le _, rfl, mkHid fun j x h => absurd h (by omega)⟩
  case round =>
    obtain ⟨q, hq, rfl, HA⟩ := hrel
    by_cases hlt : q < n
    · obtain ⟨b, o, x, rfl, hb, hx, ⟨⟨s0, s1⟩, ⟨z0, z1⟩⟩, h0, h1⟩ := HS.out.at_ hlt
      obtain ⟨s, z⟩ := x
      simp only at s0 s1 z0 z1 h0 h1
      have HX := mkHid hx
      clear hx
      cases hR : rightE (s, z) with
      | true =>
        have HR := mkHid hR
        have hR := of_decide_eq_true hR
        simp only at hR
        by_cases h3 : s = 3
        · subst h3
          have g1 : 0 ≤ z := by omega
          have g2 : z ≤ 4096 := by omega
          clear hR
          go_wp2_with fail
          go_round
          case measure => simp [intOf]; omega
          case rel =>
            refine ⟨q + 1, by omega, by go_num, mkHid fun j y hj hy => ?_⟩
            by_cases e : j < q
            · exact HA.out j y e hy
            · obtain rfl : j = q := by omega
              rw [HX.out] at hy
              injection hy with hy
              rw [← hy]; exact HR.out
        · have g0 : 1 ≤ s := by omega
          have g4 : s ≤ 3 := by omega
          have g1 : 3 ≤ z := by omega
          have g2 : z ≤ 4096 := by omega
          have g3 : (s != 3) = true := by rw [bne_iff_ne]; exact h3
          have g5 : 0 ≤ z := by omega
          clear hR h3
          go_wp2_with fail
          go_round
          case measure => simp [intOf]; omega
          case rel =>
            refine ⟨q + 1, by omega, by go_num, mkHid fun j y hj hy => ?_⟩
            by_cases e : j < q
            · exact HA.out j y e hy
            · obtain rfl : j = q := by omega
              rw [HX.out] at hy
              injection hy with hy
              rw [← hy]; exact HR.out
      | false =>
        have HV := mkHid (rightL_no HX.out hR)
        have hR := of_decide_eq_false hR
        simp only at hR
        by_cases g0 : s < 1
        · clear hR
          go_wp2_with fail
          go_ret
          exact ⟨ret_bool HV.out.symm, rfl⟩
        by_cases g1 : 3 < s
        · clear hR
          go_wp2_with fail
          go_ret
          exact ⟨ret_bool HV.out.symm, rfl⟩
        by_cases g2 : z < 0
        · clear hR
          go_wp2_with fail
          go_ret
          exact ⟨ret_bool HV.out.symm, rfl⟩
        by_cases g3 : 4096 < z
        · clear hR
          go_wp2_with fail
          go_ret
          exact ⟨ret_bool HV.out.symm, rfl⟩
        have g4 : (s != 3) = true := by rw [bne_iff_ne]; omega
        have g5 : z < 3 := by omega
        clear hR
        go_wp2_with fail
        go_ret
        exact ⟨ret_bool HV.out.symm, rfl⟩
    · obtain rfl : q = n := by omega
      by_cases h8 : q ≤ 8
      · have HV := mkHid (rightL_of (by rw [HL.out]; exact h8) fun x hx => by
          obtain ⟨j, hj, rfl⟩ := List.getElem_of_mem hx
          exact HA.out j _ (by rw [← HL.out]; exact hj) (List.getElem?_eq_getElem hj))
        go_wp2_with fail
        go_ret
        exact ⟨ret_bool (by rw [HV.out]; simp; omega), rfl⟩
      · have HV := mkHid (rightL_long (xs := xs) (by rw [HL.out]; omega))
        go_wp2_with fail
        go_ret
        exact ⟨ret_bool (by rw [HV.out]; simp; omega), rfl⟩

/-- A new roster is answered. -/
def RetO (w : World) (xs : List (Int × Int)) (e : Ending) (w' : World) : Prop :=
  ∃ A c, e = .returned (.agg #[.slice A xs.length c]) ∧ ES w' w'.heap.size A xs.length xs ∧ CapOk xs.length c ∧ Below w.heap.size w w'
theorem own_set_other {w : World} {base : Nat} {e : TypeId} {s n g i : Nat} {v u : Value} {xs : List Value} (h : w.ownsRow base e s v n xs) (hg : g < base) : (w.setCell ⟨g, i, none⟩ u).ownsRow base e s v n xs := by
  refine ⟨h.1, ?_⟩
  rcases h.2 with h0 | ⟨r, cap, cur, h1, h2, h3, h4⟩
  · exact .inl h0
  · exact .inr ⟨r, cap, cur, h1, h2, (heap_setCell_other _ _ _ _ (fun e => by have e : r = g := e; omega)).trans h3, h4⟩
theorem flat_take_succ {xs : List (Int × Int)} {q : Nat} {x : Int × Int} (hx : xs[q]? = some x) : (xs.take (q + 1)).flatMap enC = (xs.take q).flatMap enC ++ [.int .i64 x.1, .int .i64 x.2] := by
  obtain ⟨hl, he⟩ := List.getElem?_eq_some_iff.1 hx
  rw [List.take_succ_eq_append_getElem hl, List.flatMap_append, he]
  rfl
set_option maxRecDepth 20000 in
set_option maxHeartbeats 1000000 in
theorem of_any (a : Option Addr) (n c : Nat) (xs : List (Int × Int)) (w : World) (hs : ES w w.heap.size a n xs) (hc : CapOk n c) (hn : n ≤ 1000000) :
    Calls Try.prog 12 #[.slice a n c] w (RetO w xs) := by
  have HS := mkHid hs
  have HL := mkHid hs.len
  obtain ⟨hc1, hc2, hc3⟩ := hc
  clear hs
  go_enter Try.func12, Try.ntmps12
  go_wp2_with fail
  go_loopw [8] (fun i wr => ∃ (q : Nat) (A : Option Addr) (C : Nat), q ≤ n ∧ i = .int .i64 q ∧ Hid (wr.ownsRow (w.heap.size + 2) 46 2 (.slice A q C) q ((xs.take q).flatMap enC)) ∧ Hid (wr.heap[w.heap.size + 1]? = some (.cells #[.slice A q C] 27 (0, 0))) ∧ Hid (wr.heap[w.heap.size]? = some (.cells #[.slice none 0 0] 27 (0, 0))) ∧ Hid (Below w.heap.size w wr)) (fun i _ => n - (intOf i).toNat)
  case atStart =>
    refine ⟨0, none, 0, Nat.zero_le _, rfl, mkHid (World.ownsRow_nil _ _ _ _), mkHid ?_, mkHid ((Below.heap_alloc _ _ _ (by simp)).trans (heap_alloc_new _ _)), mkHid (((Below.refl _ _).alloc (Nat.le_refl _) _).alloc (by simp) _)⟩
    have := heap_alloc_new (w.alloc (.cells #[.slice none 0 0] 27)) (.cells #[.slice none 0 0] 27)
    simpa using this
  case round =>
    obtain ⟨q, A, C, hq, rfl, HO, HR, HZ, HB⟩ := hrel
    have c1 := cell_of_row wr (w.heap.size + 1) 0 _ _ _ HR.out
    have z1 := frozen_of_row wr (w.heap.size + 1) 0 _ _ HR.out
    have hlt1 := (Array.getElem?_eq_some_iff.1 HR.out).1
    simp at c1
    by_cases hlt : q < n
    · obtain ⟨b, o, x, rfl, hb, hx, hok, h0, h1⟩ := HS.out.at_ hlt
      have d0 := (HB.out.cell (p := ⟨b, o + q * 2, none⟩) hb).trans h0
      have d1 := (HB.out.cell (p := ⟨b, o + q * 2 + 1, none⟩) hb).trans h1
      have HX := mkHid hx
      have hbr : ∀ g, (Value.slice A q C).ownBlock = some g → g ≠ w.heap.size + 1 ∧ g ≠ w.heap.size := fun g hg => by have := (HO.out.lt g hg).1; omega
      have HBR := mkHid hbr
      clear hx h0 h1 hok hbr
      go_wp2_with (at_builtin; refine wpList_app _ rfl (.tmp 13) (.tmp 19) _ rfl (w.heap.size + 2) el_en A q C _ rfl ((HO.out.alloc _).alloc _) (wr.heap.size + 1 + 1) (some ⟨wr.heap.size + 1, 0, none⟩) 1 1 [.int .i64 x.1, .int .i64 x.2] rfl (SL.of_block (cur := #[.int .i64 x.1, .int .i64 x.2]) (by have := heap_alloc_new (wr.alloc (.cells #[.int .i64 x.1, .int .i64 x.2] 38)) (.cells #[.int .i64 x.1, .int .i64 x.2] 46); simpa using this) rfl (by omega)) (enC_one [x]) (by unfold maxLen; omega) (by omega) (by simp; omega) ?_; intro A' c' w3 ho3 hg3 _; have hr3 := ((hg3.block (w.heap.size + 1) (by simp; omega) (fun e => (HBR.out _ e.symm).1 rfl)).trans (Below.heap_alloc _ _ _ (by simp; omega))).trans ((Below.heap_alloc _ _ _ hlt1).trans HR.out); have e1 := cell_of_row w3 (w.heap.size + 1) 0 _ _ _ hr3; have f1 := frozen_of_row w3 (w.heap.size + 1) 0 _ _ hr3; simp at e1; have HR3 := mkHid hr3; have hz3 := ((hg3.block w.heap.size (by simp; omega) (fun e => (HBR.out _ e.symm).2 rfl)).trans (Below.heap_alloc _ _ _ (by simp; omega))).trans ((Below.heap_alloc _ _ _ (by omega)).trans HZ.out); have HZ3 := mkHid hz3; have HB3 := mkHid (((HB.out.alloc (by omega) _).alloc (by simp; omega) _).grown hg3 (by simp; omega) (fun k hk => by have := (HO.out.lt k hk).1; omega)); have HO3 := mkHid ho3; clear ho3 hg3 hr3 hz3)
      have HT := mkHid (flat_take_succ HX.out)
      go_roundw
      case measure => simp [intOf]; omega
      case rel =>
        refine ⟨q + 1, A', c', by omega, by go_num, mkHid ?_, mkHid (heap_setCell_same _ _ _ _ _ _ HR3.out), mkHid ((heap_setCell_other _ _ _ _ (by simp)).trans HZ3.out), mkHid (HB3.out.setCell (by simp) _)⟩
        rw [HT.out]
        exact own_set_other HO3.out (by omega)
    · obtain rfl : q = n := by omega
      have c0 := cell_of_row wr w.heap.size 0 _ _ _ HZ.out
      have z0 := frozen_of_row wr w.heap.size 0 _ _ HZ.out
      simp at c0
      go_wp2_with fail
      refine bodyPost_ret (v := .agg #[.slice A q C]) (by simp [results, Try.results12, go_sem, c0]) rfl ?_
      have hq := HL.out
      refine ⟨A, C, by rw [hq], ?_, ⟨by rw [hq]; exact (own_cap HO.out).1, (own_cap HO.out).2, by rw [hq]; omega⟩, HB.out.setCell (Nat.le_refl _) _⟩
      rw [hq, show (wr.setCell ⟨w.heap.size, 0, none⟩ (.slice A q C)).heap.size = wr.heap.size by simp [World.setCell]]
      refine ES.set_slice ⟨?_, HS.out.2⟩ HZ.out
      have := SL.of_own HO.out
      rwa [List.take_of_length_le (by omega)] at this

end Go.Proofs.Ytlpgeocoddehgaa
