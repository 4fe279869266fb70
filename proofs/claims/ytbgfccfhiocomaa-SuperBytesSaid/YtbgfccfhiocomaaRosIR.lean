/- slices.Equal at entries, Roster.Same by contract. -/
import Derived.Test.YtbgfccfhiocomaaRosHR
import Derived.Laws.StructEq
namespace Go.Proofs.Ytbgfccfhiocomaa
open Go.RowKit Go.Shelf

theorem neq_en (x1 x2 y1 y2 : Int) (w : World) : (binOp .neq 74 (.agg #[.int .i64 x1, .int .i64 x2]) (.agg #[.int .i64 y1, .int .i64 y2])).run Try.prog w = .ok (.bool (!(x1 == y1 && x2 == y2))) w := by
  have hu : Try.prog.underlying 74 = some (.struct (Try.prog.fieldsOf 74)) := by kernel_rfl
  have hp : Try.prog.stoodInHeld 74 = false := by kernel_rfl
  simp only [binOp]
  rw [show Op.equal 74 (.agg #[.int .i64 x1, .int .i64 x2]) (.agg #[.int .i64 y1, .int .i64 y2]) = Op.equalIn (9999 + 1) 74 (.agg #[.int .i64 x1, .int .i64 x2]) (.agg #[.int .i64 y1, .int .i64 y2]) from rfl]
  simp only [Sem.run_bind, run_equalIn_struct w 9999 _ _ _ hu hp]
  have ri := fun (d : Nat) (a b : Int) (w : World) => run_equalIn_int (P := Try.prog) w d 3 .i64 .i64 a b Try.underlying3
  cases h1 : x1 == y1 <;> cases h2 : x2 == y2 <;> simp [Program.fieldsOf, Try.underlying74, Op.eqFields, part, go_sem, ri, h1, h2]

set_option maxRecDepth 20000 in
set_option maxHeartbeats 1000000 in
theorem equalE_any (a : Option Addr) (n c : Nat) (xs : List (Int × Int)) (a' : Option Addr) (n' c' : Nat) (ys : List (Int × Int)) (w : World) (hs : ES w w.heap.size a n xs) (hc : CapOk n c) (hs' : ES w w.heap.size a' n' ys) (hc' : CapOk n' c') :
    Calls Try.prog 78 #[.slice a n c, .slice a' n' c'] w fun e w' => e = .returned (.bool (decide (xs = ys))) ∧ Below w.heap.size w w' := by
  have HS := mkHid hs
  have HS' := mkHid hs'
  have HL := mkHid hs.len
  have HL' := mkHid hs'.len
  have hneq := neq_en
  obtain ⟨hc1, hc2, hc3⟩ := hc
  obtain ⟨hc1', hc2', hc3'⟩ := hc'
  clear hs hs'
  by_cases hne : n = n'
  · subst hne
    go_enter Try.func78, Try.ntmps78
    go_wp2_with fail
    go_loopw [13] (fun i wr => ∃ q : Nat, q ≤ n ∧ i = .int .i64 q ∧ Hid (Below w.heap.size w wr) ∧ Hid (∀ j x y, j < q → xs[j]? = some x → ys[j]? = some y → x = y)) (fun i _ => n - (intOf i).toNat)
    case atStart => exact ⟨0, Nat.zero_le _, rfl, mkHid (Below.refl _ _), mkHid fun j x y h => absurd h (by omega)⟩
    case round =>
      obtain ⟨q, hq, rfl, HB, HA⟩ := hrel
      by_cases hlt : q < n
      · obtain ⟨b, o, x, rfl, hb, hx, _, h0, h1⟩ := HS.out.at_ hlt
        obtain ⟨b', o', y, rfl, hb', hy, _, h0', h1'⟩ := HS'.out.at_ hlt
        have d0 := (HB.out.cell (p := ⟨b, o + q * 2, none⟩) hb).trans h0
        have d1 := (HB.out.cell (p := ⟨b, o + q * 2 + 1, none⟩) hb).trans h1
        have d0' := (HB.out.cell (p := ⟨b', o' + q * 2, none⟩) hb').trans h0'
        have d1' := (HB.out.cell (p := ⟨b', o' + q * 2 + 1, none⟩) hb').trans h1'
        have HX := mkHid hx
        have HY := mkHid hy
        obtain ⟨x1, x2⟩ := x
        obtain ⟨y1, y2⟩ := y
        simp only at d0 d1 d0' d1'
        have i0 : (0 : Int) ≤ q := by omega
        have i1 : (q : Int) < n := by omega
        clear h0 h1 h0' h1' hx hy
        by_cases g : (x1, x2) = (y1, y2)
        · injection g with g1 g2
          subst g1
          subst g2
          have gb1 : (x1 == x1 && x2 == x2) = true := by simp
          go_wp2_with fail
          go_quiet (fail)
          go_wp2_with fail
          go_roundw
          case measure => simp [intOf]; omega
          case rel =>
            refine ⟨q + 1, by omega, by go_num, mkHid (below_drewN HB.out _), mkHid fun j u v hj hu hv => ?_⟩
            by_cases e : j < q
            · exact HA.out j u v e hu hv
            · obtain rfl : j = q := by omega
              rw [HX.out] at hu
              rw [HY.out] at hv
              rw [hu] at hv
              injection hv
        · have gb1 : (x1 == y1 && x2 == y2) = false := by
            cases h1 : x1 == y1 && x2 == y2 with
            | false => rfl
            | true => simp at h1; exact absurd (by rw [h1.1, h1.2]) g
          have HV := mkHid (show decide (xs = ys) = false from decide_eq_false fun e => g (by
            have h1 := HX.out
            rw [e, HY.out] at h1
            injection h1 with h1
            exact h1.symm))
          clear g
          go_wp2_with fail
          go_quiet (fail)
          go_wp2_with fail
          go_ret
          exact ⟨ret_bool HV.out.symm, below_drewN HB.out _⟩
      · obtain rfl : q = n := by omega
        have HV := mkHid (show decide (xs = ys) = true from decide_eq_true (ext_take (by rw [HL.out, HL'.out]) fun j x y hx hy => HA.out j x y (by have := (List.getElem?_eq_some_iff.1 hx).1; have := HL.out; omega) hx hy))
        go_wp2_with fail
        go_ret
        exact ⟨ret_bool HV.out.symm, HB.out⟩
  · have g : ((n : Int) != (n' : Int)) = true := by simp; omega
    have HV := mkHid (show decide (xs = ys) = false from decide_eq_false fun e => hne (by rw [← HL.out, ← HL'.out, e]))
    clear hne
    go_enter Try.func78, Try.ntmps78
    go_wp2_with fail
    go_ret
    exact ⟨ret_bool HV.out.symm, Below.refl _ _⟩

set_option maxRecDepth 20000 in
set_option maxHeartbeats 1000000 in
theorem rosSame_any (a : Option Addr) (n c : Nat) (xs : List (Int × Int)) (a' : Option Addr) (n' c' : Nat) (ys : List (Int × Int)) (w : World) (hs : ES w w.heap.size a n xs) (hc : CapOk n c) (hs' : ES w w.heap.size a' n' ys) (hc' : CapOk n' c') :
    Calls Try.prog 41 #[.agg #[.slice a n c], .agg #[.slice a' n' c']] w fun e w' => e = .returned (.bool (rightL xs && (rightL ys && decide (xs = ys)))) ∧ Below w.heap.size w w' := by
  obtain ⟨W, hW⟩ : ∃ W, (w.alloc (.cells #[.slice a n c] 33)).alloc (.cells #[.slice a' n' c'] 33) = W := ⟨_, rfl⟩
  have HAL := mkHid (show Below w.heap.size w W by rw [← hW]; exact ((Below.refl _ _).alloc (Nat.le_refl _) _).alloc (by simp) _)
  have h1 : W.heap[w.heap.size]? = some (.cells #[.slice a n c] 33) := by rw [← hW]; exact (Below.heap_alloc _ _ _ (by simp)).trans (heap_alloc_new _ _)
  have h2 : W.heap[w.heap.size + 1]? = some (.cells #[.slice a' n' c'] 33) := by rw [← hW]; have := heap_alloc_new (w.alloc (.cells #[.slice a n c] 33)) (.cells #[.slice a' n' c'] 33); simpa using this
  have hsz : W.heap.size = w.heap.size + 2 := by rw [← hW]; simp
  have HX := mkHid (hs.next HAL.out)
  have HY := mkHid (hs'.next HAL.out)
  have HC := mkHid hc
  have HC' := mkHid hc'
  have HF := mkHid (show ∀ Z, Below W.heap.size W Z → Z.cell? ⟨w.heap.size, 0, none⟩ = some (.slice a n c) ∧ Z.cell? ⟨w.heap.size + 1, 0, none⟩ = some (.slice a' n' c') from fun Z hZ => by
    have g1 := cell_of_row Z w.heap.size 0 _ _ _ ((hZ.block _ (by omega)).trans h1)
    have g2 := cell_of_row Z (w.heap.size + 1) 0 _ _ _ ((hZ.block _ (by omega)).trans h2)
    exact ⟨g1, g2⟩)
  obtain ⟨c1, c2⟩ := HF.out W (Below.refl _ _)
  clear hs hs' hc hc' h1 h2 hsz
  cases hx : rightL xs with
  | false =>
    have HK := mkHid (check_no a n c xs W HX.out HC.out hx)
    clear hx
    go_enter Try.func41, Try.ntmps41
    go_wp2_with fail
    refine HK.out.mono ?_
    rintro e w1 ⟨rfl, hb1⟩
    clear hW
    go_wp2_with fail
    go_ret
    exact ⟨rfl, HAL.out.trans (hb1.mono HAL.out.size)⟩
  | true =>
    have HK := mkHid (check_ok a n c xs W HX.out HC.out hx)
    clear hx
    cases hy : rightL ys with
    | false =>
      have HY2 := mkHid hy
      clear hy
      go_enter Try.func41, Try.ntmps41
      go_wp2_with fail
      refine HK.out.mono ?_
      rintro e w1 ⟨rfl, hb1⟩
      clear hW c1 c2
      obtain ⟨c1, c2⟩ := HF.out w1 hb1
      have HB1 := mkHid hb1
      clear hb1
      go_wp2_with fail
      refine (check_no a' n' c' ys w1 (HY.out.next HB1.out) HC'.out HY2.out).mono ?_
      rintro e w2 ⟨rfl, hb2⟩
      go_wp2_with fail
      go_ret
      exact ⟨rfl, HAL.out.trans ((below_next HB1.out hb2).mono HAL.out.size)⟩
    | true =>
      have HY2 := mkHid hy
      clear hy
      go_enter Try.func41, Try.ntmps41
      go_wp2_with fail
      refine HK.out.mono ?_
      rintro e w1 ⟨rfl, hb1⟩
      clear hW c1 c2
      obtain ⟨c1, c2⟩ := HF.out w1 hb1
      have HB1 := mkHid hb1
      clear hb1
      go_wp2_with fail
      refine (check_ok a' n' c' ys w1 (HY.out.next HB1.out) HC'.out HY2.out).mono ?_
      rintro e w2 ⟨rfl, hb2⟩
      have HB2 := mkHid (below_next HB1.out hb2)
      clear c1 c2 hb2
      obtain ⟨c1, c2⟩ := HF.out w2 HB2.out
      go_wp2_with fail
      refine (equalE_any a n c xs a' n' c' ys w2 (HX.out.next HB2.out) HC.out (HY.out.next HB2.out) HC'.out).mono ?_
      rintro e w3 ⟨rfl, hb3⟩
      go_wp2_with fail
      go_ret
      exact ⟨ret_bool (by simp), HAL.out.trans ((below_next HB2.out hb3).mono HAL.out.size)⟩

end Go.Proofs.Ytbgfccfhiocomaa
