/- portageref06.Same by contract. -/
import Derived.Test.YtbgfccfhiocomaaSaH
import Derived.Laws.StructEq
namespace Go.Proofs.Ytbgfccfhiocomaa
open Go.RowKit Go.Shelf

theorem neq_ren (x1 x2 y1 y2 : Int) (w : World) : (binOp .neq 77 (.agg #[.int .i64 x1, .int .i64 x2]) (.agg #[.int .i64 y1, .int .i64 y2])).run Try.prog w = .ok (.bool (!(x1 == y1 && x2 == y2))) w := by
  have hu : Try.prog.underlying 77 = some (.struct (Try.prog.fieldsOf 77)) := by kernel_rfl
  have hp : Try.prog.stoodInHeld 77 = false := by kernel_rfl
  simp only [binOp]
  rw [show Op.equal 77 (.agg #[.int .i64 x1, .int .i64 x2]) (.agg #[.int .i64 y1, .int .i64 y2]) = Op.equalIn (9999 + 1) 77 (.agg #[.int .i64 x1, .int .i64 x2]) (.agg #[.int .i64 y1, .int .i64 y2]) from rfl]
  simp only [Sem.run_bind, run_equalIn_struct w 9999 _ _ _ hu hp]
  have ri := fun (d : Nat) (a b : Int) (w : World) => run_equalIn_int (P := Try.prog) w d 3 .i64 .i64 a b Try.underlying3
  cases h1 : x1 == y1 <;> cases h2 : x2 == y2 <;> simp [Program.fieldsOf, Try.underlying77, Op.eqFields, part, go_sem, ri, h1, h2]

set_option maxRecDepth 20000 in
set_option maxHeartbeats 2000000 in
theorem rsame_any (g r : Int) (a : Option Addr) (n c : Nat) (xs : List (Int × Int)) (g' r' : Int) (a' : Option Addr) (n' c' : Nat) (ys : List (Int × Int)) (w : World) (hs : ES w w.heap.size a n xs) (hc : CapOk n c) (hs' : ES w w.heap.size a' n' ys) (hc' : CapOk n' c') :
    Calls Try.prog 16 #[.agg #[.int .i64 g, .int .i64 r, .slice a n c], .agg #[.int .i64 g', .int .i64 r', .slice a' n' c']] w fun e w' => e = .returned (.bool (sameS g r xs g' r' ys)) ∧ Below w.heap.size w w' := by
  obtain ⟨W, hW⟩ : ∃ W, (w.alloc (.cells #[.int .i64 g, .int .i64 r, .slice a n c] 24)).alloc (.cells #[.int .i64 g', .int .i64 r', .slice a' n' c'] 24) = W := ⟨_, rfl⟩
  have HAL := mkHid (show Below w.heap.size w W by rw [← hW]; exact ((Below.refl _ _).alloc (Nat.le_refl _) _).alloc (by simp) _)
  have HES := mkHid ((hs.below HAL.out).more HAL.out.size)
  have HES' := mkHid ((hs'.below HAL.out).more HAL.out.size)
  have HL := mkHid hs.len
  have HL' := mkHid hs'.len
  have hQ' : W.heap[w.heap.size + 1]? = some (.cells #[.int .i64 g', .int .i64 r', .slice a' n' c'] 24) := by
    rw [← hW]
    have := heap_alloc_new (w.alloc (.cells #[.int .i64 g, .int .i64 r, .slice a n c] 24)) (.cells #[.int .i64 g', .int .i64 r', .slice a' n' c'] 24)
    simpa using this
  have hQ : W.heap[w.heap.size]? = some (.cells #[.int .i64 g, .int .i64 r, .slice a n c] 24) := by rw [← hW]; exact (Below.heap_alloc _ _ _ (by simp)).trans (heap_alloc_new _ _)
  have HK := mkHid (show ∀ Z, Below W.heap.size W Z → (Z.cell? ⟨w.heap.size, 0, none⟩ = some (.int .i64 g) ∧ Z.cell? ⟨w.heap.size, 1, none⟩ = some (.int .i64 r) ∧ Z.cell? ⟨w.heap.size, 2, none⟩ = some (.slice a n c)) ∧ (Z.cell? ⟨w.heap.size + 1, 0, none⟩ = some (.int .i64 g') ∧ Z.cell? ⟨w.heap.size + 1, 1, none⟩ = some (.int .i64 r') ∧ Z.cell? ⟨w.heap.size + 1, 2, none⟩ = some (.slice a' n' c')) from fun Z hZ =>
    have h := (hZ.block _ (Array.getElem?_eq_some_iff.1 hQ).1).trans hQ
    have h' := (hZ.block _ (Array.getElem?_eq_some_iff.1 hQ').1).trans hQ'
    ⟨⟨cell_of_row Z w.heap.size 0 _ _ _ h, cell_of_row Z w.heap.size 1 _ _ _ h, cell_of_row Z w.heap.size 2 _ _ _ h⟩, ⟨cell_of_row Z (w.heap.size + 1) 0 _ _ _ h', cell_of_row Z (w.heap.size + 1) 1 _ _ _ h', cell_of_row Z (w.heap.size + 1) 2 _ _ _ h'⟩⟩)
  obtain ⟨⟨k0, k1, k2⟩, ⟨x0, x1, x2⟩⟩ := HK.out W (Below.refl _ _)
  have HC := mkHid hc
  have HC' := mkHid hc'
  clear hs hs' hQ hQ' hc hc'
  by_cases h1 : g = g'
  case neg =>
    have hgb : (g != g') = true := by simpa using h1
    have HV := mkHid (show sameS g r xs g' r' ys = false from decide_eq_false (fun e => h1 e.1))
    clear h1
    go_enter Try.func16, Try.ntmps16
    go_wp2_with fail
    go_ret
    exact ⟨ret_bool HV.out.symm, by first | exact HAL.out | (rw [hW]; exact HAL.out)⟩
  have hgb : (g != g') = false := by simpa using h1
  have HG := mkHid h1
  clear h1
  by_cases h2 : r = r'
  case neg =>
    have hrb : (r != r') = true := by simpa using h2
    have HV := mkHid (show sameS g r xs g' r' ys = false from decide_eq_false (fun e => h2 e.2.1))
    clear h2
    go_enter Try.func16, Try.ntmps16
    go_wp2_with fail
    go_ret
    exact ⟨ret_bool HV.out.symm, by first | exact HAL.out | (rw [hW]; exact HAL.out)⟩
  have hrb : (r != r') = false := by simpa using h2
  have HR := mkHid h2
  clear h2
  by_cases h3 : n = n'
  case neg =>
    have hlb : ((n : Int) != (n' : Int)) = true := by simp; omega
    have HV := mkHid (show sameS g r xs g' r' ys = false from decide_eq_false (fun e => h3 (by rw [← HL.out, ← HL'.out, e.2.2])))
    clear h3
    go_enter Try.func16, Try.ntmps16
    go_wp2_with fail
    go_ret
    exact ⟨ret_bool HV.out.symm, by first | exact HAL.out | (rw [hW]; exact HAL.out)⟩
  subst h3
  have hneq := neq_ren
  have hlb : ((n : Int) != (n : Int)) = false := by simp
  obtain ⟨hc1, hc2, hc3⟩ := HC.out
  obtain ⟨hc1', hc2', hc3'⟩ := HC'.out
  go_enter Try.func16, Try.ntmps16
  go_wp2_with fail
  clear hW k0 k1 k2 x0 x1 x2
  go_loopw [5] (fun i wr => ∃ q : Nat, q ≤ n ∧ i = .int .i64 q ∧ Hid (Below W.heap.size W wr) ∧ Hid (∀ j x y, j < q → xs[j]? = some x → ys[j]? = some y → x = y)) (fun i _ => n - (intOf i).toNat)
  case atStart => exact ⟨0, Nat.zero_le _, rfl, mkHid (Below.refl _ _), mkHid fun j x y h => absurd h (by omega)⟩
  case round =>
    obtain ⟨q, hq, rfl, HB, HA⟩ := hrel
    obtain ⟨⟨k0, k1, k2⟩, ⟨x0, x1, x2⟩⟩ := HK.out wr HB.out
    by_cases hlt : q < n
    · obtain ⟨b, o, x, rfl, hb, hx, _, h0, h1⟩ := HES.out.at_ hlt
      obtain ⟨b', o', y, rfl, hb', hy, _, h0', h1'⟩ := HES'.out.at_ hlt
      have d0 := (HB.out.cell (p := ⟨b, o + q * 2, none⟩) hb).trans h0
      have d1 := (HB.out.cell (p := ⟨b, o + q * 2 + 1, none⟩) hb).trans h1
      have d0' := (HB.out.cell (p := ⟨b', o' + q * 2, none⟩) hb').trans h0'
      have d1' := (HB.out.cell (p := ⟨b', o' + q * 2 + 1, none⟩) hb').trans h1'
      have HX := mkHid hx
      have HY := mkHid hy
      obtain ⟨y1, y2⟩ := y
      obtain ⟨z1, z2⟩ := x
      simp only at d0 d1 d0' d1'
      have i0 : (0 : Int) ≤ q := by omega
      have i1 : (q : Int) < n := by omega
      clear h0 h1 h0' h1' hx hy
      by_cases gg : (z1, z2) = (y1, y2)
      · injection gg with g1 g2
        subst g1
        subst g2
        have gb1 : (z1 == z1 && z2 == z2) = true := by simp
        go_wp2_with fail
        go_quiet (fail)
        go_wp2_with fail
        go_roundw
        case measure => simp [intOf]; omega
        case rel =>
          refine ⟨q + 1, by omega, by go_num, mkHid (below_drewN HB.out _), mkHid fun j u v hj hu hv => ?_⟩
          by_cases e : j < q
          · exact HA.out j u v e hu hv
          · obtain rfl : j = q := by omega
            rw [HX.out] at hu
            rw [HY.out] at hv
            rw [hu] at hv
            injection hv
      · have gb1 : (z1 == y1 && z2 == y2) = false := by
          cases h1 : z1 == y1 && z2 == y2 with
          | false => rfl
          | true => simp at h1; exact absurd (by rw [h1.1, h1.2]) gg
        have HV := mkHid (show sameS g r xs g' r' ys = false from decide_eq_false fun e => gg (by
          have h1 := HX.out
          rw [e.2.2, HY.out] at h1
          injection h1 with h1
          exact h1.symm))
        clear gg
        go_wp2_with fail
        go_quiet (fail)
        go_wp2_with fail
        go_ret
        exact ⟨ret_bool HV.out.symm, HAL.out.trans ((below_drewN HB.out _).mono HAL.out.size)⟩
    · obtain rfl : q = n := by omega
      have HV := mkHid (show sameS g r xs g' r' ys = true from decide_eq_true ⟨HG.out, HR.out, ext_take (by rw [HL.out, HL'.out]) fun j x y hx hy => HA.out j x y (by have := (List.getElem?_eq_some_iff.1 hx).1; have := HL.out; omega) hx hy⟩)
      go_wp2_with fail
      go_ret
      exact ⟨ret_bool HV.out.symm, HAL.out.trans (HB.out.mono HAL.out.size)⟩

end Go.Proofs.Ytbgfccfhiocomaa
