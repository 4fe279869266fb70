/- Chapter 10: a pair's ranges. -/
import Derived.Test.YtilepjkdfbhgcaaFlat
import Derived.Test.YtilepjkdfbhgcaaErrIs
import Derived.Test.YtilepjkdfbhgcaaChecked
import Derived.Shelf.Abstract
import Derived.Lib.QuietBelow
namespace Go.Proofs.Ytilepjkdfbhgcaa
open Go.RowKit Go.Shelf

/-- Are a key and a value in their ranges? -/
def fitsP (x : Int × Int) : Bool := decide (0 ≤ x.1 ∧ x.1 ≤ 1099511627776 ∧ 1 ≤ x.2 ∧ x.2 ≤ 2305843009213693952)

set_option maxRecDepth 20000 in
set_option maxHeartbeats 1000000 in
theorem pright_any (k v : Int) (w : World) : Calls Try.prog 36 #[.agg #[.int .i64 k, .int .i64 v]] w fun e w' => e = .returned (.bool (fitsP (k, v))) ∧ Below w.heap.size w w' := by
  by_cases h0 : k < 0
  · have HV := mkHid (show fitsP (k, v) = false from decide_eq_false (by simp only; omega))
    go_enter Try.func36, Try.ntmps36
    go_wp2_with fail
    go_ret
    exact ⟨ret_bool (by first | exact HV.out.symm | (rw [HV.out]; simp; omega)), (Below.refl _ _).alloc (Nat.le_refl _) _⟩
  have g0 : 0 ≤ k := by omega
  clear h0
  by_cases h1 : 1099511627776 < k
  · have HV := mkHid (show fitsP (k, v) = false from decide_eq_false (by simp only; omega))
    go_enter Try.func36, Try.ntmps36
    go_wp2_with fail
    go_ret
    exact ⟨ret_bool (by first | exact HV.out.symm | (rw [HV.out]; simp; omega)), (Below.refl _ _).alloc (Nat.le_refl _) _⟩
  have g1 : k ≤ 1099511627776 := by omega
  clear h1
  by_cases h2 : v < 1
  · have HV := mkHid (show fitsP (k, v) = false from decide_eq_false (by simp only; omega))
    go_enter Try.func36, Try.ntmps36
    go_wp2_with fail
    go_ret
    exact ⟨ret_bool (by first | exact HV.out.symm | (rw [HV.out]; simp; omega)), (Below.refl _ _).alloc (Nat.le_refl _) _⟩
  have g2 : 1 ≤ v := by omega
  clear h2
  by_cases h3 : 2305843009213693952 < v
  · have HV := mkHid (show fitsP (k, v) = false from decide_eq_false (by simp only; omega))
    go_enter Try.func36, Try.ntmps36
    go_wp2_with fail
    go_ret
    exact ⟨ret_bool (by first | exact HV.out.symm | (rw [HV.out]; simp; omega)), (Below.refl _ _).alloc (Nat.le_refl _) _⟩
  have g3 : v ≤ 2305843009213693952 := by omega
  clear h3
  have HV := mkHid (show fitsP (k, v) = true from decide_eq_true ⟨g0, g1, g2, g3⟩)
  go_enter Try.func36, Try.ntmps36
  go_wp2_with fail
  go_ret
  exact ⟨ret_bool (by first | exact HV.out.symm | (rw [HV.out]; simp; omega)), (Below.refl _ _).alloc (Nat.le_refl _) _⟩

set_option maxRecDepth 20000 in
set_option maxHeartbeats 1000000 in
theorem fits_any (k v : Int) (w : World) : Calls Try.prog 12 #[.int .i64 k, .int .i64 v] w fun e w' => e = .returned (.bool (fitsP (k, v))) ∧ w = w' := by
  by_cases h0 : k < 0
  · have HV := mkHid (show fitsP (k, v) = false from decide_eq_false (by simp only; omega))
    go_enter Try.func12, Try.ntmps12
    go_wp2_with fail
    go_ret
    exact ⟨ret_bool (by first | exact HV.out.symm | (rw [HV.out]; simp; omega)), rfl⟩
  have g0 : 0 ≤ k := by omega
  clear h0
  by_cases h1 : 1099511627776 < k
  · have HV := mkHid (show fitsP (k, v) = false from decide_eq_false (by simp only; omega))
    go_enter Try.func12, Try.ntmps12
    go_wp2_with fail
    go_ret
    exact ⟨ret_bool (by first | exact HV.out.symm | (rw [HV.out]; simp; omega)), rfl⟩
  have g1 : k ≤ 1099511627776 := by omega
  clear h1
  by_cases h2 : v < 1
  · have HV := mkHid (show fitsP (k, v) = false from decide_eq_false (by simp only; omega))
    go_enter Try.func12, Try.ntmps12
    go_wp2_with fail
    go_ret
    exact ⟨ret_bool (by first | exact HV.out.symm | (rw [HV.out]; simp; omega)), rfl⟩
  have g2 : 1 ≤ v := by omega
  clear h2
  by_cases h3 : 2305843009213693952 < v
  · have HV := mkHid (show fitsP (k, v) = false from decide_eq_false (by simp only; omega))
    go_enter Try.func12, Try.ntmps12
    go_wp2_with fail
    go_ret
    exact ⟨ret_bool (by first | exact HV.out.symm | (rw [HV.out]; simp; omega)), rfl⟩
  have g3 : v ≤ 2305843009213693952 := by omega
  clear h3
  have HV := mkHid (show fitsP (k, v) = true from decide_eq_true ⟨g0, g1, g2, g3⟩)
  go_enter Try.func12, Try.ntmps12
  go_wp2_with fail
  go_ret
  exact ⟨ret_bool (by first | exact HV.out.symm | (rw [HV.out]; simp; omega)), rfl⟩

end Go.Proofs.Ytilepjkdfbhgcaa
