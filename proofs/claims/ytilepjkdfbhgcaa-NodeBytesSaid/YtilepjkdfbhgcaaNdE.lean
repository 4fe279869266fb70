/- Node.Find by contract. -/
import Derived.Test.YtilepjkdfbhgcaaNdD
import Derived.Shelf.Lays2
import Derived.Shelf.Slices.SearchI
import Derived.Shelf.Slices.Empties
import Derived.Ground.Names2Prog
namespace Go.Proofs.Ytilepjkdfbhgcaa
open Go.RowKit Go.Shelf

/-- The library's search, at this program's numbers. -/
def laysSearch_ren : Go.Shelf.Ren := ⟨fun | 25 => 40 | 31 => 63 | 32 => 64 | 37 => 77 | n => n, fun | 22 => 22 | 3 => 3 | 4 => 4 | 40 => 92 | 0 => 0 | n => n, fun | n => n⟩
theorem laysSearch : Go.Proofs.Lays2.n25 Try.prog laysSearch_ren := {
  mixed := by kernel_rfl
  f25 := Try.func40.trans (congrArg some (by kernel_rfl))
  f31 := Try.func63.trans (congrArg some (by kernel_rfl))
  f32 := Try.func64.trans (congrArg some (by kernel_rfl))
  f37 := Try.func77.trans (congrArg some (by kernel_rfl))
  t0 := Try.underlying0
  a0 := Try.isAgg0
  z0 := Try.sizeOf0
  v0 := Try.zeroValue0
  t3 := Try.underlying3
  a3 := Try.isAgg3
  z3 := Try.sizeOf3
  v3 := Try.zeroValue3
  t4 := Try.underlying4
  a4 := Try.isAgg4
  z4 := Try.sizeOf4
  v4 := Try.zeroValue4
  t22 := Try.underlying22
  a22 := Try.isAgg22
  z22 := Try.sizeOf22
  v22 := Try.zeroValue22
  t40 := Try.underlying92
  a40 := Try.isAgg92
  z40 := Try.sizeOf92
  v40 := Try.zeroValue92 }
/-- How many keys lie below one. -/
def lowOf (ks : List Int) (x : Int) : Nat := ks.countP (· < x)
theorem search_any (a : Option Addr) (n c : Nat) (ks : List Int) (x : Int) (w : World) (hk : IS w w.heap.size a n ks) (hn : n ≤ 1000000) (hs : ks.Pairwise (· ≤ ·)) :
    Calls Try.prog 40 #[.slice a n c, .int .i64 x] w fun e w' => e = .returned (.tuple #[.int .i64 (lowOf ks x), .bool (ks.contains x)]) ∧ ∃ q, w' = w.drewN q := by
  have hl := hk.len
  by_cases h0 : n = 0
  · subst h0
    obtain rfl := List.eq_nil_of_length_eq_zero hl
    exact (Any.slices_BinarySearch_int_empty laysSearch a c x w).mono fun e w' h => ⟨h.1, 0, h.2⟩
  · obtain ⟨b, o, rfl, _, _, _⟩ := hk.at_ (j := 0) (by omega)
    have h := Any.slices_BinarySearch_int laysSearch b o n c ks x w (by omega) (by omega) (fun j hj => by
      obtain ⟨b2, o2, ha, _, hc, _⟩ := hk.at_ (j := j) (by omega)
      injection ha with ha
      injection ha with g1 g2
      subst g1 g2
      rw [hc, List.getD_eq_getElem?_getD]) (by rw [List.take_of_length_le (by omega)]; exact hs)
    rw [List.take_of_length_le (by omega)] at h
    exact h

/-- Find's answer. -/
def findOf (ks : List Int) (x : Int) : Int × Bool := if ks.contains x = true then (lowOf ks x, true) else ((lowOf ks x : Int) - 1, false)
theorem low_le (ks : List Int) (x : Int) : lowOf ks x ≤ ks.length := List.countP_le_length

set_option maxRecDepth 20000 in
set_option maxHeartbeats 1000000 in
theorem find_any (lv : Int) (a a' : Option Addr) (n m c c' : Nat) (ks : List Int) (x : Int) (w : World) (hk : IS w w.heap.size a n ks) (hn : n ≤ 1000000) (hs : ks.Pairwise (· ≤ ·)) :
    Calls Try.prog 16 #[.agg #[.int .i64 lv, .slice a n c, .slice a' m c'], .int .i64 x] w fun e w' => e = .returned (.tuple #[.int .i64 (findOf ks x).1, .bool (findOf ks x).2]) ∧ Below w.heap.size w w' := by
  have HAL := mkHid (show Below w.heap.size w (w.alloc (.cells #[.int .i64 lv, .slice a n c, .slice a' m c'] 32)) from (Below.refl _ _).alloc (Nat.le_refl _) _)
  have HKW := mkHid ((hk.below HAL.out).more HAL.out.size)
  have hlow := low_le ks x
  rw [hk.len] at hlow
  have HS := mkHid hs
  clear hk hs
  go_enter Try.func16, Try.ntmps16
  go_wp2_with fail
  refine (search_any a n c ks x _ HKW.out hn HS.out).mono ?_
  rintro e w2 ⟨rfl, q, rfl⟩
  have HB := mkHid (below_drewN HAL.out q)
  cases hcx : ks.contains x with
  | false =>
    have HV := mkHid (show findOf ks x = ((lowOf ks x : Int) - 1, false) by unfold findOf; rw [hcx, if_neg (by decide)])
    clear hcx
    generalize lowOf ks x = L at *
    have e1 : IntKind.i64.wrap ((L : Int) - 1) = L - 1 := IntWalk.i64_in _ (by omega)
    go_wp2_with fail
    go_ret2
    exact ⟨by rw [HV.out]; rfl, HB.out⟩
  | true =>
    have HV := mkHid (show findOf ks x = ((lowOf ks x : Int), true) by unfold findOf; rw [hcx, if_pos rfl])
    clear hcx
    go_wp2_with fail
    go_ret2
    exact ⟨by rw [HV.out]; rfl, HB.out⟩

end Go.Proofs.Ytilepjkdfbhgcaa
