/- portagelaw05's same and awake, portageref05's copied, Count, Room by contract. -/
import Derived.Test.YtbgfccfhiocomaaRosGR
namespace Go.Proofs.Ytbgfccfhiocomaa
open Go.RowKit Go.Shelf

theorem below_drewN {B : Nat} {w w1 : World} (h : Below B w w1) (n : Nat) : Below B w (w1.drewN n) := ⟨h.os, h.tape, h.output, h.size, h.block⟩
theorem ext_take {xs ys : List (Int × Int)} (hl : xs.length = ys.length) (h : ∀ (j : Nat) x y, xs[j]? = some x → ys[j]? = some y → x = y) : xs = ys := by
  apply List.ext_getElem? 
  intro j
  by_cases hj : j < xs.length
  · have h1 : xs[j]? = some xs[j] := List.getElem?_eq_getElem hj
    have h2 : ys[j]? = some (ys[j]'(by omega)) := List.getElem?_eq_getElem (by omega)
    rw [h1, h2, h j _ _ h1 h2]
  · rw [List.getElem?_eq_none (by omega), List.getElem?_eq_none (by omega)]


theorem el_ren : ElemOk Try.prog 22 77 2 16 := .mk' Try.underlying22 (z := .agg #[.int .i64 0, .int .i64 0]) (by kernel_rfl) rfl (by decide)
/-- How many have this state. -/
def countOf (xs : List (Int × Int)) (s : Int) : Int := ((xs.filter fun x => x.1 == s).length : Nat)
theorem count_succ {xs : List (Int × Int)} {q : Nat} {x : Int × Int} (hx : xs[q]? = some x) (s : Int) : countOf (xs.take (q + 1)) s = countOf (xs.take q) s + if x.1 == s then 1 else 0 := by
  obtain ⟨hl, he⟩ := List.getElem?_eq_some_iff.1 hx
  unfold countOf
  rw [List.take_succ_eq_append_getElem hl, List.filter_append, he]
  cases h : x.1 == s <;> simp [h]
theorem count_le (xs : List (Int × Int)) (s : Int) : 0 ≤ countOf xs s ∧ countOf xs s ≤ xs.length := by
  unfold countOf
  have := List.length_filter_le (fun x : Int × Int => x.1 == s) xs
  omega
set_option maxRecDepth 20000 in
set_option maxHeartbeats 1000000 in
theorem count_any (a : Option Addr) (n c : Nat) (xs : List (Int × Int)) (s : Int) (w : World) (hs : ES w w.heap.size a n xs) (hc : CapOk n c) :
    Calls Try.prog 31 #[.slice a n c, .int .i64 s] w fun e w' => e = .returned (.int .i64 (countOf xs s)) ∧ w = w' := by
  have HS := mkHid hs
  have HL := mkHid hs.len
  obtain ⟨hc1, hc2, hc3⟩ := hc
  clear hs
  go_enter Try.func31, Try.ntmps31
  go_wp2_with fail
  go_loop [5, 6] (fun v i => ∃ q : Nat, q ≤ n ∧ i = .int .i64 q ∧ v = .int .i64 (countOf (xs.take q) s)) (fun _ i => n - (intOf i).toNat)
  case atStart => exact ⟨0, Nat.zero_le _, rfl, rfl⟩
  case round =>
    obtain ⟨q, hq, rfl, rfl⟩ := hrel
    have hcl := count_le (xs.take q) s
    have htl : (xs.take q).length ≤ q := List.length_take_le _ _
    obtain ⟨hcl0, hcl1⟩ := hcl
    have hcl2 : countOf (xs.take q) s ≤ q := by omega
    clear hcl1 htl
    by_cases hlt : q < n
    · obtain ⟨b, o, x, rfl, hb, hx, _, h0, h1⟩ := HS.out.at_ hlt
      have HC := mkHid (count_succ hx s)
      clear hx h1
      generalize countOf (xs.take q) s = T at *
      cases hxs : x.1 == s with
      | true =>
        rw [hxs] at HC
        go_wp2_with fail
        go_round
        case measure => simp [intOf]; omega
        case rel => exact ⟨q + 1, by omega, by go_num, by rw [HC.out]; rfl⟩
      | false =>
        rw [hxs] at HC
        go_wp2_with fail
        go_round
        case measure => simp [intOf]; omega
        case rel => exact ⟨q + 1, by omega, by go_num, by rw [HC.out]; simp⟩
    · obtain rfl : q = n := by omega
      have HT := mkHid (show countOf (xs.take q) s = countOf xs s by rw [List.take_of_length_le (by rw [HL.out]; exact Nat.le_refl _)])
      go_wp2_with fail
      go_ret
      exact ⟨by rw [HT.out]; rfl, rfl⟩

end Go.Proofs.Ytbgfccfhiocomaa
