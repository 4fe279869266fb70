/- Superblocks: when one is right: portageref06.Right, super.Check. -/
import Derived.Test.YtbgfccfhiocomaaRosWR
import Derived.BigQuiet
import Derived.Lib.QuietBelow
namespace Go.Proofs.Ytbgfccfhiocomaa
open Go.RowKit Go.Shelf

/-- Is the superblock right? -/
def rightS (g r : Int) (xs : List (Int × Int)) : Bool := decide (1 ≤ g ∧ g ≤ 2305843009213693952 ∧ 0 ≤ r ∧ r ≤ 2305843009213693952) && (rightL xs && decide (countOf xs 3 < (xs.length : Int)))
/-- Check's answer. -/
def superE (b : Bool) : Value := if b then .nilIface else codeV 14
theorem rightS_no {g r : Int} {xs : List (Int × Int)} (h : ¬ (1 ≤ g ∧ g ≤ 2305843009213693952 ∧ 0 ≤ r ∧ r ≤ 2305843009213693952)) : rightS g r xs = false := by
  unfold rightS; rw [decide_eq_false h]; rfl
theorem rightS_yes {g r : Int} {xs : List (Int × Int)} (h : 1 ≤ g ∧ g ≤ 2305843009213693952 ∧ 0 ≤ r ∧ r ≤ 2305843009213693952) : rightS g r xs = (rightL xs && decide (countOf xs 3 < (xs.length : Int))) := by
  unfold rightS; rw [decide_eq_true h]; rfl
theorem rightS_ok {g r : Int} {xs : List (Int × Int)} (h : rightS g r xs = true) : (1 ≤ g ∧ g ≤ 2305843009213693952 ∧ 0 ≤ r ∧ r ≤ 2305843009213693952) ∧ rightL xs = true ∧ countOf xs 3 < (xs.length : Int) := by
  unfold rightS at h
  simp only [Bool.and_eq_true, decide_eq_true_eq] at h
  exact h
theorem count_all {xs : List (Int × Int)} (s : Int) : ¬ countOf xs s < (xs.length : Int) ↔ ∀ x ∈ xs, x.1 = s := by
  unfold countOf
  have h1 := List.length_filter_le (fun x : Int × Int => x.1 == s) xs
  constructor
  · intro h x hx
    have h2 : (xs.filter fun x => x.1 == s).length = xs.length := by omega
    have h3 := List.length_filter_eq_length_iff.1 h2 x hx
    simpa using h3
  · intro h h2
    have h3 : (xs.filter fun x => x.1 == s) = xs := List.filter_eq_self.2 fun x hx => by simpa using h x hx
    rw [h3] at h2
    omega
theorem member_of {x : Int × Int} (h : rightE x = true) : memberB x = !(x.1 == 3) := by
  unfold rightE at h
  simp only [decide_eq_true_eq] at h
  unfold memberB
  rcases h with ⟨h | h, _⟩ | ⟨h, _⟩ <;> rw [h] <;> rfl
theorem places_none {p : Int × Int → Bool} {xs : List (Int × Int)} : (placesOf p xs xs.length).length = 0 ↔ ∀ x ∈ xs, p x = false := by
  unfold placesOf
  rw [List.length_map, List.length_eq_zero_iff, List.filter_eq_nil_iff]
  constructor
  · intro h x hx
    obtain ⟨j, hj, rfl⟩ := List.getElem_of_mem hx
    have := h j (List.mem_range.2 hj)
    rw [List.getElem?_eq_getElem hj] at this
    simpa using this
  · intro h j hj
    have hj' := List.mem_range.1 hj
    rw [List.getElem?_eq_getElem hj', Option.getD_some, h _ (List.getElem_mem _)]
    decide
theorem those_none (xs : List (Int × Int)) : decide ((thoseOf memberB xs).length = 0) = !(rightL xs && decide (countOf xs 3 < (xs.length : Int))) := by
  unfold thoseOf
  cases hr : rightL xs with
  | false => rfl
  | true =>
    rw [if_pos rfl, Bool.true_and]
    have ha : ∀ x ∈ xs, rightE x = true := by
      unfold rightL at hr
      rw [Bool.and_eq_true, List.all_eq_true] at hr
      exact hr.2
    by_cases hc : countOf xs 3 < (xs.length : Int)
    · rw [decide_eq_true hc]
      refine decide_eq_false fun h => ?_
      refine (count_all 3).2 (fun x hx => ?_) hc
      have h1 := places_none.1 h x hx
      rw [member_of (ha x hx)] at h1
      simpa using h1
    · rw [decide_eq_false hc]
      refine decide_eq_true (places_none.2 fun x hx => ?_)
      have h1 := (count_all 3).1 hc x hx
      rw [member_of (ha x hx), h1]
      rfl


set_option maxRecDepth 20000 in
set_option maxHeartbeats 4000000 in
theorem sright_any (g r : Int) (a : Option Addr) (n c : Nat) (xs : List (Int × Int)) (w : World) (hs : ES w w.heap.size a n xs) (hc : CapOk n c) :
    Calls Try.prog 8 #[.agg #[.int .i64 g, .int .i64 r, .slice a n c]] w fun e w' => e = .returned (.bool (rightS g r xs)) ∧ Below w.heap.size w w' := by
  have HL := mkHid hs.len
  obtain ⟨W, hW⟩ : ∃ W, w.alloc (.cells #[.int .i64 g, .int .i64 r, .slice a n c] 24) = W := ⟨_, rfl⟩
  have HAL := mkHid (show Below w.heap.size w W by rw [← hW]; exact (Below.refl _ _).alloc (Nat.le_refl _) _)
  have HES := mkHid ((hs.below HAL.out).more HAL.out.size)
  have hQ : W.heap[w.heap.size]? = some (.cells #[.int .i64 g, .int .i64 r, .slice a n c] 24) := by rw [← hW]; exact heap_alloc_new _ _
  have k0 := cell_of_row W w.heap.size 0 _ _ _ hQ
  have k1 := cell_of_row W w.heap.size 1 _ _ _ hQ
  have k2 := cell_of_row W w.heap.size 2 _ _ _ hQ
  have HK := mkHid (show ∀ Z, Below W.heap.size W Z → Z.cell? ⟨w.heap.size, 2, none⟩ = some (.slice a n c) from fun Z hZ => cell_of_row Z w.heap.size 2 _ _ _ ((hZ.block _ (Array.getElem?_eq_some_iff.1 hQ).1).trans hQ))
  simp at k0 k1 k2
  clear hs hQ
  by_cases h1 : g < 1
  · have HV := mkHid (show rightS g r xs = false from rightS_no (by omega))
    clear hc
    go_enter Try.func8, Try.ntmps8
    go_wp2_with fail
    go_quiet (fail)
    go_wp2_with fail
    go_ret
    exact ⟨ret_bool HV.out.symm, below_drewN HAL.out _⟩
  have g1 : 1 ≤ g := by omega
  by_cases h2 : 2305843009213693952 < g
  · have HV := mkHid (show rightS g r xs = false from rightS_no (by omega))
    clear hc
    go_enter Try.func8, Try.ntmps8
    go_wp2_with fail
    go_quiet (fail)
    go_wp2_with fail
    go_ret
    exact ⟨ret_bool HV.out.symm, below_drewN HAL.out _⟩
  have g2 : g ≤ 2305843009213693952 := by omega
  by_cases h3 : r < 0
  · have HV := mkHid (show rightS g r xs = false from rightS_no (by omega))
    clear hc
    go_enter Try.func8, Try.ntmps8
    go_wp2_with fail
    go_quiet (fail)
    go_wp2_with fail
    go_ret
    exact ⟨ret_bool HV.out.symm, below_drewN HAL.out _⟩
  have g3 : 0 ≤ r := by omega
  by_cases h4 : 2305843009213693952 < r
  · have HV := mkHid (show rightS g r xs = false from rightS_no (by omega))
    clear hc
    go_enter Try.func8, Try.ntmps8
    go_wp2_with fail
    go_quiet (fail)
    go_wp2_with fail
    go_ret
    exact ⟨ret_bool HV.out.symm, below_drewN HAL.out _⟩
  have g4 : r ≤ 2305843009213693952 := by omega
  have HV := mkHid (rightS_yes (xs := xs) ⟨g1, g2, g3, g4⟩)
  clear h1 h2 h3 h4
  have HC := mkHid hc
  clear hc
  have HCT := mkHid (fun Z (hZ : Below W.heap.size W Z) => count_any a n c xs 3 Z ((HES.out.below hZ).more hZ.size) HC.out)
  go_enter Try.func8, Try.ntmps8
  go_wp2_with fail
  refine (rright_any a n c xs W HES.out HC.out).mono ?_
  rintro e wz ⟨rfl, hwz⟩
  subst hwz
  cases hr : rightL xs with
  | false =>
    rw [hr] at HV
    clear hr
    go_wp2_with fail
    go_quiet (fail)
    go_wp2_with fail
    go_ret
    exact ⟨ret_bool HV.out.symm, below_drewN HAL.out _⟩
  | true =>
    rw [hr, Bool.true_and] at HV
    clear hr
    go_wp2_with fail
    have hq2 := fun d os => cell_regrown k2 d os
    have HCU := mkHid (fun d os => Calls.regrown_of ((HCT.out _ (below_regrown W d os)).mono fun e w' (h : e = .returned (.int .i64 (countOf xs 3)) ∧ Sort.grow (redrawn W d) os = w') => (⟨h.1, by rw [← h.2]; exact Below.refl _ _⟩ : e = .returned (.int .i64 (countOf xs 3)) ∧ Below (Sort.grow (redrawn W d) os).heap.size (Sort.grow (redrawn W d) os) w')))
    refine wp_region_quiet_below (by kernel_rfl) (by kernel_rfl) ?_
    repeat (go_big_quiet_step (first | (with_reducible exact HCU.out _ _)))
    refine wpQuiet_nil ?_
    intro wy hw'
    obtain ⟨p9, hw''⟩ := hw'
    have hB9 := below_regrown W p9.d p9.os
    rw [← hw''] at hB9
    clear hw'' p9
    have HBZ := mkHid hB9
    clear hB9 hq2 HCU
    go_wp2_with fail
    go_ret
    exact ⟨ret_bool (by rw [HV.out, HL.out]), HAL.out.trans (HBZ.out.mono HAL.out.size)⟩

set_option maxRecDepth 20000 in
set_option maxHeartbeats 4000000 in
theorem scheck_any (g r : Int) (a : Option Addr) (n c : Nat) (xs : List (Int × Int)) (w : World) (hs : ES w w.heap.size a n xs) (hc : CapOk n c) :
    Calls Try.prog 12 #[.agg #[.int .i64 g, .int .i64 r, .slice a n c]] w fun e w' => e = .returned (superE (rightS g r xs)) ∧ Below w.heap.size w w' := by
  obtain ⟨W, hW⟩ : ∃ W, w.alloc (.cells #[.int .i64 g, .int .i64 r, .slice a n c] 35) = W := ⟨_, rfl⟩
  have HAL := mkHid (show Below w.heap.size w W by rw [← hW]; exact (Below.refl _ _).alloc (Nat.le_refl _) _)
  have HES := mkHid ((hs.below HAL.out).more HAL.out.size)
  have hQ : W.heap[w.heap.size]? = some (.cells #[.int .i64 g, .int .i64 r, .slice a n c] 35) := by rw [← hW]; exact heap_alloc_new _ _
  have k0 := cell_of_row W w.heap.size 0 _ _ _ hQ
  have k1 := cell_of_row W w.heap.size 1 _ _ _ hQ
  have k2 := cell_of_row W w.heap.size 2 _ _ _ hQ
  have HK := mkHid (show ∀ Z, Below W.heap.size W Z → Z.cell? ⟨w.heap.size, 2, none⟩ = some (.slice a n c) from fun Z hZ => cell_of_row Z w.heap.size 2 _ _ _ ((hZ.block _ (Array.getElem?_eq_some_iff.1 hQ).1).trans hQ))
  simp at k0 k1 k2
  clear hs hQ
  by_cases h1 : g < 1
  · have HV := mkHid (show rightS g r xs = false from rightS_no (by omega))
    clear hc
    go_enter Try.func12, Try.ntmps12
    go_wp2_with fail
    go_ret
    exact ⟨by rw [HV.out]; rfl, HAL.out⟩
  have g1 : 1 ≤ g := by omega
  by_cases h2 : 2305843009213693952 < g
  · have HV := mkHid (show rightS g r xs = false from rightS_no (by omega))
    clear hc
    go_enter Try.func12, Try.ntmps12
    go_wp2_with fail
    go_ret
    exact ⟨by rw [HV.out]; rfl, HAL.out⟩
  have g2 : g ≤ 2305843009213693952 := by omega
  by_cases h3 : r < 0
  · have HV := mkHid (show rightS g r xs = false from rightS_no (by omega))
    clear hc
    go_enter Try.func12, Try.ntmps12
    go_wp2_with fail
    go_ret
    exact ⟨by rw [HV.out]; rfl, HAL.out⟩
  have g3 : 0 ≤ r := by omega
  by_cases h4 : 2305843009213693952 < r
  · have HV := mkHid (show rightS g r xs = false from rightS_no (by omega))
    clear hc
    go_enter Try.func12, Try.ntmps12
    go_wp2_with fail
    go_ret
    exact ⟨by rw [HV.out]; rfl, HAL.out⟩
  have g4 : r ≤ 2305843009213693952 := by omega
  have HV := mkHid (rightS_yes (xs := xs) ⟨g1, g2, g3, g4⟩)
  clear h1 h2 h3 h4
  have HC := mkHid hc
  clear hc
  go_enter Try.func12, Try.ntmps12
  go_wp2_with fail
  refine (members_any a n c xs W HES.out HC.out).mono ?_
  rintro e w2 ⟨A2, C2, rfl, _, _, hb2⟩
  have HB2 := mkHid (HAL.out.trans (hb2.mono HAL.out.size))
  clear hb2
  have HTN := mkHid (those_none xs)
  obtain ⟨q, hq⟩ : ∃ q, (thoseOf memberB xs).length = q := ⟨_, rfl⟩
  rw [hq] at HTN ⊢
  clear hq
  by_cases h0 : q = 0
  · subst h0
    have HR := mkHid (show rightS g r xs = false by rw [HV.out]; have := HTN.out; rw [decide_eq_true rfl] at this; cases hb : (rightL xs && decide (countOf xs 3 < (xs.length : Int))) <;> rw [hb] at this <;> first | rfl | cases this)
    go_wp2_with fail
    go_ret
    exact ⟨by rw [HR.out]; rfl, HB2.out⟩
  · have HR := mkHid (show rightS g r xs = true by rw [HV.out]; have := HTN.out; rw [decide_eq_false h0] at this; cases hb : (rightL xs && decide (countOf xs 3 < (xs.length : Int))) <;> rw [hb] at this <;> first | rfl | cases this)
    have hq1 : ((q : Int) == 0) = false := beq_eq_false_iff_ne.2 (by omega)
    have hq2 : ¬ ((((g < 1 ∨ 2305843009213693952 < g) ∨ r < 0) ∨ 2305843009213693952 < r) ∨ ((q : Int) == 0) = true) := by rw [hq1]; rintro ((((h | h) | h) | h) | h) <;> first | omega | cases h
    go_wp2_with fail
    go_ret
    exact ⟨by rw [HR.out]; rfl, HB2.out⟩

end Go.Proofs.Ytbgfccfhiocomaa
