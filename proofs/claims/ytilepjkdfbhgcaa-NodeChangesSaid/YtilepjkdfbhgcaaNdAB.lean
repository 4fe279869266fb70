/- The law's list by contract. -/
import Derived.Test.YtilepjkdfbhgcaaNdAA
namespace Go.Proofs.Ytilepjkdfbhgcaa
open Go.RowKit Go.Shelf

theorem IS.regrownL {w : World} {a : Option Addr} {n : Nat} {l : List Int} (h : IS w w.heap.size a n l) (d : Nat) (os : Array Obj) : IS (Sort.grow (redrawn w d) os) (Sort.grow (redrawn w d) os).heap.size a n l :=
  (h.below (below_regrown w d os)).more (below_regrown w d os).size
theorem take_snoc_nd {l l' : List Nd} {k : Nat} {x : Nd} (h : l.take k = l'.take k) (hx : l[k]? = some x) (hy : l'[k]? = some x) : l.take (k + 1) = l'.take (k + 1) := by
  rw [List.take_add_one, List.take_add_one, h, hx, hy]

set_option maxRecDepth 20000 in
set_option maxHeartbeats 4000000 in
theorem list_any (a e : Option Addr) (n m c d : Nat) (l r : List Nd) (w : World) (hl : NS w a n l) (hr : NS w e m r) (hn : n ≤ 1000000) (hb : ∀ x ∈ l, x.2.1.length ≤ 1000000 ∧ x.2.2.length ≤ 1000000) :
    Calls Try.prog 22 #[.slice a n c, .slice e m d] w fun en w' => en = .returned (.bool (decide (l = r))) ∧ Below w.heap.size w w' := by
  have HL := mkHid hl
  have HR := mkHid hr
  have HBD := mkHid hb
  have hll := hl.1
  have hrl := hr.1
  clear hl hr hb
  by_cases h1 : n = m
  case neg =>
    have HV := mkHid (show decide (l = r) = false from decide_eq_false (fun h => h1 (by rw [← hll, ← hrl, h])))
    have h1b : ((n : Int) != (m : Int)) = true := by simp; omega
    go_enter Try.func22, Try.ntmps22
    go_wp2_with fail
    go_ret
    exact ⟨ret_bool HV.out.symm, Below.refl _ _⟩
  subst h1
  go_enter Try.func22, Try.ntmps22
  go_wp2_with fail
  go_loopw [5, 13] (fun _ i wr => ∃ k : Nat, k ≤ n ∧ i = .int .i64 k ∧ Hid (Below w.heap.size w wr) ∧ Hid (l.take k = r.take k)) (fun _ i _ => n - (intOf i).toNat)
  case atStart => exact ⟨0, Nat.zero_le _, rfl, mkHid (Below.refl _ _), mkHid rfl⟩
  case round =>
    obtain ⟨k, hk, rfl, HB, HT⟩ := hrel
    by_cases hlt : k < n
    · have HX := mkHid (show l[k]? = some (l[k]'(by omega)) from List.getElem?_eq_getElem (by omega))
      have HY := mkHid (show r[k]? = some (r[k]'(by omega)) from List.getElem?_eq_getElem (by omega))
      generalize l[k]'(by omega) = x at *
      generalize r[k]'(by omega) = y at *
      have hbx := HBD.out x (List.mem_of_getElem? HX.out)
      obtain ⟨xl, xk, xv⟩ := x
      obtain ⟨yl, yk, yv⟩ := y
      obtain ⟨b, o, K, q1, C1, K', q2, C2, rfl, hb1, n0, n1, n2, i1, i2, _, _⟩ := (HL.out.next HB.out).2 k _ HX.out
      obtain ⟨b', o', E, q3, C3, E', q4, C4, rfl, hb2, m0, m1, m2, i3, i4, _, _⟩ := (HR.out.next HB.out).2 k _ HY.out
      simp only at n0 n1 n2 m0 m1 m2 i1 i2 i3 i4 hbx
      rw [i1.len, i2.len] at hbx
      obtain ⟨hbx1, hbx2⟩ := hbx
      have HI1 := mkHid i1
      have HI2 := mkHid i2
      have HI3 := mkHid i3
      have HI4 := mkHid i4
      clear i1 i2 i3 i4
      by_cases hxy : ((xl, xk, xv) : Nd) = (yl, yk, yv)
      · have hs : sameN (xl, xk, xv) (yl, yk, yv) = true := decide_eq_true hxy
        have HXY := mkHid hxy
        clear hxy
        have hq0 := fun d os => cell_regrown n0 d os
        have hq1 := fun d os => cell_regrown n1 d os
        have hq2 := fun d os => cell_regrown n2 d os
        have hq3 := fun d os => cell_regrown m0 d os
        have hq4 := fun d os => cell_regrown m1 d os
        have hq5 := fun d os => cell_regrown m2 d os
        have HSM := mkHid (fun d os => Calls.regrown_of (same_any xl yl K K' E E' q1 q2 q3 q4 C1 C2 C3 C4 xk xv yk yv ((Sort.grow (redrawn wr d) os)) (HI1.out.regrownL d os) (HI2.out.regrownL d os) (HI3.out.regrownL d os) (HI4.out.regrownL d os) hbx1 hbx2))
        rw [hs] at HSM
        clear hs
        go_wp2_with fail
        refine wp_region_quiet_below (by kernel_rfl) (by kernel_rfl) ?_
        repeat (go_big_quiet_step (first | (with_reducible exact HSM.out _ _)))
        refine wpQuiet_nil ?_
        intro wy hw'
        obtain ⟨p9, hw''⟩ := hw'
        have hB9 := below_regrown wr p9.d p9.os
        rw [← hw''] at hB9
        clear hw'' p9
        have HBZ := mkHid (below_next HB.out hB9)
        clear hB9 hq0 hq1 hq2 hq3 hq4 hq5 HSM
        go_wp2_with fail
        go_roundw
        case measure => simp [intOf]; omega
        case rel => exact ⟨k + 1, by omega, by go_num, HBZ, mkHid (take_snoc_nd HT.out HX.out (by rw [HY.out, HXY.out]))⟩
      · have hs : sameN (xl, xk, xv) (yl, yk, yv) = false := decide_eq_false hxy
        have HV := mkHid (show decide (l = r) = false from decide_eq_false (fun h => hxy (by
          have h3 := HX.out
          rw [h, HY.out] at h3
          injection h3 with h3
          exact h3.symm)))
        clear hxy
        have hq0 := fun d os => cell_regrown n0 d os
        have hq1 := fun d os => cell_regrown n1 d os
        have hq2 := fun d os => cell_regrown n2 d os
        have hq3 := fun d os => cell_regrown m0 d os
        have hq4 := fun d os => cell_regrown m1 d os
        have hq5 := fun d os => cell_regrown m2 d os
        have HSM := mkHid (fun d os => Calls.regrown_of (same_any xl yl K K' E E' q1 q2 q3 q4 C1 C2 C3 C4 xk xv yk yv ((Sort.grow (redrawn wr d) os)) (HI1.out.regrownL d os) (HI2.out.regrownL d os) (HI3.out.regrownL d os) (HI4.out.regrownL d os) hbx1 hbx2))
        rw [hs] at HSM
        clear hs
        go_wp2_with fail
        refine wp_region_quiet_below (by kernel_rfl) (by kernel_rfl) ?_
        repeat (go_big_quiet_step (first | (with_reducible exact HSM.out _ _)))
        refine wpQuiet_nil ?_
        intro wy hw'
        obtain ⟨p9, hw''⟩ := hw'
        have hB9 := below_regrown wr p9.d p9.os
        rw [← hw''] at hB9
        clear hw'' p9
        have HBZ := mkHid (below_next HB.out hB9)
        clear hB9 hq0 hq1 hq2 hq3 hq4 hq5 HSM
        go_wp2_with fail
        go_ret
        exact ⟨ret_bool HV.out.symm, HBZ.out⟩
    · obtain rfl : k = n := by omega
      have HV := mkHid (show decide (l = r) = true from decide_eq_true (by
        have h := HT.out
        rwa [List.take_of_length_le (by omega), List.take_of_length_le (by omega)] at h))
      go_wp2_with fail
      go_ret
      exact ⟨ret_bool HV.out.symm, HB.out⟩

end Go.Proofs.Ytilepjkdfbhgcaa
