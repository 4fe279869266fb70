/- ordered by contract. -/
import Derived.Test.YtilepjkdfbhgcaaNdB
namespace Go.Proofs.Ytilepjkdfbhgcaa
open Go.RowKit Go.Shelf

theorem below_next {W Z w2 : World} (h : Below W.heap.size W Z) (k : Below Z.heap.size Z w2) : Below W.heap.size W w2 := h.trans (k.mono h.size)
/-- Are all pairs right, and their keys rising, behind a key? -/
def ordFrom : Option Int → List (Int × Int) → Bool
  | _, [] => true
  | none, x :: xs => fitsP x && ordFrom (some x.1) xs
  | some k, x :: xs => fitsP x && (decide (k < x.1) && ordFrom (some x.1) xs)
def prevOf (xs : List (Int × Int)) (k : Nat) : Option Int := if k = 0 then none else xs[k - 1]?.map fun p => p.1
theorem ord_step {xs : List (Int × Int)} {k : Nat} {x : Int × Int} (hx : xs[k]? = some x) :
    ordFrom (prevOf xs k) (xs.drop k) = (fitsP x && ((match prevOf xs k with | none => true | some p => decide (p < x.1)) && ordFrom (prevOf xs (k + 1)) (xs.drop (k + 1)))) := by
  obtain ⟨hl, he⟩ := List.getElem?_eq_some_iff.1 hx
  rw [List.drop_eq_getElem_cons hl, he]
  have hp : prevOf xs (k + 1) = some x.1 := by unfold prevOf; rw [if_neg (by omega), show k + 1 - 1 = k by omega, hx]; rfl
  rw [hp]
  cases prevOf xs k with
  | none => simp [ordFrom]
  | some p => simp [ordFrom]
theorem ord_end (xs : List (Int × Int)) (p : Option Int) {k : Nat} (h : xs.length ≤ k) : ordFrom p (xs.drop k) = true := by
  rw [List.drop_of_length_le h]
  cases p <;> rfl

set_option maxRecDepth 20000 in
set_option maxHeartbeats 2000000 in
theorem ordered_any (a : Option Addr) (n c : Nat) (xs : List (Int × Int)) (w : World) (hs : ES w w.heap.size a n xs) (hn : n ≤ 1000000) :
    Calls Try.prog 41 #[.slice a n c] w fun e w' => e = .returned (.bool (ordFrom none xs)) ∧ Below w.heap.size w w' := by
  have HS := mkHid hs
  have HL := mkHid hs.len
  clear hs
  go_enter Try.func41, Try.ntmps41
  go_wp2_with fail
  go_loopw [7] (fun i wr => ∃ k : Nat, k ≤ n ∧ i = .int .i64 k ∧ Hid (Below w.heap.size w wr) ∧ Hid (ordFrom none xs = ordFrom (prevOf xs k) (xs.drop k))) (fun i _ => n - (intOf i).toNat)
  case atStart => exact ⟨0, Nat.zero_le _, rfl, mkHid (Below.refl _ _), mkHid rfl⟩
  case round =>
    obtain ⟨k, hk, rfl, HB, HI⟩ := hrel
    by_cases hlt : k < n
    · obtain ⟨b, o, xy, rfl, hb, hx, _, hc0, hc1⟩ := HS.out.at_ hlt
      have HST := mkHid (ord_step hx)
      obtain ⟨x, y⟩ := xy
      simp only at hc0 hc1
      have d0 := (HB.out.cell (p := ⟨b, o + k * 2, none⟩) hb).trans hc0
      have d1 := (HB.out.cell (p := ⟨b, o + k * 2 + 1, none⟩) hb).trans hc1
      obtain ⟨W, hW⟩ : ∃ W, wr.alloc (.cells #[.int .i64 x, .int .i64 y] 52) = W := ⟨_, rfl⟩
      have HQ := mkHid (show W.heap[wr.heap.size]? = some (.cells #[.int .i64 x, .int .i64 y] 52) by rw [← hW]; exact heap_alloc_new _ _)
      have HBW := mkHid (show Below w.heap.size w W by rw [← hW]; exact HB.out.alloc HB.out.size _)
      clear hx hc0 hc1
      by_cases h0 : k = 0
      · have HPV := mkHid (show prevOf xs k = none from if_pos h0)
        have hk0 : (k : Int) ≤ 0 := by omega
        have hk1 : decide (0 < k) = false := decide_eq_false (by omega)
        have hk2 : ¬ 0 < k := by omega
        clear h0
        cases hf : fitsP (x, y) with
        | false =>
          have HF := mkHid hf
          clear hf
          have HV := mkHid (show ordFrom none xs = false by rw [HI.out, HST.out]; simp [HF.out, HPV.out])
          have hkW : W.cell? ⟨wr.heap.size, 0, none⟩ = some (.int .i64 x) ∧ W.cell? ⟨wr.heap.size, 1, none⟩ = some (.int .i64 y) := ⟨cell_of_row W wr.heap.size 0 _ _ _ (((Below.refl W.heap.size W).block _ (Array.getElem?_eq_some_iff.1 HQ.out).1).trans HQ.out), cell_of_row W wr.heap.size 1 _ _ _ (((Below.refl W.heap.size W).block _ (Array.getElem?_eq_some_iff.1 HQ.out).1).trans HQ.out)⟩
          have hq0 := fun d os => cell_regrown hkW.1 d os
          have hq1 := fun d os => cell_regrown hkW.2 d os
          have HPR := mkHid (fun d os => Calls.regrown_of (pright_any x y (Sort.grow (redrawn W d) os)))
          rw [HF.out] at HPR
          go_wp2_with fail
          clear hW
          refine wp_region_quiet_below (by kernel_rfl) (by kernel_rfl) ?_
          repeat (go_big_quiet_step (first | (with_reducible exact HPR.out _ _)))
          refine wpQuiet_nil ?_
          intro wy hw'
          obtain ⟨p9, hw''⟩ := hw'
          have hB9 := below_regrown W p9.d p9.os
          rw [← hw''] at hB9
          clear hw'' p9
          have HBZ := mkHid (HBW.out.trans (hB9.mono HBW.out.size))
          clear hB9 hkW hq0 hq1 HPR
          go_wp2_with fail
          go_ret
          exact ⟨ret_bool HV.out.symm, HBZ.out⟩
        | true =>
          have HF := mkHid hf
          clear hf
          have HN := mkHid (show ordFrom none xs = ordFrom (prevOf xs (k + 1)) (xs.drop (k + 1)) by rw [HI.out, HST.out]; simp [HF.out, HPV.out])
          have hkW : W.cell? ⟨wr.heap.size, 0, none⟩ = some (.int .i64 x) ∧ W.cell? ⟨wr.heap.size, 1, none⟩ = some (.int .i64 y) := ⟨cell_of_row W wr.heap.size 0 _ _ _ (((Below.refl W.heap.size W).block _ (Array.getElem?_eq_some_iff.1 HQ.out).1).trans HQ.out), cell_of_row W wr.heap.size 1 _ _ _ (((Below.refl W.heap.size W).block _ (Array.getElem?_eq_some_iff.1 HQ.out).1).trans HQ.out)⟩
          have hq0 := fun d os => cell_regrown hkW.1 d os
          have hq1 := fun d os => cell_regrown hkW.2 d os
          have HPR := mkHid (fun d os => Calls.regrown_of (pright_any x y (Sort.grow (redrawn W d) os)))
          rw [HF.out] at HPR
          go_wp2_with fail
          clear hW
          refine wp_region_quiet_below (by kernel_rfl) (by kernel_rfl) ?_
          repeat (go_big_quiet_step (first | (with_reducible exact HPR.out _ _)))
          refine wpQuiet_nil ?_
          intro wy hw'
          obtain ⟨p9, hw''⟩ := hw'
          have hB9 := below_regrown W p9.d p9.os
          rw [← hw''] at hB9
          clear hw'' p9
          have HBZ := mkHid (HBW.out.trans (hB9.mono HBW.out.size))
          clear hB9 hkW hq0 hq1 HPR
          go_wp2_with fail
          go_roundw
          case measure => simp [intOf]; omega
          case rel => exact ⟨k + 1, by omega, by go_num, HBZ, HN⟩
      · skip
        obtain ⟨p, hkp⟩ : ∃ p, k = p + 1 := ⟨k - 1, by omega⟩
        obtain ⟨b3, o3, x3, ha3, _, hx3, _, hcp, _⟩ := HS.out.at_ (j := p) (by omega)
        injection ha3 with ha3
        injection ha3 with g1 g2
        subst g1 g2
        have HPV := mkHid (show prevOf xs k = some x3.1 by unfold prevOf; rw [if_neg (by omega), show k - 1 = p by omega, hx3]; rfl)
        generalize x3.1 = z at *
        have hk0 : 0 < k := by omega
        have hk1 : decide (0 < k) = true := decide_eq_true hk0
        have e8 : IntKind.i64.wrap ((k : Int) - 1) = (p : Int) := by rw [IntWalk.i64_in _ (by omega)]; omega
        have hpn : p < n := by omega
        clear hx3 hkp
        cases hf : fitsP (x, y) with
        | false =>
          have HF := mkHid hf
          clear hf
          have HV := mkHid (show ordFrom none xs = false by rw [HI.out, HST.out]; simp [HF.out, HPV.out])
          have hkW : W.cell? ⟨wr.heap.size, 0, none⟩ = some (.int .i64 x) ∧ W.cell? ⟨wr.heap.size, 1, none⟩ = some (.int .i64 y) ∧ W.cell? ⟨b, o + p * 2, none⟩ = some (.int .i64 z) := ⟨cell_of_row W wr.heap.size 0 _ _ _ (((Below.refl W.heap.size W).block _ (Array.getElem?_eq_some_iff.1 HQ.out).1).trans HQ.out), cell_of_row W wr.heap.size 1 _ _ _ (((Below.refl W.heap.size W).block _ (Array.getElem?_eq_some_iff.1 HQ.out).1).trans HQ.out), ((Below.refl W.heap.size W).cell (p := ⟨b, o + p * 2, none⟩) (Nat.lt_of_lt_of_le hb HBW.out.size)).trans ((HBW.out.cell (p := ⟨b, o + p * 2, none⟩) hb).trans hcp)⟩
          have hq0 := fun d os => cell_regrown hkW.1 d os
          have hq1 := fun d os => cell_regrown hkW.2.1 d os
          have hq2 := fun d os => cell_regrown hkW.2.2 d os
          have HPR := mkHid (fun d os => Calls.regrown_of (pright_any x y (Sort.grow (redrawn W d) os)))
          rw [HF.out] at HPR
          go_wp2_with fail
          clear hW
          refine wp_region_quiet_below (by kernel_rfl) (by kernel_rfl) ?_
          repeat (go_big_quiet_step (first | (with_reducible exact HPR.out _ _)))
          refine wpQuiet_nil ?_
          intro wy hw'
          obtain ⟨p9, hw''⟩ := hw'
          have hB9 := below_regrown W p9.d p9.os
          rw [← hw''] at hB9
          clear hw'' p9
          have HBZ := mkHid (HBW.out.trans (hB9.mono HBW.out.size))
          clear hB9 hkW hq0 hq1 hq2 HPR
          go_wp2_with fail
          go_ret
          exact ⟨ret_bool HV.out.symm, HBZ.out⟩
        | true =>
          have HF := mkHid hf
          clear hf
          by_cases hzx : z < x
          · skip
            have HN := mkHid (show ordFrom none xs = ordFrom (prevOf xs (k + 1)) (xs.drop (k + 1)) by rw [HI.out, HST.out]; simp [HF.out, HPV.out, hzx])
            have hkW : W.cell? ⟨wr.heap.size, 0, none⟩ = some (.int .i64 x) ∧ W.cell? ⟨wr.heap.size, 1, none⟩ = some (.int .i64 y) ∧ W.cell? ⟨b, o + p * 2, none⟩ = some (.int .i64 z) := ⟨cell_of_row W wr.heap.size 0 _ _ _ (((Below.refl W.heap.size W).block _ (Array.getElem?_eq_some_iff.1 HQ.out).1).trans HQ.out), cell_of_row W wr.heap.size 1 _ _ _ (((Below.refl W.heap.size W).block _ (Array.getElem?_eq_some_iff.1 HQ.out).1).trans HQ.out), ((Below.refl W.heap.size W).cell (p := ⟨b, o + p * 2, none⟩) (Nat.lt_of_lt_of_le hb HBW.out.size)).trans ((HBW.out.cell (p := ⟨b, o + p * 2, none⟩) hb).trans hcp)⟩
            have hq0 := fun d os => cell_regrown hkW.1 d os
            have hq1 := fun d os => cell_regrown hkW.2.1 d os
            have hq2 := fun d os => cell_regrown hkW.2.2 d os
            have HPR := mkHid (fun d os => Calls.regrown_of (pright_any x y (Sort.grow (redrawn W d) os)))
            rw [HF.out] at HPR
            go_wp2_with fail
            clear hW
            refine wp_region_quiet_below (by kernel_rfl) (by kernel_rfl) ?_
            repeat (go_big_quiet_step (first | (with_reducible exact HPR.out _ _)))
            refine wpQuiet_nil ?_
            intro wy hw'
            obtain ⟨p9, hw''⟩ := hw'
            have hB9 := below_regrown W p9.d p9.os
            rw [← hw''] at hB9
            clear hw'' p9
            have HBZ := mkHid (HBW.out.trans (hB9.mono HBW.out.size))
            clear hB9 hkW hq0 hq1 hq2 HPR
            go_wp2_with fail
            go_roundw
            case measure => simp [intOf]; omega
            case rel => exact ⟨k + 1, by omega, by go_num, HBZ, HN⟩
          · have hzx' : x ≤ z := by omega
            have HV := mkHid (show ordFrom none xs = false by rw [HI.out, HST.out]; simp [HF.out, HPV.out, hzx])
            have hkW : W.cell? ⟨wr.heap.size, 0, none⟩ = some (.int .i64 x) ∧ W.cell? ⟨wr.heap.size, 1, none⟩ = some (.int .i64 y) ∧ W.cell? ⟨b, o + p * 2, none⟩ = some (.int .i64 z) := ⟨cell_of_row W wr.heap.size 0 _ _ _ (((Below.refl W.heap.size W).block _ (Array.getElem?_eq_some_iff.1 HQ.out).1).trans HQ.out), cell_of_row W wr.heap.size 1 _ _ _ (((Below.refl W.heap.size W).block _ (Array.getElem?_eq_some_iff.1 HQ.out).1).trans HQ.out), ((Below.refl W.heap.size W).cell (p := ⟨b, o + p * 2, none⟩) (Nat.lt_of_lt_of_le hb HBW.out.size)).trans ((HBW.out.cell (p := ⟨b, o + p * 2, none⟩) hb).trans hcp)⟩
            have hq0 := fun d os => cell_regrown hkW.1 d os
            have hq1 := fun d os => cell_regrown hkW.2.1 d os
            have hq2 := fun d os => cell_regrown hkW.2.2 d os
            have HPR := mkHid (fun d os => Calls.regrown_of (pright_any x y (Sort.grow (redrawn W d) os)))
            rw [HF.out] at HPR
            go_wp2_with fail
            clear hW
            refine wp_region_quiet_below (by kernel_rfl) (by kernel_rfl) ?_
            repeat (go_big_quiet_step (first | (with_reducible exact HPR.out _ _)))
            refine wpQuiet_nil ?_
            intro wy hw'
            obtain ⟨p9, hw''⟩ := hw'
            have hB9 := below_regrown W p9.d p9.os
            rw [← hw''] at hB9
            clear hw'' p9
            have HBZ := mkHid (HBW.out.trans (hB9.mono HBW.out.size))
            clear hB9 hkW hq0 hq1 hq2 HPR
            go_wp2_with fail
            go_ret
            exact ⟨ret_bool HV.out.symm, HBZ.out⟩
    · obtain rfl : k = n := by omega
      have HV := mkHid (show ordFrom none xs = true by rw [HI.out]; exact ord_end xs _ (by rw [HL.out]; omega))
      go_wp2_with fail
      go_ret
      exact ⟨ret_bool HV.out.symm, HB.out⟩

end Go.Proofs.Ytilepjkdfbhgcaa
