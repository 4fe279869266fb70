/- The law's of and back: a superblock of the document as one of the program, and back. -/
import Derived.Test.YtbgfccfhiocomaaSaA
namespace Go.Proofs.Ytbgfccfhiocomaa
open Go.RowKit Go.Shelf

/-- A new superblock is answered. -/
def RetS (w : World) (g r : Int) (xs : List (Int × Int)) (e : Ending) (w' : World) : Prop :=
  ∃ A c, e = .returned (.agg #[.int .i64 g, .int .i64 r, .slice A xs.length c]) ∧ ES w' w'.heap.size A xs.length xs ∧ CapOk xs.length c ∧ Below w.heap.size w w'
theorem flat_take_succ {xs : List (Int × Int)} {q : Nat} {x : Int × Int} (hx : xs[q]? = some x) : (xs.take (q + 1)).flatMap enC = (xs.take q).flatMap enC ++ [.int .i64 x.1, .int .i64 x.2] := by
  obtain ⟨hl, he⟩ := List.getElem?_eq_some_iff.1 hx
  rw [List.take_succ_eq_append_getElem hl, List.flatMap_append, he]
  rfl
theorem heap_three (W : World) (o o' o2 : Obj) : (((W.alloc o).alloc o').alloc o2).heap[W.heap.size + 2]? = some o2 := by
  have := heap_alloc_new ((W.alloc o).alloc o') o2
  simpa using this

set_option maxRecDepth 20000 in
set_option maxHeartbeats 2000000 in
theorem sof_any (g r : Int) (a : Option Addr) (n c : Nat) (xs : List (Int × Int)) (w : World) (hs : ES w w.heap.size a n xs) (hc : CapOk n c) (hn : n ≤ 1000000) :
    Calls Try.prog 9 #[.agg #[.int .i64 g, .int .i64 r, .slice a n c]] w (RetS w g r xs) := by
  have HS := mkHid hs
  have HL := mkHid hs.len
  obtain ⟨hc1, hc2, hc3⟩ := hc
  clear hs
  obtain ⟨W, hW⟩ : ∃ W, w.alloc (.cells #[.int .i64 g, .int .i64 r, .slice a n c] 24) = W := ⟨_, rfl⟩
  have HAL := mkHid (show Below w.heap.size w W by rw [← hW]; exact (Below.refl _ _).alloc (Nat.le_refl _) _)
  have hsz : W.heap.size = w.heap.size + 1 := by rw [← hW]; simp
  have HSZ := mkHid hsz
  have hQ : W.heap[w.heap.size]? = some (.cells #[.int .i64 g, .int .i64 r, .slice a n c] 24) := by rw [← hW]; exact heap_alloc_new _ _
  obtain ⟨W1, hW1⟩ : ∃ W1, W.alloc (.cells #[.int .i64 0, .int .i64 0, .slice none 0 0] 35) = W1 := ⟨_, rfl⟩
  have HAL1 := mkHid (show Below W.heap.size W W1 by rw [← hW1]; exact (Below.refl _ _).alloc (Nat.le_refl _) _)
  have hsz1 : W1.heap.size = W.heap.size + 1 := by rw [← hW1]; simp
  have HSZ1 := mkHid hsz1
  have hQ' := (HAL1.out.block _ (Array.getElem?_eq_some_iff.1 hQ).1).trans hQ
  have hQ1 : W1.heap[W.heap.size]? = some (.cells #[.int .i64 0, .int .i64 0, .slice none 0 0] 35) := by rw [← hW1]; exact heap_alloc_new _ _
  have HQ1 := mkHid hQ1
  have k0 := cell_of_row W1 w.heap.size 0 _ _ _ hQ'
  have k1 := cell_of_row W1 w.heap.size 1 _ _ _ hQ'
  have k2 := cell_of_row W1 w.heap.size 2 _ _ _ hQ'
  simp at k0 k1 k2
  obtain ⟨W2, hW2⟩ : ∃ W2, W1.alloc (.cells #[.int .i64 g, .int .i64 r, .slice none 0 0] 35) = W2 := ⟨_, rfl⟩
  have HAL2 := mkHid (show Below W1.heap.size W1 W2 by rw [← hW2]; exact (Below.refl _ _).alloc (Nat.le_refl _) _)
  have hQ2 : W2.heap[W1.heap.size]? = some (.cells #[.int .i64 g, .int .i64 r, .slice none 0 0] 35) := by rw [← hW2]; exact heap_alloc_new _ _
  have HQ2 := mkHid hQ2
  have HW2 := mkHid hW2
  clear hW2
  have HSZ2 := mkHid (show W2.heap.size = W1.heap.size + 1 by rw [← HW2.out]; simp)
  have hQ3 := (HAL2.out.block _ (Array.getElem?_eq_some_iff.1 hQ').1).trans hQ'
  have j2 := cell_of_row W2 w.heap.size 2 _ _ _ hQ3
  simp at j2
  rw [← HW2.out] at j2
  have HB2 := mkHid (HAL.out.trans ((HAL1.out.trans (HAL2.out.mono HAL1.out.size)).mono HAL.out.size))
  clear hQ hQ' hQ1 hQ2 hQ3 hsz hsz1
  go_enter Try.func9, Try.ntmps9
  go_wp2_with fail
  rw [HW2.out]
  clear hW hW1 k0 k1 k2 j2
  go_loopw [14] (fun i wr => ∃ (q : Nat) (A : Option Addr) (C : Nat), q ≤ n ∧ i = .int .i64 q ∧ Hid (wr.ownsRow W2.heap.size 74 2 (.slice A q C) q ((xs.take q).flatMap enC)) ∧ Hid (wr.heap[W1.heap.size]? = some (.cells #[.int .i64 g, .int .i64 r, .slice A q C] 35 (0, 0))) ∧ Hid (wr.heap[W.heap.size]? = some (.cells #[.int .i64 0, .int .i64 0, .slice none 0 0] 35 (0, 0))) ∧ Hid (Below W2.heap.size W2 wr ∨ True) ∧ Hid (Below w.heap.size w wr) ∧ Hid (W2.heap.size ≤ wr.heap.size)) (fun i _ => n - (intOf i).toNat)
  case atStart =>
    exact ⟨0, none, 0, Nat.zero_le _, rfl, mkHid (World.ownsRow_nil _ _ _ _), mkHid HQ2.out, mkHid ((HAL2.out.block _ (Array.getElem?_eq_some_iff.1 HQ1.out).1).trans HQ1.out), mkHid (.inr trivial), HB2, mkHid (Nat.le_refl _)⟩
  case round =>
    obtain ⟨q, A, C, hq, rfl, HO, HR, HZ, _, HB, HSR⟩ := hrel
    have c0 := cell_of_row wr W1.heap.size 0 _ _ _ HR.out
    have c1 := cell_of_row wr W1.heap.size 1 _ _ _ HR.out
    have c2 := cell_of_row wr W1.heap.size 2 _ _ _ HR.out
    have z1 := frozen_of_row wr W1.heap.size 2 _ _ HR.out
    have HLT1 := mkHid (Array.getElem?_eq_some_iff.1 HR.out).1
    have hlt1 := HLT1.out
    simp at c0 c1 c2
    by_cases hlt : q < n
    · obtain ⟨b, o, x, rfl, hb, hx, hok, h0, h1⟩ := HS.out.at_ hlt
      have d0 := (HB.out.cell (p := ⟨b, o + q * 2, none⟩) hb).trans h0
      have d1 := (HB.out.cell (p := ⟨b, o + q * 2 + 1, none⟩) hb).trans h1
      have HX := mkHid hx
      have hbr : ∀ k, (Value.slice A q C).ownBlock = some k → k ≠ W1.heap.size ∧ k ≠ W.heap.size := fun k hk => by have := (HO.out.lt k hk).1; have := HSZ2.out; have := HSZ1.out; omega
      have HBR := mkHid hbr
      clear hx h0 h1 hok hbr
      go_wp2_with (at_builtin; refine wpList_app _ rfl (.tmp 20) (.tmp 26) _ rfl W2.heap.size el_en A q C _ rfl ((HO.out.alloc _).alloc _) (wr.heap.size + 1 + 1) (some ⟨wr.heap.size + 1, 0, none⟩) 1 1 [.int .i64 x.1, .int .i64 x.2] rfl (SL.of_block (cur := #[.int .i64 x.1, .int .i64 x.2]) (by have := heap_alloc_new (wr.alloc (.cells #[.int .i64 x.1, .int .i64 x.2] 77)) (.cells #[.int .i64 x.1, .int .i64 x.2] 74); simpa using this) rfl (by omega)) (enC_one [x]) (by unfold maxLen; omega) (by omega) (by have := HSR.out; simp; omega) ?_; intro A' c' w3 ho3 hg3 _; have hr3 := ((hg3.block W1.heap.size (by have := HLT1.out; simp; omega) (fun e => (HBR.out _ e.symm).1 rfl)).trans (Below.heap_alloc _ _ _ (by have := HLT1.out; simp; omega))).trans ((Below.heap_alloc _ _ _ HLT1.out).trans HR.out); have e0 := cell_of_row w3 W1.heap.size 0 _ _ _ hr3; have e1 := cell_of_row w3 W1.heap.size 1 _ _ _ hr3; have e2 := cell_of_row w3 W1.heap.size 2 _ _ _ hr3; have f1 := frozen_of_row w3 W1.heap.size 2 _ _ hr3; simp at e0 e1 e2; have HR3 := mkHid hr3; have hz3 := ((hg3.block W.heap.size (by have := HLT1.out; have := HSZ1.out; simp; omega) (fun e => (HBR.out _ e.symm).2 rfl)).trans (Below.heap_alloc _ _ _ (by have := HLT1.out; have := HSZ1.out; simp; omega))).trans ((Below.heap_alloc _ _ _ (by have := HLT1.out; have := HSZ1.out; omega)).trans HZ.out); have HZ3 := mkHid hz3; have HB3 := mkHid (((HB.out.alloc HB.out.size _).alloc (by have := HB.out.size; simp; omega) _).grown hg3 (by have := HB.out.size; simp; omega) (fun k hk => by have := (HO.out.lt k hk).1; have := HB2.out.size; omega)); have HO3 := mkHid ho3; have HS3 := mkHid (show W2.heap.size ≤ w3.heap.size by have h1 := hg3.size; have h2 := HSR.out; simp at h1; omega); clear ho3 hg3 hr3 hz3)
      have HT := mkHid (flat_take_succ HX.out)
      go_roundw
      case measure => simp [intOf]; omega
      case rel =>
        refine ⟨q + 1, A', c', by omega, by go_num, mkHid ?_, mkHid (heap_setCell_same _ _ _ _ _ _ HR3.out), mkHid ((heap_setCell_other _ _ _ _ (by have := HSZ1.out; simp; omega)).trans HZ3.out), mkHid (.inr trivial), mkHid (HB3.out.setCell (by have := HAL.out.size; have := HAL1.out.size; simp; omega) _), mkHid (by simp [World.setCell]; exact HS3.out)⟩
        rw [HT.out]
        exact own_set_other HO3.out (by have := HSZ2.out; omega)
    · obtain rfl : q = n := by omega
      have HC0 := mkHid (cell_of_row wr W.heap.size 0 _ _ _ HZ.out)
      have y0 := cell_of_row wr W.heap.size 0 _ _ _ HZ.out
      have y1 := cell_of_row wr W.heap.size 1 _ _ _ HZ.out
      have y2 := cell_of_row wr W.heap.size 2 _ _ _ HZ.out
      have z0 := frozen_of_row wr W.heap.size 0 _ _ HZ.out
      have z2 := frozen_of_row wr W.heap.size 1 _ _ HZ.out
      have z3 := frozen_of_row wr W.heap.size 2 _ _ HZ.out
      simp at y0 y1 y2
      go_wp2_with fail
      refine bodyPost_ret (v := .agg #[.int .i64 g, .int .i64 r, .slice A q C]) (by simp [results, Try.results9, go_sem, y0, y1, y2]) rfl ?_
      have hq := HL.out
      have ho := own_set_other (g := W.heap.size) (i := 2) (u := .slice A q C) (own_set_other (g := W.heap.size) (i := 1) (u := .int .i64 r) (own_set_other (g := W.heap.size) (i := 0) (u := .int .i64 g) HO.out (by have := HSZ2.out; have := HSZ1.out; omega)) (by have := HSZ2.out; have := HSZ1.out; omega)) (by have := HSZ2.out; have := HSZ1.out; omega)
      rw [List.take_of_length_le (by omega)] at ho
      refine ⟨A, C, by rw [hq], ?_, ⟨by rw [hq]; exact (own_cap HO.out).1, (own_cap HO.out).2, by rw [hq]; omega⟩, ((HB.out.setCell HAL.out.size _).setCell HAL.out.size _).setCell HAL.out.size _⟩
      rw [hq]
      exact ⟨SL.of_own ho, HS.out.2⟩

set_option maxRecDepth 20000 in
set_option maxHeartbeats 2000000 in
theorem sback_any (g r : Int) (a : Option Addr) (n c : Nat) (xs : List (Int × Int)) (w : World) (hs : ES w w.heap.size a n xs) (hc : CapOk n c) (hn : n ≤ 1000000) :
    Calls Try.prog 20 #[.agg #[.int .i64 g, .int .i64 r, .slice a n c]] w (RetS w g r xs) := by
  have HS := mkHid hs
  have HL := mkHid hs.len
  obtain ⟨hc1, hc2, hc3⟩ := hc
  clear hs
  obtain ⟨W, hW⟩ : ∃ W, w.alloc (.cells #[.int .i64 g, .int .i64 r, .slice a n c] 35) = W := ⟨_, rfl⟩
  have HAL := mkHid (show Below w.heap.size w W by rw [← hW]; exact (Below.refl _ _).alloc (Nat.le_refl _) _)
  have hsz : W.heap.size = w.heap.size + 1 := by rw [← hW]; simp
  have HSZ := mkHid hsz
  have hQ : W.heap[w.heap.size]? = some (.cells #[.int .i64 g, .int .i64 r, .slice a n c] 35) := by rw [← hW]; exact heap_alloc_new _ _
  obtain ⟨W1, hW1⟩ : ∃ W1, W.alloc (.cells #[.int .i64 0, .int .i64 0, .slice none 0 0] 24) = W1 := ⟨_, rfl⟩
  have HAL1 := mkHid (show Below W.heap.size W W1 by rw [← hW1]; exact (Below.refl _ _).alloc (Nat.le_refl _) _)
  have hsz1 : W1.heap.size = W.heap.size + 1 := by rw [← hW1]; simp
  have HSZ1 := mkHid hsz1
  have hQ' := (HAL1.out.block _ (Array.getElem?_eq_some_iff.1 hQ).1).trans hQ
  have hQ1 : W1.heap[W.heap.size]? = some (.cells #[.int .i64 0, .int .i64 0, .slice none 0 0] 24) := by rw [← hW1]; exact heap_alloc_new _ _
  have HQ1 := mkHid hQ1
  have k0 := cell_of_row W1 w.heap.size 0 _ _ _ hQ'
  have k1 := cell_of_row W1 w.heap.size 1 _ _ _ hQ'
  have k2 := cell_of_row W1 w.heap.size 2 _ _ _ hQ'
  simp at k0 k1 k2
  obtain ⟨W2, hW2⟩ : ∃ W2, W1.alloc (.cells #[.int .i64 g, .int .i64 r, .slice none 0 0] 24) = W2 := ⟨_, rfl⟩
  have HAL2 := mkHid (show Below W1.heap.size W1 W2 by rw [← hW2]; exact (Below.refl _ _).alloc (Nat.le_refl _) _)
  have hQ2 : W2.heap[W1.heap.size]? = some (.cells #[.int .i64 g, .int .i64 r, .slice none 0 0] 24) := by rw [← hW2]; exact heap_alloc_new _ _
  have HQ2 := mkHid hQ2
  have HW2 := mkHid hW2
  clear hW2
  have HSZ2 := mkHid (show W2.heap.size = W1.heap.size + 1 by rw [← HW2.out]; simp)
  have hQ3 := (HAL2.out.block _ (Array.getElem?_eq_some_iff.1 hQ').1).trans hQ'
  have j2 := cell_of_row W2 w.heap.size 2 _ _ _ hQ3
  simp at j2
  rw [← HW2.out] at j2
  have HB2 := mkHid (HAL.out.trans ((HAL1.out.trans (HAL2.out.mono HAL1.out.size)).mono HAL.out.size))
  clear hQ hQ' hQ1 hQ2 hQ3 hsz hsz1
  go_enter Try.func20, Try.ntmps20
  go_wp2_with fail
  rw [HW2.out]
  clear hW hW1 k0 k1 k2 j2
  go_loopw [15] (fun i wr => ∃ (q : Nat) (A : Option Addr) (C : Nat), q ≤ n ∧ i = .int .i64 q ∧ Hid (wr.ownsRow W2.heap.size 77 2 (.slice A q C) q ((xs.take q).flatMap enC)) ∧ Hid (wr.heap[W1.heap.size]? = some (.cells #[.int .i64 g, .int .i64 r, .slice A q C] 24 (0, 0))) ∧ Hid (wr.heap[W.heap.size]? = some (.cells #[.int .i64 0, .int .i64 0, .slice none 0 0] 24 (0, 0))) ∧ Hid (Below W2.heap.size W2 wr ∨ True) ∧ Hid (Below w.heap.size w wr) ∧ Hid (W2.heap.size ≤ wr.heap.size)) (fun i _ => n - (intOf i).toNat)
  case atStart =>
    exact ⟨0, none, 0, Nat.zero_le _, rfl, mkHid (World.ownsRow_nil _ _ _ _), mkHid HQ2.out, mkHid ((HAL2.out.block _ (Array.getElem?_eq_some_iff.1 HQ1.out).1).trans HQ1.out), mkHid (.inr trivial), HB2, mkHid (Nat.le_refl _)⟩
  case round =>
    obtain ⟨q, A, C, hq, rfl, HO, HR, HZ, _, HB, HSR⟩ := hrel
    have c0 := cell_of_row wr W1.heap.size 0 _ _ _ HR.out
    have c1 := cell_of_row wr W1.heap.size 1 _ _ _ HR.out
    have c2 := cell_of_row wr W1.heap.size 2 _ _ _ HR.out
    have z1 := frozen_of_row wr W1.heap.size 2 _ _ HR.out
    have HLT1 := mkHid (Array.getElem?_eq_some_iff.1 HR.out).1
    have hlt1 := HLT1.out
    simp at c0 c1 c2
    by_cases hlt : q < n
    · obtain ⟨b, o, x, rfl, hb, hx, hok, h0, h1⟩ := HS.out.at_ hlt
      have d0 := (HB.out.cell (p := ⟨b, o + q * 2, none⟩) hb).trans h0
      have d1 := (HB.out.cell (p := ⟨b, o + q * 2 + 1, none⟩) hb).trans h1
      have HX := mkHid hx
      have hbr : ∀ k, (Value.slice A q C).ownBlock = some k → k ≠ W1.heap.size ∧ k ≠ W.heap.size := fun k hk => by have := (HO.out.lt k hk).1; have := HSZ2.out; have := HSZ1.out; omega
      have HBR := mkHid hbr
      clear hx h0 h1 hok hbr
      go_wp2_with (at_builtin; refine wpList_app _ rfl (.tmp 20) (.tmp 26) _ rfl W2.heap.size el_ren A q C _ rfl ((HO.out.alloc _).alloc _) (wr.heap.size + 1 + 1) (some ⟨wr.heap.size + 1, 0, none⟩) 1 1 [.int .i64 x.1, .int .i64 x.2] rfl (SL.of_block (cur := #[.int .i64 x.1, .int .i64 x.2]) (by have := heap_alloc_new (wr.alloc (.cells #[.int .i64 x.1, .int .i64 x.2] 74)) (.cells #[.int .i64 x.1, .int .i64 x.2] 77); simpa using this) rfl (by omega)) (enC_one [x]) (by unfold maxLen; omega) (by omega) (by have := HSR.out; simp; omega) ?_; intro A' c' w3 ho3 hg3 _; have hr3 := ((hg3.block W1.heap.size (by have := HLT1.out; simp; omega) (fun e => (HBR.out _ e.symm).1 rfl)).trans (Below.heap_alloc _ _ _ (by have := HLT1.out; simp; omega))).trans ((Below.heap_alloc _ _ _ HLT1.out).trans HR.out); have e0 := cell_of_row w3 W1.heap.size 0 _ _ _ hr3; have e1 := cell_of_row w3 W1.heap.size 1 _ _ _ hr3; have e2 := cell_of_row w3 W1.heap.size 2 _ _ _ hr3; have f1 := frozen_of_row w3 W1.heap.size 2 _ _ hr3; simp at e0 e1 e2; have HR3 := mkHid hr3; have hz3 := ((hg3.block W.heap.size (by have := HLT1.out; have := HSZ1.out; simp; omega) (fun e => (HBR.out _ e.symm).2 rfl)).trans (Below.heap_alloc _ _ _ (by have := HLT1.out; have := HSZ1.out; simp; omega))).trans ((Below.heap_alloc _ _ _ (by have := HLT1.out; have := HSZ1.out; omega)).trans HZ.out); have HZ3 := mkHid hz3; have HB3 := mkHid (((HB.out.alloc HB.out.size _).alloc (by have := HB.out.size; simp; omega) _).grown hg3 (by have := HB.out.size; simp; omega) (fun k hk => by have := (HO.out.lt k hk).1; have := HB2.out.size; omega)); have HO3 := mkHid ho3; have HS3 := mkHid (show W2.heap.size ≤ w3.heap.size by have h1 := hg3.size; have h2 := HSR.out; simp at h1; omega); clear ho3 hg3 hr3 hz3)
      have HT := mkHid (flat_take_succ HX.out)
      go_roundw
      case measure => simp [intOf]; omega
      case rel =>
        refine ⟨q + 1, A', c', by omega, by go_num, mkHid ?_, mkHid (heap_setCell_same _ _ _ _ _ _ HR3.out), mkHid ((heap_setCell_other _ _ _ _ (by have := HSZ1.out; simp; omega)).trans HZ3.out), mkHid (.inr trivial), mkHid (HB3.out.setCell (by have := HAL.out.size; have := HAL1.out.size; simp; omega) _), mkHid (by simp [World.setCell]; exact HS3.out)⟩
        rw [HT.out]
        exact own_set_other HO3.out (by have := HSZ2.out; omega)
    · obtain rfl : q = n := by omega
      have HC0 := mkHid (cell_of_row wr W.heap.size 0 _ _ _ HZ.out)
      have y0 := cell_of_row wr W.heap.size 0 _ _ _ HZ.out
      have y1 := cell_of_row wr W.heap.size 1 _ _ _ HZ.out
      have y2 := cell_of_row wr W.heap.size 2 _ _ _ HZ.out
      have z0 := frozen_of_row wr W.heap.size 0 _ _ HZ.out
      have z2 := frozen_of_row wr W.heap.size 1 _ _ HZ.out
      have z3 := frozen_of_row wr W.heap.size 2 _ _ HZ.out
      simp at y0 y1 y2
      go_wp2_with fail
      refine bodyPost_ret (v := .agg #[.int .i64 g, .int .i64 r, .slice A q C]) (by simp [results, Try.results20, go_sem, y0, y1, y2]) rfl ?_
      have hq := HL.out
      have ho := own_set_other (g := W.heap.size) (i := 2) (u := .slice A q C) (own_set_other (g := W.heap.size) (i := 1) (u := .int .i64 r) (own_set_other (g := W.heap.size) (i := 0) (u := .int .i64 g) HO.out (by have := HSZ2.out; have := HSZ1.out; omega)) (by have := HSZ2.out; have := HSZ1.out; omega)) (by have := HSZ2.out; have := HSZ1.out; omega)
      rw [List.take_of_length_le (by omega)] at ho
      refine ⟨A, C, by rw [hq], ?_, ⟨by rw [hq]; exact (own_cap HO.out).1, (own_cap HO.out).2, by rw [hq]; omega⟩, ((HB.out.setCell HAL.out.size _).setCell HAL.out.size _).setCell HAL.out.size _⟩
      rw [hq]
      exact ⟨SL.of_own ho, HS.out.2⟩


end Go.Proofs.Ytbgfccfhiocomaa
