/- Roster's Grow, Cancel, Remove by contract. -/
import Derived.Test.YtlpgeocoddehgaaRosB
namespace Go.Proofs.Ytlpgeocoddehgaa
open Go.RowKit Go.Shelf

theorem grown_of_below {w w' : World} (h : Below w.heap.size w w') (row : Option Nat) : w.grownBy w' row := ⟨h.os, h.tape, h.output, h.size, fun k hk _ => h.block k hk⟩
theorem grown_trans {w w1 w2 : World} {row : Option Nat} (h : w.grownBy w1 row) (k : w1.grownBy w2 row) : w.grownBy w2 row :=
  ⟨k.os.trans h.os, k.tape.trans h.tape, k.output.trans h.output, Nat.le_trans h.size k.size, fun q hq hne => (k.block q (Nat.lt_of_lt_of_le hq h.size) hne).trans (h.block q hq hne)⟩
theorem grown_drewN {w w1 : World} {row : Option Nat} (h : w.grownBy w1 row) (n : Nat) : w.grownBy (w1.drewN n) row := ⟨h.os, h.tape, h.output, h.size, h.block⟩
theorem grown_setCell (w : World) (r i : Nat) (v : Value) : w.grownBy (w.setCell ⟨r, i, none⟩ v) (some r) :=
  ⟨rfl, rfl, rfl, by simp [World.setCell], fun q _ hne => heap_setCell_other _ _ _ _ fun e => hne (by have e : q = r := e; rw [e])⟩
/-- A store into a cell that holds a slice turns no entries. -/
theorem ES.set_slice {w : World} {B g n : Nat} {a a' : Option Addr} {n' c' : Nat} {xs : List (Int × Int)} {t : TypeId} {fr : Nat × Nat} {v : Value} (h : ES w B a n xs) (hg : w.heap[g]? = some (.cells #[.slice a' n' c'] t fr)) : ES (w.setCell ⟨g, 0, none⟩ v) B a n xs := by
  refine ⟨⟨h.1.1, fun j hj => ?_⟩, h.2⟩
  obtain ⟨b, o, ha, hb, hc⟩ := h.1.2 j hj
  refine ⟨b, o, ha, hb, ?_⟩
  by_cases e : b = g
  · subst e
    rw [cell_of_row _ _ _ _ _ _ hg] at hc
    have hl := h.1.1
    obtain ⟨u, hu⟩ : ∃ u, (xs.flatMap enC)[j]? = some u := ⟨_, List.getElem?_eq_getElem (by omega)⟩
    have hu1 := List.mem_of_getElem? hu
    rw [hu] at hc
    have ho : o + j = 0 := by
      by_cases h0 : o + j = 0
      · exact h0
      · rw [Array.getElem?_eq_none (by simp; omega)] at hc
        cases hc
    rw [ho] at hc
    simp at hc
    obtain ⟨s, _, hs⟩ := List.mem_flatMap.1 hu1
    rw [← hc] at hs
    simp [enC] at hs
  · exact (World.cell?_of_block (w := w) (heap_setCell_other _ _ _ _ e)).trans hc

set_option maxRecDepth 20000 in
set_option maxHeartbeats 1000000 in
theorem pred_grow (size : Int) (b1 : Nat) (w : World) (h1 : w.heap[b1]? = some (.cells #[.int .i64 size] 3 (0, 0))) :
    PredC 39 #[] #[.pointer (some ⟨b1, 0, none⟩)] (growF size) w := fun W x r k cur hx hb hr hcur hc0 hc1 => by
  show Calls Try.prog 39 #[.pointer (some ⟨r, k * 2, none⟩), .pointer (some ⟨b1, 0, none⟩)] W _
  have l1 := (Array.getElem?_eq_some_iff.1 h1).1
  have HD1 := mkHid ((hb.block b1 l1).trans h1)
  have hb1W : b1 < W.heap.size := Nat.lt_of_lt_of_le l1 hb.size
  have e0 := (cell_of_row W r (k * 2) _ _ _ hcur).trans hc0
  have e1 := (cell_of_row W r (k * 2 + 1) _ _ _ hcur).trans hc1
  have hrl := (Array.getElem?_eq_some_iff.1 hcur).1
  have HCUR := mkHid hcur
  have HC0 := mkHid hc0
  have HM := mkHid (member_any x W)
  obtain ⟨s, z⟩ := x
  simp only at e0 e1
  unfold enV at HM
  simp only at HM
  clear hcur hc0 hc1 h1 hb hx
  cases hm : memberB (s, z) with
  | false =>
    have HV := mkHid (show growF size (s, z) = (30, (s, z)) from if_pos hm)
    rw [hm] at HM
    clear hm
    go_enter Try.func39, Try.ntmps39
    go_wp2_with fail
    refine HM.out.mono ?_
    rintro e w1 ⟨rfl, hbm⟩
    go_wp2_with fail
    go_ret
    rw [HV.out]
    exact ⟨rfl, grown_of_below hbm _, fun h => by cases h⟩
  | true =>
    rw [hm] at HM
    have HG := mkHid (show growF size (s, z) = if size ≤ z ∨ 4096 < size then (20, (s, z)) else (0, (s, size)) from if_neg (by rw [hm]; decide))
    clear hm
    by_cases h1 : size ≤ z
    · have HV := mkHid (HG.out.trans (if_pos (.inl h1)))
      have hd : decide (size ≤ z) = true := by simpa using h1
      clear h1
      go_enter Try.func39, Try.ntmps39
      go_wp2_with fail
      refine HM.out.mono ?_
      rintro e w1 ⟨rfl, hbm⟩
      have d1 := cell_of_row w1 b1 0 _ _ _ ((hbm.block b1 hb1W).trans HD1.out)
      have e1 := (hbm.cell (p := ⟨r, k * 2 + 1, none⟩) hrl).trans e1
      simp at d1
      go_wp2_with fail
      go_quiet (fail)
      go_wp2_with fail
      go_ret
      rw [HV.out]
      exact ⟨rfl, grown_drewN (grown_of_below hbm _) _, fun h => by cases h⟩
    · have hd : decide (size ≤ z) = false := by simpa using h1
      by_cases h2 : 4096 < size
      · have HV := mkHid (HG.out.trans (if_pos (.inr h2)))
        have hd2 : decide (4096 < size) = true := by simpa using h2
        clear h1 h2
        go_enter Try.func39, Try.ntmps39
        go_wp2_with fail
        refine HM.out.mono ?_
        rintro e w1 ⟨rfl, hbm⟩
        have d1 := cell_of_row w1 b1 0 _ _ _ ((hbm.block b1 hb1W).trans HD1.out)
        have e1 := (hbm.cell (p := ⟨r, k * 2 + 1, none⟩) hrl).trans e1
        simp at d1
        go_wp2_with fail
        go_quiet (fail)
        go_wp2_with fail
        go_ret
        rw [HV.out]
        exact ⟨rfl, grown_drewN (grown_of_below hbm _) _, fun h => by cases h⟩
      · have HV := mkHid (HG.out.trans (if_neg (by omega)))
        have hd2 : decide (4096 < size) = false := by simpa using h2
        clear h1 h2
        go_enter Try.func39, Try.ntmps39
        go_wp2_with fail
        refine HM.out.mono ?_
        rintro e w1 ⟨rfl, hbm⟩
        have d1 := cell_of_row w1 b1 0 _ _ _ ((hbm.block b1 hb1W).trans HD1.out)
        have e1 := (hbm.cell (p := ⟨r, k * 2 + 1, none⟩) hrl).trans e1
        have z1 := frozen_of_row w1 r (k * 2 + 1) _ _ ((hbm.block r hrl).trans HCUR.out)
        simp at d1
        go_wp2_with fail
        go_quiet (fail)
        go_wp2_with fail
        go_ret
        rw [HV.out]
        refine ⟨rfl, grown_trans (grown_drewN (grown_of_below hbm _) _) (grown_setCell _ _ _ _), fun _ => ?_⟩
        rw [heap_setCell_same _ _ _ _ _ _ (show (w1.drewN nq).heap[r]? = _ from (hbm.block r hrl).trans HCUR.out)]
        rw [set_same HC0.out]

theorem growF_ok (size : Int) (hs : I64 size) : ∀ x, EnOk x → (growF size x).1 = 0 → EnOk (growF size x).2 := fun x hx _ => by
  unfold growF
  split
  · exact hx
  · split
    · exact hx
    · exact ⟨hx.1, hs⟩
theorem turnF_ok (s t : Int) (ht : I64 t) : ∀ x, EnOk x → (turnF s t x).1 = 0 → EnOk (turnF s t x).2 := fun x hx _ => by
  unfold turnF
  split
  · exact ⟨ht, hx.2⟩
  · exact hx
theorem turn_at (s t : Int) (w : World) : Calls Try.prog 41 #[.int .i64 s, .int .i64 t] w fun e w' => ∃ b1 b2, e = .returned (.func (.func 59) #[] #[.pointer (some ⟨b1, 0, none⟩), .pointer (some ⟨b2, 0, none⟩)]) ∧ w'.heap[b1]? = some (.cells #[.int .i64 s] 3 (0, 0)) ∧ w'.heap[b2]? = some (.cells #[.int .i64 t] 3 (0, 0)) ∧ Below w.heap.size w w' := by
  refine (turn_any s t w).mono ?_
  rintro e w' ⟨rfl, rfl⟩
  refine ⟨_, _, rfl, (Below.heap_alloc _ _ _ (by simp)).trans (heap_alloc_new _ _), ?_, ((Below.refl _ _).alloc (Nat.le_refl _) _).alloc (by simp) _⟩
  have := heap_alloc_new (w.alloc (.cells #[.int .i64 s] 3)) (.cells #[.int .i64 t] 3)
  simpa using this
/-- The result's cell gets the roster. -/
theorem RetR.set {w W w1 : World} {r : Int × List (Int × Int)} {g : Nat} {A : Option Addr} {C : Nat} {t : TypeId} {fr : Nat × Nat} {a' : Option Addr} {n' c' : Nat} (hes : ES w1 w1.heap.size A r.2.length r.2) (hcap : CapOk r.2.length C) (hb1 : Below W.heap.size W w1) (hw : Below w.heap.size w W) (hg : w1.heap[g]? = some (.cells #[.slice a' n' c'] t fr)) (hgw : w.heap.size ≤ g) (v : Value) (hv : v = errV r.1) :
    RetR w r (.returned (.tuple #[.agg #[.slice A r.2.length C], v])) (w1.setCell ⟨g, 0, none⟩ (.slice A r.2.length C)) :=
  ⟨A, C, by rw [hv], by rw [show (w1.setCell ⟨g, 0, none⟩ (.slice A r.2.length C)).heap.size = w1.heap.size by simp [World.setCell]]; exact hes.set_slice hg, hcap, (hw.trans (hb1.mono hw.size)).setCell hgw _⟩

set_option maxRecDepth 20000 in
set_option maxHeartbeats 1000000 in
theorem grow_any (a : Option Addr) (n c : Nat) (xs : List (Int × Int)) (d size : Int) (w : World) (hs : ES w w.heap.size a n xs) (hc : CapOk n c) (hd : I64 d) (hz : I64 size) :
    Calls Try.prog 16 #[.agg #[.slice a n c], .int .i64 d, .int .i64 size] w (RetR w (withOf xs d (growF size))) := by
  have HAL := mkHid (show Below w.heap.size w (((w.alloc (.cells #[.slice a n c] 27)).alloc (.cells #[.int .i64 size] 3)).alloc (.cells #[.slice none 0 0] 27)) from (((Below.refl _ _).alloc (Nat.le_refl _) _).alloc (by simp) _).alloc (by simp; omega) _)
  have HB := mkHid (show (((w.alloc (.cells #[.slice a n c] 27)).alloc (.cells #[.int .i64 size] 3)).alloc (.cells #[.slice none 0 0] 27)).heap[w.heap.size + 1]? = some (.cells #[.int .i64 size] 3) from (Below.heap_alloc _ _ _ (by simp)).trans (by have := heap_alloc_new (w.alloc (.cells #[.slice a n c] 27)) (.cells #[.int .i64 size] 3); rwa [show (w.alloc (.cells #[.slice a n c] 27)).heap.size = w.heap.size + 1 by simp] at this))
  have HR := mkHid (show (((w.alloc (.cells #[.slice a n c] 27)).alloc (.cells #[.int .i64 size] 3)).alloc (.cells #[.slice none 0 0] 27)).heap[w.heap.size + 1 + 1]? = some (.cells #[.slice none 0 0] 27) from by have := heap_alloc_new ((w.alloc (.cells #[.slice a n c] 27)).alloc (.cells #[.int .i64 size] 3)) (.cells #[.slice none 0 0] 27); simpa using this)
  have HW := mkHid (with_any 39 #[] #[.pointer (some ⟨w.heap.size + 1, 0, none⟩)] (growF size) eg_grow1 a n c xs d _ (hs.next HAL.out) hc hd (pred_grow size _ _ HB.out) (growF_ok size hz))
  clear hs hc hd hz
  go_enter Try.func16, Try.ntmps16
  go_wp2_with fail
  refine HW.out.mono ?_
  rintro e w1 ⟨A, C, rfl, hes, hcap, hb1⟩
  have hg := (hb1.block (w.heap.size + 1 + 1) (by simp)).trans HR.out
  have HES := mkHid hes
  have HCAP := mkHid hcap
  have HB1 := mkHid hb1
  have HG := mkHid hg
  have c2 := cell_of_row w1 (w.heap.size + 1 + 1) 0 _ _ _ hg
  have z2 := frozen_of_row w1 (w.heap.size + 1 + 1) 0 _ _ hg
  simp at c2
  clear hes hcap hb1 hg HW
  generalize withOf xs d (growF size) = rr at *
  go_wp2_with fail
  refine bodyPost_ret (v := .tuple #[.agg #[.slice A rr.2.length C], errV rr.1]) (by simp [results, Try.results16, go_sem, c2]) rfl ?_
  exact RetR.set HES.out HCAP.out HB1.out HAL.out HG.out (by omega) _ rfl

set_option maxRecDepth 20000 in
set_option maxHeartbeats 1000000 in
theorem cancel_any (a : Option Addr) (n c : Nat) (xs : List (Int × Int)) (d : Int) (w : World) (hs : ES w w.heap.size a n xs) (hc : CapOk n c) (hd : I64 d) :
    Calls Try.prog 18 #[.agg #[.slice a n c], .int .i64 d] w (RetR w (withOf xs d (turnF 2 1))) := by
  obtain ⟨W, hW⟩ : ∃ W, (w.alloc (.cells #[.slice a n c] 27)).alloc (.cells #[.slice none 0 0] 27) = W := ⟨_, rfl⟩
  have HAL := mkHid (show Below w.heap.size w W from by rw [← hW]; exact ((Below.refl _ _).alloc (Nat.le_refl _) _).alloc (by simp) _)
  have hsz : W.heap.size = w.heap.size + 1 + 1 := by rw [← hW]; simp
  have hbx : W.heap[w.heap.size]? = some (.cells #[.slice a n c] 27) := by rw [← hW]; exact (Below.heap_alloc _ _ _ (by simp)).trans (heap_alloc_new _ _)
  have hrs : W.heap[w.heap.size + 1]? = some (.cells #[.slice none 0 0] 27) := by rw [← hW]; have := heap_alloc_new (w.alloc (.cells #[.slice a n c] 27)) (.cells #[.slice none 0 0] 27); simpa using this
  have HBX := mkHid (cell_of_row W w.heap.size 0 _ _ _ hbx)
  have HRS := mkHid hrs
  have HSZ := mkHid hsz
  have HES := mkHid (hs.next HAL.out)
  have HC := mkHid hc
  have HD := mkHid hd
  clear hs hc hd hrs hbx hsz
  go_enter Try.func18, Try.ntmps18
  go_wp2_with fail
  have c1 : W.cell? ⟨w.heap.size, 0, none⟩ = some (.slice a n c) := HBX.out
  clear hW
  have HK := mkHid (show ∀ s : World, Below W.heap.size W s → s.cell? ⟨w.heap.size, 0, none⟩ = some (.slice a n c) from fun s hs => (hs.cell (p := ⟨w.heap.size, 0, none⟩) (by rw [HSZ.out]; show w.heap.size < _; omega)).trans HBX.out)
  have HKS := mkHid (show ∀ (s : World) (v : Value), s.cell? ⟨w.heap.size, 0, none⟩ = some (.slice a n c) → (s.setCell ⟨w.heap.size + 1, 0, none⟩ v).cell? ⟨w.heap.size, 0, none⟩ = some (.slice a n c) from fun s v hs => (World.cell?_of_block (w := s) (heap_setCell_other _ _ _ _ (by simp))).trans hs)
  generalize hrr : withOf xs d (turnF 2 1) = rr at *
  have HRR := mkHid hrr
  clear hrr
  go_region_held3 (fun s => s.cell? ⟨w.heap.size, 0, none⟩ = some (.slice a n c)) (first | assumption | exact HKS.out _ _ (by assumption)) (first
    | (go_at_call 41; refine (turn_at _ _ _).mono ?_; rintro e w2 ⟨b1, b2, rfl, hp1, hp2, hb2⟩; have hb2' := ((Below.refl W.heap.size W).drew).trans hb2; have hk2 := HK.out w2 hb2'; have HP1 := mkHid hp1; have HP2 := mkHid hp2; have HB2 := mkHid hb2'; clear hp1 hp2 hb2 hb2')
    | (go_at_call 38; refine (with_any 59 #[] #[.pointer (some ⟨b1, 0, none⟩), .pointer (some ⟨b2, 0, none⟩)] (turnF 2 1) eg_turn1 a n c xs d w2 (HES.out.next HB2.out) HC.out HD.out (pred_turn 2 1 b1 b2 w2 HP1.out HP2.out) (turnF_ok 2 1 (by unfold I64; omega))).mono ?_; rintro e w3 ⟨A, C, rfl, hes, hcap, hb3⟩; rw [HRR.out] at hes hcap ⊢; have HB3 := mkHid (HB2.out.trans (hb3.mono HB2.out.size)); have hk3 := HK.out w3 HB3.out; have hg3 := (HB3.out.block (w.heap.size + 1) (by rw [HSZ.out]; omega)).trans HRS.out; have c2 := cell_of_row w3 (w.heap.size + 1) 0 _ _ _ hg3; have z2 := frozen_of_row w3 (w.heap.size + 1) 0 _ _ hg3; simp at c2; have HES3 := mkHid hes; have HCAP := mkHid hcap; have HG3 := mkHid hg3; clear hes hcap hb3 hg3))
  go_wp2_with fail
  refine bodyPost_ret (v := .tuple #[.agg #[.slice A rr.2.length C], errV rr.1]) (by simp [results, Try.results18, go_sem, c2]) rfl ?_
  exact RetR.set HES3.out HCAP.out HB3.out HAL.out HG3.out (by omega) _ rfl

set_option maxRecDepth 20000 in
set_option maxHeartbeats 1000000 in
theorem remove_any (a : Option Addr) (n c : Nat) (xs : List (Int × Int)) (d : Int) (w : World) (hs : ES w w.heap.size a n xs) (hc : CapOk n c) (hd : I64 d) :
    Calls Try.prog 19 #[.agg #[.slice a n c], .int .i64 d] w (RetR w (withOf xs d (turnF 2 3))) := by
  obtain ⟨W, hW⟩ : ∃ W, (w.alloc (.cells #[.slice a n c] 27)).alloc (.cells #[.slice none 0 0] 27) = W := ⟨_, rfl⟩
  have HAL := mkHid (show Below w.heap.size w W from by rw [← hW]; exact ((Below.refl _ _).alloc (Nat.le_refl _) _).alloc (by simp) _)
  have hsz : W.heap.size = w.heap.size + 1 + 1 := by rw [← hW]; simp
  have hbx : W.heap[w.heap.size]? = some (.cells #[.slice a n c] 27) := by rw [← hW]; exact (Below.heap_alloc _ _ _ (by simp)).trans (heap_alloc_new _ _)
  have hrs : W.heap[w.heap.size + 1]? = some (.cells #[.slice none 0 0] 27) := by rw [← hW]; have := heap_alloc_new (w.alloc (.cells #[.slice a n c] 27)) (.cells #[.slice none 0 0] 27); simpa using this
  have HBX := mkHid (cell_of_row W w.heap.size 0 _ _ _ hbx)
  have HRS := mkHid hrs
  have HSZ := mkHid hsz
  have HES := mkHid (hs.next HAL.out)
  have HC := mkHid hc
  have HD := mkHid hd
  clear hs hc hd hrs hbx hsz
  go_enter Try.func19, Try.ntmps19
  go_wp2_with fail
  have c1 : W.cell? ⟨w.heap.size, 0, none⟩ = some (.slice a n c) := HBX.out
  clear hW
  have HK := mkHid (show ∀ s : World, Below W.heap.size W s → s.cell? ⟨w.heap.size, 0, none⟩ = some (.slice a n c) from fun s hs => (hs.cell (p := ⟨w.heap.size, 0, none⟩) (by rw [HSZ.out]; show w.heap.size < _; omega)).trans HBX.out)
  have HKS := mkHid (show ∀ (s : World) (v : Value), s.cell? ⟨w.heap.size, 0, none⟩ = some (.slice a n c) → (s.setCell ⟨w.heap.size + 1, 0, none⟩ v).cell? ⟨w.heap.size, 0, none⟩ = some (.slice a n c) from fun s v hs => (World.cell?_of_block (w := s) (heap_setCell_other _ _ _ _ (by simp))).trans hs)
  generalize hrr : withOf xs d (turnF 2 3) = rr at *
  have HRR := mkHid hrr
  clear hrr
  go_region_held3 (fun s => s.cell? ⟨w.heap.size, 0, none⟩ = some (.slice a n c)) (first | assumption | exact HKS.out _ _ (by assumption)) (first
    | (go_at_call 41; refine (turn_at _ _ _).mono ?_; rintro e w2 ⟨b1, b2, rfl, hp1, hp2, hb2⟩; have hb2' := ((Below.refl W.heap.size W).drew).trans hb2; have hk2 := HK.out w2 hb2'; have HP1 := mkHid hp1; have HP2 := mkHid hp2; have HB2 := mkHid hb2'; clear hp1 hp2 hb2 hb2')
    | (go_at_call 38; refine (with_any 59 #[] #[.pointer (some ⟨b1, 0, none⟩), .pointer (some ⟨b2, 0, none⟩)] (turnF 2 3) eg_turn1 a n c xs d w2 (HES.out.next HB2.out) HC.out HD.out (pred_turn 2 3 b1 b2 w2 HP1.out HP2.out) (turnF_ok 2 3 (by unfold I64; omega))).mono ?_; rintro e w3 ⟨A, C, rfl, hes, hcap, hb3⟩; rw [HRR.out] at hes hcap ⊢; have HB3 := mkHid (HB2.out.trans (hb3.mono HB2.out.size)); have hk3 := HK.out w3 HB3.out; have hg3 := (HB3.out.block (w.heap.size + 1) (by rw [HSZ.out]; omega)).trans HRS.out; have c2 := cell_of_row w3 (w.heap.size + 1) 0 _ _ _ hg3; have z2 := frozen_of_row w3 (w.heap.size + 1) 0 _ _ hg3; simp at c2; have HES3 := mkHid hes; have HCAP := mkHid hcap; have HG3 := mkHid hg3; clear hes hcap hb3 hg3))
  go_wp2_with fail
  refine bodyPost_ret (v := .tuple #[.agg #[.slice A rr.2.length C], errV rr.1]) (by simp [results, Try.results19, go_sem, c2]) rfl ?_
  exact RetR.set HES3.out HCAP.out HB3.out HAL.out HG3.out (by omega) _ rfl

end Go.Proofs.Ytlpgeocoddehgaa
