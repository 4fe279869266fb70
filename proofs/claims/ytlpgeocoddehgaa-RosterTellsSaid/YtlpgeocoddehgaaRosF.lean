/- Roster's Drain by contract. -/
import Derived.Test.YtlpgeocoddehgaaRosE
namespace Go.Proofs.Ytlpgeocoddehgaa
open Go.RowKit Go.Shelf

def drainOf (xs : List (Int × Int)) (d : Int) : Int × List (Int × Int) :=
  if (withOf xs d (turnF 1 2)).1 = 0 ∧ (thoseOf activeB (withOf xs d (turnF 1 2)).2).length = 0 then (30, []) else withOf xs d (turnF 1 2)
/-- Behind the change: the new roster in its variable. -/
structure D4 (W w4 : World) (q : Nat) (A : Option Addr) (C : Nat) (ys : List (Int × Int)) : Prop where
  bel : Below W.heap.size W w4
  es : ES w4 w4.heap.size A ys.length ys
  cell : w4.heap[q]? = some (.cells #[.slice A ys.length C] 27 (0, 0))
theorem D4.set {W w3 : World} {q : Nat} {A : Option Addr} {C : Nat} {ys : List (Int × Int)} (hb : Below W.heap.size W w3) (he : ES w3 w3.heap.size A ys.length ys) (hq : w3.heap[q]? = some (.cells #[.slice none 0 0] 27 (0, 0))) (hw : W.heap.size ≤ q) : D4 W (w3.setCell ⟨q, 0, none⟩ (.slice A ys.length C)) q A C ys :=
  ⟨hb.setCell hw _, by rw [show (w3.setCell ⟨q, 0, none⟩ (.slice A ys.length C)).heap.size = w3.heap.size by simp [World.setCell]]; exact he.set_slice hq, heap_setCell_same _ _ _ _ _ _ hq⟩
theorem D4.new {W w3 : World} {A : Option Addr} {C : Nat} {ys : List (Int × Int)} (hb : Below W.heap.size W w3) (he : ES w3 w3.heap.size A ys.length ys) : D4 W (w3.alloc (.cells #[.slice A ys.length C] 27)) w3.heap.size A C ys :=
  ⟨hb.alloc hb.size _, he.next ((Below.refl _ _).alloc (Nat.le_refl _) _), heap_alloc_new _ _⟩

set_option maxRecDepth 20000 in
set_option maxHeartbeats 4000000 in
theorem drain_any (a : Option Addr) (n c : Nat) (xs : List (Int × Int)) (d : Int) (w : World) (hs : ES w w.heap.size a n xs) (hc : CapOk n c) (hd : I64 d) :
    Calls Try.prog 17 #[.agg #[.slice a n c], .int .i64 d] w (RetR w (drainOf xs d)) := by
  obtain ⟨W, hW⟩ : ∃ W, (w.alloc (.cells #[.slice a n c] 27)).alloc (.cells #[.slice none 0 0] 27) = W := ⟨_, rfl⟩
  have HAL := mkHid (show Below w.heap.size w W from by rw [← hW]; exact ((Below.refl _ _).alloc (Nat.le_refl _) _).alloc (by simp) _)
  have hsz : W.heap.size = w.heap.size + 1 + 1 := by rw [← hW]; simp
  have hbx : W.heap[w.heap.size]? = some (.cells #[.slice a n c] 27) := by rw [← hW]; exact (Below.heap_alloc _ _ _ (by simp)).trans (heap_alloc_new _ _)
  have hrs : W.heap[w.heap.size + 1]? = some (.cells #[.slice none 0 0] 27) := by rw [← hW]; have := heap_alloc_new (w.alloc (.cells #[.slice a n c] 27)) (.cells #[.slice none 0 0] 27); simpa using this
  have HBX := mkHid (cell_of_row W w.heap.size 0 _ _ _ hbx)
  have HRS := mkHid hrs
  have HSZ := mkHid hsz
  have HES := mkHid (hs.next HAL.out)
  have HC := mkHid hc
  have HK := mkHid (show ∀ s : World, Below W.heap.size W s → s.cell? ⟨w.heap.size, 0, none⟩ = some (.slice a n c) from fun s hs => (hs.cell (p := ⟨w.heap.size, 0, none⟩) (by rw [HSZ.out]; show w.heap.size < _; omega)).trans HBX.out)
  have HKR := mkHid (show ∀ s : World, Below W.heap.size W s → s.heap[w.heap.size + 1]? = some (.cells #[.slice none 0 0] 27) from fun s hs => (hs.block (w.heap.size + 1) (by rw [HSZ.out]; omega)).trans HRS.out)
  have c1 : W.cell? ⟨w.heap.size, 0, none⟩ = some (.slice a n c) := HBX.out
  have HD := mkHid hd
  have HDR := mkHid (show drainOf xs d = if (withOf xs d (turnF 1 2)).1 = 0 ∧ (thoseOf activeB (withOf xs d (turnF 1 2)).2).length = 0 then (30, []) else withOf xs d (turnF 1 2) from rfl)
  clear hs hc hd hrs hbx hsz
  have HKS := mkHid (show ∀ (s : World) (v : Value) (q : Nat), q ≠ w.heap.size → s.cell? ⟨w.heap.size, 0, none⟩ = some (.slice a n c) → (s.setCell ⟨q, 0, none⟩ v).cell? ⟨w.heap.size, 0, none⟩ = some (.slice a n c) from fun s v q hq hs => (World.cell?_of_block (w := s) (heap_setCell_other _ _ _ _ (fun e => hq e.symm))).trans hs)
  generalize hrr : withOf xs d (turnF 1 2) = rr at *
  have HRR := mkHid hrr
  clear hrr
  have hwW : w.heap.size < W.heap.size := by rw [HSZ.out]; omega
  have hnW : W.heap.size ≠ w.heap.size := by omega
  by_cases h0 : rr.1 = 0
  · skip
    have H0 := mkHid h0
    clear h0
    go_enter Try.func17, Try.ntmps17
    go_wp2_with fail
    clear hW
    go_region_held3 (fun s => s.cell? ⟨w.heap.size, 0, none⟩ = some (.slice a n c)) (first | exact hk3 | exact hk2 | assumption | exact HK.out _ (by first | exact (Below.refl _ _).drew | exact ((Below.refl _ _).drew).alloc (Nat.le_refl _) _ | exact ((Below.refl _ _).alloc (Nat.le_refl _) _).drew | exact HB2.out.alloc HB2.out.size _ | exact HB3.out.alloc HB3.out.size _) | exact HKS.out _ _ _ (by omega) (by assumption)) (first
      | (go_at_call 41; refine (turn_at _ _ _).mono ?_; rintro e w2 ⟨b1, b2, rfl, hp1, hp2, hb2⟩; (first | (have hq2 := mkHid ((hb2.block W.heap.size (by simp)).trans (heap_alloc_new _ _))) | skip); have HB2 := mkHid (below_next (show Below W.heap.size W _ by first | exact (Below.refl _ _).drew | exact ((Below.refl _ _).drew).alloc (Nat.le_refl _) _ | exact ((Below.refl _ _).alloc (Nat.le_refl _) _).drew) hb2); have hk2 := HK.out w2 HB2.out; have HP1 := mkHid hp1; have HP2 := mkHid hp2; have hlb1 := (Array.getElem?_eq_some_iff.1 hp1).1; have hlb2 := (Array.getElem?_eq_some_iff.1 hp2).1; have hsz2 := HB2.out.size; clear hp1 hp2 hb2)
      | (go_at_call 38; refine (with_any 59 #[] #[.pointer (some ⟨b1, 0, none⟩), .pointer (some ⟨b2, 0, none⟩)] (turnF 1 2) eg_turn1 a n c xs d _ (HES.out.next (by first | exact HB2.out | exact HB2.out.alloc hsz2 _)) HC.out HD.out (pred_turn 1 2 b1 b2 _ (by first | exact HP1.out | exact (Below.heap_alloc _ _ _ hlb1).trans HP1.out) (by first | exact HP2.out | exact (Below.heap_alloc _ _ _ hlb2).trans HP2.out)) (turnF_ok 1 2 (by unfold I64; omega))).mono ?_; rintro e w3 ⟨A, C, rfl, hes, hcap, hb3⟩; rw [HRR.out] at hes hcap ⊢; (first | rw [H0.out, errV_no] | rw [errV_of H0.out]); (first | (have hq3 := (hb3.block W.heap.size (Nat.lt_of_lt_of_le (Array.getElem?_eq_some_iff.1 hq2.out).1 (Nat.le_refl _))).trans hq2.out) | (have hq3 := (hb3.block w2.heap.size (by simp)).trans (heap_alloc_new _ _)) | skip); (first | (have c6 := cell_of_row w3 _ 0 _ _ _ hq3; have z6 := frozen_of_row w3 _ 0 _ _ hq3; simp at c6; have HQ3 := mkHid hq3; clear hq3) | skip); have HB3 := mkHid (below_next (show Below W.heap.size W _ by first | exact HB2.out | exact HB2.out.alloc hsz2 _) hb3); have hk3 := HK.out w3 HB3.out; have HES3 := mkHid hes; have HCAP := mkHid hcap; clear hes hcap hb3))
    all_goals
      first
        | (have hd4 := D4.set (C := C) HB3.out HES3.out HQ3.out (by omega); generalize hw4 : World.setCell w3 _ _ = w4 at hd4 ⊢)
        | (have hd4 := D4.new (C := C) HB3.out HES3.out; generalize hw4 : World.alloc w3 _ = w4 at hd4 ⊢)
      have HD4 := mkHid hd4
      have c4 := cell_of_row w4 _ 0 _ _ _ hd4.cell
      have r4 := HKR.out w4 hd4.bel
      have c2 := cell_of_row w4 (w.heap.size + 1) 0 _ _ _ r4
      have z2 := frozen_of_row w4 (w.heap.size + 1) 0 _ _ r4
      simp at c4 c2
      have HR4 := mkHid r4
      clear hd4 hw4 r4
      clear z2 c2
      have HACT := mkHid (actives_any A _ C rr.2 w4 HD4.out.es HCAP.out)
      generalize hact : thoseOf activeB rr.2 = L at *
      have HACTE := mkHid hact
      clear hact
      by_cases hL : L.length = 0
      · have HL := mkHid hL
        have hLb : ((L.length : Int) == 0) = true := by simp [hL]
        clear hL
        go_wp2_with fail
        refine HACT.out.mono ?_
        rintro e w5 ⟨A5, C5, rfl, his, hcap5, hb5⟩
        have r5 := HKR.out w5 (below_next HD4.out.bel hb5)
        have c2 := cell_of_row w5 (w.heap.size + 1) 0 _ _ _ r5
        have z2 := frozen_of_row w5 (w.heap.size + 1) 0 _ _ r5
        simp at c2
        have HB5 := mkHid (below_next HD4.out.bel hb5)
        clear his hcap5 hb5 r5 c4
        go_wp2_with fail
        refine bodyPost_ret (v := .tuple #[.agg #[.slice none 0 0], codeV 30]) (by simp [results, Try.results17, go_sem, c2]) rfl ?_
        rw [HDR.out, if_pos ⟨H0.out, HL.out⟩]
        exact RetR.no ((HAL.out.trans (HB5.out.mono HAL.out.size)).setCell (by simp) _)
      · have HL := mkHid hL
        have hLb : ((L.length : Int) == 0) = false := by simp [hL]
        clear hL
        go_wp2_with fail
        refine HACT.out.mono ?_
        rintro e w5 ⟨A5, C5, rfl, his, hcap5, hb5⟩
        have r5 := HKR.out w5 (below_next HD4.out.bel hb5)
        have c2 := cell_of_row w5 (w.heap.size + 1) 0 _ _ _ r5
        have z2 := frozen_of_row w5 (w.heap.size + 1) 0 _ _ r5
        simp at c2
        have c4 := cell_of_row w5 _ 0 _ _ _ ((hb5.block _ (Array.getElem?_eq_some_iff.1 HD4.out.cell).1).trans HD4.out.cell)
        simp at c4
        have HB5 := mkHid (below_next HD4.out.bel hb5)
        have HR5 := mkHid r5
        have HES5 := mkHid (HD4.out.es.next hb5)
        clear his hcap5 hb5 r5
        go_wp2_with fail
        refine bodyPost_ret (v := .tuple #[.agg #[.slice A rr.2.length C], .nilIface]) (by simp [results, Try.results17, go_sem, c2]) rfl ?_
        rw [HDR.out, if_neg (fun h => HL.out h.2)]
        exact RetR.set HES5.out HCAP.out HB5.out HAL.out HR5.out (by omega) _ (by rw [H0.out]; rfl)
  · skip
    have H0 := mkHid h0
    clear h0
    go_enter Try.func17, Try.ntmps17
    go_wp2_with fail
    clear hW
    go_region_held3 (fun s => s.cell? ⟨w.heap.size, 0, none⟩ = some (.slice a n c)) (first | exact hk3 | exact hk2 | assumption | exact HK.out _ (by first | exact (Below.refl _ _).drew | exact ((Below.refl _ _).drew).alloc (Nat.le_refl _) _ | exact ((Below.refl _ _).alloc (Nat.le_refl _) _).drew | exact HB2.out.alloc HB2.out.size _ | exact HB3.out.alloc HB3.out.size _) | exact HKS.out _ _ _ (by omega) (by assumption)) (first
      | (go_at_call 41; refine (turn_at _ _ _).mono ?_; rintro e w2 ⟨b1, b2, rfl, hp1, hp2, hb2⟩; (first | (have hq2 := mkHid ((hb2.block W.heap.size (by simp)).trans (heap_alloc_new _ _))) | skip); have HB2 := mkHid (below_next (show Below W.heap.size W _ by first | exact (Below.refl _ _).drew | exact ((Below.refl _ _).drew).alloc (Nat.le_refl _) _ | exact ((Below.refl _ _).alloc (Nat.le_refl _) _).drew) hb2); have hk2 := HK.out w2 HB2.out; have HP1 := mkHid hp1; have HP2 := mkHid hp2; have hlb1 := (Array.getElem?_eq_some_iff.1 hp1).1; have hlb2 := (Array.getElem?_eq_some_iff.1 hp2).1; have hsz2 := HB2.out.size; clear hp1 hp2 hb2)
      | (go_at_call 38; refine (with_any 59 #[] #[.pointer (some ⟨b1, 0, none⟩), .pointer (some ⟨b2, 0, none⟩)] (turnF 1 2) eg_turn1 a n c xs d _ (HES.out.next (by first | exact HB2.out | exact HB2.out.alloc hsz2 _)) HC.out HD.out (pred_turn 1 2 b1 b2 _ (by first | exact HP1.out | exact (Below.heap_alloc _ _ _ hlb1).trans HP1.out) (by first | exact HP2.out | exact (Below.heap_alloc _ _ _ hlb2).trans HP2.out)) (turnF_ok 1 2 (by unfold I64; omega))).mono ?_; rintro e w3 ⟨A, C, rfl, hes, hcap, hb3⟩; rw [HRR.out] at hes hcap ⊢; (first | rw [H0.out, errV_no] | rw [errV_of H0.out]); (first | (have hq3 := (hb3.block W.heap.size (Nat.lt_of_lt_of_le (Array.getElem?_eq_some_iff.1 hq2.out).1 (Nat.le_refl _))).trans hq2.out) | (have hq3 := (hb3.block w2.heap.size (by simp)).trans (heap_alloc_new _ _)) | skip); (first | (have c6 := cell_of_row w3 _ 0 _ _ _ hq3; have z6 := frozen_of_row w3 _ 0 _ _ hq3; simp at c6; have HQ3 := mkHid hq3; clear hq3) | skip); have HB3 := mkHid (below_next (show Below W.heap.size W _ by first | exact HB2.out | exact HB2.out.alloc hsz2 _) hb3); have hk3 := HK.out w3 HB3.out; have HES3 := mkHid hes; have HCAP := mkHid hcap; clear hes hcap hb3))
    all_goals
      first
        | (have hd4 := D4.set (C := C) HB3.out HES3.out HQ3.out (by omega); generalize hw4 : World.setCell w3 _ _ = w4 at hd4 ⊢)
        | (have hd4 := D4.new (C := C) HB3.out HES3.out; generalize hw4 : World.alloc w3 _ = w4 at hd4 ⊢)
      have HD4 := mkHid hd4
      have c4 := cell_of_row w4 _ 0 _ _ _ hd4.cell
      have r4 := HKR.out w4 hd4.bel
      have c2 := cell_of_row w4 (w.heap.size + 1) 0 _ _ _ r4
      have z2 := frozen_of_row w4 (w.heap.size + 1) 0 _ _ r4
      simp at c4 c2
      have HR4 := mkHid r4
      clear hd4 hw4 r4
      go_wp2_with fail
      refine bodyPost_ret (v := .tuple #[.agg #[.slice A rr.2.length C], codeV rr.1]) (by simp [results, Try.results17, go_sem, c2]) rfl ?_
      rw [HDR.out, if_neg (fun h => H0.out h.1)]
      exact RetR.set HD4.out.es HCAP.out HD4.out.bel HAL.out HR4.out (by omega) _ (errV_of H0.out).symm

end Go.Proofs.Ytlpgeocoddehgaa
