/- portagelaw05.RosterLasts answers true. -/
import Derived.Test.YtlpgeocoddehgaaRosQ
import Derived.Deep.DeepCutAuto
import Derived.Deep.CutBlock
namespace Go.Proofs.Ytlpgeocoddehgaa
open Go.RowKit Go.Shelf

/-- Behind the change: the new roster stands in its variable, all else is as it was in V (q: its variable's block but one). -/
structure CUT12 (V : World) (q : Nat) (wc : World) (A' : Option Addr) (C' : Nat) (zs : List (Int × Int)) : Prop where
  bel : Below (q + 1) V wc
  siz : q + 2 ≤ wc.heap.size
  es : ES wc wc.heap.size A' zs.length zs
  cap : CapOk zs.length C'
  cell : wc.heap[q + 1]? = some (.cells #[.slice A' zs.length C'] 27 (0, 0))
theorem CUT12.of {V wy : World} {q : Nat} {A' : Option Addr} {C' : Nat} {zs : List (Int × Int)} (hb : Below V.heap.size V wy) (he : ES wy wy.heap.size A' zs.length zs) (hc : CapOk zs.length C') (h : wy.heap[q + 1]? = some (.cells #[.slice none 0 0] 27 (0, 0))) (hs : V.heap.size = q + 2) : CUT12 V q (wy.setCell ⟨q + 1, 0, none⟩ (.slice A' zs.length C')) A' C' zs :=
  ⟨(hb.mono (B' := q + 1) (by omega)).setCell (p := ⟨q + 1, 0, none⟩) (Nat.le_refl _) _, by have := hb.size; simp [World.setCell]; omega, by rw [show (wy.setCell ⟨q + 1, 0, none⟩ (.slice A' zs.length C')).heap.size = wy.heap.size by simp [World.setCell]]; exact he.set_slice h, hc, heap_setCell_same _ _ _ _ _ _ h⟩

set_option maxRecDepth 20000 in
set_option maxHeartbeats 8000000 in
theorem rosterLasts_any (a0 : Option Addr) (n0 c0 : Nat) (xs : List (Int × Int)) (a1 : Option Addr) (n1 c1 : Nat) (l1 : List Int) (a2 : Option Addr) (n2 c2 : Nat) (l2 : List Int) (a3 : Option Addr) (n3 c3 : Nat) (l3 : List Int) (w : World)
    (hs : ES w w.heap.size a0 n0 xs) (hc : CapOk n0 c0) (h1 : IS w w.heap.size a1 n1 l1) (hc1 : CapOk n1 c1) (h2 : IS w w.heap.size a2 n2 l2) (hc2 : CapOk n2 c2) (h3 : IS w w.heap.size a3 n3 l3) (hc3 : CapOk n3 c3) :
    Calls Try.prog 4 #[.agg #[.slice a0 n0 c0, .slice a1 n1 c1, .slice a2 n2 c2, .slice a3 n3 c3]] w fun e w' => e = .returned (.bool true) ∧ Below w.heap.size w w' := by
  have HS := mkHid hs
  have HL := mkHid hs.len
  have HC := mkHid hc
  have H1 := mkHid h1
  have H2 := mkHid h2
  have H3 := mkHid h3
  obtain ⟨hc00, hc01, hc02⟩ := hc
  obtain ⟨hc10, hc11, hc12⟩ := hc1
  obtain ⟨hc20, hc21, hc22⟩ := hc2
  obtain ⟨hc30, hc31, hc32⟩ := hc3
  clear hs h1 h2 h3
  go_enter Try.func4, Try.ntmps4
  go_wp2_with fail
  go_quiet (fail)
  have hB0 : Below w.heap.size w ((w.alloc (.cells #[.slice a0 n0 c0, .slice a1 n1 c1, .slice a2 n2 c2, .slice a3 n3 c3] 42)).drewN nq) := below_drewN ((Below.refl _ _).alloc (Nat.le_refl _) _) nq
  generalize World.drewN (w.alloc (.cells #[.slice a0 n0 c0, .slice a1 n1 c1, .slice a2 n2 c2, .slice a3 n3 c3] 42)) nq = W0 at *
  have HB0 := mkHid hB0
  clear hB0
  go_wp2_with fail
  refine (rright_any a0 n0 c0 xs W0 (HS.out.next HB0.out) HC.out).mono ?_
  rintro e w' ⟨rfl, rfl⟩
  cases hr : rightL xs with
  | false =>
    clear hr
    go_wp2_with fail
    refine (awake_any _).mono ?_
    rintro e w1 ⟨rfl, hb1⟩
    go_wp2_with fail
    go_ret
    exact ⟨rfl, HB0.out.trans (hb1.mono HB0.out.size)⟩
  | true =>
    by_cases g1 : 200 < n1
    · clear hr
      go_wp2_with fail
      refine (awake_any _).mono ?_
      rintro e w1 ⟨rfl, hb1⟩
      go_wp2_with fail
      go_ret
      exact ⟨rfl, HB0.out.trans (hb1.mono HB0.out.size)⟩
    by_cases g2 : n2 < n1
    · clear hr
      go_wp2_with fail
      refine (awake_any _).mono ?_
      rintro e w1 ⟨rfl, hb1⟩
      go_wp2_with fail
      go_ret
      exact ⟨rfl, HB0.out.trans (hb1.mono HB0.out.size)⟩
    by_cases g3 : n3 < n1
    · clear hr
      go_wp2_with fail
      refine (awake_any _).mono ?_
      rintro e w1 ⟨rfl, hb1⟩
      go_wp2_with fail
      go_ret
      exact ⟨rfl, HB0.out.trans (hb1.mono HB0.out.size)⟩
    have hn8 : n0 ≤ 8 := by have := (rightL_ok hr).1; have := HL.out; omega
    have HR := mkHid hr
    clear hr
    go_wp2_with fail
    refine (of_any a0 n0 c0 xs W0 (HS.out.next HB0.out) HC.out (by omega)).mono ?_
    rintro e w1 ⟨A0, C0, rfl, hes0, hcap0, hb1⟩
    have hq7 : w.heap.size ≤ w1.heap.size := Nat.le_trans HB0.out.size hb1.size
    have HB1 := mkHid (HB0.out.trans ((hb1.alloc hb1.size (.cells #[.slice A0 xs.length C0] 27)).mono HB0.out.size))
    have HE0 := mkHid hes0
    have HCAP0 := mkHid hcap0
    clear hes0 hcap0 hb1
    go_wp2_with fail
    go_loopw [51] (fun i wr => ∃ (k : Nat) (ys : List (Int × Int)) (A : Option Addr) (C : Nat), k ≤ n1 ∧ i = .int .i64 k ∧ Hid (wr.heap[w1.heap.size]? = some (.cells #[.slice A ys.length C] 27 (0, 0))) ∧ Hid (ES wr wr.heap.size A ys.length ys) ∧ Hid (CapOk ys.length C) ∧ Hid (rightL ys = true) ∧ Hid (Below w.heap.size w wr)) (fun i _ => n1 - (intOf i).toNat)
    case atStart => exact ⟨0, xs, A0, C0, Nat.zero_le _, rfl, mkHid (heap_alloc_new _ _), mkHid (HE0.out.next ((Below.refl _ _).alloc (Nat.le_refl _) _)), HCAP0, HR, HB1⟩
    case round =>
      clear HE0 HCAP0 HB1
      obtain ⟨k, ys, A, C, hk, rfl, HX7, HES, HCAP, HRY, HB⟩ := hrel
      by_cases hlt : k < n1
      · obtain ⟨bw, ow, hw1, hbw, hcw, hIw⟩ := H1.out.at_ hlt
        obtain ⟨bd, od, hd1, hbd, hcd, hId⟩ := H2.out.at_ (j := k) (by omega)
        obtain ⟨bs, os, hs1, hbs, hcs, hIs⟩ := H3.out.at_ (j := k) (by omega)
        subst hw1 hd1 hs1
        have hk2 : k < n2 := by omega
        have hk3 : k < n3 := by omega
        have hkz : (0 : Int) ≤ k := by omega
        have hkz2 : (k : Int) < n2 := by omega
        have hkz3 : (k : Int) < n3 := by omega
        have dw := (HB.out.cell (p := ⟨bw, ow + k, none⟩) hbw).trans hcw
        have dd := (HB.out.cell (p := ⟨bd, od + k, none⟩) hbd).trans hcd
        have ds := (HB.out.cell (p := ⟨bs, os + k, none⟩) hbs).trans hcs
        generalize l1[k]?.getD 0 = x at *
        generalize l2[k]?.getD 0 = dv at *
        generalize l3[k]?.getD 0 = sv at *
        have c7 := cell_of_row wr w1.heap.size 0 _ _ _ HX7.out
        simp at c7
        have hl7 := (Array.getElem?_eq_some_iff.1 HX7.out).1
        obtain ⟨V, hV⟩ : ∃ V, (wr.alloc (.cells #[.slice A ys.length C] 27)).alloc (.cells #[.slice none 0 0] 27) = V := ⟨_, rfl⟩
        have hVB : Below wr.heap.size wr V := by rw [← hV]; exact ((Below.refl _ _).alloc (Nat.le_refl _) _).alloc (by simp) _
        have hV10 : V.heap[wr.heap.size]? = some (.cells #[.slice A ys.length C] 27) := by rw [← hV]; exact (Below.heap_alloc _ _ _ (by simp)).trans (heap_alloc_new _ _)
        have hV12 : V.heap[wr.heap.size + 1]? = some (.cells #[.slice none 0 0] 27) := by rw [← hV]; have := heap_alloc_new (wr.alloc (.cells #[.slice A ys.length C] 27)) (.cells #[.slice none 0 0] 27); simpa using this
        have hV7 := (hVB.block _ hl7).trans HX7.out
        have hVs : V.heap.size = wr.heap.size + 2 := by rw [← hV]; simp
        have HVB := mkHid hVB
        have HV10 := mkHid hV10
        have HV12 := mkHid hV12
        have HV7 := mkHid hV7
        have HVS := mkHid hVs
        clear hVB hV10 hV12 hV7 hVs hcw hcd hcs
        go_upto_block 2 with (fail)
        clear hV
        have HId := mkHid hId
        have HIs := mkHid hIs
        have HK := mkHid (show ∀ Z, Below V.heap.size V Z → (Z.cell? ⟨w1.heap.size, 0, none⟩ = some (.slice A ys.length C) ∧ Z.cell? ⟨bd, od + k, none⟩ = some (.int .i64 dv) ∧ Z.cell? ⟨bs, os + k, none⟩ = some (.int .i64 sv)) from fun Z hZ => by
          have hwV : w.heap.size ≤ V.heap.size := Nat.le_trans HB.out.size HVB.out.size
          exact ⟨cell_of_row Z w1.heap.size 0 _ _ _ ((hZ.block _ (by rw [HVS.out]; omega)).trans HV7.out), (hZ.cell (p := ⟨bd, od + k, none⟩) (Nat.lt_of_lt_of_le hbd hwV)).trans ((HVB.out.cell (p := ⟨bd, od + k, none⟩) (Nat.lt_of_lt_of_le hbd HB.out.size)).trans dd), (hZ.cell (p := ⟨bs, os + k, none⟩) (Nat.lt_of_lt_of_le hbs hwV)).trans ((HVB.out.cell (p := ⟨bs, os + k, none⟩) (Nat.lt_of_lt_of_le hbs HB.out.size)).trans ds)⟩)
        have HKS := mkHid (show ∀ (s : World) (v : Value), (s.cell? ⟨w1.heap.size, 0, none⟩ = some (.slice A ys.length C) ∧ s.cell? ⟨bd, od + k, none⟩ = some (.int .i64 dv) ∧ s.cell? ⟨bs, os + k, none⟩ = some (.int .i64 sv)) → ((s.setCell ⟨wr.heap.size + 1, 0, none⟩ v).cell? ⟨w1.heap.size, 0, none⟩ = some (.slice A ys.length C) ∧ (s.setCell ⟨wr.heap.size + 1, 0, none⟩ v).cell? ⟨bd, od + k, none⟩ = some (.int .i64 dv) ∧ (s.setCell ⟨wr.heap.size + 1, 0, none⟩ v).cell? ⟨bs, os + k, none⟩ = some (.int .i64 sv)) from fun s v h => by
          have hwV : w.heap.size ≤ wr.heap.size := HB.out.size
          exact ⟨(World.cell?_of_block (w := s) (heap_setCell_other _ _ _ _ (by simp; omega))).trans h.1, (World.cell?_of_block (w := s) (heap_setCell_other _ _ _ _ (by simp; omega))).trans h.2.1, (World.cell?_of_block (w := s) (heap_setCell_other _ _ _ _ (by simp; omega))).trans h.2.2⟩)
        clear hId hIs dd ds dw c7
        go_cut [11] (fun e wc => ∃ (A' : Option Addr) (C' : Nat), e = errV (nextOf x ys dv sv).1 ∧ CUT12 V wr.heap.size wc A' C' (nextOf x ys dv sv).2)
        case first =>
          by_cases hx0 : x = 0
          · subst hx0
            have HN := mkHid (show nextOf 0 ys dv sv = addOf ys sv from rfl)
            go_wp2_with fail
            go_region_held3 (fun Z => Z.cell? ⟨w1.heap.size, 0, none⟩ = some (.slice A ys.length C) ∧ Z.cell? ⟨bs, os + k, none⟩ = some (.int .i64 sv)) (first | exact ⟨hkt.1, hkt.2.2⟩ | exact ⟨hky.1, hky.2.2⟩ | exact ⟨(HK.out _ (by first | exact HBY.out | exact HBY.out.drew | exact (Below.refl _ _).drew | exact Below.refl _ _)).1, (HK.out _ (by first | exact HBY.out | exact HBY.out.drew | exact (Below.refl _ _).drew | exact Below.refl _ _)).2.2⟩) (first
              | (go_at_call 13; refine (add_any A ys.length C ys sv _ (HES.out.next (HVB.out.trans ((show Below V.heap.size V _ from (by first | exact HBY.out | exact HBY.out.drew | exact (Below.refl _ _).drew | exact Below.refl _ _)).mono HVB.out.size))) HCAP.out HIs.out).mono ?_; rintro e wy ⟨A', C', rfl, hes, hcap, hby⟩; have HBY := mkHid (below_next (show Below V.heap.size V _ from (by first | exact HBY.out | exact HBY.out.drew | exact (Below.refl _ _).drew | exact Below.refl _ _)) hby); have hky := HK.out _ HBY.out; have h12 := (HBY.out.block (wr.heap.size + 1) (by rw [HVS.out]; omega)).trans HV12.out; have c12 := cell_of_row wy (wr.heap.size + 1) 0 _ _ _ h12; have z12 := frozen_of_row wy (wr.heap.size + 1) 0 _ _ h12; simp at c12; have H12 := mkHid h12; have HES' := mkHid hes; have HCAP' := mkHid hcap; have hkt := HKS.out wy (.slice A' (addOf ys sv).2.length C') hky; clear hes hcap hby h12))
            go_wp2_with fail
            go_meet
            case rel => exact ⟨A', C', by rw [HN.out], by rw [HN.out]; exact CUT12.of HBY.out HES'.out HCAP'.out H12.out HVS.out⟩
          have gx0 : (x == 0) = false := by simpa using hx0
          by_cases hx1 : x = 1
          · subst hx1
            have HN := mkHid (show nextOf 1 ys dv sv = withOf ys dv (growF sv) from rfl)
            go_wp2_with fail
            go_region_held3 (fun Z => Z.cell? ⟨w1.heap.size, 0, none⟩ = some (.slice A ys.length C) ∧ Z.cell? ⟨bd, od + k, none⟩ = some (.int .i64 dv) ∧ Z.cell? ⟨bs, os + k, none⟩ = some (.int .i64 sv)) (first | exact hkt | exact hky | exact HK.out _ (by first | exact HBY.out | exact HBY.out.drew | exact (Below.refl _ _).drew | exact Below.refl _ _)) (first
              | (go_at_call 16; refine (grow_any A ys.length C ys dv sv _ (HES.out.next (HVB.out.trans ((show Below V.heap.size V _ from (by first | exact HBY.out | exact HBY.out.drew | exact (Below.refl _ _).drew | exact Below.refl _ _)).mono HVB.out.size))) HCAP.out HId.out HIs.out).mono ?_; rintro e wy ⟨A', C', rfl, hes, hcap, hby⟩; have HBY := mkHid (below_next (show Below V.heap.size V _ from (by first | exact HBY.out | exact HBY.out.drew | exact (Below.refl _ _).drew | exact Below.refl _ _)) hby); have hky := HK.out _ HBY.out; have h12 := (HBY.out.block (wr.heap.size + 1) (by rw [HVS.out]; omega)).trans HV12.out; have c12 := cell_of_row wy (wr.heap.size + 1) 0 _ _ _ h12; have z12 := frozen_of_row wy (wr.heap.size + 1) 0 _ _ h12; simp at c12; have H12 := mkHid h12; have HES' := mkHid hes; have HCAP' := mkHid hcap; have hkt := HKS.out wy (.slice A' (withOf ys dv (growF sv)).2.length C') hky; clear hes hcap hby h12))
            go_wp2_with fail
            go_meet
            case rel => exact ⟨A', C', by rw [HN.out], by rw [HN.out]; exact CUT12.of HBY.out HES'.out HCAP'.out H12.out HVS.out⟩
          have gx1 : (x == 1) = false := by simpa using hx1
          by_cases hx2 : x = 2
          · subst hx2
            have HN := mkHid (show nextOf 2 ys dv sv = drainOf ys dv from rfl)
            go_wp2_with fail
            go_region_held3 (fun Z => Z.cell? ⟨w1.heap.size, 0, none⟩ = some (.slice A ys.length C) ∧ Z.cell? ⟨bd, od + k, none⟩ = some (.int .i64 dv)) (first | exact ⟨hkt.1, hkt.2.1⟩ | exact ⟨hky.1, hky.2.1⟩ | exact ⟨(HK.out _ (by first | exact HBY.out | exact HBY.out.drew | exact (Below.refl _ _).drew | exact Below.refl _ _)).1, (HK.out _ (by first | exact HBY.out | exact HBY.out.drew | exact (Below.refl _ _).drew | exact Below.refl _ _)).2.1⟩) (first
              | (go_at_call 17; refine (drain_any A ys.length C ys dv _ (HES.out.next (HVB.out.trans ((show Below V.heap.size V _ from (by first | exact HBY.out | exact HBY.out.drew | exact (Below.refl _ _).drew | exact Below.refl _ _)).mono HVB.out.size))) HCAP.out HId.out).mono ?_; rintro e wy ⟨A', C', rfl, hes, hcap, hby⟩; have HBY := mkHid (below_next (show Below V.heap.size V _ from (by first | exact HBY.out | exact HBY.out.drew | exact (Below.refl _ _).drew | exact Below.refl _ _)) hby); have hky := HK.out _ HBY.out; have h12 := (HBY.out.block (wr.heap.size + 1) (by rw [HVS.out]; omega)).trans HV12.out; have c12 := cell_of_row wy (wr.heap.size + 1) 0 _ _ _ h12; have z12 := frozen_of_row wy (wr.heap.size + 1) 0 _ _ h12; simp at c12; have H12 := mkHid h12; have HES' := mkHid hes; have HCAP' := mkHid hcap; have hkt := HKS.out wy (.slice A' (drainOf ys dv).2.length C') hky; clear hes hcap hby h12))
            go_wp2_with fail
            go_meet
            case rel => exact ⟨A', C', by rw [HN.out], by rw [HN.out]; exact CUT12.of HBY.out HES'.out HCAP'.out H12.out HVS.out⟩
          have gx2 : (x == 2) = false := by simpa using hx2
          by_cases hx3 : x = 3
          · subst hx3
            have HN := mkHid (show nextOf 3 ys dv sv = withOf ys dv (turnF 2 1) from rfl)
            go_wp2_with fail
            go_region_held3 (fun Z => Z.cell? ⟨w1.heap.size, 0, none⟩ = some (.slice A ys.length C) ∧ Z.cell? ⟨bd, od + k, none⟩ = some (.int .i64 dv)) (first | exact ⟨hkt.1, hkt.2.1⟩ | exact ⟨hky.1, hky.2.1⟩ | exact ⟨(HK.out _ (by first | exact HBY.out | exact HBY.out.drew | exact (Below.refl _ _).drew | exact Below.refl _ _)).1, (HK.out _ (by first | exact HBY.out | exact HBY.out.drew | exact (Below.refl _ _).drew | exact Below.refl _ _)).2.1⟩) (first
              | (go_at_call 18; refine (cancel_any A ys.length C ys dv _ (HES.out.next (HVB.out.trans ((show Below V.heap.size V _ from (by first | exact HBY.out | exact HBY.out.drew | exact (Below.refl _ _).drew | exact Below.refl _ _)).mono HVB.out.size))) HCAP.out HId.out).mono ?_; rintro e wy ⟨A', C', rfl, hes, hcap, hby⟩; have HBY := mkHid (below_next (show Below V.heap.size V _ from (by first | exact HBY.out | exact HBY.out.drew | exact (Below.refl _ _).drew | exact Below.refl _ _)) hby); have hky := HK.out _ HBY.out; have h12 := (HBY.out.block (wr.heap.size + 1) (by rw [HVS.out]; omega)).trans HV12.out; have c12 := cell_of_row wy (wr.heap.size + 1) 0 _ _ _ h12; have z12 := frozen_of_row wy (wr.heap.size + 1) 0 _ _ h12; simp at c12; have H12 := mkHid h12; have HES' := mkHid hes; have HCAP' := mkHid hcap; have hkt := HKS.out wy (.slice A' (withOf ys dv (turnF 2 1)).2.length C') hky; clear hes hcap hby h12))
            go_wp2_with fail
            go_meet
            case rel => exact ⟨A', C', by rw [HN.out], by rw [HN.out]; exact CUT12.of HBY.out HES'.out HCAP'.out H12.out HVS.out⟩
          have gx3 : (x == 3) = false := by simpa using hx3
          by_cases hx4 : x = 4
          · subst hx4
            have HN := mkHid (show nextOf 4 ys dv sv = withOf ys dv (turnF 2 3) from rfl)
            go_wp2_with fail
            go_region_held3 (fun Z => Z.cell? ⟨w1.heap.size, 0, none⟩ = some (.slice A ys.length C) ∧ Z.cell? ⟨bd, od + k, none⟩ = some (.int .i64 dv)) (first | exact ⟨hkt.1, hkt.2.1⟩ | exact ⟨hky.1, hky.2.1⟩ | exact ⟨(HK.out _ (by first | exact HBY.out | exact HBY.out.drew | exact (Below.refl _ _).drew | exact Below.refl _ _)).1, (HK.out _ (by first | exact HBY.out | exact HBY.out.drew | exact (Below.refl _ _).drew | exact Below.refl _ _)).2.1⟩) (first
              | (go_at_call 19; refine (remove_any A ys.length C ys dv _ (HES.out.next (HVB.out.trans ((show Below V.heap.size V _ from (by first | exact HBY.out | exact HBY.out.drew | exact (Below.refl _ _).drew | exact Below.refl _ _)).mono HVB.out.size))) HCAP.out HId.out).mono ?_; rintro e wy ⟨A', C', rfl, hes, hcap, hby⟩; have HBY := mkHid (below_next (show Below V.heap.size V _ from (by first | exact HBY.out | exact HBY.out.drew | exact (Below.refl _ _).drew | exact Below.refl _ _)) hby); have hky := HK.out _ HBY.out; have h12 := (HBY.out.block (wr.heap.size + 1) (by rw [HVS.out]; omega)).trans HV12.out; have c12 := cell_of_row wy (wr.heap.size + 1) 0 _ _ _ h12; have z12 := frozen_of_row wy (wr.heap.size + 1) 0 _ _ h12; simp at c12; have H12 := mkHid h12; have HES' := mkHid hes; have HCAP' := mkHid hcap; have hkt := HKS.out wy (.slice A' (withOf ys dv (turnF 2 3)).2.length C') hky; clear hes hcap hby h12))
            go_wp2_with fail
            go_meet
            case rel => exact ⟨A', C', by rw [HN.out], by rw [HN.out]; exact CUT12.of HBY.out HES'.out HCAP'.out H12.out HVS.out⟩
          have gx4 : (x == 4) = false := by simpa using hx4
          go_wp2_with fail
          go_roundw
          case measure => simp [intOf]; omega
          case rel => exact ⟨k + 1, ys, A, C, by omega, by go_num, HV7, mkHid (HES.out.next HVB.out), HCAP, HRY, mkHid (HB.out.trans (HVB.out.mono HB.out.size))⟩
        case rest =>
          obtain ⟨A', C', rfl, HCUT⟩ := hcut
          have HNX := mkHid (Nxt.of (x := x) (ys := ys) (d := dv) (s := sv))
          generalize nextOf x ys dv sv = zz at *
          obtain ⟨cz, zs⟩ := zz
          simp only at HNX HCUT ⊢
          have HB7 := mkHid ((HCUT.bel.block w1.heap.size (by omega)).trans HV7.out)
          have HB10 := mkHid ((HCUT.bel.block wr.heap.size (by omega)).trans HV10.out)
          have HBC := mkHid (HB.out.trans ((HVB.out.mono HB.out.size).trans (HCUT.bel.mono (B' := w.heap.size) (by have := HB.out.size; omega))))
          have HEC := mkHid ((HES.out.keep (w' := wc) (fun b hb => (HCUT.bel.block b (by omega)).trans (HVB.out.block b hb))).more (B' := wc.heap.size) (by have := HCUT.siz; omega))
          have c7 := cell_of_row wc w1.heap.size 0 _ _ _ HB7.out
          have z7 := frozen_of_row wc w1.heap.size 0 _ _ HB7.out
          have c10 := cell_of_row wc wr.heap.size 0 _ _ _ HB10.out
          have c12 := cell_of_row wc (wr.heap.size + 1) 0 _ _ _ HCUT.cell
          simp at c7 c10 c12
          have HCU := mkHid HCUT
          clear HCUT
          by_cases h0 : cz = 0
          · have HN := mkHid (HNX.out h0)
            subst h0
            rw [errV_no]
            have hlen := HN.out.len
            have hlb : decide (zs.length < ys.length) = false := by simp; omega
            have hy8 : ys.length ≤ 8 := (rightL_ok HRY.out).1
            have hz8 : zs.length ≤ 8 := (rightL_ok HN.out.r).1
            have HCAPZ := mkHid HCU.out.cap
            obtain ⟨U, hU⟩ : ∃ U, wc.setCell ⟨w1.heap.size, 0, none⟩ (.slice A' zs.length C') = U := ⟨_, rfl⟩
            have hUs : U.heap.size = wc.heap.size := by rw [← hU]; simp [World.setCell]
            have HU7 := mkHid (show U.heap[w1.heap.size]? = some (.cells #[.slice A' zs.length C'] 27 (0, 0)) by rw [← hU]; exact heap_setCell_same _ _ _ _ _ _ HB7.out)
            have HU7L := mkHid (Array.getElem?_eq_some_iff.1 HU7.out).1
            have HU10 := mkHid (show U.heap[wr.heap.size]? = some (.cells #[.slice A ys.length C] 27 (0, 0)) by rw [← hU]; exact (heap_setCell_other _ _ _ _ (by simp; omega)).trans HB10.out)
            have HEA := mkHid (show ES U U.heap.size A ys.length ys by rw [hUs, ← hU]; exact HEC.out.set_slice HB7.out)
            have HEZ := mkHid (show ES U U.heap.size A' zs.length zs by rw [hUs, ← hU]; exact HCU.out.es.set_slice HB7.out)
            have HBWU := mkHid (show Below w.heap.size w U by rw [← hU]; exact HBC.out.setCell (p := ⟨w1.heap.size, 0, none⟩) hq7 _)
            have HKU := mkHid (show ∀ Z, Below U.heap.size U Z → Z.cell? ⟨w1.heap.size, 0, none⟩ = some (.slice A' zs.length C') ∧ Z.cell? ⟨wr.heap.size, 0, none⟩ = some (.slice A ys.length C) from fun Z hZ =>
              ⟨cell_of_row Z w1.heap.size 0 _ _ _ ((hZ.block _ (Array.getElem?_eq_some_iff.1 HU7.out).1).trans HU7.out), cell_of_row Z wr.heap.size 0 _ _ _ ((hZ.block _ (Array.getElem?_eq_some_iff.1 HU10.out).1).trans HU10.out)⟩)
            have hU7 : w1.heap.size < U.heap.size := HU7L.out
            clear hUs HNX
            obtain ⟨wo, rfl⟩ : ∃ wo : World, wo = wr := ⟨_, rfl⟩
            have c7U := (HKU.out U (Below.refl _ _)).1
            have c10U := (HKU.out U (Below.refl _ _)).2
            by_cases hL : (thoseOf activeB ys).length = 0
            · have HLZ := mkHid hL
              clear hL
              go_upto_region 24 with (fail)
              clear hU c7 z7 c10 c12
              go_wp2_with fail
              refine (check_ok A' zs.length C' zs U HEZ.out HCAPZ.out HN.out.r).mono ?_
              rintro e w3 ⟨rfl, hb3⟩
              clear c7U c10U
              obtain ⟨c7, c10⟩ := HKU.out w3 hb3
              have HB3 := mkHid hb3
              clear hb3
              go_wp2_with fail
              refine (actives_any A ys.length C ys w3 (HEA.out.next HB3.out) HCAP.out).mono ?_
              rintro e w4 ⟨A4, C4, rfl, _, _, hb4⟩
              have HB4 := mkHid (below_next HB3.out hb4)
              clear hb4 c7 c10
              obtain ⟨c7, c10⟩ := HKU.out w4 HB4.out
              rw [HLZ.out]
              go_wp2_with fail
              go_loopw [148] (fun i wr => ∃ q : Nat, q ≤ ys.length ∧ i = .int .i64 q ∧ Hid (Below U.heap.size U wr)) (fun i _ => ys.length - (intOf i).toNat)
              case atStart => exact ⟨0, Nat.zero_le _, rfl, HB4⟩
              case round =>
                clear c7 c10
                obtain ⟨q, hq, rfl, HBU⟩ := hrel
                by_cases hq2 : q < ys.length
                · obtain ⟨bx, ox, u, hax, hbx, hu, _, hu0, hu1⟩ := HEA.out.at_ hq2
                  have hqz : q < zs.length := by omega
                  obtain ⟨bz, oz, v, haz, hbz, hv, _, hv0, hv1⟩ := HEZ.out.at_ hqz
                  subst hax haz
                  obtain ⟨he2, he3, he1⟩ := HN.out.each q u v hu hv
                  obtain ⟨u1, u2⟩ := u
                  obtain ⟨v1, v2⟩ := v
                  simp only at he2 he3 he1 hu0 hu1 hv0 hv1
                  have du0 := (HBU.out.cell (p := ⟨bx, ox + q * 2, none⟩) hbx).trans hu0
                  have du1 := (HBU.out.cell (p := ⟨bx, ox + q * 2 + 1, none⟩) hbx).trans hu1
                  have dv0 := (HBU.out.cell (p := ⟨bz, oz + q * 2, none⟩) hbz).trans hv0
                  have dv1 := (HBU.out.cell (p := ⟨bz, oz + q * 2 + 1, none⟩) hbz).trans hv1
                  obtain ⟨d7, d10⟩ := HKU.out wr HBU.out
                  have hUr := HBU.out.size
                  have hbz' : bz < wr.heap.size := by omega
                  have hq7' : w1.heap.size < wr.heap.size := by omega
                  clear hu hv hu0 hu1 hv0 hv1
                  have HB2 := mkHid ((HBU.out.alloc hUr (.cells #[.int .i64 u1, .int .i64 u2] 46)).alloc (by simp; omega) (.cells #[.int .i64 v1, .int .i64 v2] 46))
                  by_cases g1 : u1 = 3
                  · have g2 := he3 g1
                    subst g1 g2
                    clear he3 he1
                    go_wp2_with fail
                    go_roundw
                    case measure => simp [intOf]; omega
                    case rel => exact ⟨q + 1, by omega, by go_num, HB2⟩
                  · have gb1 : (u1 == 3) = false := by simpa using g1
                    by_cases g2 : v1 = 3
                    · have gb2 : (u1 == 1) = false := by simpa using he1 g2
                      subst g2
                      clear he3 he1 g1
                      go_wp2_with fail
                      go_roundw
                      case measure => simp [intOf]; omega
                      case rel => exact ⟨q + 1, by omega, by go_num, HB2⟩
                    · have gb2 : (v1 == 3) = false := by simpa using g2
                      clear he3 he1 g1 g2
                      go_wp2_with fail
                      go_roundw
                      case measure => simp [intOf]; omega
                      case rel => exact ⟨q + 1, by omega, by go_num, HB2⟩
                · obtain rfl : q = ys.length := by omega
                  go_wp2_with fail
                  go_roundw
                  case measure => simp [intOf]; omega
                  case rel => exact ⟨k + 1, zs, A', C', by omega, by go_num, mkHid ((HBU.out.block _ HU7L.out).trans HU7.out), mkHid (HEZ.out.next HBU.out), HCAPZ, mkHid HN.out.r, mkHid (HBWU.out.trans (HBU.out.mono HBWU.out.size))⟩
            · have hL1 : 0 < (thoseOf activeB ys).length := by omega
              have hL2 := HN.out.act hL1
              clear hL
              go_upto_region 24 with (fail)
              clear hU c7 z7 c10 c12
              go_wp2_with fail
              refine (check_ok A' zs.length C' zs U HEZ.out HCAPZ.out HN.out.r).mono ?_
              rintro e w3 ⟨rfl, hb3⟩
              clear c7U c10U
              obtain ⟨c7, c10⟩ := HKU.out w3 hb3
              have HB3 := mkHid hb3
              clear hb3
              go_wp2_with fail
              refine (actives_any A ys.length C ys w3 (HEA.out.next HB3.out) HCAP.out).mono ?_
              rintro e w4 ⟨A4, C4, rfl, _, _, hb4⟩
              have HB4 := mkHid (below_next HB3.out hb4)
              clear hb4 c7 c10
              obtain ⟨c7, c10⟩ := HKU.out w4 HB4.out
              generalize (thoseOf activeB ys).length = N1 at *
              go_wp2_with fail
              refine (actives_any A' zs.length C' zs w4 (HEZ.out.next HB4.out) HCAPZ.out).mono ?_
              rintro e w5 ⟨A5, C5, rfl, _, _, hb5⟩
              have HB5 := mkHid (below_next HB4.out hb5)
              clear hb5 c7 c10
              obtain ⟨c7, c10⟩ := HKU.out w5 HB5.out
              generalize (thoseOf activeB zs).length = N2 at *
              have gN : ((N2 : Int) == 0) = false := by simp; omega
              go_wp2_with fail
              go_loopw [148] (fun i wr => ∃ q : Nat, q ≤ ys.length ∧ i = .int .i64 q ∧ Hid (Below U.heap.size U wr)) (fun i _ => ys.length - (intOf i).toNat)
              case atStart => exact ⟨0, Nat.zero_le _, rfl, HB5⟩
              case round =>
                clear c7 c10
                obtain ⟨q, hq, rfl, HBU⟩ := hrel
                by_cases hq2 : q < ys.length
                · obtain ⟨bx, ox, u, hax, hbx, hu, _, hu0, hu1⟩ := HEA.out.at_ hq2
                  have hqz : q < zs.length := by omega
                  obtain ⟨bz, oz, v, haz, hbz, hv, _, hv0, hv1⟩ := HEZ.out.at_ hqz
                  subst hax haz
                  obtain ⟨he2, he3, he1⟩ := HN.out.each q u v hu hv
                  obtain ⟨u1, u2⟩ := u
                  obtain ⟨v1, v2⟩ := v
                  simp only at he2 he3 he1 hu0 hu1 hv0 hv1
                  have du0 := (HBU.out.cell (p := ⟨bx, ox + q * 2, none⟩) hbx).trans hu0
                  have du1 := (HBU.out.cell (p := ⟨bx, ox + q * 2 + 1, none⟩) hbx).trans hu1
                  have dv0 := (HBU.out.cell (p := ⟨bz, oz + q * 2, none⟩) hbz).trans hv0
                  have dv1 := (HBU.out.cell (p := ⟨bz, oz + q * 2 + 1, none⟩) hbz).trans hv1
                  obtain ⟨d7, d10⟩ := HKU.out wr HBU.out
                  have hUr := HBU.out.size
                  have hbz' : bz < wr.heap.size := by omega
                  have hq7' : w1.heap.size < wr.heap.size := by omega
                  clear hu hv hu0 hu1 hv0 hv1
                  have HB2 := mkHid ((HBU.out.alloc hUr (.cells #[.int .i64 u1, .int .i64 u2] 46)).alloc (by simp; omega) (.cells #[.int .i64 v1, .int .i64 v2] 46))
                  by_cases g1 : u1 = 3
                  · have g2 := he3 g1
                    subst g1 g2
                    clear he3 he1
                    go_wp2_with fail
                    go_roundw
                    case measure => simp [intOf]; omega
                    case rel => exact ⟨q + 1, by omega, by go_num, HB2⟩
                  · have gb1 : (u1 == 3) = false := by simpa using g1
                    by_cases g2 : v1 = 3
                    · have gb2 : (u1 == 1) = false := by simpa using he1 g2
                      subst g2
                      clear he3 he1 g1
                      go_wp2_with fail
                      go_roundw
                      case measure => simp [intOf]; omega
                      case rel => exact ⟨q + 1, by omega, by go_num, HB2⟩
                    · have gb2 : (v1 == 3) = false := by simpa using g2
                      clear he3 he1 g1 g2
                      go_wp2_with fail
                      go_roundw
                      case measure => simp [intOf]; omega
                      case rel => exact ⟨q + 1, by omega, by go_num, HB2⟩
                · obtain rfl : q = ys.length := by omega
                  go_wp2_with fail
                  go_roundw
                  case measure => simp [intOf]; omega
                  case rel => exact ⟨k + 1, zs, A', C', by omega, by go_num, mkHid ((HBU.out.block _ HU7L.out).trans HU7.out), mkHid (HEZ.out.next HBU.out), HCAPZ, mkHid HN.out.r, mkHid (HBWU.out.trans (HBU.out.mono HBWU.out.size))⟩
          · rw [errV_of h0]
            go_wp2_with fail
            go_roundw
            case measure => simp [intOf]; omega
            case rel => exact ⟨k + 1, ys, A, C, by omega, by go_num, HB7, HEC, HCAP, HRY, HBC⟩
      · obtain rfl : k = n1 := by omega
        go_wp2_with fail
        refine (awake_any _).mono ?_
        rintro e w2 ⟨rfl, hb2⟩
        go_wp2_with fail
        go_ret
        exact ⟨rfl, HB.out.trans (hb2.mono HB.out.size)⟩

end Go.Proofs.Ytlpgeocoddehgaa
