/- The document's disk: Crash by contract. -/
import Derived.Test.YtpponofbkkikfaaRdE
namespace Go.Proofs.Ytpponofbkkikfaa
open Go.RowKit

theorem crashS_at {s : Sec} {x : Int} {J : Nat} {l : List Int} (hw : 0 < s.wait.length) (hl : s.vals[J]? = some l) (hJ : (x ≤ 0 ∧ J = 0) ∨ (0 < x ∧ x ≤ s.wait.length ∧ x = J) ∨ ((s.wait.length : Int) < x ∧ J = s.wait.length)) : crashS x s = ⟨l, [], s.bad⟩ := by
  unfold crashS
  rcases hJ with ⟨h1, rfl⟩ | ⟨h1, h2, h3⟩ | ⟨h1, rfl⟩
  · rw [if_neg (by omega)]
    injection hl with hl
    rw [hl]
  · obtain ⟨m, rfl⟩ : ∃ m, J = m + 1 := ⟨J - 1, by omega⟩
    rw [if_pos h1, show (min x (s.wait.length : Int)).toNat - 1 = m by omega]
    rw [show s.vals[m + 1]? = s.wait[m]? from rfl] at hl
    rw [hl]
    rfl
  · obtain ⟨m, hm⟩ : ∃ m, s.wait.length = m + 1 := ⟨s.wait.length - 1, by omega⟩
    rw [if_pos (by omega), show (min x (s.wait.length : Int)).toNat - 1 = m by omega]
    rw [hm, show s.vals[m + 1]? = s.wait[m]? from rfl] at hl
    rw [hl]
    rfl

/-- A slice of ints that lies outside of what may turn, if it is not empty. -/
theorem IS.turn0 {w w' : World} {F : Nat → Prop} {n : Nat} {a : Option Addr} {l : List Int} (h : IS w w.heap.size a n l) (ht : Turn F w w') (ho : 0 < n → ∀ ad : Addr, a = some ad → ¬ F ad.block) : IS w' w'.heap.size a n l :=
  ⟨⟨h.1.1, fun j hj => by
    obtain ⟨b, o, ha, hb, hc⟩ := h.1.2 j hj
    exact ⟨b, o, ha, Nat.lt_of_lt_of_le hb ht.size, (World.cell?_of_block (w := w) (ht.block b hb (ho (by omega) _ ha))).trans hc⟩⟩, h.2⟩

/-- The state of the crash's loop. -/
structure RCR (w wr : World) (F F' : Nat → Prop) (g : Nat) (A : Option Addr) (n c : Nat) (cs : List Value) (ss0 ss : List Sec) (P : List Int) (k : Nat) (l : List Int) : Prop where
  t : Turn F w wr
  d : RDr wr F' g A n c cs ss
  ff : ∀ b, F' b → F b ∨ w.heap.size ≤ b
  fin : crashL (P.drop k) (l.drop k) ss = crashL P l ss0
  keep : ∀ (t i : Nat), k ≤ t → P[t]? = some (i : Int) → ss[i]? = ss0[i]?
theorem RCR.step {w wr W : World} {F F' : Nat → Prop} {g r : Nat} {n c : Nat} {cs : List Value} {ss0 ss : List Sec} {P : List Int} {k : Nat} {l : List Int} (h : RCR w wr F F' g (some ⟨r, 0, none⟩) n c cs ss0 ss P k l) {i J : Nat} {s : Sec} (hP : P.drop k = (i : Int) :: P.drop (k + 1)) (hPk : P[k]? = some (i : Int)) (hinj : ∀ (t t' : Nat) (x : Int), P[t]? = some x → P[t']? = some x → t = t')
    (hs : ss[i]? = some s) (hw : 0 < s.wait.length) {a' : Option Addr} {c' : Nat} {v : List Int} (hv : s.vals[J]? = some v) (hJ : (l[k]?.getD 0 ≤ 0 ∧ J = 0) ∨ (0 < l[k]?.getD 0 ∧ l[k]?.getD 0 ≤ s.wait.length ∧ l[k]?.getD 0 = J) ∨ ((s.wait.length : Int) < l[k]?.getD 0 ∧ J = s.wait.length)) (hg : GB wr F' a' v) (hc : 128 ≤ c' ∧ c' ≤ maxLen)
    (hW : W.heap = ((wr.setCell ⟨r, i * 2, none⟩ (.slice (some ⟨wr.heap.size, 0, none⟩) 1 1)).alloc (.cells #[.slice a' 128 c'] 30)).heap) (ho : W.os = wr.os ∧ W.tape = wr.tape ∧ W.output = wr.output) :
    ∃ F'' cs' ss', RCR w W F F'' g (some ⟨r, 0, none⟩) n c cs' ss0 ss' P (k + 1) l := by
  obtain ⟨k1, F'', ⟨cs', k2⟩, k3⟩ := h.d.one hs hg hc hW ho
  refine ⟨F'', cs', _, h.t.trans k1 h.ff, k2, fun b hb => (k3 b hb).elim (h.ff b) fun e => .inr (Nat.le_trans h.t.size e), ?_, fun t j ht hj => ?_⟩
  · have hf := h.fin
    rw [hP, crashL, Int.toNat_natCast, hs, List.drop_drop, List.getElem?_drop] at hf
    simp only [Nat.add_zero] at hf
    rw [crashS_at hw hv hJ] at hf
    exact hf
  · have hji : i ≠ j := fun e => by
      subst e
      have := hinj t k _ hj hPk
      omega
    rw [List.getElem?_set_ne hji]
    exact h.keep t j (by omega) hj

set_option maxRecDepth 20000 in
set_option maxHeartbeats 4000000 in
theorem rcrash_any (F : Nat → Prop) (g : Nat) (ss : List Sec) (a : Option Addr) (np cp : Nat) (l : List Int) (w : World) (h : RD w F g ss) (hx : IS w w.heap.size a np l) (hout : 0 < np → ∀ ad : Addr, a = some ad → ¬ F ad.block) (hc : np ≤ cp ∧ cp ≤ 9223372036854775807) :
    Calls Try.prog 39 #[.pointer (some ⟨g, 0, none⟩), .slice a np cp] w fun e w' => e = .returned (.tuple #[]) ∧ Turn F w w' ∧ ∃ F', RD w' F' g (crashed ss l) ∧ ∀ b, F' b → F b ∨ w.heap.size ≤ b := by
  have HP := mkHid (rpending_any F g ss w h)
  have hpl : (pend ss).length ≤ 4096 := Nat.le_trans (pendN_len ss _) h.nl
  obtain ⟨A, n, c, cs, h⟩ := h
  have hnl := h.nl
  have hlen := h.len
  obtain ⟨hc1, hc2⟩ := own_cap h.row
  have HD := mkHid h
  have HX := mkHid hx
  have HO := mkHid hout
  obtain ⟨hcp1, hcp2⟩ := hc
  clear h hx hout
  go_enter Try.func39, Try.ntmps39
  go_wp2_with fail
  refine HP.out.mono ?_
  rintro e w1 ⟨PA, pc, rfl, hop, hb1⟩
  have HOP := mkHid hop
  have HB1 := mkHid hb1
  have HX1 := mkHid ((HX.out.below hb1).more hb1.size)
  have HCR := mkHid (show RCR w1 w1 F F g A n c cs ss ss (pend ss) 0 l from ⟨Turn.of_below (Below.refl _ _), HD.out.below hb1, fun b hb => .inl hb, rfl, fun _ _ _ _ => rfl⟩)
  have hNF : ∀ b, (Value.slice PA (pend ss).length pc).ownBlock = some b → ¬ F b := fun b hb hf => by
    have h1 := HD.out.lt b hf
    have h2 := (hop.lt b hb).1
    omega
  have HNF := mkHid hNF
  clear hop hb1 hNF
  generalize hPP : pend ss = P at *
  have HPP := mkHid hPP
  have HINJ := mkHid (show ∀ (t t' : Nat) (x : Int), P[t]? = some x → P[t']? = some x → t = t' from fun t t' x h1 h2 => by rw [← hPP] at h1 h2; exact pend_inj h1 h2)
  clear hPP
  go_wp2_with fail
  go_loopw [5] (fun i wr => ∃ (k : Nat) (F' : Nat → Prop) (cs : List Value) (ss' : List Sec), k ≤ P.length ∧ i = .int .i64 k ∧ RCR w1 wr F F' g A n c cs ss ss' P k l) (fun i _ => P.length - (intOf i).toNat)
  case atStart => exact ⟨0, F, cs, ss, Nat.zero_le _, rfl, HCR.out⟩
  case round =>
    clear HCR HP HD
    obtain ⟨k, F', cs, ss', hk, rfl, hcr⟩ := hrel
    have HCR := mkHid hcr
    clear hcr
    by_cases hlt : k < P.length
    · obtain ⟨i, hi, hin, hwt⟩ := pend_get (ss := ss) (k := k) (x := P[k]) (by rw [HPP.out, List.getElem?_eq_getElem hlt])
      have hsl : SL wr wr.heap.size 1 PA P.length (P.map i64v) := SL.of_own (own_turn HOP.out HCR.out.t HNF.out)
      obtain ⟨pb, po, hPA, hb, hcell⟩ := hsl.2 k (by omega)
      rw [List.getElem?_map, List.getElem?_eq_getElem hlt] at hcell
      simp only [Option.map_some, Option.getD_some, i64v, hi] at hcell
      have hln' : ss'.length = n := HCR.out.d.len
      obtain ⟨r, s, va, vc, rfl, hs', q0, q1, hvc, h9, hv, hFr, hrg⟩ := HCR.out.d.at_ (j := i) (by omega)
      have hpr : pb ≠ r := fun e => by
        have hOP := own_turn HOP.out HCR.out.t HNF.out
        obtain ⟨g', cap', hv', hg0, hg1⟩ := hOP.form (by omega)
        obtain ⟨cur, h'⟩ := own_type hOP (b := pb) (by
          rw [hPA] at hv' ⊢
          injection hv' with hv' _ _
          injection hv' with hv'
          injection hv' with e1 e2
          rw [e2]
          rfl)
        obtain ⟨cur2, h2⟩ := own_type HCR.out.d.row (b := r) rfl
        rw [e, h2] at h'
        simp at h'
      subst hPA
      have c0 := cell_of_row wr g 0 _ _ _ HCR.out.d.blk
      simp at c0
      have hss : ss[i]? = some s := by rw [← HCR.out.keep k i (Nat.le_refl _) (by rw [List.getElem?_eq_getElem hlt, hi]), hs']
      have hwl : 0 < s.wait.length := by
        unfold waits at hwt
        rw [hss] at hwt
        simpa using hwt
      have HPK := mkHid (show P.drop k = (i : Int) :: P.drop (k + 1) by rw [List.drop_eq_getElem_cons hlt, hi])
      have HKI := mkHid (show P[k]? = some (i : Int) by rw [List.getElem?_eq_getElem hlt, hi])
      have HS' := mkHid hs'
      have HWL := mkHid hwl
      have hrlt := HCR.out.d.lt r hFr
      have hglt := HCR.out.d.lt g HCR.out.d.fg
      have hfz : wr.frozen? ⟨r, i * 2, none⟩ = false := by
        obtain ⟨cur, hcur⟩ := own_type HCR.out.d.row (b := r) rfl
        exact frozen_of_row wr r _ _ _ hcur
      have HAT := mkHid (show ∀ J, J < s.wait.length + 1 → ∃ vb a' c' l, va = some ⟨vb, 0, none⟩ ∧ vb < wr.heap.size ∧ vb ≠ r ∧ wr.cell? ⟨vb, J, none⟩ = some (.slice a' 128 c') ∧ (128 ≤ c' ∧ c' ≤ maxLen) ∧ s.vals[J]? = some l ∧ GB wr F' a' l from fun J hJ => by
        obtain ⟨vb, a', c', l, e1, e2, e3, e4, e5, e6⟩ := hv.at_ (j := J) (by rw [s.vals_len]; exact hJ)
        refine ⟨vb, a', c', l, e1, HCR.out.d.lt vb e2, fun e => ?_, e3, e4, e5, e6⟩
        obtain ⟨cur, hcur⟩ := own_type HCR.out.d.row (b := r) rfl
        obtain ⟨b', cur', fr, e1', _, e2', _⟩ := hv
        rw [e1] at e1'
        injection e1' with e1'
        injection e1' with e1'
        rw [← e1', e, hcur] at e2'
        simp at e2')
      have HKZ := mkHid (show ∀ Z : World, (∀ k, k < wr.heap.size → k ≠ r → Z.heap[k]? = wr.heap[k]?) → Z.cell? ⟨g, 0, none⟩ = some (.slice (some ⟨r, 0, none⟩) n c) ∧ Z.cell? ⟨pb, po + k, none⟩ = some (.int .i64 (i : Int)) from fun Z hZ => ⟨(World.cell?_of_block (w := wr) (hZ g hglt (fun e => hrg e.symm))).trans c0, (World.cell?_of_block (w := wr) (hZ pb hb hpr)).trans hcell⟩)
      have HS0 := mkHid (And.intro c0 (And.intro hcell q0))
      have hcapP := own_cap HOP.out
      have HXR := mkHid (HX1.out.turn0 HCR.out.t HO.out)
      have HWN := mkHid h9
      obtain ⟨wn, hwn⟩ : ∃ wn, wn = s.wait.length := ⟨_, rfl⟩
      have HNW := mkHid hwn
      rw [← hwn] at HAT HS0 q0 hwl
      have hwn9 : wn ≤ 1000000 := by omega
      clear hss hs' hsl hi hwt hv hwn h9 hwl q1
      have hin1 : i < n := by omega
      have hin2 : (i : Int) < (n : Int) := by omega
      have hin0 : (0 : Int) ≤ (i : Int) := by omega
      by_cases hkn : k < np
      · obtain ⟨b2, o2, ha2, hb2, hx0, hxI⟩ := HXR.out.at_ (j := k) hkn
        have HA2 := mkHid ha2
        subst ha2
        generalize hX : l[k]?.getD 0 = X at *
        have HXX := mkHid hX
        obtain ⟨x0, x1⟩ := hxI
        clear hX
        have HX0 := mkHid hx0
        by_cases hXp : 0 < X
        · by_cases hXw : X ≤ wn
          · obtain ⟨J, rfl⟩ : ∃ J : Nat, X = (J : Int) := ⟨X.toNat, by omega⟩
            obtain ⟨vb, a3, c3, l3, rfl, hvb, hvr, hc3, hcc3, hl3, hgb3⟩ := HAT.out J (by omega)
            have HL3 := mkHid hl3
            have HG3 := mkHid hgb3
            have HCV := mkHid hc3
            have HKV := mkHid (show ∀ Z : World, (∀ k, k < wr.heap.size → k ≠ r → Z.heap[k]? = wr.heap[k]?) → Z.cell? ⟨vb, J, none⟩ = some (.slice a3 128 c3) from fun Z hZ => (World.cell?_of_block (w := wr) (hZ vb hvb hvr)).trans HCV.out)
            clear hl3 hgb3 hc3
            go_wp2_with fail
            go_region_held3 (fun s => s.cell? ⟨g, 0, none⟩ = some (.slice (some ⟨r, 0, none⟩) n c) ∧ s.cell? ⟨pb, po + k, none⟩ = some (.int .i64 (i : Int)) ∧ s.cell? ⟨r, i * 2, none⟩ = some (.slice (some ⟨vb, 0, none⟩) (wn + 1) vc)) (first | exact HS0.out | assumption) (fail)
            go_wp2_with fail
            have hwr2 : IntKind.i64.wrap (J : Int) = (J : Int) := by rw [IntKind.wrap_i64]; omega
            have hj0 : (0 : Int) ≤ (J : Int) := by omega
            have hj1 : (J : Int) < (wn : Int) + 1 := by omega
            go_region_held3 (fun s => s.cell? ⟨g, 0, none⟩ = some (.slice (some ⟨r, 0, none⟩) n c) ∧ s.cell? ⟨pb, po + k, none⟩ = some (.int .i64 (i : Int)) ∧ s.cell? ⟨vb, J, none⟩ = some (.slice a3 128 c3)) (first | assumption | exact ⟨(HKZ.out _ (fun _ _ _ => rfl)).1, (HKZ.out _ (fun _ _ _ => rfl)).2, HKV.out _ (fun _ _ _ => rfl)⟩ | exact ⟨(HKZ.out _ (fun k hk _ => Below.heap_alloc _ _ _ hk)).1, (HKZ.out _ (fun k hk _ => Below.heap_alloc _ _ _ hk)).2, HKV.out _ (fun k hk _ => Below.heap_alloc _ _ _ hk)⟩ | exact ⟨(HKZ.out _ (fun k hk hkr => (Below.heap_alloc _ _ _ (by rw [set_size]; exact hk)).trans (heap_setCell_other _ _ _ _ hkr))).1, (HKZ.out _ (fun k hk hkr => (Below.heap_alloc _ _ _ (by rw [set_size]; exact hk)).trans (heap_setCell_other _ _ _ _ hkr))).2, HKV.out _ (fun k hk hkr => (Below.heap_alloc _ _ _ (by rw [set_size]; exact hk)).trans (heap_setCell_other _ _ _ _ hkr))⟩) (fail)
            go_wp2_with fail
            go_roundw
            case rel =>
              obtain ⟨F2, cs2, ss2, hst⟩ := HCR.out.step (J := J) HPK.out HKI.out HINJ.out HS'.out HWL.out HL3.out (by rw [HXX.out, ← HNW.out]; exact .inr (.inl ⟨by omega, by omega, rfl⟩)) HG3.out hcc3 (W := ((wr.setCell ⟨r, i * 2, none⟩ (.slice (some ⟨wr.heap.size, 0, none⟩) 1 1)).alloc (.cells #[.slice a3 128 c3] 30)).drew.drew) rfl ⟨rfl, rfl, rfl⟩
              exact ⟨k + 1, F2, cs2, ss2, by omega, by go_num, hst⟩
            case measure => simp [intOf]; omega
          · have hXw' : (wn : Int) < X := by omega
            obtain ⟨vb, a3, c3, l3, rfl, hvb, hvr, hc3, hcc3, hl3, hgb3⟩ := HAT.out wn (by omega)
            have HL3 := mkHid hl3
            have HG3 := mkHid hgb3
            have HCV := mkHid hc3
            have HKV := mkHid (show ∀ Z : World, (∀ k, k < wr.heap.size → k ≠ r → Z.heap[k]? = wr.heap[k]?) → Z.cell? ⟨vb, wn, none⟩ = some (.slice a3 128 c3) from fun Z hZ => (World.cell?_of_block (w := wr) (hZ vb hvb hvr)).trans HCV.out)
            clear hl3 hgb3 hc3
            go_wp2_with fail
            go_region_held3 (fun s => s.cell? ⟨g, 0, none⟩ = some (.slice (some ⟨r, 0, none⟩) n c) ∧ s.cell? ⟨pb, po + k, none⟩ = some (.int .i64 (i : Int)) ∧ s.cell? ⟨r, i * 2, none⟩ = some (.slice (some ⟨vb, 0, none⟩) (wn + 1) vc)) (first | exact HS0.out | assumption) (fail)
            go_wp2_with fail
            have hwr2 : IntKind.i64.wrap (wn : Int) = (wn : Int) := by rw [IntKind.wrap_i64]; omega
            have hj0 : (0 : Int) ≤ (wn : Int) := by omega
            have hj1 : (wn : Int) < (wn : Int) + 1 := by omega
            go_region_held3 (fun s => s.cell? ⟨g, 0, none⟩ = some (.slice (some ⟨r, 0, none⟩) n c) ∧ s.cell? ⟨pb, po + k, none⟩ = some (.int .i64 (i : Int)) ∧ s.cell? ⟨vb, wn, none⟩ = some (.slice a3 128 c3)) (first | assumption | exact ⟨(HKZ.out _ (fun _ _ _ => rfl)).1, (HKZ.out _ (fun _ _ _ => rfl)).2, HKV.out _ (fun _ _ _ => rfl)⟩ | exact ⟨(HKZ.out _ (fun k hk _ => Below.heap_alloc _ _ _ hk)).1, (HKZ.out _ (fun k hk _ => Below.heap_alloc _ _ _ hk)).2, HKV.out _ (fun k hk _ => Below.heap_alloc _ _ _ hk)⟩ | exact ⟨(HKZ.out _ (fun k hk hkr => (Below.heap_alloc _ _ _ (by rw [set_size]; exact hk)).trans (heap_setCell_other _ _ _ _ hkr))).1, (HKZ.out _ (fun k hk hkr => (Below.heap_alloc _ _ _ (by rw [set_size]; exact hk)).trans (heap_setCell_other _ _ _ _ hkr))).2, HKV.out _ (fun k hk hkr => (Below.heap_alloc _ _ _ (by rw [set_size]; exact hk)).trans (heap_setCell_other _ _ _ _ hkr))⟩) (fail)
            go_wp2_with fail
            go_roundw
            case rel =>
              obtain ⟨F2, cs2, ss2, hst⟩ := HCR.out.step (J := wn) HPK.out HKI.out HINJ.out HS'.out HWL.out HL3.out (by rw [HXX.out, ← HNW.out]; exact .inr (.inr ⟨by omega, rfl⟩)) HG3.out hcc3 (W := ((wr.setCell ⟨r, i * 2, none⟩ (.slice (some ⟨wr.heap.size, 0, none⟩) 1 1)).alloc (.cells #[.slice a3 128 c3] 30)).drew.drew) rfl ⟨rfl, rfl, rfl⟩
              exact ⟨k + 1, F2, cs2, ss2, by omega, by go_num, hst⟩
            case measure => simp [intOf]; omega
        · have hXp' : X ≤ 0 := by omega
          obtain ⟨vb, a3, c3, l3, rfl, hvb, hvr, hc3, hcc3, hl3, hgb3⟩ := HAT.out 0 (by omega)
          have HL3 := mkHid hl3
          have HG3 := mkHid hgb3
          have HCV := mkHid hc3
          have HKV := mkHid (show ∀ Z : World, (∀ k, k < wr.heap.size → k ≠ r → Z.heap[k]? = wr.heap[k]?) → Z.cell? ⟨vb, 0, none⟩ = some (.slice a3 128 c3) from fun Z hZ => (World.cell?_of_block (w := wr) (hZ vb hvb hvr)).trans HCV.out)
          clear hl3 hgb3 hc3
          go_wp2_with fail
          go_region_held3 (fun s => s.cell? ⟨g, 0, none⟩ = some (.slice (some ⟨r, 0, none⟩) n c) ∧ s.cell? ⟨pb, po + k, none⟩ = some (.int .i64 (i : Int)) ∧ s.cell? ⟨r, i * 2, none⟩ = some (.slice (some ⟨vb, 0, none⟩) (wn + 1) vc)) (first | exact HS0.out | assumption) (fail)
          go_wp2_with fail
          have hwr2 : IntKind.i64.wrap (0 : Int) = (0 : Int) := by rw [IntKind.wrap_i64]; omega
          have hj0 : (0 : Int) ≤ (0 : Int) := by omega
          have hj1 : (0 : Int) < (wn : Int) + 1 := by omega
          go_region_held3 (fun s => s.cell? ⟨g, 0, none⟩ = some (.slice (some ⟨r, 0, none⟩) n c) ∧ s.cell? ⟨pb, po + k, none⟩ = some (.int .i64 (i : Int)) ∧ s.cell? ⟨vb, 0, none⟩ = some (.slice a3 128 c3)) (first | assumption | exact ⟨(HKZ.out _ (fun _ _ _ => rfl)).1, (HKZ.out _ (fun _ _ _ => rfl)).2, HKV.out _ (fun _ _ _ => rfl)⟩ | exact ⟨(HKZ.out _ (fun k hk _ => Below.heap_alloc _ _ _ hk)).1, (HKZ.out _ (fun k hk _ => Below.heap_alloc _ _ _ hk)).2, HKV.out _ (fun k hk _ => Below.heap_alloc _ _ _ hk)⟩ | exact ⟨(HKZ.out _ (fun k hk hkr => (Below.heap_alloc _ _ _ (by rw [set_size]; exact hk)).trans (heap_setCell_other _ _ _ _ hkr))).1, (HKZ.out _ (fun k hk hkr => (Below.heap_alloc _ _ _ (by rw [set_size]; exact hk)).trans (heap_setCell_other _ _ _ _ hkr))).2, HKV.out _ (fun k hk hkr => (Below.heap_alloc _ _ _ (by rw [set_size]; exact hk)).trans (heap_setCell_other _ _ _ _ hkr))⟩) (fail)
          go_wp2_with fail
          go_roundw
          case rel =>
            obtain ⟨F2, cs2, ss2, hst⟩ := HCR.out.step (J := 0) HPK.out HKI.out HINJ.out HS'.out HWL.out HL3.out (by rw [HXX.out, ← HNW.out]; exact .inl ⟨by omega, rfl⟩) HG3.out hcc3 (W := ((wr.setCell ⟨r, i * 2, none⟩ (.slice (some ⟨wr.heap.size, 0, none⟩) 1 1)).alloc (.cells #[.slice a3 128 c3] 30)).drew.drew) rfl ⟨rfl, rfl, rfl⟩
            exact ⟨k + 1, F2, cs2, ss2, by omega, by go_num, hst⟩
          case measure => simp [intOf]; omega
      · have hkn' : (np : Int) ≤ (k : Int) := by omega
        have HXX := mkHid (show l[k]?.getD 0 = 0 by rw [List.getElem?_eq_none (by have := HXR.out.len; omega)]; rfl)
        obtain ⟨vb, a3, c3, l3, rfl, hvb, hvr, hc3, hcc3, hl3, hgb3⟩ := HAT.out 0 (by omega)
        have HL3 := mkHid hl3
        have HG3 := mkHid hgb3
        have HCV := mkHid hc3
        have HKV := mkHid (show ∀ Z : World, (∀ k, k < wr.heap.size → k ≠ r → Z.heap[k]? = wr.heap[k]?) → Z.cell? ⟨vb, 0, none⟩ = some (.slice a3 128 c3) from fun Z hZ => (World.cell?_of_block (w := wr) (hZ vb hvb hvr)).trans HCV.out)
        clear hl3 hgb3 hc3
        go_wp2_with fail
        go_region_held3 (fun s => s.cell? ⟨g, 0, none⟩ = some (.slice (some ⟨r, 0, none⟩) n c) ∧ s.cell? ⟨pb, po + k, none⟩ = some (.int .i64 (i : Int)) ∧ s.cell? ⟨r, i * 2, none⟩ = some (.slice (some ⟨vb, 0, none⟩) (wn + 1) vc)) (first | exact HS0.out | assumption) (fail)
        go_wp2_with fail
        have hwr2 : IntKind.i64.wrap (0 : Int) = (0 : Int) := by rw [IntKind.wrap_i64]; omega
        have hj0 : (0 : Int) ≤ (0 : Int) := by omega
        have hj1 : (0 : Int) < (wn : Int) + 1 := by omega
        go_region_held3 (fun s => s.cell? ⟨g, 0, none⟩ = some (.slice (some ⟨r, 0, none⟩) n c) ∧ s.cell? ⟨pb, po + k, none⟩ = some (.int .i64 (i : Int)) ∧ s.cell? ⟨vb, 0, none⟩ = some (.slice a3 128 c3)) (first | assumption | exact ⟨(HKZ.out _ (fun _ _ _ => rfl)).1, (HKZ.out _ (fun _ _ _ => rfl)).2, HKV.out _ (fun _ _ _ => rfl)⟩ | exact ⟨(HKZ.out _ (fun k hk _ => Below.heap_alloc _ _ _ hk)).1, (HKZ.out _ (fun k hk _ => Below.heap_alloc _ _ _ hk)).2, HKV.out _ (fun k hk _ => Below.heap_alloc _ _ _ hk)⟩ | exact ⟨(HKZ.out _ (fun k hk hkr => (Below.heap_alloc _ _ _ (by rw [set_size]; exact hk)).trans (heap_setCell_other _ _ _ _ hkr))).1, (HKZ.out _ (fun k hk hkr => (Below.heap_alloc _ _ _ (by rw [set_size]; exact hk)).trans (heap_setCell_other _ _ _ _ hkr))).2, HKV.out _ (fun k hk hkr => (Below.heap_alloc _ _ _ (by rw [set_size]; exact hk)).trans (heap_setCell_other _ _ _ _ hkr))⟩) (fail)
        go_wp2_with fail
        go_roundw
        case rel =>
          obtain ⟨F2, cs2, ss2, hst⟩ := HCR.out.step (J := 0) HPK.out HKI.out HINJ.out HS'.out HWL.out HL3.out (by rw [HXX.out, ← HNW.out]; exact .inl ⟨by omega, rfl⟩) HG3.out hcc3 (W := ((wr.setCell ⟨r, i * 2, none⟩ (.slice (some ⟨wr.heap.size, 0, none⟩) 1 1)).alloc (.cells #[.slice a3 128 c3] 30)).drew.drew) rfl ⟨rfl, rfl, rfl⟩
          exact ⟨k + 1, F2, cs2, ss2, by omega, by go_num, hst⟩
        case measure => simp [intOf]; omega
    · obtain rfl : k = P.length := by omega
      have hfin := HCR.out.fin
      rw [List.drop_of_length_le (Nat.le_refl _)] at hfin
      have HFIN := mkHid (show ss' = crashed ss l from by unfold crashed; rw [HPP.out]; exact hfin)
      have HT := mkHid ((Turn.of_below (F := F) HB1.out).trans HCR.out.t fun b hb => .inl hb)
      have HD := mkHid HCR.out.d
      have HFF := mkHid (show ∀ b, F' b → F b ∨ w.heap.size ≤ b from fun b hb => (HCR.out.ff b hb).imp id fun e => Nat.le_trans HB1.out.size e)
      clear hfin HCR
      go_wp2_with fail
      go_end0
      exact ⟨rfl, HT.out, F', HFIN.out ▸ ⟨_, _, _, _, HD.out⟩, HFF.out⟩

end Go.Proofs.Ytpponofbkkikfaa
