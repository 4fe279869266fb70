/- The document's disk: Fill by contract. -/
import Derived.Test.YtpponofbkkikfaaDkK
namespace Go.Proofs.Ytpponofbkkikfaa
open Go.RowKit

theorem fillK_nil (i k : Nat) (hk : k ≤ 128) : fillK [] i k = fillB [] i := by
  unfold fillK
  rw [fillB_nil]
  exact List.take_append_drop k zeros
theorem FI.gb0 {W wr : World} {d k : Nat} {b : List Int} {i : Nat} {F : Nat → Prop} (h : FI W wr d b i k) (hb : okBytes b) (hF : F d) (hk : k = 128 ∨ (b = [] ∧ k ≤ 128)) : GB wr F (some ⟨d, 0, none⟩) (fillB b i) := by
  rcases hk with rfl | ⟨rfl, hk⟩
  · exact h.gb hb hF
  · refine FI.gb (W := W) ⟨?_, h.oth, h.os, h.tape, h.output, h.size⟩ hb hF
    rw [fillK_nil _ _ (Nat.le_refl _), ← fillK_nil i k hk]
    exact h.blk

/-- A slice of bytes that lies outside of what may turn, if it is not empty. -/
theorem BS.turn0 {w w' : World} {F : Nat → Prop} {n : Nat} {a : Option Addr} {l : List Int} (h : BS w w.heap.size a n l) (ht : Turn F w w') (ho : 0 < n → ∀ ad : Addr, a = some ad → ¬ F ad.block) : BS w' w'.heap.size a n l :=
  ⟨⟨h.1.1, fun j hj => by
    obtain ⟨b, o, ha, hb, hc⟩ := h.1.2 j hj
    exact ⟨b, o, ha, Nat.lt_of_lt_of_le hb ht.size, (World.cell?_of_block (w := w) (ht.block b hb (ho (by omega) _ ha))).trans hc⟩⟩, h.2⟩

set_option maxRecDepth 20000 in
set_option maxHeartbeats 4000000 in
theorem rfill_any (F : Nat → Prop) (g : Nat) (ss : List Sec) (a : Option Addr) (m k0 : Nat) (l : List Int) (w : World) (h : RD w F g ss) (hx : BS w w.heap.size a m l) (hout : 0 < m → ∀ ad : Addr, a = some ad → ¬ F ad.block) (hm2 : m ≤ 140737488355328) :
    Calls Try.prog 40 #[.pointer (some ⟨g, 0, none⟩), .slice a m k0] w fun e w' => e = .returned (.tuple #[]) ∧ Turn F w w' ∧ ∃ F', RD w' F' g (filled ss l) ∧ ∀ b, F' b → F b ∨ w.heap.size ≤ b := by
  obtain ⟨A, n, c, cs, h⟩ := h
  have hnl := h.nl
  obtain ⟨hc1, hc2⟩ := own_cap h.row
  have HD := mkHid h
  have HX := mkHid hx
  have HO := mkHid hout
  have HLEN := mkHid h.len
  have HLL := mkHid hx.len
  clear h hx hout
  go_enter Try.func40, Try.ntmps40
  go_wp2_with fail
  go_loopw [4] (fun i wr => ∃ (q : Nat) (F' : Nat → Prop) (cs : List Value), q ≤ n ∧ i = .int .i64 q ∧ Hid (Turn F w wr) ∧ Hid (RDr wr F' g A n c cs (fiN ss l q)) ∧ Hid (∀ b, F' b → F b ∨ w.heap.size ≤ b)) (fun i _ => n - (intOf i).toNat)
  case atStart => exact ⟨0, F, cs, Nat.zero_le _, rfl, mkHid (Turn.of_below (Below.refl _ _)), mkHid (by rw [fiN_zero]; exact HD.out), mkHid fun b hb => .inl hb⟩
  case round =>
    clear HD
    obtain ⟨q, F', cs, hq, rfl, HT, HDR, HF⟩ := hrel
    have c0 := cell_of_row wr g 0 _ _ _ HDR.out.blk
    simp at c0
    by_cases hlt : q < n
    · obtain ⟨r, s, va, vc, rfl, hs', q0, q1, _, _, _, hFr, hrg⟩ := HDR.out.at_ hlt
      have HS' := mkHid hs'
      have hrlt := HDR.out.lt r hFr
      have hglt := HDR.out.lt g HDR.out.fg
      have HFR := mkHid hFr
      clear hs' hFr
      go_wp2_with fail
      refine (zero_any wr).mono ?_
      rintro e w2 ⟨b, d, rfl, hz⟩
      have HZ := mkHid hz
      have hz0 := hz.b0
      have hz1 := hz.d0
      have hz2 := hz.b1
      have hz3 := hz.d1
      have hzs := hz.bel.size
      have hbd : b ≠ d := fun e => by
        have h1 := hz.vb
        rw [e, hz.vd] at h1
        simp at h1
      clear hz
      go_wp2_with fail
      obtain ⟨W1, hW1⟩ : ∃ W1, w2.alloc (.cells #[.slice (some ⟨b, 0, none⟩) 1 1, .bool false] 64) = W1 := ⟨_, rfl⟩
      have hoth : ∀ k, k < w2.heap.size → W1.heap[k]? = w2.heap[k]? := fun k hk => by rw [← hW1]; exact Below.heap_alloc _ _ _ hk
      have HVS := mkHid (show W1.heap[w2.heap.size]? = some (.cells #[.slice (some ⟨b, 0, none⟩) 1 1, .bool false] 64 (0, 0)) by rw [← hW1]; exact heap_alloc_new _ _)
      have HVB := mkHid ((hoth b hz2).trans HZ.out.vb)
      have HB1 := mkHid (show Below wr.heap.size wr W1 by rw [← hW1]; exact HZ.out.bel.alloc hzs _)
      have HFI := mkHid (show FI W1 W1 d l q 0 from ⟨by rw [fillK_zero, hoth _ hz3]; exact HZ.out.vd, fun _ _ => rfl, rfl, rfl, rfl, rfl⟩)
      have hWs : W1.heap.size = w2.heap.size + 1 := by rw [← hW1]; simp
      have HBS := mkHid (((HX.out.turn0 HT.out HO.out).below HB1.out).more HB1.out.size)
      rw [hW1]
      clear hW1 hoth
      obtain ⟨wO, rfl⟩ : ∃ wO : World, wO = wr := ⟨_, rfl⟩
      go_loopw [6] (fun kk w3 => ∃ (k : Nat), k ≤ 128 ∧ kk = .int .i64 k ∧ Hid (FI W1 w3 d l q k)) (fun kk _ => 128 - (intOf kk).toNat)
      case atStart => exact ⟨0, Nat.zero_le _, rfl, HFI⟩
      case round =>
        clear HFI
        obtain ⟨k, hk, rfl, HFI⟩ := hrel
        by_cases hlk : k < 128 ∧ 0 < m
        · obtain ⟨hlk, hm⟩ := hlk
          obtain ⟨t, ht⟩ : ∃ t, t = (q * 128 + k) % m := ⟨_, rfl⟩
          have htm : t < m := by rw [ht]; exact Nat.mod_lt _ hm
          have HTK := mkHid ht
          obtain ⟨b2, o2, rfl, hb2, _⟩ := HX.out.at_ htm
          obtain ⟨b3, o3, h3, _, hc3, hx0, hx1⟩ := HBS.out.at_ htm
          injection h3 with h3
          injection h3 with h3 h4
          subst h3 h4
          have hs0 := HT.out.size
          have hb2d : b2 ≠ d := by omega
          have hvd : w2.heap.size ≠ d := by omega
          have hkp : k < (fillK l q k).length := by rw [fillK_len _ _ _ hk]; exact hlk
          have cd := cell_of_row wr d k _ _ _ HFI.out.blk
          obtain ⟨v0, hv0⟩ : ∃ v : Value, (((fillK l q k).map Go.Proofs.Ytpponofbkkikfaa.u8).toArray)[k]? = some v := ⟨_, Array.getElem?_eq_getElem (by simpa using hkp)⟩
          rw [hv0] at cd
          have fd := frozen_of_row wr d k _ _ HFI.out.blk
          generalize hX : l[t]?.getD 0 = X at *
          have HXX := mkHid hX
          have HKZ := mkHid (show ∀ Z : World, (∀ b, b ≠ d → Z.heap[b]? = wr.heap[b]?) → Z.cell? ⟨w2.heap.size, 0, none⟩ = some (.slice (some ⟨b, 0, none⟩) 1 1) ∧ Z.cell? ⟨b, 0, none⟩ = some (.slice (some ⟨d, 0, none⟩) 128 128) ∧ Z.cell? ⟨b2, o2 + t, none⟩ = some (.int .u8 X) from fun Z hZ => ⟨cell_of_row Z _ 0 _ _ _ ((hZ _ hvd).trans ((HFI.out.oth _ hvd).trans HVS.out)), cell_of_row Z _ 0 _ _ _ ((hZ _ hbd).trans ((HFI.out.oth _ hbd).trans HVB.out)), (World.cell?_of_block (w := W1) ((hZ b2 hb2d).trans (HFI.out.oth b2 hb2d))).trans hc3⟩)
          clear hX hc3 hkp hv0 ht c0 q0 q1
          have hw1 : IntKind.i64.wrap ((q : Int) * 128) = (q : Int) * 128 := by rw [IntKind.wrap_i64]; omega
          have hw2 : IntKind.i64.wrap ((q : Int) * 128 + (k : Int)) = (q : Int) * 128 + (k : Int) := by rw [IntKind.wrap_i64]; omega
          have hw3 : ((q : Int) * 128 + (k : Int)).tmod (m : Int) = (t : Int) := by rw [HTK.out, Int.natCast_emod, Int.tmod_eq_emod_of_nonneg (by omega)]; simp
          have hw4 : IntKind.i64.wrap (t : Int) = (t : Int) := by rw [IntKind.wrap_i64]; omega
          have hm0 : ¬ (m : Int) = 0 := by omega
          have hm1 : ¬ m = 0 := by omega
          go_wp2_with fail
          go_region_held3 (fun s => s.cell? ⟨w2.heap.size, 0, none⟩ = some (.slice (some ⟨b, 0, none⟩) 1 1) ∧ s.cell? ⟨b, 0, none⟩ = some (.slice (some ⟨d, 0, none⟩) 128 128) ∧ s.cell? ⟨b2, o2 + t, none⟩ = some (.int .u8 X)) (first | assumption | exact HKZ.out _ (fun _ _ => rfl) | exact HKZ.out _ (fun b hb => heap_setCell_other _ _ _ _ hb)) (fail)
          go_wp2_with fail
          go_roundw
          case rel => exact ⟨k + 1, by omega, by go_num, mkHid (HFI.out.step hlk (by rw [HLL.out, ← HTK.out, HXX.out]) rfl ⟨rfl, rfl, rfl⟩)⟩
          case measure => simp [intOf]; omega
        · have HKD := mkHid (show k = 128 ∨ (l = [] ∧ k ≤ 128) by
            by_cases e : k = 128
            · exact .inl e
            · exact .inr ⟨List.eq_nil_of_length_eq_zero (by rw [HLL.out]; omega), hk⟩)
          have hgd : g ≠ d := by omega
          have hrd : r ≠ d := by omega
          have hvd : w2.heap.size ≠ d := by omega
          have hvr : w2.heap.size ≠ r := by omega
          have qr : wr.heap[r]? = wO.heap[r]? := (HFI.out.oth r hrd).trans (HB1.out.block r hrlt)
          have y0 := (World.cell?_of_block (w := wO) (a := ⟨r, q * 2, none⟩) qr).trans q0
          have y1 := (World.cell?_of_block (w := wO) (a := ⟨r, q * 2 + 1, none⟩) qr).trans q1
          have yf : ∀ k, wr.frozen? ⟨r, k, none⟩ = false := by
            obtain ⟨cur, hcur⟩ := own_type HDR.out.row (b := r) rfl
            exact fun k => frozen_of_row wr r _ _ _ (qr.trans hcur)
          have HKY := mkHid (show ∀ Z : World, (∀ b, b ≠ r → Z.heap[b]? = wr.heap[b]?) → Z.cell? ⟨g, 0, none⟩ = some (.slice (some ⟨r, 0, none⟩) n c) ∧ Z.cell? ⟨w2.heap.size, 0, none⟩ = some (.slice (some ⟨b, 0, none⟩) 1 1) ∧ Z.cell? ⟨w2.heap.size, 1, none⟩ = some (.bool false) from fun Z hZ => ⟨(World.cell?_of_block (w := wO) ((hZ g (fun e => hrg e.symm)).trans ((HFI.out.oth g hgd).trans (HB1.out.block g hglt)))).trans c0, cell_of_row Z _ 0 _ _ _ ((hZ _ hvr).trans ((HFI.out.oth _ hvd).trans HVS.out)), cell_of_row Z _ 1 _ _ _ ((hZ _ hvr).trans ((HFI.out.oth _ hvd).trans HVS.out))⟩)
          have hfin : Turn F' wO ((wr.setCell ⟨r, q * 2, none⟩ (.slice (some ⟨b, 0, none⟩) 1 1)).setCell ⟨r, q * 2 + 1, none⟩ (.bool false)).drew ∧ ∃ cs', RDr ((wr.setCell ⟨r, q * 2, none⟩ (.slice (some ⟨b, 0, none⟩) 1 1)).setCell ⟨r, q * 2 + 1, none⟩ (.bool false)).drew (fun x => F' x ∨ x = b ∨ x = d) g (some ⟨r, 0, none⟩) n c cs' (fiN ss l (q + 1)) := by
            have hsz : wr.heap.size = w2.heap.size + 1 := HFI.out.size.trans hWs
            have hd1 := HDR.out.keep (w' := wr) (by omega) fun x hx => (HFI.out.oth x (by have := HDR.out.lt x hx; omega)).trans (HB1.out.block x (HDR.out.lt x hx))
            have hv : VB wr (fun x => F' x ∨ x = b ∨ x = d) (some ⟨b, 0, none⟩) (Sec.vals ⟨fillB l q, [], s.bad⟩) := VB.one (.inr (.inl rfl)) ((HFI.out.oth b hbd).trans HVB.out) ⟨Nat.le_refl _, by unfold maxLen; omega⟩ (HFI.out.gb0 HX.out.2 (.inr (.inr rfl)) HKD.out)
            have hp := hd1.put (F' := fun x => F' x ∨ x = b ∨ x = d) (s' := ⟨fillB l q, [], s.bad⟩) (c' := 1) rfl HS'.out (fun x hx => .inl hx) (fun x hx => by
              rcases hx with e | e | e
              · exact hd1.lt x e
              · omega
              · omega) hv rfl ⟨Nat.le_refl _, by unfold maxLen; omega⟩ (by simp)
            have hql : q < (fiN ss l q).length := (List.getElem?_eq_some_iff.1 HS'.out).1
            have hb := hp.bad (i := q) (on := false) rfl (List.getElem?_set_self hql)
            rw [List.set_set] at hb
            have hfs : ({ (⟨fillB l q, [], s.bad⟩ : Sec) with bad := false } : Sec) = fillS l q := rfl
            rw [hfs, fiN_set _ _ (by rw [HLEN.out]; exact hlt)] at hb
            refine ⟨⟨HFI.out.os.trans HB1.out.os, HFI.out.tape.trans HB1.out.tape, HFI.out.output.trans HB1.out.output, by simp [World.setCell, World.drew]; omega, fun x hx hf => ?_⟩, _, hb.keep (Nat.le_refl _) fun _ _ => rfl⟩
            have hxr : x ≠ r := fun e => hf (e ▸ HFR.out)
            exact (heap_setCell_other _ _ _ _ hxr).trans ((heap_setCell_other _ _ _ _ hxr).trans ((HFI.out.oth x (by omega)).trans (HB1.out.block x hx)))
          have HFIN := mkHid hfin
          clear hfin qr q0 q1 c0
          by_cases hk8 : k < 128
          · obtain rfl : m = 0 := by omega
            go_wp2_with fail
            go_region_held3 (fun s => s.cell? ⟨g, 0, none⟩ = some (.slice (some ⟨r, 0, none⟩) n c) ∧ s.cell? ⟨w2.heap.size, 0, none⟩ = some (.slice (some ⟨b, 0, none⟩) 1 1) ∧ s.cell? ⟨w2.heap.size, 1, none⟩ = some (.bool false)) (first | assumption | exact HKY.out _ (fun _ _ => rfl) | exact HKY.out _ (fun b hb => (heap_setCell_other _ _ _ _ hb).trans (heap_setCell_other _ _ _ _ hb))) (fail)
            go_wp2_with fail
            go_roundw
            case rel =>
              obtain ⟨k1, cs', k2⟩ := HFIN.out
              refine ⟨q + 1, fun x => F' x ∨ x = b ∨ x = d, cs', by omega, by go_num, mkHid (HT.out.trans k1 HF.out), mkHid k2, mkHid fun x hx => ?_⟩
              have := HT.out.size
              rcases hx with e | e | e
              · exact HF.out x e
              · exact .inr (by omega)
              · exact .inr (by omega)
            case measure => simp [intOf]; omega
          · obtain rfl : k = 128 := by omega
            go_wp2_with fail
            go_region_held3 (fun s => s.cell? ⟨g, 0, none⟩ = some (.slice (some ⟨r, 0, none⟩) n c) ∧ s.cell? ⟨w2.heap.size, 0, none⟩ = some (.slice (some ⟨b, 0, none⟩) 1 1) ∧ s.cell? ⟨w2.heap.size, 1, none⟩ = some (.bool false)) (first | assumption | exact HKY.out _ (fun _ _ => rfl) | exact HKY.out _ (fun b hb => (heap_setCell_other _ _ _ _ hb).trans (heap_setCell_other _ _ _ _ hb))) (fail)
            go_wp2_with fail
            go_roundw
            case rel =>
              obtain ⟨k1, cs', k2⟩ := HFIN.out
              refine ⟨q + 1, fun x => F' x ∨ x = b ∨ x = d, cs', by omega, by go_num, mkHid (HT.out.trans k1 HF.out), mkHid k2, mkHid fun x hx => ?_⟩
              have := HT.out.size
              rcases hx with e | e | e
              · exact HF.out x e
              · exact .inr (by omega)
              · exact .inr (by omega)
            case measure => simp [intOf]; omega
    · obtain rfl : q = n := by omega
      go_wp2_with fail
      go_end0
      have hd := HDR.out
      rw [← HLEN.out, fiN_all] at hd
      exact ⟨rfl, HT.out, F', ⟨_, _, _, _, hd⟩, HF.out⟩

end Go.Proofs.Ytpponofbkkikfaa
