/- Disk.Fill by contract. -/
import Derived.Test.YtpoeneabhoajaaaDoorDkI4
namespace Go.Proofs.YtpoeneabhoajaaaDoor
open Go.RowKit

/-- A row known whole that is the call's own: what its block holds. -/
theorem own_block {w : World} {B : Nat} {e : TypeId} {s n c : Nat} {A : Option Addr} {xs : List Value} (h : w.ownsRow B e s (.slice A n c) n xs) (hn : 0 < n) :
    ∃ g cur, A = some ⟨g, 0, none⟩ ∧ B ≤ g ∧ g < w.heap.size ∧ w.heap[g]? = some (.cells (List.toArray cur) e (0, 0)) ∧ n ≤ c ∧ c ≤ maxLen ∧ cur.length = c * s ∧ cur.take (n * s) = xs := by
  rcases h.2 with ⟨h0, _⟩ | ⟨g, cap, cur, h0, h1, h2, h3, h4, h5, h6⟩
  · injection h0 with _ h0 _
    omega
  · injection h0 with a1 a2 a3
    subst a1 a3
    exact ⟨g, cur.toList, rfl, h1, (Array.getElem?_eq_some_iff.1 h2).1, by simpa using h2, h3, h4, by simpa using h5, h6⟩
/-- The bytes that sector i is filled with. -/
def fillB (b : List Int) (i : Nat) : List Int := (List.range 128).map fun k => b[(i * 128 + k) % b.length]?.getD 0
def fillS (b : List Int) (i : Nat) : Sec := ⟨fillB b i, [], false⟩
def filled (ss : List Sec) (b : List Int) : List Sec := (List.range ss.length).map (fillS b)
/-- The first k are filled. -/
def fiN (ss : List Sec) (b : List Int) (k : Nat) : List Sec := (List.range k).map (fillS b) ++ ss.drop k
/-- The first k bytes of sector i are filled. -/
def fillK (b : List Int) (i k : Nat) : List Int := (fillB b i).take k ++ zeros.drop k
theorem fillB_len (b : List Int) (i : Nat) : (fillB b i).length = 128 := by simp [fillB]
theorem fillB_get (b : List Int) (i : Nat) {k : Nat} (hk : k < 128) : (fillB b i)[k]? = some (b[(i * 128 + k) % b.length]?.getD 0) := by
  unfold fillB
  rw [List.getElem?_map, List.getElem?_range hk]
  rfl
theorem fillB_ok {b : List Int} (h : okBytes b) (i : Nat) : okBytes (fillB b i) := fun x hx => by
  obtain ⟨k, _, rfl⟩ := List.mem_map.1 hx
  exact h.get _
theorem fillB_nil (i : Nat) : fillB [] i = zeros := by
  unfold fillB zeros
  rw [List.eq_replicate_iff]
  exact ⟨by simp, fun x hx => by obtain ⟨k, _, rfl⟩ := List.mem_map.1 hx; rfl⟩
theorem fillB_zero (i : Nat) : fillB [0] i = fillB [] i := by
  rw [fillB_nil]
  unfold fillB zeros
  rw [List.eq_replicate_iff]
  refine ⟨by simp, fun x hx => ?_⟩
  obtain ⟨k, _, rfl⟩ := List.mem_map.1 hx
  rw [List.length_singleton, Nat.mod_one]
  rfl
theorem fillK_len (b : List Int) (i k : Nat) (hk : k ≤ 128) : (fillK b i k).length = 128 := by
  unfold fillK
  rw [List.length_append, List.length_take, List.length_drop, fillB_len, zeros_len]
  omega
theorem fillK_zero (b : List Int) (i : Nat) : fillK b i 0 = zeros := by simp [fillK]
theorem fillK_all (b : List Int) (i : Nat) : fillK b i 128 = fillB b i := by
  unfold fillK
  rw [List.take_of_length_le (by rw [fillB_len]; omega), List.drop_of_length_le (by rw [zeros_len]; omega), List.append_nil]
theorem fillK_set (b : List Int) (i : Nat) {k : Nat} (hk : k < 128) : (fillK b i k).set k (b[(i * 128 + k) % b.length]?.getD 0) = fillK b i (k + 1) := by
  unfold fillK
  have hl : ((fillB b i).take k).length = k := by rw [List.length_take, fillB_len]; omega
  rw [List.set_append_right _ _ (by omega), hl, Nat.sub_self, List.drop_eq_getElem_cons (by rw [zeros_len]; exact hk), List.set_cons_zero, List.take_add_one, fillB_get b i hk, Option.toList_some, List.append_assoc]
  rfl
theorem fiN_len (ss : List Sec) (b : List Int) {k : Nat} (hk : k ≤ ss.length) : (fiN ss b k).length = ss.length := by
  unfold fiN
  simp
  omega
theorem fiN_zero (ss : List Sec) (b : List Int) : fiN ss b 0 = ss := by simp [fiN]
theorem fiN_all (ss : List Sec) (b : List Int) : fiN ss b ss.length = filled ss b := by simp [fiN, filled]
theorem fiN_set (ss : List Sec) (b : List Int) {k : Nat} (hk : k < ss.length) : (fiN ss b k).set k (fillS b k) = fiN ss b (k + 1) := by
  unfold fiN
  have hl : ((List.range k).map (fillS b)).length = k := by simp
  rw [List.set_append_right _ _ (by omega), hl, Nat.sub_self, List.drop_eq_getElem_cons hk, List.set_cons_zero, List.range_succ, List.map_append, List.append_assoc]
  rfl
theorem filled_zero (ss : List Sec) : filled ss [0] = filled ss [] := by
  unfold filled fillS
  simp only [fillB_zero]
theorem mod_step (a m : Nat) : (a % m + 1) % m = (a + 1) % m := by rw [Nat.mod_add_mod]
theorem cast_mod (t m : Nat) : ((t : Int) + 1) % (m : Int) = (((t + 1) % m : Nat) : Int) := by rw [Int.natCast_emod]; rfl

/-- Block d holds the first k bytes of sector i; all else is as in W. -/
structure FI (W wr : World) (d : Nat) (b : List Int) (i k : Nat) : Prop where
  blk : wr.heap[d]? = some (.cells ((fillK b i k).map u8).toArray 5 (0, 0))
  oth : ∀ p, p ≠ d → wr.heap[p]? = W.heap[p]?
  os : wr.os = W.os
  tape : wr.tape = W.tape
  output : wr.output = W.output
  size : wr.heap.size = W.heap.size
theorem FI.step {W wr w2 : World} {d : Nat} {b : List Int} {i k : Nat} (h : FI W wr d b i k) (hk : k < 128) {x : Int} (hx : x = b[(i * 128 + k) % b.length]?.getD 0) (h2 : w2.heap = (wr.setCell ⟨d, k, none⟩ (.int .u8 x)).heap) (ho : w2.os = wr.os ∧ w2.tape = wr.tape ∧ w2.output = wr.output) : FI W w2 d b i (k + 1) := by
  subst hx
  refine ⟨?_, fun p hp => ?_, ho.1.trans h.os, ho.2.1.trans h.tape, ho.2.2.trans h.output, ?_⟩
  · rw [h2, heap_setCell_same _ d k _ _ _ h.blk, ← fillK_set b i hk, List.map_set, List.setIfInBounds_toArray]
    rfl
  · rw [h2]
    exact (heap_setCell_other _ _ _ _ hp).trans (h.oth p hp)
  · rw [h2, set_size]
    exact h.size
theorem FI.gb {W wr : World} {d : Nat} {b : List Int} {i : Nat} {F : Nat → Prop} (h : FI W wr d b i 128) (hb : okBytes b) (hF : F d) : GB wr F (some ⟨d, 0, none⟩) (fillB b i) := by
  refine ⟨fillB_len b i, fillB_ok hb i, d, 0, _, (0, 0), rfl, hF, h.blk, fun j hj => ?_⟩
  rw [fillK_all, Nat.zero_add, List.getElem?_toArray, List.getElem?_map, List.getElem?_eq_getElem (by rw [fillB_len]; exact hj)]
  rfl
/-- A slice of bytes that lies outside of what may turn. -/
theorem BS.turn {w w' : World} {F : Nat → Prop} {n : Nat} {a : Option Addr} {l : List Int} (h : BS w w.heap.size a n l) (ht : Turn F w w') (ho : ∀ ad : Addr, a = some ad → ¬ F ad.block) : BS w' w'.heap.size a n l :=
  ⟨⟨h.1.1, fun j hj => by
    obtain ⟨b, o, ha, hb, hc⟩ := h.1.2 j hj
    exact ⟨b, o, ha, Nat.lt_of_lt_of_le hb ht.size, (World.cell?_of_block (w := w) (ht.block b hb (ho _ ha))).trans hc⟩⟩, h.2⟩

set_option maxRecDepth 20000 in
set_option maxHeartbeats 4000000 in
theorem fill_any (F : Nat → Prop) (g : Nat) (ss : List Sec) (a : Option Addr) (m k : Nat) (l : List Int) (w : World) (h : DK w F g ss) (hx : BS w w.heap.size a m l) (hout : ∀ ad : Addr, a = some ad → ¬ F ad.block) (hk : m ≤ k ∧ k ≤ 9223372036854775807) (hm2 : m ≤ 140737488355328) :
    Calls Tryd.prog 69 #[.pointer (some ⟨g, 0, none⟩), .slice a m k] w fun e w' => e = .returned (.tuple #[]) ∧ Turn F w w' ∧ ∃ F', DK w' F' g (filled ss l) ∧ ∀ b, F' b → F b ∨ w.heap.size ≤ b := by
  obtain ⟨A, n, c, ps, qs, h⟩ := h
  have hnl := h.nl
  have hlen := h.len
  obtain ⟨hc1, hc2⟩ := own_cap h.row
  have HD := mkHid h
  have HX := mkHid hx
  have HO := mkHid hout
  have HLEN := mkHid hlen
  obtain ⟨hk1, hk2⟩ := hk
  clear h hx hout hlen
  go_enter Tryd.func69, Tryd.ntmps69
  go_upto_if 10 with (fail)
  go_cut [1] (fun b W => ∃ (a : Option Addr) (m k : Nat) (l' : List Int), b = .slice a m k ∧ Hid (BS W W.heap.size a m l') ∧ Hid (∀ ad : Addr, a = some ad → ¬ F ad.block) ∧ 0 < m ∧ m ≤ k ∧ k ≤ 9223372036854775807 ∧ m ≤ 140737488355328 ∧ Hid (filled ss l' = filled ss l) ∧ Hid (Below w.heap.size w W))
  case first =>
    by_cases hm : m = 0
    · have HM := mkHid hm
      obtain rfl : l = [] := List.eq_nil_of_length_eq_zero (by rw [HX.out.len, hm])
      have hmb : ((m : Int) == 0) = true := by simp [hm]
      go_wp2_with fail
      go_meet
      case rel =>
        refine ⟨_, 1, 1, [0], rfl, mkHid ⟨SL.of_block (heap_alloc_new w _) rfl (by simp), fun x hx => by obtain rfl := List.mem_singleton.1 hx; omega⟩, mkHid (fun ad had hf => ?_), by omega, by omega, by omega, by omega, mkHid (filled_zero ss), mkHid ((Below.refl _ _).alloc (Nat.le_refl _) _)⟩
        injection had with had
        have := HD.out.lt _ hf
        rw [← had] at this
        simp at this
    · have hmb : ((m : Int) == 0) = false := by simp; omega
      go_wp2_with fail
      go_meet
      case rel => exact ⟨a, m, k, l, rfl, HX, HO, by omega, hk1, hk2, hm2, mkHid rfl, mkHid (Below.refl _ _)⟩
  case rest =>
  obtain ⟨W0, rfl⟩ : ∃ W0 : World, W0 = wc := ⟨_, rfl⟩
  obtain ⟨a, m, k0, l', rfl, HX, HO, hm, hk1, hk2, hm2, HFL, HBW⟩ := hcut
  have HD0 := mkHid (HD.out.below HBW.out)
  have c0 := cell_of_row W0 g 0 _ _ _ HD0.out.blk
  simp at c0
  clear HD
  go_wp2_with fail
  go_loopw [17, 4] (fun i at_ wr => ∃ (q t : Nat) (F' : Nat → Prop) (qs : List (Option Nat)), q ≤ n ∧ i = .int .i64 q ∧ at_ = .int .i64 t ∧ t < m ∧ Hid (t = q * 128 % m) ∧ Hid (Turn F W0 wr) ∧ Hid (DKr wr F' g A n c ps qs (fiN ss l' q)) ∧ Hid (∀ b, F' b → F b ∨ W0.heap.size ≤ b)) (fun i _ _ => n - (intOf i).toNat)
  case atStart => exact ⟨0, 0, F, qs, Nat.zero_le _, rfl, rfl, hm, mkHid (by simp), mkHid (Turn.of_below (Below.refl _ _)), mkHid (by rw [fiN_zero]; exact HD0.out), mkHid fun b hb => .inl hb⟩
  case round =>
    clear c0 HD0
    obtain ⟨q, t, F', qs, hq, rfl, rfl, ht, HTQ, HT, HDR, HF⟩ := hrel
    by_cases hlt : q < n
    · obtain ⟨r, p, qq, s, rfl, hp, hp1, hq1, hs', hso⟩ := HDR.out.at_ hlt
      have HP1 := mkHid hp1
      obtain ⟨ga, gc, wa, wn, wc, vs, h1, h2, _⟩ := hso
      have HH1 := mkHid h1
      have HF2 := mkHid h2
      have hplt := HDR.out.lt p h2
      clear hp1 hq1 hs' h1 h2
      go_wp2_with (at_make; refine wpList_make128 wr rfl rfl wr.heap.size (Nat.le_refl _) ?_; intro wm hm1 hm2; have hpm := (hm2.block p hplt (by simp)).trans HH1.out; obtain ⟨e0, e1, e2⟩ := facts3 hpm; have f := (fun k => frozen_of_row wm p k _ _ hpm); have HM1 := mkHid hm1; have HM2 := mkHid hm2; have HPM := mkHid hpm; have hszm : wr.heap.size ≤ wm.heap.size := hm2.size; clear hm1 hm2 hpm)
      obtain ⟨W1, hW1⟩ : ∃ W1, ((wm.setCell ⟨p, 0, none⟩ (.slice (some ⟨wr.heap.size, 0, none⟩) 128 128)).setCell ⟨p, 1, none⟩ (.slice none 0 0)).setCell ⟨p, 2, none⟩ (.bool false) = W1 := ⟨_, rfl⟩
      obtain ⟨r2, cur, hr, hr0, hr1, hr2, _, _, hr3, hr4⟩ := own_block HM1.out (by omega)
      injection hr with hr
      injection hr with hr
      rw [Nat.mul_one] at hr3 hr4
      rw [List.take_of_length_le (by omega)] at hr4
      subst hr4 hr
      have hoth : ∀ b, b ≠ p → W1.heap[b]? = wm.heap[b]? := fun b hb => by rw [← hW1]; exact (heap_setCell_other _ _ _ _ hb).trans ((heap_setCell_other _ _ _ _ hb).trans (heap_setCell_other _ _ _ _ hb))
      have hWp : W1.heap[p]? = some (.cells #[.slice (some ⟨wr.heap.size, 0, none⟩) 128 128, .slice none 0 0, .bool false] 114 (0, 0)) := by
        rw [← hW1]
        exact heap_setCell_same _ _ 2 _ _ _ (heap_setCell_same _ _ 1 _ _ _ (heap_setCell_same _ _ 0 _ _ _ HPM.out))
      have hWs : W1.heap.size = wm.heap.size := by rw [← hW1, set_size, set_size, set_size]
      have hFI : FI W1 W1 wr.heap.size l' q 0 := ⟨by rw [fillK_zero, hoth _ (by omega)]; exact hr2, fun _ _ => rfl, rfl, rfl, rfl, rfl⟩
      have hTW : Turn F' wr W1 := ⟨by rw [← hW1]; exact HM2.out.os, by rw [← hW1]; exact HM2.out.tape, by rw [← hW1]; exact HM2.out.output, by omega, fun k hk hf => (hoth k fun e => hf (e ▸ HF2.out)).trans (HM2.out.block k hk (by simp))⟩
      have HFI := mkHid hFI
      have HTW := mkHid hTW
      have HWP := mkHid hWp
      have HWS := mkHid hWs
      have HOT := mkHid (show ∀ b, b < wr.heap.size → b ≠ p → W1.heap[b]? = wr.heap[b]? from fun b hb hne => (hoth b hne).trans (HM2.out.block b hb (by simp)))
      have hW0 := cell_of_row W1 p 0 _ _ _ hWp
      have hmd : wr.heap.size < wm.heap.size := hr1
      rw [hW1]
      clear hW1 hFI hTW hWp hWs hoth e0 e1 e2 f hr0 hr1 hr2 hr3 HPM HM1 HM2
      simp at hW0
      have HBS := mkHid ((HX.out.turn HT.out HO.out).turn HTW.out fun ad had hf => (HF.out _ hf).elim (HO.out ad had) fun e => by
        obtain ⟨b', o', ha', hb', _⟩ := HX.out.at_ hm
        rw [had] at ha'
        injection ha' with ha'
        subst ha'
        simp only at e
        omega)
      have hll : l'.length = m := HX.out.len
      have HLL := mkHid hll
      clear hll
      go_wp2_with fail
      obtain ⟨wO, rfl⟩ : ∃ wO : World, wO = wr := ⟨_, rfl⟩
      go_loopw [30, 4] (fun kk at_ w2 => ∃ (k t : Nat), k ≤ 128 ∧ kk = .int .i64 k ∧ at_ = .int .i64 t ∧ t < m ∧ Hid (t = (q * 128 + k) % m) ∧ Hid (FI W1 w2 wO.heap.size l' q k)) (fun kk _ _ => 128 - (intOf kk).toNat)
      case atStart => exact ⟨0, t, Nat.zero_le _, rfl, rfl, ht, mkHid (by rw [Nat.add_zero]; exact HTQ.out), HFI⟩
      case round =>
        clear hW0 HFI HTQ ht
        obtain ⟨k, t, hk, rfl, rfl, ht, HTK, HFI⟩ := hrel
        by_cases hlk : k < 128
        · obtain ⟨b2, o2, rfl, hb2, _⟩ := HX.out.at_ ht
          obtain ⟨b3, o3, h3, _, hc3, hx0, hx1⟩ := HBS.out.at_ ht
          injection h3 with h3
          injection h3 with h3 h4
          subst h3 h4
          have hs0 := HT.out.size
          have hb2d : b2 ≠ wO.heap.size := by omega
          have hpd : p ≠ wO.heap.size := by omega
          have hkp : k < (fillK l' q k).length := by rw [fillK_len _ _ _ hk]; exact hlk
          have cd := cell_of_row wr wO.heap.size k _ _ _ HFI.out.blk
          obtain ⟨v0, hv0⟩ : ∃ v : Value, (((fillK l' q k).map Go.Proofs.YtpoeneabhoajaaaDoor.u8).toArray)[k]? = some v := ⟨_, Array.getElem?_eq_getElem (by simpa using hkp)⟩
          rw [hv0] at cd
          have fd := frozen_of_row wr wO.heap.size k _ _ HFI.out.blk
          generalize hX : l'[t]?.getD 0 = X at *
          have HXX := mkHid hX
          have HKZ := mkHid (show ∀ Z : World, (∀ b, b ≠ wO.heap.size → Z.heap[b]? = wr.heap[b]?) → Z.cell? ⟨p, 0, none⟩ = some (.slice (some ⟨wO.heap.size, 0, none⟩) 128 128) ∧ Z.cell? ⟨b2, o2 + t, none⟩ = some (.int .u8 X) from fun Z hZ => ⟨cell_of_row Z p 0 _ _ _ ((hZ p hpd).trans ((HFI.out.oth p hpd).trans HWP.out)), (World.cell?_of_block (w := W1) ((hZ b2 hb2d).trans (HFI.out.oth b2 hb2d))).trans hc3⟩)
          clear hX hc3 hkp hv0
          go_wp2_with fail
          go_region_held3 (fun s => s.cell? ⟨p, 0, none⟩ = some (.slice (some ⟨wO.heap.size, 0, none⟩) 128 128) ∧ s.cell? ⟨b2, o2 + t, none⟩ = some (.int .u8 X)) (first | assumption | exact HKZ.out _ (fun _ _ => rfl) | exact HKZ.out _ (fun b hb => heap_setCell_other _ _ _ _ hb)) (fail)
          go_wp2_with fail
          go_roundw
          case rel => exact ⟨k + 1, (t + 1) % m, by omega, by go_num, by rw [← cast_mod], Nat.mod_lt _ hm, mkHid (by rw [HTK.out, mod_step]; rfl), mkHid (HFI.out.step hlk (by rw [HLL.out, ← HTK.out, HXX.out]) rfl ⟨rfl, rfl, rfl⟩)⟩
          case measure => simp [intOf]; omega
        · obtain rfl : k = 128 := by omega
          have hpd : p ≠ wO.heap.size := by omega
          have HSEC := mkHid (show SecOk wr (fun b => F' b ∨ b = wO.heap.size) p none (fillS l' q) from ⟨some ⟨wO.heap.size, 0, none⟩, 128, none, 0, 0, [], (HFI.out.oth p hpd).trans HWP.out, .inl HF2.out, ⟨Nat.le_refl _, by unfold maxLen; omega⟩, HFI.out.gb HX.out.2 (.inr rfl), World.ownsRow_nil _ _ _ _, rfl, (fun k hk => by cases hk), rfl, by omega, fun i l hl => by simp [fillS] at hl⟩)
          go_wp2_with fail
          go_roundw
          case rel =>
            have hsw : W1.heap.size ≤ wr.heap.size := Nat.le_of_eq HFI.out.size.symm
            have hs1 := HTW.out.size
            have hs2 := HWS.out
            have hset := HDR.out.set (M := fun b => b = p) (F' := fun b => F' b ∨ b = wO.heap.size) HP1.out HSEC.out (fun b hb hne => (HFI.out.oth b (by have := HDR.out.lt b hb; omega)).trans (HOT.out b (HDR.out.lt b hb) hne)) (fun b hb => .inl hb) (fun b hb => .inl hb) (fun k hk => by cases hk) (fun b hb => by
              rcases hb with e | e
              · have := HDR.out.lt b e; omega
              · omega)
            rw [fiN_set _ _ (by rw [HLEN.out]; exact hlt)] at hset
            refine ⟨q + 1, t, _, _, by omega, by go_num, rfl, ht, mkHid (by rw [HTK.out]; congr 1; omega), mkHid (HT.out.trans (Turn.mk (F := F') (HFI.out.os.trans HTW.out.os) (HFI.out.tape.trans HTW.out.tape) (HFI.out.output.trans HTW.out.output) (by omega) fun k hk hf => (HFI.out.oth k (by omega)).trans (HTW.out.block k hk hf)) HF.out), mkHid hset, mkHid fun b hb => ?_⟩
            rcases hb with e | e
            · exact HF.out b e
            · exact .inr (by have := HT.out.size; omega)
          case measure => simp [intOf]; omega
    · obtain rfl : q = n := by omega
      go_wp2_with fail
      go_end0
      have hd := HDR.out
      rw [← HLEN.out, fiN_all, HFL.out] at hd
      exact ⟨rfl, (Turn.of_below (F := F) HBW.out).trans HT.out fun b hb => .inl hb, F', ⟨_, _, _, _, _, hd⟩, fun b hb => (HF.out b hb).imp id fun e => Nat.le_trans HBW.out.size e⟩

end Go.Proofs.YtpoeneabhoajaaaDoor
