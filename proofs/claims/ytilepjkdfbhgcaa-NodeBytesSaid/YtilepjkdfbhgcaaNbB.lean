/- Node.Bytes by contract. -/
import Derived.Test.YtilepjkdfbhgcaaNbA
namespace Go.Proofs.Ytilepjkdfbhgcaa
open Go.RowKit Go.Shelf

theorem newPacker_at (w : World) : Calls Try.prog 46 #[] w fun e w' => ∃ g, e = .returned (.pointer (some ⟨g, 0, none⟩)) ∧ PK w' g g none 0 0 [] false ∧ w.heap.size ≤ g ∧ Below w.heap.size w w' :=
  (newPacker_any w).mono fun _ _ ⟨h1, h2, h3⟩ => ⟨w.heap.size, h1, h2, Nat.le_refl _, h3⟩

set_option maxRecDepth 20000 in
set_option maxHeartbeats 400000 in
theorem pByteL_own (g base : Nat) (A : Option Addr) (n C : Nat) (bs : List Int) (bad : Bool) (k m cn : Nat) (l : List Int) (fr : Nat × Nat) (w : World) (hp : PK w g base A n C bs bad) (hnum : w.heap[k]? = some (.cells (l.map i64v).toArray 3 fr)) (hl : l.length = m) (hI : ∀ x ∈ l, I64 x) (hsz : n + 8 * m ≤ 1000000000000) :
    Calls Try.prog 47 #[.pointer (some ⟨g, 0, none⟩), .slice (some ⟨k, 0, none⟩) m cn] w fun e w' => e = .returned (.pointer (some ⟨g, 0, none⟩)) ∧
      (∃ A' C', PK w' g base A' (n + 1 * m) C' (bs ++ packs 1 l) (bad || !l.all (fits 1)) ∧ PB base w w' g (Value.slice A n C).ownBlock (Value.slice A' (n + 1 * m) C').ownBlock) := by
  have HL := mkHid hp.len
  have HLL := mkHid hl
  have H := mkHid (put1_own g base A n C bs bad k m cn l fr w hp hnum hl hI hsz _ rfl)
  clear hp hnum hl hI
  go_enter Try.func47, Try.ntmps47
  go_wp2_with fail
  refine H.out.mono ?_
  rintro e w1 ⟨rfl, A', n', C', hp1, hb1⟩
  have hn' : n' = n + 1 * m := by have h1 := hp1.len; have h2 := HL.out; rw [List.length_append, packs_len, h2, HLL.out] at h1; omega
  subst hn'
  have HP := mkHid hp1
  have HB := mkHid hb1
  clear hp1 hb1
  go_wp2_with fail
  go_ret
  exact ⟨rfl, A', C', HP.out, HB.out⟩

set_option maxRecDepth 20000 in
set_option maxHeartbeats 400000 in
theorem pLongL_own (g base : Nat) (A : Option Addr) (n C : Nat) (bs : List Int) (bad : Bool) (k m cn : Nat) (l : List Int) (fr : Nat × Nat) (w : World) (hp : PK w g base A n C bs bad) (hnum : w.heap[k]? = some (.cells (l.map i64v).toArray 3 fr)) (hl : l.length = m) (hI : ∀ x ∈ l, I64 x) (hsz : n + 8 * m ≤ 1000000000000) :
    Calls Try.prog 48 #[.pointer (some ⟨g, 0, none⟩), .slice (some ⟨k, 0, none⟩) m cn] w fun e w' => e = .returned (.pointer (some ⟨g, 0, none⟩)) ∧
      (∃ A' C', PK w' g base A' (n + 8 * m) C' (bs ++ packs 8 l) (bad || !l.all (fits 8)) ∧ PB base w w' g (Value.slice A n C).ownBlock (Value.slice A' (n + 8 * m) C').ownBlock) := by
  have HL := mkHid hp.len
  have HLL := mkHid hl
  have H := mkHid (put8_own g base A n C bs bad k m cn l fr w hp hnum hl hI hsz _ rfl)
  clear hp hnum hl hI
  go_enter Try.func48, Try.ntmps48
  go_wp2_with fail
  refine H.out.mono ?_
  rintro e w1 ⟨rfl, A', n', C', hp1, hb1⟩
  have hn' : n' = n + 8 * m := by have h1 := hp1.len; have h2 := HL.out; rw [List.length_append, packs_len, h2, HLL.out] at h1; omega
  subst hn'
  have HP := mkHid hp1
  have HB := mkHid hb1
  clear hp1 hb1
  go_wp2_with fail
  go_ret
  exact ⟨rfl, A', C', HP.out, HB.out⟩

/-- What a packer's call leaves: its own bytes' blocks alone turn. -/
def KeepT (w w' : World) : Prop := ∀ (q : Nat) (cs : Array Value) (t : TypeId) (fr : Nat × Nat), t ≠ 5 → t ≠ 100 → w.heap[q]? = some (.cells cs t fr) → w'.heap[q]? = some (.cells cs t fr)
theorem PB.keepT {w w' : World} {g base n C : Nat} {A : Option Addr} {bs : List Int} {bad : Bool} {r' : Option Nat} (h : PB base w w' g (Value.slice A n C).ownBlock r') (hp : PK w g base A n C bs bad) : KeepT w w' := fun q cs t fr h1 h2 hq => by
  refine (h.keep q (Array.getElem?_eq_some_iff.1 hq).1 (fun e => ?_) (fun e => ?_)).trans hq
  · subst e
    rw [hp.blk] at hq
    injection hq with hq
    injection hq with _ ht
    exact h2 ht.symm
  · rcases hp.own.2 with ⟨h3, _⟩ | ⟨g', cap, cur, h3, _, hg', _⟩
    · rw [h3] at e; simp [Value.ownBlock] at e
    · rw [h3] at e
      have e1 : q = g' := by simpa [Value.ownBlock] using e
      subst e1
      rw [hq] at hg'
      injection hg' with hg'
      injection hg' with _ ht
      exact h1 ht
theorem packs_two (s : Nat) (x y : Int) : packs s [x, y] = nb s x ++ nb s y := by simp [packs]
theorem fits1 {x : Int} (h0 : 0 ≤ x) (h1 : x < 256) : fits 1 x = true := by
  unfold fits
  rw [if_neg (by decide)]
  exact decide_eq_true ⟨h0, by rw [show (256 : Int) ^ 1 = 256 from rfl]; exact h1⟩

set_option maxRecDepth 20000 in
theorem nbytes_no (lv : Int) (a a' : Option Addr) (n m c c' : Nat) (ks vs : List Int) (w : World) (hk : IS w w.heap.size a n ks) (hv : IS w w.heap.size a' m vs) (hr : rightN lv ks vs = false) :
    Calls Try.prog 28 #[.agg #[.int .i64 lv, .slice a n c, .slice a' m c']] w fun e w' => e = .returned (.tuple #[.slice none 0 0, codeV 70]) ∧ Below w.heap.size w w' := by
  have hal : Below w.heap.size w (w.alloc (.cells #[.int .i64 lv, .slice a n c, .slice a' m c'] 32)) := (Below.refl _ _).alloc (Nat.le_refl _) _
  have hck := ncheck_any lv a a' n m c c' ks vs _ ((hk.below hal).more hal.size) ((hv.below hal).more hal.size)
  rw [hr] at hck
  have HK := mkHid hck
  have HAL := mkHid hal
  clear hk hv hr hal hck
  go_enter Try.func28, Try.ntmps28
  go_wp2_with fail
  refine HK.out.mono ?_
  rintro e w1 ⟨rfl, hb1⟩
  rw [show nodeE false = codeV 70 from rfl]
  go_wp2_with fail
  go_ret2
  exact ⟨rfl, HAL.out.trans (hb1.mono HAL.out.size)⟩

set_option maxRecDepth 20000 in
set_option maxHeartbeats 4000000 in
theorem nbytes_yes (lv : Int) (a a' : Option Addr) (n m c c' : Nat) (ks vs : List Int) (w : World) (hk : IS w w.heap.size a n ks) (hv : IS w w.heap.size a' m vs) (hr : rightN lv ks vs = true) :
    Calls Try.prog 28 #[.agg #[.int .i64 lv, .slice a n c, .slice a' m c']] w fun e w' => ∃ A C, e = .returned (.tuple #[.slice A 128 C, .nilIface]) ∧ w'.ownsRow w.heap.size 5 1 (.slice A 128 C) 128 ((frameOf 2 (nodeB lv (pairsOf ks vs))).map u8) ∧ Below w.heap.size w w' := by
  obtain ⟨hlv0, hlv1, hkv, hk1, hk7, _, hfit⟩ := rightN_ok hr
  have hkl := hk.len
  have hvl := hv.len
  obtain rfl : n = m := by omega
  obtain ⟨xs, hxs⟩ : ∃ xs, pairsOf ks vs = xs := ⟨_, rfl⟩
  have hxl : xs.length = n := by rw [← hxs]; unfold pairsOf; rw [List.length_zip]; omega
  have hn7 : n ≤ 7 := by omega
  rw [hxs] at hfit ⊢
  obtain ⟨W, hW⟩ : ∃ W, w.alloc (.cells #[.int .i64 lv, .slice a n c, .slice a' n c'] 32) = W := ⟨_, rfl⟩
  have hal : Below w.heap.size w W := by rw [← hW]; exact (Below.refl _ _).alloc (Nat.le_refl _) _
  have hsz : W.heap.size = w.heap.size + 1 := by rw [← hW]; simp
  have hbx : W.heap[w.heap.size]? = some (.cells #[.int .i64 lv, .slice a n c, .slice a' n c'] 32 (0, 0)) := by rw [← hW]; exact heap_alloc_new _ _
  have HCE := mkHid (show ∀ Z : World, Z.heap[w.heap.size]? = some (.cells #[.int .i64 lv, .slice a n c, .slice a' n c'] 32 (0, 0)) → Z.cell? ⟨w.heap.size, 0, none⟩ = some (.int .i64 lv) ∧ Z.cell? ⟨w.heap.size, 1, none⟩ = some (.slice a n c) ∧ Z.cell? ⟨w.heap.size, 2, none⟩ = some (.slice a' n c') from fun Z h => ⟨cell_of_row Z _ 0 _ _ _ h, cell_of_row Z _ 1 _ _ _ h, cell_of_row Z _ 2 _ _ _ h⟩)
  obtain ⟨y0, y1, y2⟩ := HCE.out W hbx
  have hck := ncheck_any lv a a' n n c c' ks vs W ((hk.below hal).more hal.size) ((hv.below hal).more hal.size)
  rw [hr] at hck
  have HK1 := mkHid hck
  have HKS := mkHid ((hk.below hal).more hal.size)
  have HVS := mkHid ((hv.below hal).more hal.size)
  have HBX := mkHid hbx
  have HAL := mkHid hal
  have HWS := mkHid hsz
  have HXS := mkHid hxs
  have HXL := mkHid hxl
  have HFIT := mkHid hfit
  have HN1 := mkHid (show 0 < n by omega)
  clear hk hv hr hal hck hbx hxs hxl hfit hkv hkl hvl hk1 hk7 hsz
  go_enter Try.func28, Try.ntmps28
  go_wp2_with fail
  refine HK1.out.mono ?_
  rintro e w1 ⟨rfl, hb1⟩
  rw [show nodeE true = .nilIface from rfl]
  clear hW y0 y1 y2 HK1
  have HB1 := mkHid hb1
  have HK := mkHid (show ∀ Z, Below w1.heap.size w1 Z → Z.cell? ⟨w.heap.size, 0, none⟩ = some (.int .i64 lv) ∧ Z.cell? ⟨w.heap.size, 1, none⟩ = some (.slice a n c) ∧ Z.cell? ⟨w.heap.size, 2, none⟩ = some (.slice a' n c') from fun Z hZ => by
    have h1 := hb1.size
    exact HCE.out Z ((hZ.block _ (by rw [HWS.out] at h1; omega)).trans ((hb1.block _ (by rw [HWS.out]; omega)).trans HBX.out)))
  have hk1 := HK.out w1 (Below.refl _ _)
  clear hb1
  go_wp2_with fail
  go_region_held3 (fun Z => Z.cell? ⟨w.heap.size, 0, none⟩ = some (.int .i64 lv) ∧ Z.cell? ⟨w.heap.size, 1, none⟩ = some (.slice a n c) ∧ Z.cell? ⟨w.heap.size, 2, none⟩ = some (.slice a' n c')) (first | exact hk3 | exact hk2 | exact HK.out _ (by first | exact (Below.refl _ _).drew | exact (Below.refl _ _).drew.alloc (Nat.le_refl _) _ | exact ((Below.refl _ _).alloc (Nat.le_refl _) _).drew | exact HB2.out.alloc HB2.out.size _ | exact HB2.out)) (first
    | (go_at_call 46; refine (newPacker_at _).mono ?_; rintro e w2 ⟨g, rfl, hp2, hg2, hb2⟩; have HB2 := mkHid (below_next (show Below w1.heap.size w1 _ by first | exact (Below.refl _ _).drew | exact (Below.refl _ _).drew.alloc (Nat.le_refl _) _ | exact ((Below.refl _ _).alloc (Nat.le_refl _) _).drew) hb2); have hk2 := HK.out w2 HB2.out; have HP2 := mkHid hp2; have hg1 : w1.heap.size ≤ g := Nat.le_trans (show w1.heap.size ≤ _ by simp [drew_heap]) hg2; have hgl := hp2.lt; (first | (have HN := mkHid ((hb2.block w1.heap.size (by simp [drew_heap])).trans (heap_alloc_new _ _))) | skip); clear hp2 hb2 hg2)
    | (go_at_call 47; refine (pByteL_own g g none 0 0 [] false _ 2 2 [lv, (n : Int)] (0, 0) _ (by first | exact HP2.out | exact HP2.out.alloc _) (by first | exact heap_alloc_new _ _ | exact HN.out) rfl (by intro y hy; simp at hy; unfold I64; omega) (by omega)).mono ?_; rintro e w3 ⟨rfl, A3, C3, hp3, hpb3⟩; have HB3 := mkHid (show Below w1.heap.size w1 w3 by first | exact HB2.out.trans (hpb3.below.mono hg1) | exact (HB2.out.alloc HB2.out.size _).trans (hpb3.below.mono hg1)); have hk3 := HK.out w3 HB3.out; have HP3 := mkHid hp3; clear hp3 hpb3))
  all_goals
    have HP3' := mkHid (show PK w3 g g A3 2 C3 (nb 1 lv ++ nb 1 (n : Int)) false from by
      have h := HP3.out
      rw [List.nil_append, packs_two] at h
      have hf : (false || !([lv, (n : Int)] : List Int).all (fits 1)) = false := by simp [fits1 hlv0 (show lv < 256 by omega), fits1 (show (0 : Int) ≤ (n : Int) by omega) (show (n : Int) < 256 by omega)]
      rw [hf] at h
      exact h)
    have HK3 := mkHid ((HKS.out.below HB1.out).more HB1.out.size)
    have HV3 := mkHid ((HVS.out.below HB1.out).more HB1.out.size)
    have HK3' := mkHid ((HK3.out.below HB3.out).more HB3.out.size)
    have HV3' := mkHid ((HV3.out.below HB3.out).more HB3.out.size)
    clear HP3 HK3 HV3 HKS HVS
    go_wp2_with fail
    refine (pairs_any lv a a' n c c' ks vs w3 HK3'.out HV3'.out (by omega)).mono ?_
    rintro e w4 ⟨PA, pc, rfl, hop, hb4⟩
    rw [HXS.out] at hop ⊢
    rw [HXL.out] at hop ⊢
    have hes : ES w4 w4.heap.size PA n xs := ⟨SL.of_own hop, fun x hx => fits_ok (HFIT.out x hx)⟩
    obtain ⟨rb, cur, rfl, _, hrb1, hrb, _, _, _, _⟩ := own_block hop HN1.out
    have HES := mkHid hes
    have HRB := mkHid hrb
    have HKR := mkHid (show ∀ Z : World, Z.heap[rb]? = some (.cells (List.toArray cur) 52 (0, 0)) → ∀ q, q < n → ∃ x, xs[q]? = some x ∧ Z.cell? ⟨rb, q * 2, none⟩ = some (.int .i64 x.1) ∧ Z.cell? ⟨rb, q * 2 + 1, none⟩ = some (.int .i64 x.2) from fun Z hZ q hq => by
      obtain ⟨b, o, x, e, _, hx, _, h0, h1⟩ := HES.out.at_ hq
      injection e with e
      injection e with e1 e2
      subst e1
      subst e2
      rw [Nat.zero_add] at h0 h1
      exact ⟨x, hx, (World.cell?_of_block (w := w4) (hZ.trans HRB.out.symm)).trans h0, (World.cell?_of_block (w := w4) (hZ.trans HRB.out.symm)).trans h1⟩)
    have HP4 := mkHid (HP3'.out.below hb4 (Nat.le_refl _))
    have HB4 := mkHid (HB3.out.trans (hb4.mono HB3.out.size))
    clear hop hb4 hes hrb hk3 hk2
    go_wp2_with fail
    go_loopw [24] (fun i wr => ∃ (q : Nat) (A' : Option Addr) (C' : Nat), q ≤ n ∧ i = .int .i64 q ∧ Hid (PK wr g g A' (2 + 16 * q) C' (nb 1 lv ++ nb 1 (n : Int) ++ (xs.take q).flatMap pairB) false) ∧ Hid (Below w1.heap.size w1 wr) ∧ Hid (wr.heap[rb]? = some (.cells (List.toArray cur) 52 (0, 0)))) (fun i _ => n - (intOf i).toNat)
    case atStart => exact ⟨0, A3, C3, Nat.zero_le _, rfl, mkHid (by simpa using HP4.out), HB4, HRB⟩
    case round =>
      clear HP4 HB4
      obtain ⟨q, A', C', hq, rfl, HP, HB, HR⟩ := hrel
      by_cases hlt : q < n
      · obtain ⟨x, hx, d0, d1⟩ := HKR.out wr HR.out q hlt
        have hfx := HFIT.out x (List.mem_of_getElem? hx)
        have HI := mkHid (fits_ok hfx)
        have HF8 := mkHid (fits8 hfx)
        have HT := mkHid (show (xs.take (q + 1)).flatMap pairB = (xs.take q).flatMap pairB ++ pairB x by
          obtain ⟨hl, hx'⟩ := List.getElem?_eq_some_iff.1 hx
          rw [List.take_succ_eq_append_getElem hl, List.flatMap_append, hx']
          simp)
        obtain ⟨xk, xv⟩ := x
        simp only at d0 d1
        obtain ⟨V, hV⟩ : ∃ V, wr.alloc (.cells #[.int .i64 xk, .int .i64 xv] 52) = V := ⟨_, rfl⟩
        have HPV := mkHid (show PK V g g A' (2 + 16 * q) C' _ false by rw [← hV]; exact HP.out.alloc _)
        have hVv : V.heap[wr.heap.size]? = some (.cells #[.int .i64 xk, .int .i64 xv] 52 (0, 0)) := by rw [← hV]; exact heap_alloc_new _ _
        have HVB := mkHid (show Below w1.heap.size w1 V by rw [← hV]; exact HB.out.alloc HB.out.size _)
        have HVR := mkHid (show V.heap[rb]? = some (.cells (List.toArray cur) 52 (0, 0)) by rw [← hV]; exact (Below.heap_alloc _ _ _ (Array.getElem?_eq_some_iff.1 HR.out).1).trans HR.out)
        have hVs : V.heap.size = wr.heap.size + 1 := by rw [← hV]; simp
        have z0 : V.cell? ⟨wr.heap.size, 0, none⟩ = some (.int .i64 xk) := cell_of_row V _ 0 _ _ _ hVv
        have z1 : V.cell? ⟨wr.heap.size, 1, none⟩ = some (.int .i64 xv) := cell_of_row V _ 1 _ _ _ hVv
        clear hx hfx hVv
        have HVS := mkHid hVs
        clear hVs
        go_wp2_with fail
        clear hV d0 d1
        go_wp2_with fail
        refine (pLongL_own g g A' (2 + 16 * q) C' _ false _ 2 2 [xk, xv] (0, 0) _ (HPV.out.alloc _) (heap_alloc_new _ _) rfl (by intro y hy; simp at hy; have h1 := HI.out.1; have h2 := HI.out.2; rcases hy with rfl | rfl <;> assumption) (by omega)).mono ?_
        rintro e w5 ⟨rfl, A5, C5, hp5, hpb5⟩
        have hf8 : (false || !([xk, xv] : List Int).all (fits 8)) = false := by
          have h1 := HF8.out.1
          have h2 := HF8.out.2
          try simp only at h1 h2
          simp [h1, h2]
        rw [hf8] at hp5
        rw [packs_two] at hp5
        have HR5 := mkHid (hpb5.keepT (HPV.out.alloc _) rb _ _ _ (by decide) (by decide) ((Below.heap_alloc _ _ _ (Array.getElem?_eq_some_iff.1 HVR.out).1).trans HVR.out))
        have HB5 := mkHid ((HVB.out.alloc HVB.out.size _).trans (hpb5.below.mono hg1))
        have HP5 := mkHid hp5
        clear hp5 hpb5 hf8 z0 z1
        go_wp2_with fail
        go_roundw
        case rel =>
          refine ⟨q + 1, A5, C5, by omega, by go_num, mkHid ?_, HB5, HR5⟩
          have h5 := HP5.out
          rw [HT.out, ← List.append_assoc, show 2 + 16 * (q + 1) = 2 + 16 * q + 8 * 2 by omega]
          exact h5
        case measure => simp [intOf]; omega
      · obtain rfl : q = n := by omega
        have HBY := mkHid (show nb 1 lv ++ nb 1 (q : Int) ++ (xs.take q).flatMap pairB = nodeB lv xs from by
          rw [List.take_of_length_le (by rw [HXL.out]; exact Nat.le_refl _)]
          unfold nodeB
          rw [HXL.out, List.append_assoc])
        have HPQ := mkHid (show PK wr g g A' (2 + 16 * q) C' (nodeB lv xs) false by rw [← HBY.out]; exact HP.out)
        clear HP HBY
        go_wp2_with fail
        refine (bytes_ok_any g g A' (2 + 16 * q) C' _ wr HPQ.out (by omega)).mono ?_
        rintro e w5 ⟨A4, n4, C4, rfl, ho4, hb4⟩
        have hbs : BS w5 w5.heap.size A4 n4 (nodeB lv xs) := ⟨SL.of_own ho4, HPQ.out.ok⟩
        have hn4 : n4 = 2 + 16 * q := by rw [← hbs.len, nodeB_len, HXL.out]
        subst hn4
        have HBS := mkHid hbs
        have HB5 := mkHid (HB.out.trans (hb4.mono HB.out.size))
        clear ho4 hb4 hbs
        go_wp2_with fail
        refine (put_ok 2 A4 (2 + 16 * q) C4 (nodeB lv xs) w5 HBS.out (by omega) ⟨by omega, by omega⟩).mono ?_
        rintro e w6 ⟨A6, C6, rfl, ho6, hb6⟩
        have HO6 := mkHid ho6
        have HB6 := mkHid hb6
        clear ho6 hb6
        go_wp2_with fail
        go_ret2
        have hs5 := HAL.out.size
        have hs6 := HB1.out.size
        have hs7 := HB5.out.size
        exact ⟨A6, C6, rfl, own_less HO6.out (by omega), HAL.out.trans ((HB1.out.trans ((HB5.out.trans (HB6.out.mono HB5.out.size)).mono HB1.out.size)).mono HAL.out.size)⟩

end Go.Proofs.Ytilepjkdfbhgcaa
