/- The document's Put by contract. -/
import Derived.Test.YtilepjkdfbhgcaaNdY
namespace Go.Proofs.Ytilepjkdfbhgcaa
open Go.RowKit Go.Shelf


set_option maxRecDepth 20000 in
set_option maxHeartbeats 8000000 in
theorem dput_any (lv : Int) (a a' : Option Addr) (n c c' : Nat) (ks vs : List Int) (key val : Int) (w : World) (hk : IS w w.heap.size a n ks) (hv : IS w w.heap.size a' n vs) (hr : rightN lv ks vs = true) (hf : fitsP (key, val) = true) :
    Calls Try.prog 23 #[.agg #[.int .i64 lv, .slice a n c, .slice a' n c'], .int .i64 key, .int .i64 val] w (RetL w (cutOf lv (putL ks vs key val))) := by
  have HLK := mkHid hk.len
  have HLV := mkHid hv.len
  have HR := mkHid hr
  have HF := mkHid hf
  have HSR := mkHid (rightN_ok hr).2.2.2.2.2.1
  have hn7 : n ≤ 7 := by rw [← HLK.out]; exact (rightN_ok hr).2.2.2.2.1
  have HLZ := mkHid (show (pairsOf ks vs).length = n by rw [pairs_len (by rw [HLK.out, HLV.out]), HLK.out])
  have HSP := mkHid (low_spec ks HSR.out key)
  have HEND := mkHid (acc_end hr key val)
  have HLOW := mkHid (low_le ks key)
  have HLC := mkHid (fun h => low_lt HSR.out (x := key) h)
  have HAT := mkHid (fun (j : Nat) (h : ks[j]? = some key) => (low_at HSR.out h : lowOf ks key = j))
  obtain ⟨W1, hW1⟩ : ∃ W1, w.alloc (.cells #[.int .i64 lv, .slice a n c, .slice a' n c'] 24) = W1 := ⟨_, rfl⟩
  have hs1 : W1.heap.size = w.heap.size + 1 := by rw [← hW1]; simp
  have HAL := mkHid (show Below w.heap.size w W1 by rw [← hW1]; exact below_al (Below.refl _ _) _)
  have HKS := mkHid ((hk.below HAL.out).more HAL.out.size)
  have HVS := mkHid ((hv.below HAL.out).more HAL.out.size)
  have hQ : W1.heap[w.heap.size]? = some (.cells #[.int .i64 lv, .slice a n c, .slice a' n c'] 24) := by rw [← hW1]; exact heap_alloc_new _ _
  have HK := mkHid (show ∀ Z, Below W1.heap.size W1 Z → (Z.cell? ⟨w.heap.size, 0, none⟩ = some (.int .i64 lv) ∧ Z.cell? ⟨w.heap.size, 1, none⟩ = some (.slice a n c) ∧ Z.cell? ⟨w.heap.size, 2, none⟩ = some (.slice a' n c')) from fun Z hZ =>
    have h := (hZ.block _ (Array.getElem?_eq_some_iff.1 hQ).1).trans hQ
    ⟨cell_of_row Z w.heap.size 0 _ _ _ h, cell_of_row Z w.heap.size 1 _ _ _ h, cell_of_row Z w.heap.size 2 _ _ _ h⟩)
  obtain ⟨k0, k1, k2⟩ := HK.out W1 (Below.refl _ _)
  have HO0 := mkHid (show OUT 24 W1 (w.heap.size + 2) (w.heap.size + 1) lv none 0 0 none 0 0 [] [] (W1.alloc (.cells #[.int .i64 lv, .slice none 0 0, .slice none 0 0] 24)) from
    ⟨World.ownsRow_nil _ _ _ _, World.ownsRow_nil _ _ _ _, fun g h => (by cases h), (by have := heap_alloc_new W1 (.cells #[.int .i64 lv, .slice none 0 0, .slice none 0 0] 24); rwa [hs1] at this), below_al (Below.refl _ _) _, (by omega), (by omega)⟩)
  have HX1 := mkHid (show W1.heap.size = w.heap.size + 1 from hs1)
  have hlow0 := HLOW.out
  rw [HLK.out] at hlow0
  generalize hlowg : lowOf ks key = low at *
  have hcd : ∃ d : Nat, d = (if ks.contains key = true then 1 else 0) := ⟨_, rfl⟩
  obtain ⟨d, hd⟩ := hcd
  have HD := mkHid hd
  rw [← hd] at HEND
  have hd1 : d ≤ 1 := by rw [hd]; split <;> omega
  clear hk hv hr hf hQ hlowg hd
  go_enter Try.func23, Try.ntmps23
  go_wp2_with fail
  clear hW1 k0 k1 k2
  go_loopw [8, 9] (fun pf i wr => ∃ (k L : Nat) (A : Option Addr) (C : Nat) (A' : Option Addr) (C' : Nat), k ≤ n ∧ i = .int .i64 k ∧ pf = .bool (decide (low < k)) ∧ L ≤ 2 * k + 2 ∧ Hid ((accP (pairsOf ks vs) low d k (key, val)).length = L) ∧
    Hid (OUT 24 W1 (w.heap.size + 2) (w.heap.size + 1) lv A L C A' L C' (keysOf (accP (pairsOf ks vs) low d k (key, val))) (valsOf (accP (pairsOf ks vs) low d k (key, val))) wr)) (fun _ i _ => n - (intOf i).toNat)
  case atStart => exact ⟨0, 0, none, 0, none, 0, Nat.zero_le _, rfl, by simp, by omega, mkHid (by unfold accP; simp), by have h := HO0; unfold accP; simpa [keysOf, valsOf] using h⟩
  case round =>
    clear HO0
    obtain ⟨k, L, A, C, A', C', hk, rfl, rfl, hLk, HAL', HO⟩ := hrel
    obtain ⟨k0, k1, k2⟩ := HK.out wr HO.out.be
    have x0 := HO.out.c0
    have x1 := HO.out.c1
    have x2 := HO.out.c2
    by_cases hlt : k < n
    · obtain ⟨b, o, rfl, hb, hck, _, _⟩ := HKS.out.at_ hlt
      obtain ⟨b', o', rfl, hb', hcv, _, _⟩ := HVS.out.at_ hlt
      have hX := getD_some (l := ks) (k := k) (by rw [HLK.out]; exact hlt)
      have hY := getD_some (l := vs) (k := k) (by rw [HLV.out]; exact hlt)
      have HPK := mkHid (show (pairsOf ks vs)[k]? = some (ks[k]?.getD 0, vs[k]?.getD 0) by unfold pairsOf; rw [List.getElem?_zip_eq_some]; exact ⟨hX, hY⟩)
      have hsp := HSP.out k _ hX
      have HXX := mkHid hX
      generalize ks[k]?.getD 0 = x at *
      generalize vs[k]?.getD 0 = y at *
      have HE := mkHid (show ∀ Z, Below W1.heap.size W1 Z → (Z.cell? ⟨b, o + k, none⟩ = some (.int .i64 x) ∧ Z.cell? ⟨b', o' + k, none⟩ = some (.int .i64 y)) from fun Z hZ => ⟨(hZ.cell (p := ⟨b, o + k, none⟩) hb).trans hck, (hZ.cell (p := ⟨b', o' + k, none⟩) hb').trans hcv⟩)
      obtain ⟨d1, d2⟩ := HE.out wr HO.out.be
      clear hck hcv hX hY
      by_cases hkl : k < low
      · have hxk : x < key := by omega
        have hxk1 : ¬ key ≤ x := by omega
        have hxk2 : (x != key) = true := by simp; omega
        have hkl2 : decide (low < k) = false := decide_eq_false (by omega)
        have HACC := mkHid (acc_lo (d := d) (x := (key, val)) hkl HPK.out)
        go_wp2_with fail

        have xa1 : (wr.alloc (.cells #[.int .i64 x] 3)).cell? ⟨w.heap.size + 1, 1, none⟩ = some (.slice A L C) := (HO.out.next (below_al (Below.refl _ _) _)).c1
        go_region_law (refine step_key 51 57 rfl rfl HO.out (by first | exact below_al (Below.refl _ _).drew _ | exact (below_al (Below.refl _ _) _).drew | exact below_al (Below.refl _ _) _) (by omega) (heap_alloc_new _ _) (by omega) rfl rfl ?_; intro A3 C3 w3 ho c1 c2 f1 f2)
        all_goals
          clear xa1
          obtain ⟨V, hV⟩ : ∃ V, w3.setCell ⟨w.heap.size + 1, 1, none⟩ (.slice A3 (L + 1) C3) = V := ⟨_, rfl⟩
          rw [hV] at ho ⊢
          clear hV c1 c2 f1 f2
          obtain ⟨k0, k1, k2⟩ := HK.out V ho.out.be
          obtain ⟨d1, d2⟩ := HE.out V ho.out.be
          have x1 := ho.out.c1
          have x2 := ho.out.c2
          have xa2 : (V.alloc (.cells #[.int .i64 y] 3)).cell? ⟨w.heap.size + 1, 2, none⟩ = some (.slice A' L C') := (ho.out.next (below_al (Below.refl _ _) _)).c2
          go_wp2_with fail
          go_region_law (refine step_val 61 67 rfl rfl ho.out (by first | exact below_al (Below.refl _ _).drew _ | exact (below_al (Below.refl _ _) _).drew | exact below_al (Below.refl _ _) _) (by omega) (heap_alloc_new _ _) (by omega) rfl rfl ?_; intro A4 C4 w4 hp c1 c2 f1 f2)
          all_goals
            clear xa2
            obtain ⟨U, hU⟩ : ∃ U, w4.setCell ⟨w.heap.size + 1, 2, none⟩ (.slice A4 (L + 1) C4) = U := ⟨_, rfl⟩
            rw [hU] at hp ⊢
            clear hU c1 c2 f1 f2 ho
            go_wp2_with fail
            go_roundw
            case measure => simp [intOf]; omega
            case rel => exact ⟨k + 1, L + 1, A3, C3, A4, C4, by omega, by go_num, by rw [decide_eq_false (show ¬ low < k + 1 by omega)], by omega, mkHid (by rw [HACC.out]; simp only [List.length_append, List.length_cons, List.length_nil]; have := HAL'.out; omega), mkHid (by rw [HACC.out]; simp only [keys_app, vals_app]; exact hp.out)⟩
      · by_cases hkl2 : k = low
        · have hkx : key ≤ x := by omega
          have hkl3 : decide (low < k) = false := decide_eq_false (by omega)
          have HKL := mkHid hkl2
          by_cases hxe : x = key
          · have hcon : ks.contains key = true := by rw [← hxe]; simpa using List.mem_of_getElem? HXX.out
            have hdd : d = 1 := by rw [HD.out, if_pos hcon]
            have HACC := mkHid (show accP (pairsOf ks vs) low d (k + 1) (key, val) = accP (pairsOf ks vs) low d k (key, val) ++ [(key, val)] by rw [hdd, hkl2]; exact acc_at1 (by rw [HLZ.out]; omega))
            have hxe2 : (x != key) = false := by simp [hxe]
            clear hdd hcon hxe hkl2 hkl hsp
            go_wp2_with (first
              | (refine list_key 32 34 rfl rfl HO.out (below_al (Below.refl _ _) _) (by omega) (heap_alloc_new _ _) (by omega) rfl rfl ?_; intro A1 C1 w5 hq c1 c2 f1 f2)
              | (refine list_val 38 40 rfl rfl hq.out (below_al (Below.refl _ _) _) (by omega) (set_alloc_new w5 ⟨w.heap.size + 1, 1, none⟩ _ _) (by omega) rfl rfl ?_; intro A2 C2 w6 hs c3 c4 f3 f4; have hkk := HK.out _ hs.out.be; obtain ⟨k3, k4, k5⟩ := hkk; have hee := HE.out _ hs.out.be; obtain ⟨d3, d4⟩ := hee))
            obtain ⟨U, hU⟩ : ∃ U, w6.setCell ⟨w.heap.size + 1, 2, none⟩ (.slice A2 (L + 1) C2) = U := ⟨_, rfl⟩
            rw [hU] at hs ⊢
            clear hU c3 c4 f3 f4 c1 c2 f1 f2 hq k3 k4 k5 d3 d4
            go_roundw
            case measure => simp [intOf]; omega
            case rel => exact ⟨k + 1, L + 1, A1, C1, A2, C2, by omega, by go_num, by rw [decide_eq_true (show low < k + 1 by have := HKL.out; omega)], by omega, mkHid (by rw [HACC.out]; simp only [List.length_append, List.length_cons, List.length_nil]; have := HAL'.out; omega), mkHid (by rw [HACC.out]; simp only [keys_app, vals_app]; exact hs.out)⟩
          · have hcon : ks.contains key = false := by
              rw [Bool.eq_false_iff]
              intro hc
              obtain ⟨j, hj, he⟩ := List.getElem_of_mem (show key ∈ ks by simpa using hc)
              have hj2 : ks[j]? = some key := by rw [List.getElem?_eq_getElem hj, he]
              have h1 := HAT.out j hj2
              have h2 := HXX.out
              rw [hkl2, h1, hj2] at h2
              injection h2 with h2
              exact hxe h2.symm
            have hdd : d = 0 := by rw [HD.out, hcon]; rfl
            have HACC := mkHid (show accP (pairsOf ks vs) low d (k + 1) (key, val) = accP (pairsOf ks vs) low d k (key, val) ++ [(key, val)] ++ [(x, y)] by rw [hdd, hkl2]; exact acc_at0 (by rw [← hkl2]; exact HPK.out))
            have hxe2 : (x != key) = true := by simpa using hxe
            clear hdd hcon hxe hkl2 hkl hsp
            go_wp2_with (first
              | (refine list_key 32 34 rfl rfl HO.out (below_al (Below.refl _ _) _) (by omega) (heap_alloc_new _ _) (by omega) rfl rfl ?_; intro A1 C1 w5 hq c1 c2 f1 f2)
              | (refine list_val 38 40 rfl rfl hq.out (below_al (Below.refl _ _) _) (by omega) (set_alloc_new w5 ⟨w.heap.size + 1, 1, none⟩ _ _) (by omega) rfl rfl ?_; intro A2 C2 w6 hs c3 c4 f3 f4; have hkk := HK.out _ hs.out.be; obtain ⟨k3, k4, k5⟩ := hkk; have hee := HE.out _ hs.out.be; obtain ⟨d3, d4⟩ := hee))
            obtain ⟨V0, hV0⟩ : ∃ V0, w6.setCell ⟨w.heap.size + 1, 2, none⟩ (.slice A2 (L + 1) C2) = V0 := ⟨_, rfl⟩
            rw [hV0] at hs k3 k4 k5 d3 d4 ⊢
            have x5 := hs.out.c1
            have x6 := hs.out.c2
            clear hV0 c3 c4 f3 f4 c1 c2 f1 f2 hq x1 x2 k0 k1 k2 d1 d2
            have xa1 : (V0.alloc (.cells #[.int .i64 x] 3)).cell? ⟨w.heap.size + 1, 1, none⟩ = some (.slice A1 (L + 1) C1) := (hs.out.next (below_al (Below.refl _ _) _)).c1
            go_region_law (refine step_key 51 57 rfl rfl hs.out (by first | exact below_al (Below.refl _ _).drew _ | exact (below_al (Below.refl _ _) _).drew | exact below_al (Below.refl _ _) _) (by omega) (heap_alloc_new _ _) (by omega) rfl rfl ?_; intro A3 C3 w3 ho c1 c2 f1 f2)
            all_goals
              clear xa1
              obtain ⟨V, hV⟩ : ∃ V, w3.setCell ⟨w.heap.size + 1, 1, none⟩ (.slice A3 ((L + 1) + 1) C3) = V := ⟨_, rfl⟩
              rw [hV] at ho ⊢
              clear hV c1 c2 f1 f2
              obtain ⟨k0, k1, k2⟩ := HK.out V ho.out.be
              obtain ⟨d1, d2⟩ := HE.out V ho.out.be
              have x1 := ho.out.c1
              have x2 := ho.out.c2
              have xa2 : (V.alloc (.cells #[.int .i64 y] 3)).cell? ⟨w.heap.size + 1, 2, none⟩ = some (.slice A2 (L + 1) C2) := (ho.out.next (below_al (Below.refl _ _) _)).c2
              go_wp2_with fail
              go_region_law (refine step_val 61 67 rfl rfl ho.out (by first | exact below_al (Below.refl _ _).drew _ | exact (below_al (Below.refl _ _) _).drew | exact below_al (Below.refl _ _) _) (by omega) (heap_alloc_new _ _) (by omega) rfl rfl ?_; intro A4 C4 w4 hp c1 c2 f1 f2)
              all_goals
                clear xa2
                obtain ⟨U, hU⟩ : ∃ U, w4.setCell ⟨w.heap.size + 1, 2, none⟩ (.slice A4 ((L + 1) + 1) C4) = U := ⟨_, rfl⟩
                rw [hU] at hp ⊢
                clear hU c1 c2 f1 f2 ho
                go_wp2_with fail
                go_roundw
                case measure => simp [intOf]; omega
                case rel => exact ⟨k + 1, (L + 1) + 1, A3, C3, A4, C4, by omega, by go_num, by rw [decide_eq_true (show low < k + 1 by have := HKL.out; omega)], by omega, mkHid (by rw [HACC.out]; simp only [List.length_append, List.length_cons, List.length_nil]; have := HAL'.out; omega), mkHid (by rw [HACC.out]; simp only [keys_app, vals_app]; exact hp.out)⟩
        · have hxk : key < x := by
            have h1 : ¬ x < key := by omega
            have h2 : x ≠ key := fun e => by
              have h3 := HXX.out
              rw [e] at h3
              have := HAT.out k h3
              omega
            omega
          have hxk2 : (x != key) = true := by simp; omega
          have hkl3 : decide (low < k) = true := decide_eq_true (by omega)
          have HACC := mkHid (acc_hi (x := (key, val)) hd1 (show low < k by omega) HPK.out)
          go_wp2_with fail
          have xa1 : (wr.alloc (.cells #[.int .i64 x] 3)).cell? ⟨w.heap.size + 1, 1, none⟩ = some (.slice A L C) := (HO.out.next (below_al (Below.refl _ _) _)).c1
          go_region_law (refine step_key 51 57 rfl rfl HO.out (by first | exact below_al (Below.refl _ _).drew _ | exact (below_al (Below.refl _ _) _).drew | exact below_al (Below.refl _ _) _) (by omega) (heap_alloc_new _ _) (by omega) rfl rfl ?_; intro A3 C3 w3 ho c1 c2 f1 f2)
          all_goals
            clear xa1
            obtain ⟨V, hV⟩ : ∃ V, w3.setCell ⟨w.heap.size + 1, 1, none⟩ (.slice A3 (L + 1) C3) = V := ⟨_, rfl⟩
            rw [hV] at ho ⊢
            clear hV c1 c2 f1 f2
            obtain ⟨k0, k1, k2⟩ := HK.out V ho.out.be
            obtain ⟨d1, d2⟩ := HE.out V ho.out.be
            have x1 := ho.out.c1
            have x2 := ho.out.c2
            have xa2 : (V.alloc (.cells #[.int .i64 y] 3)).cell? ⟨w.heap.size + 1, 2, none⟩ = some (.slice A' L C') := (ho.out.next (below_al (Below.refl _ _) _)).c2
            go_wp2_with fail
            go_region_law (refine step_val 61 67 rfl rfl ho.out (by first | exact below_al (Below.refl _ _).drew _ | exact (below_al (Below.refl _ _) _).drew | exact below_al (Below.refl _ _) _) (by omega) (heap_alloc_new _ _) (by omega) rfl rfl ?_; intro A4 C4 w4 hp c1 c2 f1 f2)
            all_goals
              clear xa2
              obtain ⟨U, hU⟩ : ∃ U, w4.setCell ⟨w.heap.size + 1, 2, none⟩ (.slice A4 (L + 1) C4) = U := ⟨_, rfl⟩
              rw [hU] at hp ⊢
              clear hU c1 c2 f1 f2 ho
              go_wp2_with fail
              go_roundw
              case measure => simp [intOf]; omega
              case rel => exact ⟨k + 1, L + 1, A3, C3, A4, C4, by omega, by go_num, by rw [decide_eq_true (show low < k + 1 by omega)], by omega, mkHid (by rw [HACC.out]; simp only [List.length_append, List.length_cons, List.length_nil]; have := HAL'.out; omega), mkHid (by rw [HACC.out]; simp only [keys_app, vals_app]; exact hp.out)⟩
    · obtain rfl : k = n := by omega
      have hnl := HLK.out
      have HENDD := HEND
      rw [hnl] at HENDD
      have HOK := mkHid (show ∀ x ∈ putL ks vs key val, EnOk x from fun x hx => fits_ok (put_ok_mem HR.out HF.out x hx))
      have HIK := mkHid (show ∀ x ∈ keysOf (putL ks vs key val), I64 x from fun x hx => by obtain ⟨q, hq, rfl⟩ := List.mem_map.1 hx; exact (HOK.out q hq).1)
      have HIV := mkHid (show ∀ x ∈ valsOf (putL ks vs key val), I64 x from fun x hx => by obtain ⟨q, hq, rfl⟩ := List.mem_map.1 hx; exact (HOK.out q hq).2)
      by_cases hlk : low < k
      · have hlk2 : decide (low < k) = true := decide_eq_true hlk
        rw [if_pos hlk] at HENDD
        have he := HENDD.out
        rw [← he] at HO
        clear he hlk hnl
        go_wp2_with fail
        refine (dcut_any lv A A' L C C' (putL ks vs key val) wr (HO.out.isk HIK.out) (HO.out.isv HIV.out) ⟨(own_cap HO.out.kr).1, (own_cap HO.out.kr).2, by omega⟩ ⟨(own_cap HO.out.vr).1, (own_cap HO.out.vr).2, by omega⟩).mono ?_
        rintro e w7 ⟨A7, C7, rfl, hle, hns, hb⟩
        have HLE := mkHid hle
        have HNS := mkHid hns
        have HB7 := mkHid (below_next (HAL.out.trans (HO.out.be.mono HAL.out.size)) hb)
        clear hle hns hb
        go_wp2_with fail
        go_ret
        exact ⟨A7, C7, rfl, HLE.out, HNS.out, HB7.out⟩
      · have hlk2 : decide (low < k) = false := decide_eq_false hlk
        rw [if_neg hlk] at HENDD
        have HKE := mkHid (show keysOf (putL ks vs key val) = keysOf (accP (pairsOf ks vs) low d k (key, val)) ++ [key] by rw [HENDD.out, keys_app]; rfl)
        have HVE := mkHid (show valsOf (putL ks vs key val) = valsOf (accP (pairsOf ks vs) low d k (key, val)) ++ [val] by rw [HENDD.out, vals_app]; rfl)
        clear hlk hnl
        go_wp2_with (first
          | (refine list_key 73 75 rfl rfl HO.out (below_al (Below.refl _ _) _) (by omega) (heap_alloc_new _ _) (by omega) rfl rfl ?_; intro A1 C1 w5 hq c1 c2 f1 f2)
          | (refine list_val 79 81 rfl rfl hq.out (below_al (Below.refl _ _) _) (by omega) (set_alloc_new w5 ⟨w.heap.size + 1, 1, none⟩ _ _) (by omega) rfl rfl ?_; intro A2 C2 w6 hs c3 c4 f3 f4; have x3 := hs.out.c0; have x4 := hs.out.c1; have x5 := hs.out.c2))
        rw [← HKE.out, ← HVE.out] at hs
        refine (dcut_any lv A1 A2 (L + 1) C1 C2 (putL ks vs key val) _ (hs.out.isk HIK.out) (hs.out.isv HIV.out) ⟨(own_cap hs.out.kr).1, (own_cap hs.out.kr).2, by omega⟩ ⟨(own_cap hs.out.vr).1, (own_cap hs.out.vr).2, by omega⟩).mono ?_
        rintro e w7 ⟨A7, C7, rfl, hle, hns, hb⟩
        have HLE := mkHid hle
        have HNS := mkHid hns
        have HB7 := mkHid (below_next (HAL.out.trans (hs.out.be.mono HAL.out.size)) hb)
        clear hle hns hb
        go_wp2_with fail
        go_ret
        exact ⟨A7, C7, rfl, HLE.out, HNS.out, HB7.out⟩

end Go.Proofs.Ytilepjkdfbhgcaa
