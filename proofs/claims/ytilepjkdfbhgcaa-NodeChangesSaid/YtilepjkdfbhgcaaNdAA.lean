/- The document's Without by contract. -/
import Derived.Test.YtilepjkdfbhgcaaNdY
namespace Go.Proofs.Ytilepjkdfbhgcaa
open Go.RowKit Go.Shelf

/-- What the document's Without has gathered behind i rounds. -/
def accW (P kv : List (Int × Int)) (at_ i : Nat) : List (Int × Int) := if i ≤ at_ then P.take i else P.take at_ ++ kv ++ (P.take i).drop (at_ + 1)
theorem accW_lo {P kv : List (Int × Int)} {at_ i : Nat} {y : Int × Int} (hi : i < at_) (hy : P[i]? = some y) : accW P kv at_ (i + 1) = accW P kv at_ i ++ [y] := by
  unfold accW
  rw [if_pos (by omega), if_pos (by omega), List.take_add_one, hy]
  rfl
theorem accW_at {P kv : List (Int × Int)} {at_ : Nat} : accW P kv at_ (at_ + 1) = accW P kv at_ at_ ++ kv := by
  unfold accW
  rw [if_neg (by omega), if_pos (Nat.le_refl _), List.drop_of_length_le (by rw [List.length_take]; omega), List.append_nil]
theorem accW_hi {P kv : List (Int × Int)} {at_ i : Nat} {y : Int × Int} (hi : at_ < i) (hy : P[i]? = some y) : accW P kv at_ (i + 1) = accW P kv at_ i ++ [y] := by
  have hl := (List.getElem?_eq_some_iff.1 hy).1
  unfold accW
  rw [if_neg (by omega), if_neg (by omega), List.take_add_one, hy, List.drop_append, List.length_take, show at_ + 1 - min i P.length = 0 by omega]
  simp
theorem accW_mem {P kv : List (Int × Int)} {at_ i : Nat} {x : Int × Int} (h : x ∈ accW P kv at_ i) : x ∈ P ∨ x ∈ kv := by
  unfold accW at h
  split at h
  · exact .inl (List.mem_of_mem_take h)
  · rcases List.mem_append.1 h with h | h
    · rcases List.mem_append.1 h with h | h
      · exact .inl (List.mem_of_mem_take h)
      · exact .inr h
    · exact .inl (List.mem_of_mem_take (List.mem_of_mem_drop h))

set_option maxRecDepth 20000 in
set_option maxHeartbeats 8000000 in
theorem without_any (lv : Int) (a a' : Option Addr) (n c c' : Nat) (P kv : List (Int × Int)) (at_ : Nat) (ak av : Option Addr) (m ck cv : Nat) (w : World) (hk : IS w w.heap.size a n (keysOf P)) (hv : IS w w.heap.size a' n (valsOf P)) (hkk : IS w w.heap.size ak m (keysOf kv)) (hkv : IS w w.heap.size av m (valsOf kv)) (hat : at_ < n) (hn : n ≤ 200) (hm : m ≤ 200) :
    Calls Try.prog 24 #[.agg #[.int .i64 lv, .slice a n c, .slice a' n c'], .int .i64 at_, .slice ak m ck, .slice av m cv] w (RetN w lv (keysOf (P.take at_ ++ kv ++ P.drop (at_ + 1))) (valsOf (P.take at_ ++ kv ++ P.drop (at_ + 1)))) := by
  have HLZ := mkHid (show P.length = n by rw [← keys_len, hk.len])
  have HLM := mkHid (show kv.length = m by rw [← keys_len, hkk.len])
  obtain ⟨W1, hW1⟩ : ∃ W1, (w.alloc (.cells #[.int .i64 lv, .slice a n c, .slice a' n c'] 24)).alloc (.cells #[.int .i64 0, .slice none 0 0, .slice none 0 0] 24) = W1 := ⟨_, rfl⟩
  have hs1 : W1.heap.size = w.heap.size + 1 + 1 := by rw [← hW1]; simp
  have HAL := mkHid (show Below w.heap.size w W1 by rw [← hW1]; exact below_al (below_al (Below.refl _ _) _) _)
  have HKS := mkHid ((hk.below HAL.out).more HAL.out.size)
  have HVS := mkHid ((hv.below HAL.out).more HAL.out.size)
  have HKK := mkHid ((hkk.below HAL.out).more HAL.out.size)
  have HKV := mkHid ((hkv.below HAL.out).more HAL.out.size)
  have hQ : W1.heap[w.heap.size]? = some (.cells #[.int .i64 lv, .slice a n c, .slice a' n c'] 24) := by rw [← hW1]; exact (Below.heap_alloc _ _ _ (by simp)).trans (heap_alloc_new _ _)
  have hR : W1.heap[w.heap.size + 1]? = some (.cells #[.int .i64 0, .slice none 0 0, .slice none 0 0] 24) := by rw [← hW1]; exact heap_two _ _ _
  have HK := mkHid (show ∀ Z, Below W1.heap.size W1 Z → (Z.cell? ⟨w.heap.size, 0, none⟩ = some (.int .i64 lv) ∧ Z.cell? ⟨w.heap.size, 1, none⟩ = some (.slice a n c) ∧ Z.cell? ⟨w.heap.size, 2, none⟩ = some (.slice a' n c')) from fun Z hZ =>
    have h := (hZ.block _ (Array.getElem?_eq_some_iff.1 hQ).1).trans hQ
    ⟨cell_of_row Z w.heap.size 0 _ _ _ h, cell_of_row Z w.heap.size 1 _ _ _ h, cell_of_row Z w.heap.size 2 _ _ _ h⟩)
  have HKR := mkHid (show ∀ Z, Below W1.heap.size W1 Z → Z.heap[w.heap.size + 1]? = some (.cells #[.int .i64 0, .slice none 0 0, .slice none 0 0] 24) from fun Z hZ => (hZ.block _ (Array.getElem?_eq_some_iff.1 hR).1).trans hR)
  obtain ⟨k0, k1, k2⟩ := HK.out W1 (Below.refl _ _)
  have HO0 := mkHid (show OUT 24 W1 (w.heap.size + 3) (w.heap.size + 1 + 1) lv none 0 0 none 0 0 [] [] (W1.alloc (.cells #[.int .i64 lv, .slice none 0 0, .slice none 0 0] 24)) from
    ⟨World.ownsRow_nil _ _ _ _, World.ownsRow_nil _ _ _ _, fun g h => (by cases h), (by have := heap_alloc_new W1 (.cells #[.int .i64 lv, .slice none 0 0, .slice none 0 0] 24); rwa [hs1] at this), below_al (Below.refl _ _) _, (by omega), (by omega)⟩)
  have HS1 := mkHid hs1
  clear hk hv hkk hkv hQ hR
  go_enter Try.func24, Try.ntmps24
  go_wp2_with fail
  clear hW1 k0 k1 k2 hs1
  go_loopw [10] (fun i wr => ∃ (k L : Nat) (A : Option Addr) (C : Nat) (A' : Option Addr) (C' : Nat), k ≤ n ∧ i = .int .i64 k ∧ L ≤ k + 200 ∧ Hid ((accW P kv at_ k).length = L) ∧
    Hid (OUT 24 W1 (w.heap.size + 3) (w.heap.size + 1 + 1) lv A L C A' L C' (keysOf (accW P kv at_ k)) (valsOf (accW P kv at_ k)) wr)) (fun i _ => n - (intOf i).toNat)
  case atStart => exact ⟨0, 0, none, 0, none, 0, Nat.zero_le _, rfl, by omega, mkHid (by unfold accW; simp), by have h := HO0; unfold accW; simpa [keysOf, valsOf] using h⟩
  case round =>
    clear HO0
    obtain ⟨k, L, A, C, A', C', hk, rfl, hLk, HAL', HO⟩ := hrel
    obtain ⟨k0, k1, k2⟩ := HK.out wr HO.out.be
    have x0 := HO.out.c0
    have x1 := HO.out.c1
    have x2 := HO.out.c2
    by_cases hlt : k < n
    · obtain ⟨b, o, rfl, hb, hck, _, _⟩ := HKS.out.at_ hlt
      obtain ⟨b', o', rfl, hb', hcv, _, _⟩ := HVS.out.at_ hlt
      have HPK := mkHid (show P[k]? = some ((keysOf P)[k]?.getD 0, (valsOf P)[k]?.getD 0) by rw [keys_get, vals_get, List.getElem?_eq_getElem (by rw [HLZ.out]; exact hlt)]; rfl)
      generalize (keysOf P)[k]?.getD 0 = x at *
      generalize (valsOf P)[k]?.getD 0 = y at *
      have HE := mkHid (show ∀ Z, Below W1.heap.size W1 Z → (Z.cell? ⟨b, o + k, none⟩ = some (.int .i64 x) ∧ Z.cell? ⟨b', o' + k, none⟩ = some (.int .i64 y)) from fun Z hZ => ⟨(hZ.cell (p := ⟨b, o + k, none⟩) hb).trans hck, (hZ.cell (p := ⟨b', o' + k, none⟩) hb').trans hcv⟩)
      obtain ⟨d1, d2⟩ := HE.out wr HO.out.be
      clear hck hcv
      by_cases hka : k = at_
      · subst hka
        have hne : ((k : Int) != (k : Int)) = false := by simp
        have HACC := mkHid (accW_at (P := P) (kv := kv) (at_ := k))
        go_wp2_with (first
          | (refine list_keys 59 60 rfl rfl HO.out (Below.refl _ _) (by omega) (HKK.out.below HO.out.be) (by omega) rfl rfl ?_; intro A1 C1 w5 hq c1 c2 f1 f2)
          | (refine list_vals 64 65 rfl rfl hq.out (Below.refl _ _) (by omega) (HKV.out.below hq.out.be) (by omega) rfl rfl ?_; intro A2 C2 w6 hs c3 c4 f3 f4))
        obtain ⟨U, hU⟩ : ∃ U, w6.setCell ⟨w.heap.size + 1 + 1, 2, none⟩ (.slice A2 (L + m) C2) = U := ⟨_, rfl⟩
        rw [hU] at hs ⊢
        clear hU c3 c4 f3 f4 c1 c2 f1 f2 hq
        go_roundw
        case measure => simp [intOf]; omega
        case rel => exact ⟨k + 1, L + m, A1, C1, A2, C2, by omega, by go_num, (by have := HAL'.out; have h9 := HLZ.out; unfold accW at this; rw [if_pos (Nat.le_refl _), List.length_take] at this; omega), mkHid (by rw [HACC.out, List.length_append, HAL'.out, HLM.out]), mkHid (by rw [HACC.out, keys_app, vals_app]; exact hs.out)⟩
      · by_cases hlo : k < at_
        · have HACC := mkHid (accW_lo (kv := kv) hlo HPK.out)
          have hne : ((k : Int) != (at_ : Int)) = true := by simp; omega
          have hne2 : ((k : Int) == (at_ : Int)) = false := by simp; omega
          clear hka
          go_wp2_with fail
          have xa1 : (wr.alloc (.cells #[.int .i64 x] 3)).cell? ⟨w.heap.size + 1 + 1, 1, none⟩ = some (.slice A L C) := (HO.out.next (below_al (Below.refl _ _) _)).c1
          go_region_law (refine step_key 36 42 rfl rfl HO.out (by first | exact below_al (Below.refl _ _).drew _ | exact (below_al (Below.refl _ _) _).drew | exact below_al (Below.refl _ _) _) (by omega) (heap_alloc_new _ _) (by omega) rfl rfl ?_; intro A3 C3 w3 ho c1 c2 f1 f2)
          all_goals
            clear xa1
            obtain ⟨V, hV⟩ : ∃ V, w3.setCell ⟨w.heap.size + 1 + 1, 1, none⟩ (.slice A3 (L + 1) C3) = V := ⟨_, rfl⟩
            rw [hV] at ho ⊢
            clear hV c1 c2 f1 f2
            obtain ⟨k0, k1, k2⟩ := HK.out V ho.out.be
            obtain ⟨d1, d2⟩ := HE.out V ho.out.be
            have x1 := ho.out.c1
            have x2 := ho.out.c2
            have xa2 : (V.alloc (.cells #[.int .i64 y] 3)).cell? ⟨w.heap.size + 1 + 1, 2, none⟩ = some (.slice A' L C') := (ho.out.next (below_al (Below.refl _ _) _)).c2
            go_wp2_with fail
            go_region_law (refine step_val 46 52 rfl rfl ho.out (by first | exact below_al (Below.refl _ _).drew _ | exact (below_al (Below.refl _ _) _).drew | exact below_al (Below.refl _ _) _) (by omega) (heap_alloc_new _ _) (by omega) rfl rfl ?_; intro A4 C4 w4 hp c1 c2 f1 f2)
            all_goals
              clear xa2
              obtain ⟨U, hU⟩ : ∃ U, w4.setCell ⟨w.heap.size + 1 + 1, 2, none⟩ (.slice A4 (L + 1) C4) = U := ⟨_, rfl⟩
              rw [hU] at hp ⊢
              clear hU c1 c2 f1 f2 ho
              go_wp2_with fail
              go_roundw
              case measure => simp [intOf]; omega
              case rel => exact ⟨k + 1, L + 1, A3, C3, A4, C4, by omega, by go_num, by omega, mkHid (by rw [HACC.out, List.length_append, HAL'.out]; rfl), mkHid (by rw [HACC.out, keys_app, vals_app]; exact hp.out)⟩
        · have HACC := mkHid (accW_hi (kv := kv) (show at_ < k by omega) HPK.out)
          have hne : ((k : Int) != (at_ : Int)) = true := by simp; omega
          have hne2 : ((k : Int) == (at_ : Int)) = false := by simp; omega
          clear hka
          go_wp2_with fail
          have xa1 : (wr.alloc (.cells #[.int .i64 x] 3)).cell? ⟨w.heap.size + 1 + 1, 1, none⟩ = some (.slice A L C) := (HO.out.next (below_al (Below.refl _ _) _)).c1
          go_region_law (refine step_key 36 42 rfl rfl HO.out (by first | exact below_al (Below.refl _ _).drew _ | exact (below_al (Below.refl _ _) _).drew | exact below_al (Below.refl _ _) _) (by omega) (heap_alloc_new _ _) (by omega) rfl rfl ?_; intro A3 C3 w3 ho c1 c2 f1 f2)
          all_goals
            clear xa1
            obtain ⟨V, hV⟩ : ∃ V, w3.setCell ⟨w.heap.size + 1 + 1, 1, none⟩ (.slice A3 (L + 1) C3) = V := ⟨_, rfl⟩
            rw [hV] at ho ⊢
            clear hV c1 c2 f1 f2
            obtain ⟨k0, k1, k2⟩ := HK.out V ho.out.be
            obtain ⟨d1, d2⟩ := HE.out V ho.out.be
            have x1 := ho.out.c1
            have x2 := ho.out.c2
            have xa2 : (V.alloc (.cells #[.int .i64 y] 3)).cell? ⟨w.heap.size + 1 + 1, 2, none⟩ = some (.slice A' L C') := (ho.out.next (below_al (Below.refl _ _) _)).c2
            go_wp2_with fail
            go_region_law (refine step_val 46 52 rfl rfl ho.out (by first | exact below_al (Below.refl _ _).drew _ | exact (below_al (Below.refl _ _) _).drew | exact below_al (Below.refl _ _) _) (by omega) (heap_alloc_new _ _) (by omega) rfl rfl ?_; intro A4 C4 w4 hp c1 c2 f1 f2)
            all_goals
              clear xa2
              obtain ⟨U, hU⟩ : ∃ U, w4.setCell ⟨w.heap.size + 1 + 1, 2, none⟩ (.slice A4 (L + 1) C4) = U := ⟨_, rfl⟩
              rw [hU] at hp ⊢
              clear hU c1 c2 f1 f2 ho
              go_wp2_with fail
              go_roundw
              case measure => simp [intOf]; omega
              case rel => exact ⟨k + 1, L + 1, A3, C3, A4, C4, by omega, by go_num, by omega, mkHid (by rw [HACC.out, List.length_append, HAL'.out]; rfl), mkHid (by rw [HACC.out, keys_app, vals_app]; exact hp.out)⟩
    · obtain rfl : k = n := by omega
      have hk0 : ((k : Int) == 0) = false := by simp; omega
      have HACC := mkHid (show accW P kv at_ k = P.take at_ ++ kv ++ P.drop (at_ + 1) by unfold accW; rw [if_neg (by omega), List.take_of_length_le (i := k) (by rw [HLZ.out]; omega)])
      have HIK := mkHid (show ∀ x ∈ keysOf (accW P kv at_ k), I64 x from fun x hx => by
        obtain ⟨q, hq, rfl⟩ := List.mem_map.1 hx
        rcases accW_mem hq with h | h
        · exact HKS.out.2 _ (List.mem_map.2 ⟨q, h, rfl⟩)
        · exact HKK.out.2 _ (List.mem_map.2 ⟨q, h, rfl⟩))
      have HIV := mkHid (show ∀ x ∈ valsOf (accW P kv at_ k), I64 x from fun x hx => by
        obtain ⟨q, hq, rfl⟩ := List.mem_map.1 hx
        rcases accW_mem hq with h | h
        · exact HVS.out.2 _ (List.mem_map.2 ⟨q, h, rfl⟩)
        · exact HKV.out.2 _ (List.mem_map.2 ⟨q, h, rfl⟩))
      have hR := HKR.out wr HO.out.be
      have y0 := cell_of_row wr (w.heap.size + 1) 0 _ _ _ hR
      have y1 := cell_of_row wr (w.heap.size + 1) 1 _ _ _ hR
      have y2 := cell_of_row wr (w.heap.size + 1) 2 _ _ _ hR
      have f0 := frozen_of_row wr (w.heap.size + 1) 0 _ _ hR
      have f1 := frozen_of_row wr (w.heap.size + 1) 1 _ _ hR
      have f2 := frozen_of_row wr (w.heap.size + 1) 2 _ _ hR
      simp at y0 y1 y2
      clear hR
      go_wp2_with fail
      refine bodyPost_ret (v := .agg #[.int .i64 lv, .slice A L C, .slice A' L C']) (by simp [results, Try.results24, go_sem, y0, y1, y2]) rfl ?_
      rw [← HACC.out]
      have hHO := HO.out
      refine ⟨_, rfl, NdIn.set3 (hHO.isk HIK.out) (hHO.isv HIV.out) ⟨(own_cap hHO.kr).1, (own_cap hHO.kr).2, by omega⟩ ⟨(own_cap hHO.vr).1, (own_cap hHO.vr).2, by omega⟩ (fun ad h => by have := own_from hHO.kr ad h; omega) (fun ad h => by have := own_from hHO.vr ad h; omega), NdNew.mk' (fun ad h => by have := own_from hHO.kr ad h; omega) (fun ad h => by have := own_from hHO.vr ad h; omega), ?_⟩
      have hb := HAL.out.trans (hHO.be.mono HAL.out.size)
      exact ((hb.setCell (p := ⟨w.heap.size + 1, 0, none⟩) (by show w.heap.size ≤ w.heap.size + 1; omega) _).setCell (p := ⟨w.heap.size + 1, 1, none⟩) (by show w.heap.size ≤ w.heap.size + 1; omega) _).setCell (p := ⟨w.heap.size + 1, 2, none⟩) (by show w.heap.size ≤ w.heap.size + 1; omega) _

end Go.Proofs.Ytilepjkdfbhgcaa
