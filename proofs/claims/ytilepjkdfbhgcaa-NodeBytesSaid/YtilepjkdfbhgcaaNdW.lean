/- The document's Find by contract. -/
import Derived.Test.YtilepjkdfbhgcaaNdV
namespace Go.Proofs.Ytilepjkdfbhgcaa
open Go.RowKit Go.Shelf

theorem find_hi {ks : List Int} (hs : ks.Pairwise (· < ·)) (key : Int) : (findOf ks key).1 = (lowOf ks (key + 1) : Int) - 1 ∧ (findOf ks key).2 = ks.contains key := by
  cases hc : ks.contains key with
  | true =>
    have hm : key ∈ ks := by simpa using hc
    obtain ⟨j, hj, he⟩ := List.getElem_of_mem hm
    have hx : ks[j]? = some key := by rw [List.getElem?_eq_getElem hj, he]
    rw [find_at hs hx]
    have h1 := low_spec ks hs (key + 1) j key hx
    have hle := low_le ks (key + 1)
    refine ⟨?_, rfl⟩
    show (j : Int) = _
    rcases Nat.lt_or_ge (j + 1) ks.length with h2 | h2
    · have h3 := low_spec ks hs (key + 1) (j + 1) _ (List.getElem?_eq_getElem h2)
      have h4 := rise_lt hs hx (List.getElem?_eq_getElem h2) (by omega)
      omega
    · omega
  | false =>
    rw [find_no hc]
    refine ⟨?_, rfl⟩
    show (lowOf ks key : Int) - 1 = (lowOf ks (key + 1) : Int) - 1
    have : lowOf ks key = lowOf ks (key + 1) := by
      unfold lowOf
      refine List.countP_congr fun x hx => ?_
      have hne : x ≠ key := fun e => by
        rw [e] at hx
        have : ks.contains key = true := by simpa using hx
        rw [hc] at this
        cases this
      simp
      omega
    rw [this]

set_option maxRecDepth 20000 in
set_option maxHeartbeats 4000000 in
theorem dfind_any (lv : Int) (a a' : Option Addr) (n m c c' : Nat) (ks : List Int) (key : Int) (w : World) (hk : IS w w.heap.size a n ks) (hs : ks.Pairwise (· < ·)) (hn : n ≤ 1000000) :
    Calls Try.prog 21 #[.agg #[.int .i64 lv, .slice a n c, .slice a' m c'], .int .i64 key] w fun e w' => e = .returned (.tuple #[.int .i64 (findOf ks key).1, .bool (findOf ks key).2]) ∧ Below w.heap.size w w' := by
  have HLK := mkHid hk.len
  have HSP := mkHid (low_spec ks hs (key + 1))
  have hH := low_le ks (key + 1)
  rw [HLK.out] at hH
  obtain ⟨hf1, hf2⟩ := find_hi hs key
  have HF1 := mkHid hf1
  have HF2 := mkHid hf2
  have HSR := mkHid hs
  obtain ⟨W, hW⟩ : ∃ W, w.alloc (.cells #[.int .i64 lv, .slice a n c, .slice a' m c'] 24) = W := ⟨_, rfl⟩
  have HAL := mkHid (show Below w.heap.size w W by rw [← hW]; exact below_al (Below.refl _ _) _)
  have HKS := mkHid ((hk.below HAL.out).more HAL.out.size)
  have hQ : W.heap[w.heap.size]? = some (.cells #[.int .i64 lv, .slice a n c, .slice a' m c'] 24) := by rw [← hW]; exact heap_alloc_new _ _
  have HK := mkHid (show ∀ Z, Below W.heap.size W Z → Z.cell? ⟨w.heap.size, 1, none⟩ = some (.slice a n c) from fun Z hZ =>
    cell_of_row Z w.heap.size 1 _ _ _ ((hZ.block _ (Array.getElem?_eq_some_iff.1 hQ).1).trans hQ))
  generalize lowOf ks (key + 1) = H at *
  clear hk hQ hs hf1 hf2
  go_enter Try.func21, Try.ntmps21
  go_wp2_with fail
  clear hW
  go_loopw [6, 7] (fun at_ i wr => ∃ k : Nat, k ≤ n ∧ i = .int .i64 k ∧ at_ = .int .i64 ((min k H : Nat) - 1 : Int) ∧ Hid (Below W.heap.size W wr)) (fun _ i _ => n - (intOf i).toNat)
  case atStart => exact ⟨0, Nat.zero_le _, rfl, by simp, mkHid (Below.refl _ _)⟩
  case round =>
    obtain ⟨k, hk, rfl, rfl, HB⟩ := hrel
    have k1 := HK.out wr HB.out
    by_cases hlt : k < n
    · obtain ⟨b, o, rfl, hb, hck, _, _⟩ := HKS.out.at_ hlt
      have d1 := (HB.out.cell (p := ⟨b, o + k, none⟩) hb).trans hck
      have hX := getD_some (l := ks) (k := k) (by rw [HLK.out]; exact hlt)
      have hsp := HSP.out k _ hX
      generalize ks[k]?.getD 0 = x at *
      clear hck hX
      by_cases hxk : x ≤ key
      · have hkH : k < H := by omega
        go_wp2_with fail
        go_roundw
        case measure => simp [intOf]; omega
        case rel => exact ⟨k + 1, by omega, by go_num, by rw [Nat.min_eq_left (by omega)]; congr 1; omega, HB⟩
      · have hkH : ¬ k < H := by omega
        have hxk2 : key < x := by omega
        go_wp2_with fail
        go_roundw
        case measure => simp [intOf]; omega
        case rel => exact ⟨k + 1, by omega, by go_num, by rw [Nat.min_eq_right (by omega), Nat.min_eq_right (by omega)], HB⟩
    · obtain rfl : k = n := by omega
      rw [Nat.min_eq_right hH]
      by_cases hH0 : H = 0
      · subst hH0
        have hcf : ks.contains key = false := by
          rw [Bool.eq_false_iff]
          intro hc
          obtain ⟨j, hj, he⟩ := List.getElem_of_mem (show key ∈ ks by simpa using hc)
          have := HSP.out j key (by rw [List.getElem?_eq_getElem hj, he])
          omega
        have hm1 : ((0 : Nat) : Int) - 1 = -1 := by omega
        rw [hm1]
        rw [hm1] at HF1
        rw [hcf] at HF2
        have hq0 := fun d os => cell_regrown k1 d os
        go_wp2_with fail
        refine wp_region_quiet_below (by kernel_rfl) (by kernel_rfl) ?_
        repeat (go_big_quiet_step (fail))
        refine wpQuiet_nil ?_
        intro wy hw'
        obtain ⟨p9, hw''⟩ := hw'
        have hB9 := below_regrown wr p9.d p9.os
        rw [← hw''] at hB9
        clear hw'' p9
        have HBZ := mkHid (below_next HB.out hB9)
        clear hB9 hq0 
        go_wp2_with fail
        go_ret2
        exact ⟨by rw [HF1.out, HF2.out]; rfl, HAL.out.trans (HBZ.out.mono HAL.out.size)⟩
      · obtain ⟨q, rfl⟩ : ∃ q, H = q + 1 := ⟨H - 1, by omega⟩
        have hq : ((q + 1 : Nat) : Int) - 1 = q := by omega
        rw [hq]
        rw [hq] at HF1
        obtain ⟨b, o, rfl, hb, hck, _, _⟩ := HKS.out.at_ (j := q) (by omega)
        have d1 := (HB.out.cell (p := ⟨b, o + q, none⟩) hb).trans hck
        have hX := getD_some (l := ks) (k := q) (by rw [HLK.out]; omega)
        have hcc : ks.contains key = (ks[q]?.getD 0 == key) := by
          by_cases he : ks[q]?.getD 0 = key
          · rw [he] at hX
            have : ks.contains key = true := by simpa using List.mem_of_getElem? hX
            rw [this, he]; simp
          · rw [show (ks[q]?.getD 0 == key) = false by simpa using he, Bool.eq_false_iff]
            intro hc
            obtain ⟨j, hj, hje⟩ := List.getElem_of_mem (show key ∈ ks by simpa using hc)
            have hj2 : ks[j]? = some key := by rw [List.getElem?_eq_getElem hj, hje]
            have h1 := HSP.out j key hj2
            rcases Nat.lt_trichotomy j q with h | h | h
            · have h2 := rise_lt HSR.out hj2 hX h
              have h3 := HSP.out q _ hX
              omega
            · subst h; rw [hX] at hj2; injection hj2 with hj2; exact he hj2
            · omega
        rw [hcc] at HF2
        generalize ks[q]?.getD 0 = x at *
        have hqn : (q : Int) < (k : Int) := by omega
        have hq0 : (0 : Int) ≤ (q : Int) := by omega
        clear hck hX hcc
        have hq0 := fun d os => cell_regrown k1 d os
        have hq1 := fun d os => cell_regrown d1 d os
        go_wp2_with fail
        refine wp_region_quiet_below (by kernel_rfl) (by kernel_rfl) ?_
        repeat (go_big_quiet_step (fail))
        refine wpQuiet_nil ?_
        intro wy hw'
        obtain ⟨p9, hw''⟩ := hw'
        have hB9 := below_regrown wr p9.d p9.os
        rw [← hw''] at hB9
        clear hw'' p9
        have HBZ := mkHid (below_next HB.out hB9)
        clear hB9 hq0 hq1 
        go_wp2_with fail
        go_ret2
        exact ⟨by rw [HF1.out, HF2.out]; rfl, HAL.out.trans (HBZ.out.mono HAL.out.size)⟩

end Go.Proofs.Ytilepjkdfbhgcaa
